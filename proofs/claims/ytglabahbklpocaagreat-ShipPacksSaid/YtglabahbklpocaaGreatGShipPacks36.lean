/- ship.Bytes: what may not be, and messages that bear points; ship.Check of kinds that are none. A reader that is read on, beside known blocks. The law's few: at most 30 points, with short names. -/
import Derived.Test.YtglabahbklpocaaGreatGShipPacks27
import Derived.Test.YtglabahbklpocaaGreatGShipPacks21
import Derived.Test.YtglabahbklpocaaGreatGShipPacks35
import Derived.Test.YtglabahbklpocaaGreatGShipPacks8
import Derived.Test.YtglabahbklpocaaGreatGShipPacks7
import Derived.Test.YtglabahbklpocaaGreatGShipPacks23
import Derived.Test.YtglabahbklpocaaGreatGShipPacks9
import Derived.Test.YtglabahbklpocaaGreatGShipPacks16
namespace Go.Proofs.YtglabahbklpocaaGreat
section
open Go.RowKit Go.Deep
set_option maxRecDepth 100000
set_option linter.unusedVariables false
set_option linter.unusedSimpArgs false
attribute [local go_sem ↓] Go.wp_at_zero Go.wp_at_succ
set_option maxHeartbeats 4000000 in
theorem bytesE_any (x : Wi) (w : World) (CH : ∀ wx, Below w.heap.size w wx → Calls Tryz.prog 16 #[.agg x.arr] wx fun e w' => e = .returned (.int .i64 1) ∧ Below wx.heap.size wx w') : Calls Tryz.prog 12 #[.agg x.arr] w fun e w' => e = .returned (.tuple #[.string ⟨#[]⟩, .int .i64 1]) ∧ Below w.heap.size w w' := by
  obtain ⟨kind, id, series, from_, to_, np, nr, vec, time⟩ := x
  unfold Wi.arr at *
  simp only at CH ⊢
  go_enter Tryz.func12, Tryz.ntmps12
  go_upto_region 1 with fail
  generalize hw1 : World.alloc _ _ = w1
  have KK := Lib.hid (show Kn w.heap.size w [(w.heap.size, wiO ⟨kind, id, series, from_, to_, np, nr, vec, time⟩)] w1 by rw [← hw1]; exact (Kn.start w).new' rfl (wiO ⟨kind, id, series, from_, to_, np, nr, vec, time⟩))
  clear hw1
  generalize hg : w.heap.size = g at *
  go_wp2_with (first
    | refine wpList_load_row rfl 33 _ rfl g rfl 33 (Wi.arr ⟨kind, id, series, from_, to_, np, nr, vec, time⟩) (0, 0) _ KK.out.hd Tryz.underlying33 rfl (by kernel_rfl) ?_
    | (go_at_call 16; refine (CH _ KK.out.b).mono ?_; rintro e w2 ⟨rfl, dn⟩; have KK := Lib.hid (KK.out.below dn); clear dn))
  refine bodyPost_ret (v := .tuple #[.string ⟨#[]⟩, .int .i64 1]) (by simp [results, Tryz.results12, go_sem, *]) rfl ⟨rfl, by first | exact KK.out.b | (rw [hg]; exact KK.out.b)⟩
set_option maxHeartbeats 8000000 in
theorem bytes1_any (x : Wi) (ps : List Pt) (w : World) (hk : x.kind = 1) (hf : i64' x.from_) (ht : i64' x.to_) (hp : SlP w x.np ps) (hid : idV x.id = true) (hno : x.none true false false false false = true) (hn : x.np.n ≤ 200) (hok : okPts ps) :
    Calls Tryz.prog 12 #[.agg x.arr] w fun e w' => e = .returned (.tuple #[.string (vput 1 ++ vput x.id ++ vtext ⟨(ptsL ps).toArray⟩), .int .i64 0]) ∧ Below w.heap.size w w' := by
  have HPP := Lib.hid hp
  have hlen : ps.length = x.np.n := hp.r.1
  have CH := fun wx (hb : Below w.heap.size w wx) => check1_any x ps wx hk hf ht (HPP.out.below hb)
  rw [if_pos ⟨hno, decide_eq_true (by omega), okB_true hok, hid⟩] at CH
  have MT := fun wx (hb : Below w.heap.size w wx) => points_any x.np.a x.np.n x.np.c ps wx ((HPP.out.below hb).r) HPP.out.wf HPP.out.nc HPP.out.cb
  have e0 : ptsV ps = (⟨(ptsL ps).toArray⟩, 0) := by unfold ptsV; rw [if_pos hok, if_pos (by omega)]
  rw [e0] at MT
  simp only at MT
  have hid : 0 ≤ x.id ∧ x.id ≤ 1099511627776 := by unfold idV at hid; simpa using hid
  have hms : (⟨(ptsL ps).toArray⟩ : ByteArray).size ≤ 100000 := by
    show (ptsL ps).length ≤ _
    have := ptsL_le hok
    omega
  have TX := fun wx => text_any (⟨(ptsL ps).toArray⟩ : ByteArray) wx (by omega)
  have htx : (vtext (⟨(ptsL ps).toArray⟩ : ByteArray)).size ≤ 200000 := by
    have h1 : (vtext (⟨(ptsL ps).toArray⟩ : ByteArray)).data.toList.length = (tb ⟨(ptsL ps).toArray⟩).length := by rw [vtext_data]
    have h2 : (tb (⟨(ptsL ps).toArray⟩ : ByteArray)).length ≤ 200000 := by
      unfold tb
      rw [List.length_append]
      have h3 := putB_le ((⟨(ptsL ps).toArray⟩ : ByteArray).size : Int)
      have h4 : (⟨(ptsL ps).toArray⟩ : ByteArray).data.toList.length = (⟨(ptsL ps).toArray⟩ : ByteArray).size := by simp; rfl
      omega
    have h5 : (vtext (⟨(ptsL ps).toArray⟩ : ByteArray)).data.toList.length = (vtext (⟨(ptsL ps).toArray⟩ : ByteArray)).size := by simp
    omega
  generalize (⟨(ptsL ps).toArray⟩ : ByteArray) = P at *
  generalize vtext P = M at *
  clear hf ht hno hp HPP e0 hok hlen
  obtain ⟨kind, id, series, from_, to_, np, nr, vec, time⟩ := x
  simp only at hk
  subst hk
  unfold Wi.arr at *
  simp only at CH MT hid ⊢
  go_enter Tryz.func12, Tryz.ntmps12
  go_upto_region 1 with fail
  generalize hw1 : World.alloc _ _ = w1
  have KK := Lib.hid (show Kn w.heap.size w [(w.heap.size, wiO ⟨1, id, series, from_, to_, np, nr, vec, time⟩)] w1 by rw [← hw1]; exact (Kn.start w).new' rfl (wiO ⟨1, id, series, from_, to_, np, nr, vec, time⟩))
  clear hw1
  generalize hg : w.heap.size = g at *
  go_upto_region 4 with (first
    | refine wpList_load_row rfl 33 _ rfl g rfl 33 (Wi.arr ⟨1, id, series, from_, to_, np, nr, vec, time⟩) (0, 0) _ KK.out.hd Tryz.underlying33 rfl (by kernel_rfl) ?_
    | (go_at_call 16; refine (CH _ KK.out.b).mono ?_; rintro e w2 ⟨rfl, dn⟩; have KK := Lib.hid (KK.out.below dn); clear dn))
  have z1 := vput_le 1
  have z2 := vput_le id
  have n1 : ¬ (9223372036854775807 < (vput 1).size + (vput id).size) := by omega
  refine wp_region_held_drew (S := (fun wx => wx.cell? ⟨g, 0, none⟩ = some (.int .i64 1) ∧ wx.cell? ⟨g, 1, none⟩ = some (.int .i64 id))) (by kernel_rfl) ?_ (fun hHeld => ?_)
  focus ((try dsimp only); (try (exact wh_held KK.out rfl)); done)
  (refine wpAnyH_take (i := 0) (oi := ⟨some 17, Go.Op.fieldAddr 33 (.tmp 1) 0, 0, _, _, none⟩) (v := ?_) rfl (by kernel_rfl) (by kernel_rfl) (by kernel_rfl) (fun _ _ _ h => h) (Or.inl ⟨by rfl, ?_⟩) (by assumption) ?_; rotate_left; (focus (intro w hSw; ((try dsimp only at hSw); go_simp; try with_reducible rfl))); (try simp only [Act.put, sA, sZ, sS]))
  (refine wpAnyH_take (i := 1) (oi := ⟨some 18, Go.Op.load 3 (.tmp 17), 3, _, _, none⟩) (v := ?_) rfl (by kernel_rfl) (by kernel_rfl) (by kernel_rfl) (fun _ _ _ h => h) (Or.inl ⟨by rfl, ?_⟩) (by assumption) ?_; rotate_left; (focus (intro w hSw; ((try dsimp only at hSw); go_simp; try with_reducible rfl))); (try simp only [Act.put, sA, sZ, sS]))
  (refine wpAnyH_take (i := 3) (oi := ⟨some 20, Go.Op.fieldAddr 33 (.tmp 1) 1, 0, _, _, none⟩) (v := ?_) rfl (by kernel_rfl) (by kernel_rfl) (by kernel_rfl) (fun _ _ _ h => h) (Or.inl ⟨by rfl, ?_⟩) (by assumption) ?_; rotate_left; (focus (intro w hSw; ((try dsimp only at hSw); go_simp; try with_reducible rfl))); (try simp only [Act.put, sA, sZ, sS]))
  (refine wpAnyH_take (i := 4) (oi := ⟨some 21, Go.Op.load 3 (.tmp 20), 3, _, _, none⟩) (v := ?_) rfl (by kernel_rfl) (by kernel_rfl) (by kernel_rfl) (fun _ _ _ h => h) (Or.inl ⟨by rfl, ?_⟩) (by assumption) ?_; rotate_left; (focus (intro w hSw; ((try dsimp only at hSw); go_simp; try with_reducible rfl))); (try simp only [Act.put, sA, sZ, sS]))
  (refine wpAnyH_ready (rs := [2]) (by kernel_rfl) (by simp) ?_; refine AllReadyH.cons (o := ⟨some 19, Go.Op.call { callee := Go.Callee.value (.func 38), args := #[.tmp 18], argTypes := #[3] }, 9, _, _, none⟩) rfl (fun K hK => ?_) AllReadyH.nil; go_simp; ((go_at_call 38; refine (hnum_any _ _ (by first | decide | omega) (by first | decide | omega)).mono ?_; rintro e wn ⟨rfl, dn⟩; have KK := Lib.hid (Kn.later KK.out dn rfl rfl rfl rfl))); go_wp2_with fail; refine hK.out _ _ ?_ (fun hHeld => ?_); (focus ((try dsimp only); (try (exact wh_held KK.out rfl)); done)); clear hK; (try simp only [Act.put, sA, sZ, sS]))
  (refine wpAnyH_ready (rs := [5]) (by kernel_rfl) (by simp) ?_; refine AllReadyH.cons (o := ⟨some 22, Go.Op.call { callee := Go.Callee.value (.func 38), args := #[.tmp 21], argTypes := #[3] }, 9, _, _, none⟩) rfl (fun K hK => ?_) AllReadyH.nil; go_simp; ((go_at_call 38; refine (hnum_any _ _ (by first | decide | omega) (by first | decide | omega)).mono ?_; rintro e wn ⟨rfl, dn⟩; have KK := Lib.hid (Kn.later KK.out dn rfl rfl rfl rfl))); go_wp2_with fail; refine hK.out _ _ ?_ (fun hHeld => ?_); (focus ((try dsimp only); (try (exact wh_held KK.out rfl)); done)); clear hK; (try simp only [Act.put, sA, sZ, sS]))
  (refine wpAnyH_take (i := 6) (oi := ⟨some 23, Go.Op.binOp Go.BinOp.add 9 (.tmp 19) (.tmp 22) 9, 9, _, _, none⟩) (v := ?_) rfl (by kernel_rfl) (by kernel_rfl) (by kernel_rfl) (fun _ _ _ h => h) (Or.inl ⟨by rfl, ?_⟩) (by assumption) ?_; rotate_left; (focus (intro w hSw; ((try dsimp only at hSw); go_simp; try with_reducible rfl))); (try simp only [Act.put, sA, sZ, sS]))
  (refine wpAnyH_take (i := 7) (oi := ⟨some 5, Go.Op.assign (.tmp 23), 9, _, _, none⟩) (v := ?_) rfl (by kernel_rfl) (by kernel_rfl) (by kernel_rfl) (fun _ _ _ h => h) (Or.inl ⟨by rfl, ?_⟩) (by assumption) ?_; rotate_left; (focus (intro w hSw; ((try dsimp only at hSw); go_simp; try with_reducible rfl))); (try simp only [Act.put, sA, sZ, sS]))
  refine wpAnyH_done (by kernel_rfl) ?_ _
  clear hHeld
  have c0 := (wi_cells KK.out.hd rfl).c0
  have c5 := (wi_cells KK.out.hd rfl).c5
  simp only at c0 c5
  have n2 : ¬ (9223372036854775807 < (vput 1 ++ vput id).size + M.size) := by rw [ByteArray.size_append]; omega
  have n3 : ¬ (9223372036854775807 < (vput 1).size + (vput id).size + M.size) := by omega
  go_wp2_with (first
    | (go_at_call 39; refine (MT _ KK.out.b).mono ?_; rintro e w5 ⟨rfl, dn⟩; have KK := Lib.hid (KK.out.below dn); clear dn)
    | (go_at_call 40; refine (TX _).mono ?_; rintro e w6 ⟨rfl, dn⟩; have KK := Lib.hid (KK.out.below dn); clear dn))
  refine bodyPost_ret (v := .tuple #[.string (vput 1 ++ vput id ++ M), .int .i64 0]) (by simp [results, Tryz.results12, go_sem, *]) rfl ⟨rfl, by first | exact KK.out.b | (rw [hg]; exact KK.out.b)⟩
end
end Go.Proofs.YtglabahbklpocaaGreat
namespace Go.Proofs.YtglabahbklpocaaGreat
section
open Go.RowKit
set_option maxRecDepth 100000
set_option linter.unusedVariables false
set_option linter.unusedSimpArgs false
/-- Block g is the reader R; the listed blocks are as listed; all else that was there at w0 is as it was. -/
structure Kr (T : TypeId) (g : Nat) (w0 : World) (l : List (Nat × Obj)) (R : Rdr) (w : World) : Prop where
  rd : RdrAt T w g R
  at_ : ∀ p ∈ l, p.1 ≠ g ∧ w.heap[p.1]? = some p.2
  b : But g w0 w
section
variable {T : TypeId} {g : Nat} {w0 w w' wd : World} {l m : List (Nat × Obj)} {R R' : Rdr}
theorem Kr.start (h : RdrAt T w g R) : Kr T g w [] R w := ⟨h, by simp, But.refl g w⟩
theorem Kr.ne (h : Kr T g w0 l R w) {p : Nat × Obj} (hp : p ∈ l) : p.1 ≠ g := (h.at_ p hp).1
theorem Kr.lt (h : Kr T g w0 l R w) : ∀ p ∈ l, p.1 < w.heap.size := fun p hp => heap_lt (h.at_ p hp).2
theorem Kr.hd {k : Nat} {o : Obj} (h : Kr T g w0 ((k, o) :: l) R w) : w.heap[k]? = some o := (h.at_ (k, o) (List.mem_cons_self ..)).2
theorem Kr.sub (h : Kr T g w0 l R w) (hm : ∀ p ∈ m, p ∈ l) : Kr T g w0 m R w := ⟨h.rd, fun p hp => h.at_ p (hm p hp), h.b⟩
theorem Kr.put (h : Kr T g w0 l R w) {k : Nat} {o : Obj} (e : w.heap[k]? = some o) (hk : k ≠ g) : Kr T g w0 ((k, o) :: l) R w := ⟨h.rd, fun p hp => by
  rcases List.mem_cons.1 hp with rfl | hp
  · exact ⟨hk, e⟩
  · exact h.at_ p hp, h.b⟩
theorem Kr.step (h : Kr T g w0 l R w) (h1 : RdrAt T w' g R') (d : But g w w') : Kr T g w0 l R' w' :=
  ⟨h1, fun p hp => ⟨(h.at_ p hp).1, (d.block p.1 (h.lt p hp) (by simpa using fun e => (h.at_ p hp).1 e)).trans (h.at_ p hp).2⟩, h.b.trans d⟩
theorem Kr.below (h : Kr T g w0 l R w) (d : Below w.heap.size w w') : Kr T g w0 l R w' := h.step (h.rd.below d) (But.of_below d)
theorem Kr.same (h : Kr T g w0 l R w) (e1 : wd.heap = w.heap) (e2 : wd.os = w.os) (e3 : wd.tape = w.tape) (e4 : wd.output = w.output) : Kr T g w0 l R wd :=
  h.step (by unfold RdrAt; rw [e1]; exact h.rd) ⟨e2, e3, e4, by rw [e1]; exact Nat.le_refl _, fun i hi hne => by rw [e1]⟩
theorem Kr.later (h : Kr T g w0 l R w) (d : Below wd.heap.size wd w') (e1 : wd.heap = w.heap) (e2 : wd.os = w.os) (e3 : wd.tape = w.tape) (e4 : wd.output = w.output) : Kr T g w0 l R w' := (h.same e1 e2 e3 e4).below d
theorem Kr.new (h : Kr T g w0 l R w) (o : Obj) : Kr T g w0 ((w.heap.size, o) :: l) R (w.alloc o) := by
  have k := h.below ((Below.refl w.heap.size w).alloc (Nat.le_refl _) o)
  have hlt := h.rd.lt
  refine ⟨k.rd, fun p hp => ?_, k.b⟩
  rcases List.mem_cons.1 hp with rfl | hp
  · exact ⟨by simp only; omega, heap_alloc_new w o⟩
  · exact k.at_ p hp
theorem Kr.new' (h : Kr T g w0 l R w) {n : Nat} (hn : w.heap.size = n) (o : Obj) : Kr T g w0 ((n, o) :: l) R (w.alloc o) := by subst hn; exact h.new o
theorem Kr.cell (h : Kr T g w0 l R w) {k : Nat} {o : Obj} (hm : (k, o) ∈ l) {cs : Array Value} {U : TypeId} {fr : Nat × Nat} {j : Nat} {v : Value} (hv : cs[j]? = some v) (ho : o = .cells cs U fr := by rfl) : w.cell? ⟨k, j, none⟩ = some v := by
  have := (h.at_ _ hm).2
  subst ho
  simp only [World.cell?, this]
  exact hv
theorem Kr.fz (h : Kr T g w0 l R w) {k : Nat} {o : Obj} (hm : (k, o) ∈ l) (j : Nat) {cs : Array Value} {U : TypeId} (ho : o = .cells cs U (0, 0) := by rfl) : w.frozen? ⟨k, j, none⟩ = false := by
  have := (h.at_ _ hm).2
  subst ho
  simp [World.frozen?, this]
/-- A block of one's own, the first of the list, is changed. -/
theorem Kr.but {k : Nat} {o o' : Obj} (h : Kr T g w0 ((k, o) :: l) R w) (hl : Apart k l) (hk : w0.heap.size ≤ k) (d : But k w w') (e : w'.heap[k]? = some o') : Kr T g w0 ((k, o') :: l) R w' := by
  have hkg := (h.at_ (k, o) (List.mem_cons_self ..)).1
  refine ⟨(d.block g h.rd.lt (by simpa using fun e => hkg e.symm)).trans h.rd, fun p hp => ?_, ⟨d.os.trans h.b.os, d.tape.trans h.b.tape, d.output.trans h.b.output, Nat.le_trans h.b.size d.size, fun i hi hne => ?_⟩⟩
  · rcases List.mem_cons.1 hp with rfl | hp
    · exact ⟨hkg, e⟩
    · have h1 := h.at_ p (List.mem_cons_of_mem _ hp)
      exact ⟨h1.1, (d.block p.1 (heap_lt h1.2) (by simpa using fun e => hl.all p hp e)).trans h1.2⟩
  · exact (d.block i (Nat.lt_of_lt_of_le hi h.b.size) (by simp; omega)).trans (h.b.block i hi hne)
theorem Kr.setCell {k : Nat} {o : Obj} (h : Kr T g w0 ((k, o) :: l) R w) (hl : Apart k l) (hk : w0.heap.size ≤ k) (j : Nat) (v : Value) (o' : Obj) {cs : Array Value} {U : TypeId} (ho' : o' = .cells (cs.setIfInBounds j v) U (0, 0)) (ho : o = .cells cs U (0, 0) := by rfl) : Kr T g w0 ((k, o') :: l) R (w.setCell ⟨k, j, none⟩ v) := by
  subst ho ho'
  exact Kr.but h hl hk (But.set k j w v) (heap_setCell_same w k j cs U v h.hd)
theorem Kr.setRow {k : Nat} {o : Obj} (h : Kr T g w0 ((k, o) :: l) R w) (hl : Apart k l) (hk : w0.heap.size ≤ k) (o' : Obj) {cs cs' : Array Value} {U : TypeId} (ho' : o' = .cells cs' U (0, 0) := by rfl) (ho : o = .cells cs U (0, 0) := by rfl) : Kr T g w0 ((k, o') :: l) R (w.setRow k cs') := by
  subst ho ho'
  exact Kr.but h hl hk ⟨rfl, rfl, rfl, by simp [World.setRow], fun i hi hne => setRow_other w k i cs' (by simpa using hne)⟩ (setRow_heap w k _ _ _ _ h.hd)
theorem Kr.own (h : Kr T g w0 l R w) (d : Below w0.heap.size w w') (hg : g < w0.heap.size) (hl : ∀ p ∈ l, p.1 < w0.heap.size) : Kr T g w0 l R w' :=
  ⟨(d.block g hg).trans h.rd, fun p hp => ⟨(h.at_ p hp).1, (d.block p.1 (hl p hp)).trans (h.at_ p hp).2⟩, ⟨d.os.trans h.b.os, d.tape.trans h.b.tape, d.output.trans h.b.output, Nat.le_trans h.b.size d.size, fun i hi hne => (d.block i hi).trans (h.b.block i hi hne)⟩⟩
end
end
end Go.Proofs.YtglabahbklpocaaGreat
namespace Go.Proofs.YtglabahbklpocaaGreat
section
open Go.RowKit Go.Deep
set_option maxRecDepth 100000
set_option linter.unusedVariables false
set_option linter.unusedSimpArgs false
attribute [local go_sem ↓] Go.wp_at_zero Go.wp_at_succ
end
end Go.Proofs.YtglabahbklpocaaGreat
