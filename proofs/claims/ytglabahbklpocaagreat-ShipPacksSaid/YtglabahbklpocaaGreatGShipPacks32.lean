/- The reference's log in memory: what is held, how it lasts; New, Know. -/
import Derived.Test.YtglabahbklpocaaGreatGShipPacks30
import Derived.Test.YtglabahbklpocaaGreatGShipPacks31
namespace Go.Proofs.YtglabahbklpocaaGreat
section
open Go.RowKit Go.Deep
set_option maxRecDepth 100000
set_option linter.unusedVariables false
set_option linter.unusedSimpArgs false
attribute [local go_sem ↓] Go.wp_at_zero Go.wp_at_succ
def rlogO (m : Int) (b a : Sl) (c : Int) : Obj := .cells #[.int .i64 m, .slice b.a b.n b.c, .slice a.a a.n a.c, .int .i64 c] 119 (0, 0)
structure RLogC (w : World) (F : List Nat) (gL : Nat) (b a : Sl) (rs : List RecA) (m : LogM) : Prop where
  hb : SlR w b m.bs
  ha : OffE RecA.cs 60 9 w a.a a.n a.c rs
  gl : ∀ p, a.a = some p → p.block = gL
  ok : ∀ x ∈ rs, x.ok w
  xs : m.xs = rs.map RecA.m
  fb : farA F b
  fr : ∀ x ∈ rs, farA F x.d ∧ x.d.n ≤ 8
  sm : a.n ≤ 400
  bn : b.n ≤ 8
  mo : m.most ≤ 400 ∧ 0 ≤ m.most
  ck : i64' m.clock
  ki : m.ks = kAll m.bs m.xs
/-- Block g is the reference's log that holds m; its records lie in block gL, if there is one; what they lead to, and the base, lie in no block of F. -/
def RLogAt (w : World) (F : List Nat) (g gL : Nat) (m : LogM) : Prop := ∃ b a rs, w.heap[g]? = some (rlogO m.most b a m.clock) ∧ RLogC w F gL b a rs m
/-- Blocks of C alone were changed. -/
structure ButC (C : List Nat) (w w' : World) : Prop where
  os : w'.os = w.os
  tape : w'.tape = w.tape
  output : w'.output = w.output
  size : w.heap.size ≤ w'.heap.size
  block : ∀ i, i < w.heap.size → i ∉ C → w'.heap[i]? = w.heap[i]?
theorem ButC.of_below {w w' : World} (C : List Nat) (h : Below w.heap.size w w') : ButC C w w' := ⟨h.os, h.tape, h.output, h.size, fun i hi _ => h.block i hi⟩
theorem ButC.of_but {w w' : World} {C : List Nat} {g : Nat} (h : But g w w') (hg : g ∈ C) : ButC C w w' := ⟨h.os, h.tape, h.output, h.size, fun i hi hn => h.block i hi (by simp; exact fun e => hn (e ▸ hg))⟩
theorem ButC.refl (C : List Nat) (w : World) : ButC C w w := ⟨rfl, rfl, rfl, Nat.le_refl _, fun _ _ _ => rfl⟩
theorem ButC.trans {C : List Nat} {w w' w'' : World} (h : ButC C w w') (d : ButC C w' w'') : ButC C w w'' := ⟨d.os.trans h.os, d.tape.trans h.tape, d.output.trans h.output, Nat.le_trans h.size d.size, fun i hi hn => (d.block i (Nat.lt_of_lt_of_le hi h.size) hn).trans (h.block i hi hn)⟩
theorem ButC.below {B : Nat} {C : List Nat} {w0 w w' : World} (h0 : Below B w0 w) (h : ButC C w w') (hB : B ≤ w.heap.size) (hC : ∀ k ∈ C, B ≤ k) : Below B w0 w' := ⟨h.os.trans h0.os, h.tape.trans h0.tape, h.output.trans h0.output, Nat.le_trans h0.size h.size, fun i hi => (h.block i (by omega) (fun hm => by have := hC i hm; omega)).trans (h0.block i hi)⟩
theorem ButC.mono {C D : List Nat} {w w' : World} (h : ButC C w w') (hs : ∀ k ∈ C, k ∈ D) : ButC D w w' := ⟨h.os, h.tape, h.output, h.size, fun i hi hn => h.block i hi (fun hm => hn (hs i hm))⟩
theorem farA.sub {F G : List Nat} {d : Sl} (h : farA F d) (hs : ∀ k ∈ G, k ∈ F) : farA G d := h.imp_right fun h p hp hm => h p hp (hs _ hm)
theorem SlR.butC {C F : List Nat} {w w' : World} {d : Sl} {xs : List Int} (h : SlR w d xs) (hf : farA F d) (k : ButC C w w') (hs : ∀ k ∈ C, k ∈ F) : SlR w' d xs := h.keep (hf.sub hs) k.size k.block
theorem RLogC.keep {w w' : World} {F C : List Nat} {gL : Nat} {b a : Sl} {rs : List RecA} {m : LogM} (h : RLogC w F gL b a rs m) (k : ButC C w w') (hs : ∀ k ∈ C, k ∈ F) (hg : gL ∉ C) : RLogC w' F gL b a rs m :=
  ⟨h.hb.butC h.fb k hs, h.ha.keep (fun p hp => k.block p.block (h.ha.lt p hp) (by rw [h.gl p hp]; exact hg)), h.gl, fun x hx => ⟨(h.ok x hx).wf, (h.ok x hx).sl.butC (h.fr x hx).1 k hs⟩, h.xs, h.fb, h.fr, h.sm, h.bn, h.mo, h.ck, h.ki⟩
theorem RLogAt.keep {w w' : World} {F C : List Nat} {g gL : Nat} {m : LogM} (h : RLogAt w F g gL m) (k : ButC C w w') (hs : ∀ k ∈ C, k ∈ F) (hg : g ∉ C) (hl : gL ∉ C) : RLogAt w' F g gL m := by
  obtain ⟨b, a, rs, h1, h2⟩ := h
  exact ⟨b, a, rs, (k.block g (heap_lt h1) hg).trans h1, h2.keep k hs hl⟩
theorem RLogC.below {w w' : World} {F : List Nat} {gL : Nat} {b a : Sl} {rs : List RecA} {m : LogM} (h : RLogC w F gL b a rs m) (hb : Below w.heap.size w w') : RLogC w' F gL b a rs m := h.keep (ButC.of_below [] hb) (by simp) (by simp)
theorem RLogAt.below {w w' : World} {F : List Nat} {g gL : Nat} {m : LogM} (h : RLogAt w F g gL m) (hb : Below w.heap.size w w') : RLogAt w' F g gL m := h.keep (ButC.of_below [] hb) (by simp) (by simp) (by simp)
/-- Blocks that are new, or known already, may be named among those in which no data lies. -/
theorem RLogAt.grow {w : World} {F : List Nat} {g gL : Nat} {m : LogM} (h : RLogAt w F g gL m) {k : Nat} (hk : k ∈ F ∨ w.heap.size ≤ k) : RLogAt w (k :: F) g gL m := by
  obtain ⟨b, a, rs, h1, h2⟩ := h
  rcases hk with hk | hk
  · have hs : ∀ j ∈ k :: F, j ∈ F := fun j hj => by
      rcases List.mem_cons.1 hj with rfl | hj
      · exact hk
      · exact hj
    exact ⟨b, a, rs, h1, h2.hb, h2.ha, h2.gl, h2.ok, h2.xs, h2.fb.sub hs, fun x hx => ⟨(h2.fr x hx).1.sub hs, (h2.fr x hx).2⟩, h2.sm, h2.bn, h2.mo, h2.ck, h2.ki⟩
  · exact ⟨b, a, rs, h1, h2.hb, h2.ha, h2.gl, h2.ok, h2.xs, h2.fb.grow h2.hb.lt hk, fun x hx => ⟨(h2.fr x hx).1.grow (h2.ok x hx).sl.lt hk, (h2.fr x hx).2⟩, h2.sm, h2.bn, h2.mo, h2.ck, h2.ki⟩
theorem LogAt.keepC {w w' : World} {F C : List Nat} {g : Nat} {m : LogM} (h : LogAt w F g m) (k : ButC C w w') (hs : ∀ k ∈ C, k ∈ F) (hg : g ∉ C) : LogAt w' F g m := by
  obtain ⟨b, k', a, rs, h1, h2⟩ := h
  exact ⟨b, k', a, rs, (k.block g (heap_lt h1) hg).trans h1, h2.keep k.size (fun i hi hn => k.block i hi (fun hm => hn (hs i hm)))⟩
theorem LogAt.grow2 {w : World} {F : List Nat} {g : Nat} {m : LogM} (h : LogAt w F g m) {k : Nat} (hk : k ∈ F ∨ w.heap.size ≤ k) : LogAt w (k :: F) g m := by
  rcases hk with hk | hk
  · obtain ⟨b, k', a, rs, h1, h2⟩ := h
    have hs : ∀ j ∈ k :: F, j ∈ F := fun j hj => by
      rcases List.mem_cons.1 hj with rfl | hj
      · exact hk
      · exact hj
    exact ⟨b, k', a, rs, h1, h2.hb, h2.hk, h2.ha, h2.ac, h2.am, h2.ok, h2.xs, h2.fb.sub hs, h2.fk.sub hs, h2.fa.sub hs, fun x hx => ⟨(h2.fr x hx).1.sub hs, (h2.fr x hx).2⟩, h2.sm, h2.bn, h2.kn, h2.mo, h2.ck, h2.fm⟩
  · exact h.grow hk
theorem RLogAt.len {w : World} {F : List Nat} {g gL : Nat} {m : LogM} (h : RLogAt w F g gL m) : m.xs.length ≤ 400 := by
  obtain ⟨b, a, rs, h1, h2⟩ := h
  rw [h2.xs, List.length_map, h2.ha.len]; exact h2.sm
theorem rlog_cells {w wd : World} {g : Nat} {mo ck : Int} {b a : Sl} (h : w.heap[g]? = some (rlogO mo b a ck)) (e : wd.heap = w.heap) : wd.cell? ⟨g, 0, none⟩ = some (.int .i64 mo) ∧ wd.cell? ⟨g, 1, none⟩ = some (.slice b.a b.n b.c) ∧ wd.cell? ⟨g, 2, none⟩ = some (.slice a.a a.n a.c) ∧ wd.cell? ⟨g, 3, none⟩ = some (.int .i64 ck) := by
  refine ⟨?_, ?_, ?_, ?_⟩ <;> (simp only [World.cell?, e, h, rlogO]; rfl)
set_option maxHeartbeats 4000000 in
theorem rlnew_any (F : List Nat) (room : Int) (d : Sl) (bs : List Int) (w : World) (hd : SlR w d bs) (hF : ∀ k ∈ F, k < w.heap.size) (h0 : i64' room) :
    Calls Tryz.prog 26 #[.int .i64 room, .slice d.a d.n d.c] w fun e w' => ∃ g, e = .returned (.pointer (some ⟨g, 0, none⟩)) ∧ w.heap.size ≤ g ∧ RLogAt w' (g :: F) g g (newM room bs) ∧ Below w.heap.size w w' := by
  have J := fun wx (hx : SlR wx d bs) => rplain_any d.a d.n d.c bs wx hx.r hd.nc hd.cb
  have hjl : joinV bs [] = pl bs := by
    unfold joinV pl
    congr 1
    funext i
    have h1 := nm_range bs i
    have h2 : nm [] i = 0 := by show cl (([] : List Int).getD i 0) = 0; rw [getD_out (by simp)]; exact cl_zero
    rw [h2]; omega
  have hl8 : (pl bs).length ≤ 8 := pl_length bs
  have HM : Hid (newM room bs = ⟨min (max room 0) 400, pl bs, pl bs, [], 0⟩) := by show _ = _; unfold newM; rw [hjl]
  rw [HM.out]
  generalize pl bs = js at *
  have HD := Lib.hid hd
  clear hjl HM hd
  have fin : ∀ (r : Int) (w1 : World) (a' : Option Addr) (c' : Nat), r = min (max room 0) 400 → js.length ≤ c' → c' ≤ 9223372036854775807 → VecAt w1 w.heap.size a' js → Below w.heap.size w w1 →
      w.heap.size ≤ w1.heap.size ∧ RLogAt (w1.alloc (rlogO r ⟨a', js.length, c'⟩ ⟨none, 0, 0⟩ 0)) (w1.heap.size :: F) w1.heap.size w1.heap.size ⟨min (max room 0) 400, js, js, [], 0⟩ ∧ Below w.heap.size w (w1.alloc (rlogO r ⟨a', js.length, c'⟩ ⟨none, 0, 0⟩ 0)) := by
    intro r w1 a' c' hr hn hc hV d1
    have hz := d1.size
    have hS : SlR w1 ⟨a', js.length, c'⟩ js := ⟨hV.reads, hn, hc⟩
    have hS2 := hS.below ((Below.refl w1.heap.size w1).alloc (Nat.le_refl _) (rlogO r ⟨a', js.length, c'⟩ ⟨none, 0, 0⟩ 0))
    have hf : farA (w1.heap.size :: F) ⟨a', js.length, c'⟩ := by
      rcases hV.own with h1 | ⟨g, e, h2, h3, _⟩
      · exact .inl (by rw [h1]; rfl)
      · refine .inr fun p hp hm => ?_
        rw [e] at hp
        cases hp
        rcases List.mem_cons.1 hm with hm | hm
        · simp only at hm; omega
        · have := hF _ hm; simp only at this; omega
    refine ⟨hz, ⟨⟨a', js.length, c'⟩, ⟨none, 0, 0⟩, [], by rw [hr]; exact heap_alloc_new w1 _, ?_⟩, d1.alloc hz _⟩
    exact { hb := hS2, ha := offE_nil _, gl := fun p hp => (by cases hp), ok := by simp, xs := rfl, fb := hf, fr := by simp, sm := by decide, bn := hl8, mo := by simp only; omega, ck := (show i64' 0 from ⟨by decide, by decide⟩), ki := rfl }
  have FIN := Lib.hid fin
  clear fin
  go_enter Tryz.func26, Tryz.ntmps26
  by_cases h1 : room < 0
  · have t1 : decide (room < 0) = true := decide_eq_true h1
    have HR := Lib.hid (show (0 : Int) = min (max room 0) 400 by omega)
    clear h1
    go_wp2_with (first | (go_at_call 35; refine (J _ HD.out).mono ?_; rintro e w1 ⟨a', c', rfl, hn, hc, hV, d1⟩; have FN := Lib.hid (FIN.out _ w1 a' c' HR.out hn hc hV d1); clear hn hc hV d1))
    go_ret
    exact ⟨w1.heap.size, rfl, FN.out.1, FN.out.2.1, FN.out.2.2⟩
  · have t1 : decide (room < 0) = false := decide_eq_false h1
    by_cases h2 : room > 400
    · have t2 : decide (room > 400) = true := decide_eq_true h2
      have HR := Lib.hid (show (400 : Int) = min (max room 0) 400 by omega)
      clear h1 h2
      go_wp2_with (first | (go_at_call 35; refine (J _ HD.out).mono ?_; rintro e w1 ⟨a', c', rfl, hn, hc, hV, d1⟩; have FN := Lib.hid (FIN.out _ w1 a' c' HR.out hn hc hV d1); clear hn hc hV d1))
      go_ret
      exact ⟨w1.heap.size, rfl, FN.out.1, FN.out.2.1, FN.out.2.2⟩
    · have t2 : decide (room > 400) = false := decide_eq_false h2
      have HR := Lib.hid (show room = min (max room 0) 400 by omega)
      clear h1 h2
      go_wp2_with (first | (go_at_call 35; refine (J _ HD.out).mono ?_; rintro e w1 ⟨a', c', rfl, hn, hc, hV, d1⟩; have FN := Lib.hid (FIN.out _ w1 a' c' HR.out hn hc hV d1); clear hn hc hV d1))
      go_ret
      exact ⟨w1.heap.size, rfl, FN.out.1, FN.out.2.1, FN.out.2.2⟩
set_option maxHeartbeats 8000000 in
theorem rlknow_any (F : List Nat) (g gL : Nat) (m : LogM) (w : World) (hL : RLogAt w F g gL m) (hFl : ∀ k ∈ F, k < w.heap.size) :
    Calls Tryz.prog 28 #[.pointer (some ⟨g, 0, none⟩)] w fun e w' => ∃ d : Sl, e = .returned (.slice d.a d.n d.c) ∧ SlR w' d m.ks ∧ farA F d ∧ d.n ≤ 8 ∧ Below w.heap.size w w' := by
  obtain ⟨b, a, rs, hg, hc⟩ := hL
  have hlen : m.xs.length = a.n := by rw [hc.xs, List.length_map]; exact hc.ha.len
  have HC := Lib.hid hc
  have HKI : Hid (m.ks = kAll m.bs m.xs) := hc.ki
  have HX := Lib.hid hc.xs
  have ha400 := hc.sm
  have hgl := heap_lt hg
  have hb0 : SlR w b (kAll m.bs (m.xs.take 0)) := hc.hb
  have hfb := hc.fb
  have hbn := hc.bn
  have hms : m.bs.length ≤ 8 := by have h1 := hc.hb.r.1; omega
  rw [HKI.out]
  clear hc HKI
  have c1 := (rlog_cells hg rfl).2.1
  go_enter Tryz.func28, Tryz.ntmps28
  go_wp2_with fail
  clear c1
  go_loopw [3, 4] (fun v i wr => ∃ (j : Nat) (b2 : Sl), j ≤ a.n ∧ i = .int .i64 j ∧ v = .slice b2.a b2.n b2.c ∧ SlR wr b2 (kAll m.bs (m.xs.take j)) ∧ farA F b2 ∧ b2.n ≤ 8 ∧ Below w.heap.size w wr) (fun _ i _ => a.n - (intOf i).toNat)
  case atStart => exact ⟨0, b, by omega, rfl, rfl, hb0, hfb, hbn, Below.refl _ _⟩
  case round =>
    obtain ⟨j, b2, hj, rfl, rfl, hb2, hfb2, hbn2, hBT⟩ := hrel
    have hg2 := (hBT.block g hgl).trans hg
    have hzz := hBT.size
    have HBT := Lib.hid hBT
    have HC2 := Lib.hid (HC.out.below hBT)
    have KK := Lib.hid (show Kn wr.heap.size wr [(g, rlogO m.most b a m.clock)] wr from (Kn.start wr).put hg2)
    have HB2 := Lib.hid hb2
    clear hb2 hg2 hb0 hfb hbn hBT
    by_cases hlt : j < a.n
    · have t1 : decide ((j : Int) < (a.n : Int)) = true := decide_eq_true (by omega)
      obtain ⟨bb, oo, x, haa, hxk, hCE⟩ := recs_at (OffE.reads rec_len HC2.out.ha) j hlt
      have HCE := Lib.hid hCE
      have i1 : (0 : Int) ≤ (j : Int) := by omega
      have i2 : (j : Int) < (a.n : Int) := by omega
      have hw6 := (HC2.out.ok x (List.mem_of_getElem? hxk)).wf
      have HXK := Lib.hid (show m.xs[j]? = some x.m by rw [HX.out, List.getElem?_map, hxk]; rfl)
      clear hxk hCE
      have WT := fun wx hb => rwith_any b2.a b2.n b2.c (kAll m.bs (m.xs.take j)) x.r.st.site x.r.st.seq wx ((HB2.out.below (w' := wx) hb).r) HB2.out.nc HB2.out.cb
      clear hw6
      have c2 := (rlog_cells (KK.out.at_ (g, rlogO m.most b a m.clock) (by simp)) rfl).2.2.1
      go_upto_region 5 with fail
      refine wp_region_held_drew (S := (fun wx => wx.cell? ⟨g, 2, none⟩ = some (.slice a.a a.n a.c) ∧ wx.cell? ⟨bb, oo + j * 9 + 5 + 1, none⟩ = some (.int .i64 x.r.st.site) ∧ wx.cell? ⟨bb, oo + j * 9 + 5 + 2, none⟩ = some (.int .i64 x.r.st.seq))) (by kernel_rfl) ?_ (fun hHeld => ?_)
      focus ((try dsimp only); (try (exact (have h := rlog_cells (KK.out.at_ (g, rlogO m.most b a m.clock) (by simp)) (by rfl); have h2 := HCE.out _ (Kn.same KK.out (by rfl) (by rfl) (by rfl) (by rfl)).b; ⟨h.2.2.1, rc_mid h2⟩))); done)
      (refine wpAnyH_take (i := 0) (oi := ⟨some 18, Go.Op.move (.tmp 3), 23, _, _, none⟩) (v := ?_) rfl (by kernel_rfl) (by kernel_rfl) (by kernel_rfl) (fun _ _ _ h => h) (Or.inl ⟨by rfl, ?_⟩) (by assumption) ?_; rotate_left; (focus (intro w hSw; ((try dsimp only at hSw); go_simp; try with_reducible rfl))); (try simp only [Act.put, sA, sZ, sS]))
      (refine wpAnyH_take (i := 1) (oi := ⟨some 19, Go.Op.move (.tmp 0), 26, _, _, none⟩) (v := ?_) rfl (by kernel_rfl) (by kernel_rfl) (by kernel_rfl) (fun _ _ _ h => h) (Or.inl ⟨by rfl, ?_⟩) (by assumption) ?_; rotate_left; (focus (intro w hSw; ((try dsimp only at hSw); go_simp; try with_reducible rfl))); (try simp only [Act.put, sA, sZ, sS]))
      (refine wpAnyH_take (i := 2) (oi := ⟨some 20, Go.Op.nilCheck (.tmp 19), 0, _, _, none⟩) (v := ?_) rfl (by kernel_rfl) (by kernel_rfl) (by kernel_rfl) (fun _ _ _ h => h) (Or.inl ⟨by rfl, ?_⟩) (by assumption) ?_; rotate_left; (focus (intro w hSw; ((try dsimp only at hSw); go_simp; try with_reducible rfl))); (try simp only [Act.put, sA, sZ, sS]))
      (refine wpAnyH_take (i := 3) (oi := ⟨some 21, Go.Op.fieldAddr 119 (.tmp 20) 2, 0, _, _, none⟩) (v := ?_) rfl (by kernel_rfl) (by kernel_rfl) (by kernel_rfl) (fun _ _ _ h => h) (Or.inl ⟨by rfl, ?_⟩) (by assumption) ?_; rotate_left; (focus (intro w hSw; ((try dsimp only at hSw); go_simp; try with_reducible rfl))); (try simp only [Act.put, sA, sZ, sS]))
      (refine wpAnyH_take (i := 4) (oi := ⟨some 22, Go.Op.load 22 (.tmp 21), 22, _, _, none⟩) (v := ?_) rfl (by kernel_rfl) (by kernel_rfl) (by kernel_rfl) (fun _ _ _ h => h) (Or.inl ⟨by rfl, ?_⟩) (by assumption) ?_; rotate_left; (focus (intro w hSw; ((try dsimp only at hSw); go_simp; try with_reducible rfl))); (try simp only [Act.put, sA, sZ, sS]))
      (refine wpAnyH_take (i := 5) (oi := ⟨some 23, Go.Op.move (.tmp 4), 3, _, _, none⟩) (v := ?_) rfl (by kernel_rfl) (by kernel_rfl) (by kernel_rfl) (fun _ _ _ h => h) (Or.inl ⟨by rfl, ?_⟩) (by assumption) ?_; rotate_left; (focus (intro w hSw; ((try dsimp only at hSw); go_simp; try with_reducible rfl))); (try simp only [Act.put, sA, sZ, sS]))
      (refine wpAnyH_take (i := 6) (oi := ⟨some 24, Go.Op.indexAddr 22 (.tmp 22) (.tmp 23), 0, _, _, none⟩) (v := ?_) rfl (by kernel_rfl) (by kernel_rfl) (by kernel_rfl) (fun _ _ _ h => h) (Or.inl ⟨by rfl, ?_⟩) (by assumption) ?_; rotate_left; (focus (intro w hSw; ((try dsimp only at hSw); go_simp; try with_reducible rfl))); (try simp only [Act.put, sA, sZ, sS]))
      (refine wpAnyH_take (i := 7) (oi := ⟨some 25, Go.Op.fieldAddr 60 (.tmp 24) 5, 0, _, _, none⟩) (v := ?_) rfl (by kernel_rfl) (by kernel_rfl) (by kernel_rfl) (fun _ _ _ h => h) (Or.inl ⟨by rfl, ?_⟩) (by assumption) ?_; rotate_left; (focus (intro w hSw; ((try dsimp only at hSw); go_simp; try with_reducible rfl))); (try simp only [Act.put, sA, sZ, sS]))
      (refine wpAnyH_take (i := 8) (oi := ⟨some 26, Go.Op.fieldAddr 58 (.tmp 25) 1, 0, _, _, none⟩) (v := ?_) rfl (by kernel_rfl) (by kernel_rfl) (by kernel_rfl) (fun _ _ _ h => h) (Or.inl ⟨by rfl, ?_⟩) (by assumption) ?_; rotate_left; (focus (intro w hSw; ((try dsimp only at hSw); go_simp; try with_reducible rfl))); (try simp only [Act.put, sA, sZ, sS]))
      (refine wpAnyH_take (i := 9) (oi := ⟨some 27, Go.Op.load 3 (.tmp 26), 3, _, _, none⟩) (v := ?_) rfl (by kernel_rfl) (by kernel_rfl) (by kernel_rfl) (fun _ _ _ h => h) (Or.inl ⟨by rfl, ?_⟩) (by assumption) ?_; rotate_left; (focus (intro w hSw; ((try dsimp only at hSw); go_simp; try with_reducible rfl))); (try simp only [Act.put, sA, sZ, sS]))
      (refine wpAnyH_take (i := 10) (oi := ⟨some 28, Go.Op.move (.tmp 0), 26, _, _, none⟩) (v := ?_) rfl (by kernel_rfl) (by kernel_rfl) (by kernel_rfl) (fun _ _ _ h => h) (Or.inl ⟨by rfl, ?_⟩) (by assumption) ?_; rotate_left; (focus (intro w hSw; ((try dsimp only at hSw); go_simp; try with_reducible rfl))); (try simp only [Act.put, sA, sZ, sS]))
      (refine wpAnyH_take (i := 11) (oi := ⟨some 29, Go.Op.nilCheck (.tmp 28), 0, _, _, none⟩) (v := ?_) rfl (by kernel_rfl) (by kernel_rfl) (by kernel_rfl) (fun _ _ _ h => h) (Or.inl ⟨by rfl, ?_⟩) (by assumption) ?_; rotate_left; (focus (intro w hSw; ((try dsimp only at hSw); go_simp; try with_reducible rfl))); (try simp only [Act.put, sA, sZ, sS]))
      (refine wpAnyH_take (i := 12) (oi := ⟨some 30, Go.Op.fieldAddr 119 (.tmp 29) 2, 0, _, _, none⟩) (v := ?_) rfl (by kernel_rfl) (by kernel_rfl) (by kernel_rfl) (fun _ _ _ h => h) (Or.inl ⟨by rfl, ?_⟩) (by assumption) ?_; rotate_left; (focus (intro w hSw; ((try dsimp only at hSw); go_simp; try with_reducible rfl))); (try simp only [Act.put, sA, sZ, sS]))
      (refine wpAnyH_take (i := 13) (oi := ⟨some 31, Go.Op.load 22 (.tmp 30), 22, _, _, none⟩) (v := ?_) rfl (by kernel_rfl) (by kernel_rfl) (by kernel_rfl) (fun _ _ _ h => h) (Or.inl ⟨by rfl, ?_⟩) (by assumption) ?_; rotate_left; (focus (intro w hSw; ((try dsimp only at hSw); go_simp; try with_reducible rfl))); (try simp only [Act.put, sA, sZ, sS]))
      (refine wpAnyH_take (i := 14) (oi := ⟨some 32, Go.Op.move (.tmp 4), 3, _, _, none⟩) (v := ?_) rfl (by kernel_rfl) (by kernel_rfl) (by kernel_rfl) (fun _ _ _ h => h) (Or.inl ⟨by rfl, ?_⟩) (by assumption) ?_; rotate_left; (focus (intro w hSw; ((try dsimp only at hSw); go_simp; try with_reducible rfl))); (try simp only [Act.put, sA, sZ, sS]))
      (refine wpAnyH_take (i := 15) (oi := ⟨some 33, Go.Op.indexAddr 22 (.tmp 31) (.tmp 32), 0, _, _, none⟩) (v := ?_) rfl (by kernel_rfl) (by kernel_rfl) (by kernel_rfl) (fun _ _ _ h => h) (Or.inl ⟨by rfl, ?_⟩) (by assumption) ?_; rotate_left; (focus (intro w hSw; ((try dsimp only at hSw); go_simp; try with_reducible rfl))); (try simp only [Act.put, sA, sZ, sS]))
      (refine wpAnyH_take (i := 16) (oi := ⟨some 34, Go.Op.fieldAddr 60 (.tmp 33) 5, 0, _, _, none⟩) (v := ?_) rfl (by kernel_rfl) (by kernel_rfl) (by kernel_rfl) (fun _ _ _ h => h) (Or.inl ⟨by rfl, ?_⟩) (by assumption) ?_; rotate_left; (focus (intro w hSw; ((try dsimp only at hSw); go_simp; try with_reducible rfl))); (try simp only [Act.put, sA, sZ, sS]))
      (refine wpAnyH_take (i := 17) (oi := ⟨some 35, Go.Op.fieldAddr 58 (.tmp 34) 2, 0, _, _, none⟩) (v := ?_) rfl (by kernel_rfl) (by kernel_rfl) (by kernel_rfl) (fun _ _ _ h => h) (Or.inl ⟨by rfl, ?_⟩) (by assumption) ?_; rotate_left; (focus (intro w hSw; ((try dsimp only at hSw); go_simp; try with_reducible rfl))); (try simp only [Act.put, sA, sZ, sS]))
      (refine wpAnyH_take (i := 18) (oi := ⟨some 36, Go.Op.load 3 (.tmp 35), 3, _, _, none⟩) (v := ?_) rfl (by kernel_rfl) (by kernel_rfl) (by kernel_rfl) (fun _ _ _ h => h) (Or.inl ⟨by rfl, ?_⟩) (by assumption) ?_; rotate_left; (focus (intro w hSw; ((try dsimp only at hSw); go_simp; try with_reducible rfl))); (try simp only [Act.put, sA, sZ, sS]))
      (refine wpAnyH_ready (rs := [19]) (by kernel_rfl) (by simp) ?_; refine AllReadyH.cons (o := ⟨some 37, Go.Op.call { callee := Go.Callee.value (.func 87), args := #[.tmp 18, .tmp 27, .tmp 36], argTypes := #[23, 3, 3] }, 23, _, _, none⟩) rfl (fun K hK => ?_) AllReadyH.nil; go_simp; ((first | (go_at_call 87; refine (WT _ (Kn.same KK.out (by rfl) (by rfl) (by rfl) (by rfl)).b).mono ?_; rintro e w8 ⟨ak, ck, rfl, hVn, hVc, hVk, dn⟩; have hVz := (Kn.same KK.out (by rfl) (by rfl) (by rfl) (by rfl)).le; have KK := Lib.hid (Kn.later KK.out dn rfl rfl rfl rfl)))); go_wp2_with fail; refine hK.out _ _ ?_ (fun hHeld => ?_); (focus ((try dsimp only); (try (exact (have h := rlog_cells (KK.out.at_ (g, rlogO m.most b a m.clock) (by simp)) (by rfl); have h2 := HCE.out _ (Kn.same KK.out (by rfl) (by rfl) (by rfl) (by rfl)).b; ⟨h.2.2.1, rc_mid h2⟩))); done)); clear hK; (try simp only [Act.put, sA, sZ, sS]))
      (refine wpAnyH_take (i := 20) (oi := ⟨some 3, Go.Op.assign (.tmp 37), 23, _, _, none⟩) (v := ?_) rfl (by kernel_rfl) (by kernel_rfl) (by kernel_rfl) (fun _ _ _ h => h) (Or.inl ⟨by rfl, ?_⟩) (by assumption) ?_; rotate_left; (focus (intro w hSw; ((try dsimp only at hSw); go_simp; try with_reducible rfl))); (try simp only [Act.put, sA, sZ, sS]))
      refine wpAnyH_done (by kernel_rfl) ?_ _
      clear hHeld
      have EV : withV (kAll m.bs (m.xs.take j)) x.r.st.site x.r.st.seq = kAll m.bs (m.xs.take (j + 1)) := (k_next HXK.out).symm
      rw [EV] at hVk hVn ⊢
      clear EV c2
      have hL8 := kAll_len m.bs hms (m.xs.take (j + 1))
      have hFz := fun k' (hk' : k' ∈ F) => Nat.lt_of_lt_of_le (hFl k' hk') hzz
      have hzd : wr.drew.heap.size = wr.heap.size := rfl
      have HFk : Hid (farA F ⟨ak, (kAll m.bs (m.xs.take (j + 1))).length, ck⟩) := by
        rcases hVk.own with h1 | ⟨g', e, h2, _⟩
        · exact .inl (by rw [h1]; rfl)
        · refine .inr fun p hp hm => ?_
          have hp' : ak = some p := hp
          rw [e] at hp'
          cases hp'
          have := hFz _ hm
          simp only at this
          omega
      have HSV := Lib.hid (show SlR _ ⟨ak, (kAll m.bs (m.xs.take (j + 1))).length, ck⟩ (kAll m.bs (m.xs.take (j + 1))) from ⟨hVk.reads, hVn, hVc⟩)
      generalize hks : kAll m.bs (m.xs.take (j + 1)) = KV at *
      have HSV := Lib.hid (show SlR w8 ⟨ak, KV.length, ck⟩ (kAll m.bs (m.xs.take (j + 1))) by rw [hks]; exact HSV.out)
      clear hVk hFz hVn hVc hzd hks
      go_wp2_with fail
      go_roundw
      case rel => exact ⟨j + 1, ⟨ak, KV.length, ck⟩, by omega, by go_num, rfl, HSV.out, HFk.out, hL8, below_then HBT.out hzz KK.out.b⟩
      case measure => simp [intOf]; omega
    · have t1 : decide ((j : Int) < (a.n : Int)) = false := decide_eq_false (by omega)
      have HS := HB2.out
      rw [List.take_of_length_le (by omega)] at HS
      have HB2 := Lib.hid HS
      clear HS
      have c2 := (rlog_cells (KK.out.at_ (g, rlogO m.most b a m.clock) (by simp)) rfl).2.2.1
      go_wp2_with fail
      go_ret
      exact ⟨b2, rfl, HB2.out, hfb2, hbn2, HBT.out⟩
end
end Go.Proofs.YtglabahbklpocaaGreat
