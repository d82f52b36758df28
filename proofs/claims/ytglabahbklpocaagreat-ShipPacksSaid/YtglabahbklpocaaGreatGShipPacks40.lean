/- ship.Bytes: the other kinds of messages, but for those that bear records. -/
import Derived.Test.YtglabahbklpocaaGreatGShipPacks36
import Derived.Test.YtglabahbklpocaaGreatGShipPacks29
namespace Go.Proofs.YtglabahbklpocaaGreat
section
open Go.RowKit Go.Deep
set_option maxRecDepth 100000
set_option linter.unusedVariables false
set_option linter.unusedSimpArgs false
attribute [local go_sem ↓] Go.wp_at_zero Go.wp_at_succ
theorem vtext_le2 (s : ByteArray) (h : s.size ≤ 150000) : (vtext s).size ≤ 200000 := by
  have h1 : (vtext s).data.toList.length = (tb s).length := by rw [vtext_data]
  have h2 : (tb s).length ≤ 200000 := by
    unfold tb
    rw [List.length_append]
    have h3 := putB_le (s.size : Int)
    have h4 : s.data.toList.length = s.size := by simp
    omega
  have h5 : (vtext s).data.toList.length = (vtext s).size := by simp
  omega
set_option maxHeartbeats 8000000 in
theorem bytes4_any (x : Wi) (ps : List Pt) (w : World) (hk : x.kind = 4) (hf : i64' x.from_) (ht : i64' x.to_) (hp : SlP w x.np ps) (hid : idV x.id = true) (hno : x.none true false false false false = true) (hn : x.np.n ≤ 200) (hok : okPts ps) :
    Calls Tryz.prog 12 #[.agg x.arr] w fun e w' => e = .returned (.tuple #[.string (vput 4 ++ vput x.id ++ vtext ⟨(ptsL ps).toArray⟩), .int .i64 0]) ∧ Below w.heap.size w w' := by
  have HPP := Lib.hid hp
  have hlen : ps.length = x.np.n := hp.r.1
  have CH := fun wx (hb : Below w.heap.size w wx) => check4_any x ps wx hk hf ht (HPP.out.below hb)
  rw [if_pos ⟨hno, decide_eq_true (by omega), okB_true hok, hid⟩] at CH
  have MT := fun wx (hb : Below w.heap.size w wx) => points_any x.np.a x.np.n x.np.c ps wx ((HPP.out.below hb).r) HPP.out.wf HPP.out.nc HPP.out.cb
  have e0 : ptsV ps = (⟨(ptsL ps).toArray⟩, 0) := by unfold ptsV; rw [if_pos hok, if_pos (by omega)]
  rw [e0] at MT
  simp only at MT
  have hid : 0 ≤ x.id ∧ x.id ≤ 1099511627776 := by unfold idV at hid; simpa using hid
  have hms : (⟨(ptsL ps).toArray⟩ : ByteArray).size ≤ 100000 := by
    show (ptsL ps).length ≤ _
    have := ptsL_le hok
    omega
  have TX := fun wx => text_any (⟨(ptsL ps).toArray⟩ : ByteArray) wx (by omega)
  have htx : (vtext (⟨(ptsL ps).toArray⟩ : ByteArray)).size ≤ 200000 := vtext_le2 _ (by omega)
  generalize (⟨(ptsL ps).toArray⟩ : ByteArray) = P at *
  generalize vtext P = M at *
  clear hf ht hno hp HPP e0 hok hlen
  obtain ⟨kind, id, series, from_, to_, np, nr, vec, time⟩ := x
  simp only at hk
  subst hk
  unfold Wi.arr at *
  simp only at *
  go_enter Tryz.func12, Tryz.ntmps12
  go_upto_region 1 with fail
  generalize hw1 : World.alloc _ _ = w1
  have KK := Lib.hid (show Kn w.heap.size w [(w.heap.size, wiO ⟨4, id, series, from_, to_, np, nr, vec, time⟩)] w1 by rw [← hw1]; exact (Kn.start w).new' rfl (wiO ⟨4, id, series, from_, to_, np, nr, vec, time⟩))
  clear hw1
  generalize hg : w.heap.size = g at *
  go_upto_region 4 with (first
    | refine wpList_load_row rfl 33 _ rfl g rfl 33 (Wi.arr ⟨4, id, series, from_, to_, np, nr, vec, time⟩) (0, 0) _ KK.out.hd Tryz.underlying33 rfl (by kernel_rfl) ?_
    | (go_at_call 16; refine (CH _ KK.out.b).mono ?_; rintro e w2 ⟨rfl, dn⟩; have KK := Lib.hid (KK.out.below dn); clear dn))
  have z1 := vput_le 4
  have z2 := vput_le id
  have n1 : ¬ (9223372036854775807 < (vput 4).size + (vput id).size) := by omega
  refine wp_region_held_drew (S := (fun wx => wx.cell? ⟨g, 0, none⟩ = some (.int .i64 4) ∧ wx.cell? ⟨g, 1, none⟩ = some (.int .i64 id))) (by kernel_rfl) ?_ (fun hHeld => ?_)
  focus ((try dsimp only); (try (exact wh_held KK.out rfl)); done)
  (refine wpAnyH_take (i := 0) (oi := ⟨some 17, Go.Op.fieldAddr 33 (.tmp 1) 0, 0, _, _, none⟩) (v := ?_) rfl (by kernel_rfl) (by kernel_rfl) (by kernel_rfl) (fun _ _ _ h => h) (Or.inl ⟨by rfl, ?_⟩) (by assumption) ?_; rotate_left; (focus (intro w hSw; ((try dsimp only at hSw); go_simp; try with_reducible rfl))); (try simp only [Act.put, sA, sZ, sS]))
  (refine wpAnyH_take (i := 1) (oi := ⟨some 18, Go.Op.load 3 (.tmp 17), 3, _, _, none⟩) (v := ?_) rfl (by kernel_rfl) (by kernel_rfl) (by kernel_rfl) (fun _ _ _ h => h) (Or.inl ⟨by rfl, ?_⟩) (by assumption) ?_; rotate_left; (focus (intro w hSw; ((try dsimp only at hSw); go_simp; try with_reducible rfl))); (try simp only [Act.put, sA, sZ, sS]))
  (refine wpAnyH_take (i := 3) (oi := ⟨some 20, Go.Op.fieldAddr 33 (.tmp 1) 1, 0, _, _, none⟩) (v := ?_) rfl (by kernel_rfl) (by kernel_rfl) (by kernel_rfl) (fun _ _ _ h => h) (Or.inl ⟨by rfl, ?_⟩) (by assumption) ?_; rotate_left; (focus (intro w hSw; ((try dsimp only at hSw); go_simp; try with_reducible rfl))); (try simp only [Act.put, sA, sZ, sS]))
  (refine wpAnyH_take (i := 4) (oi := ⟨some 21, Go.Op.load 3 (.tmp 20), 3, _, _, none⟩) (v := ?_) rfl (by kernel_rfl) (by kernel_rfl) (by kernel_rfl) (fun _ _ _ h => h) (Or.inl ⟨by rfl, ?_⟩) (by assumption) ?_; rotate_left; (focus (intro w hSw; ((try dsimp only at hSw); go_simp; try with_reducible rfl))); (try simp only [Act.put, sA, sZ, sS]))
  (refine wpAnyH_ready (rs := [2]) (by kernel_rfl) (by simp) ?_; refine AllReadyH.cons (o := ⟨some 19, Go.Op.call { callee := Go.Callee.value (.func 38), args := #[.tmp 18], argTypes := #[3] }, 9, _, _, none⟩) rfl (fun K hK => ?_) AllReadyH.nil; go_simp; ((go_at_call 38; refine (hnum_any _ _ (by first | decide | omega) (by first | decide | omega)).mono ?_; rintro e wn ⟨rfl, dn⟩; have KK := Lib.hid (Kn.later KK.out dn rfl rfl rfl rfl))); go_wp2_with fail; refine hK.out _ _ ?_ (fun hHeld => ?_); (focus ((try dsimp only); (try (exact wh_held KK.out rfl)); done)); clear hK; (try simp only [Act.put, sA, sZ, sS]))
  (refine wpAnyH_ready (rs := [5]) (by kernel_rfl) (by simp) ?_; refine AllReadyH.cons (o := ⟨some 22, Go.Op.call { callee := Go.Callee.value (.func 38), args := #[.tmp 21], argTypes := #[3] }, 9, _, _, none⟩) rfl (fun K hK => ?_) AllReadyH.nil; go_simp; ((go_at_call 38; refine (hnum_any _ _ (by first | decide | omega) (by first | decide | omega)).mono ?_; rintro e wn ⟨rfl, dn⟩; have KK := Lib.hid (Kn.later KK.out dn rfl rfl rfl rfl))); go_wp2_with fail; refine hK.out _ _ ?_ (fun hHeld => ?_); (focus ((try dsimp only); (try (exact wh_held KK.out rfl)); done)); clear hK; (try simp only [Act.put, sA, sZ, sS]))
  (refine wpAnyH_take (i := 6) (oi := ⟨some 23, Go.Op.binOp Go.BinOp.add 9 (.tmp 19) (.tmp 22) 9, 9, _, _, none⟩) (v := ?_) rfl (by kernel_rfl) (by kernel_rfl) (by kernel_rfl) (fun _ _ _ h => h) (Or.inl ⟨by rfl, ?_⟩) (by assumption) ?_; rotate_left; (focus (intro w hSw; ((try dsimp only at hSw); go_simp; try with_reducible rfl))); (try simp only [Act.put, sA, sZ, sS]))
  (refine wpAnyH_take (i := 7) (oi := ⟨some 5, Go.Op.assign (.tmp 23), 9, _, _, none⟩) (v := ?_) rfl (by kernel_rfl) (by kernel_rfl) (by kernel_rfl) (fun _ _ _ h => h) (Or.inl ⟨by rfl, ?_⟩) (by assumption) ?_; rotate_left; (focus (intro w hSw; ((try dsimp only at hSw); go_simp; try with_reducible rfl))); (try simp only [Act.put, sA, sZ, sS]))
  refine wpAnyH_done (by kernel_rfl) ?_ _
  clear hHeld
  have c0 := (wi_cells KK.out.hd rfl).c0
  have c5 := (wi_cells KK.out.hd rfl).c5
  simp only at c0 c5
  have n2 : ¬ (9223372036854775807 < (vput 4 ++ vput id).size + M.size) := by rw [ByteArray.size_append]; omega
  have n3 : ¬ (9223372036854775807 < (vput 4).size + (vput id).size + M.size) := by omega
  go_wp2_with (first
    | (go_at_call 39; refine (MT _ KK.out.b).mono ?_; rintro e w5 ⟨rfl, dn⟩; have KK := Lib.hid (KK.out.below dn); clear dn)
    | (go_at_call 40; refine (TX _).mono ?_; rintro e w6 ⟨rfl, dn⟩; have KK := Lib.hid (KK.out.below dn); clear dn))
  refine bodyPost_ret (v := .tuple #[.string (vput 4 ++ vput id ++ M), .int .i64 0]) (by simp [results, Tryz.results12, go_sem, *]) rfl ⟨rfl, by first | exact KK.out.b | (rw [hg]; exact KK.out.b)⟩
set_option maxHeartbeats 8000000 in
theorem bytes5_any (x : Wi) (w : World) (hk : x.kind = 5) (hf : i64' x.from_) (ht : i64' x.to_) (hid : idV x.id = true) (hno : x.none false false true false false = true) (hti : endV x.time = true) :
    Calls Tryz.prog 12 #[.agg x.arr] w fun e w' => e = .returned (.tuple #[.string (vput 5 ++ vput x.id ++ vput x.time), .int .i64 0]) ∧ Below w.heap.size w w' := by
  have CH := fun wx (hb : Below w.heap.size w wx) => check5_any x wx hk hf ht
  rw [if_pos ⟨hno, hti, hid⟩] at CH
  have hid : 0 ≤ x.id ∧ x.id ≤ 1099511627776 := by unfold idV at hid; simpa using hid
  have hti : 0 ≤ x.time ∧ x.time ≤ 1099511627777 := by unfold endV at hti; simpa using hti
  have z3 := vput_le x.time
  clear hf ht hno
  obtain ⟨kind, id, series, from_, to_, np, nr, vec, time⟩ := x
  simp only at hk
  subst hk
  unfold Wi.arr at *
  simp only at *
  go_enter Tryz.func12, Tryz.ntmps12
  go_upto_region 1 with fail
  generalize hw1 : World.alloc _ _ = w1
  have KK := Lib.hid (show Kn w.heap.size w [(w.heap.size, wiO ⟨5, id, series, from_, to_, np, nr, vec, time⟩)] w1 by rw [← hw1]; exact (Kn.start w).new' rfl (wiO ⟨5, id, series, from_, to_, np, nr, vec, time⟩))
  clear hw1
  generalize hg : w.heap.size = g at *
  go_upto_region 4 with (first
    | refine wpList_load_row rfl 33 _ rfl g rfl 33 (Wi.arr ⟨5, id, series, from_, to_, np, nr, vec, time⟩) (0, 0) _ KK.out.hd Tryz.underlying33 rfl (by kernel_rfl) ?_
    | (go_at_call 16; refine (CH _ KK.out.b).mono ?_; rintro e w2 ⟨rfl, dn⟩; have KK := Lib.hid (KK.out.below dn); clear dn))
  have z1 := vput_le 5
  have z2 := vput_le id
  have n1 : ¬ (9223372036854775807 < (vput 5).size + (vput id).size) := by omega
  refine wp_region_held_drew (S := (fun wx => wx.cell? ⟨g, 0, none⟩ = some (.int .i64 5) ∧ wx.cell? ⟨g, 1, none⟩ = some (.int .i64 id))) (by kernel_rfl) ?_ (fun hHeld => ?_)
  focus ((try dsimp only); (try (exact wh_held KK.out rfl)); done)
  (refine wpAnyH_take (i := 0) (oi := ⟨some 17, Go.Op.fieldAddr 33 (.tmp 1) 0, 0, _, _, none⟩) (v := ?_) rfl (by kernel_rfl) (by kernel_rfl) (by kernel_rfl) (fun _ _ _ h => h) (Or.inl ⟨by rfl, ?_⟩) (by assumption) ?_; rotate_left; (focus (intro w hSw; ((try dsimp only at hSw); go_simp; try with_reducible rfl))); (try simp only [Act.put, sA, sZ, sS]))
  (refine wpAnyH_take (i := 1) (oi := ⟨some 18, Go.Op.load 3 (.tmp 17), 3, _, _, none⟩) (v := ?_) rfl (by kernel_rfl) (by kernel_rfl) (by kernel_rfl) (fun _ _ _ h => h) (Or.inl ⟨by rfl, ?_⟩) (by assumption) ?_; rotate_left; (focus (intro w hSw; ((try dsimp only at hSw); go_simp; try with_reducible rfl))); (try simp only [Act.put, sA, sZ, sS]))
  (refine wpAnyH_take (i := 3) (oi := ⟨some 20, Go.Op.fieldAddr 33 (.tmp 1) 1, 0, _, _, none⟩) (v := ?_) rfl (by kernel_rfl) (by kernel_rfl) (by kernel_rfl) (fun _ _ _ h => h) (Or.inl ⟨by rfl, ?_⟩) (by assumption) ?_; rotate_left; (focus (intro w hSw; ((try dsimp only at hSw); go_simp; try with_reducible rfl))); (try simp only [Act.put, sA, sZ, sS]))
  (refine wpAnyH_take (i := 4) (oi := ⟨some 21, Go.Op.load 3 (.tmp 20), 3, _, _, none⟩) (v := ?_) rfl (by kernel_rfl) (by kernel_rfl) (by kernel_rfl) (fun _ _ _ h => h) (Or.inl ⟨by rfl, ?_⟩) (by assumption) ?_; rotate_left; (focus (intro w hSw; ((try dsimp only at hSw); go_simp; try with_reducible rfl))); (try simp only [Act.put, sA, sZ, sS]))
  (refine wpAnyH_ready (rs := [2]) (by kernel_rfl) (by simp) ?_; refine AllReadyH.cons (o := ⟨some 19, Go.Op.call { callee := Go.Callee.value (.func 38), args := #[.tmp 18], argTypes := #[3] }, 9, _, _, none⟩) rfl (fun K hK => ?_) AllReadyH.nil; go_simp; ((go_at_call 38; refine (hnum_any _ _ (by first | decide | omega) (by first | decide | omega)).mono ?_; rintro e wn ⟨rfl, dn⟩; have KK := Lib.hid (Kn.later KK.out dn rfl rfl rfl rfl))); go_wp2_with fail; refine hK.out _ _ ?_ (fun hHeld => ?_); (focus ((try dsimp only); (try (exact wh_held KK.out rfl)); done)); clear hK; (try simp only [Act.put, sA, sZ, sS]))
  (refine wpAnyH_ready (rs := [5]) (by kernel_rfl) (by simp) ?_; refine AllReadyH.cons (o := ⟨some 22, Go.Op.call { callee := Go.Callee.value (.func 38), args := #[.tmp 21], argTypes := #[3] }, 9, _, _, none⟩) rfl (fun K hK => ?_) AllReadyH.nil; go_simp; ((go_at_call 38; refine (hnum_any _ _ (by first | decide | omega) (by first | decide | omega)).mono ?_; rintro e wn ⟨rfl, dn⟩; have KK := Lib.hid (Kn.later KK.out dn rfl rfl rfl rfl))); go_wp2_with fail; refine hK.out _ _ ?_ (fun hHeld => ?_); (focus ((try dsimp only); (try (exact wh_held KK.out rfl)); done)); clear hK; (try simp only [Act.put, sA, sZ, sS]))
  (refine wpAnyH_take (i := 6) (oi := ⟨some 23, Go.Op.binOp Go.BinOp.add 9 (.tmp 19) (.tmp 22) 9, 9, _, _, none⟩) (v := ?_) rfl (by kernel_rfl) (by kernel_rfl) (by kernel_rfl) (fun _ _ _ h => h) (Or.inl ⟨by rfl, ?_⟩) (by assumption) ?_; rotate_left; (focus (intro w hSw; ((try dsimp only at hSw); go_simp; try with_reducible rfl))); (try simp only [Act.put, sA, sZ, sS]))
  (refine wpAnyH_take (i := 7) (oi := ⟨some 5, Go.Op.assign (.tmp 23), 9, _, _, none⟩) (v := ?_) rfl (by kernel_rfl) (by kernel_rfl) (by kernel_rfl) (fun _ _ _ h => h) (Or.inl ⟨by rfl, ?_⟩) (by assumption) ?_; rotate_left; (focus (intro w hSw; ((try dsimp only at hSw); go_simp; try with_reducible rfl))); (try simp only [Act.put, sA, sZ, sS]))
  refine wpAnyH_done (by kernel_rfl) ?_ _
  clear hHeld
  have c0 := (wi_cells KK.out.hd rfl).c0
  have c8 := (wi_cells KK.out.hd rfl).c8
  simp only at c0 c8
  have n2 : ¬ (9223372036854775807 < (vput 5 ++ vput id).size + (vput time).size) := by rw [ByteArray.size_append]; omega
  have n3 : ¬ (9223372036854775807 < (vput 5).size + (vput id).size + (vput time).size) := by omega
  go_wp2_with (go_at_call 38; refine (hnum_any _ _ (by omega) (by omega)).mono ?_; rintro e w5 ⟨rfl, dn⟩; have KK := Lib.hid (KK.out.below dn); clear dn)
  refine bodyPost_ret (v := .tuple #[.string (vput 5 ++ vput id ++ vput time), .int .i64 0]) (by simp [results, Tryz.results12, go_sem, *]) rfl ⟨rfl, by first | exact KK.out.b | (rw [hg]; exact KK.out.b)⟩
theorem wh_held3 {B g : Nat} {w0 w wd : World} {l : List (Nat × Obj)} {x : Wi} (h : Kn B w0 ((g, wiO x) :: l) w) (e : wd.heap = w.heap) : wd.cell? ⟨g, 2, none⟩ = some (.string x.series) ∧ wd.cell? ⟨g, 3, none⟩ = some (.int .i64 x.from_) ∧ wd.cell? ⟨g, 4, none⟩ = some (.int .i64 x.to_) := ⟨(wi_cells h.hd e).c2, (wi_cells h.hd e).c3, (wi_cells h.hd e).c4⟩
set_option maxHeartbeats 8000000 in
theorem bytes3_any (x : Wi) (w : World) (hk : x.kind = 3) (hf : i64' x.from_) (ht : i64' x.to_) (hid : idV x.id = true) (hno : x.none false true false false false = true) (hs : nameV x.series = true) (hsp : spanV x.from_ x.to_ = true) :
    Calls Tryz.prog 12 #[.agg x.arr] w fun e w' => e = .returned (.tuple #[.string (vput 3 ++ vput x.id ++ (vtext x.series ++ vput x.from_ ++ vput x.to_)), .int .i64 0]) ∧ Below w.heap.size w w' := by
  have hs40 := nameV_size hs
  have CH := fun wx (hb : Below w.heap.size w wx) => check3_any x wx hk hf ht (by omega)
  rw [if_pos ⟨hno, hs, hsp, hid⟩] at CH
  have hid : 0 ≤ x.id ∧ x.id ≤ 1099511627776 := by unfold idV at hid; simpa using hid
  have hsp : 0 ≤ x.from_ ∧ x.from_ ≤ x.to_ ∧ x.to_ ≤ 1099511627777 := by unfold spanV at hsp; simp at hsp; omega
  have TX := fun wx => text_any x.series wx (by omega)
  have z3 := vtext_le x.series hs40
  have z4 := vput_le x.from_
  have z5 := vput_le x.to_
  clear hf ht hno hs
  generalize vtext x.series = S1 at *
  obtain ⟨kind, id, series, from_, to_, np, nr, vec, time⟩ := x
  simp only at hk
  subst hk
  unfold Wi.arr at *
  simp only at *
  go_enter Tryz.func12, Tryz.ntmps12
  go_upto_region 1 with fail
  generalize hw1 : World.alloc _ _ = w1
  have KK := Lib.hid (show Kn w.heap.size w [(w.heap.size, wiO ⟨3, id, series, from_, to_, np, nr, vec, time⟩)] w1 by rw [← hw1]; exact (Kn.start w).new' rfl (wiO ⟨3, id, series, from_, to_, np, nr, vec, time⟩))
  clear hw1
  generalize hg : w.heap.size = g at *
  go_upto_region 4 with (first
    | refine wpList_load_row rfl 33 _ rfl g rfl 33 (Wi.arr ⟨3, id, series, from_, to_, np, nr, vec, time⟩) (0, 0) _ KK.out.hd Tryz.underlying33 rfl (by kernel_rfl) ?_
    | (go_at_call 16; refine (CH _ KK.out.b).mono ?_; rintro e w2 ⟨rfl, dn⟩; have KK := Lib.hid (KK.out.below dn); clear dn))
  have z1 := vput_le 3
  have z2 := vput_le id
  have n1 : ¬ (9223372036854775807 < (vput 3).size + (vput id).size) := by omega
  refine wp_region_held_drew (S := (fun wx => wx.cell? ⟨g, 0, none⟩ = some (.int .i64 3) ∧ wx.cell? ⟨g, 1, none⟩ = some (.int .i64 id))) (by kernel_rfl) ?_ (fun hHeld => ?_)
  focus ((try dsimp only); (try (exact wh_held KK.out rfl)); done)
  (refine wpAnyH_take (i := 0) (oi := ⟨some 17, Go.Op.fieldAddr 33 (.tmp 1) 0, 0, _, _, none⟩) (v := ?_) rfl (by kernel_rfl) (by kernel_rfl) (by kernel_rfl) (fun _ _ _ h => h) (Or.inl ⟨by rfl, ?_⟩) (by assumption) ?_; rotate_left; (focus (intro w hSw; ((try dsimp only at hSw); go_simp; try with_reducible rfl))); (try simp only [Act.put, sA, sZ, sS]))
  (refine wpAnyH_take (i := 1) (oi := ⟨some 18, Go.Op.load 3 (.tmp 17), 3, _, _, none⟩) (v := ?_) rfl (by kernel_rfl) (by kernel_rfl) (by kernel_rfl) (fun _ _ _ h => h) (Or.inl ⟨by rfl, ?_⟩) (by assumption) ?_; rotate_left; (focus (intro w hSw; ((try dsimp only at hSw); go_simp; try with_reducible rfl))); (try simp only [Act.put, sA, sZ, sS]))
  (refine wpAnyH_take (i := 3) (oi := ⟨some 20, Go.Op.fieldAddr 33 (.tmp 1) 1, 0, _, _, none⟩) (v := ?_) rfl (by kernel_rfl) (by kernel_rfl) (by kernel_rfl) (fun _ _ _ h => h) (Or.inl ⟨by rfl, ?_⟩) (by assumption) ?_; rotate_left; (focus (intro w hSw; ((try dsimp only at hSw); go_simp; try with_reducible rfl))); (try simp only [Act.put, sA, sZ, sS]))
  (refine wpAnyH_take (i := 4) (oi := ⟨some 21, Go.Op.load 3 (.tmp 20), 3, _, _, none⟩) (v := ?_) rfl (by kernel_rfl) (by kernel_rfl) (by kernel_rfl) (fun _ _ _ h => h) (Or.inl ⟨by rfl, ?_⟩) (by assumption) ?_; rotate_left; (focus (intro w hSw; ((try dsimp only at hSw); go_simp; try with_reducible rfl))); (try simp only [Act.put, sA, sZ, sS]))
  (refine wpAnyH_ready (rs := [2]) (by kernel_rfl) (by simp) ?_; refine AllReadyH.cons (o := ⟨some 19, Go.Op.call { callee := Go.Callee.value (.func 38), args := #[.tmp 18], argTypes := #[3] }, 9, _, _, none⟩) rfl (fun K hK => ?_) AllReadyH.nil; go_simp; ((go_at_call 38; refine (hnum_any _ _ (by first | decide | omega) (by first | decide | omega)).mono ?_; rintro e wn ⟨rfl, dn⟩; have KK := Lib.hid (Kn.later KK.out dn rfl rfl rfl rfl))); go_wp2_with fail; refine hK.out _ _ ?_ (fun hHeld => ?_); (focus ((try dsimp only); (try (exact wh_held KK.out rfl)); done)); clear hK; (try simp only [Act.put, sA, sZ, sS]))
  (refine wpAnyH_ready (rs := [5]) (by kernel_rfl) (by simp) ?_; refine AllReadyH.cons (o := ⟨some 22, Go.Op.call { callee := Go.Callee.value (.func 38), args := #[.tmp 21], argTypes := #[3] }, 9, _, _, none⟩) rfl (fun K hK => ?_) AllReadyH.nil; go_simp; ((go_at_call 38; refine (hnum_any _ _ (by first | decide | omega) (by first | decide | omega)).mono ?_; rintro e wn ⟨rfl, dn⟩; have KK := Lib.hid (Kn.later KK.out dn rfl rfl rfl rfl))); go_wp2_with fail; refine hK.out _ _ ?_ (fun hHeld => ?_); (focus ((try dsimp only); (try (exact wh_held KK.out rfl)); done)); clear hK; (try simp only [Act.put, sA, sZ, sS]))
  (refine wpAnyH_take (i := 6) (oi := ⟨some 23, Go.Op.binOp Go.BinOp.add 9 (.tmp 19) (.tmp 22) 9, 9, _, _, none⟩) (v := ?_) rfl (by kernel_rfl) (by kernel_rfl) (by kernel_rfl) (fun _ _ _ h => h) (Or.inl ⟨by rfl, ?_⟩) (by assumption) ?_; rotate_left; (focus (intro w hSw; ((try dsimp only at hSw); go_simp; try with_reducible rfl))); (try simp only [Act.put, sA, sZ, sS]))
  (refine wpAnyH_take (i := 7) (oi := ⟨some 5, Go.Op.assign (.tmp 23), 9, _, _, none⟩) (v := ?_) rfl (by kernel_rfl) (by kernel_rfl) (by kernel_rfl) (fun _ _ _ h => h) (Or.inl ⟨by rfl, ?_⟩) (by assumption) ?_; rotate_left; (focus (intro w hSw; ((try dsimp only at hSw); go_simp; try with_reducible rfl))); (try simp only [Act.put, sA, sZ, sS]))
  refine wpAnyH_done (by kernel_rfl) ?_ _
  clear hHeld
  have c0 := (wi_cells KK.out.hd rfl).c0
  simp only at c0
  have n1 : ¬ (9223372036854775807 < S1.size + (vput from_).size) := by omega
  have n2 : ¬ (9223372036854775807 < (S1 ++ vput from_).size + (vput to_).size) := by rw [ByteArray.size_append]; omega
  have n2' : ¬ (9223372036854775807 < S1.size + (vput from_).size + (vput to_).size) := by omega
  have n3 : ¬ (9223372036854775807 < (vput 3 ++ vput id).size + (S1 ++ vput from_ ++ vput to_).size) := by rw [ByteArray.size_append, ByteArray.size_append, ByteArray.size_append]; omega
  have n3' : ¬ (9223372036854775807 < (vput 3).size + (vput id).size + (S1.size + (vput from_).size + (vput to_).size)) := by omega
  go_upto_region 11 with fail
  refine wp_region_held_drew (S := (fun wx => wx.cell? ⟨g, 2, none⟩ = some (.string series) ∧ wx.cell? ⟨g, 3, none⟩ = some (.int .i64 from_) ∧ wx.cell? ⟨g, 4, none⟩ = some (.int .i64 to_))) (by kernel_rfl) ?_ (fun hHeld => ?_)
  focus ((try dsimp only); (try (exact wh_held3 KK.out rfl)); done)
  (refine wpAnyH_take (i := 0) (oi := ⟨some 41, Go.Op.move (.tmp 5), 9, _, _, none⟩) (v := ?_) rfl (by kernel_rfl) (by kernel_rfl) (by kernel_rfl) (fun _ _ _ h => h) (Or.inl ⟨by rfl, ?_⟩) (by assumption) ?_; rotate_left; (focus (intro w hSw; ((try dsimp only at hSw); go_simp; try with_reducible rfl))); (try simp only [Act.put, sA, sZ, sS]))
  (refine wpAnyH_take (i := 1) (oi := ⟨some 42, Go.Op.fieldAddr 33 (.tmp 1) 2, 0, _, _, none⟩) (v := ?_) rfl (by kernel_rfl) (by kernel_rfl) (by kernel_rfl) (fun _ _ _ h => h) (Or.inl ⟨by rfl, ?_⟩) (by assumption) ?_; rotate_left; (focus (intro w hSw; ((try dsimp only at hSw); go_simp; try with_reducible rfl))); (try simp only [Act.put, sA, sZ, sS]))
  (refine wpAnyH_take (i := 2) (oi := ⟨some 43, Go.Op.load 9 (.tmp 42), 9, _, _, none⟩) (v := ?_) rfl (by kernel_rfl) (by kernel_rfl) (by kernel_rfl) (fun _ _ _ h => h) (Or.inl ⟨by rfl, ?_⟩) (by assumption) ?_; rotate_left; (focus (intro w hSw; ((try dsimp only at hSw); go_simp; try with_reducible rfl))); (try simp only [Act.put, sA, sZ, sS]))
  (refine wpAnyH_take (i := 4) (oi := ⟨some 45, Go.Op.fieldAddr 33 (.tmp 1) 3, 0, _, _, none⟩) (v := ?_) rfl (by kernel_rfl) (by kernel_rfl) (by kernel_rfl) (fun _ _ _ h => h) (Or.inl ⟨by rfl, ?_⟩) (by assumption) ?_; rotate_left; (focus (intro w hSw; ((try dsimp only at hSw); go_simp; try with_reducible rfl))); (try simp only [Act.put, sA, sZ, sS]))
  (refine wpAnyH_take (i := 5) (oi := ⟨some 46, Go.Op.fieldAddr 30 (.tmp 45) 0, 0, _, _, none⟩) (v := ?_) rfl (by kernel_rfl) (by kernel_rfl) (by kernel_rfl) (fun _ _ _ h => h) (Or.inl ⟨by rfl, ?_⟩) (by assumption) ?_; rotate_left; (focus (intro w hSw; ((try dsimp only at hSw); go_simp; try with_reducible rfl))); (try simp only [Act.put, sA, sZ, sS]))
  (refine wpAnyH_take (i := 6) (oi := ⟨some 47, Go.Op.load 3 (.tmp 46), 3, _, _, none⟩) (v := ?_) rfl (by kernel_rfl) (by kernel_rfl) (by kernel_rfl) (fun _ _ _ h => h) (Or.inl ⟨by rfl, ?_⟩) (by assumption) ?_; rotate_left; (focus (intro w hSw; ((try dsimp only at hSw); go_simp; try with_reducible rfl))); (try simp only [Act.put, sA, sZ, sS]))
  (refine wpAnyH_take (i := 9) (oi := ⟨some 50, Go.Op.fieldAddr 33 (.tmp 1) 3, 0, _, _, none⟩) (v := ?_) rfl (by kernel_rfl) (by kernel_rfl) (by kernel_rfl) (fun _ _ _ h => h) (Or.inl ⟨by rfl, ?_⟩) (by assumption) ?_; rotate_left; (focus (intro w hSw; ((try dsimp only at hSw); go_simp; try with_reducible rfl))); (try simp only [Act.put, sA, sZ, sS]))
  (refine wpAnyH_take (i := 10) (oi := ⟨some 51, Go.Op.fieldAddr 30 (.tmp 50) 1, 0, _, _, none⟩) (v := ?_) rfl (by kernel_rfl) (by kernel_rfl) (by kernel_rfl) (fun _ _ _ h => h) (Or.inl ⟨by rfl, ?_⟩) (by assumption) ?_; rotate_left; (focus (intro w hSw; ((try dsimp only at hSw); go_simp; try with_reducible rfl))); (try simp only [Act.put, sA, sZ, sS]))
  (refine wpAnyH_take (i := 11) (oi := ⟨some 52, Go.Op.load 3 (.tmp 51), 3, _, _, none⟩) (v := ?_) rfl (by kernel_rfl) (by kernel_rfl) (by kernel_rfl) (fun _ _ _ h => h) (Or.inl ⟨by rfl, ?_⟩) (by assumption) ?_; rotate_left; (focus (intro w hSw; ((try dsimp only at hSw); go_simp; try with_reducible rfl))); (try simp only [Act.put, sA, sZ, sS]))
  (refine wpAnyH_ready (rs := [3]) (by kernel_rfl) (by simp) ?_; refine AllReadyH.cons (o := ⟨some 44, Go.Op.call { callee := Go.Callee.value (.func 40), args := #[.tmp 43], argTypes := #[9] }, 9, _, _, none⟩) rfl (fun K hK => ?_) AllReadyH.nil; go_simp; ((first | (go_at_call 40; refine (TX _).mono ?_; rintro e wn ⟨rfl, dn⟩; have KK := Lib.hid (Kn.later KK.out dn rfl rfl rfl rfl)) | (go_at_call 38; refine (hnum_any _ _ (by omega) (by omega)).mono ?_; rintro e wn ⟨rfl, dn⟩; have KK := Lib.hid (Kn.later KK.out dn rfl rfl rfl rfl)))); go_wp2_with fail; refine hK.out _ _ ?_ (fun hHeld => ?_); (focus ((try dsimp only); (try (exact wh_held3 KK.out rfl)); done)); clear hK; (try simp only [Act.put, sA, sZ, sS]))
  (refine wpAnyH_ready (rs := [7]) (by kernel_rfl) (by simp) ?_; refine AllReadyH.cons (o := ⟨some 48, Go.Op.call { callee := Go.Callee.value (.func 38), args := #[.tmp 47], argTypes := #[3] }, 9, _, _, none⟩) rfl (fun K hK => ?_) AllReadyH.nil; go_simp; ((first | (go_at_call 40; refine (TX _).mono ?_; rintro e wn ⟨rfl, dn⟩; have KK := Lib.hid (Kn.later KK.out dn rfl rfl rfl rfl)) | (go_at_call 38; refine (hnum_any _ _ (by omega) (by omega)).mono ?_; rintro e wn ⟨rfl, dn⟩; have KK := Lib.hid (Kn.later KK.out dn rfl rfl rfl rfl)))); go_wp2_with fail; refine hK.out _ _ ?_ (fun hHeld => ?_); (focus ((try dsimp only); (try (exact wh_held3 KK.out rfl)); done)); clear hK; (try simp only [Act.put, sA, sZ, sS]))
  (refine wpAnyH_take (i := 8) (oi := ⟨some 49, Go.Op.binOp Go.BinOp.add 9 (.tmp 44) (.tmp 48) 9, 9, _, _, none⟩) (v := ?_) rfl (by kernel_rfl) (by kernel_rfl) (by kernel_rfl) (fun _ _ _ h => h) (Or.inl ⟨by rfl, ?_⟩) (by assumption) ?_; rotate_left; (focus (intro w hSw; ((try dsimp only at hSw); go_simp; try with_reducible rfl))); (try simp only [Act.put, sA, sZ, sS]))
  (refine wpAnyH_ready (rs := [12]) (by kernel_rfl) (by simp) ?_; refine AllReadyH.cons (o := ⟨some 53, Go.Op.call { callee := Go.Callee.value (.func 38), args := #[.tmp 52], argTypes := #[3] }, 9, _, _, none⟩) rfl (fun K hK => ?_) AllReadyH.nil; go_simp; ((first | (go_at_call 40; refine (TX _).mono ?_; rintro e wn ⟨rfl, dn⟩; have KK := Lib.hid (Kn.later KK.out dn rfl rfl rfl rfl)) | (go_at_call 38; refine (hnum_any _ _ (by omega) (by omega)).mono ?_; rintro e wn ⟨rfl, dn⟩; have KK := Lib.hid (Kn.later KK.out dn rfl rfl rfl rfl)))); go_wp2_with fail; refine hK.out _ _ ?_ (fun hHeld => ?_); (focus ((try dsimp only); (try (exact wh_held3 KK.out rfl)); done)); clear hK; (try simp only [Act.put, sA, sZ, sS]))
  (refine wpAnyH_take (i := 13) (oi := ⟨some 54, Go.Op.binOp Go.BinOp.add 9 (.tmp 49) (.tmp 53) 9, 9, _, _, none⟩) (v := ?_) rfl (by kernel_rfl) (by kernel_rfl) (by kernel_rfl) (fun _ _ _ h => h) (Or.inl ⟨by rfl, ?_⟩) (by assumption) ?_; rotate_left; (focus (intro w hSw; ((try dsimp only at hSw); go_simp; try with_reducible rfl))); (try simp only [Act.put, sA, sZ, sS]))
  (refine wpAnyH_take (i := 14) (oi := ⟨some 55, Go.Op.binOp Go.BinOp.add 9 (.tmp 41) (.tmp 54) 9, 9, _, _, none⟩) (v := ?_) rfl (by kernel_rfl) (by kernel_rfl) (by kernel_rfl) (fun _ _ _ h => h) (Or.inl ⟨by rfl, ?_⟩) (by assumption) ?_; rotate_left; (focus (intro w hSw; ((try dsimp only at hSw); go_simp; try with_reducible rfl))); (try simp only [Act.put, sA, sZ, sS]))
  (refine wpAnyH_take (i := 15) (oi := ⟨some 5, Go.Op.assign (.tmp 55), 9, _, _, none⟩) (v := ?_) rfl (by kernel_rfl) (by kernel_rfl) (by kernel_rfl) (fun _ _ _ h => h) (Or.inl ⟨by rfl, ?_⟩) (by assumption) ?_; rotate_left; (focus (intro w hSw; ((try dsimp only at hSw); go_simp; try with_reducible rfl))); (try simp only [Act.put, sA, sZ, sS]))
  refine wpAnyH_done (by kernel_rfl) ?_ _
  go_wp2_with fail
  refine bodyPost_ret (v := .tuple #[.string (vput 3 ++ vput id ++ (S1 ++ vput from_ ++ vput to_)), .int .i64 0]) (by simp [results, Tryz.results12, go_sem, *]) rfl ⟨rfl, by first | exact (Kn.same KK.out rfl rfl rfl rfl).b | (rw [hg]; exact (Kn.same KK.out rfl rfl rfl rfl).b)⟩
end
end Go.Proofs.YtglabahbklpocaaGreat
