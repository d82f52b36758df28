/- The reference's Bytes of messages, given what its Check says: points; asks; vectors. -/
import Derived.Test.YtglabahbklpocaaGreatGShipWrites42
import Derived.Test.YtglabahbklpocaaGreatGShipWrites43
import Derived.Test.YtglabahbklpocaaGreatGShipWrites16
namespace Go.Proofs.YtglabahbklpocaaGreat
section
open Go.RowKit Go.Deep
set_option maxRecDepth 100000
set_option linter.unusedVariables false
set_option linter.unusedSimpArgs false
attribute [local go_sem ↓] Go.wp_at_zero Go.wp_at_succ
set_option maxHeartbeats 8000000 in
theorem rbytes1_any (x : Wi) (ps : List Pt) (w : World) (hk : x.kind = 1) (hp : SlP w x.np ps) (hid : 0 ≤ x.id ∧ x.id ≤ 1099511627776) (hn : x.np.n ≤ 200) (hok : okPts ps) (CH : ∀ wx, Below w.heap.size w wx → Calls Tryz.prog 17 #[.agg x.arr] wx fun e w' => e = .returned (.int .i64 0) ∧ Below wx.heap.size wx w') :
    Calls Tryz.prog 15 #[.agg x.arr] w fun e w' => e = .returned (.tuple #[.string (vput 1 ++ vput x.id ++ vtext ⟨(ptsL ps).toArray⟩), .int .i64 0]) ∧ Below w.heap.size w w' := by
  have HPP := Lib.hid hp
  have hlen : ps.length = x.np.n := hp.r.1
  have MT := fun wx (hb : Below w.heap.size w wx) => rpoints_any x.np.a x.np.n x.np.c ps wx ((HPP.out.below hb).r) HPP.out.wf HPP.out.nc HPP.out.cb
  have e0 : ptsV ps = (⟨(ptsL ps).toArray⟩, 0) := by unfold ptsV; rw [if_pos hok, if_pos (by omega)]
  rw [e0] at MT
  simp only at MT
  have hms : (⟨(ptsL ps).toArray⟩ : ByteArray).size ≤ 100000 := by
    show (ptsL ps).length ≤ _
    have := ptsL_le hok
    omega
  have TX := fun wx => rtext_any (⟨(ptsL ps).toArray⟩ : ByteArray) wx (by omega)
  have htx : (vtext (⟨(ptsL ps).toArray⟩ : ByteArray)).size ≤ 200000 := vtext_le2 _ (by omega)
  generalize (⟨(ptsL ps).toArray⟩ : ByteArray) = P at *
  generalize vtext P = M at *
  clear hp HPP e0 hok hlen
  obtain ⟨kind, id, series, from_, to_, np, nr, vec, time⟩ := x
  simp only at hk
  subst hk
  unfold Wi.arr at *
  simp only at *
  go_enter Tryz.func15, Tryz.ntmps15
  go_upto_region 1 with fail
  generalize hw1 : World.alloc _ _ = w1
  have KK := Lib.hid (show Kn w.heap.size w [(w.heap.size, wiO ⟨1, id, series, from_, to_, np, nr, vec, time⟩)] w1 by rw [← hw1]; exact (Kn.start w).new' rfl (wiO ⟨1, id, series, from_, to_, np, nr, vec, time⟩))
  clear hw1
  generalize hg : w.heap.size = g at *
  go_upto_region 4 with (first
    | refine wpList_load_row rfl 33 _ rfl g rfl 33 (Wi.arr ⟨1, id, series, from_, to_, np, nr, vec, time⟩) (0, 0) _ KK.out.hd Tryz.underlying33 rfl (by kernel_rfl) ?_
    | (go_at_call 17; refine (CH _ KK.out.b).mono ?_; rintro e w2 ⟨rfl, dn⟩; have KK := Lib.hid (KK.out.below dn); clear dn))
  have z1 := vput_le 1
  have z2 := vput_le id
  have n1 : ¬ (9223372036854775807 < (vput 1).size + (vput id).size) := by omega
  have u1 : IntKind.u64.wrap id = id := by rw [wrap_u64]; omega
  have u0 : IntKind.u64.wrap 1 = 1 := by rw [wrap_u64]; rfl
  refine wp_region_held_drew (S := (fun wx => wx.cell? ⟨g, 0, none⟩ = some (.int .i64 1) ∧ wx.cell? ⟨g, 1, none⟩ = some (.int .i64 id))) (by kernel_rfl) ?_ (fun hHeld => ?_)
  focus ((try dsimp only); (try (exact wh_held KK.out rfl)); done)
  (refine wpAnyH_take (i := 0) (oi := { dst := some 16, op := Go.Op.fieldAddr 33 (Go.Operand.tmp 1) 0, type := 0, pos := _, after := _, guard := none }) (v := ?_) rfl (by kernel_rfl) (by kernel_rfl) (by kernel_rfl) (fun _ _ _ h => h) (Or.inl ⟨by rfl, ?_⟩) (by assumption) ?_; rotate_left; (focus (intro w hSw; ((try dsimp only at hSw); go_simp; try with_reducible rfl))); (try simp only [Act.put, sA, sZ, sS]))
  (refine wpAnyH_take (i := 1) (oi := { dst := some 17, op := Go.Op.load 3 (Go.Operand.tmp 16), type := 3, pos := _, after := _, guard := none }) (v := ?_) rfl (by kernel_rfl) (by kernel_rfl) (by kernel_rfl) (fun _ _ _ h => h) (Or.inl ⟨by rfl, ?_⟩) (by assumption) ?_; rotate_left; (focus (intro w hSw; ((try dsimp only at hSw); go_simp; try with_reducible rfl))); (try simp only [Act.put, sA, sZ, sS]))
  (refine wpAnyH_take (i := 2) (oi := { dst := some 18, op := Go.Op.convert 3 92 (Go.Operand.tmp 17), type := 92, pos := _, after := _, guard := none }) (v := ?_) rfl (by kernel_rfl) (by kernel_rfl) (by kernel_rfl) (fun _ _ _ h => h) (Or.inl ⟨by rfl, ?_⟩) (by assumption) ?_; rotate_left; (focus (intro w hSw; ((try dsimp only at hSw); go_simp; try with_reducible rfl))); (try simp only [Act.put, sA, sZ, sS]))
  (refine wpAnyH_take (i := 4) (oi := { dst := some 20, op := Go.Op.fieldAddr 33 (Go.Operand.tmp 1) 1, type := 0, pos := _, after := _, guard := none }) (v := ?_) rfl (by kernel_rfl) (by kernel_rfl) (by kernel_rfl) (fun _ _ _ h => h) (Or.inl ⟨by rfl, ?_⟩) (by assumption) ?_; rotate_left; (focus (intro w hSw; ((try dsimp only at hSw); go_simp; try with_reducible rfl))); (try simp only [Act.put, sA, sZ, sS]))
  (refine wpAnyH_take (i := 5) (oi := { dst := some 21, op := Go.Op.load 3 (Go.Operand.tmp 20), type := 3, pos := _, after := _, guard := none }) (v := ?_) rfl (by kernel_rfl) (by kernel_rfl) (by kernel_rfl) (fun _ _ _ h => h) (Or.inl ⟨by rfl, ?_⟩) (by assumption) ?_; rotate_left; (focus (intro w hSw; ((try dsimp only at hSw); go_simp; try with_reducible rfl))); (try simp only [Act.put, sA, sZ, sS]))
  (refine wpAnyH_take (i := 6) (oi := { dst := some 22, op := Go.Op.convert 3 92 (Go.Operand.tmp 21), type := 92, pos := _, after := _, guard := none }) (v := ?_) rfl (by kernel_rfl) (by kernel_rfl) (by kernel_rfl) (fun _ _ _ h => h) (Or.inl ⟨by rfl, ?_⟩) (by assumption) ?_; rotate_left; (focus (intro w hSw; ((try dsimp only at hSw); go_simp; try with_reducible rfl))); (try simp only [Act.put, sA, sZ, sS]))
  (refine wpAnyH_ready (rs := [3]) (by kernel_rfl) (by simp) ?_; refine AllReadyH.cons (o := { dst := some 19, op := Go.Op.call { callee := Go.Callee.value (Go.Operand.func 55), args := #[Go.Operand.tmp 18], argTypes := #[92] }, type := 9, pos := _, after := _, guard := none }) rfl (fun K hK => ?_) AllReadyH.nil; go_simp; ((go_at_call 55; refine (rput_any _ _ (by first | decide | omega) (by first | decide | omega)).mono ?_; rintro e wn ⟨rfl, dn⟩; have KK := Lib.hid (Kn.later KK.out dn rfl rfl rfl rfl))); go_wp2_with fail; refine hK.out _ _ ?_ (fun hHeld => ?_); (focus ((try dsimp only); (try (exact wh_held KK.out rfl)); done)); clear hK; (try simp only [Act.put, sA, sZ, sS]))
  (refine wpAnyH_ready (rs := [7]) (by kernel_rfl) (by simp) ?_; refine AllReadyH.cons (o := { dst := some 23, op := Go.Op.call { callee := Go.Callee.value (Go.Operand.func 55), args := #[Go.Operand.tmp 22], argTypes := #[92] }, type := 9, pos := _, after := _, guard := none }) rfl (fun K hK => ?_) AllReadyH.nil; go_simp; ((go_at_call 55; refine (rput_any _ _ (by first | decide | omega) (by first | decide | omega)).mono ?_; rintro e wn ⟨rfl, dn⟩; have KK := Lib.hid (Kn.later KK.out dn rfl rfl rfl rfl))); go_wp2_with fail; refine hK.out _ _ ?_ (fun hHeld => ?_); (focus ((try dsimp only); (try (exact wh_held KK.out rfl)); done)); clear hK; (try simp only [Act.put, sA, sZ, sS]))
  (refine wpAnyH_take (i := 8) (oi := { dst := some 24, op := Go.Op.binOp Go.BinOp.add 9 (Go.Operand.tmp 19) (Go.Operand.tmp 23) 9, type := 9, pos := _, after := _, guard := none }) (v := ?_) rfl (by kernel_rfl) (by kernel_rfl) (by kernel_rfl) (fun _ _ _ h => h) (Or.inl ⟨by rfl, ?_⟩) (by assumption) ?_; rotate_left; (focus (intro w hSw; ((try dsimp only at hSw); go_simp; try with_reducible rfl))); (try simp only [Act.put, sA, sZ, sS]))
  (refine wpAnyH_take (i := 9) (oi := { dst := some 5, op := Go.Op.assign (Go.Operand.tmp 24), type := 9, pos := _, after := _, guard := none }) (v := ?_) rfl (by kernel_rfl) (by kernel_rfl) (by kernel_rfl) (fun _ _ _ h => h) (Or.inl ⟨by rfl, ?_⟩) (by assumption) ?_; rotate_left; (focus (intro w hSw; ((try dsimp only at hSw); go_simp; try with_reducible rfl))); (try simp only [Act.put, sA, sZ, sS]))
  refine wpAnyH_done (by kernel_rfl) ?_ _
  clear hHeld
  have c0 := (wi_cells KK.out.hd rfl).c0
  have c5 := (wi_cells KK.out.hd rfl).c5
  simp only at c0 c5
  have n2 : ¬ (9223372036854775807 < (vput 1 ++ vput id).size + M.size) := by rw [ByteArray.size_append]; omega
  have n3 : ¬ (9223372036854775807 < (vput 1).size + (vput id).size + M.size) := by omega
  go_wp2_with (first
    | (go_at_call 56; refine (MT _ KK.out.b).mono ?_; rintro e w5 ⟨rfl, dn⟩; have KK := Lib.hid (KK.out.below dn); clear dn)
    | (go_at_call 57; refine (TX _).mono ?_; rintro e w6 ⟨rfl, dn⟩; have KK := Lib.hid (KK.out.below dn); clear dn))
  refine bodyPost_ret (v := .tuple #[.string (vput 1 ++ vput id ++ M), .int .i64 0]) (by simp [results, Tryz.results15, go_sem, *]) rfl ⟨rfl, by first | exact KK.out.b | (rw [hg]; exact KK.out.b)⟩
set_option maxHeartbeats 8000000 in
theorem rbytes4_any (x : Wi) (ps : List Pt) (w : World) (hk : x.kind = 4) (hp : SlP w x.np ps) (hid : 0 ≤ x.id ∧ x.id ≤ 1099511627776) (hn : x.np.n ≤ 200) (hok : okPts ps) (CH : ∀ wx, Below w.heap.size w wx → Calls Tryz.prog 17 #[.agg x.arr] wx fun e w' => e = .returned (.int .i64 0) ∧ Below wx.heap.size wx w') :
    Calls Tryz.prog 15 #[.agg x.arr] w fun e w' => e = .returned (.tuple #[.string (vput 4 ++ vput x.id ++ vtext ⟨(ptsL ps).toArray⟩), .int .i64 0]) ∧ Below w.heap.size w w' := by
  have HPP := Lib.hid hp
  have hlen : ps.length = x.np.n := hp.r.1
  have MT := fun wx (hb : Below w.heap.size w wx) => rpoints_any x.np.a x.np.n x.np.c ps wx ((HPP.out.below hb).r) HPP.out.wf HPP.out.nc HPP.out.cb
  have e0 : ptsV ps = (⟨(ptsL ps).toArray⟩, 0) := by unfold ptsV; rw [if_pos hok, if_pos (by omega)]
  rw [e0] at MT
  simp only at MT
  have hms : (⟨(ptsL ps).toArray⟩ : ByteArray).size ≤ 100000 := by
    show (ptsL ps).length ≤ _
    have := ptsL_le hok
    omega
  have TX := fun wx => rtext_any (⟨(ptsL ps).toArray⟩ : ByteArray) wx (by omega)
  have htx : (vtext (⟨(ptsL ps).toArray⟩ : ByteArray)).size ≤ 200000 := vtext_le2 _ (by omega)
  generalize (⟨(ptsL ps).toArray⟩ : ByteArray) = P at *
  generalize vtext P = M at *
  clear hp HPP e0 hok hlen
  obtain ⟨kind, id, series, from_, to_, np, nr, vec, time⟩ := x
  simp only at hk
  subst hk
  unfold Wi.arr at *
  simp only at *
  go_enter Tryz.func15, Tryz.ntmps15
  go_upto_region 1 with fail
  generalize hw1 : World.alloc _ _ = w1
  have KK := Lib.hid (show Kn w.heap.size w [(w.heap.size, wiO ⟨4, id, series, from_, to_, np, nr, vec, time⟩)] w1 by rw [← hw1]; exact (Kn.start w).new' rfl (wiO ⟨4, id, series, from_, to_, np, nr, vec, time⟩))
  clear hw1
  generalize hg : w.heap.size = g at *
  go_upto_region 4 with (first
    | refine wpList_load_row rfl 33 _ rfl g rfl 33 (Wi.arr ⟨4, id, series, from_, to_, np, nr, vec, time⟩) (0, 0) _ KK.out.hd Tryz.underlying33 rfl (by kernel_rfl) ?_
    | (go_at_call 17; refine (CH _ KK.out.b).mono ?_; rintro e w2 ⟨rfl, dn⟩; have KK := Lib.hid (KK.out.below dn); clear dn))
  have z1 := vput_le 4
  have z2 := vput_le id
  have n1 : ¬ (9223372036854775807 < (vput 4).size + (vput id).size) := by omega
  have u1 : IntKind.u64.wrap id = id := by rw [wrap_u64]; omega
  have u0 : IntKind.u64.wrap 4 = 4 := by rw [wrap_u64]; rfl
  refine wp_region_held_drew (S := (fun wx => wx.cell? ⟨g, 0, none⟩ = some (.int .i64 4) ∧ wx.cell? ⟨g, 1, none⟩ = some (.int .i64 id))) (by kernel_rfl) ?_ (fun hHeld => ?_)
  focus ((try dsimp only); (try (exact wh_held KK.out rfl)); done)
  (refine wpAnyH_take (i := 0) (oi := { dst := some 16, op := Go.Op.fieldAddr 33 (Go.Operand.tmp 1) 0, type := 0, pos := _, after := _, guard := none }) (v := ?_) rfl (by kernel_rfl) (by kernel_rfl) (by kernel_rfl) (fun _ _ _ h => h) (Or.inl ⟨by rfl, ?_⟩) (by assumption) ?_; rotate_left; (focus (intro w hSw; ((try dsimp only at hSw); go_simp; try with_reducible rfl))); (try simp only [Act.put, sA, sZ, sS]))
  (refine wpAnyH_take (i := 1) (oi := { dst := some 17, op := Go.Op.load 3 (Go.Operand.tmp 16), type := 3, pos := _, after := _, guard := none }) (v := ?_) rfl (by kernel_rfl) (by kernel_rfl) (by kernel_rfl) (fun _ _ _ h => h) (Or.inl ⟨by rfl, ?_⟩) (by assumption) ?_; rotate_left; (focus (intro w hSw; ((try dsimp only at hSw); go_simp; try with_reducible rfl))); (try simp only [Act.put, sA, sZ, sS]))
  (refine wpAnyH_take (i := 2) (oi := { dst := some 18, op := Go.Op.convert 3 92 (Go.Operand.tmp 17), type := 92, pos := _, after := _, guard := none }) (v := ?_) rfl (by kernel_rfl) (by kernel_rfl) (by kernel_rfl) (fun _ _ _ h => h) (Or.inl ⟨by rfl, ?_⟩) (by assumption) ?_; rotate_left; (focus (intro w hSw; ((try dsimp only at hSw); go_simp; try with_reducible rfl))); (try simp only [Act.put, sA, sZ, sS]))
  (refine wpAnyH_take (i := 4) (oi := { dst := some 20, op := Go.Op.fieldAddr 33 (Go.Operand.tmp 1) 1, type := 0, pos := _, after := _, guard := none }) (v := ?_) rfl (by kernel_rfl) (by kernel_rfl) (by kernel_rfl) (fun _ _ _ h => h) (Or.inl ⟨by rfl, ?_⟩) (by assumption) ?_; rotate_left; (focus (intro w hSw; ((try dsimp only at hSw); go_simp; try with_reducible rfl))); (try simp only [Act.put, sA, sZ, sS]))
  (refine wpAnyH_take (i := 5) (oi := { dst := some 21, op := Go.Op.load 3 (Go.Operand.tmp 20), type := 3, pos := _, after := _, guard := none }) (v := ?_) rfl (by kernel_rfl) (by kernel_rfl) (by kernel_rfl) (fun _ _ _ h => h) (Or.inl ⟨by rfl, ?_⟩) (by assumption) ?_; rotate_left; (focus (intro w hSw; ((try dsimp only at hSw); go_simp; try with_reducible rfl))); (try simp only [Act.put, sA, sZ, sS]))
  (refine wpAnyH_take (i := 6) (oi := { dst := some 22, op := Go.Op.convert 3 92 (Go.Operand.tmp 21), type := 92, pos := _, after := _, guard := none }) (v := ?_) rfl (by kernel_rfl) (by kernel_rfl) (by kernel_rfl) (fun _ _ _ h => h) (Or.inl ⟨by rfl, ?_⟩) (by assumption) ?_; rotate_left; (focus (intro w hSw; ((try dsimp only at hSw); go_simp; try with_reducible rfl))); (try simp only [Act.put, sA, sZ, sS]))
  (refine wpAnyH_ready (rs := [3]) (by kernel_rfl) (by simp) ?_; refine AllReadyH.cons (o := { dst := some 19, op := Go.Op.call { callee := Go.Callee.value (Go.Operand.func 55), args := #[Go.Operand.tmp 18], argTypes := #[92] }, type := 9, pos := _, after := _, guard := none }) rfl (fun K hK => ?_) AllReadyH.nil; go_simp; ((go_at_call 55; refine (rput_any _ _ (by first | decide | omega) (by first | decide | omega)).mono ?_; rintro e wn ⟨rfl, dn⟩; have KK := Lib.hid (Kn.later KK.out dn rfl rfl rfl rfl))); go_wp2_with fail; refine hK.out _ _ ?_ (fun hHeld => ?_); (focus ((try dsimp only); (try (exact wh_held KK.out rfl)); done)); clear hK; (try simp only [Act.put, sA, sZ, sS]))
  (refine wpAnyH_ready (rs := [7]) (by kernel_rfl) (by simp) ?_; refine AllReadyH.cons (o := { dst := some 23, op := Go.Op.call { callee := Go.Callee.value (Go.Operand.func 55), args := #[Go.Operand.tmp 22], argTypes := #[92] }, type := 9, pos := _, after := _, guard := none }) rfl (fun K hK => ?_) AllReadyH.nil; go_simp; ((go_at_call 55; refine (rput_any _ _ (by first | decide | omega) (by first | decide | omega)).mono ?_; rintro e wn ⟨rfl, dn⟩; have KK := Lib.hid (Kn.later KK.out dn rfl rfl rfl rfl))); go_wp2_with fail; refine hK.out _ _ ?_ (fun hHeld => ?_); (focus ((try dsimp only); (try (exact wh_held KK.out rfl)); done)); clear hK; (try simp only [Act.put, sA, sZ, sS]))
  (refine wpAnyH_take (i := 8) (oi := { dst := some 24, op := Go.Op.binOp Go.BinOp.add 9 (Go.Operand.tmp 19) (Go.Operand.tmp 23) 9, type := 9, pos := _, after := _, guard := none }) (v := ?_) rfl (by kernel_rfl) (by kernel_rfl) (by kernel_rfl) (fun _ _ _ h => h) (Or.inl ⟨by rfl, ?_⟩) (by assumption) ?_; rotate_left; (focus (intro w hSw; ((try dsimp only at hSw); go_simp; try with_reducible rfl))); (try simp only [Act.put, sA, sZ, sS]))
  (refine wpAnyH_take (i := 9) (oi := { dst := some 5, op := Go.Op.assign (Go.Operand.tmp 24), type := 9, pos := _, after := _, guard := none }) (v := ?_) rfl (by kernel_rfl) (by kernel_rfl) (by kernel_rfl) (fun _ _ _ h => h) (Or.inl ⟨by rfl, ?_⟩) (by assumption) ?_; rotate_left; (focus (intro w hSw; ((try dsimp only at hSw); go_simp; try with_reducible rfl))); (try simp only [Act.put, sA, sZ, sS]))
  refine wpAnyH_done (by kernel_rfl) ?_ _
  clear hHeld
  have c0 := (wi_cells KK.out.hd rfl).c0
  have c5 := (wi_cells KK.out.hd rfl).c5
  simp only at c0 c5
  have n2 : ¬ (9223372036854775807 < (vput 4 ++ vput id).size + M.size) := by rw [ByteArray.size_append]; omega
  have n3 : ¬ (9223372036854775807 < (vput 4).size + (vput id).size + M.size) := by omega
  go_wp2_with (first
    | (go_at_call 56; refine (MT _ KK.out.b).mono ?_; rintro e w5 ⟨rfl, dn⟩; have KK := Lib.hid (KK.out.below dn); clear dn)
    | (go_at_call 57; refine (TX _).mono ?_; rintro e w6 ⟨rfl, dn⟩; have KK := Lib.hid (KK.out.below dn); clear dn))
  refine bodyPost_ret (v := .tuple #[.string (vput 4 ++ vput id ++ M), .int .i64 0]) (by simp [results, Tryz.results15, go_sem, *]) rfl ⟨rfl, by first | exact KK.out.b | (rw [hg]; exact KK.out.b)⟩
set_option maxHeartbeats 8000000 in
theorem rbytes6_any (x : Wi) (vs : List Int) (w : World) (hk : x.kind = 6) (hid : 0 ≤ x.id ∧ x.id ≤ 1099511627776) (hv : SlR w x.vec vs) (CH : ∀ wx, Below w.heap.size w wx → Calls Tryz.prog 17 #[.agg x.arr] wx fun e w' => e = .returned (.int .i64 0) ∧ Below wx.heap.size wx w') :
    Calls Tryz.prog 15 #[.agg x.arr] w fun e w' => e = .returned (.tuple #[.string (vput 6 ++ vput x.id ++ vecB vs), .int .i64 0]) ∧ Below w.heap.size w w' := by
  have HVV := Lib.hid hv
  have MT := fun wx (hb : Below w.heap.size w wx) => rmtext_any x.vec.a x.vec.n x.vec.c vs wx ((HVV.out.below hb).r) HVV.out.nc HVV.out.cb
  have hms := vecB_le vs
  unfold vecB at hms ⊢
  generalize (⟨(mtB (pl vs)).toArray⟩ : ByteArray) = M at *
  clear hv HVV
  obtain ⟨kind, id, series, from_, to_, np, nr, vec, time⟩ := x
  simp only at hk
  subst hk
  unfold Wi.arr at *
  simp only at *
  go_enter Tryz.func15, Tryz.ntmps15
  go_upto_region 1 with fail
  generalize hw1 : World.alloc _ _ = w1
  have KK := Lib.hid (show Kn w.heap.size w [(w.heap.size, wiO ⟨6, id, series, from_, to_, np, nr, vec, time⟩)] w1 by rw [← hw1]; exact (Kn.start w).new' rfl (wiO ⟨6, id, series, from_, to_, np, nr, vec, time⟩))
  clear hw1
  generalize hg : w.heap.size = g at *
  go_upto_region 4 with (first
    | refine wpList_load_row rfl 33 _ rfl g rfl 33 (Wi.arr ⟨6, id, series, from_, to_, np, nr, vec, time⟩) (0, 0) _ KK.out.hd Tryz.underlying33 rfl (by kernel_rfl) ?_
    | (go_at_call 17; refine (CH _ KK.out.b).mono ?_; rintro e w2 ⟨rfl, dn⟩; have KK := Lib.hid (KK.out.below dn); clear dn))
  have z1 := vput_le 6
  have z2 := vput_le id
  have n1 : ¬ (9223372036854775807 < (vput 6).size + (vput id).size) := by omega
  have u1 : IntKind.u64.wrap id = id := by rw [wrap_u64]; omega
  have u0 : IntKind.u64.wrap 6 = 6 := by rw [wrap_u64]; rfl
  refine wp_region_held_drew (S := (fun wx => wx.cell? ⟨g, 0, none⟩ = some (.int .i64 6) ∧ wx.cell? ⟨g, 1, none⟩ = some (.int .i64 id))) (by kernel_rfl) ?_ (fun hHeld => ?_)
  focus ((try dsimp only); (try (exact wh_held KK.out rfl)); done)
  (refine wpAnyH_take (i := 0) (oi := { dst := some 16, op := Go.Op.fieldAddr 33 (Go.Operand.tmp 1) 0, type := 0, pos := _, after := _, guard := none }) (v := ?_) rfl (by kernel_rfl) (by kernel_rfl) (by kernel_rfl) (fun _ _ _ h => h) (Or.inl ⟨by rfl, ?_⟩) (by assumption) ?_; rotate_left; (focus (intro w hSw; ((try dsimp only at hSw); go_simp; try with_reducible rfl))); (try simp only [Act.put, sA, sZ, sS]))
  (refine wpAnyH_take (i := 1) (oi := { dst := some 17, op := Go.Op.load 3 (Go.Operand.tmp 16), type := 3, pos := _, after := _, guard := none }) (v := ?_) rfl (by kernel_rfl) (by kernel_rfl) (by kernel_rfl) (fun _ _ _ h => h) (Or.inl ⟨by rfl, ?_⟩) (by assumption) ?_; rotate_left; (focus (intro w hSw; ((try dsimp only at hSw); go_simp; try with_reducible rfl))); (try simp only [Act.put, sA, sZ, sS]))
  (refine wpAnyH_take (i := 2) (oi := { dst := some 18, op := Go.Op.convert 3 92 (Go.Operand.tmp 17), type := 92, pos := _, after := _, guard := none }) (v := ?_) rfl (by kernel_rfl) (by kernel_rfl) (by kernel_rfl) (fun _ _ _ h => h) (Or.inl ⟨by rfl, ?_⟩) (by assumption) ?_; rotate_left; (focus (intro w hSw; ((try dsimp only at hSw); go_simp; try with_reducible rfl))); (try simp only [Act.put, sA, sZ, sS]))
  (refine wpAnyH_take (i := 4) (oi := { dst := some 20, op := Go.Op.fieldAddr 33 (Go.Operand.tmp 1) 1, type := 0, pos := _, after := _, guard := none }) (v := ?_) rfl (by kernel_rfl) (by kernel_rfl) (by kernel_rfl) (fun _ _ _ h => h) (Or.inl ⟨by rfl, ?_⟩) (by assumption) ?_; rotate_left; (focus (intro w hSw; ((try dsimp only at hSw); go_simp; try with_reducible rfl))); (try simp only [Act.put, sA, sZ, sS]))
  (refine wpAnyH_take (i := 5) (oi := { dst := some 21, op := Go.Op.load 3 (Go.Operand.tmp 20), type := 3, pos := _, after := _, guard := none }) (v := ?_) rfl (by kernel_rfl) (by kernel_rfl) (by kernel_rfl) (fun _ _ _ h => h) (Or.inl ⟨by rfl, ?_⟩) (by assumption) ?_; rotate_left; (focus (intro w hSw; ((try dsimp only at hSw); go_simp; try with_reducible rfl))); (try simp only [Act.put, sA, sZ, sS]))
  (refine wpAnyH_take (i := 6) (oi := { dst := some 22, op := Go.Op.convert 3 92 (Go.Operand.tmp 21), type := 92, pos := _, after := _, guard := none }) (v := ?_) rfl (by kernel_rfl) (by kernel_rfl) (by kernel_rfl) (fun _ _ _ h => h) (Or.inl ⟨by rfl, ?_⟩) (by assumption) ?_; rotate_left; (focus (intro w hSw; ((try dsimp only at hSw); go_simp; try with_reducible rfl))); (try simp only [Act.put, sA, sZ, sS]))
  (refine wpAnyH_ready (rs := [3]) (by kernel_rfl) (by simp) ?_; refine AllReadyH.cons (o := { dst := some 19, op := Go.Op.call { callee := Go.Callee.value (Go.Operand.func 55), args := #[Go.Operand.tmp 18], argTypes := #[92] }, type := 9, pos := _, after := _, guard := none }) rfl (fun K hK => ?_) AllReadyH.nil; go_simp; ((go_at_call 55; refine (rput_any _ _ (by first | decide | omega) (by first | decide | omega)).mono ?_; rintro e wn ⟨rfl, dn⟩; have KK := Lib.hid (Kn.later KK.out dn rfl rfl rfl rfl))); go_wp2_with fail; refine hK.out _ _ ?_ (fun hHeld => ?_); (focus ((try dsimp only); (try (exact wh_held KK.out rfl)); done)); clear hK; (try simp only [Act.put, sA, sZ, sS]))
  (refine wpAnyH_ready (rs := [7]) (by kernel_rfl) (by simp) ?_; refine AllReadyH.cons (o := { dst := some 23, op := Go.Op.call { callee := Go.Callee.value (Go.Operand.func 55), args := #[Go.Operand.tmp 22], argTypes := #[92] }, type := 9, pos := _, after := _, guard := none }) rfl (fun K hK => ?_) AllReadyH.nil; go_simp; ((go_at_call 55; refine (rput_any _ _ (by first | decide | omega) (by first | decide | omega)).mono ?_; rintro e wn ⟨rfl, dn⟩; have KK := Lib.hid (Kn.later KK.out dn rfl rfl rfl rfl))); go_wp2_with fail; refine hK.out _ _ ?_ (fun hHeld => ?_); (focus ((try dsimp only); (try (exact wh_held KK.out rfl)); done)); clear hK; (try simp only [Act.put, sA, sZ, sS]))
  (refine wpAnyH_take (i := 8) (oi := { dst := some 24, op := Go.Op.binOp Go.BinOp.add 9 (Go.Operand.tmp 19) (Go.Operand.tmp 23) 9, type := 9, pos := _, after := _, guard := none }) (v := ?_) rfl (by kernel_rfl) (by kernel_rfl) (by kernel_rfl) (fun _ _ _ h => h) (Or.inl ⟨by rfl, ?_⟩) (by assumption) ?_; rotate_left; (focus (intro w hSw; ((try dsimp only at hSw); go_simp; try with_reducible rfl))); (try simp only [Act.put, sA, sZ, sS]))
  (refine wpAnyH_take (i := 9) (oi := { dst := some 5, op := Go.Op.assign (Go.Operand.tmp 24), type := 9, pos := _, after := _, guard := none }) (v := ?_) rfl (by kernel_rfl) (by kernel_rfl) (by kernel_rfl) (fun _ _ _ h => h) (Or.inl ⟨by rfl, ?_⟩) (by assumption) ?_; rotate_left; (focus (intro w hSw; ((try dsimp only at hSw); go_simp; try with_reducible rfl))); (try simp only [Act.put, sA, sZ, sS]))
  refine wpAnyH_done (by kernel_rfl) ?_ _
  clear hHeld
  have c0 := (wi_cells KK.out.hd rfl).c0
  have c7 := (wi_cells KK.out.hd rfl).c7
  simp only at c0 c7
  have n2 : ¬ (9223372036854775807 < (vput 6 ++ vput id).size + M.size) := by rw [ByteArray.size_append]; omega
  have n3 : ¬ (9223372036854775807 < (vput 6).size + (vput id).size + M.size) := by omega
  go_wp2_with (go_at_call 58; refine (MT _ KK.out.b).mono ?_; rintro e w5 ⟨rfl, dn⟩; have KK := Lib.hid (KK.out.below dn); clear dn)
  refine bodyPost_ret (v := .tuple #[.string (vput 6 ++ vput id ++ M), .int .i64 0]) (by simp [results, Tryz.results15, go_sem, *]) rfl ⟨rfl, by first | exact KK.out.b | (rw [hg]; exact KK.out.b)⟩
end
end Go.Proofs.YtglabahbklpocaaGreat
