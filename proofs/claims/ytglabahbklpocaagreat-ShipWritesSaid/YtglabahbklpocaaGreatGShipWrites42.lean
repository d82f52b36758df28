/- The reference's Bytes of messages, given what its Check says: what may not be; done; cut; have. -/
import Derived.Test.YtglabahbklpocaaGreatGShipWrites41
namespace Go.Proofs.YtglabahbklpocaaGreat
section
open Go.RowKit Go.Deep
set_option maxRecDepth 100000
set_option linter.unusedVariables false
set_option linter.unusedSimpArgs false
attribute [local go_sem ↓] Go.wp_at_zero Go.wp_at_succ
set_option maxHeartbeats 4000000 in
theorem rbytesE_any (x : Wi) (w : World) (CH : ∀ wx, Below w.heap.size w wx → Calls Tryz.prog 17 #[.agg x.arr] wx fun e w' => e = .returned (.int .i64 1) ∧ Below wx.heap.size wx w') : Calls Tryz.prog 15 #[.agg x.arr] w fun e w' => e = .returned (.tuple #[.string ⟨#[]⟩, .int .i64 1]) ∧ Below w.heap.size w w' := by
  obtain ⟨kind, id, series, from_, to_, np, nr, vec, time⟩ := x
  unfold Wi.arr at *
  simp only at CH ⊢
  go_enter Tryz.func15, Tryz.ntmps15
  go_upto_region 1 with fail
  generalize hw1 : World.alloc _ _ = w1
  have KK := Lib.hid (show Kn w.heap.size w [(w.heap.size, wiO ⟨kind, id, series, from_, to_, np, nr, vec, time⟩)] w1 by rw [← hw1]; exact (Kn.start w).new' rfl (wiO ⟨kind, id, series, from_, to_, np, nr, vec, time⟩))
  clear hw1
  generalize hg : w.heap.size = g at *
  go_wp2_with (first
    | refine wpList_load_row rfl 33 _ rfl g rfl 33 (Wi.arr ⟨kind, id, series, from_, to_, np, nr, vec, time⟩) (0, 0) _ KK.out.hd Tryz.underlying33 rfl (by kernel_rfl) ?_
    | (go_at_call 17; refine (CH _ KK.out.b).mono ?_; rintro e w2 ⟨rfl, dn⟩; have KK := Lib.hid (KK.out.below dn); clear dn))
  refine bodyPost_ret (v := .tuple #[.string ⟨#[]⟩, .int .i64 1]) (by simp [results, Tryz.results15, go_sem, *]) rfl ⟨rfl, by first | exact KK.out.b | (rw [hg]; exact KK.out.b)⟩
set_option maxHeartbeats 8000000 in
theorem rbytes2_any (x : Wi) (w : World) (hk : x.kind = 2) (hid : 0 ≤ x.id ∧ x.id ≤ 1099511627776) (CH : ∀ wx, Below w.heap.size w wx → Calls Tryz.prog 17 #[.agg x.arr] wx fun e w' => e = .returned (.int .i64 0) ∧ Below wx.heap.size wx w') :
    Calls Tryz.prog 15 #[.agg x.arr] w fun e w' => e = .returned (.tuple #[.string (vput 2 ++ vput x.id), .int .i64 0]) ∧ Below w.heap.size w w' := by
  obtain ⟨kind, id, series, from_, to_, np, nr, vec, time⟩ := x
  simp only at hk
  subst hk
  unfold Wi.arr at *
  simp only at *
  go_enter Tryz.func15, Tryz.ntmps15
  go_upto_region 1 with fail
  generalize hw1 : World.alloc _ _ = w1
  have KK := Lib.hid (show Kn w.heap.size w [(w.heap.size, wiO ⟨2, id, series, from_, to_, np, nr, vec, time⟩)] w1 by rw [← hw1]; exact (Kn.start w).new' rfl (wiO ⟨2, id, series, from_, to_, np, nr, vec, time⟩))
  clear hw1
  generalize hg : w.heap.size = g at *
  go_upto_region 4 with (first
    | refine wpList_load_row rfl 33 _ rfl g rfl 33 (Wi.arr ⟨2, id, series, from_, to_, np, nr, vec, time⟩) (0, 0) _ KK.out.hd Tryz.underlying33 rfl (by kernel_rfl) ?_
    | (go_at_call 17; refine (CH _ KK.out.b).mono ?_; rintro e w2 ⟨rfl, dn⟩; have KK := Lib.hid (KK.out.below dn); clear dn))
  have z1 := vput_le 2
  have z2 := vput_le id
  have n1 : ¬ (9223372036854775807 < (vput 2).size + (vput id).size) := by omega
  have u1 : IntKind.u64.wrap id = id := by rw [wrap_u64]; omega
  have u0 : IntKind.u64.wrap 2 = 2 := by rw [wrap_u64]; rfl
  refine wp_region_held_drew (S := (fun wx => wx.cell? ⟨g, 0, none⟩ = some (.int .i64 2) ∧ wx.cell? ⟨g, 1, none⟩ = some (.int .i64 id))) (by kernel_rfl) ?_ (fun hHeld => ?_)
  focus ((try dsimp only); (try (exact wh_held KK.out rfl)); done)
  (refine wpAnyH_take (i := 0) (oi := { dst := some 16, op := Go.Op.fieldAddr 33 (Go.Operand.tmp 1) 0, type := 0, pos := _, after := _, guard := none }) (v := ?_) rfl (by kernel_rfl) (by kernel_rfl) (by kernel_rfl) (fun _ _ _ h => h) (Or.inl ⟨by rfl, ?_⟩) (by assumption) ?_; rotate_left; (focus (intro w hSw; ((try dsimp only at hSw); go_simp; try with_reducible rfl))); (try simp only [Act.put, sA, sZ, sS]))
  (refine wpAnyH_take (i := 1) (oi := { dst := some 17, op := Go.Op.load 3 (Go.Operand.tmp 16), type := 3, pos := _, after := _, guard := none }) (v := ?_) rfl (by kernel_rfl) (by kernel_rfl) (by kernel_rfl) (fun _ _ _ h => h) (Or.inl ⟨by rfl, ?_⟩) (by assumption) ?_; rotate_left; (focus (intro w hSw; ((try dsimp only at hSw); go_simp; try with_reducible rfl))); (try simp only [Act.put, sA, sZ, sS]))
  (refine wpAnyH_take (i := 2) (oi := { dst := some 18, op := Go.Op.convert 3 92 (Go.Operand.tmp 17), type := 92, pos := _, after := _, guard := none }) (v := ?_) rfl (by kernel_rfl) (by kernel_rfl) (by kernel_rfl) (fun _ _ _ h => h) (Or.inl ⟨by rfl, ?_⟩) (by assumption) ?_; rotate_left; (focus (intro w hSw; ((try dsimp only at hSw); go_simp; try with_reducible rfl))); (try simp only [Act.put, sA, sZ, sS]))
  (refine wpAnyH_take (i := 4) (oi := { dst := some 20, op := Go.Op.fieldAddr 33 (Go.Operand.tmp 1) 1, type := 0, pos := _, after := _, guard := none }) (v := ?_) rfl (by kernel_rfl) (by kernel_rfl) (by kernel_rfl) (fun _ _ _ h => h) (Or.inl ⟨by rfl, ?_⟩) (by assumption) ?_; rotate_left; (focus (intro w hSw; ((try dsimp only at hSw); go_simp; try with_reducible rfl))); (try simp only [Act.put, sA, sZ, sS]))
  (refine wpAnyH_take (i := 5) (oi := { dst := some 21, op := Go.Op.load 3 (Go.Operand.tmp 20), type := 3, pos := _, after := _, guard := none }) (v := ?_) rfl (by kernel_rfl) (by kernel_rfl) (by kernel_rfl) (fun _ _ _ h => h) (Or.inl ⟨by rfl, ?_⟩) (by assumption) ?_; rotate_left; (focus (intro w hSw; ((try dsimp only at hSw); go_simp; try with_reducible rfl))); (try simp only [Act.put, sA, sZ, sS]))
  (refine wpAnyH_take (i := 6) (oi := { dst := some 22, op := Go.Op.convert 3 92 (Go.Operand.tmp 21), type := 92, pos := _, after := _, guard := none }) (v := ?_) rfl (by kernel_rfl) (by kernel_rfl) (by kernel_rfl) (fun _ _ _ h => h) (Or.inl ⟨by rfl, ?_⟩) (by assumption) ?_; rotate_left; (focus (intro w hSw; ((try dsimp only at hSw); go_simp; try with_reducible rfl))); (try simp only [Act.put, sA, sZ, sS]))
  (refine wpAnyH_ready (rs := [3]) (by kernel_rfl) (by simp) ?_; refine AllReadyH.cons (o := { dst := some 19, op := Go.Op.call { callee := Go.Callee.value (Go.Operand.func 55), args := #[Go.Operand.tmp 18], argTypes := #[92] }, type := 9, pos := _, after := _, guard := none }) rfl (fun K hK => ?_) AllReadyH.nil; go_simp; ((go_at_call 55; refine (rput_any _ _ (by first | decide | omega) (by first | decide | omega)).mono ?_; rintro e wn ⟨rfl, dn⟩; have KK := Lib.hid (Kn.later KK.out dn rfl rfl rfl rfl))); go_wp2_with fail; refine hK.out _ _ ?_ (fun hHeld => ?_); (focus ((try dsimp only); (try (exact wh_held KK.out rfl)); done)); clear hK; (try simp only [Act.put, sA, sZ, sS]))
  (refine wpAnyH_ready (rs := [7]) (by kernel_rfl) (by simp) ?_; refine AllReadyH.cons (o := { dst := some 23, op := Go.Op.call { callee := Go.Callee.value (Go.Operand.func 55), args := #[Go.Operand.tmp 22], argTypes := #[92] }, type := 9, pos := _, after := _, guard := none }) rfl (fun K hK => ?_) AllReadyH.nil; go_simp; ((go_at_call 55; refine (rput_any _ _ (by first | decide | omega) (by first | decide | omega)).mono ?_; rintro e wn ⟨rfl, dn⟩; have KK := Lib.hid (Kn.later KK.out dn rfl rfl rfl rfl))); go_wp2_with fail; refine hK.out _ _ ?_ (fun hHeld => ?_); (focus ((try dsimp only); (try (exact wh_held KK.out rfl)); done)); clear hK; (try simp only [Act.put, sA, sZ, sS]))
  (refine wpAnyH_take (i := 8) (oi := { dst := some 24, op := Go.Op.binOp Go.BinOp.add 9 (Go.Operand.tmp 19) (Go.Operand.tmp 23) 9, type := 9, pos := _, after := _, guard := none }) (v := ?_) rfl (by kernel_rfl) (by kernel_rfl) (by kernel_rfl) (fun _ _ _ h => h) (Or.inl ⟨by rfl, ?_⟩) (by assumption) ?_; rotate_left; (focus (intro w hSw; ((try dsimp only at hSw); go_simp; try with_reducible rfl))); (try simp only [Act.put, sA, sZ, sS]))
  (refine wpAnyH_take (i := 9) (oi := { dst := some 5, op := Go.Op.assign (Go.Operand.tmp 24), type := 9, pos := _, after := _, guard := none }) (v := ?_) rfl (by kernel_rfl) (by kernel_rfl) (by kernel_rfl) (fun _ _ _ h => h) (Or.inl ⟨by rfl, ?_⟩) (by assumption) ?_; rotate_left; (focus (intro w hSw; ((try dsimp only at hSw); go_simp; try with_reducible rfl))); (try simp only [Act.put, sA, sZ, sS]))
  refine wpAnyH_done (by kernel_rfl) ?_ _
  clear hHeld
  have c0 := (wi_cells KK.out.hd rfl).c0
  simp only at c0
  go_wp2_with fail
  refine bodyPost_ret (v := .tuple #[.string (vput 2 ++ vput id), .int .i64 0]) (by simp [results, Tryz.results15, go_sem, *]) rfl ⟨rfl, by first | exact KK.out.b | (rw [hg]; exact KK.out.b)⟩
set_option maxHeartbeats 8000000 in
theorem rbytes5_any (x : Wi) (w : World) (hk : x.kind = 5) (hid : 0 ≤ x.id ∧ x.id ≤ 1099511627776) (hti : 0 ≤ x.time ∧ x.time ≤ 1099511627777) (CH : ∀ wx, Below w.heap.size w wx → Calls Tryz.prog 17 #[.agg x.arr] wx fun e w' => e = .returned (.int .i64 0) ∧ Below wx.heap.size wx w') :
    Calls Tryz.prog 15 #[.agg x.arr] w fun e w' => e = .returned (.tuple #[.string (vput 5 ++ vput x.id ++ vput x.time), .int .i64 0]) ∧ Below w.heap.size w w' := by
  have z3 := vput_le x.time
  obtain ⟨kind, id, series, from_, to_, np, nr, vec, time⟩ := x
  simp only at hk
  subst hk
  unfold Wi.arr at *
  simp only at *
  go_enter Tryz.func15, Tryz.ntmps15
  go_upto_region 1 with fail
  generalize hw1 : World.alloc _ _ = w1
  have KK := Lib.hid (show Kn w.heap.size w [(w.heap.size, wiO ⟨5, id, series, from_, to_, np, nr, vec, time⟩)] w1 by rw [← hw1]; exact (Kn.start w).new' rfl (wiO ⟨5, id, series, from_, to_, np, nr, vec, time⟩))
  clear hw1
  generalize hg : w.heap.size = g at *
  go_upto_region 4 with (first
    | refine wpList_load_row rfl 33 _ rfl g rfl 33 (Wi.arr ⟨5, id, series, from_, to_, np, nr, vec, time⟩) (0, 0) _ KK.out.hd Tryz.underlying33 rfl (by kernel_rfl) ?_
    | (go_at_call 17; refine (CH _ KK.out.b).mono ?_; rintro e w2 ⟨rfl, dn⟩; have KK := Lib.hid (KK.out.below dn); clear dn))
  have z1 := vput_le 5
  have z2 := vput_le id
  have n1 : ¬ (9223372036854775807 < (vput 5).size + (vput id).size) := by omega
  have u1 : IntKind.u64.wrap id = id := by rw [wrap_u64]; omega
  have u0 : IntKind.u64.wrap 5 = 5 := by rw [wrap_u64]; rfl
  refine wp_region_held_drew (S := (fun wx => wx.cell? ⟨g, 0, none⟩ = some (.int .i64 5) ∧ wx.cell? ⟨g, 1, none⟩ = some (.int .i64 id))) (by kernel_rfl) ?_ (fun hHeld => ?_)
  focus ((try dsimp only); (try (exact wh_held KK.out rfl)); done)
  (refine wpAnyH_take (i := 0) (oi := { dst := some 16, op := Go.Op.fieldAddr 33 (Go.Operand.tmp 1) 0, type := 0, pos := _, after := _, guard := none }) (v := ?_) rfl (by kernel_rfl) (by kernel_rfl) (by kernel_rfl) (fun _ _ _ h => h) (Or.inl ⟨by rfl, ?_⟩) (by assumption) ?_; rotate_left; (focus (intro w hSw; ((try dsimp only at hSw); go_simp; try with_reducible rfl))); (try simp only [Act.put, sA, sZ, sS]))
  (refine wpAnyH_take (i := 1) (oi := { dst := some 17, op := Go.Op.load 3 (Go.Operand.tmp 16), type := 3, pos := _, after := _, guard := none }) (v := ?_) rfl (by kernel_rfl) (by kernel_rfl) (by kernel_rfl) (fun _ _ _ h => h) (Or.inl ⟨by rfl, ?_⟩) (by assumption) ?_; rotate_left; (focus (intro w hSw; ((try dsimp only at hSw); go_simp; try with_reducible rfl))); (try simp only [Act.put, sA, sZ, sS]))
  (refine wpAnyH_take (i := 2) (oi := { dst := some 18, op := Go.Op.convert 3 92 (Go.Operand.tmp 17), type := 92, pos := _, after := _, guard := none }) (v := ?_) rfl (by kernel_rfl) (by kernel_rfl) (by kernel_rfl) (fun _ _ _ h => h) (Or.inl ⟨by rfl, ?_⟩) (by assumption) ?_; rotate_left; (focus (intro w hSw; ((try dsimp only at hSw); go_simp; try with_reducible rfl))); (try simp only [Act.put, sA, sZ, sS]))
  (refine wpAnyH_take (i := 4) (oi := { dst := some 20, op := Go.Op.fieldAddr 33 (Go.Operand.tmp 1) 1, type := 0, pos := _, after := _, guard := none }) (v := ?_) rfl (by kernel_rfl) (by kernel_rfl) (by kernel_rfl) (fun _ _ _ h => h) (Or.inl ⟨by rfl, ?_⟩) (by assumption) ?_; rotate_left; (focus (intro w hSw; ((try dsimp only at hSw); go_simp; try with_reducible rfl))); (try simp only [Act.put, sA, sZ, sS]))
  (refine wpAnyH_take (i := 5) (oi := { dst := some 21, op := Go.Op.load 3 (Go.Operand.tmp 20), type := 3, pos := _, after := _, guard := none }) (v := ?_) rfl (by kernel_rfl) (by kernel_rfl) (by kernel_rfl) (fun _ _ _ h => h) (Or.inl ⟨by rfl, ?_⟩) (by assumption) ?_; rotate_left; (focus (intro w hSw; ((try dsimp only at hSw); go_simp; try with_reducible rfl))); (try simp only [Act.put, sA, sZ, sS]))
  (refine wpAnyH_take (i := 6) (oi := { dst := some 22, op := Go.Op.convert 3 92 (Go.Operand.tmp 21), type := 92, pos := _, after := _, guard := none }) (v := ?_) rfl (by kernel_rfl) (by kernel_rfl) (by kernel_rfl) (fun _ _ _ h => h) (Or.inl ⟨by rfl, ?_⟩) (by assumption) ?_; rotate_left; (focus (intro w hSw; ((try dsimp only at hSw); go_simp; try with_reducible rfl))); (try simp only [Act.put, sA, sZ, sS]))
  (refine wpAnyH_ready (rs := [3]) (by kernel_rfl) (by simp) ?_; refine AllReadyH.cons (o := { dst := some 19, op := Go.Op.call { callee := Go.Callee.value (Go.Operand.func 55), args := #[Go.Operand.tmp 18], argTypes := #[92] }, type := 9, pos := _, after := _, guard := none }) rfl (fun K hK => ?_) AllReadyH.nil; go_simp; ((go_at_call 55; refine (rput_any _ _ (by first | decide | omega) (by first | decide | omega)).mono ?_; rintro e wn ⟨rfl, dn⟩; have KK := Lib.hid (Kn.later KK.out dn rfl rfl rfl rfl))); go_wp2_with fail; refine hK.out _ _ ?_ (fun hHeld => ?_); (focus ((try dsimp only); (try (exact wh_held KK.out rfl)); done)); clear hK; (try simp only [Act.put, sA, sZ, sS]))
  (refine wpAnyH_ready (rs := [7]) (by kernel_rfl) (by simp) ?_; refine AllReadyH.cons (o := { dst := some 23, op := Go.Op.call { callee := Go.Callee.value (Go.Operand.func 55), args := #[Go.Operand.tmp 22], argTypes := #[92] }, type := 9, pos := _, after := _, guard := none }) rfl (fun K hK => ?_) AllReadyH.nil; go_simp; ((go_at_call 55; refine (rput_any _ _ (by first | decide | omega) (by first | decide | omega)).mono ?_; rintro e wn ⟨rfl, dn⟩; have KK := Lib.hid (Kn.later KK.out dn rfl rfl rfl rfl))); go_wp2_with fail; refine hK.out _ _ ?_ (fun hHeld => ?_); (focus ((try dsimp only); (try (exact wh_held KK.out rfl)); done)); clear hK; (try simp only [Act.put, sA, sZ, sS]))
  (refine wpAnyH_take (i := 8) (oi := { dst := some 24, op := Go.Op.binOp Go.BinOp.add 9 (Go.Operand.tmp 19) (Go.Operand.tmp 23) 9, type := 9, pos := _, after := _, guard := none }) (v := ?_) rfl (by kernel_rfl) (by kernel_rfl) (by kernel_rfl) (fun _ _ _ h => h) (Or.inl ⟨by rfl, ?_⟩) (by assumption) ?_; rotate_left; (focus (intro w hSw; ((try dsimp only at hSw); go_simp; try with_reducible rfl))); (try simp only [Act.put, sA, sZ, sS]))
  (refine wpAnyH_take (i := 9) (oi := { dst := some 5, op := Go.Op.assign (Go.Operand.tmp 24), type := 9, pos := _, after := _, guard := none }) (v := ?_) rfl (by kernel_rfl) (by kernel_rfl) (by kernel_rfl) (fun _ _ _ h => h) (Or.inl ⟨by rfl, ?_⟩) (by assumption) ?_; rotate_left; (focus (intro w hSw; ((try dsimp only at hSw); go_simp; try with_reducible rfl))); (try simp only [Act.put, sA, sZ, sS]))
  refine wpAnyH_done (by kernel_rfl) ?_ _
  clear hHeld
  have c0 := (wi_cells KK.out.hd rfl).c0
  have c8 := (wi_cells KK.out.hd rfl).c8
  simp only at c0 c8
  have u2 : IntKind.u64.wrap time = time := by rw [wrap_u64]; omega
  have n2 : ¬ (9223372036854775807 < (vput 5 ++ vput id).size + (vput time).size) := by rw [ByteArray.size_append]; omega
  have n3 : ¬ (9223372036854775807 < (vput 5).size + (vput id).size + (vput time).size) := by omega
  go_wp2_with (go_at_call 55; refine (rput_any _ _ (by omega) (by omega)).mono ?_; rintro e w5 ⟨rfl, dn⟩; have KK := Lib.hid (KK.out.below dn); clear dn)
  refine bodyPost_ret (v := .tuple #[.string (vput 5 ++ vput id ++ vput time), .int .i64 0]) (by simp [results, Tryz.results15, go_sem, *]) rfl ⟨rfl, by first | exact KK.out.b | (rw [hg]; exact KK.out.b)⟩
end
end Go.Proofs.YtglabahbklpocaaGreat
