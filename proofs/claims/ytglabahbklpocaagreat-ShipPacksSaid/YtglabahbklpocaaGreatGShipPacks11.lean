/- sample.Check; the reference's. -/
import Derived.Test.YtglabahbklpocaaGreatGShipPacks8
import Derived.IntWalk
namespace Go.Proofs.YtglabahbklpocaaGreat
section
open Go.RowKit
set_option maxRecDepth 100000
set_option linter.unusedVariables false
set_option linter.unusedSimpArgs false
attribute [local go_sem ↓] Go.wp_at_zero Go.wp_at_succ
set_option maxHeartbeats 8000000 in
set_option maxRecDepth 100000 in
theorem scheck_any (r : Rc) (d : Sl) (ds : List Int) (w : World) (hr : r.wf) (hd : SlR w d ds) : Calls Tryz.prog 69 #[rcVal r d] w fun e w' => e = .returned (.int .i64 (chkR r ds)) ∧ Below w.heap.size w w' := by
  obtain ⟨V, HV⟩ : ∃ V, Hid (V = chkR r ds) := ⟨_, rfl⟩
  rw [← HV.out]
  obtain ⟨w0, w1, w2, w3, w4, w5, w6, w7⟩ := hr
  have C1 := fun wx => clock_any r.time wx
  have C2 := fun wx => check_any r.st wx
  have HD := Lib.hid hd
  have C3 := fun wx hb => right_any d.a d.n d.c ds wx ((HD.out.below hb).r) hd.nc hd.cb
  have C4 := fun wx hb => at_any d.a d.n d.c ds r.st.site wx ((HD.out.below hb).r) hd.nc hd.cb w6.1 w6.2
  have C5 := fun wx => name_any r.series wx w1
  have HP : Hid (recP r ds ↔ clockV r.time = true ∧ chkV r.st = 0 ∧ decide (ds = pl ds) = true ∧ atV ds r.st.site = r.st.seq - 1 ∧ ((r.kind = 1 ∧ nameV r.series = true ∧ r.tier = 0) ∨ (r.kind = 2 ∧ r.series.size = 0 ∧ r.value = 0 ∧ 0 ≤ r.tier ∧ r.tier ≤ 3))) := by
    show _ ↔ _
    unfold recP chkV
    rw [decide_eq_true_eq]
    by_cases h : okV r.st = true
    · simp [h]
    · simp [h]
  have hq : okV r.st = true → 1 ≤ r.st.seq := fun h => by
    unfold okV inV at h
    simp only [Bool.and_eq_true, decide_eq_true_eq] at h
    omega
  have hc01 : chkV r.st = 0 ∧ 1 ≤ r.st.seq ∨ chkV r.st = 1 := by
    unfold chkV
    by_cases h : okV r.st = true
    · left; rw [if_pos h]; exact ⟨rfl, hq h⟩
    · right; rw [if_neg h]
  generalize clockV r.time = B1 at *
  generalize chkV r.st = K at *
  generalize decide (ds = pl ds) = B3 at *
  generalize atV ds r.st.site = A at *
  unfold St.val at C2
  clear hd hq
  unfold rcVal rcA
  go_enter Tryz.func69, Tryz.ntmps69
  go_upto_region 1 with (fail)
  generalize hw1 : w.alloc (.cells _ 60) = w1
  have hK : Kn w.heap.size w [(w.heap.size, rcO r d)] w1 := by rw [← hw1]; exact (Kn.start w).new' rfl (rcO r d)
  clear hw1
  generalize hg : w.heap.size = g at *
  have KK := Lib.hid hK
  clear hK
  go_cut [31] (fun v wx => ∃ BAD : Bool, v = .bool BAD ∧ (BAD = false ↔ B1 = true ∧ K = 0 ∧ B3 = true ∧ A = r.st.seq - 1) ∧ Kn g w [(g, rcO r d)] wx)
  case first =>
    have hcase : (B1 = false) ∨ (B1 = true ∧ K = 1) ∨ (B1 = true ∧ K = 0 ∧ B3 = false) ∨ (B1 = true ∧ K = 0 ∧ B3 = true) := by
      rcases hc01 with ⟨h, _⟩ | h <;> cases B1 <;> cases B3 <;> simp [h]
    have hsq : Hid (K = 0 → 1 ≤ r.st.seq) := by
      intro h
      rcases hc01 with ⟨_, h1⟩ | h1
      · exact h1
      · omega
    clear hc01
    rcases hcase with rfl | ⟨rfl, rfl⟩ | ⟨rfl, rfl, rfl⟩ | ⟨rfl, rfl, rfl⟩
    all_goals
      refine wp_region_held_drew (S := (fun wx => wx.cell? ⟨g, 2, none⟩ = some (.int .i64 r.time) ∧ wx.cell? ⟨g, 5, none⟩ = some (.int .i64 r.st.clock) ∧ wx.cell? ⟨g, 6, none⟩ = some (.int .i64 r.st.site) ∧ wx.cell? ⟨g, 7, none⟩ = some (.int .i64 r.st.seq) ∧ wx.cell? ⟨g, 8, none⟩ = some (.slice d.a d.n d.c))) (by kernel_rfl) ?_ (fun hHeld => ?_)
      focus ((try dsimp only); (try (exact (rc_cells KK.out.hd rfl).conj)); done)
      (refine wpAnyH_take (i := 0) (oi := ⟨some 3, Go.Op.fieldAddr 60 (.tmp 1) 2, 0, _, _, none⟩) (v := ?_) rfl (by kernel_rfl) (by kernel_rfl) (by kernel_rfl) (fun _ _ _ h => h) (Or.inl ⟨by rfl, ?_⟩) (by assumption) ?_; rotate_left; (focus (intro w hSw; ((try dsimp only at hSw); go_simp; try with_reducible rfl))); (try simp only [Act.put, sA, sZ, sS]))
      (refine wpAnyH_take (i := 1) (oi := ⟨some 4, Go.Op.load 3 (.tmp 3), 3, _, _, none⟩) (v := ?_) rfl (by kernel_rfl) (by kernel_rfl) (by kernel_rfl) (fun _ _ _ h => h) (Or.inl ⟨by rfl, ?_⟩) (by assumption) ?_; rotate_left; (focus (intro w hSw; ((try dsimp only at hSw); go_simp; try with_reducible rfl))); (try simp only [Act.put, sA, sZ, sS]))
      (refine wpAnyH_ready (rs := [2]) (by kernel_rfl) (by simp) ?_; refine AllReadyH.cons (o := ⟨some 5, Go.Op.call { callee := Go.Callee.value (.func 119), args := #[.tmp 4], argTypes := #[3] }, 4, _, _, none⟩) rfl (fun K hK => ?_) AllReadyH.nil; go_simp; ((first | (go_at_call 119; refine (C1 _).mono ?_; rintro e wn ⟨rfl, rfl⟩) | (go_at_call 120; refine (C2 _).mono ?_; rintro e wn ⟨rfl, dn⟩; have KK := Lib.hid (Kn.later KK.out dn rfl rfl rfl rfl)) | (go_at_call 66; refine (C3 _ (Kn.same KK.out rfl rfl rfl rfl).b).mono ?_; rintro e wn ⟨rfl, dn⟩; have KK := Lib.hid (Kn.later KK.out dn rfl rfl rfl rfl)) | (go_at_call 89; refine (C4 _ (Kn.same KK.out rfl rfl rfl rfl).b).mono ?_; rintro e wn ⟨rfl, dn⟩; have KK := Lib.hid (Kn.later KK.out dn rfl rfl rfl rfl)))); go_wp2_with fail; refine hK.out _ _ ?_ (fun hHeld => ?_); (focus ((try dsimp only); (try (exact (rc_cells KK.out.hd rfl).conj)); done)); clear hK; (try simp only [Act.put, sA, sZ, sS]))
      (refine wpAnyH_take (i := 3) (oi := ⟨some 6, Go.Op.unOp Go.UnOp.not 4 (.tmp 5), 4, _, _, none⟩) (v := ?_) rfl (by kernel_rfl) (by kernel_rfl) (by kernel_rfl) (fun _ _ _ h => h) (Or.inl ⟨by rfl, ?_⟩) (by assumption) ?_; rotate_left; (focus (intro w hSw; ((try dsimp only at hSw); go_simp; try with_reducible rfl))); (try simp only [Act.put, sA, sZ, sS]))
      (refine wpAnyH_take (i := 4) (oi := ⟨some 7, Go.Op.move (.tmp 6), 4, _, _, none⟩) (v := ?_) rfl (by kernel_rfl) (by kernel_rfl) (by kernel_rfl) (fun _ _ _ h => h) (Or.inl ⟨by rfl, ?_⟩) (by assumption) ?_; rotate_left; (focus (intro w hSw; ((try dsimp only at hSw); go_simp; try with_reducible rfl))); (try simp only [Act.put, sA, sZ, sS]))
      (first | (refine wpAnyH_take (i := 5) (oi := ⟨some 8, Go.Op.fieldAddr 60 (.tmp 1) 5, 0, _, _, some (4, false)⟩) (v := undef) rfl (by kernel_rfl) (by kernel_rfl) (by kernel_rfl) (fun _ _ _ h => h) (Or.inr ⟨by rfl, rfl⟩) (by assumption) ?_; (try simp only [Act.put, sA, sZ, sS])) | (refine wpAnyH_take (i := 5) (oi := ⟨some 8, Go.Op.fieldAddr 60 (.tmp 1) 5, 0, _, _, some (4, false)⟩) (v := ?_) rfl (by kernel_rfl) (by kernel_rfl) (by kernel_rfl) (fun _ _ _ h => h) (Or.inl ⟨by rfl, ?_⟩) (by assumption) ?_; rotate_left; (focus (intro w hSw; ((try dsimp only at hSw); go_simp; try with_reducible rfl))); (try simp only [Act.put, sA, sZ, sS])))
      (first | (refine wpAnyH_take (i := 6) (oi := ⟨some 9, Go.Op.load 58 (.tmp 8), 58, _, _, some (4, false)⟩) (v := undef) rfl (by kernel_rfl) (by kernel_rfl) (by kernel_rfl) (fun _ _ _ h => h) (Or.inr ⟨by rfl, rfl⟩) (by assumption) ?_; (try simp only [Act.put, sA, sZ, sS])) | (refine wpAnyH_take (i := 6) (oi := ⟨some 9, Go.Op.load 58 (.tmp 8), 58, _, _, some (4, false)⟩) (v := ?_) rfl (by kernel_rfl) (by kernel_rfl) (by kernel_rfl) (fun _ _ _ h => h) (Or.inl ⟨by rfl, ?_⟩) (by assumption) ?_; rotate_left; (focus (intro w hSw; ((try dsimp only at hSw); go_simp; try with_reducible rfl))); (try simp only [Act.put, sA, sZ, sS])))
      (first | (refine wpAnyH_take (i := 7) (oi := ⟨some 10, Go.Op.call { callee := Go.Callee.value (.func 120), args := #[.tmp 9], argTypes := #[58] }, 39, _, _, some (4, false)⟩) (v := undef) rfl (by kernel_rfl) (by kernel_rfl) (by kernel_rfl) (fun _ _ _ h => h) (Or.inr ⟨by rfl, rfl⟩) (by assumption) ?_; (try simp only [Act.put, sA, sZ, sS])) | (refine wpAnyH_ready (rs := [7]) (by kernel_rfl) (by simp) ?_; refine AllReadyH.cons (o := ⟨some 10, Go.Op.call { callee := Go.Callee.value (.func 120), args := #[.tmp 9], argTypes := #[58] }, 39, _, _, some (4, false)⟩) rfl (fun K hK => ?_) AllReadyH.nil; go_simp; ((first | (go_at_call 119; refine (C1 _).mono ?_; rintro e wn ⟨rfl, rfl⟩) | (go_at_call 120; refine (C2 _).mono ?_; rintro e wn ⟨rfl, dn⟩; have KK := Lib.hid (Kn.later KK.out dn rfl rfl rfl rfl)) | (go_at_call 66; refine (C3 _ (Kn.same KK.out rfl rfl rfl rfl).b).mono ?_; rintro e wn ⟨rfl, dn⟩; have KK := Lib.hid (Kn.later KK.out dn rfl rfl rfl rfl)) | (go_at_call 89; refine (C4 _ (Kn.same KK.out rfl rfl rfl rfl).b).mono ?_; rintro e wn ⟨rfl, dn⟩; have KK := Lib.hid (Kn.later KK.out dn rfl rfl rfl rfl)))); go_wp2_with fail; refine hK.out _ _ ?_ (fun hHeld => ?_); (focus ((try dsimp only); (try (exact (rc_cells KK.out.hd rfl).conj)); done)); clear hK; (try simp only [Act.put, sA, sZ, sS])))
      (first | (refine wpAnyH_take (i := 8) (oi := ⟨some 11, Go.Op.binOp Go.BinOp.neq 39 (.tmp 10) (.const (Go.Value.int Go.IntKind.i64 0)) 39, 4, _, _, some (4, false)⟩) (v := undef) rfl (by kernel_rfl) (by kernel_rfl) (by kernel_rfl) (fun _ _ _ h => h) (Or.inr ⟨by rfl, rfl⟩) (by assumption) ?_; (try simp only [Act.put, sA, sZ, sS])) | (refine wpAnyH_take (i := 8) (oi := ⟨some 11, Go.Op.binOp Go.BinOp.neq 39 (.tmp 10) (.const (Go.Value.int Go.IntKind.i64 0)) 39, 4, _, _, some (4, false)⟩) (v := ?_) rfl (by kernel_rfl) (by kernel_rfl) (by kernel_rfl) (fun _ _ _ h => h) (Or.inl ⟨by rfl, ?_⟩) (by assumption) ?_; rotate_left; (focus (intro w hSw; ((try dsimp only at hSw); go_simp; try with_reducible rfl))); (try simp only [Act.put, sA, sZ, sS])))
      (refine wpAnyH_take (i := 9) (oi := ⟨some 12, Go.Op.pick (.tmp 7) (.const (Go.Value.bool true)) (.tmp 11), 4, _, _, none⟩) (v := ?_) rfl (by kernel_rfl) (by kernel_rfl) (by kernel_rfl) (fun _ _ _ h => h) (Or.inl ⟨by rfl, ?_⟩) (by assumption) ?_; rotate_left; (focus (intro w hSw; ((try dsimp only at hSw); go_simp; try with_reducible rfl))); (try simp only [Act.put, sA, sZ, sS]))
      (refine wpAnyH_take (i := 10) (oi := ⟨some 13, Go.Op.move (.tmp 12), 4, _, _, none⟩) (v := ?_) rfl (by kernel_rfl) (by kernel_rfl) (by kernel_rfl) (fun _ _ _ h => h) (Or.inl ⟨by rfl, ?_⟩) (by assumption) ?_; rotate_left; (focus (intro w hSw; ((try dsimp only at hSw); go_simp; try with_reducible rfl))); (try simp only [Act.put, sA, sZ, sS]))
      (first | (refine wpAnyH_take (i := 11) (oi := ⟨some 14, Go.Op.fieldAddr 60 (.tmp 1) 6, 0, _, _, some (10, false)⟩) (v := undef) rfl (by kernel_rfl) (by kernel_rfl) (by kernel_rfl) (fun _ _ _ h => h) (Or.inr ⟨by rfl, rfl⟩) (by assumption) ?_; (try simp only [Act.put, sA, sZ, sS])) | (refine wpAnyH_take (i := 11) (oi := ⟨some 14, Go.Op.fieldAddr 60 (.tmp 1) 6, 0, _, _, some (10, false)⟩) (v := ?_) rfl (by kernel_rfl) (by kernel_rfl) (by kernel_rfl) (fun _ _ _ h => h) (Or.inl ⟨by rfl, ?_⟩) (by assumption) ?_; rotate_left; (focus (intro w hSw; ((try dsimp only at hSw); go_simp; try with_reducible rfl))); (try simp only [Act.put, sA, sZ, sS])))
      (first | (refine wpAnyH_take (i := 12) (oi := ⟨some 15, Go.Op.load 23 (.tmp 14), 23, _, _, some (10, false)⟩) (v := undef) rfl (by kernel_rfl) (by kernel_rfl) (by kernel_rfl) (fun _ _ _ h => h) (Or.inr ⟨by rfl, rfl⟩) (by assumption) ?_; (try simp only [Act.put, sA, sZ, sS])) | (refine wpAnyH_take (i := 12) (oi := ⟨some 15, Go.Op.load 23 (.tmp 14), 23, _, _, some (10, false)⟩) (v := ?_) rfl (by kernel_rfl) (by kernel_rfl) (by kernel_rfl) (fun _ _ _ h => h) (Or.inl ⟨by rfl, ?_⟩) (by assumption) ?_; rotate_left; (focus (intro w hSw; ((try dsimp only at hSw); go_simp; try with_reducible rfl))); (try simp only [Act.put, sA, sZ, sS])))
      (first | (refine wpAnyH_take (i := 13) (oi := ⟨some 16, Go.Op.call { callee := Go.Callee.value (.func 66), args := #[.tmp 15], argTypes := #[23] }, 4, _, _, some (10, false)⟩) (v := undef) rfl (by kernel_rfl) (by kernel_rfl) (by kernel_rfl) (fun _ _ _ h => h) (Or.inr ⟨by rfl, rfl⟩) (by assumption) ?_; (try simp only [Act.put, sA, sZ, sS])) | (refine wpAnyH_ready (rs := [13]) (by kernel_rfl) (by simp) ?_; refine AllReadyH.cons (o := ⟨some 16, Go.Op.call { callee := Go.Callee.value (.func 66), args := #[.tmp 15], argTypes := #[23] }, 4, _, _, some (10, false)⟩) rfl (fun K hK => ?_) AllReadyH.nil; go_simp; ((first | (go_at_call 119; refine (C1 _).mono ?_; rintro e wn ⟨rfl, rfl⟩) | (go_at_call 120; refine (C2 _).mono ?_; rintro e wn ⟨rfl, dn⟩; have KK := Lib.hid (Kn.later KK.out dn rfl rfl rfl rfl)) | (go_at_call 66; refine (C3 _ (Kn.same KK.out rfl rfl rfl rfl).b).mono ?_; rintro e wn ⟨rfl, dn⟩; have KK := Lib.hid (Kn.later KK.out dn rfl rfl rfl rfl)) | (go_at_call 89; refine (C4 _ (Kn.same KK.out rfl rfl rfl rfl).b).mono ?_; rintro e wn ⟨rfl, dn⟩; have KK := Lib.hid (Kn.later KK.out dn rfl rfl rfl rfl)))); go_wp2_with fail; refine hK.out _ _ ?_ (fun hHeld => ?_); (focus ((try dsimp only); (try (exact (rc_cells KK.out.hd rfl).conj)); done)); clear hK; (try simp only [Act.put, sA, sZ, sS])))
      (first | (refine wpAnyH_take (i := 14) (oi := ⟨some 17, Go.Op.unOp Go.UnOp.not 4 (.tmp 16), 4, _, _, some (10, false)⟩) (v := undef) rfl (by kernel_rfl) (by kernel_rfl) (by kernel_rfl) (fun _ _ _ h => h) (Or.inr ⟨by rfl, rfl⟩) (by assumption) ?_; (try simp only [Act.put, sA, sZ, sS])) | (refine wpAnyH_take (i := 14) (oi := ⟨some 17, Go.Op.unOp Go.UnOp.not 4 (.tmp 16), 4, _, _, some (10, false)⟩) (v := ?_) rfl (by kernel_rfl) (by kernel_rfl) (by kernel_rfl) (fun _ _ _ h => h) (Or.inl ⟨by rfl, ?_⟩) (by assumption) ?_; rotate_left; (focus (intro w hSw; ((try dsimp only at hSw); go_simp; try with_reducible rfl))); (try simp only [Act.put, sA, sZ, sS])))
      (refine wpAnyH_take (i := 15) (oi := ⟨some 18, Go.Op.pick (.tmp 13) (.const (Go.Value.bool true)) (.tmp 17), 4, _, _, none⟩) (v := ?_) rfl (by kernel_rfl) (by kernel_rfl) (by kernel_rfl) (fun _ _ _ h => h) (Or.inl ⟨by rfl, ?_⟩) (by assumption) ?_; rotate_left; (focus (intro w hSw; ((try dsimp only at hSw); go_simp; try with_reducible rfl))); (try simp only [Act.put, sA, sZ, sS]))
      (refine wpAnyH_take (i := 16) (oi := ⟨some 19, Go.Op.move (.tmp 18), 4, _, _, none⟩) (v := ?_) rfl (by kernel_rfl) (by kernel_rfl) (by kernel_rfl) (fun _ _ _ h => h) (Or.inl ⟨by rfl, ?_⟩) (by assumption) ?_; rotate_left; (focus (intro w hSw; ((try dsimp only at hSw); go_simp; try with_reducible rfl))); (try simp only [Act.put, sA, sZ, sS]))
      (first | (refine wpAnyH_take (i := 17) (oi := ⟨some 20, Go.Op.fieldAddr 60 (.tmp 1) 6, 0, _, _, some (16, false)⟩) (v := undef) rfl (by kernel_rfl) (by kernel_rfl) (by kernel_rfl) (fun _ _ _ h => h) (Or.inr ⟨by rfl, rfl⟩) (by assumption) ?_; (try simp only [Act.put, sA, sZ, sS])) | (refine wpAnyH_take (i := 17) (oi := ⟨some 20, Go.Op.fieldAddr 60 (.tmp 1) 6, 0, _, _, some (16, false)⟩) (v := ?_) rfl (by kernel_rfl) (by kernel_rfl) (by kernel_rfl) (fun _ _ _ h => h) (Or.inl ⟨by rfl, ?_⟩) (by assumption) ?_; rotate_left; (focus (intro w hSw; ((try dsimp only at hSw); go_simp; try with_reducible rfl))); (try simp only [Act.put, sA, sZ, sS])))
      (first | (refine wpAnyH_take (i := 18) (oi := ⟨some 21, Go.Op.load 23 (.tmp 20), 23, _, _, some (16, false)⟩) (v := undef) rfl (by kernel_rfl) (by kernel_rfl) (by kernel_rfl) (fun _ _ _ h => h) (Or.inr ⟨by rfl, rfl⟩) (by assumption) ?_; (try simp only [Act.put, sA, sZ, sS])) | (refine wpAnyH_take (i := 18) (oi := ⟨some 21, Go.Op.load 23 (.tmp 20), 23, _, _, some (16, false)⟩) (v := ?_) rfl (by kernel_rfl) (by kernel_rfl) (by kernel_rfl) (fun _ _ _ h => h) (Or.inl ⟨by rfl, ?_⟩) (by assumption) ?_; rotate_left; (focus (intro w hSw; ((try dsimp only at hSw); go_simp; try with_reducible rfl))); (try simp only [Act.put, sA, sZ, sS])))
      (first | (refine wpAnyH_take (i := 19) (oi := ⟨some 22, Go.Op.fieldAddr 60 (.tmp 1) 5, 0, _, _, some (16, false)⟩) (v := undef) rfl (by kernel_rfl) (by kernel_rfl) (by kernel_rfl) (fun _ _ _ h => h) (Or.inr ⟨by rfl, rfl⟩) (by assumption) ?_; (try simp only [Act.put, sA, sZ, sS])) | (refine wpAnyH_take (i := 19) (oi := ⟨some 22, Go.Op.fieldAddr 60 (.tmp 1) 5, 0, _, _, some (16, false)⟩) (v := ?_) rfl (by kernel_rfl) (by kernel_rfl) (by kernel_rfl) (fun _ _ _ h => h) (Or.inl ⟨by rfl, ?_⟩) (by assumption) ?_; rotate_left; (focus (intro w hSw; ((try dsimp only at hSw); go_simp; try with_reducible rfl))); (try simp only [Act.put, sA, sZ, sS])))
      (first | (refine wpAnyH_take (i := 20) (oi := ⟨some 23, Go.Op.fieldAddr 58 (.tmp 22) 1, 0, _, _, some (16, false)⟩) (v := undef) rfl (by kernel_rfl) (by kernel_rfl) (by kernel_rfl) (fun _ _ _ h => h) (Or.inr ⟨by rfl, rfl⟩) (by assumption) ?_; (try simp only [Act.put, sA, sZ, sS])) | (refine wpAnyH_take (i := 20) (oi := ⟨some 23, Go.Op.fieldAddr 58 (.tmp 22) 1, 0, _, _, some (16, false)⟩) (v := ?_) rfl (by kernel_rfl) (by kernel_rfl) (by kernel_rfl) (fun _ _ _ h => h) (Or.inl ⟨by rfl, ?_⟩) (by assumption) ?_; rotate_left; (focus (intro w hSw; ((try dsimp only at hSw); go_simp; try with_reducible rfl))); (try simp only [Act.put, sA, sZ, sS])))
      (first | (refine wpAnyH_take (i := 21) (oi := ⟨some 24, Go.Op.load 3 (.tmp 23), 3, _, _, some (16, false)⟩) (v := undef) rfl (by kernel_rfl) (by kernel_rfl) (by kernel_rfl) (fun _ _ _ h => h) (Or.inr ⟨by rfl, rfl⟩) (by assumption) ?_; (try simp only [Act.put, sA, sZ, sS])) | (refine wpAnyH_take (i := 21) (oi := ⟨some 24, Go.Op.load 3 (.tmp 23), 3, _, _, some (16, false)⟩) (v := ?_) rfl (by kernel_rfl) (by kernel_rfl) (by kernel_rfl) (fun _ _ _ h => h) (Or.inl ⟨by rfl, ?_⟩) (by assumption) ?_; rotate_left; (focus (intro w hSw; ((try dsimp only at hSw); go_simp; try with_reducible rfl))); (try simp only [Act.put, sA, sZ, sS])))
      (first | (refine wpAnyH_take (i := 23) (oi := ⟨some 26, Go.Op.fieldAddr 60 (.tmp 1) 5, 0, _, _, some (16, false)⟩) (v := undef) rfl (by kernel_rfl) (by kernel_rfl) (by kernel_rfl) (fun _ _ _ h => h) (Or.inr ⟨by rfl, rfl⟩) (by assumption) ?_; (try simp only [Act.put, sA, sZ, sS])) | (refine wpAnyH_take (i := 23) (oi := ⟨some 26, Go.Op.fieldAddr 60 (.tmp 1) 5, 0, _, _, some (16, false)⟩) (v := ?_) rfl (by kernel_rfl) (by kernel_rfl) (by kernel_rfl) (fun _ _ _ h => h) (Or.inl ⟨by rfl, ?_⟩) (by assumption) ?_; rotate_left; (focus (intro w hSw; ((try dsimp only at hSw); go_simp; try with_reducible rfl))); (try simp only [Act.put, sA, sZ, sS])))
      (first | (refine wpAnyH_take (i := 24) (oi := ⟨some 27, Go.Op.fieldAddr 58 (.tmp 26) 2, 0, _, _, some (16, false)⟩) (v := undef) rfl (by kernel_rfl) (by kernel_rfl) (by kernel_rfl) (fun _ _ _ h => h) (Or.inr ⟨by rfl, rfl⟩) (by assumption) ?_; (try simp only [Act.put, sA, sZ, sS])) | (refine wpAnyH_take (i := 24) (oi := ⟨some 27, Go.Op.fieldAddr 58 (.tmp 26) 2, 0, _, _, some (16, false)⟩) (v := ?_) rfl (by kernel_rfl) (by kernel_rfl) (by kernel_rfl) (fun _ _ _ h => h) (Or.inl ⟨by rfl, ?_⟩) (by assumption) ?_; rotate_left; (focus (intro w hSw; ((try dsimp only at hSw); go_simp; try with_reducible rfl))); (try simp only [Act.put, sA, sZ, sS])))
      (first | (refine wpAnyH_take (i := 25) (oi := ⟨some 28, Go.Op.load 3 (.tmp 27), 3, _, _, some (16, false)⟩) (v := undef) rfl (by kernel_rfl) (by kernel_rfl) (by kernel_rfl) (fun _ _ _ h => h) (Or.inr ⟨by rfl, rfl⟩) (by assumption) ?_; (try simp only [Act.put, sA, sZ, sS])) | (refine wpAnyH_take (i := 25) (oi := ⟨some 28, Go.Op.load 3 (.tmp 27), 3, _, _, some (16, false)⟩) (v := ?_) rfl (by kernel_rfl) (by kernel_rfl) (by kernel_rfl) (fun _ _ _ h => h) (Or.inl ⟨by rfl, ?_⟩) (by assumption) ?_; rotate_left; (focus (intro w hSw; ((try dsimp only at hSw); go_simp; try with_reducible rfl))); (try simp only [Act.put, sA, sZ, sS])))
      (first | (refine wpAnyH_take (i := 26) (oi := ⟨some 29, Go.Op.binOp Go.BinOp.sub 3 (.tmp 28) (.const (Go.Value.int Go.IntKind.i64 1)) 3, 3, _, _, some (16, false)⟩) (v := undef) rfl (by kernel_rfl) (by kernel_rfl) (by kernel_rfl) (fun _ _ _ h => h) (Or.inr ⟨by rfl, rfl⟩) (by assumption) ?_; (try simp only [Act.put, sA, sZ, sS])) | (refine wpAnyH_take (i := 26) (oi := ⟨some 29, Go.Op.binOp Go.BinOp.sub 3 (.tmp 28) (.const (Go.Value.int Go.IntKind.i64 1)) 3, 3, _, _, some (16, false)⟩) (v := ?_) rfl (by kernel_rfl) (by kernel_rfl) (by kernel_rfl) (fun _ _ _ h => h) (Or.inl ⟨by rfl, ?_⟩) (by assumption) ?_; rotate_left; (focus (intro w hSw; ((try dsimp only at hSw); go_simp; try with_reducible rfl))); (try simp only [Act.put, sA, sZ, sS])))
      (first | (refine wpAnyH_take (i := 22) (oi := ⟨some 25, Go.Op.call { callee := Go.Callee.value (.func 89), args := #[.tmp 21, .tmp 24], argTypes := #[23, 3] }, 3, _, _, some (16, false)⟩) (v := undef) rfl (by kernel_rfl) (by kernel_rfl) (by kernel_rfl) (fun _ _ _ h => h) (Or.inr ⟨by rfl, rfl⟩) (by assumption) ?_; (try simp only [Act.put, sA, sZ, sS])) | (refine wpAnyH_ready (rs := [22]) (by kernel_rfl) (by simp) ?_; refine AllReadyH.cons (o := ⟨some 25, Go.Op.call { callee := Go.Callee.value (.func 89), args := #[.tmp 21, .tmp 24], argTypes := #[23, 3] }, 3, _, _, some (16, false)⟩) rfl (fun K hK => ?_) AllReadyH.nil; go_simp; ((first | (go_at_call 119; refine (C1 _).mono ?_; rintro e wn ⟨rfl, rfl⟩) | (go_at_call 120; refine (C2 _).mono ?_; rintro e wn ⟨rfl, dn⟩; have KK := Lib.hid (Kn.later KK.out dn rfl rfl rfl rfl)) | (go_at_call 66; refine (C3 _ (Kn.same KK.out rfl rfl rfl rfl).b).mono ?_; rintro e wn ⟨rfl, dn⟩; have KK := Lib.hid (Kn.later KK.out dn rfl rfl rfl rfl)) | (go_at_call 89; refine (C4 _ (Kn.same KK.out rfl rfl rfl rfl).b).mono ?_; rintro e wn ⟨rfl, dn⟩; have KK := Lib.hid (Kn.later KK.out dn rfl rfl rfl rfl)))); go_wp2_with fail; refine hK.out _ _ ?_ (fun hHeld => ?_); (focus ((try dsimp only); (try (exact (rc_cells KK.out.hd rfl).conj)); done)); clear hK; (try simp only [Act.put, sA, sZ, sS])))
      (first | (refine wpAnyH_take (i := 27) (oi := ⟨some 30, Go.Op.binOp Go.BinOp.neq 3 (.tmp 25) (.tmp 29) 3, 4, _, _, some (16, false)⟩) (v := undef) rfl (by kernel_rfl) (by kernel_rfl) (by kernel_rfl) (fun _ _ _ h => h) (Or.inr ⟨by rfl, rfl⟩) (by assumption) ?_; (try simp only [Act.put, sA, sZ, sS])) | (refine wpAnyH_take (i := 27) (oi := ⟨some 30, Go.Op.binOp Go.BinOp.neq 3 (.tmp 25) (.tmp 29) 3, 4, _, _, some (16, false)⟩) (v := ?_) rfl (by kernel_rfl) (by kernel_rfl) (by kernel_rfl) (fun _ _ _ h => h) (Or.inl ⟨by rfl, ?_⟩) (by assumption) ?_; rotate_left; (focus (intro w hSw; ((try dsimp only at hSw); go_simp; try with_reducible rfl))); (try simp only [Act.put, sA, sZ, sS])))
      (refine wpAnyH_take (i := 28) (oi := ⟨some 31, Go.Op.pick (.tmp 19) (.const (Go.Value.bool true)) (.tmp 30), 4, _, _, none⟩) (v := ?_) rfl (by kernel_rfl) (by kernel_rfl) (by kernel_rfl) (fun _ _ _ h => h) (Or.inl ⟨by rfl, ?_⟩) (by assumption) ?_; rotate_left; (focus (intro w hSw; ((try dsimp only at hSw); go_simp; try with_reducible rfl))); (try simp only [Act.put, sA, sZ, sS]))
      refine wpAnyH_done (by kernel_rfl) ?_ _
      go_wp2_with fail
      go_meet
      refine ⟨_, rfl, ?_, Kn.same KK.out rfl rfl rfl rfl⟩
      first
        | (have hs : 1 ≤ r.st.seq := (by first | exact hsq.out rfl | exact hsq.out trivial | exact hsq.out); rw [IntWalk.i64_in (r.st.seq - 1) (by have h1 := w7.1; have h2 := w7.2; omega)]; simp)
        | simp
  case rest =>
    obtain ⟨BAD, rfl, hbad, hk⟩ := hcut
    have HBAD := Lib.hid hbad
    have KK := Lib.hid hk
    clear hbad hk
    have hC := rc_cells KK.out.hd rfl
    have c0 := hC.c0
    have c1 := hC.c1
    have c3 := hC.c3
    have c4 := hC.c4
    clear hC
    cases BAD
    · have HP2 : Hid (recP r ds ↔ ((r.kind = 1 ∧ nameV r.series = true ∧ r.tier = 0) ∨ (r.kind = 2 ∧ r.series.size = 0 ∧ r.value = 0 ∧ 0 ≤ r.tier ∧ r.tier ≤ 3))) := by
        obtain ⟨h1, h2, h3, h4⟩ := HBAD.out.1 rfl
        exact HP.out.trans ⟨fun h => h.2.2.2.2, fun h => ⟨h1, h2, h3, h4, h⟩⟩
      clear HP HBAD hc01
      by_cases k1 : r.kind = 1
      · have t1 : (r.kind == 1) = true := beq_iff_eq.2 k1
        by_cases hn : nameV r.series = true ∧ r.tier = 0
        · have HV := Lib.hid (HV.out.trans (chkR_0 (HP2.out.2 (.inl ⟨k1, hn⟩))))
          have t3 : (r.tier == 0) = true := beq_iff_eq.2 hn.2
          rw [hn.1] at C5
          clear hn k1 HP2
          go_wp2_with (first | (go_at_call 64; refine (C5 _).mono ?_; rintro e wn ⟨rfl, rfl⟩))
          go_ret
          exact ⟨by rw [HV.out]; rfl, by first | exact KK.out.b | (rw [hg]; exact KK.out.b)⟩
        · have HV := Lib.hid (HV.out.trans (chkR_1 (fun h => by
            rcases HP2.out.1 h with h | h
            · exact hn h.2
            · omega)))
          have HN := Lib.hid hn
          generalize nameV r.series = NB at *
          clear hn k1 HP2
          cases NB
          · go_wp2_with (first | (go_at_call 64; refine (C5 _).mono ?_; rintro e wn ⟨rfl, rfl⟩))
            go_ret
            exact ⟨by rw [HV.out]; rfl, by first | exact KK.out.b | (rw [hg]; exact KK.out.b)⟩
          · have t3 : (r.tier == 0) = false := beq_eq_false_iff_ne.2 (fun e => HN.out ⟨rfl, e⟩)
            go_wp2_with (first | (go_at_call 64; refine (C5 _).mono ?_; rintro e wn ⟨rfl, rfl⟩))
            go_ret
            exact ⟨by rw [HV.out]; rfl, by first | exact KK.out.b | (rw [hg]; exact KK.out.b)⟩
      · have t1 : (r.kind == 1) = false := beq_eq_false_iff_ne.2 k1
        by_cases k2 : r.kind = 2
        · have t2 : (r.kind == 2) = true := beq_iff_eq.2 k2
          by_cases h0 : r.series.size = 0
          · have f1 := tl_nil r.series h0
            have f2 : (r.series.toList.isEmpty) = true := by rw [f1]; rfl
            by_cases hv : r.value = 0 ∧ 0 ≤ r.tier ∧ r.tier ≤ 3
            · have HV := Lib.hid (HV.out.trans (chkR_0 (HP2.out.2 (.inr ⟨k2, h0, hv⟩))))
              have u1 : (r.value == 0) = true := beq_iff_eq.2 hv.1
              have u2 : decide (0 ≤ r.tier) = true := decide_eq_true hv.2.1
              have u3 : decide (r.tier ≤ 3) = true := decide_eq_true hv.2.2
              clear hv k2 k1 HP2 h0
              go_wp2_with fail
              go_ret
              exact ⟨by rw [HV.out]; rfl, by first | exact KK.out.b | (rw [hg]; exact KK.out.b)⟩
            · have HV := Lib.hid (HV.out.trans (chkR_1 (fun h => by
                rcases HP2.out.1 h with h | h
                · omega
                · exact hv h.2.2)))
              have HN := Lib.hid hv
              clear hv k2 k1 HP2 h0
              by_cases v1 : r.value = 0
              · have u1 : (r.value == 0) = true := beq_iff_eq.2 v1
                by_cases v2 : 0 ≤ r.tier
                · have u2 : decide (0 ≤ r.tier) = true := decide_eq_true v2
                  have u3 : decide (r.tier ≤ 3) = false := decide_eq_false (fun e => HN.out ⟨v1, v2, e⟩)
                  clear v1 v2
                  go_wp2_with fail
                  go_ret
                  exact ⟨by rw [HV.out]; rfl, by first | exact KK.out.b | (rw [hg]; exact KK.out.b)⟩
                · have u2 : decide (0 ≤ r.tier) = false := decide_eq_false v2
                  clear v1 v2
                  go_wp2_with fail
                  go_ret
                  exact ⟨by rw [HV.out]; rfl, by first | exact KK.out.b | (rw [hg]; exact KK.out.b)⟩
              · have u1 : (r.value == 0) = false := beq_eq_false_iff_ne.2 v1
                clear v1
                go_wp2_with fail
                go_ret
                exact ⟨by rw [HV.out]; rfl, by first | exact KK.out.b | (rw [hg]; exact KK.out.b)⟩
          · obtain ⟨f1, f2, f3⟩ := tl_some r.series (by omega)
            have HV := Lib.hid (HV.out.trans (chkR_1 (fun h => by
              rcases HP2.out.1 h with h | h
              · omega
              · exact h0 h.2.1)))
            clear k2 k1 HP2 h0
            go_wp2_with fail
            go_ret
            exact ⟨by rw [HV.out]; rfl, by first | exact KK.out.b | (rw [hg]; exact KK.out.b)⟩
        · have t2 : (r.kind == 2) = false := beq_eq_false_iff_ne.2 k2
          have HV := Lib.hid (HV.out.trans (chkR_1 (fun h => by
            rcases HP2.out.1 h with h | h
            · exact k1 h.1
            · exact k2 h.1)))
          clear k1 k2 HP2
          go_wp2_with fail
          go_ret
          exact ⟨by rw [HV.out]; rfl, by first | exact KK.out.b | (rw [hg]; exact KK.out.b)⟩
    · have HV := Lib.hid (HV.out.trans (chkR_1 (fun h => by
        obtain ⟨h1, h2, h3, h4, _⟩ := HP.out.1 h
        have := HBAD.out.2 ⟨h1, h2, h3, h4⟩
        simp at this)))
      clear HP HBAD hc01
      go_wp2_with fail
      go_ret
      exact ⟨by rw [HV.out]; rfl, by first | exact KK.out.b | (rw [hg]; exact KK.out.b)⟩
end
end Go.Proofs.YtglabahbklpocaaGreat
