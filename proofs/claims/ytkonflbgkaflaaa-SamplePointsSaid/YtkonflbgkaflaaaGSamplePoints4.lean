/- sample.Check; the reference's. The reference's Check of records. strings.Builder, made by the call itself: copyCheck, WriteString, String (the walks after the kit's shelf; the laying of String is what the kit's tool wrote). vint.All: some numbers with signs, one behind the other. Texts as bytes; the reference's All. -/
import Derived.Test.YtkonflbgkaflaaaGSamplePoints3
import Derived.IntWalk
import Derived.Shelf.Strings.Builder1
import Derived.Test.YtkonflbgkaflaaaGSamplePoints1
import Derived.Lib.Builder
import Derived.Lib.AppendStr
import Derived.Lib.UnsafeStr
import Derived.Lib.Walk
import Derived.Laws.Externs
import Derived.Test.YtkonflbgkaflaaaGSamplePoints2
namespace Go.Proofs.Ytkonflbgkaflaaa
section
open Go.RowKit
set_option maxRecDepth 100000
set_option linter.unusedVariables false
set_option linter.unusedSimpArgs false
attribute [local go_sem ↓] Go.wp_at_zero Go.wp_at_succ
set_option maxHeartbeats 8000000 in
set_option maxRecDepth 100000 in
theorem scheck_any (r : Rc) (d : Sl) (ds : List Int) (w : World) (hr : r.wf) (hd : SlR w d ds) : Calls Try.prog 16 #[rcVal r d] w fun e w' => e = .returned (.int .i64 (chkR r ds)) ∧ Below w.heap.size w w' := by
  obtain ⟨V, HV⟩ : ∃ V, Hid (V = chkR r ds) := ⟨_, rfl⟩
  rw [← HV.out]
  obtain ⟨w0, w1, w2, w3, w4, w5, w6, w7⟩ := hr
  have C1 := fun wx => clock_any r.time wx
  have C2 := fun wx => check_any r.st wx
  have HD := Lib.hid hd
  have C3 := fun wx hb => right_any d.a d.n d.c ds wx ((HD.out.below hb).r) hd.nc hd.cb
  have C4 := fun wx hb => at_any d.a d.n d.c ds r.st.site wx ((HD.out.below hb).r) hd.nc hd.cb w6.1 w6.2
  have C5 := fun wx => name_any r.series wx w1
  have HP : Hid (recP r ds ↔ clockV r.time = true ∧ chkV r.st = 0 ∧ decide (ds = pl ds) = true ∧ atV ds r.st.site = r.st.seq - 1 ∧ ((r.kind = 1 ∧ nameV r.series = true ∧ r.tier = 0) ∨ (r.kind = 2 ∧ r.series.size = 0 ∧ r.value = 0 ∧ 0 ≤ r.tier ∧ r.tier ≤ 3))) := by
    show _ ↔ _
    unfold recP chkV
    rw [decide_eq_true_eq]
    by_cases h : okV r.st = true
    · simp [h]
    · simp [h]
  have hq : okV r.st = true → 1 ≤ r.st.seq := fun h => by
    unfold okV inV at h
    simp only [Bool.and_eq_true, decide_eq_true_eq] at h
    omega
  have hc01 : chkV r.st = 0 ∧ 1 ≤ r.st.seq ∨ chkV r.st = 1 := by
    unfold chkV
    by_cases h : okV r.st = true
    · left; rw [if_pos h]; exact ⟨rfl, hq h⟩
    · right; rw [if_neg h]
  generalize clockV r.time = B1 at *
  generalize chkV r.st = K at *
  generalize decide (ds = pl ds) = B3 at *
  generalize atV ds r.st.site = A at *
  unfold St.val at C2
  clear hd hq
  unfold rcVal rcA
  go_enter Try.func16, Try.ntmps16
  go_upto_region 1 with (fail)
  generalize hw1 : w.alloc (.cells _ 26) = w1
  have hK : Kn w.heap.size w [(w.heap.size, rcO r d)] w1 := by rw [← hw1]; exact (Kn.start w).new' rfl (rcO r d)
  clear hw1
  generalize hg : w.heap.size = g at *
  have KK := Lib.hid hK
  clear hK
  go_cut [31] (fun v wx => ∃ BAD : Bool, v = .bool BAD ∧ (BAD = false ↔ B1 = true ∧ K = 0 ∧ B3 = true ∧ A = r.st.seq - 1) ∧ Kn g w [(g, rcO r d)] wx)
  case first =>
    have hcase : (B1 = false) ∨ (B1 = true ∧ K = 1) ∨ (B1 = true ∧ K = 0 ∧ B3 = false) ∨ (B1 = true ∧ K = 0 ∧ B3 = true) := by
      rcases hc01 with ⟨h, _⟩ | h <;> cases B1 <;> cases B3 <;> simp [h]
    have hsq : Hid (K = 0 → 1 ≤ r.st.seq) := by
      intro h
      rcases hc01 with ⟨_, h1⟩ | h1
      · exact h1
      · omega
    clear hc01
    rcases hcase with rfl | ⟨rfl, rfl⟩ | ⟨rfl, rfl, rfl⟩ | ⟨rfl, rfl, rfl⟩
    all_goals
      refine wp_region_held_drew (S := (fun wx => wx.cell? ⟨g, 2, none⟩ = some (.int .i64 r.time) ∧ wx.cell? ⟨g, 5, none⟩ = some (.int .i64 r.st.clock) ∧ wx.cell? ⟨g, 6, none⟩ = some (.int .i64 r.st.site) ∧ wx.cell? ⟨g, 7, none⟩ = some (.int .i64 r.st.seq) ∧ wx.cell? ⟨g, 8, none⟩ = some (.slice d.a d.n d.c))) (by kernel_rfl) ?_ (fun hHeld => ?_)
      focus ((try dsimp only); (try (exact (rc_cells KK.out.hd rfl).conj)); done)
      (refine wpAnyH_take (i := 0) (oi := { dst := some 3, op := Go.Op.fieldAddr 26 (Go.Operand.tmp 1) 2, type := 0, pos := "sample.go:37", after := #[], guard := none }) (v := ?_) rfl (by kernel_rfl) (by kernel_rfl) (by kernel_rfl) (fun _ _ _ h => h) (Or.inl ⟨by rfl, ?_⟩) (by assumption) ?_; rotate_left; (focus (intro w hSw; ((try dsimp only at hSw); go_simp; try with_reducible rfl))); (try simp only [Act.put, List.setIfInBounds_toArray, List.set_cons_zero, List.set_cons_succ]))
      (refine wpAnyH_take (i := 1) (oi := { dst := some 4, op := Go.Op.load 3 (Go.Operand.tmp 3), type := 3, pos := "sample.go:37", after := #[{ on := 0, ground := Go.Ground.data }], guard := none }) (v := ?_) rfl (by kernel_rfl) (by kernel_rfl) (by kernel_rfl) (fun _ _ _ h => h) (Or.inl ⟨by rfl, ?_⟩) (by assumption) ?_; rotate_left; (focus (intro w hSw; ((try dsimp only at hSw); go_simp; try with_reducible rfl))); (try simp only [Act.put, List.setIfInBounds_toArray, List.set_cons_zero, List.set_cons_succ]))
      (refine wpAnyH_ready (rs := [2]) (by kernel_rfl) (by simp) ?_; refine AllReadyH.cons (o := { dst := some 5, op := Go.Op.call { callee := Go.Callee.value (Go.Operand.func 45), args := #[Go.Operand.tmp 4], argTypes := #[3] }, type := 4, pos := "sample.go:37", after := #[{ on := 1, ground := Go.Ground.data }], guard := none }) rfl (fun K hK => ?_) AllReadyH.nil; go_simp; ((first | (go_at_call 45; refine (C1 _).mono ?_; rintro e wn ⟨rfl, rfl⟩) | (go_at_call 46; refine (C2 _).mono ?_; rintro e wn ⟨rfl, dn⟩; have KK := Lib.hid (Kn.later KK.out dn rfl rfl rfl rfl)) | (go_at_call 47; refine (C3 _ (Kn.same KK.out rfl rfl rfl rfl).b).mono ?_; rintro e wn ⟨rfl, dn⟩; have KK := Lib.hid (Kn.later KK.out dn rfl rfl rfl rfl)) | (go_at_call 48; refine (C4 _ (Kn.same KK.out rfl rfl rfl rfl).b).mono ?_; rintro e wn ⟨rfl, dn⟩; have KK := Lib.hid (Kn.later KK.out dn rfl rfl rfl rfl)))); go_wp2_with fail; refine hK.out _ _ ?_ (fun hHeld => ?_); (focus ((try dsimp only); (try (exact (rc_cells KK.out.hd rfl).conj)); done)); clear hK; (try simp only [Act.put, List.setIfInBounds_toArray, List.set_cons_zero, List.set_cons_succ]))
      (refine wpAnyH_take (i := 3) (oi := { dst := some 6, op := Go.Op.unOp Go.UnOp.not 4 (Go.Operand.tmp 5), type := 4, pos := "sample.go:37", after := #[{ on := 2, ground := Go.Ground.data }], guard := none }) (v := ?_) rfl (by kernel_rfl) (by kernel_rfl) (by kernel_rfl) (fun _ _ _ h => h) (Or.inl ⟨by rfl, ?_⟩) (by assumption) ?_; rotate_left; (focus (intro w hSw; ((try dsimp only at hSw); go_simp; try with_reducible rfl))); (try simp only [Act.put, List.setIfInBounds_toArray, List.set_cons_zero, List.set_cons_succ]))
      (refine wpAnyH_take (i := 4) (oi := { dst := some 7, op := Go.Op.move (Go.Operand.tmp 6), type := 4, pos := "sample.go:37", after := #[{ on := 3, ground := Go.Ground.data }, { on := 2, ground := Go.Ground.chain }], guard := none }) (v := ?_) rfl (by kernel_rfl) (by kernel_rfl) (by kernel_rfl) (fun _ _ _ h => h) (Or.inl ⟨by rfl, ?_⟩) (by assumption) ?_; rotate_left; (focus (intro w hSw; ((try dsimp only at hSw); go_simp; try with_reducible rfl))); (try simp only [Act.put, List.setIfInBounds_toArray, List.set_cons_zero, List.set_cons_succ]))
      (first | (refine wpAnyH_take (i := 5) (oi := { dst := some 8, op := Go.Op.fieldAddr 26 (Go.Operand.tmp 1) 5, type := 0, pos := "sample.go:37", after := #[{ on := 4, ground := Go.Ground.guard }], guard := some (4, false) }) (v := undef) rfl (by kernel_rfl) (by kernel_rfl) (by kernel_rfl) (fun _ _ _ h => h) (Or.inr ⟨by rfl, rfl⟩) (by assumption) ?_; (try simp only [Act.put, List.setIfInBounds_toArray, List.set_cons_zero, List.set_cons_succ])) | (refine wpAnyH_take (i := 5) (oi := { dst := some 8, op := Go.Op.fieldAddr 26 (Go.Operand.tmp 1) 5, type := 0, pos := "sample.go:37", after := #[{ on := 4, ground := Go.Ground.guard }], guard := some (4, false) }) (v := ?_) rfl (by kernel_rfl) (by kernel_rfl) (by kernel_rfl) (fun _ _ _ h => h) (Or.inl ⟨by rfl, ?_⟩) (by assumption) ?_; rotate_left; (focus (intro w hSw; ((try dsimp only at hSw); go_simp; try with_reducible rfl))); (try simp only [Act.put, List.setIfInBounds_toArray, List.set_cons_zero, List.set_cons_succ])))
      (first | (refine wpAnyH_take (i := 6) (oi := { dst := some 9, op := Go.Op.load 23 (Go.Operand.tmp 8), type := 23, pos := "sample.go:37", after := #[{ on := 5, ground := Go.Ground.data }, { on := 4, ground := Go.Ground.guard }], guard := some (4, false) }) (v := undef) rfl (by kernel_rfl) (by kernel_rfl) (by kernel_rfl) (fun _ _ _ h => h) (Or.inr ⟨by rfl, rfl⟩) (by assumption) ?_; (try simp only [Act.put, List.setIfInBounds_toArray, List.set_cons_zero, List.set_cons_succ])) | (refine wpAnyH_take (i := 6) (oi := { dst := some 9, op := Go.Op.load 23 (Go.Operand.tmp 8), type := 23, pos := "sample.go:37", after := #[{ on := 5, ground := Go.Ground.data }, { on := 4, ground := Go.Ground.guard }], guard := some (4, false) }) (v := ?_) rfl (by kernel_rfl) (by kernel_rfl) (by kernel_rfl) (fun _ _ _ h => h) (Or.inl ⟨by rfl, ?_⟩) (by assumption) ?_; rotate_left; (focus (intro w hSw; ((try dsimp only at hSw); go_simp; try with_reducible rfl))); (try simp only [Act.put, List.setIfInBounds_toArray, List.set_cons_zero, List.set_cons_succ])))
      (first | (refine wpAnyH_take (i := 7) (oi := { dst := some 10, op := Go.Op.call { callee := Go.Callee.value (Go.Operand.func 46), args := #[Go.Operand.tmp 9], argTypes := #[23] }, type := 30, pos := "sample.go:37", after := #[{ on := 6, ground := Go.Ground.data }, { on := 4, ground := Go.Ground.chain }, { on := 4, ground := Go.Ground.guard }], guard := some (4, false) }) (v := undef) rfl (by kernel_rfl) (by kernel_rfl) (by kernel_rfl) (fun _ _ _ h => h) (Or.inr ⟨by rfl, rfl⟩) (by assumption) ?_; (try simp only [Act.put, List.setIfInBounds_toArray, List.set_cons_zero, List.set_cons_succ])) | (refine wpAnyH_ready (rs := [7]) (by kernel_rfl) (by simp) ?_; refine AllReadyH.cons (o := { dst := some 10, op := Go.Op.call { callee := Go.Callee.value (Go.Operand.func 46), args := #[Go.Operand.tmp 9], argTypes := #[23] }, type := 30, pos := "sample.go:37", after := #[{ on := 6, ground := Go.Ground.data }, { on := 4, ground := Go.Ground.chain }, { on := 4, ground := Go.Ground.guard }], guard := some (4, false) }) rfl (fun K hK => ?_) AllReadyH.nil; go_simp; ((first | (go_at_call 45; refine (C1 _).mono ?_; rintro e wn ⟨rfl, rfl⟩) | (go_at_call 46; refine (C2 _).mono ?_; rintro e wn ⟨rfl, dn⟩; have KK := Lib.hid (Kn.later KK.out dn rfl rfl rfl rfl)) | (go_at_call 47; refine (C3 _ (Kn.same KK.out rfl rfl rfl rfl).b).mono ?_; rintro e wn ⟨rfl, dn⟩; have KK := Lib.hid (Kn.later KK.out dn rfl rfl rfl rfl)) | (go_at_call 48; refine (C4 _ (Kn.same KK.out rfl rfl rfl rfl).b).mono ?_; rintro e wn ⟨rfl, dn⟩; have KK := Lib.hid (Kn.later KK.out dn rfl rfl rfl rfl)))); go_wp2_with fail; refine hK.out _ _ ?_ (fun hHeld => ?_); (focus ((try dsimp only); (try (exact (rc_cells KK.out.hd rfl).conj)); done)); clear hK; (try simp only [Act.put, List.setIfInBounds_toArray, List.set_cons_zero, List.set_cons_succ])))
      (first | (refine wpAnyH_take (i := 8) (oi := { dst := some 11, op := Go.Op.binOp Go.BinOp.neq 30 (Go.Operand.tmp 10) (Go.Operand.const (Go.Value.int Go.IntKind.i64 0)) 30, type := 4, pos := "sample.go:37", after := #[{ on := 7, ground := Go.Ground.data }, { on := 4, ground := Go.Ground.guard }], guard := some (4, false) }) (v := undef) rfl (by kernel_rfl) (by kernel_rfl) (by kernel_rfl) (fun _ _ _ h => h) (Or.inr ⟨by rfl, rfl⟩) (by assumption) ?_; (try simp only [Act.put, List.setIfInBounds_toArray, List.set_cons_zero, List.set_cons_succ])) | (refine wpAnyH_take (i := 8) (oi := { dst := some 11, op := Go.Op.binOp Go.BinOp.neq 30 (Go.Operand.tmp 10) (Go.Operand.const (Go.Value.int Go.IntKind.i64 0)) 30, type := 4, pos := "sample.go:37", after := #[{ on := 7, ground := Go.Ground.data }, { on := 4, ground := Go.Ground.guard }], guard := some (4, false) }) (v := ?_) rfl (by kernel_rfl) (by kernel_rfl) (by kernel_rfl) (fun _ _ _ h => h) (Or.inl ⟨by rfl, ?_⟩) (by assumption) ?_; rotate_left; (focus (intro w hSw; ((try dsimp only at hSw); go_simp; try with_reducible rfl))); (try simp only [Act.put, List.setIfInBounds_toArray, List.set_cons_zero, List.set_cons_succ])))
      (refine wpAnyH_take (i := 9) (oi := { dst := some 12, op := Go.Op.pick (Go.Operand.tmp 7) (Go.Operand.const (Go.Value.bool true)) (Go.Operand.tmp 11), type := 4, pos := "sample.go:37", after := #[{ on := 4, ground := Go.Ground.data }, { on := 8, ground := Go.Ground.data }], guard := none }) (v := ?_) rfl (by kernel_rfl) (by kernel_rfl) (by kernel_rfl) (fun _ _ _ h => h) (Or.inl ⟨by rfl, ?_⟩) (by assumption) ?_; rotate_left; (focus (intro w hSw; ((try dsimp only at hSw); go_simp; try with_reducible rfl))); (try simp only [Act.put, List.setIfInBounds_toArray, List.set_cons_zero, List.set_cons_succ]))
      (refine wpAnyH_take (i := 10) (oi := { dst := some 13, op := Go.Op.move (Go.Operand.tmp 12), type := 4, pos := "sample.go:37", after := #[{ on := 9, ground := Go.Ground.data }, { on := 7, ground := Go.Ground.chain }], guard := none }) (v := ?_) rfl (by kernel_rfl) (by kernel_rfl) (by kernel_rfl) (fun _ _ _ h => h) (Or.inl ⟨by rfl, ?_⟩) (by assumption) ?_; rotate_left; (focus (intro w hSw; ((try dsimp only at hSw); go_simp; try with_reducible rfl))); (try simp only [Act.put, List.setIfInBounds_toArray, List.set_cons_zero, List.set_cons_succ]))
      (first | (refine wpAnyH_take (i := 11) (oi := { dst := some 14, op := Go.Op.fieldAddr 26 (Go.Operand.tmp 1) 6, type := 0, pos := "sample.go:37", after := #[{ on := 10, ground := Go.Ground.guard }], guard := some (10, false) }) (v := undef) rfl (by kernel_rfl) (by kernel_rfl) (by kernel_rfl) (fun _ _ _ h => h) (Or.inr ⟨by rfl, rfl⟩) (by assumption) ?_; (try simp only [Act.put, List.setIfInBounds_toArray, List.set_cons_zero, List.set_cons_succ])) | (refine wpAnyH_take (i := 11) (oi := { dst := some 14, op := Go.Op.fieldAddr 26 (Go.Operand.tmp 1) 6, type := 0, pos := "sample.go:37", after := #[{ on := 10, ground := Go.Ground.guard }], guard := some (10, false) }) (v := ?_) rfl (by kernel_rfl) (by kernel_rfl) (by kernel_rfl) (fun _ _ _ h => h) (Or.inl ⟨by rfl, ?_⟩) (by assumption) ?_; rotate_left; (focus (intro w hSw; ((try dsimp only at hSw); go_simp; try with_reducible rfl))); (try simp only [Act.put, List.setIfInBounds_toArray, List.set_cons_zero, List.set_cons_succ])))
      (first | (refine wpAnyH_take (i := 12) (oi := { dst := some 15, op := Go.Op.load 24 (Go.Operand.tmp 14), type := 24, pos := "sample.go:37", after := #[{ on := 11, ground := Go.Ground.data }, { on := 10, ground := Go.Ground.guard }], guard := some (10, false) }) (v := undef) rfl (by kernel_rfl) (by kernel_rfl) (by kernel_rfl) (fun _ _ _ h => h) (Or.inr ⟨by rfl, rfl⟩) (by assumption) ?_; (try simp only [Act.put, List.setIfInBounds_toArray, List.set_cons_zero, List.set_cons_succ])) | (refine wpAnyH_take (i := 12) (oi := { dst := some 15, op := Go.Op.load 24 (Go.Operand.tmp 14), type := 24, pos := "sample.go:37", after := #[{ on := 11, ground := Go.Ground.data }, { on := 10, ground := Go.Ground.guard }], guard := some (10, false) }) (v := ?_) rfl (by kernel_rfl) (by kernel_rfl) (by kernel_rfl) (fun _ _ _ h => h) (Or.inl ⟨by rfl, ?_⟩) (by assumption) ?_; rotate_left; (focus (intro w hSw; ((try dsimp only at hSw); go_simp; try with_reducible rfl))); (try simp only [Act.put, List.setIfInBounds_toArray, List.set_cons_zero, List.set_cons_succ])))
      (first | (refine wpAnyH_take (i := 13) (oi := { dst := some 16, op := Go.Op.call { callee := Go.Callee.value (Go.Operand.func 47), args := #[Go.Operand.tmp 15], argTypes := #[24] }, type := 4, pos := "sample.go:37", after := #[{ on := 12, ground := Go.Ground.data }, { on := 10, ground := Go.Ground.chain }, { on := 10, ground := Go.Ground.guard }], guard := some (10, false) }) (v := undef) rfl (by kernel_rfl) (by kernel_rfl) (by kernel_rfl) (fun _ _ _ h => h) (Or.inr ⟨by rfl, rfl⟩) (by assumption) ?_; (try simp only [Act.put, List.setIfInBounds_toArray, List.set_cons_zero, List.set_cons_succ])) | (refine wpAnyH_ready (rs := [13]) (by kernel_rfl) (by simp) ?_; refine AllReadyH.cons (o := { dst := some 16, op := Go.Op.call { callee := Go.Callee.value (Go.Operand.func 47), args := #[Go.Operand.tmp 15], argTypes := #[24] }, type := 4, pos := "sample.go:37", after := #[{ on := 12, ground := Go.Ground.data }, { on := 10, ground := Go.Ground.chain }, { on := 10, ground := Go.Ground.guard }], guard := some (10, false) }) rfl (fun K hK => ?_) AllReadyH.nil; go_simp; ((first | (go_at_call 45; refine (C1 _).mono ?_; rintro e wn ⟨rfl, rfl⟩) | (go_at_call 46; refine (C2 _).mono ?_; rintro e wn ⟨rfl, dn⟩; have KK := Lib.hid (Kn.later KK.out dn rfl rfl rfl rfl)) | (go_at_call 47; refine (C3 _ (Kn.same KK.out rfl rfl rfl rfl).b).mono ?_; rintro e wn ⟨rfl, dn⟩; have KK := Lib.hid (Kn.later KK.out dn rfl rfl rfl rfl)) | (go_at_call 48; refine (C4 _ (Kn.same KK.out rfl rfl rfl rfl).b).mono ?_; rintro e wn ⟨rfl, dn⟩; have KK := Lib.hid (Kn.later KK.out dn rfl rfl rfl rfl)))); go_wp2_with fail; refine hK.out _ _ ?_ (fun hHeld => ?_); (focus ((try dsimp only); (try (exact (rc_cells KK.out.hd rfl).conj)); done)); clear hK; (try simp only [Act.put, List.setIfInBounds_toArray, List.set_cons_zero, List.set_cons_succ])))
      (first | (refine wpAnyH_take (i := 14) (oi := { dst := some 17, op := Go.Op.unOp Go.UnOp.not 4 (Go.Operand.tmp 16), type := 4, pos := "sample.go:37", after := #[{ on := 13, ground := Go.Ground.data }, { on := 10, ground := Go.Ground.guard }], guard := some (10, false) }) (v := undef) rfl (by kernel_rfl) (by kernel_rfl) (by kernel_rfl) (fun _ _ _ h => h) (Or.inr ⟨by rfl, rfl⟩) (by assumption) ?_; (try simp only [Act.put, List.setIfInBounds_toArray, List.set_cons_zero, List.set_cons_succ])) | (refine wpAnyH_take (i := 14) (oi := { dst := some 17, op := Go.Op.unOp Go.UnOp.not 4 (Go.Operand.tmp 16), type := 4, pos := "sample.go:37", after := #[{ on := 13, ground := Go.Ground.data }, { on := 10, ground := Go.Ground.guard }], guard := some (10, false) }) (v := ?_) rfl (by kernel_rfl) (by kernel_rfl) (by kernel_rfl) (fun _ _ _ h => h) (Or.inl ⟨by rfl, ?_⟩) (by assumption) ?_; rotate_left; (focus (intro w hSw; ((try dsimp only at hSw); go_simp; try with_reducible rfl))); (try simp only [Act.put, List.setIfInBounds_toArray, List.set_cons_zero, List.set_cons_succ])))
      (refine wpAnyH_take (i := 15) (oi := { dst := some 18, op := Go.Op.pick (Go.Operand.tmp 13) (Go.Operand.const (Go.Value.bool true)) (Go.Operand.tmp 17), type := 4, pos := "sample.go:37", after := #[{ on := 10, ground := Go.Ground.data }, { on := 14, ground := Go.Ground.data }], guard := none }) (v := ?_) rfl (by kernel_rfl) (by kernel_rfl) (by kernel_rfl) (fun _ _ _ h => h) (Or.inl ⟨by rfl, ?_⟩) (by assumption) ?_; rotate_left; (focus (intro w hSw; ((try dsimp only at hSw); go_simp; try with_reducible rfl))); (try simp only [Act.put, List.setIfInBounds_toArray, List.set_cons_zero, List.set_cons_succ]))
      (refine wpAnyH_take (i := 16) (oi := { dst := some 19, op := Go.Op.move (Go.Operand.tmp 18), type := 4, pos := "sample.go:37", after := #[{ on := 15, ground := Go.Ground.data }, { on := 13, ground := Go.Ground.chain }], guard := none }) (v := ?_) rfl (by kernel_rfl) (by kernel_rfl) (by kernel_rfl) (fun _ _ _ h => h) (Or.inl ⟨by rfl, ?_⟩) (by assumption) ?_; rotate_left; (focus (intro w hSw; ((try dsimp only at hSw); go_simp; try with_reducible rfl))); (try simp only [Act.put, List.setIfInBounds_toArray, List.set_cons_zero, List.set_cons_succ]))
      (first | (refine wpAnyH_take (i := 17) (oi := { dst := some 20, op := Go.Op.fieldAddr 26 (Go.Operand.tmp 1) 6, type := 0, pos := "sample.go:37", after := #[{ on := 16, ground := Go.Ground.guard }], guard := some (16, false) }) (v := undef) rfl (by kernel_rfl) (by kernel_rfl) (by kernel_rfl) (fun _ _ _ h => h) (Or.inr ⟨by rfl, rfl⟩) (by assumption) ?_; (try simp only [Act.put, List.setIfInBounds_toArray, List.set_cons_zero, List.set_cons_succ])) | (refine wpAnyH_take (i := 17) (oi := { dst := some 20, op := Go.Op.fieldAddr 26 (Go.Operand.tmp 1) 6, type := 0, pos := "sample.go:37", after := #[{ on := 16, ground := Go.Ground.guard }], guard := some (16, false) }) (v := ?_) rfl (by kernel_rfl) (by kernel_rfl) (by kernel_rfl) (fun _ _ _ h => h) (Or.inl ⟨by rfl, ?_⟩) (by assumption) ?_; rotate_left; (focus (intro w hSw; ((try dsimp only at hSw); go_simp; try with_reducible rfl))); (try simp only [Act.put, List.setIfInBounds_toArray, List.set_cons_zero, List.set_cons_succ])))
      (first | (refine wpAnyH_take (i := 18) (oi := { dst := some 21, op := Go.Op.load 24 (Go.Operand.tmp 20), type := 24, pos := "sample.go:37", after := #[{ on := 17, ground := Go.Ground.data }, { on := 16, ground := Go.Ground.guard }], guard := some (16, false) }) (v := undef) rfl (by kernel_rfl) (by kernel_rfl) (by kernel_rfl) (fun _ _ _ h => h) (Or.inr ⟨by rfl, rfl⟩) (by assumption) ?_; (try simp only [Act.put, List.setIfInBounds_toArray, List.set_cons_zero, List.set_cons_succ])) | (refine wpAnyH_take (i := 18) (oi := { dst := some 21, op := Go.Op.load 24 (Go.Operand.tmp 20), type := 24, pos := "sample.go:37", after := #[{ on := 17, ground := Go.Ground.data }, { on := 16, ground := Go.Ground.guard }], guard := some (16, false) }) (v := ?_) rfl (by kernel_rfl) (by kernel_rfl) (by kernel_rfl) (fun _ _ _ h => h) (Or.inl ⟨by rfl, ?_⟩) (by assumption) ?_; rotate_left; (focus (intro w hSw; ((try dsimp only at hSw); go_simp; try with_reducible rfl))); (try simp only [Act.put, List.setIfInBounds_toArray, List.set_cons_zero, List.set_cons_succ])))
      (first | (refine wpAnyH_take (i := 19) (oi := { dst := some 22, op := Go.Op.fieldAddr 26 (Go.Operand.tmp 1) 5, type := 0, pos := "sample.go:37", after := #[{ on := 16, ground := Go.Ground.guard }], guard := some (16, false) }) (v := undef) rfl (by kernel_rfl) (by kernel_rfl) (by kernel_rfl) (fun _ _ _ h => h) (Or.inr ⟨by rfl, rfl⟩) (by assumption) ?_; (try simp only [Act.put, List.setIfInBounds_toArray, List.set_cons_zero, List.set_cons_succ])) | (refine wpAnyH_take (i := 19) (oi := { dst := some 22, op := Go.Op.fieldAddr 26 (Go.Operand.tmp 1) 5, type := 0, pos := "sample.go:37", after := #[{ on := 16, ground := Go.Ground.guard }], guard := some (16, false) }) (v := ?_) rfl (by kernel_rfl) (by kernel_rfl) (by kernel_rfl) (fun _ _ _ h => h) (Or.inl ⟨by rfl, ?_⟩) (by assumption) ?_; rotate_left; (focus (intro w hSw; ((try dsimp only at hSw); go_simp; try with_reducible rfl))); (try simp only [Act.put, List.setIfInBounds_toArray, List.set_cons_zero, List.set_cons_succ])))
      (first | (refine wpAnyH_take (i := 20) (oi := { dst := some 23, op := Go.Op.fieldAddr 23 (Go.Operand.tmp 22) 1, type := 0, pos := "sample.go:37", after := #[{ on := 19, ground := Go.Ground.data }, { on := 16, ground := Go.Ground.guard }], guard := some (16, false) }) (v := undef) rfl (by kernel_rfl) (by kernel_rfl) (by kernel_rfl) (fun _ _ _ h => h) (Or.inr ⟨by rfl, rfl⟩) (by assumption) ?_; (try simp only [Act.put, List.setIfInBounds_toArray, List.set_cons_zero, List.set_cons_succ])) | (refine wpAnyH_take (i := 20) (oi := { dst := some 23, op := Go.Op.fieldAddr 23 (Go.Operand.tmp 22) 1, type := 0, pos := "sample.go:37", after := #[{ on := 19, ground := Go.Ground.data }, { on := 16, ground := Go.Ground.guard }], guard := some (16, false) }) (v := ?_) rfl (by kernel_rfl) (by kernel_rfl) (by kernel_rfl) (fun _ _ _ h => h) (Or.inl ⟨by rfl, ?_⟩) (by assumption) ?_; rotate_left; (focus (intro w hSw; ((try dsimp only at hSw); go_simp; try with_reducible rfl))); (try simp only [Act.put, List.setIfInBounds_toArray, List.set_cons_zero, List.set_cons_succ])))
      (first | (refine wpAnyH_take (i := 21) (oi := { dst := some 24, op := Go.Op.load 3 (Go.Operand.tmp 23), type := 3, pos := "sample.go:37", after := #[{ on := 20, ground := Go.Ground.data }, { on := 16, ground := Go.Ground.guard }], guard := some (16, false) }) (v := undef) rfl (by kernel_rfl) (by kernel_rfl) (by kernel_rfl) (fun _ _ _ h => h) (Or.inr ⟨by rfl, rfl⟩) (by assumption) ?_; (try simp only [Act.put, List.setIfInBounds_toArray, List.set_cons_zero, List.set_cons_succ])) | (refine wpAnyH_take (i := 21) (oi := { dst := some 24, op := Go.Op.load 3 (Go.Operand.tmp 23), type := 3, pos := "sample.go:37", after := #[{ on := 20, ground := Go.Ground.data }, { on := 16, ground := Go.Ground.guard }], guard := some (16, false) }) (v := ?_) rfl (by kernel_rfl) (by kernel_rfl) (by kernel_rfl) (fun _ _ _ h => h) (Or.inl ⟨by rfl, ?_⟩) (by assumption) ?_; rotate_left; (focus (intro w hSw; ((try dsimp only at hSw); go_simp; try with_reducible rfl))); (try simp only [Act.put, List.setIfInBounds_toArray, List.set_cons_zero, List.set_cons_succ])))
      (first | (refine wpAnyH_take (i := 23) (oi := { dst := some 26, op := Go.Op.fieldAddr 26 (Go.Operand.tmp 1) 5, type := 0, pos := "sample.go:37", after := #[{ on := 16, ground := Go.Ground.guard }], guard := some (16, false) }) (v := undef) rfl (by kernel_rfl) (by kernel_rfl) (by kernel_rfl) (fun _ _ _ h => h) (Or.inr ⟨by rfl, rfl⟩) (by assumption) ?_; (try simp only [Act.put, List.setIfInBounds_toArray, List.set_cons_zero, List.set_cons_succ])) | (refine wpAnyH_take (i := 23) (oi := { dst := some 26, op := Go.Op.fieldAddr 26 (Go.Operand.tmp 1) 5, type := 0, pos := "sample.go:37", after := #[{ on := 16, ground := Go.Ground.guard }], guard := some (16, false) }) (v := ?_) rfl (by kernel_rfl) (by kernel_rfl) (by kernel_rfl) (fun _ _ _ h => h) (Or.inl ⟨by rfl, ?_⟩) (by assumption) ?_; rotate_left; (focus (intro w hSw; ((try dsimp only at hSw); go_simp; try with_reducible rfl))); (try simp only [Act.put, List.setIfInBounds_toArray, List.set_cons_zero, List.set_cons_succ])))
      (first | (refine wpAnyH_take (i := 24) (oi := { dst := some 27, op := Go.Op.fieldAddr 23 (Go.Operand.tmp 26) 2, type := 0, pos := "sample.go:37", after := #[{ on := 23, ground := Go.Ground.data }, { on := 16, ground := Go.Ground.guard }], guard := some (16, false) }) (v := undef) rfl (by kernel_rfl) (by kernel_rfl) (by kernel_rfl) (fun _ _ _ h => h) (Or.inr ⟨by rfl, rfl⟩) (by assumption) ?_; (try simp only [Act.put, List.setIfInBounds_toArray, List.set_cons_zero, List.set_cons_succ])) | (refine wpAnyH_take (i := 24) (oi := { dst := some 27, op := Go.Op.fieldAddr 23 (Go.Operand.tmp 26) 2, type := 0, pos := "sample.go:37", after := #[{ on := 23, ground := Go.Ground.data }, { on := 16, ground := Go.Ground.guard }], guard := some (16, false) }) (v := ?_) rfl (by kernel_rfl) (by kernel_rfl) (by kernel_rfl) (fun _ _ _ h => h) (Or.inl ⟨by rfl, ?_⟩) (by assumption) ?_; rotate_left; (focus (intro w hSw; ((try dsimp only at hSw); go_simp; try with_reducible rfl))); (try simp only [Act.put, List.setIfInBounds_toArray, List.set_cons_zero, List.set_cons_succ])))
      (first | (refine wpAnyH_take (i := 25) (oi := { dst := some 28, op := Go.Op.load 3 (Go.Operand.tmp 27), type := 3, pos := "sample.go:37", after := #[{ on := 24, ground := Go.Ground.data }, { on := 16, ground := Go.Ground.guard }], guard := some (16, false) }) (v := undef) rfl (by kernel_rfl) (by kernel_rfl) (by kernel_rfl) (fun _ _ _ h => h) (Or.inr ⟨by rfl, rfl⟩) (by assumption) ?_; (try simp only [Act.put, List.setIfInBounds_toArray, List.set_cons_zero, List.set_cons_succ])) | (refine wpAnyH_take (i := 25) (oi := { dst := some 28, op := Go.Op.load 3 (Go.Operand.tmp 27), type := 3, pos := "sample.go:37", after := #[{ on := 24, ground := Go.Ground.data }, { on := 16, ground := Go.Ground.guard }], guard := some (16, false) }) (v := ?_) rfl (by kernel_rfl) (by kernel_rfl) (by kernel_rfl) (fun _ _ _ h => h) (Or.inl ⟨by rfl, ?_⟩) (by assumption) ?_; rotate_left; (focus (intro w hSw; ((try dsimp only at hSw); go_simp; try with_reducible rfl))); (try simp only [Act.put, List.setIfInBounds_toArray, List.set_cons_zero, List.set_cons_succ])))
      (first | (refine wpAnyH_take (i := 26) (oi := { dst := some 29, op := Go.Op.binOp Go.BinOp.sub 3 (Go.Operand.tmp 28) (Go.Operand.const (Go.Value.int Go.IntKind.i64 1)) 3, type := 3, pos := "sample.go:37", after := #[{ on := 25, ground := Go.Ground.data }, { on := 16, ground := Go.Ground.guard }], guard := some (16, false) }) (v := undef) rfl (by kernel_rfl) (by kernel_rfl) (by kernel_rfl) (fun _ _ _ h => h) (Or.inr ⟨by rfl, rfl⟩) (by assumption) ?_; (try simp only [Act.put, List.setIfInBounds_toArray, List.set_cons_zero, List.set_cons_succ])) | (refine wpAnyH_take (i := 26) (oi := { dst := some 29, op := Go.Op.binOp Go.BinOp.sub 3 (Go.Operand.tmp 28) (Go.Operand.const (Go.Value.int Go.IntKind.i64 1)) 3, type := 3, pos := "sample.go:37", after := #[{ on := 25, ground := Go.Ground.data }, { on := 16, ground := Go.Ground.guard }], guard := some (16, false) }) (v := ?_) rfl (by kernel_rfl) (by kernel_rfl) (by kernel_rfl) (fun _ _ _ h => h) (Or.inl ⟨by rfl, ?_⟩) (by assumption) ?_; rotate_left; (focus (intro w hSw; ((try dsimp only at hSw); go_simp; try with_reducible rfl))); (try simp only [Act.put, List.setIfInBounds_toArray, List.set_cons_zero, List.set_cons_succ])))
      (first | (refine wpAnyH_take (i := 22) (oi := { dst := some 25, op := Go.Op.call { callee := Go.Callee.value (Go.Operand.func 48), args := #[Go.Operand.tmp 21, Go.Operand.tmp 24], argTypes := #[24, 3] }, type := 3, pos := "sample.go:37", after := #[{ on := 18, ground := Go.Ground.data }, { on := 21, ground := Go.Ground.data }, { on := 16, ground := Go.Ground.chain }, { on := 16, ground := Go.Ground.guard }], guard := some (16, false) }) (v := undef) rfl (by kernel_rfl) (by kernel_rfl) (by kernel_rfl) (fun _ _ _ h => h) (Or.inr ⟨by rfl, rfl⟩) (by assumption) ?_; (try simp only [Act.put, List.setIfInBounds_toArray, List.set_cons_zero, List.set_cons_succ])) | (refine wpAnyH_ready (rs := [22]) (by kernel_rfl) (by simp) ?_; refine AllReadyH.cons (o := { dst := some 25, op := Go.Op.call { callee := Go.Callee.value (Go.Operand.func 48), args := #[Go.Operand.tmp 21, Go.Operand.tmp 24], argTypes := #[24, 3] }, type := 3, pos := "sample.go:37", after := #[{ on := 18, ground := Go.Ground.data }, { on := 21, ground := Go.Ground.data }, { on := 16, ground := Go.Ground.chain }, { on := 16, ground := Go.Ground.guard }], guard := some (16, false) }) rfl (fun K hK => ?_) AllReadyH.nil; go_simp; ((first | (go_at_call 45; refine (C1 _).mono ?_; rintro e wn ⟨rfl, rfl⟩) | (go_at_call 46; refine (C2 _).mono ?_; rintro e wn ⟨rfl, dn⟩; have KK := Lib.hid (Kn.later KK.out dn rfl rfl rfl rfl)) | (go_at_call 47; refine (C3 _ (Kn.same KK.out rfl rfl rfl rfl).b).mono ?_; rintro e wn ⟨rfl, dn⟩; have KK := Lib.hid (Kn.later KK.out dn rfl rfl rfl rfl)) | (go_at_call 48; refine (C4 _ (Kn.same KK.out rfl rfl rfl rfl).b).mono ?_; rintro e wn ⟨rfl, dn⟩; have KK := Lib.hid (Kn.later KK.out dn rfl rfl rfl rfl)))); go_wp2_with fail; refine hK.out _ _ ?_ (fun hHeld => ?_); (focus ((try dsimp only); (try (exact (rc_cells KK.out.hd rfl).conj)); done)); clear hK; (try simp only [Act.put, List.setIfInBounds_toArray, List.set_cons_zero, List.set_cons_succ])))
      (first | (refine wpAnyH_take (i := 27) (oi := { dst := some 30, op := Go.Op.binOp Go.BinOp.neq 3 (Go.Operand.tmp 25) (Go.Operand.tmp 29) 3, type := 4, pos := "sample.go:37", after := #[{ on := 22, ground := Go.Ground.data }, { on := 26, ground := Go.Ground.data }, { on := 16, ground := Go.Ground.guard }], guard := some (16, false) }) (v := undef) rfl (by kernel_rfl) (by kernel_rfl) (by kernel_rfl) (fun _ _ _ h => h) (Or.inr ⟨by rfl, rfl⟩) (by assumption) ?_; (try simp only [Act.put, List.setIfInBounds_toArray, List.set_cons_zero, List.set_cons_succ])) | (refine wpAnyH_take (i := 27) (oi := { dst := some 30, op := Go.Op.binOp Go.BinOp.neq 3 (Go.Operand.tmp 25) (Go.Operand.tmp 29) 3, type := 4, pos := "sample.go:37", after := #[{ on := 22, ground := Go.Ground.data }, { on := 26, ground := Go.Ground.data }, { on := 16, ground := Go.Ground.guard }], guard := some (16, false) }) (v := ?_) rfl (by kernel_rfl) (by kernel_rfl) (by kernel_rfl) (fun _ _ _ h => h) (Or.inl ⟨by rfl, ?_⟩) (by assumption) ?_; rotate_left; (focus (intro w hSw; ((try dsimp only at hSw); go_simp; try with_reducible rfl))); (try simp only [Act.put, List.setIfInBounds_toArray, List.set_cons_zero, List.set_cons_succ])))
      (refine wpAnyH_take (i := 28) (oi := { dst := some 31, op := Go.Op.pick (Go.Operand.tmp 19) (Go.Operand.const (Go.Value.bool true)) (Go.Operand.tmp 30), type := 4, pos := "sample.go:37", after := #[{ on := 16, ground := Go.Ground.data }, { on := 27, ground := Go.Ground.data }], guard := none }) (v := ?_) rfl (by kernel_rfl) (by kernel_rfl) (by kernel_rfl) (fun _ _ _ h => h) (Or.inl ⟨by rfl, ?_⟩) (by assumption) ?_; rotate_left; (focus (intro w hSw; ((try dsimp only at hSw); go_simp; try with_reducible rfl))); (try simp only [Act.put, List.setIfInBounds_toArray, List.set_cons_zero, List.set_cons_succ]))
      refine wpAnyH_done (by kernel_rfl) ?_ _
      go_wp2_with fail
      go_meet
      refine ⟨_, rfl, ?_, Kn.same KK.out rfl rfl rfl rfl⟩
      first
        | (have hs : 1 ≤ r.st.seq := (by first | exact hsq.out rfl | exact hsq.out trivial | exact hsq.out); rw [IntWalk.i64_in (r.st.seq - 1) (by have h1 := w7.1; have h2 := w7.2; omega)]; simp)
        | simp
  case rest =>
    obtain ⟨BAD, rfl, hbad, hk⟩ := hcut
    have HBAD := Lib.hid hbad
    have KK := Lib.hid hk
    clear hbad hk
    have hC := rc_cells KK.out.hd rfl
    have c0 := hC.c0
    have c1 := hC.c1
    have c3 := hC.c3
    have c4 := hC.c4
    clear hC
    cases BAD
    · have HP2 : Hid (recP r ds ↔ ((r.kind = 1 ∧ nameV r.series = true ∧ r.tier = 0) ∨ (r.kind = 2 ∧ r.series.size = 0 ∧ r.value = 0 ∧ 0 ≤ r.tier ∧ r.tier ≤ 3))) := by
        obtain ⟨h1, h2, h3, h4⟩ := HBAD.out.1 rfl
        exact HP.out.trans ⟨fun h => h.2.2.2.2, fun h => ⟨h1, h2, h3, h4, h⟩⟩
      clear HP HBAD hc01
      by_cases k1 : r.kind = 1
      · have t1 : (r.kind == 1) = true := beq_iff_eq.2 k1
        by_cases hn : nameV r.series = true ∧ r.tier = 0
        · have HV := Lib.hid (HV.out.trans (chkR_0 (HP2.out.2 (.inl ⟨k1, hn⟩))))
          have t3 : (r.tier == 0) = true := beq_iff_eq.2 hn.2
          rw [hn.1] at C5
          clear hn k1 HP2
          go_wp2_with (first | (go_at_call 18; refine (C5 _).mono ?_; rintro e wn ⟨rfl, rfl⟩))
          go_ret
          exact ⟨by rw [HV.out]; rfl, by first | exact KK.out.b | (rw [hg]; exact KK.out.b)⟩
        · have HV := Lib.hid (HV.out.trans (chkR_1 (fun h => by
            rcases HP2.out.1 h with h | h
            · exact hn h.2
            · omega)))
          have HN := Lib.hid hn
          generalize nameV r.series = NB at *
          clear hn k1 HP2
          cases NB
          · go_wp2_with (first | (go_at_call 18; refine (C5 _).mono ?_; rintro e wn ⟨rfl, rfl⟩))
            go_ret
            exact ⟨by rw [HV.out]; rfl, by first | exact KK.out.b | (rw [hg]; exact KK.out.b)⟩
          · have t3 : (r.tier == 0) = false := beq_eq_false_iff_ne.2 (fun e => HN.out ⟨rfl, e⟩)
            go_wp2_with (first | (go_at_call 18; refine (C5 _).mono ?_; rintro e wn ⟨rfl, rfl⟩))
            go_ret
            exact ⟨by rw [HV.out]; rfl, by first | exact KK.out.b | (rw [hg]; exact KK.out.b)⟩
      · have t1 : (r.kind == 1) = false := beq_eq_false_iff_ne.2 k1
        by_cases k2 : r.kind = 2
        · have t2 : (r.kind == 2) = true := beq_iff_eq.2 k2
          by_cases h0 : r.series.size = 0
          · have f1 := tl_nil r.series h0
            have f2 : (r.series.toList.isEmpty) = true := by rw [f1]; rfl
            by_cases hv : r.value = 0 ∧ 0 ≤ r.tier ∧ r.tier ≤ 3
            · have HV := Lib.hid (HV.out.trans (chkR_0 (HP2.out.2 (.inr ⟨k2, h0, hv⟩))))
              have u1 : (r.value == 0) = true := beq_iff_eq.2 hv.1
              have u2 : decide (0 ≤ r.tier) = true := decide_eq_true hv.2.1
              have u3 : decide (r.tier ≤ 3) = true := decide_eq_true hv.2.2
              clear hv k2 k1 HP2 h0
              go_wp2_with fail
              go_ret
              exact ⟨by rw [HV.out]; rfl, by first | exact KK.out.b | (rw [hg]; exact KK.out.b)⟩
            · have HV := Lib.hid (HV.out.trans (chkR_1 (fun h => by
                rcases HP2.out.1 h with h | h
                · omega
                · exact hv h.2.2)))
              have HN := Lib.hid hv
              clear hv k2 k1 HP2 h0
              by_cases v1 : r.value = 0
              · have u1 : (r.value == 0) = true := beq_iff_eq.2 v1
                by_cases v2 : 0 ≤ r.tier
                · have u2 : decide (0 ≤ r.tier) = true := decide_eq_true v2
                  have u3 : decide (r.tier ≤ 3) = false := decide_eq_false (fun e => HN.out ⟨v1, v2, e⟩)
                  clear v1 v2
                  go_wp2_with fail
                  go_ret
                  exact ⟨by rw [HV.out]; rfl, by first | exact KK.out.b | (rw [hg]; exact KK.out.b)⟩
                · have u2 : decide (0 ≤ r.tier) = false := decide_eq_false v2
                  clear v1 v2
                  go_wp2_with fail
                  go_ret
                  exact ⟨by rw [HV.out]; rfl, by first | exact KK.out.b | (rw [hg]; exact KK.out.b)⟩
              · have u1 : (r.value == 0) = false := beq_eq_false_iff_ne.2 v1
                clear v1
                go_wp2_with fail
                go_ret
                exact ⟨by rw [HV.out]; rfl, by first | exact KK.out.b | (rw [hg]; exact KK.out.b)⟩
          · obtain ⟨f1, f2, f3⟩ := tl_some r.series (by omega)
            have HV := Lib.hid (HV.out.trans (chkR_1 (fun h => by
              rcases HP2.out.1 h with h | h
              · omega
              · exact h0 h.2.1)))
            clear k2 k1 HP2 h0
            go_wp2_with fail
            go_ret
            exact ⟨by rw [HV.out]; rfl, by first | exact KK.out.b | (rw [hg]; exact KK.out.b)⟩
        · have t2 : (r.kind == 2) = false := beq_eq_false_iff_ne.2 k2
          have HV := Lib.hid (HV.out.trans (chkR_1 (fun h => by
            rcases HP2.out.1 h with h | h
            · exact k1 h.1
            · exact k2 h.1)))
          clear k1 k2 HP2
          go_wp2_with fail
          go_ret
          exact ⟨by rw [HV.out]; rfl, by first | exact KK.out.b | (rw [hg]; exact KK.out.b)⟩
    · have HV := Lib.hid (HV.out.trans (chkR_1 (fun h => by
        obtain ⟨h1, h2, h3, h4, _⟩ := HP.out.1 h
        have := HBAD.out.2 ⟨h1, h2, h3, h4⟩
        simp at this)))
      clear HP HBAD hc01
      go_wp2_with fail
      go_ret
      exact ⟨by rw [HV.out]; rfl, by first | exact KK.out.b | (rw [hg]; exact KK.out.b)⟩
end
end Go.Proofs.Ytkonflbgkaflaaa
namespace Go.Proofs.Ytkonflbgkaflaaa
section
open Go.RowKit
set_option maxRecDepth 100000
set_option linter.unusedVariables false
set_option linter.unusedSimpArgs false
attribute [local go_sem ↓] Go.wp_at_zero Go.wp_at_succ
set_option maxHeartbeats 8000000 in
set_option maxRecDepth 100000 in
theorem rscheck_any (r : Rc) (d : Sl) (ds : List Int) (w : World) (hr : r.wf) (hd : SlR w d ds) : Calls Try.prog 17 #[rcVal r d] w fun e w' => e = .returned (.int .i64 (chkR r ds)) ∧ Below w.heap.size w w' := by
  obtain ⟨V, HV⟩ : ∃ V, Hid (V = chkR r ds) := ⟨_, rfl⟩
  rw [← HV.out]
  obtain ⟨w0, w1, w2, w3, w4, w5, w6, w7⟩ := hr
  have C1 := fun wx => rclock_any r.time wx
  have C2 := fun wx => rcheck_any r.st wx
  have HD := Lib.hid hd
  have C3 := fun wx hb => rright_any d.a d.n d.c ds wx ((HD.out.below hb).r) hd.nc hd.cb
  have C4 := fun wx hb => rat_any d.a d.n d.c ds r.st.site wx ((HD.out.below hb).r) hd.nc hd.cb
  have C5 := fun wx => rname_any r.series wx w1
  have HP : Hid (recP r ds ↔ clockV r.time = true ∧ chkV r.st = 0 ∧ decide (ds = pl ds) = true ∧ atV ds r.st.site = r.st.seq - 1 ∧ ((r.kind = 1 ∧ nameV r.series = true ∧ r.tier = 0) ∨ (r.kind = 2 ∧ r.series.size = 0 ∧ r.value = 0 ∧ 0 ≤ r.tier ∧ r.tier ≤ 3))) := by
    show _ ↔ _
    unfold recP chkV
    rw [decide_eq_true_eq]
    by_cases h : okV r.st = true
    · simp [h]
    · simp [h]
  have hq : okV r.st = true → 1 ≤ r.st.seq := fun h => by
    unfold okV inV at h
    simp only [Bool.and_eq_true, decide_eq_true_eq] at h
    omega
  have hc01 : chkV r.st = 0 ∧ 1 ≤ r.st.seq ∨ chkV r.st = 1 := by
    unfold chkV
    by_cases h : okV r.st = true
    · left; rw [if_pos h]; exact ⟨rfl, hq h⟩
    · right; rw [if_neg h]
  generalize clockV r.time = B1 at *
  generalize chkV r.st = K at *
  generalize decide (ds = pl ds) = B3 at *
  generalize atV ds r.st.site = A at *
  unfold St.val at C2
  clear hd hq
  unfold rcVal rcA
  go_enter Try.func17, Try.ntmps17
  go_upto_region 1 with (fail)
  generalize hw1 : w.alloc (.cells _ 26) = w1
  have hK : Kn w.heap.size w [(w.heap.size, rcO r d)] w1 := by rw [← hw1]; exact (Kn.start w).new' rfl (rcO r d)
  clear hw1
  generalize hg : w.heap.size = g at *
  have KK := Lib.hid hK
  clear hK
  have c2 := (rc_cells KK.out.hd rfl).c2
  have c8 := (rc_cells KK.out.hd rfl).c8
  go_wp2_with fail
  refine (C1 _).mono ?_
  rintro e wn ⟨rfl, rfl⟩
  go_wp2_with fail
  refine (C3 _ KK.out.b).mono ?_
  rintro e w2 ⟨rfl, d2⟩
  have KK := Lib.hid (KK.out.below d2)
  clear d2 c2 c8 C1 C3
  go_upto_region 3 with (fail)
  go_cut [36] (fun v wx => ∃ BAD : Bool, v = .bool BAD ∧ (BAD = false ↔ B1 = true ∧ K = 0 ∧ B3 = true ∧ A = r.st.seq - 1) ∧ Kn g w [(g, rcO r d)] wx)
  case first =>
    have hcase : (B1 = false) ∨ (B1 = true ∧ B3 = false) ∨ (B1 = true ∧ B3 = true ∧ K = 1) ∨ (B1 = true ∧ B3 = true ∧ K = 0) := by
      rcases hc01 with ⟨h, _⟩ | h <;> cases B1 <;> cases B3 <;> simp [h]
    have hsq : Hid (K = 0 → 1 ≤ r.st.seq) := by
      intro h
      rcases hc01 with ⟨_, h1⟩ | h1
      · exact h1
      · omega
    clear hc01
    rcases hcase with rfl | ⟨rfl, rfl⟩ | ⟨rfl, rfl, rfl⟩ | ⟨rfl, rfl, rfl⟩
    all_goals
      refine wp_region_held_drew (S := (fun wx => wx.cell? ⟨g, 2, none⟩ = some (.int .i64 r.time) ∧ wx.cell? ⟨g, 5, none⟩ = some (.int .i64 r.st.clock) ∧ wx.cell? ⟨g, 6, none⟩ = some (.int .i64 r.st.site) ∧ wx.cell? ⟨g, 7, none⟩ = some (.int .i64 r.st.seq) ∧ wx.cell? ⟨g, 8, none⟩ = some (.slice d.a d.n d.c))) (by kernel_rfl) ?_ (fun hHeld => ?_)
      focus ((try dsimp only); (try (exact (rc_cells KK.out.hd rfl).conj)); done)
      (refine wpAnyH_take (i := 0) (oi := { dst := some 12, op := Go.Op.move (Go.Operand.tmp 3), type := 4, pos := "ref.go:31", after := #[], guard := none }) (v := ?_) rfl (by kernel_rfl) (by kernel_rfl) (by kernel_rfl) (fun _ _ _ h => h) (Or.inl ⟨by rfl, ?_⟩) (by assumption) ?_; rotate_left; (focus (intro w hSw; ((try dsimp only at hSw); go_simp; try with_reducible rfl))); (try simp only [Act.put, List.setIfInBounds_toArray, List.set_cons_zero, List.set_cons_succ]))
      (refine wpAnyH_take (i := 1) (oi := { dst := some 13, op := Go.Op.unOp Go.UnOp.not 4 (Go.Operand.tmp 12), type := 4, pos := "ref.go:31", after := #[{ on := 0, ground := Go.Ground.data }], guard := none }) (v := ?_) rfl (by kernel_rfl) (by kernel_rfl) (by kernel_rfl) (fun _ _ _ h => h) (Or.inl ⟨by rfl, ?_⟩) (by assumption) ?_; rotate_left; (focus (intro w hSw; ((try dsimp only at hSw); go_simp; try with_reducible rfl))); (try simp only [Act.put, List.setIfInBounds_toArray, List.set_cons_zero, List.set_cons_succ]))
      (refine wpAnyH_take (i := 2) (oi := { dst := some 14, op := Go.Op.move (Go.Operand.tmp 13), type := 4, pos := "ref.go:31", after := #[{ on := 1, ground := Go.Ground.data }], guard := none }) (v := ?_) rfl (by kernel_rfl) (by kernel_rfl) (by kernel_rfl) (fun _ _ _ h => h) (Or.inl ⟨by rfl, ?_⟩) (by assumption) ?_; rotate_left; (focus (intro w hSw; ((try dsimp only at hSw); go_simp; try with_reducible rfl))); (try simp only [Act.put, List.setIfInBounds_toArray, List.set_cons_zero, List.set_cons_succ]))
      (first | (refine wpAnyH_take (i := 3) (oi := { dst := some 15, op := Go.Op.move (Go.Operand.tmp 4), type := 4, pos := "ref.go:31", after := #[{ on := 2, ground := Go.Ground.guard }], guard := some (2, false) }) (v := undef) rfl (by kernel_rfl) (by kernel_rfl) (by kernel_rfl) (fun _ _ _ h => h) (Or.inr ⟨by rfl, rfl⟩) (by assumption) ?_; (try simp only [Act.put, List.setIfInBounds_toArray, List.set_cons_zero, List.set_cons_succ])) | (refine wpAnyH_take (i := 3) (oi := { dst := some 15, op := Go.Op.move (Go.Operand.tmp 4), type := 4, pos := "ref.go:31", after := #[{ on := 2, ground := Go.Ground.guard }], guard := some (2, false) }) (v := ?_) rfl (by kernel_rfl) (by kernel_rfl) (by kernel_rfl) (fun _ _ _ h => h) (Or.inl ⟨by rfl, ?_⟩) (by assumption) ?_; rotate_left; (focus (intro w hSw; ((try dsimp only at hSw); go_simp; try with_reducible rfl))); (try simp only [Act.put, List.setIfInBounds_toArray, List.set_cons_zero, List.set_cons_succ])))
      (first | (refine wpAnyH_take (i := 4) (oi := { dst := some 16, op := Go.Op.unOp Go.UnOp.not 4 (Go.Operand.tmp 15), type := 4, pos := "ref.go:31", after := #[{ on := 3, ground := Go.Ground.data }, { on := 2, ground := Go.Ground.guard }], guard := some (2, false) }) (v := undef) rfl (by kernel_rfl) (by kernel_rfl) (by kernel_rfl) (fun _ _ _ h => h) (Or.inr ⟨by rfl, rfl⟩) (by assumption) ?_; (try simp only [Act.put, List.setIfInBounds_toArray, List.set_cons_zero, List.set_cons_succ])) | (refine wpAnyH_take (i := 4) (oi := { dst := some 16, op := Go.Op.unOp Go.UnOp.not 4 (Go.Operand.tmp 15), type := 4, pos := "ref.go:31", after := #[{ on := 3, ground := Go.Ground.data }, { on := 2, ground := Go.Ground.guard }], guard := some (2, false) }) (v := ?_) rfl (by kernel_rfl) (by kernel_rfl) (by kernel_rfl) (fun _ _ _ h => h) (Or.inl ⟨by rfl, ?_⟩) (by assumption) ?_; rotate_left; (focus (intro w hSw; ((try dsimp only at hSw); go_simp; try with_reducible rfl))); (try simp only [Act.put, List.setIfInBounds_toArray, List.set_cons_zero, List.set_cons_succ])))
      (refine wpAnyH_take (i := 5) (oi := { dst := some 17, op := Go.Op.pick (Go.Operand.tmp 14) (Go.Operand.const (Go.Value.bool true)) (Go.Operand.tmp 16), type := 4, pos := "ref.go:31", after := #[{ on := 2, ground := Go.Ground.data }, { on := 4, ground := Go.Ground.data }], guard := none }) (v := ?_) rfl (by kernel_rfl) (by kernel_rfl) (by kernel_rfl) (fun _ _ _ h => h) (Or.inl ⟨by rfl, ?_⟩) (by assumption) ?_; rotate_left; (focus (intro w hSw; ((try dsimp only at hSw); go_simp; try with_reducible rfl))); (try simp only [Act.put, List.setIfInBounds_toArray, List.set_cons_zero, List.set_cons_succ]))
      (refine wpAnyH_take (i := 6) (oi := { dst := some 18, op := Go.Op.move (Go.Operand.tmp 17), type := 4, pos := "ref.go:31", after := #[{ on := 5, ground := Go.Ground.data }, { on := 2, ground := Go.Ground.chain }], guard := none }) (v := ?_) rfl (by kernel_rfl) (by kernel_rfl) (by kernel_rfl) (fun _ _ _ h => h) (Or.inl ⟨by rfl, ?_⟩) (by assumption) ?_; rotate_left; (focus (intro w hSw; ((try dsimp only at hSw); go_simp; try with_reducible rfl))); (try simp only [Act.put, List.setIfInBounds_toArray, List.set_cons_zero, List.set_cons_succ]))
      (first | (refine wpAnyH_take (i := 7) (oi := { dst := some 19, op := Go.Op.fieldAddr 26 (Go.Operand.tmp 1) 5, type := 0, pos := "ref.go:31", after := #[{ on := 6, ground := Go.Ground.guard }], guard := some (6, false) }) (v := undef) rfl (by kernel_rfl) (by kernel_rfl) (by kernel_rfl) (fun _ _ _ h => h) (Or.inr ⟨by rfl, rfl⟩) (by assumption) ?_; (try simp only [Act.put, List.setIfInBounds_toArray, List.set_cons_zero, List.set_cons_succ])) | (refine wpAnyH_take (i := 7) (oi := { dst := some 19, op := Go.Op.fieldAddr 26 (Go.Operand.tmp 1) 5, type := 0, pos := "ref.go:31", after := #[{ on := 6, ground := Go.Ground.guard }], guard := some (6, false) }) (v := ?_) rfl (by kernel_rfl) (by kernel_rfl) (by kernel_rfl) (fun _ _ _ h => h) (Or.inl ⟨by rfl, ?_⟩) (by assumption) ?_; rotate_left; (focus (intro w hSw; ((try dsimp only at hSw); go_simp; try with_reducible rfl))); (try simp only [Act.put, List.setIfInBounds_toArray, List.set_cons_zero, List.set_cons_succ])))
      (first | (refine wpAnyH_take (i := 8) (oi := { dst := some 20, op := Go.Op.load 23 (Go.Operand.tmp 19), type := 23, pos := "ref.go:31", after := #[{ on := 7, ground := Go.Ground.data }, { on := 6, ground := Go.Ground.guard }], guard := some (6, false) }) (v := undef) rfl (by kernel_rfl) (by kernel_rfl) (by kernel_rfl) (fun _ _ _ h => h) (Or.inr ⟨by rfl, rfl⟩) (by assumption) ?_; (try simp only [Act.put, List.setIfInBounds_toArray, List.set_cons_zero, List.set_cons_succ])) | (refine wpAnyH_take (i := 8) (oi := { dst := some 20, op := Go.Op.load 23 (Go.Operand.tmp 19), type := 23, pos := "ref.go:31", after := #[{ on := 7, ground := Go.Ground.data }, { on := 6, ground := Go.Ground.guard }], guard := some (6, false) }) (v := ?_) rfl (by kernel_rfl) (by kernel_rfl) (by kernel_rfl) (fun _ _ _ h => h) (Or.inl ⟨by rfl, ?_⟩) (by assumption) ?_; rotate_left; (focus (intro w hSw; ((try dsimp only at hSw); go_simp; try with_reducible rfl))); (try simp only [Act.put, List.setIfInBounds_toArray, List.set_cons_zero, List.set_cons_succ])))
      (first | (refine wpAnyH_take (i := 9) (oi := { dst := some 21, op := Go.Op.call { callee := Go.Callee.value (Go.Operand.func 51), args := #[Go.Operand.tmp 20], argTypes := #[23] }, type := 30, pos := "ref.go:31", after := #[{ on := 8, ground := Go.Ground.data }, { on := 6, ground := Go.Ground.chain }, { on := 6, ground := Go.Ground.guard }], guard := some (6, false) }) (v := undef) rfl (by kernel_rfl) (by kernel_rfl) (by kernel_rfl) (fun _ _ _ h => h) (Or.inr ⟨by rfl, rfl⟩) (by assumption) ?_; (try simp only [Act.put, List.setIfInBounds_toArray, List.set_cons_zero, List.set_cons_succ])) | (refine wpAnyH_ready (rs := [9]) (by kernel_rfl) (by simp) ?_; refine AllReadyH.cons (o := { dst := some 21, op := Go.Op.call { callee := Go.Callee.value (Go.Operand.func 51), args := #[Go.Operand.tmp 20], argTypes := #[23] }, type := 30, pos := "ref.go:31", after := #[{ on := 8, ground := Go.Ground.data }, { on := 6, ground := Go.Ground.chain }, { on := 6, ground := Go.Ground.guard }], guard := some (6, false) }) rfl (fun K hK => ?_) AllReadyH.nil; go_simp; ((first | (go_at_call 51; refine (C2 _).mono ?_; rintro e wn ⟨rfl, dn⟩; have KK := Lib.hid (Kn.later KK.out dn rfl rfl rfl rfl)) | (go_at_call 52; refine (C4 _ (Kn.same KK.out rfl rfl rfl rfl).b).mono ?_; rintro e wn ⟨rfl, dn⟩; have KK := Lib.hid (Kn.later KK.out dn rfl rfl rfl rfl)))); go_wp2_with fail; refine hK.out _ _ ?_ (fun hHeld => ?_); (focus ((try dsimp only); (try (exact (rc_cells KK.out.hd rfl).conj)); done)); clear hK; (try simp only [Act.put, List.setIfInBounds_toArray, List.set_cons_zero, List.set_cons_succ])))
      (first | (refine wpAnyH_take (i := 10) (oi := { dst := some 22, op := Go.Op.binOp Go.BinOp.neq 30 (Go.Operand.tmp 21) (Go.Operand.const (Go.Value.int Go.IntKind.i64 0)) 30, type := 4, pos := "ref.go:31", after := #[{ on := 9, ground := Go.Ground.data }, { on := 6, ground := Go.Ground.guard }], guard := some (6, false) }) (v := undef) rfl (by kernel_rfl) (by kernel_rfl) (by kernel_rfl) (fun _ _ _ h => h) (Or.inr ⟨by rfl, rfl⟩) (by assumption) ?_; (try simp only [Act.put, List.setIfInBounds_toArray, List.set_cons_zero, List.set_cons_succ])) | (refine wpAnyH_take (i := 10) (oi := { dst := some 22, op := Go.Op.binOp Go.BinOp.neq 30 (Go.Operand.tmp 21) (Go.Operand.const (Go.Value.int Go.IntKind.i64 0)) 30, type := 4, pos := "ref.go:31", after := #[{ on := 9, ground := Go.Ground.data }, { on := 6, ground := Go.Ground.guard }], guard := some (6, false) }) (v := ?_) rfl (by kernel_rfl) (by kernel_rfl) (by kernel_rfl) (fun _ _ _ h => h) (Or.inl ⟨by rfl, ?_⟩) (by assumption) ?_; rotate_left; (focus (intro w hSw; ((try dsimp only at hSw); go_simp; try with_reducible rfl))); (try simp only [Act.put, List.setIfInBounds_toArray, List.set_cons_zero, List.set_cons_succ])))
      (refine wpAnyH_take (i := 11) (oi := { dst := some 23, op := Go.Op.pick (Go.Operand.tmp 18) (Go.Operand.const (Go.Value.bool true)) (Go.Operand.tmp 22), type := 4, pos := "ref.go:31", after := #[{ on := 6, ground := Go.Ground.data }, { on := 10, ground := Go.Ground.data }], guard := none }) (v := ?_) rfl (by kernel_rfl) (by kernel_rfl) (by kernel_rfl) (fun _ _ _ h => h) (Or.inl ⟨by rfl, ?_⟩) (by assumption) ?_; rotate_left; (focus (intro w hSw; ((try dsimp only at hSw); go_simp; try with_reducible rfl))); (try simp only [Act.put, List.setIfInBounds_toArray, List.set_cons_zero, List.set_cons_succ]))
      (refine wpAnyH_take (i := 12) (oi := { dst := some 24, op := Go.Op.move (Go.Operand.tmp 23), type := 4, pos := "ref.go:31", after := #[{ on := 11, ground := Go.Ground.data }, { on := 9, ground := Go.Ground.chain }], guard := none }) (v := ?_) rfl (by kernel_rfl) (by kernel_rfl) (by kernel_rfl) (fun _ _ _ h => h) (Or.inl ⟨by rfl, ?_⟩) (by assumption) ?_; rotate_left; (focus (intro w hSw; ((try dsimp only at hSw); go_simp; try with_reducible rfl))); (try simp only [Act.put, List.setIfInBounds_toArray, List.set_cons_zero, List.set_cons_succ]))
      (first | (refine wpAnyH_take (i := 13) (oi := { dst := some 25, op := Go.Op.fieldAddr 26 (Go.Operand.tmp 1) 6, type := 0, pos := "ref.go:31", after := #[{ on := 12, ground := Go.Ground.guard }], guard := some (12, false) }) (v := undef) rfl (by kernel_rfl) (by kernel_rfl) (by kernel_rfl) (fun _ _ _ h => h) (Or.inr ⟨by rfl, rfl⟩) (by assumption) ?_; (try simp only [Act.put, List.setIfInBounds_toArray, List.set_cons_zero, List.set_cons_succ])) | (refine wpAnyH_take (i := 13) (oi := { dst := some 25, op := Go.Op.fieldAddr 26 (Go.Operand.tmp 1) 6, type := 0, pos := "ref.go:31", after := #[{ on := 12, ground := Go.Ground.guard }], guard := some (12, false) }) (v := ?_) rfl (by kernel_rfl) (by kernel_rfl) (by kernel_rfl) (fun _ _ _ h => h) (Or.inl ⟨by rfl, ?_⟩) (by assumption) ?_; rotate_left; (focus (intro w hSw; ((try dsimp only at hSw); go_simp; try with_reducible rfl))); (try simp only [Act.put, List.setIfInBounds_toArray, List.set_cons_zero, List.set_cons_succ])))
      (first | (refine wpAnyH_take (i := 14) (oi := { dst := some 26, op := Go.Op.load 24 (Go.Operand.tmp 25), type := 24, pos := "ref.go:31", after := #[{ on := 13, ground := Go.Ground.data }, { on := 12, ground := Go.Ground.guard }], guard := some (12, false) }) (v := undef) rfl (by kernel_rfl) (by kernel_rfl) (by kernel_rfl) (fun _ _ _ h => h) (Or.inr ⟨by rfl, rfl⟩) (by assumption) ?_; (try simp only [Act.put, List.setIfInBounds_toArray, List.set_cons_zero, List.set_cons_succ])) | (refine wpAnyH_take (i := 14) (oi := { dst := some 26, op := Go.Op.load 24 (Go.Operand.tmp 25), type := 24, pos := "ref.go:31", after := #[{ on := 13, ground := Go.Ground.data }, { on := 12, ground := Go.Ground.guard }], guard := some (12, false) }) (v := ?_) rfl (by kernel_rfl) (by kernel_rfl) (by kernel_rfl) (fun _ _ _ h => h) (Or.inl ⟨by rfl, ?_⟩) (by assumption) ?_; rotate_left; (focus (intro w hSw; ((try dsimp only at hSw); go_simp; try with_reducible rfl))); (try simp only [Act.put, List.setIfInBounds_toArray, List.set_cons_zero, List.set_cons_succ])))
      (first | (refine wpAnyH_take (i := 15) (oi := { dst := some 27, op := Go.Op.fieldAddr 26 (Go.Operand.tmp 1) 5, type := 0, pos := "ref.go:31", after := #[{ on := 12, ground := Go.Ground.guard }], guard := some (12, false) }) (v := undef) rfl (by kernel_rfl) (by kernel_rfl) (by kernel_rfl) (fun _ _ _ h => h) (Or.inr ⟨by rfl, rfl⟩) (by assumption) ?_; (try simp only [Act.put, List.setIfInBounds_toArray, List.set_cons_zero, List.set_cons_succ])) | (refine wpAnyH_take (i := 15) (oi := { dst := some 27, op := Go.Op.fieldAddr 26 (Go.Operand.tmp 1) 5, type := 0, pos := "ref.go:31", after := #[{ on := 12, ground := Go.Ground.guard }], guard := some (12, false) }) (v := ?_) rfl (by kernel_rfl) (by kernel_rfl) (by kernel_rfl) (fun _ _ _ h => h) (Or.inl ⟨by rfl, ?_⟩) (by assumption) ?_; rotate_left; (focus (intro w hSw; ((try dsimp only at hSw); go_simp; try with_reducible rfl))); (try simp only [Act.put, List.setIfInBounds_toArray, List.set_cons_zero, List.set_cons_succ])))
      (first | (refine wpAnyH_take (i := 16) (oi := { dst := some 28, op := Go.Op.fieldAddr 23 (Go.Operand.tmp 27) 1, type := 0, pos := "ref.go:31", after := #[{ on := 15, ground := Go.Ground.data }, { on := 12, ground := Go.Ground.guard }], guard := some (12, false) }) (v := undef) rfl (by kernel_rfl) (by kernel_rfl) (by kernel_rfl) (fun _ _ _ h => h) (Or.inr ⟨by rfl, rfl⟩) (by assumption) ?_; (try simp only [Act.put, List.setIfInBounds_toArray, List.set_cons_zero, List.set_cons_succ])) | (refine wpAnyH_take (i := 16) (oi := { dst := some 28, op := Go.Op.fieldAddr 23 (Go.Operand.tmp 27) 1, type := 0, pos := "ref.go:31", after := #[{ on := 15, ground := Go.Ground.data }, { on := 12, ground := Go.Ground.guard }], guard := some (12, false) }) (v := ?_) rfl (by kernel_rfl) (by kernel_rfl) (by kernel_rfl) (fun _ _ _ h => h) (Or.inl ⟨by rfl, ?_⟩) (by assumption) ?_; rotate_left; (focus (intro w hSw; ((try dsimp only at hSw); go_simp; try with_reducible rfl))); (try simp only [Act.put, List.setIfInBounds_toArray, List.set_cons_zero, List.set_cons_succ])))
      (first | (refine wpAnyH_take (i := 17) (oi := { dst := some 29, op := Go.Op.load 3 (Go.Operand.tmp 28), type := 3, pos := "ref.go:31", after := #[{ on := 16, ground := Go.Ground.data }, { on := 12, ground := Go.Ground.guard }], guard := some (12, false) }) (v := undef) rfl (by kernel_rfl) (by kernel_rfl) (by kernel_rfl) (fun _ _ _ h => h) (Or.inr ⟨by rfl, rfl⟩) (by assumption) ?_; (try simp only [Act.put, List.setIfInBounds_toArray, List.set_cons_zero, List.set_cons_succ])) | (refine wpAnyH_take (i := 17) (oi := { dst := some 29, op := Go.Op.load 3 (Go.Operand.tmp 28), type := 3, pos := "ref.go:31", after := #[{ on := 16, ground := Go.Ground.data }, { on := 12, ground := Go.Ground.guard }], guard := some (12, false) }) (v := ?_) rfl (by kernel_rfl) (by kernel_rfl) (by kernel_rfl) (fun _ _ _ h => h) (Or.inl ⟨by rfl, ?_⟩) (by assumption) ?_; rotate_left; (focus (intro w hSw; ((try dsimp only at hSw); go_simp; try with_reducible rfl))); (try simp only [Act.put, List.setIfInBounds_toArray, List.set_cons_zero, List.set_cons_succ])))
      (first | (refine wpAnyH_take (i := 19) (oi := { dst := some 31, op := Go.Op.fieldAddr 26 (Go.Operand.tmp 1) 5, type := 0, pos := "ref.go:31", after := #[{ on := 12, ground := Go.Ground.guard }], guard := some (12, false) }) (v := undef) rfl (by kernel_rfl) (by kernel_rfl) (by kernel_rfl) (fun _ _ _ h => h) (Or.inr ⟨by rfl, rfl⟩) (by assumption) ?_; (try simp only [Act.put, List.setIfInBounds_toArray, List.set_cons_zero, List.set_cons_succ])) | (refine wpAnyH_take (i := 19) (oi := { dst := some 31, op := Go.Op.fieldAddr 26 (Go.Operand.tmp 1) 5, type := 0, pos := "ref.go:31", after := #[{ on := 12, ground := Go.Ground.guard }], guard := some (12, false) }) (v := ?_) rfl (by kernel_rfl) (by kernel_rfl) (by kernel_rfl) (fun _ _ _ h => h) (Or.inl ⟨by rfl, ?_⟩) (by assumption) ?_; rotate_left; (focus (intro w hSw; ((try dsimp only at hSw); go_simp; try with_reducible rfl))); (try simp only [Act.put, List.setIfInBounds_toArray, List.set_cons_zero, List.set_cons_succ])))
      (first | (refine wpAnyH_take (i := 20) (oi := { dst := some 32, op := Go.Op.fieldAddr 23 (Go.Operand.tmp 31) 2, type := 0, pos := "ref.go:31", after := #[{ on := 19, ground := Go.Ground.data }, { on := 12, ground := Go.Ground.guard }], guard := some (12, false) }) (v := undef) rfl (by kernel_rfl) (by kernel_rfl) (by kernel_rfl) (fun _ _ _ h => h) (Or.inr ⟨by rfl, rfl⟩) (by assumption) ?_; (try simp only [Act.put, List.setIfInBounds_toArray, List.set_cons_zero, List.set_cons_succ])) | (refine wpAnyH_take (i := 20) (oi := { dst := some 32, op := Go.Op.fieldAddr 23 (Go.Operand.tmp 31) 2, type := 0, pos := "ref.go:31", after := #[{ on := 19, ground := Go.Ground.data }, { on := 12, ground := Go.Ground.guard }], guard := some (12, false) }) (v := ?_) rfl (by kernel_rfl) (by kernel_rfl) (by kernel_rfl) (fun _ _ _ h => h) (Or.inl ⟨by rfl, ?_⟩) (by assumption) ?_; rotate_left; (focus (intro w hSw; ((try dsimp only at hSw); go_simp; try with_reducible rfl))); (try simp only [Act.put, List.setIfInBounds_toArray, List.set_cons_zero, List.set_cons_succ])))
      (first | (refine wpAnyH_take (i := 21) (oi := { dst := some 33, op := Go.Op.load 3 (Go.Operand.tmp 32), type := 3, pos := "ref.go:31", after := #[{ on := 20, ground := Go.Ground.data }, { on := 12, ground := Go.Ground.guard }], guard := some (12, false) }) (v := undef) rfl (by kernel_rfl) (by kernel_rfl) (by kernel_rfl) (fun _ _ _ h => h) (Or.inr ⟨by rfl, rfl⟩) (by assumption) ?_; (try simp only [Act.put, List.setIfInBounds_toArray, List.set_cons_zero, List.set_cons_succ])) | (refine wpAnyH_take (i := 21) (oi := { dst := some 33, op := Go.Op.load 3 (Go.Operand.tmp 32), type := 3, pos := "ref.go:31", after := #[{ on := 20, ground := Go.Ground.data }, { on := 12, ground := Go.Ground.guard }], guard := some (12, false) }) (v := ?_) rfl (by kernel_rfl) (by kernel_rfl) (by kernel_rfl) (fun _ _ _ h => h) (Or.inl ⟨by rfl, ?_⟩) (by assumption) ?_; rotate_left; (focus (intro w hSw; ((try dsimp only at hSw); go_simp; try with_reducible rfl))); (try simp only [Act.put, List.setIfInBounds_toArray, List.set_cons_zero, List.set_cons_succ])))
      (first | (refine wpAnyH_take (i := 22) (oi := { dst := some 34, op := Go.Op.binOp Go.BinOp.sub 3 (Go.Operand.tmp 33) (Go.Operand.const (Go.Value.int Go.IntKind.i64 1)) 3, type := 3, pos := "ref.go:31", after := #[{ on := 21, ground := Go.Ground.data }, { on := 12, ground := Go.Ground.guard }], guard := some (12, false) }) (v := undef) rfl (by kernel_rfl) (by kernel_rfl) (by kernel_rfl) (fun _ _ _ h => h) (Or.inr ⟨by rfl, rfl⟩) (by assumption) ?_; (try simp only [Act.put, List.setIfInBounds_toArray, List.set_cons_zero, List.set_cons_succ])) | (refine wpAnyH_take (i := 22) (oi := { dst := some 34, op := Go.Op.binOp Go.BinOp.sub 3 (Go.Operand.tmp 33) (Go.Operand.const (Go.Value.int Go.IntKind.i64 1)) 3, type := 3, pos := "ref.go:31", after := #[{ on := 21, ground := Go.Ground.data }, { on := 12, ground := Go.Ground.guard }], guard := some (12, false) }) (v := ?_) rfl (by kernel_rfl) (by kernel_rfl) (by kernel_rfl) (fun _ _ _ h => h) (Or.inl ⟨by rfl, ?_⟩) (by assumption) ?_; rotate_left; (focus (intro w hSw; ((try dsimp only at hSw); go_simp; try with_reducible rfl))); (try simp only [Act.put, List.setIfInBounds_toArray, List.set_cons_zero, List.set_cons_succ])))
      (first | (refine wpAnyH_take (i := 18) (oi := { dst := some 30, op := Go.Op.call { callee := Go.Callee.value (Go.Operand.func 52), args := #[Go.Operand.tmp 26, Go.Operand.tmp 29], argTypes := #[24, 3] }, type := 3, pos := "ref.go:31", after := #[{ on := 14, ground := Go.Ground.data }, { on := 17, ground := Go.Ground.data }, { on := 12, ground := Go.Ground.chain }, { on := 12, ground := Go.Ground.guard }], guard := some (12, false) }) (v := undef) rfl (by kernel_rfl) (by kernel_rfl) (by kernel_rfl) (fun _ _ _ h => h) (Or.inr ⟨by rfl, rfl⟩) (by assumption) ?_; (try simp only [Act.put, List.setIfInBounds_toArray, List.set_cons_zero, List.set_cons_succ])) | (refine wpAnyH_ready (rs := [18]) (by kernel_rfl) (by simp) ?_; refine AllReadyH.cons (o := { dst := some 30, op := Go.Op.call { callee := Go.Callee.value (Go.Operand.func 52), args := #[Go.Operand.tmp 26, Go.Operand.tmp 29], argTypes := #[24, 3] }, type := 3, pos := "ref.go:31", after := #[{ on := 14, ground := Go.Ground.data }, { on := 17, ground := Go.Ground.data }, { on := 12, ground := Go.Ground.chain }, { on := 12, ground := Go.Ground.guard }], guard := some (12, false) }) rfl (fun K hK => ?_) AllReadyH.nil; go_simp; ((first | (go_at_call 51; refine (C2 _).mono ?_; rintro e wn ⟨rfl, dn⟩; have KK := Lib.hid (Kn.later KK.out dn rfl rfl rfl rfl)) | (go_at_call 52; refine (C4 _ (Kn.same KK.out rfl rfl rfl rfl).b).mono ?_; rintro e wn ⟨rfl, dn⟩; have KK := Lib.hid (Kn.later KK.out dn rfl rfl rfl rfl)))); go_wp2_with fail; refine hK.out _ _ ?_ (fun hHeld => ?_); (focus ((try dsimp only); (try (exact (rc_cells KK.out.hd rfl).conj)); done)); clear hK; (try simp only [Act.put, List.setIfInBounds_toArray, List.set_cons_zero, List.set_cons_succ])))
      (first | (refine wpAnyH_take (i := 23) (oi := { dst := some 35, op := Go.Op.binOp Go.BinOp.neq 3 (Go.Operand.tmp 30) (Go.Operand.tmp 34) 3, type := 4, pos := "ref.go:31", after := #[{ on := 18, ground := Go.Ground.data }, { on := 22, ground := Go.Ground.data }, { on := 12, ground := Go.Ground.guard }], guard := some (12, false) }) (v := undef) rfl (by kernel_rfl) (by kernel_rfl) (by kernel_rfl) (fun _ _ _ h => h) (Or.inr ⟨by rfl, rfl⟩) (by assumption) ?_; (try simp only [Act.put, List.setIfInBounds_toArray, List.set_cons_zero, List.set_cons_succ])) | (refine wpAnyH_take (i := 23) (oi := { dst := some 35, op := Go.Op.binOp Go.BinOp.neq 3 (Go.Operand.tmp 30) (Go.Operand.tmp 34) 3, type := 4, pos := "ref.go:31", after := #[{ on := 18, ground := Go.Ground.data }, { on := 22, ground := Go.Ground.data }, { on := 12, ground := Go.Ground.guard }], guard := some (12, false) }) (v := ?_) rfl (by kernel_rfl) (by kernel_rfl) (by kernel_rfl) (fun _ _ _ h => h) (Or.inl ⟨by rfl, ?_⟩) (by assumption) ?_; rotate_left; (focus (intro w hSw; ((try dsimp only at hSw); go_simp; try with_reducible rfl))); (try simp only [Act.put, List.setIfInBounds_toArray, List.set_cons_zero, List.set_cons_succ])))
      (refine wpAnyH_take (i := 24) (oi := { dst := some 36, op := Go.Op.pick (Go.Operand.tmp 24) (Go.Operand.const (Go.Value.bool true)) (Go.Operand.tmp 35), type := 4, pos := "ref.go:31", after := #[{ on := 12, ground := Go.Ground.data }, { on := 23, ground := Go.Ground.data }], guard := none }) (v := ?_) rfl (by kernel_rfl) (by kernel_rfl) (by kernel_rfl) (fun _ _ _ h => h) (Or.inl ⟨by rfl, ?_⟩) (by assumption) ?_; rotate_left; (focus (intro w hSw; ((try dsimp only at hSw); go_simp; try with_reducible rfl))); (try simp only [Act.put, List.setIfInBounds_toArray, List.set_cons_zero, List.set_cons_succ]))
      refine wpAnyH_done (by kernel_rfl) ?_ _
      go_wp2_with fail
      go_meet
      refine ⟨_, rfl, ?_, Kn.same KK.out rfl rfl rfl rfl⟩
      first
        | (have hs : 1 ≤ r.st.seq := (by first | exact hsq.out rfl | exact hsq.out trivial | exact hsq.out); rw [IntWalk.i64_in (r.st.seq - 1) (by have h1 := w7.1; have h2 := w7.2; omega)]; simp)
        | simp
  case rest =>
    obtain ⟨BAD, rfl, hbad, hk⟩ := hcut
    have HBAD := Lib.hid hbad
    have KK := Lib.hid hk
    clear hbad hk
    have hC := rc_cells KK.out.hd rfl
    have c0 := hC.c0
    have c1 := hC.c1
    have c3 := hC.c3
    have c4 := hC.c4
    clear hC
    cases BAD
    · have HP2 : Hid (recP r ds ↔ ((r.kind = 1 ∧ nameV r.series = true ∧ r.tier = 0) ∨ (r.kind = 2 ∧ r.series.size = 0 ∧ r.value = 0 ∧ 0 ≤ r.tier ∧ r.tier ≤ 3))) := by
        obtain ⟨h1, h2, h3, h4⟩ := HBAD.out.1 rfl
        exact HP.out.trans ⟨fun h => h.2.2.2.2, fun h => ⟨h1, h2, h3, h4, h⟩⟩
      clear HP HBAD hc01
      by_cases k1 : r.kind = 1
      · have t1 : (r.kind == 1) = true := beq_iff_eq.2 k1
        have t2 : (r.kind == 2) = false := beq_eq_false_iff_ne.2 (by omega)
        by_cases hn : nameV r.series = true ∧ r.tier = 0
        · have HV := Lib.hid (HV.out.trans (chkR_0 (HP2.out.2 (.inl ⟨k1, hn⟩))))
          have t3 : (r.tier == 0) = true := beq_iff_eq.2 hn.2
          rw [hn.1] at C5
          clear hn k1 HP2
          go_wp2_with (first | (go_at_call 19; refine (C5 _).mono ?_; rintro e wn ⟨rfl, rfl⟩))
          go_ret
          exact ⟨by rw [HV.out]; rfl, by first | exact KK.out.b | (rw [hg]; exact KK.out.b)⟩
        · have HV := Lib.hid (HV.out.trans (chkR_1 (fun h => by
            rcases HP2.out.1 h with h | h
            · exact hn h.2
            · omega)))
          have HN := Lib.hid hn
          generalize nameV r.series = NB at *
          clear hn k1 HP2
          cases NB
          · go_wp2_with (first | (go_at_call 19; refine (C5 _).mono ?_; rintro e wn ⟨rfl, rfl⟩))
            go_ret
            exact ⟨by rw [HV.out]; rfl, by first | exact KK.out.b | (rw [hg]; exact KK.out.b)⟩
          · have t3 : (r.tier == 0) = false := beq_eq_false_iff_ne.2 (fun e => HN.out ⟨rfl, e⟩)
            go_wp2_with (first | (go_at_call 19; refine (C5 _).mono ?_; rintro e wn ⟨rfl, rfl⟩))
            go_ret
            exact ⟨by rw [HV.out]; rfl, by first | exact KK.out.b | (rw [hg]; exact KK.out.b)⟩
      · have t1 : (r.kind == 1) = false := beq_eq_false_iff_ne.2 k1
        by_cases k2 : r.kind = 2
        · have t2 : (r.kind == 2) = true := beq_iff_eq.2 k2
          by_cases h0 : r.series.size = 0
          · have f1 := tl_nil r.series h0
            have f2 : (r.series.toList.isEmpty) = true := by rw [f1]; rfl
            by_cases hv : r.value = 0 ∧ 0 ≤ r.tier ∧ r.tier ≤ 3
            · have HV := Lib.hid (HV.out.trans (chkR_0 (HP2.out.2 (.inr ⟨k2, h0, hv⟩))))
              have u1 : (r.value == 0) = true := beq_iff_eq.2 hv.1
              have u2 : decide (0 ≤ r.tier) = true := decide_eq_true hv.2.1
              have u3 : decide (r.tier ≤ 3) = true := decide_eq_true hv.2.2
              clear hv k2 k1 HP2 h0
              go_wp2_with (first | (go_at_call 19; refine (C5 _).mono ?_; rintro e wn ⟨rfl, rfl⟩))
              go_ret
              exact ⟨by rw [HV.out]; rfl, by first | exact KK.out.b | (rw [hg]; exact KK.out.b)⟩
            · have HV := Lib.hid (HV.out.trans (chkR_1 (fun h => by
                rcases HP2.out.1 h with h | h
                · omega
                · exact hv h.2.2)))
              have HN := Lib.hid hv
              clear hv k2 k1 HP2 h0
              by_cases v1 : r.value = 0
              · have u1 : (r.value == 0) = true := beq_iff_eq.2 v1
                by_cases v2 : 0 ≤ r.tier
                · have u2 : decide (0 ≤ r.tier) = true := decide_eq_true v2
                  have u3 : decide (r.tier ≤ 3) = false := decide_eq_false (fun e => HN.out ⟨v1, v2, e⟩)
                  clear v1 v2
                  go_wp2_with (first | (go_at_call 19; refine (C5 _).mono ?_; rintro e wn ⟨rfl, rfl⟩))
                  go_ret
                  exact ⟨by rw [HV.out]; rfl, by first | exact KK.out.b | (rw [hg]; exact KK.out.b)⟩
                · have u2 : decide (0 ≤ r.tier) = false := decide_eq_false v2
                  clear v1 v2
                  go_wp2_with (first | (go_at_call 19; refine (C5 _).mono ?_; rintro e wn ⟨rfl, rfl⟩))
                  go_ret
                  exact ⟨by rw [HV.out]; rfl, by first | exact KK.out.b | (rw [hg]; exact KK.out.b)⟩
              · have u1 : (r.value == 0) = false := beq_eq_false_iff_ne.2 v1
                clear v1
                go_wp2_with (first | (go_at_call 19; refine (C5 _).mono ?_; rintro e wn ⟨rfl, rfl⟩))
                go_ret
                exact ⟨by rw [HV.out]; rfl, by first | exact KK.out.b | (rw [hg]; exact KK.out.b)⟩
          · obtain ⟨f1, f2, f3⟩ := tl_some r.series (by omega)
            have HV := Lib.hid (HV.out.trans (chkR_1 (fun h => by
              rcases HP2.out.1 h with h | h
              · omega
              · exact h0 h.2.1)))
            clear k2 k1 HP2 h0
            go_wp2_with (first | (go_at_call 19; refine (C5 _).mono ?_; rintro e wn ⟨rfl, rfl⟩))
            go_ret
            exact ⟨by rw [HV.out]; rfl, by first | exact KK.out.b | (rw [hg]; exact KK.out.b)⟩
        · have t2 : (r.kind == 2) = false := beq_eq_false_iff_ne.2 k2
          have HV := Lib.hid (HV.out.trans (chkR_1 (fun h => by
            rcases HP2.out.1 h with h | h
            · exact k1 h.1
            · exact k2 h.1)))
          clear k1 k2 HP2
          go_wp2_with (first | (go_at_call 19; refine (C5 _).mono ?_; rintro e wn ⟨rfl, rfl⟩))
          go_ret
          exact ⟨by rw [HV.out]; rfl, by first | exact KK.out.b | (rw [hg]; exact KK.out.b)⟩
    · have HV := Lib.hid (HV.out.trans (chkR_1 (fun h => by
        obtain ⟨h1, h2, h3, h4, _⟩ := HP.out.1 h
        have := HBAD.out.2 ⟨h1, h2, h3, h4⟩
        simp at this)))
      clear HP HBAD hc01
      go_wp2_with (first | (go_at_call 19; refine (C5 _).mono ?_; rintro e wn ⟨rfl, rfl⟩))
      go_ret
      exact ⟨by rw [HV.out]; rfl, by first | exact KK.out.b | (rw [hg]; exact KK.out.b)⟩
end
end Go.Proofs.Ytkonflbgkaflaaa
namespace Go.Proofs.Ytkonflbgkaflaaa
section
open Go.RowKit Go.Shelf
set_option maxRecDepth 100000
set_option linter.unusedVariables false
set_option linter.unusedSimpArgs false
def lays169_ren : Go.Shelf.Ren := ⟨fun | 169 => 57 | n => n, fun | 70 => 70 | 9 => 9 | 0 => 0 | 72 => 73 | 37 => 71 | 127 => 100 | 3 => 3 | 5 => 5 | n => n, fun | n => n⟩
theorem lays169 : Go.Proofs.Lays.n169 Try.prog lays169_ren := {
  mixed := by kernel_rfl
  f169 := Try.func57.trans (congrArg some (by kernel_rfl))
  t0 := Try.underlying0
  a0 := Try.isAgg0
  z0 := Try.sizeOf0
  v0 := Try.zeroValue0
  t3 := Try.underlying3
  a3 := Try.isAgg3
  z3 := Try.sizeOf3
  v3 := Try.zeroValue3
  t9 := Try.underlying9
  a9 := Try.isAgg9
  z9 := Try.sizeOf9
  v9 := Try.zeroValue9
  t37 := Try.underlying71
  a37 := Try.isAgg71
  z37 := Try.sizeOf71
  v37 := Try.zeroValue71
  t70 := Try.underlying70
  a70 := Try.isAgg70
  z70 := Try.sizeOf70
  v70 := Try.zeroValue70
  t72 := Try.underlying73
  a72 := Try.isAgg73
  z72 := Try.sizeOf73
  v72 := Try.zeroValue73
  t127 := Try.underlying100
  a127 := Try.isAgg100
  z127 := Try.sizeOf100
  v127 := Try.zeroValue100 }
theorem builder_extra : Builder.Extra Try.prog lays169_ren := {
  sizeBuilder := by kernel_rfl
  liesBuilder := by kernel_rfl
  t5 := Try.underlying5
  a5 := Try.isAgg5
  z5 := Try.sizeOf5
  v5 := Try.zeroValue5
  infoByte := by kernel_rfl
  cellsByte := by kernel_rfl
  sizeByte := by kernel_rfl
  neB5 := by decide }
/-- The builder in block b holds the bytes l. -/
def BldAt (B b : Nat) (l : List UInt8) (w : World) : Prop := Lib.IsBuilder 73 5 B b (Lib.byteCells l) w
theorem bld_string (B b : Nat) (l : List UInt8) (w : World) (h : BldAt B b l w) (hBw : B ≤ w.heap.size) :
    Calls Try.prog 57 #[.pointer (some ⟨b, 0, none⟩)] w fun e w' => e = .returned (.string ⟨l.toArray⟩) ∧ Below B w w' := Any.Builder_String_any lays169 builder_extra B b l w h hBw
theorem bld_fresh (w : World) : BldAt w.heap.size w.heap.size [] (w.alloc (.cells #[.pointer none, .slice none 0 0] 73)) := Lib.fresh_isBuilder _ _ w
theorem bld_check_used (b : Nat) (w : World) (h0 : w.cell? ⟨b, 0, none⟩ = some (.pointer (some ⟨b, 0, none⟩))) :
    Calls Try.prog 84 #[.pointer (some ⟨b, 0, none⟩)] w fun e w' => e = .returned (.tuple #[]) ∧ w' = w := by
  go_enter Try.func84, Try.ntmps84
  go_wp2
  obtain ⟨j, hj, hjs⟩ := Option.map_eq_some_iff.1 (show (Try.prog.info? 73).map (·.size) = some 2 by kernel_rfl)
  rw [Lib.run_neq_ptr_same w _ Try.underlying70 hj]
  go_wp2
  go_end0
  exact ⟨rfl, rfl⟩
theorem bld_check_fresh (b : Nat) (w : World) (h0 : w.cell? ⟨b, 0, none⟩ = some (.pointer none)) (hsh : w.shape? b = some (73, 2)) (hfz : w.frozen? ⟨b, 0, none⟩ = false) :
    Calls Try.prog 84 #[.pointer (some ⟨b, 0, none⟩)] w fun e w' => e = .returned (.tuple #[]) ∧ w' = w.setCell ⟨b, 0, none⟩ (.pointer (some ⟨b, 0, none⟩)) := by
  go_enter Try.func84, Try.ntmps84
  go_wp2
  obtain ⟨j, hj, hjs⟩ := Option.map_eq_some_iff.1 (show (Try.prog.info? 73).map (·.size) = some 2 by kernel_rfl)
  rw [Lib.run_to_unsafe w ⟨b, 0, none⟩ Try.underlying70 Try.underlying109 hj (by rw [hjs]; decide) hsh (Nat.zero_lt_succ 1)]
  simp only [Result.andThen]
  rw [Oper.upon_value]
  go_wp2
  rw [run_callFunc_extern Try.func93 (by kernel_rfl) (by kernel_rfl) (by kernel_rfl) (e := Extern.AbiNoEscape.same) (by kernel_rfl)]
  rw [Lib.run_noEscape]
  simp only [Result.andThen]
  rw [Oper.upon_value]
  go_wp2
  rw [Lib.run_from_unsafe w ⟨b, 0, none⟩ Try.underlying109 Try.underlying70 hj hsh (by kernel_rfl)]
  simp only [Result.andThen]
  rw [Oper.upon_value]
  go_wp2
  go_end0
  exact ⟨rfl, rfl⟩
theorem bld_check (B b : Nat) (bs : List Value) (w : World) (h : Lib.IsBuilder 73 5 B b bs w) :
    Calls Try.prog 84 #[.pointer (some ⟨b, 0, none⟩)] w fun e w' => e = .returned (.tuple #[]) ∧ (Lib.BuilderAt 73 5 B b (.pointer (some ⟨b, 0, none⟩)) bs w' ∧ Below B w w') := by
  rcases h with h | h
  · refine (bld_check_fresh b w h.cell0 h.shape h.frozen0).mono ?_
    rintro e w' ⟨rfl, rfl⟩
    exact ⟨rfl, h.used _, (Below.refl B w).setCell (p := ⟨b, 0, none⟩) h.1 _⟩
  · refine (bld_check_used b w h.cell0).mono ?_
    rintro e w' ⟨rfl, rfl⟩
    exact ⟨rfl, h, Below.refl B _⟩
theorem info_u8 : (Try.prog.info? 5).map (fun i => (i.zero, i.size, i.bytes)) = some (some (.int .u8 0), 1, 1) := by kernel_rfl
set_option maxHeartbeats 1000000 in
theorem bld_write0 (B b : Nat) (bs : List Value) (s : ByteArray) (w : World) (h : Lib.IsBuilder 73 5 B b bs w) (hlen : bs.length + s.size ≤ 140737488355328) (hBw : B ≤ w.heap.size) :
    Calls Try.prog 56 #[.pointer (some ⟨b, 0, none⟩), .string s] w fun e w' => e = .returned (.tuple #[.int .i64 s.size, .nilIface]) ∧ (Lib.BuilderAt 73 5 B b (.pointer (some ⟨b, 0, none⟩)) (bs ++ Lib.strCells s) w' ∧ Below B w w') := by
  obtain ⟨i0, hi, hz0, hz1, hz2⟩ := info_parts info_u8
  go_enter Try.func56, Try.ntmps56
  go_wp2_with (go_at_call 84; refine (bld_check B b bs _ h).mono ?_)
  rintro e w1 ⟨rfl, h1, hb1⟩
  obtain ⟨hB, v, hbk, hown, hne⟩ := h1
  have c0 : w1.cell? ⟨b, 0, none⟩ = some (.pointer (some ⟨b, 0, none⟩)) := by rw [Lib.cell_of_heap hbk]; rfl
  have c1 : w1.cell? ⟨b, 1, none⟩ = some v := by rw [Lib.cell_of_heap hbk]; rfl
  go_wp2_with (at_builtin; refine Lib.wpList_append_own_string _ rfl _ _ 71 9 rfl B 5 i0 Try.underlying71 Try.underlying9 hi hz0 hz1 hz2 _ _ _ rfl hown s rfl ?c3 ?c4 ?c5 ?_)
  case c3 => unfold maxLen; omega
  case c4 => omega
  case c5 => have := hb1.size; omega
  intro v' w2 hown' hgrow _
  have hlt : b < w1.heap.size := by
    rcases Nat.lt_or_ge b w1.heap.size with h' | h'
    · exact h'
    · simp [Array.getElem?_eq_none h'] at hbk
  have hb2 : w2.heap[b]? = some (.cells #[.pointer (some ⟨b, 0, none⟩), v] 73 (0, 0)) := by
    rw [hgrow.block b hlt (fun e => hne e.symm)]
    exact hbk
  have d0 : w2.cell? ⟨b, 0, none⟩ = some (.pointer (some ⟨b, 0, none⟩)) := by rw [Lib.cell_of_heap hb2]; rfl
  have d1 : w2.cell? ⟨b, 1, none⟩ = some v := by rw [Lib.cell_of_heap hb2]; rfl
  have f1 : w2.frozen? ⟨b, 1, none⟩ = false := Lib.frozen_of_heap hb2 1
  obtain ⟨ao, n', cap, rfl⟩ : ∃ ao n' cap, v' = .slice ao n' cap := by
    rcases hown'.2 with ⟨hv, _⟩ | ⟨g, cap, cur, hv, _⟩
    · exact ⟨_, _, _, hv⟩
    · exact ⟨_, _, _, hv⟩
  go_wp2
  go_ret2
  refine ⟨rfl, ?_, ?_⟩
  · exact Lib.BuilderAt.put (T := 73) (e := 5) hB hb2 (bs' := bs ++ Lib.strCells s) (by simpa [Lib.strCells_length] using hown') (by decide)
  · exact (hb1.grown hgrow (by have := hb1.size; omega) (fun k hk => (hown.lt k hk).1)).setCell (p := ⟨b, 1, none⟩) hB _
theorem bld_write (B b : Nat) (l : List UInt8) (s : ByteArray) (w : World) (h : BldAt B b l w) (hlen : l.length + s.size ≤ 140737488355328) (hBw : B ≤ w.heap.size) :
    Calls Try.prog 56 #[.pointer (some ⟨b, 0, none⟩), .string s] w fun e w' => e = .returned (.tuple #[.int .i64 s.size, .nilIface]) ∧ (BldAt B b (l ++ s.data.toList) w' ∧ Below B w w') :=
  (bld_write0 B b _ s w h (by simpa [Lib.byteCells] using hlen) hBw).mono fun e w' ⟨h1, h2, h3⟩ => ⟨h1, .inr (by simpa [Lib.byteCells, Lib.strCells] using h2), h3⟩
/-- A builder lives on where nothing from B on but new blocks and blocks beside it has turned. -/
theorem bld_below {B b : Nat} {l : List UInt8} {w w' : World} (h : BldAt B b l w) (hb : Below w.heap.size w w') : BldAt B b l w' := by
  rcases h with ⟨hB, v, hbk, hown, hne⟩ | ⟨hB, v, hbk, hown, hne⟩
  · have hlt : b < w.heap.size := by
      rcases Nat.lt_or_ge b w.heap.size with h' | h'
      · exact h'
      · simp [Array.getElem?_eq_none h'] at hbk
    exact .inl ⟨hB, v, by rw [hb.block b hlt]; exact hbk, hown.kept (row := none) ⟨hb.os, hb.tape, hb.output, hb.size, fun i hi _ => hb.block i hi⟩ (by cases v.ownBlock <;> simp), hne⟩
  · have hlt : b < w.heap.size := by
      rcases Nat.lt_or_ge b w.heap.size with h' | h'
      · exact h'
      · simp [Array.getElem?_eq_none h'] at hbk
    exact .inr ⟨hB, v, by rw [hb.block b hlt]; exact hbk, hown.kept (row := none) ⟨hb.os, hb.tape, hb.output, hb.size, fun i hi _ => hb.block i hi⟩ (by cases v.ownBlock <;> simp), hne⟩
end
end Go.Proofs.Ytkonflbgkaflaaa
namespace Go.Proofs.Ytkonflbgkaflaaa
section
open Go.RowKit
set_option maxRecDepth 100000
set_option linter.unusedVariables false
set_option linter.unusedSimpArgs false
def vall (xs : List Int) : List UInt8 := xs.flatMap fun x => putB 9 (zig x)
theorem vall_nil : vall [] = [] := rfl
theorem vall_append (xs ys : List Int) : vall (xs ++ ys) = vall xs ++ vall ys := by simp [vall]
theorem vall_one (x : Int) : vall [x] = putB 9 (zig x) := by simp [vall]
theorem vputB_le (n : Int) : (putB 9 n).length ≤ 10 := by simp only [putB, List.length_map]; exact putI_le 9 n
theorem vall_length (xs : List Int) : (vall xs).length ≤ 10 * xs.length := by
  induction xs with
  | nil => simp [vall]
  | cons x r ih =>
    rw [show x :: r = [x] ++ r from rfl, vall_append, vall_one, List.length_append, List.length_append]
    have := vputB_le (zig x)
    simp; omega
theorem vtake_snoc (xs : List Int) (k : Nat) (h : k < xs.length) : xs.take (k + 1) = xs.take k ++ [xs.getD k 0] := by
  rw [List.take_succ_eq_append_getElem h]; simp [List.getD_eq_getElem?_getD, h]
set_option maxHeartbeats 1000000 in
theorem all_any (a : Option Addr) (n c : Nat) (xs : List Int) (w : World) (h : ReadsI .i64 w a n xs) (hn : n ≤ 1000) (hr : ∀ x ∈ xs, -9223372036854775808 ≤ x ∧ x ≤ 9223372036854775807) :
    Calls Try.prog 37 #[.slice a n c] w fun e w' => e = .returned (.string ⟨(vall xs).toArray⟩) ∧ Below w.heap.size w w' := by
  obtain ⟨hl, hc⟩ := h
  have HL := Lib.hid hl
  clear hl
  have HC := Lib.hid hc
  clear hc
  have HR := Lib.hid hr
  clear hr
  go_enter Try.func37, Try.ntmps37
  go_wp2
  go_loopw [8] (fun i wr => ∃ k : Nat, k ≤ n ∧ i = .int .i64 k ∧ BldAt w.heap.size w.heap.size (vall (xs.take k)) wr ∧ Below w.heap.size w wr ∧ w.heap.size < wr.heap.size) (fun i _ => n - (intOf i).toNat)
  case atStart => exact ⟨0, by omega, rfl, bld_fresh w, (Below.refl _ _).alloc (Nat.le_refl _) _, by simp⟩
  case round =>
    obtain ⟨k, hk, rfl, hbld, hbel, hsz⟩ := hrel
    have HB := Lib.hid hbld
    clear hbld
    by_cases hlt : k < n
    · have t1 : decide (k < n) = true := decide_eq_true hlt
      obtain ⟨b, o, rfl, hblt, hcell⟩ := HC.out.resolve_left (by omega)
      have hx := HR.out (xs.getD k 0) (by
        rw [List.getD_eq_getElem?_getD, List.getElem?_eq_getElem (by rw [HL.out]; exact hlt)]
        exact List.getElem_mem _)
      have HT := Lib.hid (vtake_snoc xs k (by rw [HL.out]; exact hlt))
      have hc1 : wr.cell? ⟨b, o + k, none⟩ = some (.int .i64 (xs.getD k 0)) := (hbel.cell (p := ⟨b, o + k, none⟩) hblt).trans (hcell k hlt)
      have HL2 : (vall (xs.take k)).length ≤ 10000 := by
        have := vall_length (xs.take k)
        rw [List.length_take] at this
        omega
      generalize xs.getD k 0 = x at *
      clear hcell
      go_wp2_with fail
      refine (zig_any x _ hx.1 hx.2).mono ?_
      rintro e w1 ⟨rfl, rfl⟩
      go_wp2_with fail
      refine (put_any _ _ (zig_range x hx.1 hx.2).1 (zig_range x hx.1 hx.2).2).mono ?_
      rintro e w1 ⟨rfl, hb1⟩
      go_wp2_with fail
      refine (bld_write _ _ _ _ _ (bld_below HB.out hb1) (by have := vputB_le (zig x); have e : (vput (zig x)).size = (putB 9 (zig x)).length := rfl; omega) (Nat.le_trans hbel.size hb1.size)).mono ?_
      rintro e w2 ⟨rfl, hbld2, hb2⟩
      go_wp2
      go_roundw
      case rel =>
        refine ⟨k + 1, by omega, by go_num, ?_, (below_then hbel hbel.size hb1).trans hb2, by have := hb1.size; have := hb2.size; omega⟩
        rw [HT.out, vall_append, vall_one]
        exact hbld2
      case measure => simp [intOf]; omega
    · have t1 : decide (k < n) = false := decide_eq_false hlt
      go_wp2_with fail
      refine (bld_string _ _ _ _ HB.out hbel.size).mono ?_
      rintro e w1 ⟨rfl, hb1⟩
      go_wp2
      go_ret
      exact ⟨ret_str (by rw [List.take_of_length_le (by rw [HL.out]; omega)]), hbel.trans hb1⟩
theorem all1_any (x : Int) (w : World) (h0 : -9223372036854775808 ≤ x) (h1 : x ≤ 9223372036854775807) :
    Calls Try.prog 37 #[.slice (some ⟨w.heap.size, 0, none⟩) 1 1] (w.alloc (.cells #[.int .i64 x] 2)) fun e w' => e = .returned (.string (vput (zig x))) ∧ Below w.heap.size w w' :=
  (all_any _ 1 1 [x] _ (reads_new .i64 w [x] 2) (by omega) (fun y hy => by simp at hy; subst hy; exact ⟨h0, h1⟩)).mono fun e w' ⟨h1, h2⟩ =>
    ⟨by rw [h1, vall_one]; rfl, below_from_alloc (h2.mono (by simp)) (Nat.le_refl _)⟩
theorem all2_any (x y : Int) (w : World) (h0 : -9223372036854775808 ≤ x) (h1 : x ≤ 9223372036854775807) (h2 : -9223372036854775808 ≤ y) (h3 : y ≤ 9223372036854775807) :
    Calls Try.prog 37 #[.slice (some ⟨w.heap.size, 0, none⟩) 2 2] (w.alloc (.cells #[.int .i64 x, .int .i64 y] 2)) fun e w' => e = .returned (.string (vput (zig x) ++ vput (zig y))) ∧ Below w.heap.size w w' :=
  (all_any _ 2 2 [x, y] _ (reads_new .i64 w [x, y] 2) (by omega) (fun z hz => by simp at hz; rcases hz with rfl | rfl; exact ⟨h0, h1⟩; exact ⟨h2, h3⟩)).mono fun e w' ⟨h1, h2⟩ =>
    ⟨by
      rw [h1, show [x, y] = [x] ++ [y] from rfl, vall_append, vall_one, vall_one]
      congr 2, below_from_alloc (h2.mono (by simp)) (Nat.le_refl _)⟩
end
end Go.Proofs.Ytkonflbgkaflaaa
namespace Go.Proofs.Ytkonflbgkaflaaa
section
open Go.RowKit
set_option maxRecDepth 100000
set_option linter.unusedVariables false
set_option linter.unusedSimpArgs false
def vtext (s : ByteArray) : ByteArray := vput (s.size : Int) ++ s
set_option maxHeartbeats 400000 in
theorem text_any (s : ByteArray) (w : World) (hs : s.size ≤ 1000000000) :
    Calls Try.prog 36 #[.string s] w fun e w' => e = .returned (.string (vtext s)) ∧ Below w.heap.size w w' := by
  have hz := vput_le (s.size : Int)
  go_enter Try.func36, Try.ntmps36
  go_wp2_with fail
  refine (put_any _ _ (by omega) (by omega)).mono ?_
  rintro e w1 ⟨rfl, hb1⟩
  go_wp2
  go_ret
  exact ⟨rfl, hb1⟩
set_option maxHeartbeats 400000 in
theorem rtext_any (s : ByteArray) (w : World) (hs : s.size ≤ 1000000000) :
    Calls Try.prog 41 #[.string s] w fun e w' => e = .returned (.string (vtext s)) ∧ Below w.heap.size w w' := by
  have hz := vput_le (s.size : Int)
  go_enter Try.func41, Try.ntmps41
  go_wp2_with fail
  refine (rput_any _ _ (by omega) (by omega)).mono ?_
  rintro e w1 ⟨rfl, hb1⟩
  go_wp2
  go_ret
  exact ⟨rfl, hb1⟩
end
end Go.Proofs.Ytkonflbgkaflaaa
