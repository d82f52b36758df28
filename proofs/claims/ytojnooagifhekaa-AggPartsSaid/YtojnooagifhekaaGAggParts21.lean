/- agg.Merge. -/
import Derived.Test.YtojnooagifhekaaGAggParts19
import Derived.Test.YtojnooagifhekaaGAggParts20
namespace Go.Proofs.Ytojnooagifhekaa
section
open Go.RowKit
set_option maxRecDepth 100000
set_option linter.unusedVariables false
set_option linter.unusedSimpArgs false
attribute [local go_sem ↓] Go.wp_at_zero Go.wp_at_succ
theorem ag_c0 (a : Ag) : a.cs.toArray[0]? = some (.int .i64 a.cnt) := rfl
theorem ag_c1 (a : Ag) : a.cs.toArray[1]? = some (.int .i64 a.sum.hi) := rfl
theorem ag_c2 (a : Ag) : a.cs.toArray[2]? = some (.int .u64 a.sum.lo) := rfl
theorem ag_c3 (a : Ag) : a.cs.toArray[3]? = some (.int .i64 a.mn) := rfl
theorem ag_c4 (a : Ag) : a.cs.toArray[4]? = some (.int .i64 a.mx) := rfl
theorem ag_c5 (a : Ag) : a.cs.toArray[5]? = some (.int .i64 a.last) := rfl
theorem ag_c6 (a : Ag) : a.cs.toArray[6]? = some (.int .i64 a.at_.clock) := rfl
theorem ag_c7 (a : Ag) : a.cs.toArray[7]? = some (.int .i64 a.at_.site) := rfl
theorem ag_c8 (a : Ag) : a.cs.toArray[8]? = some (.int .i64 a.at_.seq) := rfl
theorem addL_next (a b : List Int) (k : Nat) (ha : a.length = 9) (hb : b.length = 9) (hk : k < 9) : ((addL a b).take k ++ List.replicate (9 - k) 0).set k (wrap64 (a.getD k 0 + b.getD k 0)) = (addL a b).take (k + 1) ++ List.replicate (9 - (k + 1)) 0 := by
  have hl := addL_len ha hb
  rw [List.take_succ_eq_append_getElem (by omega), List.set_append_right _ _ (by simp; omega)]
  have e1 : (List.take k (addL a b)).length = k := by simp; omega
  have e2 : (addL a b)[k]'(by omega) = wrap64 (a.getD k 0 + b.getD k 0) := by
    simp only [addL, List.getElem_zipWith, List.getD_eq_getElem?_getD]
    rw [List.getElem?_eq_getElem (by omega), List.getElem?_eq_getElem (by omega)]
    rfl
  rw [e1, Nat.sub_self, e2, show 9 - k = (9 - (k + 1)) + 1 by omega, List.replicate_succ, List.set_cons_zero, List.append_assoc]
  rfl
set_option maxHeartbeats 4000000 in
set_option maxRecDepth 100000 in
theorem merge_any (a b : Ag) (w : World) (ha : a.ok) (hb : b.ok) : Calls Try.prog 16 #[a.val, b.val] w fun e w' => e = .returned (mergeV a b).val ∧ Below w.heap.size w w' := by
  obtain ⟨V, HV⟩ : ∃ V, Hid (V = mergeV a b) := ⟨_, rfl⟩
  rw [← HV.out]
  unfold Ag.val
  go_enter Try.func16, Try.ntmps16
  go_upto_region 1 with (fail)
  generalize hw1 : ((w.alloc (.cells a.cs.toArray 29)).alloc (.cells b.cs.toArray 29)).alloc (.cells _ 29) = w1
  have hK : Kn w.heap.size w [(w.heap.size + 1 + 1, agO Ag0), (w.heap.size + 1, agO b), (w.heap.size, agO a)] w1 := by
    rw [← hw1]
    exact (((Kn.start w).new' rfl (agO a)).new' (n := w.heap.size + 1) (by simp [agO]) (agO b)).new' (n := w.heap.size + 1 + 1) (by simp [agO]) (agO Ag0)
  clear hw1
  have KK := Lib.hid hK
  have a0 := hK.cell (g := w.heap.size) (o := agO a) (by simp) (ag_c0 a)
  have b0 := hK.cell (g := w.heap.size + 1) (o := agO b) (by simp) (ag_c0 b)
  have HO : Hid (Ag0.bk.length = 9) := rfl
  have HR := Lib.hid hK.hd
  have hsz := hK.fresh
  generalize hg : w.heap.size = g at *
  clear hK
  by_cases ea : a.cnt = 0
  · have t1 : (a.cnt == 0) = true := beq_iff_eq.2 ea
    have HV : Hid (V = b) := HV.out.trans (merge_z1 ea)
    have HL : Hid (b.bk.length = 9) := Lib.hid hb.2.2.2.2.2.2.1
    have HA := Lib.hid (KK.out.at_ (g + 1, agO b) (by simp))
    have HF := Lib.hid (Kn.setRow (KK.out.sub (m := [(g + 1 + 1, agO Ag0)]) (by simp)) trivial (by omega) (agO b))
    clear ea
    go_wp2_with (first
      | refine wpList_load_row rfl 29 _ rfl (g + 1) rfl 29 (b : Ag).cs.toArray (0, 0) _ HA.out Try.underlying29 rfl (ag_size HL.out) ?_
      | refine wpList_store_row rfl 29 _ _ rfl (g + 1 + 1) (b : Ag).cs.toArray rfl rfl 29 _ HR.out (ag_size HL.out) (ag_sz HO.out HL.out) (ag_one _) ?_)
    refine bodyPost_ret (v := .agg (b : Ag).cs.toArray) (results_cell_row rfl _ _ (g + 1 + 1) 29 (b : Ag).cs.toArray (0, 0) _ rfl HF.out.hd Try.underlying29 rfl (ag_size HL.out)) rfl ⟨(congrArg (fun x : Ag => Ending.returned x.val) HV.out).symm, by first | exact HF.out.b | (rw [hg]; exact HF.out.b)⟩
  · have t1 : (a.cnt == 0) = false := beq_eq_false_iff_ne.2 ea
    by_cases eb : b.cnt = 0
    · have t2 : (b.cnt == 0) = true := beq_iff_eq.2 eb
      have HV : Hid (V = a) := HV.out.trans (merge_z2 ea eb)
      have HL : Hid (a.bk.length = 9) := Lib.hid ha.2.2.2.2.2.2.1
      have HA := Lib.hid (KK.out.at_ (g, agO a) (by simp))
      have HF := Lib.hid (Kn.setRow (KK.out.sub (m := [(g + 1 + 1, agO Ag0)]) (by simp)) trivial (by omega) (agO a))
      clear ea eb
      go_wp2_with (first
        | refine wpList_load_row rfl 29 _ rfl (g) rfl 29 (a : Ag).cs.toArray (0, 0) _ HA.out Try.underlying29 rfl (ag_size HL.out) ?_
        | refine wpList_store_row rfl 29 _ _ rfl (g + 1 + 1) (a : Ag).cs.toArray rfl rfl 29 _ HR.out (ag_size HL.out) (ag_sz HO.out HL.out) (ag_one _) ?_)
      refine bodyPost_ret (v := .agg (a : Ag).cs.toArray) (results_cell_row rfl _ _ (g + 1 + 1) 29 (a : Ag).cs.toArray (0, 0) _ rfl HF.out.hd Try.underlying29 rfl (ag_size HL.out)) rfl ⟨(congrArg (fun x : Ag => Ending.returned x.val) HV.out).symm, by first | exact HF.out.b | (rw [hg]; exact HF.out.b)⟩
    · have t2 : (b.cnt == 0) = false := beq_eq_false_iff_ne.2 eb
      have HV := HV.out.trans (merge_ne ea eb)
      rw [← i64_of_wrap64] at HV
      have HV := Lib.hid HV
      have HLa : Hid (a.bk.length = 9) := Lib.hid ha.2.2.2.2.2.2.1
      have HLb : Hid (b.bk.length = 9) := Lib.hid hb.2.2.2.2.2.2.1
      have HADD := fun wx => add_any a.sum b.sum wx ha.2.1 hb.2.1
      have HLESS := fun wx => less_any a.at_ b.at_ wx
      generalize wd (a.sum.v + b.sum.v) = W at *
      generalize hlss : lessV a.at_ b.at_ = lss at *
      unfold Wd.val at HADD
      unfold St.val at HLESS
      clear ea eb
      go_upto_region 5 with (fail)
      go_cut [5] (fun x wx => ∃ c, x = .pointer (some ⟨c, 0, none⟩) ∧ g + 1 + 1 < c ∧ Kn g w [(c, agO ⟨IntKind.i64.wrap (a.cnt + b.cnt), W, min a.mn b.mn, max a.mx b.mx, a.last, a.at_, List.replicate 9 0⟩), (g + 1 + 1, agO Ag0), (g + 1, agO b), (g, agO a)] wx)
      case first =>
        have ac0 := (KK.out).cell (g := g) (o := agO a) (by simp) (ag_c0 a)
        have ac1 := (KK.out).cell (g := g) (o := agO a) (by simp) (ag_c1 a)
        have ac2 := (KK.out).cell (g := g) (o := agO a) (by simp) (ag_c2 a)
        have ac3 := (KK.out).cell (g := g) (o := agO a) (by simp) (ag_c3 a)
        have ac4 := (KK.out).cell (g := g) (o := agO a) (by simp) (ag_c4 a)
        have ac5 := (KK.out).cell (g := g) (o := agO a) (by simp) (ag_c5 a)
        have ac6 := (KK.out).cell (g := g) (o := agO a) (by simp) (ag_c6 a)
        have ac7 := (KK.out).cell (g := g) (o := agO a) (by simp) (ag_c7 a)
        have ac8 := (KK.out).cell (g := g) (o := agO a) (by simp) (ag_c8 a)
        have bc0 := (KK.out).cell (g := g + 1) (o := agO b) (by simp) (ag_c0 b)
        have bc1 := (KK.out).cell (g := g + 1) (o := agO b) (by simp) (ag_c1 b)
        have bc2 := (KK.out).cell (g := g + 1) (o := agO b) (by simp) (ag_c2 b)
        have bc3 := (KK.out).cell (g := g + 1) (o := agO b) (by simp) (ag_c3 b)
        have bc4 := (KK.out).cell (g := g + 1) (o := agO b) (by simp) (ag_c4 b)
        have bc5 := (KK.out).cell (g := g + 1) (o := agO b) (by simp) (ag_c5 b)
        have bc6 := (KK.out).cell (g := g + 1) (o := agO b) (by simp) (ag_c6 b)
        have bc7 := (KK.out).cell (g := g + 1) (o := agO b) (by simp) (ag_c7 b)
        have bc8 := (KK.out).cell (g := g + 1) (o := agO b) (by simp) (ag_c8 b)
        refine wp_region_held_drew (S := (fun wx => (wx.cell? ⟨g, 0, none⟩ = some (.int .i64 a.cnt) ∧ wx.cell? ⟨g, 1, none⟩ = some (.int .i64 a.sum.hi) ∧ wx.cell? ⟨g, 2, none⟩ = some (.int .u64 a.sum.lo) ∧ wx.cell? ⟨g, 3, none⟩ = some (.int .i64 a.mn) ∧ wx.cell? ⟨g, 4, none⟩ = some (.int .i64 a.mx) ∧ wx.cell? ⟨g, 5, none⟩ = some (.int .i64 a.last) ∧ wx.cell? ⟨g, 6, none⟩ = some (.int .i64 a.at_.clock) ∧ wx.cell? ⟨g, 7, none⟩ = some (.int .i64 a.at_.site) ∧ wx.cell? ⟨g, 8, none⟩ = some (.int .i64 a.at_.seq)) ∧ (wx.cell? ⟨g + 1, 0, none⟩ = some (.int .i64 b.cnt) ∧ wx.cell? ⟨g + 1, 1, none⟩ = some (.int .i64 b.sum.hi) ∧ wx.cell? ⟨g + 1, 2, none⟩ = some (.int .u64 b.sum.lo) ∧ wx.cell? ⟨g + 1, 3, none⟩ = some (.int .i64 b.mn) ∧ wx.cell? ⟨g + 1, 4, none⟩ = some (.int .i64 b.mx)))) (by kernel_rfl) ?_ (fun hHeld => ?_)
        focus ((try dsimp only); (try (first | go_keep | ((repeat' apply And.intro) <;> (first | exact cell_later (by assumption) (by go_simp) | exact cell_row_far (by go_simp) (by omega))))); done)
        (refine wpAnyH_take (i := 0) (oi := { dst := some 17, op := Go.Op.fieldAddr 29 (Go.Operand.tmp 2) 0, type := 0, pos := "agg.go:47", after := #[], guard := none }) (v := ?_) rfl (by kernel_rfl) (by kernel_rfl) (by kernel_rfl) (fun _ _ _ h => h) (Or.inl ⟨by rfl, ?_⟩) (by assumption) ?_; rotate_left; (focus (intro w hSw; ((try dsimp only at hSw); go_simp; try with_reducible rfl))); (try simp only [Act.put, List.setIfInBounds_toArray, List.set_cons_zero, List.set_cons_succ]))
        (refine wpAnyH_take (i := 1) (oi := { dst := some 18, op := Go.Op.load 3 (Go.Operand.tmp 17), type := 3, pos := "agg.go:47", after := #[{ on := 0, ground := Go.Ground.data }], guard := none }) (v := ?_) rfl (by kernel_rfl) (by kernel_rfl) (by kernel_rfl) (fun _ _ _ h => h) (Or.inl ⟨by rfl, ?_⟩) (by assumption) ?_; rotate_left; (focus (intro w hSw; ((try dsimp only at hSw); go_simp; try with_reducible rfl))); (try simp only [Act.put, List.setIfInBounds_toArray, List.set_cons_zero, List.set_cons_succ]))
        (refine wpAnyH_take (i := 2) (oi := { dst := some 19, op := Go.Op.fieldAddr 29 (Go.Operand.tmp 3) 0, type := 0, pos := "agg.go:47", after := #[], guard := none }) (v := ?_) rfl (by kernel_rfl) (by kernel_rfl) (by kernel_rfl) (fun _ _ _ h => h) (Or.inl ⟨by rfl, ?_⟩) (by assumption) ?_; rotate_left; (focus (intro w hSw; ((try dsimp only at hSw); go_simp; try with_reducible rfl))); (try simp only [Act.put, List.setIfInBounds_toArray, List.set_cons_zero, List.set_cons_succ]))
        (refine wpAnyH_take (i := 3) (oi := { dst := some 20, op := Go.Op.load 3 (Go.Operand.tmp 19), type := 3, pos := "agg.go:47", after := #[{ on := 2, ground := Go.Ground.data }], guard := none }) (v := ?_) rfl (by kernel_rfl) (by kernel_rfl) (by kernel_rfl) (fun _ _ _ h => h) (Or.inl ⟨by rfl, ?_⟩) (by assumption) ?_; rotate_left; (focus (intro w hSw; ((try dsimp only at hSw); go_simp; try with_reducible rfl))); (try simp only [Act.put, List.setIfInBounds_toArray, List.set_cons_zero, List.set_cons_succ]))
        (refine wpAnyH_take (i := 4) (oi := { dst := some 21, op := Go.Op.binOp Go.BinOp.add 3 (Go.Operand.tmp 18) (Go.Operand.tmp 20) 3, type := 3, pos := "agg.go:47", after := #[{ on := 1, ground := Go.Ground.data }, { on := 3, ground := Go.Ground.data }], guard := none }) (v := ?_) rfl (by kernel_rfl) (by kernel_rfl) (by kernel_rfl) (fun _ _ _ h => h) (Or.inl ⟨by rfl, ?_⟩) (by assumption) ?_; rotate_left; (focus (intro w hSw; ((try dsimp only at hSw); go_simp; try with_reducible rfl))); (try simp only [Act.put, List.setIfInBounds_toArray, List.set_cons_zero, List.set_cons_succ]))
        (refine wpAnyH_take (i := 5) (oi := { dst := some 22, op := Go.Op.fieldAddr 29 (Go.Operand.tmp 2) 1, type := 0, pos := "agg.go:47", after := #[], guard := none }) (v := ?_) rfl (by kernel_rfl) (by kernel_rfl) (by kernel_rfl) (fun _ _ _ h => h) (Or.inl ⟨by rfl, ?_⟩) (by assumption) ?_; rotate_left; (focus (intro w hSw; ((try dsimp only at hSw); go_simp; try with_reducible rfl))); (try simp only [Act.put, List.setIfInBounds_toArray, List.set_cons_zero, List.set_cons_succ]))
        (refine wpAnyH_take (i := 6) (oi := { dst := some 23, op := Go.Op.load 24 (Go.Operand.tmp 22), type := 24, pos := "agg.go:47", after := #[{ on := 5, ground := Go.Ground.data }], guard := none }) (v := ?_) rfl (by kernel_rfl) (by kernel_rfl) (by kernel_rfl) (fun _ _ _ h => h) (Or.inl ⟨by rfl, ?_⟩) (by assumption) ?_; rotate_left; (focus (intro w hSw; ((try dsimp only at hSw); go_simp; try with_reducible rfl))); (try simp only [Act.put, List.setIfInBounds_toArray, List.set_cons_zero, List.set_cons_succ]))
        (refine wpAnyH_take (i := 7) (oi := { dst := some 24, op := Go.Op.fieldAddr 29 (Go.Operand.tmp 3) 1, type := 0, pos := "agg.go:47", after := #[], guard := none }) (v := ?_) rfl (by kernel_rfl) (by kernel_rfl) (by kernel_rfl) (fun _ _ _ h => h) (Or.inl ⟨by rfl, ?_⟩) (by assumption) ?_; rotate_left; (focus (intro w hSw; ((try dsimp only at hSw); go_simp; try with_reducible rfl))); (try simp only [Act.put, List.setIfInBounds_toArray, List.set_cons_zero, List.set_cons_succ]))
        (refine wpAnyH_take (i := 8) (oi := { dst := some 25, op := Go.Op.load 24 (Go.Operand.tmp 24), type := 24, pos := "agg.go:47", after := #[{ on := 7, ground := Go.Ground.data }], guard := none }) (v := ?_) rfl (by kernel_rfl) (by kernel_rfl) (by kernel_rfl) (fun _ _ _ h => h) (Or.inl ⟨by rfl, ?_⟩) (by assumption) ?_; rotate_left; (focus (intro w hSw; ((try dsimp only at hSw); go_simp; try with_reducible rfl))); (try simp only [Act.put, List.setIfInBounds_toArray, List.set_cons_zero, List.set_cons_succ]))
        (refine wpAnyH_take (i := 10) (oi := { dst := some 27, op := Go.Op.fieldAddr 29 (Go.Operand.tmp 2) 2, type := 0, pos := "agg.go:47", after := #[], guard := none }) (v := ?_) rfl (by kernel_rfl) (by kernel_rfl) (by kernel_rfl) (fun _ _ _ h => h) (Or.inl ⟨by rfl, ?_⟩) (by assumption) ?_; rotate_left; (focus (intro w hSw; ((try dsimp only at hSw); go_simp; try with_reducible rfl))); (try simp only [Act.put, List.setIfInBounds_toArray, List.set_cons_zero, List.set_cons_succ]))
        (refine wpAnyH_take (i := 11) (oi := { dst := some 28, op := Go.Op.load 2 (Go.Operand.tmp 27), type := 2, pos := "agg.go:47", after := #[{ on := 10, ground := Go.Ground.data }], guard := none }) (v := ?_) rfl (by kernel_rfl) (by kernel_rfl) (by kernel_rfl) (fun _ _ _ h => h) (Or.inl ⟨by rfl, ?_⟩) (by assumption) ?_; rotate_left; (focus (intro w hSw; ((try dsimp only at hSw); go_simp; try with_reducible rfl))); (try simp only [Act.put, List.setIfInBounds_toArray, List.set_cons_zero, List.set_cons_succ]))
        (refine wpAnyH_take (i := 12) (oi := { dst := some 29, op := Go.Op.fieldAddr 29 (Go.Operand.tmp 3) 2, type := 0, pos := "agg.go:47", after := #[], guard := none }) (v := ?_) rfl (by kernel_rfl) (by kernel_rfl) (by kernel_rfl) (fun _ _ _ h => h) (Or.inl ⟨by rfl, ?_⟩) (by assumption) ?_; rotate_left; (focus (intro w hSw; ((try dsimp only at hSw); go_simp; try with_reducible rfl))); (try simp only [Act.put, List.setIfInBounds_toArray, List.set_cons_zero, List.set_cons_succ]))
        (refine wpAnyH_take (i := 13) (oi := { dst := some 30, op := Go.Op.load 2 (Go.Operand.tmp 29), type := 2, pos := "agg.go:47", after := #[{ on := 12, ground := Go.Ground.data }], guard := none }) (v := ?_) rfl (by kernel_rfl) (by kernel_rfl) (by kernel_rfl) (fun _ _ _ h => h) (Or.inl ⟨by rfl, ?_⟩) (by assumption) ?_; rotate_left; (focus (intro w hSw; ((try dsimp only at hSw); go_simp; try with_reducible rfl))); (try simp only [Act.put, List.setIfInBounds_toArray, List.set_cons_zero, List.set_cons_succ]))
        (refine wpAnyH_take (i := 14) (oi := { dst := some 31, op := Go.Op.call { callee := Go.Callee.builtin Go.Builtin.min, args := #[Go.Operand.tmp 28, Go.Operand.tmp 30], argTypes := #[2, 2] }, type := 2, pos := "agg.go:47", after := #[{ on := 11, ground := Go.Ground.data }, { on := 13, ground := Go.Ground.data }], guard := none }) (v := ?_) rfl (by kernel_rfl) (by kernel_rfl) (by kernel_rfl) (fun _ _ _ h => h) (Or.inl ⟨by rfl, ?_⟩) (by assumption) ?_; rotate_left; (focus (intro w hSw; ((try dsimp only at hSw); go_simp; try with_reducible rfl))); (try simp only [Act.put, List.setIfInBounds_toArray, List.set_cons_zero, List.set_cons_succ]))
        (refine wpAnyH_take (i := 15) (oi := { dst := some 32, op := Go.Op.fieldAddr 29 (Go.Operand.tmp 2) 3, type := 0, pos := "agg.go:47", after := #[], guard := none }) (v := ?_) rfl (by kernel_rfl) (by kernel_rfl) (by kernel_rfl) (fun _ _ _ h => h) (Or.inl ⟨by rfl, ?_⟩) (by assumption) ?_; rotate_left; (focus (intro w hSw; ((try dsimp only at hSw); go_simp; try with_reducible rfl))); (try simp only [Act.put, List.setIfInBounds_toArray, List.set_cons_zero, List.set_cons_succ]))
        (refine wpAnyH_take (i := 16) (oi := { dst := some 33, op := Go.Op.load 2 (Go.Operand.tmp 32), type := 2, pos := "agg.go:47", after := #[{ on := 15, ground := Go.Ground.data }], guard := none }) (v := ?_) rfl (by kernel_rfl) (by kernel_rfl) (by kernel_rfl) (fun _ _ _ h => h) (Or.inl ⟨by rfl, ?_⟩) (by assumption) ?_; rotate_left; (focus (intro w hSw; ((try dsimp only at hSw); go_simp; try with_reducible rfl))); (try simp only [Act.put, List.setIfInBounds_toArray, List.set_cons_zero, List.set_cons_succ]))
        (refine wpAnyH_take (i := 17) (oi := { dst := some 34, op := Go.Op.fieldAddr 29 (Go.Operand.tmp 3) 3, type := 0, pos := "agg.go:47", after := #[], guard := none }) (v := ?_) rfl (by kernel_rfl) (by kernel_rfl) (by kernel_rfl) (fun _ _ _ h => h) (Or.inl ⟨by rfl, ?_⟩) (by assumption) ?_; rotate_left; (focus (intro w hSw; ((try dsimp only at hSw); go_simp; try with_reducible rfl))); (try simp only [Act.put, List.setIfInBounds_toArray, List.set_cons_zero, List.set_cons_succ]))
        (refine wpAnyH_take (i := 18) (oi := { dst := some 35, op := Go.Op.load 2 (Go.Operand.tmp 34), type := 2, pos := "agg.go:47", after := #[{ on := 17, ground := Go.Ground.data }], guard := none }) (v := ?_) rfl (by kernel_rfl) (by kernel_rfl) (by kernel_rfl) (fun _ _ _ h => h) (Or.inl ⟨by rfl, ?_⟩) (by assumption) ?_; rotate_left; (focus (intro w hSw; ((try dsimp only at hSw); go_simp; try with_reducible rfl))); (try simp only [Act.put, List.setIfInBounds_toArray, List.set_cons_zero, List.set_cons_succ]))
        (refine wpAnyH_take (i := 19) (oi := { dst := some 36, op := Go.Op.call { callee := Go.Callee.builtin Go.Builtin.max, args := #[Go.Operand.tmp 33, Go.Operand.tmp 35], argTypes := #[2, 2] }, type := 2, pos := "agg.go:47", after := #[{ on := 16, ground := Go.Ground.data }, { on := 18, ground := Go.Ground.data }], guard := none }) (v := ?_) rfl (by kernel_rfl) (by kernel_rfl) (by kernel_rfl) (fun _ _ _ h => h) (Or.inl ⟨by rfl, ?_⟩) (by assumption) ?_; rotate_left; (focus (intro w hSw; ((try dsimp only at hSw); go_simp; try with_reducible rfl))); (try simp only [Act.put, List.setIfInBounds_toArray, List.set_cons_zero, List.set_cons_succ]))
        (refine wpAnyH_take (i := 20) (oi := { dst := some 37, op := Go.Op.fieldAddr 29 (Go.Operand.tmp 2) 4, type := 0, pos := "agg.go:47", after := #[], guard := none }) (v := ?_) rfl (by kernel_rfl) (by kernel_rfl) (by kernel_rfl) (fun _ _ _ h => h) (Or.inl ⟨by rfl, ?_⟩) (by assumption) ?_; rotate_left; (focus (intro w hSw; ((try dsimp only at hSw); go_simp; try with_reducible rfl))); (try simp only [Act.put, List.setIfInBounds_toArray, List.set_cons_zero, List.set_cons_succ]))
        (refine wpAnyH_take (i := 21) (oi := { dst := some 38, op := Go.Op.load 2 (Go.Operand.tmp 37), type := 2, pos := "agg.go:47", after := #[{ on := 20, ground := Go.Ground.data }], guard := none }) (v := ?_) rfl (by kernel_rfl) (by kernel_rfl) (by kernel_rfl) (fun _ _ _ h => h) (Or.inl ⟨by rfl, ?_⟩) (by assumption) ?_; rotate_left; (focus (intro w hSw; ((try dsimp only at hSw); go_simp; try with_reducible rfl))); (try simp only [Act.put, List.setIfInBounds_toArray, List.set_cons_zero, List.set_cons_succ]))
        (refine wpAnyH_take (i := 22) (oi := { dst := some 39, op := Go.Op.fieldAddr 29 (Go.Operand.tmp 2) 5, type := 0, pos := "agg.go:47", after := #[], guard := none }) (v := ?_) rfl (by kernel_rfl) (by kernel_rfl) (by kernel_rfl) (fun _ _ _ h => h) (Or.inl ⟨by rfl, ?_⟩) (by assumption) ?_; rotate_left; (focus (intro w hSw; ((try dsimp only at hSw); go_simp; try with_reducible rfl))); (try simp only [Act.put, List.setIfInBounds_toArray, List.set_cons_zero, List.set_cons_succ]))
        (refine wpAnyH_take (i := 23) (oi := { dst := some 40, op := Go.Op.load 26 (Go.Operand.tmp 39), type := 26, pos := "agg.go:47", after := #[{ on := 22, ground := Go.Ground.data }], guard := none }) (v := ?_) rfl (by kernel_rfl) (by kernel_rfl) (by kernel_rfl) (fun _ _ _ h => h) (Or.inl ⟨by rfl, ?_⟩) (by assumption) ?_; rotate_left; (focus (intro w hSw; ((try dsimp only at hSw); go_simp; try with_reducible rfl))); (try simp only [Act.put, List.setIfInBounds_toArray, List.set_cons_zero, List.set_cons_succ]))
        refine wpAnyH_ready (rs := [9, 25]) (by kernel_rfl) (by simp) ?_
        refine AllReadyH.cons (o := { dst := some 26, op := Go.Op.call { callee := Go.Callee.value (Go.Operand.func 34), args := #[Go.Operand.tmp 23, Go.Operand.tmp 25], argTypes := #[24, 24] }, type := 24, pos := "agg.go:47", after := #[{ on := 6, ground := Go.Ground.data }, { on := 8, ground := Go.Ground.data }], guard := none }) rfl (fun K hK9 => ?_) (AllReadyH.cons (o := { dst := some 5, op := Go.Op.alloc 29, type := 0, pos := "agg.go:47", after := #[], guard := none }) rfl (fun K hK25 => ?_) AllReadyH.nil)
        · (go_simp; ((first | (go_at_call 34; refine (HADD _).mono ?_; rintro e wn ⟨rfl, dn⟩; first | have KK := Lib.hid (Kn.later KK.out dn rfl rfl rfl rfl) | have KK := Lib.hid (Kn.later (KK.out.new (agO Ag0)) dn rfl rfl rfl rfl)))); go_wp2_with fail; refine hK9.out _ _ ?_ (fun hHeld => ?_); (focus ((try dsimp only); (try (first | go_keep | ((repeat' apply And.intro) <;> (first | exact cell_later (by assumption) (by go_simp) | exact cell_row_far (by go_simp) (by omega))))); done)); clear hK9; (try simp only [Act.put, List.setIfInBounds_toArray, List.set_cons_zero, List.set_cons_succ]))
          (refine wpAnyH_take (i := 24) (oi := { dst := some 41, op := Go.Op.build 29 #[(0, Go.Operand.tmp 21), (1, Go.Operand.tmp 26), (2, Go.Operand.tmp 31), (3, Go.Operand.tmp 36), (4, Go.Operand.tmp 38), (5, Go.Operand.tmp 40)], type := 29, pos := "agg.go:47", after := #[{ on := 4, ground := Go.Ground.data }, { on := 9, ground := Go.Ground.data }, { on := 14, ground := Go.Ground.data }, { on := 19, ground := Go.Ground.data }, { on := 21, ground := Go.Ground.data }, { on := 23, ground := Go.Ground.data }], guard := none }) (v := ?_) rfl (by kernel_rfl) (by kernel_rfl) (by kernel_rfl) (fun _ _ _ h => h) (Or.inl ⟨by rfl, ?_⟩) (by assumption) ?_; rotate_left; (focus (intro w hSw; ((try dsimp only at hSw); go_simp; try with_reducible rfl))); (try simp only [Act.put, List.setIfInBounds_toArray, List.set_cons_zero, List.set_cons_succ]))
          (refine wpAnyH_ready (rs := [25]) (by kernel_rfl) (by simp) ?_; refine AllReadyH.cons (o := { dst := some 5, op := Go.Op.alloc 29, type := 0, pos := "agg.go:47", after := #[], guard := none }) rfl (fun K hK => ?_) AllReadyH.nil; go_simp; refine hK.out _ _ ?_ (fun hHeld => ?_); (focus ((try dsimp only); (try (first | go_keep | ((repeat' apply And.intro) <;> (first | exact cell_later (by assumption) (by go_simp) | exact cell_row_far (by go_simp) (by omega))))); done)); clear hK; (try simp only [Act.put, List.setIfInBounds_toArray, List.set_cons_zero, List.set_cons_succ]))
          (refine wpAnyH_ready (rs := [26]) (by kernel_rfl) (by simp) ?_; refine AllReadyH.cons (o := { dst := none, op := Go.Op.store 29 (Go.Operand.tmp 5) (Go.Operand.tmp 41), type := 0, pos := "agg.go:47", after := #[{ on := 25, ground := Go.Ground.data }, { on := 24, ground := Go.Ground.data }, { on := 9, ground := Go.Ground.chain }, { on := 0, ground := Go.Ground.phase }, { on := 1, ground := Go.Ground.phase }, { on := 2, ground := Go.Ground.phase }, { on := 3, ground := Go.Ground.phase }, { on := 4, ground := Go.Ground.phase }, { on := 5, ground := Go.Ground.phase }, { on := 6, ground := Go.Ground.phase }, { on := 7, ground := Go.Ground.phase }, { on := 8, ground := Go.Ground.phase }, { on := 9, ground := Go.Ground.phase }, { on := 10, ground := Go.Ground.phase }, { on := 11, ground := Go.Ground.phase }, { on := 12, ground := Go.Ground.phase }, { on := 13, ground := Go.Ground.phase }, { on := 14, ground := Go.Ground.phase }, { on := 15, ground := Go.Ground.phase }, { on := 16, ground := Go.Ground.phase }, { on := 17, ground := Go.Ground.phase }, { on := 18, ground := Go.Ground.phase }, { on := 19, ground := Go.Ground.phase }, { on := 20, ground := Go.Ground.phase }, { on := 21, ground := Go.Ground.phase }, { on := 22, ground := Go.Ground.phase }, { on := 23, ground := Go.Ground.phase }, { on := 24, ground := Go.Ground.phase }, { on := 25, ground := Go.Ground.phase }], guard := none }) rfl (fun K hK => ?_) AllReadyH.nil; (first | (refine wp_store_row 29 _ _ rfl _ _ rfl rfl 29 _ (heap_alloc_new _ _) (by kernel_rfl) rfl (by simp [Value.oneCell']) ?_; rw [World.setRow_alloc_new]) | (refine wp_store_row 29 _ _ rfl _ _ rfl rfl 29 _ KK.out.hd (by kernel_rfl) rfl (by simp [Value.oneCell']) ?_)); refine hK.out _ _ ?_ (fun hHeld => ?_); (focus ((try dsimp only); (try (first | go_keep | ((repeat' apply And.intro) <;> (first | exact cell_later (by assumption) (by go_simp) | exact cell_row_far (by go_simp) (by omega))))); done)); clear hK; (try simp only [Act.put, List.setIfInBounds_toArray, List.set_cons_zero, List.set_cons_succ]))
          refine wpAnyH_done (by kernel_rfl) ?_ _
          go_wp2_with fail
          go_meet
          first | exact ⟨_, rfl, by have := KK.out.lt (g + 1 + 1, agO Ag0) (by simp); simp only at this; omega, Kn.same (KK.out.new (agO ⟨IntKind.i64.wrap (a.cnt + b.cnt), W, min a.mn b.mn, max a.mx b.mx, a.last, a.at_, List.replicate 9 0⟩)) rfl rfl rfl rfl⟩ | exact ⟨_, rfl, by omega, Kn.same (Kn.setRow KK.out (by simp only [Apart, and_true]; omega) (by omega) (agO ⟨IntKind.i64.wrap (a.cnt + b.cnt), W, min a.mn b.mn, max a.mx b.mx, a.last, a.at_, List.replicate 9 0⟩)) rfl rfl rfl rfl⟩
        · (go_simp; refine hK25.out _ _ ?_ (fun hHeld => ?_); (focus ((try dsimp only); (try (first | go_keep | ((repeat' apply And.intro) <;> (first | exact cell_later (by assumption) (by go_simp) | exact cell_row_far (by go_simp) (by omega))))); done)); clear hK25; (try simp only [Act.put, List.setIfInBounds_toArray, List.set_cons_zero, List.set_cons_succ]))
          (refine wpAnyH_ready (rs := [9]) (by kernel_rfl) (by simp) ?_; refine AllReadyH.cons (o := { dst := some 26, op := Go.Op.call { callee := Go.Callee.value (Go.Operand.func 34), args := #[Go.Operand.tmp 23, Go.Operand.tmp 25], argTypes := #[24, 24] }, type := 24, pos := "agg.go:47", after := #[{ on := 6, ground := Go.Ground.data }, { on := 8, ground := Go.Ground.data }], guard := none }) rfl (fun K hK => ?_) AllReadyH.nil; go_simp; ((first | (go_at_call 34; refine (HADD _).mono ?_; rintro e wn ⟨rfl, dn⟩; first | have KK := Lib.hid (Kn.later KK.out dn rfl rfl rfl rfl) | have KK := Lib.hid (Kn.later (KK.out.new (agO Ag0)) dn rfl rfl rfl rfl)))); go_wp2_with fail; refine hK.out _ _ ?_ (fun hHeld => ?_); (focus ((try dsimp only); (try (first | go_keep | ((repeat' apply And.intro) <;> (first | exact cell_later (by assumption) (by go_simp) | exact cell_row_far (by go_simp) (by omega))))); done)); clear hK; (try simp only [Act.put, List.setIfInBounds_toArray, List.set_cons_zero, List.set_cons_succ]))
          (refine wpAnyH_take (i := 24) (oi := { dst := some 41, op := Go.Op.build 29 #[(0, Go.Operand.tmp 21), (1, Go.Operand.tmp 26), (2, Go.Operand.tmp 31), (3, Go.Operand.tmp 36), (4, Go.Operand.tmp 38), (5, Go.Operand.tmp 40)], type := 29, pos := "agg.go:47", after := #[{ on := 4, ground := Go.Ground.data }, { on := 9, ground := Go.Ground.data }, { on := 14, ground := Go.Ground.data }, { on := 19, ground := Go.Ground.data }, { on := 21, ground := Go.Ground.data }, { on := 23, ground := Go.Ground.data }], guard := none }) (v := ?_) rfl (by kernel_rfl) (by kernel_rfl) (by kernel_rfl) (fun _ _ _ h => h) (Or.inl ⟨by rfl, ?_⟩) (by assumption) ?_; rotate_left; (focus (intro w hSw; ((try dsimp only at hSw); go_simp; try with_reducible rfl))); (try simp only [Act.put, List.setIfInBounds_toArray, List.set_cons_zero, List.set_cons_succ]))
          (refine wpAnyH_ready (rs := [26]) (by kernel_rfl) (by simp) ?_; refine AllReadyH.cons (o := { dst := none, op := Go.Op.store 29 (Go.Operand.tmp 5) (Go.Operand.tmp 41), type := 0, pos := "agg.go:47", after := #[{ on := 25, ground := Go.Ground.data }, { on := 24, ground := Go.Ground.data }, { on := 9, ground := Go.Ground.chain }, { on := 0, ground := Go.Ground.phase }, { on := 1, ground := Go.Ground.phase }, { on := 2, ground := Go.Ground.phase }, { on := 3, ground := Go.Ground.phase }, { on := 4, ground := Go.Ground.phase }, { on := 5, ground := Go.Ground.phase }, { on := 6, ground := Go.Ground.phase }, { on := 7, ground := Go.Ground.phase }, { on := 8, ground := Go.Ground.phase }, { on := 9, ground := Go.Ground.phase }, { on := 10, ground := Go.Ground.phase }, { on := 11, ground := Go.Ground.phase }, { on := 12, ground := Go.Ground.phase }, { on := 13, ground := Go.Ground.phase }, { on := 14, ground := Go.Ground.phase }, { on := 15, ground := Go.Ground.phase }, { on := 16, ground := Go.Ground.phase }, { on := 17, ground := Go.Ground.phase }, { on := 18, ground := Go.Ground.phase }, { on := 19, ground := Go.Ground.phase }, { on := 20, ground := Go.Ground.phase }, { on := 21, ground := Go.Ground.phase }, { on := 22, ground := Go.Ground.phase }, { on := 23, ground := Go.Ground.phase }, { on := 24, ground := Go.Ground.phase }, { on := 25, ground := Go.Ground.phase }], guard := none }) rfl (fun K hK => ?_) AllReadyH.nil; (first | (refine wp_store_row 29 _ _ rfl _ _ rfl rfl 29 _ (heap_alloc_new _ _) (by kernel_rfl) rfl (by simp [Value.oneCell']) ?_; rw [World.setRow_alloc_new]) | (refine wp_store_row 29 _ _ rfl _ _ rfl rfl 29 _ KK.out.hd (by kernel_rfl) rfl (by simp [Value.oneCell']) ?_)); refine hK.out _ _ ?_ (fun hHeld => ?_); (focus ((try dsimp only); (try (first | go_keep | ((repeat' apply And.intro) <;> (first | exact cell_later (by assumption) (by go_simp) | exact cell_row_far (by go_simp) (by omega))))); done)); clear hK; (try simp only [Act.put, List.setIfInBounds_toArray, List.set_cons_zero, List.set_cons_succ]))
          refine wpAnyH_done (by kernel_rfl) ?_ _
          go_wp2_with fail
          go_meet
          first | exact ⟨_, rfl, by have := KK.out.lt (g + 1 + 1, agO Ag0) (by simp); simp only at this; omega, Kn.same (KK.out.new (agO ⟨IntKind.i64.wrap (a.cnt + b.cnt), W, min a.mn b.mn, max a.mx b.mx, a.last, a.at_, List.replicate 9 0⟩)) rfl rfl rfl rfl⟩ | exact ⟨_, rfl, by omega, Kn.same (Kn.setRow KK.out (by simp only [Apart, and_true]; omega) (by omega) (agO ⟨IntKind.i64.wrap (a.cnt + b.cnt), W, min a.mn b.mn, max a.mx b.mx, a.last, a.at_, List.replicate 9 0⟩)) rfl rfl rfl rfl⟩
      case rest =>
        obtain ⟨c, rfl, hc, hk⟩ := hcut
        clear KK a0 b0 HR hsz
        have KK := Lib.hid hk
        have HR := Lib.hid (hk.at_ (g + 1 + 1, agO Ag0) (by simp))
        clear hk
        generalize hw2 : wc = w2 at *
        clear hw2
        have ac0 := (KK.out).cell (g := g) (o := agO a) (by simp) (ag_c0 a)
        have ac1 := (KK.out).cell (g := g) (o := agO a) (by simp) (ag_c1 a)
        have ac2 := (KK.out).cell (g := g) (o := agO a) (by simp) (ag_c2 a)
        have ac3 := (KK.out).cell (g := g) (o := agO a) (by simp) (ag_c3 a)
        have ac4 := (KK.out).cell (g := g) (o := agO a) (by simp) (ag_c4 a)
        have ac5 := (KK.out).cell (g := g) (o := agO a) (by simp) (ag_c5 a)
        have ac6 := (KK.out).cell (g := g) (o := agO a) (by simp) (ag_c6 a)
        have ac7 := (KK.out).cell (g := g) (o := agO a) (by simp) (ag_c7 a)
        have ac8 := (KK.out).cell (g := g) (o := agO a) (by simp) (ag_c8 a)
        have bc0 := (KK.out).cell (g := g + 1) (o := agO b) (by simp) (ag_c0 b)
        have bc1 := (KK.out).cell (g := g + 1) (o := agO b) (by simp) (ag_c1 b)
        have bc2 := (KK.out).cell (g := g + 1) (o := agO b) (by simp) (ag_c2 b)
        have bc3 := (KK.out).cell (g := g + 1) (o := agO b) (by simp) (ag_c3 b)
        have bc4 := (KK.out).cell (g := g + 1) (o := agO b) (by simp) (ag_c4 b)
        have bc5 := (KK.out).cell (g := g + 1) (o := agO b) (by simp) (ag_c5 b)
        have bc6 := (KK.out).cell (g := g + 1) (o := agO b) (by simp) (ag_c6 b)
        have bc7 := (KK.out).cell (g := g + 1) (o := agO b) (by simp) (ag_c7 b)
        have bc8 := (KK.out).cell (g := g + 1) (o := agO b) (by simp) (ag_c8 b)
        go_upto_if 46 with (first | (go_at_call 35; refine (HLESS _).mono ?_; rintro e w3 ⟨rfl, d3⟩))
        have KK := Lib.hid (KK.out.below d3)
        clear d3 ac0 ac1 ac2 ac3 ac4 ac5 ac6 ac7 ac8 bc0 bc1 bc2 bc3 bc4 bc5 bc6 bc7 bc8
        go_cut [46] (fun x wx => Kn g w [(c, agO ⟨IntKind.i64.wrap (a.cnt + b.cnt), W, min a.mn b.mn, max a.mx b.mx, if lss = true then b.last else a.last, if lss = true then b.at_ else a.at_, List.replicate 9 0⟩), (g + 1 + 1, agO Ag0), (g + 1, agO b), (g, agO a)] wx)
        case first =>
          cases lss
          · clear hlss
            go_wp2_with fail
            go_meet
            exact KK.out
          · clear hlss
            have bc0 := (KK.out).cell (g := g + 1) (o := agO b) (by simp) (ag_c0 b)
            have bc1 := (KK.out).cell (g := g + 1) (o := agO b) (by simp) (ag_c1 b)
            have bc2 := (KK.out).cell (g := g + 1) (o := agO b) (by simp) (ag_c2 b)
            have bc3 := (KK.out).cell (g := g + 1) (o := agO b) (by simp) (ag_c3 b)
            have bc4 := (KK.out).cell (g := g + 1) (o := agO b) (by simp) (ag_c4 b)
            have bc5 := (KK.out).cell (g := g + 1) (o := agO b) (by simp) (ag_c5 b)
            have bc6 := (KK.out).cell (g := g + 1) (o := agO b) (by simp) (ag_c6 b)
            have bc7 := (KK.out).cell (g := g + 1) (o := agO b) (by simp) (ag_c7 b)
            have bc8 := (KK.out).cell (g := g + 1) (o := agO b) (by simp) (ag_c8 b)
            have cc0 := (KK.out).cell (g := c) (o := agO ⟨IntKind.i64.wrap (a.cnt + b.cnt), W, min a.mn b.mn, max a.mx b.mx, a.last, a.at_, List.replicate 9 0⟩) (by simp) (ag_c0 ⟨IntKind.i64.wrap (a.cnt + b.cnt), W, min a.mn b.mn, max a.mx b.mx, a.last, a.at_, List.replicate 9 0⟩)
            have cc1 := (KK.out).cell (g := c) (o := agO ⟨IntKind.i64.wrap (a.cnt + b.cnt), W, min a.mn b.mn, max a.mx b.mx, a.last, a.at_, List.replicate 9 0⟩) (by simp) (ag_c1 ⟨IntKind.i64.wrap (a.cnt + b.cnt), W, min a.mn b.mn, max a.mx b.mx, a.last, a.at_, List.replicate 9 0⟩)
            have cc2 := (KK.out).cell (g := c) (o := agO ⟨IntKind.i64.wrap (a.cnt + b.cnt), W, min a.mn b.mn, max a.mx b.mx, a.last, a.at_, List.replicate 9 0⟩) (by simp) (ag_c2 ⟨IntKind.i64.wrap (a.cnt + b.cnt), W, min a.mn b.mn, max a.mx b.mx, a.last, a.at_, List.replicate 9 0⟩)
            have cc3 := (KK.out).cell (g := c) (o := agO ⟨IntKind.i64.wrap (a.cnt + b.cnt), W, min a.mn b.mn, max a.mx b.mx, a.last, a.at_, List.replicate 9 0⟩) (by simp) (ag_c3 ⟨IntKind.i64.wrap (a.cnt + b.cnt), W, min a.mn b.mn, max a.mx b.mx, a.last, a.at_, List.replicate 9 0⟩)
            have cc4 := (KK.out).cell (g := c) (o := agO ⟨IntKind.i64.wrap (a.cnt + b.cnt), W, min a.mn b.mn, max a.mx b.mx, a.last, a.at_, List.replicate 9 0⟩) (by simp) (ag_c4 ⟨IntKind.i64.wrap (a.cnt + b.cnt), W, min a.mn b.mn, max a.mx b.mx, a.last, a.at_, List.replicate 9 0⟩)
            have cc5 := (KK.out).cell (g := c) (o := agO ⟨IntKind.i64.wrap (a.cnt + b.cnt), W, min a.mn b.mn, max a.mx b.mx, a.last, a.at_, List.replicate 9 0⟩) (by simp) (ag_c5 ⟨IntKind.i64.wrap (a.cnt + b.cnt), W, min a.mn b.mn, max a.mx b.mx, a.last, a.at_, List.replicate 9 0⟩)
            have cc6 := (KK.out).cell (g := c) (o := agO ⟨IntKind.i64.wrap (a.cnt + b.cnt), W, min a.mn b.mn, max a.mx b.mx, a.last, a.at_, List.replicate 9 0⟩) (by simp) (ag_c6 ⟨IntKind.i64.wrap (a.cnt + b.cnt), W, min a.mn b.mn, max a.mx b.mx, a.last, a.at_, List.replicate 9 0⟩)
            have cc7 := (KK.out).cell (g := c) (o := agO ⟨IntKind.i64.wrap (a.cnt + b.cnt), W, min a.mn b.mn, max a.mx b.mx, a.last, a.at_, List.replicate 9 0⟩) (by simp) (ag_c7 ⟨IntKind.i64.wrap (a.cnt + b.cnt), W, min a.mn b.mn, max a.mx b.mx, a.last, a.at_, List.replicate 9 0⟩)
            have cc8 := (KK.out).cell (g := c) (o := agO ⟨IntKind.i64.wrap (a.cnt + b.cnt), W, min a.mn b.mn, max a.mx b.mx, a.last, a.at_, List.replicate 9 0⟩) (by simp) (ag_c8 ⟨IntKind.i64.wrap (a.cnt + b.cnt), W, min a.mn b.mn, max a.mx b.mx, a.last, a.at_, List.replicate 9 0⟩)
            have f5 := KK.out.fz (g := c) (o := agO ⟨IntKind.i64.wrap (a.cnt + b.cnt), W, min a.mn b.mn, max a.mx b.mx, a.last, a.at_, List.replicate 9 0⟩) (by simp) 5
            have f6 := KK.out.fz (g := c) (o := agO ⟨IntKind.i64.wrap (a.cnt + b.cnt), W, min a.mn b.mn, max a.mx b.mx, a.last, a.at_, List.replicate 9 0⟩) (by simp) 6
            have f7 := KK.out.fz (g := c) (o := agO ⟨IntKind.i64.wrap (a.cnt + b.cnt), W, min a.mn b.mn, max a.mx b.mx, a.last, a.at_, List.replicate 9 0⟩) (by simp) 7
            have f8 := KK.out.fz (g := c) (o := agO ⟨IntKind.i64.wrap (a.cnt + b.cnt), W, min a.mn b.mn, max a.mx b.mx, a.last, a.at_, List.replicate 9 0⟩) (by simp) 8
            go_upto_region 7 with (fail)
            go_region
            go_wp2_with fail
            go_meet
            exact Kn.same (Kn.setLA KK.out (by simp only [Apart, and_true]; omega) (by omega) b.last b.at_) rfl rfl rfl rfl
        case rest =>
          clear KK HR hlss HLESS HADD
          have KK := Lib.hid hcut
          clear hcut
          generalize (if lss = true then b.last else a.last) = L at *
          generalize (if lss = true then b.at_ else a.at_) = T at *
          generalize min a.mn b.mn = mn at *
          generalize max a.mx b.mx = mx at *
          generalize IntKind.i64.wrap (a.cnt + b.cnt) = N at *
          have HAL : Hid ((addL a.bk b.bk).length = 9) := Lib.hid (addL_len HLa.out HLb.out)
          go_wp2_with fail
          go_loopw [53, 6] (fun i i6 wr => ∃ k : Nat, k ≤ 9 ∧ i = .int .i64 k ∧ Kn g w [(c, agO ⟨N, W, mn, mx, L, T, (addL a.bk b.bk).take k ++ List.replicate (9 - k) 0⟩), (g + 1 + 1, agO Ag0), (g + 1, agO b), (g, agO a)] wr) (fun i _ _ => 10 - (intOf i).toNat)
          case atStart => exact ⟨0, by omega, rfl, KK.out⟩
          case round =>
            obtain ⟨k, hk9, rfl, hk⟩ := hrel
            clear KK
            have KK := Lib.hid hk
            by_cases hlt : k < 9
            · have t3 : decide ((k : Int) < 9) = true := decide_eq_true (by omega)
              have i1 : (0 : Int) ≤ (k : Int) := by omega
              have i2 : (k : Int) < 9 := by omega
              have ha9 := AgAt.bk (show AgAt wr g a from hk.at_ (g, agO a) (by simp)) k (by rw [HLa.out]; exact hlt)
              have hb9 := AgAt.bk (show AgAt wr (g + 1) b from hk.at_ (g + 1, agO b) (by simp)) k (by rw [HLb.out]; exact hlt)
              have hc9 := AgAt.bk (show AgAt wr c ⟨N, W, mn, mx, L, T, (addL a.bk b.bk).take k ++ List.replicate (9 - k) 0⟩ from hk.hd) k (by have := HAL.out; simp; omega)
              have fc9 := hk.fz (g := c) (o := agO ⟨N, W, mn, mx, L, T, (addL a.bk b.bk).take k ++ List.replicate (9 - k) 0⟩) (by simp) (9 + k)
              have HNX : Hid (((addL a.bk b.bk).take k ++ List.replicate (9 - k) 0).set k (wrap64 (a.bk.getD k 0 + b.bk.getD k 0)) = (addL a.bk b.bk).take (k + 1) ++ List.replicate (9 - (k + 1)) 0) := Lib.hid (addL_next a.bk b.bk k HLa.out HLb.out hlt)
              generalize a.bk.getD k 0 = x at *
              generalize b.bk.getD k 0 = y at *
              clear hk
              go_upto_region 11 with (fail)
              go_region
              have h2 := Kn.setBk KK.out (by simp only [Apart, and_true]; omega) (by omega) k (wrap64 (x + y))
              simp only [HNX.out] at h2
              have H2 := Lib.hid h2
              clear h2
              go_wp2_with fail
              go_roundw
              case rel => exact ⟨k + 1, by omega, by go_num, Kn.same H2.out rfl rfl rfl rfl⟩
              case measure => simp [intOf]; omega
            · have t3 : decide ((k : Int) < 9) = false := decide_eq_false (by omega)
              obtain rfl : k = 9 := by omega
              have e9 : (addL a.bk b.bk).take 9 ++ List.replicate (9 - 9) 0 = addL a.bk b.bk := by
                rw [List.take_of_length_le (by have := HAL.out; omega)]; simp
              rw [e9] at hk
              have HL := HAL
              have HA := Lib.hid hk.hd
              have h3 := hk.sub (m := [(g + 1 + 1, agO Ag0)]) (by simp)
              have HR := Lib.hid h3.hd
              have HF := Lib.hid (Kn.setRow h3 trivial (by omega) (agO ⟨N, W, mn, mx, L, T, addL a.bk b.bk⟩))
              clear hk h3 e9 KK
              go_wp2_with (first
                | refine wpList_load_row rfl 29 _ rfl (c) rfl 29 (⟨N, W, mn, mx, L, T, addL a.bk b.bk⟩ : Ag).cs.toArray (0, 0) _ HA.out Try.underlying29 rfl (ag_size HL.out) ?_
                | refine wpList_store_row rfl 29 _ _ rfl (g + 1 + 1) (⟨N, W, mn, mx, L, T, addL a.bk b.bk⟩ : Ag).cs.toArray rfl rfl 29 _ HR.out (ag_size HL.out) (ag_sz HO.out HL.out) (ag_one _) ?_)
              refine bodyPost_ret (v := .agg (⟨N, W, mn, mx, L, T, addL a.bk b.bk⟩ : Ag).cs.toArray) (results_cell_row rfl _ _ (g + 1 + 1) 29 (⟨N, W, mn, mx, L, T, addL a.bk b.bk⟩ : Ag).cs.toArray (0, 0) _ rfl HF.out.hd Try.underlying29 rfl (ag_size HL.out)) rfl ⟨(congrArg (fun x : Ag => Ending.returned x.val) HV.out).symm, by first | exact HF.out.b | (rw [hg]; exact HF.out.b)⟩
end
end Go.Proofs.Ytojnooagifhekaa
