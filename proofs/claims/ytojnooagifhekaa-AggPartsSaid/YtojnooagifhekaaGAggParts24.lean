/- The reference's Add, Neg, Sub. wide.Cmp, wide.Small; == of two numbers. -/
import Derived.Test.YtojnooagifhekaaGAggParts18
import Derived.Test.YtojnooagifhekaaGAggParts3
import Derived.Laws.StructEq
import Derived.Deep.RegionHeld3
namespace Go.Proofs.Ytojnooagifhekaa
section
open Go.RowKit
set_option maxRecDepth 100000
set_option linter.unusedVariables false
set_option linter.unusedSimpArgs false
set_option maxHeartbeats 2000000 in
theorem radd_any (a b : Wd) (w : World) (ha : a.ok) (hb : b.ok) : Calls Try.prog 36 #[a.val, b.val] w fun e w' => e = .returned (wd (a.v + b.v)).val ∧ Below w.heap.size w w' := by
  obtain ⟨V, HV⟩ : ∃ V, Hid (wd (a.v + b.v) = V) := ⟨_, rfl⟩
  rw [HV.out]
  have C1 := fun wx => digits_any a wx ha
  have C2 := fun wx => digits_any b wx hb
  have C3 := fun wx => carry_any (fun j => dg a.v j + dg b.v j) wx (fun j => by
    have := dg_range a.v j
    have := dg_range b.v j
    omega)
  have C4 := fun wx => number_any (dg (lowS (fun j => dg a.v j + dg b.v j) 16)) wx (dg_range _)
  have HW : wd (lowS (dg (lowS (fun j => dg a.v j + dg b.v j) 16)) 16) = V := by
    rw [lowS_16, wd_mod16, lowS_add, lowS_16, lowS_16, ← HV.out]
    apply wd_mod
    generalize a.v = x
    generalize b.v = y
    omega
  rw [HW] at C4
  clear HW
  have hF := fun j => dg_range a.v j
  have hG := fun j => dg_range b.v j
  generalize dg a.v = F at *
  generalize dg b.v = G at *
  generalize dg (lowS (fun j => F j + G j) 16) = S at *
  obtain ⟨h, l⟩ := a
  obtain ⟨h', l'⟩ := b
  obtain ⟨v0, v1⟩ := V
  unfold Wd.val at *
  simp only at C1 C2 C4 ⊢
  have hz : Below w.heap.size w (((w.alloc (.cells #[.int .i64 h, .int .u64 l] 24)).alloc (.cells #[.int .i64 h', .int .u64 l'] 24)).alloc (.cells #[.int .i64 0, .int .u64 0] 24)) := below_al (below_al (below_al (Below.refl _ _)))
  have hzb := (WdAt.new (w.alloc (.cells #[.int .i64 h, .int .u64 l] 24)) ⟨h', l'⟩).alloc (.cells #[.int .i64 0, .int .u64 0] 24)
  have hzr := WdAt.new ((w.alloc (.cells #[.int .i64 h, .int .u64 l] 24)).alloc (.cells #[.int .i64 h', .int .u64 l'] 24)) ⟨0, 0⟩
  simp only at hzb hzr
  rw [show (w.alloc (.cells #[.int .i64 h, .int .u64 l] 24)).heap.size = w.heap.size + 1 by simp] at hzb
  rw [show ((w.alloc (.cells #[.int .i64 h, .int .u64 l] 24)).alloc (.cells #[.int .i64 h', .int .u64 l'] 24)).heap.size = w.heap.size + 1 + 1 by simp] at hzr
  go_enter Try.func36, Try.ntmps36
  go_wp2_with fail
  refine (C1 _).mono ?_
  rintro e w1 ⟨rfl, d1⟩
  have I1 : Rx w [(w.heap.size + 1 + 1, ⟨0, 0⟩), (w.heap.size + 1, ⟨h', l'⟩)] [] w1 := Rx.below ⟨by simp; exact ⟨hzr, hzb⟩, by simp, hz⟩ d1
  clear hz hzb hzr d1
  have I2 := I1.row F (cellsK .i64 (arrF zerosF))
  have hg := I1.lt
  simp at hg
  obtain ⟨⟨g0, g1⟩, g2⟩ := hg
  rw [arrF_zero] at I2
  unfold rowF
  go_upto_region 2 with (refine wpList_store_row rfl 88 _ _ rfl w1.heap.size (cellsK .i64 (arrF F)) rfl rfl 88 (cellsK .i64 (arrF zerosF)) (BlkK.new .i64 88 w1 (arrF zerosF)) (size_16 _) (by rw [cellsK_size, cellsK_size, arrF_length, arrF_length]) (cellsK_one _ _) ?_)
  generalize (w1.alloc _).setRow _ _ = w2 at *
  generalize w1.heap.size = gx at *
  have c0 := (I2.n (w.heap.size + 1, ⟨h', l'⟩) (by simp)).c0
  have c1 := (I2.n (w.heap.size + 1, ⟨h', l'⟩) (by simp)).c1
  go_wp2_with fail
  refine (C2 _).mono ?_
  rintro e w3 ⟨rfl, d3⟩
  have I3 := (I2.below d3).row G (cellsK .i64 (arrF zerosF))
  have hg := (I2.below d3).lt
  simp at hg
  obtain ⟨⟨g5, g6⟩, g7, g8⟩ := hg
  rw [arrF_zero] at I3
  clear I1 I2 d3 c0 c1
  unfold rowF
  go_upto_region 3 with (refine wpList_store_row rfl 88 _ _ rfl w3.heap.size (cellsK .i64 (arrF G)) rfl rfl 88 (cellsK .i64 (arrF zerosF)) (BlkK.new .i64 88 w3 (arrF zerosF)) (size_16 _) (by rw [cellsK_size, cellsK_size, arrF_length, arrF_length]) (cellsK_one _ _) ?_)
  generalize (w3.alloc _).setRow _ _ = w4 at *
  generalize w3.heap.size = gy at *
  have I4 : Rx w [(w.heap.size + 1 + 1, ⟨0, 0⟩)] [(gx, F), (gy, G)] w4 := ⟨fun p hp => I3.n p (by simp at hp; simp [hp]), fun p hp => I3.a p (by simp at hp ⊢; rcases hp with rfl | rfl <;> simp), I3.b⟩
  have INIT := Lib.hid I4
  clear I3 I4
  go_wp2_with fail
  go_loopw [7] (fun i wr => ∃ k : Nat, k ≤ 16 ∧ i = .int .i64 k ∧ Rx w [(w.heap.size + 1 + 1, ⟨0, 0⟩)] [(gx, fun j => if j < k then F j + G j else F j), (gy, G)] wr) (fun i _ => 17 - (intOf i).toNat)
  case atStart => exact ⟨0, by omega, rfl, INIT.out.congr fun j hj => by rw [if_neg (by omega)]⟩
  case round =>
    obtain ⟨k, hk, rfl, hI⟩ := hrel
    have I := Lib.hid hI
    clear hI
    by_cases hlt : k < 16
    · have t1 : decide ((k : Int) < 16) = true := decide_eq_true (by omega)
      have i1 : (0 : Int) ≤ (k : Int) := by omega
      have i2 : (k : Int) < 16 := by omega
      have f1 := I.out.hd.fz k
      have d1 := I.out.hd.cell k (by rw [arrF_length]; omega)
      rw [arrF_get _ _ (by omega), if_neg (by omega)] at d1
      have d2 := I.out.snd.cell k (by rw [arrF_length]; omega)
      rw [arrF_get _ _ (by omega)] at d2
      have r1 := hF k
      have r2 := hG k
      have I2 := Lib.hid ((I.out.set (by simp; omega) (by simp; omega) (by omega) k (F k + G k)).congr (f' := fun j => if j < k + 1 then F j + G j else F j) (fun j hj => by
        by_cases q1 : j = k
        · subst q1; rw [if_pos rfl, if_pos (by omega)]
        · rw [if_neg q1]
          by_cases q3 : j < k
          · rw [if_pos q3, if_pos (by omega)]
          · rw [if_neg q3, if_neg (by omega)]))
      generalize F k = x at *
      generalize G k = y at *
      go_upto_region 6 with (fail)
      go_region
      go_wp2_with fail
      go_round
      case rel => exact ⟨k + 1, by omega, by go_num, I2.out.same rfl rfl rfl rfl⟩
      case measure => simp [intOf]; omega
    · have t1 : decide ((k : Int) < 16) = false := decide_eq_false (by omega)
      obtain rfl : k = 16 := by omega
      have J := Lib.hid (I.out.congr (f' := fun j => F j + G j) (fun j hj => by rw [if_pos (by omega)]))
      clear I
      go_wp2_with (refine wpList_load_row rfl 88 _ rfl gx rfl 88 (cellsK .i64 (arrF fun j => F j + G j)) (0, 0) _ J.out.hd Try.underlying88 rfl (size_16 _) ?_)
      refine (C3 _).mono ?_
      rintro e w5 ⟨rfl, d5⟩
      go_wp2_with fail
      refine (C4 _).mono ?_
      rintro e w6 ⟨rfl, d6⟩
      have K := (J.out.below d5).below d6
      have z := K.hdW
      have c0 := z.c0
      have c1 := z.c1
      have z0 := z.fz 0
      have z1 := z.fz 1
      have HB := Lib.hid (below_st (below_st K.b (p := ⟨w.heap.size + 1 + 1, 0, none⟩) (by show w.heap.size ≤ w.heap.size + 1 + 1; omega) (.int .i64 v0)) (p := ⟨w.heap.size + 1 + 1, 1, none⟩) (by show w.heap.size ≤ w.heap.size + 1 + 1; omega) (.int .u64 v1))
      clear K z
      go_wp2_with fail
      refine bodyPost_ret (v := .agg #[.int .i64 v0, .int .u64 v1]) (by simp [results, Try.results36, go_sem, *]) rfl ⟨rfl, HB.out⟩
set_option maxHeartbeats 2000000 in
theorem rneg_any (a : Wd) (w : World) (ha : a.ok) : Calls Try.prog 42 #[a.val] w fun e w' => e = .returned (wd (-a.v)).val ∧ Below w.heap.size w w' := by
  obtain ⟨V, HV⟩ : ∃ V, Hid (wd (-a.v) = V) := ⟨_, rfl⟩
  rw [HV.out]
  have C1 := fun wx => digits_any a wx ha
  have C3 := fun wx => number_any (fun j => 255 - dg a.v j) wx (fun j => by have := dg_range a.v j; omega)
  have HW : wd (lowS (fun j => 255 - dg a.v j) 16) = wd (-1 - a.v) := by
    rw [lowS_neg, lowS_16, p16]
    apply wd_mod
    generalize a.v = x
    omega
  rw [HW] at C3
  clear HW
  have C4 := fun wx => radd_any (wd (-1 - a.v)) ⟨0, 1⟩ wx (wd_ok _) ⟨by decide, by decide⟩
  have HW : wd ((wd (-1 - a.v)).v + (⟨0, 1⟩ : Wd).v) = V := by
    rw [← HV.out]
    apply wd_mod
    have e1 := v_wd_mod (-1 - a.v)
    generalize (wd (-1 - a.v)).v = x at *
    generalize a.v = y at *
    unfold Wd.v
    simp only
    omega
  rw [HW] at C4
  clear HW
  have hF := fun j => dg_range a.v j
  generalize dg a.v = F at *
  generalize wd (-1 - a.v) = Z at *
  obtain ⟨h, l⟩ := a
  obtain ⟨v0, v1⟩ := V
  obtain ⟨y0, y1⟩ := Z
  unfold Wd.val at *
  simp only at C1 C3 C4 ⊢
  have hz : Below w.heap.size w ((w.alloc (.cells #[.int .i64 h, .int .u64 l] 24)).alloc (.cells #[.int .i64 0, .int .u64 0] 24)) := below_al (below_al (Below.refl _ _))
  have hzr := WdAt.new (w.alloc (.cells #[.int .i64 h, .int .u64 l] 24)) ⟨0, 0⟩
  simp only at hzr
  rw [show (w.alloc (.cells #[.int .i64 h, .int .u64 l] 24)).heap.size = w.heap.size + 1 by simp] at hzr
  go_enter Try.func42, Try.ntmps42
  go_wp2_with fail
  refine (C1 _).mono ?_
  rintro e w1 ⟨rfl, d1⟩
  have I1 : Rx w [(w.heap.size + 1, ⟨0, 0⟩)] [] w1 := Rx.below ⟨by simp; exact hzr, by simp, hz⟩ d1
  clear hz hzr d1
  have I2 := I1.row F (cellsK .i64 (arrF zerosF))
  have hg := I1.lt
  simp at hg
  obtain ⟨g0, g1⟩ := hg
  rw [arrF_zero] at I2
  unfold rowF
  go_upto_region 2 with (refine wpList_store_row rfl 88 _ _ rfl w1.heap.size (cellsK .i64 (arrF F)) rfl rfl 88 (cellsK .i64 (arrF zerosF)) (BlkK.new .i64 88 w1 (arrF zerosF)) (size_16 _) (by rw [cellsK_size, cellsK_size, arrF_length, arrF_length]) (cellsK_one _ _) ?_)
  generalize (w1.alloc _).setRow _ _ = w2 at *
  generalize w1.heap.size = gx at *
  have INIT := Lib.hid I2
  clear I1 I2
  go_wp2_with fail
  go_loopw [4] (fun i wr => ∃ k : Nat, k ≤ 16 ∧ i = .int .i64 k ∧ Rx w [(w.heap.size + 1, ⟨0, 0⟩)] [(gx, fun j => if j < k then 255 - F j else F j)] wr) (fun i _ => 17 - (intOf i).toNat)
  case atStart => exact ⟨0, by omega, rfl, INIT.out.congr fun j hj => by rw [if_neg (by omega)]⟩
  case round =>
    obtain ⟨k, hk, rfl, hI⟩ := hrel
    have I := Lib.hid hI
    clear hI
    by_cases hlt : k < 16
    · have t1 : decide ((k : Int) < 16) = true := decide_eq_true (by omega)
      have i1 : (0 : Int) ≤ (k : Int) := by omega
      have i2 : (k : Int) < 16 := by omega
      have f1 := I.out.hd.fz k
      have d1 := I.out.hd.cell k (by rw [arrF_length]; omega)
      rw [arrF_get _ _ (by omega), if_neg (by omega)] at d1
      have r1 := hF k
      have I2 := Lib.hid ((I.out.set (by simp; omega) (by simp) (by omega) k (255 - F k)).congr (f' := fun j => if j < k + 1 then 255 - F j else F j) (fun j hj => by
        by_cases q1 : j = k
        · subst q1; rw [if_pos rfl, if_pos (by omega)]
        · rw [if_neg q1]
          by_cases q3 : j < k
          · rw [if_pos q3, if_pos (by omega)]
          · rw [if_neg q3, if_neg (by omega)]))
      generalize F k = x at *
      go_wp2_with fail
      go_round
      case rel => exact ⟨k + 1, by omega, by go_num, I2.out⟩
      case measure => simp [intOf]; omega
    · have t1 : decide ((k : Int) < 16) = false := decide_eq_false (by omega)
      obtain rfl : k = 16 := by omega
      have J := Lib.hid (I.out.congr (f' := fun j => 255 - F j) (fun j hj => by rw [if_pos (by omega)]))
      clear I
      go_wp2_with (refine wpList_load_row rfl 88 _ rfl gx rfl 88 (cellsK .i64 (arrF fun j => 255 - F j)) (0, 0) _ J.out.hd Try.underlying88 rfl (size_16 _) ?_)
      refine (C3 _).mono ?_
      rintro e w5 ⟨rfl, d5⟩
      go_wp2_with fail
      refine (C4 _).mono ?_
      rintro e w6 ⟨rfl, d6⟩
      have K := (J.out.below d5).below d6
      have z := K.hdW
      have c0 := z.c0
      have c1 := z.c1
      have z0 := z.fz 0
      have z1 := z.fz 1
      have HB := Lib.hid (below_st (below_st K.b (p := ⟨w.heap.size + 1, 0, none⟩) (by show w.heap.size ≤ w.heap.size + 1; omega) (.int .i64 v0)) (p := ⟨w.heap.size + 1, 1, none⟩) (by show w.heap.size ≤ w.heap.size + 1; omega) (.int .u64 v1))
      clear K z
      go_wp2_with fail
      refine bodyPost_ret (v := .agg #[.int .i64 v0, .int .u64 v1]) (by simp [results, Try.results42, go_sem, *]) rfl ⟨rfl, HB.out⟩
end
end Go.Proofs.Ytojnooagifhekaa
namespace Go.Proofs.Ytojnooagifhekaa
section
open Go.RowKit
set_option maxRecDepth 100000
set_option linter.unusedVariables false
set_option linter.unusedSimpArgs false
theorem eq_wide (h1 l1 h2 l2 : Int) (w : World) : (binOp .eql 24 (.agg #[.int .i64 h1, .int .u64 l1]) (.agg #[.int .i64 h2, .int .u64 l2])).run Try.prog w = .ok (.bool (decide ((⟨h1, l1⟩ : Wd) = ⟨h2, l2⟩))) w := by
  have u3 := Try.underlying2
  have a3 := Try.isAgg2
  have z3 := Try.sizeOf2
  have u4 := Try.underlying22
  have a4 := Try.isAgg22
  have z4 := Try.sizeOf22
  have hS : Try.prog.underlying 24 = some (.struct (Try.prog.fieldsOf 24)) := by kernel_rfl
  have hp : Try.prog.stoodInHeld 24 = false := by kernel_rfl
  rw [run_eql_struct, show (10000 : Nat) = 9999 + 1 from rfl, run_equalIn_agg w 9999 24 _ _ hS hp]
  simp only [Program.fieldsOf, Try.underlying24]
  go_simp
  by_cases h1 : h1 = h2 <;> by_cases h2 : l1 = l2 <;> simp [h1, h2]
theorem cmpW_eq (a b : Wd) (ha : a.ok) (hb : b.ok) : cmpW a b = if a = b then 0 else if a.hi < b.hi ∨ a.hi = b.hi ∧ a.lo < b.lo then -1 else 1 := by
  unfold cmpW
  by_cases h : a = b
  · subst h; simp
  · rw [if_neg h, if_neg (fun e => h (v_inj ha hb e))]
    obtain ⟨⟨h1, h2⟩, h3, h4⟩ := ha
    obtain ⟨⟨k1, k2⟩, k3, k4⟩ := hb
    unfold Wd.v
    by_cases c : a.hi < b.hi ∨ a.hi = b.hi ∧ a.lo < b.lo
    · rw [if_pos c, if_pos (by omega)]
    · rw [if_neg c, if_neg (by
        intro hh
        apply c
        omega)]
set_option maxHeartbeats 1000000 in
theorem cmp_any (a b : Wd) (w : World) (ha : a.ok) (hb : b.ok) : Calls Try.prog 67 #[a.val, b.val] w fun e w' => e = .returned (.int .i64 (cmpW a b)) ∧ Below w.heap.size w w' := by
  have HC := Lib.hid (cmpW_eq a b ha hb)
  obtain ⟨h1, l1⟩ := a
  obtain ⟨h2, l2⟩ := b
  unfold Wd.val
  simp only
  have hB : Below w.heap.size w ((w.alloc (.cells #[.int .i64 h1, .int .u64 l1] 24)).alloc (.cells #[.int .i64 h2, .int .u64 l2] 24)) := below_al (below_al (Below.refl _ _))
  have hq := fun w => eq_wide h1 l1 h2 l2 w
  by_cases he : (⟨h1, l1⟩ : Wd) = ⟨h2, l2⟩
  · have HC2 := Lib.hid (HC.out.trans (if_pos he))
    rw [decide_eq_true he] at hq
    clear he HC
    go_enter Try.func67, Try.ntmps67
    go_wp2_with fail
    go_ret
    exact ⟨by rw [HC2.out]; rfl, hB⟩
  · have HC1 := Lib.hid (HC.out.trans (if_neg he))
    rw [decide_eq_false he] at hq
    clear he HC
    by_cases c1 : h1 < h2
    · have t1 : decide (h1 < h2) = true := decide_eq_true c1
      have HC2 := Lib.hid (HC1.out.trans (if_pos (.inl c1)))
      go_enter Try.func67, Try.ntmps67
      go_wp2_with fail
      go_ret
      exact ⟨by rw [HC2.out]; rfl, hB⟩
    · have t1 : decide (h1 < h2) = false := decide_eq_false c1
      by_cases c2 : h1 = h2
      · subst c2
        have t2 : (h1 == h1) = true := beq_self_eq_true _
        by_cases c3 : l1 < l2
        · have t3 : decide (l1 < l2) = true := decide_eq_true c3
          have HC2 := Lib.hid (HC1.out.trans (if_pos (.inr ⟨rfl, c3⟩)))
          go_enter Try.func67, Try.ntmps67
          go_wp2_with fail
          go_ret
          exact ⟨by rw [HC2.out]; rfl, hB⟩
        · have t3 : decide (l1 < l2) = false := decide_eq_false c3
          have HC2 := Lib.hid (HC1.out.trans (if_neg (by simp only; omega)))
          go_enter Try.func67, Try.ntmps67
          go_wp2_with fail
          go_ret
          exact ⟨by rw [HC2.out]; rfl, hB⟩
      · have t2 : (h1 == h2) = false := beq_eq_false_iff_ne.2 c2
        have HC2 := Lib.hid (HC1.out.trans (if_neg (by simp only; omega)))
        go_enter Try.func67, Try.ntmps67
        go_wp2_with fail
        go_ret
        exact ⟨by rw [HC2.out]; rfl, hB⟩
end
end Go.Proofs.Ytojnooagifhekaa
