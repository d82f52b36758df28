/- The reference's Cmp; Small of both. -/
import Derived.Test.YtojnooagifhekaaGAggParts24
import Derived.BigQuiet
namespace Go.Proofs.Ytojnooagifhekaa
section
open Go.RowKit
set_option maxRecDepth 100000
set_option linter.unusedVariables false
set_option linter.unusedSimpArgs false
theorem neq_wide (a b : Wd) (w : World) : (binOp .neq 24 (.agg #[.int .i64 a.hi, .int .u64 a.lo]) (.agg #[.int .i64 b.hi, .int .u64 b.lo])).run Try.prog w = .ok (.bool (!decide (a = b))) w := by
  have h := eq_wide a.hi a.lo b.hi b.lo w
  rw [run_eql_struct] at h
  rw [run_neq_struct]
  cases hq : (Op.equalIn 10000 24 (.agg #[.int .i64 a.hi, .int .u64 a.lo]) (.agg #[.int .i64 b.hi, .int .u64 b.lo])).run Try.prog w with
  | ok v w' =>
    rw [hq] at h
    simp only [Result.andThen] at h ⊢
    injection h with h1 h2
    injection h1 with h1
    rw [h1, h2]
  | _ => rw [hq] at h; simp [Result.andThen] at h
theorem small_is (a : Wd) (ha : a.ok) : (wd (sg64 a.lo) = a → smallW a = (sg64 a.lo, true)) ∧ (wd (sg64 a.lo) ≠ a → smallW a = (0, false)) := by
  have hr := sg64_range a.lo
  have hv := v_wd (sg64 a.lo) (by omega) (by omega)
  constructor
  · intro h
    rw [h] at hv
    unfold smallW
    rw [hv, if_pos (by omega)]
  · intro h
    unfold smallW
    rw [if_neg]
    intro hh
    apply h
    have : a.v = sg64 a.lo := by
      obtain ⟨hi, lo⟩ := a
      obtain ⟨⟨h1, h2⟩, h3, h4⟩ := ha
      unfold Wd.v sg64 at *
      simp only at *
      omega
    rw [← this, wd_v a ha]
theorem small_any (a : Wd) (w : World) (ha : a.ok) : Calls Try.prog 40 #[a.val] w fun e w' => e = .returned (.tuple #[.int .i64 (smallW a).1, .bool (smallW a).2]) ∧ Below w.heap.size w w' := by
  have C1 := fun wx => of_any (sg64 a.lo) wx (sg64_range _).1 (sg64_range _).2
  have hq := fun wx => neq_wide (wd (sg64 a.lo)) a wx
  have HE := Lib.hid (small_is a ha)
  have e1 : wrap64 a.lo = sg64 a.lo := by rw [← i64_of_wrap64, i64_wrap]
  have e2 : IntKind.i64.wrap a.lo = sg64 a.lo := i64_wrap _
  have hz : Below w.heap.size w (w.alloc (.cells #[.int .i64 a.hi, .int .u64 a.lo] 24)) := below_al (Below.refl _ _)
  have hza := WdAt.new w a
  have I : Rx w [(w.heap.size, a)] [] _ := ⟨by simp; exact hza, by simp, hz⟩
  clear hz hza
  by_cases h : wd (sg64 a.lo) = a
  · have h2 := HE.out.1 h
    rw [h2]
    rw [decide_eq_true h] at hq
    rw [h] at C1 hq
    clear HE h h2
    generalize sg64 a.lo = n at *
    obtain ⟨h, l⟩ := a
    unfold Wd.val at *
    simp only at C1 hq e1 e2 I ⊢
    go_enter Try.func40, Try.ntmps40
    go_upto_region 2 with (fail)
    generalize w.alloc _ = w0 at *
    have I := Lib.hid I
    have a0 := I.out.hdW.c0
    have a1 := I.out.hdW.c1
    go_region_with (first
      | (go_at_call 32; refine (C1 _).mono ?_; rintro e w5 ⟨rfl, d5⟩; have I := Lib.hid (Rx.later I.out d5 rfl rfl rfl rfl); have a0 := I.out.hdW.c0; have a1 := I.out.hdW.c1))
    all_goals
      have HB := Lib.hid I.out.b
      go_wp2_with fail
      refine bodyPost_ret (v := .tuple #[.int .i64 n, .bool true]) (by simp [results, Try.results40, go_sem, *]) rfl ⟨rfl, HB.out⟩
  · have h2 := HE.out.2 h
    rw [h2]
    rw [decide_eq_false h] at hq
    clear HE h h2
    generalize sg64 a.lo = n at *
    generalize wd n = X at *
    obtain ⟨h, l⟩ := a
    obtain ⟨x0, x1⟩ := X
    unfold Wd.val at *
    simp only at C1 hq e1 e2 I ⊢
    go_enter Try.func40, Try.ntmps40
    go_upto_region 2 with (fail)
    generalize w.alloc _ = w0 at *
    have I := Lib.hid I
    have a0 := I.out.hdW.c0
    have a1 := I.out.hdW.c1
    go_region_with (first
      | (go_at_call 32; refine (C1 _).mono ?_; rintro e w5 ⟨rfl, d5⟩; have I := Lib.hid (Rx.later I.out d5 rfl rfl rfl rfl); have a0 := I.out.hdW.c0; have a1 := I.out.hdW.c1))
    all_goals
      have HB := Lib.hid I.out.b
      go_wp2_with fail
      refine bodyPost_ret (v := .tuple #[.int .i64 0, .bool false]) (by simp [results, Try.results40, go_sem, *]) rfl ⟨rfl, HB.out⟩
theorem rsmall_any (a : Wd) (w : World) (ha : a.ok) : Calls Try.prog 44 #[a.val] w fun e w' => e = .returned (.tuple #[.int .i64 (smallW a).1, .bool (smallW a).2]) ∧ Below w.heap.size w w' := by
  have C1 := fun wx => rof_any (sg64 a.lo) wx (sg64_range _).1 (sg64_range _).2
  have hq := fun wx => neq_wide (wd (sg64 a.lo)) a wx
  have HE := Lib.hid (small_is a ha)
  have e1 : wrap64 a.lo = sg64 a.lo := by rw [← i64_of_wrap64, i64_wrap]
  have e2 : IntKind.i64.wrap a.lo = sg64 a.lo := i64_wrap _
  have hz : Below w.heap.size w (w.alloc (.cells #[.int .i64 a.hi, .int .u64 a.lo] 24)) := below_al (Below.refl _ _)
  have hza := WdAt.new w a
  have I : Rx w [(w.heap.size, a)] [] _ := ⟨by simp; exact hza, by simp, hz⟩
  clear hz hza
  by_cases h : wd (sg64 a.lo) = a
  · have h2 := HE.out.1 h
    rw [h2]
    rw [decide_eq_true h] at hq
    rw [h] at C1 hq
    clear HE h h2
    generalize sg64 a.lo = n at *
    obtain ⟨h, l⟩ := a
    unfold Wd.val at *
    simp only at C1 hq e1 e2 I ⊢
    go_enter Try.func44, Try.ntmps44
    go_upto_region 2 with (fail)
    generalize w.alloc _ = w0 at *
    have I := Lib.hid I
    have a0 := I.out.hdW.c0
    have a1 := I.out.hdW.c1
    go_region_with (first
      | (go_at_call 33; refine (C1 _).mono ?_; rintro e w5 ⟨rfl, d5⟩; have I := Lib.hid (Rx.later I.out d5 rfl rfl rfl rfl); have a0 := I.out.hdW.c0; have a1 := I.out.hdW.c1))
    all_goals
      have HB := Lib.hid I.out.b
      go_wp2_with fail
      refine bodyPost_ret (v := .tuple #[.int .i64 n, .bool true]) (by simp [results, Try.results44, go_sem, *]) rfl ⟨rfl, HB.out⟩
  · have h2 := HE.out.2 h
    rw [h2]
    rw [decide_eq_false h] at hq
    clear HE h h2
    generalize sg64 a.lo = n at *
    generalize wd n = X at *
    obtain ⟨h, l⟩ := a
    obtain ⟨x0, x1⟩ := X
    unfold Wd.val at *
    simp only at C1 hq e1 e2 I ⊢
    go_enter Try.func44, Try.ntmps44
    go_upto_region 2 with (fail)
    generalize w.alloc _ = w0 at *
    have I := Lib.hid I
    have a0 := I.out.hdW.c0
    have a1 := I.out.hdW.c1
    go_region_with (first
      | (go_at_call 33; refine (C1 _).mono ?_; rintro e w5 ⟨rfl, d5⟩; have I := Lib.hid (Rx.later I.out d5 rfl rfl rfl rfl); have a0 := I.out.hdW.c0; have a1 := I.out.hdW.c1))
    all_goals
      have HB := Lib.hid I.out.b
      go_wp2_with fail
      refine bodyPost_ret (v := .tuple #[.int .i64 0, .bool false]) (by simp [results, Try.results44, go_sem, *]) rfl ⟨rfl, HB.out⟩
theorem dg_shift (v : Int) (j : Nat) (hj : j < 16) : (if j = 0 then (dg v 0 + 128) % 256 else dg v j) = dg (v + 170141183460469231731687303715884105728) j := by
  unfold dg
  have e : (170141183460469231731687303715884105728 : Int) = 256 ^ (15 - j) * (128 * 256 ^ j) := by
    rw [Int.mul_left_comm, ← Int.pow_add, show 15 - j + j = 15 by omega]
    decide +kernel
  rw [e, Int.add_mul_ediv_left _ _ (Int.ne_of_gt (p256 _))]
  by_cases h : j = 0
  · subst h
    simp only [Nat.sub_zero, Int.pow_zero, if_true, Int.mul_one]
    generalize v / 256 ^ 15 = q
    omega
  · rw [if_neg h]
    obtain ⟨i, rfl⟩ : ∃ i, j = i + 1 := ⟨j - 1, by omega⟩
    rw [p256s, ← Int.mul_assoc]
    generalize v / 256 ^ (15 - (i + 1)) = q
    omega
theorem pre_next (u : Int) (k : Nat) (hk : k < 16) : u / 256 ^ (15 - k) = u / 256 ^ (16 - k) * 256 + dg u k := by
  unfold dg
  rw [show 16 - k = 15 - k + 1 by omega, div_div256]
  omega
theorem pre_lt (u v : Int) (k : Nat) (h : u / 256 ^ k < v / 256 ^ k) : u < v := by
  by_cases h' : u < v
  · exact h'
  · have := Int.ediv_le_ediv (p256 k) (Int.not_lt.1 h')
    omega
set_option maxHeartbeats 4000000 in
theorem rcmp_any (a b : Wd) (w : World) (ha : a.ok) (hb : b.ok) : Calls Try.prog 41 #[a.val, b.val] w fun e w' => e = .returned (.int .i64 (cmpW a b)) ∧ Below w.heap.size w w' := by
  obtain ⟨V, HV⟩ : ∃ V, Hid (V = cmpW a b) := ⟨_, rfl⟩
  rw [← HV.out]
  have ra := v_range a ha
  have rb := v_range b hb
  have C1 := fun wx => digits_any a wx ha
  have C2 := fun wx => digits_any b wx hb
  have HU := Lib.hid (dg_shift a.v)
  have HT := Lib.hid (dg_shift b.v)
  have HC : Hid (V = if a.v + 170141183460469231731687303715884105728 = b.v + 170141183460469231731687303715884105728 then 0 else if a.v + 170141183460469231731687303715884105728 < b.v + 170141183460469231731687303715884105728 then -1 else 1) := by
    show _ = _
    rw [HV.out]
    unfold cmpW
    repeat' split
    all_goals first | rfl | omega
  have ru : 0 ≤ a.v + 170141183460469231731687303715884105728 ∧ a.v + 170141183460469231731687303715884105728 < 340282366920938463463374607431768211456 := by omega
  have rt : 0 ≤ b.v + 170141183460469231731687303715884105728 ∧ b.v + 170141183460469231731687303715884105728 < 340282366920938463463374607431768211456 := by omega
  have hF := fun j => dg_range a.v j
  have hG := fun j => dg_range b.v j
  generalize a.v + 170141183460469231731687303715884105728 = U at *
  generalize b.v + 170141183460469231731687303715884105728 = T at *
  clear HV ra rb
  have hU := fun j => dg_range U j
  have hT := fun j => dg_range T j
  generalize dg a.v = F at *
  generalize dg b.v = G at *
  obtain ⟨h, l⟩ := a
  obtain ⟨h', l'⟩ := b
  unfold Wd.val at *
  simp only at C1 C2 ⊢
  have hz : Below w.heap.size w ((w.alloc (.cells #[.int .i64 h, .int .u64 l] 24)).alloc (.cells #[.int .i64 h', .int .u64 l'] 24)) := below_al (below_al (Below.refl _ _))
  have hzb := WdAt.new (w.alloc (.cells #[.int .i64 h, .int .u64 l] 24)) ⟨h', l'⟩
  simp only at hzb
  rw [show (w.alloc (.cells #[.int .i64 h, .int .u64 l] 24)).heap.size = w.heap.size + 1 by simp] at hzb
  go_enter Try.func41, Try.ntmps41
  go_wp2_with fail
  refine (C1 _).mono ?_
  rintro e w1 ⟨rfl, d1⟩
  have I1 : Rx w [(w.heap.size + 1, ⟨h', l'⟩)] [] w1 := Rx.below ⟨by simp; exact hzb, by simp, hz⟩ d1
  clear hz hzb d1
  have I2 := I1.row F (cellsK .i64 (arrF zerosF))
  have hg := I1.lt
  simp at hg
  obtain ⟨g0, g1⟩ := hg
  rw [arrF_zero] at I2
  unfold rowF
  go_upto_region 2 with (refine wpList_store_row rfl 88 _ _ rfl w1.heap.size (cellsK .i64 (arrF F)) rfl rfl 88 (cellsK .i64 (arrF zerosF)) (BlkK.new .i64 88 w1 (arrF zerosF)) (size_16 _) (by rw [cellsK_size, cellsK_size, arrF_length, arrF_length]) (cellsK_one _ _) ?_)
  generalize (w1.alloc _).setRow _ _ = w2 at *
  generalize w1.heap.size = gx at *
  have c0 := I2.hdW.c0
  have c1 := I2.hdW.c1
  go_wp2_with fail
  refine (C2 _).mono ?_
  rintro e w3 ⟨rfl, d3⟩
  have I3 := (I2.below d3).row G (cellsK .i64 (arrF zerosF))
  have hg := (I2.below d3).lt
  simp at hg
  obtain ⟨g6, g7, g8⟩ := hg
  rw [arrF_zero] at I3
  clear I1 I2 d3 c0 c1
  unfold rowF
  go_upto_region 3 with (refine wpList_store_row rfl 88 _ _ rfl w3.heap.size (cellsK .i64 (arrF G)) rfl rfl 88 (cellsK .i64 (arrF zerosF)) (BlkK.new .i64 88 w3 (arrF zerosF)) (size_16 _) (by rw [cellsK_size, cellsK_size, arrF_length, arrF_length]) (cellsK_one _ _) ?_)
  generalize (w3.alloc _).setRow _ _ = w4 at *
  generalize w3.heap.size = gy at *
  have I4 : Rx w [] [(gx, F), (gy, G)] w4 := ⟨by simp, fun p hp => I3.a p (by simp at hp ⊢; rcases hp with rfl | rfl <;> simp), I3.b⟩
  clear I3
  have r0 := hF 0
  have r1 := hG 0
  have e0 : (F 0 + 128) % 256 = dg U 0 := by have := HU.out 0 (by decide); simpa using this
  have e1 : (G 0 + 128) % 256 = dg T 0 := by have := HT.out 0 (by decide); simpa using this
  have e2 : (F 0 + 128).tmod 256 = dg U 0 := by rw [Int.tmod_eq_emod_of_nonneg (by omega)]; exact e0
  have e3 : (G 0 + 128).tmod 256 = dg T 0 := by rw [Int.tmod_eq_emod_of_nonneg (by omega)]; exact e1
  have I5 : Rx w [] [(gx, dg U), (gy, dg T)] ((w4.setCell ⟨gx, 0, none⟩ (.int .i64 (dg U 0))).setCell ⟨gy, 0, none⟩ (.int .i64 (dg T 0))) := by
    have k1 := (I4.set (by simp) (by simp; omega) (by omega) 0 (dg U 0)).congr (f' := dg U) (fun j hj => by
      by_cases q : j = 0
      · rw [if_pos q, q]
      · rw [if_neg q]
        have := HU.out j hj
        rw [if_neg q] at this
        exact this)
    have k2 : Rx w [] [(gy, G), (gx, dg U)] _ := ⟨k1.n, fun p hp => k1.a p (by simp at hp ⊢; rcases hp with rfl | rfl <;> simp), k1.b⟩
    have k3 := (k2.set (by simp) (by simp; omega) (by omega) 0 (dg T 0)).congr (f' := dg T) (fun j hj => by
      by_cases q : j = 0
      · rw [if_pos q, q]
      · rw [if_neg q]
        have := HT.out j hj
        rw [if_neg q] at this
        exact this)
    exact ⟨k3.n, fun p hp => k3.a p (by simp at hp ⊢; rcases hp with rfl | rfl <;> simp), k3.b⟩
  have x0 := I4.hd.cell 0 (by rw [arrF_length]; decide)
  have x1 := I4.hd.fz 0
  have y0 := I4.snd.cell 0 (by rw [arrF_length]; decide)
  have y1 := I4.snd.fz 0
  rw [arrF_get _ _ (by decide)] at x0 y0
  have INIT := Lib.hid I5
  clear I4 I5 HU HT
  generalize hd0 : dg U 0 = du at *
  generalize ht0 : dg T 0 = dt at *
  generalize F 0 = x at *
  generalize G 0 = y at *
  have gne : gx ≠ gy := by omega
  have gne' : gy ≠ gx := by omega
  clear hd0 ht0
  go_wp2_with fail
  clear x0 x1 y0 y1 e0 e1 e2 e3 r0 r1
  go_loopw [7] (fun i wr => ∃ k : Nat, k ≤ 16 ∧ i = .int .i64 k ∧ U / 256 ^ (16 - k) = T / 256 ^ (16 - k) ∧ Rx w [] [(gx, dg U), (gy, dg T)] wr) (fun i _ => 17 - (intOf i).toNat)
  case atStart => exact ⟨0, by omega, rfl, by rw [show 16 - 0 = 16 from rfl, p16]; omega, INIT.out⟩
  case round =>
    obtain ⟨k, hk, rfl, hE, hI⟩ := hrel
    have I := Lib.hid hI
    clear hI
    by_cases hlt : k < 16
    · have t1 : decide ((k : Int) < 16) = true := decide_eq_true (by omega)
      have i1 : (0 : Int) ≤ (k : Int) := by omega
      have i2 : (k : Int) < 16 := by omega
      have d1 := I.out.hd.cell k (by rw [arrF_length]; omega)
      rw [arrF_get _ _ (by omega)] at d1
      have d2 := I.out.snd.cell k (by rw [arrF_length]; omega)
      rw [arrF_get _ _ (by omega)] at d2
      have p1 := pre_next U k hlt
      have p2 := pre_next T k hlt
      rw [hE] at p1
      have q1 := pre_lt U T (15 - k)
      have q2 := pre_lt T U (15 - k)
      have hE2 : dg U k = dg T k → U / 256 ^ (16 - (k + 1)) = T / 256 ^ (16 - (k + 1)) := fun e => by rw [show 16 - (k + 1) = 15 - k by omega, p1, p2, e]
      have HE2 := Lib.hid hE2
      clear hE hE2
      generalize T / 256 ^ (16 - k) = P at *
      generalize U / 256 ^ (15 - k) = P1 at *
      generalize T / 256 ^ (15 - k) = P2 at *
      generalize dg U k = x at *
      generalize dg T k = y at *
      by_cases hxy : x < y
      · have t2 : decide (x < y) = true := decide_eq_true hxy
        have hlt := q1 (by omega)
        have HV : Hid (V = -1) := by show _ = _; rw [HC.out, if_neg (by omega), if_pos hlt]
        clear q1 q2 p1 p2
        go_wp2_with fail
        go_quiet (fail)
        go_wp2_with fail
        go_ret
        exact ⟨by rw [HV.out]; rfl, Rx.b (Rx.same I.out rfl rfl rfl rfl)⟩
      · have t2 : decide (x < y) = false := decide_eq_false hxy
        by_cases hyx : y < x
        · have t3 : decide (y < x) = true := decide_eq_true hyx
          have hlt := q2 (by omega)
          have HV : Hid (V = 1) := by show _ = _; rw [HC.out, if_neg (by omega), if_neg (by omega)]
          clear q1 q2 p1 p2
          go_wp2_with fail
          go_quiet (fail)
          go_wp2_with fail
          go_quiet (fail)
          go_wp2_with fail
          go_ret
          exact ⟨by rw [HV.out]; rfl, Rx.b (Rx.same I.out rfl rfl rfl rfl)⟩
        · have t3 : decide (y < x) = false := decide_eq_false hyx
          have HE3 := Lib.hid (HE2.out (by omega))
          clear q1 q2 p1 p2 HE2
          go_wp2_with fail
          go_quiet (fail)
          go_wp2_with fail
          go_quiet (fail)
          go_wp2_with fail
          go_roundw
          case rel => exact ⟨k + 1, by omega, by go_num, HE3.out, I.out.same rfl rfl rfl rfl⟩
          case measure => simp [intOf]; omega
    · have t1 : decide ((k : Int) < 16) = false := decide_eq_false (by omega)
      obtain rfl : k = 16 := by omega
      have HV : Hid (V = 0) := by
        show _ = _
        rw [HC.out, if_pos]
        simpa using hE
      clear hE
      go_wp2_with fail
      go_ret
      exact ⟨by rw [HV.out]; rfl, I.out.b⟩
end
end Go.Proofs.Ytojnooagifhekaa
