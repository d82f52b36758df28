/- The reference's Text. (Printed by wip/rtext.py.) -/
import Derived.Test.YtafjpgkffgmokaaRadd
import Derived.Test.YtafjpgkffgmokaaTpure
import Derived.Test.YtafjpgkffgmokaaWawake
namespace Go.Proofs.Ytafjpgkffgmokaa
open Go.RowKit
set_option linter.unusedVariables false
set_option linter.unusedSimpArgs false
def sumD (g : Nat → Int) : Nat → Int
  | 0 => 0
  | k + 1 => sumD g k + g k
theorem sumD_range (g : Nat → Int) (h : ∀ j, 0 ≤ g j ∧ g j ≤ 255) : ∀ k, 0 ≤ sumD g k ∧ sumD g k ≤ 255 * k
  | 0 => by simp [sumD]
  | k + 1 => by
    have := sumD_range g h k
    have := h k
    simp only [sumD]
    omega
theorem sumD_zero (g : Nat → Int) (h : ∀ j, 0 ≤ g j ∧ g j ≤ 255) : ∀ k, sumD g k = 0 → ∀ j, j < k → g j = 0
  | 0, _, j, hj => by omega
  | k + 1, hz, j, hj => by
    simp only [sumD] at hz
    have h1 := sumD_range g h k
    have h2 := h k
    by_cases e : j = k
    · subst e; omega
    · exact sumD_zero g h k (by omega) j (by omega)
theorem lowS_zero : ∀ k, lowS zerosF k = 0
  | 0 => rfl
  | k + 1 => by simp only [lowS]; rw [lowS_zero k]; simp [zerosF]
theorem sumD_zeros : ∀ k, sumD zerosF k = 0
  | 0 => rfl
  | k + 1 => by simp only [sumD]; rw [sumD_zeros k]; simp [zerosF]
theorem sumD_congr {f g : Nat → Int} : ∀ k, (∀ j, j < k → f j = g j) → sumD f k = sumD g k
  | 0, _ => rfl
  | k + 1, h => by simp only [sumD]; rw [sumD_congr k (fun j hj => h j (by omega)), h k (by omega)]
theorem sum_zero (U : Int) (h0 : 0 ≤ U) (h1 : U < 340282366920938463463374607431768211456) : (sumD (dg (U / 10)) 16 = 0 → U / 10 = 0) ∧ (U / 10 = 0 → sumD (dg (U / 10)) 16 = 0) := by
  constructor
  · intro h
    have hz := sumD_zero _ (dg_range (U / 10)) 16 h
    have := lowS_16 (U / 10)
    rw [lowS_congr (g := zerosF) (fun j hj => hz j hj), lowS_zero] at this
    omega
  · intro h
    rw [h, sumD_congr (g := zerosF) 16 (fun j _ => by unfold dg zerosF; simp), sumD_zeros]
theorem tdiv_step (U : Int) (j : Nat) (hj : j < 16) : (U / 256 ^ (16 - j) % 10 * 256 + dg U j) / 10 = dg (U / 10) j ∧ (U / 256 ^ (16 - j) % 10 * 256 + dg U j) % 10 = U / 256 ^ (16 - (j + 1)) % 10 := by
  have hp : U / 256 ^ (16 - (j + 1)) = U / 256 ^ (16 - j) * 256 + dg U j := by
    unfold dg
    rw [show 16 - (j + 1) = 15 - j by omega, show 16 - j = 15 - j + 1 by omega, div_div256]
    omega
  have hd : dg (U / 10) j = U / 256 ^ (16 - (j + 1)) / 10 % 256 := by
    unfold dg
    rw [show 16 - (j + 1) = 15 - j by omega, Int.ediv_ediv_of_nonneg (by decide), Int.mul_comm, ← Int.ediv_ediv_of_nonneg (Int.le_of_lt (p256 _))]
  have hr := dg_range U j
  rw [hd, hp]
  generalize U / 256 ^ (16 - j) = P at *
  generalize dg U j = d at *
  constructor <;> omega
theorem div_range (N : Int) (h0 : 0 ≤ N) (h1 : N < 340282366920938463463374607431768211456) (k : Nat) : 0 ≤ N / 10 ^ k ∧ N / 10 ^ k < 340282366920938463463374607431768211456 :=
  ⟨Int.ediv_nonneg h0 (Int.le_of_lt (p10_pos k)), Int.lt_of_le_of_lt (Int.ediv_le_self _ h0) h1⟩
theorem round_le (N : Int) (h0 : 0 ≤ N) (h1 : N < 340282366920938463463374607431768211456) (k : Nat) (h : k = 0 ∨ N / 10 ^ k ≠ 0) : k ≤ 38 := by
  rcases h with h | h
  · omega
  · by_cases hk : k ≤ 38
    · exact hk
    · exfalso
      apply h
      have h2 := p10_mono (show 39 ≤ k by omega)
      rw [show (10 : Int) ^ 39 = 1000000000000000000000000000000000000000 by decide +kernel] at h2
      exact Int.ediv_eq_zero_of_lt h0 (by omega)
theorem pow_le_of (N U : Int) (k : Nat) (h0 : 0 ≤ N) (h : N / 10 ^ k = U) (hU : U ≠ 0) : 10 ^ k ≤ N := by
  by_cases hh : 10 ^ k ≤ N
  · exact hh
  · exfalso
    apply hU
    rw [← h]
    exact Int.ediv_eq_zero_of_lt h0 (by omega)
set_option maxHeartbeats 4000000 in
theorem rwtext_any (a : Wd) (w : World) (ha : a.ok) : Calls Try.prog 14 #[a.val] w fun e w' => e = .returned (.string (textW a.v)) ∧ Below w.heap.size w w' := by
  have hr := v_range a ha
  have L1 := fun wx => rbelow_any a wx ha
  have N1 := fun wx => rneg_any a wx ha
  have D1 := fun wx => digits_any a wx ha
  have D2 := fun wx => digits_any (wd (-a.v)) wx (wd_ok _)
  rw [show dg (wd (-a.v)).v = dg (-a.v) from funext fun j => dg_congr (v_wd_mod _) j] at D2
  obtain ⟨V, HV⟩ : ∃ V, Hid (a.v = V) := ⟨_, rfl⟩
  rw [HV.out] at hr L1 N1 D1 D2
  rw [HV.out]
  clear HV
  have hz : Below w.heap.size w (w.alloc (.cells #[.int .i64 a.hi, .int .u64 a.lo] 24)) := below_al (Below.refl _ _)
  have hza := WdAt.new w a
  have I0 : Rx w [(w.heap.size, a)] [] (w.alloc (.cells #[.int .i64 a.hi, .int .u64 a.lo] 24)) := ⟨by simp; exact hza, by simp, hz⟩
  clear hz hza
  unfold Wd.val at *
  by_cases hv : V < 0
  · obtain ⟨N, HNV⟩ : ∃ N, Hid (N = -V) := ⟨_, rfl⟩
    rw [← HNV.out] at N1 D2
    have hN0 : 0 ≤ N := by have := HNV.out; omega
    have hN1 : N < 340282366920938463463374607431768211456 := by have := HNV.out; omega
    rw [decide_eq_true hv] at L1
    generalize wd N = X at *
    go_enter Try.func14, Try.ntmps14
    go_wp2_with fail
    refine (L1 _).mono ?_
    rintro e w3 ⟨rfl, d3⟩
    have I := I0.below d3
    have c0 := I.hdW.c0
    have c1 := I.hdW.c1
    go_wp2_with fail
    refine (N1 _).mono ?_
    rintro e w4 ⟨rfl, d4⟩
    have I := I.below d4
    have c0 := I.hdW.c0
    have c1 := I.hdW.c1
    have z0 := I.hdW.fz 0
    have z1 := I.hdW.fz 1
    have hb := below_st (below_st I.b (p := ⟨w.heap.size, 0, none⟩) (Nat.le_refl _) (.int .i64 X.hi)) (p := ⟨w.heap.size, 1, none⟩) (Nat.le_refl _) (.int .u64 X.lo)
    go_wp2_with fail
    refine (D2 _).mono ?_
    rintro e w1 ⟨rfl, d1⟩
    have I1 : Rx w [] [] w1 := ⟨by simp, by simp, below_th hb d1⟩
    clear I0 I d3 d4 d1 hb c0 c1 z0 z1
    have I2 := I1.row (dg N) (cellsK .i64 (arrF zerosF))
    have hg := I1.lt
    simp at hg
    rw [arrF_zero] at I2
    unfold rowF
    go_upto_region 5 with (refine wpList_store_row rfl 44 _ _ rfl w1.heap.size (cellsK .i64 (arrF (dg N))) rfl rfl 44 (cellsK .i64 (arrF zerosF)) (BlkK.new .i64 44 w1 (arrF zerosF)) (size_16 _) (by rw [cellsK_size, cellsK_size, arrF_length, arrF_length]) (cellsK_one _ _) ?_)
    generalize (w1.alloc _).setRow _ _ = w2 at *
    generalize w1.heap.size = gx at *
    have INIT := Lib.hid I2
    clear I1 I2
    have hcv := conv_one (P := Try.prog) Try.underlying50 Try.underlying5 Try.underlying9
    go_wp2_with fail
    go_loopw [5, 6, 7, 8, 9] (fun s _ _ _ _ wr => ∃ k : Nat, s = .string (strOfNums (lowD k N)) ∧ (k = 0 ∨ N / 10 ^ k ≠ 0) ∧ Rx w [] [(gx, dg (N / 10 ^ k))] wr) (fun s _ _ _ _ _ => 40 - (match s with | .string b => b.size | _ => 0))
    case atStart => exact ⟨0, rfl, .inl rfl, by simpa using INIT.out⟩
    case round =>
      obtain ⟨k, rfl, hnz, hI⟩ := hrel
      have I := Lib.hid hI
      clear hI
      have hk := round_le N hN0 hN1 k hnz
      have NZ := Lib.hid hnz
      clear hnz
      have HU : Hid (0 ≤ N / 10 ^ k ∧ N / 10 ^ k < 340282366920938463463374607431768211456) := div_range N hN0 hN1 k
      have HLOW : Hid (lowD (k + 1) N = (48 + N / 10 ^ k % 10) :: lowD k N) := rfl
      have HDIV := Lib.hid (div_p10 N k)
      have hsz : (strOfNums (lowD k N)).size = k := by rw [strOfNums_size, lowD_length]
      generalize hU : N / 10 ^ k = U at *
      have UHK := Lib.hid hU
      clear hU
      go_wp2_with fail
      go_loopw [6, 7, 8, 9] (fun r al i _ wx => ∃ j : Nat, j ≤ 16 ∧ i = .int .i64 j ∧ r = .int .i64 (U / 256 ^ (16 - j) % 10) ∧ al = .int .i64 (sumD (dg (U / 10)) j) ∧ Rx w [] [(gx, fun q => if q < j then dg (U / 10) q else dg U q)] wx) (fun _ _ i _ _ => 17 - (intOf i).toNat)
      case atStart => exact ⟨0, by omega, rfl, by rw [show 16 - 0 = 16 from rfl, p16, Int.ediv_eq_zero_of_lt HU.out.1 HU.out.2]; rfl, rfl, I.out.congr fun j hj => by rw [if_neg (by omega)]⟩
      case round =>
        obtain ⟨j, hj, rfl, rfl, rfl, hJ⟩ := hrel
        have J := Lib.hid hJ
        clear hJ
        have hsum := sumD_range (dg (U / 10)) (dg_range _) j
        by_cases hlt : j < 16
        · have t1 : decide ((j : Int) < 16) = true := decide_eq_true (by omega)
          have i1 : (0 : Int) ≤ (j : Int) := by omega
          have i2 : (j : Int) < 16 := by omega
          have f1 := J.out.hd.fz j
          have d1 := J.out.hd.cell j (by rw [arrF_length]; omega)
          rw [arrF_get _ _ (by omega), if_neg (by omega)] at d1
          have r1 := dg_range U j
          obtain ⟨x1, x2⟩ := tdiv_step U j hlt
          have HS : Hid (sumD (dg (U / 10)) (j + 1) = sumD (dg (U / 10)) j + dg (U / 10) j) := rfl
          have J2 := Lib.hid ((J.out.set (by simp) (by simp) (by omega) j (dg (U / 10) j)).congr (f' := fun q => if q < j + 1 then dg (U / 10) q else dg U q) (fun q hq => by
            by_cases q1 : q = j
            · subst q1; rw [if_pos rfl, if_pos (by omega)]
            · rw [if_neg q1]
              by_cases q3 : q < j
              · rw [if_pos q3, if_pos (by omega)]
              · rw [if_neg q3, if_neg (by omega)]))
          have r3 := dg_range (U / 10) j
          have HX := Lib.hid x2
          rw [show 16 - (j + 1) = 15 - j by omega] at HX
          obtain ⟨R, hR⟩ : ∃ R, Hid (U / 256 ^ (16 - j) % 10 = R) := ⟨_, rfl⟩
          have hr : 0 ≤ R ∧ R ≤ 9 := by rw [← hR.out]; omega
          rw [hR.out] at x1 x2 HX
          rw [hR.out]
          generalize dg U j = x at *
          have y1 : (R * 256 + x).tdiv 10 = dg (U / 10) j := by rw [Int.tdiv_eq_ediv_of_nonneg (by omega)]; exact x1
          obtain ⟨R2, hR2⟩ : ∃ R2, Hid (U / 256 ^ (15 - j) % 10 = R2) := ⟨_, rfl⟩
          rw [hR2.out] at HX
          have y2 : (R * 256 + x).tmod 10 = R2 := by rw [Int.tmod_eq_emod_of_nonneg (by omega)]; exact HX.out
          have y4 : (R * 256 + x) % 10 = R2 := HX.out
          have y3 : (R * 256 + x) / 10 = dg (U / 10) j := x1
          clear x1 x2
          generalize hs : sumD (dg (U / 10)) j = S at *
          generalize dg (U / 10) j = y at *
          clear hs
          go_wp2_with fail
          go_round
          case rel => exact ⟨j + 1, by omega, by go_num, by rw [show 16 - (j + 1) = 15 - j by omega, hR2.out], by rw [HS.out], J2.out⟩
          case measure => simp [intOf]; omega
        · have t1 : decide ((j : Int) < 16) = false := decide_eq_false (by omega)
          obtain rfl : j = 16 := by omega
          have J2 := Lib.hid (J.out.congr (f' := dg (U / 10)) (fun q hq => by rw [if_pos (by omega)]))
          clear J
          rw [show (16 : Nat) - 16 = 0 from rfl, Int.pow_zero, Int.ediv_one]
          have hz := sum_zero U HU.out.1 HU.out.2
          have hr : 0 ≤ U % 10 ∧ U % 10 ≤ 9 := by omega
          obtain ⟨R, hR⟩ : ∃ R, Hid (U % 10 = R) := ⟨_, rfl⟩
          rw [hR.out] at hr
          rw [hR.out]
          have b1 : IntKind.u8.wrap (48 + R) = 48 + R := by rw [IntKind.wrap_u8]; omega
          have hz1 : (strOfNums [48 + R]).size = 1 := by rw [strOfNums_size]; rfl
          have HCAT : Hid (strOfNums [48 + R] ++ strOfNums (lowD k N) = strOfNums (lowD (k + 1) N)) := by show _ = _; rw [← strOfNums_append, HLOW.out, hR.out]; rfl
          have hsz2 : (strOfNums (lowD (k + 1) N)).size = k + 1 := by rw [strOfNums_size, lowD_length]
          have HB := Lib.hid J2.out.b
          generalize sumD (dg (U / 10)) 16 = S at *
          by_cases hS : S = 0
          · have t2 : (S == 0) = true := by rw [beq_iff_eq]; exact hS
            have hUz := hz.1 hS
            have HT : Hid (numD N = lowD (k + 1) N) := by
              have hp := p10_pos k
              show _ = _
              apply numD_of hN0 (by omega)
              refine ⟨by omega, ?_, ?_⟩
              · rw [p10_succ]
                have h1 := HDIV.out
                have h2 := Int.mul_ediv_add_emod N (10 ^ (k + 1))
                have h3 := Int.emod_lt_of_pos N (p10_pos (k + 1))
                rw [h1, hUz, Int.mul_zero] at h2
                rw [← p10_succ]
                omega
              · rcases NZ.out with h | h
                · left; omega
                · right
                  rw [Nat.add_sub_cancel]
                  exact pow_le_of N U k hN0 UHK.out h
            have HF : Hid (textW V = strOfNums (45 :: lowD (k + 1) N)) := by show _ = _; unfold textW textL; rw [if_pos hv, ← HNV.out]; rw [HT.out]
            clear hS hUz hz HLOW HDIV
            go_wp2
            go_ret
            refine ⟨ret_str ?_, by exact below_al HB.out⟩
            rw [HF.out, HCAT.out, show (45 : Int) :: lowD (k + 1) N = [45] ++ lowD (k + 1) N from rfl, strOfNums_append]; rfl
          · have t2 : (S == 0) = false := by rw [beq_eq_false_iff_ne]; exact hS
            have hUz : U / 10 ≠ 0 := fun h => hS (hz.2 h)
            clear hS hz
            go_wp2
            go_roundw
            case rel => exact ⟨k + 1, by rw [HCAT.out], .inr (by rw [HDIV.out]; exact hUz), by rw [HDIV.out]; exact ⟨by simp, fun p hp => by simp at hp; subst hp; exact J2.out.hd.alloc _, below_al HB.out⟩⟩
            case measure => simp [hsz, hz1, hsz2, ByteArray.size_append]; omega
  · obtain ⟨N, HNV⟩ : ∃ N, Hid (N = V) := ⟨_, rfl⟩
    rw [← HNV.out] at D1
    have hN0 : 0 ≤ N := by have := HNV.out; omega
    have hN1 : N < 340282366920938463463374607431768211456 := by have := HNV.out; omega
    rw [decide_eq_false hv] at L1
    go_enter Try.func14, Try.ntmps14
    go_wp2_with fail
    refine (L1 _).mono ?_
    rintro e w3 ⟨rfl, d3⟩
    have I := I0.below d3
    have c0 := I.hdW.c0
    have c1 := I.hdW.c1
    go_wp2_with fail
    refine (D1 _).mono ?_
    rintro e w1 ⟨rfl, d1⟩
    have I1 : Rx w [] [] w1 := ⟨by simp, by simp, below_th I.b d1⟩
    clear I0 I d3 d1 c0 c1
    have I2 := I1.row (dg N) (cellsK .i64 (arrF zerosF))
    have hg := I1.lt
    simp at hg
    rw [arrF_zero] at I2
    unfold rowF
    go_upto_region 5 with (refine wpList_store_row rfl 44 _ _ rfl w1.heap.size (cellsK .i64 (arrF (dg N))) rfl rfl 44 (cellsK .i64 (arrF zerosF)) (BlkK.new .i64 44 w1 (arrF zerosF)) (size_16 _) (by rw [cellsK_size, cellsK_size, arrF_length, arrF_length]) (cellsK_one _ _) ?_)
    generalize (w1.alloc _).setRow _ _ = w2 at *
    generalize w1.heap.size = gx at *
    have INIT := Lib.hid I2
    clear I1 I2
    have hcv := conv_one (P := Try.prog) Try.underlying50 Try.underlying5 Try.underlying9
    go_wp2_with fail
    go_loopw [5, 6, 7, 8, 9] (fun s _ _ _ _ wr => ∃ k : Nat, s = .string (strOfNums (lowD k N)) ∧ (k = 0 ∨ N / 10 ^ k ≠ 0) ∧ Rx w [] [(gx, dg (N / 10 ^ k))] wr) (fun s _ _ _ _ _ => 40 - (match s with | .string b => b.size | _ => 0))
    case atStart => exact ⟨0, rfl, .inl rfl, by simpa using INIT.out⟩
    case round =>
      obtain ⟨k, rfl, hnz, hI⟩ := hrel
      have I := Lib.hid hI
      clear hI
      have hk := round_le N hN0 hN1 k hnz
      have NZ := Lib.hid hnz
      clear hnz
      have HU : Hid (0 ≤ N / 10 ^ k ∧ N / 10 ^ k < 340282366920938463463374607431768211456) := div_range N hN0 hN1 k
      have HLOW : Hid (lowD (k + 1) N = (48 + N / 10 ^ k % 10) :: lowD k N) := rfl
      have HDIV := Lib.hid (div_p10 N k)
      have hsz : (strOfNums (lowD k N)).size = k := by rw [strOfNums_size, lowD_length]
      generalize hU : N / 10 ^ k = U at *
      have UHK := Lib.hid hU
      clear hU
      go_wp2_with fail
      go_loopw [6, 7, 8, 9] (fun r al i _ wx => ∃ j : Nat, j ≤ 16 ∧ i = .int .i64 j ∧ r = .int .i64 (U / 256 ^ (16 - j) % 10) ∧ al = .int .i64 (sumD (dg (U / 10)) j) ∧ Rx w [] [(gx, fun q => if q < j then dg (U / 10) q else dg U q)] wx) (fun _ _ i _ _ => 17 - (intOf i).toNat)
      case atStart => exact ⟨0, by omega, rfl, by rw [show 16 - 0 = 16 from rfl, p16, Int.ediv_eq_zero_of_lt HU.out.1 HU.out.2]; rfl, rfl, I.out.congr fun j hj => by rw [if_neg (by omega)]⟩
      case round =>
        obtain ⟨j, hj, rfl, rfl, rfl, hJ⟩ := hrel
        have J := Lib.hid hJ
        clear hJ
        have hsum := sumD_range (dg (U / 10)) (dg_range _) j
        by_cases hlt : j < 16
        · have t1 : decide ((j : Int) < 16) = true := decide_eq_true (by omega)
          have i1 : (0 : Int) ≤ (j : Int) := by omega
          have i2 : (j : Int) < 16 := by omega
          have f1 := J.out.hd.fz j
          have d1 := J.out.hd.cell j (by rw [arrF_length]; omega)
          rw [arrF_get _ _ (by omega), if_neg (by omega)] at d1
          have r1 := dg_range U j
          obtain ⟨x1, x2⟩ := tdiv_step U j hlt
          have HS : Hid (sumD (dg (U / 10)) (j + 1) = sumD (dg (U / 10)) j + dg (U / 10) j) := rfl
          have J2 := Lib.hid ((J.out.set (by simp) (by simp) (by omega) j (dg (U / 10) j)).congr (f' := fun q => if q < j + 1 then dg (U / 10) q else dg U q) (fun q hq => by
            by_cases q1 : q = j
            · subst q1; rw [if_pos rfl, if_pos (by omega)]
            · rw [if_neg q1]
              by_cases q3 : q < j
              · rw [if_pos q3, if_pos (by omega)]
              · rw [if_neg q3, if_neg (by omega)]))
          have r3 := dg_range (U / 10) j
          have HX := Lib.hid x2
          rw [show 16 - (j + 1) = 15 - j by omega] at HX
          obtain ⟨R, hR⟩ : ∃ R, Hid (U / 256 ^ (16 - j) % 10 = R) := ⟨_, rfl⟩
          have hr : 0 ≤ R ∧ R ≤ 9 := by rw [← hR.out]; omega
          rw [hR.out] at x1 x2 HX
          rw [hR.out]
          generalize dg U j = x at *
          have y1 : (R * 256 + x).tdiv 10 = dg (U / 10) j := by rw [Int.tdiv_eq_ediv_of_nonneg (by omega)]; exact x1
          obtain ⟨R2, hR2⟩ : ∃ R2, Hid (U / 256 ^ (15 - j) % 10 = R2) := ⟨_, rfl⟩
          rw [hR2.out] at HX
          have y2 : (R * 256 + x).tmod 10 = R2 := by rw [Int.tmod_eq_emod_of_nonneg (by omega)]; exact HX.out
          have y4 : (R * 256 + x) % 10 = R2 := HX.out
          have y3 : (R * 256 + x) / 10 = dg (U / 10) j := x1
          clear x1 x2
          generalize hs : sumD (dg (U / 10)) j = S at *
          generalize dg (U / 10) j = y at *
          clear hs
          go_wp2_with fail
          go_round
          case rel => exact ⟨j + 1, by omega, by go_num, by rw [show 16 - (j + 1) = 15 - j by omega, hR2.out], by rw [HS.out], J2.out⟩
          case measure => simp [intOf]; omega
        · have t1 : decide ((j : Int) < 16) = false := decide_eq_false (by omega)
          obtain rfl : j = 16 := by omega
          have J2 := Lib.hid (J.out.congr (f' := dg (U / 10)) (fun q hq => by rw [if_pos (by omega)]))
          clear J
          rw [show (16 : Nat) - 16 = 0 from rfl, Int.pow_zero, Int.ediv_one]
          have hz := sum_zero U HU.out.1 HU.out.2
          have hr : 0 ≤ U % 10 ∧ U % 10 ≤ 9 := by omega
          obtain ⟨R, hR⟩ : ∃ R, Hid (U % 10 = R) := ⟨_, rfl⟩
          rw [hR.out] at hr
          rw [hR.out]
          have b1 : IntKind.u8.wrap (48 + R) = 48 + R := by rw [IntKind.wrap_u8]; omega
          have hz1 : (strOfNums [48 + R]).size = 1 := by rw [strOfNums_size]; rfl
          have HCAT : Hid (strOfNums [48 + R] ++ strOfNums (lowD k N) = strOfNums (lowD (k + 1) N)) := by show _ = _; rw [← strOfNums_append, HLOW.out, hR.out]; rfl
          have hsz2 : (strOfNums (lowD (k + 1) N)).size = k + 1 := by rw [strOfNums_size, lowD_length]
          have HB := Lib.hid J2.out.b
          generalize sumD (dg (U / 10)) 16 = S at *
          by_cases hS : S = 0
          · have t2 : (S == 0) = true := by rw [beq_iff_eq]; exact hS
            have hUz := hz.1 hS
            have HT : Hid (numD N = lowD (k + 1) N) := by
              have hp := p10_pos k
              show _ = _
              apply numD_of hN0 (by omega)
              refine ⟨by omega, ?_, ?_⟩
              · rw [p10_succ]
                have h1 := HDIV.out
                have h2 := Int.mul_ediv_add_emod N (10 ^ (k + 1))
                have h3 := Int.emod_lt_of_pos N (p10_pos (k + 1))
                rw [h1, hUz, Int.mul_zero] at h2
                rw [← p10_succ]
                omega
              · rcases NZ.out with h | h
                · left; omega
                · right
                  rw [Nat.add_sub_cancel]
                  exact pow_le_of N U k hN0 UHK.out h
            have HF : Hid (textW V = strOfNums (lowD (k + 1) N)) := by show _ = _; unfold textW textL; rw [if_neg (by omega), ← HNV.out]; rw [HT.out]
            clear hS hUz hz HLOW HDIV
            go_wp2
            go_ret
            refine ⟨ret_str ?_, by exact below_al HB.out⟩
            rw [HF.out, ← HCAT.out]
          · have t2 : (S == 0) = false := by rw [beq_eq_false_iff_ne]; exact hS
            have hUz : U / 10 ≠ 0 := fun h => hS (hz.2 h)
            clear hS hz
            go_wp2
            go_roundw
            case rel => exact ⟨k + 1, by rw [HCAT.out], .inr (by rw [HDIV.out]; exact hUz), by rw [HDIV.out]; exact ⟨by simp, fun p hp => by simp at hp; subst hp; exact J2.out.hd.alloc _, below_al HB.out⟩⟩
            case measure => simp [hsz, hz1, hsz2, ByteArray.size_append]; omega
end Go.Proofs.Ytafjpgkffgmokaa
