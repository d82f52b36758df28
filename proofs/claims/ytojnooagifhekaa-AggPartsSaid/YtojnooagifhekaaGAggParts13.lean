/- math/bits.Div64: the quotient and the rest. -/
import Derived.Test.YtojnooagifhekaaGAggParts12
import Derived.Shelf.Small.Bits
import Derived.Lib.ItoaNum
import Derived.Laws.BitsLemmas
import Derived.Deep.QuietTactic
import Derived.BigQuiet
import Derived.Deep.DeepCutAuto
import Derived.Deep.CutBlock
namespace Go.Proofs.Ytojnooagifhekaa
section
open Go.RowKit Go.Shelf
set_option maxRecDepth 100000
set_option linter.unusedVariables false
set_option linter.unusedSimpArgs false
def laysL_ren : Go.Shelf.Ren := ⟨fun | 134 => 76 | 129 => 89 | n => n, fun | 3 => 3 | 4 => 4 | 5 => 5 | 9 => 9 | 46 => 87 | 53 => 22 | n => n, fun | n => n⟩
theorem laysL : Go.Proofs.Lays.n134 Try.prog laysL_ren := {
  mixed := by kernel_rfl
  f134 := Try.func76.trans (congrArg some (by kernel_rfl))
  f129 := Try.func89.trans (congrArg some (by kernel_rfl))
  t3 := Try.underlying3
  a3 := Try.isAgg3
  z3 := Try.sizeOf3
  v3 := Try.zeroValue3
  t4 := Try.underlying4
  a4 := Try.isAgg4
  z4 := Try.sizeOf4
  v4 := Try.zeroValue4
  t5 := Try.underlying5
  a5 := Try.isAgg5
  z5 := Try.sizeOf5
  v5 := Try.zeroValue5
  t9 := Try.underlying9
  a9 := Try.isAgg9
  z9 := Try.sizeOf9
  v9 := Try.zeroValue9
  t46 := Try.underlying87
  a46 := Try.isAgg87
  z46 := Try.sizeOf87
  v46 := Try.zeroValue87
  t53 := Try.underlying22
  a53 := Try.isAgg22
  z53 := Try.sizeOf22
  v53 := Try.zeroValue22 }
/-- The shift that brings a number's first bit to the 64th place. -/
theorem lz_any (y : Int) (w : World) (h0 : 1 ≤ y) (h1 : y < 18446744073709551616) :
    Calls Try.prog 76 #[.int .u64 y] w fun e w' => ∃ s : Nat, e = .returned (.int .i64 s) ∧ s ≤ 63 ∧ Hid (9223372036854775808 ≤ y * 2 ^ s ∧ y * 2 ^ s < 18446744073709551616) ∧ w = w' := by
  refine (Any.bits_LeadingZeros64 laysL y w (by omega) (by omega)).mono ?_
  rintro e w' ⟨rfl, rfl⟩
  obtain ⟨Y, rfl⟩ := Int.eq_ofNat_of_zero_le (show 0 ≤ y by omega)
  rw [Int.toNat_natCast]
  have hb := Go.Lib.bitLenAux_bounds 64 Y (by omega) (by omega)
  have hle := Lib.bitLen_le Y 64 (by omega) (by omega)
  have hB : Lib.bitLenAux 64 Y = Lib.bitLen Y := rfl
  rw [hB] at hb
  generalize Lib.bitLen Y = b at *
  obtain ⟨b1, b2, b3⟩ := hb
  refine ⟨64 - b, by congr 2; omega, by omega, ?_, rfl⟩
  have e1 : (2 : Nat) ^ 63 = 2 ^ (b - 1) * 2 ^ (64 - b) := by rw [← Nat.pow_add]; congr 1; omega
  have e2 : (2 : Nat) ^ 64 = 2 ^ b * 2 ^ (64 - b) := by rw [← Nat.pow_add]; congr 1; omega
  have k1 : 2 ^ (b - 1) * 2 ^ (64 - b) ≤ Y * 2 ^ (64 - b) := Nat.mul_le_mul_right _ b2
  have k2 : Y * 2 ^ (64 - b) < 2 ^ b * 2 ^ (64 - b) := Nat.mul_lt_mul_of_pos_right b3 (Nat.pow_pos (by omega))
  rw [← e1] at k1
  rw [← e2] at k2
  have e3 : ((Y : Int) * 2 ^ (64 - b)) = ((Y * 2 ^ (64 - b) : Nat) : Int) := by push_cast; rfl
  show _ ∧ _
  rw [e3]
  generalize Y * 2 ^ (64 - b) = z at *
  omega
theorem wu64 (n : Int) : IntKind.u64.wrap n = n % 18446744073709551616 := by simp [IntKind.wrap, IntKind.bits, IntKind.signed]
theorem wu64_in (n : Int) (h0 : 0 ≤ n) (h1 : n < 18446744073709551616) : IntKind.u64.wrap n = n := by rw [wu64]; omega
theorem wu64s (n : Int) (h₀ : 0 ≤ n) (h₁ : n < 2 ^ 64) : IntKind.u64.wrap n = n := by rw [wu64]; omega
theorem pow_split (s : Nat) (hs : s ≤ 63) : (2 : Int) ^ 64 = 2 ^ (64 - s) * 2 ^ s := by rw [← Int.pow_add]; congr 1; omega
theorem pow_pos2 (s : Nat) : (0 : Int) < 2 ^ s := Int.pow_pos (by decide)
/-- The parts that the division begins with. -/
structure DivS (hi lo y : Int) (s : Nat) (v yn1 yn0 u un1 un0 : Int) : Prop where
  c1 : DivC u un1 yn1 yn0
  c0 : 0 ≤ un0 ∧ un0 < 4294967296
  hv : v = y * 2 ^ s
  hv2 : v = yn1 * 4294967296 + yn0
  hX : (hi * 18446744073709551616 + lo) * 2 ^ s = (u * 4294967296 + un1) * 4294967296 + un0
theorem div_parts (hi lo y : Int) (s : Nat) (hs : s ≤ 63) (h0 : 0 ≤ hi) (h1 : hi < y) (h3 : 0 ≤ lo) (h4 : lo < 18446744073709551616) (hn : 9223372036854775808 ≤ y * 2 ^ s) (hn2 : y * 2 ^ s < 18446744073709551616) :
    ∃ v yn1 yn0 u un10 un1 un0 : Int, IntKind.u64.wrap (y * 2 ^ s) = v ∧ v / 4294967296 = yn1 ∧ bits .and .u64 v 4294967295 = yn0 ∧ bits .or .u64 (IntKind.u64.wrap (hi * 2 ^ s)) (lo / 2 ^ (64 - s)) = u ∧ IntKind.u64.wrap (lo * 2 ^ s) = un10 ∧ un10 / 4294967296 = un1 ∧ bits .and .u64 un10 4294967295 = un0 ∧ DivS hi lo y s v yn1 yn0 u un1 un0 := by
  have hp := pow_pos2 s
  have hr := pow_pos2 (64 - s)
  have hpr := pow_split s hs
  have ev : IntKind.u64.wrap (y * 2 ^ s) = y * 2 ^ s := wu64_in _ (by omega) hn2
  have ehi : hi * 2 ^ s ≤ (y - 1) * 2 ^ s := Int.mul_le_mul_of_nonneg_right (by omega) (by omega)
  rw [Int.sub_mul] at ehi
  have ehi0 : 0 ≤ hi * 2 ^ s := Int.mul_nonneg h0 (by omega)
  have elo : lo / 2 ^ (64 - s) < 2 ^ s := by rw [Int.ediv_lt_iff_lt_mul hr, Int.mul_comm, ← hpr]; exact h4
  have elo0 : 0 ≤ lo / 2 ^ (64 - s) := Int.ediv_nonneg h3 (by omega)
  have eor : bits .or .u64 (IntKind.u64.wrap (hi * 2 ^ s)) (lo / 2 ^ (64 - s)) = hi * 2 ^ s + lo / 2 ^ (64 - s) := by
    rw [wu64_in _ ehi0 (by omega)]
    exact bits_join .u64 64 (by decide) wu64s s _ _ ehi0 (Int.mul_emod_left _ _) (by omega) elo0 elo (by omega)
  have elow : lo * 2 ^ s = lo / 2 ^ (64 - s) * 18446744073709551616 + lo * 2 ^ s % 18446744073709551616 := by
    have k1 := Int.mul_ediv_add_emod (lo * 2 ^ s) 18446744073709551616
    have k2 : lo * 2 ^ s / 18446744073709551616 = lo / 2 ^ (64 - s) := by
      rw [show (18446744073709551616 : Int) = 2 ^ (64 - s) * 2 ^ s by rw [← hpr]; rfl]
      exact Int.mul_ediv_mul_of_pos_left _ _ hp
    rw [k2] at k1
    omega
  have eX : (hi * 18446744073709551616 + lo) * 2 ^ s = hi * 2 ^ s * 18446744073709551616 + lo * 2 ^ s := by rw [Int.add_mul, Int.mul_right_comm]
  have hm : ∀ x : Int, 0 ≤ x → x < 18446744073709551616 → bits .and .u64 x 4294967295 = x % 4294967296 := fun x a b => bits_mask .u64 64 (by decide) wu64s 32 (by decide) x a (by omega)
  refine ⟨_, _, _, _, _, _, _, ev, rfl, hm _ (by omega) hn2, eor, wu64 _, rfl, hm _ (by omega) (by omega), ?_⟩
  generalize hV : y * 2 ^ s = V at *
  generalize hi * 2 ^ s = H at *
  generalize lo / 2 ^ (64 - s) = L at *
  generalize lo * 2 ^ s = M at *
  refine ⟨⟨by omega, by omega, by omega, by omega, by omega, by omega, by omega, by omega⟩, by omega, hV.symm, by omega, by omega⟩
set_option maxHeartbeats 4000000 in
theorem div64_big (hi lo y : Int) (w : World) (h0 : 1 ≤ hi) (h1 : hi < y) (h2 : y < 18446744073709551616) (h3 : 0 ≤ lo) (h4 : lo < 18446744073709551616) :
    Calls Try.prog 39 #[.int .u64 hi, .int .u64 lo, .int .u64 y] w fun e w' => ∃ q r : Int, e = .returned (.tuple #[.int .u64 q, .int .u64 r]) ∧ Hid (q = (hi * 18446744073709551616 + lo) / y ∧ r = (hi * 18446744073709551616 + lo) % y) ∧ ∃ n, w' = w.drewN n := by
  have t1 : (y == 0) = false := beq_eq_false_iff_ne.2 (by omega)
  have t2 : decide (y ≤ hi) = false := decide_eq_false (by omega)
  have t3 : (hi == 0) = false := beq_eq_false_iff_ne.2 (by omega)
  go_enter Try.func39, Try.ntmps39
  go_wp2_with fail
  refine (lz_any y _ (by omega) h2).mono ?_
  rintro e w1 ⟨s, rfl, hs, HS, rfl⟩
  obtain ⟨v, yn1, yn0, u, un10, un1, un0, e1, e2, e3, e4, e5, e6, e7, hS⟩ := div_parts hi lo y s hs (by omega) h1 h3 h4 HS.out.1 HS.out.2
  have C1 := hS.c1
  have hyn1 := C1.y1
  have hyn1' := C1.y1'
  have hyn0 := C1.y0
  have hyn0' := C1.y0'
  have hd0 := C1.d0
  have hd1 := C1.d1
  have hu0 := C1.u0
  have hu1 := C1.u1
  have hun0 := hS.c0.1
  have hun0' := hS.c0.2
  have I1 := div_start C1
  have g1 : IntKind.u64.wrap (u / yn1 * yn1) = u / yn1 * yn1 := by
    have := I1.r0
    have := Int.mul_nonneg I1.q0 (show 0 ≤ yn1 by omega)
    exact wu64_in _ this (by omega)
  have g2 : IntKind.u64.wrap (u - u / yn1 * yn1) = u - u / yn1 * yn1 := wu64_in _ I1.r0 (by have := Int.mul_nonneg I1.q0 (show 0 ≤ yn1 by omega); omega)
  have hne : ¬ (yn1 = 0) := by omega
  have hr1 : u - u / yn1 * yn1 < 4294967296 := by
    have e := Int.mul_ediv_add_emod u yn1
    rw [Int.mul_comm] at e
    have := Int.emod_lt_of_pos u (show 0 < yn1 by omega)
    omega
  have S := Lib.hid hS
  have C := Lib.hid C1
  have II := Lib.hid I1
  clear hS C1 I1
  have hQ1 := div_rest C.out rfl
  obtain ⟨Q1, HQ1⟩ : ∃ Q1, Hid (Q1 = (u * 4294967296 + un1) / (yn1 * 4294967296 + yn0)) := ⟨_, rfl⟩
  rw [← HQ1.out] at hQ1
  go_upto_block 0 with (fail)
  go_cut [15, 16] (fun q r wx => q = .int .u64 Q1 ∧ (∃ r', r = .int .u64 r') ∧ w = wx)
  case first =>
    go_wp2_with fail
    go_loop [15, 16] (fun q r => ∃ q' r' : Int, q = .int .u64 q' ∧ r = .int .u64 r' ∧ DivI u un1 yn1 yn0 q' r' ∧ r' < 4294967296) (fun q _ => (intOf q).toNat)
    case atStart => exact ⟨_, _, rfl, rfl, II.out, hr1⟩
    case round =>
      obtain ⟨q', r', rfl, rfl, hI, hr'⟩ := hrel
      have hq2 := div_q_le C.out hI
      have hqr := hI.r0
      have hqq := hI.q0
      have HI := Lib.hid hI
      clear hI
      have f1 : IntKind.u64.wrap (4294967296 * r') = 4294967296 * r' := wu64_in _ (by omega) (by omega)
      have f2 : IntKind.u64.wrap (4294967296 * r' + un1) = 4294967296 * r' + un1 := wu64_in _ (by omega) (by omega)
      have f3 : IntKind.u64.wrap (r' + yn1) = r' + yn1 := wu64_in _ (by omega) (by omega)
      have hmul : q' < 4294967296 → 0 ≤ q' * yn0 ∧ q' * yn0 < 18446744073709551616 := fun h => by
        have k0 := Int.mul_nonneg hqq hyn0
        have k1 : q' * yn0 ≤ 4294967295 * yn0 := Int.mul_le_mul_of_nonneg_right (by omega) hyn0
        omega
      by_cases hb : 4294967296 ≤ q'
      · have t4 : decide (4294967296 ≤ q') = true := decide_eq_true hb
        have f4 : IntKind.u64.wrap (q' - 1) = q' - 1 := wu64_in _ (by omega) (by omega)
        obtain ⟨hn, hq1⟩ := div_step C.out HI.out (.inl hb)
        have HN := Lib.hid hn
        clear hn
        by_cases hbr : 4294967296 ≤ r' + yn1
        · have t5 : decide (4294967296 ≤ r' + yn1) = true := decide_eq_true hbr
          have HE := Lib.hid (div_end C.out HN.out (.inr hbr))
          go_wp2_with fail
          go_meet
          exact ⟨by rw [HE.out, HQ1.out], ⟨_, rfl⟩, rfl⟩
        · have t5 : decide (4294967296 ≤ r' + yn1) = false := decide_eq_false hbr
          go_wp2_with fail
          go_round
          case rel => exact ⟨q' - 1, r' + yn1, rfl, rfl, HN.out, by omega⟩
          case measure => simp [intOf]; omega
      · have t4 : decide (4294967296 ≤ q') = false := decide_eq_false hb
        have f5 : IntKind.u64.wrap (q' * yn0) = q' * yn0 := wu64_in _ (hmul (by omega)).1 (hmul (by omega)).2
        by_cases ht : 4294967296 * r' + un1 < q' * yn0
        · have t6 : decide (4294967296 * r' + un1 < q' * yn0) = true := decide_eq_true ht
          obtain ⟨hn, hq1⟩ := div_step C.out HI.out (.inr (by omega))
          have f4 : IntKind.u64.wrap (q' - 1) = q' - 1 := wu64_in _ (by omega) (by omega)
          have HN := Lib.hid hn
          clear hn hmul
          by_cases hbr : 4294967296 ≤ r' + yn1
          · have t5 : decide (4294967296 ≤ r' + yn1) = true := decide_eq_true hbr
            have HE := Lib.hid (div_end C.out HN.out (.inr hbr))
            go_wp2_with fail
            go_meet
            exact ⟨by rw [HE.out, HQ1.out], ⟨_, rfl⟩, rfl⟩
          · have t5 : decide (4294967296 ≤ r' + yn1) = false := decide_eq_false hbr
            go_wp2_with fail
            go_round
            case rel => exact ⟨q' - 1, r' + yn1, rfl, rfl, HN.out, by omega⟩
            case measure => simp [intOf]; omega
        · have t6 : decide (4294967296 * r' + un1 < q' * yn0) = false := decide_eq_false ht
          have HE := Lib.hid (div_end C.out HI.out (.inl (by omega)))
          clear hmul
          go_wp2_with fail
          go_meet
          exact ⟨by rw [HE.out, HQ1.out], ⟨_, rfl⟩, rfl⟩
  case rest =>
    obtain ⟨rfl, ⟨r', rfl⟩, rfl⟩ := hcut
    have hv2 := S.out.hv2
    rw [← hv2] at hQ1
    obtain ⟨U, K1, hU⟩ : ∃ U, IntKind.u64.wrap (IntKind.u64.wrap (IntKind.u64.wrap (u * 4294967296) + un1) - IntKind.u64.wrap (Q1 * v)) = U ∧ U = u * 4294967296 + un1 - Q1 * v := by
      refine ⟨_, rfl, ?_⟩
      rw [wu64, wu64, wu64, wu64]
      generalize Q1 * v = z at *
      omega
    have HU := Lib.hid hU
    have hU0 : 0 ≤ U ∧ U < v := by rw [hU]; exact ⟨hQ1.1, hQ1.2.1⟩
    obtain ⟨hQa, hQb⟩ := hQ1.2.2
    clear hU hQ1
    have C2 : DivC U un0 yn1 yn0 := ⟨by omega, by omega, by omega, by omega, by omega, by omega, hU0.1, by omega⟩
    have I2 := div_start C2
    have g3 : IntKind.u64.wrap (U / yn1 * yn1) = U / yn1 * yn1 := by
      have := I2.r0
      have := Int.mul_nonneg I2.q0 (show 0 ≤ yn1 by omega)
      exact wu64_in _ this (by omega)
    have g4 : IntKind.u64.wrap (U - U / yn1 * yn1) = U - U / yn1 * yn1 := wu64_in _ I2.r0 (by have := Int.mul_nonneg I2.q0 (show 0 ≤ yn1 by omega); omega)
    have hr2 : U - U / yn1 * yn1 < 4294967296 := by
      have e := Int.mul_ediv_add_emod U yn1
      rw [Int.mul_comm] at e
      have := Int.emod_lt_of_pos U (show 0 < yn1 by omega)
      omega
    have CC := Lib.hid C2
    have II2 := Lib.hid I2
    clear C2 I2
    have hQ0 := div_rest CC.out rfl
    obtain ⟨Q0, HQ0⟩ : ∃ Q0, Hid (Q0 = (U * 4294967296 + un0) / (yn1 * 4294967296 + yn0)) := ⟨_, rfl⟩
    rw [← HQ0.out, ← hv2] at hQ0
    have hU1 := hU0.1
    have hU2 := hU0.2
    have HV2 := Lib.hid hv2
    clear hU0 g1 g2 hr1 hv2 II
    go_upto_block 2 with (fail)
    go_cut [18, 16] (fun q r wx => q = .int .u64 Q0 ∧ (∃ r', r = .int .u64 r') ∧ w = wx)
    case first =>
      go_wp2_with fail
      go_loop [18, 16] (fun q r => ∃ q' r' : Int, q = .int .u64 q' ∧ r = .int .u64 r' ∧ DivI U un0 yn1 yn0 q' r' ∧ r' < 4294967296) (fun q _ => (intOf q).toNat)
      case atStart => exact ⟨_, _, rfl, rfl, II2.out, hr2⟩
      case round =>
        obtain ⟨q', r', rfl, rfl, hI, hr'⟩ := hrel
        have hq2 := div_q_le CC.out hI
        have hqr := hI.r0
        have hqq := hI.q0
        have HI := Lib.hid hI
        clear hI
        have f1 : IntKind.u64.wrap (4294967296 * r') = 4294967296 * r' := wu64_in _ (by omega) (by omega)
        have f2 : IntKind.u64.wrap (4294967296 * r' + un0) = 4294967296 * r' + un0 := wu64_in _ (by omega) (by omega)
        have f3 : IntKind.u64.wrap (r' + yn1) = r' + yn1 := wu64_in _ (by omega) (by omega)
        have hmul : q' < 4294967296 → 0 ≤ q' * yn0 ∧ q' * yn0 < 18446744073709551616 := fun h => by
          have k0 := Int.mul_nonneg hqq hyn0
          have k1 : q' * yn0 ≤ 4294967295 * yn0 := Int.mul_le_mul_of_nonneg_right (by omega) hyn0
          omega
        by_cases hb : 4294967296 ≤ q'
        · have t4 : decide (4294967296 ≤ q') = true := decide_eq_true hb
          have f4 : IntKind.u64.wrap (q' - 1) = q' - 1 := wu64_in _ (by omega) (by omega)
          obtain ⟨hn, hq1⟩ := div_step CC.out HI.out (.inl hb)
          have HN := Lib.hid hn
          clear hn
          by_cases hbr : 4294967296 ≤ r' + yn1
          · have t5 : decide (4294967296 ≤ r' + yn1) = true := decide_eq_true hbr
            have HE := Lib.hid (div_end CC.out HN.out (.inr hbr))
            go_wp2_with fail
            go_meet
            exact ⟨by rw [HE.out, HQ0.out], ⟨_, rfl⟩, rfl⟩
          · have t5 : decide (4294967296 ≤ r' + yn1) = false := decide_eq_false hbr
            go_wp2_with fail
            go_round
            case rel => exact ⟨q' - 1, r' + yn1, rfl, rfl, HN.out, by omega⟩
            case measure => simp [intOf]; omega
        · have t4 : decide (4294967296 ≤ q') = false := decide_eq_false hb
          have f5 : IntKind.u64.wrap (q' * yn0) = q' * yn0 := wu64_in _ (hmul (by omega)).1 (hmul (by omega)).2
          by_cases ht : 4294967296 * r' + un0 < q' * yn0
          · have t6 : decide (4294967296 * r' + un0 < q' * yn0) = true := decide_eq_true ht
            obtain ⟨hn, hq1⟩ := div_step CC.out HI.out (.inr (by omega))
            have f4 : IntKind.u64.wrap (q' - 1) = q' - 1 := wu64_in _ (by omega) (by omega)
            have HN := Lib.hid hn
            clear hn hmul
            by_cases hbr : 4294967296 ≤ r' + yn1
            · have t5 : decide (4294967296 ≤ r' + yn1) = true := decide_eq_true hbr
              have HE := Lib.hid (div_end CC.out HN.out (.inr hbr))
              go_wp2_with fail
              go_meet
              exact ⟨by rw [HE.out, HQ0.out], ⟨_, rfl⟩, rfl⟩
            · have t5 : decide (4294967296 ≤ r' + yn1) = false := decide_eq_false hbr
              go_wp2_with fail
              go_round
              case rel => exact ⟨q' - 1, r' + yn1, rfl, rfl, HN.out, by omega⟩
              case measure => simp [intOf]; omega
          · have t6 : decide (4294967296 * r' + un0 < q' * yn0) = false := decide_eq_false ht
            have HE := Lib.hid (div_end CC.out HI.out (.inl (by omega)))
            clear hmul
            go_wp2_with fail
            go_meet
            exact ⟨by rw [HE.out, HQ0.out], ⟨_, rfl⟩, rfl⟩
    case rest =>
      obtain ⟨rfl, ⟨r2', rfl⟩, rfl⟩ := hcut
      obtain ⟨R, K2, hR⟩ : ∃ R, IntKind.u64.wrap (IntKind.u64.wrap (IntKind.u64.wrap (U * 4294967296) + un0) - IntKind.u64.wrap (Q0 * v)) = R ∧ R = U * 4294967296 + un0 - Q0 * v := by
        refine ⟨_, rfl, ?_⟩
        rw [wu64, wu64, wu64, wu64]
        generalize Q0 * v = z at *
        omega
      have K3 : IntKind.u64.wrap (Q1 * 4294967296) = Q1 * 4294967296 := wu64_in _ (by omega) (by omega)
      have K4 : IntKind.u64.wrap (Q1 * 4294967296 + Q0) = Q1 * 4294967296 + Q0 := wu64_in _ (by omega) (by omega)
      have HF := div_whole (X := hi * 18446744073709551616 + lo) (y := y) (p := 2 ^ s) (v := v) (by omega) (pow_pos2 s) S.out.hv S.out.hX HU.out hR (by omega) (by omega)
      have HFF := Lib.hid HF
      clear hR HF hQ0 K1 g3 g4
      go_wp2_with fail
      go_ret2
      exact ⟨_, _, rfl, HFF.out, 0, rfl⟩
theorem div64_any (hi lo y : Int) (w : World) (h0 : 0 ≤ hi) (h1 : hi < y) (h2 : y < 18446744073709551616) (h3 : 0 ≤ lo) (h4 : lo < 18446744073709551616) :
    Calls Try.prog 39 #[.int .u64 hi, .int .u64 lo, .int .u64 y] w fun e w' => ∃ q r : Int, e = .returned (.tuple #[.int .u64 q, .int .u64 r]) ∧ Hid (q = (hi * 18446744073709551616 + lo) / y ∧ r = (hi * 18446744073709551616 + lo) % y) ∧ ∃ n, w' = w.drewN n := by
  rcases Int.lt_or_le 0 hi with hh | hh
  · exact div64_big hi lo y w hh h1 h2 h3 h4
  · obtain rfl : hi = 0 := by omega
    have t1 : (y == 0) = false := beq_eq_false_iff_ne.2 (by omega)
    have t2 : decide (y ≤ 0) = false := decide_eq_false (by omega)
    have t3 : ((0 : Int) == 0) = true := rfl
    have hy : ¬ (y = 0) := by omega
    have HF : Hid (lo / y = (0 * 18446744073709551616 + lo) / y ∧ lo % y = (0 * 18446744073709551616 + lo) % y) := by
      show _ ∧ _
      rw [Int.zero_mul, Int.zero_add]
      exact ⟨rfl, rfl⟩
    go_enter Try.func39, Try.ntmps39
    go_wp2_with fail
    go_quiet (fail)
    go_wp2_with fail
    go_ret2
    exact ⟨_, _, rfl, HF.out, _, rfl⟩
end
end Go.Proofs.Ytojnooagifhekaa
