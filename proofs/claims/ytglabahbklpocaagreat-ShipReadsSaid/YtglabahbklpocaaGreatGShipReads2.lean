/- What the numbers at the head of bytes are (plain law), and Get's contract. Contract of the reference Put. sample.Name, clock, num; the reference's. -/
import Derived.Test.YtglabahbklpocaaGreatGShipReads1
namespace Go.Proofs.YtglabahbklpocaaGreat
section
open Go.RowKit
set_option maxRecDepth 100000
set_option linter.unusedVariables false
set_option linter.unusedSimpArgs false

/-- The number at the head of some bytes, and how many bytes it has. -/
def getL : Nat → List UInt8 → Option (Int × Nat)
  | 0, _ => none
  | _ + 1, [] => none
  | f + 1, b :: r => if (b.toNat : Int) < 128 then some ((b.toNat : Int), 1) else (getL f r).map fun p => ((b.toNat : Int) - 128 + 128 * p.1, p.2 + 1)
/-- Get's answer: the number, the place behind it, the error. -/
def vget (s : ByteArray) (at' : Int) : Int × Int × Int :=
  if at' < 0 ∨ (s.size : Int) ≤ at' then (0, 0, 10) else
  match getL 10 (s.data.toList.drop at'.toNat) with
  | none => (0, 0, 10)
  | some p => if p.1 < 18446744073709551616 ∧ (p.2 = 1 ∨ 128 ^ (p.2 - 1) ≤ p.1) then (p.1, at' + p.2, 0) else (0, 0, 10)

theorem u8_andNot_128 (x : Int) (h0 : 0 ≤ x) (h1 : x < 256) : bits .andNot .u8 x 128 = x % 128 := by
  have : ∀ k : Fin 256, bits .andNot .u8 (k.val : Int) 128 = (k.val : Int) % 128 := by decide +kernel
  have h := this ⟨x.toNat, by omega⟩
  simpa [show ((x.toNat : Nat) : Int) = x by omega] using h
theorem wrap_u64 (n : Int) : IntKind.u64.wrap n = n % 18446744073709551616 := by simp [IntKind.wrap, IntKind.bits, IntKind.signed]
theorem wraps_u64 (n : Int) (h₀ : 0 ≤ n) (h₁ : n < 2 ^ 64) : IntKind.u64.wrap n = n := by rw [wrap_u64]; omega
theorem bits_or_comm (k : IntKind) (x y : Int) : bits .or k x y = bits .or k y x := by simp only [bits, BitVec.or_comm]
theorem or_shift (x b : Int) (i : Nat) (hi : i ≤ 9) (hx0 : 0 ≤ x) (hx : x < 128 ^ i) (hb0 : 0 ≤ b) (hb : b < 128) :
    bits .or .u64 x (IntKind.u64.wrap (b * 2 ^ (7 * i))) = x + (b * 128 ^ i) % 18446744073709551616 := by
  have e : (2 : Int) ^ (7 * i) = 128 ^ i := by rw [Int.pow_mul]; rfl
  rw [bits_or_comm, wrap_u64, e]
  have hc : i = 0 ∨ i = 1 ∨ i = 2 ∨ i = 3 ∨ i = 4 ∨ i = 5 ∨ i = 6 ∨ i = 7 ∨ i = 8 ∨ i = 9 := by omega
  rcases hc with rfl | rfl | rfl | rfl | rfl | rfl | rfl | rfl | rfl | rfl <;> simp only [Int.reducePow] at hx ⊢ <;>
    first
    | rw [bits_join .u64 64 (by decide) wraps_u64 0 _ x (by omega) (by omega) (by omega) hx0 (by omega) (by omega)]; omega
    | rw [bits_join .u64 64 (by decide) wraps_u64 7 _ x (by omega) (by omega) (by omega) hx0 (by omega) (by omega)]; omega
    | rw [bits_join .u64 64 (by decide) wraps_u64 14 _ x (by omega) (by omega) (by omega) hx0 (by omega) (by omega)]; omega
    | rw [bits_join .u64 64 (by decide) wraps_u64 21 _ x (by omega) (by omega) (by omega) hx0 (by omega) (by omega)]; omega
    | rw [bits_join .u64 64 (by decide) wraps_u64 28 _ x (by omega) (by omega) (by omega) hx0 (by omega) (by omega)]; omega
    | rw [bits_join .u64 64 (by decide) wraps_u64 35 _ x (by omega) (by omega) (by omega) hx0 (by omega) (by omega)]; omega
    | rw [bits_join .u64 64 (by decide) wraps_u64 42 _ x (by omega) (by omega) (by omega) hx0 (by omega) (by omega)]; omega
    | rw [bits_join .u64 64 (by decide) wraps_u64 49 _ x (by omega) (by omega) (by omega) hx0 (by omega) (by omega)]; omega
    | rw [bits_join .u64 64 (by decide) wraps_u64 56 _ x (by omega) (by omega) (by omega) hx0 (by omega) (by omega)]; omega
    | rw [bits_join .u64 64 (by decide) wraps_u64 63 _ x (by omega) (by omega) (by omega) hx0 (by omega) (by omega)]; omega

theorem getL_cons (f : Nat) (b : UInt8) (r : List UInt8) : getL (f + 1) (b :: r) = if (b.toNat : Int) < 128 then some ((b.toNat : Int), 1) else (getL f r).map fun p => ((b.toNat : Int) - 128 + 128 * p.1, p.2 + 1) := rfl
theorem lt_step {x q q' p : Int} (hx : x < p) (hq : q ≤ 127 * p) (hm : q' ≤ q) : x + q' < 128 * p := by omega
theorem emod_nn (x : Int) : 0 ≤ x % 18446744073709551616 := Int.emod_nonneg _ (by decide)
theorem emod_le_self (x : Int) (h : 0 ≤ x) : x % 18446744073709551616 ≤ x := by omega
theorem drop_cons (s : ByteArray) (k : Nat) (h : k < s.size) : s.data.toList.drop k = s[k] :: s.data.toList.drop (k + 1) := by
  rw [List.drop_eq_getElem_cons (by simpa using h)]; rfl
def getRel (s : ByteArray) (a i : Nat) (x : Int) : Prop :=
  0 ≤ x ∧ (i ≤ 9 → x < 128 ^ i) ∧ getL 10 (s.data.toList.drop a) = (getL (10 - i) (s.data.toList.drop (a + i))).map fun p => (x + 128 ^ i * p.1, p.2 + i)
theorem getRel_zero (s : ByteArray) (a : Nat) : getRel s a 0 0 := ⟨by omega, fun _ => by simp, by
  cases h : getL 10 (s.data.toList.drop a) <;> simp [h]⟩
theorem getRel_more {s : ByteArray} {a i : Nat} {x b : Int} (h : getRel s a i x) (hi : i ≤ 9) (hlt : a + i < s.size) (hb : ((s[a + i].toNat : Nat) : Int) = b) (h128 : 128 ≤ b) :
    getRel s a (i + 1) (x + (b % 128 * 128 ^ i) % 18446744073709551616) := by
  obtain ⟨h0, h1, h2⟩ := h
  have hb2 : b < 256 := by have := s[a + i].toNat_lt; omega
  refine ⟨Int.add_nonneg h0 (emod_nn _), fun hi' => ?_, ?_⟩
  · have hx := h1 hi
    have hp : (0 : Int) < 128 ^ i := Int.pow_pos (by decide)
    have e : (128 : Int) ^ (i + 1) = 128 * 128 ^ i := by rw [Int.pow_succ]; omega
    have hle : b % 128 * 128 ^ i ≤ 127 * 128 ^ i := Int.mul_le_mul_of_nonneg_right (by omega) (by omega)
    have hn : 0 ≤ b % 128 * 128 ^ i := Int.mul_nonneg (by omega) (by omega)
    have hm := emod_le_self _ hn
    rw [e]
    exact lt_step hx hle hm
  · rw [h2, drop_cons s (a + i) hlt, show 10 - i = (10 - (i + 1)) + 1 by omega, getL_cons, if_neg (by omega), hb]
    rcases Nat.lt_or_ge i 9 with h9 | h9
    · have hc : i = 0 ∨ i = 1 ∨ i = 2 ∨ i = 3 ∨ i = 4 ∨ i = 5 ∨ i = 6 ∨ i = 7 ∨ i = 8 := by omega
      have em : (b % 128 * 128 ^ i) % 18446744073709551616 = (b - 128) * 128 ^ i := by
        rcases hc with rfl | rfl | rfl | rfl | rfl | rfl | rfl | rfl | rfl <;> simp only [Int.reducePow] <;> omega
      rw [em, Option.map_map]
      congr 1
      funext p
      simp only [Function.comp, Prod.mk.injEq]
      refine ⟨?_, by omega⟩
      rw [Int.pow_succ, Int.mul_add, Int.mul_assoc, Int.mul_comm (b - 128)]
      omega
    · have e0 : 10 - (i + 1) = 0 := by omega
      have g0 : ∀ l, getL (10 - (i + 1)) l = none := fun l => by rw [e0]; rfl
      rw [g0, g0, Option.map_none, Option.map_none, Option.map_none]
theorem getRel_last {s : ByteArray} {a i : Nat} {x b : Int} (h : getRel s a i x) (hi : i ≤ 9) (hlt : a + i < s.size) (hb : ((s[a + i].toNat : Nat) : Int) = b) (h128 : b < 128) :
    getL 10 (s.data.toList.drop a) = some (x + 128 ^ i * b, 1 + i) := by
  rw [h.2.2, drop_cons s (a + i) hlt, show 10 - i = (10 - (i + 1)) + 1 by omega, getL_cons, if_pos (by omega), hb]
  rfl
theorem vget_fail {s : ByteArray} {a : Nat} (h : getL 10 (s.data.toList.drop a) = none) : vget s a = (0, 0, 10) := by
  unfold vget
  split
  · rfl
  · simp [h]
theorem getRel_end {s : ByteArray} {a i : Nat} {x : Int} (h : getRel s a i x) (he : s.size ≤ a + i ∨ i = 10) : vget s a = (0, 0, 10) := by
  apply vget_fail
  rw [h.2.2]
  have g0 : getL (10 - i) (s.data.toList.drop (a + i)) = none := by
    rcases he with he | he
    · rw [List.drop_of_length_le (by simpa using he)]
      cases 10 - i <;> rfl
    · rw [show 10 - i = 0 by omega]; rfl
  rw [g0, Option.map_none]
theorem vget_out {s : ByteArray} {a : Int} (h : a < 0 ∨ (s.size : Int) ≤ a) : vget s a = (0, 0, 10) := by
  unfold vget; rw [if_pos h]
/-- The last byte: what is refused. -/
theorem vget_bad {s : ByteArray} {a i : Nat} {x b : Int} (h : getRel s a i x) (hi : i ≤ 9) (hlt : a + i < s.size) (hb : ((s[a + i].toNat : Nat) : Int) = b) (h128 : b < 128)
    (hz : (1 ≤ i ∧ b = 0) ∨ (i = 9 ∧ 1 < b)) : vget s a = (0, 0, 10) := by
  unfold vget
  rw [if_neg (by omega)]
  simp only [Int.toNat_natCast, getRel_last h hi hlt hb h128]
  rw [if_neg]
  have hx := h.2.1 hi
  rcases hz with ⟨h1, rfl⟩ | ⟨rfl, h2⟩
  · rintro ⟨_, h3⟩
    rw [show 1 + i - 1 = i by omega] at h3
    omega
  · simp only [Int.reducePow] at hx ⊢
    rintro ⟨h3, _⟩
    have := h.1
    omega
theorem vget_good {s : ByteArray} {a i : Nat} {x b : Int} (h : getRel s a i x) (hi : i ≤ 9) (hlt : a + i < s.size) (hb : ((s[a + i].toNat : Nat) : Int) = b) (h128 : b < 128)
    (hz : ¬ ((1 ≤ i ∧ b = 0) ∨ (i = 9 ∧ 1 < b))) : vget s a = (x + (b % 128 * 128 ^ i) % 18446744073709551616, (a : Int) + (i + 1), 0) := by
  have hx := h.2.1 hi
  have h0 := h.1
  have hb0 : 0 ≤ b := by omega
  unfold vget
  rw [if_neg (by omega)]
  simp only [Int.toNat_natCast, getRel_last h hi hlt hb h128]
  have hc : i = 0 ∨ i = 1 ∨ i = 2 ∨ i = 3 ∨ i = 4 ∨ i = 5 ∨ i = 6 ∨ i = 7 ∨ i = 8 ∨ i = 9 := by omega
  rcases hc with rfl | rfl | rfl | rfl | rfl | rfl | rfl | rfl | rfl | rfl <;> simp only [Int.reducePow] at hx ⊢ <;>
    (rw [if_pos (by simp only [Nat.reduceAdd, Nat.reduceSub, Int.reducePow, true_or, and_true]; omega)]; simp only [Prod.mk.injEq]; refine ⟨by omega, by omega, trivial⟩)

/-- Three numbers as Get hands them back. -/
def get3 (r : Int × Int × Int) : Value := .tuple #[.int .u64 r.1, .int .i64 r.2.1, .int .i64 r.2.2]
theorem ret_get3 {r r' : Int × Int × Int} (h : r' = r) : Ending.returned (.tuple #[.int .u64 r.1, .int .i64 r.2.1, .int .i64 r.2.2]) = .returned (get3 r') := by rw [h]; rfl
theorem get_out (s : ByteArray) (at' : Int) (w : World) (hs : s.size ≤ 9223372036854775807) (h : at' < 0 ∨ (s.size : Int) ≤ at') :
    Calls Tryz.prog 132 #[.string s, .int .i64 at'] w fun e w' => e = .returned (get3 (vget s at')) ∧ w = w' := by
  have HV := Lib.hid (vget_out h)
  by_cases hb : at' < 0
  · have hb' : decide (at' < 0) = true := decide_eq_true hb
    clear h
    go_enter Tryz.func132, Tryz.ntmps132
    go_wp2
    go_step3
    go_wp2
    rw [Exit.noGoto_ret]
    go_ret3
    exact ⟨ret_get3 HV.out, rfl⟩
  · have hb' : decide (at' < 0) = false := decide_eq_false hb
    have hb2' : decide ((s.size : Int) ≤ at') = true := decide_eq_true (by omega)
    clear h
    go_enter Tryz.func132, Tryz.ntmps132
    go_wp2
    go_step3
    go_wp2
    rw [Exit.noGoto_ret]
    go_ret3
    exact ⟨ret_get3 HV.out, rfl⟩
set_option maxHeartbeats 1000000 in
set_option maxRecDepth 100000 in
theorem get_in (s : ByteArray) (a : Nat) (w : World) (hs : s.size ≤ 9223372036854775807) (h1 : a < s.size) :
    Calls Tryz.prog 132 #[.string s, .int .i64 (a : Int)] w fun e w' => e = .returned (get3 (vget s a)) ∧ w = w' := by
  have hb' : decide ((a : Int) < 0) = false := decide_eq_false (by omega)
  have hb2' : decide (s.size ≤ a) = false := decide_eq_false (by omega)
  go_enter Tryz.func132, Tryz.ntmps132
  go_wp2
  go_step3
  go_wp2
  go_step3
  go_wp2
  go_loop [7, 8] (fun v k => ∃ (x : Int) (i : Nat), i ≤ 10 ∧ a + i ≤ s.size ∧ v = .int .u64 x ∧ k = .int .i64 i ∧ getRel s a i x) (fun _ k => 10 - (intOf k).toNat)
  case atStart => exact ⟨0, 0, by omega, by omega, rfl, rfl, getRel_zero s a⟩
  case round =>
    obtain ⟨x, i, hi, hat, rfl, rfl, hr⟩ := hrel
    have HR := Lib.hid hr
    clear hr
    by_cases h10 : i = 10
    · subst h10
      go_wp2
      first | rw [Exit.noGoto_ret] | skip
      go_ret3
      exact ⟨ret_get3 (getRel_end HR.out (.inr rfl)), rfl⟩
    · have h10' : ((i : Int) == 10) = false := by simpa using (by omega : ¬ (i : Int) = 10)
      by_cases hend : s.size ≤ a + i
      · have hend' : decide ((s.size : Int) ≤ a + i) = true := decide_eq_true (by omega)
        go_wp2
        first | rw [Exit.noGoto_ret] | skip
        go_ret3
        exact ⟨ret_get3 (getRel_end HR.out (.inl hend)), rfl⟩
      · have hend' : decide ((s.size : Int) ≤ a + i) = false := decide_eq_false (by omega)
        have hlt : a + i < s.size := by omega
        obtain ⟨b, hb⟩ : ∃ b : Int, ((s[a + i].toNat : Nat) : Int) = b := ⟨_, rfl⟩
        have hb0 : 0 ≤ b := by omega
        have hb1 : b < 256 := by have := s[a + i].toNat_lt; omega
        have HB := Lib.hid hb
        have f1 := u8_andNot_128 b hb0 hb1
        have f2 := wraps_u64 (b % 128) (by omega) (by omega)
        have f3 := or_shift x (b % 128) i (by omega) HR.out.1 (HR.out.2.1 (by omega)) (by omega) (by omega)
        have F := Lib.hid (And.intro f1 (And.intro f2 f3))
        by_cases h128 : b < 128
        · have t1 : decide (b < 128) = true := decide_eq_true h128
          by_cases hz : (1 ≤ i ∧ b = 0) ∨ (i = 9 ∧ 1 < b)
          · have HV := Lib.hid (vget_bad HR.out (by omega) hlt hb h128 hz)
            rcases hz with ⟨hz1, hz2⟩ | ⟨hz1, hz2⟩
            · have t2 : (b == 0) = true := by simpa using hz2
              have t3 : decide (1 < (i : Int) + 1) = true := decide_eq_true (by omega)
              clear hz2
              go_wp2
              first | rw [Exit.noGoto_ret] | skip
              go_ret3
              exact ⟨ret_get3 HV.out, rfl⟩
            · subst hz1
              have t2 : (b == 0) = false := by simpa using (by omega : ¬ b = 0)
              have t3 : decide (1 < b) = true := decide_eq_true (by omega)
              go_wp2
              first | rw [Exit.noGoto_ret] | skip
              go_ret3
              exact ⟨ret_get3 HV.out, rfl⟩
          · have HV := Lib.hid (vget_good HR.out (by omega) hlt hb h128 hz)
            by_cases hi0 : i = 0
            · have t3 : decide (1 < (i : Int) + 1) = false := decide_eq_false (by omega)
              have t4 : ((i : Int) + 1 == 10) = false := by simpa using (by omega : ¬ (i : Int) + 1 = 10)
              clear hi0
              go_wp2
              first | rw [Exit.noGoto_ret] | skip
              go_ret3
              exact ⟨ret_get3 HV.out, rfl⟩
            · have t2 : (b == 0) = false := by simpa using (by omega : ¬ b = 0)
              have t3 : decide (1 < (i : Int) + 1) = true := decide_eq_true (by omega)
              by_cases h9 : i = 9
              · have t4 : decide (1 < b) = false := decide_eq_false (by omega)
                have t5 : ((i : Int) + 1 == 10) = true := by simpa using (by omega : (i : Int) + 1 = 10)
                clear h9
                go_wp2
                first | rw [Exit.noGoto_ret] | skip
                go_ret3
                exact ⟨ret_get3 HV.out, rfl⟩
              · have t4 : ((i : Int) + 1 == 10) = false := by simpa using (by omega : ¬ (i : Int) + 1 = 10)
                go_wp2
                first | rw [Exit.noGoto_ret] | skip
                go_ret3
                exact ⟨ret_get3 HV.out, rfl⟩
        · have t1 : decide (b < 128) = false := decide_eq_false h128
          have HM := Lib.hid (getRel_more HR.out (by omega) hlt hb (by omega))
          go_wp2
          go_round
          case rel => exact ⟨_, i + 1, by omega, by omega, rfl, by go_num, HM.out⟩
          case measure => simp [intOf]; omega
theorem get_any (s : ByteArray) (at' : Int) (w : World) (hs : s.size ≤ 9223372036854775807) :
    Calls Tryz.prog 132 #[.string s, .int .i64 at'] w fun e w' => e = .returned (get3 (vget s at')) ∧ w = w' := by
  by_cases h : at' < 0 ∨ (s.size : Int) ≤ at'
  · exact get_out s at' w hs h
  · obtain ⟨a, rfl⟩ := Int.eq_ofNat_of_zero_le (show 0 ≤ at' by omega)
    exact get_in s a w hs (by omega)
end
end Go.Proofs.YtglabahbklpocaaGreat
namespace Go.Proofs.YtglabahbklpocaaGreat
section
open Go.RowKit
set_option maxRecDepth 100000
set_option linter.unusedVariables false
set_option linter.unusedSimpArgs false
set_option maxHeartbeats 400000 in
theorem rput_any (n : Int) (w : World) (h0 : 0 ≤ n) (h1 : n < 18446744073709551616) :
    Calls Tryz.prog 55 #[.int .u64 n] w fun e w' => e = .returned (.string (vput n)) ∧ Below w.heap.size w w' := by
  go_enter Tryz.func55, Tryz.ntmps55
  go_wp2
  go_loopw [0, 3] (fun n' k wr => ∃ (m : Int) (f : Nat) (l : List Int), 0 ≤ m ∧ m < 18446744073709551616 ∧ m < 128 ^ f * 2 ∧ l.length + f ≤ 9 ∧ n' = .int .u64 m ∧ k = .string (strOfNums l) ∧ Below w.heap.size w wr ∧ l ++ putI f m = putI 9 n) (fun n _ _ => (intOf n).toNat)
  case atStart => exact ⟨n, 9, [], h0, h1, by simpa using h1, by simp, rfl, rfl, Below.refl _ _, rfl⟩
  case round =>
    obtain ⟨m, f, l, hm0, hm1, hm2, hlf, rfl, rfl, hb, hp⟩ := hrel
    have HP := Lib.hid hp
    clear hp
    have hcv := conv_one (P := Tryz.prog) Tryz.underlying130 Tryz.underlying5 Tryz.underlying9
    have hz1 : (strOfNums l).size ≤ 9 := by rw [strOfNums_size]; omega
    have hz2 : ∀ x : Int, (strOfNums [x]).size ≤ 1 := fun x => by rw [strOfNums_size]; simp
    have hz3 := hz2 m
    have hz4 := hz2 (m % 128 + 128)
    clear hz2
    by_cases hlt : m < 128
    · go_wp2
      go_ret
      refine ⟨ret_str ?_, hb.alloc hb.size _⟩
      rw [← strOfNums_append]
      unfold vput
      rw [← HP.out]
      cases f with
      | zero => rfl
      | succ f => simp [putI, hlt]
    · have hx : (m % 128 + 128) % 256 = m % 128 + 128 := by omega
      go_wp2
      go_roundw
      case rel => 
        cases f with
        | zero => simp at hm2; omega
        | succ f =>
          refine ⟨m / 128, f, l ++ [m % 128 + 128], by omega, by omega, ?_, by simp; omega, rfl, by rw [strOfNums_append], hb.alloc hb.size _, ?_⟩
          · rw [Int.pow_succ] at hm2
            exact Int.ediv_lt_of_lt_mul (by omega) (by omega)
          · rw [← HP.out]
            simp [putI, hlt]
      case measure => simp [intOf]; omega
end
end Go.Proofs.YtglabahbklpocaaGreat
namespace Go.Proofs.YtglabahbklpocaaGreat
section
open Go.RowKit
set_option maxRecDepth 100000
set_option linter.unusedVariables false
set_option linter.unusedSimpArgs false
theorem tl_nil (s : ByteArray) (h : s.size = 0) : s.toList = [] := by
  rw [ByteArray.toList_eq]
  exact List.eq_nil_of_length_eq_zero (by simpa using h)
theorem tl_some (s : ByteArray) (h : 0 < s.size) : ¬ s.toList = [] ∧ (!s.toList.isEmpty) = true ∧ s.toList.isEmpty = false := by
  have h1 : ¬ s.toList = [] := by
    rw [ByteArray.toList_eq]
    intro e
    have h2 : s.data.toList.length = s.size := by simp
    rw [e] at h2
    simp at h2
    omega
  refine ⟨h1, ?_, ?_⟩ <;> simp [h1]
def okC (c : Int) : Prop := (97 ≤ c ∧ c ≤ 122) ∨ (48 ≤ c ∧ c ≤ 57) ∨ c = 95 ∨ c = 46
/-- The byte at a place, 0 behind the end. -/
def bAt (s : ByteArray) (i : Nat) : Int := if h : i < s.size then ((s[i]'h).toNat : Int) else 0
theorem bAt_eq (s : ByteArray) (i : Nat) (h : i < s.size) : ((s[i]'h).toNat : Int) = bAt s i := by unfold bAt; rw [dif_pos h]
def nameP (s : ByteArray) : Prop := 1 ≤ s.size ∧ s.size ≤ 40 ∧ (97 ≤ bAt s 0 ∧ bAt s 0 ≤ 122) ∧ ∀ i, i < s.size → okC (bAt s i)
open Classical in
noncomputable def nameV (s : ByteArray) : Bool := decide (nameP s)
theorem nameV_true {s : ByteArray} (h : nameP s) : nameV s = true := by unfold nameV; simp [h]
theorem nameV_false {s : ByteArray} (h : ¬ nameP s) : nameV s = false := by unfold nameV; simp [h]
def clockV (t : Int) : Bool := decide (0 ≤ t) && decide (t ≤ 1099511627776)
theorem clock_any (t : Int) (w : World) : Calls Tryz.prog 119 #[.int .i64 t] w fun e w' => e = .returned (.bool (clockV t)) ∧ w = w' := by
  obtain ⟨V, HV⟩ : ∃ V, Hid (V = clockV t) := ⟨_, rfl⟩
  rw [← HV.out]
  unfold clockV at HV
  go_enter Tryz.func119, Tryz.ntmps119
  go_wp2
  all_goals (go_ret; exact ⟨by rw [HV.out]; (try simp [*]); (try omega), rfl⟩)
theorem rclock_any (t : Int) (w : World) : Calls Tryz.prog 123 #[.int .i64 t] w fun e w' => e = .returned (.bool (clockV t)) ∧ w = w' := by
  obtain ⟨V, HV⟩ : ∃ V, Hid (V = clockV t) := ⟨_, rfl⟩
  rw [← HV.out]
  unfold clockV at HV
  go_enter Tryz.func123, Tryz.ntmps123
  go_wp2
  all_goals (go_ret; exact ⟨by rw [HV.out]; (try simp [*]); (try omega), rfl⟩)
theorem num_any (n : Int) (w : World) (h0 : 0 ≤ n) (h1 : n ≤ 9223372036854775807) : Calls Tryz.prog 102 #[.int .i64 n] w fun e w' => e = .returned (.string (vput n)) ∧ Below w.heap.size w w' := by
  have h2 : n < 18446744073709551616 := by omega
  go_enter Tryz.func102, Tryz.ntmps102
  go_wp2_with fail
  refine (put_any n _ h0 h2).mono ?_
  rintro e w1 ⟨rfl, d⟩
  go_wp2_with fail
  go_ret
  exact ⟨rfl, d⟩
set_option maxHeartbeats 4000000 in
theorem name_any (s : ByteArray) (w : World) (hs : s.size ≤ 9223372036854775807) : Calls Tryz.prog 64 #[.string s] w fun e w' => e = .returned (.bool (nameV s)) ∧ w = w' := by
  obtain ⟨V, HV⟩ : ∃ V, Hid (V = nameV s) := ⟨_, rfl⟩
  rw [← HV.out]
  by_cases h0 : s.size = 0
  · have HV := Lib.hid (HV.out.trans (nameV_false (fun h => by have := h.1; omega)))
    have f1 := tl_nil s h0
    have f2 : (s.toList.isEmpty) = true := by rw [f1]; rfl
    clear h0
    go_enter Tryz.func64, Tryz.ntmps64
    go_wp2_with fail
    go_ret
    exact ⟨by rw [HV.out]; rfl, rfl⟩
  · obtain ⟨f1, f2, f3⟩ := tl_some s (by omega)
    have hp : 0 < s.size := by omega
    have e0 := bAt_eq s 0 hp
    by_cases h40 : 40 < s.size
    · have HV := Lib.hid (HV.out.trans (nameV_false (fun h => by have := h.2.1; omega)))
      have t1 : decide (40 < s.size) = true := decide_eq_true h40
      have t2 : decide ((40 : Int) < (s.size : Int)) = true := decide_eq_true (by omega)
      clear h0 h40 e0
      go_enter Tryz.func64, Tryz.ntmps64
      go_wp2_with fail
      go_ret
      exact ⟨by rw [HV.out]; rfl, rfl⟩
    · have t1 : decide (40 < s.size) = false := decide_eq_false h40
      have t2 : decide ((40 : Int) < (s.size : Int)) = false := decide_eq_false (by omega)
      by_cases hf : 97 ≤ bAt s 0 ∧ bAt s 0 ≤ 122
      · rw [← e0] at hf
        have t3 : decide (((s[0]'hp).toNat : Int) < 97) = false := decide_eq_false (by omega)
        have t4 : decide ((122 : Int) < ((s[0]'hp).toNat : Int)) = false := decide_eq_false (by omega)
        have HF : Hid (97 ≤ bAt s 0 ∧ bAt s 0 ≤ 122) := by rw [e0] at hf; exact hf
        have hle : s.size ≤ 40 := by omega
        clear hf e0 h0 h40
        go_enter Tryz.func64, Tryz.ntmps64
        go_wp2_with fail
        go_loop [24, 3, 4] (fun i i3 c => ∃ k : Nat, k ≤ s.size ∧ i = .int .i64 k ∧ ∀ j, j < k → okC (bAt s j)) (fun i _ _ => 41 - (intOf i).toNat)
        case atStart => exact ⟨0, by omega, rfl, fun j hj => by omega⟩
        case round =>
          obtain ⟨k, hk, rfl, hall⟩ := hrel
          have HALL := Lib.hid hall
          clear hall
          by_cases hlt : k < s.size
          · have u1 : decide (k < s.size) = true := decide_eq_true hlt
            have u2 : decide ((k : Int) < (s.size : Int)) = true := decide_eq_true (by omega)
            have e1 := bAt_eq s k hlt
            have E1 := Lib.hid e1
            by_cases hc : okC (bAt s k)
            · have HC : Hid ((97 ≤ ((s[k]'hlt).toNat : Int) ∧ ((s[k]'hlt).toNat : Int) ≤ 122) ∨ (48 ≤ ((s[k]'hlt).toNat : Int) ∧ ((s[k]'hlt).toNat : Int) ≤ 57) ∨ ((s[k]'hlt).toNat : Int) = 95 ∨ ((s[k]'hlt).toNat : Int) = 46) := by rw [e1]; exact hc
              have HN : Hid (∀ j, j < k + 1 → okC (bAt s j)) := fun j hj => by
                by_cases h : j = k
                · rw [h]; exact hc
                · exact HALL.out j (by omega)
              clear hc e1
              go_wp2
              all_goals first
                | (exfalso; have := HC.out; (try simp only [bne_eq_false_iff_eq, bne_iff_ne, beq_iff_eq, beq_eq_false_iff_ne, ne_eq, Bool.not_eq_eq_eq_not, Bool.not_false, Bool.not_true, decide_eq_true_eq, decide_eq_false_iff_not] at *); omega)
                | (go_round; (case rel => exact ⟨k + 1, by omega, by go_num, HN.out⟩); (case measure => (simp [intOf]; omega)))
            · have HC : Hid (¬ ((97 ≤ ((s[k]'hlt).toNat : Int) ∧ ((s[k]'hlt).toNat : Int) ≤ 122) ∨ (48 ≤ ((s[k]'hlt).toNat : Int) ∧ ((s[k]'hlt).toNat : Int) ≤ 57) ∨ ((s[k]'hlt).toNat : Int) = 95 ∨ ((s[k]'hlt).toNat : Int) = 46)) := by rw [e1]; exact hc
              have HV := Lib.hid (HV.out.trans (nameV_false (fun h => hc (h.2.2.2 k hlt))))
              clear hc e1
              go_wp2
              all_goals first
                | (exfalso; have := HC.out; (try simp only [bne_eq_false_iff_eq, bne_iff_ne, beq_iff_eq, beq_eq_false_iff_ne, ne_eq, Bool.not_eq_eq_eq_not, Bool.not_false, Bool.not_true, decide_eq_true_eq, decide_eq_false_iff_not] at *); omega)
                | (go_ret; exact ⟨by rw [HV.out]; rfl, rfl⟩)
          · have u1 : decide (k < s.size) = false := decide_eq_false hlt
            have u2 : decide ((k : Int) < (s.size : Int)) = false := decide_eq_false (by omega)
            obtain rfl : k = s.size := by omega
            have HV := Lib.hid (HV.out.trans (nameV_true ⟨by omega, by omega, HF.out, HALL.out⟩))
            go_wp2_with fail
            go_ret
            exact ⟨by rw [HV.out]; rfl, rfl⟩
      · have HV := Lib.hid (HV.out.trans (nameV_false (fun h => hf h.2.2.1)))
        rw [← e0] at hf
        have HC := Lib.hid hf
        clear hf e0 h0 h40
        go_enter Tryz.func64, Tryz.ntmps64
        go_wp2
        all_goals first
          | (exfalso; have := HC.out; (try simp only [bne_eq_false_iff_eq, bne_iff_ne, beq_iff_eq, beq_eq_false_iff_ne, ne_eq, Bool.not_eq_eq_eq_not, Bool.not_false, Bool.not_true, decide_eq_true_eq, decide_eq_false_iff_not] at *); omega)
          | (go_ret; exact ⟨by rw [HV.out]; rfl, rfl⟩)
set_option maxHeartbeats 4000000 in
theorem rname_any (s : ByteArray) (w : World) (hs : s.size ≤ 9223372036854775807) : Calls Tryz.prog 72 #[.string s] w fun e w' => e = .returned (.bool (nameV s)) ∧ w = w' := by
  obtain ⟨V, HV⟩ : ∃ V, Hid (V = nameV s) := ⟨_, rfl⟩
  rw [← HV.out]
  by_cases h0 : s.size = 0
  · have HV := Lib.hid (HV.out.trans (nameV_false (fun h => by have := h.1; omega)))
    have f1 : decide (s.size < 1) = true := decide_eq_true (by omega)
    have f2 : decide ((s.size : Int) < 1) = true := decide_eq_true (by omega)
    clear h0
    go_enter Tryz.func72, Tryz.ntmps72
    go_wp2_with fail
    go_ret
    exact ⟨by rw [HV.out]; rfl, rfl⟩
  · have f1 : decide (s.size < 1) = false := decide_eq_false (by omega)
    have f2 : decide ((s.size : Int) < 1) = false := decide_eq_false (by omega)
    have hp : 0 < s.size := by omega
    have e0 := bAt_eq s 0 hp
    by_cases h40 : 40 < s.size
    · have HV := Lib.hid (HV.out.trans (nameV_false (fun h => by have := h.2.1; omega)))
      have t1 : decide (40 < s.size) = true := decide_eq_true h40
      have t2 : decide ((40 : Int) < (s.size : Int)) = true := decide_eq_true (by omega)
      clear h0 h40 e0
      go_enter Tryz.func72, Tryz.ntmps72
      go_wp2_with fail
      go_ret
      exact ⟨by rw [HV.out]; rfl, rfl⟩
    · have t1 : decide (40 < s.size) = false := decide_eq_false h40
      have t2 : decide ((40 : Int) < (s.size : Int)) = false := decide_eq_false (by omega)
      by_cases hf : 97 ≤ bAt s 0 ∧ bAt s 0 ≤ 122
      · rw [← e0] at hf
        have t3 : decide (((s[0]'hp).toNat : Int) < 97) = false := decide_eq_false (by omega)
        have t4 : decide ((122 : Int) < ((s[0]'hp).toNat : Int)) = false := decide_eq_false (by omega)
        have HF : Hid (97 ≤ bAt s 0 ∧ bAt s 0 ≤ 122) := by rw [e0] at hf; exact hf
        have hle : s.size ≤ 40 := by omega
        clear hf e0 h0 h40
        go_enter Tryz.func72, Tryz.ntmps72
        go_wp2_with fail
        go_loop [3, 4] (fun i c => ∃ k : Nat, k ≤ s.size ∧ i = .int .i64 k ∧ ∀ j, j < k → okC (bAt s j)) (fun i _ => 41 - (intOf i).toNat)
        case atStart => exact ⟨0, by omega, rfl, fun j hj => by omega⟩
        case round =>
          obtain ⟨k, hk, rfl, hall⟩ := hrel
          have HALL := Lib.hid hall
          clear hall
          by_cases hlt : k < s.size
          · have u1 : decide (k < s.size) = true := decide_eq_true hlt
            have u2 : decide ((k : Int) < (s.size : Int)) = true := decide_eq_true (by omega)
            have e1 := bAt_eq s k hlt
            have E1 := Lib.hid e1
            by_cases hc : okC (bAt s k)
            · have HC : Hid ((97 ≤ ((s[k]'hlt).toNat : Int) ∧ ((s[k]'hlt).toNat : Int) ≤ 122) ∨ (48 ≤ ((s[k]'hlt).toNat : Int) ∧ ((s[k]'hlt).toNat : Int) ≤ 57) ∨ ((s[k]'hlt).toNat : Int) = 95 ∨ ((s[k]'hlt).toNat : Int) = 46) := by rw [e1]; exact hc
              have HN : Hid (∀ j, j < k + 1 → okC (bAt s j)) := fun j hj => by
                by_cases h : j = k
                · rw [h]; exact hc
                · exact HALL.out j (by omega)
              clear hc e1
              go_wp2
              all_goals first
                | (exfalso; have := HC.out; (try simp only [bne_eq_false_iff_eq, bne_iff_ne, beq_iff_eq, beq_eq_false_iff_ne, ne_eq, Bool.not_eq_eq_eq_not, Bool.not_false, Bool.not_true, decide_eq_true_eq, decide_eq_false_iff_not] at *); omega)
                | (go_round; (case rel => exact ⟨k + 1, by omega, by go_num, HN.out⟩); (case measure => (simp [intOf]; omega)))
            · have HC : Hid (¬ ((97 ≤ ((s[k]'hlt).toNat : Int) ∧ ((s[k]'hlt).toNat : Int) ≤ 122) ∨ (48 ≤ ((s[k]'hlt).toNat : Int) ∧ ((s[k]'hlt).toNat : Int) ≤ 57) ∨ ((s[k]'hlt).toNat : Int) = 95 ∨ ((s[k]'hlt).toNat : Int) = 46)) := by rw [e1]; exact hc
              have HV := Lib.hid (HV.out.trans (nameV_false (fun h => hc (h.2.2.2 k hlt))))
              clear hc e1
              go_wp2
              all_goals first
                | (exfalso; have := HC.out; (try simp only [bne_eq_false_iff_eq, bne_iff_ne, beq_iff_eq, beq_eq_false_iff_ne, ne_eq, Bool.not_eq_eq_eq_not, Bool.not_false, Bool.not_true, decide_eq_true_eq, decide_eq_false_iff_not] at *); omega)
                | (go_ret; exact ⟨by rw [HV.out]; rfl, rfl⟩)
          · have u1 : decide (k < s.size) = false := decide_eq_false hlt
            have u2 : decide ((k : Int) < (s.size : Int)) = false := decide_eq_false (by omega)
            obtain rfl : k = s.size := by omega
            have HV := Lib.hid (HV.out.trans (nameV_true ⟨by omega, by omega, HF.out, HALL.out⟩))
            go_wp2_with fail
            go_ret
            exact ⟨by rw [HV.out]; rfl, rfl⟩
      · have HV := Lib.hid (HV.out.trans (nameV_false (fun h => hf h.2.2.1)))
        rw [← e0] at hf
        have HC := Lib.hid hf
        clear hf e0 h0 h40
        go_enter Tryz.func72, Tryz.ntmps72
        go_wp2
        all_goals first
          | (exfalso; have := HC.out; (try simp only [bne_eq_false_iff_eq, bne_iff_ne, beq_iff_eq, beq_eq_false_iff_ne, ne_eq, Bool.not_eq_eq_eq_not, Bool.not_false, Bool.not_true, decide_eq_true_eq, decide_eq_false_iff_not] at *); omega)
          | (go_ret; exact ⟨by rw [HV.out]; rfl, rfl⟩)
end
end Go.Proofs.YtglabahbklpocaaGreat
