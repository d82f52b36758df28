/- Plain law: decimal digits. wide.Text: a number as digits. -/
import Derived.Test.YtojnooagifhekaaGAggParts1
import Derived.Test.YtojnooagifhekaaGAggParts3
import Derived.Test.YtojnooagifhekaaGAggParts13
namespace Go.Proofs.Ytojnooagifhekaa
section
set_option maxRecDepth 100000
set_option linter.unusedVariables false
set_option linter.unusedSimpArgs false
/-- The k last digits, as bytes. -/
def lowD : Nat → Int → List Int
  | 0, _ => []
  | k + 1, n => (48 + n / 10 ^ k % 10) :: lowD k n
theorem lowD_length (k : Nat) (n : Int) : (lowD k n).length = k := by
  induction k with
  | zero => rfl
  | succ k ih => simp [lowD, ih]
theorem p10_pos (k : Nat) : (0 : Int) < 10 ^ k := Int.pow_pos (by decide)
theorem p10_succ (k : Nat) : (10 : Int) ^ (k + 1) = 10 ^ k * 10 := Int.pow_succ ..
theorem div_p10 (n : Int) (k : Nat) : n / 10 ^ (k + 1) = n / 10 ^ k / 10 := by rw [p10_succ, Int.ediv_ediv_of_nonneg (Int.le_of_lt (p10_pos k))]
theorem p10_mono {a b : Nat} (h : a ≤ b) : (10 : Int) ^ a ≤ 10 ^ b := by
  obtain ⟨c, rfl⟩ := Nat.le.dest h
  rw [Int.pow_add]
  have := p10_pos a
  have := p10_pos c
  have : (10 : Int) ^ a * 1 ≤ 10 ^ a * 10 ^ c := Int.mul_le_mul_of_nonneg_left (by omega) (by omega)
  omega
/-- How many digits. -/
def nd : Nat → Int → Nat
  | 0, _ => 1
  | f + 1, n => if n < 10 then 1 else nd f (n / 10) + 1
/-- k is the number of n's digits. -/
def isND (n : Int) (k : Nat) : Prop := 1 ≤ k ∧ n < 10 ^ k ∧ (k = 1 ∨ 10 ^ (k - 1) ≤ n)
theorem isND_unique {n : Int} {k m : Nat} (h : isND n k) (g : isND n m) : k = m := by
  obtain ⟨h1, h2, h3⟩ := h
  obtain ⟨g1, g2, g3⟩ := g
  rcases Nat.lt_trichotomy k m with hk | hk | hk
  · have := p10_mono (show k ≤ m - 1 by omega)
    rcases g3 with rfl | g3 <;> omega
  · exact hk
  · have := p10_mono (show m ≤ k - 1 by omega)
    rcases h3 with rfl | h3 <;> omega
theorem nd_is (f : Nat) (n : Int) (h0 : 0 ≤ n) (h : n < 10 ^ (f + 1)) : isND n (nd f n) ∧ nd f n ≤ f + 1 := by
  induction f generalizing n with
  | zero => exact ⟨⟨by simp [nd], by simpa [nd] using h, .inl rfl⟩, by simp [nd]⟩
  | succ f ih =>
    unfold nd
    split
    · rename_i hlt
      exact ⟨⟨by omega, by simpa using hlt, .inl rfl⟩, by omega⟩
    · rename_i hge
      have hq : n / 10 < 10 ^ (f + 1) := by
        rw [p10_succ] at h
        omega
      obtain ⟨⟨i1, i2, i3⟩, i4⟩ := ih (n / 10) (by omega) hq
      refine ⟨⟨by omega, ?_, .inr ?_⟩, by omega⟩
      · rw [p10_succ]; omega
      · rw [show nd f (n / 10) + 1 - 1 = (nd f (n / 10) - 1) + 1 by omega, p10_succ]
        rcases i3 with i3 | i3
        · rw [i3]; simp; omega
        · omega
def numD (n : Int) : List Int := lowD (nd 38 n) n
theorem nd_39 (n : Int) (h0 : 0 ≤ n) (h : n < 1000000000000000000000000000000000000000) : isND n (nd 38 n) ∧ nd 38 n ≤ 39 := nd_is 38 n h0 (by simpa using h)
theorem numD_of {n : Int} {k : Nat} (h0 : 0 ≤ n) (h : n < 1000000000000000000000000000000000000000) (hk : isND n k) : numD n = lowD k n := by
  unfold numD
  rw [isND_unique (nd_39 n h0 h).1 hk]
/-- The text of a number. -/
def textL (v : Int) : List Int := if v < 0 then 45 :: numD (-v) else numD v
def textW (v : Int) : ByteArray := strOfNums (textL v)
/-- The value of digits. -/
def valD (l : List Int) : Int := l.foldl (fun a d => a * 10 + (d - 48)) 0
theorem valD_snoc (l : List Int) (d : Int) : valD (l ++ [d]) = valD l * 10 + (d - 48) := by simp [valD]
theorem foldl_val (l : List Int) (a : Int) : l.foldl (fun a d => a * 10 + (d - 48)) a = a * 10 ^ l.length + valD l := by
  induction l generalizing a with
  | nil => simp [valD]
  | cons d l ih =>
    simp only [List.foldl_cons, valD, List.length_cons]
    rw [ih, ih (0 * 10 + (d - 48)), p10_succ]
    rw [Int.add_mul, Int.zero_mul, Int.zero_add, Int.mul_assoc, Int.mul_comm 10, ← Int.add_assoc]
theorem valD_cons (d : Int) (l : List Int) : valD (d :: l) = (d - 48) * 10 ^ l.length + valD l := by
  show (d :: l).foldl _ _ = _
  rw [List.foldl_cons, foldl_val]
  simp
theorem emod_p10 (n p : Int) (hp : 0 < p) : n % (p * 10) = n % p + p * (n / p % 10) := by
  have h1 := Int.mul_ediv_add_emod n p
  have h2 := Int.mul_ediv_add_emod (n / p) 10
  have h3 := Int.emod_nonneg n (show p ≠ 0 by omega)
  have h4 := Int.emod_lt_of_pos n hp
  have h5 : 0 ≤ n / p % 10 ∧ n / p % 10 ≤ 9 := by omega
  have h6 : 0 ≤ p * (n / p % 10) := Int.mul_nonneg (by omega) h5.1
  have h7 : p * (n / p % 10) ≤ p * 9 := Int.mul_le_mul_of_nonneg_left h5.2 (by omega)
  have e : n = (n % p + p * (n / p % 10)) + p * 10 * (n / p / 10) := by
    have : p * (n / p) = p * (10 * (n / p / 10)) + p * (n / p % 10) := by rw [← Int.mul_add, h2]
    rw [Int.mul_assoc p 10]
    omega
  generalize hr : n % p + p * (n / p % 10) = r at *
  generalize n / p / 10 = q at *
  rw [e, Int.add_mul_emod_self_left, Int.emod_eq_of_lt (by omega) (by omega)]
theorem valD_low (k : Nat) (n : Int) : valD (lowD k n) = n % 10 ^ k := by
  induction k with
  | zero => simp [lowD, valD, Int.emod_one]
  | succ k ih =>
    unfold lowD
    rw [valD_cons, lowD_length, ih, p10_succ]
    have hp := p10_pos k
    have e : n % (10 ^ k * 10) = n % 10 ^ k + 10 ^ k * (n / 10 ^ k % 10) := emod_p10 n (10 ^ k) hp
    rw [e, Int.mul_comm (10 ^ k), show 48 + n / 10 ^ k % 10 - 48 = n / 10 ^ k % 10 by omega]
    omega
def isDig (d : Int) : Prop := 48 ≤ d ∧ d ≤ 57
theorem lowD_dig (k : Nat) (n : Int) : ∀ d ∈ lowD k n, isDig d := by
  induction k with
  | zero => simp [lowD]
  | succ k ih =>
    intro d hd
    simp only [lowD, List.mem_cons] at hd
    rcases hd with rfl | hd
    · unfold isDig; omega
    · exact ih d hd
theorem valD_range (l : List Int) (h : ∀ d ∈ l, isDig d) : 0 ≤ valD l ∧ valD l < 10 ^ l.length := by
  induction l with
  | nil => simp [valD]
  | cons d l ih =>
    obtain ⟨h1, h2⟩ := ih fun x hx => h x (by simp [hx])
    obtain ⟨h3, h4⟩ := h d (by simp)
    rw [valD_cons, List.length_cons, p10_succ]
    have hp := p10_pos l.length
    have k1 : 0 ≤ (d - 48) * 10 ^ l.length := Int.mul_nonneg (by omega) (by omega)
    have k2 : (d - 48) * 10 ^ l.length ≤ 9 * 10 ^ l.length := Int.mul_le_mul_of_nonneg_right (by omega) (by omega)
    omega
theorem low_val (l : List Int) (h : ∀ d ∈ l, isDig d) : lowD l.length (valD l) = l := by
  have key : ∀ (l : List Int) (m : Int), (∀ d ∈ l, isDig d) → 0 ≤ m → lowD l.length (m * 10 ^ l.length + valD l) = l := by
    intro l
    induction l with
    | nil => intros; rfl
    | cons d l ih =>
      intro m h hm
      obtain ⟨h1, h2⟩ := valD_range l fun x hx => h x (by simp [hx])
      obtain ⟨h3, h4⟩ := h d (by simp)
      have hp := p10_pos l.length
      simp only [List.length_cons, lowD]
      have e : m * 10 ^ (l.length + 1) + valD (d :: l) = (m * 10 + (d - 48)) * 10 ^ l.length + valD l := by
        rw [valD_cons, p10_succ, Int.add_mul, Int.mul_assoc, Int.mul_comm 10]
        omega
      rw [e, ih (m * 10 + (d - 48)) (fun x hx => h x (by simp [hx])) (by omega)]
      congr 1
      have e2 : ((m * 10 + (d - 48)) * 10 ^ l.length + valD l) / 10 ^ l.length = m * 10 + (d - 48) := by
        rw [Int.add_comm, Int.add_mul_ediv_right _ _ (by omega), Int.ediv_eq_zero_of_lt h1 h2, Int.zero_add]
      rw [e2]
      omega
  have := key l 0 h (by omega)
  simpa using this
end
end Go.Proofs.Ytojnooagifhekaa
namespace Go.Proofs.Ytojnooagifhekaa
section
open Go.RowKit
set_option maxRecDepth 100000
set_option linter.unusedVariables false
set_option linter.unusedSimpArgs false
theorem rep_set (p : Nat) (D : List Int) (x : Int) : (List.replicate (p + 1) (0 : Int) ++ D).set p x = List.replicate p 0 ++ x :: D := by
  rw [List.replicate_succ', List.append_assoc, List.set_append_right _ _ (by simp)]
  simp
theorem zeros40 : cellsK .u8 (List.replicate 40 0) = #[.int .u8 0, .int .u8 0, .int .u8 0, .int .u8 0, .int .u8 0, .int .u8 0, .int .u8 0, .int .u8 0, .int .u8 0, .int .u8 0, .int .u8 0, .int .u8 0, .int .u8 0, .int .u8 0, .int .u8 0, .int .u8 0, .int .u8 0, .int .u8 0, .int .u8 0, .int .u8 0, .int .u8 0, .int .u8 0, .int .u8 0, .int .u8 0, .int .u8 0, .int .u8 0, .int .u8 0, .int .u8 0, .int .u8 0, .int .u8 0, .int .u8 0, .int .u8 0, .int .u8 0, .int .u8 0, .int .u8 0, .int .u8 0, .int .u8 0, .int .u8 0, .int .u8 0, .int .u8 0] := rfl
theorem forty : cellsK .i64 [40] = #[.int .i64 40] := rfl
theorem n39 (N : Int) (h0 : 0 ≤ N) (h1 : N ≤ 170141183460469231731687303715884105728) : N / 10 ^ 39 = 0 := Int.ediv_eq_zero_of_lt h0 (by simp; omega)
end
end Go.Proofs.Ytojnooagifhekaa
