/- Plain law: numbers as 16 digits of base 256. Plain law: one digit of the long division of math/bits.Div64, and the whole of it. -/
import Derived.Test.YtojnooagifhekaaGAggParts1
namespace Go.Proofs.Ytojnooagifhekaa
section
set_option maxRecDepth 100000
set_option linter.unusedVariables false
set_option linter.unusedSimpArgs false
def dg (u : Int) (j : Nat) : Int := u / 256 ^ (15 - j) % 256
def arrF (f : Nat → Int) : List Int := (List.range 16).map f
theorem arrF_length (f : Nat → Int) : (arrF f).length = 16 := by simp [arrF]
theorem arrF_get (f : Nat → Int) (i : Nat) (h : i < 16) : (arrF f).getD i 0 = f i := by simp [arrF, List.getD_eq_getElem?_getD, h]
theorem arrF_ext {f g : Nat → Int} (h : ∀ j, j < 16 → f j = g j) : arrF f = arrF g := List.map_congr_left fun j hj => h j (List.mem_range.1 hj)
theorem arrF_set (f : Nat → Int) (i : Nat) (v : Int) : (arrF f).set i v = arrF (fun j => if j = i then v else f j) := by
  apply List.ext_getElem
  · simp [arrF]
  · intro k h1 h2
    simp only [arrF, List.getElem_map, List.getElem_range, List.getElem_set]
    by_cases h : i = k
    · simp [h]
    · rw [if_neg h, if_neg (fun e => h e.symm)]
def zerosF : Nat → Int := fun _ => 0
theorem arrF_zero : cellsK .i64 (arrF zerosF) = #[.int .i64 0, .int .i64 0, .int .i64 0, .int .i64 0, .int .i64 0, .int .i64 0, .int .i64 0, .int .i64 0, .int .i64 0, .int .i64 0, .int .i64 0, .int .i64 0, .int .i64 0, .int .i64 0, .int .i64 0, .int .i64 0] := by rfl
theorem p256 (k : Nat) : (0 : Int) < 256 ^ k := Int.pow_pos (by decide)
theorem p256s (k : Nat) : (256 : Int) ^ (k + 1) = 256 ^ k * 256 := Int.pow_succ ..
theorem dg_range (u : Int) (j : Nat) : 0 ≤ dg u j ∧ dg u j ≤ 255 := by unfold dg; omega
theorem div_div256 (u : Int) (k : Nat) : u / 256 ^ (k + 1) = u / 256 ^ k / 256 := by rw [p256s, Int.ediv_ediv_of_nonneg (Int.le_of_lt (p256 k))]
theorem mod_step (u : Int) (k : Nat) : u % 256 ^ (k + 1) = u % 256 ^ k + u / 256 ^ k % 256 * 256 ^ k := by
  have hp := p256 k
  have e1 := Int.mul_ediv_add_emod u (256 ^ k)
  have e2 := Int.mul_ediv_add_emod u (256 ^ (k + 1))
  rw [div_div256, p256s] at e2
  rw [p256s]
  have e3 := Int.mul_ediv_add_emod (u / 256 ^ k) 256
  generalize u / 256 ^ k = q at *
  generalize u % (256 ^ k * 256) = r at *
  generalize u % 256 ^ k = r0 at *
  generalize (256 : Int) ^ k = P at *
  generalize q / 256 = q1 at *
  generalize q % 256 = q0 at *
  subst e3
  rw [Int.mul_add] at e1
  rw [Int.mul_assoc] at e2
  rw [Int.mul_comm q0 P]
  omega
/-- What the k last digits are worth. -/
def lowS (f : Nat → Int) : Nat → Int
  | 0 => 0
  | k + 1 => lowS f k + f (15 - k) * 256 ^ k
theorem lowS_congr {f g : Nat → Int} (h : ∀ j, j < 16 → f j = g j) : ∀ k, lowS f k = lowS g k
  | 0 => rfl
  | k + 1 => by simp only [lowS]; rw [lowS_congr h k, h _ (by omega)]
theorem lowS_dg (u : Int) : ∀ k, k ≤ 16 → lowS (dg u) k = u % 256 ^ k
  | 0, _ => by simp only [lowS, Int.pow_zero]; omega
  | k + 1, h => by
    simp only [lowS]
    rw [lowS_dg u k (by omega), mod_step]
    unfold dg
    rw [show 15 - (15 - k) = k by omega]
theorem lowS_add (f g : Nat → Int) : ∀ k, lowS (fun j => f j + g j) k = lowS f k + lowS g k
  | 0 => rfl
  | k + 1 => by
    simp only [lowS]
    rw [lowS_add f g k, Int.add_mul]
    omega
theorem lowS_mul (f : Nat → Int) (n : Int) : ∀ k, lowS (fun j => f j * n) k = lowS f k * n
  | 0 => by simp [lowS]
  | k + 1 => by
    simp only [lowS]
    rw [lowS_mul f n k, Int.add_mul, Int.mul_right_comm]
theorem lowS_neg (f : Nat → Int) : ∀ k, lowS (fun j => 255 - f j) k = 256 ^ k - 1 - lowS f k
  | 0 => by simp [lowS]
  | k + 1 => by
    simp only [lowS]
    rw [lowS_neg f k, Int.sub_mul, p256s]
    omega
theorem p16 : (256 : Int) ^ 16 = 340282366920938463463374607431768211456 := by decide +kernel
theorem lowS_16 (u : Int) : lowS (dg u) 16 = u % 340282366920938463463374607431768211456 := by rw [lowS_dg u 16 (Nat.le_refl _), p16]
theorem wd_mod16 (u : Int) : wd (u % 340282366920938463463374607431768211456) = wd u := wd_mod _ _ (Int.emod_emod_of_dvd _ (Int.dvd_refl _))
theorem dg_congr {u v : Int} (h : u % 340282366920938463463374607431768211456 = v % 340282366920938463463374607431768211456) (j : Nat) : dg u j = dg v j := by
  have key : ∀ x : Int, dg x j = dg (x % 340282366920938463463374607431768211456) j := by
    intro x
    unfold dg
    have e := Int.mul_ediv_add_emod x 340282366920938463463374607431768211456
    have hd : (340282366920938463463374607431768211456 : Int) = 256 ^ (15 - j) * (256 * 256 ^ (15 - (15 - j))) := by
      rw [← p16, ← Int.mul_assoc, ← p256s, ← Int.pow_add]
      congr 1; omega
    generalize x % 340282366920938463463374607431768211456 = r at *
    generalize x / 340282366920938463463374607431768211456 = q at *
    rw [← e, hd, Int.mul_assoc, Int.add_comm, Int.add_mul_ediv_left _ _ (Int.ne_of_gt (p256 _)), Int.mul_assoc, Int.add_mul_emod_self_left]
  rw [key u, key v, h]
/-- Reading digits from the first on. -/
def hor (f : Nat → Int) (a : Nat) : Nat → Int
  | 0 => 0
  | k + 1 => hor f a k * 256 + f (a + k)
theorem hor_low (f : Nat → Int) : hor f 0 8 * 18446744073709551616 + hor f 8 8 = lowS f 16 := by
  simp only [hor, lowS, Nat.reduceAdd, Nat.reduceSub, Int.reducePow]
  omega
theorem hor_range (f : Nat → Int) (a : Nat) (h : ∀ j, 0 ≤ f j ∧ f j ≤ 255) : ∀ k, 0 ≤ hor f a k ∧ hor f a k < 256 ^ k
  | 0 => by simp [hor]
  | k + 1 => by
    have := hor_range f a h k
    have := h (a + k)
    simp only [hor]
    rw [p256s]
    omega
theorem p8 : (256 : Int) ^ 8 = 18446744073709551616 := by decide
theorem wd_hor (f : Nat → Int) (h : ∀ j, 0 ≤ f j ∧ f j ≤ 255) : wd (lowS f 16) = ⟨sg64 (hor f 0 8), hor f 8 8⟩ := by
  have h1 := hor_range f 0 h 8
  have h2 := hor_range f 8 h 8
  rw [p8] at h1 h2
  rw [← hor_low]
  unfold wd sg64
  simp only [Wd.mk.injEq]
  generalize hor f 0 8 = a at *
  generalize hor f 8 8 = b at *
  constructor <;> omega
/-- The digits of any 128 bits. -/
theorem dg_hi (hi lo : Int) (h0 : 0 ≤ lo) (h1 : lo < 18446744073709551616) (k : Nat) (hk : k < 8) : dg (hi * 18446744073709551616 + lo) k = hi / 256 ^ (7 - k) % 256 := by
  unfold dg
  rw [show 15 - k = 8 + (7 - k) by omega, Int.pow_add, ← Int.ediv_ediv_of_nonneg (by decide)]
  rw [show (256 : Int) ^ 8 = 18446744073709551616 by decide]
  congr 2
  omega
theorem dg_lo (hi lo : Int) (k : Nat) (hk : k < 8) : dg (hi * 18446744073709551616 + lo) (8 + k) = lo / 256 ^ (7 - k) % 256 := by
  unfold dg
  rw [show 15 - (8 + k) = 7 - k by omega]
  have e : (18446744073709551616 : Int) = 256 ^ (7 - k) * (256 * 256 ^ k) := by
    rw [← Int.mul_assoc, ← p256s, ← Int.pow_add, show 7 - k + 1 + k = 8 by omega]
    decide
  rw [e, Int.add_comm, ← Int.mul_assoc, Int.mul_comm hi, Int.mul_assoc, Int.add_mul_ediv_left _ _ (Int.ne_of_gt (p256 _)), Int.mul_left_comm, Int.add_mul_emod_self_left]
theorem shr_byte (x : Int) (k : Nat) (hk : k < 8) : x / 2 ^ (56 - 8 * k) = x / 256 ^ (7 - k) := by
  rw [show (256 : Int) = 2 ^ 8 by decide, ← Int.pow_mul, show 8 * (7 - k) = 56 - 8 * k by omega]
theorem lowS_range (f : Nat → Int) (B : Int) (h : ∀ j, 0 ≤ f j ∧ f j ≤ B) (hB : 0 ≤ B) : ∀ k, 0 ≤ lowS f k ∧ lowS f k ≤ B * 256 ^ k
  | 0 => by simp [lowS]; exact hB
  | k + 1 => by
    have h1 := lowS_range f B h hB k
    have h2 := h (15 - k)
    have hp := p256 k
    simp only [lowS]
    rw [p256s]
    have a1 : f (15 - k) * 256 ^ k ≤ B * 256 ^ k := Int.mul_le_mul_of_nonneg_right h2.2 (Int.le_of_lt hp)
    have a2 : 0 ≤ f (15 - k) * 256 ^ k := Int.mul_nonneg h2.1 (Int.le_of_lt hp)
    rw [← Int.mul_assoc]
    generalize f (15 - k) * 256 ^ k = z at *
    generalize B * 256 ^ k = y at *
    omega
theorem carry_range (f : Nat → Int) (B : Int) (h : ∀ j, 0 ≤ f j ∧ f j ≤ B) (hB : 0 ≤ B) (k : Nat) : 0 ≤ lowS f k / 256 ^ k ∧ lowS f k / 256 ^ k ≤ B := by
  obtain ⟨h1, h2⟩ := lowS_range f B h hB k
  exact ⟨Int.ediv_nonneg h1 (Int.le_of_lt (p256 k)), Int.ediv_le_of_le_mul (p256 k) h2⟩
theorem carry_step (f : Nat → Int) (k : Nat) : f (15 - k) + lowS f k / 256 ^ k = lowS f (k + 1) / 256 ^ k := by
  simp only [lowS]
  rw [Int.add_mul_ediv_right _ _ (Int.ne_of_gt (p256 k)), Int.add_comm]
theorem lowS_more (f : Nat → Int) (k : Nat) : ∀ m, ∃ q, lowS f (k + m) = lowS f k + q * 256 ^ k
  | 0 => ⟨0, by simp⟩
  | m + 1 => by
    obtain ⟨q, hq⟩ := lowS_more f k m
    refine ⟨q + f (15 - (k + m)) * 256 ^ m, ?_⟩
    show lowS f (k + m) + f (15 - (k + m)) * 256 ^ (k + m) = _
    rw [hq, Int.add_mul, Int.mul_assoc, ← Int.pow_add, Nat.add_comm m k]
    omega
theorem carry_digit (f : Nat → Int) (k : Nat) (hk : k < 16) : lowS f (k + 1) / 256 ^ k % 256 = dg (lowS f 16) (15 - k) := by
  obtain ⟨q, hq⟩ := lowS_more f (k + 1) (15 - k)
  rw [show k + 1 + (15 - k) = 16 by omega] at hq
  unfold dg
  rw [show 15 - (15 - k) = k by omega, hq, p256s, Int.mul_comm (256 ^ k), ← Int.mul_assoc, Int.add_mul_ediv_right _ _ (Int.ne_of_gt (p256 k)), Int.add_mul_emod_self_right]
theorem carry_next (f : Nat → Int) (k : Nat) : lowS f (k + 1) / 256 ^ k / 256 = lowS f (k + 1) / 256 ^ (k + 1) := by rw [div_div256]
end
end Go.Proofs.Ytojnooagifhekaa
namespace Go.Proofs.Ytojnooagifhekaa
section
set_option maxRecDepth 100000
set_option linter.unusedVariables false
set_option linter.unusedSimpArgs false
/-- What stays over the rounds: u = q yn1 + rhat, q is not below the digit. -/
structure DivI (u d yn1 yn0 q rhat : Int) : Prop where
  eq : q * yn1 + rhat = u
  r0 : 0 ≤ rhat
  q0 : 0 ≤ q
  lo : (u * 4294967296 + d) / (yn1 * 4294967296 + yn0) ≤ q
structure DivC (u d yn1 yn0 : Int) : Prop where
  y1 : 2147483648 ≤ yn1
  y1' : yn1 < 4294967296
  y0 : 0 ≤ yn0
  y0' : yn0 < 4294967296
  d0 : 0 ≤ d
  d1 : d < 4294967296
  u0 : 0 ≤ u
  u1 : u < yn1 * 4294967296 + yn0
theorem DivC.vpos {u d yn1 yn0 : Int} (h : DivC u d yn1 yn0) : 0 < yn1 * 4294967296 + yn0 := by have := h.y1; have := h.y0; omega
theorem div_start {u d yn1 yn0 : Int} (h : DivC u d yn1 yn0) : DivI u d yn1 yn0 (u / yn1) (u - u / yn1 * yn1) := by
  have hy : 0 < yn1 := by have := h.y1; omega
  have hm := Int.emod_nonneg u (show yn1 ≠ 0 by omega)
  have he := Int.mul_ediv_add_emod u yn1
  rw [Int.mul_comm] at he
  refine ⟨by omega, by omega, Int.ediv_nonneg h.u0 (by omega), ?_⟩
  rw [Int.le_ediv_iff_mul_le hy]
  have hv := h.vpos
  have h1 := Int.ediv_mul_le (u * 4294967296 + d) (show yn1 * 4294967296 + yn0 ≠ 0 by omega)
  have h0 : 0 ≤ (u * 4294967296 + d) / (yn1 * 4294967296 + yn0) := Int.ediv_nonneg (by have := h.u0; have := h.d0; omega) (by omega)
  generalize (u * 4294967296 + d) / (yn1 * 4294967296 + yn0) = z at *
  have h2 : z * (yn1 * 4294967296 + yn0) = z * yn1 * 4294967296 + z * yn0 := by rw [Int.mul_add, Int.mul_assoc]
  have h3 : 0 ≤ z * yn0 := Int.mul_nonneg h0 h.y0
  have := h.d1
  omega
theorem div_q_le {u d yn1 yn0 q rhat : Int} (h : DivC u d yn1 yn0) (i : DivI u d yn1 yn0 q rhat) : q < 8589934592 := by
  have h1 := i.eq
  have h2 := i.r0
  have h3 := h.u1
  have h4 := h.y0'
  have h5 := h.y1
  have h6 := h.y1'
  rcases Int.lt_or_le q 8589934592 with hh | hh
  · exact hh
  · have : 8589934592 * yn1 ≤ q * yn1 := Int.mul_le_mul_of_nonneg_right hh (by omega)
    omega
/-- The test says: too great. -/
theorem div_step {u d yn1 yn0 q rhat : Int} (h : DivC u d yn1 yn0) (i : DivI u d yn1 yn0 q rhat) (ht : 4294967296 ≤ q ∨ rhat * 4294967296 + d < q * yn0) : DivI u d yn1 yn0 (q - 1) (rhat + yn1) ∧ 1 ≤ q := by
  have h1 := i.eq
  have hv := h.vpos
  have hlt : (u * 4294967296 + d) / (yn1 * 4294967296 + yn0) < q := by
    rcases ht with ht | ht
    · refine Int.lt_of_lt_of_le ?_ ht
      rw [Int.ediv_lt_iff_lt_mul hv]
      have := h.u1
      have := h.d1
      have h2 : 4294967296 * (yn1 * 4294967296 + yn0) = (yn1 * 4294967296 + yn0) * 4294967296 := Int.mul_comm _ _
      omega
    · rw [Int.ediv_lt_iff_lt_mul hv, Int.mul_add, ← Int.mul_assoc]
      omega
  have h0 : 0 ≤ (u * 4294967296 + d) / (yn1 * 4294967296 + yn0) := Int.ediv_nonneg (by have := h.u0; have := h.d0; omega) (by omega)
  refine ⟨⟨?_, ?_, by omega, by omega⟩, by omega⟩
  · rw [Int.sub_mul]; omega
  · have := i.r0; have := h.y1; omega
/-- The test says: not too great; or the rest is too great for it. -/
theorem div_end {u d yn1 yn0 q rhat : Int} (h : DivC u d yn1 yn0) (i : DivI u d yn1 yn0 q rhat) (ht : q * yn0 ≤ rhat * 4294967296 + d ∨ 4294967296 ≤ rhat) : q = (u * 4294967296 + d) / (yn1 * 4294967296 + yn0) := by
  have h1 := i.eq
  have hv := h.vpos
  apply Int.le_antisymm _ i.lo
  rw [Int.le_ediv_iff_mul_le hv, Int.mul_add, ← Int.mul_assoc]
  rcases ht with ht | ht
  · omega
  · have hu := h.u1
    have hy0 := h.y0'
    have hy1 := h.y1
    have hq : q < 4294967296 := by
      rcases Int.lt_or_le q 4294967296 with hh | hh
      · exact hh
      · have : 4294967296 * yn1 ≤ q * yn1 := Int.mul_le_mul_of_nonneg_right hh (by omega)
        omega
    have h2 : q * yn0 ≤ 4294967296 * yn0 := Int.mul_le_mul_of_nonneg_right (by omega) h.y0
    have := h.d0
    omega
theorem div_rest {u d yn1 yn0 q : Int} (h : DivC u d yn1 yn0) (hq : q = (u * 4294967296 + d) / (yn1 * 4294967296 + yn0)) : 0 ≤ u * 4294967296 + d - q * (yn1 * 4294967296 + yn0) ∧ u * 4294967296 + d - q * (yn1 * 4294967296 + yn0) < yn1 * 4294967296 + yn0 ∧ 0 ≤ q ∧ q < 4294967296 := by
  have hv := h.vpos
  have h1 := Int.emod_nonneg (u * 4294967296 + d) (show yn1 * 4294967296 + yn0 ≠ 0 by omega)
  have h2 := Int.emod_lt_of_pos (u * 4294967296 + d) hv
  have h3 := Int.mul_ediv_add_emod (u * 4294967296 + d) (yn1 * 4294967296 + yn0)
  rw [Int.mul_comm, ← hq] at h3
  have hlt : q < 4294967296 := by
    rw [hq, Int.ediv_lt_iff_lt_mul hv]
    have := h.u1
    have := h.d1
    have h2 : 4294967296 * (yn1 * 4294967296 + yn0) = (yn1 * 4294967296 + yn0) * 4294967296 := Int.mul_comm _ _
    omega
  have h0 : 0 ≤ q := by rw [hq]; exact Int.ediv_nonneg (by have := h.u0; have := h.d0; omega) (by omega)
  exact ⟨by omega, by omega, h0, hlt⟩
/-- Two digits: the quotient and the rest of the whole. -/
theorem div_whole {X y p v u d1 d0 q1 q0 r1 r0 : Int} (hy : 0 < y) (hp : 0 < p) (hv : v = y * p) (hX : X * p = (u * 4294967296 + d1) * 4294967296 + d0)
    (h1 : r1 = u * 4294967296 + d1 - q1 * v) (h0 : r0 = r1 * 4294967296 + d0 - q0 * v) (hr0 : 0 ≤ r0) (hr1 : r0 < v) : q1 * 4294967296 + q0 = X / y ∧ r0 / p = X % y := by
  have e1 : X * p = (q1 * 4294967296 + q0) * (y * p) + r0 := by
    rw [Int.add_mul, Int.mul_right_comm, ← hv]
    omega
  have hdiv : r0 % p = 0 := by
    have : r0 = (X - (q1 * 4294967296 + q0) * y) * p := by rw [Int.sub_mul, Int.mul_assoc]; omega
    rw [this]; exact Int.mul_emod_left _ _
  have e2 : r0 = r0 / p * p := by have := Int.mul_ediv_add_emod r0 p; rw [hdiv, Int.mul_comm] at this; omega
  have e3 : X = (q1 * 4294967296 + q0) * y + r0 / p := by
    have : X * p = ((q1 * 4294967296 + q0) * y + r0 / p) * p := by rw [Int.add_mul, Int.mul_assoc, ← e2]; exact e1
    exact Int.eq_of_mul_eq_mul_right (by omega) this
  have hlo : 0 ≤ r0 / p := Int.ediv_nonneg hr0 (by omega)
  have hhi : r0 / p < y := by rw [Int.ediv_lt_iff_lt_mul hp, ← hv]; exact hr1
  generalize q1 * 4294967296 + q0 = Q at *
  generalize r0 / p = R at *
  subst e3
  refine ⟨?_, ?_⟩
  · rw [Int.add_comm, Int.add_mul_ediv_right _ _ (by omega), Int.ediv_eq_zero_of_lt hlo hhi]; omega
  · rw [Int.add_comm, Int.add_mul_emod_self_right, Int.emod_eq_of_lt hlo hhi]
end
end Go.Proofs.Ytojnooagifhekaa
