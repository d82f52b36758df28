/- Plain law: one digit of the long division of math/bits.Div64, and the whole of it. -/
import Derived.Test.YtojnooagifhekaaGen
namespace Go.Proofs.Ytojnooagifhekaa
set_option maxRecDepth 100000
set_option linter.unusedVariables false
set_option linter.unusedSimpArgs false
/-- What stays over the rounds: u = q yn1 + rhat, q is not below the digit. -/
structure DivI (u d yn1 yn0 q rhat : Int) : Prop where
  eq : q * yn1 + rhat = u
  r0 : 0 ≤ rhat
  q0 : 0 ≤ q
  lo : (u * 4294967296 + d) / (yn1 * 4294967296 + yn0) ≤ q
structure DivC (u d yn1 yn0 : Int) : Prop where
  y1 : 2147483648 ≤ yn1
  y1' : yn1 < 4294967296
  y0 : 0 ≤ yn0
  y0' : yn0 < 4294967296
  d0 : 0 ≤ d
  d1 : d < 4294967296
  u0 : 0 ≤ u
  u1 : u < yn1 * 4294967296 + yn0
theorem DivC.vpos {u d yn1 yn0 : Int} (h : DivC u d yn1 yn0) : 0 < yn1 * 4294967296 + yn0 := by have := h.y1; have := h.y0; omega
theorem div_start {u d yn1 yn0 : Int} (h : DivC u d yn1 yn0) : DivI u d yn1 yn0 (u / yn1) (u - u / yn1 * yn1) := by
  have hy : 0 < yn1 := by have := h.y1; omega
  have hm := Int.emod_nonneg u (show yn1 ≠ 0 by omega)
  have he := Int.mul_ediv_add_emod u yn1
  rw [Int.mul_comm] at he
  refine ⟨by omega, by omega, Int.ediv_nonneg h.u0 (by omega), ?_⟩
  rw [Int.le_ediv_iff_mul_le hy]
  have hv := h.vpos
  have h1 := Int.ediv_mul_le (u * 4294967296 + d) (show yn1 * 4294967296 + yn0 ≠ 0 by omega)
  have h0 : 0 ≤ (u * 4294967296 + d) / (yn1 * 4294967296 + yn0) := Int.ediv_nonneg (by have := h.u0; have := h.d0; omega) (by omega)
  generalize (u * 4294967296 + d) / (yn1 * 4294967296 + yn0) = z at *
  have h2 : z * (yn1 * 4294967296 + yn0) = z * yn1 * 4294967296 + z * yn0 := by rw [Int.mul_add, Int.mul_assoc]
  have h3 : 0 ≤ z * yn0 := Int.mul_nonneg h0 h.y0
  have := h.d1
  omega
theorem div_q_le {u d yn1 yn0 q rhat : Int} (h : DivC u d yn1 yn0) (i : DivI u d yn1 yn0 q rhat) : q < 8589934592 := by
  have h1 := i.eq
  have h2 := i.r0
  have h3 := h.u1
  have h4 := h.y0'
  have h5 := h.y1
  have h6 := h.y1'
  rcases Int.lt_or_le q 8589934592 with hh | hh
  · exact hh
  · have : 8589934592 * yn1 ≤ q * yn1 := Int.mul_le_mul_of_nonneg_right hh (by omega)
    omega
/-- The test says: too great. -/
theorem div_step {u d yn1 yn0 q rhat : Int} (h : DivC u d yn1 yn0) (i : DivI u d yn1 yn0 q rhat) (ht : 4294967296 ≤ q ∨ rhat * 4294967296 + d < q * yn0) : DivI u d yn1 yn0 (q - 1) (rhat + yn1) ∧ 1 ≤ q := by
  have h1 := i.eq
  have hv := h.vpos
  have hlt : (u * 4294967296 + d) / (yn1 * 4294967296 + yn0) < q := by
    rcases ht with ht | ht
    · refine Int.lt_of_lt_of_le ?_ ht
      rw [Int.ediv_lt_iff_lt_mul hv]
      have := h.u1
      have := h.d1
      have h2 : 4294967296 * (yn1 * 4294967296 + yn0) = (yn1 * 4294967296 + yn0) * 4294967296 := Int.mul_comm _ _
      omega
    · rw [Int.ediv_lt_iff_lt_mul hv, Int.mul_add, ← Int.mul_assoc]
      omega
  have h0 : 0 ≤ (u * 4294967296 + d) / (yn1 * 4294967296 + yn0) := Int.ediv_nonneg (by have := h.u0; have := h.d0; omega) (by omega)
  refine ⟨⟨?_, ?_, by omega, by omega⟩, by omega⟩
  · rw [Int.sub_mul]; omega
  · have := i.r0; have := h.y1; omega
/-- The test says: not too great; or the rest is too great for it. -/
theorem div_end {u d yn1 yn0 q rhat : Int} (h : DivC u d yn1 yn0) (i : DivI u d yn1 yn0 q rhat) (ht : q * yn0 ≤ rhat * 4294967296 + d ∨ 4294967296 ≤ rhat) : q = (u * 4294967296 + d) / (yn1 * 4294967296 + yn0) := by
  have h1 := i.eq
  have hv := h.vpos
  apply Int.le_antisymm _ i.lo
  rw [Int.le_ediv_iff_mul_le hv, Int.mul_add, ← Int.mul_assoc]
  rcases ht with ht | ht
  · omega
  · have hu := h.u1
    have hy0 := h.y0'
    have hy1 := h.y1
    have hq : q < 4294967296 := by
      rcases Int.lt_or_le q 4294967296 with hh | hh
      · exact hh
      · have : 4294967296 * yn1 ≤ q * yn1 := Int.mul_le_mul_of_nonneg_right hh (by omega)
        omega
    have h2 : q * yn0 ≤ 4294967296 * yn0 := Int.mul_le_mul_of_nonneg_right (by omega) h.y0
    have := h.d0
    omega
theorem div_rest {u d yn1 yn0 q : Int} (h : DivC u d yn1 yn0) (hq : q = (u * 4294967296 + d) / (yn1 * 4294967296 + yn0)) : 0 ≤ u * 4294967296 + d - q * (yn1 * 4294967296 + yn0) ∧ u * 4294967296 + d - q * (yn1 * 4294967296 + yn0) < yn1 * 4294967296 + yn0 ∧ 0 ≤ q ∧ q < 4294967296 := by
  have hv := h.vpos
  have h1 := Int.emod_nonneg (u * 4294967296 + d) (show yn1 * 4294967296 + yn0 ≠ 0 by omega)
  have h2 := Int.emod_lt_of_pos (u * 4294967296 + d) hv
  have h3 := Int.mul_ediv_add_emod (u * 4294967296 + d) (yn1 * 4294967296 + yn0)
  rw [Int.mul_comm, ← hq] at h3
  have hlt : q < 4294967296 := by
    rw [hq, Int.ediv_lt_iff_lt_mul hv]
    have := h.u1
    have := h.d1
    have h2 : 4294967296 * (yn1 * 4294967296 + yn0) = (yn1 * 4294967296 + yn0) * 4294967296 := Int.mul_comm _ _
    omega
  have h0 : 0 ≤ q := by rw [hq]; exact Int.ediv_nonneg (by have := h.u0; have := h.d0; omega) (by omega)
  exact ⟨by omega, by omega, h0, hlt⟩
/-- Two digits: the quotient and the rest of the whole. -/
theorem div_whole {X y p v u d1 d0 q1 q0 r1 r0 : Int} (hy : 0 < y) (hp : 0 < p) (hv : v = y * p) (hX : X * p = (u * 4294967296 + d1) * 4294967296 + d0)
    (h1 : r1 = u * 4294967296 + d1 - q1 * v) (h0 : r0 = r1 * 4294967296 + d0 - q0 * v) (hr0 : 0 ≤ r0) (hr1 : r0 < v) : q1 * 4294967296 + q0 = X / y ∧ r0 / p = X % y := by
  have e1 : X * p = (q1 * 4294967296 + q0) * (y * p) + r0 := by
    rw [Int.add_mul, Int.mul_right_comm, ← hv]
    omega
  have hdiv : r0 % p = 0 := by
    have : r0 = (X - (q1 * 4294967296 + q0) * y) * p := by rw [Int.sub_mul, Int.mul_assoc]; omega
    rw [this]; exact Int.mul_emod_left _ _
  have e2 : r0 = r0 / p * p := by have := Int.mul_ediv_add_emod r0 p; rw [hdiv, Int.mul_comm] at this; omega
  have e3 : X = (q1 * 4294967296 + q0) * y + r0 / p := by
    have : X * p = ((q1 * 4294967296 + q0) * y + r0 / p) * p := by rw [Int.add_mul, Int.mul_assoc, ← e2]; exact e1
    exact Int.eq_of_mul_eq_mul_right (by omega) this
  have hlo : 0 ≤ r0 / p := Int.ediv_nonneg hr0 (by omega)
  have hhi : r0 / p < y := by rw [Int.ediv_lt_iff_lt_mul hp, ← hv]; exact hr1
  generalize q1 * 4294967296 + q0 = Q at *
  generalize r0 / p = R at *
  subst e3
  refine ⟨?_, ?_⟩
  · rw [Int.add_comm, Int.add_mul_ediv_right _ _ (by omega), Int.ediv_eq_zero_of_lt hlo hhi]; omega
  · rw [Int.add_comm, Int.add_mul_emod_self_right, Int.emod_eq_of_lt hlo hhi]
end Go.Proofs.Ytojnooagifhekaa
