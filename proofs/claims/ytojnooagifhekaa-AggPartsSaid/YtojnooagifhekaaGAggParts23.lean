/- Plain law: the mean of what is known of points. -/
import Derived.Test.YtojnooagifhekaaGAggParts22
namespace Go.Proofs.Ytojnooagifhekaa
section
open Go.RowKit
set_option maxRecDepth 100000
set_option linter.unusedVariables false
set_option linter.unusedSimpArgs false
def meanV (a : Ag) : Int × Bool := if a.cnt < 1 ∨ 2147483648 < a.cnt then (0, false) else if -9223372036854775808 ≤ a.sum.v.tdiv a.cnt ∧ a.sum.v.tdiv a.cnt ≤ 9223372036854775807 then (a.sum.v.tdiv a.cnt, true) else (0, false)
theorem tdiv_pos (s n : Int) (h : 0 ≤ s) : s.tdiv n = s / n := Int.tdiv_eq_ediv_of_nonneg h
theorem tdiv_neg' (s n : Int) (h : s < 0) : s.tdiv n = -((-s) / n) := by
  have : s.tdiv n = -((-s).tdiv n) := by rw [Int.neg_tdiv]; omega
  rw [this, tdiv_pos _ _ (by omega)]
/-- What a mean is, of a sum s of n numbers from lo to hi. -/
theorem mean_is (s n lo hi : Int) (hn : 0 < n) (h1 : n * lo ≤ s) (h2 : s ≤ n * hi) :
    lo ≤ s.tdiv n ∧ s.tdiv n ≤ hi ∧ s - s.tdiv n * n < n ∧ -n < s - s.tdiv n * n ∧ (0 ≤ s → 0 ≤ s - s.tdiv n * n) ∧ (s ≤ 0 → s - s.tdiv n * n ≤ 0) := by
  by_cases hs : 0 ≤ s
  · rw [tdiv_pos s n hs]
    have e := Int.mul_ediv_add_emod s n
    have e1 := Int.emod_nonneg s (show n ≠ 0 by omega)
    have e2 := Int.emod_lt_of_pos s hn
    have a1 : lo ≤ s / n := by rw [Int.le_ediv_iff_mul_le hn, Int.mul_comm]; exact h1
    have a2 : s / n ≤ hi := by
      have : s / n < hi + 1 := by
        rw [Int.ediv_lt_iff_lt_mul hn, Int.add_mul, Int.mul_comm hi]
        omega
      omega
    rw [Int.mul_comm n] at e
    have e0 : s ≤ 0 → s / n * n = 0 := fun h => by
      have : s = 0 := by omega
      rw [this]; simp
    exact ⟨a1, a2, by omega, by omega, fun _ => by omega, fun h => by have := e0 h; omega⟩
  · rw [tdiv_neg' s n (by omega)]
    have e := Int.mul_ediv_add_emod (-s) n
    have e1 := Int.emod_nonneg (-s) (show n ≠ 0 by omega)
    have e2 := Int.emod_lt_of_pos (-s) hn
    rw [Int.mul_comm n] at e
    have a1 : -hi ≤ (-s) / n := by rw [Int.le_ediv_iff_mul_le hn, Int.neg_mul, Int.mul_comm hi]; omega
    have a2 : (-s) / n ≤ -lo := by
      have : (-s) / n < -lo + 1 := by
        rw [Int.ediv_lt_iff_lt_mul hn, Int.add_mul, Int.neg_mul, Int.mul_comm lo]
        omega
      omega
    rw [Int.neg_mul]
    exact ⟨by omega, by omega, by omega, by omega, fun h => by omega, fun _ => by omega⟩
def sumP (l : List Pt) : Int := (l.map (·.value)).sum
theorem sumP_snoc (l : List Pt) (p : Pt) : sumP (l ++ [p]) = sumP l + p.value := by simp [sumP]
theorem sumP_le (l : List Pt) (lo hi : Int) (h : ∀ p ∈ l, lo ≤ p.value ∧ p.value ≤ hi) : (l.length : Int) * lo ≤ sumP l ∧ sumP l ≤ (l.length : Int) * hi := by
  induction l using snoc_ind with
  | h0 => simp [sumP]
  | h1 r p ih =>
  have ih := ih (fun q hq => h q (List.mem_append_left _ hq))
  have hp := h p (by simp)
  rw [sumP_snoc]
  simp only [List.length_append, List.length_cons, List.length_nil]
  rw [show ((r.length + (0 + 1) : Nat) : Int) = (r.length : Int) + 1 by omega, Int.add_mul, Int.add_mul]
  omega
theorem sumP_bd (l : List Pt) (h : ∀ p ∈ l, -1125899906842624 < p.value ∧ p.value < 1125899906842624) (hl : l.length ≤ 40) : -45035996273704960 ≤ sumP l ∧ sumP l ≤ 45035996273704960 := by
  have := sumP_le l (-1125899906842624) 1125899906842624 (fun p hp => by have := h p hp; omega)
  omega
theorem fold_sum (l : List Pt) (h : ∀ p ∈ l, -1125899906842624 < p.value ∧ p.value < 1125899906842624) (hl : l.length ≤ 40) : (foldV l).sum.v = sumP l := by
  induction l using snoc_ind with
  | h0 => decide
  | h1 r p ih =>
  simp only [List.length_append, List.length_cons, List.length_nil] at hl
  have ih := ih (fun q hq => h q (List.mem_append_left _ hq)) (by omega)
  have hp := h p (by simp)
  have hb := sumP_bd r (fun q hq => h q (List.mem_append_left _ hq)) (by omega)
  rw [fold_snoc, sumP_snoc]
  by_cases h0 : r = []
  · subst h0
    have e : mergeV (foldV []) p.one = p.one := rfl
    rw [e]
    show (wd p.value).v = sumP [] + p.value
    rw [v_wd _ (by omega) (by omega)]
    simp [sumP]
  · rw [merge_one (fold_ne (by omega) h0)]
    simp only
    rw [ih, v_wd p.value (by omega) (by omega), v_wd _ (by omega) (by omega)]
theorem mean_fold (l : List Pt) (h : ∀ p ∈ l, -1125899906842624 < p.value ∧ p.value < 1125899906842624) (hl : l.length ≤ 40) (hne : l ≠ []) :
    meanV (foldV l) = ((sumP l).tdiv l.length, true) ∧ (foldV l).mn ≤ (sumP l).tdiv l.length ∧ (sumP l).tdiv l.length ≤ (foldV l).mx ∧ sumP l - (sumP l).tdiv l.length * l.length < l.length ∧ -(l.length : Int) < sumP l - (sumP l).tdiv l.length * l.length ∧
    (0 ≤ sumP l → 0 ≤ sumP l - (sumP l).tdiv l.length * l.length) ∧ (sumP l ≤ 0 → sumP l - (sumP l).tdiv l.length * l.length ≤ 0) := by
  have hlen : 0 < l.length := List.length_pos_iff.2 hne
  have hm := fold_min l (by omega)
  obtain ⟨⟨q1, hq1, e1⟩, ⟨q2, hq2, e2⟩⟩ := hm.2 hne
  have hb := sumP_le l _ _ hm.1
  have hb1 := h q1 hq1
  have hb2 := h q2 hq2
  have M := mean_is (sumP l) l.length _ _ (by omega) hb.1 hb.2
  refine ⟨?_, M⟩
  unfold meanV
  rw [(fold_good l (by omega)).2, fold_sum l h hl, if_neg (by omega), if_pos (by omega)]
theorem mean_nil : meanV (foldV []) = (0, false) := by decide
/-- The reference's way: bit by bit. -/
theorem bits_step (F b : Int) (hb : 0 < b) (hF : 0 ≤ F) : F / b * b = if F / (2 * b) * (2 * b) + b ≤ F then F / (2 * b) * (2 * b) + b else F / (2 * b) * (2 * b) := by
  have h1 := Int.mul_ediv_add_emod F (2 * b)
  have h2 := Int.emod_nonneg F (show 2 * b ≠ 0 by omega)
  have h3 := Int.emod_lt_of_pos F (show 0 < 2 * b by omega)
  generalize hq : F / (2 * b) = q at *
  generalize F % (2 * b) = r at *
  have e : 2 * b * q = q * (2 * b) := Int.mul_comm _ _
  rw [e] at h1
  have e2 : q * (2 * b) = (2 * q) * b := by rw [← Int.mul_assoc, Int.mul_comm q 2]
  split
  · have : F / b = 2 * q + 1 := by
      have a1 : 2 * q + 1 ≤ F / b := by rw [Int.le_ediv_iff_mul_le hb, Int.add_mul]; omega
      have a2 : F / b < 2 * q + 2 := by rw [Int.ediv_lt_iff_lt_mul hb, Int.add_mul]; omega
      omega
    rw [this, Int.add_mul, e2]; omega
  · have : F / b = 2 * q := by
      have a1 : 2 * q ≤ F / b := by rw [Int.le_ediv_iff_mul_le hb]; omega
      have a2 : F / b < 2 * q + 1 := by rw [Int.ediv_lt_iff_lt_mul hb, Int.add_mul]; omega
      omega
    rw [this, e2]
end
end Go.Proofs.Ytojnooagifhekaa
