/- Plain law of the numbers as bytes: what was put is read again, and only that. No program is in sight. -/
import Derived.Test.YtglabahbklpocaaGShipMany3
namespace Go.Proofs.Ytglabahbklpocaa
section
open Go.RowKit
set_option maxRecDepth 100000
set_option linter.unusedVariables false
set_option linter.unusedSimpArgs false
def putB (f : Nat) (n : Int) : List UInt8 := (putI f n).map fun x => UInt8.ofNat x.toNat
theorem vput_data (n : Int) : (vput n).data.toList = putB 9 n := rfl
theorem u8_of (x : Int) (h0 : 0 ≤ x) (h1 : x < 256) : ((UInt8.ofNat x.toNat).toNat : Int) = x := by
  rw [UInt8.toNat_ofNat_of_lt' (by simp [UInt8.size]; omega)]; omega
theorem putI_small (f : Nat) (n : Int) (h : n < 128) : putI f n = [n] := by
  cases f with
  | zero => rfl
  | succ f => simp [putI, h]
theorem putI_big (f : Nat) (n : Int) (h : ¬ n < 128) : putI (f + 1) n = (n % 128 + 128) :: putI f (n / 128) := by simp [putI, h]
theorem putB_small (f : Nat) (n : Int) (h : n < 128) : putB f n = [UInt8.ofNat n.toNat] := by simp [putB, putI_small f n h]
theorem putB_big (f : Nat) (n : Int) (h : ¬ n < 128) : putB (f + 1) n = UInt8.ofNat (n % 128 + 128).toNat :: putB f (n / 128) := by simp [putB, putI_big f n h]
theorem putI_pos (f : Nat) (n : Int) : 1 ≤ (putI f n).length := by
  cases f with
  | zero => simp [putI]
  | succ f => simp only [putI]; split <;> simp
theorem putI_le (f : Nat) (n : Int) : (putI f n).length ≤ f + 1 := by
  induction f generalizing n with
  | zero => simp [putI]
  | succ f ih =>
    simp only [putI]
    split
    · simp
    · have := ih (n / 128); simp; omega
/-- What was put is read. -/
theorem getL_put (f : Nat) (n : Int) (rest : List UInt8) (h0 : 0 ≤ n) (h1 : n < 128 ^ f * 128) : getL (f + 1) (putB f n ++ rest) = some (n, (putI f n).length) := by
  induction f generalizing n with
  | zero =>
    have hs : n < 128 := by simpa using h1
    rw [putB_small 0 n hs, List.singleton_append, getL_cons, u8_of n h0 (by omega), if_pos hs]; rfl
  | succ f ih =>
    by_cases hs : n < 128
    · rw [putB_small _ n hs, List.singleton_append, getL_cons, u8_of n h0 (by omega), if_pos hs, putI_small _ n hs]; rfl
    · rw [putB_big f n hs, List.cons_append, getL_cons, u8_of _ (by omega) (by omega), if_neg (by omega), ih (n / 128) (by omega) (by rw [Int.pow_succ] at h1; exact Int.ediv_lt_of_lt_mul (by omega) (by omega)), putI_big f n hs]
      simp only [Option.map_some, List.length_cons, Option.some.injEq, Prod.mk.injEq, and_true]
      omega
/-- The number and its length are of the shortest form. -/
theorem putI_canon (f : Nat) (n : Int) (h0 : 0 ≤ n) : (putI f n).length = 1 ∨ (128 : Int) ^ ((putI f n).length - 1) ≤ n := by
  induction f generalizing n with
  | zero => left; rfl
  | succ f ih =>
    by_cases hs : n < 128
    · left; rw [putI_small _ n hs]; rfl
    · right
      rw [putI_big f n hs, List.length_cons, Nat.add_sub_cancel]
      have hp := putI_pos f (n / 128)
      rcases ih (n / 128) (by omega) with h | h
      · rw [h]; simp only [Int.pow_one]; omega
      · obtain ⟨q, hq⟩ : ∃ q, (putI f (n / 128)).length = q + 1 := ⟨(putI f (n / 128)).length - 1, by omega⟩
        rw [hq, Nat.add_sub_cancel] at h
        rw [hq, Int.pow_succ]
        omega
theorem getL_some (f : Nat) (l : List UInt8) (V : Int) (c : Nat) (h : getL f l = some (V, c)) : 0 ≤ V ∧ 1 ≤ c ∧ c ≤ l.length ∧ c ≤ f ∧ getL f (l.take c) = some (V, c) ∧ ∀ r, getL f (l.take c ++ r) = some (V, c) := by
  induction f generalizing l V c with
  | zero => exact absurd (show (none : Option (Int × Nat)) = some (V, c) from h) (by simp)
  | succ f ih =>
    cases l with
    | nil => exact absurd (show (none : Option (Int × Nat)) = some (V, c) from h) (by simp)
    | cons b r =>
      rw [getL_cons] at h
      by_cases hb : (b.toNat : Int) < 128
      · rw [if_pos hb] at h
        simp only [Option.some.injEq, Prod.mk.injEq] at h
        obtain ⟨rfl, rfl⟩ := h
        refine ⟨by omega, by omega, by simp, by omega, ?_, fun r' => ?_⟩
        · rw [List.take_succ_cons, getL_cons, if_pos hb]
        · rw [List.take_succ_cons, List.cons_append, getL_cons, if_pos hb]
      · rw [if_neg hb] at h
        cases hg : getL f r with
        | none => simp [hg] at h
        | some p =>
          obtain ⟨V', c'⟩ := p
          simp only [hg, Option.map_some, Option.some.injEq, Prod.mk.injEq] at h
          obtain ⟨rfl, rfl⟩ := h
          obtain ⟨h1, h2, h3, h4, h5, h6⟩ := ih r V' c' hg
          refine ⟨by omega, by omega, by simp; omega, by omega, ?_, fun r' => ?_⟩
          · rw [List.take_succ_cons, getL_cons, if_neg hb, h5]; rfl
          · rw [List.take_succ_cons, List.cons_append, getL_cons, if_neg hb, h6]; rfl
/-- What is read in the shortest form was put. -/
theorem put_getL (f : Nat) (l : List UInt8) (V : Int) (c : Nat) (F : Nat) (h : getL f l = some (V, c)) (hc : c = 1 ∨ (128 : Int) ^ (c - 1) ≤ V) (hF : c ≤ F + 1) : l.take c = putB F V := by
  induction f generalizing l V c F with
  | zero => exact absurd (show (none : Option (Int × Nat)) = some (V, c) from h) (by simp)
  | succ f ih =>
    cases l with
    | nil => exact absurd (show (none : Option (Int × Nat)) = some (V, c) from h) (by simp)
    | cons b r =>
      rw [getL_cons] at h
      have hlt := b.toNat_lt
      by_cases hb : (b.toNat : Int) < 128
      · rw [if_pos hb] at h
        simp only [Option.some.injEq, Prod.mk.injEq] at h
        obtain ⟨rfl, rfl⟩ := h
        rw [putB_small F _ hb]
        simp
      · rw [if_neg hb] at h
        cases hg : getL f r with
        | none => simp [hg] at h
        | some p =>
          obtain ⟨V', c'⟩ := p
          simp only [hg, Option.map_some, Option.some.injEq, Prod.mk.injEq] at h
          obtain ⟨rfl, rfl⟩ := h
          obtain ⟨h1, h2, h3, h4, h5, h6⟩ := getL_some f r V' c' hg
          obtain ⟨F, rfl⟩ : ∃ k, F = k + 1 := ⟨F - 1, by omega⟩
          rw [Nat.add_sub_cancel] at hc
          have hbig : (128 : Int) ^ c' ≤ (b.toNat : Int) - 128 + 128 * V' := by omega
          have e : c' = (c' - 1) + 1 := by omega
          have hp : (0 : Int) < 128 ^ (c' - 1) := Int.pow_pos (by decide)
          rw [e, Int.pow_succ] at hbig
          have hq : ¬ ((b.toNat : Int) - 128 + 128 * V' < 128) := by omega
          have hd : ((b.toNat : Int) - 128 + 128 * V') / 128 = V' := by omega
          have hm : ((b.toNat : Int) - 128 + 128 * V') % 128 + 128 = (b.toNat : Int) := by omega
          rw [putB_big F _ hq, hd, hm, List.take_succ_cons, ih r V' c' F hg (by right; omega) (by omega)]
          simp
/-- The digits' number. -/
def digV : List UInt8 → Int
  | [] => 0
  | b :: r => (b.toNat : Int) % 128 + 128 * digV r
theorem digV_nn (l : List UInt8) : 0 ≤ digV l := by
  induction l with
  | nil => simp [digV]
  | cons b r ih => simp only [digV]; omega
theorem getL_digV (f : Nat) (l : List UInt8) (V : Int) (c : Nat) (h : getL f l = some (V, c)) : V = digV (l.take c) := by
  induction f generalizing l V c with
  | zero => exact absurd (show (none : Option (Int × Nat)) = some (V, c) from h) (by simp)
  | succ f ih =>
    cases l with
    | nil => exact absurd (show (none : Option (Int × Nat)) = some (V, c) from h) (by simp)
    | cons b r =>
      rw [getL_cons] at h
      have hlt := b.toNat_lt
      by_cases hb : (b.toNat : Int) < 128
      · rw [if_pos hb] at h
        simp only [Option.some.injEq, Prod.mk.injEq] at h
        obtain ⟨rfl, rfl⟩ := h
        simp [digV]; omega
      · rw [if_neg hb] at h
        cases hg : getL f r with
        | none => simp [hg] at h
        | some p =>
          obtain ⟨V', c'⟩ := p
          simp only [hg, Option.map_some, Option.some.injEq, Prod.mk.injEq] at h
          obtain ⟨rfl, rfl⟩ := h
          rw [List.take_succ_cons, digV, ← ih r V' c' hg]
          omega
/-- A number that was put, modulo 2^64, is what stands there just where it is the shortest form of a number below 2^64. -/
theorem put_iff (l : List UInt8) (V : Int) (c : Nat) (h : getL 10 l = some (V, c)) :
    putB 9 (V % 18446744073709551616) = l.take c ↔ (V < 18446744073709551616 ∧ (c = 1 ∨ (128 : Int) ^ (c - 1) ≤ V)) := by
  obtain ⟨h1, h2, h3, h4, h5, h6⟩ := getL_some 10 l V c h
  constructor
  · intro he
    have hm0 : 0 ≤ V % 18446744073709551616 := by omega
    have hm1 : V % 18446744073709551616 < 18446744073709551616 := by omega
    have hg := getL_put 9 (V % 18446744073709551616) [] hm0 (by simp only [Int.reducePow]; omega)
    rw [List.append_nil, he, h5] at hg
    simp only [Option.some.injEq, Prod.mk.injEq] at hg
    obtain ⟨e1, e2⟩ := hg
    refine ⟨by omega, ?_⟩
    have hc := putI_canon 9 (V % 18446744073709551616) hm0
    rw [← e2, ← e1] at hc
    exact hc
  · rintro ⟨hv, hc⟩
    rw [Int.emod_eq_of_lt h1 hv]
    exact (put_getL 10 l V c 9 h hc (by omega)).symm
end
end Go.Proofs.Ytglabahbklpocaa
