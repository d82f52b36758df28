/- Texts as bytes; the reference's All. Plain law: vectors out of a reader, and back. Vectors read: mark.Read; the reference's Text, TakeVector, Read. The reference's Text, TakeVector, Read. -/
import Derived.Test.YtglabahbklpocaaGreatGShipPacks20
import Derived.Test.YtglabahbklpocaaGreatGShipPacks1
import Derived.Test.YtglabahbklpocaaGreatGShipPacks6
import Derived.Test.YtglabahbklpocaaGreatGShipPacks17
import Derived.Test.YtglabahbklpocaaGreatGShipPacks5
import Derived.Test.YtglabahbklpocaaGreatGShipPacks7
namespace Go.Proofs.YtglabahbklpocaaGreat
section
open Go.RowKit
set_option maxRecDepth 100000
set_option linter.unusedVariables false
set_option linter.unusedSimpArgs false
def vtext (s : ByteArray) : ByteArray := vput (s.size : Int) ++ s
set_option maxHeartbeats 400000 in
theorem text_any (s : ByteArray) (w : World) (hs : s.size ≤ 1000000000) :
    Calls Tryz.prog 40 #[.string s] w fun e w' => e = .returned (.string (vtext s)) ∧ Below w.heap.size w w' := by
  have hz := vput_le (s.size : Int)
  go_enter Tryz.func40, Tryz.ntmps40
  go_wp2_with fail
  refine (put_any _ _ (by omega) (by omega)).mono ?_
  rintro e w1 ⟨rfl, hb1⟩
  go_wp2
  go_ret
  exact ⟨rfl, hb1⟩
end
end Go.Proofs.YtglabahbklpocaaGreat
namespace Go.Proofs.YtglabahbklpocaaGreat
section
set_option maxRecDepth 100000
set_option linter.unusedVariables false
set_option linter.unusedSimpArgs false
/-- What is still to be read. -/
def Rdr.rest (r : Rdr) : List UInt8 := r.s.data.toList.drop r.pos.toNat
theorem vget_some {s : ByteArray} {p v p' : Int} (h : vget s p = (v, p', 0)) : 0 ≤ p ∧ 0 ≤ v ∧ s.data.toList.drop p.toNat = putB 9 v ++ s.data.toList.drop p'.toNat ∧ p ≤ p' ∧ p' ≤ s.size := by
  unfold vget at h
  split at h
  · simp at h
  · rename_i hp
    cases hg : getL 10 (s.data.toList.drop p.toNat) with
    | none => rw [hg] at h; simp at h
    | some q =>
      obtain ⟨V, c⟩ := q
      rw [hg] at h
      simp only at h
      split at h
      · rename_i hc
        simp only [Prod.mk.injEq, and_true] at h
        obtain ⟨rfl, rfl⟩ := h
        obtain ⟨h1, h2, h3, h4, h5, h6⟩ := getL_some 10 _ V c hg
        have ht := put_getL 10 _ V c 9 hg hc.2 (by omega)
        have hl : (s.data.toList.drop p.toNat).length = s.size - p.toNat := by simp
        refine ⟨by omega, h1, ?_, by omega, by omega⟩
        rw [← ht, show (p + (c : Int)).toNat = p.toNat + c by omega, ← List.drop_drop, List.take_append_drop]
      · simp at h
theorem vget_at {s : ByteArray} {p v : Int} {t : List UInt8} (hp0 : 0 ≤ p) (hp : p ≤ s.size) (h : s.data.toList.drop p.toNat = putB 9 v ++ t) (h0 : 0 ≤ v) (h1 : v < 18446744073709551616) :
    vget s p = (v, p + ((putI 9 v).length : Int), 0) ∧ s.data.toList.drop (p + ((putI 9 v).length : Int)).toNat = t ∧ p + ((putI 9 v).length : Int) ≤ s.size := by
  have hl : (s.data.toList.drop p.toNat).length = s.size - p.toNat := by simp
  have hz := putI_pos 9 v
  have hb : (putB 9 v).length = (putI 9 v).length := by simp [putB]
  rw [h, List.length_append, hb] at hl
  refine ⟨?_, ?_, by omega⟩
  · unfold vget
    rw [if_neg (by omega), h, getL_put 9 v _ h0 (by simp only [Int.reducePow]; omega)]
    exact if_pos ⟨h1, putI_canon 9 v h0⟩
  · rw [show (p + ((putI 9 v).length : Int)).toNat = p.toNat + (putB 9 v).length by rw [hb]; omega, ← List.drop_drop, h]
    exact List.drop_left' rfl
theorem small_good {r : Rdr} {most : Int} (hr : r.ok) (h : (r.small most).2.bad = false) :
    r.bad = false ∧ 0 ≤ (r.small most).1 ∧ (r.small most).1 ≤ most ∧ r.rest = putB 9 (r.small most).1 ++ (r.small most).2.rest := by
  have hk := Rdr.num_ok hr
  unfold Rdr.small at *
  split at h
  · simp at h
  · rename_i hc
    rw [if_neg hc]
    have hb : r.num.2.bad = false := by
      rcases hh : r.num.2.bad with _ | _
      · rfl
      · exact absurd (.inl hh) hc
    have hv : ¬ most < r.num.1 := fun x => hc (.inr (.inr x))
    unfold Rdr.num at hb hv hk ⊢
    split at hb
    · rename_i h1; rw [h1] at hb; cases hb
    · rename_i h1
      rw [if_neg h1] at hv hk ⊢
      split at hb
      · rename_i h2
        rw [if_pos h2] at hv hk ⊢
        have hg : vget r.s r.pos = ((vget r.s r.pos).1, (vget r.s r.pos).2.1, 0) := by rw [← h2]
        obtain ⟨g1, g2, g3, g4, g5⟩ := vget_some hg
        refine ⟨by simpa using h1, g2, by simp only at hv ⊢; omega, ?_⟩
        exact g3
      · simp at hb
theorem small_at {r : Rdr} {most v : Int} {t : List UInt8} (hr : r.ok) (hb : r.bad = false) (h : r.rest = putB 9 v ++ t) (h0 : 0 ≤ v) (h1 : v ≤ most) (hm : most ≤ 9223372036854775807) :
    (r.small most).1 = v ∧ (r.small most).2.bad = false ∧ (r.small most).2.rest = t := by
  obtain ⟨a1, a2, a3⟩ := hr
  obtain ⟨g1, g2, g3⟩ := vget_at a2 a3 h h0 (by omega)
  have hn : r.num = (v, { r with pos := r.pos + ((putI 9 v).length : Int) }) := by
    unfold Rdr.num
    rw [if_neg (by rw [hb]; decide), g1]
    simp
  unfold Rdr.small
  rw [hn]
  simp only
  rw [if_neg (by rw [hb]; simp; omega)]
  exact ⟨rfl, hb, g2⟩
def takeN : Nat → Rdr → List Int × Rdr
  | 0, r => ([], r)
  | n + 1, r => ((takeN n r).1 ++ [((takeN n r).2.small 1099511627776).1], ((takeN n r).2.small 1099511627776).2)
theorem takeN_length (n : Nat) (r : Rdr) : (takeN n r).1.length = n := by
  induction n with
  | zero => rfl
  | succ n ih => simp [takeN, ih]
theorem takeN_ok {r : Rdr} (hr : r.ok) (n : Nat) : (takeN n r).2.ok ∧ (takeN n r).2.s = r.s := by
  induction n with
  | zero => exact ⟨hr, rfl⟩
  | succ n ih =>
    have := Rdr.small_ok ih.1 1099511627776
    exact ⟨this.1, this.2.trans ih.2⟩
theorem takeN_good {r : Rdr} (hr : r.ok) (n : Nat) (h : (takeN n r).2.bad = false) : r.bad = false ∧ (∀ x ∈ (takeN n r).1, 0 ≤ x ∧ x ≤ 1099511627776) ∧ r.rest = mcat (takeN n r).1 ++ (takeN n r).2.rest := by
  induction n with
  | zero => exact ⟨h, by simp [takeN], by simp [takeN, mcat]⟩
  | succ n ih =>
    obtain ⟨g1, g2, g3, g4⟩ := small_good (takeN_ok hr n).1 h
    obtain ⟨i1, i2, i3⟩ := ih g1
    refine ⟨i1, ?_, ?_⟩
    · intro x hx
      simp only [takeN, List.mem_append, List.mem_singleton] at hx
      rcases hx with hx | rfl
      · exact i2 x hx
      · exact ⟨g2, g3⟩
    · simp only [takeN]
      rw [mcat_append, mcat_one, List.append_assoc, ← g4, ← i3]
theorem takeN_at {r : Rdr} (hr : r.ok) (hb : r.bad = false) (l : List Int) (t : List UInt8) (hl : ∀ x ∈ l, 0 ≤ x ∧ x ≤ 1099511627776) (h : r.rest = mcat l ++ t) (n : Nat) (hn : n ≤ l.length) :
    (takeN n r).1 = l.take n ∧ (takeN n r).2.bad = false ∧ (takeN n r).2.rest = mcat (l.drop n) ++ t := by
  induction n with
  | zero => exact ⟨by simp [takeN], hb, by simpa [takeN] using h⟩
  | succ n ih =>
    obtain ⟨i1, i2, i3⟩ := ih (by omega)
    have hlt : n < l.length := by omega
    have hx := hl l[n] (List.getElem_mem hlt)
    rw [List.drop_eq_getElem_cons hlt, show l[n] :: l.drop (n + 1) = [l[n]] ++ l.drop (n + 1) from rfl, mcat_append, mcat_one, List.append_assoc] at i3
    obtain ⟨s1, s2, s3⟩ := small_at (takeN_ok hr n).1 i2 i3 hx.1 hx.2 (by decide)
    refine ⟨?_, s2, s3⟩
    simp only [takeN]
    rw [i1, s1, List.take_succ_eq_append_getElem hlt]
def r0 (s : ByteArray) : Rdr := ⟨s, 0, false⟩
def tkV (r : Rdr) : List Int × Rdr := takeN (r.small 8).1.toNat (r.small 8).2
theorem r0_ok {s : ByteArray} (hs : s.size ≤ 1000000000) : (r0 s).ok := ⟨hs, Int.le_refl _, by show (0 : Int) ≤ _; omega⟩
theorem r0_rest (s : ByteArray) : (r0 s).rest = s.data.toList := rfl
theorem fin_rest {r : Rdr} (hr : r.ok) : r.fin = 0 ↔ r.bad = false ∧ r.rest = [] := by
  obtain ⟨a1, a2, a3⟩ := hr
  have hl : r.rest.length = r.s.size - r.pos.toNat := by simp [Rdr.rest]
  unfold Rdr.fin
  constructor
  · intro h
    split at h
    · cases h
    · rename_i hc
      have hb : r.bad = false := by
        rcases hh : r.bad with _ | _
        · rfl
        · exact absurd (.inl hh) hc
      have : ¬ r.pos < (r.s.size : Int) := fun x => hc (.inr x)
      exact ⟨hb, List.eq_nil_of_length_eq_zero (by omega)⟩
  · rintro ⟨h1, h2⟩
    rw [h2] at hl
    simp at hl
    rw [if_neg (by rw [h1]; simp; omega)]
end
end Go.Proofs.YtglabahbklpocaaGreat
namespace Go.Proofs.YtglabahbklpocaaGreat
section
open Go.RowKit
set_option maxRecDepth 100000
set_option linter.unusedVariables false
set_option linter.unusedSimpArgs false
theorem small8 {r : Rdr} (hr : r.ok) : 0 ≤ (r.small 8).1 ∧ (r.small 8).1 ≤ 8 := by
  rcases hb : (r.small 8).2.bad with _ | _
  · have := small_good hr hb
    omega
  · have := Rdr.small_bad 8 hb
    omega
end
end Go.Proofs.YtglabahbklpocaaGreat
namespace Go.Proofs.YtglabahbklpocaaGreat
section
open Go.RowKit
set_option maxRecDepth 100000
set_option linter.unusedVariables false
set_option linter.unusedSimpArgs false
theorem ba_size (l : List UInt8) : (⟨l.toArray⟩ : ByteArray).size = l.length := by simp [ByteArray.size]
theorem vput_ba (x : Int) : vput x = ⟨(putB 9 x).toArray⟩ := by
  apply ByteArray.ext
  apply Array.ext'
  rw [vput_data]
theorem tkV_ok {r : Rdr} (h : r.ok) : (tkV r).2.ok ∧ (tkV r).2.s = r.s := by
  have h1 := Rdr.small_ok h 8
  have h2 := takeN_ok h1.1 (r.small 8).1.toNat
  exact ⟨h2.1, h2.2.trans h1.2⟩
end
end Go.Proofs.YtglabahbklpocaaGreat
