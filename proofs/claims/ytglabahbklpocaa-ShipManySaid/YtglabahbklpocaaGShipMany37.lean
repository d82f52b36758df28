/- Plain law: vectors out of a reader, and back. Vectors read: mark.Read; the reference's Text, TakeVector, Read. The reference's Text, TakeVector, Read. -/
import Derived.Test.YtglabahbklpocaaGShipMany14
import Derived.Test.YtglabahbklpocaaGShipMany28
import Derived.Test.YtglabahbklpocaaGShipMany29
import Derived.Test.YtglabahbklpocaaGShipMany10
import Derived.Test.YtglabahbklpocaaGShipMany17
import Derived.Test.YtglabahbklpocaaGShipMany15
namespace Go.Proofs.Ytglabahbklpocaa
section
set_option maxRecDepth 100000
set_option linter.unusedVariables false
set_option linter.unusedSimpArgs false
/-- What is still to be read. -/
def Rdr.rest (r : Rdr) : List UInt8 := r.s.data.toList.drop r.pos.toNat
theorem vget_some {s : ByteArray} {p v p' : Int} (h : vget s p = (v, p', 0)) : 0 ≤ p ∧ 0 ≤ v ∧ s.data.toList.drop p.toNat = putB 9 v ++ s.data.toList.drop p'.toNat ∧ p ≤ p' ∧ p' ≤ s.size := by
  unfold vget at h
  split at h
  · simp at h
  · rename_i hp
    cases hg : getL 10 (s.data.toList.drop p.toNat) with
    | none => rw [hg] at h; simp at h
    | some q =>
      obtain ⟨V, c⟩ := q
      rw [hg] at h
      simp only at h
      split at h
      · rename_i hc
        simp only [Prod.mk.injEq, and_true] at h
        obtain ⟨rfl, rfl⟩ := h
        obtain ⟨h1, h2, h3, h4, h5, h6⟩ := getL_some 10 _ V c hg
        have ht := put_getL 10 _ V c 9 hg hc.2 (by omega)
        have hl : (s.data.toList.drop p.toNat).length = s.size - p.toNat := by simp
        refine ⟨by omega, h1, ?_, by omega, by omega⟩
        rw [← ht, show (p + (c : Int)).toNat = p.toNat + c by omega, ← List.drop_drop, List.take_append_drop]
      · simp at h
theorem vget_at {s : ByteArray} {p v : Int} {t : List UInt8} (hp0 : 0 ≤ p) (hp : p ≤ s.size) (h : s.data.toList.drop p.toNat = putB 9 v ++ t) (h0 : 0 ≤ v) (h1 : v < 18446744073709551616) :
    vget s p = (v, p + ((putI 9 v).length : Int), 0) ∧ s.data.toList.drop (p + ((putI 9 v).length : Int)).toNat = t ∧ p + ((putI 9 v).length : Int) ≤ s.size := by
  have hl : (s.data.toList.drop p.toNat).length = s.size - p.toNat := by simp
  have hz := putI_pos 9 v
  have hb : (putB 9 v).length = (putI 9 v).length := by simp [putB]
  rw [h, List.length_append, hb] at hl
  refine ⟨?_, ?_, by omega⟩
  · unfold vget
    rw [if_neg (by omega), h, getL_put 9 v _ h0 (by simp only [Int.reducePow]; omega)]
    exact if_pos ⟨h1, putI_canon 9 v h0⟩
  · rw [show (p + ((putI 9 v).length : Int)).toNat = p.toNat + (putB 9 v).length by rw [hb]; omega, ← List.drop_drop, h]
    exact List.drop_left' rfl
theorem small_good {r : Rdr} {most : Int} (hr : r.ok) (h : (r.small most).2.bad = false) :
    r.bad = false ∧ 0 ≤ (r.small most).1 ∧ (r.small most).1 ≤ most ∧ r.rest = putB 9 (r.small most).1 ++ (r.small most).2.rest := by
  have hk := Rdr.num_ok hr
  unfold Rdr.small at *
  split at h
  · simp at h
  · rename_i hc
    rw [if_neg hc]
    have hb : r.num.2.bad = false := by
      rcases hh : r.num.2.bad with _ | _
      · rfl
      · exact absurd (.inl hh) hc
    have hv : ¬ most < r.num.1 := fun x => hc (.inr (.inr x))
    unfold Rdr.num at hb hv hk ⊢
    split at hb
    · rename_i h1; rw [h1] at hb; cases hb
    · rename_i h1
      rw [if_neg h1] at hv hk ⊢
      split at hb
      · rename_i h2
        rw [if_pos h2] at hv hk ⊢
        have hg : vget r.s r.pos = ((vget r.s r.pos).1, (vget r.s r.pos).2.1, 0) := by rw [← h2]
        obtain ⟨g1, g2, g3, g4, g5⟩ := vget_some hg
        refine ⟨by simpa using h1, g2, by simp only at hv ⊢; omega, ?_⟩
        exact g3
      · simp at hb
theorem small_at {r : Rdr} {most v : Int} {t : List UInt8} (hr : r.ok) (hb : r.bad = false) (h : r.rest = putB 9 v ++ t) (h0 : 0 ≤ v) (h1 : v ≤ most) (hm : most ≤ 9223372036854775807) :
    (r.small most).1 = v ∧ (r.small most).2.bad = false ∧ (r.small most).2.rest = t := by
  obtain ⟨a1, a2, a3⟩ := hr
  obtain ⟨g1, g2, g3⟩ := vget_at a2 a3 h h0 (by omega)
  have hn : r.num = (v, { r with pos := r.pos + ((putI 9 v).length : Int) }) := by
    unfold Rdr.num
    rw [if_neg (by rw [hb]; decide), g1]
    simp
  unfold Rdr.small
  rw [hn]
  simp only
  rw [if_neg (by rw [hb]; simp; omega)]
  exact ⟨rfl, hb, g2⟩
def takeN : Nat → Rdr → List Int × Rdr
  | 0, r => ([], r)
  | n + 1, r => ((takeN n r).1 ++ [((takeN n r).2.small 1099511627776).1], ((takeN n r).2.small 1099511627776).2)
theorem takeN_length (n : Nat) (r : Rdr) : (takeN n r).1.length = n := by
  induction n with
  | zero => rfl
  | succ n ih => simp [takeN, ih]
theorem takeN_ok {r : Rdr} (hr : r.ok) (n : Nat) : (takeN n r).2.ok ∧ (takeN n r).2.s = r.s := by
  induction n with
  | zero => exact ⟨hr, rfl⟩
  | succ n ih =>
    have := Rdr.small_ok ih.1 1099511627776
    exact ⟨this.1, this.2.trans ih.2⟩
theorem takeN_good {r : Rdr} (hr : r.ok) (n : Nat) (h : (takeN n r).2.bad = false) : r.bad = false ∧ (∀ x ∈ (takeN n r).1, 0 ≤ x ∧ x ≤ 1099511627776) ∧ r.rest = mcat (takeN n r).1 ++ (takeN n r).2.rest := by
  induction n with
  | zero => exact ⟨h, by simp [takeN], by simp [takeN, mcat]⟩
  | succ n ih =>
    obtain ⟨g1, g2, g3, g4⟩ := small_good (takeN_ok hr n).1 h
    obtain ⟨i1, i2, i3⟩ := ih g1
    refine ⟨i1, ?_, ?_⟩
    · intro x hx
      simp only [takeN, List.mem_append, List.mem_singleton] at hx
      rcases hx with hx | rfl
      · exact i2 x hx
      · exact ⟨g2, g3⟩
    · simp only [takeN]
      rw [mcat_append, mcat_one, List.append_assoc, ← g4, ← i3]
theorem takeN_range {r : Rdr} (hr : r.ok) (n : Nat) : ∀ x ∈ (takeN n r).1, 0 ≤ x ∧ x ≤ 1099511627776 := by
  induction n with
  | zero => simp [takeN]
  | succ n ih =>
    intro x hx
    simp only [takeN, List.mem_append, List.mem_singleton] at hx
    rcases hx with hx | rfl
    · exact ih x hx
    · rcases hb : ((takeN n r).2.small 1099511627776).2.bad with _ | _
      · have := small_good (takeN_ok hr n).1 hb
        exact ⟨this.2.1, this.2.2.1⟩
      · have : ((takeN n r).2.small 1099511627776).1 = 0 := by
          unfold Rdr.small at *
          split at hb
          · rename_i hc; rw [if_pos hc]
          · rename_i hc
            exact absurd (.inl hb) hc
        omega
theorem takeN_at {r : Rdr} (hr : r.ok) (hb : r.bad = false) (l : List Int) (t : List UInt8) (hl : ∀ x ∈ l, 0 ≤ x ∧ x ≤ 1099511627776) (h : r.rest = mcat l ++ t) (n : Nat) (hn : n ≤ l.length) :
    (takeN n r).1 = l.take n ∧ (takeN n r).2.bad = false ∧ (takeN n r).2.rest = mcat (l.drop n) ++ t := by
  induction n with
  | zero => exact ⟨by simp [takeN], hb, by simpa [takeN] using h⟩
  | succ n ih =>
    obtain ⟨i1, i2, i3⟩ := ih (by omega)
    have hlt : n < l.length := by omega
    have hx := hl l[n] (List.getElem_mem hlt)
    rw [List.drop_eq_getElem_cons hlt, show l[n] :: l.drop (n + 1) = [l[n]] ++ l.drop (n + 1) from rfl, mcat_append, mcat_one, List.append_assoc] at i3
    obtain ⟨s1, s2, s3⟩ := small_at (takeN_ok hr n).1 i2 i3 hx.1 hx.2 (by decide)
    refine ⟨?_, s2, s3⟩
    simp only [takeN]
    rw [i1, s1, List.take_succ_eq_append_getElem hlt]
def r0 (s : ByteArray) : Rdr := ⟨s, 0, false⟩
def tkV (r : Rdr) : List Int × Rdr := takeN (r.small 8).1.toNat (r.small 8).2
def readM (s : ByteArray) : List Int × Int := if (tkV (r0 s)).2.fin = 0 ∧ (tkV (r0 s)).1 = pl (tkV (r0 s)).1 then ((tkV (r0 s)).1, 0) else ([], 10)
theorem r0_ok {s : ByteArray} (hs : s.size ≤ 1000000000) : (r0 s).ok := ⟨hs, Int.le_refl _, by show (0 : Int) ≤ _; omega⟩
theorem r0_rest (s : ByteArray) : (r0 s).rest = s.data.toList := rfl
theorem fin_rest {r : Rdr} (hr : r.ok) : r.fin = 0 ↔ r.bad = false ∧ r.rest = [] := by
  obtain ⟨a1, a2, a3⟩ := hr
  have hl : r.rest.length = r.s.size - r.pos.toNat := by simp [Rdr.rest]
  unfold Rdr.fin
  constructor
  · intro h
    split at h
    · cases h
    · rename_i hc
      have hb : r.bad = false := by
        rcases hh : r.bad with _ | _
        · rfl
        · exact absurd (.inl hh) hc
      have : ¬ r.pos < (r.s.size : Int) := fun x => hc (.inr x)
      exact ⟨hb, List.eq_nil_of_length_eq_zero (by omega)⟩
  · rintro ⟨h1, h2⟩
    rw [h2] at hl
    simp at hl
    rw [if_neg (by rw [h1]; simp; omega)]
theorem text_read (s : ByteArray) (hs : s.size ≤ 1000000000) (h : (readM s).2 = 0) : (⟨(mtB (pl (readM s).1)).toArray⟩ : ByteArray) = s := by
  unfold readM at *
  split at h
  · rename_i hc
    rw [if_pos hc]
    simp only
    rw [← hc.2]
    have h1 := Rdr.small_ok (r0_ok hs) 8
    have h2 := takeN_ok h1.1 ((r0 s).small 8).1.toNat
    obtain ⟨f1, f2⟩ := (fin_rest h2.1).1 hc.1
    obtain ⟨g1, g2, g3⟩ := takeN_good h1.1 _ f1
    obtain ⟨k1, k2, k3, k4⟩ := small_good (r0_ok hs) g1
    have hlen := takeN_length ((r0 s).small 8).1.toNat ((r0 s).small 8).2
    rw [f2, List.append_nil] at g3
    rw [g3, r0_rest] at k4
    apply ByteArray.ext
    apply Array.ext'
    rw [k4]
    unfold mtB tkV
    rw [hlen, show ((((r0 s).small 8).1.toNat : Nat) : Int) = ((r0 s).small 8).1 by omega]
  · cases h
theorem read_text (xs : List Int) : readM ⟨(mtB (pl xs)).toArray⟩ = (pl xs, 0) := by
  have hl8 := pl_length xs
  have hz : (⟨(mtB (pl xs)).toArray⟩ : ByteArray).size ≤ 1000000000 := by
    have h1 := mcat_length (pl xs)
    have h2 := putB_le ((pl xs).length : Int)
    show (mtB (pl xs)).toArray.size ≤ _
    simp [mtB]
    omega
  have hr : ∀ x ∈ pl xs, 0 ≤ x ∧ x ≤ 1099511627776 := by
    intro x hx
    obtain ⟨i, hi, rfl⟩ := List.mem_iff_getElem.1 hx
    have := pl_range xs i
    rw [List.getD_eq_getElem?_getD, List.getElem?_eq_getElem hi] at this
    exact this
  obtain ⟨s1, s2, s3⟩ := small_at (most := 8) (v := ((pl xs).length : Int)) (t := mcat (pl xs) ++ []) (r0_ok hz) rfl (by rw [r0_rest]; simp [mtB]) (by omega) (by omega) (by decide)
  have h1 := Rdr.small_ok (r0_ok hz) 8
  obtain ⟨t1, t2, t3⟩ := takeN_at h1.1 s2 (pl xs) [] hr s3 (pl xs).length (Nat.le_refl _)
  have h2 := takeN_ok h1.1 (pl xs).length
  rw [List.take_length] at t1
  rw [List.drop_length] at t3
  have e : tkV (r0 ⟨(mtB (pl xs)).toArray⟩) = (pl xs, (takeN (pl xs).length ((r0 ⟨(mtB (pl xs)).toArray⟩).small 8).2).2) := by
    unfold tkV
    rw [s1, Int.toNat_natCast]
    exact Prod.ext t1 rfl
  unfold readM
  rw [e]
  simp only
  rw [if_pos ⟨(fin_rest h2.1).2 ⟨t2, by rw [t3]; rfl⟩, (pl_pl xs).symm⟩]
end
end Go.Proofs.Ytglabahbklpocaa
namespace Go.Proofs.Ytglabahbklpocaa
section
open Go.RowKit
set_option maxRecDepth 100000
set_option linter.unusedVariables false
set_option linter.unusedSimpArgs false
theorem below_but {B g : Nat} {w0 w w' : World} (h0 : Below B w0 w) (h : But g w w') (hB : B ≤ w.heap.size) (hg : B ≤ g) : Below B w0 w' := But.below h0 h hB hg
theorem small8 {r : Rdr} (hr : r.ok) : 0 ≤ (r.small 8).1 ∧ (r.small 8).1 ≤ 8 := by
  rcases hb : (r.small 8).2.bad with _ | _
  · have := small_good hr hb
    omega
  · have := Rdr.small_bad 8 hb
    omega
end
end Go.Proofs.Ytglabahbklpocaa
namespace Go.Proofs.Ytglabahbklpocaa
section
open Go.RowKit
set_option maxRecDepth 100000
set_option linter.unusedVariables false
set_option linter.unusedSimpArgs false
theorem ba_cat (l : List UInt8) (x : Int) : (⟨l.toArray⟩ : ByteArray) ++ vput x = ⟨(l ++ putB 9 x).toArray⟩ := by
  apply ByteArray.ext
  apply Array.ext'
  rw [ByteArray.data_append, Array.toList_append, vput_data]
theorem ba_size (l : List UInt8) : (⟨l.toArray⟩ : ByteArray).size = l.length := by simp [ByteArray.size]
theorem vput_ba (x : Int) : vput x = ⟨(putB 9 x).toArray⟩ := by
  apply ByteArray.ext
  apply Array.ext'
  rw [vput_data]
/-- What TakeVector takes. -/
def tvV (r : Rdr) : List Int × Rdr := if (tkV r).2.bad = false ∧ (tkV r).1 = pl (tkV r).1 then tkV r else ([], { (tkV r).2 with bad := true })
theorem tkV_ok {r : Rdr} (h : r.ok) : (tkV r).2.ok ∧ (tkV r).2.s = r.s := by
  have h1 := Rdr.small_ok h 8
  have h2 := takeN_ok h1.1 (r.small 8).1.toNat
  exact ⟨h2.1, h2.2.trans h1.2⟩
theorem tvV_ok {r : Rdr} (h : r.ok) : (tvV r).2.ok ∧ (tvV r).2.s = r.s := by
  have h1 := tkV_ok h
  unfold tvV
  split
  · exact h1
  · exact ⟨h1.1, h1.2⟩
theorem read_tv (s : ByteArray) (hs : s.size ≤ 1000000000) : readM s = if (tvV (r0 s)).2.fin = 0 then ((tvV (r0 s)).1, 0) else ([], 10) := by
  have hk := (tkV_ok (r0_ok hs)).1
  have hf := fin_rest hk
  unfold readM tvV
  by_cases h : (tkV (r0 s)).2.bad = false ∧ (tkV (r0 s)).1 = pl (tkV (r0 s)).1
  · rw [if_pos h]
    by_cases h2 : (tkV (r0 s)).2.fin = 0
    · rw [if_pos ⟨h2, h.2⟩, if_pos h2]
    · rw [if_neg (fun x => h2 x.1), if_neg h2]
  · rw [if_neg h, if_neg]
    · rw [if_neg]
      unfold Rdr.fin
      rw [if_pos (.inl rfl)]
      decide
    · intro x
      exact h ⟨(hf.1 x.1).1, x.2⟩
end
end Go.Proofs.Ytglabahbklpocaa
