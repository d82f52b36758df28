/- Plain law: vectors out of a reader, and back. Plain law: stamps that stand one behind the other are taken as they were written. -/
import Derived.Test.YtojnooagifhekaaGAggParts11
import Derived.Test.YtojnooagifhekaaGAggParts39
import Derived.Test.YtojnooagifhekaaGAggParts31
namespace Go.Proofs.Ytojnooagifhekaa
section
set_option maxRecDepth 100000
set_option linter.unusedVariables false
set_option linter.unusedSimpArgs false
/-- What is still to be read. -/
def Rdr.rest (r : Rdr) : List UInt8 := r.s.data.toList.drop r.pos.toNat
theorem vget_some {s : ByteArray} {p v p' : Int} (h : vget s p = (v, p', 0)) : 0 ≤ p ∧ 0 ≤ v ∧ s.data.toList.drop p.toNat = putB 9 v ++ s.data.toList.drop p'.toNat ∧ p ≤ p' ∧ p' ≤ s.size := by
  unfold vget at h
  split at h
  · simp at h
  · rename_i hp
    cases hg : getL 10 (s.data.toList.drop p.toNat) with
    | none => rw [hg] at h; simp at h
    | some q =>
      obtain ⟨V, c⟩ := q
      rw [hg] at h
      simp only at h
      split at h
      · rename_i hc
        simp only [Prod.mk.injEq, and_true] at h
        obtain ⟨rfl, rfl⟩ := h
        obtain ⟨h1, h2, h3, h4, h5, h6⟩ := getL_some 10 _ V c hg
        have ht := put_getL 10 _ V c 9 hg hc.2 (by omega)
        have hl : (s.data.toList.drop p.toNat).length = s.size - p.toNat := by simp
        refine ⟨by omega, h1, ?_, by omega, by omega⟩
        rw [← ht, show (p + (c : Int)).toNat = p.toNat + c by omega, ← List.drop_drop, List.take_append_drop]
      · simp at h
theorem vget_at {s : ByteArray} {p v : Int} {t : List UInt8} (hp0 : 0 ≤ p) (hp : p ≤ s.size) (h : s.data.toList.drop p.toNat = putB 9 v ++ t) (h0 : 0 ≤ v) (h1 : v < 18446744073709551616) :
    vget s p = (v, p + ((putI 9 v).length : Int), 0) ∧ s.data.toList.drop (p + ((putI 9 v).length : Int)).toNat = t ∧ p + ((putI 9 v).length : Int) ≤ s.size := by
  have hl : (s.data.toList.drop p.toNat).length = s.size - p.toNat := by simp
  have hz := putI_pos 9 v
  have hb : (putB 9 v).length = (putI 9 v).length := by simp [putB]
  rw [h, List.length_append, hb] at hl
  refine ⟨?_, ?_, by omega⟩
  · unfold vget
    rw [if_neg (by omega), h, getL_put 9 v _ h0 (by simp only [Int.reducePow]; omega)]
    exact if_pos ⟨h1, putI_canon 9 v h0⟩
  · rw [show (p + ((putI 9 v).length : Int)).toNat = p.toNat + (putB 9 v).length by rw [hb]; omega, ← List.drop_drop, h]
    exact List.drop_left' rfl
theorem small_good {r : Rdr} {most : Int} (hr : r.ok) (h : (r.small most).2.bad = false) :
    r.bad = false ∧ 0 ≤ (r.small most).1 ∧ (r.small most).1 ≤ most ∧ r.rest = putB 9 (r.small most).1 ++ (r.small most).2.rest := by
  have hk := Rdr.num_ok hr
  unfold Rdr.small at *
  split at h
  · simp at h
  · rename_i hc
    rw [if_neg hc]
    have hb : r.num.2.bad = false := by
      rcases hh : r.num.2.bad with _ | _
      · rfl
      · exact absurd (.inl hh) hc
    have hv : ¬ most < r.num.1 := fun x => hc (.inr (.inr x))
    unfold Rdr.num at hb hv hk ⊢
    split at hb
    · rename_i h1; rw [h1] at hb; cases hb
    · rename_i h1
      rw [if_neg h1] at hv hk ⊢
      split at hb
      · rename_i h2
        rw [if_pos h2] at hv hk ⊢
        have hg : vget r.s r.pos = ((vget r.s r.pos).1, (vget r.s r.pos).2.1, 0) := by rw [← h2]
        obtain ⟨g1, g2, g3, g4, g5⟩ := vget_some hg
        refine ⟨by simpa using h1, g2, by simp only at hv ⊢; omega, ?_⟩
        exact g3
      · simp at hb
theorem small_at {r : Rdr} {most v : Int} {t : List UInt8} (hr : r.ok) (hb : r.bad = false) (h : r.rest = putB 9 v ++ t) (h0 : 0 ≤ v) (h1 : v ≤ most) (hm : most ≤ 9223372036854775807) :
    (r.small most).1 = v ∧ (r.small most).2.bad = false ∧ (r.small most).2.rest = t := by
  obtain ⟨a1, a2, a3⟩ := hr
  obtain ⟨g1, g2, g3⟩ := vget_at a2 a3 h h0 (by omega)
  have hn : r.num = (v, { r with pos := r.pos + ((putI 9 v).length : Int) }) := by
    unfold Rdr.num
    rw [if_neg (by rw [hb]; decide), g1]
    simp
  unfold Rdr.small
  rw [hn]
  simp only
  rw [if_neg (by rw [hb]; simp; omega)]
  exact ⟨rfl, hb, g2⟩
def takeN : Nat → Rdr → List Int × Rdr
  | 0, r => ([], r)
  | n + 1, r => ((takeN n r).1 ++ [((takeN n r).2.small 1099511627776).1], ((takeN n r).2.small 1099511627776).2)
theorem takeN_length (n : Nat) (r : Rdr) : (takeN n r).1.length = n := by
  induction n with
  | zero => rfl
  | succ n ih => simp [takeN, ih]
theorem takeN_ok {r : Rdr} (hr : r.ok) (n : Nat) : (takeN n r).2.ok ∧ (takeN n r).2.s = r.s := by
  induction n with
  | zero => exact ⟨hr, rfl⟩
  | succ n ih =>
    have := Rdr.small_ok ih.1 1099511627776
    exact ⟨this.1, this.2.trans ih.2⟩
theorem takeN_good {r : Rdr} (hr : r.ok) (n : Nat) (h : (takeN n r).2.bad = false) : r.bad = false ∧ (∀ x ∈ (takeN n r).1, 0 ≤ x ∧ x ≤ 1099511627776) ∧ r.rest = mcat (takeN n r).1 ++ (takeN n r).2.rest := by
  induction n with
  | zero => exact ⟨h, by simp [takeN], by simp [takeN, mcat]⟩
  | succ n ih =>
    obtain ⟨g1, g2, g3, g4⟩ := small_good (takeN_ok hr n).1 h
    obtain ⟨i1, i2, i3⟩ := ih g1
    refine ⟨i1, ?_, ?_⟩
    · intro x hx
      simp only [takeN, List.mem_append, List.mem_singleton] at hx
      rcases hx with hx | rfl
      · exact i2 x hx
      · exact ⟨g2, g3⟩
    · simp only [takeN]
      rw [mcat_append, mcat_one, List.append_assoc, ← g4, ← i3]
theorem takeN_range {r : Rdr} (hr : r.ok) (n : Nat) : ∀ x ∈ (takeN n r).1, 0 ≤ x ∧ x ≤ 1099511627776 := by
  induction n with
  | zero => simp [takeN]
  | succ n ih =>
    intro x hx
    simp only [takeN, List.mem_append, List.mem_singleton] at hx
    rcases hx with hx | rfl
    · exact ih x hx
    · rcases hb : ((takeN n r).2.small 1099511627776).2.bad with _ | _
      · have := small_good (takeN_ok hr n).1 hb
        exact ⟨this.2.1, this.2.2.1⟩
      · have : ((takeN n r).2.small 1099511627776).1 = 0 := by
          unfold Rdr.small at *
          split at hb
          · rename_i hc; rw [if_pos hc]
          · rename_i hc
            exact absurd (.inl hb) hc
        omega
theorem takeN_at {r : Rdr} (hr : r.ok) (hb : r.bad = false) (l : List Int) (t : List UInt8) (hl : ∀ x ∈ l, 0 ≤ x ∧ x ≤ 1099511627776) (h : r.rest = mcat l ++ t) (n : Nat) (hn : n ≤ l.length) :
    (takeN n r).1 = l.take n ∧ (takeN n r).2.bad = false ∧ (takeN n r).2.rest = mcat (l.drop n) ++ t := by
  induction n with
  | zero => exact ⟨by simp [takeN], hb, by simpa [takeN] using h⟩
  | succ n ih =>
    obtain ⟨i1, i2, i3⟩ := ih (by omega)
    have hlt : n < l.length := by omega
    have hx := hl l[n] (List.getElem_mem hlt)
    rw [List.drop_eq_getElem_cons hlt, show l[n] :: l.drop (n + 1) = [l[n]] ++ l.drop (n + 1) from rfl, mcat_append, mcat_one, List.append_assoc] at i3
    obtain ⟨s1, s2, s3⟩ := small_at (takeN_ok hr n).1 i2 i3 hx.1 hx.2 (by decide)
    refine ⟨?_, s2, s3⟩
    simp only [takeN]
    rw [i1, s1, List.take_succ_eq_append_getElem hlt]
def r0 (s : ByteArray) : Rdr := ⟨s, 0, false⟩
def tkV (r : Rdr) : List Int × Rdr := takeN (r.small 8).1.toNat (r.small 8).2
def readM (s : ByteArray) : List Int × Int := if (tkV (r0 s)).2.fin = 0 ∧ (tkV (r0 s)).1 = pl (tkV (r0 s)).1 then ((tkV (r0 s)).1, 0) else ([], 10)
theorem r0_ok {s : ByteArray} (hs : s.size ≤ 1000000000) : (r0 s).ok := ⟨hs, Int.le_refl _, by show (0 : Int) ≤ _; omega⟩
theorem r0_rest (s : ByteArray) : (r0 s).rest = s.data.toList := rfl
theorem fin_rest {r : Rdr} (hr : r.ok) : r.fin = 0 ↔ r.bad = false ∧ r.rest = [] := by
  obtain ⟨a1, a2, a3⟩ := hr
  have hl : r.rest.length = r.s.size - r.pos.toNat := by simp [Rdr.rest]
  unfold Rdr.fin
  constructor
  · intro h
    split at h
    · cases h
    · rename_i hc
      have hb : r.bad = false := by
        rcases hh : r.bad with _ | _
        · rfl
        · exact absurd (.inl hh) hc
      have : ¬ r.pos < (r.s.size : Int) := fun x => hc (.inr x)
      exact ⟨hb, List.eq_nil_of_length_eq_zero (by omega)⟩
  · rintro ⟨h1, h2⟩
    rw [h2] at hl
    simp at hl
    rw [if_neg (by rw [h1]; simp; omega)]
theorem text_read (s : ByteArray) (hs : s.size ≤ 1000000000) (h : (readM s).2 = 0) : (⟨(mtB (pl (readM s).1)).toArray⟩ : ByteArray) = s := by
  unfold readM at *
  split at h
  · rename_i hc
    rw [if_pos hc]
    simp only
    rw [← hc.2]
    have h1 := Rdr.small_ok (r0_ok hs) 8
    have h2 := takeN_ok h1.1 ((r0 s).small 8).1.toNat
    obtain ⟨f1, f2⟩ := (fin_rest h2.1).1 hc.1
    obtain ⟨g1, g2, g3⟩ := takeN_good h1.1 _ f1
    obtain ⟨k1, k2, k3, k4⟩ := small_good (r0_ok hs) g1
    have hlen := takeN_length ((r0 s).small 8).1.toNat ((r0 s).small 8).2
    rw [f2, List.append_nil] at g3
    rw [g3, r0_rest] at k4
    apply ByteArray.ext
    apply Array.ext'
    rw [k4]
    unfold mtB tkV
    rw [hlen, show ((((r0 s).small 8).1.toNat : Nat) : Int) = ((r0 s).small 8).1 by omega]
  · cases h
theorem read_text (xs : List Int) : readM ⟨(mtB (pl xs)).toArray⟩ = (pl xs, 0) := by
  have hl8 := pl_length xs
  have hz : (⟨(mtB (pl xs)).toArray⟩ : ByteArray).size ≤ 1000000000 := by
    have h1 := mcat_length (pl xs)
    have h2 := putB_le ((pl xs).length : Int)
    show (mtB (pl xs)).toArray.size ≤ _
    simp [mtB]
    omega
  have hr : ∀ x ∈ pl xs, 0 ≤ x ∧ x ≤ 1099511627776 := by
    intro x hx
    obtain ⟨i, hi, rfl⟩ := List.mem_iff_getElem.1 hx
    have := pl_range xs i
    rw [List.getD_eq_getElem?_getD, List.getElem?_eq_getElem hi] at this
    exact this
  obtain ⟨s1, s2, s3⟩ := small_at (most := 8) (v := ((pl xs).length : Int)) (t := mcat (pl xs) ++ []) (r0_ok hz) rfl (by rw [r0_rest]; simp [mtB]) (by omega) (by omega) (by decide)
  have h1 := Rdr.small_ok (r0_ok hz) 8
  obtain ⟨t1, t2, t3⟩ := takeN_at h1.1 s2 (pl xs) [] hr s3 (pl xs).length (Nat.le_refl _)
  have h2 := takeN_ok h1.1 (pl xs).length
  rw [List.take_length] at t1
  rw [List.drop_length] at t3
  have e : tkV (r0 ⟨(mtB (pl xs)).toArray⟩) = (pl xs, (takeN (pl xs).length ((r0 ⟨(mtB (pl xs)).toArray⟩).small 8).2).2) := by
    unfold tkV
    rw [s1, Int.toNat_natCast]
    exact Prod.ext t1 rfl
  unfold readM
  rw [e]
  simp only
  rw [if_pos ⟨(fin_rest h2.1).2 ⟨t2, by rw [t3]; rfl⟩, (pl_pl xs).symm⟩]
end
end Go.Proofs.Ytojnooagifhekaa
namespace Go.Proofs.Ytojnooagifhekaa
section
set_option maxRecDepth 100000
set_option linter.unusedVariables false
set_option linter.unusedSimpArgs false
def stL (a : St) : List UInt8 := putB 9 a.clock ++ (putB 9 a.site ++ putB 9 a.seq)
def stsL (l : List St) : List UInt8 := l.flatMap stL
theorem stsL_append (l m : List St) : stsL (l ++ m) = stsL l ++ stsL m := by simp [stsL]
theorem stsL_one (a : St) : stsL [a] = stL a := by simp [stsL]
theorem stL_len (a : St) : 3 ≤ (stL a).length ∧ (stL a).length ≤ 30 := by
  have h1 := putB_le a.clock
  have h2 := putB_le a.site
  have h3 := putB_le a.seq
  have k1 := putI_pos 9 a.clock
  have k2 := putI_pos 9 a.site
  have k3 := putI_pos 9 a.seq
  have b : ∀ x, (putB 9 x).length = (putI 9 x).length := fun x => by simp [putB]
  have b1 := b a.clock
  have b2 := b a.site
  have b3 := b a.seq
  simp only [stL, List.length_append]
  omega
theorem stsL_len (l : List St) : (stsL l).length ≤ 30 * l.length := by
  induction l with
  | nil => simp [stsL]
  | cons x r ih =>
    have := (stL_len x).2
    rw [show x :: r = [x] ++ r from rfl, stsL_append, stsL_one, List.length_append, List.length_append]
    simp; omega
theorem stB_data (a : St) (h : okV a = true) : stB a = ⟨(stL a).toArray⟩ := by
  unfold stB
  rw [if_pos h]
  apply ByteArray.ext
  apply Array.ext'
  rw [ByteArray.data_append, ByteArray.data_append, Array.toList_append, Array.toList_append, vput_data, vput_data, vput_data, List.append_assoc]
  rfl
theorem take_at {r : Rdr} {a : St} {t : List UInt8} (hr : r.ok) (hb : r.bad = false) (ha : okV a = true) (h : r.rest = stL a ++ t) : (takeV r).1 = a ∧ (takeV r).2.bad = false ∧ (takeV r).2.rest = t := by
  obtain ⟨⟨a1, a2⟩, ⟨a3, a4⟩, a5, a6⟩ := okV_range ha
  unfold stL at h
  rw [List.append_assoc, List.append_assoc] at h
  obtain ⟨s1, s2, s3⟩ := small_at (most := 1099511627776) hr hb h (by omega) (by omega) (by decide)
  have k1 := Rdr.small_ok hr 1099511627776
  obtain ⟨q1, q2, q3⟩ := small_at (most := 7) k1.1 s2 s3 (by omega) (by omega) (by decide)
  have k2 := Rdr.small_ok k1.1 7
  obtain ⟨p1, p2, p3⟩ := small_at (most := 1099511627776) k2.1 q2 q3 (by omega) (by omega) (by decide)
  have e : takeP r = (a, (((r.small 1099511627776).2.small 7).2.small 1099511627776).2) := by
    unfold takeP
    rw [s1, q1, p1]
  unfold takeV
  rw [e]
  simp only
  rw [if_pos ha]
  exact ⟨rfl, p2, p3⟩
theorem take_end {r : Rdr} (hr : r.ok) (hb : r.bad = false) (h : r.rest = []) : (takeV r).1 = ⟨0, 0, 0⟩ ∧ (takeV r).2.bad = true := by
  have hbad : (r.small 1099511627776).2.bad = true := by
    rcases hh : (r.small 1099511627776).2.bad with _ | _
    · have := (small_good hr hh).2.2.2
      rw [h] at this
      have k := putI_pos 9 (r.small 1099511627776).1
      have b : (putB 9 (r.small 1099511627776).1).length = (putI 9 (r.small 1099511627776).1).length := by simp [putB]
      have := congrArg List.length this
      simp at this
      omega
    · rfl
  have h0 := Rdr.small_bad 1099511627776 hbad
  have hno : ¬ okV (takeP r).1 = true := by
    intro hk
    have := (okV_range hk).1.1
    have e : (takeP r).1.clock = (r.small 1099511627776).1 := rfl
    omega
  unfold takeV
  rw [if_neg hno]
  refine ⟨rfl, ?_⟩
  unfold Rdr.small
  rw [if_pos (.inr (.inl (by decide)))]
/-- The first k takes. -/
def takes : Nat → Rdr → Rdr
  | 0, r => r
  | k + 1, r => (takeV (takes k r)).2
theorem takes_ok {r : Rdr} (hr : r.ok) (k : Nat) : (takes k r).ok := by
  induction k with
  | zero => exact hr
  | succ k ih => exact (takeV_ok ih).1
theorem takes_at (l : List St) (hl : ∀ a ∈ l, okV a = true) {r : Rdr} (hr : r.ok) (hb : r.bad = false) (h : r.rest = stsL l) (k : Nat) (hk : k ≤ l.length) : (takes k r).bad = false ∧ (takes k r).rest = stsL (l.drop k) := by
  induction k with
  | zero => exact ⟨hb, by simpa [takes] using h⟩
  | succ k ih =>
    obtain ⟨i1, i2⟩ := ih (by omega)
    have hlt : k < l.length := by omega
    rw [List.drop_eq_getElem_cons hlt, show l[k] :: l.drop (k + 1) = [l[k]] ++ l.drop (k + 1) from rfl, stsL_append, stsL_one] at i2
    obtain ⟨t1, t2, t3⟩ := take_at (takes_ok hr k) i1 (hl _ (List.getElem_mem hlt)) i2
    exact ⟨t2, t3⟩
theorem takes_next (l : List St) (hl : ∀ a ∈ l, okV a = true) {r : Rdr} (hr : r.ok) (hb : r.bad = false) (h : r.rest = stsL l) (k : Nat) (hk : k < l.length) : (takeV (takes k r)).1 = l.getD k ⟨0, 0, 0⟩ := by
  obtain ⟨i1, i2⟩ := takes_at l hl hr hb h k (by omega)
  rw [List.drop_eq_getElem_cons hk, show l[k] :: l.drop (k + 1) = [l[k]] ++ l.drop (k + 1) from rfl, stsL_append, stsL_one] at i2
  rw [(take_at (takes_ok hr k) i1 (hl _ (List.getElem_mem hk)) i2).1]
  simp [List.getD_eq_getElem?_getD, hk]
end
end Go.Proofs.Ytojnooagifhekaa
