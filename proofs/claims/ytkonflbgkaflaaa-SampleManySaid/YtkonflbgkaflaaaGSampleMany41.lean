/- Plain law: stamps that stand one behind the other are taken as they were written. The reference's Reader, more: Text. -/
import Derived.Test.YtkonflbgkaflaaaGSampleMany31
import Derived.Test.YtkonflbgkaflaaaGSampleMany22
import Derived.Test.YtkonflbgkaflaaaGSampleMany19
namespace Go.Proofs.Ytkonflbgkaflaaa
section
set_option maxRecDepth 100000
set_option linter.unusedVariables false
set_option linter.unusedSimpArgs false
def stL (a : St) : List UInt8 := putB 9 a.clock ++ (putB 9 a.site ++ putB 9 a.seq)
def stsL (l : List St) : List UInt8 := l.flatMap stL
theorem stsL_append (l m : List St) : stsL (l ++ m) = stsL l ++ stsL m := by simp [stsL]
theorem stsL_one (a : St) : stsL [a] = stL a := by simp [stsL]
theorem stL_len (a : St) : 3 ≤ (stL a).length ∧ (stL a).length ≤ 30 := by
  have h1 := putB_le a.clock
  have h2 := putB_le a.site
  have h3 := putB_le a.seq
  have k1 := putI_pos 9 a.clock
  have k2 := putI_pos 9 a.site
  have k3 := putI_pos 9 a.seq
  have b : ∀ x, (putB 9 x).length = (putI 9 x).length := fun x => by simp [putB]
  have b1 := b a.clock
  have b2 := b a.site
  have b3 := b a.seq
  simp only [stL, List.length_append]
  omega
theorem stsL_len (l : List St) : (stsL l).length ≤ 30 * l.length := by
  induction l with
  | nil => simp [stsL]
  | cons x r ih =>
    have := (stL_len x).2
    rw [show x :: r = [x] ++ r from rfl, stsL_append, stsL_one, List.length_append, List.length_append]
    simp; omega
theorem stB_data (a : St) (h : okV a = true) : stB a = ⟨(stL a).toArray⟩ := by
  unfold stB
  rw [if_pos h]
  apply ByteArray.ext
  apply Array.ext'
  rw [ByteArray.data_append, ByteArray.data_append, Array.toList_append, Array.toList_append, vput_data, vput_data, vput_data, List.append_assoc]
  rfl
theorem take_at {r : Rdr} {a : St} {t : List UInt8} (hr : r.ok) (hb : r.bad = false) (ha : okV a = true) (h : r.rest = stL a ++ t) : (takeV r).1 = a ∧ (takeV r).2.bad = false ∧ (takeV r).2.rest = t := by
  obtain ⟨⟨a1, a2⟩, ⟨a3, a4⟩, a5, a6⟩ := okV_range ha
  unfold stL at h
  rw [List.append_assoc, List.append_assoc] at h
  obtain ⟨s1, s2, s3⟩ := small_at (most := 1099511627776) hr hb h (by omega) (by omega) (by decide)
  have k1 := Rdr.small_ok hr 1099511627776
  obtain ⟨q1, q2, q3⟩ := small_at (most := 7) k1.1 s2 s3 (by omega) (by omega) (by decide)
  have k2 := Rdr.small_ok k1.1 7
  obtain ⟨p1, p2, p3⟩ := small_at (most := 1099511627776) k2.1 q2 q3 (by omega) (by omega) (by decide)
  have e : takeP r = (a, (((r.small 1099511627776).2.small 7).2.small 1099511627776).2) := by
    unfold takeP
    rw [s1, q1, p1]
  unfold takeV
  rw [e]
  simp only
  rw [if_pos ha]
  exact ⟨rfl, p2, p3⟩
theorem take_end {r : Rdr} (hr : r.ok) (hb : r.bad = false) (h : r.rest = []) : (takeV r).1 = ⟨0, 0, 0⟩ ∧ (takeV r).2.bad = true := by
  have hbad : (r.small 1099511627776).2.bad = true := by
    rcases hh : (r.small 1099511627776).2.bad with _ | _
    · have := (small_good hr hh).2.2.2
      rw [h] at this
      have k := putI_pos 9 (r.small 1099511627776).1
      have b : (putB 9 (r.small 1099511627776).1).length = (putI 9 (r.small 1099511627776).1).length := by simp [putB]
      have := congrArg List.length this
      simp at this
      omega
    · rfl
  have h0 := Rdr.small_bad 1099511627776 hbad
  have hno : ¬ okV (takeP r).1 = true := by
    intro hk
    have := (okV_range hk).1.1
    have e : (takeP r).1.clock = (r.small 1099511627776).1 := rfl
    omega
  unfold takeV
  rw [if_neg hno]
  refine ⟨rfl, ?_⟩
  unfold Rdr.small
  rw [if_pos (.inr (.inl (by decide)))]
/-- The first k takes. -/
def takes : Nat → Rdr → Rdr
  | 0, r => r
  | k + 1, r => (takeV (takes k r)).2
theorem takes_ok {r : Rdr} (hr : r.ok) (k : Nat) : (takes k r).ok := by
  induction k with
  | zero => exact hr
  | succ k ih => exact (takeV_ok ih).1
theorem takes_at (l : List St) (hl : ∀ a ∈ l, okV a = true) {r : Rdr} (hr : r.ok) (hb : r.bad = false) (h : r.rest = stsL l) (k : Nat) (hk : k ≤ l.length) : (takes k r).bad = false ∧ (takes k r).rest = stsL (l.drop k) := by
  induction k with
  | zero => exact ⟨hb, by simpa [takes] using h⟩
  | succ k ih =>
    obtain ⟨i1, i2⟩ := ih (by omega)
    have hlt : k < l.length := by omega
    rw [List.drop_eq_getElem_cons hlt, show l[k] :: l.drop (k + 1) = [l[k]] ++ l.drop (k + 1) from rfl, stsL_append, stsL_one] at i2
    obtain ⟨t1, t2, t3⟩ := take_at (takes_ok hr k) i1 (hl _ (List.getElem_mem hlt)) i2
    exact ⟨t2, t3⟩
theorem takes_next (l : List St) (hl : ∀ a ∈ l, okV a = true) {r : Rdr} (hr : r.ok) (hb : r.bad = false) (h : r.rest = stsL l) (k : Nat) (hk : k < l.length) : (takeV (takes k r)).1 = l.getD k ⟨0, 0, 0⟩ := by
  obtain ⟨i1, i2⟩ := takes_at l hl hr hb h k (by omega)
  rw [List.drop_eq_getElem_cons hk, show l[k] :: l.drop (k + 1) = [l[k]] ++ l.drop (k + 1) from rfl, stsL_append, stsL_one] at i2
  rw [(take_at (takes_ok hr k) i1 (hl _ (List.getElem_mem hk)) i2).1]
  simp [List.getD_eq_getElem?_getD, hk]
end
end Go.Proofs.Ytkonflbgkaflaaa
namespace Go.Proofs.Ytkonflbgkaflaaa
section
open Go.RowKit
set_option maxRecDepth 100000
set_option linter.unusedVariables false
set_option linter.unusedSimpArgs false
set_option maxHeartbeats 2000000 in
theorem rrdr_text (g : Nat) (r : Rdr) (w : World) (h : RdrAt 91 w g r) (hr : r.ok) :
    Calls Try.prog 70 #[.pointer (some ⟨g, 0, none⟩)] w fun e w' => e = .returned (.string r.text.1) ∧ RdrAt 91 w' g r.text.2 ∧ But g w w' := by
  have hk := Rdr.num_ok hr
  go_enter Try.func70, Try.ntmps70
  go_wp2_with fail
  refine (rrdr_num g r _ h hr).mono ?_
  rintro e w1 ⟨rfl, h1, hb1⟩
  have HS : Hid (r.text = if r.num.2.bad = true ∨ r.num.2.left < r.num.1 then (⟨#[]⟩, { r.num.2 with bad := true }) else
    (r.num.2.s.extract r.num.2.pos.toNat (r.num.2.pos + r.num.1).toNat, { r.num.2 with pos := r.num.2.pos + r.num.1 })) := by
    show r.text = _
    unfold Rdr.text
    rw [hk.2.2.2]
  generalize r.num = q at *
  obtain ⟨v, r1⟩ := q
  simp only at h1 hk
  have HK := Lib.hid hk
  have hv0 := hk.2.1
  have hpos := hk.1.2.1
  have hpos2 := hk.1.2.2
  have hbig := hk.1.1
  clear hk h hr
  have c0 := h1.c0
  have c1 := h1.c1
  have c2 := h1.c2
  have H1 := Lib.hid h1
  clear h1
  cases hbd : r1.bad
  · have HL : Hid (r1.left = (r1.s.size : Int) - r1.pos) := by show r1.left = _; unfold Rdr.left; rw [if_neg (by rw [hbd]; decide)]
    rw [hbd] at c2
    have hw1 : IntKind.i64.wrap ((r1.s.size : Int) - r1.pos) = (r1.s.size : Int) - r1.pos := IntWalk.i64_in _ (by omega)
    have hw2 : IntKind.u64.wrap ((r1.s.size : Int) - r1.pos) = (r1.s.size : Int) - r1.pos := by rw [wrap_u64]; omega
    by_cases hle : v ≤ (r1.s.size : Int) - r1.pos
    · have t1 : decide ((r1.s.size : Int) - r1.pos < v) = false := decide_eq_false (by omega)
      have HS2 := Lib.hid (HS.out.trans (if_neg (show ¬ (r1.bad = true ∨ r1.left < v) by rw [hbd, HL.out]; simp; omega)))
      have hw4 : wrap64 v = v := IntWalk.wrap64_in v ⟨by omega, by omega⟩
      have hw5 : IntKind.i64.wrap v = v := IntWalk.i64_in v ⟨by omega, by omega⟩
      have hw6 : IntKind.i64.wrap (r1.pos + v) = r1.pos + v := IntWalk.i64_in _ ⟨by omega, by omega⟩
      have hn3 : 0 ≤ r1.pos + v := by omega
      have hsl := str_slice (P := Try.prog) (T := 9) Try.underlying9 r1.s r1.pos (r1.pos + v) r1.pos.toNat (r1.pos + v).toNat (by omega) (by omega) (by omega) (by omega)
      clear hbd
      go_wp2
      go_quiet (fail)
      have h4 : RdrAt 91 (w1.drewN nq) g r1 := H1.out
      have hb4 : But g w (w1.drewN nq) := hb1.trans (But.drewN g nq _)
      clear c0 c1 c2
      generalize w1.drewN nq = w5 at *
      have d0 := h4.c0
      have d1 := h4.c1
      have H4 := Lib.hid h4
      clear h4
      go_wp2
      go_quiet (fail)
      have h6 : RdrAt 91 (w5.drewN nq) g r1 := H4.out
      have hb6 : But g w (w5.drewN nq) := hb4.trans (But.drewN g nq _)
      clear d0 d1
      generalize w5.drewN nq = w6 at *
      have e1 := h6.c1
      have f1 := h6.fz 1
      go_wp2
      go_ret
      rw [HS2.out]
      exact ⟨rfl, h6.set1 _, hb6.trans (But.set g 1 _ _)⟩
    · have t1 : decide ((r1.s.size : Int) - r1.pos < v) = true := decide_eq_true (by omega)
      have HS2 := Lib.hid (HS.out.trans (if_pos (show (r1.bad = true ∨ r1.left < v) by rw [HL.out]; right; omega)))
      clear hbd
      go_wp2
      go_quiet (fail)
      have h4 : RdrAt 91 (w1.drewN nq) g r1 := H1.out
      have hb4 : But g w (w1.drewN nq) := hb1.trans (But.drewN g nq _)
      generalize w1.drewN nq = w5 at *
      have d2 := h4.c2
      have f2 := h4.fz 2
      go_wp2
      go_ret
      rw [HS2.out]
      exact ⟨rfl, h4.set2 true, hb4.trans (But.set g 2 _ _)⟩
  · have HS2 := Lib.hid (HS.out.trans (if_pos (show (r1.bad = true ∨ r1.left < v) by rw [hbd]; simp)))
    rw [hbd] at c2
    clear hbd
    go_wp2
    go_quiet (fail)
    have h4 : RdrAt 91 (w1.drewN nq) g r1 := H1.out
    have hb4 : But g w (w1.drewN nq) := hb1.trans (But.drewN g nq _)
    generalize w1.drewN nq = w5 at *
    have d2 := h4.c2
    have f2 := h4.fz 2
    go_wp2
    go_ret
    rw [HS2.out]
    exact ⟨rfl, h4.set2 true, hb4.trans (But.set g 2 _ _)⟩
end
end Go.Proofs.Ytkonflbgkaflaaa
