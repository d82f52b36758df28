/- The reference's Reader, more: Text. -/
import Derived.Test.YtkonflbgkaflaaaGSampleBack19
namespace Go.Proofs.Ytkonflbgkaflaaa
section
open Go.RowKit
set_option maxRecDepth 100000
set_option linter.unusedVariables false
set_option linter.unusedSimpArgs false
set_option maxHeartbeats 2000000 in
theorem rrdr_text (g : Nat) (r : Rdr) (w : World) (h : RdrAt 91 w g r) (hr : r.ok) :
    Calls Try.prog 70 #[.pointer (some ⟨g, 0, none⟩)] w fun e w' => e = .returned (.string r.text.1) ∧ RdrAt 91 w' g r.text.2 ∧ But g w w' := by
  have hk := Rdr.num_ok hr
  go_enter Try.func70, Try.ntmps70
  go_wp2_with fail
  refine (rrdr_num g r _ h hr).mono ?_
  rintro e w1 ⟨rfl, h1, hb1⟩
  have HS : Hid (r.text = if r.num.2.bad = true ∨ r.num.2.left < r.num.1 then (⟨#[]⟩, { r.num.2 with bad := true }) else
    (r.num.2.s.extract r.num.2.pos.toNat (r.num.2.pos + r.num.1).toNat, { r.num.2 with pos := r.num.2.pos + r.num.1 })) := by
    show r.text = _
    unfold Rdr.text
    rw [hk.2.2.2]
  generalize r.num = q at *
  obtain ⟨v, r1⟩ := q
  simp only at h1 hk
  have HK := Lib.hid hk
  have hv0 := hk.2.1
  have hpos := hk.1.2.1
  have hpos2 := hk.1.2.2
  have hbig := hk.1.1
  clear hk h hr
  have c0 := h1.c0
  have c1 := h1.c1
  have c2 := h1.c2
  have H1 := Lib.hid h1
  clear h1
  cases hbd : r1.bad
  · have HL : Hid (r1.left = (r1.s.size : Int) - r1.pos) := by show r1.left = _; unfold Rdr.left; rw [if_neg (by rw [hbd]; decide)]
    rw [hbd] at c2
    have hw1 : IntKind.i64.wrap ((r1.s.size : Int) - r1.pos) = (r1.s.size : Int) - r1.pos := IntWalk.i64_in _ (by omega)
    have hw2 : IntKind.u64.wrap ((r1.s.size : Int) - r1.pos) = (r1.s.size : Int) - r1.pos := by rw [wrap_u64]; omega
    by_cases hle : v ≤ (r1.s.size : Int) - r1.pos
    · have t1 : decide ((r1.s.size : Int) - r1.pos < v) = false := decide_eq_false (by omega)
      have HS2 := Lib.hid (HS.out.trans (if_neg (show ¬ (r1.bad = true ∨ r1.left < v) by rw [hbd, HL.out]; simp; omega)))
      have hw4 : wrap64 v = v := IntWalk.wrap64_in v ⟨by omega, by omega⟩
      have hw5 : IntKind.i64.wrap v = v := IntWalk.i64_in v ⟨by omega, by omega⟩
      have hw6 : IntKind.i64.wrap (r1.pos + v) = r1.pos + v := IntWalk.i64_in _ ⟨by omega, by omega⟩
      have hn3 : 0 ≤ r1.pos + v := by omega
      have hsl := str_slice (P := Try.prog) (T := 9) Try.underlying9 r1.s r1.pos (r1.pos + v) r1.pos.toNat (r1.pos + v).toNat (by omega) (by omega) (by omega) (by omega)
      clear hbd
      go_wp2
      go_quiet (fail)
      have h4 : RdrAt 91 (w1.drewN nq) g r1 := H1.out
      have hb4 : But g w (w1.drewN nq) := hb1.trans (But.drewN g nq _)
      clear c0 c1 c2
      generalize w1.drewN nq = w5 at *
      have d0 := h4.c0
      have d1 := h4.c1
      have H4 := Lib.hid h4
      clear h4
      go_wp2
      go_quiet (fail)
      have h6 : RdrAt 91 (w5.drewN nq) g r1 := H4.out
      have hb6 : But g w (w5.drewN nq) := hb4.trans (But.drewN g nq _)
      clear d0 d1
      generalize w5.drewN nq = w6 at *
      have e1 := h6.c1
      have f1 := h6.fz 1
      go_wp2
      go_ret
      rw [HS2.out]
      exact ⟨rfl, h6.set1 _, hb6.trans (But.set g 1 _ _)⟩
    · have t1 : decide ((r1.s.size : Int) - r1.pos < v) = true := decide_eq_true (by omega)
      have HS2 := Lib.hid (HS.out.trans (if_pos (show (r1.bad = true ∨ r1.left < v) by rw [HL.out]; right; omega)))
      clear hbd
      go_wp2
      go_quiet (fail)
      have h4 : RdrAt 91 (w1.drewN nq) g r1 := H1.out
      have hb4 : But g w (w1.drewN nq) := hb1.trans (But.drewN g nq _)
      generalize w1.drewN nq = w5 at *
      have d2 := h4.c2
      have f2 := h4.fz 2
      go_wp2
      go_ret
      rw [HS2.out]
      exact ⟨rfl, h4.set2 true, hb4.trans (But.set g 2 _ _)⟩
  · have HS2 := Lib.hid (HS.out.trans (if_pos (show (r1.bad = true ∨ r1.left < v) by rw [hbd]; simp)))
    rw [hbd] at c2
    clear hbd
    go_wp2
    go_quiet (fail)
    have h4 : RdrAt 91 (w1.drewN nq) g r1 := H1.out
    have hb4 : But g w (w1.drewN nq) := hb1.trans (But.drewN g nq _)
    generalize w1.drewN nq = w5 at *
    have d2 := h4.c2
    have f2 := h4.fz 2
    go_wp2
    go_ret
    rw [HS2.out]
    exact ⟨rfl, h4.set2 true, hb4.trans (But.set g 2 _ _)⟩
end
end Go.Proofs.Ytkonflbgkaflaaa
