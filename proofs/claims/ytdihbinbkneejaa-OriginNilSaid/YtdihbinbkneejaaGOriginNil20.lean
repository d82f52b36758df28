/- Stamps' bytes of both packages; the reference's Check, Less. (Printed by wip/mbytes.py.) -/
import Derived.Test.YtdihbinbkneejaaGOriginNil19
import Derived.Test.YtdihbinbkneejaaGOriginNil1
namespace Go.Proofs.Ytdihbinbkneejaa
section
open Go.RowKit
set_option maxRecDepth 100000
set_option linter.unusedVariables false
set_option linter.unusedSimpArgs false
attribute [local go_sem ↓] Go.wp_at_zero Go.wp_at_succ
def stB (a : St) : ByteArray := if okV a = true then vput a.clock ++ vput a.site ++ vput a.seq else ⟨#[]⟩
theorem okV_iff (a : St) : okV a = true ↔ (1 ≤ a.clock ∧ a.clock ≤ 1099511627776) ∧ (1 ≤ a.seq ∧ a.seq ≤ 1099511627776) ∧ (0 ≤ a.site ∧ a.site ≤ 7) := by
  unfold okV inV
  simp only [Bool.and_eq_true, decide_eq_true_eq]
  omega
theorem okV_range {a : St} (h : okV a = true) : (1 ≤ a.clock ∧ a.clock ≤ 1099511627776) ∧ (1 ≤ a.seq ∧ a.seq ≤ 1099511627776) ∧ (0 ≤ a.site ∧ a.site ≤ 7) := (okV_iff a).1 h
/-- A boxed stamp, behind what was there at w. -/
structure StI (w : World) (g : Nat) (a : St) (wx : World) : Prop where
  a : StAt wx g a
  b : Below w.heap.size w wx
theorem StI.below {w wx w' : World} {g : Nat} {a : St} (h : StI w g a wx) (d : Below wx.heap.size wx w') : StI w g a w' := ⟨h.a.below d, below_then h.b h.b.size d⟩
theorem below_same {B : Nat} {w0 w wd : World} (h : Below B w0 w) (e1 : wd.heap = w.heap) (e2 : wd.os = w.os) (e3 : wd.tape = w.tape) (e4 : wd.output = w.output) : Below B w0 wd :=
  ⟨e2.trans h.os, e3.trans h.tape, e4.trans h.output, by rw [e1]; exact h.size, fun k hk => by rw [e1]; exact h.block k hk⟩
theorem StI.later {w wx wd w' : World} {g : Nat} {a : St} (h : StI w g a wx) (d : Below wd.heap.size wd w') (e1 : wd.heap = wx.heap) (e2 : wd.os = wx.os) (e3 : wd.tape = wx.tape) (e4 : wd.output = wx.output) : StI w g a w' :=
  StI.below (wx := wd) ⟨by unfold StAt; rw [e1]; exact h.a, below_same h.b e1 e2 e3 e4⟩ d
set_option maxHeartbeats 2000000 in
theorem rcheck_any (a : St) (w : World) : Calls Try.prog 61 #[a.val] w fun e w' => e = .returned (.int .i64 (chkV a)) ∧ Below w.heap.size w w' := by
  have hb := okV_iff a
  have H1 : Hid (okV a = true → chkV a = 0) := fun h => if_pos h
  have H2 : Hid (¬ okV a = true → chkV a = 1) := fun h => if_neg h
  generalize chkV a = V at *
  generalize okV a = O at *
  obtain ⟨c, s, q⟩ := a
  unfold St.val
  simp only at hb ⊢
  have hB : Below w.heap.size w (w.alloc (.cells #[.int .i64 c, .int .i64 s, .int .i64 q] 27)) := (Below.refl _ _).alloc (Nat.le_refl _) _
  by_cases h1 : c < 1
  · have th1 : decide (c < 1) = true := decide_eq_true h1
    have HV := Lib.hid (H2.out (by rw [hb]; omega))
    clear hb H1 H2
    go_enter Try.func61, Try.ntmps61
    go_wp2_with fail
    go_ret
    exact ⟨by rw [HV.out]; rfl, hB⟩
  · have th1 : decide (c < 1) = false := decide_eq_false h1
    by_cases h2 : 1099511627776 < c
    · have th2 : decide (1099511627776 < c) = true := decide_eq_true h2
      have HV := Lib.hid (H2.out (by rw [hb]; omega))
      clear hb H1 H2
      go_enter Try.func61, Try.ntmps61
      go_wp2_with fail
      go_ret
      exact ⟨by rw [HV.out]; rfl, hB⟩
    · have th2 : decide (1099511627776 < c) = false := decide_eq_false h2
      by_cases h3 : q < 1
      · have th3 : decide (q < 1) = true := decide_eq_true h3
        have HV := Lib.hid (H2.out (by rw [hb]; omega))
        clear hb H1 H2
        go_enter Try.func61, Try.ntmps61
        go_wp2_with fail
        go_ret
        exact ⟨by rw [HV.out]; rfl, hB⟩
      · have th3 : decide (q < 1) = false := decide_eq_false h3
        by_cases h4 : 1099511627776 < q
        · have th4 : decide (1099511627776 < q) = true := decide_eq_true h4
          have HV := Lib.hid (H2.out (by rw [hb]; omega))
          clear hb H1 H2
          go_enter Try.func61, Try.ntmps61
          go_wp2_with fail
          go_ret
          exact ⟨by rw [HV.out]; rfl, hB⟩
        · have th4 : decide (1099511627776 < q) = false := decide_eq_false h4
          by_cases h5 : s < 0
          · have th5 : decide (s < 0) = true := decide_eq_true h5
            have HV := Lib.hid (H2.out (by rw [hb]; omega))
            clear hb H1 H2
            go_enter Try.func61, Try.ntmps61
            go_wp2_with fail
            go_ret
            exact ⟨by rw [HV.out]; rfl, hB⟩
          · have th5 : decide (s < 0) = false := decide_eq_false h5
            by_cases h6 : 7 < s
            · have th6 : decide (7 < s) = true := decide_eq_true h6
              have HV := Lib.hid (H2.out (by rw [hb]; omega))
              clear hb H1 H2
              go_enter Try.func61, Try.ntmps61
              go_wp2_with fail
              go_ret
              exact ⟨by rw [HV.out]; rfl, hB⟩
            · have th6 : decide (7 < s) = false := decide_eq_false h6
              have HV := Lib.hid (H1.out (by rw [hb]; omega))
              clear hb H1 H2
              go_enter Try.func61, Try.ntmps61
              go_wp2_with fail
              go_ret
              exact ⟨by rw [HV.out]; rfl, hB⟩
end
end Go.Proofs.Ytdihbinbkneejaa
