/- sample.CheckPoint, Before, Newer; the reference's. -/
import Derived.Test.YtkonflbgkaflaaaGSampleMany4
import Derived.Test.YtkonflbgkaflaaaGSampleMany22
import Derived.Test.YtkonflbgkaflaaaGSampleMany39
import Derived.Test.YtkonflbgkaflaaaGSampleMany23
namespace Go.Proofs.Ytkonflbgkaflaaa
section
open Go.RowKit
set_option maxRecDepth 100000
set_option linter.unusedVariables false
set_option linter.unusedSimpArgs false
attribute [local go_sem ↓] Go.wp_at_zero Go.wp_at_succ
noncomputable def chkP (p : Pt) : Int := if nameV p.series = true ∧ clockV p.time = true then chkV p.st else 1
def eqS (a b : ByteArray) : Bool := a.toList == b.toList
def ltS (a b : ByteArray) : Bool := Op.bytesLess a.toList b.toList
def beforeV (a b : Pt) : Bool := ltS a.series b.series || (eqS a.series b.series && decide (a.time < b.time))
def newerV (a b : Pt) : Bool := (eqS a.series b.series && a.time == b.time) && lessV b.st a.st
theorem PtC.of {w wd : World} {g : Nat} {p : Pt} (h : w.heap[g]? = some (ptO p)) (e : wd.heap = w.heap) : PtC wd g 0 p := by
  have q : ∀ j v, (#[.string p.series, .int .i64 p.time, .int .i64 p.value, .int .i64 p.st.clock, .int .i64 p.st.site, .int .i64 p.st.seq] : Array Value)[j]? = some v → wd.cell? ⟨g, j, none⟩ = some v := fun j v hv => by
    simp only [World.cell?, e, h, ptO]
    exact hv
  exact ⟨q 0 _ rfl, q 1 _ rfl, q 2 _ rfl, q 3 _ rfl, q 4 _ rfl, q 5 _ rfl⟩
theorem pt_size_le {p : Pt} (h : p.wf) : p.series.size ≤ 9223372036854775807 := by have := h.1; unfold maxLen at this; omega
set_option maxHeartbeats 4000000 in
theorem chkpt_any (p : Pt) (w : World) (hp : p.wf) : Calls Try.prog 27 #[p.val] w fun e w' => e = .returned (.int .i64 (chkP p)) ∧ Below w.heap.size w w' := by
  obtain ⟨V, HV⟩ : ∃ V, Hid (V = chkP p) := ⟨_, rfl⟩
  rw [← HV.out]
  have C1 := fun wx => name_any p.series wx (pt_size_le hp)
  have C2 := fun wx => clock_any p.time wx
  have C3 := fun wx => check_any p.st wx
  have hB : Below w.heap.size w (w.alloc (ptO p)) := (Below.refl _ _).alloc (Nat.le_refl _) _
  unfold chkP at HV
  unfold ptO at hB
  generalize nameV p.series = B1 at *
  generalize clockV p.time = B2 at *
  generalize chkV p.st = K at *
  clear hp
  obtain ⟨s, t, v, c, si, q⟩ := p
  unfold Pt.val
  unfold St.val at C3
  simp only at C1 C2 C3 hB ⊢
  go_enter Try.func27, Try.ntmps27
  cases B1
  · have HV : Hid (V = 1) := HV.out.trans (if_neg (by simp))
    go_wp2_with (first | (go_at_call 18; refine (C1 _).mono ?_; rintro e wn ⟨rfl, rfl⟩))
    go_ret
    exact ⟨by rw [HV.out]; rfl, hB⟩
  · cases B2
    · have HV : Hid (V = 1) := HV.out.trans (if_neg (by simp))
      go_wp2_with (first | (go_at_call 18; refine (C1 _).mono ?_; rintro e wn ⟨rfl, rfl⟩) | (go_at_call 45; refine (C2 _).mono ?_; rintro e wn ⟨rfl, rfl⟩))
      go_ret
      exact ⟨by rw [HV.out]; rfl, hB⟩
    · have HV : Hid (V = K) := HV.out.trans (if_pos ⟨rfl, rfl⟩)
      go_wp2_with (first | (go_at_call 18; refine (C1 _).mono ?_; rintro e wn ⟨rfl, rfl⟩) | (go_at_call 45; refine (C2 _).mono ?_; rintro e wn ⟨rfl, rfl⟩) | (go_at_call 46; refine (C3 _).mono ?_; rintro e wn ⟨rfl, dn⟩))
      go_ret
      exact ⟨by rw [HV.out]; rfl, below_then hB (by simp) dn⟩
set_option maxHeartbeats 4000000 in
theorem rchkpt_any (p : Pt) (w : World) (hp : p.wf) : Calls Try.prog 28 #[p.val] w fun e w' => e = .returned (.int .i64 (chkP p)) ∧ Below w.heap.size w w' := by
  obtain ⟨V, HV⟩ : ∃ V, Hid (V = chkP p) := ⟨_, rfl⟩
  rw [← HV.out]
  have C1 := fun wx => rname_any p.series wx (pt_size_le hp)
  have C2 := fun wx => rclock_any p.time wx
  have C3 := fun wx => rcheck_any p.st wx
  have hB : Below w.heap.size w (w.alloc (ptO p)) := (Below.refl _ _).alloc (Nat.le_refl _) _
  unfold chkP at HV
  unfold ptO at hB
  have hK : chkV p.st = 0 ∨ chkV p.st = 1 := by unfold chkV; split <;> simp
  generalize nameV p.series = B1 at *
  generalize clockV p.time = B2 at *
  generalize chkV p.st = K at *
  clear hp
  obtain ⟨s, t, v, c, si, q⟩ := p
  unfold Pt.val
  unfold St.val at C3
  simp only at C1 C2 C3 hB ⊢
  go_enter Try.func28, Try.ntmps28
  cases B1
  · have HV : Hid (V = 1) := HV.out.trans (if_neg (by simp))
    go_wp2_with (first | (go_at_call 19; refine (C1 _).mono ?_; rintro e wn ⟨rfl, rfl⟩) | (go_at_call 49; refine (C2 _).mono ?_; rintro e wn ⟨rfl, rfl⟩))
    go_ret
    exact ⟨by rw [HV.out]; rfl, hB⟩
  · cases B2
    · have HV : Hid (V = 1) := HV.out.trans (if_neg (by simp))
      go_wp2_with (first | (go_at_call 19; refine (C1 _).mono ?_; rintro e wn ⟨rfl, rfl⟩) | (go_at_call 49; refine (C2 _).mono ?_; rintro e wn ⟨rfl, rfl⟩))
      go_ret
      exact ⟨by rw [HV.out]; rfl, hB⟩
    · have HV : Hid (V = K) := HV.out.trans (if_pos ⟨rfl, rfl⟩)
      rcases hK with rfl | rfl
      · go_wp2_with (first | (go_at_call 19; refine (C1 _).mono ?_; rintro e wn ⟨rfl, rfl⟩) | (go_at_call 49; refine (C2 _).mono ?_; rintro e wn ⟨rfl, rfl⟩) | (go_at_call 51; refine (C3 _).mono ?_; rintro e wn ⟨rfl, dn⟩))
        go_ret
        exact ⟨by rw [HV.out]; rfl, below_then hB (by simp) dn⟩
      · go_wp2_with (first | (go_at_call 19; refine (C1 _).mono ?_; rintro e wn ⟨rfl, rfl⟩) | (go_at_call 49; refine (C2 _).mono ?_; rintro e wn ⟨rfl, rfl⟩) | (go_at_call 51; refine (C3 _).mono ?_; rintro e wn ⟨rfl, dn⟩))
        go_ret
        exact ⟨by rw [HV.out]; rfl, below_then hB (by simp) dn⟩
set_option maxHeartbeats 4000000 in
theorem before_any (a b : Pt) (w : World) : Calls Try.prog 21 #[a.val, b.val] w fun e w' => e = .returned (.bool (beforeV a b)) ∧ Below w.heap.size w w' := by
  obtain ⟨V, HV⟩ : ∃ V, Hid (V = beforeV a b) := ⟨_, rfl⟩
  rw [← HV.out]
  have hB : Below w.heap.size w ((w.alloc (ptO a)).alloc (ptO b)) := ((Below.refl _ _).alloc (Nat.le_refl _) _).alloc (by simp) _
  unfold beforeV at HV
  unfold ptO at hB
  have E1 : eqS a.series b.series = (a.series.toList == b.series.toList) := rfl
  have E2 : ltS a.series b.series = Op.bytesLess a.series.toList b.series.toList := rfl
  generalize eqS a.series b.series = B1 at *
  generalize ltS a.series b.series = B2 at *
  replace E1 := E1.symm
  replace E2 := E2.symm
  obtain ⟨s, t, v, c, si, q⟩ := a
  obtain ⟨s', t', v', c', si', q'⟩ := b
  unfold Pt.val
  simp only at E1 E2 HV hB ⊢
  obtain ⟨T, hT⟩ : ∃ T, decide (t < t') = T := ⟨_, rfl⟩
  rw [hT] at HV
  cases B1 <;> cases B2 <;> cases T
  all_goals
    have HV := Lib.hid HV.out
    go_enter Try.func21, Try.ntmps21
    go_wp2_with fail
    go_ret
    exact ⟨by rw [HV.out]; rfl, hB⟩
set_option maxHeartbeats 4000000 in
theorem rbefore_any (a b : Pt) (w : World) : Calls Try.prog 25 #[a.val, b.val] w fun e w' => e = .returned (.bool (beforeV a b)) ∧ Below w.heap.size w w' := by
  obtain ⟨V, HV⟩ : ∃ V, Hid (V = beforeV a b) := ⟨_, rfl⟩
  rw [← HV.out]
  have hB : Below w.heap.size w ((w.alloc (ptO a)).alloc (ptO b)) := ((Below.refl _ _).alloc (Nat.le_refl _) _).alloc (by simp) _
  unfold beforeV at HV
  unfold ptO at hB
  have E1 : eqS a.series b.series = (a.series.toList == b.series.toList) := rfl
  have E2 : ltS a.series b.series = Op.bytesLess a.series.toList b.series.toList := rfl
  generalize eqS a.series b.series = B1 at *
  generalize ltS a.series b.series = B2 at *
  replace E1 := E1.symm
  replace E2 := E2.symm
  obtain ⟨s, t, v, c, si, q⟩ := a
  obtain ⟨s', t', v', c', si', q'⟩ := b
  unfold Pt.val
  simp only at E1 E2 HV hB ⊢
  obtain ⟨T, hT⟩ : ∃ T, decide (t < t') = T := ⟨_, rfl⟩
  rw [hT] at HV
  cases B1 <;> cases B2 <;> cases T
  all_goals
    have HV := Lib.hid HV.out
    go_enter Try.func25, Try.ntmps25
    go_wp2_with fail
    go_ret
    exact ⟨by rw [HV.out]; rfl, hB⟩
set_option maxHeartbeats 4000000 in
theorem newer_any (a b : Pt) (w : World) : Calls Try.prog 22 #[a.val, b.val] w fun e w' => e = .returned (.bool (newerV a b)) ∧ Below w.heap.size w w' := by
  obtain ⟨V, HV⟩ : ∃ V, Hid (V = newerV a b) := ⟨_, rfl⟩
  rw [← HV.out]
  have hB : Below w.heap.size w ((w.alloc (ptO a)).alloc (ptO b)) := ((Below.refl _ _).alloc (Nat.le_refl _) _).alloc (by simp) _
  have hK := ((Kn.start w).new' rfl (ptO a)).new' (n := w.heap.size + 1) (by simp [ptO]) (ptO b)
  have C := fun wx => less_any b.st a.st wx
  unfold newerV at HV
  have E1 : eqS a.series b.series = (a.series.toList == b.series.toList) := rfl
  generalize eqS a.series b.series = B1 at *
  replace E1 := E1.symm
  generalize lessV b.st a.st = LS at *
  unfold ptO at hB
  obtain ⟨s, t, v, c, si, q⟩ := a
  obtain ⟨s', t', v', c', si', q'⟩ := b
  unfold St.val at C
  unfold Pt.val
  simp only at E1 HV hB C ⊢
  obtain ⟨T, hT⟩ : ∃ T, (t == t') = T := ⟨_, rfl⟩
  rw [hT] at HV
  cases B1 <;> cases T
  all_goals
    have HV := Lib.hid HV.out
    clear hK
    go_enter Try.func22, Try.ntmps22
    go_wp2_with (first | (go_at_call 53; refine (C _).mono ?_; rintro e wn ⟨rfl, dn⟩; have hB := below_then hB (by simp; omega) dn))
    go_ret
    exact ⟨by rw [HV.out]; rfl, hB⟩
set_option maxHeartbeats 4000000 in
theorem rnewer_any (a b : Pt) (w : World) : Calls Try.prog 26 #[a.val, b.val] w fun e w' => e = .returned (.bool (newerV a b)) ∧ Below w.heap.size w w' := by
  obtain ⟨V, HV⟩ : ∃ V, Hid (V = newerV a b) := ⟨_, rfl⟩
  rw [← HV.out]
  have C := fun wx => rless_any b.st a.st wx
  unfold newerV at HV
  have E1 : eqS a.series b.series = (a.series.toList == b.series.toList) := rfl
  generalize eqS a.series b.series = B1 at *
  replace E1 := E1.symm
  generalize lessV b.st a.st = LS at *
  obtain ⟨T, hT⟩ : ∃ T, (a.time == b.time) = T := ⟨_, rfl⟩
  rw [hT] at HV
  unfold St.val at C
  unfold Pt.val
  go_enter Try.func26, Try.ntmps26
  go_upto_region 1 with (fail)
  generalize hw1 : (w.alloc (.cells #[.string a.series, .int .i64 a.time, .int .i64 a.value, .int .i64 a.st.clock, .int .i64 a.st.site, .int .i64 a.st.seq] 34)).alloc (.cells #[.string b.series, .int .i64 b.time, .int .i64 b.value, .int .i64 b.st.clock, .int .i64 b.st.site, .int .i64 b.st.seq] 34) = w1
  have hK : Kn w.heap.size w [(w.heap.size + 1, ptO b), (w.heap.size, ptO a)] w1 := by
    rw [← hw1]
    exact ((Kn.start w).new' rfl (ptO a)).new' (n := w.heap.size + 1) (by simp [ptO]) (ptO b)
  clear hw1
  generalize hg : w.heap.size = g at *
  obtain ⟨a0, a1, _, a3, a4, a5⟩ := PtC.of (hK.at_ (g, ptO a) (by simp)) rfl
  obtain ⟨b0, b1, _, b3, b4, b5⟩ := PtC.of (hK.at_ (g + 1, ptO b) (by simp)) rfl
  simp only [Nat.zero_add] at a1 a3 a4 a5 b1 b3 b4 b5
  go_upto_region 2 with (first | (go_at_call 58; refine (C _).mono ?_; rintro e w2 ⟨rfl, d2⟩))
  have KK := Lib.hid (hK.below d2)
  clear hK d2 a0 a1 a3 a4 a5 b0 b1 b3 b4 b5 C
  obtain ⟨a0, a1, _, a3, a4, a5⟩ := PtC.of (KK.out.at_ (g, ptO a) (by simp)) rfl
  obtain ⟨b0, b1, _, b3, b4, b5⟩ := PtC.of (KK.out.at_ (g + 1, ptO b) (by simp)) rfl
  simp only [Nat.zero_add] at a1 a3 a4 a5 b1 b3 b4 b5
  cases B1 <;> cases T
  all_goals
    have HV := Lib.hid HV.out
    go_wp2_with fail
    go_ret
    exact ⟨by rw [HV.out]; rfl, by first | exact KK.out.b | (rw [hg]; exact KK.out.b)⟩
end
end Go.Proofs.Ytkonflbgkaflaaa
