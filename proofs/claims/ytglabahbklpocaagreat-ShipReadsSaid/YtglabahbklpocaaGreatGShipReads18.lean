/- sample.CheckPoint, Before, Newer; the reference's. Plain law: stamps that stand one behind the other are taken as they were written. The reference's Reader, more: Text. -/
import Derived.Test.YtglabahbklpocaaGreatGShipReads2
import Derived.Test.YtglabahbklpocaaGreatGShipReads8
import Derived.Test.YtglabahbklpocaaGreatGShipReads10
import Derived.Test.YtglabahbklpocaaGreatGShipReads9
import Derived.Test.YtglabahbklpocaaGreatGShipReads16
import Derived.Test.YtglabahbklpocaaGreatGShipReads7
namespace Go.Proofs.YtglabahbklpocaaGreat
section
open Go.RowKit
set_option maxRecDepth 100000
set_option linter.unusedVariables false
set_option linter.unusedSimpArgs false
attribute [local go_sem ↓] Go.wp_at_zero Go.wp_at_succ
noncomputable def chkP (p : Pt) : Int := if nameV p.series = true ∧ clockV p.time = true then chkV p.st else 1
theorem PtC.of {w wd : World} {g : Nat} {p : Pt} (h : w.heap[g]? = some (ptO p)) (e : wd.heap = w.heap) : PtC wd g 0 p := by
  have q : ∀ j v, (#[.string p.series, .int .i64 p.time, .int .i64 p.value, .int .i64 p.st.clock, .int .i64 p.st.site, .int .i64 p.st.seq] : Array Value)[j]? = some v → wd.cell? ⟨g, j, none⟩ = some v := fun j v hv => by
    simp only [World.cell?, e, h, ptO]
    exact hv
  exact ⟨q 0 _ rfl, q 1 _ rfl, q 2 _ rfl, q 3 _ rfl, q 4 _ rfl, q 5 _ rfl⟩
theorem pt_size_le {p : Pt} (h : p.wf) : p.series.size ≤ 9223372036854775807 := by have := h.1; unfold maxLen at this; omega
set_option maxHeartbeats 4000000 in
theorem chkpt_any (p : Pt) (w : World) (hp : p.wf) : Calls Tryz.prog 62 #[p.val] w fun e w' => e = .returned (.int .i64 (chkP p)) ∧ Below w.heap.size w w' := by
  obtain ⟨V, HV⟩ : ∃ V, Hid (V = chkP p) := ⟨_, rfl⟩
  rw [← HV.out]
  have C1 := fun wx => name_any p.series wx (pt_size_le hp)
  have C2 := fun wx => clock_any p.time wx
  have C3 := fun wx => check_any p.st wx
  have hB : Below w.heap.size w (w.alloc (ptO p)) := (Below.refl _ _).alloc (Nat.le_refl _) _
  unfold chkP at HV
  unfold ptO at hB
  generalize nameV p.series = B1 at *
  generalize clockV p.time = B2 at *
  generalize chkV p.st = K at *
  clear hp
  obtain ⟨s, t, v, c, si, q⟩ := p
  unfold Pt.val
  unfold St.val at C3
  simp only at C1 C2 C3 hB ⊢
  go_enter Tryz.func62, Tryz.ntmps62
  cases B1
  · have HV : Hid (V = 1) := HV.out.trans (if_neg (by simp))
    go_wp2_with (first | (go_at_call 64; refine (C1 _).mono ?_; rintro e wn ⟨rfl, rfl⟩))
    go_ret
    exact ⟨by rw [HV.out]; rfl, hB⟩
  · cases B2
    · have HV : Hid (V = 1) := HV.out.trans (if_neg (by simp))
      go_wp2_with (first | (go_at_call 64; refine (C1 _).mono ?_; rintro e wn ⟨rfl, rfl⟩) | (go_at_call 119; refine (C2 _).mono ?_; rintro e wn ⟨rfl, rfl⟩))
      go_ret
      exact ⟨by rw [HV.out]; rfl, hB⟩
    · have HV : Hid (V = K) := HV.out.trans (if_pos ⟨rfl, rfl⟩)
      go_wp2_with (first | (go_at_call 64; refine (C1 _).mono ?_; rintro e wn ⟨rfl, rfl⟩) | (go_at_call 119; refine (C2 _).mono ?_; rintro e wn ⟨rfl, rfl⟩) | (go_at_call 120; refine (C3 _).mono ?_; rintro e wn ⟨rfl, dn⟩))
      go_ret
      exact ⟨by rw [HV.out]; rfl, below_then hB (by simp) dn⟩
set_option maxHeartbeats 4000000 in
theorem rchkpt_any (p : Pt) (w : World) (hp : p.wf) : Calls Tryz.prog 70 #[p.val] w fun e w' => e = .returned (.int .i64 (chkP p)) ∧ Below w.heap.size w w' := by
  obtain ⟨V, HV⟩ : ∃ V, Hid (V = chkP p) := ⟨_, rfl⟩
  rw [← HV.out]
  have C1 := fun wx => rname_any p.series wx (pt_size_le hp)
  have C2 := fun wx => rclock_any p.time wx
  have C3 := fun wx => rcheck_any p.st wx
  have hB : Below w.heap.size w (w.alloc (ptO p)) := (Below.refl _ _).alloc (Nat.le_refl _) _
  unfold chkP at HV
  unfold ptO at hB
  have hK : chkV p.st = 0 ∨ chkV p.st = 1 := by unfold chkV; split <;> simp
  generalize nameV p.series = B1 at *
  generalize clockV p.time = B2 at *
  generalize chkV p.st = K at *
  clear hp
  obtain ⟨s, t, v, c, si, q⟩ := p
  unfold Pt.val
  unfold St.val at C3
  simp only at C1 C2 C3 hB ⊢
  go_enter Tryz.func70, Tryz.ntmps70
  cases B1
  · have HV : Hid (V = 1) := HV.out.trans (if_neg (by simp))
    go_wp2_with (first | (go_at_call 72; refine (C1 _).mono ?_; rintro e wn ⟨rfl, rfl⟩) | (go_at_call 123; refine (C2 _).mono ?_; rintro e wn ⟨rfl, rfl⟩))
    go_ret
    exact ⟨by rw [HV.out]; rfl, hB⟩
  · cases B2
    · have HV : Hid (V = 1) := HV.out.trans (if_neg (by simp))
      go_wp2_with (first | (go_at_call 72; refine (C1 _).mono ?_; rintro e wn ⟨rfl, rfl⟩) | (go_at_call 123; refine (C2 _).mono ?_; rintro e wn ⟨rfl, rfl⟩))
      go_ret
      exact ⟨by rw [HV.out]; rfl, hB⟩
    · have HV : Hid (V = K) := HV.out.trans (if_pos ⟨rfl, rfl⟩)
      rcases hK with rfl | rfl
      · go_wp2_with (first | (go_at_call 72; refine (C1 _).mono ?_; rintro e wn ⟨rfl, rfl⟩) | (go_at_call 123; refine (C2 _).mono ?_; rintro e wn ⟨rfl, rfl⟩) | (go_at_call 124; refine (C3 _).mono ?_; rintro e wn ⟨rfl, dn⟩))
        go_ret
        exact ⟨by rw [HV.out]; rfl, below_then hB (by simp) dn⟩
      · go_wp2_with (first | (go_at_call 72; refine (C1 _).mono ?_; rintro e wn ⟨rfl, rfl⟩) | (go_at_call 123; refine (C2 _).mono ?_; rintro e wn ⟨rfl, rfl⟩) | (go_at_call 124; refine (C3 _).mono ?_; rintro e wn ⟨rfl, dn⟩))
        go_ret
        exact ⟨by rw [HV.out]; rfl, below_then hB (by simp) dn⟩
end
end Go.Proofs.YtglabahbklpocaaGreat
namespace Go.Proofs.YtglabahbklpocaaGreat
section
set_option maxRecDepth 100000
set_option linter.unusedVariables false
set_option linter.unusedSimpArgs false
def stL (a : St) : List UInt8 := putB 9 a.clock ++ (putB 9 a.site ++ putB 9 a.seq)
theorem stL_len (a : St) : 3 ≤ (stL a).length ∧ (stL a).length ≤ 30 := by
  have h1 := putB_le a.clock
  have h2 := putB_le a.site
  have h3 := putB_le a.seq
  have k1 := putI_pos 9 a.clock
  have k2 := putI_pos 9 a.site
  have k3 := putI_pos 9 a.seq
  have b : ∀ x, (putB 9 x).length = (putI 9 x).length := fun x => by simp [putB]
  have b1 := b a.clock
  have b2 := b a.site
  have b3 := b a.seq
  simp only [stL, List.length_append]
  omega
theorem stB_data (a : St) (h : okV a = true) : stB a = ⟨(stL a).toArray⟩ := by
  unfold stB
  rw [if_pos h]
  apply ByteArray.ext
  apply Array.ext'
  rw [ByteArray.data_append, ByteArray.data_append, Array.toList_append, Array.toList_append, vput_data, vput_data, vput_data, List.append_assoc]
  rfl
theorem take_at {r : Rdr} {a : St} {t : List UInt8} (hr : r.ok) (hb : r.bad = false) (ha : okV a = true) (h : r.rest = stL a ++ t) : (takeV r).1 = a ∧ (takeV r).2.bad = false ∧ (takeV r).2.rest = t := by
  obtain ⟨⟨a1, a2⟩, ⟨a3, a4⟩, a5, a6⟩ := okV_range ha
  unfold stL at h
  rw [List.append_assoc, List.append_assoc] at h
  obtain ⟨s1, s2, s3⟩ := small_at (most := 1099511627776) hr hb h (by omega) (by omega) (by decide)
  have k1 := Rdr.small_ok hr 1099511627776
  obtain ⟨q1, q2, q3⟩ := small_at (most := 7) k1.1 s2 s3 (by omega) (by omega) (by decide)
  have k2 := Rdr.small_ok k1.1 7
  obtain ⟨p1, p2, p3⟩ := small_at (most := 1099511627776) k2.1 q2 q3 (by omega) (by omega) (by decide)
  have e : takeP r = (a, (((r.small 1099511627776).2.small 7).2.small 1099511627776).2) := by
    unfold takeP
    rw [s1, q1, p1]
  unfold takeV
  rw [e]
  simp only
  rw [if_pos ha]
  exact ⟨rfl, p2, p3⟩
/-- The first k takes. -/
def takes : Nat → Rdr → Rdr
  | 0, r => r
  | k + 1, r => (takeV (takes k r)).2
end
end Go.Proofs.YtglabahbklpocaaGreat
namespace Go.Proofs.YtglabahbklpocaaGreat
section
open Go.RowKit
set_option maxRecDepth 100000
set_option linter.unusedVariables false
set_option linter.unusedSimpArgs false
set_option maxHeartbeats 2000000 in
theorem rrdr_text (g : Nat) (r : Rdr) (w : World) (h : RdrAt 105 w g r) (hr : r.ok) :
    Calls Tryz.prog 77 #[.pointer (some ⟨g, 0, none⟩)] w fun e w' => e = .returned (.string r.text.1) ∧ RdrAt 105 w' g r.text.2 ∧ But g w w' := by
  have hk := Rdr.num_ok hr
  go_enter Tryz.func77, Tryz.ntmps77
  go_wp2_with fail
  refine (rrdr_num g r _ h hr).mono ?_
  rintro e w1 ⟨rfl, h1, hb1⟩
  have HS : Hid (r.text = if r.num.2.bad = true ∨ r.num.2.left < r.num.1 then (⟨#[]⟩, { r.num.2 with bad := true }) else
    (r.num.2.s.extract r.num.2.pos.toNat (r.num.2.pos + r.num.1).toNat, { r.num.2 with pos := r.num.2.pos + r.num.1 })) := by
    show r.text = _
    unfold Rdr.text
    rw [hk.2.2.2]
  generalize r.num = q at *
  obtain ⟨v, r1⟩ := q
  simp only at h1 hk
  have HK := Lib.hid hk
  have hv0 := hk.2.1
  have hpos := hk.1.2.1
  have hpos2 := hk.1.2.2
  have hbig := hk.1.1
  clear hk h hr
  have c0 := h1.c0
  have c1 := h1.c1
  have c2 := h1.c2
  have H1 := Lib.hid h1
  clear h1
  cases hbd : r1.bad
  · have HL : Hid (r1.left = (r1.s.size : Int) - r1.pos) := by show r1.left = _; unfold Rdr.left; rw [if_neg (by rw [hbd]; decide)]
    rw [hbd] at c2
    have hw1 : IntKind.i64.wrap ((r1.s.size : Int) - r1.pos) = (r1.s.size : Int) - r1.pos := IntWalk.i64_in _ (by omega)
    have hw2 : IntKind.u64.wrap ((r1.s.size : Int) - r1.pos) = (r1.s.size : Int) - r1.pos := by rw [wrap_u64]; omega
    by_cases hle : v ≤ (r1.s.size : Int) - r1.pos
    · have t1 : decide ((r1.s.size : Int) - r1.pos < v) = false := decide_eq_false (by omega)
      have HS2 := Lib.hid (HS.out.trans (if_neg (show ¬ (r1.bad = true ∨ r1.left < v) by rw [hbd, HL.out]; simp; omega)))
      have hw4 : wrap64 v = v := IntWalk.wrap64_in v ⟨by omega, by omega⟩
      have hw5 : IntKind.i64.wrap v = v := IntWalk.i64_in v ⟨by omega, by omega⟩
      have hw6 : IntKind.i64.wrap (r1.pos + v) = r1.pos + v := IntWalk.i64_in _ ⟨by omega, by omega⟩
      have hn3 : 0 ≤ r1.pos + v := by omega
      have hsl := str_slice (P := Tryz.prog) (T := 9) Tryz.underlying9 r1.s r1.pos (r1.pos + v) r1.pos.toNat (r1.pos + v).toNat (by omega) (by omega) (by omega) (by omega)
      clear hbd
      go_wp2
      go_quiet (fail)
      have h4 : RdrAt 105 (w1.drewN nq) g r1 := H1.out
      have hb4 : But g w (w1.drewN nq) := hb1.trans (But.drewN g nq _)
      clear c0 c1 c2
      generalize w1.drewN nq = w5 at *
      have d0 := h4.c0
      have d1 := h4.c1
      have H4 := Lib.hid h4
      clear h4
      go_wp2
      go_quiet (fail)
      have h6 : RdrAt 105 (w5.drewN nq) g r1 := H4.out
      have hb6 : But g w (w5.drewN nq) := hb4.trans (But.drewN g nq _)
      clear d0 d1
      generalize w5.drewN nq = w6 at *
      have e1 := h6.c1
      have f1 := h6.fz 1
      go_wp2
      go_ret
      rw [HS2.out]
      exact ⟨rfl, h6.set1 _, hb6.trans (But.set g 1 _ _)⟩
    · have t1 : decide ((r1.s.size : Int) - r1.pos < v) = true := decide_eq_true (by omega)
      have HS2 := Lib.hid (HS.out.trans (if_pos (show (r1.bad = true ∨ r1.left < v) by rw [HL.out]; right; omega)))
      clear hbd
      go_wp2
      go_quiet (fail)
      have h4 : RdrAt 105 (w1.drewN nq) g r1 := H1.out
      have hb4 : But g w (w1.drewN nq) := hb1.trans (But.drewN g nq _)
      generalize w1.drewN nq = w5 at *
      have d2 := h4.c2
      have f2 := h4.fz 2
      go_wp2
      go_ret
      rw [HS2.out]
      exact ⟨rfl, h4.set2 true, hb4.trans (But.set g 2 _ _)⟩
  · have HS2 := Lib.hid (HS.out.trans (if_pos (show (r1.bad = true ∨ r1.left < v) by rw [hbd]; simp)))
    rw [hbd] at c2
    clear hbd
    go_wp2
    go_quiet (fail)
    have h4 : RdrAt 105 (w1.drewN nq) g r1 := H1.out
    have hb4 : But g w (w1.drewN nq) := hb1.trans (But.drewN g nq _)
    generalize w1.drewN nq = w5 at *
    have d2 := h4.c2
    have f2 := h4.fz 2
    go_wp2
    go_ret
    rw [HS2.out]
    exact ⟨rfl, h4.set2 true, hb4.trans (But.set g 2 _ _)⟩
end
end Go.Proofs.YtglabahbklpocaaGreat
