/- sample.CheckPoint, Before, Newer; the reference's. Plain law: stamps that stand one behind the other are taken as they were written. The reference's Reader, more: Text. -/
import Derived.Test.YtglabahbklpocaaGreatGShipPacks2
import Derived.Test.YtglabahbklpocaaGreatGShipPacks7
import Derived.Test.YtglabahbklpocaaGreatGShipPacks9
import Derived.Test.YtglabahbklpocaaGreatGShipPacks8
import Derived.Test.YtglabahbklpocaaGreatGShipPacks21
import Derived.Test.YtglabahbklpocaaGreatGShipPacks6
namespace Go.Proofs.YtglabahbklpocaaGreat
section
open Go.RowKit
set_option maxRecDepth 100000
set_option linter.unusedVariables false
set_option linter.unusedSimpArgs false
attribute [local go_sem ↓] Go.wp_at_zero Go.wp_at_succ
noncomputable def chkP (p : Pt) : Int := if nameV p.series = true ∧ clockV p.time = true then chkV p.st else 1
theorem PtC.of {w wd : World} {g : Nat} {p : Pt} (h : w.heap[g]? = some (ptO p)) (e : wd.heap = w.heap) : PtC wd g 0 p := by
  have q : ∀ j v, (#[.string p.series, .int .i64 p.time, .int .i64 p.value, .int .i64 p.st.clock, .int .i64 p.st.site, .int .i64 p.st.seq] : Array Value)[j]? = some v → wd.cell? ⟨g, j, none⟩ = some v := fun j v hv => by
    simp only [World.cell?, e, h, ptO]
    exact hv
  exact ⟨q 0 _ rfl, q 1 _ rfl, q 2 _ rfl, q 3 _ rfl, q 4 _ rfl, q 5 _ rfl⟩
theorem pt_size_le {p : Pt} (h : p.wf) : p.series.size ≤ 9223372036854775807 := by have := h.1; unfold maxLen at this; omega
set_option maxHeartbeats 4000000 in
theorem chkpt_any (p : Pt) (w : World) (hp : p.wf) : Calls Tryz.prog 62 #[p.val] w fun e w' => e = .returned (.int .i64 (chkP p)) ∧ Below w.heap.size w w' := by
  obtain ⟨V, HV⟩ : ∃ V, Hid (V = chkP p) := ⟨_, rfl⟩
  rw [← HV.out]
  have C1 := fun wx => name_any p.series wx (pt_size_le hp)
  have C2 := fun wx => clock_any p.time wx
  have C3 := fun wx => check_any p.st wx
  have hB : Below w.heap.size w (w.alloc (ptO p)) := (Below.refl _ _).alloc (Nat.le_refl _) _
  unfold chkP at HV
  unfold ptO at hB
  generalize nameV p.series = B1 at *
  generalize clockV p.time = B2 at *
  generalize chkV p.st = K at *
  clear hp
  obtain ⟨s, t, v, c, si, q⟩ := p
  unfold Pt.val
  unfold St.val at C3
  simp only at C1 C2 C3 hB ⊢
  go_enter Tryz.func62, Tryz.ntmps62
  cases B1
  · have HV : Hid (V = 1) := HV.out.trans (if_neg (by simp))
    go_wp2_with (first | (go_at_call 64; refine (C1 _).mono ?_; rintro e wn ⟨rfl, rfl⟩))
    go_ret
    exact ⟨by rw [HV.out]; rfl, hB⟩
  · cases B2
    · have HV : Hid (V = 1) := HV.out.trans (if_neg (by simp))
      go_wp2_with (first | (go_at_call 64; refine (C1 _).mono ?_; rintro e wn ⟨rfl, rfl⟩) | (go_at_call 119; refine (C2 _).mono ?_; rintro e wn ⟨rfl, rfl⟩))
      go_ret
      exact ⟨by rw [HV.out]; rfl, hB⟩
    · have HV : Hid (V = K) := HV.out.trans (if_pos ⟨rfl, rfl⟩)
      go_wp2_with (first | (go_at_call 64; refine (C1 _).mono ?_; rintro e wn ⟨rfl, rfl⟩) | (go_at_call 119; refine (C2 _).mono ?_; rintro e wn ⟨rfl, rfl⟩) | (go_at_call 120; refine (C3 _).mono ?_; rintro e wn ⟨rfl, dn⟩))
      go_ret
      exact ⟨by rw [HV.out]; rfl, below_then hB (by simp) dn⟩
end
end Go.Proofs.YtglabahbklpocaaGreat
namespace Go.Proofs.YtglabahbklpocaaGreat
section
set_option maxRecDepth 100000
set_option linter.unusedVariables false
set_option linter.unusedSimpArgs false
def stL (a : St) : List UInt8 := putB 9 a.clock ++ (putB 9 a.site ++ putB 9 a.seq)
theorem stL_len (a : St) : 3 ≤ (stL a).length ∧ (stL a).length ≤ 30 := by
  have h1 := putB_le a.clock
  have h2 := putB_le a.site
  have h3 := putB_le a.seq
  have k1 := putI_pos 9 a.clock
  have k2 := putI_pos 9 a.site
  have k3 := putI_pos 9 a.seq
  have b : ∀ x, (putB 9 x).length = (putI 9 x).length := fun x => by simp [putB]
  have b1 := b a.clock
  have b2 := b a.site
  have b3 := b a.seq
  simp only [stL, List.length_append]
  omega
theorem stB_data (a : St) (h : okV a = true) : stB a = ⟨(stL a).toArray⟩ := by
  unfold stB
  rw [if_pos h]
  apply ByteArray.ext
  apply Array.ext'
  rw [ByteArray.data_append, ByteArray.data_append, Array.toList_append, Array.toList_append, vput_data, vput_data, vput_data, List.append_assoc]
  rfl
theorem take_at {r : Rdr} {a : St} {t : List UInt8} (hr : r.ok) (hb : r.bad = false) (ha : okV a = true) (h : r.rest = stL a ++ t) : (takeV r).1 = a ∧ (takeV r).2.bad = false ∧ (takeV r).2.rest = t := by
  obtain ⟨⟨a1, a2⟩, ⟨a3, a4⟩, a5, a6⟩ := okV_range ha
  unfold stL at h
  rw [List.append_assoc, List.append_assoc] at h
  obtain ⟨s1, s2, s3⟩ := small_at (most := 1099511627776) hr hb h (by omega) (by omega) (by decide)
  have k1 := Rdr.small_ok hr 1099511627776
  obtain ⟨q1, q2, q3⟩ := small_at (most := 7) k1.1 s2 s3 (by omega) (by omega) (by decide)
  have k2 := Rdr.small_ok k1.1 7
  obtain ⟨p1, p2, p3⟩ := small_at (most := 1099511627776) k2.1 q2 q3 (by omega) (by omega) (by decide)
  have e : takeP r = (a, (((r.small 1099511627776).2.small 7).2.small 1099511627776).2) := by
    unfold takeP
    rw [s1, q1, p1]
  unfold takeV
  rw [e]
  simp only
  rw [if_pos ha]
  exact ⟨rfl, p2, p3⟩
/-- The first k takes. -/
def takes : Nat → Rdr → Rdr
  | 0, r => r
  | k + 1, r => (takeV (takes k r)).2
end
end Go.Proofs.YtglabahbklpocaaGreat
namespace Go.Proofs.YtglabahbklpocaaGreat
section
open Go.RowKit
set_option maxRecDepth 100000
set_option linter.unusedVariables false
set_option linter.unusedSimpArgs false
end
end Go.Proofs.YtglabahbklpocaaGreat
