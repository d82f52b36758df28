/- The reference's Same of records. Plain law: stamps that stand one behind the other are taken as they were written. -/
import Derived.Test.YtkonflbgkaflaaaGSampleBack39
import Derived.Test.YtkonflbgkaflaaaGSampleBack40
import Derived.Test.YtkonflbgkaflaaaGSampleBack9
import Derived.Test.YtkonflbgkaflaaaGSampleBack30
import Derived.Test.YtkonflbgkaflaaaGSampleBack21
namespace Go.Proofs.Ytkonflbgkaflaaa
section
open Go.RowKit
set_option maxRecDepth 100000
set_option linter.unusedVariables false
set_option linter.unusedSimpArgs false
attribute [local go_sem ↓] Go.wp_at_zero Go.wp_at_succ
open Classical in
noncomputable def sameR (a b : RecA) : Bool := decide (a.r = b.r ∧ a.ds = b.ds)
set_option maxHeartbeats 4000000 in
theorem samer_any (a b : RecA) (w : World) (ha : a.ok w) (hb : b.ok w) : Calls Try.prog 33 #[a.val, b.val] w fun e w' => e = .returned (.bool (sameR a b)) ∧ Below w.heap.size w w' := by
  obtain ⟨V, HV⟩ : ∃ V, Hid (V = sameR a b) := ⟨_, rfl⟩
  rw [← HV.out]
  have HA := Lib.hid ha
  have HB := Lib.hid hb
  have C0 := fun wx hw => same_any a.d.a b.d.a a.d.n a.d.c b.d.n b.d.c a.ds b.ds wx (ha.below hw).sl.r (hb.below hw).sl.r ha.sl.nc ha.sl.cb hb.sl.nc hb.sl.cb
  clear ha hb
  obtain ⟨r, d, ds⟩ := a
  obtain ⟨r', d', ds'⟩ := b
  unfold RecA.val rcVal
  simp only [rcA] at C0 ⊢
  go_enter Try.func33, Try.ntmps33
  go_upto_region 1 with fail
  generalize hw1 : World.alloc _ _ = w1
  have hK : Kn w.heap.size w [(w.heap.size + 1, rcO r' d'), (w.heap.size, rcO r d)] w1 := by rw [← hw1]; exact ((Kn.start w).new' rfl (rcO r d)).new' (n := w.heap.size + 1) (by simp) (rcO r' d')
  clear hw1
  generalize hg : w.heap.size = g at *
  have KK := Lib.hid hK
  clear hK
  have a8 := (rc_cells (KK.out.at_ (g, rcO r d) (by simp)) rfl).c8
  have b8 := (rc_cells (KK.out.at_ (g + 1, rcO r' d') (by simp)) rfl).c8
  go_upto_region 2 with (first | (go_at_call 75; refine (C0 _ KK.out.b).mono ?_; rintro e wn ⟨rfl, dn⟩; have KK := Lib.hid (KK.out.below dn); clear dn))
  clear a8 b8
  obtain ⟨a0, a1, a2, a3, a4, a5, a6, a7, _⟩ := rc_cells (KK.out.at_ (g, rcO r d) (by simp)) rfl
  obtain ⟨b0, b1, b2, b3, b4, b5, b6, b7, _⟩ := rc_cells (KK.out.at_ (g + 1, rcO r' d') (by simp)) rfl
  have ST := fun wx => eq_stamp r.st r'.st wx
  unfold St.val at ST
  have HV : Hid (V = ((((((decide (ds = ds') && (r.kind == r'.kind)) && (r.series.toList == r'.series.toList)) && (r.time == r'.time)) && (r.value == r'.value)) && (r.tier == r'.tier)) && decide (r.st = r'.st))) := by
    show _ = _
    rw [HV.out]
    unfold sameR
    rw [Bool.eq_iff_iff]
    simp only [decide_eq_true_eq, Bool.and_eq_true, beq_iff_eq]
    obtain ⟨k, s, t, v, tr, st⟩ := r
    obtain ⟨k', s', t', v', tr', st'⟩ := r'
    simp only [Rc.mk.injEq]
    constructor
    · rintro ⟨⟨rfl, rfl, rfl, rfl, rfl, rfl⟩, rfl⟩
      simp
    · rintro ⟨⟨⟨⟨⟨⟨rfl, rfl⟩, h⟩, rfl⟩, rfl⟩, rfl⟩, rfl⟩
      exact ⟨⟨rfl, by rw [Lib.toList_data, Lib.toList_data] at h; exact ByteArray.ext (Array.ext' h), rfl, rfl, rfl, rfl⟩, rfl⟩
  obtain ⟨D, hD⟩ : ∃ D, decide (ds = ds') = D := ⟨_, rfl⟩
  obtain ⟨Bk, e1⟩ : ∃ D, (r.kind == r'.kind) = D := ⟨_, rfl⟩
  obtain ⟨Bs, e2⟩ : ∃ D, (r.series.toList == r'.series.toList) = D := ⟨_, rfl⟩
  obtain ⟨Bt, e3⟩ : ∃ D, (r.time == r'.time) = D := ⟨_, rfl⟩
  obtain ⟨Bv, e4⟩ : ∃ D, (r.value == r'.value) = D := ⟨_, rfl⟩
  obtain ⟨Br, e5⟩ : ∃ D, (r.tier == r'.tier) = D := ⟨_, rfl⟩
  obtain ⟨Bst, e6⟩ : ∃ D, decide (r.st = r'.st) = D := ⟨_, rfl⟩
  rw [hD, e1, e2, e3, e4, e5, e6] at HV
  simp only [hD] at C0 ⊢
  simp only [e6] at ST
  clear C0
  cases D
  · skip
    go_wp2_with fail
    go_ret
    exact ⟨by rw [HV.out]; rfl, by first | exact KK.out.b | (rw [hg]; exact KK.out.b)⟩
  · skip
    cases Bk
    · skip
      go_wp2_with fail
      go_ret
      exact ⟨by rw [HV.out]; rfl, by first | exact KK.out.b | (rw [hg]; exact KK.out.b)⟩
    · skip
      cases Bs
      · skip
        go_wp2_with fail
        go_ret
        exact ⟨by rw [HV.out]; rfl, by first | exact KK.out.b | (rw [hg]; exact KK.out.b)⟩
      · skip
        cases Bt
        · skip
          go_wp2_with fail
          go_ret
          exact ⟨by rw [HV.out]; rfl, by first | exact KK.out.b | (rw [hg]; exact KK.out.b)⟩
        · skip
          cases Bv
          · skip
            go_wp2_with fail
            go_ret
            exact ⟨by rw [HV.out]; rfl, by first | exact KK.out.b | (rw [hg]; exact KK.out.b)⟩
          · skip
            cases Br
            · skip
              go_wp2_with fail
              go_ret
              exact ⟨by rw [HV.out]; rfl, by first | exact KK.out.b | (rw [hg]; exact KK.out.b)⟩
            · skip
              cases Bst
              · skip
                go_wp2_with fail
                go_ret
                exact ⟨by rw [HV.out]; rfl, by first | exact KK.out.b | (rw [hg]; exact KK.out.b)⟩
              · skip
                go_wp2_with fail
                go_ret
                exact ⟨by rw [HV.out]; rfl, by first | exact KK.out.b | (rw [hg]; exact KK.out.b)⟩
end
end Go.Proofs.Ytkonflbgkaflaaa
namespace Go.Proofs.Ytkonflbgkaflaaa
section
set_option maxRecDepth 100000
set_option linter.unusedVariables false
set_option linter.unusedSimpArgs false
def stL (a : St) : List UInt8 := putB 9 a.clock ++ (putB 9 a.site ++ putB 9 a.seq)
def stsL (l : List St) : List UInt8 := l.flatMap stL
theorem stsL_append (l m : List St) : stsL (l ++ m) = stsL l ++ stsL m := by simp [stsL]
theorem stsL_one (a : St) : stsL [a] = stL a := by simp [stsL]
theorem stL_len (a : St) : 3 ≤ (stL a).length ∧ (stL a).length ≤ 30 := by
  have h1 := putB_le a.clock
  have h2 := putB_le a.site
  have h3 := putB_le a.seq
  have k1 := putI_pos 9 a.clock
  have k2 := putI_pos 9 a.site
  have k3 := putI_pos 9 a.seq
  have b : ∀ x, (putB 9 x).length = (putI 9 x).length := fun x => by simp [putB]
  have b1 := b a.clock
  have b2 := b a.site
  have b3 := b a.seq
  simp only [stL, List.length_append]
  omega
theorem stsL_len (l : List St) : (stsL l).length ≤ 30 * l.length := by
  induction l with
  | nil => simp [stsL]
  | cons x r ih =>
    have := (stL_len x).2
    rw [show x :: r = [x] ++ r from rfl, stsL_append, stsL_one, List.length_append, List.length_append]
    simp; omega
theorem stB_data (a : St) (h : okV a = true) : stB a = ⟨(stL a).toArray⟩ := by
  unfold stB
  rw [if_pos h]
  apply ByteArray.ext
  apply Array.ext'
  rw [ByteArray.data_append, ByteArray.data_append, Array.toList_append, Array.toList_append, vput_data, vput_data, vput_data, List.append_assoc]
  rfl
theorem take_at {r : Rdr} {a : St} {t : List UInt8} (hr : r.ok) (hb : r.bad = false) (ha : okV a = true) (h : r.rest = stL a ++ t) : (takeV r).1 = a ∧ (takeV r).2.bad = false ∧ (takeV r).2.rest = t := by
  obtain ⟨⟨a1, a2⟩, ⟨a3, a4⟩, a5, a6⟩ := okV_range ha
  unfold stL at h
  rw [List.append_assoc, List.append_assoc] at h
  obtain ⟨s1, s2, s3⟩ := small_at (most := 1099511627776) hr hb h (by omega) (by omega) (by decide)
  have k1 := Rdr.small_ok hr 1099511627776
  obtain ⟨q1, q2, q3⟩ := small_at (most := 7) k1.1 s2 s3 (by omega) (by omega) (by decide)
  have k2 := Rdr.small_ok k1.1 7
  obtain ⟨p1, p2, p3⟩ := small_at (most := 1099511627776) k2.1 q2 q3 (by omega) (by omega) (by decide)
  have e : takeP r = (a, (((r.small 1099511627776).2.small 7).2.small 1099511627776).2) := by
    unfold takeP
    rw [s1, q1, p1]
  unfold takeV
  rw [e]
  simp only
  rw [if_pos ha]
  exact ⟨rfl, p2, p3⟩
theorem take_end {r : Rdr} (hr : r.ok) (hb : r.bad = false) (h : r.rest = []) : (takeV r).1 = ⟨0, 0, 0⟩ ∧ (takeV r).2.bad = true := by
  have hbad : (r.small 1099511627776).2.bad = true := by
    rcases hh : (r.small 1099511627776).2.bad with _ | _
    · have := (small_good hr hh).2.2.2
      rw [h] at this
      have k := putI_pos 9 (r.small 1099511627776).1
      have b : (putB 9 (r.small 1099511627776).1).length = (putI 9 (r.small 1099511627776).1).length := by simp [putB]
      have := congrArg List.length this
      simp at this
      omega
    · rfl
  have h0 := Rdr.small_bad 1099511627776 hbad
  have hno : ¬ okV (takeP r).1 = true := by
    intro hk
    have := (okV_range hk).1.1
    have e : (takeP r).1.clock = (r.small 1099511627776).1 := rfl
    omega
  unfold takeV
  rw [if_neg hno]
  refine ⟨rfl, ?_⟩
  unfold Rdr.small
  rw [if_pos (.inr (.inl (by decide)))]
/-- The first k takes. -/
def takes : Nat → Rdr → Rdr
  | 0, r => r
  | k + 1, r => (takeV (takes k r)).2
theorem takes_ok {r : Rdr} (hr : r.ok) (k : Nat) : (takes k r).ok := by
  induction k with
  | zero => exact hr
  | succ k ih => exact (takeV_ok ih).1
theorem takes_at (l : List St) (hl : ∀ a ∈ l, okV a = true) {r : Rdr} (hr : r.ok) (hb : r.bad = false) (h : r.rest = stsL l) (k : Nat) (hk : k ≤ l.length) : (takes k r).bad = false ∧ (takes k r).rest = stsL (l.drop k) := by
  induction k with
  | zero => exact ⟨hb, by simpa [takes] using h⟩
  | succ k ih =>
    obtain ⟨i1, i2⟩ := ih (by omega)
    have hlt : k < l.length := by omega
    rw [List.drop_eq_getElem_cons hlt, show l[k] :: l.drop (k + 1) = [l[k]] ++ l.drop (k + 1) from rfl, stsL_append, stsL_one] at i2
    obtain ⟨t1, t2, t3⟩ := take_at (takes_ok hr k) i1 (hl _ (List.getElem_mem hlt)) i2
    exact ⟨t2, t3⟩
theorem takes_next (l : List St) (hl : ∀ a ∈ l, okV a = true) {r : Rdr} (hr : r.ok) (hb : r.bad = false) (h : r.rest = stsL l) (k : Nat) (hk : k < l.length) : (takeV (takes k r)).1 = l.getD k ⟨0, 0, 0⟩ := by
  obtain ⟨i1, i2⟩ := takes_at l hl hr hb h k (by omega)
  rw [List.drop_eq_getElem_cons hk, show l[k] :: l.drop (k + 1) = [l[k]] ++ l.drop (k + 1) from rfl, stsL_append, stsL_one] at i2
  rw [(take_at (takes_ok hr k) i1 (hl _ (List.getElem_mem hk)) i2).1]
  simp [List.getD_eq_getElem?_getD, hk]
end
end Go.Proofs.Ytkonflbgkaflaaa
