/- The reference's Same of records. -/
import Derived.Test.YtdihbinbkneejaaGOriginNil22
import Derived.Test.YtdihbinbkneejaaGOriginNil41
import Derived.Test.YtdihbinbkneejaaGOriginNil10
namespace Go.Proofs.Ytdihbinbkneejaa
section
open Go.RowKit
set_option maxRecDepth 100000
set_option linter.unusedVariables false
set_option linter.unusedSimpArgs false
attribute [local go_sem ↓] Go.wp_at_zero Go.wp_at_succ
open Classical in
noncomputable def sameR (a b : RecA) : Bool := decide (a.r = b.r ∧ a.ds = b.ds)
set_option maxHeartbeats 4000000 in
theorem samer_any (a b : RecA) (w : World) (ha : a.ok w) (hb : b.ok w) : Calls Try.prog 44 #[a.val, b.val] w fun e w' => e = .returned (.bool (sameR a b)) ∧ Below w.heap.size w w' := by
  obtain ⟨V, HV⟩ : ∃ V, Hid (V = sameR a b) := ⟨_, rfl⟩
  rw [← HV.out]
  have HA := Lib.hid ha
  have HB := Lib.hid hb
  have C0 := fun wx hw => same_any a.d.a b.d.a a.d.n a.d.c b.d.n b.d.c a.ds b.ds wx (ha.below hw).sl.r (hb.below hw).sl.r ha.sl.nc ha.sl.cb hb.sl.nc hb.sl.cb
  clear ha hb
  obtain ⟨r, d, ds⟩ := a
  obtain ⟨r', d', ds'⟩ := b
  unfold RecA.val rcVal
  simp only [rcA] at C0 ⊢
  go_enter Try.func44, Try.ntmps44
  go_upto_region 1 with fail
  generalize hw1 : World.alloc _ _ = w1
  have hK : Kn w.heap.size w [(w.heap.size + 1, rcO r' d'), (w.heap.size, rcO r d)] w1 := by rw [← hw1]; exact ((Kn.start w).new' rfl (rcO r d)).new' (n := w.heap.size + 1) (by simp) (rcO r' d')
  clear hw1
  generalize hg : w.heap.size = g at *
  have KK := Lib.hid hK
  clear hK
  have a8 := (rc_cells (KK.out.at_ (g, rcO r d) (by simp)) rfl).c8
  have b8 := (rc_cells (KK.out.at_ (g + 1, rcO r' d') (by simp)) rfl).c8
  go_upto_region 2 with (first | (go_at_call 17; refine (C0 _ KK.out.b).mono ?_; rintro e wn ⟨rfl, dn⟩; have KK := Lib.hid (KK.out.below dn); clear dn))
  clear a8 b8
  obtain ⟨a0, a1, a2, a3, a4, a5, a6, a7, _⟩ := rc_cells (KK.out.at_ (g, rcO r d) (by simp)) rfl
  obtain ⟨b0, b1, b2, b3, b4, b5, b6, b7, _⟩ := rc_cells (KK.out.at_ (g + 1, rcO r' d') (by simp)) rfl
  have ST := fun wx => eq_stamp r.st r'.st wx
  unfold St.val at ST
  have HV : Hid (V = ((((((decide (ds = ds') && (r.kind == r'.kind)) && (r.series.toList == r'.series.toList)) && (r.time == r'.time)) && (r.value == r'.value)) && (r.tier == r'.tier)) && decide (r.st = r'.st))) := by
    show _ = _
    rw [HV.out]
    unfold sameR
    rw [Bool.eq_iff_iff]
    simp only [decide_eq_true_eq, Bool.and_eq_true, beq_iff_eq]
    obtain ⟨k, s, t, v, tr, st⟩ := r
    obtain ⟨k', s', t', v', tr', st'⟩ := r'
    simp only [Rc.mk.injEq]
    constructor
    · rintro ⟨⟨rfl, rfl, rfl, rfl, rfl, rfl⟩, rfl⟩
      simp
    · rintro ⟨⟨⟨⟨⟨⟨rfl, rfl⟩, h⟩, rfl⟩, rfl⟩, rfl⟩, rfl⟩
      exact ⟨⟨rfl, by rw [Lib.toList_data, Lib.toList_data] at h; exact ByteArray.ext (Array.ext' h), rfl, rfl, rfl, rfl⟩, rfl⟩
  obtain ⟨D, hD⟩ : ∃ D, decide (ds = ds') = D := ⟨_, rfl⟩
  obtain ⟨Bk, e1⟩ : ∃ D, (r.kind == r'.kind) = D := ⟨_, rfl⟩
  obtain ⟨Bs, e2⟩ : ∃ D, (r.series.toList == r'.series.toList) = D := ⟨_, rfl⟩
  obtain ⟨Bt, e3⟩ : ∃ D, (r.time == r'.time) = D := ⟨_, rfl⟩
  obtain ⟨Bv, e4⟩ : ∃ D, (r.value == r'.value) = D := ⟨_, rfl⟩
  obtain ⟨Br, e5⟩ : ∃ D, (r.tier == r'.tier) = D := ⟨_, rfl⟩
  obtain ⟨Bst, e6⟩ : ∃ D, decide (r.st = r'.st) = D := ⟨_, rfl⟩
  rw [hD, e1, e2, e3, e4, e5, e6] at HV
  simp only [hD] at C0 ⊢
  simp only [e6] at ST
  clear C0
  cases D
  · skip
    go_wp2_with fail
    go_ret
    exact ⟨by rw [HV.out]; rfl, by first | exact KK.out.b | (rw [hg]; exact KK.out.b)⟩
  · skip
    cases Bk
    · skip
      go_wp2_with fail
      go_ret
      exact ⟨by rw [HV.out]; rfl, by first | exact KK.out.b | (rw [hg]; exact KK.out.b)⟩
    · skip
      cases Bs
      · skip
        go_wp2_with fail
        go_ret
        exact ⟨by rw [HV.out]; rfl, by first | exact KK.out.b | (rw [hg]; exact KK.out.b)⟩
      · skip
        cases Bt
        · skip
          go_wp2_with fail
          go_ret
          exact ⟨by rw [HV.out]; rfl, by first | exact KK.out.b | (rw [hg]; exact KK.out.b)⟩
        · skip
          cases Bv
          · skip
            go_wp2_with fail
            go_ret
            exact ⟨by rw [HV.out]; rfl, by first | exact KK.out.b | (rw [hg]; exact KK.out.b)⟩
          · skip
            cases Br
            · skip
              go_wp2_with fail
              go_ret
              exact ⟨by rw [HV.out]; rfl, by first | exact KK.out.b | (rw [hg]; exact KK.out.b)⟩
            · skip
              cases Bst
              · skip
                go_wp2_with fail
                go_ret
                exact ⟨by rw [HV.out]; rfl, by first | exact KK.out.b | (rw [hg]; exact KK.out.b)⟩
              · skip
                go_wp2_with fail
                go_ret
                exact ⟨by rw [HV.out]; rfl, by first | exact KK.out.b | (rw [hg]; exact KK.out.b)⟩
end
end Go.Proofs.Ytdihbinbkneejaa
