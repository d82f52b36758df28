/- The reference's Same of records. Plain law: what was written is read again, records and points. -/
import Derived.Test.YtkonflbgkaflaaaGSampleMany45
import Derived.Test.YtkonflbgkaflaaaGSampleMany46
import Derived.Test.YtkonflbgkaflaaaGSampleMany9
import Derived.Test.YtkonflbgkaflaaaGSampleMany44
namespace Go.Proofs.Ytkonflbgkaflaaa
section
open Go.RowKit
set_option maxRecDepth 100000
set_option linter.unusedVariables false
set_option linter.unusedSimpArgs false
attribute [local go_sem ↓] Go.wp_at_zero Go.wp_at_succ
open Classical in
noncomputable def sameR (a b : RecA) : Bool := decide (a.r = b.r ∧ a.ds = b.ds)
set_option maxHeartbeats 4000000 in
theorem samer_any (a b : RecA) (w : World) (ha : a.ok w) (hb : b.ok w) : Calls Try.prog 33 #[a.val, b.val] w fun e w' => e = .returned (.bool (sameR a b)) ∧ Below w.heap.size w w' := by
  obtain ⟨V, HV⟩ : ∃ V, Hid (V = sameR a b) := ⟨_, rfl⟩
  rw [← HV.out]
  have HA := Lib.hid ha
  have HB := Lib.hid hb
  have C0 := fun wx hw => same_any a.d.a b.d.a a.d.n a.d.c b.d.n b.d.c a.ds b.ds wx (ha.below hw).sl.r (hb.below hw).sl.r ha.sl.nc ha.sl.cb hb.sl.nc hb.sl.cb
  clear ha hb
  obtain ⟨r, d, ds⟩ := a
  obtain ⟨r', d', ds'⟩ := b
  unfold RecA.val rcVal
  simp only [rcA] at C0 ⊢
  go_enter Try.func33, Try.ntmps33
  go_upto_region 1 with fail
  generalize hw1 : World.alloc _ _ = w1
  have hK : Kn w.heap.size w [(w.heap.size + 1, rcO r' d'), (w.heap.size, rcO r d)] w1 := by rw [← hw1]; exact ((Kn.start w).new' rfl (rcO r d)).new' (n := w.heap.size + 1) (by simp) (rcO r' d')
  clear hw1
  generalize hg : w.heap.size = g at *
  have KK := Lib.hid hK
  clear hK
  have a8 := (rc_cells (KK.out.at_ (g, rcO r d) (by simp)) rfl).c8
  have b8 := (rc_cells (KK.out.at_ (g + 1, rcO r' d') (by simp)) rfl).c8
  go_upto_region 2 with (first | (go_at_call 75; refine (C0 _ KK.out.b).mono ?_; rintro e wn ⟨rfl, dn⟩; have KK := Lib.hid (KK.out.below dn); clear dn))
  clear a8 b8
  obtain ⟨a0, a1, a2, a3, a4, a5, a6, a7, _⟩ := rc_cells (KK.out.at_ (g, rcO r d) (by simp)) rfl
  obtain ⟨b0, b1, b2, b3, b4, b5, b6, b7, _⟩ := rc_cells (KK.out.at_ (g + 1, rcO r' d') (by simp)) rfl
  have ST := fun wx => eq_stamp r.st r'.st wx
  unfold St.val at ST
  have HV : Hid (V = ((((((decide (ds = ds') && (r.kind == r'.kind)) && (r.series.toList == r'.series.toList)) && (r.time == r'.time)) && (r.value == r'.value)) && (r.tier == r'.tier)) && decide (r.st = r'.st))) := by
    show _ = _
    rw [HV.out]
    unfold sameR
    rw [Bool.eq_iff_iff]
    simp only [decide_eq_true_eq, Bool.and_eq_true, beq_iff_eq]
    obtain ⟨k, s, t, v, tr, st⟩ := r
    obtain ⟨k', s', t', v', tr', st'⟩ := r'
    simp only [Rc.mk.injEq]
    constructor
    · rintro ⟨⟨rfl, rfl, rfl, rfl, rfl, rfl⟩, rfl⟩
      simp
    · rintro ⟨⟨⟨⟨⟨⟨rfl, rfl⟩, h⟩, rfl⟩, rfl⟩, rfl⟩, rfl⟩
      exact ⟨⟨rfl, by rw [Lib.toList_data, Lib.toList_data] at h; exact ByteArray.ext (Array.ext' h), rfl, rfl, rfl, rfl⟩, rfl⟩
  obtain ⟨D, hD⟩ : ∃ D, decide (ds = ds') = D := ⟨_, rfl⟩
  obtain ⟨Bk, e1⟩ : ∃ D, (r.kind == r'.kind) = D := ⟨_, rfl⟩
  obtain ⟨Bs, e2⟩ : ∃ D, (r.series.toList == r'.series.toList) = D := ⟨_, rfl⟩
  obtain ⟨Bt, e3⟩ : ∃ D, (r.time == r'.time) = D := ⟨_, rfl⟩
  obtain ⟨Bv, e4⟩ : ∃ D, (r.value == r'.value) = D := ⟨_, rfl⟩
  obtain ⟨Br, e5⟩ : ∃ D, (r.tier == r'.tier) = D := ⟨_, rfl⟩
  obtain ⟨Bst, e6⟩ : ∃ D, decide (r.st = r'.st) = D := ⟨_, rfl⟩
  rw [hD, e1, e2, e3, e4, e5, e6] at HV
  simp only [hD] at C0 ⊢
  simp only [e6] at ST
  clear C0
  cases D
  · skip
    go_wp2_with fail
    go_ret
    exact ⟨by rw [HV.out]; rfl, by first | exact KK.out.b | (rw [hg]; exact KK.out.b)⟩
  · skip
    cases Bk
    · skip
      go_wp2_with fail
      go_ret
      exact ⟨by rw [HV.out]; rfl, by first | exact KK.out.b | (rw [hg]; exact KK.out.b)⟩
    · skip
      cases Bs
      · skip
        go_wp2_with fail
        go_ret
        exact ⟨by rw [HV.out]; rfl, by first | exact KK.out.b | (rw [hg]; exact KK.out.b)⟩
      · skip
        cases Bt
        · skip
          go_wp2_with fail
          go_ret
          exact ⟨by rw [HV.out]; rfl, by first | exact KK.out.b | (rw [hg]; exact KK.out.b)⟩
        · skip
          cases Bv
          · skip
            go_wp2_with fail
            go_ret
            exact ⟨by rw [HV.out]; rfl, by first | exact KK.out.b | (rw [hg]; exact KK.out.b)⟩
          · skip
            cases Br
            · skip
              go_wp2_with fail
              go_ret
              exact ⟨by rw [HV.out]; rfl, by first | exact KK.out.b | (rw [hg]; exact KK.out.b)⟩
            · skip
              cases Bst
              · skip
                go_wp2_with fail
                go_ret
                exact ⟨by rw [HV.out]; rfl, by first | exact KK.out.b | (rw [hg]; exact KK.out.b)⟩
              · skip
                go_wp2_with fail
                go_ret
                exact ⟨by rw [HV.out]; rfl, by first | exact KK.out.b | (rw [hg]; exact KK.out.b)⟩
end
end Go.Proofs.Ytkonflbgkaflaaa
namespace Go.Proofs.Ytkonflbgkaflaaa
section
set_option maxRecDepth 100000
set_option linter.unusedVariables false
set_option linter.unusedSimpArgs false
theorem ptsL_le {L : List Pt} (hok : okPts L) : (ptsL L).length ≤ 10 + 150 * L.length := by
  have h1 := putB_le (L.length : Int)
  have h2 := ptsb_le hok
  unfold ptsL
  rw [List.length_append]
  omega
theorem read_pts {L : List Pt} (hok : okPts L) (hw : ∀ p ∈ L, p.wf) (hn : L.length ≤ 1000) : readP ⟨(ptsL L).toArray⟩ = (L, 0) := by
  have hs : (⟨(ptsL L).toArray⟩ : ByteArray).size ≤ 1000000000 := by
    rw [ba_size]
    have := ptsL_le hok
    omega
  have h0 := r0_ok hs
  have hr : (r0 ⟨(ptsL L).toArray⟩).rest = putB 9 (L.length : Int) ++ (ptsb L ++ []) := by rw [r0_rest, List.append_nil]; rfl
  obtain ⟨a1, a2, a3⟩ := small_at (most := 1000) h0 rfl hr (by omega) (by omega) (by decide)
  have hk := Rdr.small_ok h0 1000
  obtain ⟨b1, b2, b3⟩ := takeQ_at hk.1 a2 L [] (fun p hp => ⟨hok p hp, hw p hp⟩) a3 L.length (Nat.le_refl _)
  rw [List.take_length] at b1
  rw [List.drop_length] at b3
  have hfin : (takeQ L.length ((r0 ⟨(ptsL L).toArray⟩).small 1000).2).2.fin = 0 := (fin_rest (takeQ_ok hk.1 _).1).2 ⟨b2, by rw [b3]; simp [ptsb]⟩
  have hp : rpOk ⟨(ptsL L).toArray⟩ := by
    unfold rpOk
    rw [a1, Int.toNat_natCast, b1]
    exact ⟨hfin, hok⟩
  rw [readP_pos hp, a1, Int.toNat_natCast, b1]
theorem recT_le {r : Rc} {ds : List Int} (h : recP r ds) : (recT r ds).size ≤ 3000 := by
  have h1 := vput_le r.kind
  have h2 := stB_le r.st
  have h3 := vecB_le ds
  have h4 := vput_le r.time
  have h5 := vput_le (zig r.value)
  have h6 := vput_le r.tier
  unfold recT
  rw [ByteArray.size_append, ByteArray.size_append, ByteArray.size_append]
  have hm : (midB r).size ≤ 900 := by
    unfold midB
    split
    · have hn : nameV r.series = true := by
        rcases h.2.2.2.2 with h | h
        · exact h.2.1
        · omega
      have m7 := vtext_le r.series (nameV_size hn)
      rw [ByteArray.size_append, ByteArray.size_append]
      omega
    · rw [ByteArray.size_append]
      omega
  omega
theorem recT_pos (r : Rc) (ds : List Int) : 1 ≤ (recT r ds).size := by
  have h1 := vput_pos r.kind
  unfold recT
  rw [ByteArray.size_append, ByteArray.size_append, ByteArray.size_append]
  omega
theorem recB_pos {r : Rc} {ds : List Int} (h : recP r ds) : recB r ds = recT r ds := by unfold recB; rw [if_pos h]
theorem recT_inj {a b : Rc} {ds ds' : List Int} (h1 : recP a ds) (h2 : recP b ds') (w1 : a.wf) (w2 : b.wf) (h : recT a ds = recT b ds') : a = b ∧ ds = ds' := by
  have e1 := read_rec h1 w1 (by have := recT_le h1; omega)
  have e2 := read_rec h2 w2 (by have := recT_le h2; omega)
  rw [h, e2] at e1
  simp only [Prod.mk.injEq, and_true] at e1
  exact ⟨e1.1.symm, e1.2.symm⟩
theorem read_cut2 {a : Rc} {ds : List Int} (hp : recP a ds) (hw : a.wf) : readR ((recT a ds).extract 0 ((recT a ds).size - 1)) = (⟨0, ⟨#[]⟩, 0, 0, 0, ⟨0, 0, 0⟩⟩, [], 10) := by
  have h1 := recT_le hp
  have h2 := recT_pos a ds
  generalize hS : recT a ds = S at *
  have hne : S.data.toList ≠ [] := by
    intro h
    have : S.data.toList.length = S.size := by simp
    rw [h] at this
    simp at this
    omega
  have hl : S.data.toList.length = S.size := by simp
  have hd : (S.extract 0 (S.size - 1)).data.toList = S.data.toList.dropLast := by
    rw [ByteArray.data_extract, Array.toList_extract, List.extract_eq_take_drop, List.drop_zero, List.dropLast_eq_take, hl]
    congr 1
  have hn : ¬ rrOk (S.extract 0 (S.size - 1)) := by
    refine read_cut (b := S.data.toList.getLast hne) hp hw (by rw [hS]; omega) ?_
    rw [hS, hd, List.dropLast_concat_getLast]
  rw [readR_neg hn]
open Classical in
theorem same_eq {a b : RecA} (h1 : recP a.r a.ds) (h2 : recP b.r b.ds) (w1 : a.r.wf) (w2 : b.r.wf) : ((recT a.r a.ds).toList == (recT b.r b.ds).toList) = sameR a b := by
  unfold sameR
  rw [Bool.eq_iff_iff]
  simp only [beq_iff_eq, decide_eq_true_eq]
  constructor
  · intro h
    refine recT_inj h1 h2 w1 w2 ?_
    rw [ba_data, ← Lib.toList_data, ← Lib.toList_data]
    exact h
  · rintro ⟨e1, e2⟩
    rw [e1, e2]
end
end Go.Proofs.Ytkonflbgkaflaaa
