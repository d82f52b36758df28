/- The reference's Check of messages: kind 7. The reference's SamePoints. The law's short, small. The reference's Same of records. Plain law: what was written is read again, records and points. -/
import Derived.Test.YtglabahbklpocaaGreatGShipReads25
import Derived.Test.YtglabahbklpocaaGreatGShipReads18
import Derived.Test.YtglabahbklpocaaGreatGShipReads24
import Derived.Test.YtglabahbklpocaaGreatGShipReads10
import Derived.Test.YtglabahbklpocaaGreatGShipReads5
import Derived.Test.YtglabahbklpocaaGreatGShipReads9
import Derived.Test.YtglabahbklpocaaGreatGShipReads4
import Derived.Test.YtglabahbklpocaaGreatGShipReads21
namespace Go.Proofs.YtglabahbklpocaaGreat
section
open Go.RowKit Go.Deep
set_option maxRecDepth 100000
set_option linter.unusedVariables false
set_option linter.unusedSimpArgs false
attribute [local go_sem ↓] Go.wp_at_zero Go.wp_at_succ
set_option maxHeartbeats 16000000 in
theorem rcheck7_w (x : Wi) (ps : List Pt) (rs : List RecA) (vs : List Int) (w : World) (hkd : x.kind = 7) (h : WiAt w x ps rs vs) : Calls Tryz.prog 17 #[.agg x.arr] w fun e w' => e = .returned (.int .i64 (chkW x ps rs vs)) ∧ Below w.heap.size w w' := by
  obtain ⟨V, HV⟩ : ∃ V : Int, Hid (V = chkW x ps rs vs) := ⟨_, rfl⟩
  rw [← HV.out]
  have HPP := Lib.hid h.p
  have HRR := Lib.hid h.r
  have HVV := Lib.hid h.v
  have NM := fun wx => rname_any x.series wx h.s
  have SC := fun wx => ris_any x.from_ x.to_ wx
  have RG := fun wx (hb : Below w.heap.size w wx) => rright_any x.vec.a x.vec.n x.vec.c vs wx ((HVV.out.below hb).r) HVV.out.nc HVV.out.cb
  have hpn : ps.length = x.np.n := h.p.r.1
  have hrn : rs.length = x.nr.n := h.r.r.1
  have hpm : x.np.n ≤ 9223372036854775807 := Nat.le_trans h.p.nc h.p.cb
  have hrm : x.nr.n ≤ 9223372036854775807 := Nat.le_trans h.r.nc h.r.cb
  clear h HVV
  have HX : Hid (V = 0 ↔ okA x ∧ okT x ps rs vs) := by
    show _ ↔ _
    rw [HV.out]
    by_cases h : okA x ∧ okT x ps rs vs
    · exact ⟨fun _ => h, fun _ => chkW_0 h.1 h.2⟩
    · exact ⟨fun e => (by rw [chkW_1 h] at e; cases e), fun e => absurd e h⟩
  have HX1 : Hid (V = 0 ∨ V = 1) := by
    show _ ∨ _
    rw [HV.out]
    by_cases h : okA x ∧ okT x ps rs vs
    · exact .inl (chkW_0 h.1 h.2)
    · exact .inr (chkW_1 h)
  have HN : Hid (¬ okA x ∨ ¬ okT x ps rs vs → V = 1) := fun h => HX1.out.resolve_left (fun e => by
    have := HX.out.1 e
    rcases h with h | h
    · exact h this.1
    · exact h this.2)
  obtain ⟨kind, id, series, from_, to_, ⟨pa, pn, pc⟩, ⟨ra, rn, rc⟩, vec, time⟩ := x
  simp only at hkd
  subst hkd
  unfold Wi.arr
  simp only at *
  obtain ⟨OA, hOA⟩ : ∃ P : Prop, P = okA ⟨7, id, series, from_, to_, ⟨pa, pn, pc⟩, ⟨ra, rn, rc⟩, vec, time⟩ := ⟨_, rfl⟩
  obtain ⟨OT, hOT⟩ : ∃ P : Prop, P = okT ⟨7, id, series, from_, to_, ⟨pa, pn, pc⟩, ⟨ra, rn, rc⟩, vec, time⟩ ps rs vs := ⟨_, rfl⟩
  rw [← hOA, ← hOT] at HX HN
  have HOA := Lib.hid hOA
  have HOT := Lib.hid hOT
  clear hOA hOT HV
  go_enter Tryz.func17, Tryz.ntmps17
  go_upto_region 1 with fail
  generalize hw1 : World.alloc _ _ = w1
  have KK := Lib.hid (show Kn w.heap.size w [(w.heap.size, wiO ⟨7, id, series, from_, to_, ⟨pa, pn, pc⟩, ⟨ra, rn, rc⟩, vec, time⟩)] w1 by rw [← hw1]; exact (Kn.start w).new' rfl (wiO ⟨7, id, series, from_, to_, ⟨pa, pn, pc⟩, ⟨ra, rn, rc⟩, vec, time⟩))
  clear hw1
  obtain ⟨g, hg⟩ : ∃ g, w.heap.size = g := ⟨_, rfl⟩
  rw [hg] at KK RG ⊢
  have c0 := (wi_cells KK.out.hd rfl).c0
  have c1 := (wi_cells KK.out.hd rfl).c1
  have c2 := (wi_cells KK.out.hd rfl).c2
  have c3 := (wi_cells KK.out.hd rfl).c3
  have c4 := (wi_cells KK.out.hd rfl).c4
  have c5 := (wi_cells KK.out.hd rfl).c5
  have c6 := (wi_cells KK.out.hd rfl).c6
  have c7 := (wi_cells KK.out.hd rfl).c7
  have c8 := (wi_cells KK.out.hd rfl).c8
  simp only at c0 c1 c2 c3 c4 c5 c6 c7 c8
  rcases idV_cases id with ⟨h1, h2, h3⟩ | ⟨h1, h2⟩ | ⟨h1, h2, h3⟩
  · have q0 := Lib.hid (show 0 ≤ id ∧ id ≤ 1099511627776 by have := h1; unfold idV at this; simpa using this)
    clear h1
    go_upto_region 4 with fail
    clear h2 h3
    by_cases hx : pn = 0
    · have q1 := Lib.hid hx
      have e_pn : decide ((pn : Int) > 0) = false := decide_eq_false (by omega)
      have f_pn : decide (0 < pn) = false := decide_eq_false (by omega)
      clear hx
      by_cases hx : series.size = 0
      · have q2 := Lib.hid hx
        have f1 := tl_nil series hx
        have f2 : (series.toList.isEmpty) = true := by rw [f1]; rfl
        clear hx
        by_cases hx : from_ = 0
        · have q3 := Lib.hid hx
          have e_from : (from_ != 0) = false := bne_eq_false_iff_eq.2 hx
          have f_from : (from_ == 0) = true := beq_iff_eq.2 hx
          clear hx
          by_cases hx : to_ = 0
          · have q4 := Lib.hid hx
            have e_to : (to_ != 0) = false := bne_eq_false_iff_eq.2 hx
            have f_to : (to_ == 0) = true := beq_iff_eq.2 hx
            clear hx
            by_cases hx : time = 0
            · have q5 := Lib.hid hx
              have e_time : (time != 0) = false := bne_eq_false_iff_eq.2 hx
              have f_time : (time == 0) = true := beq_iff_eq.2 hx
              clear hx
              go_upto_region 6 with fail
              by_cases hx : pn ≤ 200
              · have q6 := Lib.hid hx
                have g_pn : decide ((pn : Int) > 200) = false := decide_eq_false (by omega)
                clear hx
                by_cases hx : rn ≤ 16
                · have q7 := Lib.hid hx
                  have g_rn : decide ((rn : Int) > 16) = false := decide_eq_false (by omega)
                  clear hx
                  by_cases hx : 0 ≤ time
                  · have q8 := Lib.hid hx
                    have g_lt : decide (time < 0) = false := decide_eq_false (by omega)
                    clear hx
                    by_cases hx : time ≤ 1099511627777
                    · have q9 := Lib.hid hx
                      have g_mx : decide (time > 1099511627777) = false := decide_eq_false (by omega)
                      clear hx
                      go_wp2_with fail
                      go_loopw [4] (fun i wr => ∃ k : Nat, k ≤ pn ∧ i = .int .i64 k ∧ okPts (ps.take k) ∧ Kn g w [(g, wiO ⟨7, id, series, from_, to_, ⟨pa, pn, pc⟩, ⟨ra, rn, rc⟩, vec, time⟩)] wr) (fun i _ => pn - (intOf i).toNat)
                      case atStart => exact ⟨0, by omega, rfl, by intro p hp; simp at hp, KK.out⟩
                      case round =>
                        obtain ⟨k, hk, rfl, he, hK⟩ := hrel
                        clear KK
                        have KK := Lib.hid hK
                        have HE := Lib.hid he
                        clear hK he
                        have c5 := (wi_cells KK.out.hd rfl).c5
                        simp only at c5
                        by_cases hlt : k < pn
                        · exfalso
                          have := q1.out
                          omega
                        · have hkk : k = pn := by omega
                          have t2 : decide ((k : Int) < (pn : Int)) = false := decide_eq_false (by omega)
                          have HPO := Lib.hid (show okPts ps by have := HE.out; rwa [List.take_of_length_le (by omega)] at this)
                          clear HE
                          go_wp2_with fail
                          clear c5 t2 hlt hk hkk
                          go_loopw [5] (fun i wr => ∃ k : Nat, k ≤ rn ∧ i = .int .i64 k ∧ okRecs (rs.take k) ∧ Kn g w [(g, wiO ⟨7, id, series, from_, to_, ⟨pa, pn, pc⟩, ⟨ra, rn, rc⟩, vec, time⟩)] wr) (fun i _ => rn - (intOf i).toNat)
                          case atStart => exact ⟨0, by omega, rfl, by intro p hp; simp at hp, KK.out⟩
                          case round =>
                            obtain ⟨k, hk, rfl, he, hK⟩ := hrel
                            clear KK
                            have KK := Lib.hid hK
                            have HE := Lib.hid he
                            clear hK he
                            have c6 := (wi_cells KK.out.hd rfl).c6
                            simp only at c6
                            by_cases hlt : k < rn
                            · have t2 : decide ((k : Int) < (rn : Int)) = true := decide_eq_true (by omega)
                              obtain ⟨b, o, x, rfl, hbl, hxk, hC⟩ := HRR.out.r.at (by rw [hg]; exact KK.out.b) k hlt
                              obtain ⟨a0, a1, a2, a3, a4, a5, a6, a7, a8⟩ := rec_cells9 hC
                              have i1 : (0 : Int) ≤ (k : Int) := by omega
                              have i2 : (k : Int) < (rn : Int) := by omega
                              have HXO := Lib.hid (HRR.out.ok x (List.mem_of_getElem? hxk))
                              have C1 := fun wx (hb : Below w.heap.size w wx) => rscheck_any x.r x.d x.ds wx HXO.out.wf (HXO.out.below hb).sl
                              have HT := Lib.hid (show rs.take (k + 1) = rs.take k ++ [x] by rw [List.take_add_one, hxk]; rfl)
                              have HXM := Lib.hid (List.mem_of_getElem? hxk)
                              clear hC hxk
                              have h01 : chkR x.r x.ds = 0 ∨ chkR x.r x.ds = 1 := by unfold chkR; split <;> simp
                              rcases h01 with h0 | h0
                              · have HNX : Hid (okRecs (rs.take (k + 1))) := by
                                  show okRecs _
                                  rw [HT.out]
                                  intro p hp
                                  rcases List.mem_append.1 hp with hp | hp
                                  · exact HE.out p hp
                                  · simp only [List.mem_singleton] at hp
                                    subst hp
                                    rcases Classical.em (recP p.r p.ds) with h1 | h1
                                    · exact h1
                                    · rw [chkR_1 h1] at h0; cases h0
                                rw [h0] at C1
                                clear h0
                                unfold rcVal rcA at C1
                                go_wp2_with (first | (go_at_call 71; refine (C1 _ (by rw [hg]; exact KK.out.b)).mono ?_; rintro e wn ⟨rfl, dn⟩; have KK := Lib.hid (KK.out.below dn); clear dn))
                                go_roundw
                                case rel => exact ⟨k + 1, by omega, by go_num, HNX.out, KK.out⟩
                                case measure => simp [intOf]; omega
                              · have HF := Lib.hid (HN.out (.inr (fun h => by rw [HOT.out] at h; have h1 := h.2.1 x HXM.out; rw [chkR_0 h1] at h0; cases h0)))
                                rw [h0] at C1
                                clear h0
                                unfold rcVal rcA at C1
                                go_wp2_with (first | (go_at_call 71; refine (C1 _ (by rw [hg]; exact KK.out.b)).mono ?_; rintro e wn ⟨rfl, dn⟩; have KK := Lib.hid (KK.out.below dn); clear dn))
                                go_ret
                                exact ⟨by rw [HF.out]; rfl, by first | exact KK.out.b | (rw [hg]; exact KK.out.b)⟩
                            · have hkk : k = rn := by omega
                              have t2 : decide ((k : Int) < (rn : Int)) = false := decide_eq_false (by omega)
                              have HRO := Lib.hid (show okRecs rs by have := HE.out; rwa [List.take_of_length_le (by omega)] at this)
                              clear HE
                              have c0 := (wi_cells KK.out.hd rfl).c0
                              have c2 := (wi_cells KK.out.hd rfl).c2
                              have c7 := (wi_cells KK.out.hd rfl).c7
                              simp only at c0 c2 c7
                              obtain ⟨NB, hNB⟩ : ∃ b, nameV series = b := ⟨_, rfl⟩
                              obtain ⟨SB, hSB⟩ : ∃ b, spanV from_ to_ = b := ⟨_, rfl⟩
                              obtain ⟨RB, hRB⟩ : ∃ b, decide (vs = pl vs) = b := ⟨_, rfl⟩
                              rw [hNB] at NM
                              rw [hSB] at SC
                              rw [hRB] at RG
                              have HB3 := Lib.hid (And.intro hNB (And.intro hSB hRB))
                              clear hNB hSB hRB
                              go_upto_region 21 with (first
                                | refine wpList_load_mid_w (by first | rfl | kernel_rfl) 30 _ rfl g 3 rfl [.int .i64 from_, .int .i64 to_] _ (span_range KK.out.hd rfl) Tryz.underlying30 rfl (by kernel_rfl) ?_
                                | (go_at_call 72; refine (NM _).mono ?_; rintro e wn ⟨rfl, rfl⟩)
                                | (go_at_call 73; refine (SC _).mono ?_; rintro e wn ⟨rfl, dn⟩; have KK := Lib.hid (KK.out.below dn); clear dn c0 c7; have c0 := (wi_cells KK.out.hd rfl).c0; have c7 := (wi_cells KK.out.hd rfl).c7; simp only at c0 c7)
                                | (go_at_call 74; refine (RG _ KK.out.b).mono ?_; rintro e wn ⟨rfl, dn⟩; have KK := Lib.hid (KK.out.below dn); clear dn c0; have c0 := (wi_cells KK.out.hd rfl).c0; simp only at c0))
                              cases RB
                              · have HF := Lib.hid (HN.out (.inr (fun h => by rw [HOT.out] at h; obtain ⟨_, _, h3, h4⟩ := h; obtain ⟨e1, e2, e3⟩ := HB3.out; rw [decide_eq_true h4] at e3; cases e3)))
                                go_wp2_with fail
                                go_ret
                                exact ⟨by rw [HF.out]; rfl, by first | exact KK.out.b | (rw [hg]; exact KK.out.b)⟩
                              · have HF := Lib.hid (HX.out.2 ⟨(by rw [HOA.out]; have q0' := q0.out; have q1' := q1.out; have q2' := q2.out; have q3' := q3.out; have q4' := q4.out; have q5' := q5.out; have q6' := q6.out; have q7' := q7.out; have q8' := q8.out; have q9' := q9.out;  unfold okA; simp only; refine ⟨?_, ?_, ?_, ?_, ?_, ?_, ?_, ?_, ?_, ?_, ?_⟩ <;> first | omega | trivial | exact .inl rfl | exact .inl trivial | simp), (by rw [HOT.out]; obtain ⟨e1, e2, e3⟩ := HB3.out; exact ⟨HPO.out, HRO.out, fun h => by simp at h, of_decide_eq_true e3⟩)⟩)
                                go_wp2_with fail
                                go_ret
                                exact ⟨by rw [HF.out]; rfl, by first | exact KK.out.b | (rw [hg]; exact KK.out.b)⟩
                    · have HF := Lib.hid (HN.out (.inl (fun h => by rw [HOA.out] at h; unfold okA at h; simp only at h; omega)))
                      have g_mx : decide (time > 1099511627777) = true := decide_eq_true (by omega)
                      clear hx
                      go_wp2_with fail
                      go_ret
                      exact ⟨by rw [HF.out]; rfl, by first | exact KK.out.b | (rw [hg]; exact KK.out.b)⟩
                  · have HF := Lib.hid (HN.out (.inl (fun h => by rw [HOA.out] at h; unfold okA at h; simp only at h; omega)))
                    have g_lt : decide (time < 0) = true := decide_eq_true (by omega)
                    clear hx
                    go_wp2_with fail
                    go_ret
                    exact ⟨by rw [HF.out]; rfl, by first | exact KK.out.b | (rw [hg]; exact KK.out.b)⟩
                · have HF := Lib.hid (HN.out (.inl (fun h => by rw [HOA.out] at h; unfold okA at h; simp only at h; omega)))
                  have g_rn : decide ((rn : Int) > 16) = true := decide_eq_true (by omega)
                  clear hx
                  go_wp2_with fail
                  go_ret
                  exact ⟨by rw [HF.out]; rfl, by first | exact KK.out.b | (rw [hg]; exact KK.out.b)⟩
              · have HF := Lib.hid (HN.out (.inl (fun h => by rw [HOA.out] at h; unfold okA at h; simp only at h; omega)))
                have g_pn : decide ((pn : Int) > 200) = true := decide_eq_true (by omega)
                clear hx
                go_wp2_with fail
                go_ret
                exact ⟨by rw [HF.out]; rfl, by first | exact KK.out.b | (rw [hg]; exact KK.out.b)⟩
            · have HF := Lib.hid (HN.out (.inl (fun h => by rw [HOA.out] at h; unfold okA at h; simp only at h; omega)))
              have e_time : (time != 0) = true := bne_iff_ne.2 hx
              have f_time : (time == 0) = false := beq_eq_false_iff_ne.2 hx
              clear hx
              go_wp2_with fail
              go_ret
              exact ⟨by rw [HF.out]; rfl, by first | exact KK.out.b | (rw [hg]; exact KK.out.b)⟩
          · have HF := Lib.hid (HN.out (.inl (fun h => by rw [HOA.out] at h; unfold okA at h; simp only at h; omega)))
            have e_to : (to_ != 0) = true := bne_iff_ne.2 hx
            have f_to : (to_ == 0) = false := beq_eq_false_iff_ne.2 hx
            clear hx
            go_wp2_with fail
            go_ret
            exact ⟨by rw [HF.out]; rfl, by first | exact KK.out.b | (rw [hg]; exact KK.out.b)⟩
        · have HF := Lib.hid (HN.out (.inl (fun h => by rw [HOA.out] at h; unfold okA at h; simp only at h; omega)))
          have e_from : (from_ != 0) = true := bne_iff_ne.2 hx
          have f_from : (from_ == 0) = false := beq_eq_false_iff_ne.2 hx
          clear hx
          go_wp2_with fail
          go_ret
          exact ⟨by rw [HF.out]; rfl, by first | exact KK.out.b | (rw [hg]; exact KK.out.b)⟩
      · have HF := Lib.hid (HN.out (.inl (fun h => by rw [HOA.out] at h; unfold okA at h; simp only at h; omega)))
        obtain ⟨f1, f2, f3⟩ := tl_some series (by omega)
        clear hx
        go_wp2_with fail
        go_ret
        exact ⟨by rw [HF.out]; rfl, by first | exact KK.out.b | (rw [hg]; exact KK.out.b)⟩
    · have HF := Lib.hid (HN.out (.inl (fun h => by rw [HOA.out] at h; unfold okA at h; simp only at h; omega)))
      have e_pn : decide ((pn : Int) > 0) = true := decide_eq_true (by omega)
      have f_pn : decide (0 < pn) = true := decide_eq_true (by omega)
      clear hx
      go_wp2_with fail
      go_ret
      exact ⟨by rw [HF.out]; rfl, by first | exact KK.out.b | (rw [hg]; exact KK.out.b)⟩
  · have HF := Lib.hid (HN.out (.inl (fun h => by rw [HOA.out] at h; unfold okA at h; simp only at h; have := of_decide_eq_true h2; omega)))
    go_wp2_with fail
    go_ret
    exact ⟨by rw [HF.out]; rfl, by first | exact KK.out.b | (rw [hg]; exact KK.out.b)⟩
  · have HF := Lib.hid (HN.out (.inl (fun h => by rw [HOA.out] at h; unfold okA at h; simp only at h; have := of_decide_eq_true h3; omega)))
    go_wp2_with fail
    go_ret
    exact ⟨by rw [HF.out]; rfl, by first | exact KK.out.b | (rw [hg]; exact KK.out.b)⟩
end
end Go.Proofs.YtglabahbklpocaaGreat
namespace Go.Proofs.YtglabahbklpocaaGreat
section
open Go.RowKit
set_option maxRecDepth 100000
set_option linter.unusedVariables false
set_option linter.unusedSimpArgs false
attribute [local go_sem ↓] Go.wp_at_zero Go.wp_at_succ
open Classical in
noncomputable def sameP (xs ys : List Pt) : Bool := decide (xs = ys)
theorem sameP_true {xs ys : List Pt} (h : xs = ys) : sameP xs ys = true := by unfold sameP; simp [h]
theorem sameP_false {xs ys : List Pt} (h : xs ≠ ys) : sameP xs ys = false := by unfold sameP; simp [h]
set_option maxHeartbeats 4000000 in
theorem samepts_any (a1 a2 : Option Addr) (n1 c1 n2 c2 : Nat) (xs ys : List Pt) (w : World) (h1 : ReadsE Pt.cs 6 w a1 n1 xs) (h2 : ReadsE Pt.cs 6 w a2 n2 ys) (hx : ∀ x ∈ xs, x.wf) (hy : ∀ x ∈ ys, x.wf) (hc1 : n1 ≤ c1) (hb1 : c1 ≤ 9223372036854775807) (hc2 : n2 ≤ c2) (hb2 : c2 ≤ 9223372036854775807) :
    Calls Tryz.prog 36 #[.slice a1 n1 c1, .slice a2 n2 c2] w fun e w' => e = .returned (.bool (sameP xs ys)) ∧ Below w.heap.size w w' := by
  obtain ⟨V, HV⟩ : ∃ V, Hid (V = sameP xs ys) := ⟨_, rfl⟩
  rw [← HV.out]
  have l1 := h1.1
  have l2 := h2.1
  have H1 := Lib.hid h1
  have H2 := Lib.hid h2
  clear h1 h2
  by_cases hn : n1 = n2
  · subst hn
    have t1 : ((n1 : Int) != (n1 : Int)) = false := by simp
    go_enter Tryz.func36, Tryz.ntmps36
    go_wp2_with fail
    go_loopw [5] (fun i wr => ∃ k : Nat, k ≤ n1 ∧ i = .int .i64 k ∧ xs.take k = ys.take k ∧ Below w.heap.size w wr) (fun i _ => n1 - (intOf i).toNat)
    case atStart => exact ⟨0, by omega, rfl, by simp, Below.refl _ _⟩
    case round =>
      obtain ⟨k, hk, rfl, he, hb⟩ := hrel
      have HE := Lib.hid he
      clear he
      by_cases hlt : k < n1
      · have t2 : decide ((k : Int) < (n1 : Int)) = true := decide_eq_true (by omega)
        obtain ⟨b, o, x, rfl, _, hxk, hC⟩ := H1.out.at hb k hlt
        obtain ⟨b', o', y, rfl, _, hyk, hD⟩ := H2.out.at hb k hlt
        have NE0 := fun wx => (eq_pt x y (hx x (List.mem_of_getElem? hxk)) (hy y (List.mem_of_getElem? hyk)) wx).2
        obtain ⟨a0, a1, a2, a3, a4, a5⟩ := pt_cells hC
        obtain ⟨b0, b1, b2, b3, b4, b5⟩ := pt_cells hD
        have i1 : (0 : Int) ≤ (k : Int) := by omega
        have i2 : (k : Int) < (n1 : Int) := by omega
        clear hC hD
        by_cases hxy : x = y
        · have hs : Hid (xs.take (k + 1) = ys.take (k + 1)) := by
            show _ = _
            rw [List.take_add_one, List.take_add_one, HE.out, hxk, hyk, hxy]
          have NE : ∀ wx : World, (binOp .neq 90 x.val y.val).run Tryz.prog wx = .ok (.bool false) wx := fun wx => (NE0 wx).trans (by simp [hxy])
          unfold Pt.val at NE
          clear NE0 hxy hxk hyk
          go_wp2_with (go_quiet (fail))
          go_roundw
          case rel => exact ⟨k + 1, by omega, by go_num, hs.out, below_same hb rfl rfl rfl rfl⟩
          case measure => simp [intOf]; omega
        · have HV := Lib.hid (HV.out.trans (sameP_false (fun e => hxy (by rw [e, hyk] at hxk; exact (Option.some.inj hxk).symm))))
          have NE : ∀ wx : World, (binOp .neq 90 x.val y.val).run Tryz.prog wx = .ok (.bool true) wx := fun wx => (NE0 wx).trans (by simp [hxy])
          unfold Pt.val at NE
          clear NE0 hxy hxk hyk
          go_wp2_with (go_quiet (fail))
          go_ret
          exact ⟨by rw [HV.out]; rfl, below_same hb rfl rfl rfl rfl⟩
      · obtain rfl : k = n1 := by omega
        have t2 : decide ((k : Int) < (k : Int)) = false := decide_eq_false (by omega)
        have HV := Lib.hid (HV.out.trans (sameP_true (by have := HE.out; rwa [List.take_of_length_le (by omega), List.take_of_length_le (by omega)] at this)))
        go_wp2_with fail
        go_ret
        exact ⟨by rw [HV.out]; rfl, hb⟩
  · have t1 : ((n1 : Int) != (n2 : Int)) = true := bne_iff_ne.2 (by omega)
    have HV := Lib.hid (HV.out.trans (sameP_false (fun e => hn (by rw [← l1, ← l2, e]))))
    go_enter Tryz.func36, Tryz.ntmps36
    go_wp2_with fail
    go_ret
    exact ⟨by rw [HV.out]; rfl, Below.refl _ _⟩
end
end Go.Proofs.YtglabahbklpocaaGreat
namespace Go.Proofs.YtglabahbklpocaaGreat
section
open Go.RowKit
set_option maxRecDepth 100000
set_option linter.unusedVariables false
set_option linter.unusedSimpArgs false
attribute [local go_sem ↓] Go.wp_at_zero Go.wp_at_succ
def Sl.cut (d : Sl) : Sl := if 12 < d.n then ⟨d.a, 12, d.c⟩ else d
def RecA.small (x : RecA) : RecA := ⟨{ x.r with series := x.r.series.extract 0 60 }, x.d.cut, x.ds.take 12⟩
def Sl0 : Sl := ⟨none, 0, 0⟩
theorem SlR.cut {w : World} {d : Sl} {ds : List Int} (h : SlR w d ds) : SlR w d.cut (ds.take 12) := by
  obtain ⟨⟨h1, h2⟩, h3, h4⟩ := h
  unfold Sl.cut
  split
  · refine ⟨⟨by simp; omega, ?_⟩, by simp; omega, h4⟩
    rcases h2 with h2 | ⟨b, o, e1, e2, e3⟩
    · omega
    · refine .inr ⟨b, o, e1, e2, fun j hj => ?_⟩
      simp only at hj
      rw [e3 j (by omega)]
      congr 2
      simp only [List.getD_eq_getElem?_getD, List.getElem?_take]
      rw [if_pos hj]
  · rw [List.take_of_length_le (by omega)]
    exact ⟨⟨h1, h2⟩, h3, h4⟩
theorem RecA.small_ok {w : World} {x : RecA} (h : x.ok w) : x.small.ok w := ⟨⟨h.wf.1, by
  have := h.wf.2.1
  simp only [RecA.small, ByteArray.size_extract]
  omega, h.wf.2.2⟩, h.sl.cut⟩
end
end Go.Proofs.YtglabahbklpocaaGreat
namespace Go.Proofs.YtglabahbklpocaaGreat
section
open Go.RowKit
set_option maxRecDepth 100000
set_option linter.unusedVariables false
set_option linter.unusedSimpArgs false
attribute [local go_sem ↓] Go.wp_at_zero Go.wp_at_succ
open Classical in
noncomputable def sameR (a b : RecA) : Bool := decide (a.r = b.r ∧ a.ds = b.ds)
set_option maxHeartbeats 4000000 in
theorem samer_any (a b : RecA) (w : World) (ha : a.ok w) (hb : b.ok w) : Calls Tryz.prog 98 #[a.val, b.val] w fun e w' => e = .returned (.bool (sameR a b)) ∧ Below w.heap.size w w' := by
  obtain ⟨V, HV⟩ : ∃ V, Hid (V = sameR a b) := ⟨_, rfl⟩
  rw [← HV.out]
  have HA := Lib.hid ha
  have HB := Lib.hid hb
  have C0 := fun wx hw => same_any a.d.a b.d.a a.d.n a.d.c b.d.n b.d.c a.ds b.ds wx (ha.below hw).sl.r (hb.below hw).sl.r ha.sl.nc ha.sl.cb hb.sl.nc hb.sl.cb
  clear ha hb
  obtain ⟨r, d, ds⟩ := a
  obtain ⟨r', d', ds'⟩ := b
  unfold RecA.val rcVal
  simp only [rcA] at C0 ⊢
  go_enter Tryz.func98, Tryz.ntmps98
  go_upto_region 1 with fail
  generalize hw1 : World.alloc _ _ = w1
  have hK : Kn w.heap.size w [(w.heap.size + 1, rcO r' d'), (w.heap.size, rcO r d)] w1 := by rw [← hw1]; exact ((Kn.start w).new' rfl (rcO r d)).new' (n := w.heap.size + 1) (by simp) (rcO r' d')
  clear hw1
  generalize hg : w.heap.size = g at *
  have KK := Lib.hid hK
  clear hK
  have a8 := (rc_cells (KK.out.at_ (g, rcO r d) (by simp)) rfl).c8
  have b8 := (rc_cells (KK.out.at_ (g + 1, rcO r' d') (by simp)) rfl).c8
  go_upto_region 2 with (first | (go_at_call 22; refine (C0 _ KK.out.b).mono ?_; rintro e wn ⟨rfl, dn⟩; have KK := Lib.hid (KK.out.below dn); clear dn))
  clear a8 b8
  obtain ⟨a0, a1, a2, a3, a4, a5, a6, a7, _⟩ := rc_cells (KK.out.at_ (g, rcO r d) (by simp)) rfl
  obtain ⟨b0, b1, b2, b3, b4, b5, b6, b7, _⟩ := rc_cells (KK.out.at_ (g + 1, rcO r' d') (by simp)) rfl
  have ST := fun wx => eq_stamp r.st r'.st wx
  unfold St.val at ST
  have HV : Hid (V = ((((((decide (ds = ds') && (r.kind == r'.kind)) && (r.series.toList == r'.series.toList)) && (r.time == r'.time)) && (r.value == r'.value)) && (r.tier == r'.tier)) && decide (r.st = r'.st))) := by
    show _ = _
    rw [HV.out]
    unfold sameR
    rw [Bool.eq_iff_iff]
    simp only [decide_eq_true_eq, Bool.and_eq_true, beq_iff_eq]
    obtain ⟨k, s, t, v, tr, st⟩ := r
    obtain ⟨k', s', t', v', tr', st'⟩ := r'
    simp only [Rc.mk.injEq]
    constructor
    · rintro ⟨⟨rfl, rfl, rfl, rfl, rfl, rfl⟩, rfl⟩
      simp
    · rintro ⟨⟨⟨⟨⟨⟨rfl, rfl⟩, h⟩, rfl⟩, rfl⟩, rfl⟩, rfl⟩
      exact ⟨⟨rfl, by rw [Lib.toList_data, Lib.toList_data] at h; exact ByteArray.ext (Array.ext' h), rfl, rfl, rfl, rfl⟩, rfl⟩
  obtain ⟨D, hD⟩ : ∃ D, decide (ds = ds') = D := ⟨_, rfl⟩
  obtain ⟨Bk, e1⟩ : ∃ D, (r.kind == r'.kind) = D := ⟨_, rfl⟩
  obtain ⟨Bs, e2⟩ : ∃ D, (r.series.toList == r'.series.toList) = D := ⟨_, rfl⟩
  obtain ⟨Bt, e3⟩ : ∃ D, (r.time == r'.time) = D := ⟨_, rfl⟩
  obtain ⟨Bv, e4⟩ : ∃ D, (r.value == r'.value) = D := ⟨_, rfl⟩
  obtain ⟨Br, e5⟩ : ∃ D, (r.tier == r'.tier) = D := ⟨_, rfl⟩
  obtain ⟨Bst, e6⟩ : ∃ D, decide (r.st = r'.st) = D := ⟨_, rfl⟩
  rw [hD, e1, e2, e3, e4, e5, e6] at HV
  simp only [hD] at C0 ⊢
  simp only [e6] at ST
  clear C0
  cases D
  · skip
    go_wp2_with fail
    go_ret
    exact ⟨by rw [HV.out]; rfl, by first | exact KK.out.b | (rw [hg]; exact KK.out.b)⟩
  · skip
    cases Bk
    · skip
      go_wp2_with fail
      go_ret
      exact ⟨by rw [HV.out]; rfl, by first | exact KK.out.b | (rw [hg]; exact KK.out.b)⟩
    · skip
      cases Bs
      · skip
        go_wp2_with fail
        go_ret
        exact ⟨by rw [HV.out]; rfl, by first | exact KK.out.b | (rw [hg]; exact KK.out.b)⟩
      · skip
        cases Bt
        · skip
          go_wp2_with fail
          go_ret
          exact ⟨by rw [HV.out]; rfl, by first | exact KK.out.b | (rw [hg]; exact KK.out.b)⟩
        · skip
          cases Bv
          · skip
            go_wp2_with fail
            go_ret
            exact ⟨by rw [HV.out]; rfl, by first | exact KK.out.b | (rw [hg]; exact KK.out.b)⟩
          · skip
            cases Br
            · skip
              go_wp2_with fail
              go_ret
              exact ⟨by rw [HV.out]; rfl, by first | exact KK.out.b | (rw [hg]; exact KK.out.b)⟩
            · skip
              cases Bst
              · skip
                go_wp2_with fail
                go_ret
                exact ⟨by rw [HV.out]; rfl, by first | exact KK.out.b | (rw [hg]; exact KK.out.b)⟩
              · skip
                go_wp2_with fail
                go_ret
                exact ⟨by rw [HV.out]; rfl, by first | exact KK.out.b | (rw [hg]; exact KK.out.b)⟩
end
end Go.Proofs.YtglabahbklpocaaGreat
namespace Go.Proofs.YtglabahbklpocaaGreat
section
set_option maxRecDepth 100000
set_option linter.unusedVariables false
set_option linter.unusedSimpArgs false
theorem ptsL_le {L : List Pt} (hok : okPts L) : (ptsL L).length ≤ 10 + 150 * L.length := by
  have h1 := putB_le (L.length : Int)
  have h2 := ptsb_le hok
  unfold ptsL
  rw [List.length_append]
  omega
theorem recT_le {r : Rc} {ds : List Int} (h : recP r ds) : (recT r ds).size ≤ 3000 := by
  have h1 := vput_le r.kind
  have h2 := stB_le r.st
  have h3 := vecB_le ds
  have h4 := vput_le r.time
  have h5 := vput_le (zig r.value)
  have h6 := vput_le r.tier
  unfold recT
  rw [ByteArray.size_append, ByteArray.size_append, ByteArray.size_append]
  have hm : (midB r).size ≤ 900 := by
    unfold midB
    split
    · have hn : nameV r.series = true := by
        rcases h.2.2.2.2 with h | h
        · exact h.2.1
        · omega
      have m7 := vtext_le r.series (nameV_size hn)
      rw [ByteArray.size_append, ByteArray.size_append]
      omega
    · rw [ByteArray.size_append]
      omega
  omega
theorem recT_pos (r : Rc) (ds : List Int) : 1 ≤ (recT r ds).size := by
  have h1 := vput_pos r.kind
  unfold recT
  rw [ByteArray.size_append, ByteArray.size_append, ByteArray.size_append]
  omega
theorem recB_pos {r : Rc} {ds : List Int} (h : recP r ds) : recB r ds = recT r ds := by unfold recB; rw [if_pos h]
end
end Go.Proofs.YtglabahbklpocaaGreat
