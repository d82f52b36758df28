/- The reference's Check of messages: kind 2, 3. -/
import Derived.Test.YtglabahbklpocaaGreatGShipReads25
namespace Go.Proofs.YtglabahbklpocaaGreat
section
open Go.RowKit Go.Deep
set_option maxRecDepth 100000
set_option linter.unusedVariables false
set_option linter.unusedSimpArgs false
attribute [local go_sem ↓] Go.wp_at_zero Go.wp_at_succ
set_option maxHeartbeats 16000000 in
theorem rcheck2_w (x : Wi) (ps : List Pt) (rs : List RecA) (vs : List Int) (w : World) (hkd : x.kind = 2) (h : WiAt w x ps rs vs) : Calls Tryz.prog 17 #[.agg x.arr] w fun e w' => e = .returned (.int .i64 (chkW x ps rs vs)) ∧ Below w.heap.size w w' := by
  obtain ⟨V, HV⟩ : ∃ V : Int, Hid (V = chkW x ps rs vs) := ⟨_, rfl⟩
  rw [← HV.out]
  have HPP := Lib.hid h.p
  have HRR := Lib.hid h.r
  have HVV := Lib.hid h.v
  have NM := fun wx => rname_any x.series wx h.s
  have SC := fun wx => ris_any x.from_ x.to_ wx
  have RG := fun wx (hb : Below w.heap.size w wx) => rright_any x.vec.a x.vec.n x.vec.c vs wx ((HVV.out.below hb).r) HVV.out.nc HVV.out.cb
  have hpn : ps.length = x.np.n := h.p.r.1
  have hrn : rs.length = x.nr.n := h.r.r.1
  have hpm : x.np.n ≤ 9223372036854775807 := Nat.le_trans h.p.nc h.p.cb
  have hrm : x.nr.n ≤ 9223372036854775807 := Nat.le_trans h.r.nc h.r.cb
  clear h HVV
  have HX : Hid (V = 0 ↔ okA x ∧ okT x ps rs vs) := by
    show _ ↔ _
    rw [HV.out]
    by_cases h : okA x ∧ okT x ps rs vs
    · exact ⟨fun _ => h, fun _ => chkW_0 h.1 h.2⟩
    · exact ⟨fun e => (by rw [chkW_1 h] at e; cases e), fun e => absurd e h⟩
  have HX1 : Hid (V = 0 ∨ V = 1) := by
    show _ ∨ _
    rw [HV.out]
    by_cases h : okA x ∧ okT x ps rs vs
    · exact .inl (chkW_0 h.1 h.2)
    · exact .inr (chkW_1 h)
  have HN : Hid (¬ okA x ∨ ¬ okT x ps rs vs → V = 1) := fun h => HX1.out.resolve_left (fun e => by
    have := HX.out.1 e
    rcases h with h | h
    · exact h this.1
    · exact h this.2)
  obtain ⟨kind, id, series, from_, to_, ⟨pa, pn, pc⟩, ⟨ra, rn, rc⟩, vec, time⟩ := x
  simp only at hkd
  subst hkd
  unfold Wi.arr
  simp only at *
  obtain ⟨OA, hOA⟩ : ∃ P : Prop, P = okA ⟨2, id, series, from_, to_, ⟨pa, pn, pc⟩, ⟨ra, rn, rc⟩, vec, time⟩ := ⟨_, rfl⟩
  obtain ⟨OT, hOT⟩ : ∃ P : Prop, P = okT ⟨2, id, series, from_, to_, ⟨pa, pn, pc⟩, ⟨ra, rn, rc⟩, vec, time⟩ ps rs vs := ⟨_, rfl⟩
  rw [← hOA, ← hOT] at HX HN
  have HOA := Lib.hid hOA
  have HOT := Lib.hid hOT
  clear hOA hOT HV
  go_enter Tryz.func17, Tryz.ntmps17
  go_upto_region 1 with fail
  generalize hw1 : World.alloc _ _ = w1
  have KK := Lib.hid (show Kn w.heap.size w [(w.heap.size, wiO ⟨2, id, series, from_, to_, ⟨pa, pn, pc⟩, ⟨ra, rn, rc⟩, vec, time⟩)] w1 by rw [← hw1]; exact (Kn.start w).new' rfl (wiO ⟨2, id, series, from_, to_, ⟨pa, pn, pc⟩, ⟨ra, rn, rc⟩, vec, time⟩))
  clear hw1
  obtain ⟨g, hg⟩ : ∃ g, w.heap.size = g := ⟨_, rfl⟩
  rw [hg] at KK RG ⊢
  have c0 := (wi_cells KK.out.hd rfl).c0
  have c1 := (wi_cells KK.out.hd rfl).c1
  have c2 := (wi_cells KK.out.hd rfl).c2
  have c3 := (wi_cells KK.out.hd rfl).c3
  have c4 := (wi_cells KK.out.hd rfl).c4
  have c5 := (wi_cells KK.out.hd rfl).c5
  have c6 := (wi_cells KK.out.hd rfl).c6
  have c7 := (wi_cells KK.out.hd rfl).c7
  have c8 := (wi_cells KK.out.hd rfl).c8
  simp only at c0 c1 c2 c3 c4 c5 c6 c7 c8
  rcases idV_cases id with ⟨h1, h2, h3⟩ | ⟨h1, h2⟩ | ⟨h1, h2, h3⟩
  · have q0 := Lib.hid (show 0 ≤ id ∧ id ≤ 1099511627776 by have := h1; unfold idV at this; simpa using this)
    clear h1
    go_upto_region 4 with fail
    clear h2 h3
    by_cases hx : pn = 0
    · have q1 := Lib.hid hx
      have e_pn : decide ((pn : Int) > 0) = false := decide_eq_false (by omega)
      have f_pn : decide (0 < pn) = false := decide_eq_false (by omega)
      clear hx
      by_cases hx : series.size = 0
      · have q2 := Lib.hid hx
        have f1 := tl_nil series hx
        have f2 : (series.toList.isEmpty) = true := by rw [f1]; rfl
        clear hx
        by_cases hx : from_ = 0
        · have q3 := Lib.hid hx
          have e_from : (from_ != 0) = false := bne_eq_false_iff_eq.2 hx
          have f_from : (from_ == 0) = true := beq_iff_eq.2 hx
          clear hx
          by_cases hx : to_ = 0
          · have q4 := Lib.hid hx
            have e_to : (to_ != 0) = false := bne_eq_false_iff_eq.2 hx
            have f_to : (to_ == 0) = true := beq_iff_eq.2 hx
            clear hx
            by_cases hx : time = 0
            · have q5 := Lib.hid hx
              have e_time : (time != 0) = false := bne_eq_false_iff_eq.2 hx
              have f_time : (time == 0) = true := beq_iff_eq.2 hx
              clear hx
              by_cases hx : rn = 0
              · have q6 := Lib.hid hx
                have e_rn : decide ((rn : Int) > 0) = false := decide_eq_false (by omega)
                have f_rn : decide (0 < rn) = false := decide_eq_false (by omega)
                clear hx
                by_cases hx : vec.n = 0
                · have q7 := Lib.hid hx
                  have e_vecn : decide ((vec.n : Int) > 0) = false := decide_eq_false (by omega)
                  have f_vecn : decide (0 < vec.n) = false := decide_eq_false (by omega)
                  clear hx
                  go_upto_region 6 with fail
                  by_cases hx : pn ≤ 200
                  · have q8 := Lib.hid hx
                    have g_pn : decide ((pn : Int) > 200) = false := decide_eq_false (by omega)
                    clear hx
                    by_cases hx : rn ≤ 16
                    · have q9 := Lib.hid hx
                      have g_rn : decide ((rn : Int) > 16) = false := decide_eq_false (by omega)
                      clear hx
                      by_cases hx : 0 ≤ time
                      · have q10 := Lib.hid hx
                        have g_lt : decide (time < 0) = false := decide_eq_false (by omega)
                        clear hx
                        by_cases hx : time ≤ 1099511627777
                        · have q11 := Lib.hid hx
                          have g_mx : decide (time > 1099511627777) = false := decide_eq_false (by omega)
                          clear hx
                          go_wp2_with fail
                          go_loopw [4] (fun i wr => ∃ k : Nat, k ≤ pn ∧ i = .int .i64 k ∧ okPts (ps.take k) ∧ Kn g w [(g, wiO ⟨2, id, series, from_, to_, ⟨pa, pn, pc⟩, ⟨ra, rn, rc⟩, vec, time⟩)] wr) (fun i _ => pn - (intOf i).toNat)
                          case atStart => exact ⟨0, by omega, rfl, by intro p hp; simp at hp, KK.out⟩
                          case round =>
                            obtain ⟨k, hk, rfl, he, hK⟩ := hrel
                            clear KK
                            have KK := Lib.hid hK
                            have HE := Lib.hid he
                            clear hK he
                            have c5 := (wi_cells KK.out.hd rfl).c5
                            simp only at c5
                            by_cases hlt : k < pn
                            · exfalso
                              have := q1.out
                              omega
                            · have hkk : k = pn := by omega
                              have t2 : decide ((k : Int) < (pn : Int)) = false := decide_eq_false (by omega)
                              have HPO := Lib.hid (show okPts ps by have := HE.out; rwa [List.take_of_length_le (by omega)] at this)
                              clear HE
                              go_wp2_with fail
                              clear c5 t2 hlt hk hkk
                              go_loopw [5] (fun i wr => ∃ k : Nat, k ≤ rn ∧ i = .int .i64 k ∧ okRecs (rs.take k) ∧ Kn g w [(g, wiO ⟨2, id, series, from_, to_, ⟨pa, pn, pc⟩, ⟨ra, rn, rc⟩, vec, time⟩)] wr) (fun i _ => rn - (intOf i).toNat)
                              case atStart => exact ⟨0, by omega, rfl, by intro p hp; simp at hp, KK.out⟩
                              case round =>
                                obtain ⟨k, hk, rfl, he, hK⟩ := hrel
                                clear KK
                                have KK := Lib.hid hK
                                have HE := Lib.hid he
                                clear hK he
                                have c6 := (wi_cells KK.out.hd rfl).c6
                                simp only at c6
                                by_cases hlt : k < rn
                                · exfalso
                                  have := q6.out
                                  omega
                                · have hkk : k = rn := by omega
                                  have t2 : decide ((k : Int) < (rn : Int)) = false := decide_eq_false (by omega)
                                  have HRO := Lib.hid (show okRecs rs by have := HE.out; rwa [List.take_of_length_le (by omega)] at this)
                                  clear HE
                                  have c0 := (wi_cells KK.out.hd rfl).c0
                                  have c2 := (wi_cells KK.out.hd rfl).c2
                                  have c7 := (wi_cells KK.out.hd rfl).c7
                                  simp only at c0 c2 c7
                                  obtain ⟨NB, hNB⟩ : ∃ b, nameV series = b := ⟨_, rfl⟩
                                  obtain ⟨SB, hSB⟩ : ∃ b, spanV from_ to_ = b := ⟨_, rfl⟩
                                  obtain ⟨RB, hRB⟩ : ∃ b, decide (vs = pl vs) = b := ⟨_, rfl⟩
                                  rw [hNB] at NM
                                  rw [hSB] at SC
                                  rw [hRB] at RG
                                  have HB3 := Lib.hid (And.intro hNB (And.intro hSB hRB))
                                  clear hNB hSB hRB
                                  go_upto_region 21 with (first
                                    | refine wpList_load_mid_w (by first | rfl | kernel_rfl) 30 _ rfl g 3 rfl [.int .i64 from_, .int .i64 to_] _ (span_range KK.out.hd rfl) Tryz.underlying30 rfl (by kernel_rfl) ?_
                                    | (go_at_call 72; refine (NM _).mono ?_; rintro e wn ⟨rfl, rfl⟩)
                                    | (go_at_call 73; refine (SC _).mono ?_; rintro e wn ⟨rfl, dn⟩; have KK := Lib.hid (KK.out.below dn); clear dn c0 c7; have c0 := (wi_cells KK.out.hd rfl).c0; have c7 := (wi_cells KK.out.hd rfl).c7; simp only at c0 c7)
                                    | (go_at_call 74; refine (RG _ KK.out.b).mono ?_; rintro e wn ⟨rfl, dn⟩; have KK := Lib.hid (KK.out.below dn); clear dn c0; have c0 := (wi_cells KK.out.hd rfl).c0; simp only at c0))
                                  cases RB
                                  · have HF := Lib.hid (HN.out (.inr (fun h => by rw [HOT.out] at h; obtain ⟨_, _, h3, h4⟩ := h; obtain ⟨e1, e2, e3⟩ := HB3.out; rw [decide_eq_true h4] at e3; cases e3)))
                                    go_wp2_with fail
                                    go_ret
                                    exact ⟨by rw [HF.out]; rfl, by first | exact KK.out.b | (rw [hg]; exact KK.out.b)⟩
                                  · have HF := Lib.hid (HX.out.2 ⟨(by rw [HOA.out]; have q0' := q0.out; have q1' := q1.out; have q2' := q2.out; have q3' := q3.out; have q4' := q4.out; have q5' := q5.out; have q6' := q6.out; have q7' := q7.out; have q8' := q8.out; have q9' := q9.out; have q10' := q10.out; have q11' := q11.out;  unfold okA; simp only; refine ⟨?_, ?_, ?_, ?_, ?_, ?_, ?_, ?_, ?_, ?_, ?_⟩ <;> first | omega | trivial | exact .inl rfl | exact .inl trivial | simp), (by rw [HOT.out]; obtain ⟨e1, e2, e3⟩ := HB3.out; exact ⟨HPO.out, HRO.out, fun h => by simp at h, of_decide_eq_true e3⟩)⟩)
                                    go_wp2_with fail
                                    go_ret
                                    exact ⟨by rw [HF.out]; rfl, by first | exact KK.out.b | (rw [hg]; exact KK.out.b)⟩
                        · have HF := Lib.hid (HN.out (.inl (fun h => by rw [HOA.out] at h; unfold okA at h; simp only at h; omega)))
                          have g_mx : decide (time > 1099511627777) = true := decide_eq_true (by omega)
                          clear hx
                          go_wp2_with fail
                          go_ret
                          exact ⟨by rw [HF.out]; rfl, by first | exact KK.out.b | (rw [hg]; exact KK.out.b)⟩
                      · have HF := Lib.hid (HN.out (.inl (fun h => by rw [HOA.out] at h; unfold okA at h; simp only at h; omega)))
                        have g_lt : decide (time < 0) = true := decide_eq_true (by omega)
                        clear hx
                        go_wp2_with fail
                        go_ret
                        exact ⟨by rw [HF.out]; rfl, by first | exact KK.out.b | (rw [hg]; exact KK.out.b)⟩
                    · have HF := Lib.hid (HN.out (.inl (fun h => by rw [HOA.out] at h; unfold okA at h; simp only at h; omega)))
                      have g_rn : decide ((rn : Int) > 16) = true := decide_eq_true (by omega)
                      clear hx
                      go_wp2_with fail
                      go_ret
                      exact ⟨by rw [HF.out]; rfl, by first | exact KK.out.b | (rw [hg]; exact KK.out.b)⟩
                  · have HF := Lib.hid (HN.out (.inl (fun h => by rw [HOA.out] at h; unfold okA at h; simp only at h; omega)))
                    have g_pn : decide ((pn : Int) > 200) = true := decide_eq_true (by omega)
                    clear hx
                    go_wp2_with fail
                    go_ret
                    exact ⟨by rw [HF.out]; rfl, by first | exact KK.out.b | (rw [hg]; exact KK.out.b)⟩
                · have HF := Lib.hid (HN.out (.inl (fun h => by rw [HOA.out] at h; unfold okA at h; simp only at h; omega)))
                  have e_vecn : decide ((vec.n : Int) > 0) = true := decide_eq_true (by omega)
                  have f_vecn : decide (0 < vec.n) = true := decide_eq_true (by omega)
                  clear hx
                  go_wp2_with fail
                  go_ret
                  exact ⟨by rw [HF.out]; rfl, by first | exact KK.out.b | (rw [hg]; exact KK.out.b)⟩
              · have HF := Lib.hid (HN.out (.inl (fun h => by rw [HOA.out] at h; unfold okA at h; simp only at h; omega)))
                have e_rn : decide ((rn : Int) > 0) = true := decide_eq_true (by omega)
                have f_rn : decide (0 < rn) = true := decide_eq_true (by omega)
                clear hx
                go_wp2_with fail
                go_ret
                exact ⟨by rw [HF.out]; rfl, by first | exact KK.out.b | (rw [hg]; exact KK.out.b)⟩
            · have HF := Lib.hid (HN.out (.inl (fun h => by rw [HOA.out] at h; unfold okA at h; simp only at h; omega)))
              have e_time : (time != 0) = true := bne_iff_ne.2 hx
              have f_time : (time == 0) = false := beq_eq_false_iff_ne.2 hx
              clear hx
              go_wp2_with fail
              go_ret
              exact ⟨by rw [HF.out]; rfl, by first | exact KK.out.b | (rw [hg]; exact KK.out.b)⟩
          · have HF := Lib.hid (HN.out (.inl (fun h => by rw [HOA.out] at h; unfold okA at h; simp only at h; omega)))
            have e_to : (to_ != 0) = true := bne_iff_ne.2 hx
            have f_to : (to_ == 0) = false := beq_eq_false_iff_ne.2 hx
            clear hx
            go_wp2_with fail
            go_ret
            exact ⟨by rw [HF.out]; rfl, by first | exact KK.out.b | (rw [hg]; exact KK.out.b)⟩
        · have HF := Lib.hid (HN.out (.inl (fun h => by rw [HOA.out] at h; unfold okA at h; simp only at h; omega)))
          have e_from : (from_ != 0) = true := bne_iff_ne.2 hx
          have f_from : (from_ == 0) = false := beq_eq_false_iff_ne.2 hx
          clear hx
          go_wp2_with fail
          go_ret
          exact ⟨by rw [HF.out]; rfl, by first | exact KK.out.b | (rw [hg]; exact KK.out.b)⟩
      · have HF := Lib.hid (HN.out (.inl (fun h => by rw [HOA.out] at h; unfold okA at h; simp only at h; omega)))
        obtain ⟨f1, f2, f3⟩ := tl_some series (by omega)
        clear hx
        go_wp2_with fail
        go_ret
        exact ⟨by rw [HF.out]; rfl, by first | exact KK.out.b | (rw [hg]; exact KK.out.b)⟩
    · have HF := Lib.hid (HN.out (.inl (fun h => by rw [HOA.out] at h; unfold okA at h; simp only at h; omega)))
      have e_pn : decide ((pn : Int) > 0) = true := decide_eq_true (by omega)
      have f_pn : decide (0 < pn) = true := decide_eq_true (by omega)
      clear hx
      go_wp2_with fail
      go_ret
      exact ⟨by rw [HF.out]; rfl, by first | exact KK.out.b | (rw [hg]; exact KK.out.b)⟩
  · have HF := Lib.hid (HN.out (.inl (fun h => by rw [HOA.out] at h; unfold okA at h; simp only at h; have := of_decide_eq_true h2; omega)))
    go_wp2_with fail
    go_ret
    exact ⟨by rw [HF.out]; rfl, by first | exact KK.out.b | (rw [hg]; exact KK.out.b)⟩
  · have HF := Lib.hid (HN.out (.inl (fun h => by rw [HOA.out] at h; unfold okA at h; simp only at h; have := of_decide_eq_true h3; omega)))
    go_wp2_with fail
    go_ret
    exact ⟨by rw [HF.out]; rfl, by first | exact KK.out.b | (rw [hg]; exact KK.out.b)⟩
set_option maxHeartbeats 16000000 in
theorem rcheck3_w (x : Wi) (ps : List Pt) (rs : List RecA) (vs : List Int) (w : World) (hkd : x.kind = 3) (h : WiAt w x ps rs vs) : Calls Tryz.prog 17 #[.agg x.arr] w fun e w' => e = .returned (.int .i64 (chkW x ps rs vs)) ∧ Below w.heap.size w w' := by
  obtain ⟨V, HV⟩ : ∃ V : Int, Hid (V = chkW x ps rs vs) := ⟨_, rfl⟩
  rw [← HV.out]
  have HPP := Lib.hid h.p
  have HRR := Lib.hid h.r
  have HVV := Lib.hid h.v
  have NM := fun wx => rname_any x.series wx h.s
  have SC := fun wx => ris_any x.from_ x.to_ wx
  have RG := fun wx (hb : Below w.heap.size w wx) => rright_any x.vec.a x.vec.n x.vec.c vs wx ((HVV.out.below hb).r) HVV.out.nc HVV.out.cb
  have hpn : ps.length = x.np.n := h.p.r.1
  have hrn : rs.length = x.nr.n := h.r.r.1
  have hpm : x.np.n ≤ 9223372036854775807 := Nat.le_trans h.p.nc h.p.cb
  have hrm : x.nr.n ≤ 9223372036854775807 := Nat.le_trans h.r.nc h.r.cb
  clear h HVV
  have HX : Hid (V = 0 ↔ okA x ∧ okT x ps rs vs) := by
    show _ ↔ _
    rw [HV.out]
    by_cases h : okA x ∧ okT x ps rs vs
    · exact ⟨fun _ => h, fun _ => chkW_0 h.1 h.2⟩
    · exact ⟨fun e => (by rw [chkW_1 h] at e; cases e), fun e => absurd e h⟩
  have HX1 : Hid (V = 0 ∨ V = 1) := by
    show _ ∨ _
    rw [HV.out]
    by_cases h : okA x ∧ okT x ps rs vs
    · exact .inl (chkW_0 h.1 h.2)
    · exact .inr (chkW_1 h)
  have HN : Hid (¬ okA x ∨ ¬ okT x ps rs vs → V = 1) := fun h => HX1.out.resolve_left (fun e => by
    have := HX.out.1 e
    rcases h with h | h
    · exact h this.1
    · exact h this.2)
  obtain ⟨kind, id, series, from_, to_, ⟨pa, pn, pc⟩, ⟨ra, rn, rc⟩, vec, time⟩ := x
  simp only at hkd
  subst hkd
  unfold Wi.arr
  simp only at *
  obtain ⟨OA, hOA⟩ : ∃ P : Prop, P = okA ⟨3, id, series, from_, to_, ⟨pa, pn, pc⟩, ⟨ra, rn, rc⟩, vec, time⟩ := ⟨_, rfl⟩
  obtain ⟨OT, hOT⟩ : ∃ P : Prop, P = okT ⟨3, id, series, from_, to_, ⟨pa, pn, pc⟩, ⟨ra, rn, rc⟩, vec, time⟩ ps rs vs := ⟨_, rfl⟩
  rw [← hOA, ← hOT] at HX HN
  have HOA := Lib.hid hOA
  have HOT := Lib.hid hOT
  clear hOA hOT HV
  go_enter Tryz.func17, Tryz.ntmps17
  go_upto_region 1 with fail
  generalize hw1 : World.alloc _ _ = w1
  have KK := Lib.hid (show Kn w.heap.size w [(w.heap.size, wiO ⟨3, id, series, from_, to_, ⟨pa, pn, pc⟩, ⟨ra, rn, rc⟩, vec, time⟩)] w1 by rw [← hw1]; exact (Kn.start w).new' rfl (wiO ⟨3, id, series, from_, to_, ⟨pa, pn, pc⟩, ⟨ra, rn, rc⟩, vec, time⟩))
  clear hw1
  obtain ⟨g, hg⟩ : ∃ g, w.heap.size = g := ⟨_, rfl⟩
  rw [hg] at KK RG ⊢
  have c0 := (wi_cells KK.out.hd rfl).c0
  have c1 := (wi_cells KK.out.hd rfl).c1
  have c2 := (wi_cells KK.out.hd rfl).c2
  have c3 := (wi_cells KK.out.hd rfl).c3
  have c4 := (wi_cells KK.out.hd rfl).c4
  have c5 := (wi_cells KK.out.hd rfl).c5
  have c6 := (wi_cells KK.out.hd rfl).c6
  have c7 := (wi_cells KK.out.hd rfl).c7
  have c8 := (wi_cells KK.out.hd rfl).c8
  simp only at c0 c1 c2 c3 c4 c5 c6 c7 c8
  rcases idV_cases id with ⟨h1, h2, h3⟩ | ⟨h1, h2⟩ | ⟨h1, h2, h3⟩
  · have q0 := Lib.hid (show 0 ≤ id ∧ id ≤ 1099511627776 by have := h1; unfold idV at this; simpa using this)
    clear h1
    go_upto_region 4 with fail
    clear h2 h3
    by_cases hx : pn = 0
    · have q1 := Lib.hid hx
      have e_pn : decide ((pn : Int) > 0) = false := decide_eq_false (by omega)
      have f_pn : decide (0 < pn) = false := decide_eq_false (by omega)
      clear hx
      by_cases hx : time = 0
      · have q2 := Lib.hid hx
        have e_time : (time != 0) = false := bne_eq_false_iff_eq.2 hx
        have f_time : (time == 0) = true := beq_iff_eq.2 hx
        clear hx
        by_cases hx : rn = 0
        · have q3 := Lib.hid hx
          have e_rn : decide ((rn : Int) > 0) = false := decide_eq_false (by omega)
          have f_rn : decide (0 < rn) = false := decide_eq_false (by omega)
          clear hx
          by_cases hx : vec.n = 0
          · have q4 := Lib.hid hx
            have e_vecn : decide ((vec.n : Int) > 0) = false := decide_eq_false (by omega)
            have f_vecn : decide (0 < vec.n) = false := decide_eq_false (by omega)
            clear hx
            go_upto_region 6 with fail
            by_cases hx : pn ≤ 200
            · have q5 := Lib.hid hx
              have g_pn : decide ((pn : Int) > 200) = false := decide_eq_false (by omega)
              clear hx
              by_cases hx : rn ≤ 16
              · have q6 := Lib.hid hx
                have g_rn : decide ((rn : Int) > 16) = false := decide_eq_false (by omega)
                clear hx
                by_cases hx : 0 ≤ time
                · have q7 := Lib.hid hx
                  have g_lt : decide (time < 0) = false := decide_eq_false (by omega)
                  clear hx
                  by_cases hx : time ≤ 1099511627777
                  · have q8 := Lib.hid hx
                    have g_mx : decide (time > 1099511627777) = false := decide_eq_false (by omega)
                    clear hx
                    go_wp2_with fail
                    go_loopw [4] (fun i wr => ∃ k : Nat, k ≤ pn ∧ i = .int .i64 k ∧ okPts (ps.take k) ∧ Kn g w [(g, wiO ⟨3, id, series, from_, to_, ⟨pa, pn, pc⟩, ⟨ra, rn, rc⟩, vec, time⟩)] wr) (fun i _ => pn - (intOf i).toNat)
                    case atStart => exact ⟨0, by omega, rfl, by intro p hp; simp at hp, KK.out⟩
                    case round =>
                      obtain ⟨k, hk, rfl, he, hK⟩ := hrel
                      clear KK
                      have KK := Lib.hid hK
                      have HE := Lib.hid he
                      clear hK he
                      have c5 := (wi_cells KK.out.hd rfl).c5
                      simp only at c5
                      by_cases hlt : k < pn
                      · exfalso
                        have := q1.out
                        omega
                      · have hkk : k = pn := by omega
                        have t2 : decide ((k : Int) < (pn : Int)) = false := decide_eq_false (by omega)
                        have HPO := Lib.hid (show okPts ps by have := HE.out; rwa [List.take_of_length_le (by omega)] at this)
                        clear HE
                        go_wp2_with fail
                        clear c5 t2 hlt hk hkk
                        go_loopw [5] (fun i wr => ∃ k : Nat, k ≤ rn ∧ i = .int .i64 k ∧ okRecs (rs.take k) ∧ Kn g w [(g, wiO ⟨3, id, series, from_, to_, ⟨pa, pn, pc⟩, ⟨ra, rn, rc⟩, vec, time⟩)] wr) (fun i _ => rn - (intOf i).toNat)
                        case atStart => exact ⟨0, by omega, rfl, by intro p hp; simp at hp, KK.out⟩
                        case round =>
                          obtain ⟨k, hk, rfl, he, hK⟩ := hrel
                          clear KK
                          have KK := Lib.hid hK
                          have HE := Lib.hid he
                          clear hK he
                          have c6 := (wi_cells KK.out.hd rfl).c6
                          simp only at c6
                          by_cases hlt : k < rn
                          · exfalso
                            have := q3.out
                            omega
                          · have hkk : k = rn := by omega
                            have t2 : decide ((k : Int) < (rn : Int)) = false := decide_eq_false (by omega)
                            have HRO := Lib.hid (show okRecs rs by have := HE.out; rwa [List.take_of_length_le (by omega)] at this)
                            clear HE
                            have c0 := (wi_cells KK.out.hd rfl).c0
                            have c2 := (wi_cells KK.out.hd rfl).c2
                            have c7 := (wi_cells KK.out.hd rfl).c7
                            simp only at c0 c2 c7
                            obtain ⟨NB, hNB⟩ : ∃ b, nameV series = b := ⟨_, rfl⟩
                            obtain ⟨SB, hSB⟩ : ∃ b, spanV from_ to_ = b := ⟨_, rfl⟩
                            obtain ⟨RB, hRB⟩ : ∃ b, decide (vs = pl vs) = b := ⟨_, rfl⟩
                            rw [hNB] at NM
                            rw [hSB] at SC
                            rw [hRB] at RG
                            have HB3 := Lib.hid (And.intro hNB (And.intro hSB hRB))
                            clear hNB hSB hRB
                            go_upto_region 21 with (first
                              | refine wpList_load_mid_w (by first | rfl | kernel_rfl) 30 _ rfl g 3 rfl [.int .i64 from_, .int .i64 to_] _ (span_range KK.out.hd rfl) Tryz.underlying30 rfl (by kernel_rfl) ?_
                              | (go_at_call 72; refine (NM _).mono ?_; rintro e wn ⟨rfl, rfl⟩)
                              | (go_at_call 73; refine (SC _).mono ?_; rintro e wn ⟨rfl, dn⟩; have KK := Lib.hid (KK.out.below dn); clear dn c0 c7; have c0 := (wi_cells KK.out.hd rfl).c0; have c7 := (wi_cells KK.out.hd rfl).c7; simp only at c0 c7)
                              | (go_at_call 74; refine (RG _ KK.out.b).mono ?_; rintro e wn ⟨rfl, dn⟩; have KK := Lib.hid (KK.out.below dn); clear dn c0; have c0 := (wi_cells KK.out.hd rfl).c0; simp only at c0))
                            cases NB
                            · have HF := Lib.hid (HN.out (.inr (fun h => by rw [HOT.out] at h; obtain ⟨_, _, h3, h4⟩ := h; obtain ⟨e1, e2, e3⟩ := HB3.out; simp only at h3; rw [(h3 trivial).1] at e1; cases e1)))
                              go_wp2_with fail
                              go_ret
                              exact ⟨by rw [HF.out]; rfl, by first | exact KK.out.b | (rw [hg]; exact KK.out.b)⟩
                            · cases SB
                              · have HF := Lib.hid (HN.out (.inr (fun h => by rw [HOT.out] at h; obtain ⟨_, _, h3, h4⟩ := h; obtain ⟨e1, e2, e3⟩ := HB3.out; simp only at h3; rw [(h3 trivial).2] at e2; cases e2)))
                                go_wp2_with fail
                                go_ret
                                exact ⟨by rw [HF.out]; rfl, by first | exact KK.out.b | (rw [hg]; exact KK.out.b)⟩
                              · cases RB
                                · have HF := Lib.hid (HN.out (.inr (fun h => by rw [HOT.out] at h; obtain ⟨_, _, h3, h4⟩ := h; obtain ⟨e1, e2, e3⟩ := HB3.out; rw [decide_eq_true h4] at e3; cases e3)))
                                  go_wp2_with fail
                                  go_ret
                                  exact ⟨by rw [HF.out]; rfl, by first | exact KK.out.b | (rw [hg]; exact KK.out.b)⟩
                                · have HF := Lib.hid (HX.out.2 ⟨(by rw [HOA.out]; have q0' := q0.out; have q1' := q1.out; have q2' := q2.out; have q3' := q3.out; have q4' := q4.out; have q5' := q5.out; have q6' := q6.out; have q7' := q7.out; have q8' := q8.out;  unfold okA; simp only; refine ⟨?_, ?_, ?_, ?_, ?_, ?_, ?_, ?_, ?_, ?_, ?_⟩ <;> first | omega | trivial | exact .inl rfl | exact .inl trivial | simp), (by rw [HOT.out]; obtain ⟨e1, e2, e3⟩ := HB3.out; exact ⟨HPO.out, HRO.out, fun _ => ⟨e1, e2⟩, of_decide_eq_true e3⟩)⟩)
                                  go_wp2_with fail
                                  go_ret
                                  exact ⟨by rw [HF.out]; rfl, by first | exact KK.out.b | (rw [hg]; exact KK.out.b)⟩
                  · have HF := Lib.hid (HN.out (.inl (fun h => by rw [HOA.out] at h; unfold okA at h; simp only at h; omega)))
                    have g_mx : decide (time > 1099511627777) = true := decide_eq_true (by omega)
                    clear hx
                    go_wp2_with fail
                    go_ret
                    exact ⟨by rw [HF.out]; rfl, by first | exact KK.out.b | (rw [hg]; exact KK.out.b)⟩
                · have HF := Lib.hid (HN.out (.inl (fun h => by rw [HOA.out] at h; unfold okA at h; simp only at h; omega)))
                  have g_lt : decide (time < 0) = true := decide_eq_true (by omega)
                  clear hx
                  go_wp2_with fail
                  go_ret
                  exact ⟨by rw [HF.out]; rfl, by first | exact KK.out.b | (rw [hg]; exact KK.out.b)⟩
              · have HF := Lib.hid (HN.out (.inl (fun h => by rw [HOA.out] at h; unfold okA at h; simp only at h; omega)))
                have g_rn : decide ((rn : Int) > 16) = true := decide_eq_true (by omega)
                clear hx
                go_wp2_with fail
                go_ret
                exact ⟨by rw [HF.out]; rfl, by first | exact KK.out.b | (rw [hg]; exact KK.out.b)⟩
            · have HF := Lib.hid (HN.out (.inl (fun h => by rw [HOA.out] at h; unfold okA at h; simp only at h; omega)))
              have g_pn : decide ((pn : Int) > 200) = true := decide_eq_true (by omega)
              clear hx
              go_wp2_with fail
              go_ret
              exact ⟨by rw [HF.out]; rfl, by first | exact KK.out.b | (rw [hg]; exact KK.out.b)⟩
          · have HF := Lib.hid (HN.out (.inl (fun h => by rw [HOA.out] at h; unfold okA at h; simp only at h; omega)))
            have e_vecn : decide ((vec.n : Int) > 0) = true := decide_eq_true (by omega)
            have f_vecn : decide (0 < vec.n) = true := decide_eq_true (by omega)
            clear hx
            go_wp2_with fail
            go_ret
            exact ⟨by rw [HF.out]; rfl, by first | exact KK.out.b | (rw [hg]; exact KK.out.b)⟩
        · have HF := Lib.hid (HN.out (.inl (fun h => by rw [HOA.out] at h; unfold okA at h; simp only at h; omega)))
          have e_rn : decide ((rn : Int) > 0) = true := decide_eq_true (by omega)
          have f_rn : decide (0 < rn) = true := decide_eq_true (by omega)
          clear hx
          go_wp2_with fail
          go_ret
          exact ⟨by rw [HF.out]; rfl, by first | exact KK.out.b | (rw [hg]; exact KK.out.b)⟩
      · have HF := Lib.hid (HN.out (.inl (fun h => by rw [HOA.out] at h; unfold okA at h; simp only at h; omega)))
        have e_time : (time != 0) = true := bne_iff_ne.2 hx
        have f_time : (time == 0) = false := beq_eq_false_iff_ne.2 hx
        clear hx
        go_wp2_with fail
        go_ret
        exact ⟨by rw [HF.out]; rfl, by first | exact KK.out.b | (rw [hg]; exact KK.out.b)⟩
    · have HF := Lib.hid (HN.out (.inl (fun h => by rw [HOA.out] at h; unfold okA at h; simp only at h; omega)))
      have e_pn : decide ((pn : Int) > 0) = true := decide_eq_true (by omega)
      have f_pn : decide (0 < pn) = true := decide_eq_true (by omega)
      clear hx
      go_wp2_with fail
      go_ret
      exact ⟨by rw [HF.out]; rfl, by first | exact KK.out.b | (rw [hg]; exact KK.out.b)⟩
  · have HF := Lib.hid (HN.out (.inl (fun h => by rw [HOA.out] at h; unfold okA at h; simp only at h; have := of_decide_eq_true h2; omega)))
    go_wp2_with fail
    go_ret
    exact ⟨by rw [HF.out]; rfl, by first | exact KK.out.b | (rw [hg]; exact KK.out.b)⟩
  · have HF := Lib.hid (HN.out (.inl (fun h => by rw [HOA.out] at h; unfold okA at h; simp only at h; have := of_decide_eq_true h3; omega)))
    go_wp2_with fail
    go_ret
    exact ⟨by rw [HF.out]; rfl, by first | exact KK.out.b | (rw [hg]; exact KK.out.b)⟩
end
end Go.Proofs.YtglabahbklpocaaGreat
