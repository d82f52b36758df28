/- The reference's Read of records. -/
import Derived.Test.YtkonflbgkaflaaaGSampleReads46
import Derived.Test.YtkonflbgkaflaaaGSampleReads49
namespace Go.Proofs.Ytkonflbgkaflaaa
section
open Go.RowKit Go.Deep
set_option maxRecDepth 100000
set_option linter.unusedVariables false
set_option linter.unusedSimpArgs false
attribute [local go_sem ↓] Go.wp_at_zero Go.wp_at_succ
theorem tv_read2 {s : ByteArray} {R : Rdr} (h : okV (hdR (r0 s)).1.st = true → R = (hdR (r0 s)).2) : (((tvV R).2.fin = 0 ∧ chkR (hdR (r0 s)).1 (tvV R).1 = 0) ↔ rrOk s) ∧ (rrOk s → (tvV R).1 = (tkV (hdR (r0 s)).2).1) := by
  have t := tv_read s
  by_cases hok : okV (hdR (r0 s)).1.st = true
  · rw [h hok]
    refine ⟨⟨fun x => t.1.1 ⟨x.1, (chkR_iff _ _).1 x.2⟩, fun x => ?_⟩, t.2⟩
    have y := t.1.2 x
    exact ⟨y.1, chkR_0 y.2⟩
  · have hno : ¬ rrOk s := fun x => hok x.2.2.1
    exact ⟨⟨fun x => absurd ((chkR_iff _ _).1 x.2).2.1 hok, fun x => absurd x hno⟩, fun x => absurd x hno⟩
set_option maxHeartbeats 8000000 in
theorem rsread_any (s : ByteArray) (w : World) (hs : s.size ≤ 1000000000) : Calls Try.prog 31 #[.string s] w fun e w' => ∃ d, e = .returned (.tuple #[rcVal (readR s).1 d, .int .i64 (readR s).2.2]) ∧ SlR w' d (readR s).2.1 ∧ Below w.heap.size w w' := by
  have hok := r0_ok hs
  have k1 := Rdr.small_ok hok 2
  have k2 := preR_ok hok
  have hwf := hd_wf hok
  have HPRE : Hid (preR (r0 s) = if ((r0 s).small 2).1 = 1 then (⟨((r0 s).small 2).1, ((r0 s).small 2).2.text.1, (((r0 s).small 2).2.text.2.small 1099511627776).1, (((r0 s).small 2).2.text.2.small 1099511627776).2.int.1, 0, ⟨0, 0, 0⟩⟩, (((r0 s).small 2).2.text.2.small 1099511627776).2.int.2) else (⟨((r0 s).small 2).1, ⟨#[]⟩, ((((r0 s).small 2).2.small 3).2.small 1099511627776).1, 0, (((r0 s).small 2).2.small 3).1, ⟨0, 0, 0⟩⟩, ((((r0 s).small 2).2.small 3).2.small 1099511627776).2)) := rfl
  have HHD := Lib.hid (hdR_pre (r0 s))
  have LR := fun R h => tv_read2 (s := s) (R := R) h
  have HV0 : Hid (rrOk s → readR s = ((hdR (r0 s)).1, (tkV (hdR (r0 s)).2).1, 0)) := fun h => readR_pos h
  have HV1 : Hid (¬ rrOk s → readR s = (rc0O, [], 10)) := fun h => readR_neg h
  generalize readR s = V at *
  generalize tkV (hdR (r0 s)).2 = TKV at *
  go_enter Try.func31, Try.ntmps31
  go_upto_region 1 with fail
  generalize hw1 : World.alloc _ _ = w1
  have K1 : Kn w.heap.size w [(w.heap.size, rcO rc0O Sl0)] w1 := by rw [← hw1]; exact (Kn.start w).new' rfl (rcO rc0O Sl0)
  clear hw1
  obtain ⟨p, hp⟩ : ∃ p, w.heap.size = p := ⟨_, rfl⟩
  rw [hp] at K1 ⊢
  have hpl := K1.lt (p, rcO rc0O Sl0) (by simp)
  simp only at hpl
  go_upto_region 2 with fail
  generalize hw2 : World.alloc _ _ = w2
  have K2 : Kn p w [(w1.heap.size, rdO 91 (r0 s)), (p, rcO rc0O Sl0)] w2 := by rw [← hw2]; exact K1.new (rdO 91 (r0 s))
  have KK : Hid (Kr 91 w1.heap.size w [(p, rcO rc0O Sl0)] (r0 s) w2) := ⟨K2.hd, by intro x hx; simp only [List.mem_singleton] at hx; subst hx; exact ⟨by simp only; omega, K2.at_ (p, rcO rc0O Sl0) (by simp)⟩, But.of_below (by rw [hp]; exact K2.b)⟩
  clear hw2 K1 K2
  obtain ⟨g, hg⟩ : ∃ g, w1.heap.size = g := ⟨_, rfl⟩
  rw [hg] at KK hpl ⊢
  go_upto_region 3 with (first | (go_at_call 69; refine (rrdr_small g (r0 s) 2 _ KK.out.rd hok (by decide) (by decide)).mono ?_; rintro e w4 ⟨rfl, hn, dn⟩; have KK := Lib.hid (KK.out.step hn dn); clear hn dn))
  have hql : g < w4.heap.size := KK.out.rd.lt
  generalize hw5 : World.alloc _ _ = w5
  have KK := Lib.hid (show Kr 91 g w [(w4.heap.size, rcO ⟨((r0 s).small 2).1, ⟨#[]⟩, 0, 0, 0, ⟨0, 0, 0⟩⟩ Sl0), (p, rcO rc0O Sl0)] ((r0 s).small 2).2 w5 by rw [← hw5]; exact KK.out.new' rfl (rcO ⟨((r0 s).small 2).1, ⟨#[]⟩, 0, 0, 0, ⟨0, 0, 0⟩⟩ Sl0))
  clear hw5
  obtain ⟨q, hq⟩ : ∃ q, w4.heap.size = q := ⟨_, rfl⟩
  rw [hq] at KK hql ⊢
  have hA : Apart q [(p, rcO rc0O Sl0)] := ⟨by simp only; omega, trivial⟩
  generalize (r0 s).small 2 = SM at *
  obtain ⟨kind, R1⟩ := SM
  simp only at KK k1 HPRE
  have c0 := KK.out.cell (k := q) (o := rcO ⟨kind, ⟨#[]⟩, 0, 0, 0, ⟨0, 0, 0⟩⟩ Sl0) (by simp) (j := 0) (v := .int .i64 kind) rfl
  clear hg hq
  go_upto_if 14 with fail
  go_cut [14] (fun _ wx => Kr 91 g w [(q, rcO (preR (r0 s)).1 Sl0), (p, rcO rc0O Sl0)] (preR (r0 s)).2 wx)
  case first =>
    by_cases hk : kind = 1
    · have t1 : (kind == 1) = true := beq_iff_eq.2 hk
      have HPRE := Lib.hid (HPRE.out.trans (if_pos hk))
      clear hk c0
      have k3 := Rdr.text_ok k1.1
      have k4 := Rdr.small_ok k3.1 1099511627776
      have k5 := Rdr.int_ok k4.1
      go_upto_region 5 with (first | (go_at_call 70; refine (rrdr_text g _ _ KK.out.rd k1.1).mono ?_; rintro e wn ⟨rfl, hn, dn⟩; have KK := Lib.hid (KK.out.step hn dn); clear hn dn; have ⟨q1, f1⟩ := KK.out.cf (k := q) (o := rcO ⟨kind, ⟨#[]⟩, 0, 0, 0, ⟨0, 0, 0⟩⟩ Sl0) (by simp) 1 (v := .string ⟨#[]⟩) rfl))
      generalize hwx : World.setCell _ _ _ = wx
      clear q1 f1
      have KK := Lib.hid (show Kr 91 g w [(q, rcO ⟨kind, R1.text.1, 0, 0, 0, ⟨0, 0, 0⟩⟩ Sl0), (p, rcO rc0O Sl0)] _ wx by rw [← hwx]; exact KK.out.setCell hA (by omega) 1 _ _ rfl)
      clear hwx
      go_upto_region 6 with (first | (go_at_call 69; refine (rrdr_small g _ 1099511627776 _ KK.out.rd k3.1 (by decide) (by decide)).mono ?_; rintro e wn ⟨rfl, hn, dn⟩; have KK := Lib.hid (KK.out.step hn dn); clear hn dn; have ⟨q1, f1⟩ := KK.out.cf (k := q) (o := rcO ⟨kind, R1.text.1, 0, 0, 0, ⟨0, 0, 0⟩⟩ Sl0) (by simp) 2 (v := .int .i64 0) rfl))
      generalize hwx : World.setCell _ _ _ = wx
      clear q1 f1
      have KK := Lib.hid (show Kr 91 g w [(q, rcO ⟨kind, R1.text.1, (R1.text.2.small 1099511627776).1, 0, 0, ⟨0, 0, 0⟩⟩ Sl0), (p, rcO rc0O Sl0)] _ wx by rw [← hwx]; exact KK.out.setCell hA (by omega) 2 _ _ rfl)
      clear hwx
      go_wp2_with (first | (go_at_call 71; refine (rrdr_int g _ _ KK.out.rd k4.1).mono ?_; rintro e wn ⟨rfl, hn, dn⟩; have KK := Lib.hid (KK.out.step hn dn); clear hn dn; have ⟨q1, f1⟩ := KK.out.cf (k := q) (o := rcO ⟨kind, R1.text.1, (R1.text.2.small 1099511627776).1, 0, 0, ⟨0, 0, 0⟩⟩ Sl0) (by simp) 3 (v := .int .i64 0) rfl))
      go_meet
      rw [HPRE.out]
      exact KK.out.setCell hA (by omega) 3 _ _ rfl
    · have t1 : (kind == 1) = false := beq_eq_false_iff_ne.2 hk
      have HPRE := Lib.hid (HPRE.out.trans (if_neg hk))
      clear hk c0
      have k3 := Rdr.small_ok k1.1 3
      have k4 := Rdr.small_ok k3.1 1099511627776
      go_upto_region 8 with (first | (go_at_call 69; refine (rrdr_small g _ 3 _ KK.out.rd k1.1 (by decide) (by decide)).mono ?_; rintro e wn ⟨rfl, hn, dn⟩; have KK := Lib.hid (KK.out.step hn dn); clear hn dn; have ⟨q1, f1⟩ := KK.out.cf (k := q) (o := rcO ⟨kind, ⟨#[]⟩, 0, 0, 0, ⟨0, 0, 0⟩⟩ Sl0) (by simp) 4 (v := .int .i64 0) rfl))
      generalize hwx : World.setCell _ _ _ = wx
      clear q1 f1
      have KK := Lib.hid (show Kr 91 g w [(q, rcO ⟨kind, ⟨#[]⟩, 0, 0, (R1.small 3).1, ⟨0, 0, 0⟩⟩ Sl0), (p, rcO rc0O Sl0)] _ wx by rw [← hwx]; exact KK.out.setCell hA (by omega) 4 _ _ rfl)
      clear hwx
      go_wp2_with (first | (go_at_call 69; refine (rrdr_small g _ 1099511627776 _ KK.out.rd k3.1 (by decide) (by decide)).mono ?_; rintro e wn ⟨rfl, hn, dn⟩; have KK := Lib.hid (KK.out.step hn dn); clear hn dn; have ⟨q1, f1⟩ := KK.out.cf (k := q) (o := rcO ⟨kind, ⟨#[]⟩, 0, 0, (R1.small 3).1, ⟨0, 0, 0⟩⟩ Sl0) (by simp) 2 (v := .int .i64 0) rfl))
      go_meet
      rw [HPRE.out]
      exact KK.out.setCell hA (by omega) 2 _ _ rfl
  case rest =>
    have KK := Lib.hid hcut
    clear hcut HPRE k1 c0
    have TK := fun wx hx => rtake_any g (preR (r0 s)).2 wx hx k2.1
    have kt := rtakeV_ok k2.1
    rw [(take_same (preR (r0 s)).2).1] at TK
    have HT5 : Hid (okV (takeV (preR (r0 s)).2).1 = true → (rtakeV (preR (r0 s)).2).2 = (takeV (preR (r0 s)).2).2) := fun h => by rw [take_both h]
    generalize (rtakeV (preR (r0 s)).2).2 = R3 at *
    generalize preR (r0 s) = PR at *
    obtain ⟨rc, R2⟩ := PR
    simp only at KK TK HHD kt k2 HT5
    rw [HHD.out] at LR hwf HV0
    generalize takeV R2 = AS at *
    obtain ⟨A, R6⟩ := AS
    simp only at TK LR HV0 hwf kt HT5
    clear HHD
    have LR := LR R3 HT5.out
    have ktv := tvV_ok kt.1
    have LL := fun wx h => rtv_any2 g R3 wx h kt.1
    clear HT5
    generalize tvV R3 = TV at *
    obtain ⟨ds, R⟩ := TV
    simp only at LR ktv LL
    have HLR := Lib.hid LR
    clear LR
    unfold St.val at TK
    go_upto_region 10 with (first | (go_at_call 72; refine (TK _ KK.out.rd).mono ?_; rintro e wn ⟨rfl, hn, dn⟩; have KK := Lib.hid (KK.out.step hn dn); clear hn dn; have ⟨q5, f5⟩ := KK.out.cf (k := q) (o := rcO rc Sl0) (by simp) 5 (v := .int .i64 rc.st.clock) rfl; have ⟨q6, f6⟩ := KK.out.cf (k := q) (o := rcO rc Sl0) (by simp) 6 (v := .int .i64 rc.st.site) rfl; have ⟨q7, f7⟩ := KK.out.cf (k := q) (o := rcO rc Sl0) (by simp) 7 (v := .int .i64 rc.st.seq) rfl))
    generalize hwx : World.setCell _ _ _ = wx
    have KK := Lib.hid (show Kr 91 g w [(q, rcO { rc with st := A } Sl0), (p, rcO rc0O Sl0)] _ wx by rw [← hwx]; exact ((KK.out.setCell hA (by omega) 5 (.int .i64 A.clock) (rcO { rc with st := ⟨A.clock, rc.st.site, rc.st.seq⟩ } Sl0) rfl).setCell hA (by omega) 6 (.int .i64 A.site) (rcO { rc with st := ⟨A.clock, A.site, rc.st.seq⟩ } Sl0) rfl).setCell hA (by omega) 7 (.int .i64 A.seq) (rcO { rc with st := ⟨A.clock, A.site, A.seq⟩ } Sl0) rfl)
    clear hwx TK q5 q6 q7 f5 f6 f7
    generalize ({ rc with st := A } : Rc) = rd at *
    go_wp2_with fail
    refine (LL _ KK.out.rd).mono ?_
    rintro e wn ⟨a, k, cap, rfl, HS, hn, dn, HG⟩
    have hwl : q < _ := KK.out.lt (q, rcO rd Sl0) (by simp)
    have KK := Lib.hid (KK.out.step hn dn)
    have HS := Lib.hid (show SlR wn ⟨a, k, cap⟩ ds from ⟨HS.r, HS.h1, HS.h2⟩)
    clear hn dn LL
    have ⟨q8, f8⟩ := KK.out.cf (k := q) (o := rcO rd Sl0) (by simp) 8 (v := .slice none 0 0) rfl
    go_upto_region 11 with fail
    generalize hwx : World.setCell _ _ _ = wx
    have HS := Lib.hid (show SlR wx ⟨a, k, cap⟩ ds by rw [← hwx]; exact HS.out.far (fun p hp => by have := HG p hp; omega) _ _)
    have HG : Hid (∀ x, a = some x → x.block ≠ p) := fun x hx => by have := HG x hx; omega
    have KK := Lib.hid (show Kr 91 g w [(q, rcO rd ⟨a, k, cap⟩), (p, rcO rc0O Sl0)] _ wx by rw [← hwx]; exact KK.out.setCell hA (by omega) 8 _ _ rfl)
    clear hwx
    clear q8 f8
    have F1 := rrdr_end g R _ KK.out.rd ktv.1
    have C1 := fun wy hb => rscheck_any rd ⟨a, k, cap⟩ ds wy hwf (SlR.below (w := wx) HS.out hb)
    generalize chkR rd ds = E at *
    unfold rcVal at C1
    have hfin : R.fin = 0 ∨ R.fin = 10 := by unfold Rdr.fin; split <;> simp
    rcases hfin with hf | hf
    · rw [hf] at HLR F1
      by_cases hE : E = 0
      · have t1 : (E != 0) = false := bne_eq_false_iff_eq.2 hE
        have hok2 := HLR.out.1.1 ⟨rfl, hE⟩
        have HV := Lib.hid ((HV0.out hok2).trans (by rw [← HLR.out.2 hok2]))
        clear hE hok2
        go_wp2_with (first
          | (go_at_call 74; refine (F1).mono ?_; rintro e w8 ⟨rfl, dq⟩; have KK := Lib.hid (KK.out.step (dq.rdr KK.out.rd) dq.but); have HS := Lib.hid (HS.out.below dq.below); have C1 := C1 _ dq.below)
          | refine wpList_load_row_w (by rfl) 26 _ rfl q rfl 26 (rcA rd ⟨a, k, cap⟩) (0, 0) _ KK.out.hd Try.underlying26 rfl (by kernel_rfl) ?_
          | (go_at_call 17; refine (C1).mono ?_; rintro e w9 ⟨rfl, dn⟩; have KK := Lib.hid (KK.out.below dn); have HS := Lib.hid (HS.out.below dn))
          | refine wpList_load_row rfl 26 _ rfl q rfl 26 (rcA rd ⟨a, k, cap⟩) (0, 0) _ KK.out.hd Try.underlying26 rfl (by kernel_rfl) ?_
          | refine wpList_store_row rfl 26 _ _ rfl p (rcA rd ⟨a, k, cap⟩) rfl rfl 26 _ (KK.out.at_ (p, rcO rc0O Sl0) (by simp)).2 (by kernel_rfl) rfl (by simp [Value.oneCell', rcA]) ?_)
        have KF := Kr.setRow (KK.out.sub (m := [(p, rcO rc0O Sl0)]) (by simp)) trivial (by omega) (rcO rd ⟨a, k, cap⟩)
        have HS := Lib.hid (HS.out.farRow HG.out (rcA rd ⟨a, k, cap⟩))
        refine bodyPost_ret (v := .tuple #[rcVal rd ⟨a, k, cap⟩, .int .i64 0]) (res_cell_tmp rfl _ _ p 26 (rcA rd ⟨a, k, cap⟩) (0, 0) _ _ rfl rfl KF.hd Try.underlying26 rfl (by kernel_rfl)) rfl ⟨⟨a, k, cap⟩, by rw [HV.out], by rw [HV.out]; exact HS.out, KF.belowB (by omega)⟩
      · have t1 : (E != 0) = true := bne_iff_ne.2 hE
        have HV := Lib.hid (HV1.out (fun h => hE (HLR.out.1.2 h).2))
        clear hE
        go_wp2_with (first
          | (go_at_call 74; refine (F1).mono ?_; rintro e w8 ⟨rfl, dq⟩; have KK := Lib.hid (KK.out.step (dq.rdr KK.out.rd) dq.but); have HS := Lib.hid (HS.out.below dq.below); have C1 := C1 _ dq.below)
          | refine wpList_load_row_w (by rfl) 26 _ rfl q rfl 26 (rcA rd ⟨a, k, cap⟩) (0, 0) _ KK.out.hd Try.underlying26 rfl (by kernel_rfl) ?_
          | (go_at_call 17; refine (C1).mono ?_; rintro e w9 ⟨rfl, dn⟩; have KK := Lib.hid (KK.out.below dn); have HS := Lib.hid (HS.out.below dn))
          | refine wpList_load_row rfl 26 _ rfl q rfl 26 (rcA rd ⟨a, k, cap⟩) (0, 0) _ KK.out.hd Try.underlying26 rfl (by kernel_rfl) ?_
          | refine wpList_store_row rfl 26 _ _ rfl p (rcA rc0O Sl0) rfl rfl 26 _ (KK.out.at_ (p, rcO rc0O Sl0) (by simp)).2 (by kernel_rfl) rfl (by simp [Value.oneCell', rcA]) ?_)
        have KF := Kr.setRow (KK.out.sub (m := [(p, rcO rc0O Sl0)]) (by simp)) trivial (by omega) (rcO rc0O Sl0)
        refine bodyPost_ret (v := .tuple #[rcVal rc0O Sl0, .int .i64 10]) (res_cell_tmp rfl _ _ p 26 (rcA rc0O Sl0) (0, 0) _ _ rfl rfl KF.hd Try.underlying26 rfl (by kernel_rfl)) rfl ⟨Sl0, by rw [HV.out], by rw [HV.out]; exact ⟨⟨rfl, .inl rfl⟩, Nat.le_refl _, by decide⟩, KF.belowB (by omega)⟩
    · rw [hf] at HLR F1
      have HV := Lib.hid (HV1.out (fun h => by have := (HLR.out.1.2 h).1; cases this))
      go_wp2_with (first
        | (go_at_call 74; refine (F1).mono ?_; rintro e w8 ⟨rfl, dq⟩; have KK := Lib.hid (KK.out.step (dq.rdr KK.out.rd) dq.but); have HS := Lib.hid (HS.out.below dq.below); have C1 := C1 _ dq.below)
        | refine wpList_load_row_w (by rfl) 26 _ rfl q rfl 26 (rcA rd ⟨a, k, cap⟩) (0, 0) _ KK.out.hd Try.underlying26 rfl (by kernel_rfl) ?_
        | (go_at_call 17; refine (C1).mono ?_; rintro e w9 ⟨rfl, dn⟩; have KK := Lib.hid (KK.out.below dn); have HS := Lib.hid (HS.out.below dn))
        | refine wpList_load_row rfl 26 _ rfl q rfl 26 (rcA rd ⟨a, k, cap⟩) (0, 0) _ KK.out.hd Try.underlying26 rfl (by kernel_rfl) ?_
        | refine wpList_store_row rfl 26 _ _ rfl p (rcA rc0O Sl0) rfl rfl 26 _ (KK.out.at_ (p, rcO rc0O Sl0) (by simp)).2 (by kernel_rfl) rfl (by simp [Value.oneCell', rcA]) ?_)
      have KF := Kr.setRow (KK.out.sub (m := [(p, rcO rc0O Sl0)]) (by simp)) trivial (by omega) (rcO rc0O Sl0)
      refine bodyPost_ret (v := .tuple #[rcVal rc0O Sl0, .int .i64 10]) (res_cell_tmp rfl _ _ p 26 (rcA rc0O Sl0) (0, 0) _ _ rfl rfl KF.hd Try.underlying26 rfl (by kernel_rfl)) rfl ⟨Sl0, by rw [HV.out], by rw [HV.out]; exact ⟨⟨rfl, .inl rfl⟩, Nat.le_refl _, by decide⟩, KF.belowB (by omega)⟩
end
end Go.Proofs.Ytkonflbgkaflaaa
