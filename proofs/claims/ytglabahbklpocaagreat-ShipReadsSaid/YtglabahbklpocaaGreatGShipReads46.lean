/- The reference's Read of a record: what it hands out is new. A list that grows by append, in a row of its own, from any place of the row on. -/
import Derived.Test.YtglabahbklpocaaGreatGShipReads45
import Derived.Test.YtglabahbklpocaaGreatGShipReads10
namespace Go.Proofs.YtglabahbklpocaaGreat
section
open Go.RowKit Go.Deep
set_option maxRecDepth 100000
set_option linter.unusedVariables false
set_option linter.unusedSimpArgs false
attribute [local go_sem ↓] Go.wp_at_zero Go.wp_at_succ
set_option maxHeartbeats 8000000 in
theorem rsread_f (s : ByteArray) (w : World) (hs : s.size ≤ 1000000000) : Calls Tryz.prog 79 #[.string s] w fun e w' => ∃ d, e = .returned (.tuple #[rcVal (readR s).1 d, .int .i64 (readR s).2.2]) ∧ SlR w' d (readR s).2.1 ∧ (∀ x, d.a = some x → w.heap.size ≤ x.block) ∧ Below w.heap.size w w' := by
  have hok := r0_ok hs
  have k1 := Rdr.small_ok hok 2
  have k2 := preR_ok hok
  have hwf := hd_wf hok
  have HPRE : Hid (preR (r0 s) = if ((r0 s).small 2).1 = 1 then (⟨((r0 s).small 2).1, ((r0 s).small 2).2.text.1, (((r0 s).small 2).2.text.2.small 1099511627776).1, (((r0 s).small 2).2.text.2.small 1099511627776).2.int.1, 0, ⟨0, 0, 0⟩⟩, (((r0 s).small 2).2.text.2.small 1099511627776).2.int.2) else (⟨((r0 s).small 2).1, ⟨#[]⟩, ((((r0 s).small 2).2.small 3).2.small 1099511627776).1, 0, (((r0 s).small 2).2.small 3).1, ⟨0, 0, 0⟩⟩, ((((r0 s).small 2).2.small 3).2.small 1099511627776).2)) := rfl
  have HHD := Lib.hid (hdR_pre (r0 s))
  have LR := fun R h => tv_read2 (s := s) (R := R) h
  have HV0 : Hid (rrOk s → readR s = ((hdR (r0 s)).1, (tkV (hdR (r0 s)).2).1, 0)) := fun h => readR_pos h
  have HV1 : Hid (¬ rrOk s → readR s = (rc0O, [], 10)) := fun h => readR_neg h
  generalize readR s = V at *
  generalize tkV (hdR (r0 s)).2 = TKV at *
  go_enter Tryz.func79, Tryz.ntmps79
  go_upto_region 1 with fail
  generalize hw1 : World.alloc _ _ = w1
  have K1 : Kn w.heap.size w [(w.heap.size, rcO rc0O Sl0)] w1 := by rw [← hw1]; exact (Kn.start w).new' rfl (rcO rc0O Sl0)
  clear hw1
  obtain ⟨p, hp⟩ : ∃ p, w.heap.size = p := ⟨_, rfl⟩
  rw [hp] at K1 ⊢
  have hpl := K1.lt (p, rcO rc0O Sl0) (by simp)
  simp only at hpl
  go_upto_region 2 with fail
  generalize hw2 : World.alloc _ _ = w2
  have K2 : Kn p w [(w1.heap.size, rdO 105 (r0 s)), (p, rcO rc0O Sl0)] w2 := by rw [← hw2]; exact K1.new (rdO 105 (r0 s))
  have KK : Hid (Kr 105 w1.heap.size w [(p, rcO rc0O Sl0)] (r0 s) w2) := ⟨K2.hd, by intro x hx; simp only [List.mem_singleton] at hx; subst hx; exact ⟨by simp only; omega, K2.at_ (p, rcO rc0O Sl0) (by simp)⟩, But.of_below (by rw [hp]; exact K2.b)⟩
  clear hw2 K1 K2
  obtain ⟨g, hg⟩ : ∃ g, w1.heap.size = g := ⟨_, rfl⟩
  rw [hg] at KK hpl ⊢
  go_upto_region 3 with (first | (go_at_call 75; refine (rrdr_small g (r0 s) 2 _ KK.out.rd hok (by decide) (by decide)).mono ?_; rintro e w4 ⟨rfl, hn, dn⟩; have KK := Lib.hid (KK.out.step hn dn); clear hn dn))
  have hql : g < w4.heap.size := KK.out.rd.lt
  generalize hw5 : World.alloc _ _ = w5
  have KK := Lib.hid (show Kr 105 g w [(w4.heap.size, rcO ⟨((r0 s).small 2).1, ⟨#[]⟩, 0, 0, 0, ⟨0, 0, 0⟩⟩ Sl0), (p, rcO rc0O Sl0)] ((r0 s).small 2).2 w5 by rw [← hw5]; exact KK.out.new' rfl (rcO ⟨((r0 s).small 2).1, ⟨#[]⟩, 0, 0, 0, ⟨0, 0, 0⟩⟩ Sl0))
  clear hw5
  obtain ⟨q, hq⟩ : ∃ q, w4.heap.size = q := ⟨_, rfl⟩
  rw [hq] at KK hql ⊢
  have hA : Apart q [(p, rcO rc0O Sl0)] := ⟨by simp only; omega, trivial⟩
  generalize (r0 s).small 2 = SM at *
  obtain ⟨kind, R1⟩ := SM
  simp only at KK k1 HPRE
  have c0 := KK.out.cell (k := q) (o := rcO ⟨kind, ⟨#[]⟩, 0, 0, 0, ⟨0, 0, 0⟩⟩ Sl0) (by simp) (j := 0) (v := .int .i64 kind) rfl
  clear hg hq
  go_upto_if 14 with fail
  go_cut [14] (fun _ wx => Kr 105 g w [(q, rcO (preR (r0 s)).1 Sl0), (p, rcO rc0O Sl0)] (preR (r0 s)).2 wx)
  case first =>
    by_cases hk : kind = 1
    · have t1 : (kind == 1) = true := beq_iff_eq.2 hk
      have HPRE := Lib.hid (HPRE.out.trans (if_pos hk))
      clear hk c0
      have k3 := Rdr.text_ok k1.1
      have k4 := Rdr.small_ok k3.1 1099511627776
      have k5 := Rdr.int_ok k4.1
      go_upto_region 5 with (first | (go_at_call 77; refine (rrdr_text g _ _ KK.out.rd k1.1).mono ?_; rintro e wn ⟨rfl, hn, dn⟩; have KK := Lib.hid (KK.out.step hn dn); clear hn dn; have ⟨q1, f1⟩ := KK.out.cf (k := q) (o := rcO ⟨kind, ⟨#[]⟩, 0, 0, 0, ⟨0, 0, 0⟩⟩ Sl0) (by simp) 1 (v := .string ⟨#[]⟩) rfl))
      generalize hwx : World.setCell _ _ _ = wx
      clear q1 f1
      have KK := Lib.hid (show Kr 105 g w [(q, rcO ⟨kind, R1.text.1, 0, 0, 0, ⟨0, 0, 0⟩⟩ Sl0), (p, rcO rc0O Sl0)] _ wx by rw [← hwx]; exact KK.out.setCell hA (by omega) 1 _ _ rfl)
      clear hwx
      go_upto_region 6 with (first | (go_at_call 75; refine (rrdr_small g _ 1099511627776 _ KK.out.rd k3.1 (by decide) (by decide)).mono ?_; rintro e wn ⟨rfl, hn, dn⟩; have KK := Lib.hid (KK.out.step hn dn); clear hn dn; have ⟨q1, f1⟩ := KK.out.cf (k := q) (o := rcO ⟨kind, R1.text.1, 0, 0, 0, ⟨0, 0, 0⟩⟩ Sl0) (by simp) 2 (v := .int .i64 0) rfl))
      generalize hwx : World.setCell _ _ _ = wx
      clear q1 f1
      have KK := Lib.hid (show Kr 105 g w [(q, rcO ⟨kind, R1.text.1, (R1.text.2.small 1099511627776).1, 0, 0, ⟨0, 0, 0⟩⟩ Sl0), (p, rcO rc0O Sl0)] _ wx by rw [← hwx]; exact KK.out.setCell hA (by omega) 2 _ _ rfl)
      clear hwx
      go_wp2_with (first | (go_at_call 126; refine (rrdr_int g _ _ KK.out.rd k4.1).mono ?_; rintro e wn ⟨rfl, hn, dn⟩; have KK := Lib.hid (KK.out.step hn dn); clear hn dn; have ⟨q1, f1⟩ := KK.out.cf (k := q) (o := rcO ⟨kind, R1.text.1, (R1.text.2.small 1099511627776).1, 0, 0, ⟨0, 0, 0⟩⟩ Sl0) (by simp) 3 (v := .int .i64 0) rfl))
      go_meet
      rw [HPRE.out]
      exact KK.out.setCell hA (by omega) 3 _ _ rfl
    · have t1 : (kind == 1) = false := beq_eq_false_iff_ne.2 hk
      have HPRE := Lib.hid (HPRE.out.trans (if_neg hk))
      clear hk c0
      have k3 := Rdr.small_ok k1.1 3
      have k4 := Rdr.small_ok k3.1 1099511627776
      go_upto_region 8 with (first | (go_at_call 75; refine (rrdr_small g _ 3 _ KK.out.rd k1.1 (by decide) (by decide)).mono ?_; rintro e wn ⟨rfl, hn, dn⟩; have KK := Lib.hid (KK.out.step hn dn); clear hn dn; have ⟨q1, f1⟩ := KK.out.cf (k := q) (o := rcO ⟨kind, ⟨#[]⟩, 0, 0, 0, ⟨0, 0, 0⟩⟩ Sl0) (by simp) 4 (v := .int .i64 0) rfl))
      generalize hwx : World.setCell _ _ _ = wx
      clear q1 f1
      have KK := Lib.hid (show Kr 105 g w [(q, rcO ⟨kind, ⟨#[]⟩, 0, 0, (R1.small 3).1, ⟨0, 0, 0⟩⟩ Sl0), (p, rcO rc0O Sl0)] _ wx by rw [← hwx]; exact KK.out.setCell hA (by omega) 4 _ _ rfl)
      clear hwx
      go_wp2_with (first | (go_at_call 75; refine (rrdr_small g _ 1099511627776 _ KK.out.rd k3.1 (by decide) (by decide)).mono ?_; rintro e wn ⟨rfl, hn, dn⟩; have KK := Lib.hid (KK.out.step hn dn); clear hn dn; have ⟨q1, f1⟩ := KK.out.cf (k := q) (o := rcO ⟨kind, ⟨#[]⟩, 0, 0, (R1.small 3).1, ⟨0, 0, 0⟩⟩ Sl0) (by simp) 2 (v := .int .i64 0) rfl))
      go_meet
      rw [HPRE.out]
      exact KK.out.setCell hA (by omega) 2 _ _ rfl
  case rest =>
    have KK := Lib.hid hcut
    clear hcut HPRE k1 c0
    have TK := fun wx hx => rtake_any g (preR (r0 s)).2 wx hx k2.1
    have kt := rtakeV_ok k2.1
    rw [(take_same (preR (r0 s)).2).1] at TK
    have HT5 : Hid (okV (takeV (preR (r0 s)).2).1 = true → (rtakeV (preR (r0 s)).2).2 = (takeV (preR (r0 s)).2).2) := fun h => by rw [take_both h]
    generalize (rtakeV (preR (r0 s)).2).2 = R3 at *
    generalize preR (r0 s) = PR at *
    obtain ⟨rc, R2⟩ := PR
    simp only at KK TK HHD kt k2 HT5
    rw [HHD.out] at LR hwf HV0
    generalize takeV R2 = AS at *
    obtain ⟨A, R6⟩ := AS
    simp only at TK LR HV0 hwf kt HT5
    clear HHD
    have LR := LR R3 HT5.out
    have ktv := tvV_ok kt.1
    have LL := fun wx h => rtv_any2 g R3 wx h kt.1
    clear HT5
    generalize tvV R3 = TV at *
    obtain ⟨ds, R⟩ := TV
    simp only at LR ktv LL
    have HLR := Lib.hid LR
    clear LR
    unfold St.val at TK
    go_upto_region 10 with (first | (go_at_call 127; refine (TK _ KK.out.rd).mono ?_; rintro e wn ⟨rfl, hn, dn⟩; have KK := Lib.hid (KK.out.step hn dn); clear hn dn; have ⟨q5, f5⟩ := KK.out.cf (k := q) (o := rcO rc Sl0) (by simp) 5 (v := .int .i64 rc.st.clock) rfl; have ⟨q6, f6⟩ := KK.out.cf (k := q) (o := rcO rc Sl0) (by simp) 6 (v := .int .i64 rc.st.site) rfl; have ⟨q7, f7⟩ := KK.out.cf (k := q) (o := rcO rc Sl0) (by simp) 7 (v := .int .i64 rc.st.seq) rfl))
    generalize hwx : World.setCell _ _ _ = wx
    have KK := Lib.hid (show Kr 105 g w [(q, rcO { rc with st := A } Sl0), (p, rcO rc0O Sl0)] _ wx by rw [← hwx]; exact ((KK.out.setCell hA (by omega) 5 (.int .i64 A.clock) (rcO { rc with st := ⟨A.clock, rc.st.site, rc.st.seq⟩ } Sl0) rfl).setCell hA (by omega) 6 (.int .i64 A.site) (rcO { rc with st := ⟨A.clock, A.site, rc.st.seq⟩ } Sl0) rfl).setCell hA (by omega) 7 (.int .i64 A.seq) (rcO { rc with st := ⟨A.clock, A.site, A.seq⟩ } Sl0) rfl)
    clear hwx TK q5 q6 q7 f5 f6 f7
    generalize ({ rc with st := A } : Rc) = rd at *
    go_wp2_with fail
    refine (LL _ KK.out.rd).mono ?_
    rintro e wn ⟨a, k, cap, rfl, HS, hn, dn, HG⟩
    have hwl : q < _ := KK.out.lt (q, rcO rd Sl0) (by simp)
    have KK := Lib.hid (KK.out.step hn dn)
    have HS := Lib.hid (show SlR wn ⟨a, k, cap⟩ ds from ⟨HS.r, HS.h1, HS.h2⟩)
    clear hn dn LL
    have ⟨q8, f8⟩ := KK.out.cf (k := q) (o := rcO rd Sl0) (by simp) 8 (v := .slice none 0 0) rfl
    go_upto_region 11 with fail
    generalize hwx : World.setCell _ _ _ = wx
    have HS := Lib.hid (show SlR wx ⟨a, k, cap⟩ ds by rw [← hwx]; exact HS.out.far (fun p hp => by have := HG p hp; omega) _ _)
    have HGP : Hid (∀ x, a = some x → p ≤ x.block) := fun x hx => by have := HG x hx; omega
    have HG : Hid (∀ x, a = some x → x.block ≠ p) := fun x hx => by have := HG x hx; omega
    have KK := Lib.hid (show Kr 105 g w [(q, rcO rd ⟨a, k, cap⟩), (p, rcO rc0O Sl0)] _ wx by rw [← hwx]; exact KK.out.setCell hA (by omega) 8 _ _ rfl)
    clear hwx
    clear q8 f8
    have F1 := rrdr_end g R _ KK.out.rd ktv.1
    have C1 := fun wy hb => rscheck_any rd ⟨a, k, cap⟩ ds wy hwf (SlR.below (w := wx) HS.out hb)
    generalize chkR rd ds = E at *
    unfold rcVal at C1
    have hfin : R.fin = 0 ∨ R.fin = 10 := by unfold Rdr.fin; split <;> simp
    rcases hfin with hf | hf
    · rw [hf] at HLR F1
      by_cases hE : E = 0
      · have t1 : (E != 0) = false := bne_eq_false_iff_eq.2 hE
        have hok2 := HLR.out.1.1 ⟨rfl, hE⟩
        have HV := Lib.hid ((HV0.out hok2).trans (by rw [← HLR.out.2 hok2]))
        clear hE hok2
        go_wp2_with (first
          | (go_at_call 80; refine (F1).mono ?_; rintro e w8 ⟨rfl, dq⟩; have KK := Lib.hid (KK.out.step (dq.rdr KK.out.rd) dq.but); have HS := Lib.hid (HS.out.below dq.below); have C1 := C1 _ dq.below)
          | refine wpList_load_row_w (by rfl) 60 _ rfl q rfl 60 (rcA rd ⟨a, k, cap⟩) (0, 0) _ KK.out.hd Tryz.underlying60 rfl (by kernel_rfl) ?_
          | (go_at_call 71; refine (C1).mono ?_; rintro e w9 ⟨rfl, dn⟩; have KK := Lib.hid (KK.out.below dn); have HS := Lib.hid (HS.out.below dn))
          | refine wpList_load_row rfl 60 _ rfl q rfl 60 (rcA rd ⟨a, k, cap⟩) (0, 0) _ KK.out.hd Tryz.underlying60 rfl (by kernel_rfl) ?_
          | refine wpList_store_row rfl 60 _ _ rfl p (rcA rd ⟨a, k, cap⟩) rfl rfl 60 _ (KK.out.at_ (p, rcO rc0O Sl0) (by simp)).2 (by kernel_rfl) rfl (by simp [Value.oneCell', rcA]) ?_)
        have KF := Kr.setRow (KK.out.sub (m := [(p, rcO rc0O Sl0)]) (by simp)) trivial (by omega) (rcO rd ⟨a, k, cap⟩)
        have HS := Lib.hid (HS.out.farRow HG.out (rcA rd ⟨a, k, cap⟩))
        refine bodyPost_ret (v := .tuple #[rcVal rd ⟨a, k, cap⟩, .int .i64 0]) (res_cell_tmp rfl _ _ p 60 (rcA rd ⟨a, k, cap⟩) (0, 0) _ _ rfl rfl KF.hd Tryz.underlying60 rfl (by kernel_rfl)) rfl ⟨⟨a, k, cap⟩, by rw [HV.out], by rw [HV.out]; exact HS.out, (by first | exact HGP.out | (rw [hp]; exact HGP.out)), KF.belowB (by omega)⟩
      · have t1 : (E != 0) = true := bne_iff_ne.2 hE
        have HV := Lib.hid (HV1.out (fun h => hE (HLR.out.1.2 h).2))
        clear hE
        go_wp2_with (first
          | (go_at_call 80; refine (F1).mono ?_; rintro e w8 ⟨rfl, dq⟩; have KK := Lib.hid (KK.out.step (dq.rdr KK.out.rd) dq.but); have HS := Lib.hid (HS.out.below dq.below); have C1 := C1 _ dq.below)
          | refine wpList_load_row_w (by rfl) 60 _ rfl q rfl 60 (rcA rd ⟨a, k, cap⟩) (0, 0) _ KK.out.hd Tryz.underlying60 rfl (by kernel_rfl) ?_
          | (go_at_call 71; refine (C1).mono ?_; rintro e w9 ⟨rfl, dn⟩; have KK := Lib.hid (KK.out.below dn); have HS := Lib.hid (HS.out.below dn))
          | refine wpList_load_row rfl 60 _ rfl q rfl 60 (rcA rd ⟨a, k, cap⟩) (0, 0) _ KK.out.hd Tryz.underlying60 rfl (by kernel_rfl) ?_
          | refine wpList_store_row rfl 60 _ _ rfl p (rcA rc0O Sl0) rfl rfl 60 _ (KK.out.at_ (p, rcO rc0O Sl0) (by simp)).2 (by kernel_rfl) rfl (by simp [Value.oneCell', rcA]) ?_)
        have KF := Kr.setRow (KK.out.sub (m := [(p, rcO rc0O Sl0)]) (by simp)) trivial (by omega) (rcO rc0O Sl0)
        refine bodyPost_ret (v := .tuple #[rcVal rc0O Sl0, .int .i64 10]) (res_cell_tmp rfl _ _ p 60 (rcA rc0O Sl0) (0, 0) _ _ rfl rfl KF.hd Tryz.underlying60 rfl (by kernel_rfl)) rfl ⟨Sl0, by rw [HV.out], by rw [HV.out]; exact ⟨⟨rfl, .inl rfl⟩, Nat.le_refl _, by decide⟩, (by intro x hx; cases hx), KF.belowB (by omega)⟩
    · rw [hf] at HLR F1
      have HV := Lib.hid (HV1.out (fun h => by have := (HLR.out.1.2 h).1; cases this))
      go_wp2_with (first
        | (go_at_call 80; refine (F1).mono ?_; rintro e w8 ⟨rfl, dq⟩; have KK := Lib.hid (KK.out.step (dq.rdr KK.out.rd) dq.but); have HS := Lib.hid (HS.out.below dq.below); have C1 := C1 _ dq.below)
        | refine wpList_load_row_w (by rfl) 60 _ rfl q rfl 60 (rcA rd ⟨a, k, cap⟩) (0, 0) _ KK.out.hd Tryz.underlying60 rfl (by kernel_rfl) ?_
        | (go_at_call 71; refine (C1).mono ?_; rintro e w9 ⟨rfl, dn⟩; have KK := Lib.hid (KK.out.below dn); have HS := Lib.hid (HS.out.below dn))
        | refine wpList_load_row rfl 60 _ rfl q rfl 60 (rcA rd ⟨a, k, cap⟩) (0, 0) _ KK.out.hd Tryz.underlying60 rfl (by kernel_rfl) ?_
        | refine wpList_store_row rfl 60 _ _ rfl p (rcA rc0O Sl0) rfl rfl 60 _ (KK.out.at_ (p, rcO rc0O Sl0) (by simp)).2 (by kernel_rfl) rfl (by simp [Value.oneCell', rcA]) ?_)
      have KF := Kr.setRow (KK.out.sub (m := [(p, rcO rc0O Sl0)]) (by simp)) trivial (by omega) (rcO rc0O Sl0)
      refine bodyPost_ret (v := .tuple #[rcVal rc0O Sl0, .int .i64 10]) (res_cell_tmp rfl _ _ p 60 (rcA rc0O Sl0) (0, 0) _ _ rfl rfl KF.hd Tryz.underlying60 rfl (by kernel_rfl)) rfl ⟨Sl0, by rw [HV.out], by rw [HV.out]; exact ⟨⟨rfl, .inl rfl⟩, Nat.le_refl _, by decide⟩, (by intro x hx; cases hx), KF.belowB (by omega)⟩
end
end Go.Proofs.YtglabahbklpocaaGreat
namespace Go.Proofs.YtglabahbklpocaaGreat
section
open Go.RowKit Go.Deep
set_option maxRecDepth 100000
set_option linter.unusedVariables false
set_option linter.unusedSimpArgs false
/-- The slice at a, n elements long, lies in a row from some place on, has room there for cap, and holds l. -/
structure OffE {α : Type} (cs : α → List Value) (T : TypeId) (sz : Nat) (w : World) (a : Option Addr) (n cap : Nat) (l : List α) : Prop where
  len : l.length = n
  le : n ≤ cap
  max : cap ≤ maxLen
  row : (a = none ∧ cap = 0) ∨ ∃ g o cur, a = some ⟨g, o, none⟩ ∧ w.heap[g]? = some (.cells cur T (0, 0)) ∧ o + cap * sz ≤ cur.size ∧ (cur.toList.drop o).take (n * sz) = l.flatMap cs
section
variable {α : Type} {cs : α → List Value} {S T : TypeId} {sz by_ : Nat} {z : Value} {w w' : World} {B : Nat} {a : Option Addr} {n cap : Nat} {l : List α}
theorem offE_nil (w : World) : OffE cs T sz w none 0 0 [] := ⟨rfl, Nat.le_refl _, by unfold maxLen; omega, .inl ⟨rfl, rfl⟩⟩
theorem OffE.ofApp (h : AppE cs T sz w B a n cap l) : OffE cs T sz w a n cap l := by
  refine ⟨h.len, h.le, h.max, ?_⟩
  rcases h.row.2 with ⟨e, _⟩ | ⟨g, c, cur, e, _, hg, _, _, hs, ht⟩
  · simp only [Value.slice.injEq] at e
    exact .inl ⟨e.1, e.2.2⟩
  · simp only [Value.slice.injEq] at e
    refine .inr ⟨g, 0, cur, e.1, hg, by rw [Nat.zero_add, hs, e.2.2]; exact Nat.le_refl _, by rw [List.drop_zero]; exact ht⟩
theorem OffE.keep (h : OffE cs T sz w a n cap l) (hd : ∀ p, a = some p → w'.heap[p.block]? = w.heap[p.block]?) : OffE cs T sz w' a n cap l := by
  refine ⟨h.len, h.le, h.max, h.row.imp_right fun ⟨g, o, cur, e1, e2, e3⟩ => ⟨g, o, cur, e1, ?_, e3⟩⟩
  rw [hd _ e1]; exact e2
theorem OffE.lt (h : OffE cs T sz w a n cap l) : ∀ p, a = some p → p.block < w.heap.size := fun p hp => by
  rcases h.row with ⟨e, _⟩ | ⟨g, o, cur, e1, e2, _⟩
  · rw [e] at hp; cases hp
  · rw [e1] at hp
    cases hp
    exact (Array.getElem?_eq_some_iff.1 e2).1
theorem OffE.reads (E : ∀ x, (cs x).length = sz) (h : OffE cs T sz w a n cap l) : ReadsE cs sz w a n l := by
  refine ⟨h.len, ?_⟩
  rcases h.row with ⟨e, h0⟩ | ⟨g, o, cur, e1, e2, e3, e4⟩
  · left; have := h.le; omega
  · refine .inr ⟨g, o, e1, (Array.getElem?_eq_some_iff.1 e2).1, fun j x hj k u hk => ?_⟩
    have hl := h.len
    have hjl : j < l.length := (List.getElem?_eq_some_iff.1 hj).1
    have hks : k < sz := by have := (List.getElem?_eq_some_iff.1 hk).1; rwa [E] at this
    have hin : j * sz + k < n * sz := by
      have : (j + 1) * sz ≤ n * sz := Nat.mul_le_mul_right _ (by omega)
      rw [Nat.succ_mul] at this
      omega
    have h1 := flat_get cs sz E l j x hj k hks
    rw [← e4, List.getElem?_take, if_pos hin, List.getElem?_drop, hk] at h1
    rw [show o + j * sz + k = o + (j * sz + k) by omega]
    simp only [World.cell?, e2]
    simpa using h1
theorem run_append_roomO {P : Program} (w : World) (t ty e : TypeId) (i : TypeInfo) (ht : P.underlying t = some (.slice e)) (hi : P.info? e = some i)
    (g o sLen sCap : Nat) (cur : Array Value) (hg : w.heap[g]? = some (.cells cur e (0, 0)))
    (a : Addr) (m c : Nat) (news : List Value) (hl : news.length = m * i.size) (hnews : ∀ j u, news[j]? = some u → w.cell? (a.add j) = some u) (h1 : ∀ u ∈ news, u.oneCell' = true)
    (hroom : sLen + m ≤ sCap) (hfit : o + sLen * i.size + news.length ≤ cur.size) :
    (Builtin.append_ #[t, t] ty #[.slice (some ⟨g, o, none⟩) sLen sCap, .slice (some a) m c]).run P w =
      .ok (.slice (some ⟨g, o, none⟩) (sLen + m) sCap) (w.setRow g (cur.toList.take (o + sLen * i.size) ++ news ++ cur.toList.drop (o + sLen * i.size + news.length)).toArray) := by
  have hf := run_firstCells_some (P := P) w i.size m a m c news hl hnews
  have hst := run_storeCells_at P g (o + sLen * i.size) e news 0 cur w hg (by simpa using hfit) h1
  simp only [Nat.add_zero] at hst
  have hadd : (⟨g, o, none⟩ : Addr).add (sLen * i.size) = ⟨g, o + sLen * i.size, none⟩ := by unfold Addr.add; split <;> simp_all
  simp [Builtin.append_, run_underlying ht, sizeOf, typeInfo, hi, Builtin.lenOf, hroom, hf, hadd, hst]
theorem But.rowO (g : Nat) (w : World) (cs : Array Value) : But g w (w.setRow g cs) := ⟨rfl, rfl, rfl, by simp [World.setRow], fun i hi hne => setRow_other w g i cs (by simpa using hne)⟩
/-- What an append does: in the row itself, or in a new one. -/
theorem run_append_O (E : Ety cs S T sz by_ z) (ty : TypeId) (w : World) (h : OffE cs T sz w a n cap l) (b o c : Nat) (y : α) (hn : n + 1 ≤ 100000) (hy : CellsAt w b o (cs y)) :
    ∃ g' o' cap' w', (Builtin.append_ #[S, S] ty #[.slice a n cap, .slice (some ⟨b, o, none⟩) 1 c]).run Tryz.prog w = .ok (.slice (some ⟨g', o', none⟩) (n + 1) cap') w' ∧ OffE cs T sz w' (some ⟨g', o', none⟩) (n + 1) cap' (l ++ [y]) ∧
      ((a = some ⟨g', o', none⟩ ∧ But g' w w') ∨ (w.heap.size ≤ g' ∧ Below w.heap.size w w')) := by
  rcases h.row with ⟨rfl, h0⟩ | ⟨g, q, cur, rfl, hg, hsz, htk⟩
  · have hn0 : n = 0 := by have := h.le; omega
    subst hn0 h0
    obtain rfl : l = [] := List.eq_nil_of_length_eq_zero h.len
    have hA : AppE cs T sz w w.heap.size none 0 0 [] := appE_nil w _
    obtain ⟨a', cap', w', hrun, h1, h2, h3, h4⟩ := run_append_E E ty w hA (Nat.le_refl _) b o 1 c [y] hn rfl (fun j x hj => by
      cases j with
      | zero => simp at hj; subst hj; simpa using hy
      | succ j => simp at hj)
    rcases h1.row.2 with ⟨e, e0⟩ | ⟨g, c', cur, e, hB, hg, _, _, hs, ht⟩
    · omega
    · simp only [Value.slice.injEq] at e
      obtain ⟨rfl, _, rfl⟩ := e
      exact ⟨g, 0, cap', w', hrun, OffE.ofApp h1, .inr ⟨hB, h2⟩⟩
  · obtain ⟨i, hi, hii⟩ := Option.map_eq_some_iff.1 E.info
    simp only [Prod.mk.injEq] at hii
    obtain ⟨hz, hsize, hby⟩ := hii
    have hadd : ∀ (b o j : Nat), (⟨b, o, none⟩ : Addr).add j = ⟨b, o + j, none⟩ := fun b o j => by unfold Addr.add; split <;> simp_all
    have hnews : ∀ j u, (cs y)[j]? = some u → w.cell? ((⟨b, o, none⟩ : Addr).add j) = some u := fun j u hj => by rw [hadd]; exact hy j u hj
    have hly : (cs y).length = 1 * i.size := by rw [E.len, hsize, Nat.one_mul]
    have hll := flat_len E.len l
    have hl2 : (l.flatMap cs).length = n * sz := by rw [hll, h.len]
    by_cases hroom : n + 1 ≤ cap
    · have hfit : q + n * i.size + (cs y).length ≤ cur.size := by
        rw [hly, hsize]
        have : (n + 1) * sz ≤ cap * sz := Nat.mul_le_mul_right _ hroom
        rw [Nat.succ_mul] at this
        omega
      have hr := run_append_roomO w S ty T i E.hS hi g q n cap cur hg ⟨b, o, none⟩ 1 c (cs y) hly hnews (E.one y) hroom hfit
      refine ⟨g, q, cap, _, hr, ⟨by rw [List.length_append, h.len]; rfl, hroom, h.max, .inr ⟨g, q, _, rfl, setRow_heap w g cur _ T _ hg, ?_, ?_⟩⟩, .inl ⟨rfl, But.rowO g w _⟩⟩
      · simp only [List.size_toArray, List.length_append, List.length_take, List.length_drop, Array.length_toList]
        omega
      · rw [hsize] at *
        have hq : q + n * sz ≤ cur.toList.length := by rw [Array.length_toList]; omega
        rw [List.append_assoc, List.drop_append_of_le_length (by rw [List.length_take]; omega), List.drop_take, show q + n * sz - q = n * sz by omega, htk, List.flatMap_append, List.flatMap_cons, List.flatMap_nil, List.append_nil, ← List.append_assoc]
        have : (n + 1) * sz = (l.flatMap cs ++ cs y).length := by rw [List.length_append, hl2, E.len, Nat.succ_mul]
        rw [this]
        exact List.take_left
    · have holds : ∀ j u, (l.flatMap cs)[j]? = some u → w.cell? ((⟨g, q, none⟩ : Addr).add j) = some u := fun j u hj => by
        have hjl : j < n * sz := by have := (List.getElem?_eq_some_iff.1 hj).1; omega
        rw [hadd]
        rw [← htk, List.getElem?_take, if_pos hjl, List.getElem?_drop] at hj
        simp only [World.cell?, hg]
        simpa using hj
      have hfits : (n + 1) * i.bytes ≤ 140737488355328 := by
        have := E.bmax
        have : (n + 1) * by_ ≤ 100000 * 1000 := Nat.mul_le_mul hn this
        rw [hby]
        omega
      have hr := run_append_grow (P := Tryz.prog) w S ty T i z E.hS hi hz ⟨g, q, none⟩ n cap (l.flatMap cs) (by rw [hl2, hsize]) holds ⟨b, o, none⟩ 1 c (cs y) hly hnews (by omega) (by omega) (growslice_fits (by omega) hfits)
      have hge := grownCap_ge w (n + 1) cap T
      have hcm : grownCap w (n + 1) cap T ≤ maxLen := grownCap_le_maxLen w (n + 1) cap T (by unfold maxLen; omega)
      refine ⟨w.heap.size, 0, _, _, hr, ⟨by rw [List.length_append, h.len]; rfl, hge, hcm, .inr ⟨w.heap.size, 0, _, rfl, heap_alloc_new w.drew _, ?_, ?_⟩⟩, .inr ⟨Nat.le_refl _, rfl, rfl, rfl, by simp, fun k hk => Below.heap_alloc w.drew _ k hk⟩⟩
      · simp only [Array.size_append, List.size_toArray, size_zeroCells, E.hz, hl2, hly, hsize, Nat.zero_add, ← Nat.add_mul]
        apply Nat.mul_le_mul_right
        omega
      · simp only [Array.toList_append, List.drop_zero]
        have : (n + 1) * sz = (l.flatMap cs ++ cs y).length := by rw [List.length_append, hl2, E.len, Nat.succ_mul]
        rw [this, List.flatMap_append, List.flatMap_cons, List.flatMap_nil, List.append_nil]
        exact List.take_left
theorem wpList_append_O (E : Ety cs S T sz by_ z) {ops : Array Oper} {rest : List Oper} {o : Oper} {act : Act} {Q : Exit → Act → World → Prop} (hgd : o.guard = none) (s x : Operand)
    (ho : o.op = .call { callee := .builtin .append, args := #[s, x], argTypes := #[S, S] }) (w : World) (a : Option Addr) (n cap : Nat) (l : List α) (hs : act.eval s = .slice a n cap) (h : OffE cs T sz w a n cap l) (hn : n < 100000)
    (g : Nat) (c : Nat) (y : α) (hx : act.eval x = .slice (some ⟨g, 0, none⟩) 1 c) (hy : CellsAt w g 0 (cs y))
    (hK : ∀ g' o' cap' w', OffE cs T sz w' (some ⟨g', o', none⟩) (n + 1) cap' (l ++ [y]) → ((a = some ⟨g', o', none⟩ ∧ But g' w w') ∨ (w.heap.size ≤ g' ∧ Below w.heap.size w w')) → wpList Tryz.prog ops Q rest (act.put o.dst (.slice (some ⟨g', o', none⟩) (n + 1) cap')) w') : wpList Tryz.prog ops Q (o :: rest) act w := by
  refine wpList_plain hgd fun K hK' => ?_
  obtain ⟨g', o', cap', w', hrun, h1, h2⟩ := run_append_O E o.type w h g 0 c y (by omega) hy
  unfold Oper.wp
  simp [execOp, ho, resolve, invoke, builtin, hs, hx, hrun, Result.andThen]
  exact hK' _ _ (hK g' o' cap' w' h1 h2)
end
end
end Go.Proofs.YtglabahbklpocaaGreat
