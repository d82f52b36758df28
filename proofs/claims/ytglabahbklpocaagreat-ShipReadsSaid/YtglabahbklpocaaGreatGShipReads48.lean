/- The reference's Read of messages that ask, that have a vector, or points. -/
import Derived.Test.YtglabahbklpocaaGreatGShipReads45
namespace Go.Proofs.YtglabahbklpocaaGreat
section
open Go.RowKit Go.Deep
set_option maxRecDepth 100000
set_option linter.unusedVariables false
set_option linter.unusedSimpArgs false
attribute [local go_sem ↓] Go.wp_at_zero Go.wp_at_succ
set_option maxHeartbeats 16000000 in
theorem rread3_any (s : ByteArray) (w : World) (hs : s.size ≤ 1000000000) (hk : ((r0 s).small 7).1 = 3) : Calls Tryz.prog 18 #[.string s] w fun e w' => ∃ (x : Wi) (E : Int), e = .returned (.tuple #[.agg x.arr, .int .i64 E]) ∧ Below w.heap.size w w' ∧ ((gd3 s ∧ E = 0 ∧ x = wi3 s) ∨ (¬ gd3 s ∧ E = 10 ∧ x = Wi0)) := by
  have hok := r0_ok hs
  obtain ⟨GD, HGD0⟩ : ∃ G, Hid (G = gd3 s) := ⟨_, rfl⟩
  obtain ⟨V, HV⟩ : ∃ G, Hid (G = wi3 s) := ⟨_, rfl⟩
  rw [← HGD0.out, ← HV.out]
  have HGD1 : Hid (GD ↔ (((id1 s).2.text.2.small 1099511627777).2.small 1099511627777).2.fin = 0 ∧ (nameV (id1 s).2.text.1 = true ∧ spanV ((id1 s).2.text.2.small 1099511627777).1 (((id1 s).2.text.2.small 1099511627777).2.small 1099511627777).1 = true)) := by show _ ↔ _; rw [HGD0.out]; exact gd3_iff hs hk
  have HV : Hid (V = ⟨3, (id1 s).1, (id1 s).2.text.1, ((id1 s).2.text.2.small 1099511627777).1, (((id1 s).2.text.2.small 1099511627777).2.small 1099511627777).1, Sl0, Sl0, Sl0, 0⟩) := HV.out
  have HI1 : Hid (id1 s = ((r0 s).small 7).2.small 1099511627776) := rfl
  clear HGD0
  generalize id1 s = I1 at *
  go_enter Tryz.func18, Tryz.ntmps18
  go_upto_region 1 with fail
  generalize hw1 : World.alloc _ _ = w1
  have K1 : Kn w.heap.size w [(w.heap.size, wiO Wi0)] w1 := by rw [← hw1]; exact (Kn.start w).new' rfl (wiO Wi0)
  clear hw1
  obtain ⟨p, hp⟩ : ∃ p, w.heap.size = p := ⟨_, rfl⟩
  rw [hp] at K1 ⊢
  have hpl := K1.lt (p, wiO Wi0) (by simp)
  simp only at hpl
  go_upto_region 2 with fail
  generalize hw2 : World.alloc _ _ = w2
  have K2 : Kn p w [(w1.heap.size, rdO 105 (r0 s)), (p, wiO Wi0)] w2 := by rw [← hw2]; exact K1.new (rdO 105 (r0 s))
  have KK : Hid (Kr 105 w1.heap.size w [(p, wiO Wi0)] (r0 s) w2) := ⟨K2.hd, by intro x hx; simp only [List.mem_singleton] at hx; subst hx; exact ⟨by simp only; omega, K2.at_ (p, wiO Wi0) (by simp)⟩, But.of_below (by rw [hp]; exact K2.b)⟩
  clear hw2 K1 K2
  obtain ⟨g, hg⟩ : ∃ g, w1.heap.size = g := ⟨_, rfl⟩
  rw [hg] at KK hpl ⊢
  have k1 := Rdr.small_ok hok 7
  go_upto_region 3 with (first | (go_at_call 75; refine (rrdr_small g (r0 s) 7 _ KK.out.rd hok (by decide) (by decide)).mono ?_; rintro e w7 ⟨rfl, hn, dn⟩; have KK := Lib.hid (KK.out.step hn dn); clear hn dn) | (refine wpList_store_row rfl 33 _ _ rfl _ (Wi.arr ⟨((r0 s).small 7).1, 0, ⟨#[]⟩, 0, 0, Sl0, Sl0, Sl0, 0⟩) rfl rfl 33 _ (heap_alloc_new _ _) (by kernel_rfl) rfl (wi_one _) ?_; rw [World.setRow_alloc_new]))
  have hl7 : g < w7.heap.size := KK.out.rd.lt
  have hid := small_range k1.1 (m := 1099511627776) (by decide)
  have k2 := Rdr.small_ok k1.1 1099511627776
  obtain ⟨R1, hR1⟩ : ∃ R, ((r0 s).small 7).2 = R := ⟨_, rfl⟩
  rw [hR1] at KK k1 k2 hid
  clear hk
  generalize hw8 : World.alloc _ _ = w8
  have KK := Lib.hid (show Kr 105 g w [(w7.heap.size, wiO ⟨3, 0, ⟨#[]⟩, 0, 0, Sl0, Sl0, Sl0, 0⟩), (p, wiO Wi0)] R1 w8 by rw [← hw8]; exact KK.out.new' rfl (wiO ⟨3, 0, ⟨#[]⟩, 0, 0, Sl0, Sl0, Sl0, 0⟩))
  clear hw8
  obtain ⟨q, hq⟩ : ∃ q, w7.heap.size = q := ⟨_, rfl⟩
  rw [hq] at KK hl7 ⊢
  have hA : Apart q [(p, wiO Wi0)] := ⟨by simp only; omega, trivial⟩
  go_upto_region 4 with (first | (go_at_call 75; refine (rrdr_small g _ 1099511627776 _ KK.out.rd k1.1 (by decide) (by decide)).mono ?_; rintro e w9 ⟨rfl, hn, dn⟩; have KK := Lib.hid (KK.out.step hn dn); clear hn dn; have ⟨q1, f1⟩ := KK.out.cf (k := q) (o := wiO ⟨3, 0, ⟨#[]⟩, 0, 0, Sl0, Sl0, Sl0, 0⟩) (by simp) 1 (v := .int .i64 0) rfl))
  generalize hwx : World.setCell _ _ _ = w10
  have KK := Lib.hid (show Kr 105 g w [(q, wiO ⟨3, (R1.small 1099511627776).1, ⟨#[]⟩, 0, 0, Sl0, Sl0, Sl0, 0⟩), (p, wiO Wi0)] _ w10 by rw [← hwx]; exact KK.out.setCell hA (by omega) 1 _ _ rfl)
  clear hwx q1 f1
  obtain ⟨ID, hID⟩ : ∃ I, (R1.small 1099511627776).1 = I := ⟨_, rfl⟩
  obtain ⟨R2, hR2⟩ : ∃ R, (R1.small 1099511627776).2 = R := ⟨_, rfl⟩
  rw [hID, hR2] at KK
  rw [hID] at hid
  rw [hR2] at k2
  have c0 := KK.out.cell (k := q) (o := wiO ⟨3, ID, ⟨#[]⟩, 0, 0, Sl0, Sl0, Sl0, 0⟩) (by simp) (j := 0) (v := .int .i64 3) rfl
  rw [hR1] at HI1
  obtain ⟨I1a, I1b⟩ := I1
  have e1 : I1a = ID := (congrArg Prod.fst HI1.out).trans hID
  have e2 : I1b = R2 := (congrArg Prod.snd HI1.out).trans hR2
  subst e1 e2
  have hss : I1b.s.size ≤ 1000000000 := by rw [k2.2, k1.2]; exact hs
  clear HI1 hID hR2
  simp only at HGD1 HV
  have k3 := Rdr.text_ok k2.1
  have k4 := Rdr.small_ok k3.1 1099511627777
  have k5 := Rdr.small_ok k4.1 1099511627777
  have hf1 := small_range k3.1 (m := 1099511627777) (by decide)
  have ht1 := small_range k4.1 (m := 1099511627777) (by decide)
  have hts := text_size k2.1
  go_upto_region 13 with (first | (go_at_call 77; refine (rrdr_text g _ _ KK.out.rd k2.1).mono ?_; rintro e w11 ⟨rfl, hn, dn⟩; have KK := Lib.hid (KK.out.step hn dn); clear hn dn; have ⟨q2, f2⟩ := KK.out.cf (k := q) (o := wiO ⟨3, I1a, ⟨#[]⟩, 0, 0, Sl0, Sl0, Sl0, 0⟩) (by simp) 2 (v := .string ⟨#[]⟩) rfl))
  generalize hwx : World.setCell _ _ _ = w12
  have KK := Lib.hid (show Kr 105 g w [(q, wiO ⟨3, I1a, I1b.text.1, 0, 0, Sl0, Sl0, Sl0, 0⟩), (p, wiO Wi0)] _ w12 by rw [← hwx]; exact KK.out.setCell hA (by omega) 2 _ _ rfl)
  clear hwx q2 f2 c0
  generalize I1b.text = TX at *
  obtain ⟨S, RT⟩ := TX
  simp only at KK HGD1 HV k3 k4 k5 hf1 ht1 hts
  go_upto_region 14 with (first | (go_at_call 75; refine (rrdr_small g _ 1099511627777 _ KK.out.rd k3.1 (by decide) (by decide)).mono ?_; rintro e w13 ⟨rfl, hn, dn⟩; have KK := Lib.hid (KK.out.step hn dn); clear hn dn; have ⟨q3, f3⟩ := KK.out.cf (k := q) (o := wiO ⟨3, I1a, S, 0, 0, Sl0, Sl0, Sl0, 0⟩) (by simp) 3 (v := .int .i64 0) rfl))
  generalize hwx : World.setCell _ _ _ = w14
  have KK := Lib.hid (show Kr 105 g w [(q, wiO ⟨3, I1a, S, (RT.small 1099511627777).1, 0, Sl0, Sl0, Sl0, 0⟩), (p, wiO Wi0)] _ w14 by rw [← hwx]; exact KK.out.setCell hA (by omega) 3 _ _ rfl)
  clear hwx q3 f3
  generalize RT.small 1099511627777 = SF at *
  obtain ⟨FR, RF1⟩ := SF
  simp only at KK HGD1 HV k4 k5 hf1 ht1
  go_upto_region 29 with (first | (go_at_call 75; refine (rrdr_small g _ 1099511627777 _ KK.out.rd k4.1 (by decide) (by decide)).mono ?_; rintro e w15 ⟨rfl, hn, dn⟩; have KK := Lib.hid (KK.out.step hn dn); clear hn dn; have ⟨q4, f4⟩ := KK.out.cf (k := q) (o := wiO ⟨3, I1a, S, FR, 0, Sl0, Sl0, Sl0, 0⟩) (by simp) 4 (v := .int .i64 0) rfl))
  generalize hwx : World.setCell _ _ _ = w16
  have KK := Lib.hid (show Kr 105 g w [(q, wiO ⟨3, I1a, S, FR, (RF1.small 1099511627777).1, Sl0, Sl0, Sl0, 0⟩), (p, wiO Wi0)] _ w16 by rw [← hwx]; exact KK.out.setCell hA (by omega) 4 _ _ rfl)
  clear hwx q4 f4
  generalize RF1.small 1099511627777 = ST at *
  obtain ⟨TO, RF⟩ := ST
  simp only at KK HGD1 HV k5 ht1
  have hoA : okA ⟨3, I1a, S, FR, TO, Sl0, Sl0, Sl0, 0⟩ := okA_min (K := 3) (by decide) hid rfl rfl (.inl rfl) (.inl rfl) ⟨.inr rfl, z40⟩ (.inl rfl) (.inr rfl)
  have HGD : Hid (GD ↔ RF.fin = 0 ∧ okA ⟨3, I1a, S, FR, TO, Sl0, Sl0, Sl0, 0⟩ ∧ okT ⟨3, I1a, S, FR, TO, Sl0, Sl0, Sl0, 0⟩ [] [] []) := ⟨fun h => ⟨(HGD1.out.1 h).1, hoA, by intro p hp; simp at hp, by intro p hp; simp at hp, fun _ => (HGD1.out.1 h).2, by decide +kernel⟩, fun h => HGD1.out.2 ⟨h.1, h.2.2.2.2.1 rfl⟩⟩
  have HWA := Lib.hid (wiAt_nil w16 ⟨3, I1a, S, FR, TO, Sl0, Sl0, Sl0, 0⟩ rfl rfl rfl ⟨by show -9223372036854775808 ≤ FR; omega, by show FR ≤ 9223372036854775807; omega⟩ ⟨by show -9223372036854775808 ≤ TO; omega, by show TO ≤ 9223372036854775807; omega⟩ (by show S.size ≤ 9223372036854775807; omega))
  have HFAR : Hid (FarW p ⟨3, I1a, S, FR, TO, Sl0, Sl0, Sl0, 0⟩ []) := ⟨far_sl0 _, far_sl0 _, far_sl0 _, by intro y hy; simp at hy⟩
  have kF := k5.1
  clear hoA HGD1 hf1 ht1 hts
  go_upto_region 29 with fail
  have F1 := fun wx h => rrdr_end g RF wx h kF
  have hfin : Rdr.fin RF = 0 ∨ Rdr.fin RF = 10 := by unfold Rdr.fin; split <;> simp
  rcases hfin with hf | hf
  · rw [hf] at F1
    by_cases hok2 : okA ⟨3, I1a, S, FR, TO, Sl0, Sl0, Sl0, 0⟩ ∧ okT ⟨3, I1a, S, FR, TO, Sl0, Sl0, Sl0, 0⟩ [] [] []
    · have CW := fun wx (h : WiAt wx ⟨3, I1a, S, FR, TO, Sl0, Sl0, Sl0, 0⟩ [] [] []) => rcheck_w h
      rw [chkW_0 hok2.1 hok2.2] at CW
      have HG := Lib.hid (HGD.out.2 ⟨hf, hok2⟩)
      clear hok2 hf
      go_wp2_with (first
        | (go_at_call 80; refine (F1 _ KK.out.rd).mono ?_; rintro e w20 ⟨rfl, dq⟩; have KK := Lib.hid (KK.out.step (dq.rdr KK.out.rd) dq.but); have HWA := Lib.hid (HWA.out.below dq.below))
        | (go_at_call 17; refine (CW _ HWA.out).mono ?_; rintro e w21 ⟨rfl, dn⟩; have KK := Lib.hid (KK.out.below dn); have HWA := Lib.hid (HWA.out.below dn); clear dn)
        | refine wpList_load_row_w (by rfl) 33 _ rfl q rfl 33 (Wi.arr ⟨3, I1a, S, FR, TO, Sl0, Sl0, Sl0, 0⟩) (0, 0) _ (KK.out.at_ (q, wiO ⟨3, I1a, S, FR, TO, Sl0, Sl0, Sl0, 0⟩) (by simp)).2 Tryz.underlying33 rfl (by kernel_rfl) ?_
        | refine wpList_load_row rfl 33 _ rfl q rfl 33 (Wi.arr ⟨3, I1a, S, FR, TO, Sl0, Sl0, Sl0, 0⟩) (0, 0) _ (KK.out.at_ (q, wiO ⟨3, I1a, S, FR, TO, Sl0, Sl0, Sl0, 0⟩) (by simp)).2 Tryz.underlying33 rfl (by kernel_rfl) ?_
        | refine wpList_store_row rfl 33 _ _ rfl p (Wi.arr ⟨3, I1a, S, FR, TO, Sl0, Sl0, Sl0, 0⟩) rfl rfl 33 _ (KK.out.at_ (p, wiO Wi0) (by simp)).2 (by kernel_rfl) rfl (wi_one _) ?_)
      have KF := Kr.setRow (KK.out.sub (m := [(p, wiO Wi0)]) (by simp)) trivial (by omega) (wiO ⟨3, I1a, S, FR, TO, Sl0, Sl0, Sl0, 0⟩)
      have HWF := Lib.hid (HWA.out.but HFAR.out (But.row p _ (Wi.arr ⟨3, I1a, S, FR, TO, Sl0, Sl0, Sl0, 0⟩)))
      refine bodyPost_ret (v := .tuple #[.agg (Wi.arr ⟨3, I1a, S, FR, TO, Sl0, Sl0, Sl0, 0⟩), .int .i64 0]) (res_cell_tmp rfl _ _ p 33 (Wi.arr ⟨3, I1a, S, FR, TO, Sl0, Sl0, Sl0, 0⟩) (0, 0) _ _ rfl rfl KF.hd Tryz.underlying33 rfl (by kernel_rfl)) rfl ⟨_, 0, rfl, KF.belowB (by omega), .inl ⟨HG.out, rfl, HV.out.symm⟩⟩
    · have CW := fun wx (h : WiAt wx ⟨3, I1a, S, FR, TO, Sl0, Sl0, Sl0, 0⟩ [] [] []) => rcheck_w h
      rw [chkW_1 hok2] at CW
      have HNG : Hid (¬ GD) := fun h => hok2 (HGD.out.1 h).2
      clear hok2 hf
      go_wp2_with (first
        | (go_at_call 80; refine (F1 _ KK.out.rd).mono ?_; rintro e w20 ⟨rfl, dq⟩; have KK := Lib.hid (KK.out.step (dq.rdr KK.out.rd) dq.but); have HWA := Lib.hid (HWA.out.below dq.below))
        | (go_at_call 17; refine (CW _ HWA.out).mono ?_; rintro e w21 ⟨rfl, dn⟩; have KK := Lib.hid (KK.out.below dn); clear dn)
        | refine wpList_load_row_w (by rfl) 33 _ rfl q rfl 33 (Wi.arr ⟨3, I1a, S, FR, TO, Sl0, Sl0, Sl0, 0⟩) (0, 0) _ (KK.out.at_ (q, wiO ⟨3, I1a, S, FR, TO, Sl0, Sl0, Sl0, 0⟩) (by simp)).2 Tryz.underlying33 rfl (by kernel_rfl) ?_
        | refine wpList_store_row rfl 33 _ _ rfl p Wi0.arr rfl rfl 33 _ (KK.out.at_ (p, wiO Wi0) (by simp)).2 (by kernel_rfl) rfl (wi_one _) ?_)
      have KF := Kr.setRow (KK.out.sub (m := [(p, wiO Wi0)]) (by simp)) trivial (by omega) (wiO Wi0)
      refine bodyPost_ret (v := .tuple #[.agg Wi0.arr, .int .i64 10]) (res_cell_tmp rfl _ _ p 33 Wi0.arr (0, 0) _ _ rfl rfl KF.hd Tryz.underlying33 rfl (by kernel_rfl)) rfl ⟨Wi0, 10, rfl, KF.belowB (by omega), .inr ⟨HNG.out, rfl, rfl⟩⟩
  · have HNG : Hid (¬ GD) := fun h => by have := (HGD.out.1 h).1; rw [hf] at this; cases this
    have CW := fun wx (h : WiAt wx ⟨3, I1a, S, FR, TO, Sl0, Sl0, Sl0, 0⟩ [] [] []) => rcheck_w h
    rw [hf] at F1
    clear hf
    go_wp2_with (first
      | (go_at_call 80; refine (F1 _ KK.out.rd).mono ?_; rintro e w20 ⟨rfl, dq⟩; have KK := Lib.hid (KK.out.step (dq.rdr KK.out.rd) dq.but); have HWA := Lib.hid (HWA.out.below dq.below))
      | (go_at_call 17; refine (CW _ HWA.out).mono ?_; rintro e w21 ⟨rfl, dn⟩; have KK := Lib.hid (KK.out.below dn); clear dn)
      | refine wpList_load_row_w (by rfl) 33 _ rfl q rfl 33 (Wi.arr ⟨3, I1a, S, FR, TO, Sl0, Sl0, Sl0, 0⟩) (0, 0) _ (KK.out.at_ (q, wiO ⟨3, I1a, S, FR, TO, Sl0, Sl0, Sl0, 0⟩) (by simp)).2 Tryz.underlying33 rfl (by kernel_rfl) ?_
      | refine wpList_store_row rfl 33 _ _ rfl p Wi0.arr rfl rfl 33 _ (KK.out.at_ (p, wiO Wi0) (by simp)).2 (by kernel_rfl) rfl (wi_one _) ?_)
    have KF := Kr.setRow (KK.out.sub (m := [(p, wiO Wi0)]) (by simp)) trivial (by omega) (wiO Wi0)
    refine bodyPost_ret (v := .tuple #[.agg Wi0.arr, .int .i64 10]) (res_cell_tmp rfl _ _ p 33 Wi0.arr (0, 0) _ _ rfl rfl KF.hd Tryz.underlying33 rfl (by kernel_rfl)) rfl ⟨Wi0, 10, rfl, KF.belowB (by omega), .inr ⟨HNG.out, rfl, rfl⟩⟩
set_option maxHeartbeats 16000000 in
theorem rread6_any (s : ByteArray) (w : World) (hs : s.size ≤ 1000000000) (hk : ((r0 s).small 7).1 = 6) : Calls Tryz.prog 18 #[.string s] w fun e w' => ∃ (x : Wi) (E : Int), e = .returned (.tuple #[.agg x.arr, .int .i64 E]) ∧ Below w.heap.size w w' ∧ ((gd6 s ∧ E = 0 ∧ ∃ d : Sl, x = ⟨6, (id1 s).1, ⟨#[]⟩, 0, 0, Sl0, Sl0, d, 0⟩ ∧ SlR w' d (v6 s).1) ∨ (¬ gd6 s ∧ E = 10 ∧ x = Wi0)) := by
  have hok := r0_ok hs
  obtain ⟨GD, HGD0⟩ : ∃ G, Hid (G = gd6 s) := ⟨_, rfl⟩
  obtain ⟨V1, HV1⟩ : ∃ G, Hid (G = (id1 s).1) := ⟨_, rfl⟩
  obtain ⟨V2, HV2⟩ : ∃ G, Hid (G = (v6 s).1) := ⟨_, rfl⟩
  rw [← HGD0.out, ← HV1.out, ← HV2.out]
  have HGD1 : Hid (GD ↔ (tvV (id1 s).2).2.fin = 0) := by show _ ↔ _; rw [HGD0.out]; exact gd6_iff hs hk
  have HV2 : Hid ((tvV (id1 s).2).2.fin = 0 → V2 = (tvV (id1 s).2).1) := fun h => by
    have h1 := (fin0 (tvV_ok (id1_ok hs).1).1 h).1
    rw [HV2.out, (tv_eq h1).1]
    rfl
  have HPL : Hid ((tvV (id1 s).2).2.fin = 0 → (tvV (id1 s).2).1 = pl (tvV (id1 s).2).1) := fun h => by
    have h1 := (fin0 (tvV_ok (id1_ok hs).1).1 h).1
    rw [(tv_eq h1).1]
    exact (tv_eq h1).2
  have HI1 : Hid (id1 s = ((r0 s).small 7).2.small 1099511627776) := rfl
  clear HGD0
  generalize id1 s = I1 at *
  go_enter Tryz.func18, Tryz.ntmps18
  go_upto_region 1 with fail
  generalize hw1 : World.alloc _ _ = w1
  have K1 : Kn w.heap.size w [(w.heap.size, wiO Wi0)] w1 := by rw [← hw1]; exact (Kn.start w).new' rfl (wiO Wi0)
  clear hw1
  obtain ⟨p, hp⟩ : ∃ p, w.heap.size = p := ⟨_, rfl⟩
  rw [hp] at K1 ⊢
  have hpl := K1.lt (p, wiO Wi0) (by simp)
  simp only at hpl
  go_upto_region 2 with fail
  generalize hw2 : World.alloc _ _ = w2
  have K2 : Kn p w [(w1.heap.size, rdO 105 (r0 s)), (p, wiO Wi0)] w2 := by rw [← hw2]; exact K1.new (rdO 105 (r0 s))
  have KK : Hid (Kr 105 w1.heap.size w [(p, wiO Wi0)] (r0 s) w2) := ⟨K2.hd, by intro x hx; simp only [List.mem_singleton] at hx; subst hx; exact ⟨by simp only; omega, K2.at_ (p, wiO Wi0) (by simp)⟩, But.of_below (by rw [hp]; exact K2.b)⟩
  clear hw2 K1 K2
  obtain ⟨g, hg⟩ : ∃ g, w1.heap.size = g := ⟨_, rfl⟩
  rw [hg] at KK hpl ⊢
  have k1 := Rdr.small_ok hok 7
  go_upto_region 3 with (first | (go_at_call 75; refine (rrdr_small g (r0 s) 7 _ KK.out.rd hok (by decide) (by decide)).mono ?_; rintro e w7 ⟨rfl, hn, dn⟩; have KK := Lib.hid (KK.out.step hn dn); clear hn dn) | (refine wpList_store_row rfl 33 _ _ rfl _ (Wi.arr ⟨((r0 s).small 7).1, 0, ⟨#[]⟩, 0, 0, Sl0, Sl0, Sl0, 0⟩) rfl rfl 33 _ (heap_alloc_new _ _) (by kernel_rfl) rfl (wi_one _) ?_; rw [World.setRow_alloc_new]))
  have hl7 : g < w7.heap.size := KK.out.rd.lt
  have hid := small_range k1.1 (m := 1099511627776) (by decide)
  have k2 := Rdr.small_ok k1.1 1099511627776
  obtain ⟨R1, hR1⟩ : ∃ R, ((r0 s).small 7).2 = R := ⟨_, rfl⟩
  rw [hR1] at KK k1 k2 hid
  clear hk
  generalize hw8 : World.alloc _ _ = w8
  have KK := Lib.hid (show Kr 105 g w [(w7.heap.size, wiO ⟨6, 0, ⟨#[]⟩, 0, 0, Sl0, Sl0, Sl0, 0⟩), (p, wiO Wi0)] R1 w8 by rw [← hw8]; exact KK.out.new' rfl (wiO ⟨6, 0, ⟨#[]⟩, 0, 0, Sl0, Sl0, Sl0, 0⟩))
  clear hw8
  obtain ⟨q, hq⟩ : ∃ q, w7.heap.size = q := ⟨_, rfl⟩
  rw [hq] at KK hl7 ⊢
  have hA : Apart q [(p, wiO Wi0)] := ⟨by simp only; omega, trivial⟩
  go_upto_region 4 with (first | (go_at_call 75; refine (rrdr_small g _ 1099511627776 _ KK.out.rd k1.1 (by decide) (by decide)).mono ?_; rintro e w9 ⟨rfl, hn, dn⟩; have KK := Lib.hid (KK.out.step hn dn); clear hn dn; have ⟨q1, f1⟩ := KK.out.cf (k := q) (o := wiO ⟨6, 0, ⟨#[]⟩, 0, 0, Sl0, Sl0, Sl0, 0⟩) (by simp) 1 (v := .int .i64 0) rfl))
  generalize hwx : World.setCell _ _ _ = w10
  have KK := Lib.hid (show Kr 105 g w [(q, wiO ⟨6, (R1.small 1099511627776).1, ⟨#[]⟩, 0, 0, Sl0, Sl0, Sl0, 0⟩), (p, wiO Wi0)] _ w10 by rw [← hwx]; exact KK.out.setCell hA (by omega) 1 _ _ rfl)
  clear hwx q1 f1
  obtain ⟨ID, hID⟩ : ∃ I, (R1.small 1099511627776).1 = I := ⟨_, rfl⟩
  obtain ⟨R2, hR2⟩ : ∃ R, (R1.small 1099511627776).2 = R := ⟨_, rfl⟩
  rw [hID, hR2] at KK
  rw [hID] at hid
  rw [hR2] at k2
  have c0 := KK.out.cell (k := q) (o := wiO ⟨6, ID, ⟨#[]⟩, 0, 0, Sl0, Sl0, Sl0, 0⟩) (by simp) (j := 0) (v := .int .i64 6) rfl
  rw [hR1] at HI1
  obtain ⟨I1a, I1b⟩ := I1
  have e1 : I1a = ID := (congrArg Prod.fst HI1.out).trans hID
  have e2 : I1b = R2 := (congrArg Prod.snd HI1.out).trans hR2
  subst e1 e2
  have hss : I1b.s.size ≤ 1000000000 := by rw [k2.2, k1.2]; exact hs
  clear HI1 hID hR2
  simp only at HGD1 HV1 HV2 HPL
  have k3 := tvV_ok k2.1
  go_upto_region 29 with (first | (go_at_call 78; refine (rtv_any2 g I1b _ KK.out.rd k2.1).mono ?_; rintro e w11 ⟨a, n, c, rfl, hsl, hn, dn, hfr⟩; have HS := Lib.hid (show SlR w11 ⟨a, n, c⟩ (tvV I1b).1 from ⟨hsl.r, hsl.h1, hsl.h2⟩); have hqw : q < w10.heap.size := KK.out.lt (q, wiO ⟨6, I1a, ⟨#[]⟩, 0, 0, Sl0, Sl0, Sl0, 0⟩) (by simp); have KK := Lib.hid (KK.out.step hn dn); have HFR := Lib.hid hfr; clear hn dn hsl hfr; have ⟨q7, f7⟩ := KK.out.cf (k := q) (o := wiO ⟨6, I1a, ⟨#[]⟩, 0, 0, Sl0, Sl0, Sl0, 0⟩) (by simp) 7 (v := .slice none 0 0) rfl))
  generalize hwx : World.setCell _ _ _ = w12
  have HS := Lib.hid (show SlR w12 ⟨a, n, c⟩ (tvV I1b).1 by rw [← hwx]; exact HS.out.far (fun p hp => by have := HFR.out p hp; omega) _ _)
  have KK := Lib.hid (show Kr 105 g w [(q, wiO ⟨6, I1a, ⟨#[]⟩, 0, 0, Sl0, Sl0, ⟨a, n, c⟩, 0⟩), (p, wiO Wi0)] _ w12 by rw [← hwx]; exact KK.out.setCell hA (by omega) 7 _ _ rfl)
  clear hwx q7 f7 c0
  generalize tvV I1b = TV at *
  obtain ⟨L, RF⟩ := TV
  simp only at KK HGD1 HV2 HPL k3 HS
  have hn8 : n = n := rfl
  have hoA : okA ⟨6, I1a, ⟨#[]⟩, 0, 0, Sl0, Sl0, ⟨a, n, c⟩, 0⟩ := okA_min (K := 6) (by decide) hid rfl rfl (.inl rfl) (.inr ⟨rfl, rfl, rfl⟩) ⟨.inr rfl, z40⟩ (.inl rfl) (.inl (by decide))
  have HGD : Hid (GD ↔ RF.fin = 0 ∧ okA ⟨6, I1a, ⟨#[]⟩, 0, 0, Sl0, Sl0, ⟨a, n, c⟩, 0⟩ ∧ okT ⟨6, I1a, ⟨#[]⟩, 0, 0, Sl0, Sl0, ⟨a, n, c⟩, 0⟩ [] [] L) := ⟨fun h => ⟨HGD1.out.1 h, hoA, by intro p hp; simp at hp, by intro p hp; simp at hp, fun e => absurd e (by simp), HPL.out (HGD1.out.1 h)⟩, fun h => HGD1.out.2 h.1⟩
  have HWA : Hid (WiAt w12 ⟨6, I1a, ⟨#[]⟩, 0, 0, Sl0, Sl0, ⟨a, n, c⟩, 0⟩ [] [] L) := ⟨slP_nil _, recsV_nil _, HS.out, i00, i00, ba0⟩
  have HFAR : Hid (FarW p ⟨6, I1a, ⟨#[]⟩, 0, 0, Sl0, Sl0, ⟨a, n, c⟩, 0⟩ []) := ⟨far_sl0 _, far_sl0 _, .inr (fun y hy hm => by have := HFR.out y hy; simp only [List.mem_singleton] at hm; omega), by intro y hy; simp at hy⟩
  have kF := k3.1
  have HLV : Hid (GD → V2 = L) := fun h => HV2.out (HGD1.out.1 h)
  clear hoA HGD1 HV2 HPL HS
  go_upto_region 29 with fail
  have F1 := fun wx h => rrdr_end g RF wx h kF
  have hfin : Rdr.fin RF = 0 ∨ Rdr.fin RF = 10 := by unfold Rdr.fin; split <;> simp
  rcases hfin with hf | hf
  · rw [hf] at F1
    by_cases hok2 : okA ⟨6, I1a, ⟨#[]⟩, 0, 0, Sl0, Sl0, ⟨a, n, c⟩, 0⟩ ∧ okT ⟨6, I1a, ⟨#[]⟩, 0, 0, Sl0, Sl0, ⟨a, n, c⟩, 0⟩ [] [] L
    · have CW := fun wx (h : WiAt wx ⟨6, I1a, ⟨#[]⟩, 0, 0, Sl0, Sl0, ⟨a, n, c⟩, 0⟩ [] [] L) => rcheck_w h
      rw [chkW_0 hok2.1 hok2.2] at CW
      have HG := Lib.hid (HGD.out.2 ⟨hf, hok2⟩)
      clear hok2 hf
      go_wp2_with (first
        | (go_at_call 80; refine (F1 _ KK.out.rd).mono ?_; rintro e w20 ⟨rfl, dq⟩; have KK := Lib.hid (KK.out.step (dq.rdr KK.out.rd) dq.but); have HWA := Lib.hid (HWA.out.below dq.below))
        | (go_at_call 17; refine (CW _ HWA.out).mono ?_; rintro e w21 ⟨rfl, dn⟩; have KK := Lib.hid (KK.out.below dn); have HWA := Lib.hid (HWA.out.below dn); clear dn)
        | refine wpList_load_row_w (by rfl) 33 _ rfl q rfl 33 (Wi.arr ⟨6, I1a, ⟨#[]⟩, 0, 0, Sl0, Sl0, ⟨a, n, c⟩, 0⟩) (0, 0) _ (KK.out.at_ (q, wiO ⟨6, I1a, ⟨#[]⟩, 0, 0, Sl0, Sl0, ⟨a, n, c⟩, 0⟩) (by simp)).2 Tryz.underlying33 rfl (by kernel_rfl) ?_
        | refine wpList_load_row rfl 33 _ rfl q rfl 33 (Wi.arr ⟨6, I1a, ⟨#[]⟩, 0, 0, Sl0, Sl0, ⟨a, n, c⟩, 0⟩) (0, 0) _ (KK.out.at_ (q, wiO ⟨6, I1a, ⟨#[]⟩, 0, 0, Sl0, Sl0, ⟨a, n, c⟩, 0⟩) (by simp)).2 Tryz.underlying33 rfl (by kernel_rfl) ?_
        | refine wpList_store_row rfl 33 _ _ rfl p (Wi.arr ⟨6, I1a, ⟨#[]⟩, 0, 0, Sl0, Sl0, ⟨a, n, c⟩, 0⟩) rfl rfl 33 _ (KK.out.at_ (p, wiO Wi0) (by simp)).2 (by kernel_rfl) rfl (wi_one _) ?_)
      have KF := Kr.setRow (KK.out.sub (m := [(p, wiO Wi0)]) (by simp)) trivial (by omega) (wiO ⟨6, I1a, ⟨#[]⟩, 0, 0, Sl0, Sl0, ⟨a, n, c⟩, 0⟩)
      have HWF := Lib.hid (HWA.out.but HFAR.out (But.row p _ (Wi.arr ⟨6, I1a, ⟨#[]⟩, 0, 0, Sl0, Sl0, ⟨a, n, c⟩, 0⟩)))
      refine bodyPost_ret (v := .tuple #[.agg (Wi.arr ⟨6, I1a, ⟨#[]⟩, 0, 0, Sl0, Sl0, ⟨a, n, c⟩, 0⟩), .int .i64 0]) (res_cell_tmp rfl _ _ p 33 (Wi.arr ⟨6, I1a, ⟨#[]⟩, 0, 0, Sl0, Sl0, ⟨a, n, c⟩, 0⟩) (0, 0) _ _ rfl rfl KF.hd Tryz.underlying33 rfl (by kernel_rfl)) rfl ⟨_, 0, rfl, KF.belowB (by omega), .inl ⟨HG.out, rfl, ⟨a, n, c⟩, by rw [HV1.out], by rw [HLV.out HG.out]; exact HWF.out.v⟩⟩
    · have CW := fun wx (h : WiAt wx ⟨6, I1a, ⟨#[]⟩, 0, 0, Sl0, Sl0, ⟨a, n, c⟩, 0⟩ [] [] L) => rcheck_w h
      rw [chkW_1 hok2] at CW
      have HNG : Hid (¬ GD) := fun h => hok2 (HGD.out.1 h).2
      clear hok2 hf
      go_wp2_with (first
        | (go_at_call 80; refine (F1 _ KK.out.rd).mono ?_; rintro e w20 ⟨rfl, dq⟩; have KK := Lib.hid (KK.out.step (dq.rdr KK.out.rd) dq.but); have HWA := Lib.hid (HWA.out.below dq.below))
        | (go_at_call 17; refine (CW _ HWA.out).mono ?_; rintro e w21 ⟨rfl, dn⟩; have KK := Lib.hid (KK.out.below dn); clear dn)
        | refine wpList_load_row_w (by rfl) 33 _ rfl q rfl 33 (Wi.arr ⟨6, I1a, ⟨#[]⟩, 0, 0, Sl0, Sl0, ⟨a, n, c⟩, 0⟩) (0, 0) _ (KK.out.at_ (q, wiO ⟨6, I1a, ⟨#[]⟩, 0, 0, Sl0, Sl0, ⟨a, n, c⟩, 0⟩) (by simp)).2 Tryz.underlying33 rfl (by kernel_rfl) ?_
        | refine wpList_store_row rfl 33 _ _ rfl p Wi0.arr rfl rfl 33 _ (KK.out.at_ (p, wiO Wi0) (by simp)).2 (by kernel_rfl) rfl (wi_one _) ?_)
      have KF := Kr.setRow (KK.out.sub (m := [(p, wiO Wi0)]) (by simp)) trivial (by omega) (wiO Wi0)
      refine bodyPost_ret (v := .tuple #[.agg Wi0.arr, .int .i64 10]) (res_cell_tmp rfl _ _ p 33 Wi0.arr (0, 0) _ _ rfl rfl KF.hd Tryz.underlying33 rfl (by kernel_rfl)) rfl ⟨Wi0, 10, rfl, KF.belowB (by omega), .inr ⟨HNG.out, rfl, rfl⟩⟩
  · have HNG : Hid (¬ GD) := fun h => by have := (HGD.out.1 h).1; rw [hf] at this; cases this
    have CW := fun wx (h : WiAt wx ⟨6, I1a, ⟨#[]⟩, 0, 0, Sl0, Sl0, ⟨a, n, c⟩, 0⟩ [] [] L) => rcheck_w h
    rw [hf] at F1
    clear hf
    go_wp2_with (first
      | (go_at_call 80; refine (F1 _ KK.out.rd).mono ?_; rintro e w20 ⟨rfl, dq⟩; have KK := Lib.hid (KK.out.step (dq.rdr KK.out.rd) dq.but); have HWA := Lib.hid (HWA.out.below dq.below))
      | (go_at_call 17; refine (CW _ HWA.out).mono ?_; rintro e w21 ⟨rfl, dn⟩; have KK := Lib.hid (KK.out.below dn); clear dn)
      | refine wpList_load_row_w (by rfl) 33 _ rfl q rfl 33 (Wi.arr ⟨6, I1a, ⟨#[]⟩, 0, 0, Sl0, Sl0, ⟨a, n, c⟩, 0⟩) (0, 0) _ (KK.out.at_ (q, wiO ⟨6, I1a, ⟨#[]⟩, 0, 0, Sl0, Sl0, ⟨a, n, c⟩, 0⟩) (by simp)).2 Tryz.underlying33 rfl (by kernel_rfl) ?_
      | refine wpList_store_row rfl 33 _ _ rfl p Wi0.arr rfl rfl 33 _ (KK.out.at_ (p, wiO Wi0) (by simp)).2 (by kernel_rfl) rfl (wi_one _) ?_)
    have KF := Kr.setRow (KK.out.sub (m := [(p, wiO Wi0)]) (by simp)) trivial (by omega) (wiO Wi0)
    refine bodyPost_ret (v := .tuple #[.agg Wi0.arr, .int .i64 10]) (res_cell_tmp rfl _ _ p 33 Wi0.arr (0, 0) _ _ rfl rfl KF.hd Tryz.underlying33 rfl (by kernel_rfl)) rfl ⟨Wi0, 10, rfl, KF.belowB (by omega), .inr ⟨HNG.out, rfl, rfl⟩⟩
set_option maxHeartbeats 16000000 in
theorem rread1_any (s : ByteArray) (w : World) (hs : s.size ≤ 1000000000) (hk : ((r0 s).small 7).1 = 1) : Calls Tryz.prog 18 #[.string s] w fun e w' => ∃ (x : Wi) (E : Int), e = .returned (.tuple #[.agg x.arr, .int .i64 E]) ∧ Below w.heap.size w w' ∧
    ((gd1 s ∧ E = 0 ∧ ∃ d : Sl, x = ⟨1, (id1 s).1, ⟨#[]⟩, 0, 0, d, Sl0, Sl0, 0⟩ ∧ SlP w' d (readP (tx1 s).1).1) ∨ (¬ gd1 s ∧ E = 10 ∧ x = Wi0)) := by
  have hok := r0_ok hs
  obtain ⟨GD, HGD0⟩ : ∃ G, Hid (G = gd1 s) := ⟨_, rfl⟩
  obtain ⟨V1, HV1⟩ : ∃ G, Hid (G = (id1 s).1) := ⟨_, rfl⟩
  obtain ⟨V2, HV2⟩ : ∃ G, Hid (G = (readP (tx1 s).1).1) := ⟨_, rfl⟩
  rw [← HGD0.out, ← HV1.out, ← HV2.out]
  have HGD1 : Hid (GD ↔ (id1 s).2.text.2.fin = 0 ∧ (readP (id1 s).2.text.1).2 = 0 ∧ (readP (id1 s).2.text.1).1.length ≤ 200 ∧ okPts (readP (id1 s).2.text.1).1) := by show _ ↔ _; rw [HGD0.out]; exact gd1_iff hs hk
  have HV2 : Hid (V2 = (readP (id1 s).2.text.1).1) := HV2.out
  have HI1 : Hid (id1 s = ((r0 s).small 7).2.small 1099511627776) := rfl
  clear HGD0
  generalize id1 s = I1 at *
  go_enter Tryz.func18, Tryz.ntmps18
  go_upto_region 1 with fail
  generalize hw1 : World.alloc _ _ = w1
  have K1 : Kn w.heap.size w [(w.heap.size, wiO Wi0)] w1 := by rw [← hw1]; exact (Kn.start w).new' rfl (wiO Wi0)
  clear hw1
  obtain ⟨p, hp⟩ : ∃ p, w.heap.size = p := ⟨_, rfl⟩
  rw [hp] at K1 ⊢
  have hpl := K1.lt (p, wiO Wi0) (by simp)
  simp only at hpl
  go_upto_region 2 with fail
  generalize hw2 : World.alloc _ _ = w2
  have K2 : Kn p w [(w1.heap.size, rdO 105 (r0 s)), (p, wiO Wi0)] w2 := by rw [← hw2]; exact K1.new (rdO 105 (r0 s))
  have KK : Hid (Kr 105 w1.heap.size w [(p, wiO Wi0)] (r0 s) w2) := ⟨K2.hd, by intro x hx; simp only [List.mem_singleton] at hx; subst hx; exact ⟨by simp only; omega, K2.at_ (p, wiO Wi0) (by simp)⟩, But.of_below (by rw [hp]; exact K2.b)⟩
  clear hw2 K1 K2
  obtain ⟨g, hg⟩ : ∃ g, w1.heap.size = g := ⟨_, rfl⟩
  rw [hg] at KK hpl ⊢
  have k1 := Rdr.small_ok hok 7
  go_upto_region 3 with (first | (go_at_call 75; refine (rrdr_small g (r0 s) 7 _ KK.out.rd hok (by decide) (by decide)).mono ?_; rintro e w7 ⟨rfl, hn, dn⟩; have KK := Lib.hid (KK.out.step hn dn); clear hn dn) | (refine wpList_store_row rfl 33 _ _ rfl _ (Wi.arr ⟨((r0 s).small 7).1, 0, ⟨#[]⟩, 0, 0, Sl0, Sl0, Sl0, 0⟩) rfl rfl 33 _ (heap_alloc_new _ _) (by kernel_rfl) rfl (wi_one _) ?_; rw [World.setRow_alloc_new]))
  have hl7 : g < w7.heap.size := KK.out.rd.lt
  have hid := small_range k1.1 (m := 1099511627776) (by decide)
  have k2 := Rdr.small_ok k1.1 1099511627776
  obtain ⟨R1, hR1⟩ : ∃ R, ((r0 s).small 7).2 = R := ⟨_, rfl⟩
  rw [hR1] at KK k1 k2 hid
  clear hk
  generalize hw8 : World.alloc _ _ = w8
  have KK := Lib.hid (show Kr 105 g w [(w7.heap.size, wiO ⟨1, 0, ⟨#[]⟩, 0, 0, Sl0, Sl0, Sl0, 0⟩), (p, wiO Wi0)] R1 w8 by rw [← hw8]; exact KK.out.new' rfl (wiO ⟨1, 0, ⟨#[]⟩, 0, 0, Sl0, Sl0, Sl0, 0⟩))
  clear hw8
  obtain ⟨q, hq⟩ : ∃ q, w7.heap.size = q := ⟨_, rfl⟩
  rw [hq] at KK hl7 ⊢
  have hA : Apart q [(p, wiO Wi0)] := ⟨by simp only; omega, trivial⟩
  go_upto_region 4 with (first | (go_at_call 75; refine (rrdr_small g _ 1099511627776 _ KK.out.rd k1.1 (by decide) (by decide)).mono ?_; rintro e w9 ⟨rfl, hn, dn⟩; have KK := Lib.hid (KK.out.step hn dn); clear hn dn; have ⟨q1, f1⟩ := KK.out.cf (k := q) (o := wiO ⟨1, 0, ⟨#[]⟩, 0, 0, Sl0, Sl0, Sl0, 0⟩) (by simp) 1 (v := .int .i64 0) rfl))
  generalize hwx : World.setCell _ _ _ = w10
  have KK := Lib.hid (show Kr 105 g w [(q, wiO ⟨1, (R1.small 1099511627776).1, ⟨#[]⟩, 0, 0, Sl0, Sl0, Sl0, 0⟩), (p, wiO Wi0)] _ w10 by rw [← hwx]; exact KK.out.setCell hA (by omega) 1 _ _ rfl)
  clear hwx q1 f1
  obtain ⟨ID, hID⟩ : ∃ I, (R1.small 1099511627776).1 = I := ⟨_, rfl⟩
  obtain ⟨R2, hR2⟩ : ∃ R, (R1.small 1099511627776).2 = R := ⟨_, rfl⟩
  rw [hID, hR2] at KK
  rw [hID] at hid
  rw [hR2] at k2
  have c0 := KK.out.cell (k := q) (o := wiO ⟨1, ID, ⟨#[]⟩, 0, 0, Sl0, Sl0, Sl0, 0⟩) (by simp) (j := 0) (v := .int .i64 1) rfl
  rw [hR1] at HI1
  obtain ⟨I1a, I1b⟩ := I1
  have e1 : I1a = ID := (congrArg Prod.fst HI1.out).trans hID
  have e2 : I1b = R2 := (congrArg Prod.snd HI1.out).trans hR2
  subst e1 e2
  have hss : I1b.s.size ≤ 1000000000 := by rw [k2.2, k1.2]; exact hs
  clear HI1 hID hR2
  simp only at HGD1 HV1 HV2
  have k3 := Rdr.text_ok k2.1
  have hts := text_size k2.1
  obtain ⟨TX, hTX⟩ : ∃ T, I1b.text = T := ⟨_, rfl⟩
  have RT := fun wx h => rrdr_text g I1b wx h k2.1
  rw [hTX] at HGD1 HV2 RT hts k3
  obtain ⟨P, RF⟩ := TX
  simp only at HGD1 HV2 RT hts k3
  clear hTX
  have RP := fun wx => rreadpts_f P wx (by omega)
  have HPW : Hid (∀ p ∈ (readP P).1, p.wf) := readP_wf (by omega)
  obtain ⟨PS, hPS⟩ : ∃ x, readP P = x := ⟨_, rfl⟩
  rw [hPS] at HGD1 HV2 RP HPW
  obtain ⟨ps, er⟩ := PS
  simp only at HGD1 HV2 RP HPW
  clear hPS
  go_upto_region 8 with (first
    | (go_at_call 77; refine (RT _ KK.out.rd).mono ?_; rintro e wn ⟨rfl, hn, dn⟩; have KK := Lib.hid (KK.out.step hn dn); clear hn dn)
    | (go_at_call 76; refine (RP _).mono ?_; rintro e w12 ⟨a, n, c, rfl, hr, hnc, hcb2, hfr, dn⟩; have hqn : q < wn.heap.size := KK.out.lt (q, wiO ⟨1, I1a, ⟨#[]⟩, 0, 0, Sl0, Sl0, Sl0, 0⟩) (by simp); have KK := Lib.hid (KK.out.below dn); have HR := Lib.hid hr; clear dn hr))
  clear RP RT
  by_cases he : er = 0
  · have t1 : (er != 0) = false := bne_eq_false_iff_eq.2 he
    have HFR : Hid (∀ k, k < wn.heap.size → n = 0 ∨ ∀ p, a = some p → p.block ≠ k) := fun k hk => hfr.imp_right fun ⟨b, e, hb⟩ p hp => by
      rw [e] at hp
      obtain rfl := Option.some.inj hp
      show b ≠ k
      omega
    have HE := Lib.hid he
    clear he hfr
    have ⟨q5, f5⟩ := KK.out.cf (k := q) (o := wiO ⟨1, I1a, ⟨#[]⟩, 0, 0, Sl0, Sl0, Sl0, 0⟩) (by simp) 5 (v := .slice none 0 0) rfl
    go_upto_region 29 with fail
    generalize hwx : World.setCell _ _ _ = w13
    have HR := Lib.hid (show ReadsE Pt.cs 6 w13 a n ps by rw [← hwx]; exact HR.out.but (HFR.out q hqn) (But.set q 5 _ _))
    have KK := Lib.hid (show Kr 105 g w [(q, wiO ⟨1, I1a, ⟨#[]⟩, 0, 0, ⟨a, n, c⟩, Sl0, Sl0, 0⟩), (p, wiO Wi0)] _ w13 by rw [← hwx]; exact KK.out.setCell hA (by omega) 5 _ _ rfl)
    clear hwx q5 f5 c0
    have hln : ps.length = n := HR.out.1
    have hoA : n ≤ 200 → okA ⟨1, I1a, ⟨#[]⟩, 0, 0, ⟨a, n, c⟩, Sl0, Sl0, 0⟩ := fun h => okA_min (K := 1) (by decide) hid rfl rfl (.inr ⟨by decide, h⟩) (.inr ⟨rfl, rfl, rfl⟩) ⟨.inr rfl, z40⟩ (.inl rfl) (.inr rfl)
    have HGD : Hid (GD ↔ RF.fin = 0 ∧ okA ⟨1, I1a, ⟨#[]⟩, 0, 0, ⟨a, n, c⟩, Sl0, Sl0, 0⟩ ∧ okT ⟨1, I1a, ⟨#[]⟩, 0, 0, ⟨a, n, c⟩, Sl0, Sl0, 0⟩ ps [] []) := ⟨fun h => ⟨(HGD1.out.1 h).1, hoA (by have := (HGD1.out.1 h).2.2.1; omega), (HGD1.out.1 h).2.2.2, by intro p hp; simp at hp, fun e => absurd e (by simp), by decide +kernel⟩, fun h => HGD1.out.2 ⟨h.1, HE.out, by have := h.2.1.2.2.2.2.2.2.2.1; simp only at this; omega, h.2.2.1⟩⟩
    have HWA : Hid (WiAt w13 ⟨1, I1a, ⟨#[]⟩, 0, 0, ⟨a, n, c⟩, Sl0, Sl0, 0⟩ ps [] []) := ⟨⟨HR.out, HPW.out, hnc, hcb2⟩, recsV_nil _, slR_nil _, i00, i00, ba0⟩
    have HFAR : Hid (FarW p ⟨1, I1a, ⟨#[]⟩, 0, 0, ⟨a, n, c⟩, Sl0, Sl0, 0⟩ []) := ⟨(HFR.out p (by omega)).imp_right (fun h y hy hm => by simp only [List.mem_singleton] at hm; exact h y hy hm), far_sl0 _, far_sl0 _, by intro y hy; simp at hy⟩
    have kF := k3.1
    clear hoA HGD1 HR hts
    go_upto_region 29 with fail
    have F1 := fun wx h => rrdr_end g RF wx h kF
    have hfin : Rdr.fin RF = 0 ∨ Rdr.fin RF = 10 := by unfold Rdr.fin; split <;> simp
    rcases hfin with hf | hf
    · rw [hf] at F1
      by_cases hok2 : okA ⟨1, I1a, ⟨#[]⟩, 0, 0, ⟨a, n, c⟩, Sl0, Sl0, 0⟩ ∧ okT ⟨1, I1a, ⟨#[]⟩, 0, 0, ⟨a, n, c⟩, Sl0, Sl0, 0⟩ ps [] []
      · have CW := fun wx (h : WiAt wx ⟨1, I1a, ⟨#[]⟩, 0, 0, ⟨a, n, c⟩, Sl0, Sl0, 0⟩ ps [] []) => rcheck_w h
        rw [chkW_0 hok2.1 hok2.2] at CW
        have HG := Lib.hid (HGD.out.2 ⟨hf, hok2⟩)
        clear hok2 hf
        go_wp2_with (first
          | (go_at_call 80; refine (F1 _ KK.out.rd).mono ?_; rintro e w20 ⟨rfl, dq⟩; have KK := Lib.hid (KK.out.step (dq.rdr KK.out.rd) dq.but); have HWA := Lib.hid (HWA.out.below dq.below))
          | (go_at_call 17; refine (CW _ HWA.out).mono ?_; rintro e w21 ⟨rfl, dn⟩; have KK := Lib.hid (KK.out.below dn); have HWA := Lib.hid (HWA.out.below dn); clear dn)
          | refine wpList_load_row_w (by rfl) 33 _ rfl q rfl 33 (Wi.arr ⟨1, I1a, ⟨#[]⟩, 0, 0, ⟨a, n, c⟩, Sl0, Sl0, 0⟩) (0, 0) _ (KK.out.at_ (q, wiO ⟨1, I1a, ⟨#[]⟩, 0, 0, ⟨a, n, c⟩, Sl0, Sl0, 0⟩) (by simp)).2 Tryz.underlying33 rfl (by kernel_rfl) ?_
          | refine wpList_load_row rfl 33 _ rfl q rfl 33 (Wi.arr ⟨1, I1a, ⟨#[]⟩, 0, 0, ⟨a, n, c⟩, Sl0, Sl0, 0⟩) (0, 0) _ (KK.out.at_ (q, wiO ⟨1, I1a, ⟨#[]⟩, 0, 0, ⟨a, n, c⟩, Sl0, Sl0, 0⟩) (by simp)).2 Tryz.underlying33 rfl (by kernel_rfl) ?_
          | refine wpList_store_row rfl 33 _ _ rfl p (Wi.arr ⟨1, I1a, ⟨#[]⟩, 0, 0, ⟨a, n, c⟩, Sl0, Sl0, 0⟩) rfl rfl 33 _ (KK.out.at_ (p, wiO Wi0) (by simp)).2 (by kernel_rfl) rfl (wi_one _) ?_)
        have KF := Kr.setRow (KK.out.sub (m := [(p, wiO Wi0)]) (by simp)) trivial (by omega) (wiO ⟨1, I1a, ⟨#[]⟩, 0, 0, ⟨a, n, c⟩, Sl0, Sl0, 0⟩)
        have HWF := Lib.hid (HWA.out.but HFAR.out (But.row p _ (Wi.arr ⟨1, I1a, ⟨#[]⟩, 0, 0, ⟨a, n, c⟩, Sl0, Sl0, 0⟩)))
        refine bodyPost_ret (v := .tuple #[.agg (Wi.arr ⟨1, I1a, ⟨#[]⟩, 0, 0, ⟨a, n, c⟩, Sl0, Sl0, 0⟩), .int .i64 0]) (res_cell_tmp rfl _ _ p 33 (Wi.arr ⟨1, I1a, ⟨#[]⟩, 0, 0, ⟨a, n, c⟩, Sl0, Sl0, 0⟩) (0, 0) _ _ rfl rfl KF.hd Tryz.underlying33 rfl (by kernel_rfl)) rfl ⟨_, 0, rfl, KF.belowB (by omega), .inl ⟨HG.out, rfl, ⟨a, n, c⟩, by rw [HV1.out], by rw [HV2.out]; exact HWF.out.p⟩⟩
      · have CW := fun wx (h : WiAt wx ⟨1, I1a, ⟨#[]⟩, 0, 0, ⟨a, n, c⟩, Sl0, Sl0, 0⟩ ps [] []) => rcheck_w h
        rw [chkW_1 hok2] at CW
        have HNG : Hid (¬ GD) := fun h => hok2 (HGD.out.1 h).2
        clear hok2 hf
        go_wp2_with (first
          | (go_at_call 80; refine (F1 _ KK.out.rd).mono ?_; rintro e w20 ⟨rfl, dq⟩; have KK := Lib.hid (KK.out.step (dq.rdr KK.out.rd) dq.but); have HWA := Lib.hid (HWA.out.below dq.below))
          | (go_at_call 17; refine (CW _ HWA.out).mono ?_; rintro e w21 ⟨rfl, dn⟩; have KK := Lib.hid (KK.out.below dn); clear dn)
          | refine wpList_load_row_w (by rfl) 33 _ rfl q rfl 33 (Wi.arr ⟨1, I1a, ⟨#[]⟩, 0, 0, ⟨a, n, c⟩, Sl0, Sl0, 0⟩) (0, 0) _ (KK.out.at_ (q, wiO ⟨1, I1a, ⟨#[]⟩, 0, 0, ⟨a, n, c⟩, Sl0, Sl0, 0⟩) (by simp)).2 Tryz.underlying33 rfl (by kernel_rfl) ?_
          | refine wpList_store_row rfl 33 _ _ rfl p Wi0.arr rfl rfl 33 _ (KK.out.at_ (p, wiO Wi0) (by simp)).2 (by kernel_rfl) rfl (wi_one _) ?_)
        have KF := Kr.setRow (KK.out.sub (m := [(p, wiO Wi0)]) (by simp)) trivial (by omega) (wiO Wi0)
        refine bodyPost_ret (v := .tuple #[.agg Wi0.arr, .int .i64 10]) (res_cell_tmp rfl _ _ p 33 Wi0.arr (0, 0) _ _ rfl rfl KF.hd Tryz.underlying33 rfl (by kernel_rfl)) rfl ⟨Wi0, 10, rfl, KF.belowB (by omega), .inr ⟨HNG.out, rfl, rfl⟩⟩
    · have HNG : Hid (¬ GD) := fun h => by have := (HGD.out.1 h).1; rw [hf] at this; cases this
      have CW := fun wx (h : WiAt wx ⟨1, I1a, ⟨#[]⟩, 0, 0, ⟨a, n, c⟩, Sl0, Sl0, 0⟩ ps [] []) => rcheck_w h
      rw [hf] at F1
      clear hf
      go_wp2_with (first
        | (go_at_call 80; refine (F1 _ KK.out.rd).mono ?_; rintro e w20 ⟨rfl, dq⟩; have KK := Lib.hid (KK.out.step (dq.rdr KK.out.rd) dq.but); have HWA := Lib.hid (HWA.out.below dq.below))
        | (go_at_call 17; refine (CW _ HWA.out).mono ?_; rintro e w21 ⟨rfl, dn⟩; have KK := Lib.hid (KK.out.below dn); clear dn)
        | refine wpList_load_row_w (by rfl) 33 _ rfl q rfl 33 (Wi.arr ⟨1, I1a, ⟨#[]⟩, 0, 0, ⟨a, n, c⟩, Sl0, Sl0, 0⟩) (0, 0) _ (KK.out.at_ (q, wiO ⟨1, I1a, ⟨#[]⟩, 0, 0, ⟨a, n, c⟩, Sl0, Sl0, 0⟩) (by simp)).2 Tryz.underlying33 rfl (by kernel_rfl) ?_
        | refine wpList_store_row rfl 33 _ _ rfl p Wi0.arr rfl rfl 33 _ (KK.out.at_ (p, wiO Wi0) (by simp)).2 (by kernel_rfl) rfl (wi_one _) ?_)
      have KF := Kr.setRow (KK.out.sub (m := [(p, wiO Wi0)]) (by simp)) trivial (by omega) (wiO Wi0)
      refine bodyPost_ret (v := .tuple #[.agg Wi0.arr, .int .i64 10]) (res_cell_tmp rfl _ _ p 33 Wi0.arr (0, 0) _ _ rfl rfl KF.hd Tryz.underlying33 rfl (by kernel_rfl)) rfl ⟨Wi0, 10, rfl, KF.belowB (by omega), .inr ⟨HNG.out, rfl, rfl⟩⟩
  · have t1 : (er != 0) = true := bne_iff_ne.2 he
    have HNG : Hid (¬ GD) := fun h => he (HGD1.out.1 h).2.1
    clear he hfr
    go_wp2_with (first | refine wpList_store_row rfl 33 _ _ rfl p Wi0.arr rfl rfl 33 _ (KK.out.at_ (p, wiO Wi0) (by simp)).2 (by kernel_rfl) rfl (wi_one _) ?_)
    have KF := Kr.setRow (KK.out.sub (m := [(p, wiO Wi0)]) (by simp)) trivial (by omega) (wiO Wi0)
    refine bodyPost_ret (v := .tuple #[.agg Wi0.arr, .int .i64 10]) (res_cell_tmp rfl _ _ p 33 Wi0.arr (0, 0) _ _ rfl rfl KF.hd Tryz.underlying33 rfl (by kernel_rfl)) rfl ⟨Wi0, 10, rfl, KF.belowB (by omega), .inr ⟨HNG.out, rfl, rfl⟩⟩
set_option maxHeartbeats 16000000 in
theorem rread4_any (s : ByteArray) (w : World) (hs : s.size ≤ 1000000000) (hk : ((r0 s).small 7).1 = 4) : Calls Tryz.prog 18 #[.string s] w fun e w' => ∃ (x : Wi) (E : Int), e = .returned (.tuple #[.agg x.arr, .int .i64 E]) ∧ Below w.heap.size w w' ∧
    ((gd4 s ∧ E = 0 ∧ ∃ d : Sl, x = ⟨4, (id1 s).1, ⟨#[]⟩, 0, 0, d, Sl0, Sl0, 0⟩ ∧ SlP w' d (readP (tx1 s).1).1) ∨ (¬ gd4 s ∧ E = 10 ∧ x = Wi0)) := by
  have hok := r0_ok hs
  obtain ⟨GD, HGD0⟩ : ∃ G, Hid (G = gd4 s) := ⟨_, rfl⟩
  obtain ⟨V1, HV1⟩ : ∃ G, Hid (G = (id1 s).1) := ⟨_, rfl⟩
  obtain ⟨V2, HV2⟩ : ∃ G, Hid (G = (readP (tx1 s).1).1) := ⟨_, rfl⟩
  rw [← HGD0.out, ← HV1.out, ← HV2.out]
  have HGD1 : Hid (GD ↔ (id1 s).2.text.2.fin = 0 ∧ (readP (id1 s).2.text.1).2 = 0 ∧ (readP (id1 s).2.text.1).1.length ≤ 200 ∧ okPts (readP (id1 s).2.text.1).1) := by show _ ↔ _; rw [HGD0.out]; exact gd4_iff hs hk
  have HV2 : Hid (V2 = (readP (id1 s).2.text.1).1) := HV2.out
  have HI1 : Hid (id1 s = ((r0 s).small 7).2.small 1099511627776) := rfl
  clear HGD0
  generalize id1 s = I1 at *
  go_enter Tryz.func18, Tryz.ntmps18
  go_upto_region 1 with fail
  generalize hw1 : World.alloc _ _ = w1
  have K1 : Kn w.heap.size w [(w.heap.size, wiO Wi0)] w1 := by rw [← hw1]; exact (Kn.start w).new' rfl (wiO Wi0)
  clear hw1
  obtain ⟨p, hp⟩ : ∃ p, w.heap.size = p := ⟨_, rfl⟩
  rw [hp] at K1 ⊢
  have hpl := K1.lt (p, wiO Wi0) (by simp)
  simp only at hpl
  go_upto_region 2 with fail
  generalize hw2 : World.alloc _ _ = w2
  have K2 : Kn p w [(w1.heap.size, rdO 105 (r0 s)), (p, wiO Wi0)] w2 := by rw [← hw2]; exact K1.new (rdO 105 (r0 s))
  have KK : Hid (Kr 105 w1.heap.size w [(p, wiO Wi0)] (r0 s) w2) := ⟨K2.hd, by intro x hx; simp only [List.mem_singleton] at hx; subst hx; exact ⟨by simp only; omega, K2.at_ (p, wiO Wi0) (by simp)⟩, But.of_below (by rw [hp]; exact K2.b)⟩
  clear hw2 K1 K2
  obtain ⟨g, hg⟩ : ∃ g, w1.heap.size = g := ⟨_, rfl⟩
  rw [hg] at KK hpl ⊢
  have k1 := Rdr.small_ok hok 7
  go_upto_region 3 with (first | (go_at_call 75; refine (rrdr_small g (r0 s) 7 _ KK.out.rd hok (by decide) (by decide)).mono ?_; rintro e w7 ⟨rfl, hn, dn⟩; have KK := Lib.hid (KK.out.step hn dn); clear hn dn) | (refine wpList_store_row rfl 33 _ _ rfl _ (Wi.arr ⟨((r0 s).small 7).1, 0, ⟨#[]⟩, 0, 0, Sl0, Sl0, Sl0, 0⟩) rfl rfl 33 _ (heap_alloc_new _ _) (by kernel_rfl) rfl (wi_one _) ?_; rw [World.setRow_alloc_new]))
  have hl7 : g < w7.heap.size := KK.out.rd.lt
  have hid := small_range k1.1 (m := 1099511627776) (by decide)
  have k2 := Rdr.small_ok k1.1 1099511627776
  obtain ⟨R1, hR1⟩ : ∃ R, ((r0 s).small 7).2 = R := ⟨_, rfl⟩
  rw [hR1] at KK k1 k2 hid
  clear hk
  generalize hw8 : World.alloc _ _ = w8
  have KK := Lib.hid (show Kr 105 g w [(w7.heap.size, wiO ⟨4, 0, ⟨#[]⟩, 0, 0, Sl0, Sl0, Sl0, 0⟩), (p, wiO Wi0)] R1 w8 by rw [← hw8]; exact KK.out.new' rfl (wiO ⟨4, 0, ⟨#[]⟩, 0, 0, Sl0, Sl0, Sl0, 0⟩))
  clear hw8
  obtain ⟨q, hq⟩ : ∃ q, w7.heap.size = q := ⟨_, rfl⟩
  rw [hq] at KK hl7 ⊢
  have hA : Apart q [(p, wiO Wi0)] := ⟨by simp only; omega, trivial⟩
  go_upto_region 4 with (first | (go_at_call 75; refine (rrdr_small g _ 1099511627776 _ KK.out.rd k1.1 (by decide) (by decide)).mono ?_; rintro e w9 ⟨rfl, hn, dn⟩; have KK := Lib.hid (KK.out.step hn dn); clear hn dn; have ⟨q1, f1⟩ := KK.out.cf (k := q) (o := wiO ⟨4, 0, ⟨#[]⟩, 0, 0, Sl0, Sl0, Sl0, 0⟩) (by simp) 1 (v := .int .i64 0) rfl))
  generalize hwx : World.setCell _ _ _ = w10
  have KK := Lib.hid (show Kr 105 g w [(q, wiO ⟨4, (R1.small 1099511627776).1, ⟨#[]⟩, 0, 0, Sl0, Sl0, Sl0, 0⟩), (p, wiO Wi0)] _ w10 by rw [← hwx]; exact KK.out.setCell hA (by omega) 1 _ _ rfl)
  clear hwx q1 f1
  obtain ⟨ID, hID⟩ : ∃ I, (R1.small 1099511627776).1 = I := ⟨_, rfl⟩
  obtain ⟨R2, hR2⟩ : ∃ R, (R1.small 1099511627776).2 = R := ⟨_, rfl⟩
  rw [hID, hR2] at KK
  rw [hID] at hid
  rw [hR2] at k2
  have c0 := KK.out.cell (k := q) (o := wiO ⟨4, ID, ⟨#[]⟩, 0, 0, Sl0, Sl0, Sl0, 0⟩) (by simp) (j := 0) (v := .int .i64 4) rfl
  rw [hR1] at HI1
  obtain ⟨I1a, I1b⟩ := I1
  have e1 : I1a = ID := (congrArg Prod.fst HI1.out).trans hID
  have e2 : I1b = R2 := (congrArg Prod.snd HI1.out).trans hR2
  subst e1 e2
  have hss : I1b.s.size ≤ 1000000000 := by rw [k2.2, k1.2]; exact hs
  clear HI1 hID hR2
  simp only at HGD1 HV1 HV2
  have k3 := Rdr.text_ok k2.1
  have hts := text_size k2.1
  obtain ⟨TX, hTX⟩ : ∃ T, I1b.text = T := ⟨_, rfl⟩
  have RT := fun wx h => rrdr_text g I1b wx h k2.1
  rw [hTX] at HGD1 HV2 RT hts k3
  obtain ⟨P, RF⟩ := TX
  simp only at HGD1 HV2 RT hts k3
  clear hTX
  have RP := fun wx => rreadpts_f P wx (by omega)
  have HPW : Hid (∀ p ∈ (readP P).1, p.wf) := readP_wf (by omega)
  obtain ⟨PS, hPS⟩ : ∃ x, readP P = x := ⟨_, rfl⟩
  rw [hPS] at HGD1 HV2 RP HPW
  obtain ⟨ps, er⟩ := PS
  simp only at HGD1 HV2 RP HPW
  clear hPS
  go_upto_region 8 with (first
    | (go_at_call 77; refine (RT _ KK.out.rd).mono ?_; rintro e wn ⟨rfl, hn, dn⟩; have KK := Lib.hid (KK.out.step hn dn); clear hn dn)
    | (go_at_call 76; refine (RP _).mono ?_; rintro e w12 ⟨a, n, c, rfl, hr, hnc, hcb2, hfr, dn⟩; have hqn : q < wn.heap.size := KK.out.lt (q, wiO ⟨4, I1a, ⟨#[]⟩, 0, 0, Sl0, Sl0, Sl0, 0⟩) (by simp); have KK := Lib.hid (KK.out.below dn); have HR := Lib.hid hr; clear dn hr))
  clear RP RT
  by_cases he : er = 0
  · have t1 : (er != 0) = false := bne_eq_false_iff_eq.2 he
    have HFR : Hid (∀ k, k < wn.heap.size → n = 0 ∨ ∀ p, a = some p → p.block ≠ k) := fun k hk => hfr.imp_right fun ⟨b, e, hb⟩ p hp => by
      rw [e] at hp
      obtain rfl := Option.some.inj hp
      show b ≠ k
      omega
    have HE := Lib.hid he
    clear he hfr
    have ⟨q5, f5⟩ := KK.out.cf (k := q) (o := wiO ⟨4, I1a, ⟨#[]⟩, 0, 0, Sl0, Sl0, Sl0, 0⟩) (by simp) 5 (v := .slice none 0 0) rfl
    go_upto_region 29 with fail
    generalize hwx : World.setCell _ _ _ = w13
    have HR := Lib.hid (show ReadsE Pt.cs 6 w13 a n ps by rw [← hwx]; exact HR.out.but (HFR.out q hqn) (But.set q 5 _ _))
    have KK := Lib.hid (show Kr 105 g w [(q, wiO ⟨4, I1a, ⟨#[]⟩, 0, 0, ⟨a, n, c⟩, Sl0, Sl0, 0⟩), (p, wiO Wi0)] _ w13 by rw [← hwx]; exact KK.out.setCell hA (by omega) 5 _ _ rfl)
    clear hwx q5 f5 c0
    have hln : ps.length = n := HR.out.1
    have hoA : n ≤ 200 → okA ⟨4, I1a, ⟨#[]⟩, 0, 0, ⟨a, n, c⟩, Sl0, Sl0, 0⟩ := fun h => okA_min (K := 4) (by decide) hid rfl rfl (.inr ⟨by decide, h⟩) (.inr ⟨rfl, rfl, rfl⟩) ⟨.inr rfl, z40⟩ (.inl rfl) (.inr rfl)
    have HGD : Hid (GD ↔ RF.fin = 0 ∧ okA ⟨4, I1a, ⟨#[]⟩, 0, 0, ⟨a, n, c⟩, Sl0, Sl0, 0⟩ ∧ okT ⟨4, I1a, ⟨#[]⟩, 0, 0, ⟨a, n, c⟩, Sl0, Sl0, 0⟩ ps [] []) := ⟨fun h => ⟨(HGD1.out.1 h).1, hoA (by have := (HGD1.out.1 h).2.2.1; omega), (HGD1.out.1 h).2.2.2, by intro p hp; simp at hp, fun e => absurd e (by simp), by decide +kernel⟩, fun h => HGD1.out.2 ⟨h.1, HE.out, by have := h.2.1.2.2.2.2.2.2.2.1; simp only at this; omega, h.2.2.1⟩⟩
    have HWA : Hid (WiAt w13 ⟨4, I1a, ⟨#[]⟩, 0, 0, ⟨a, n, c⟩, Sl0, Sl0, 0⟩ ps [] []) := ⟨⟨HR.out, HPW.out, hnc, hcb2⟩, recsV_nil _, slR_nil _, i00, i00, ba0⟩
    have HFAR : Hid (FarW p ⟨4, I1a, ⟨#[]⟩, 0, 0, ⟨a, n, c⟩, Sl0, Sl0, 0⟩ []) := ⟨(HFR.out p (by omega)).imp_right (fun h y hy hm => by simp only [List.mem_singleton] at hm; exact h y hy hm), far_sl0 _, far_sl0 _, by intro y hy; simp at hy⟩
    have kF := k3.1
    clear hoA HGD1 HR hts
    go_upto_region 29 with fail
    have F1 := fun wx h => rrdr_end g RF wx h kF
    have hfin : Rdr.fin RF = 0 ∨ Rdr.fin RF = 10 := by unfold Rdr.fin; split <;> simp
    rcases hfin with hf | hf
    · rw [hf] at F1
      by_cases hok2 : okA ⟨4, I1a, ⟨#[]⟩, 0, 0, ⟨a, n, c⟩, Sl0, Sl0, 0⟩ ∧ okT ⟨4, I1a, ⟨#[]⟩, 0, 0, ⟨a, n, c⟩, Sl0, Sl0, 0⟩ ps [] []
      · have CW := fun wx (h : WiAt wx ⟨4, I1a, ⟨#[]⟩, 0, 0, ⟨a, n, c⟩, Sl0, Sl0, 0⟩ ps [] []) => rcheck_w h
        rw [chkW_0 hok2.1 hok2.2] at CW
        have HG := Lib.hid (HGD.out.2 ⟨hf, hok2⟩)
        clear hok2 hf
        go_wp2_with (first
          | (go_at_call 80; refine (F1 _ KK.out.rd).mono ?_; rintro e w20 ⟨rfl, dq⟩; have KK := Lib.hid (KK.out.step (dq.rdr KK.out.rd) dq.but); have HWA := Lib.hid (HWA.out.below dq.below))
          | (go_at_call 17; refine (CW _ HWA.out).mono ?_; rintro e w21 ⟨rfl, dn⟩; have KK := Lib.hid (KK.out.below dn); have HWA := Lib.hid (HWA.out.below dn); clear dn)
          | refine wpList_load_row_w (by rfl) 33 _ rfl q rfl 33 (Wi.arr ⟨4, I1a, ⟨#[]⟩, 0, 0, ⟨a, n, c⟩, Sl0, Sl0, 0⟩) (0, 0) _ (KK.out.at_ (q, wiO ⟨4, I1a, ⟨#[]⟩, 0, 0, ⟨a, n, c⟩, Sl0, Sl0, 0⟩) (by simp)).2 Tryz.underlying33 rfl (by kernel_rfl) ?_
          | refine wpList_load_row rfl 33 _ rfl q rfl 33 (Wi.arr ⟨4, I1a, ⟨#[]⟩, 0, 0, ⟨a, n, c⟩, Sl0, Sl0, 0⟩) (0, 0) _ (KK.out.at_ (q, wiO ⟨4, I1a, ⟨#[]⟩, 0, 0, ⟨a, n, c⟩, Sl0, Sl0, 0⟩) (by simp)).2 Tryz.underlying33 rfl (by kernel_rfl) ?_
          | refine wpList_store_row rfl 33 _ _ rfl p (Wi.arr ⟨4, I1a, ⟨#[]⟩, 0, 0, ⟨a, n, c⟩, Sl0, Sl0, 0⟩) rfl rfl 33 _ (KK.out.at_ (p, wiO Wi0) (by simp)).2 (by kernel_rfl) rfl (wi_one _) ?_)
        have KF := Kr.setRow (KK.out.sub (m := [(p, wiO Wi0)]) (by simp)) trivial (by omega) (wiO ⟨4, I1a, ⟨#[]⟩, 0, 0, ⟨a, n, c⟩, Sl0, Sl0, 0⟩)
        have HWF := Lib.hid (HWA.out.but HFAR.out (But.row p _ (Wi.arr ⟨4, I1a, ⟨#[]⟩, 0, 0, ⟨a, n, c⟩, Sl0, Sl0, 0⟩)))
        refine bodyPost_ret (v := .tuple #[.agg (Wi.arr ⟨4, I1a, ⟨#[]⟩, 0, 0, ⟨a, n, c⟩, Sl0, Sl0, 0⟩), .int .i64 0]) (res_cell_tmp rfl _ _ p 33 (Wi.arr ⟨4, I1a, ⟨#[]⟩, 0, 0, ⟨a, n, c⟩, Sl0, Sl0, 0⟩) (0, 0) _ _ rfl rfl KF.hd Tryz.underlying33 rfl (by kernel_rfl)) rfl ⟨_, 0, rfl, KF.belowB (by omega), .inl ⟨HG.out, rfl, ⟨a, n, c⟩, by rw [HV1.out], by rw [HV2.out]; exact HWF.out.p⟩⟩
      · have CW := fun wx (h : WiAt wx ⟨4, I1a, ⟨#[]⟩, 0, 0, ⟨a, n, c⟩, Sl0, Sl0, 0⟩ ps [] []) => rcheck_w h
        rw [chkW_1 hok2] at CW
        have HNG : Hid (¬ GD) := fun h => hok2 (HGD.out.1 h).2
        clear hok2 hf
        go_wp2_with (first
          | (go_at_call 80; refine (F1 _ KK.out.rd).mono ?_; rintro e w20 ⟨rfl, dq⟩; have KK := Lib.hid (KK.out.step (dq.rdr KK.out.rd) dq.but); have HWA := Lib.hid (HWA.out.below dq.below))
          | (go_at_call 17; refine (CW _ HWA.out).mono ?_; rintro e w21 ⟨rfl, dn⟩; have KK := Lib.hid (KK.out.below dn); clear dn)
          | refine wpList_load_row_w (by rfl) 33 _ rfl q rfl 33 (Wi.arr ⟨4, I1a, ⟨#[]⟩, 0, 0, ⟨a, n, c⟩, Sl0, Sl0, 0⟩) (0, 0) _ (KK.out.at_ (q, wiO ⟨4, I1a, ⟨#[]⟩, 0, 0, ⟨a, n, c⟩, Sl0, Sl0, 0⟩) (by simp)).2 Tryz.underlying33 rfl (by kernel_rfl) ?_
          | refine wpList_store_row rfl 33 _ _ rfl p Wi0.arr rfl rfl 33 _ (KK.out.at_ (p, wiO Wi0) (by simp)).2 (by kernel_rfl) rfl (wi_one _) ?_)
        have KF := Kr.setRow (KK.out.sub (m := [(p, wiO Wi0)]) (by simp)) trivial (by omega) (wiO Wi0)
        refine bodyPost_ret (v := .tuple #[.agg Wi0.arr, .int .i64 10]) (res_cell_tmp rfl _ _ p 33 Wi0.arr (0, 0) _ _ rfl rfl KF.hd Tryz.underlying33 rfl (by kernel_rfl)) rfl ⟨Wi0, 10, rfl, KF.belowB (by omega), .inr ⟨HNG.out, rfl, rfl⟩⟩
    · have HNG : Hid (¬ GD) := fun h => by have := (HGD.out.1 h).1; rw [hf] at this; cases this
      have CW := fun wx (h : WiAt wx ⟨4, I1a, ⟨#[]⟩, 0, 0, ⟨a, n, c⟩, Sl0, Sl0, 0⟩ ps [] []) => rcheck_w h
      rw [hf] at F1
      clear hf
      go_wp2_with (first
        | (go_at_call 80; refine (F1 _ KK.out.rd).mono ?_; rintro e w20 ⟨rfl, dq⟩; have KK := Lib.hid (KK.out.step (dq.rdr KK.out.rd) dq.but); have HWA := Lib.hid (HWA.out.below dq.below))
        | (go_at_call 17; refine (CW _ HWA.out).mono ?_; rintro e w21 ⟨rfl, dn⟩; have KK := Lib.hid (KK.out.below dn); clear dn)
        | refine wpList_load_row_w (by rfl) 33 _ rfl q rfl 33 (Wi.arr ⟨4, I1a, ⟨#[]⟩, 0, 0, ⟨a, n, c⟩, Sl0, Sl0, 0⟩) (0, 0) _ (KK.out.at_ (q, wiO ⟨4, I1a, ⟨#[]⟩, 0, 0, ⟨a, n, c⟩, Sl0, Sl0, 0⟩) (by simp)).2 Tryz.underlying33 rfl (by kernel_rfl) ?_
        | refine wpList_store_row rfl 33 _ _ rfl p Wi0.arr rfl rfl 33 _ (KK.out.at_ (p, wiO Wi0) (by simp)).2 (by kernel_rfl) rfl (wi_one _) ?_)
      have KF := Kr.setRow (KK.out.sub (m := [(p, wiO Wi0)]) (by simp)) trivial (by omega) (wiO Wi0)
      refine bodyPost_ret (v := .tuple #[.agg Wi0.arr, .int .i64 10]) (res_cell_tmp rfl _ _ p 33 Wi0.arr (0, 0) _ _ rfl rfl KF.hd Tryz.underlying33 rfl (by kernel_rfl)) rfl ⟨Wi0, 10, rfl, KF.belowB (by omega), .inr ⟨HNG.out, rfl, rfl⟩⟩
  · have t1 : (er != 0) = true := bne_iff_ne.2 he
    have HNG : Hid (¬ GD) := fun h => he (HGD1.out.1 h).2.1
    clear he hfr
    go_wp2_with (first | refine wpList_store_row rfl 33 _ _ rfl p Wi0.arr rfl rfl 33 _ (KK.out.at_ (p, wiO Wi0) (by simp)).2 (by kernel_rfl) rfl (wi_one _) ?_)
    have KF := Kr.setRow (KK.out.sub (m := [(p, wiO Wi0)]) (by simp)) trivial (by omega) (wiO Wi0)
    refine bodyPost_ret (v := .tuple #[.agg Wi0.arr, .int .i64 10]) (res_cell_tmp rfl _ _ p 33 Wi0.arr (0, 0) _ _ rfl rfl KF.hd Tryz.underlying33 rfl (by kernel_rfl)) rfl ⟨Wi0, 10, rfl, KF.belowB (by omega), .inr ⟨HNG.out, rfl, rfl⟩⟩
end
end Go.Proofs.YtglabahbklpocaaGreat
