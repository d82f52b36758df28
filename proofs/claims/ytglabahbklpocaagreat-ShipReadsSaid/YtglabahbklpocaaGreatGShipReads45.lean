/- The reference's Read of messages: what it says, kind by kind (but for those that bear records). The reference's Read of records. -/
import Derived.Test.YtglabahbklpocaaGreatGShipReads43
import Derived.Test.YtglabahbklpocaaGreatGShipReads44
import Derived.Test.YtglabahbklpocaaGreatGShipReads7
import Derived.Test.YtglabahbklpocaaGreatGShipReads18
import Derived.Test.YtglabahbklpocaaGreatGShipReads32
namespace Go.Proofs.YtglabahbklpocaaGreat
section
open Go.RowKit Go.Deep
set_option maxRecDepth 100000
set_option linter.unusedVariables false
set_option linter.unusedSimpArgs false
attribute [local go_sem ↓] Go.wp_at_zero Go.wp_at_succ
theorem recsV_nil (w : World) : RecsV w Sl0 [] := ⟨⟨rfl, .inl rfl⟩, by simp, Nat.le_refl _, by decide⟩
theorem wiAt_nil (w : World) (x : Wi) (h1 : x.np = Sl0) (h2 : x.nr = Sl0) (h3 : x.vec = Sl0) (hf : i64' x.from_) (ht : i64' x.to_) (hs : x.series.size ≤ 9223372036854775807) : WiAt w x [] [] [] :=
  ⟨by rw [h1]; exact slP_nil w, by rw [h2]; exact recsV_nil w, by rw [h3]; exact slR_nil w, hf, ht, hs⟩
theorem i00 : i64' 0 := ⟨by decide, by decide⟩
theorem z40 : (0 : Int) ≤ 0 ∧ (0 : Int) ≤ 1099511627777 := ⟨by decide, by decide⟩
theorem ba0 : (⟨#[]⟩ : ByteArray).size ≤ 9223372036854775807 := by decide
theorem far_sl0 (F : List Nat) : farA F Sl0 := .inl rfl
theorem okA_min {K ID : Int} (hK : 1 ≤ K ∧ K ≤ 7) (hid : 0 ≤ ID ∧ ID ≤ 1099511627776) {x : Wi} (hk : x.kind = K) (hi : x.id = ID) (h3 : x.np.n = 0 ∨ ((K = 1 ∨ K = 4) ∧ x.np.n ≤ 200)) (h4 : K = 3 ∨ (x.series.size = 0 ∧ x.from_ = 0 ∧ x.to_ = 0)) (h5 : (K = 5 ∨ x.time = 0) ∧ 0 ≤ x.time ∧ x.time ≤ 1099511627777) (h6 : x.nr.n = 0 ∨ (K = 7 ∧ x.nr.n ≤ 16)) (h7 : 6 ≤ K ∨ x.vec.n = 0) : okA x := by
  refine ⟨by omega, by rw [hi]; exact hid, ?_, by rw [hk]; exact h4, by rw [hk]; exact h5.1, by omega, by rw [hk]; exact h7, by omega, by omega, h5.2⟩
  omega
theorem okT_nil (x : Wi) (h : x.kind ≠ 3) : okT x [] [] [] := ⟨by intro p hp; simp at hp, by intro p hp; simp at hp, fun e => absurd e h, by decide +kernel⟩
set_option maxHeartbeats 16000000 in
theorem rread2_any (s : ByteArray) (w : World) (hs : s.size ≤ 1000000000) (hk : ((r0 s).small 7).1 = 2) : Calls Tryz.prog 18 #[.string s] w fun e w' => ∃ (x : Wi) (E : Int), e = .returned (.tuple #[.agg x.arr, .int .i64 E]) ∧ Below w.heap.size w w' ∧ ((gd2 s ∧ E = 0 ∧ x = wi2 s) ∨ (¬ gd2 s ∧ E = 10 ∧ x = Wi0)) := by
  have hok := r0_ok hs
  obtain ⟨GD, HGD0⟩ : ∃ G, Hid (G = gd2 s) := ⟨_, rfl⟩
  obtain ⟨V, HV⟩ : ∃ G, Hid (G = wi2 s) := ⟨_, rfl⟩
  rw [← HGD0.out, ← HV.out]
  have HGD1 : Hid (GD ↔ (id1 s).2.fin = 0) := by show _ ↔ _; rw [HGD0.out]; exact gd2_iff hs hk
  have HV : Hid (V = ⟨2, (id1 s).1, ⟨#[]⟩, 0, 0, Sl0, Sl0, Sl0, 0⟩) := HV.out
  have HI1 : Hid (id1 s = ((r0 s).small 7).2.small 1099511627776) := rfl
  clear HGD0
  generalize id1 s = I1 at *
  go_enter Tryz.func18, Tryz.ntmps18
  go_upto_region 1 with fail
  generalize hw1 : World.alloc _ _ = w1
  have K1 : Kn w.heap.size w [(w.heap.size, wiO Wi0)] w1 := by rw [← hw1]; exact (Kn.start w).new' rfl (wiO Wi0)
  clear hw1
  obtain ⟨p, hp⟩ : ∃ p, w.heap.size = p := ⟨_, rfl⟩
  rw [hp] at K1 ⊢
  have hpl := K1.lt (p, wiO Wi0) (by simp)
  simp only at hpl
  go_upto_region 2 with fail
  generalize hw2 : World.alloc _ _ = w2
  have K2 : Kn p w [(w1.heap.size, rdO 105 (r0 s)), (p, wiO Wi0)] w2 := by rw [← hw2]; exact K1.new (rdO 105 (r0 s))
  have KK : Hid (Kr 105 w1.heap.size w [(p, wiO Wi0)] (r0 s) w2) := ⟨K2.hd, by intro x hx; simp only [List.mem_singleton] at hx; subst hx; exact ⟨by simp only; omega, K2.at_ (p, wiO Wi0) (by simp)⟩, But.of_below (by rw [hp]; exact K2.b)⟩
  clear hw2 K1 K2
  obtain ⟨g, hg⟩ : ∃ g, w1.heap.size = g := ⟨_, rfl⟩
  rw [hg] at KK hpl ⊢
  have k1 := Rdr.small_ok hok 7
  go_upto_region 3 with (first | (go_at_call 75; refine (rrdr_small g (r0 s) 7 _ KK.out.rd hok (by decide) (by decide)).mono ?_; rintro e w7 ⟨rfl, hn, dn⟩; have KK := Lib.hid (KK.out.step hn dn); clear hn dn) | (refine wpList_store_row rfl 33 _ _ rfl _ (Wi.arr ⟨((r0 s).small 7).1, 0, ⟨#[]⟩, 0, 0, Sl0, Sl0, Sl0, 0⟩) rfl rfl 33 _ (heap_alloc_new _ _) (by kernel_rfl) rfl (wi_one _) ?_; rw [World.setRow_alloc_new]))
  have hl7 : g < w7.heap.size := KK.out.rd.lt
  have hid := small_range k1.1 (m := 1099511627776) (by decide)
  have k2 := Rdr.small_ok k1.1 1099511627776
  obtain ⟨R1, hR1⟩ : ∃ R, ((r0 s).small 7).2 = R := ⟨_, rfl⟩
  rw [hR1] at KK k1 k2 hid
  clear hk
  generalize hw8 : World.alloc _ _ = w8
  have KK := Lib.hid (show Kr 105 g w [(w7.heap.size, wiO ⟨2, 0, ⟨#[]⟩, 0, 0, Sl0, Sl0, Sl0, 0⟩), (p, wiO Wi0)] R1 w8 by rw [← hw8]; exact KK.out.new' rfl (wiO ⟨2, 0, ⟨#[]⟩, 0, 0, Sl0, Sl0, Sl0, 0⟩))
  clear hw8
  obtain ⟨q, hq⟩ : ∃ q, w7.heap.size = q := ⟨_, rfl⟩
  rw [hq] at KK hl7 ⊢
  have hA : Apart q [(p, wiO Wi0)] := ⟨by simp only; omega, trivial⟩
  go_upto_region 4 with (first | (go_at_call 75; refine (rrdr_small g _ 1099511627776 _ KK.out.rd k1.1 (by decide) (by decide)).mono ?_; rintro e w9 ⟨rfl, hn, dn⟩; have KK := Lib.hid (KK.out.step hn dn); clear hn dn; have ⟨q1, f1⟩ := KK.out.cf (k := q) (o := wiO ⟨2, 0, ⟨#[]⟩, 0, 0, Sl0, Sl0, Sl0, 0⟩) (by simp) 1 (v := .int .i64 0) rfl))
  generalize hwx : World.setCell _ _ _ = w10
  have KK := Lib.hid (show Kr 105 g w [(q, wiO ⟨2, (R1.small 1099511627776).1, ⟨#[]⟩, 0, 0, Sl0, Sl0, Sl0, 0⟩), (p, wiO Wi0)] _ w10 by rw [← hwx]; exact KK.out.setCell hA (by omega) 1 _ _ rfl)
  clear hwx q1 f1
  obtain ⟨ID, hID⟩ : ∃ I, (R1.small 1099511627776).1 = I := ⟨_, rfl⟩
  obtain ⟨R2, hR2⟩ : ∃ R, (R1.small 1099511627776).2 = R := ⟨_, rfl⟩
  rw [hID, hR2] at KK
  rw [hID] at hid
  rw [hR2] at k2
  have c0 := KK.out.cell (k := q) (o := wiO ⟨2, ID, ⟨#[]⟩, 0, 0, Sl0, Sl0, Sl0, 0⟩) (by simp) (j := 0) (v := .int .i64 2) rfl
  rw [hR1] at HI1
  obtain ⟨I1a, I1b⟩ := I1
  have e1 : I1a = ID := (congrArg Prod.fst HI1.out).trans hID
  have e2 : I1b = R2 := (congrArg Prod.snd HI1.out).trans hR2
  subst e1 e2
  have hss : I1b.s.size ≤ 1000000000 := by rw [k2.2, k1.2]; exact hs
  clear HI1 hID hR2
  simp only at HGD1 HV
  have hoA : okA ⟨2, I1a, ⟨#[]⟩, 0, 0, Sl0, Sl0, Sl0, 0⟩ := okA_min (K := 2) (by decide) hid rfl rfl (.inl rfl) (.inr ⟨rfl, rfl, rfl⟩) ⟨.inr rfl, z40⟩ (.inl rfl) (.inr rfl)
  have hoT : okT ⟨2, I1a, ⟨#[]⟩, 0, 0, Sl0, Sl0, Sl0, 0⟩ [] [] [] := okT_nil _ (by simp)
  have HGD : Hid (GD ↔ I1b.fin = 0 ∧ okA ⟨2, I1a, ⟨#[]⟩, 0, 0, Sl0, Sl0, Sl0, 0⟩ ∧ okT ⟨2, I1a, ⟨#[]⟩, 0, 0, Sl0, Sl0, Sl0, 0⟩ [] [] []) := ⟨fun h => ⟨HGD1.out.1 h, hoA, hoT⟩, fun h => HGD1.out.2 h.1⟩
  have HWA := Lib.hid (wiAt_nil w10 ⟨2, I1a, ⟨#[]⟩, 0, 0, Sl0, Sl0, Sl0, 0⟩ rfl rfl rfl i00 i00 ba0)
  have HFAR : Hid (FarW p ⟨2, I1a, ⟨#[]⟩, 0, 0, Sl0, Sl0, Sl0, 0⟩ []) := ⟨far_sl0 _, far_sl0 _, far_sl0 _, by intro y hy; simp at hy⟩
  have kF := k2.1
  clear hoA hoT HGD1
  go_upto_region 29 with fail
  have F1 := fun wx h => rrdr_end g I1b wx h kF
  have hfin : Rdr.fin I1b = 0 ∨ Rdr.fin I1b = 10 := by unfold Rdr.fin; split <;> simp
  rcases hfin with hf | hf
  · rw [hf] at F1
    by_cases hok2 : okA ⟨2, I1a, ⟨#[]⟩, 0, 0, Sl0, Sl0, Sl0, 0⟩ ∧ okT ⟨2, I1a, ⟨#[]⟩, 0, 0, Sl0, Sl0, Sl0, 0⟩ [] [] []
    · have CW := fun wx (h : WiAt wx ⟨2, I1a, ⟨#[]⟩, 0, 0, Sl0, Sl0, Sl0, 0⟩ [] [] []) => rcheck_w h
      rw [chkW_0 hok2.1 hok2.2] at CW
      have HG := Lib.hid (HGD.out.2 ⟨hf, hok2⟩)
      clear hok2 hf
      go_wp2_with (first
        | (go_at_call 80; refine (F1 _ KK.out.rd).mono ?_; rintro e w20 ⟨rfl, dq⟩; have KK := Lib.hid (KK.out.step (dq.rdr KK.out.rd) dq.but); have HWA := Lib.hid (HWA.out.below dq.below))
        | (go_at_call 17; refine (CW _ HWA.out).mono ?_; rintro e w21 ⟨rfl, dn⟩; have KK := Lib.hid (KK.out.below dn); have HWA := Lib.hid (HWA.out.below dn); clear dn)
        | refine wpList_load_row_w (by rfl) 33 _ rfl q rfl 33 (Wi.arr ⟨2, I1a, ⟨#[]⟩, 0, 0, Sl0, Sl0, Sl0, 0⟩) (0, 0) _ (KK.out.at_ (q, wiO ⟨2, I1a, ⟨#[]⟩, 0, 0, Sl0, Sl0, Sl0, 0⟩) (by simp)).2 Tryz.underlying33 rfl (by kernel_rfl) ?_
        | refine wpList_load_row rfl 33 _ rfl q rfl 33 (Wi.arr ⟨2, I1a, ⟨#[]⟩, 0, 0, Sl0, Sl0, Sl0, 0⟩) (0, 0) _ (KK.out.at_ (q, wiO ⟨2, I1a, ⟨#[]⟩, 0, 0, Sl0, Sl0, Sl0, 0⟩) (by simp)).2 Tryz.underlying33 rfl (by kernel_rfl) ?_
        | refine wpList_store_row rfl 33 _ _ rfl p (Wi.arr ⟨2, I1a, ⟨#[]⟩, 0, 0, Sl0, Sl0, Sl0, 0⟩) rfl rfl 33 _ (KK.out.at_ (p, wiO Wi0) (by simp)).2 (by kernel_rfl) rfl (wi_one _) ?_)
      have KF := Kr.setRow (KK.out.sub (m := [(p, wiO Wi0)]) (by simp)) trivial (by omega) (wiO ⟨2, I1a, ⟨#[]⟩, 0, 0, Sl0, Sl0, Sl0, 0⟩)
      have HWF := Lib.hid (HWA.out.but HFAR.out (But.row p _ (Wi.arr ⟨2, I1a, ⟨#[]⟩, 0, 0, Sl0, Sl0, Sl0, 0⟩)))
      refine bodyPost_ret (v := .tuple #[.agg (Wi.arr ⟨2, I1a, ⟨#[]⟩, 0, 0, Sl0, Sl0, Sl0, 0⟩), .int .i64 0]) (res_cell_tmp rfl _ _ p 33 (Wi.arr ⟨2, I1a, ⟨#[]⟩, 0, 0, Sl0, Sl0, Sl0, 0⟩) (0, 0) _ _ rfl rfl KF.hd Tryz.underlying33 rfl (by kernel_rfl)) rfl ⟨_, 0, rfl, KF.belowB (by omega), .inl ⟨HG.out, rfl, HV.out.symm⟩⟩
    · have CW := fun wx (h : WiAt wx ⟨2, I1a, ⟨#[]⟩, 0, 0, Sl0, Sl0, Sl0, 0⟩ [] [] []) => rcheck_w h
      rw [chkW_1 hok2] at CW
      have HNG : Hid (¬ GD) := fun h => hok2 (HGD.out.1 h).2
      clear hok2 hf
      go_wp2_with (first
        | (go_at_call 80; refine (F1 _ KK.out.rd).mono ?_; rintro e w20 ⟨rfl, dq⟩; have KK := Lib.hid (KK.out.step (dq.rdr KK.out.rd) dq.but); have HWA := Lib.hid (HWA.out.below dq.below))
        | (go_at_call 17; refine (CW _ HWA.out).mono ?_; rintro e w21 ⟨rfl, dn⟩; have KK := Lib.hid (KK.out.below dn); clear dn)
        | refine wpList_load_row_w (by rfl) 33 _ rfl q rfl 33 (Wi.arr ⟨2, I1a, ⟨#[]⟩, 0, 0, Sl0, Sl0, Sl0, 0⟩) (0, 0) _ (KK.out.at_ (q, wiO ⟨2, I1a, ⟨#[]⟩, 0, 0, Sl0, Sl0, Sl0, 0⟩) (by simp)).2 Tryz.underlying33 rfl (by kernel_rfl) ?_
        | refine wpList_store_row rfl 33 _ _ rfl p Wi0.arr rfl rfl 33 _ (KK.out.at_ (p, wiO Wi0) (by simp)).2 (by kernel_rfl) rfl (wi_one _) ?_)
      have KF := Kr.setRow (KK.out.sub (m := [(p, wiO Wi0)]) (by simp)) trivial (by omega) (wiO Wi0)
      refine bodyPost_ret (v := .tuple #[.agg Wi0.arr, .int .i64 10]) (res_cell_tmp rfl _ _ p 33 Wi0.arr (0, 0) _ _ rfl rfl KF.hd Tryz.underlying33 rfl (by kernel_rfl)) rfl ⟨Wi0, 10, rfl, KF.belowB (by omega), .inr ⟨HNG.out, rfl, rfl⟩⟩
  · have HNG : Hid (¬ GD) := fun h => by have := (HGD.out.1 h).1; rw [hf] at this; cases this
    have CW := fun wx (h : WiAt wx ⟨2, I1a, ⟨#[]⟩, 0, 0, Sl0, Sl0, Sl0, 0⟩ [] [] []) => rcheck_w h
    rw [hf] at F1
    clear hf
    go_wp2_with (first
      | (go_at_call 80; refine (F1 _ KK.out.rd).mono ?_; rintro e w20 ⟨rfl, dq⟩; have KK := Lib.hid (KK.out.step (dq.rdr KK.out.rd) dq.but); have HWA := Lib.hid (HWA.out.below dq.below))
      | (go_at_call 17; refine (CW _ HWA.out).mono ?_; rintro e w21 ⟨rfl, dn⟩; have KK := Lib.hid (KK.out.below dn); clear dn)
      | refine wpList_load_row_w (by rfl) 33 _ rfl q rfl 33 (Wi.arr ⟨2, I1a, ⟨#[]⟩, 0, 0, Sl0, Sl0, Sl0, 0⟩) (0, 0) _ (KK.out.at_ (q, wiO ⟨2, I1a, ⟨#[]⟩, 0, 0, Sl0, Sl0, Sl0, 0⟩) (by simp)).2 Tryz.underlying33 rfl (by kernel_rfl) ?_
      | refine wpList_store_row rfl 33 _ _ rfl p Wi0.arr rfl rfl 33 _ (KK.out.at_ (p, wiO Wi0) (by simp)).2 (by kernel_rfl) rfl (wi_one _) ?_)
    have KF := Kr.setRow (KK.out.sub (m := [(p, wiO Wi0)]) (by simp)) trivial (by omega) (wiO Wi0)
    refine bodyPost_ret (v := .tuple #[.agg Wi0.arr, .int .i64 10]) (res_cell_tmp rfl _ _ p 33 Wi0.arr (0, 0) _ _ rfl rfl KF.hd Tryz.underlying33 rfl (by kernel_rfl)) rfl ⟨Wi0, 10, rfl, KF.belowB (by omega), .inr ⟨HNG.out, rfl, rfl⟩⟩
set_option maxHeartbeats 16000000 in
theorem rread5_any (s : ByteArray) (w : World) (hs : s.size ≤ 1000000000) (hk : ((r0 s).small 7).1 = 5) : Calls Tryz.prog 18 #[.string s] w fun e w' => ∃ (x : Wi) (E : Int), e = .returned (.tuple #[.agg x.arr, .int .i64 E]) ∧ Below w.heap.size w w' ∧ ((gd5 s ∧ E = 0 ∧ x = wi5 s) ∨ (¬ gd5 s ∧ E = 10 ∧ x = Wi0)) := by
  have hok := r0_ok hs
  obtain ⟨GD, HGD0⟩ : ∃ G, Hid (G = gd5 s) := ⟨_, rfl⟩
  obtain ⟨V, HV⟩ : ∃ G, Hid (G = wi5 s) := ⟨_, rfl⟩
  rw [← HGD0.out, ← HV.out]
  have HGD1 : Hid (GD ↔ ((id1 s).2.small 1099511627777).2.fin = 0) := by show _ ↔ _; rw [HGD0.out]; exact gd5_iff hs hk
  have HV : Hid (V = ⟨5, (id1 s).1, ⟨#[]⟩, 0, 0, Sl0, Sl0, Sl0, ((id1 s).2.small 1099511627777).1⟩) := HV.out
  have HI1 : Hid (id1 s = ((r0 s).small 7).2.small 1099511627776) := rfl
  clear HGD0
  generalize id1 s = I1 at *
  go_enter Tryz.func18, Tryz.ntmps18
  go_upto_region 1 with fail
  generalize hw1 : World.alloc _ _ = w1
  have K1 : Kn w.heap.size w [(w.heap.size, wiO Wi0)] w1 := by rw [← hw1]; exact (Kn.start w).new' rfl (wiO Wi0)
  clear hw1
  obtain ⟨p, hp⟩ : ∃ p, w.heap.size = p := ⟨_, rfl⟩
  rw [hp] at K1 ⊢
  have hpl := K1.lt (p, wiO Wi0) (by simp)
  simp only at hpl
  go_upto_region 2 with fail
  generalize hw2 : World.alloc _ _ = w2
  have K2 : Kn p w [(w1.heap.size, rdO 105 (r0 s)), (p, wiO Wi0)] w2 := by rw [← hw2]; exact K1.new (rdO 105 (r0 s))
  have KK : Hid (Kr 105 w1.heap.size w [(p, wiO Wi0)] (r0 s) w2) := ⟨K2.hd, by intro x hx; simp only [List.mem_singleton] at hx; subst hx; exact ⟨by simp only; omega, K2.at_ (p, wiO Wi0) (by simp)⟩, But.of_below (by rw [hp]; exact K2.b)⟩
  clear hw2 K1 K2
  obtain ⟨g, hg⟩ : ∃ g, w1.heap.size = g := ⟨_, rfl⟩
  rw [hg] at KK hpl ⊢
  have k1 := Rdr.small_ok hok 7
  go_upto_region 3 with (first | (go_at_call 75; refine (rrdr_small g (r0 s) 7 _ KK.out.rd hok (by decide) (by decide)).mono ?_; rintro e w7 ⟨rfl, hn, dn⟩; have KK := Lib.hid (KK.out.step hn dn); clear hn dn) | (refine wpList_store_row rfl 33 _ _ rfl _ (Wi.arr ⟨((r0 s).small 7).1, 0, ⟨#[]⟩, 0, 0, Sl0, Sl0, Sl0, 0⟩) rfl rfl 33 _ (heap_alloc_new _ _) (by kernel_rfl) rfl (wi_one _) ?_; rw [World.setRow_alloc_new]))
  have hl7 : g < w7.heap.size := KK.out.rd.lt
  have hid := small_range k1.1 (m := 1099511627776) (by decide)
  have k2 := Rdr.small_ok k1.1 1099511627776
  obtain ⟨R1, hR1⟩ : ∃ R, ((r0 s).small 7).2 = R := ⟨_, rfl⟩
  rw [hR1] at KK k1 k2 hid
  clear hk
  generalize hw8 : World.alloc _ _ = w8
  have KK := Lib.hid (show Kr 105 g w [(w7.heap.size, wiO ⟨5, 0, ⟨#[]⟩, 0, 0, Sl0, Sl0, Sl0, 0⟩), (p, wiO Wi0)] R1 w8 by rw [← hw8]; exact KK.out.new' rfl (wiO ⟨5, 0, ⟨#[]⟩, 0, 0, Sl0, Sl0, Sl0, 0⟩))
  clear hw8
  obtain ⟨q, hq⟩ : ∃ q, w7.heap.size = q := ⟨_, rfl⟩
  rw [hq] at KK hl7 ⊢
  have hA : Apart q [(p, wiO Wi0)] := ⟨by simp only; omega, trivial⟩
  go_upto_region 4 with (first | (go_at_call 75; refine (rrdr_small g _ 1099511627776 _ KK.out.rd k1.1 (by decide) (by decide)).mono ?_; rintro e w9 ⟨rfl, hn, dn⟩; have KK := Lib.hid (KK.out.step hn dn); clear hn dn; have ⟨q1, f1⟩ := KK.out.cf (k := q) (o := wiO ⟨5, 0, ⟨#[]⟩, 0, 0, Sl0, Sl0, Sl0, 0⟩) (by simp) 1 (v := .int .i64 0) rfl))
  generalize hwx : World.setCell _ _ _ = w10
  have KK := Lib.hid (show Kr 105 g w [(q, wiO ⟨5, (R1.small 1099511627776).1, ⟨#[]⟩, 0, 0, Sl0, Sl0, Sl0, 0⟩), (p, wiO Wi0)] _ w10 by rw [← hwx]; exact KK.out.setCell hA (by omega) 1 _ _ rfl)
  clear hwx q1 f1
  obtain ⟨ID, hID⟩ : ∃ I, (R1.small 1099511627776).1 = I := ⟨_, rfl⟩
  obtain ⟨R2, hR2⟩ : ∃ R, (R1.small 1099511627776).2 = R := ⟨_, rfl⟩
  rw [hID, hR2] at KK
  rw [hID] at hid
  rw [hR2] at k2
  have c0 := KK.out.cell (k := q) (o := wiO ⟨5, ID, ⟨#[]⟩, 0, 0, Sl0, Sl0, Sl0, 0⟩) (by simp) (j := 0) (v := .int .i64 5) rfl
  rw [hR1] at HI1
  obtain ⟨I1a, I1b⟩ := I1
  have e1 : I1a = ID := (congrArg Prod.fst HI1.out).trans hID
  have e2 : I1b = R2 := (congrArg Prod.snd HI1.out).trans hR2
  subst e1 e2
  have hss : I1b.s.size ≤ 1000000000 := by rw [k2.2, k1.2]; exact hs
  clear HI1 hID hR2
  simp only at HGD1 HV
  have k3 := Rdr.small_ok k2.1 1099511627777
  have hti := small_range k2.1 (m := 1099511627777) (by decide)
  go_upto_region 29 with (first | (go_at_call 75; refine (rrdr_small g _ 1099511627777 _ KK.out.rd k2.1 (by decide) (by decide)).mono ?_; rintro e w11 ⟨rfl, hn, dn⟩; have KK := Lib.hid (KK.out.step hn dn); clear hn dn; have ⟨q8, f8⟩ := KK.out.cf (k := q) (o := wiO ⟨5, I1a, ⟨#[]⟩, 0, 0, Sl0, Sl0, Sl0, 0⟩) (by simp) 8 (v := .int .i64 0) rfl))
  generalize hwx : World.setCell _ _ _ = w12
  have KK := Lib.hid (show Kr 105 g w [(q, wiO ⟨5, I1a, ⟨#[]⟩, 0, 0, Sl0, Sl0, Sl0, (I1b.small 1099511627777).1⟩), (p, wiO Wi0)] _ w12 by rw [← hwx]; exact KK.out.setCell hA (by omega) 8 _ _ rfl)
  clear hwx q8 f8 c0
  generalize I1b.small 1099511627777 = SM at *
  obtain ⟨T, RF⟩ := SM
  simp only at KK HGD1 HV k3 hti
  have hoA : okA ⟨5, I1a, ⟨#[]⟩, 0, 0, Sl0, Sl0, Sl0, T⟩ := okA_min (K := 5) (by decide) hid rfl rfl (.inl rfl) (.inr ⟨rfl, rfl, rfl⟩) ⟨.inl rfl, hti⟩ (.inl rfl) (.inr rfl)
  have hoT : okT ⟨5, I1a, ⟨#[]⟩, 0, 0, Sl0, Sl0, Sl0, T⟩ [] [] [] := okT_nil _ (by simp)
  have HGD : Hid (GD ↔ RF.fin = 0 ∧ okA ⟨5, I1a, ⟨#[]⟩, 0, 0, Sl0, Sl0, Sl0, T⟩ ∧ okT ⟨5, I1a, ⟨#[]⟩, 0, 0, Sl0, Sl0, Sl0, T⟩ [] [] []) := ⟨fun h => ⟨HGD1.out.1 h, hoA, hoT⟩, fun h => HGD1.out.2 h.1⟩
  have HWA := Lib.hid (wiAt_nil w12 ⟨5, I1a, ⟨#[]⟩, 0, 0, Sl0, Sl0, Sl0, T⟩ rfl rfl rfl i00 i00 ba0)
  have HFAR : Hid (FarW p ⟨5, I1a, ⟨#[]⟩, 0, 0, Sl0, Sl0, Sl0, T⟩ []) := ⟨far_sl0 _, far_sl0 _, far_sl0 _, by intro y hy; simp at hy⟩
  have kF := k3.1
  clear hoA hoT HGD1 hti
  go_upto_region 29 with fail
  have F1 := fun wx h => rrdr_end g RF wx h kF
  have hfin : Rdr.fin RF = 0 ∨ Rdr.fin RF = 10 := by unfold Rdr.fin; split <;> simp
  rcases hfin with hf | hf
  · rw [hf] at F1
    by_cases hok2 : okA ⟨5, I1a, ⟨#[]⟩, 0, 0, Sl0, Sl0, Sl0, T⟩ ∧ okT ⟨5, I1a, ⟨#[]⟩, 0, 0, Sl0, Sl0, Sl0, T⟩ [] [] []
    · have CW := fun wx (h : WiAt wx ⟨5, I1a, ⟨#[]⟩, 0, 0, Sl0, Sl0, Sl0, T⟩ [] [] []) => rcheck_w h
      rw [chkW_0 hok2.1 hok2.2] at CW
      have HG := Lib.hid (HGD.out.2 ⟨hf, hok2⟩)
      clear hok2 hf
      go_wp2_with (first
        | (go_at_call 80; refine (F1 _ KK.out.rd).mono ?_; rintro e w20 ⟨rfl, dq⟩; have KK := Lib.hid (KK.out.step (dq.rdr KK.out.rd) dq.but); have HWA := Lib.hid (HWA.out.below dq.below))
        | (go_at_call 17; refine (CW _ HWA.out).mono ?_; rintro e w21 ⟨rfl, dn⟩; have KK := Lib.hid (KK.out.below dn); have HWA := Lib.hid (HWA.out.below dn); clear dn)
        | refine wpList_load_row_w (by rfl) 33 _ rfl q rfl 33 (Wi.arr ⟨5, I1a, ⟨#[]⟩, 0, 0, Sl0, Sl0, Sl0, T⟩) (0, 0) _ (KK.out.at_ (q, wiO ⟨5, I1a, ⟨#[]⟩, 0, 0, Sl0, Sl0, Sl0, T⟩) (by simp)).2 Tryz.underlying33 rfl (by kernel_rfl) ?_
        | refine wpList_load_row rfl 33 _ rfl q rfl 33 (Wi.arr ⟨5, I1a, ⟨#[]⟩, 0, 0, Sl0, Sl0, Sl0, T⟩) (0, 0) _ (KK.out.at_ (q, wiO ⟨5, I1a, ⟨#[]⟩, 0, 0, Sl0, Sl0, Sl0, T⟩) (by simp)).2 Tryz.underlying33 rfl (by kernel_rfl) ?_
        | refine wpList_store_row rfl 33 _ _ rfl p (Wi.arr ⟨5, I1a, ⟨#[]⟩, 0, 0, Sl0, Sl0, Sl0, T⟩) rfl rfl 33 _ (KK.out.at_ (p, wiO Wi0) (by simp)).2 (by kernel_rfl) rfl (wi_one _) ?_)
      have KF := Kr.setRow (KK.out.sub (m := [(p, wiO Wi0)]) (by simp)) trivial (by omega) (wiO ⟨5, I1a, ⟨#[]⟩, 0, 0, Sl0, Sl0, Sl0, T⟩)
      have HWF := Lib.hid (HWA.out.but HFAR.out (But.row p _ (Wi.arr ⟨5, I1a, ⟨#[]⟩, 0, 0, Sl0, Sl0, Sl0, T⟩)))
      refine bodyPost_ret (v := .tuple #[.agg (Wi.arr ⟨5, I1a, ⟨#[]⟩, 0, 0, Sl0, Sl0, Sl0, T⟩), .int .i64 0]) (res_cell_tmp rfl _ _ p 33 (Wi.arr ⟨5, I1a, ⟨#[]⟩, 0, 0, Sl0, Sl0, Sl0, T⟩) (0, 0) _ _ rfl rfl KF.hd Tryz.underlying33 rfl (by kernel_rfl)) rfl ⟨_, 0, rfl, KF.belowB (by omega), .inl ⟨HG.out, rfl, HV.out.symm⟩⟩
    · have CW := fun wx (h : WiAt wx ⟨5, I1a, ⟨#[]⟩, 0, 0, Sl0, Sl0, Sl0, T⟩ [] [] []) => rcheck_w h
      rw [chkW_1 hok2] at CW
      have HNG : Hid (¬ GD) := fun h => hok2 (HGD.out.1 h).2
      clear hok2 hf
      go_wp2_with (first
        | (go_at_call 80; refine (F1 _ KK.out.rd).mono ?_; rintro e w20 ⟨rfl, dq⟩; have KK := Lib.hid (KK.out.step (dq.rdr KK.out.rd) dq.but); have HWA := Lib.hid (HWA.out.below dq.below))
        | (go_at_call 17; refine (CW _ HWA.out).mono ?_; rintro e w21 ⟨rfl, dn⟩; have KK := Lib.hid (KK.out.below dn); clear dn)
        | refine wpList_load_row_w (by rfl) 33 _ rfl q rfl 33 (Wi.arr ⟨5, I1a, ⟨#[]⟩, 0, 0, Sl0, Sl0, Sl0, T⟩) (0, 0) _ (KK.out.at_ (q, wiO ⟨5, I1a, ⟨#[]⟩, 0, 0, Sl0, Sl0, Sl0, T⟩) (by simp)).2 Tryz.underlying33 rfl (by kernel_rfl) ?_
        | refine wpList_store_row rfl 33 _ _ rfl p Wi0.arr rfl rfl 33 _ (KK.out.at_ (p, wiO Wi0) (by simp)).2 (by kernel_rfl) rfl (wi_one _) ?_)
      have KF := Kr.setRow (KK.out.sub (m := [(p, wiO Wi0)]) (by simp)) trivial (by omega) (wiO Wi0)
      refine bodyPost_ret (v := .tuple #[.agg Wi0.arr, .int .i64 10]) (res_cell_tmp rfl _ _ p 33 Wi0.arr (0, 0) _ _ rfl rfl KF.hd Tryz.underlying33 rfl (by kernel_rfl)) rfl ⟨Wi0, 10, rfl, KF.belowB (by omega), .inr ⟨HNG.out, rfl, rfl⟩⟩
  · have HNG : Hid (¬ GD) := fun h => by have := (HGD.out.1 h).1; rw [hf] at this; cases this
    have CW := fun wx (h : WiAt wx ⟨5, I1a, ⟨#[]⟩, 0, 0, Sl0, Sl0, Sl0, T⟩ [] [] []) => rcheck_w h
    rw [hf] at F1
    clear hf
    go_wp2_with (first
      | (go_at_call 80; refine (F1 _ KK.out.rd).mono ?_; rintro e w20 ⟨rfl, dq⟩; have KK := Lib.hid (KK.out.step (dq.rdr KK.out.rd) dq.but); have HWA := Lib.hid (HWA.out.below dq.below))
      | (go_at_call 17; refine (CW _ HWA.out).mono ?_; rintro e w21 ⟨rfl, dn⟩; have KK := Lib.hid (KK.out.below dn); clear dn)
      | refine wpList_load_row_w (by rfl) 33 _ rfl q rfl 33 (Wi.arr ⟨5, I1a, ⟨#[]⟩, 0, 0, Sl0, Sl0, Sl0, T⟩) (0, 0) _ (KK.out.at_ (q, wiO ⟨5, I1a, ⟨#[]⟩, 0, 0, Sl0, Sl0, Sl0, T⟩) (by simp)).2 Tryz.underlying33 rfl (by kernel_rfl) ?_
      | refine wpList_store_row rfl 33 _ _ rfl p Wi0.arr rfl rfl 33 _ (KK.out.at_ (p, wiO Wi0) (by simp)).2 (by kernel_rfl) rfl (wi_one _) ?_)
    have KF := Kr.setRow (KK.out.sub (m := [(p, wiO Wi0)]) (by simp)) trivial (by omega) (wiO Wi0)
    refine bodyPost_ret (v := .tuple #[.agg Wi0.arr, .int .i64 10]) (res_cell_tmp rfl _ _ p 33 Wi0.arr (0, 0) _ _ rfl rfl KF.hd Tryz.underlying33 rfl (by kernel_rfl)) rfl ⟨Wi0, 10, rfl, KF.belowB (by omega), .inr ⟨HNG.out, rfl, rfl⟩⟩
end
end Go.Proofs.YtglabahbklpocaaGreat
namespace Go.Proofs.YtglabahbklpocaaGreat
section
open Go.RowKit Go.Deep
set_option maxRecDepth 100000
set_option linter.unusedVariables false
set_option linter.unusedSimpArgs false
attribute [local go_sem ↓] Go.wp_at_zero Go.wp_at_succ
theorem tv_read2 {s : ByteArray} {R : Rdr} (h : okV (hdR (r0 s)).1.st = true → R = (hdR (r0 s)).2) : (((tvV R).2.fin = 0 ∧ chkR (hdR (r0 s)).1 (tvV R).1 = 0) ↔ rrOk s) ∧ (rrOk s → (tvV R).1 = (tkV (hdR (r0 s)).2).1) := by
  have t := tv_read s
  by_cases hok : okV (hdR (r0 s)).1.st = true
  · rw [h hok]
    refine ⟨⟨fun x => t.1.1 ⟨x.1, (chkR_iff _ _).1 x.2⟩, fun x => ?_⟩, t.2⟩
    have y := t.1.2 x
    exact ⟨y.1, chkR_0 y.2⟩
  · have hno : ¬ rrOk s := fun x => hok x.2.2.1
    exact ⟨⟨fun x => absurd ((chkR_iff _ _).1 x.2).2.1 hok, fun x => absurd x hno⟩, fun x => absurd x hno⟩
end
end Go.Proofs.YtglabahbklpocaaGreat
