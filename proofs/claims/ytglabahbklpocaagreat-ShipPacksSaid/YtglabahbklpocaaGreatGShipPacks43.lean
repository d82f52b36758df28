/- ship.Read of messages that cut, and of those that ask. -/
import Derived.Test.YtglabahbklpocaaGreatGShipPacks42
namespace Go.Proofs.YtglabahbklpocaaGreat
section
open Go.RowKit Go.Deep
set_option maxRecDepth 100000
set_option linter.unusedVariables false
set_option linter.unusedSimpArgs false
attribute [local go_sem ↓] Go.wp_at_zero Go.wp_at_succ
set_option maxHeartbeats 16000000 in
theorem hread5_any (s : ByteArray) (w : World) (hs : s.size ≤ 1000000000) (hk : ((r0 s).small 7).1 = 5) : Calls Tryz.prog 13 #[.string s] w fun e w' => ∃ (x : Wi) (E : Int), e = .returned (.tuple #[.agg x.arr, .int .i64 E]) ∧ Below w.heap.size w w' ∧ ((gd5 s ∧ E = 0 ∧ x = wi5 s) ∨ (¬ gd5 s ∧ E = 10 ∧ x = Wi0)) := by
  have hok := r0_ok hs
  obtain ⟨GD, HGD0⟩ : ∃ G, Hid (G = gd5 s) := ⟨_, rfl⟩
  obtain ⟨V, HV⟩ : ∃ G, Hid (G = wi5 s) := ⟨_, rfl⟩
  rw [← HGD0.out, ← HV.out]
  have HGD : Hid (GD ↔ (((id1 s).2.small 1099511627777).2.fin = 0 ∧ True ∧ vput 5 ++ vput (id1 s).1 ++ vput ((id1 s).2.small 1099511627777).1 = s)) := by show _ ↔ _; rw [HGD0.out]; unfold gd5 t5; simp
  have HV : Hid (V = ⟨5, (id1 s).1, ⟨#[]⟩, 0, 0, Sl0, Sl0, Sl0, ((id1 s).2.small 1099511627777).1⟩) := HV.out
  have HI1 : Hid (id1 s = ((r0 s).small 7).2.small 1099511627776) := rfl
  clear HGD0
  generalize id1 s = I1 at *
  go_enter Tryz.func13, Tryz.ntmps13
  go_upto_region 1 with fail
  generalize hw1 : World.alloc _ _ = w1
  have K1 : Kn w.heap.size w [(w.heap.size, wiO Wi0)] w1 := by rw [← hw1]; exact (Kn.start w).new' rfl (wiO Wi0)
  clear hw1
  obtain ⟨p, hp⟩ : ∃ p, w.heap.size = p := ⟨_, rfl⟩
  rw [hp] at K1 ⊢
  go_upto_region 2 with (first | (go_at_call 43; refine (rdr_read s _).mono ?_; rintro e w2 ⟨rfl, hr, d2⟩; have hpl := K1.lt (p, wiO Wi0) (by simp); have K2 := K1.below d2; have hl2 := hr.lt; simp only at hpl; have KK : Hid (Kr 140 w1.heap.size w [(p, wiO Wi0)] (r0 s) w2) := ⟨hr, by intro x hx; simp only [List.mem_singleton] at hx; subst hx; exact ⟨by simp only; omega, K2.at_ (p, wiO Wi0) (by simp)⟩, But.of_below (by rw [hp]; exact K2.b)⟩; clear d2 K1 K2 hr))
  obtain ⟨g, hg⟩ : ∃ g, w1.heap.size = g := ⟨_, rfl⟩
  rw [hg] at KK hl2 hpl ⊢
  generalize hw3 : World.alloc _ _ = w3
  have KK := Lib.hid (show Kr 140 g w [(w2.heap.size, capO g), (p, wiO Wi0)] (r0 s) w3 by rw [← hw3]; exact KK.out.new' rfl (capO g))
  clear hw3
  obtain ⟨cx, hcx⟩ : ∃ c, w2.heap.size = c := ⟨_, rfl⟩
  rw [hcx] at KK hl2 ⊢
  have c0 := KK.out.cell (k := cx) (o := capO g) (by simp) (j := 0) (v := .pointer (some ⟨g, 0, none⟩)) rfl
  go_upto_region 3 with fail
  have hl3 : cx < w3.heap.size := KK.out.lt (cx, capO g) (by simp)
  generalize hw4 : World.alloc _ _ = w4
  have KK := Lib.hid (show Kr 140 g w [(w3.heap.size, capF g), (cx, capO g), (p, wiO Wi0)] (r0 s) w4 by rw [← hw4]; exact KK.out.new' rfl (capF g))
  clear hw4
  obtain ⟨cs, hcs⟩ : ∃ c, w3.heap.size = c := ⟨_, rfl⟩
  rw [hcs] at KK hl3 ⊢
  go_upto_region 4 with fail
  have hl4 : cs < w4.heap.size := KK.out.lt (cs, capF g) (by simp)
  generalize hw5 : World.alloc _ _ = w5
  have KK := Lib.hid (show Kr 140 g w [(w4.heap.size, erO 0), (cs, capF g), (cx, capO g), (p, wiO Wi0)] (r0 s) w5 by rw [← hw5]; exact KK.out.new' rfl (erO 0))
  clear hw5
  obtain ⟨cb, hcb⟩ : ∃ c, w4.heap.size = c := ⟨_, rfl⟩
  rw [hcb] at KK hl4 ⊢
  go_upto_region 5 with fail
  have hl5 : cb < w5.heap.size := KK.out.lt (cb, erO 0) (by simp)
  generalize hw6 : World.alloc _ _ = w6
  have KK := Lib.hid (show Kr 140 g w [(w5.heap.size, seO cb), (cb, erO 0), (cs, capF g), (cx, capO g), (p, wiO Wi0)] (r0 s) w6 by rw [← hw6]; exact KK.out.new' rfl (seO cb))
  clear hw6
  obtain ⟨ct, hct⟩ : ∃ c, w5.heap.size = c := ⟨_, rfl⟩
  rw [hct] at KK hl5 ⊢
  have k1 := Rdr.small_ok hok 7
  clear c0
  have c0 := KK.out.cell (k := cs) (o := capF g) (by simp) (j := 0) (v := .func (.func 44) #[.pointer (some ⟨g, 0, none⟩)] #[]) rfl
  go_upto_region 7 with (first | (go_at_call 44; refine (rdr_small g (r0 s) 7 _ KK.out.rd hok (by decide) (by decide)).mono ?_; rintro e w7 ⟨rfl, hn, dn⟩; have KK := Lib.hid (KK.out.step hn dn); clear hn dn) | (refine wpList_store_row rfl 33 _ _ rfl _ (Wi.arr ⟨((r0 s).small 7).1, 0, ⟨#[]⟩, 0, 0, Sl0, Sl0, Sl0, 0⟩) rfl rfl 33 _ (heap_alloc_new _ _) (by kernel_rfl) rfl (wi_one _) ?_; rw [World.setRow_alloc_new]))
  have hl7 : ct < w7.heap.size := KK.out.lt (ct, seO cb) (by simp)
  have hid := small_range k1.1 (m := 1099511627776) (by decide)
  have k2 := Rdr.small_ok k1.1 1099511627776
  obtain ⟨R1, hR1⟩ : ∃ R, ((r0 s).small 7).2 = R := ⟨_, rfl⟩
  rw [hR1] at KK k1 k2 hid
  clear hk
  generalize hw8 : World.alloc _ _ = w8
  have KK := Lib.hid (show Kr 140 g w [(w7.heap.size, wiO ⟨5, 0, ⟨#[]⟩, 0, 0, Sl0, Sl0, Sl0, 0⟩), (ct, seO cb), (cb, erO 0), (cs, capF g), (cx, capO g), (p, wiO Wi0)] R1 w8 by rw [← hw8]; exact KK.out.new' rfl (wiO ⟨5, 0, ⟨#[]⟩, 0, 0, Sl0, Sl0, Sl0, 0⟩))
  clear hw8
  obtain ⟨q, hq⟩ : ∃ q, w7.heap.size = q := ⟨_, rfl⟩
  rw [hq] at KK hl7 ⊢
  have hA : Apart q [(ct, seO cb), (cb, erO 0), (cs, capF g), (cx, capO g), (p, wiO Wi0)] := ⟨by simp only; omega, by simp only; omega, by simp only; omega, by simp only; omega, by simp only; omega, trivial⟩
  clear c0
  have c0 := KK.out.cell (k := cs) (o := capF g) (by simp) (j := 0) (v := .func (.func 44) #[.pointer (some ⟨g, 0, none⟩)] #[]) rfl
  go_upto_region 8 with (first | (go_at_call 44; refine (rdr_small g _ 1099511627776 _ KK.out.rd k1.1 (by decide) (by decide)).mono ?_; rintro e w9 ⟨rfl, hn, dn⟩; have KK := Lib.hid (KK.out.step hn dn); clear hn dn; have ⟨q1, f1⟩ := KK.out.cf (k := q) (o := wiO ⟨5, 0, ⟨#[]⟩, 0, 0, Sl0, Sl0, Sl0, 0⟩) (by simp) 1 (v := .int .i64 0) rfl))
  generalize hwx : World.setCell _ _ _ = w10
  have KK := Lib.hid (show Kr 140 g w [(q, wiO ⟨5, (R1.small 1099511627776).1, ⟨#[]⟩, 0, 0, Sl0, Sl0, Sl0, 0⟩), (ct, seO cb), (cb, erO 0), (cs, capF g), (cx, capO g), (p, wiO Wi0)] _ w10 by rw [← hwx]; exact KK.out.setCell hA (by omega) 1 _ _ rfl)
  clear hwx c0 q1 f1
  obtain ⟨ID, hID⟩ : ∃ I, (R1.small 1099511627776).1 = I := ⟨_, rfl⟩
  obtain ⟨R2, hR2⟩ : ∃ R, (R1.small 1099511627776).2 = R := ⟨_, rfl⟩
  rw [hID, hR2] at KK
  rw [hID] at hid
  rw [hR2] at k2
  have c0 := KK.out.cell (k := q) (o := wiO ⟨5, ID, ⟨#[]⟩, 0, 0, Sl0, Sl0, Sl0, 0⟩) (by simp) (j := 0) (v := .int .i64 5) rfl
  rw [hR1] at HI1
  obtain ⟨I1a, I1b⟩ := I1
  have e1 : I1a = ID := (congrArg Prod.fst HI1.out).trans hID
  have e2 : I1b = R2 := (congrArg Prod.snd HI1.out).trans hR2
  subst e1 e2
  have hss : I1b.s.size ≤ 1000000000 := by rw [k2.2, k1.2]; exact hs
  clear HI1 hID hR2
  simp only at HGD HV
  have cs0 := KK.out.cell (k := cs) (o := capF g) (by simp) (j := 0) (v := .func (.func 44) #[.pointer (some ⟨g, 0, none⟩)] #[]) rfl
  have k3 := Rdr.small_ok k2.1 1099511627777
  have ht := small_range k2.1 (m := 1099511627777) (by decide)
  have SM := fun wx h => rdr_small g I1b 1099511627777 wx h k2.1 (by decide) (by decide)
  obtain ⟨T5, hT5⟩ : ∃ T, I1b.small 1099511627777 = T := ⟨_, rfl⟩
  rw [hT5] at HGD HV k3 ht SM
  obtain ⟨T5a, T5b⟩ := T5
  simp only at HGD HV k3 ht SM
  clear hT5
  go_upto_region 25 with (go_at_call 44; refine (SM _ KK.out.rd).mono ?_; rintro e w11 ⟨rfl, hn, dn⟩; have KK := Lib.hid (KK.out.step hn dn); clear hn dn; have ⟨q8, f8⟩ := KK.out.cf (k := q) (o := wiO ⟨5, I1a, ⟨#[]⟩, 0, 0, Sl0, Sl0, Sl0, 0⟩) (by simp) 8 (v := .int .i64 0) rfl)
  generalize hwx : World.setCell _ _ _ = w12
  have KK := Lib.hid (show Kr 140 g w [(q, wiO ⟨5, I1a, ⟨#[]⟩, 0, 0, Sl0, Sl0, Sl0, T5a⟩), (ct, seO cb), (cb, erO 0), (cs, capF g), (cx, capO g), (p, wiO Wi0)] T5b w12 by rw [← hwx]; exact KK.out.setCell hA (by omega) 8 _ _ rfl)
  clear hwx q8 f8 cs0 c0 SM
  have F1 := fun wx h => rdr_end g T5b wx h k3.1
  obtain ⟨T, E2, hTE, BB⟩ : ∃ (T : ByteArray) (E2 : Int), ((True ∧ T = vput 5 ++ vput I1a ++ vput T5a ∧ E2 = 0) ∨ (¬ True ∧ E2 = 1)) ∧ ∀ wx, Calls Tryz.prog 12 #[.agg (Wi.arr ⟨5, I1a, ⟨#[]⟩, 0, 0, Sl0, Sl0, Sl0, T5a⟩)] wx fun e w' => e = .returned (.tuple #[.string T, .int .i64 E2]) ∧ Below wx.heap.size wx w' := ⟨_, _, .inl ⟨trivial, rfl, rfl⟩, fun wx => bytes5_b I1a T5a hid ht wx⟩
  go_upto_region 25 with fail
  go_upto_region 26 with (first
    | refine wpList_load_row rfl 33 _ rfl q rfl 33 (Wi.arr ⟨5, I1a, ⟨#[]⟩, 0, 0, Sl0, Sl0, Sl0, T5a⟩) (0, 0) _ (KK.out.at_ (q, wiO ⟨5, I1a, ⟨#[]⟩, 0, 0, Sl0, Sl0, Sl0, T5a⟩) (by simp)).2 Tryz.underlying33 rfl (by kernel_rfl) ?_
    | (go_at_call 12; refine (BB _).mono ?_; rintro e w15 ⟨rfl, dn⟩; have KK := Lib.hid (KK.out.below dn); clear dn))
  clear BB
  have b0 := KK.out.cell (k := cb) (o := erO 0) (by simp) (j := 0) (v := .int .i64 0) rfl
  have cx0 := KK.out.cell (k := cx) (o := capO g) (by simp) (j := 0) (v := .pointer (some ⟨g, 0, none⟩)) rfl
  have hfin : Rdr.fin T5b = 0 ∨ Rdr.fin T5b = 10 := by unfold Rdr.fin; split <;> simp
  rcases hfin with hf | hf
  · rw [hf] at HGD F1
    rcases hTE with ⟨hl, hT, rfl⟩ | ⟨hl, rfl⟩
    · by_cases hS : T = s
      · have t2 : (T.toList != s.toList) = false := by rw [hS]; exact bne_self_eq_false _
        have t2' : (T.toList == s.toList) = true := by rw [hS]; exact beq_self_eq_true _
        have HG := Lib.hid (HGD.out.2 ⟨rfl, hl, hT.symm.trans hS⟩)
        clear hS hT hl
        go_wp2_with (first
          | (go_at_call 54; refine (F1 _ KK.out.rd).mono ?_; rintro e w20 ⟨rfl, dq⟩; have KK := Lib.hid (KK.out.step (dq.rdr KK.out.rd) dq.but); clear b0; have b0 := KK.out.cell (k := cb) (o := erO 0) (by simp) (j := 0) (v := .int .i64 0) rfl)
          | refine wpList_load_row rfl 33 _ rfl q rfl 33 (Wi.arr ⟨5, I1a, ⟨#[]⟩, 0, 0, Sl0, Sl0, Sl0, T5a⟩) (0, 0) _ (KK.out.at_ (q, wiO ⟨5, I1a, ⟨#[]⟩, 0, 0, Sl0, Sl0, Sl0, T5a⟩) (by simp)).2 Tryz.underlying33 rfl (by kernel_rfl) ?_
          | refine wpList_store_row rfl 33 _ _ rfl p (Wi.arr ⟨5, I1a, ⟨#[]⟩, 0, 0, Sl0, Sl0, Sl0, T5a⟩) rfl rfl 33 _ (KK.out.at_ (p, wiO Wi0) (by simp)).2 (by kernel_rfl) rfl (wi_one _) ?_)
        have KF := Kr.setRow (KK.out.sub (m := [(p, wiO Wi0)]) (by simp)) trivial (by omega) (wiO ⟨5, I1a, ⟨#[]⟩, 0, 0, Sl0, Sl0, Sl0, T5a⟩)
        refine bodyPost_ret (v := .tuple #[.agg (Wi.arr ⟨5, I1a, ⟨#[]⟩, 0, 0, Sl0, Sl0, Sl0, T5a⟩), .int .i64 0]) (res_cell_tmp rfl _ _ p 33 (Wi.arr ⟨5, I1a, ⟨#[]⟩, 0, 0, Sl0, Sl0, Sl0, T5a⟩) (0, 0) _ _ rfl rfl KF.hd Tryz.underlying33 rfl (by kernel_rfl)) rfl ⟨_, 0, rfl, KF.belowB (by omega), .inl ⟨HG.out, rfl, HV.out.symm⟩⟩
      · have t2 : (T.toList != s.toList) = true := bne_iff_ne.2 (fun h => hS (ba_data.2 (by rw [← Lib.toList_data, ← Lib.toList_data]; exact h)))
        have t2' : (T.toList == s.toList) = false := by simpa [bne] using t2
        have HNG : Hid (¬ GD) := fun h => hS (hT.trans (HGD.out.1 h).2.2)
        clear hS hT hl
        go_wp2_with (first
          | (go_at_call 54; refine (F1 _ KK.out.rd).mono ?_; rintro e w20 ⟨rfl, dq⟩; have KK := Lib.hid (KK.out.step (dq.rdr KK.out.rd) dq.but); clear b0; have b0 := KK.out.cell (k := cb) (o := erO 0) (by simp) (j := 0) (v := .int .i64 0) rfl)
          | refine wpList_store_row rfl 33 _ _ rfl p Wi0.arr rfl rfl 33 _ (KK.out.at_ (p, wiO Wi0) (by simp)).2 (by kernel_rfl) rfl (wi_one _) ?_)
        have KF := Kr.setRow (KK.out.sub (m := [(p, wiO Wi0)]) (by simp)) trivial (by omega) (wiO Wi0)
        refine bodyPost_ret (v := .tuple #[.agg Wi0.arr, .int .i64 10]) (res_cell_tmp rfl _ _ p 33 Wi0.arr (0, 0) _ _ rfl rfl KF.hd Tryz.underlying33 rfl (by kernel_rfl)) rfl ⟨Wi0, 10, rfl, KF.belowB (by omega), .inr ⟨HNG.out, rfl, rfl⟩⟩
    · have HNG : Hid (¬ GD) := fun h => hl (HGD.out.1 h).2.1
      clear hl
      go_wp2_with (first
        | (go_at_call 54; refine (F1 _ KK.out.rd).mono ?_; rintro e w20 ⟨rfl, dq⟩; have KK := Lib.hid (KK.out.step (dq.rdr KK.out.rd) dq.but); clear b0; have b0 := KK.out.cell (k := cb) (o := erO 0) (by simp) (j := 0) (v := .int .i64 0) rfl)
        | refine wpList_store_row rfl 33 _ _ rfl p Wi0.arr rfl rfl 33 _ (KK.out.at_ (p, wiO Wi0) (by simp)).2 (by kernel_rfl) rfl (wi_one _) ?_)
      have KF := Kr.setRow (KK.out.sub (m := [(p, wiO Wi0)]) (by simp)) trivial (by omega) (wiO Wi0)
      refine bodyPost_ret (v := .tuple #[.agg Wi0.arr, .int .i64 10]) (res_cell_tmp rfl _ _ p 33 Wi0.arr (0, 0) _ _ rfl rfl KF.hd Tryz.underlying33 rfl (by kernel_rfl)) rfl ⟨Wi0, 10, rfl, KF.belowB (by omega), .inr ⟨HNG.out, rfl, rfl⟩⟩
  · rw [hf] at HGD F1
    have HNG : Hid (¬ GD) := fun h => by have := (HGD.out.1 h).1; cases this
    clear hTE
    go_wp2_with (first
      | (go_at_call 54; refine (F1 _ KK.out.rd).mono ?_; rintro e w20 ⟨rfl, dq⟩; have KK := Lib.hid (KK.out.step (dq.rdr KK.out.rd) dq.but); clear b0; have b0 := KK.out.cell (k := cb) (o := erO 0) (by simp) (j := 0) (v := .int .i64 0) rfl)
      | refine wpList_store_row rfl 33 _ _ rfl p Wi0.arr rfl rfl 33 _ (KK.out.at_ (p, wiO Wi0) (by simp)).2 (by kernel_rfl) rfl (wi_one _) ?_)
    have KF := Kr.setRow (KK.out.sub (m := [(p, wiO Wi0)]) (by simp)) trivial (by omega) (wiO Wi0)
    refine bodyPost_ret (v := .tuple #[.agg Wi0.arr, .int .i64 10]) (res_cell_tmp rfl _ _ p 33 Wi0.arr (0, 0) _ _ rfl rfl KF.hd Tryz.underlying33 rfl (by kernel_rfl)) rfl ⟨Wi0, 10, rfl, KF.belowB (by omega), .inr ⟨HNG.out, rfl, rfl⟩⟩
set_option maxHeartbeats 16000000 in
theorem hread3_any (s : ByteArray) (w : World) (hs : s.size ≤ 1000000000) (hk : ((r0 s).small 7).1 = 3) : Calls Tryz.prog 13 #[.string s] w fun e w' => ∃ (x : Wi) (E : Int), e = .returned (.tuple #[.agg x.arr, .int .i64 E]) ∧ Below w.heap.size w w' ∧ ((gd3 s ∧ E = 0 ∧ x = wi3 s) ∨ (¬ gd3 s ∧ E = 10 ∧ x = Wi0)) := by
  have hok := r0_ok hs
  obtain ⟨GD, HGD0⟩ : ∃ G, Hid (G = gd3 s) := ⟨_, rfl⟩
  obtain ⟨V, HV⟩ : ∃ G, Hid (G = wi3 s) := ⟨_, rfl⟩
  rw [← HGD0.out, ← HV.out]
  have HGD : Hid (GD ↔ ((((id1 s).2.text.2.small 1099511627777).2.small 1099511627777).2.fin = 0 ∧ (nameV (id1 s).2.text.1 = true ∧ spanV ((id1 s).2.text.2.small 1099511627777).1 (((id1 s).2.text.2.small 1099511627777).2.small 1099511627777).1 = true) ∧ vput 3 ++ vput (id1 s).1 ++ (vtext (id1 s).2.text.1 ++ vput ((id1 s).2.text.2.small 1099511627777).1 ++ vput (((id1 s).2.text.2.small 1099511627777).2.small 1099511627777).1) = s)) := by show _ ↔ _; rw [HGD0.out]; exact Iff.rfl
  have HV : Hid (V = ⟨3, (id1 s).1, (id1 s).2.text.1, ((id1 s).2.text.2.small 1099511627777).1, (((id1 s).2.text.2.small 1099511627777).2.small 1099511627777).1, Sl0, Sl0, Sl0, 0⟩) := HV.out
  have HI1 : Hid (id1 s = ((r0 s).small 7).2.small 1099511627776) := rfl
  clear HGD0
  generalize id1 s = I1 at *
  go_enter Tryz.func13, Tryz.ntmps13
  go_upto_region 1 with fail
  generalize hw1 : World.alloc _ _ = w1
  have K1 : Kn w.heap.size w [(w.heap.size, wiO Wi0)] w1 := by rw [← hw1]; exact (Kn.start w).new' rfl (wiO Wi0)
  clear hw1
  obtain ⟨p, hp⟩ : ∃ p, w.heap.size = p := ⟨_, rfl⟩
  rw [hp] at K1 ⊢
  go_upto_region 2 with (first | (go_at_call 43; refine (rdr_read s _).mono ?_; rintro e w2 ⟨rfl, hr, d2⟩; have hpl := K1.lt (p, wiO Wi0) (by simp); have K2 := K1.below d2; have hl2 := hr.lt; simp only at hpl; have KK : Hid (Kr 140 w1.heap.size w [(p, wiO Wi0)] (r0 s) w2) := ⟨hr, by intro x hx; simp only [List.mem_singleton] at hx; subst hx; exact ⟨by simp only; omega, K2.at_ (p, wiO Wi0) (by simp)⟩, But.of_below (by rw [hp]; exact K2.b)⟩; clear d2 K1 K2 hr))
  obtain ⟨g, hg⟩ : ∃ g, w1.heap.size = g := ⟨_, rfl⟩
  rw [hg] at KK hl2 hpl ⊢
  generalize hw3 : World.alloc _ _ = w3
  have KK := Lib.hid (show Kr 140 g w [(w2.heap.size, capO g), (p, wiO Wi0)] (r0 s) w3 by rw [← hw3]; exact KK.out.new' rfl (capO g))
  clear hw3
  obtain ⟨cx, hcx⟩ : ∃ c, w2.heap.size = c := ⟨_, rfl⟩
  rw [hcx] at KK hl2 ⊢
  have c0 := KK.out.cell (k := cx) (o := capO g) (by simp) (j := 0) (v := .pointer (some ⟨g, 0, none⟩)) rfl
  go_upto_region 3 with fail
  have hl3 : cx < w3.heap.size := KK.out.lt (cx, capO g) (by simp)
  generalize hw4 : World.alloc _ _ = w4
  have KK := Lib.hid (show Kr 140 g w [(w3.heap.size, capF g), (cx, capO g), (p, wiO Wi0)] (r0 s) w4 by rw [← hw4]; exact KK.out.new' rfl (capF g))
  clear hw4
  obtain ⟨cs, hcs⟩ : ∃ c, w3.heap.size = c := ⟨_, rfl⟩
  rw [hcs] at KK hl3 ⊢
  go_upto_region 4 with fail
  have hl4 : cs < w4.heap.size := KK.out.lt (cs, capF g) (by simp)
  generalize hw5 : World.alloc _ _ = w5
  have KK := Lib.hid (show Kr 140 g w [(w4.heap.size, erO 0), (cs, capF g), (cx, capO g), (p, wiO Wi0)] (r0 s) w5 by rw [← hw5]; exact KK.out.new' rfl (erO 0))
  clear hw5
  obtain ⟨cb, hcb⟩ : ∃ c, w4.heap.size = c := ⟨_, rfl⟩
  rw [hcb] at KK hl4 ⊢
  go_upto_region 5 with fail
  have hl5 : cb < w5.heap.size := KK.out.lt (cb, erO 0) (by simp)
  generalize hw6 : World.alloc _ _ = w6
  have KK := Lib.hid (show Kr 140 g w [(w5.heap.size, seO cb), (cb, erO 0), (cs, capF g), (cx, capO g), (p, wiO Wi0)] (r0 s) w6 by rw [← hw6]; exact KK.out.new' rfl (seO cb))
  clear hw6
  obtain ⟨ct, hct⟩ : ∃ c, w5.heap.size = c := ⟨_, rfl⟩
  rw [hct] at KK hl5 ⊢
  have k1 := Rdr.small_ok hok 7
  clear c0
  have c0 := KK.out.cell (k := cs) (o := capF g) (by simp) (j := 0) (v := .func (.func 44) #[.pointer (some ⟨g, 0, none⟩)] #[]) rfl
  go_upto_region 7 with (first | (go_at_call 44; refine (rdr_small g (r0 s) 7 _ KK.out.rd hok (by decide) (by decide)).mono ?_; rintro e w7 ⟨rfl, hn, dn⟩; have KK := Lib.hid (KK.out.step hn dn); clear hn dn) | (refine wpList_store_row rfl 33 _ _ rfl _ (Wi.arr ⟨((r0 s).small 7).1, 0, ⟨#[]⟩, 0, 0, Sl0, Sl0, Sl0, 0⟩) rfl rfl 33 _ (heap_alloc_new _ _) (by kernel_rfl) rfl (wi_one _) ?_; rw [World.setRow_alloc_new]))
  have hl7 : ct < w7.heap.size := KK.out.lt (ct, seO cb) (by simp)
  have hid := small_range k1.1 (m := 1099511627776) (by decide)
  have k2 := Rdr.small_ok k1.1 1099511627776
  obtain ⟨R1, hR1⟩ : ∃ R, ((r0 s).small 7).2 = R := ⟨_, rfl⟩
  rw [hR1] at KK k1 k2 hid
  clear hk
  generalize hw8 : World.alloc _ _ = w8
  have KK := Lib.hid (show Kr 140 g w [(w7.heap.size, wiO ⟨3, 0, ⟨#[]⟩, 0, 0, Sl0, Sl0, Sl0, 0⟩), (ct, seO cb), (cb, erO 0), (cs, capF g), (cx, capO g), (p, wiO Wi0)] R1 w8 by rw [← hw8]; exact KK.out.new' rfl (wiO ⟨3, 0, ⟨#[]⟩, 0, 0, Sl0, Sl0, Sl0, 0⟩))
  clear hw8
  obtain ⟨q, hq⟩ : ∃ q, w7.heap.size = q := ⟨_, rfl⟩
  rw [hq] at KK hl7 ⊢
  have hA : Apart q [(ct, seO cb), (cb, erO 0), (cs, capF g), (cx, capO g), (p, wiO Wi0)] := ⟨by simp only; omega, by simp only; omega, by simp only; omega, by simp only; omega, by simp only; omega, trivial⟩
  clear c0
  have c0 := KK.out.cell (k := cs) (o := capF g) (by simp) (j := 0) (v := .func (.func 44) #[.pointer (some ⟨g, 0, none⟩)] #[]) rfl
  go_upto_region 8 with (first | (go_at_call 44; refine (rdr_small g _ 1099511627776 _ KK.out.rd k1.1 (by decide) (by decide)).mono ?_; rintro e w9 ⟨rfl, hn, dn⟩; have KK := Lib.hid (KK.out.step hn dn); clear hn dn; have ⟨q1, f1⟩ := KK.out.cf (k := q) (o := wiO ⟨3, 0, ⟨#[]⟩, 0, 0, Sl0, Sl0, Sl0, 0⟩) (by simp) 1 (v := .int .i64 0) rfl))
  generalize hwx : World.setCell _ _ _ = w10
  have KK := Lib.hid (show Kr 140 g w [(q, wiO ⟨3, (R1.small 1099511627776).1, ⟨#[]⟩, 0, 0, Sl0, Sl0, Sl0, 0⟩), (ct, seO cb), (cb, erO 0), (cs, capF g), (cx, capO g), (p, wiO Wi0)] _ w10 by rw [← hwx]; exact KK.out.setCell hA (by omega) 1 _ _ rfl)
  clear hwx c0 q1 f1
  obtain ⟨ID, hID⟩ : ∃ I, (R1.small 1099511627776).1 = I := ⟨_, rfl⟩
  obtain ⟨R2, hR2⟩ : ∃ R, (R1.small 1099511627776).2 = R := ⟨_, rfl⟩
  rw [hID, hR2] at KK
  rw [hID] at hid
  rw [hR2] at k2
  have c0 := KK.out.cell (k := q) (o := wiO ⟨3, ID, ⟨#[]⟩, 0, 0, Sl0, Sl0, Sl0, 0⟩) (by simp) (j := 0) (v := .int .i64 3) rfl
  rw [hR1] at HI1
  obtain ⟨I1a, I1b⟩ := I1
  have e1 : I1a = ID := (congrArg Prod.fst HI1.out).trans hID
  have e2 : I1b = R2 := (congrArg Prod.snd HI1.out).trans hR2
  subst e1 e2
  have hss : I1b.s.size ≤ 1000000000 := by rw [k2.2, k1.2]; exact hs
  clear HI1 hID hR2
  simp only at HGD HV
  have cs0 := KK.out.cell (k := cs) (o := capF g) (by simp) (j := 0) (v := .func (.func 44) #[.pointer (some ⟨g, 0, none⟩)] #[]) rfl
  have k3 := Rdr.text_ok k2.1
  have hts := text_size k2.1
  have RT := fun wx h => rdr_text g I1b wx h k2.1
  obtain ⟨TX, hTX⟩ : ∃ T, I1b.text = T := ⟨_, rfl⟩
  rw [hTX] at HGD HV RT hts k3
  obtain ⟨P, R3⟩ := TX
  simp only at HGD HV RT hts k3
  clear hTX
  have k4 := Rdr.small_ok k3.1 1099511627777
  have hf := small_range k3.1 (m := 1099511627777) (by decide)
  have SM := fun wx h => rdr_small g R3 1099511627777 wx h k3.1 (by decide) (by decide)
  obtain ⟨F5, hF5⟩ : ∃ T, R3.small 1099511627777 = T := ⟨_, rfl⟩
  rw [hF5] at HGD HV k4 hf SM
  obtain ⟨Fa, R4⟩ := F5
  simp only at HGD HV k4 hf SM
  clear hF5
  have k5 := Rdr.small_ok k4.1 1099511627777
  have ht := small_range k4.1 (m := 1099511627777) (by decide)
  have SN := fun wx h => rdr_small g R4 1099511627777 wx h k4.1 (by decide) (by decide)
  obtain ⟨T5, hT5⟩ : ∃ T, R4.small 1099511627777 = T := ⟨_, rfl⟩
  rw [hT5] at HGD HV k5 ht SN
  obtain ⟨Ta, R5⟩ := T5
  simp only at HGD HV k5 ht SN
  clear hT5
  have cx0 := KK.out.cell (k := cx) (o := capO g) (by simp) (j := 0) (v := .pointer (some ⟨g, 0, none⟩)) rfl
  go_upto_region 16 with (go_at_call 50; refine (RT _ KK.out.rd).mono ?_; rintro e w11 ⟨rfl, hn, dn⟩; have KK := Lib.hid (KK.out.step hn dn); clear hn dn; have ⟨q2, f2⟩ := KK.out.cf (k := q) (o := wiO ⟨3, I1a, ⟨#[]⟩, 0, 0, Sl0, Sl0, Sl0, 0⟩) (by simp) 2 (v := .string ⟨#[]⟩) rfl)
  generalize hwx : World.setCell _ _ _ = w12
  have KK := Lib.hid (show Kr 140 g w [(q, wiO ⟨3, I1a, P, 0, 0, Sl0, Sl0, Sl0, 0⟩), (ct, seO cb), (cb, erO 0), (cs, capF g), (cx, capO g), (p, wiO Wi0)] R3 w12 by rw [← hwx]; exact KK.out.setCell hA (by omega) 2 _ _ rfl)
  clear hwx q2 f2 cs0 c0 cx0 RT
  have cs0 := KK.out.cell (k := cs) (o := capF g) (by simp) (j := 0) (v := .func (.func 44) #[.pointer (some ⟨g, 0, none⟩)] #[]) rfl
  go_upto_region 17 with (go_at_call 44; refine (SM _ KK.out.rd).mono ?_; rintro e w13 ⟨rfl, hn, dn⟩; have KK := Lib.hid (KK.out.step hn dn); clear hn dn; have ⟨q3, f3⟩ := KK.out.cf (k := q) (o := wiO ⟨3, I1a, P, 0, 0, Sl0, Sl0, Sl0, 0⟩) (by simp) 3 (v := .int .i64 0) rfl)
  generalize hwx : World.setCell _ _ _ = w14
  have KK := Lib.hid (show Kr 140 g w [(q, wiO ⟨3, I1a, P, Fa, 0, Sl0, Sl0, Sl0, 0⟩), (ct, seO cb), (cb, erO 0), (cs, capF g), (cx, capO g), (p, wiO Wi0)] R4 w14 by rw [← hwx]; exact KK.out.setCell hA (by omega) 3 _ _ rfl)
  clear hwx q3 f3 cs0 SM
  have cs0 := KK.out.cell (k := cs) (o := capF g) (by simp) (j := 0) (v := .func (.func 44) #[.pointer (some ⟨g, 0, none⟩)] #[]) rfl
  go_upto_region 25 with (go_at_call 44; refine (SN _ KK.out.rd).mono ?_; rintro e w15 ⟨rfl, hn, dn⟩; have KK := Lib.hid (KK.out.step hn dn); clear hn dn; have ⟨q4, f4⟩ := KK.out.cf (k := q) (o := wiO ⟨3, I1a, P, Fa, 0, Sl0, Sl0, Sl0, 0⟩) (by simp) 4 (v := .int .i64 0) rfl)
  generalize hwx : World.setCell _ _ _ = w16
  have KK := Lib.hid (show Kr 140 g w [(q, wiO ⟨3, I1a, P, Fa, Ta, Sl0, Sl0, Sl0, 0⟩), (ct, seO cb), (cb, erO 0), (cs, capF g), (cx, capO g), (p, wiO Wi0)] R5 w16 by rw [← hwx]; exact KK.out.setCell hA (by omega) 4 _ _ rfl)
  clear hwx q4 f4 cs0 SN
  have F1 := fun wx h => rdr_end g R5 wx h k5.1
  obtain ⟨T, E2, hTE, BB⟩ := bytes3_b I1a hid P Fa Ta (by omega) hf ht
  go_upto_region 25 with fail
  go_upto_region 26 with (first
    | refine wpList_load_row rfl 33 _ rfl q rfl 33 (Wi.arr ⟨3, I1a, P, Fa, Ta, Sl0, Sl0, Sl0, 0⟩) (0, 0) _ (KK.out.at_ (q, wiO ⟨3, I1a, P, Fa, Ta, Sl0, Sl0, Sl0, 0⟩) (by simp)).2 Tryz.underlying33 rfl (by kernel_rfl) ?_
    | (go_at_call 12; refine (BB _).mono ?_; rintro e w15 ⟨rfl, dn⟩; have KK := Lib.hid (KK.out.below dn); clear dn))
  clear BB
  have b0 := KK.out.cell (k := cb) (o := erO 0) (by simp) (j := 0) (v := .int .i64 0) rfl
  have cx0 := KK.out.cell (k := cx) (o := capO g) (by simp) (j := 0) (v := .pointer (some ⟨g, 0, none⟩)) rfl
  have hfin : Rdr.fin R5 = 0 ∨ Rdr.fin R5 = 10 := by unfold Rdr.fin; split <;> simp
  rcases hfin with hf | hf
  · rw [hf] at HGD F1
    rcases hTE with ⟨hl, hT, rfl⟩ | ⟨hl, rfl⟩
    · by_cases hS : T = s
      · have t2 : (T.toList != s.toList) = false := by rw [hS]; exact bne_self_eq_false _
        have t2' : (T.toList == s.toList) = true := by rw [hS]; exact beq_self_eq_true _
        have HG := Lib.hid (HGD.out.2 ⟨rfl, hl, hT.symm.trans hS⟩)
        clear hS hT hl
        go_wp2_with (first
          | (go_at_call 54; refine (F1 _ KK.out.rd).mono ?_; rintro e w20 ⟨rfl, dq⟩; have KK := Lib.hid (KK.out.step (dq.rdr KK.out.rd) dq.but); clear b0; have b0 := KK.out.cell (k := cb) (o := erO 0) (by simp) (j := 0) (v := .int .i64 0) rfl)
          | refine wpList_load_row rfl 33 _ rfl q rfl 33 (Wi.arr ⟨3, I1a, P, Fa, Ta, Sl0, Sl0, Sl0, 0⟩) (0, 0) _ (KK.out.at_ (q, wiO ⟨3, I1a, P, Fa, Ta, Sl0, Sl0, Sl0, 0⟩) (by simp)).2 Tryz.underlying33 rfl (by kernel_rfl) ?_
          | refine wpList_store_row rfl 33 _ _ rfl p (Wi.arr ⟨3, I1a, P, Fa, Ta, Sl0, Sl0, Sl0, 0⟩) rfl rfl 33 _ (KK.out.at_ (p, wiO Wi0) (by simp)).2 (by kernel_rfl) rfl (wi_one _) ?_)
        have KF := Kr.setRow (KK.out.sub (m := [(p, wiO Wi0)]) (by simp)) trivial (by omega) (wiO ⟨3, I1a, P, Fa, Ta, Sl0, Sl0, Sl0, 0⟩)
        refine bodyPost_ret (v := .tuple #[.agg (Wi.arr ⟨3, I1a, P, Fa, Ta, Sl0, Sl0, Sl0, 0⟩), .int .i64 0]) (res_cell_tmp rfl _ _ p 33 (Wi.arr ⟨3, I1a, P, Fa, Ta, Sl0, Sl0, Sl0, 0⟩) (0, 0) _ _ rfl rfl KF.hd Tryz.underlying33 rfl (by kernel_rfl)) rfl ⟨_, 0, rfl, KF.belowB (by omega), .inl ⟨HG.out, rfl, HV.out.symm⟩⟩
      · have t2 : (T.toList != s.toList) = true := bne_iff_ne.2 (fun h => hS (ba_data.2 (by rw [← Lib.toList_data, ← Lib.toList_data]; exact h)))
        have t2' : (T.toList == s.toList) = false := by simpa [bne] using t2
        have HNG : Hid (¬ GD) := fun h => hS (hT.trans (HGD.out.1 h).2.2)
        clear hS hT hl
        go_wp2_with (first
          | (go_at_call 54; refine (F1 _ KK.out.rd).mono ?_; rintro e w20 ⟨rfl, dq⟩; have KK := Lib.hid (KK.out.step (dq.rdr KK.out.rd) dq.but); clear b0; have b0 := KK.out.cell (k := cb) (o := erO 0) (by simp) (j := 0) (v := .int .i64 0) rfl)
          | refine wpList_store_row rfl 33 _ _ rfl p Wi0.arr rfl rfl 33 _ (KK.out.at_ (p, wiO Wi0) (by simp)).2 (by kernel_rfl) rfl (wi_one _) ?_)
        have KF := Kr.setRow (KK.out.sub (m := [(p, wiO Wi0)]) (by simp)) trivial (by omega) (wiO Wi0)
        refine bodyPost_ret (v := .tuple #[.agg Wi0.arr, .int .i64 10]) (res_cell_tmp rfl _ _ p 33 Wi0.arr (0, 0) _ _ rfl rfl KF.hd Tryz.underlying33 rfl (by kernel_rfl)) rfl ⟨Wi0, 10, rfl, KF.belowB (by omega), .inr ⟨HNG.out, rfl, rfl⟩⟩
    · have HNG : Hid (¬ GD) := fun h => hl (HGD.out.1 h).2.1
      clear hl
      go_wp2_with (first
        | (go_at_call 54; refine (F1 _ KK.out.rd).mono ?_; rintro e w20 ⟨rfl, dq⟩; have KK := Lib.hid (KK.out.step (dq.rdr KK.out.rd) dq.but); clear b0; have b0 := KK.out.cell (k := cb) (o := erO 0) (by simp) (j := 0) (v := .int .i64 0) rfl)
        | refine wpList_store_row rfl 33 _ _ rfl p Wi0.arr rfl rfl 33 _ (KK.out.at_ (p, wiO Wi0) (by simp)).2 (by kernel_rfl) rfl (wi_one _) ?_)
      have KF := Kr.setRow (KK.out.sub (m := [(p, wiO Wi0)]) (by simp)) trivial (by omega) (wiO Wi0)
      refine bodyPost_ret (v := .tuple #[.agg Wi0.arr, .int .i64 10]) (res_cell_tmp rfl _ _ p 33 Wi0.arr (0, 0) _ _ rfl rfl KF.hd Tryz.underlying33 rfl (by kernel_rfl)) rfl ⟨Wi0, 10, rfl, KF.belowB (by omega), .inr ⟨HNG.out, rfl, rfl⟩⟩
  · rw [hf] at HGD F1
    have HNG : Hid (¬ GD) := fun h => by have := (HGD.out.1 h).1; cases this
    clear hTE
    go_wp2_with (first
      | (go_at_call 54; refine (F1 _ KK.out.rd).mono ?_; rintro e w20 ⟨rfl, dq⟩; have KK := Lib.hid (KK.out.step (dq.rdr KK.out.rd) dq.but); clear b0; have b0 := KK.out.cell (k := cb) (o := erO 0) (by simp) (j := 0) (v := .int .i64 0) rfl)
      | refine wpList_store_row rfl 33 _ _ rfl p Wi0.arr rfl rfl 33 _ (KK.out.at_ (p, wiO Wi0) (by simp)).2 (by kernel_rfl) rfl (wi_one _) ?_)
    have KF := Kr.setRow (KK.out.sub (m := [(p, wiO Wi0)]) (by simp)) trivial (by omega) (wiO Wi0)
    refine bodyPost_ret (v := .tuple #[.agg Wi0.arr, .int .i64 10]) (res_cell_tmp rfl _ _ p 33 Wi0.arr (0, 0) _ _ rfl rfl KF.hd Tryz.underlying33 rfl (by kernel_rfl)) rfl ⟨Wi0, 10, rfl, KF.belowB (by omega), .inr ⟨HNG.out, rfl, rfl⟩⟩
end
end Go.Proofs.YtglabahbklpocaaGreat
