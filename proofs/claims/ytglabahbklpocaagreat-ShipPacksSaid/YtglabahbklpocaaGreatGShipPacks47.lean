/- ship.Read of messages that bear records: the walk. Plain law: what is written is read again, kind by kind. The reference's Bytes of messages, given what its Check says: what may not be; done; cut; have. The reference's Points. The reference's Bytes of messages, given what its Check says: points; asks; vectors. The reference's Bytes of messages that ask, given what its Check says. The reference's Bytes of messages that bear records, given what its Check says. -/
import Derived.Test.YtglabahbklpocaaGreatGShipPacks46
import Derived.Test.YtglabahbklpocaaGreatGShipPacks26
import Derived.Test.YtglabahbklpocaaGreatGShipPacks21
namespace Go.Proofs.YtglabahbklpocaaGreat
section
open Go.RowKit Go.Deep
set_option maxRecDepth 100000
set_option linter.unusedVariables false
set_option linter.unusedSimpArgs false
attribute [local go_sem ↓] Go.wp_at_zero Go.wp_at_succ
set_option maxHeartbeats 16000000 in
theorem hread7_any (s : ByteArray) (w : World) (hs : s.size ≤ 1000000000) (hk : ((r0 s).small 7).1 = 7) : Calls Tryz.prog 13 #[.string s] w fun e w' => ∃ (x : Wi) (E : Int), e = .returned (.tuple #[.agg x.arr, .int .i64 E]) ∧ Below w.heap.size w w' ∧
    ((E = 0 ∧ ∃ (d d2 : Sl) (vs : List Int) (rs : List RecA), x = ⟨7, (id1 s).1, ⟨#[]⟩, 0, 0, Sl0, d2, d, 0⟩ ∧ V7 w' w.heap.size d vs d2 rs ∧ (vs = pl vs ∧ rs.length ≤ 16 ∧ okRecs rs) ∧ recsB (vput 7 ++ vput (id1 s).1 ++ (vecB vs ++ vput rs.length)) rs = s) ∨ (E = 10 ∧ x = Wi0 ∧ ¬ gd7 s)) := by
  have hok := r0_ok hs
  have GR : ∀ k, k ≤ ((id1 s).2.small 8).1.toNat → (k = ((id1 s).2.small 8).1.toNat ∨ (takeN k ((id1 s).2.small 8).2).2.left = 0) → ∀ j, j ≤ ((takeN k ((id1 s).2.small 8).2).2.small 16).1.toNat → (j = ((takeN k ((id1 s).2.small 8).2).2.small 16).1.toNat ∨ (takeR j ((takeN k ((id1 s).2.small 8).2).2.small 16).2 0).2.1.left = 0) → gd7 s → ∃ (vs : List Int) (ms : List RcM), vs = pl vs ∧ ms.length ≤ 16 ∧ okM ms ∧ s.data.toList = putB 9 7 ++ (putB 9 (id1 s).1 ++ (putB 9 (vs.length : Int) ++ (mcat vs ++ (putB 9 (ms.length : Int) ++ catR ms)))) ∧ (takeN k ((id1 s).2.small 8).2).1 = vs ∧ (takeR j ((takeN k ((id1 s).2.small 8).2).2.small 16).2 0).1 = ms ∧ (takeR j ((takeN k ((id1 s).2.small 8).2).2.small 16).2 0).2.1.fin = 0 ∧ (takeR j ((takeN k ((id1 s).2.small 8).2).2.small 16).2 0).2.2 = 0 := fun k hk hkn j hj hjn hg => by
    obtain ⟨vs, ms, h1, h2, h3, h4, h5⟩ := hg
    exact ⟨vs, ms, h1, h3, h4, h5, gd7_reads hs h1 h2 h3 h4 h5 k hk hkn j hj hjn⟩
  obtain ⟨GD, HGD0⟩ : ∃ G, Hid (G = gd7 s) := ⟨_, rfl⟩
  obtain ⟨V1, HV1⟩ : ∃ G, Hid (G = (id1 s).1) := ⟨_, rfl⟩
  rw [← HGD0.out, ← HV1.out]
  rw [← HGD0.out] at GR
  have HI1 : Hid (id1 s = ((r0 s).small 7).2.small 1099511627776) := rfl
  clear HGD0
  generalize id1 s = I1 at *
  go_enter Tryz.func13, Tryz.ntmps13
  go_upto_region 1 with fail
  generalize hw1 : World.alloc _ _ = w1
  have K1 : Kn w.heap.size w [(w.heap.size, wiO Wi0)] w1 := by rw [← hw1]; exact (Kn.start w).new' rfl (wiO Wi0)
  clear hw1
  obtain ⟨p, hp⟩ : ∃ p, w.heap.size = p := ⟨_, rfl⟩
  rw [hp] at K1 ⊢
  go_upto_region 2 with (first | (go_at_call 43; refine (rdr_read s _).mono ?_; rintro e w2 ⟨rfl, hr, d2⟩; have hpl := K1.lt (p, wiO Wi0) (by simp); have K2 := K1.below d2; have hl2 := hr.lt; simp only at hpl; have KK : Hid (Kr 140 w1.heap.size w [(p, wiO Wi0)] (r0 s) w2) := ⟨hr, by intro x hx; simp only [List.mem_singleton] at hx; subst hx; exact ⟨by simp only; omega, K2.at_ (p, wiO Wi0) (by simp)⟩, But.of_below (by rw [hp]; exact K2.b)⟩; clear d2 K1 K2 hr))
  obtain ⟨g, hg⟩ : ∃ g, w1.heap.size = g := ⟨_, rfl⟩
  rw [hg] at KK hl2 hpl ⊢
  generalize hw3 : World.alloc _ _ = w3
  have KK := Lib.hid (show Kr 140 g w [(w2.heap.size, capO g), (p, wiO Wi0)] (r0 s) w3 by rw [← hw3]; exact KK.out.new' rfl (capO g))
  clear hw3
  obtain ⟨cx, hcx⟩ : ∃ c, w2.heap.size = c := ⟨_, rfl⟩
  rw [hcx] at KK hl2 ⊢
  have c0 := KK.out.cell (k := cx) (o := capO g) (by simp) (j := 0) (v := .pointer (some ⟨g, 0, none⟩)) rfl
  go_upto_region 3 with fail
  have hl3 : cx < w3.heap.size := KK.out.lt (cx, capO g) (by simp)
  generalize hw4 : World.alloc _ _ = w4
  have KK := Lib.hid (show Kr 140 g w [(w3.heap.size, capF g), (cx, capO g), (p, wiO Wi0)] (r0 s) w4 by rw [← hw4]; exact KK.out.new' rfl (capF g))
  clear hw4
  obtain ⟨cs, hcs⟩ : ∃ c, w3.heap.size = c := ⟨_, rfl⟩
  rw [hcs] at KK hl3 ⊢
  go_upto_region 4 with fail
  have hl4 : cs < w4.heap.size := KK.out.lt (cs, capF g) (by simp)
  generalize hw5 : World.alloc _ _ = w5
  have KK := Lib.hid (show Kr 140 g w [(w4.heap.size, erO 0), (cs, capF g), (cx, capO g), (p, wiO Wi0)] (r0 s) w5 by rw [← hw5]; exact KK.out.new' rfl (erO 0))
  clear hw5
  obtain ⟨cb, hcb⟩ : ∃ c, w4.heap.size = c := ⟨_, rfl⟩
  rw [hcb] at KK hl4 ⊢
  go_upto_region 5 with fail
  have hl5 : cb < w5.heap.size := KK.out.lt (cb, erO 0) (by simp)
  generalize hw6 : World.alloc _ _ = w6
  have KK := Lib.hid (show Kr 140 g w [(w5.heap.size, seO cb), (cb, erO 0), (cs, capF g), (cx, capO g), (p, wiO Wi0)] (r0 s) w6 by rw [← hw6]; exact KK.out.new' rfl (seO cb))
  clear hw6
  obtain ⟨ct, hct⟩ : ∃ c, w5.heap.size = c := ⟨_, rfl⟩
  rw [hct] at KK hl5 ⊢
  have k1 := Rdr.small_ok hok 7
  clear c0
  have c0 := KK.out.cell (k := cs) (o := capF g) (by simp) (j := 0) (v := .func (.func 44) #[.pointer (some ⟨g, 0, none⟩)] #[]) rfl
  go_upto_region 7 with (first | (go_at_call 44; refine (rdr_small g (r0 s) 7 _ KK.out.rd hok (by decide) (by decide)).mono ?_; rintro e w7 ⟨rfl, hn, dn⟩; have KK := Lib.hid (KK.out.step hn dn); clear hn dn) | (refine wpList_store_row rfl 33 _ _ rfl _ (Wi.arr ⟨((r0 s).small 7).1, 0, ⟨#[]⟩, 0, 0, Sl0, Sl0, Sl0, 0⟩) rfl rfl 33 _ (heap_alloc_new _ _) (by kernel_rfl) rfl (wi_one _) ?_; rw [World.setRow_alloc_new]))
  have hl7 : ct < w7.heap.size := KK.out.lt (ct, seO cb) (by simp)
  have hid := small_range k1.1 (m := 1099511627776) (by decide)
  have k2 := Rdr.small_ok k1.1 1099511627776
  obtain ⟨R1, hR1⟩ : ∃ R, ((r0 s).small 7).2 = R := ⟨_, rfl⟩
  rw [hR1] at KK k1 k2 hid
  clear hk
  generalize hw8 : World.alloc _ _ = w8
  have KK := Lib.hid (show Kr 140 g w [(w7.heap.size, wiO ⟨7, 0, ⟨#[]⟩, 0, 0, Sl0, Sl0, Sl0, 0⟩), (ct, seO cb), (cb, erO 0), (cs, capF g), (cx, capO g), (p, wiO Wi0)] R1 w8 by rw [← hw8]; exact KK.out.new' rfl (wiO ⟨7, 0, ⟨#[]⟩, 0, 0, Sl0, Sl0, Sl0, 0⟩))
  clear hw8
  obtain ⟨q, hq⟩ : ∃ q, w7.heap.size = q := ⟨_, rfl⟩
  rw [hq] at KK hl7 ⊢
  have hA : Apart q [(ct, seO cb), (cb, erO 0), (cs, capF g), (cx, capO g), (p, wiO Wi0)] := ⟨by simp only; omega, by simp only; omega, by simp only; omega, by simp only; omega, by simp only; omega, trivial⟩
  clear c0
  have c0 := KK.out.cell (k := cs) (o := capF g) (by simp) (j := 0) (v := .func (.func 44) #[.pointer (some ⟨g, 0, none⟩)] #[]) rfl
  go_upto_region 8 with (first | (go_at_call 44; refine (rdr_small g _ 1099511627776 _ KK.out.rd k1.1 (by decide) (by decide)).mono ?_; rintro e w9 ⟨rfl, hn, dn⟩; have KK := Lib.hid (KK.out.step hn dn); clear hn dn; have ⟨q1, f1⟩ := KK.out.cf (k := q) (o := wiO ⟨7, 0, ⟨#[]⟩, 0, 0, Sl0, Sl0, Sl0, 0⟩) (by simp) 1 (v := .int .i64 0) rfl))
  generalize hwx : World.setCell _ _ _ = w10
  have KK := Lib.hid (show Kr 140 g w [(q, wiO ⟨7, (R1.small 1099511627776).1, ⟨#[]⟩, 0, 0, Sl0, Sl0, Sl0, 0⟩), (ct, seO cb), (cb, erO 0), (cs, capF g), (cx, capO g), (p, wiO Wi0)] _ w10 by rw [← hwx]; exact KK.out.setCell hA (by omega) 1 _ _ rfl)
  clear hwx c0 q1 f1
  obtain ⟨ID, hID⟩ : ∃ I, (R1.small 1099511627776).1 = I := ⟨_, rfl⟩
  obtain ⟨R2, hR2⟩ : ∃ R, (R1.small 1099511627776).2 = R := ⟨_, rfl⟩
  rw [hID, hR2] at KK
  rw [hID] at hid
  rw [hR2] at k2
  have c0 := KK.out.cell (k := q) (o := wiO ⟨7, ID, ⟨#[]⟩, 0, 0, Sl0, Sl0, Sl0, 0⟩) (by simp) (j := 0) (v := .int .i64 7) rfl
  rw [hR1] at HI1
  obtain ⟨I1a, I1b⟩ := I1
  have e1 : I1a = ID := (congrArg Prod.fst HI1.out).trans hID
  have e2 : I1b = R2 := (congrArg Prod.snd HI1.out).trans hR2
  subst e1 e2
  clear HI1 hID hR2
  simp only at GR HV1
  have VE := fun wx h1 h2 h3 => hvec_any cx cs g I1b wx h1 h2 (by omega) h3 k2.1
  have k8 := Rdr.small_ok k2.1 8
  have LQ := fun k => takeN_ok k8.1 k
  generalize (I1b.small 8).1.toNat = n at *
  generalize (I1b.small 8).2 = R4 at *
  have HGR := Lib.hid GR
  clear GR
  go_upto_region 24 with (go_at_call 46; refine (VE _ (KK.out.at_ (cx, capO g) (by simp)).2 (KK.out.at_ (cs, capF g) (by simp)).2 KK.out.rd).mono ?_; rintro e w11 ⟨k, a, cap, rfl, hAJ, hkk, hkn, hn, dn⟩; have hwl : ct < w10.heap.size := KK.out.lt (ct, seO cb) (by simp); have hwl2 : q < w10.heap.size := KK.out.lt (q, wiO ⟨7, I1a, ⟨#[]⟩, 0, 0, Sl0, Sl0, Sl0, 0⟩) (by simp); have hz11 := dn.size; have KK := Lib.hid (KK.out.step hn dn); have HG := hAJ.ge; have HS := hAJ.sl; have HS := Lib.hid (show SlR w11 ⟨a, k, cap⟩ (takeN k R4).1 from ⟨HS.r, HS.h1, HS.h2⟩); clear hn dn hAJ; have ⟨q7, f7⟩ := KK.out.cf (k := q) (o := wiO ⟨7, I1a, ⟨#[]⟩, 0, 0, Sl0, Sl0, Sl0, 0⟩) (by simp) 7 (v := .slice none 0 0) rfl)
  generalize hwx : World.setCell _ _ _ = w12
  have hz12 : w12.heap.size = w11.heap.size := by rw [← hwx]; simp [World.setCell]
  have HS := Lib.hid (show SlR w12 ⟨a, k, cap⟩ (takeN k R4).1 by rw [← hwx]; exact HS.out.far (fun p hp => by have := HG p hp; omega) _ _)
  have KK := Lib.hid (show Kr 140 g w [(q, wiO ⟨7, I1a, ⟨#[]⟩, 0, 0, Sl0, Sl0, ⟨a, k, cap⟩, 0⟩), (ct, seO cb), (cb, erO 0), (cs, capF g), (cx, capO g), (p, wiO Wi0)] _ w12 by rw [← hwx]; exact KK.out.setCell hA (by omega) 7 _ _ rfl)
  clear hwx q7 f7 c0 VE
  have hRok := LQ k
  have GRk := HGR.out k hkk hkn
  clear hkk hkn LQ HGR
  generalize takeN k R4 = TN at *
  obtain ⟨ds, R9⟩ := TN
  simp only at HS KK GRk hRok
  have LL := fun wx hK => hlistR_any cx ct g cb R9 0 wx (by omega) hK hRok.1
  have k16 := Rdr.small_ok hRok.1 16
  have LR := fun j => takeR_ok k16.1 0 j
  generalize (R9.small 16).1.toNat = n2 at *
  generalize (R9.small 16).2 = R10 at *
  have HGRk := Lib.hid GRk
  clear GRk
  have cx0 := KK.out.cell (k := cx) (o := capO g) (by simp) (j := 0) (v := .pointer (some ⟨g, 0, none⟩)) rfl
  have HKQ := Lib.hid ((KK.out.sub (m := [(cb, erO 0), (q, wiO ⟨7, I1a, ⟨#[]⟩, 0, 0, Sl0, Sl0, ⟨a, k, cap⟩, 0⟩), (ct, seO cb), (cs, capF g), (cx, capO g), (p, wiO Wi0)]) (by simp)).toq (cb := cb) (m := [(cx, capO g), (ct, seO cb)]) (e := 0) (by simp) (by intro x hx; simp only [List.mem_cons, List.not_mem_nil, or_false] at hx; rcases hx with rfl | rfl; exact ⟨by simp, by simp only; omega⟩; exact ⟨by simp, by simp only; omega⟩))
  go_upto_region 25 with (go_at_call 51; refine (LL _ HKQ.out).mono ?_; rintro e w13 ⟨j, a2, cap2, rs, rfl, hAP, hM, hI, hjj, hjn, hq⟩; have hz13 := hq.b.size; have HV := Lib.hid (show V7 w13 w10.heap.size ⟨a, k, cap⟩ ds ⟨a2, j, cap2⟩ rs from ⟨HS.out.but2 (fun x hx => by have := HG x hx; omega) hq.b, HG, hAP.mono (by omega), fun x hx => ⟨(hI x hx).1, fun y hy => by have := (hI x hx).2 y hy; omega⟩⟩); have KK := Lib.hid ((KK.out.sub (m := [(cb, erO 0), (q, wiO ⟨7, I1a, ⟨#[]⟩, 0, 0, Sl0, Sl0, ⟨a, k, cap⟩, 0⟩), (ct, seO cb), (cs, capF g), (cx, capO g), (p, wiO Wi0)]) (by simp)).after (by intro x hx; simp only [List.mem_cons, List.not_mem_nil, or_false] at hx; rcases hx with rfl | rfl | rfl | rfl | rfl <;> (simp only; omega)) (by omega) hq); have HM := Lib.hid hM; clear hAP hM hI hq; have ⟨q6, f6⟩ := KK.out.cf (k := q) (o := wiO ⟨7, I1a, ⟨#[]⟩, 0, 0, Sl0, Sl0, ⟨a, k, cap⟩, 0⟩) (by simp) 6 (v := .slice none 0 0) rfl)
  generalize hwx : World.setCell _ _ _ = w14
  have HV := Lib.hid (show V7 w14 w10.heap.size ⟨a, k, cap⟩ ds ⟨a2, j, cap2⟩ rs by rw [← hwx]; exact HV.out.but (But.set q 6 _ _) hwl2)
  have GRf := HGRk.out j hjj hjn
  have hRf := LR j
  clear hjj hjn LR HGRk LL HKQ HS cx0
  generalize takeR j R10 0 = TR at *
  obtain ⟨L, R, BAD⟩ := TR
  simp only at KK GRf hRf HM
  have KK := Lib.hid (show Kr 140 g w [(q, wiO ⟨7, I1a, ⟨#[]⟩, 0, 0, Sl0, ⟨a2, j, cap2⟩, ⟨a, k, cap⟩, 0⟩), (cb, erO BAD), (cx, capO g), (p, wiO Wi0)] R w14 by rw [← hwx]; exact Kr.setCell (KK.out.sub (m := [(q, wiO ⟨7, I1a, ⟨#[]⟩, 0, 0, Sl0, Sl0, ⟨a, k, cap⟩, 0⟩), (cb, erO BAD), (cx, capO g), (p, wiO Wi0)]) (by simp)) ⟨by simp only; omega, by simp only; omega, by simp only; omega, trivial⟩ (by omega) 6 _ _ rfl)
  clear hwx q6 f6
  have HGF := Lib.hid GRf
  clear GRf
  have F1 := fun wx h => rdr_end g R wx h hRf.1
  obtain ⟨T, E2, hTE, BB⟩ := bytes7_b I1a hid ds rs
  go_upto_region 26 with (first
    | refine wpList_load_row rfl 33 _ rfl q rfl 33 (Wi.arr ⟨7, I1a, ⟨#[]⟩, 0, 0, Sl0, ⟨a2, j, cap2⟩, ⟨a, k, cap⟩, 0⟩) (0, 0) _ KK.out.hd Tryz.underlying33 rfl (by kernel_rfl) ?_
    | (go_at_call 12; refine (BB ⟨a, k, cap⟩ ⟨a2, j, cap2⟩ _ HV.out.sl HV.out.recs).mono ?_; rintro e w15 ⟨rfl, dn⟩; have KK := Lib.hid (KK.out.below dn); have HV := Lib.hid (HV.out.below dn); clear dn))
  clear BB
  have b0 := KK.out.cell (k := cb) (o := erO BAD) (by simp) (j := 0) (v := .int .i64 BAD) rfl
  have cx0 := KK.out.cell (k := cx) (o := capO g) (by simp) (j := 0) (v := .pointer (some ⟨g, 0, none⟩)) rfl
  have hfin : R.fin = 0 ∨ R.fin = 10 := by unfold Rdr.fin; split <;> simp
  rcases hfin with hf | hf
  · rw [hf] at HGF F1
    by_cases hb : BAD = 0
    · have t1 : (BAD != 0) = false := bne_eq_false_iff_eq.2 hb
      rcases hTE with ⟨hl, hT, rfl⟩ | ⟨hl, rfl⟩
      · by_cases hS : T = s
        · have t2 : (T.toList != s.toList) = false := by rw [hS]; exact bne_self_eq_false _
          have t2' : (T.toList == s.toList) = true := by rw [hS]; exact beq_self_eq_true _
          have HGG := Lib.hid (And.intro hl (hT.symm.trans hS))
          clear hS hT hl hb
          go_wp2_with (first
            | (go_at_call 54; refine (F1 _ KK.out.rd).mono ?_; rintro e w20 ⟨rfl, dq⟩; have KK := Lib.hid (KK.out.step (dq.rdr KK.out.rd) dq.but); have HV := Lib.hid (HV.out.below dq.below); clear b0; have b0 := KK.out.cell (k := cb) (o := erO BAD) (by simp) (j := 0) (v := .int .i64 BAD) rfl)
            | refine wpList_load_row rfl 33 _ rfl q rfl 33 (Wi.arr ⟨7, I1a, ⟨#[]⟩, 0, 0, Sl0, ⟨a2, j, cap2⟩, ⟨a, k, cap⟩, 0⟩) (0, 0) _ KK.out.hd Tryz.underlying33 rfl (by kernel_rfl) ?_
            | refine wpList_store_row rfl 33 _ _ rfl p (Wi.arr ⟨7, I1a, ⟨#[]⟩, 0, 0, Sl0, ⟨a2, j, cap2⟩, ⟨a, k, cap⟩, 0⟩) rfl rfl 33 _ (KK.out.at_ (p, wiO Wi0) (by simp)).2 (by kernel_rfl) rfl (wi_one _) ?_)
          have KF := Kr.setRow (KK.out.sub (m := [(p, wiO Wi0)]) (by simp)) trivial (by omega) (wiO ⟨7, I1a, ⟨#[]⟩, 0, 0, Sl0, ⟨a2, j, cap2⟩, ⟨a, k, cap⟩, 0⟩)
          have HV := Lib.hid (HV.out.but (But.row p _ (Wi.arr ⟨7, I1a, ⟨#[]⟩, 0, 0, Sl0, ⟨a2, j, cap2⟩, ⟨a, k, cap⟩, 0⟩)) (by omega))
          refine bodyPost_ret (v := .tuple #[.agg (Wi.arr ⟨7, I1a, ⟨#[]⟩, 0, 0, Sl0, ⟨a2, j, cap2⟩, ⟨a, k, cap⟩, 0⟩), .int .i64 0]) (res_cell_tmp rfl _ _ p 33 (Wi.arr ⟨7, I1a, ⟨#[]⟩, 0, 0, Sl0, ⟨a2, j, cap2⟩, ⟨a, k, cap⟩, 0⟩) (0, 0) _ _ rfl rfl KF.hd Tryz.underlying33 rfl (by kernel_rfl)) rfl ⟨_, 0, rfl, KF.belowB (by omega), .inl ⟨rfl, ⟨a, k, cap⟩, ⟨a2, j, cap2⟩, ds, rs, by rw [HV1.out], ⟨HV.out.sl, fun x hx => by have := HV.out.hg x hx; omega, HV.out.ap.mono (by omega), fun x hx => ⟨(HV.out.rs x hx).1, fun y hy => by have := (HV.out.rs x hx).2 y hy; omega⟩⟩, HGG.out.1, by rw [HV1.out]; exact HGG.out.2⟩⟩
        · have t2 : (T.toList != s.toList) = true := bne_iff_ne.2 (fun h => hS (ba_data.2 (by rw [← Lib.toList_data, ← Lib.toList_data]; exact h)))
          have t2' : (T.toList == s.toList) = false := by simpa [bne] using t2
          have HNG : Hid (¬ GD) := fun h => by
            obtain ⟨vs, ms, g1, g2, g3, g4, g5, g6, _⟩ := HGF.out h
            subst g5
            rw [← HM.out] at g6
            subst g6
            exact hS (ba_data.2 ((gd7_of hl.1 hT.symm).trans g4.symm))
          clear hS hT hl hb
          go_wp2_with (first
            | (go_at_call 54; refine (F1 _ KK.out.rd).mono ?_; rintro e w20 ⟨rfl, dq⟩; have KK := Lib.hid (KK.out.step (dq.rdr KK.out.rd) dq.but); clear b0; have b0 := KK.out.cell (k := cb) (o := erO BAD) (by simp) (j := 0) (v := .int .i64 BAD) rfl)
            | refine wpList_store_row rfl 33 _ _ rfl p Wi0.arr rfl rfl 33 _ (KK.out.at_ (p, wiO Wi0) (by simp)).2 (by kernel_rfl) rfl (wi_one _) ?_)
          have KF := Kr.setRow (KK.out.sub (m := [(p, wiO Wi0)]) (by simp)) trivial (by omega) (wiO Wi0)
          refine bodyPost_ret (v := .tuple #[.agg Wi0.arr, .int .i64 10]) (res_cell_tmp rfl _ _ p 33 Wi0.arr (0, 0) _ _ rfl rfl KF.hd Tryz.underlying33 rfl (by kernel_rfl)) rfl ⟨Wi0, 10, rfl, KF.belowB (by omega), .inr ⟨rfl, rfl, HNG.out⟩⟩
      · have HNG : Hid (¬ GD) := fun h => by
          obtain ⟨vs, ms, g1, g2, g3, g4, g5, g6, _⟩ := HGF.out h
          subst g5
          rw [← HM.out] at g6
          subst g6
          exact hl ⟨g1, by simpa using g2, fun x hx => (g3 x.m (List.mem_map_of_mem hx)).1⟩
        clear hl hb
        go_wp2_with (first
          | (go_at_call 54; refine (F1 _ KK.out.rd).mono ?_; rintro e w20 ⟨rfl, dq⟩; have KK := Lib.hid (KK.out.step (dq.rdr KK.out.rd) dq.but); clear b0; have b0 := KK.out.cell (k := cb) (o := erO BAD) (by simp) (j := 0) (v := .int .i64 BAD) rfl)
          | refine wpList_store_row rfl 33 _ _ rfl p Wi0.arr rfl rfl 33 _ (KK.out.at_ (p, wiO Wi0) (by simp)).2 (by kernel_rfl) rfl (wi_one _) ?_)
        have KF := Kr.setRow (KK.out.sub (m := [(p, wiO Wi0)]) (by simp)) trivial (by omega) (wiO Wi0)
        refine bodyPost_ret (v := .tuple #[.agg Wi0.arr, .int .i64 10]) (res_cell_tmp rfl _ _ p 33 Wi0.arr (0, 0) _ _ rfl rfl KF.hd Tryz.underlying33 rfl (by kernel_rfl)) rfl ⟨Wi0, 10, rfl, KF.belowB (by omega), .inr ⟨rfl, rfl, HNG.out⟩⟩
    · have t1 : (BAD != 0) = true := bne_iff_ne.2 hb
      have HNG : Hid (¬ GD) := fun h => by
        obtain ⟨vs, ms, g1, g2, g3, g4, g5, g6, g7, g8⟩ := HGF.out h
        exact hb g8
      clear hb hTE
      go_wp2_with (first
        | (go_at_call 54; refine (F1 _ KK.out.rd).mono ?_; rintro e w20 ⟨rfl, dq⟩; have KK := Lib.hid (KK.out.step (dq.rdr KK.out.rd) dq.but); clear b0; have b0 := KK.out.cell (k := cb) (o := erO BAD) (by simp) (j := 0) (v := .int .i64 BAD) rfl)
        | refine wpList_store_row rfl 33 _ _ rfl p Wi0.arr rfl rfl 33 _ (KK.out.at_ (p, wiO Wi0) (by simp)).2 (by kernel_rfl) rfl (wi_one _) ?_)
      have KF := Kr.setRow (KK.out.sub (m := [(p, wiO Wi0)]) (by simp)) trivial (by omega) (wiO Wi0)
      refine bodyPost_ret (v := .tuple #[.agg Wi0.arr, .int .i64 10]) (res_cell_tmp rfl _ _ p 33 Wi0.arr (0, 0) _ _ rfl rfl KF.hd Tryz.underlying33 rfl (by kernel_rfl)) rfl ⟨Wi0, 10, rfl, KF.belowB (by omega), .inr ⟨rfl, rfl, HNG.out⟩⟩
  · rw [hf] at HGF F1
    have HNG : Hid (¬ GD) := fun h => by
      obtain ⟨vs, ms, g1, g2, g3, g4, g5, g6, g7, g8⟩ := HGF.out h
      cases g7
    clear hTE
    go_wp2_with (first
      | (go_at_call 54; refine (F1 _ KK.out.rd).mono ?_; rintro e w20 ⟨rfl, dq⟩; have KK := Lib.hid (KK.out.step (dq.rdr KK.out.rd) dq.but); clear b0; have b0 := KK.out.cell (k := cb) (o := erO BAD) (by simp) (j := 0) (v := .int .i64 BAD) rfl)
      | refine wpList_store_row rfl 33 _ _ rfl p Wi0.arr rfl rfl 33 _ (KK.out.at_ (p, wiO Wi0) (by simp)).2 (by kernel_rfl) rfl (wi_one _) ?_)
    have KF := Kr.setRow (KK.out.sub (m := [(p, wiO Wi0)]) (by simp)) trivial (by omega) (wiO Wi0)
    refine bodyPost_ret (v := .tuple #[.agg Wi0.arr, .int .i64 10]) (res_cell_tmp rfl _ _ p 33 Wi0.arr (0, 0) _ _ rfl rfl KF.hd Tryz.underlying33 rfl (by kernel_rfl)) rfl ⟨Wi0, 10, rfl, KF.belowB (by omega), .inr ⟨rfl, rfl, HNG.out⟩⟩
end
end Go.Proofs.YtglabahbklpocaaGreat
namespace Go.Proofs.YtglabahbklpocaaGreat
section
open Go.RowKit Go.Deep
set_option maxRecDepth 100000
set_option linter.unusedVariables false
set_option linter.unusedSimpArgs false
theorem gd2_bytes {s : ByteArray} (hs : s.size ≤ 1000000000) (id : Int) (hid : 0 ≤ id ∧ id ≤ 1099511627776) (h : vput 2 ++ vput id = s) : ((r0 s).small 7).1 = 2 ∧ gd2 s ∧ wi2 s = ⟨2, id, ⟨#[]⟩, 0, 0, Sl0, Sl0, Sl0, 0⟩ := by
  have hd : s.data.toList = putB 9 2 ++ (putB 9 id ++ []) := by
    rw [← h]; simp only [ByteArray.data_append, Array.toList_append, vput_data, List.append_nil]
  obtain ⟨a1, a2, a3, a4⟩ := head_at hs 2 id (by omega) hid _ hd
  refine ⟨a1, ⟨(fin_rest (id1_ok hs).1).2 ⟨a3, a4⟩, by rw [a2]; exact h⟩, by unfold wi2; rw [a2]⟩
theorem gd5_bytes {s : ByteArray} (hs : s.size ≤ 1000000000) (id t : Int) (hid : 0 ≤ id ∧ id ≤ 1099511627776) (ht : 0 ≤ t ∧ t ≤ 1099511627777) (h : vput 5 ++ vput id ++ vput t = s) : ((r0 s).small 7).1 = 5 ∧ gd5 s ∧ wi5 s = ⟨5, id, ⟨#[]⟩, 0, 0, Sl0, Sl0, Sl0, t⟩ := by
  have hd : s.data.toList = putB 9 5 ++ (putB 9 id ++ (putB 9 t ++ [])) := by
    rw [← h]; simp only [ByteArray.data_append, Array.toList_append, vput_data, List.append_nil, List.append_assoc]
  obtain ⟨a1, a2, a3, a4⟩ := head_at hs 5 id (by omega) hid _ hd
  obtain ⟨b1, b2, b3⟩ := small_at (most := 1099511627777) (id1_ok hs).1 a3 a4 ht.1 ht.2 (by decide)
  have k := Rdr.small_ok (id1_ok hs).1 1099511627777
  have e : (t5 s).1 = t := b1
  refine ⟨a1, ⟨(fin_rest k.1).2 ⟨b2, b3⟩, by rw [a2, e]; exact h⟩, by unfold wi5; rw [a2, e]⟩
theorem gd3_bytes {s : ByteArray} (hs : s.size ≤ 1000000000) (id : Int) (n : ByteArray) (f t : Int) (hid : 0 ≤ id ∧ id ≤ 1099511627776) (hn : nameV n = true) (hsp : spanV f t = true) (h : vput 3 ++ vput id ++ (vtext n ++ vput f ++ vput t) = s) : ((r0 s).small 7).1 = 3 ∧ gd3 s ∧ wi3 s = ⟨3, id, n, f, t, Sl0, Sl0, Sl0, 0⟩ := by
  have hsp' : 0 ≤ f ∧ f ≤ t ∧ t ≤ 1099511627777 := by have := hsp; unfold spanV at this; simp at this; omega
  have hd : s.data.toList = putB 9 3 ++ (putB 9 id ++ (tb n ++ (putB 9 f ++ (putB 9 t ++ [])))) := by
    rw [← h]; simp only [ByteArray.data_append, Array.toList_append, vput_data, vtext_data, List.append_nil, List.append_assoc]
  obtain ⟨a1, a2, a3, a4⟩ := head_at hs 3 id (by omega) hid _ hd
  have k0 := (id1_ok hs).1
  obtain ⟨b1, b2, b3⟩ := text_at k0 a3 a4
  have k1 := Rdr.text_ok k0
  obtain ⟨c1, c2, c3⟩ := small_at (most := 1099511627777) k1.1 b2 b3 hsp'.1 (by omega) (by decide)
  have k2 := Rdr.small_ok k1.1 1099511627777
  obtain ⟨d1, d2, d3⟩ := small_at (most := 1099511627777) k2.1 c2 c3 (by omega) hsp'.2.2 (by decide)
  have k3 := Rdr.small_ok k2.1 1099511627777
  have e1 : (tx1 s).1 = n := b1
  have e2 : (f3 s).1 = f := c1
  have e3 : (t3 s).1 = t := d1
  refine ⟨a1, ⟨(fin_rest k3.1).2 ⟨d2, d3⟩, by rw [e1, e2, e3]; exact ⟨hn, hsp⟩, by rw [a2, e1, e2, e3]; exact h⟩, by unfold wi3; rw [a2, e1, e2, e3]⟩
theorem gd6_bytes {s : ByteArray} (hs : s.size ≤ 1000000000) (id : Int) (vs : List Int) (hid : 0 ≤ id ∧ id ≤ 1099511627776) (hp : vs = pl vs) (hr : ∀ x ∈ vs, 0 ≤ x ∧ x ≤ 1099511627776) (h : vput 6 ++ vput id ++ vecB vs = s) : ((r0 s).small 7).1 = 6 ∧ gd6 s ∧ (id1 s).1 = id ∧ (v6 s).1 = vs := by
  have e : s.data.toList = (vput 6 ++ vput id ++ vecB vs).data.toList := by rw [h]
  have hd : s.data.toList = putB 9 6 ++ (putB 9 id ++ (putB 9 (vs.length : Int) ++ (mcat vs ++ []))) := e.trans (by
    unfold vecB
    rw [← hp]
    simp only [ByteArray.data_append, Array.toList_append, vput_data, List.append_assoc, List.append_nil]
    rfl)
  obtain ⟨a1, a2, a3, a4⟩ := head_at hs 6 id (by omega) hid _ hd
  have k0 := (id1_ok hs).1
  have hv8 : vs.length ≤ 8 := by rw [hp]; exact pl_length vs
  obtain ⟨b1, b2, b3⟩ := small_at (most := 8) k0 a3 a4 (by omega) (by omega) (by decide)
  have k8 := Rdr.small_ok k0 8
  have hN : ((id1 s).2.small 8).1.toNat = vs.length := by rw [b1]; omega
  obtain ⟨c1, c2, c3⟩ := takeN_at k8.1 b2 vs [] hr b3 vs.length (Nat.le_refl _)
  rw [List.take_length] at c1
  rw [List.drop_length] at c3
  have hv : v6 s = takeN vs.length ((id1 s).2.small 8).2 := by unfold v6 tkV; rw [hN]
  have e1 : (v6 s).1 = vs := by rw [hv]; exact c1
  refine ⟨a1, ⟨?_, by rw [e1]; exact hp, by rw [e1, a2]; exact h⟩, a2, e1⟩
  rw [hv]
  exact (fin_rest (takeN_ok k8.1 _).1).2 ⟨c2, by rw [c3]; rfl⟩
theorem gd7_bytes {s : ByteArray} (hs : s.size ≤ 1000000000) (id : Int) (vs : List Int) (rs : List RecA) (hid : 0 ≤ id ∧ id ≤ 1099511627776) (hp : vs = pl vs) (hr : ∀ x ∈ vs, 0 ≤ x ∧ x ≤ 1099511627776) (hl : rs.length ≤ 16) (hok : okM (rs.map RecA.m)) (h : recsB (vput 7 ++ vput id ++ (vecB vs ++ vput rs.length)) rs = s) : ((r0 s).small 7).1 = 7 ∧ gd7 s ∧ (id1 s).1 = id := by
  have hd := gd7_of hp h
  obtain ⟨a1, a2, _, _⟩ := head_at hs 7 id (by omega) hid _ hd
  exact ⟨a1, ⟨vs, rs.map RecA.m, hp, hr, by simpa using hl, hok, by rw [a2]; exact hd⟩, a2⟩
end
end Go.Proofs.YtglabahbklpocaaGreat
namespace Go.Proofs.YtglabahbklpocaaGreat
section
open Go.RowKit Go.Deep
set_option maxRecDepth 100000
set_option linter.unusedVariables false
set_option linter.unusedSimpArgs false
attribute [local go_sem ↓] Go.wp_at_zero Go.wp_at_succ
end
end Go.Proofs.YtglabahbklpocaaGreat
namespace Go.Proofs.YtglabahbklpocaaGreat
section
open Go.RowKit Go.Deep
set_option maxRecDepth 100000
set_option linter.unusedVariables false
set_option linter.unusedSimpArgs false
attribute [local go_sem ↓] Go.wp_at_zero Go.wp_at_succ
structure PtC6 (w : World) (b o : Nat) (p : Pt) : Prop where
  c0 : w.cell? ⟨b, o, none⟩ = some (.string p.series)
  c1 : w.cell? ⟨b, o + 1, none⟩ = some (.int .i64 p.time)
  c2 : w.cell? ⟨b, o + 2, none⟩ = some (.int .i64 p.value)
end
end Go.Proofs.YtglabahbklpocaaGreat
namespace Go.Proofs.YtglabahbklpocaaGreat
section
open Go.RowKit Go.Deep
set_option maxRecDepth 100000
set_option linter.unusedVariables false
set_option linter.unusedSimpArgs false
attribute [local go_sem ↓] Go.wp_at_zero Go.wp_at_succ
end
end Go.Proofs.YtglabahbklpocaaGreat
namespace Go.Proofs.YtglabahbklpocaaGreat
section
open Go.RowKit Go.Deep
set_option maxRecDepth 100000
set_option linter.unusedVariables false
set_option linter.unusedSimpArgs false
attribute [local go_sem ↓] Go.wp_at_zero Go.wp_at_succ
end
end Go.Proofs.YtglabahbklpocaaGreat
namespace Go.Proofs.YtglabahbklpocaaGreat
section
open Go.RowKit Go.Deep
set_option maxRecDepth 100000
set_option linter.unusedVariables false
set_option linter.unusedSimpArgs false
attribute [local go_sem ↓] Go.wp_at_zero Go.wp_at_succ
end
end Go.Proofs.YtglabahbklpocaaGreat
