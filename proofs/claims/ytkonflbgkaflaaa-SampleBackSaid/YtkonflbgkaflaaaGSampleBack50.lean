/- SampleBack: for any two records, and any points, the law answers true. -/
import Derived.Test.YtkonflbgkaflaaaGSampleBack33
import Derived.Test.YtkonflbgkaflaaaGSampleBack41
import Derived.Test.YtkonflbgkaflaaaGSampleBack46
import Derived.Test.YtkonflbgkaflaaaGSampleBack49
namespace Go.Proofs.Ytkonflbgkaflaaa
section
open Go.RowKit Go.Deep
set_option maxRecDepth 100000
set_option linter.unusedVariables false
set_option linter.unusedSimpArgs false
attribute [local go_sem ↓] Go.wp_at_zero Go.wp_at_succ
theorem ptsV_ok {L : List Pt} (h : okPts L) (hn : L.length ≤ 1000) : ptsV L = (⟨(ptsL L).toArray⟩, 0) := by unfold ptsV; rw [if_pos h, if_pos hn]
theorem ptsV_no {L : List Pt} (h : ¬ okPts L) : ptsV L = (⟨#[]⟩, 1) := by unfold ptsV; rw [if_neg h]
set_option maxHeartbeats 16000000 in
theorem sback_any (x y : RecA) (a0 : Option Addr) (n c : Nat) (xs : List Pt) (w : World) (hx : x.ok w) (hy : y.ok w) (h : ReadsE Pt.cs 6 w a0 n xs) (hwf : ∀ p ∈ xs, p.wf) (hnc : n ≤ c) (hcb : c ≤ 9223372036854775807) :
    Calls Try.prog 8 #[x.val, y.val, .slice a0 n c] w fun e w' => e = .returned (.bool true) ∧ Below w.heap.size w w' := by
  have HX := Lib.hid hx
  have HY := Lib.hid hy
  have HL := Lib.hid h
  have A1 := fun wx hb => small_any x wx (HX.out.below hb)
  have A2 := fun wx hb => small_any y wx (HY.out.below hb)
  have A3 := fun wx hb => sfew_any a0 n c xs wx (HL.out.below hb) hwf hnc hcb
  have WL := few_wf xs hwf
  have hx2 := x.small_ok hx
  have hy2 := y.small_ok hy
  obtain ⟨rx, dx, dsx⟩ := x
  obtain ⟨ry, dy, dsy⟩ := y
  generalize hXS : RecA.small ⟨rx, dx, dsx⟩ = XS at *
  generalize hYS : RecA.small ⟨ry, dy, dsy⟩ = YS at *
  generalize hLS : fewV xs = L at *
  obtain ⟨m, hm⟩ : ∃ m, m = L.length := ⟨_, rfl⟩
  have hm30 : m ≤ 30 := by rw [hm, ← hLS, few_len]; omega
  rw [← hm] at A3
  have HM := Lib.hid hm
  obtain ⟨ra, da, dsa⟩ := XS
  obtain ⟨rb, db, dsb⟩ := YS
  have HA := Lib.hid hx2
  have HB := Lib.hid hy2
  have B1 := fun wx hb => sbytes_any ra da dsa wx hx2.wf ((HA.out.below hb).sl)
  have B2 := fun wx hb => sbytes_any rb db dsb wx hy2.wf ((HB.out.below hb).sl)
  clear hXS hYS hLS hm hx hy h hx2 hy2
  unfold RecA.val rcVal at *
  simp only at A1 A2 B1 B2 ⊢
  go_enter Try.func8, Try.ntmps8
  go_upto_region 1 with fail
  generalize hw1 : World.alloc _ _ = w1
  have hK : Kn w.heap.size w [(w.heap.size + 1, rcO ry dy), (w.heap.size, rcO rx dx)] w1 := by rw [← hw1]; exact ((Kn.start w).new' rfl (rcO rx dx)).new' (n := w.heap.size + 1) (by simp) (rcO ry dy)
  clear hw1
  generalize hg : w.heap.size = g at *
  have KK := Lib.hid hK
  clear hK
  go_wp2_with fail
  refine (sawake_any _).mono ?_
  rintro e w2 ⟨rfl, d2⟩
  have KK := Lib.hid (KK.out.below d2)
  clear d2
  go_upto_region 3 with (first
    | refine wpList_load_row rfl 26 _ rfl g rfl 26 (rcA rx dx) (0, 0) _ (KK.out.at_ (g, rcO rx dx) (by simp)) Try.underlying26 rfl (by kernel_rfl) ?_
    | refine wpList_store_row rfl 26 _ _ rfl g (rcA ra da) rfl rfl 26 _ (KK.out.at_ (g, rcO rx dx) (by simp)) (by kernel_rfl) rfl (by simp [Value.oneCell', rcA]) ?_
    | (go_at_call 10; refine (A1 _ KK.out.b).mono ?_; rintro e wn ⟨rfl, dn⟩; have KK := Lib.hid (KK.out.below dn); clear dn))
  have KK := Lib.hid (Kn.setRow (KK.out.sub (m := [(g, rcO rx dx), (g + 1, rcO ry dy)]) (by simp)) (by simp only [Apart, and_true]; omega) (by omega) (rcO ra da))
  generalize hw3 : World.setRow _ _ _ = w3 at *
  clear hw3 A1
  go_upto_region 4 with (first
    | refine wpList_load_row rfl 26 _ rfl (g + 1) rfl 26 (rcA ry dy) (0, 0) _ (KK.out.at_ (g + 1, rcO ry dy) (by simp)) Try.underlying26 rfl (by kernel_rfl) ?_
    | refine wpList_store_row rfl 26 _ _ rfl (g + 1) (rcA rb db) rfl rfl 26 _ (KK.out.at_ (g + 1, rcO ry dy) (by simp)) (by kernel_rfl) rfl (by simp [Value.oneCell', rcA]) ?_
    | (go_at_call 10; refine (A2 _ KK.out.b).mono ?_; rintro e wn ⟨rfl, dn⟩; have KK := Lib.hid (KK.out.below dn); clear dn))
  have KK := Lib.hid (Kn.setRow (KK.out.sub (m := [(g + 1, rcO ry dy), (g, rcO ra da)]) (by simp)) (by simp only [Apart, and_true]; omega) (by omega) (rcO rb db))
  generalize hw4 : World.setRow _ _ _ = w4 at *
  clear hw4 A2
  go_upto_region 5 with (first | (go_at_call 20; refine (A3 _ KK.out.b).mono ?_; rintro e w5 ⟨a, cap, rfl, hA, dn⟩; have KK := Lib.hid (KK.out.below dn); clear dn))
  have hR := (AppE.reads pt_len (by decide) hA).1
  have hcap : m ≤ cap := hA.le
  have hmax : cap ≤ 9223372036854775807 := maxLen_i hA.max
  have hgw5 : g + 1 < w5.heap.size := KK.out.lt (g + 1, rcO rb db) (by simp)
  clear A3 hA
  have HR := Lib.hid hR
  have HW : Hid (∀ p ∈ L, p.wf) := fun p hp => (WL p hp).1
  clear hR WL
  have HSA : Hid (recP ra dsa → recB ra dsa = recT ra dsa) := fun h => recB_pos h
  have HSB : Hid (recP rb dsb → recB rb dsb = recT rb dsb) := fun h => recB_pos h
  generalize hSS : recB ra dsa = S at *
  generalize hTT : recB rb dsb = T at *
  clear hSS hTT
  go_upto_region 6 with (first
    | refine wpList_load_row rfl 26 _ rfl g rfl 26 (rcA ra da) (0, 0) _ (KK.out.at_ (g, rcO ra da) (by simp)) Try.underlying26 rfl (by kernel_rfl) ?_
    | (go_at_call 12; refine (B1 _ KK.out.b).mono ?_; rintro e wn ⟨rfl, dn⟩; have KK := Lib.hid (KK.out.below dn); have HR := Lib.hid (HR.out.below dn); clear dn))
  go_upto_region 7 with (first
    | refine wpList_load_row rfl 26 _ rfl (g + 1) rfl 26 (rcA rb db) (0, 0) _ (KK.out.at_ (g + 1, rcO rb db) (by simp)) Try.underlying26 rfl (by kernel_rfl) ?_
    | (go_at_call 12; refine (B2 _ KK.out.b).mono ?_; rintro e wn ⟨rfl, dn⟩; have KK := Lib.hid (KK.out.below dn); have HR := Lib.hid (HR.out.below dn); clear dn))
  clear B1 B2
  go_wp2_with fail
  refine (points_any a m cap L _ HR.out HW.out hcap hmax).mono ?_
  rintro e w6 ⟨rfl, dn⟩
  have KK := Lib.hid (KK.out.below dn)
  have HR := Lib.hid (HR.out.below dn)
  clear dn
  obtain ⟨E, HE⟩ : ∃ E, Hid (chkR ra dsa = E) := ⟨_, rfl⟩
  obtain ⟨F, HF⟩ : ∃ F, Hid (chkR rb dsb = F) := ⟨_, rfl⟩
  obtain ⟨PV, HPV⟩ : ∃ PV, Hid (ptsV L = PV) := ⟨_, rfl⟩
  rw [HE.out, HF.out, HPV.out]
  obtain ⟨U, G⟩ := PV
  have HEc : Hid ((E = 0 ∧ recP ra dsa) ∨ (E = 1 ∧ ¬ recP ra dsa)) := by
    rcases Classical.em (recP ra dsa) with h | h
    · exact .inl ⟨HE.out.symm.trans (chkR_0 h), h⟩
    · exact .inr ⟨HE.out.symm.trans (chkR_1 h), h⟩
  have HFc : Hid ((F = 0 ∧ recP rb dsb) ∨ (F = 1 ∧ ¬ recP rb dsb)) := by
    rcases Classical.em (recP rb dsb) with h | h
    · exact .inl ⟨HF.out.symm.trans (chkR_0 h), h⟩
    · exact .inr ⟨HF.out.symm.trans (chkR_1 h), h⟩
  have hSz : Hid (recP ra dsa → 1 ≤ S.size ∧ S.size ≤ 3000) := fun h => by rw [HSA.out h]; exact ⟨recT_pos _ _, recT_le h⟩
  clear HE HF
  have hgw6 : g + 1 < w6.heap.size := KK.out.lt (g + 1, rcO rb db) (by simp)
  go_upto_region 8 with fail
  go_cut [52] (fun v wx => v = .bool false ∧ wx = w6)
  case first =>
    rcases HEc.out with ⟨rfl, h⟩ | ⟨rfl, h⟩
    · have hz := hSz.out h
      have t0 : ((S.size : Int) == 0) = false := beq_eq_false_iff_ne.2 (by omega)
      clear h
      go_wp2_with fail
      go_meet
      exact ⟨rfl, rfl⟩
    · clear h
      go_wp2_with fail
      go_meet
      exact ⟨rfl, rfl⟩
  case rest =>
    obtain ⟨rfl, rfl⟩ := hcut
    go_upto_if 54 with fail
    go_cut [15, 16, 17, 18, 19, 54] (fun _ _ _ _ _ _ wx => Kn g w [(g + 1, rcO rb db), (g, rcO ra da)] wx ∧ ReadsE Pt.cs 6 wx a m L)
    case first =>
      rcases HEc.out with ⟨rfl, h⟩ | ⟨rfl, h⟩
      · have hz := hSz.out h
        have HP := Lib.hid h
        have R1 := fun wx => sread_any S wx (by omega)
        have R2 := fun wx => sread_any (S.extract 0 (S.size - 1)) wx (by rw [ByteArray.size_extract]; omega)
        have hcut := read_cut2 h HA.out.wf
        have hrd := read_rec h HA.out.wf (by have := recT_le h; omega)
        rw [← HSA.out h] at hcut hrd
        rw [hrd] at R1
        rw [hcut] at R2
        clear h hcut hrd
        obtain ⟨z, hz2⟩ : ∃ z : Nat, S.size = z + 1 := ⟨S.size - 1, by omega⟩
        rw [hz2, Nat.add_sub_cancel] at R2
        unfold rcVal at R1 R2
        simp only at R1 R2
        go_upto_region 12 with (first
          | (go_at_call 30; refine (R1 _).mono ?_; rintro e w7 ⟨d, rfl, hS1, dn⟩; have KK := Lib.hid (KK.out.below dn); have HR := Lib.hid (HR.out.below dn); clear dn)
          | (refine wpList_store_row rfl 26 _ _ rfl _ (rcA ra d) rfl rfl 26 _ (heap_alloc_new _ _) (by kernel_rfl) rfl (by simp [Value.oneCell', rcA]) ?_; rw [World.setRow_alloc_new]))
        have KK := Lib.hid (show Kn g w [(w7.heap.size, rcO ra d), (g + 1, rcO rb db), (g, rcO ra da)] (w7.alloc (.cells (rcA ra d) 26 (0, 0))) from KK.out.new (rcO ra d))
        have HR := Lib.hid (show ReadsE Pt.cs 6 (w7.alloc (.cells (rcA ra d) 26 (0, 0))) a m L from HR.out.below ((Below.refl _ w7).alloc (Nat.le_refl _) (rcO ra d)))
        have HS1 := Lib.hid (show SlR (w7.alloc (.cells (rcA ra d) 26 (0, 0))) d dsa from hS1.below ((Below.refl _ w7).alloc (Nat.le_refl _) (rcO ra d)))
        obtain ⟨k1, hk1⟩ : ∃ k, w7.heap.size = k := ⟨_, rfl⟩
        rw [hk1] at KK ⊢
        generalize w7.alloc (.cells (rcA ra d) 26 (0, 0)) = w8 at *
        clear hS1 hk1
        have SM := samer_any ⟨ra, d, dsa⟩ ⟨ra, da, dsa⟩ w8 ⟨HA.out.wf, HS1.out⟩ (HA.out.below (by rw [hg]; exact KK.out.b))
        rw [show sameR ⟨ra, d, dsa⟩ ⟨ra, da, dsa⟩ = true by unfold sameR; simp] at SM
        unfold RecA.val rcVal at SM
        simp only at SM
        go_upto_region 13 with (first
          | refine wpList_load_row rfl 26 _ rfl k1 rfl 26 (rcA ra d) (0, 0) _ KK.out.hd Try.underlying26 rfl (by kernel_rfl) ?_
          | refine wpList_load_row rfl 26 _ rfl g rfl 26 (rcA ra da) (0, 0) _ (KK.out.at_ (g, rcO ra da) (by simp)) Try.underlying26 rfl (by kernel_rfl) ?_
          | (go_at_call 33; refine (SM).mono ?_; rintro e w9 ⟨rfl, dn⟩; have KK := Lib.hid (KK.out.below dn); have HR := Lib.hid (HR.out.below dn); clear dn))
        clear SM HS1 R1
        have i1 : (0 : Int) ≤ (z : Int) := by omega
        have i2 : (z : Int) ≤ ((z + 1 : Nat) : Int) := by omega
        go_wp2_with (first
          | (go_at_call 30; refine (R2 _).mono ?_; rintro e w10 ⟨d2, rfl, hS2, dn⟩; have KK := Lib.hid (KK.out.below dn); have HR := Lib.hid (HR.out.below dn); clear dn)
          | (refine wpList_store_row rfl 26 _ _ rfl _ (rcA rc0O d2) rfl rfl 26 _ (heap_alloc_new _ _) (by kernel_rfl) rfl (by simp [Value.oneCell', rcA]) ?_; rw [World.setRow_alloc_new]))
        go_meet
        exact ⟨(KK.out.new (rcO rc0O d2)).sub (by simp), HR.out.below ((Below.refl _ _).alloc (Nat.le_refl _) (rcO rc0O d2))⟩
      · clear h
        go_wp2_with fail
        go_meet
        exact ⟨KK.out, HR.out⟩
    case rest =>
      obtain ⟨hk, hr⟩ := hcut
      have KK := Lib.hid hk
      have HR := Lib.hid hr
      clear hk hr
      rcases HEc.out with ⟨rfl, h⟩ | ⟨rfl, h⟩
      · rcases HFc.out with ⟨rfl, h'⟩ | ⟨rfl, h'⟩
        · have hsame := same_eq (a := ⟨ra, da, dsa⟩) (b := ⟨rb, db, dsb⟩) h h' HA.out.wf HB.out.wf
          simp only at hsame
          rw [← HSA.out h, ← HSB.out h'] at hsame
          have SM := fun wx hb => samer_any ⟨ra, da, dsa⟩ ⟨rb, db, dsb⟩ wx (HA.out.below (w' := wx) hb) (HB.out.below hb)
          generalize sameR ⟨ra, da, dsa⟩ ⟨rb, db, dsb⟩ = B at *
          have hBB : (B != B) = false := bne_self_eq_false B
          unfold RecA.val rcVal at SM
          simp only at SM
          rw [hg] at SM
          clear h h' HEc HFc HSA HSB hSz
          go_upto_region 18 with (first
            | refine wpList_load_row rfl 26 _ rfl (g + 1) rfl 26 (rcA rb db) (0, 0) _ (KK.out.at_ (g + 1, rcO rb db) (by simp)) Try.underlying26 rfl (by kernel_rfl) ?_
            | refine wpList_load_row rfl 26 _ rfl g rfl 26 (rcA ra da) (0, 0) _ (KK.out.at_ (g, rcO ra da) (by simp)) Try.underlying26 rfl (by kernel_rfl) ?_
            | (go_at_call 33; refine (SM _ KK.out.b).mono ?_; rintro e w9 ⟨rfl, dn⟩; have KK := Lib.hid (KK.out.below dn); have HR := Lib.hid (HR.out.below dn); clear dn))
          clear SM
          rcases Classical.em (okPts L) with hG | hG
          · have hPV := HPV.out.symm.trans (ptsV_ok hG (by have := HM.out; omega))
            obtain ⟨hU, hG0⟩ : U = ⟨(ptsL L).toArray⟩ ∧ G = 0 := by simpa using hPV
            subst hU
            subst hG0
            have R9 := fun wx => readpts_any ⟨(ptsL L).toArray⟩ wx (by rw [ba_size]; have := ptsL_le hG; have := HM.out; omega)
            rw [read_pts hG HW.out (by have := HM.out; omega)] at R9
            clear hPV hG
            simp only at R9
            go_wp2_with (first
              | fail
              | (go_at_call 29; refine (R9 _).mono ?_; rintro e wn ⟨a9, n9, c9, rfl, hL9, h91, h92, dn⟩; have KK := Lib.hid (KK.out.below dn); have S9 := samepts_any a9 a n9 c9 m cap L L wn hL9 (HR.out.below dn) HW.out HW.out h91 h92 hcap hmax; rw [sameP_true rfl] at S9; clear dn)
              | (go_at_call 34; refine S9.mono ?_; rintro e wn ⟨rfl, dn⟩; have KK := Lib.hid (KK.out.below dn); clear dn))
            go_ret
            exact ⟨rfl, by first | exact KK.out.b | (rw [hg]; exact KK.out.b)⟩
          · have hPV := HPV.out.symm.trans (ptsV_no hG)
            obtain ⟨hU, hG0⟩ : U = ⟨#[]⟩ ∧ G = 1 := by simpa using hPV
            subst hU
            subst hG0
            clear hPV hG
            go_wp2_with (first
              | fail
              | fail)
            go_ret
            exact ⟨rfl, by first | exact KK.out.b | (rw [hg]; exact KK.out.b)⟩
        · clear h h' HEc HFc HSA HSB hSz
          rcases Classical.em (okPts L) with hG | hG
          · have hPV := HPV.out.symm.trans (ptsV_ok hG (by have := HM.out; omega))
            obtain ⟨hU, hG0⟩ : U = ⟨(ptsL L).toArray⟩ ∧ G = 0 := by simpa using hPV
            subst hU
            subst hG0
            have R9 := fun wx => readpts_any ⟨(ptsL L).toArray⟩ wx (by rw [ba_size]; have := ptsL_le hG; have := HM.out; omega)
            rw [read_pts hG HW.out (by have := HM.out; omega)] at R9
            clear hPV hG
            simp only at R9
            go_wp2_with (first
              | fail
              | (go_at_call 29; refine (R9 _).mono ?_; rintro e wn ⟨a9, n9, c9, rfl, hL9, h91, h92, dn⟩; have KK := Lib.hid (KK.out.below dn); have S9 := samepts_any a9 a n9 c9 m cap L L wn hL9 (HR.out.below dn) HW.out HW.out h91 h92 hcap hmax; rw [sameP_true rfl] at S9; clear dn)
              | (go_at_call 34; refine S9.mono ?_; rintro e wn ⟨rfl, dn⟩; have KK := Lib.hid (KK.out.below dn); clear dn))
            go_ret
            exact ⟨rfl, by first | exact KK.out.b | (rw [hg]; exact KK.out.b)⟩
          · have hPV := HPV.out.symm.trans (ptsV_no hG)
            obtain ⟨hU, hG0⟩ : U = ⟨#[]⟩ ∧ G = 1 := by simpa using hPV
            subst hU
            subst hG0
            clear hPV hG
            go_wp2_with (first
              | fail
              | fail)
            go_ret
            exact ⟨rfl, by first | exact KK.out.b | (rw [hg]; exact KK.out.b)⟩
      · clear h HEc HSA HSB hSz
        rcases HFc.out with ⟨rfl, h'⟩ | ⟨rfl, h'⟩
        · clear h' HFc
          rcases Classical.em (okPts L) with hG | hG
          · have hPV := HPV.out.symm.trans (ptsV_ok hG (by have := HM.out; omega))
            obtain ⟨hU, hG0⟩ : U = ⟨(ptsL L).toArray⟩ ∧ G = 0 := by simpa using hPV
            subst hU
            subst hG0
            have R9 := fun wx => readpts_any ⟨(ptsL L).toArray⟩ wx (by rw [ba_size]; have := ptsL_le hG; have := HM.out; omega)
            rw [read_pts hG HW.out (by have := HM.out; omega)] at R9
            clear hPV hG
            simp only at R9
            go_wp2_with (first
              | fail
              | (go_at_call 29; refine (R9 _).mono ?_; rintro e wn ⟨a9, n9, c9, rfl, hL9, h91, h92, dn⟩; have KK := Lib.hid (KK.out.below dn); have S9 := samepts_any a9 a n9 c9 m cap L L wn hL9 (HR.out.below dn) HW.out HW.out h91 h92 hcap hmax; rw [sameP_true rfl] at S9; clear dn)
              | (go_at_call 34; refine S9.mono ?_; rintro e wn ⟨rfl, dn⟩; have KK := Lib.hid (KK.out.below dn); clear dn))
            go_ret
            exact ⟨rfl, by first | exact KK.out.b | (rw [hg]; exact KK.out.b)⟩
          · have hPV := HPV.out.symm.trans (ptsV_no hG)
            obtain ⟨hU, hG0⟩ : U = ⟨#[]⟩ ∧ G = 1 := by simpa using hPV
            subst hU
            subst hG0
            clear hPV hG
            go_wp2_with (first
              | fail
              | fail)
            go_ret
            exact ⟨rfl, by first | exact KK.out.b | (rw [hg]; exact KK.out.b)⟩
        · clear h' HFc
          rcases Classical.em (okPts L) with hG | hG
          · have hPV := HPV.out.symm.trans (ptsV_ok hG (by have := HM.out; omega))
            obtain ⟨hU, hG0⟩ : U = ⟨(ptsL L).toArray⟩ ∧ G = 0 := by simpa using hPV
            subst hU
            subst hG0
            have R9 := fun wx => readpts_any ⟨(ptsL L).toArray⟩ wx (by rw [ba_size]; have := ptsL_le hG; have := HM.out; omega)
            rw [read_pts hG HW.out (by have := HM.out; omega)] at R9
            clear hPV hG
            simp only at R9
            go_wp2_with (first
              | fail
              | (go_at_call 29; refine (R9 _).mono ?_; rintro e wn ⟨a9, n9, c9, rfl, hL9, h91, h92, dn⟩; have KK := Lib.hid (KK.out.below dn); have S9 := samepts_any a9 a n9 c9 m cap L L wn hL9 (HR.out.below dn) HW.out HW.out h91 h92 hcap hmax; rw [sameP_true rfl] at S9; clear dn)
              | (go_at_call 34; refine S9.mono ?_; rintro e wn ⟨rfl, dn⟩; have KK := Lib.hid (KK.out.below dn); clear dn))
            go_ret
            exact ⟨rfl, by first | exact KK.out.b | (rw [hg]; exact KK.out.b)⟩
          · have hPV := HPV.out.symm.trans (ptsV_no hG)
            obtain ⟨hU, hG0⟩ : U = ⟨#[]⟩ ∧ G = 1 := by simpa using hPV
            subst hU
            subst hG0
            clear hPV hG
            go_wp2_with (first
              | fail
              | fail)
            go_ret
            exact ⟨rfl, by first | exact KK.out.b | (rw [hg]; exact KK.out.b)⟩
theorem sback_row (v1 : Value) (x : RecA) (v2 : Value) (y : RecA) (v3 : Value) (xs : List Pt) (w : World) (h1 : IsRec w v1 x) (h2 : IsRec w v2 y) (h3 : IsEs Pt.cs 6 Pt.wf w v3 xs) :
    Calls Try.prog 8 #[v1, v2, v3] w fun e w' => e = .returned (.bool true) ∧ Below w.heap.size w w' := by
  obtain ⟨rfl, k1⟩ := h1
  obtain ⟨rfl, k2⟩ := h2
  obtain ⟨a, n, c, rfl, hnc, hcb, h, hwf⟩ := h3
  exact sback_any x y a n c xs w k1 k2 h hwf hnc hcb
end
end Go.Proofs.Ytkonflbgkaflaaa
