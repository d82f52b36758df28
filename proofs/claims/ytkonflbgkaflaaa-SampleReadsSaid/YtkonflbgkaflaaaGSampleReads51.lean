/- SampleReads: for any bytes the law answers true. -/
import Derived.Test.YtkonflbgkaflaaaGSampleReads31
import Derived.Test.YtkonflbgkaflaaaGSampleReads38
import Derived.Test.YtkonflbgkaflaaaGSampleReads50
namespace Go.Proofs.Ytkonflbgkaflaaa
section
open Go.RowKit Go.Deep
set_option maxRecDepth 100000
set_option linter.unusedVariables false
set_option linter.unusedSimpArgs false
attribute [local go_sem ↓] Go.wp_at_zero Go.wp_at_succ
theorem readR_wf {s : ByteArray} (hs : s.size ≤ 1000000000) : (readR s).1.wf := by
  unfold readR
  split
  · exact hd_wf (r0_ok hs)
  · have z : i64' 0 := ⟨by decide, by decide⟩
    exact ⟨z, by simp [readR.Rc0', ByteArray.size], z, z, z, z, z, z⟩
theorem readP_wf {s : ByteArray} (hs : s.size ≤ 1000000000) : ∀ x ∈ (readP s).1, x.wf := by
  unfold readP
  split
  · exact takeQ_wf (Rdr.small_ok (r0_ok hs) 1000).1 _
  · simp
set_option maxHeartbeats 4000000 in
theorem sreads_any (s : ByteArray) (w : World) (h0 : s.size ≤ 9223372036854775807) : Calls Try.prog 7 #[.string s] w fun e w' => e = .returned (.bool true) ∧ Below w.heap.size w w' := by
  have A2 := fun wx => sshort_any s 1000 wx h0 (by omega)
  have hsz : (s.extract 0 1000).size ≤ 1000 := by simp only [ByteArray.size_extract]; omega
  generalize s.extract 0 1000 = s2 at *
  have R1 := fun wx => sread_any s2 wx (by omega)
  have R2 := fun wx => rsread_any s2 wx (by omega)
  have P1 := fun wx => readpts_any s2 wx (by omega)
  have P2 := fun wx => rreadpts_any s2 wx (by omega)
  have hw1 := readR_wf (s := s2) (by omega)
  have hw2 := readP_wf (s := s2) (by omega)
  generalize readR s2 = RR at *
  generalize readP s2 = PP at *
  obtain ⟨r, ds, E⟩ := RR
  obtain ⟨L, F⟩ := PP
  simp only at R1 R2 P1 P2 hw1 hw2
  have e1 : (E == E) = true := beq_self_eq_true _
  have e2 : (F == F) = true := beq_self_eq_true _
  unfold rcVal at R1 R2
  clear hsz
  go_enter Try.func7, Try.ntmps7
  go_wp2_with fail
  refine (sawake_any _).mono ?_
  rintro e w1 ⟨rfl, d1⟩
  go_wp2_with fail
  refine (A2 _).mono ?_
  rintro e w2 ⟨rfl, rfl⟩
  go_upto_region 4 with (first
    | (go_at_call 30; refine (R1 _).mono ?_; rintro e w3 ⟨d, rfl, hS1, d3⟩)
    | (refine wpList_store_row rfl 26 _ _ rfl _ (rcA r d) rfl rfl 26 _ (heap_alloc_new _ _) (by kernel_rfl) rfl (by simp [Value.oneCell', rcA]) ?_; rw [World.setRow_alloc_new]))
  have hB3 := below_then d1 d1.size d3
  have KK := Lib.hid (show Kn w.heap.size w [(w3.heap.size, rcO r d)] (w3.alloc (.cells (rcA r d) 26 (0, 0))) from (show Kn w.heap.size w [] w3 from ⟨by simp, hB3, hB3.size⟩).new (rcO r d))
  have HS1 := Lib.hid (hS1.below ((Below.refl _ w3).alloc (Nat.le_refl _) (.cells (rcA r d) 26 (0, 0))))
  obtain ⟨k1, hk1⟩ : ∃ k, w3.heap.size = k := ⟨_, rfl⟩
  rw [hk1] at KK ⊢
  generalize w3.alloc (.cells (rcA r d) 26 (0, 0)) = w4 at *
  clear d1 d3 hB3 hS1 R1 hk1
  go_upto_region 5 with (first
    | (go_at_call 31; refine (R2 _).mono ?_; rintro e w5 ⟨d', rfl, hS2, d5⟩; have KK := Lib.hid (KK.out.below d5); have HS1 := Lib.hid (HS1.out.below d5); clear d5)
    | (refine wpList_store_row rfl 26 _ _ rfl _ (rcA r d') rfl rfl 26 _ (heap_alloc_new _ _) (by kernel_rfl) rfl (by simp [Value.oneCell', rcA]) ?_; rw [World.setRow_alloc_new]))
  have KK := Lib.hid (show Kn w.heap.size w [(w5.heap.size, rcO r d'), (k1, rcO r d)] (w5.alloc (.cells (rcA r d') 26 (0, 0))) from KK.out.new (rcO r d'))
  have HS1 := Lib.hid (HS1.out.below ((Below.refl _ w5).alloc (Nat.le_refl _) (.cells (rcA r d') 26 (0, 0))))
  have HS2 := Lib.hid (hS2.below ((Below.refl _ w5).alloc (Nat.le_refl _) (.cells (rcA r d') 26 (0, 0))))
  obtain ⟨k2, hk2⟩ : ∃ k, w5.heap.size = k := ⟨_, rfl⟩
  rw [hk2] at KK ⊢
  generalize w5.alloc (.cells (rcA r d') 26 (0, 0)) = w6 at *
  clear hS2 R2 hk2
  go_wp2_with fail
  refine (P1 _).mono ?_
  rintro e w7 ⟨a1, n1, c1, rfl, hL1, hn1, hc1, d7⟩
  have KK := Lib.hid (KK.out.below d7)
  have HS1 := Lib.hid (HS1.out.below d7)
  have HS2 := Lib.hid (HS2.out.below d7)
  clear d7
  go_wp2_with fail
  refine (P2 _).mono ?_
  rintro e w8 ⟨a2, n2, c2, rfl, hL2, hn2, hc2, d8⟩
  have KK := Lib.hid (KK.out.below d8)
  have HS1 := Lib.hid (HS1.out.below d8)
  have HS2 := Lib.hid (HS2.out.below d8)
  have HL1 := Lib.hid (hL1.below d8)
  have HL2 := Lib.hid hL2
  clear d8 P1 P2 hL1 hL2
  have S1 := samer_any ⟨r, d, ds⟩ ⟨r, d', ds⟩ w8 ⟨hw1, HS1.out⟩ ⟨hw1, HS2.out⟩
  rw [show sameR ⟨r, d, ds⟩ ⟨r, d', ds⟩ = true by unfold sameR; simp] at S1
  unfold RecA.val rcVal at S1
  go_upto_region 8 with (first
    | refine wpList_load_row rfl 26 _ rfl k1 rfl 26 (rcA r d) (0, 0) _ KK.out.tl.hd Try.underlying26 rfl (by kernel_rfl) ?_
    | refine wpList_load_row rfl 26 _ rfl k2 rfl 26 (rcA r d') (0, 0) _ KK.out.hd Try.underlying26 rfl (by kernel_rfl) ?_
    | (go_at_call 33; refine (S1).mono ?_; rintro e w9 ⟨rfl, d9⟩))
  have KK := Lib.hid (KK.out.below d9)
  have HL1 := HL1.out.below d9
  have HL2 := HL2.out.below d9
  have S2 := samepts_any a1 a2 n1 c1 n2 c2 L L w9 HL1 HL2 hw2 hw2 hn1 hc1 hn2 hc2
  rw [sameP_true rfl] at S2
  clear HL1 HL2 d9 S1 HS1 HS2
  go_wp2_with fail
  refine S2.mono ?_
  rintro e w10 ⟨rfl, d10⟩
  have KK := Lib.hid (KK.out.below d10)
  clear d10
  go_wp2_with fail
  go_ret
  exact ⟨rfl, KK.out.b⟩
end
end Go.Proofs.Ytkonflbgkaflaaa
