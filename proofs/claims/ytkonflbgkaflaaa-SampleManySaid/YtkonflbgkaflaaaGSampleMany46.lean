/- The law's short, small. -/
import Derived.Test.YtkonflbgkaflaaaGSampleMany45
import Derived.Test.YtkonflbgkaflaaaGSampleMany14
namespace Go.Proofs.Ytkonflbgkaflaaa
section
open Go.RowKit
set_option maxRecDepth 100000
set_option linter.unusedVariables false
set_option linter.unusedSimpArgs false
attribute [local go_sem ↓] Go.wp_at_zero Go.wp_at_succ
theorem sshort_any (s : ByteArray) (n : Nat) (w : World) (h0 : s.size ≤ 9223372036854775807) (h1 : n ≤ 1000) :
    Calls Try.prog 11 #[.string s, .int .i64 n] w fun e w' => e = .returned (.string (s.extract 0 n)) ∧ w = w' := by
  by_cases h : s.size ≤ n
  · have t : decide ((n : Int) < s.size) = false := decide_eq_false (by omega)
    go_enter Try.func11, Try.ntmps11
    go_wp2
    go_ret
    refine ⟨ret_str ?_, rfl⟩
    exact (extract_all s n h).symm
  · have t : decide ((n : Int) < s.size) = true := decide_eq_true (by omega)
    go_enter Try.func11, Try.ntmps11
    go_wp2
    go_ret
    refine ⟨ret_str ?_, rfl⟩
    rfl
def Sl.cut (d : Sl) : Sl := if 12 < d.n then ⟨d.a, 12, d.c⟩ else d
def RecA.small (x : RecA) : RecA := ⟨{ x.r with series := x.r.series.extract 0 60 }, x.d.cut, x.ds.take 12⟩
def Sl0 : Sl := ⟨none, 0, 0⟩
def Rc0 : Rc := ⟨0, ⟨#[]⟩, 0, 0, 0, ⟨0, 0, 0⟩⟩
theorem SlR.cut {w : World} {d : Sl} {ds : List Int} (h : SlR w d ds) : SlR w d.cut (ds.take 12) := by
  obtain ⟨⟨h1, h2⟩, h3, h4⟩ := h
  unfold Sl.cut
  split
  · refine ⟨⟨by simp; omega, ?_⟩, by simp; omega, h4⟩
    rcases h2 with h2 | ⟨b, o, e1, e2, e3⟩
    · omega
    · refine .inr ⟨b, o, e1, e2, fun j hj => ?_⟩
      simp only at hj
      rw [e3 j (by omega)]
      congr 2
      simp only [List.getD_eq_getElem?_getD, List.getElem?_take]
      rw [if_pos hj]
  · rw [List.take_of_length_le (by omega)]
    exact ⟨⟨h1, h2⟩, h3, h4⟩
theorem RecA.small_ok {w : World} {x : RecA} (h : x.ok w) : x.small.ok w := ⟨⟨h.wf.1, by
  have := h.wf.2.1
  simp only [RecA.small, ByteArray.size_extract]
  omega, h.wf.2.2⟩, h.sl.cut⟩
theorem RecA.ok.below {w w' : World} {x : RecA} (h : x.ok w) (hb : Below w.heap.size w w') : x.ok w' := ⟨h.wf, h.sl.below hb⟩
set_option maxHeartbeats 4000000 in
theorem small_any (x : RecA) (w : World) (h : x.ok w) : Calls Try.prog 10 #[x.val] w fun e w' => e = .returned x.small.val ∧ Below w.heap.size w w' := by
  obtain ⟨V, HV⟩ : ∃ V, Hid (V = x.small) := ⟨_, rfl⟩
  rw [← HV.out]
  obtain ⟨r, d, ds⟩ := x
  obtain ⟨⟨v0, v1, v2⟩, hs⟩ := h
  have HS := fun wx => sshort_any r.series 60 wx v1 (by omega)
  have hnc := hs.nc
  have hcb := hs.cb
  simp only at hnc hcb
  have hsome : 12 < d.n → ∃ b o, d.a = some ⟨b, o, none⟩ := fun h => by
    rcases hs.r.2 with h2 | ⟨b, o, e1, _⟩
    · simp only at h2; omega
    · exact ⟨b, o, e1⟩
  clear hs v0 v2
  unfold RecA.val rcVal
  simp only [rcA]
  go_enter Try.func10, Try.ntmps10
  go_upto_region 1 with fail
  generalize hw1 : World.alloc _ _ = w1
  have hK : Kn w.heap.size w [(w.heap.size, rcO r d), (w.heap.size + 1, rcO Rc0 Sl0)] w1 := by rw [← hw1]; exact (((Kn.start w).new' rfl (rcO r d)).new' (n := w.heap.size + 1) (by simp) (rcO Rc0 Sl0)).sub (by simp)
  clear hw1
  generalize hg : w.heap.size = g at *
  have c1 := (rc_cells hK.hd rfl).c1
  have f1 := hK.fz (g := g) (o := rcO r d) (by simp) 1
  go_upto_region 2 with (first | (go_at_call 11; refine (HS _).mono ?_; rintro e wn ⟨rfl, rfl⟩))
  have K2 := Kn.setCell hK (by simp only [Apart, and_true]; omega) (by omega) 1 (.string (r.series.extract 0 60)) (rcO { r with series := r.series.extract 0 60 } d) rfl
  generalize hr : ({ r with series := r.series.extract 0 60 } : Rc) = r' at *
  generalize hw2 : World.setCell _ _ _ = w2 at *
  clear hw2 c1 f1 hK HS
  have KK := Lib.hid K2
  clear K2
  have c6 := (rc_cells KK.out.hd rfl).c8
  have f6 := KK.out.fz (g := g) (o := rcO r' d) (by simp) 8
  by_cases hlt : 12 < d.n
  · obtain ⟨b, o, hb⟩ := hsome hlt
    have t1 : decide ((12 : Int) < (d.n : Int)) = true := decide_eq_true (by omega)
    have t2 : (12 : Int) ≤ (d.c : Int) := by omega
    have t3 : 12 ≤ d.c := by omega
    rw [hb] at c6
    go_upto_region 4 with fail
    have K2 := Kn.setCell KK.out (by simp only [Apart, and_true]; omega) (by omega) 8 (.slice (some ⟨b, o, none⟩) 12 d.c) (rcO r' ⟨some ⟨b, o, none⟩, 12, d.c⟩) rfl
    have HV : Hid (V = ⟨r', ⟨some ⟨b, o, none⟩, 12, d.c⟩, ds.take 12⟩) := HV.out.trans (by simp only [RecA.small, Sl.cut, if_pos hlt, hr, hb])
    generalize hw3 : World.setCell _ _ _ = w3 at *
    clear hw3
    have KK := Lib.hid K2
    clear c6 f6
    go_wp2_with (first
      | refine wpList_load_row rfl 26 _ rfl g rfl 26 (rcA r' ⟨some ⟨b, o, none⟩, 12, d.c⟩) (0, 0) _ KK.out.hd Try.underlying26 rfl (by kernel_rfl) ?_
      | refine wpList_store_row rfl 26 _ _ rfl (g + 1) (rcA r' ⟨some ⟨b, o, none⟩, 12, d.c⟩) rfl rfl 26 _ (KK.out.at_ (g + 1, rcO Rc0 Sl0) (by simp)) (by kernel_rfl) rfl (by simp [Value.oneCell', rcA]) ?_)
    have KF := Kn.setRow (KK.out.sub (m := [(g + 1, rcO Rc0 Sl0), (g, rcO r' ⟨some ⟨b, o, none⟩, 12, d.c⟩)]) (by simp)) (by simp only [Apart, and_true]; omega) (by omega) (rcO r' ⟨some ⟨b, o, none⟩, 12, d.c⟩)
    refine bodyPost_ret (v := rcVal r' ⟨some ⟨b, o, none⟩, 12, d.c⟩) (results_cell_row rfl _ _ (g + 1) 26 (rcA r' ⟨some ⟨b, o, none⟩, 12, d.c⟩) (0, 0) _ rfl KF.hd Try.underlying26 rfl (by kernel_rfl)) rfl ⟨by rw [HV.out]; rfl, by first | exact KF.b | (rw [hg]; exact KF.b)⟩
  · have t1 : decide ((12 : Int) < (d.n : Int)) = false := decide_eq_false (by omega)
    go_upto_region 4 with fail
    have HV : Hid (V = ⟨r', d, ds.take 12⟩) := HV.out.trans (by simp only [RecA.small, Sl.cut, if_neg hlt, hr])
    clear c6 f6
    go_wp2_with (first
      | refine wpList_load_row rfl 26 _ rfl g rfl 26 (rcA r' d) (0, 0) _ KK.out.hd Try.underlying26 rfl (by kernel_rfl) ?_
      | refine wpList_store_row rfl 26 _ _ rfl (g + 1) (rcA r' d) rfl rfl 26 _ (KK.out.at_ (g + 1, rcO Rc0 Sl0) (by simp)) (by kernel_rfl) rfl (by simp [Value.oneCell', rcA]) ?_)
    have KF := Kn.setRow (KK.out.sub (m := [(g + 1, rcO Rc0 Sl0), (g, rcO r' d)]) (by simp)) (by simp only [Apart, and_true]; omega) (by omega) (rcO r' d)
    refine bodyPost_ret (v := rcVal r' d) (results_cell_row rfl _ _ (g + 1) 26 (rcA r' d) (0, 0) _ rfl KF.hd Try.underlying26 rfl (by kernel_rfl)) rfl ⟨by rw [HV.out]; rfl, by first | exact KF.b | (rw [hg]; exact KF.b)⟩
end
end Go.Proofs.Ytkonflbgkaflaaa
