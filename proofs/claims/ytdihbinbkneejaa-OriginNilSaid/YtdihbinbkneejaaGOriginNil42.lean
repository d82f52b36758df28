/- The law's few, small, record. -/
import Derived.Test.YtdihbinbkneejaaGOriginNil40
import Derived.Test.YtdihbinbkneejaaGOriginNil41
namespace Go.Proofs.Ytdihbinbkneejaa
section
open Go.RowKit Go.Deep
set_option maxRecDepth 100000
set_option linter.unusedVariables false
set_option linter.unusedSimpArgs false
attribute [local go_sem ↓] Go.wp_at_zero Go.wp_at_succ
theorem SlR.some {w : World} {d : Sl} {xs : List Int} (h : SlR w d xs) (hn : 0 < d.n) : ∃ b o, d.a = some ⟨b, o, none⟩ := by
  rcases h.r.2 with h2 | ⟨b, o, e1, _⟩
  · omega
  · exact ⟨b, o, e1⟩
theorem few17_any (d : Sl) (xs : List Int) (w : World) (h : SlR w d xs) : Calls Try.prog 20 #[.slice d.a d.n d.c] w fun e w' => e = .returned (.slice d.cut.a d.cut.n d.cut.c) ∧ w = w' := by
  have hnc := h.nc
  have hcb := h.cb
  by_cases h12 : 12 < d.n
  · obtain ⟨b, o, ha⟩ := h.some (by omega)
    have t1 : decide (12 < (d.n : Int)) = true := decide_eq_true (by omega)
    have i1 : (12 : Int) ≤ (d.c : Int) := by omega
    have i2 : (12 : Int) ≤ (d.n : Int) := by omega
    have hc : d.cut = ⟨d.a, 12, d.c⟩ := by unfold Sl.cut; rw [if_pos h12]
    rw [hc]
    simp only
    rw [ha]
    clear hc ha
    go_enter Try.func20, Try.ntmps20
    go_wp2_with fail
    go_ret
    exact ⟨rfl, rfl⟩
  · have t1 : decide (12 < (d.n : Int)) = false := decide_eq_false (by omega)
    have hc : d.cut = d := by unfold Sl.cut; rw [if_neg h12]
    rw [hc]
    clear hc
    go_enter Try.func20, Try.ntmps20
    go_wp2_with fail
    go_ret
    exact ⟨rfl, rfl⟩
def mkR (site seq : Int) : Rc := ⟨1, ⟨#[97]⟩, seq, 0, 0, ⟨seq, site, seq⟩⟩
theorem record_any (site seq : Int) (d : Sl) (w : World) : Calls Try.prog 33 #[.int .i64 site, .int .i64 seq, .slice d.a d.n d.c] w fun e w' => e = .returned (rcVal (mkR site seq) d) ∧ Below w.heap.size w w' := by
  go_enter Try.func33, Try.ntmps33
  go_upto_region 1 with fail
  generalize hw1 : World.alloc _ _ = w1
  have KK := Lib.hid (show Kn w.heap.size w [(w.heap.size, rcO ⟨0, ⟨#[]⟩, 0, 0, 0, ⟨0, 0, 0⟩⟩ ⟨none, 0, 0⟩)] w1 by rw [← hw1]; exact (Kn.start w).new' rfl (rcO ⟨0, ⟨#[]⟩, 0, 0, 0, ⟨0, 0, 0⟩⟩ ⟨none, 0, 0⟩))
  clear hw1
  generalize hg : w.heap.size = g at *
  go_wp2_with (refine wpList_store_row rfl 30 _ _ rfl g (rcA (mkR site seq) d) rfl rfl 30 _ KK.out.hd (by kernel_rfl) rfl (by simp [Value.oneCell', rcA]) ?_)
  have KF := Kn.setRow KK.out trivial (by omega) (rcO (mkR site seq) d)
  refine bodyPost_ret (v := rcVal (mkR site seq) d) (results_cell_row rfl _ _ g 30 (rcA (mkR site seq) d) (0, 0) _ rfl KF.hd Try.underlying30 rfl (by kernel_rfl)) rfl ⟨rfl, by rw [hg]; exact KF.b⟩
set_option maxHeartbeats 4000000 in
theorem small17_any (x : RecA) (w : World) (h : x.ok w) : Calls Try.prog 10 #[x.val] w fun e w' => e = .returned x.small.val ∧ Below w.heap.size w w' := by
  have HX := Lib.hid h
  have HFW := fun wx hb => few17_any x.d x.ds wx (HX.out.sl.below (w' := wx) hb)
  obtain ⟨V, HV⟩ : ∃ V, Hid (V = x.small) := ⟨_, rfl⟩
  rw [← HV.out]
  have hsz := h.wf.2.1
  obtain ⟨r, d, ds⟩ := x
  clear h
  unfold RecA.val rcVal
  simp only [rcA] at HFW ⊢
  go_enter Try.func10, Try.ntmps10
  go_upto_region 1 with fail
  generalize hw1 : World.alloc _ _ = w1
  obtain ⟨rz, hrz⟩ : ∃ rz : Rc, rz = ⟨0, ⟨#[]⟩, 0, 0, 0, ⟨0, 0, 0⟩⟩ := ⟨_, rfl⟩
  obtain ⟨sz, hszz⟩ : ∃ sz : Sl, sz = ⟨none, 0, 0⟩ := ⟨_, rfl⟩
  have KK := Lib.hid (show Kn w.heap.size w [(w.heap.size, rcO r d), (w.heap.size + 1, rcO rz sz)] w1 by rw [← hw1, hrz, hszz]; exact (((Kn.start w).new' rfl (rcO r d)).new' (n := w.heap.size + 1) (by simp) (rcO ⟨0, ⟨#[]⟩, 0, 0, 0, ⟨0, 0, 0⟩⟩ ⟨none, 0, 0⟩)).sub (by simp))
  clear hw1 hrz hszz
  generalize hg : w.heap.size = g at *
  have q1 := KK.out.cell (g := g) (o := rcO r d) (by simp) (j := 1) (v := .string r.series) rfl
  have f1 := KK.out.fz (g := g) (o := rcO r d) (by simp) 1
  by_cases hs : 60 < r.series.size
  · have t1 : decide (60 < (r.series.size : Int)) = true := decide_eq_true (by omega)
    have q0 : (60 : Int) ≤ (r.series.size : Int) := by omega
    go_upto_region 3 with fail
    have KK := Lib.hid (Kn.setCell KK.out (by simp only [Apart, and_true]; omega) (by omega) 1 (.string (r.series.extract 0 60)) (rcO { r with series := r.series.extract 0 60 } d) rfl)
    generalize World.setCell _ _ _ = w8 at *
    have HV := Lib.hid (HV.out.trans (show RecA.small ⟨r, d, ds⟩ = ⟨{ r with series := r.series.extract 0 60 }, d.cut, ds.take 12⟩ from rfl))
    clear q1 f1 q0
    have HS := KK.out.cell (g := g) (o := rcO { r with series := r.series.extract 0 60 } d) (by simp) (j := 8) (v := .slice d.a d.n d.c) rfl
    have HZ := KK.out.fz (g := g) (o := rcO { r with series := r.series.extract 0 60 } d) (by simp) 8
    go_upto_region 4 with (first | (go_at_call 20; refine (HFW _ KK.out.b).mono ?_; rintro e wn ⟨rfl, rfl⟩))
    have KK := Lib.hid (Kn.setCell (KK.out.sub (m := [(g, rcO { r with series := r.series.extract 0 60 } d), (g + 1, rcO rz sz)]) (by simp)) (by simp only [Apart, and_true]; omega) (by omega) 8 (.slice d.cut.a d.cut.n d.cut.c) (rcO { r with series := r.series.extract 0 60 } d.cut) rfl)
    generalize World.setCell _ _ _ = w9 at *
    clear HS HZ
    go_wp2_with (first
      | refine wpList_load_row rfl 30 _ rfl g rfl 30 (rcA { r with series := r.series.extract 0 60 } d.cut) (0, 0) _ KK.out.hd Try.underlying30 rfl (by kernel_rfl) ?_
      | refine wpList_store_row rfl 30 _ _ rfl (g + 1) (rcA { r with series := r.series.extract 0 60 } d.cut) rfl rfl 30 _ (KK.out.at_ (g + 1, rcO rz sz) (by simp)) (by kernel_rfl) rfl (by simp [Value.oneCell', rcA]) ?_)
    have KF := Kn.setRow (KK.out.sub (m := [(g + 1, rcO rz sz), (g, rcO { r with series := r.series.extract 0 60 } d.cut)]) (by simp)) (by simp only [Apart, and_true]; omega) (by omega) (rcO { r with series := r.series.extract 0 60 } d.cut)
    refine bodyPost_ret (v := rcVal { r with series := r.series.extract 0 60 } d.cut) (results_cell_row rfl _ _ (g + 1) 30 (rcA { r with series := r.series.extract 0 60 } d.cut) (0, 0) _ rfl KF.hd Try.underlying30 rfl (by kernel_rfl)) rfl ⟨by rw [HV.out]; rfl, by first | exact KF.b | (rw [hg]; exact KF.b)⟩
  · have t1 : decide (60 < (r.series.size : Int)) = false := decide_eq_false (by omega)
    have q0 : (0 : Int) ≤ 60 := by omega
    go_upto_region 3 with fail
    have HV := Lib.hid (HV.out.trans (show RecA.small ⟨r, d, ds⟩ = ⟨r, d.cut, ds.take 12⟩ by unfold RecA.small; simp only; rw [extract_all _ _ (by omega)]))
    clear q1 f1 q0
    have HS := KK.out.cell (g := g) (o := rcO r d) (by simp) (j := 8) (v := .slice d.a d.n d.c) rfl
    have HZ := KK.out.fz (g := g) (o := rcO r d) (by simp) 8
    go_upto_region 4 with (first | (go_at_call 20; refine (HFW _ KK.out.b).mono ?_; rintro e wn ⟨rfl, rfl⟩))
    have KK := Lib.hid (Kn.setCell (KK.out.sub (m := [(g, rcO r d), (g + 1, rcO rz sz)]) (by simp)) (by simp only [Apart, and_true]; omega) (by omega) 8 (.slice d.cut.a d.cut.n d.cut.c) (rcO r d.cut) rfl)
    generalize World.setCell _ _ _ = w9 at *
    clear HS HZ
    go_wp2_with (first
      | refine wpList_load_row rfl 30 _ rfl g rfl 30 (rcA r d.cut) (0, 0) _ KK.out.hd Try.underlying30 rfl (by kernel_rfl) ?_
      | refine wpList_store_row rfl 30 _ _ rfl (g + 1) (rcA r d.cut) rfl rfl 30 _ (KK.out.at_ (g + 1, rcO rz sz) (by simp)) (by kernel_rfl) rfl (by simp [Value.oneCell', rcA]) ?_)
    have KF := Kn.setRow (KK.out.sub (m := [(g + 1, rcO rz sz), (g, rcO r d.cut)]) (by simp)) (by simp only [Apart, and_true]; omega) (by omega) (rcO r d.cut)
    refine bodyPost_ret (v := rcVal r d.cut) (results_cell_row rfl _ _ (g + 1) 30 (rcA r d.cut) (0, 0) _ rfl KF.hd Try.underlying30 rfl (by kernel_rfl)) rfl ⟨by rw [HV.out]; rfl, by first | exact KF.b | (rw [hg]; exact KF.b)⟩
end
end Go.Proofs.Ytdihbinbkneejaa
