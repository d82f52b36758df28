/- ship.Check: the other kinds of messages. -/
import Derived.Test.YtglabahbklpocaaGreatGShipPacks27
import Derived.Test.YtglabahbklpocaaGreatGShipPacks10
import Derived.Test.YtglabahbklpocaaGreatGShipPacks11
namespace Go.Proofs.YtglabahbklpocaaGreat
section
open Go.RowKit Go.Deep
set_option maxRecDepth 100000
set_option linter.unusedVariables false
set_option linter.unusedSimpArgs false
attribute [local go_sem ↓] Go.wp_at_zero Go.wp_at_succ
set_option maxHeartbeats 8000000 in
theorem check4_any (x : Wi) (ps : List Pt) (w : World) (hk : x.kind = 4) (hf : i64' x.from_) (ht : i64' x.to_) (hp : SlP w x.np ps) : Calls Tryz.prog 16 #[.agg x.arr] w fun e w' => e = .returned (.int .i64 (if x.none true false false false false = true ∧ decide ((x.np.n : Int) ≤ 200) = true ∧ okB ps = true ∧ idV x.id = true then 0 else 1)) ∧ Below w.heap.size w w' := by
  have NN := fun wx => none_tffff x wx hf ht
  have HPP := Lib.hid hp
  have CT := fun wx (hb : Below w.heap.size w wx) => hcont_any x.np.a x.np.n x.np.c ps wx ((HPP.out.below hb).r) HPP.out.wf HPP.out.nc HPP.out.cb
  obtain ⟨B, hB⟩ : ∃ B, x.none true false false false false = B := ⟨_, rfl⟩
  obtain ⟨R, hR⟩ : ∃ R, okB ps = R := ⟨_, rfl⟩
  rw [hB] at NN ⊢
  rw [hR] at CT ⊢
  clear hB hf ht hR hp HPP
  obtain ⟨kind, id, series, from_, to_, np, nr, vec, time⟩ := x
  simp only at hk
  subst hk
  unfold Wi.arr at *
  simp only at NN ⊢
  go_enter Tryz.func16, Tryz.ntmps16
  go_upto_region 2 with fail
  generalize hw1 : World.alloc _ _ = w1
  have KK := Lib.hid (show Kn w.heap.size w [(w.heap.size, wiO ⟨4, id, series, from_, to_, np, nr, vec, time⟩)] w1 by rw [← hw1]; exact (Kn.start w).new' rfl (wiO ⟨4, id, series, from_, to_, np, nr, vec, time⟩))
  clear hw1
  generalize hg : w.heap.size = g at *
  have c0 := (wi_cells KK.out.hd rfl).c0
  simp only at c0
  have c5 := (wi_cells KK.out.hd rfl).c5
  simp only at c5
  cases R
  · cases B
    · skip
      go_wp2_with fail
      go_step3
      go_wp2_with fail
      go_step3
      go_wp2_with (first
        | refine wpList_load_row rfl 33 _ rfl g rfl 33 (Wi.arr ⟨4, id, series, from_, to_, np, nr, vec, time⟩) (0, 0) _ KK.out.hd Tryz.underlying33 rfl (by kernel_rfl) ?_
        | (go_at_call 63; refine (NN _).mono ?_; rintro e w2 ⟨rfl, dn⟩; have KK := Lib.hid (KK.out.below dn); clear dn; have c1 := (wi_cells KK.out.hd rfl).c1; have c5 := (wi_cells KK.out.hd rfl).c5; simp only at c1 c5)
        | (go_at_call 60; refine (CT _ KK.out.b).mono ?_; rintro e w3 ⟨rfl, dn⟩; have KK := Lib.hid (KK.out.below dn); clear dn c0 c5))
      first | rw [Exit.noGoto_ret] | skip
      go_ret
      exact ⟨by simp [*], by first | exact KK.out.b | (rw [hg]; exact KK.out.b)⟩
    · by_cases hl : (np.n : Int) ≤ 200
      · have t1 : decide ((np.n : Int) ≤ 200) = true := decide_eq_true hl
        go_wp2_with fail
        go_step3
        go_wp2_with fail
        go_step3
        go_wp2_with (first
          | refine wpList_load_row rfl 33 _ rfl g rfl 33 (Wi.arr ⟨4, id, series, from_, to_, np, nr, vec, time⟩) (0, 0) _ KK.out.hd Tryz.underlying33 rfl (by kernel_rfl) ?_
          | (go_at_call 63; refine (NN _).mono ?_; rintro e w2 ⟨rfl, dn⟩; have KK := Lib.hid (KK.out.below dn); clear dn; have c1 := (wi_cells KK.out.hd rfl).c1; have c5 := (wi_cells KK.out.hd rfl).c5; simp only at c1 c5)
          | (go_at_call 60; refine (CT _ KK.out.b).mono ?_; rintro e w3 ⟨rfl, dn⟩; have KK := Lib.hid (KK.out.below dn); clear dn c0 c5))
        first | rw [Exit.noGoto_ret] | skip
        go_ret
        exact ⟨by simp [*], by first | exact KK.out.b | (rw [hg]; exact KK.out.b)⟩
      · have t1 : decide ((np.n : Int) ≤ 200) = false := decide_eq_false hl
        go_wp2_with fail
        go_step3
        go_wp2_with fail
        go_step3
        go_wp2_with (first
          | refine wpList_load_row rfl 33 _ rfl g rfl 33 (Wi.arr ⟨4, id, series, from_, to_, np, nr, vec, time⟩) (0, 0) _ KK.out.hd Tryz.underlying33 rfl (by kernel_rfl) ?_
          | (go_at_call 63; refine (NN _).mono ?_; rintro e w2 ⟨rfl, dn⟩; have KK := Lib.hid (KK.out.below dn); clear dn; have c1 := (wi_cells KK.out.hd rfl).c1; have c5 := (wi_cells KK.out.hd rfl).c5; simp only at c1 c5)
          | (go_at_call 60; refine (CT _ KK.out.b).mono ?_; rintro e w3 ⟨rfl, dn⟩; have KK := Lib.hid (KK.out.below dn); clear dn c0 c5))
        first | rw [Exit.noGoto_ret] | skip
        go_ret
        exact ⟨by simp [*], by first | exact KK.out.b | (rw [hg]; exact KK.out.b)⟩
  · cases B
    · skip
      go_wp2_with fail
      go_step3
      go_wp2_with fail
      go_step3
      go_wp2_with (first
        | refine wpList_load_row rfl 33 _ rfl g rfl 33 (Wi.arr ⟨4, id, series, from_, to_, np, nr, vec, time⟩) (0, 0) _ KK.out.hd Tryz.underlying33 rfl (by kernel_rfl) ?_
        | (go_at_call 63; refine (NN _).mono ?_; rintro e w2 ⟨rfl, dn⟩; have KK := Lib.hid (KK.out.below dn); clear dn; have c1 := (wi_cells KK.out.hd rfl).c1; have c5 := (wi_cells KK.out.hd rfl).c5; simp only at c1 c5)
        | (go_at_call 60; refine (CT _ KK.out.b).mono ?_; rintro e w3 ⟨rfl, dn⟩; have KK := Lib.hid (KK.out.below dn); clear dn c0 c5))
      first | rw [Exit.noGoto_ret] | skip
      go_ret
      exact ⟨by simp [*], by first | exact KK.out.b | (rw [hg]; exact KK.out.b)⟩
    · by_cases hl : (np.n : Int) ≤ 200
      · have t1 : decide ((np.n : Int) ≤ 200) = true := decide_eq_true hl
        rcases idV_cases id with ⟨h1, h2, h3⟩ | ⟨h1, h2⟩ | ⟨h1, h2, h3⟩
        · skip
          go_wp2_with fail
          go_step3
          go_wp2_with fail
          go_step3
          go_wp2_with (first
            | refine wpList_load_row rfl 33 _ rfl g rfl 33 (Wi.arr ⟨4, id, series, from_, to_, np, nr, vec, time⟩) (0, 0) _ KK.out.hd Tryz.underlying33 rfl (by kernel_rfl) ?_
            | (go_at_call 63; refine (NN _).mono ?_; rintro e w2 ⟨rfl, dn⟩; have KK := Lib.hid (KK.out.below dn); clear dn; have c1 := (wi_cells KK.out.hd rfl).c1; have c5 := (wi_cells KK.out.hd rfl).c5; simp only at c1 c5)
            | (go_at_call 60; refine (CT _ KK.out.b).mono ?_; rintro e w3 ⟨rfl, dn⟩; have KK := Lib.hid (KK.out.below dn); clear dn c0 c5))
          first | rw [Exit.noGoto_ret] | skip
          go_ret
          exact ⟨by simp [*], by first | exact KK.out.b | (rw [hg]; exact KK.out.b)⟩
        · skip
          go_wp2_with fail
          go_step3
          go_wp2_with fail
          go_step3
          go_wp2_with (first
            | refine wpList_load_row rfl 33 _ rfl g rfl 33 (Wi.arr ⟨4, id, series, from_, to_, np, nr, vec, time⟩) (0, 0) _ KK.out.hd Tryz.underlying33 rfl (by kernel_rfl) ?_
            | (go_at_call 63; refine (NN _).mono ?_; rintro e w2 ⟨rfl, dn⟩; have KK := Lib.hid (KK.out.below dn); clear dn; have c1 := (wi_cells KK.out.hd rfl).c1; have c5 := (wi_cells KK.out.hd rfl).c5; simp only at c1 c5)
            | (go_at_call 60; refine (CT _ KK.out.b).mono ?_; rintro e w3 ⟨rfl, dn⟩; have KK := Lib.hid (KK.out.below dn); clear dn c0 c5))
          first | rw [Exit.noGoto_ret] | skip
          go_ret
          exact ⟨by simp [*], by first | exact KK.out.b | (rw [hg]; exact KK.out.b)⟩
        · skip
          go_wp2_with fail
          go_step3
          go_wp2_with fail
          go_step3
          go_wp2_with (first
            | refine wpList_load_row rfl 33 _ rfl g rfl 33 (Wi.arr ⟨4, id, series, from_, to_, np, nr, vec, time⟩) (0, 0) _ KK.out.hd Tryz.underlying33 rfl (by kernel_rfl) ?_
            | (go_at_call 63; refine (NN _).mono ?_; rintro e w2 ⟨rfl, dn⟩; have KK := Lib.hid (KK.out.below dn); clear dn; have c1 := (wi_cells KK.out.hd rfl).c1; have c5 := (wi_cells KK.out.hd rfl).c5; simp only at c1 c5)
            | (go_at_call 60; refine (CT _ KK.out.b).mono ?_; rintro e w3 ⟨rfl, dn⟩; have KK := Lib.hid (KK.out.below dn); clear dn c0 c5))
          first | rw [Exit.noGoto_ret] | skip
          go_ret
          exact ⟨by simp [*], by first | exact KK.out.b | (rw [hg]; exact KK.out.b)⟩
      · have t1 : decide ((np.n : Int) ≤ 200) = false := decide_eq_false hl
        go_wp2_with fail
        go_step3
        go_wp2_with fail
        go_step3
        go_wp2_with (first
          | refine wpList_load_row rfl 33 _ rfl g rfl 33 (Wi.arr ⟨4, id, series, from_, to_, np, nr, vec, time⟩) (0, 0) _ KK.out.hd Tryz.underlying33 rfl (by kernel_rfl) ?_
          | (go_at_call 63; refine (NN _).mono ?_; rintro e w2 ⟨rfl, dn⟩; have KK := Lib.hid (KK.out.below dn); clear dn; have c1 := (wi_cells KK.out.hd rfl).c1; have c5 := (wi_cells KK.out.hd rfl).c5; simp only at c1 c5)
          | (go_at_call 60; refine (CT _ KK.out.b).mono ?_; rintro e w3 ⟨rfl, dn⟩; have KK := Lib.hid (KK.out.below dn); clear dn c0 c5))
        first | rw [Exit.noGoto_ret] | skip
        go_ret
        exact ⟨by simp [*], by first | exact KK.out.b | (rw [hg]; exact KK.out.b)⟩
set_option maxHeartbeats 4000000 in
theorem none_fftff (x : Wi) (w : World) (hf : i64' x.from_) (ht : i64' x.to_) : Calls Tryz.prog 63 #[.agg x.arr, .bool false, .bool false, .bool true, .bool false, .bool false] w fun e w' => e = .returned (.bool (x.none false false true false false)) ∧ Below w.heap.size w w' := by
  have E0 := fun wx => eq_span x.from_ x.to_ hf ht wx
  have u1 : ((x.np.n : Int) == 0) = (x.np.n == 0) := by rw [Bool.eq_iff_iff]; simp
  have u5 : ((x.vec.n : Int) == 0) = (x.vec.n == 0) := by rw [Bool.eq_iff_iff]; simp
  have u6 : ((x.nr.n : Int) == 0) = (x.nr.n == 0) := by rw [Bool.eq_iff_iff]; simp
  unfold Wi.none
  obtain ⟨b1, hb1⟩ : ∃ b, (x.np.n == 0) = b := ⟨_, rfl⟩
  obtain ⟨b2, hb2⟩ : ∃ b, x.series.toList.isEmpty = b := ⟨_, rfl⟩
  obtain ⟨b3, hb3⟩ : ∃ b, decide (x.from_ = 0 ∧ x.to_ = 0) = b := ⟨_, rfl⟩
  obtain ⟨b4, hb4⟩ : ∃ b, (x.time == 0) = b := ⟨_, rfl⟩
  obtain ⟨b5, hb5⟩ : ∃ b, (x.vec.n == 0) = b := ⟨_, rfl⟩
  obtain ⟨b6, hb6⟩ : ∃ b, (x.nr.n == 0) = b := ⟨_, rfl⟩
  rw [hb3] at E0
  rw [hb1] at u1
  rw [hb5] at u5
  rw [hb6] at u6
  rw [hb1, hb2, hb3, hb4, hb5, hb6]
  clear hf ht hb1 hb3 hb5 hb6
  unfold Wi.arr
  go_enter Tryz.func63, Tryz.ntmps63
  go_upto_region 1 with fail
  generalize hw1 : World.alloc _ _ = w1
  have KK := Lib.hid (show Kn w.heap.size w [(w.heap.size, wiO x)] w1 by rw [← hw1]; exact (Kn.start w).new' rfl (wiO x))
  clear hw1
  obtain ⟨c0, c1, c2, c3, c4, c5, c6, c7, c8⟩ := wi_cells KK.out.hd rfl
  generalize hg : w.heap.size = g at *
  cases b1
  · skip
    go_wp2_with fail
    go_ret
    exact ⟨by first | rfl | simp [noneB], by first | exact KK.out.b | (rw [hg]; exact KK.out.b)⟩
  · cases b2
    · skip
      go_wp2_with fail
      go_ret
      exact ⟨by first | rfl | simp [noneB], by first | exact KK.out.b | (rw [hg]; exact KK.out.b)⟩
    · cases b3
      · skip
        go_wp2_with fail
        go_ret
        exact ⟨by first | rfl | simp [noneB], by first | exact KK.out.b | (rw [hg]; exact KK.out.b)⟩
      · cases b5
        · skip
          go_wp2_with fail
          go_ret
          exact ⟨by first | rfl | simp [noneB], by first | exact KK.out.b | (rw [hg]; exact KK.out.b)⟩
        · cases b6
          · skip
            go_wp2_with fail
            go_ret
            exact ⟨by first | rfl | simp [noneB], by first | exact KK.out.b | (rw [hg]; exact KK.out.b)⟩
          · skip
            go_wp2_with fail
            go_ret
            exact ⟨by first | rfl | simp [noneB], by first | exact KK.out.b | (rw [hg]; exact KK.out.b)⟩
set_option maxHeartbeats 4000000 in
theorem none_ftfff (x : Wi) (w : World) (hf : i64' x.from_) (ht : i64' x.to_) : Calls Tryz.prog 63 #[.agg x.arr, .bool false, .bool true, .bool false, .bool false, .bool false] w fun e w' => e = .returned (.bool (x.none false true false false false)) ∧ Below w.heap.size w w' := by
  have E0 := fun wx => eq_span x.from_ x.to_ hf ht wx
  have u1 : ((x.np.n : Int) == 0) = (x.np.n == 0) := by rw [Bool.eq_iff_iff]; simp
  have u5 : ((x.vec.n : Int) == 0) = (x.vec.n == 0) := by rw [Bool.eq_iff_iff]; simp
  have u6 : ((x.nr.n : Int) == 0) = (x.nr.n == 0) := by rw [Bool.eq_iff_iff]; simp
  unfold Wi.none
  obtain ⟨b1, hb1⟩ : ∃ b, (x.np.n == 0) = b := ⟨_, rfl⟩
  obtain ⟨b2, hb2⟩ : ∃ b, x.series.toList.isEmpty = b := ⟨_, rfl⟩
  obtain ⟨b3, hb3⟩ : ∃ b, decide (x.from_ = 0 ∧ x.to_ = 0) = b := ⟨_, rfl⟩
  obtain ⟨b4, hb4⟩ : ∃ b, (x.time == 0) = b := ⟨_, rfl⟩
  obtain ⟨b5, hb5⟩ : ∃ b, (x.vec.n == 0) = b := ⟨_, rfl⟩
  obtain ⟨b6, hb6⟩ : ∃ b, (x.nr.n == 0) = b := ⟨_, rfl⟩
  rw [hb3] at E0
  rw [hb1] at u1
  rw [hb5] at u5
  rw [hb6] at u6
  rw [hb1, hb2, hb3, hb4, hb5, hb6]
  clear hf ht hb1 hb3 hb5 hb6
  unfold Wi.arr
  go_enter Tryz.func63, Tryz.ntmps63
  go_upto_region 1 with fail
  generalize hw1 : World.alloc _ _ = w1
  have KK := Lib.hid (show Kn w.heap.size w [(w.heap.size, wiO x)] w1 by rw [← hw1]; exact (Kn.start w).new' rfl (wiO x))
  clear hw1
  obtain ⟨c0, c1, c2, c3, c4, c5, c6, c7, c8⟩ := wi_cells KK.out.hd rfl
  generalize hg : w.heap.size = g at *
  cases b1
  · skip
    go_wp2_with fail
    go_ret
    exact ⟨by first | rfl | simp [noneB], by first | exact KK.out.b | (rw [hg]; exact KK.out.b)⟩
  · cases b4
    · skip
      go_wp2_with fail
      go_ret
      exact ⟨by first | rfl | simp [noneB], by first | exact KK.out.b | (rw [hg]; exact KK.out.b)⟩
    · cases b5
      · skip
        go_wp2_with fail
        go_ret
        exact ⟨by first | rfl | simp [noneB], by first | exact KK.out.b | (rw [hg]; exact KK.out.b)⟩
      · cases b6
        · skip
          go_wp2_with fail
          go_ret
          exact ⟨by first | rfl | simp [noneB], by first | exact KK.out.b | (rw [hg]; exact KK.out.b)⟩
        · skip
          go_wp2_with fail
          go_ret
          exact ⟨by first | rfl | simp [noneB], by first | exact KK.out.b | (rw [hg]; exact KK.out.b)⟩
set_option maxHeartbeats 4000000 in
theorem none_ffftt (x : Wi) (w : World) (hf : i64' x.from_) (ht : i64' x.to_) : Calls Tryz.prog 63 #[.agg x.arr, .bool false, .bool false, .bool false, .bool true, .bool true] w fun e w' => e = .returned (.bool (x.none false false false true true)) ∧ Below w.heap.size w w' := by
  have E0 := fun wx => eq_span x.from_ x.to_ hf ht wx
  have u1 : ((x.np.n : Int) == 0) = (x.np.n == 0) := by rw [Bool.eq_iff_iff]; simp
  have u5 : ((x.vec.n : Int) == 0) = (x.vec.n == 0) := by rw [Bool.eq_iff_iff]; simp
  have u6 : ((x.nr.n : Int) == 0) = (x.nr.n == 0) := by rw [Bool.eq_iff_iff]; simp
  unfold Wi.none
  obtain ⟨b1, hb1⟩ : ∃ b, (x.np.n == 0) = b := ⟨_, rfl⟩
  obtain ⟨b2, hb2⟩ : ∃ b, x.series.toList.isEmpty = b := ⟨_, rfl⟩
  obtain ⟨b3, hb3⟩ : ∃ b, decide (x.from_ = 0 ∧ x.to_ = 0) = b := ⟨_, rfl⟩
  obtain ⟨b4, hb4⟩ : ∃ b, (x.time == 0) = b := ⟨_, rfl⟩
  obtain ⟨b5, hb5⟩ : ∃ b, (x.vec.n == 0) = b := ⟨_, rfl⟩
  obtain ⟨b6, hb6⟩ : ∃ b, (x.nr.n == 0) = b := ⟨_, rfl⟩
  rw [hb3] at E0
  rw [hb1] at u1
  rw [hb5] at u5
  rw [hb6] at u6
  rw [hb1, hb2, hb3, hb4, hb5, hb6]
  clear hf ht hb1 hb3 hb5 hb6
  unfold Wi.arr
  go_enter Tryz.func63, Tryz.ntmps63
  go_upto_region 1 with fail
  generalize hw1 : World.alloc _ _ = w1
  have KK := Lib.hid (show Kn w.heap.size w [(w.heap.size, wiO x)] w1 by rw [← hw1]; exact (Kn.start w).new' rfl (wiO x))
  clear hw1
  obtain ⟨c0, c1, c2, c3, c4, c5, c6, c7, c8⟩ := wi_cells KK.out.hd rfl
  generalize hg : w.heap.size = g at *
  cases b1
  · skip
    go_wp2_with fail
    go_ret
    exact ⟨by first | rfl | simp [noneB], by first | exact KK.out.b | (rw [hg]; exact KK.out.b)⟩
  · cases b2
    · skip
      go_wp2_with fail
      go_ret
      exact ⟨by first | rfl | simp [noneB], by first | exact KK.out.b | (rw [hg]; exact KK.out.b)⟩
    · cases b3
      · skip
        go_wp2_with fail
        go_ret
        exact ⟨by first | rfl | simp [noneB], by first | exact KK.out.b | (rw [hg]; exact KK.out.b)⟩
      · cases b4
        · skip
          go_wp2_with fail
          go_ret
          exact ⟨by first | rfl | simp [noneB], by first | exact KK.out.b | (rw [hg]; exact KK.out.b)⟩
        · skip
          go_wp2_with fail
          go_ret
          exact ⟨by first | rfl | simp [noneB], by first | exact KK.out.b | (rw [hg]; exact KK.out.b)⟩
def endV (t : Int) : Bool := decide (0 ≤ t) && decide (t ≤ 1099511627777)
def spanV (f t : Int) : Bool := decide (0 ≤ f) && decide (f ≤ t) && decide (t ≤ 1099511627777)
set_option maxHeartbeats 4000000 in
theorem check5_any (x : Wi) (w : World) (hk : x.kind = 5) (hf : i64' x.from_) (ht : i64' x.to_) : Calls Tryz.prog 16 #[.agg x.arr] w fun e w' => e = .returned (.int .i64 (if x.none false false true false false = true ∧ endV x.time = true ∧ idV x.id = true then 0 else 1)) ∧ Below w.heap.size w w' := by
  have NN := fun wx => none_fftff x wx hf ht
  obtain ⟨B, hB⟩ : ∃ B, x.none false false true false false = B := ⟨_, rfl⟩
  rw [hB] at NN ⊢
  clear hB hf ht
  obtain ⟨kind, id, series, from_, to_, np, nr, vec, time⟩ := x
  simp only at hk
  subst hk
  unfold Wi.arr at *
  simp only at NN ⊢
  go_enter Tryz.func16, Tryz.ntmps16
  go_upto_region 2 with fail
  generalize hw1 : World.alloc _ _ = w1
  have KK := Lib.hid (show Kn w.heap.size w [(w.heap.size, wiO ⟨5, id, series, from_, to_, np, nr, vec, time⟩)] w1 by rw [← hw1]; exact (Kn.start w).new' rfl (wiO ⟨5, id, series, from_, to_, np, nr, vec, time⟩))
  clear hw1
  generalize hg : w.heap.size = g at *
  have c0 := (wi_cells KK.out.hd rfl).c0
  simp only at c0
  cases B
  · skip
    go_wp2_with fail
    go_step3
    go_wp2_with fail
    go_step3
    go_wp2_with (first
      | refine wpList_load_row rfl 33 _ rfl g rfl 33 (Wi.arr ⟨5, id, series, from_, to_, np, nr, vec, time⟩) (0, 0) _ KK.out.hd Tryz.underlying33 rfl (by kernel_rfl) ?_
      | (go_at_call 63; refine (NN _).mono ?_; rintro e w2 ⟨rfl, dn⟩; have KK := Lib.hid (KK.out.below dn); clear dn; have c1 := (wi_cells KK.out.hd rfl).c1; have c8 := (wi_cells KK.out.hd rfl).c8; simp only at c1 c8))
    first | rw [Exit.noGoto_ret] | skip
    go_ret
    exact ⟨by simp [*], by first | exact KK.out.b | (rw [hg]; exact KK.out.b)⟩
  · by_cases hl : 0 ≤ time
    · have t1 : decide (0 ≤ time) = true := decide_eq_true hl
      have t1' : decide (time ≥ 0) = true := decide_eq_true hl
      by_cases hl2 : time ≤ 1099511627777
      · have t2 : decide (time ≤ 1099511627777) = true := decide_eq_true hl2
        have t3 : endV time = true := by unfold endV; rw [t1, t2]; rfl
        clear hl hl2
        rcases idV_cases id with ⟨h1, h2, h3⟩ | ⟨h1, h2⟩ | ⟨h1, h2, h3⟩
        · skip
          go_wp2_with fail
          go_step3
          go_wp2_with fail
          go_step3
          go_wp2_with (first
            | refine wpList_load_row rfl 33 _ rfl g rfl 33 (Wi.arr ⟨5, id, series, from_, to_, np, nr, vec, time⟩) (0, 0) _ KK.out.hd Tryz.underlying33 rfl (by kernel_rfl) ?_
            | (go_at_call 63; refine (NN _).mono ?_; rintro e w2 ⟨rfl, dn⟩; have KK := Lib.hid (KK.out.below dn); clear dn; have c1 := (wi_cells KK.out.hd rfl).c1; have c8 := (wi_cells KK.out.hd rfl).c8; simp only at c1 c8))
          first | rw [Exit.noGoto_ret] | skip
          go_ret
          exact ⟨by simp [*], by first | exact KK.out.b | (rw [hg]; exact KK.out.b)⟩
        · skip
          go_wp2_with fail
          go_step3
          go_wp2_with fail
          go_step3
          go_wp2_with (first
            | refine wpList_load_row rfl 33 _ rfl g rfl 33 (Wi.arr ⟨5, id, series, from_, to_, np, nr, vec, time⟩) (0, 0) _ KK.out.hd Tryz.underlying33 rfl (by kernel_rfl) ?_
            | (go_at_call 63; refine (NN _).mono ?_; rintro e w2 ⟨rfl, dn⟩; have KK := Lib.hid (KK.out.below dn); clear dn; have c1 := (wi_cells KK.out.hd rfl).c1; have c8 := (wi_cells KK.out.hd rfl).c8; simp only at c1 c8))
          first | rw [Exit.noGoto_ret] | skip
          go_ret
          exact ⟨by simp [*], by first | exact KK.out.b | (rw [hg]; exact KK.out.b)⟩
        · skip
          go_wp2_with fail
          go_step3
          go_wp2_with fail
          go_step3
          go_wp2_with (first
            | refine wpList_load_row rfl 33 _ rfl g rfl 33 (Wi.arr ⟨5, id, series, from_, to_, np, nr, vec, time⟩) (0, 0) _ KK.out.hd Tryz.underlying33 rfl (by kernel_rfl) ?_
            | (go_at_call 63; refine (NN _).mono ?_; rintro e w2 ⟨rfl, dn⟩; have KK := Lib.hid (KK.out.below dn); clear dn; have c1 := (wi_cells KK.out.hd rfl).c1; have c8 := (wi_cells KK.out.hd rfl).c8; simp only at c1 c8))
          first | rw [Exit.noGoto_ret] | skip
          go_ret
          exact ⟨by simp [*], by first | exact KK.out.b | (rw [hg]; exact KK.out.b)⟩
      · have t2 : decide (time ≤ 1099511627777) = false := decide_eq_false hl2
        have t3 : endV time = false := by unfold endV; rw [t1, t2]; rfl
        clear hl hl2
        go_wp2_with fail
        go_step3
        go_wp2_with fail
        go_step3
        go_wp2_with (first
          | refine wpList_load_row rfl 33 _ rfl g rfl 33 (Wi.arr ⟨5, id, series, from_, to_, np, nr, vec, time⟩) (0, 0) _ KK.out.hd Tryz.underlying33 rfl (by kernel_rfl) ?_
          | (go_at_call 63; refine (NN _).mono ?_; rintro e w2 ⟨rfl, dn⟩; have KK := Lib.hid (KK.out.below dn); clear dn; have c1 := (wi_cells KK.out.hd rfl).c1; have c8 := (wi_cells KK.out.hd rfl).c8; simp only at c1 c8))
        first | rw [Exit.noGoto_ret] | skip
        go_ret
        exact ⟨by simp [*], by first | exact KK.out.b | (rw [hg]; exact KK.out.b)⟩
    · have t1 : decide (0 ≤ time) = false := decide_eq_false hl
      have t1' : decide (time ≥ 0) = false := decide_eq_false hl
      have t3 : endV time = false := by unfold endV; rw [t1]; rfl
      clear hl
      go_wp2_with fail
      go_step3
      go_wp2_with fail
      go_step3
      go_wp2_with (first
        | refine wpList_load_row rfl 33 _ rfl g rfl 33 (Wi.arr ⟨5, id, series, from_, to_, np, nr, vec, time⟩) (0, 0) _ KK.out.hd Tryz.underlying33 rfl (by kernel_rfl) ?_
        | (go_at_call 63; refine (NN _).mono ?_; rintro e w2 ⟨rfl, dn⟩; have KK := Lib.hid (KK.out.below dn); clear dn; have c1 := (wi_cells KK.out.hd rfl).c1; have c8 := (wi_cells KK.out.hd rfl).c8; simp only at c1 c8))
      first | rw [Exit.noGoto_ret] | skip
      go_ret
      exact ⟨by simp [*], by first | exact KK.out.b | (rw [hg]; exact KK.out.b)⟩
end
end Go.Proofs.YtglabahbklpocaaGreat
