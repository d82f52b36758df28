/- ship.Check of messages that bear points. -/
import Derived.Test.YtglabahbklpocaaGreatGShipPacks19
import Derived.Test.YtglabahbklpocaaGreatGShipPacks26
import Derived.Test.YtglabahbklpocaaGreatGShipPacks8
namespace Go.Proofs.YtglabahbklpocaaGreat
section
open Go.RowKit Go.Deep
set_option maxRecDepth 100000
set_option linter.unusedVariables false
set_option linter.unusedSimpArgs false
attribute [local go_sem ↓] Go.wp_at_zero Go.wp_at_succ
theorem hp1_any (p : Pt) (w : World) (hp : p.wf) : Calls Tryz.prog 61 #[p.val] w fun e w' => e = .returned (.bool (chkP p != 0)) ∧ Below w.heap.size w w' := by
  have C1 := fun wx => chkpt_any p wx hp
  have hB : Below w.heap.size w (w.alloc (ptO p)) := (Below.refl _ _).alloc (Nat.le_refl _) _
  unfold ptO at hB
  unfold Pt.val at C1 ⊢
  go_enter Tryz.func61, Tryz.ntmps61
  go_wp2_with (first | (go_at_call 62; refine (C1 _).mono ?_; rintro e wn ⟨rfl, dn⟩; have hB := below_then hB (by simp) dn))
  go_ret
  exact ⟨rfl, hB⟩
set_option maxHeartbeats 2000000 in
theorem hidx_any (a : Option Addr) (n c : Nat) (xs : List Pt) (w : World) (h : ReadsE Pt.cs 6 w a n xs) (hwf : ∀ x ∈ xs, x.wf) (hnc : n ≤ c) (hcb : c ≤ 9223372036854775807) :
    Calls Tryz.prog 118 #[.slice a n c, .func (.func 61) #[] #[]] w fun e w' => ∃ i : Int, e = .returned (.int .i64 i) ∧ decide (0 ≤ i) = !(okB xs) ∧ Below w.heap.size w w' := by
  have l1 := h.1
  have H := Lib.hid h
  clear h
  go_enter Tryz.func118, Tryz.ntmps118
  go_wp2_with fail
  go_loopw [8] (fun i wr => ∃ k : Nat, k ≤ n ∧ i = .int .i64 k ∧ okPts (xs.take k) ∧ Below w.heap.size w wr) (fun i _ => n - (intOf i).toNat)
  case atStart => exact ⟨0, by omega, rfl, by intro p hp; simp at hp, Below.refl _ _⟩
  case round =>
    obtain ⟨k, hk, rfl, he, hb⟩ := hrel
    have HE := Lib.hid he
    clear he
    by_cases hlt : k < n
    · have t2 : decide ((k : Int) < (n : Int)) = true := decide_eq_true (by omega)
      obtain ⟨b, o, x, rfl, _, hxk, hC⟩ := H.out.at hb k hlt
      obtain ⟨a0, a1, a2, a3, a4, a5⟩ := pt_cells hC
      have i1 : (0 : Int) ≤ (k : Int) := by omega
      have i2 : (k : Int) < (n : Int) := by omega
      have C1 := fun wx => hp1_any x wx (hwf x (List.mem_of_getElem? hxk))
      have hT : xs.take (k + 1) = xs.take k ++ [x] := by rw [List.take_add_one, hxk]; rfl
      have HT := Lib.hid hT
      have hzz := hb.size
      clear hC hT
      rcases chkP_01 x with h0 | h0
      · have HN : Hid (okPts (xs.take (k + 1))) := by
          show okPts _
          rw [HT.out]
          intro p hp
          rcases List.mem_append.1 hp with hp | hp
          · exact HE.out p hp
          · simp only [List.mem_singleton] at hp
            subst hp
            exact h0
        rw [h0, show ((0 : Int) != 0) = false from rfl] at C1
        clear h0
        unfold Pt.val at C1
        go_wp2_with (first | (go_at_call 61; refine (C1 _).mono ?_; rintro e wn ⟨rfl, dn⟩; have hb := below_then hb hzz dn))
        go_roundw
        case rel => exact ⟨k + 1, by omega, by go_num, HN.out, hb⟩
        case measure => simp [intOf]; omega
      · have HN : Hid (okB xs = false) := by
          show _ = _
          refine okB_false (fun hh => ?_)
          have := hh x (List.mem_of_getElem? hxk)
          rw [h0] at this
          cases this
        rw [h0, show ((1 : Int) != 0) = true from rfl] at C1
        clear h0
        unfold Pt.val at C1
        go_wp2_with (first | (go_at_call 61; refine (C1 _).mono ?_; rintro e wn ⟨rfl, dn⟩; have hb := below_then hb hzz dn))
        go_ret
        exact ⟨k, rfl, by rw [HN.out]; simp, hb⟩
    · obtain rfl : k = n := by omega
      have t2 : decide ((k : Int) < (k : Int)) = false := decide_eq_false (by omega)
      have HN : Hid (okB xs = true) := by
        show _ = _
        refine okB_true ?_
        have := HE.out
        rwa [List.take_of_length_le (by omega)] at this
      go_wp2_with fail
      go_ret
      exact ⟨-1, rfl, by rw [HN.out]; rfl, hb⟩
theorem hcont_any (a : Option Addr) (n c : Nat) (xs : List Pt) (w : World) (h : ReadsE Pt.cs 6 w a n xs) (hwf : ∀ x ∈ xs, x.wf) (hnc : n ≤ c) (hcb : c ≤ 9223372036854775807) :
    Calls Tryz.prog 60 #[.slice a n c, .func (.func 61) #[] #[]] w fun e w' => e = .returned (.bool (!(okB xs))) ∧ Below w.heap.size w w' := by
  have C := fun wx hb => hidx_any a n c xs wx (h.below (w' := wx) hb) hwf hnc hcb
  go_enter Tryz.func60, Tryz.ntmps60
  go_wp2_with fail
  refine (C _ (Below.refl _ _)).mono ?_
  rintro e w1 ⟨i, rfl, hi, d1⟩
  go_wp2_with fail
  go_ret
  exact ⟨rfl, d1⟩
/-- A slice of points. -/
structure SlP (w : World) (d : Sl) (xs : List Pt) : Prop where
  r : ReadsE Pt.cs 6 w d.a d.n xs
  wf : ∀ x ∈ xs, x.wf
  nc : d.n ≤ d.c
  cb : d.c ≤ 9223372036854775807
theorem SlP.below {w w' : World} {d : Sl} {xs : List Pt} (h : SlP w d xs) (hb : Below w.heap.size w w') : SlP w' d xs := ⟨h.r.below hb, h.wf, h.nc, h.cb⟩
set_option maxHeartbeats 4000000 in
theorem none_tffff (x : Wi) (w : World) (hf : i64' x.from_) (ht : i64' x.to_) : Calls Tryz.prog 63 #[.agg x.arr, .bool true, .bool false, .bool false, .bool false, .bool false] w fun e w' => e = .returned (.bool (x.none true false false false false)) ∧ Below w.heap.size w w' := by
  have E0 := fun wx => eq_span x.from_ x.to_ hf ht wx
  have u1 : ((x.np.n : Int) == 0) = (x.np.n == 0) := by rw [Bool.eq_iff_iff]; simp
  have u5 : ((x.vec.n : Int) == 0) = (x.vec.n == 0) := by rw [Bool.eq_iff_iff]; simp
  have u6 : ((x.nr.n : Int) == 0) = (x.nr.n == 0) := by rw [Bool.eq_iff_iff]; simp
  unfold Wi.none
  obtain ⟨b1, hb1⟩ : ∃ b, (x.np.n == 0) = b := ⟨_, rfl⟩
  obtain ⟨b2, hb2⟩ : ∃ b, x.series.toList.isEmpty = b := ⟨_, rfl⟩
  obtain ⟨b3, hb3⟩ : ∃ b, decide (x.from_ = 0 ∧ x.to_ = 0) = b := ⟨_, rfl⟩
  obtain ⟨b4, hb4⟩ : ∃ b, (x.time == 0) = b := ⟨_, rfl⟩
  obtain ⟨b5, hb5⟩ : ∃ b, (x.vec.n == 0) = b := ⟨_, rfl⟩
  obtain ⟨b6, hb6⟩ : ∃ b, (x.nr.n == 0) = b := ⟨_, rfl⟩
  rw [hb3] at E0
  rw [hb1] at u1
  rw [hb5] at u5
  rw [hb6] at u6
  rw [hb1, hb2, hb3, hb4, hb5, hb6]
  clear hf ht hb1 hb3 hb5 hb6
  unfold Wi.arr
  go_enter Tryz.func63, Tryz.ntmps63
  go_upto_region 1 with fail
  generalize hw1 : World.alloc _ _ = w1
  have KK := Lib.hid (show Kn w.heap.size w [(w.heap.size, wiO x)] w1 by rw [← hw1]; exact (Kn.start w).new' rfl (wiO x))
  clear hw1
  obtain ⟨c0, c1, c2, c3, c4, c5, c6, c7, c8⟩ := wi_cells KK.out.hd rfl
  generalize hg : w.heap.size = g at *
  cases b2
  · skip
    go_wp2_with fail
    go_ret
    exact ⟨by first | rfl | simp [noneB], by first | exact KK.out.b | (rw [hg]; exact KK.out.b)⟩
  · cases b3
    · skip
      go_wp2_with fail
      go_ret
      exact ⟨by first | rfl | simp [noneB], by first | exact KK.out.b | (rw [hg]; exact KK.out.b)⟩
    · cases b4
      · skip
        go_wp2_with fail
        go_ret
        exact ⟨by first | rfl | simp [noneB], by first | exact KK.out.b | (rw [hg]; exact KK.out.b)⟩
      · cases b5
        · skip
          go_wp2_with fail
          go_ret
          exact ⟨by first | rfl | simp [noneB], by first | exact KK.out.b | (rw [hg]; exact KK.out.b)⟩
        · cases b6
          · skip
            go_wp2_with fail
            go_ret
            exact ⟨by first | rfl | simp [noneB], by first | exact KK.out.b | (rw [hg]; exact KK.out.b)⟩
          · skip
            go_wp2_with fail
            go_ret
            exact ⟨by first | rfl | simp [noneB], by first | exact KK.out.b | (rw [hg]; exact KK.out.b)⟩
set_option maxHeartbeats 8000000 in
theorem check1_any (x : Wi) (ps : List Pt) (w : World) (hk : x.kind = 1) (hf : i64' x.from_) (ht : i64' x.to_) (hp : SlP w x.np ps) : Calls Tryz.prog 16 #[.agg x.arr] w fun e w' => e = .returned (.int .i64 (if x.none true false false false false = true ∧ decide ((x.np.n : Int) ≤ 200) = true ∧ okB ps = true ∧ idV x.id = true then 0 else 1)) ∧ Below w.heap.size w w' := by
  have NN := fun wx => none_tffff x wx hf ht
  have HPP := Lib.hid hp
  have CT := fun wx (hb : Below w.heap.size w wx) => hcont_any x.np.a x.np.n x.np.c ps wx ((HPP.out.below hb).r) HPP.out.wf HPP.out.nc HPP.out.cb
  obtain ⟨B, hB⟩ : ∃ B, x.none true false false false false = B := ⟨_, rfl⟩
  obtain ⟨R, hR⟩ : ∃ R, okB ps = R := ⟨_, rfl⟩
  rw [hB] at NN ⊢
  rw [hR] at CT ⊢
  clear hB hf ht hR hp HPP
  obtain ⟨kind, id, series, from_, to_, np, nr, vec, time⟩ := x
  simp only at hk
  subst hk
  unfold Wi.arr at *
  simp only at NN ⊢
  go_enter Tryz.func16, Tryz.ntmps16
  go_upto_region 2 with fail
  generalize hw1 : World.alloc _ _ = w1
  have KK := Lib.hid (show Kn w.heap.size w [(w.heap.size, wiO ⟨1, id, series, from_, to_, np, nr, vec, time⟩)] w1 by rw [← hw1]; exact (Kn.start w).new' rfl (wiO ⟨1, id, series, from_, to_, np, nr, vec, time⟩))
  clear hw1
  generalize hg : w.heap.size = g at *
  have c0 := (wi_cells KK.out.hd rfl).c0
  simp only at c0
  have c5 := (wi_cells KK.out.hd rfl).c5
  simp only at c5
  cases R
  · cases B
    · skip
      go_wp2_with fail
      go_step3
      go_wp2_with fail
      go_step3
      go_wp2_with (first
        | refine wpList_load_row rfl 33 _ rfl g rfl 33 (Wi.arr ⟨1, id, series, from_, to_, np, nr, vec, time⟩) (0, 0) _ KK.out.hd Tryz.underlying33 rfl (by kernel_rfl) ?_
        | (go_at_call 63; refine (NN _).mono ?_; rintro e w2 ⟨rfl, dn⟩; have KK := Lib.hid (KK.out.below dn); clear dn; have c1 := (wi_cells KK.out.hd rfl).c1; have c5 := (wi_cells KK.out.hd rfl).c5; simp only at c1 c5)
        | (go_at_call 60; refine (CT _ KK.out.b).mono ?_; rintro e w3 ⟨rfl, dn⟩; have KK := Lib.hid (KK.out.below dn); clear dn c0 c5))
      first | rw [Exit.noGoto_ret] | skip
      go_ret
      exact ⟨by simp [*], by first | exact KK.out.b | (rw [hg]; exact KK.out.b)⟩
    · by_cases hl : (np.n : Int) ≤ 200
      · have t1 : decide ((np.n : Int) ≤ 200) = true := decide_eq_true hl
        go_wp2_with fail
        go_step3
        go_wp2_with fail
        go_step3
        go_wp2_with (first
          | refine wpList_load_row rfl 33 _ rfl g rfl 33 (Wi.arr ⟨1, id, series, from_, to_, np, nr, vec, time⟩) (0, 0) _ KK.out.hd Tryz.underlying33 rfl (by kernel_rfl) ?_
          | (go_at_call 63; refine (NN _).mono ?_; rintro e w2 ⟨rfl, dn⟩; have KK := Lib.hid (KK.out.below dn); clear dn; have c1 := (wi_cells KK.out.hd rfl).c1; have c5 := (wi_cells KK.out.hd rfl).c5; simp only at c1 c5)
          | (go_at_call 60; refine (CT _ KK.out.b).mono ?_; rintro e w3 ⟨rfl, dn⟩; have KK := Lib.hid (KK.out.below dn); clear dn c0 c5))
        first | rw [Exit.noGoto_ret] | skip
        go_ret
        exact ⟨by simp [*], by first | exact KK.out.b | (rw [hg]; exact KK.out.b)⟩
      · have t1 : decide ((np.n : Int) ≤ 200) = false := decide_eq_false hl
        go_wp2_with fail
        go_step3
        go_wp2_with fail
        go_step3
        go_wp2_with (first
          | refine wpList_load_row rfl 33 _ rfl g rfl 33 (Wi.arr ⟨1, id, series, from_, to_, np, nr, vec, time⟩) (0, 0) _ KK.out.hd Tryz.underlying33 rfl (by kernel_rfl) ?_
          | (go_at_call 63; refine (NN _).mono ?_; rintro e w2 ⟨rfl, dn⟩; have KK := Lib.hid (KK.out.below dn); clear dn; have c1 := (wi_cells KK.out.hd rfl).c1; have c5 := (wi_cells KK.out.hd rfl).c5; simp only at c1 c5)
          | (go_at_call 60; refine (CT _ KK.out.b).mono ?_; rintro e w3 ⟨rfl, dn⟩; have KK := Lib.hid (KK.out.below dn); clear dn c0 c5))
        first | rw [Exit.noGoto_ret] | skip
        go_ret
        exact ⟨by simp [*], by first | exact KK.out.b | (rw [hg]; exact KK.out.b)⟩
  · cases B
    · skip
      go_wp2_with fail
      go_step3
      go_wp2_with fail
      go_step3
      go_wp2_with (first
        | refine wpList_load_row rfl 33 _ rfl g rfl 33 (Wi.arr ⟨1, id, series, from_, to_, np, nr, vec, time⟩) (0, 0) _ KK.out.hd Tryz.underlying33 rfl (by kernel_rfl) ?_
        | (go_at_call 63; refine (NN _).mono ?_; rintro e w2 ⟨rfl, dn⟩; have KK := Lib.hid (KK.out.below dn); clear dn; have c1 := (wi_cells KK.out.hd rfl).c1; have c5 := (wi_cells KK.out.hd rfl).c5; simp only at c1 c5)
        | (go_at_call 60; refine (CT _ KK.out.b).mono ?_; rintro e w3 ⟨rfl, dn⟩; have KK := Lib.hid (KK.out.below dn); clear dn c0 c5))
      first | rw [Exit.noGoto_ret] | skip
      go_ret
      exact ⟨by simp [*], by first | exact KK.out.b | (rw [hg]; exact KK.out.b)⟩
    · by_cases hl : (np.n : Int) ≤ 200
      · have t1 : decide ((np.n : Int) ≤ 200) = true := decide_eq_true hl
        rcases idV_cases id with ⟨h1, h2, h3⟩ | ⟨h1, h2⟩ | ⟨h1, h2, h3⟩
        · skip
          go_wp2_with fail
          go_step3
          go_wp2_with fail
          go_step3
          go_wp2_with (first
            | refine wpList_load_row rfl 33 _ rfl g rfl 33 (Wi.arr ⟨1, id, series, from_, to_, np, nr, vec, time⟩) (0, 0) _ KK.out.hd Tryz.underlying33 rfl (by kernel_rfl) ?_
            | (go_at_call 63; refine (NN _).mono ?_; rintro e w2 ⟨rfl, dn⟩; have KK := Lib.hid (KK.out.below dn); clear dn; have c1 := (wi_cells KK.out.hd rfl).c1; have c5 := (wi_cells KK.out.hd rfl).c5; simp only at c1 c5)
            | (go_at_call 60; refine (CT _ KK.out.b).mono ?_; rintro e w3 ⟨rfl, dn⟩; have KK := Lib.hid (KK.out.below dn); clear dn c0 c5))
          first | rw [Exit.noGoto_ret] | skip
          go_ret
          exact ⟨by simp [*], by first | exact KK.out.b | (rw [hg]; exact KK.out.b)⟩
        · skip
          go_wp2_with fail
          go_step3
          go_wp2_with fail
          go_step3
          go_wp2_with (first
            | refine wpList_load_row rfl 33 _ rfl g rfl 33 (Wi.arr ⟨1, id, series, from_, to_, np, nr, vec, time⟩) (0, 0) _ KK.out.hd Tryz.underlying33 rfl (by kernel_rfl) ?_
            | (go_at_call 63; refine (NN _).mono ?_; rintro e w2 ⟨rfl, dn⟩; have KK := Lib.hid (KK.out.below dn); clear dn; have c1 := (wi_cells KK.out.hd rfl).c1; have c5 := (wi_cells KK.out.hd rfl).c5; simp only at c1 c5)
            | (go_at_call 60; refine (CT _ KK.out.b).mono ?_; rintro e w3 ⟨rfl, dn⟩; have KK := Lib.hid (KK.out.below dn); clear dn c0 c5))
          first | rw [Exit.noGoto_ret] | skip
          go_ret
          exact ⟨by simp [*], by first | exact KK.out.b | (rw [hg]; exact KK.out.b)⟩
        · skip
          go_wp2_with fail
          go_step3
          go_wp2_with fail
          go_step3
          go_wp2_with (first
            | refine wpList_load_row rfl 33 _ rfl g rfl 33 (Wi.arr ⟨1, id, series, from_, to_, np, nr, vec, time⟩) (0, 0) _ KK.out.hd Tryz.underlying33 rfl (by kernel_rfl) ?_
            | (go_at_call 63; refine (NN _).mono ?_; rintro e w2 ⟨rfl, dn⟩; have KK := Lib.hid (KK.out.below dn); clear dn; have c1 := (wi_cells KK.out.hd rfl).c1; have c5 := (wi_cells KK.out.hd rfl).c5; simp only at c1 c5)
            | (go_at_call 60; refine (CT _ KK.out.b).mono ?_; rintro e w3 ⟨rfl, dn⟩; have KK := Lib.hid (KK.out.below dn); clear dn c0 c5))
          first | rw [Exit.noGoto_ret] | skip
          go_ret
          exact ⟨by simp [*], by first | exact KK.out.b | (rw [hg]; exact KK.out.b)⟩
      · have t1 : decide ((np.n : Int) ≤ 200) = false := decide_eq_false hl
        go_wp2_with fail
        go_step3
        go_wp2_with fail
        go_step3
        go_wp2_with (first
          | refine wpList_load_row rfl 33 _ rfl g rfl 33 (Wi.arr ⟨1, id, series, from_, to_, np, nr, vec, time⟩) (0, 0) _ KK.out.hd Tryz.underlying33 rfl (by kernel_rfl) ?_
          | (go_at_call 63; refine (NN _).mono ?_; rintro e w2 ⟨rfl, dn⟩; have KK := Lib.hid (KK.out.below dn); clear dn; have c1 := (wi_cells KK.out.hd rfl).c1; have c5 := (wi_cells KK.out.hd rfl).c5; simp only at c1 c5)
          | (go_at_call 60; refine (CT _ KK.out.b).mono ?_; rintro e w3 ⟨rfl, dn⟩; have KK := Lib.hid (KK.out.below dn); clear dn c0 c5))
        first | rw [Exit.noGoto_ret] | skip
        go_ret
        exact ⟨by simp [*], by first | exact KK.out.b | (rw [hg]; exact KK.out.b)⟩
end
end Go.Proofs.YtglabahbklpocaaGreat
