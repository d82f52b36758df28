/- ship.Check, ship.Bytes: messages that are done, and those that tell a vector. -/
import Derived.Test.YtglabahbklpocaaGreatGShipPacks18
import Derived.Test.YtglabahbklpocaaGreatGShipPacks17
import Derived.Test.YtglabahbklpocaaGreatGShipPacks4
import Derived.Test.YtglabahbklpocaaGreatGShipPacks6
namespace Go.Proofs.YtglabahbklpocaaGreat
section
open Go.RowKit Go.Deep
set_option maxRecDepth 100000
set_option linter.unusedVariables false
set_option linter.unusedSimpArgs false
attribute [local go_sem ↓] Go.wp_at_zero Go.wp_at_succ
def idV (n : Int) : Bool := decide (0 ≤ n) && decide (n ≤ 1099511627776)
theorem wi_one (x : Wi) : x.arr.all (·.oneCell') = true := by simp [Wi.arr, Value.oneCell']
theorem idV_cases (n : Int) : (idV n = true ∧ decide (n < 0) = false ∧ decide (n > 1099511627776) = false) ∨ (idV n = false ∧ decide (n < 0) = true) ∨ (idV n = false ∧ decide (n < 0) = false ∧ decide (n > 1099511627776) = true) := by
  unfold idV
  by_cases h1 : n < 0
  · exact .inr (.inl ⟨by simp; omega, decide_eq_true h1⟩)
  · by_cases h2 : n > 1099511627776
    · exact .inr (.inr ⟨by simp; omega, decide_eq_false h1, decide_eq_true h2⟩)
    · exact .inl ⟨by simp; omega, decide_eq_false h1, decide_eq_false h2⟩
set_option maxHeartbeats 4000000 in
theorem check2_any (x : Wi) (w : World) (hk : x.kind = 2) (hf : i64' x.from_) (ht : i64' x.to_) : Calls Tryz.prog 16 #[.agg x.arr] w fun e w' => e = .returned (.int .i64 (if x.none false false false false false = true ∧ idV x.id = true then 0 else 1)) ∧ Below w.heap.size w w' := by
  have NN := fun wx => none_fffff x wx hf ht
  have RG : World → True → True := fun _ _ => trivial
  obtain ⟨B, hB⟩ : ∃ B, x.none false false false false false = B := ⟨_, rfl⟩
  rw [hB] at NN ⊢
  clear hB hf ht
  obtain ⟨kind, id, series, from_, to_, np, nr, vec, time⟩ := x
  simp only at hk
  subst hk
  unfold Wi.arr at *
  simp only at NN ⊢
  go_enter Tryz.func16, Tryz.ntmps16
  go_upto_region 2 with fail
  generalize hw1 : World.alloc _ _ = w1
  have KK := Lib.hid (show Kn w.heap.size w [(w.heap.size, wiO ⟨2, id, series, from_, to_, np, nr, vec, time⟩)] w1 by rw [← hw1]; exact (Kn.start w).new' rfl (wiO ⟨2, id, series, from_, to_, np, nr, vec, time⟩))
  clear hw1
  generalize hg : w.heap.size = g at *
  have c0 := (wi_cells KK.out.hd rfl).c0
  simp only at c0
  cases B
  · skip
    go_wp2_with fail
    go_step3
    go_wp2_with fail
    go_step3
    go_wp2_with (first
      | refine wpList_load_row rfl 33 _ rfl g rfl 33 (Wi.arr ⟨2, id, series, from_, to_, np, nr, vec, time⟩) (0, 0) _ KK.out.hd Tryz.underlying33 rfl (by kernel_rfl) ?_
      | (go_at_call 63; refine (NN _).mono ?_; rintro e w2 ⟨rfl, dn⟩; have KK := Lib.hid (KK.out.below dn); clear dn; have c1 := (wi_cells KK.out.hd rfl).c1; have c7 := (wi_cells KK.out.hd rfl).c7; simp only at c1 c7)
      | (go_at_call 66; refine (RG _ KK.out.b).mono ?_; rintro e w3 ⟨rfl, dn⟩; have KK := Lib.hid (KK.out.below dn); clear dn c1 c7; have c1 := (wi_cells KK.out.hd rfl).c1; simp only at c1))
    first | rw [Exit.noGoto_ret] | skip
    go_ret
    exact ⟨by simp [*], by first | exact KK.out.b | (rw [hg]; exact KK.out.b)⟩
  · rcases idV_cases id with ⟨h1, h2, h3⟩ | ⟨h1, h2⟩ | ⟨h1, h2, h3⟩
    · skip
      go_wp2_with fail
      go_step3
      go_wp2_with fail
      go_step3
      go_wp2_with (first
        | refine wpList_load_row rfl 33 _ rfl g rfl 33 (Wi.arr ⟨2, id, series, from_, to_, np, nr, vec, time⟩) (0, 0) _ KK.out.hd Tryz.underlying33 rfl (by kernel_rfl) ?_
        | (go_at_call 63; refine (NN _).mono ?_; rintro e w2 ⟨rfl, dn⟩; have KK := Lib.hid (KK.out.below dn); clear dn; have c1 := (wi_cells KK.out.hd rfl).c1; have c7 := (wi_cells KK.out.hd rfl).c7; simp only at c1 c7)
        | (go_at_call 66; refine (RG _ KK.out.b).mono ?_; rintro e w3 ⟨rfl, dn⟩; have KK := Lib.hid (KK.out.below dn); clear dn c1 c7; have c1 := (wi_cells KK.out.hd rfl).c1; simp only at c1))
      first | rw [Exit.noGoto_ret] | skip
      go_ret
      exact ⟨by simp [*], by first | exact KK.out.b | (rw [hg]; exact KK.out.b)⟩
    · skip
      go_wp2_with fail
      go_step3
      go_wp2_with fail
      go_step3
      go_wp2_with (first
        | refine wpList_load_row rfl 33 _ rfl g rfl 33 (Wi.arr ⟨2, id, series, from_, to_, np, nr, vec, time⟩) (0, 0) _ KK.out.hd Tryz.underlying33 rfl (by kernel_rfl) ?_
        | (go_at_call 63; refine (NN _).mono ?_; rintro e w2 ⟨rfl, dn⟩; have KK := Lib.hid (KK.out.below dn); clear dn; have c1 := (wi_cells KK.out.hd rfl).c1; have c7 := (wi_cells KK.out.hd rfl).c7; simp only at c1 c7)
        | (go_at_call 66; refine (RG _ KK.out.b).mono ?_; rintro e w3 ⟨rfl, dn⟩; have KK := Lib.hid (KK.out.below dn); clear dn c1 c7; have c1 := (wi_cells KK.out.hd rfl).c1; simp only at c1))
      first | rw [Exit.noGoto_ret] | skip
      go_ret
      exact ⟨by simp [*], by first | exact KK.out.b | (rw [hg]; exact KK.out.b)⟩
    · skip
      go_wp2_with fail
      go_step3
      go_wp2_with fail
      go_step3
      go_wp2_with (first
        | refine wpList_load_row rfl 33 _ rfl g rfl 33 (Wi.arr ⟨2, id, series, from_, to_, np, nr, vec, time⟩) (0, 0) _ KK.out.hd Tryz.underlying33 rfl (by kernel_rfl) ?_
        | (go_at_call 63; refine (NN _).mono ?_; rintro e w2 ⟨rfl, dn⟩; have KK := Lib.hid (KK.out.below dn); clear dn; have c1 := (wi_cells KK.out.hd rfl).c1; have c7 := (wi_cells KK.out.hd rfl).c7; simp only at c1 c7)
        | (go_at_call 66; refine (RG _ KK.out.b).mono ?_; rintro e w3 ⟨rfl, dn⟩; have KK := Lib.hid (KK.out.below dn); clear dn c1 c7; have c1 := (wi_cells KK.out.hd rfl).c1; simp only at c1))
      first | rw [Exit.noGoto_ret] | skip
      go_ret
      exact ⟨by simp [*], by first | exact KK.out.b | (rw [hg]; exact KK.out.b)⟩
set_option maxHeartbeats 4000000 in
theorem check6_any (x : Wi) (vs : List Int) (w : World) (hk : x.kind = 6) (hf : i64' x.from_) (ht : i64' x.to_) (hv : SlR w x.vec vs) : Calls Tryz.prog 16 #[.agg x.arr] w fun e w' => e = .returned (.int .i64 (if x.none false false false true false = true ∧ decide (vs = pl vs) = true ∧ idV x.id = true then 0 else 1)) ∧ Below w.heap.size w w' := by
  have NN := fun wx => none_ffftf x wx hf ht
  have HVV := Lib.hid hv
  have RG := fun wx (hb : Below w.heap.size w wx) => right_any x.vec.a x.vec.n x.vec.c vs wx ((HVV.out.below hb).r) HVV.out.nc HVV.out.cb
  obtain ⟨B, hB⟩ : ∃ B, x.none false false false true false = B := ⟨_, rfl⟩
  obtain ⟨R, hR⟩ : ∃ R, decide (vs = pl vs) = R := ⟨_, rfl⟩
  rw [hB] at NN ⊢
  rw [hR] at RG ⊢
  clear hB hf ht hR hv HVV
  obtain ⟨kind, id, series, from_, to_, np, nr, vec, time⟩ := x
  simp only at hk
  subst hk
  unfold Wi.arr at *
  simp only at NN ⊢
  go_enter Tryz.func16, Tryz.ntmps16
  go_upto_region 2 with fail
  generalize hw1 : World.alloc _ _ = w1
  have KK := Lib.hid (show Kn w.heap.size w [(w.heap.size, wiO ⟨6, id, series, from_, to_, np, nr, vec, time⟩)] w1 by rw [← hw1]; exact (Kn.start w).new' rfl (wiO ⟨6, id, series, from_, to_, np, nr, vec, time⟩))
  clear hw1
  generalize hg : w.heap.size = g at *
  have c0 := (wi_cells KK.out.hd rfl).c0
  simp only at c0
  cases B
  · skip
    go_wp2_with fail
    go_step3
    go_wp2_with fail
    go_step3
    go_wp2_with (first
      | refine wpList_load_row rfl 33 _ rfl g rfl 33 (Wi.arr ⟨6, id, series, from_, to_, np, nr, vec, time⟩) (0, 0) _ KK.out.hd Tryz.underlying33 rfl (by kernel_rfl) ?_
      | (go_at_call 63; refine (NN _).mono ?_; rintro e w2 ⟨rfl, dn⟩; have KK := Lib.hid (KK.out.below dn); clear dn; have c1 := (wi_cells KK.out.hd rfl).c1; have c7 := (wi_cells KK.out.hd rfl).c7; simp only at c1 c7)
      | (go_at_call 66; refine (RG _ KK.out.b).mono ?_; rintro e w3 ⟨rfl, dn⟩; have KK := Lib.hid (KK.out.below dn); clear dn c1 c7; have c1 := (wi_cells KK.out.hd rfl).c1; simp only at c1))
    first | rw [Exit.noGoto_ret] | skip
    go_ret
    exact ⟨by simp [*], by first | exact KK.out.b | (rw [hg]; exact KK.out.b)⟩
  · cases R
    · skip
      go_wp2_with fail
      go_step3
      go_wp2_with fail
      go_step3
      go_wp2_with (first
        | refine wpList_load_row rfl 33 _ rfl g rfl 33 (Wi.arr ⟨6, id, series, from_, to_, np, nr, vec, time⟩) (0, 0) _ KK.out.hd Tryz.underlying33 rfl (by kernel_rfl) ?_
        | (go_at_call 63; refine (NN _).mono ?_; rintro e w2 ⟨rfl, dn⟩; have KK := Lib.hid (KK.out.below dn); clear dn; have c1 := (wi_cells KK.out.hd rfl).c1; have c7 := (wi_cells KK.out.hd rfl).c7; simp only at c1 c7)
        | (go_at_call 66; refine (RG _ KK.out.b).mono ?_; rintro e w3 ⟨rfl, dn⟩; have KK := Lib.hid (KK.out.below dn); clear dn c1 c7; have c1 := (wi_cells KK.out.hd rfl).c1; simp only at c1))
      first | rw [Exit.noGoto_ret] | skip
      go_ret
      exact ⟨by simp [*], by first | exact KK.out.b | (rw [hg]; exact KK.out.b)⟩
    · rcases idV_cases id with ⟨h1, h2, h3⟩ | ⟨h1, h2⟩ | ⟨h1, h2, h3⟩
      · skip
        go_wp2_with fail
        go_step3
        go_wp2_with fail
        go_step3
        go_wp2_with (first
          | refine wpList_load_row rfl 33 _ rfl g rfl 33 (Wi.arr ⟨6, id, series, from_, to_, np, nr, vec, time⟩) (0, 0) _ KK.out.hd Tryz.underlying33 rfl (by kernel_rfl) ?_
          | (go_at_call 63; refine (NN _).mono ?_; rintro e w2 ⟨rfl, dn⟩; have KK := Lib.hid (KK.out.below dn); clear dn; have c1 := (wi_cells KK.out.hd rfl).c1; have c7 := (wi_cells KK.out.hd rfl).c7; simp only at c1 c7)
          | (go_at_call 66; refine (RG _ KK.out.b).mono ?_; rintro e w3 ⟨rfl, dn⟩; have KK := Lib.hid (KK.out.below dn); clear dn c1 c7; have c1 := (wi_cells KK.out.hd rfl).c1; simp only at c1))
        first | rw [Exit.noGoto_ret] | skip
        go_ret
        exact ⟨by simp [*], by first | exact KK.out.b | (rw [hg]; exact KK.out.b)⟩
      · skip
        go_wp2_with fail
        go_step3
        go_wp2_with fail
        go_step3
        go_wp2_with (first
          | refine wpList_load_row rfl 33 _ rfl g rfl 33 (Wi.arr ⟨6, id, series, from_, to_, np, nr, vec, time⟩) (0, 0) _ KK.out.hd Tryz.underlying33 rfl (by kernel_rfl) ?_
          | (go_at_call 63; refine (NN _).mono ?_; rintro e w2 ⟨rfl, dn⟩; have KK := Lib.hid (KK.out.below dn); clear dn; have c1 := (wi_cells KK.out.hd rfl).c1; have c7 := (wi_cells KK.out.hd rfl).c7; simp only at c1 c7)
          | (go_at_call 66; refine (RG _ KK.out.b).mono ?_; rintro e w3 ⟨rfl, dn⟩; have KK := Lib.hid (KK.out.below dn); clear dn c1 c7; have c1 := (wi_cells KK.out.hd rfl).c1; simp only at c1))
        first | rw [Exit.noGoto_ret] | skip
        go_ret
        exact ⟨by simp [*], by first | exact KK.out.b | (rw [hg]; exact KK.out.b)⟩
      · skip
        go_wp2_with fail
        go_step3
        go_wp2_with fail
        go_step3
        go_wp2_with (first
          | refine wpList_load_row rfl 33 _ rfl g rfl 33 (Wi.arr ⟨6, id, series, from_, to_, np, nr, vec, time⟩) (0, 0) _ KK.out.hd Tryz.underlying33 rfl (by kernel_rfl) ?_
          | (go_at_call 63; refine (NN _).mono ?_; rintro e w2 ⟨rfl, dn⟩; have KK := Lib.hid (KK.out.below dn); clear dn; have c1 := (wi_cells KK.out.hd rfl).c1; have c7 := (wi_cells KK.out.hd rfl).c7; simp only at c1 c7)
          | (go_at_call 66; refine (RG _ KK.out.b).mono ?_; rintro e w3 ⟨rfl, dn⟩; have KK := Lib.hid (KK.out.below dn); clear dn c1 c7; have c1 := (wi_cells KK.out.hd rfl).c1; simp only at c1))
        first | rw [Exit.noGoto_ret] | skip
        go_ret
        exact ⟨by simp [*], by first | exact KK.out.b | (rw [hg]; exact KK.out.b)⟩
theorem hnum_any (n : Int) (w : World) (h0 : 0 ≤ n) (h1 : n ≤ 9223372036854775807) : Calls Tryz.prog 38 #[.int .i64 n] w fun e w' => e = .returned (.string (vput n)) ∧ Below w.heap.size w w' := by
  have P := fun wx => put_any n wx h0 (by omega)
  have hw : IntKind.u64.wrap n = n := by simp [IntKind.wrap, IntKind.bits, IntKind.signed]; omega
  go_enter Tryz.func38, Tryz.ntmps38
  go_wp2_with (go_at_call 99; refine (P _).mono ?_; rintro e w1 ⟨rfl, d1⟩; have FIN := Lib.hid d1; clear d1)
  go_ret
  exact ⟨rfl, FIN.out⟩
theorem mcat_lenH (l : List Int) : (mcat l).length ≤ 10 * l.length := by
  induction l with
  | nil => simp [mcat]
  | cons x r ih =>
    rw [show mcat (x :: r) = putB 9 x ++ mcat r from rfl, List.length_append, List.length_cons]
    have : (putB 9 x).length ≤ 10 := by simp only [putB, List.length_map]; exact putI_le 9 _
    omega
theorem wh_held {B g : Nat} {w0 w wd : World} {l : List (Nat × Obj)} {x : Wi} (h : Kn B w0 ((g, wiO x) :: l) w) (e : wd.heap = w.heap) : wd.cell? ⟨g, 0, none⟩ = some (.int .i64 x.kind) ∧ wd.cell? ⟨g, 1, none⟩ = some (.int .i64 x.id) := ⟨(wi_cells h.hd e).c0, (wi_cells h.hd e).c1⟩
set_option maxHeartbeats 8000000 in
theorem bytes2_any (x : Wi) (w : World) (hk : x.kind = 2) (hf : i64' x.from_) (ht : i64' x.to_) (hid : idV x.id = true) (hno : x.none false false false false false = true) : Calls Tryz.prog 12 #[.agg x.arr] w fun e w' => e = .returned (.tuple #[.string (vput 2 ++ vput x.id), .int .i64 0]) ∧ Below w.heap.size w w' := by
  have CH := fun wx => check2_any x wx hk hf ht
  rw [if_pos ⟨hno, hid⟩] at CH
  have hid : 0 ≤ x.id ∧ x.id ≤ 1099511627776 := by unfold idV at hid; simpa using hid
  clear hf ht hno
  obtain ⟨kind, id, series, from_, to_, np, nr, vec, time⟩ := x
  simp only at hk
  subst hk
  unfold Wi.arr at *
  simp only at CH hid ⊢
  go_enter Tryz.func12, Tryz.ntmps12
  go_upto_region 1 with fail
  generalize hw1 : World.alloc _ _ = w1
  have KK := Lib.hid (show Kn w.heap.size w [(w.heap.size, wiO ⟨2, id, series, from_, to_, np, nr, vec, time⟩)] w1 by rw [← hw1]; exact (Kn.start w).new' rfl (wiO ⟨2, id, series, from_, to_, np, nr, vec, time⟩))
  clear hw1
  generalize hg : w.heap.size = g at *
  go_upto_region 4 with (first
    | refine wpList_load_row rfl 33 _ rfl g rfl 33 (Wi.arr ⟨2, id, series, from_, to_, np, nr, vec, time⟩) (0, 0) _ KK.out.hd Tryz.underlying33 rfl (by kernel_rfl) ?_
    | (go_at_call 16; refine (CH _).mono ?_; rintro e w2 ⟨rfl, dn⟩; have KK := Lib.hid (KK.out.below dn); clear dn))
  have z1 := vput_le 2
  have z2 := vput_le id
  have n1 : ¬ (9223372036854775807 < (vput 2).size + (vput id).size) := by omega
  refine wp_region_held_drew (S := (fun wx => wx.cell? ⟨g, 0, none⟩ = some (.int .i64 2) ∧ wx.cell? ⟨g, 1, none⟩ = some (.int .i64 id))) (by kernel_rfl) ?_ (fun hHeld => ?_)
  focus ((try dsimp only); (try (exact wh_held KK.out rfl)); done)
  (refine wpAnyH_take (i := 0) (oi := ⟨some 17, Go.Op.fieldAddr 33 (.tmp 1) 0, 0, _, _, none⟩) (v := ?_) rfl (by kernel_rfl) (by kernel_rfl) (by kernel_rfl) (fun _ _ _ h => h) (Or.inl ⟨by rfl, ?_⟩) (by assumption) ?_; rotate_left; (focus (intro w hSw; ((try dsimp only at hSw); go_simp; try with_reducible rfl))); (try simp only [Act.put, sA, sZ, sS]))
  (refine wpAnyH_take (i := 1) (oi := ⟨some 18, Go.Op.load 3 (.tmp 17), 3, _, _, none⟩) (v := ?_) rfl (by kernel_rfl) (by kernel_rfl) (by kernel_rfl) (fun _ _ _ h => h) (Or.inl ⟨by rfl, ?_⟩) (by assumption) ?_; rotate_left; (focus (intro w hSw; ((try dsimp only at hSw); go_simp; try with_reducible rfl))); (try simp only [Act.put, sA, sZ, sS]))
  (refine wpAnyH_take (i := 3) (oi := ⟨some 20, Go.Op.fieldAddr 33 (.tmp 1) 1, 0, _, _, none⟩) (v := ?_) rfl (by kernel_rfl) (by kernel_rfl) (by kernel_rfl) (fun _ _ _ h => h) (Or.inl ⟨by rfl, ?_⟩) (by assumption) ?_; rotate_left; (focus (intro w hSw; ((try dsimp only at hSw); go_simp; try with_reducible rfl))); (try simp only [Act.put, sA, sZ, sS]))
  (refine wpAnyH_take (i := 4) (oi := ⟨some 21, Go.Op.load 3 (.tmp 20), 3, _, _, none⟩) (v := ?_) rfl (by kernel_rfl) (by kernel_rfl) (by kernel_rfl) (fun _ _ _ h => h) (Or.inl ⟨by rfl, ?_⟩) (by assumption) ?_; rotate_left; (focus (intro w hSw; ((try dsimp only at hSw); go_simp; try with_reducible rfl))); (try simp only [Act.put, sA, sZ, sS]))
  (refine wpAnyH_ready (rs := [2]) (by kernel_rfl) (by simp) ?_; refine AllReadyH.cons (o := ⟨some 19, Go.Op.call { callee := Go.Callee.value (.func 38), args := #[.tmp 18], argTypes := #[3] }, 9, _, _, none⟩) rfl (fun K hK => ?_) AllReadyH.nil; go_simp; ((go_at_call 38; refine (hnum_any _ _ (by first | decide | omega) (by first | decide | omega)).mono ?_; rintro e wn ⟨rfl, dn⟩; have KK := Lib.hid (Kn.later KK.out dn rfl rfl rfl rfl))); go_wp2_with fail; refine hK.out _ _ ?_ (fun hHeld => ?_); (focus ((try dsimp only); (try (exact wh_held KK.out rfl)); done)); clear hK; (try simp only [Act.put, sA, sZ, sS]))
  (refine wpAnyH_ready (rs := [5]) (by kernel_rfl) (by simp) ?_; refine AllReadyH.cons (o := ⟨some 22, Go.Op.call { callee := Go.Callee.value (.func 38), args := #[.tmp 21], argTypes := #[3] }, 9, _, _, none⟩) rfl (fun K hK => ?_) AllReadyH.nil; go_simp; ((go_at_call 38; refine (hnum_any _ _ (by first | decide | omega) (by first | decide | omega)).mono ?_; rintro e wn ⟨rfl, dn⟩; have KK := Lib.hid (Kn.later KK.out dn rfl rfl rfl rfl))); go_wp2_with fail; refine hK.out _ _ ?_ (fun hHeld => ?_); (focus ((try dsimp only); (try (exact wh_held KK.out rfl)); done)); clear hK; (try simp only [Act.put, sA, sZ, sS]))
  (refine wpAnyH_take (i := 6) (oi := ⟨some 23, Go.Op.binOp Go.BinOp.add 9 (.tmp 19) (.tmp 22) 9, 9, _, _, none⟩) (v := ?_) rfl (by kernel_rfl) (by kernel_rfl) (by kernel_rfl) (fun _ _ _ h => h) (Or.inl ⟨by rfl, ?_⟩) (by assumption) ?_; rotate_left; (focus (intro w hSw; ((try dsimp only at hSw); go_simp; try with_reducible rfl))); (try simp only [Act.put, sA, sZ, sS]))
  (refine wpAnyH_take (i := 7) (oi := ⟨some 5, Go.Op.assign (.tmp 23), 9, _, _, none⟩) (v := ?_) rfl (by kernel_rfl) (by kernel_rfl) (by kernel_rfl) (fun _ _ _ h => h) (Or.inl ⟨by rfl, ?_⟩) (by assumption) ?_; rotate_left; (focus (intro w hSw; ((try dsimp only at hSw); go_simp; try with_reducible rfl))); (try simp only [Act.put, sA, sZ, sS]))
  refine wpAnyH_done (by kernel_rfl) ?_ _
  clear hHeld
  have c0 := (wi_cells KK.out.hd rfl).c0
  simp only at c0
  go_wp2_with fail
  refine bodyPost_ret (v := .tuple #[.string (vput 2 ++ vput id), .int .i64 0]) (by simp [results, Tryz.results12, go_sem, *]) rfl ⟨rfl, by first | exact KK.out.b | (rw [hg]; exact KK.out.b)⟩
set_option maxHeartbeats 8000000 in
theorem bytes6_any (x : Wi) (vs : List Int) (w : World) (hk : x.kind = 6) (hf : i64' x.from_) (ht : i64' x.to_) (hid : idV x.id = true) (hno : x.none false false false true false = true) (hv : SlR w x.vec vs) (hp : vs = pl vs) : Calls Tryz.prog 12 #[.agg x.arr] w fun e w' => e = .returned (.tuple #[.string (vput 6 ++ vput x.id ++ ⟨(mtB (pl vs)).toArray⟩), .int .i64 0]) ∧ Below w.heap.size w w' := by
  have HVV := Lib.hid hv
  have CH := fun wx (hb : Below w.heap.size w wx) => check6_any x vs wx hk hf ht (HVV.out.below hb)
  rw [if_pos ⟨hno, decide_eq_true hp, hid⟩] at CH
  have MT := fun wx (hb : Below w.heap.size w wx) => mtext_any x.vec.a x.vec.n x.vec.c vs wx ((HVV.out.below hb).r) HVV.out.nc HVV.out.cb
  have hid : 0 ≤ x.id ∧ x.id ≤ 1099511627776 := by unfold idV at hid; simpa using hid
  have hms : (⟨(mtB (pl vs)).toArray⟩ : ByteArray).size ≤ 200 := by
    have h1 := pl_length vs
    show (mtB (pl vs)).length ≤ 200
    unfold mtB
    rw [List.length_append]
    have h2 : (mcat (pl vs)).length ≤ 10 * (pl vs).length := mcat_lenH _
    have h3 : (putB 9 ((pl vs).length : Int)).length ≤ 10 := by simp only [putB, List.length_map]; exact putI_le 9 _
    omega
  generalize (⟨(mtB (pl vs)).toArray⟩ : ByteArray) = M at *
  clear hf ht hno hv HVV hp
  obtain ⟨kind, id, series, from_, to_, np, nr, vec, time⟩ := x
  simp only at hk
  subst hk
  unfold Wi.arr at *
  simp only at CH MT hid ⊢
  go_enter Tryz.func12, Tryz.ntmps12
  go_upto_region 1 with fail
  generalize hw1 : World.alloc _ _ = w1
  have KK := Lib.hid (show Kn w.heap.size w [(w.heap.size, wiO ⟨6, id, series, from_, to_, np, nr, vec, time⟩)] w1 by rw [← hw1]; exact (Kn.start w).new' rfl (wiO ⟨6, id, series, from_, to_, np, nr, vec, time⟩))
  clear hw1
  generalize hg : w.heap.size = g at *
  go_upto_region 4 with (first
    | refine wpList_load_row rfl 33 _ rfl g rfl 33 (Wi.arr ⟨6, id, series, from_, to_, np, nr, vec, time⟩) (0, 0) _ KK.out.hd Tryz.underlying33 rfl (by kernel_rfl) ?_
    | (go_at_call 16; refine (CH _ KK.out.b).mono ?_; rintro e w2 ⟨rfl, dn⟩; have KK := Lib.hid (KK.out.below dn); clear dn))
  have z1 := vput_le 6
  have z2 := vput_le id
  have n1 : ¬ (9223372036854775807 < (vput 6).size + (vput id).size) := by omega
  refine wp_region_held_drew (S := (fun wx => wx.cell? ⟨g, 0, none⟩ = some (.int .i64 6) ∧ wx.cell? ⟨g, 1, none⟩ = some (.int .i64 id))) (by kernel_rfl) ?_ (fun hHeld => ?_)
  focus ((try dsimp only); (try (exact wh_held KK.out rfl)); done)
  (refine wpAnyH_take (i := 0) (oi := ⟨some 17, Go.Op.fieldAddr 33 (.tmp 1) 0, 0, _, _, none⟩) (v := ?_) rfl (by kernel_rfl) (by kernel_rfl) (by kernel_rfl) (fun _ _ _ h => h) (Or.inl ⟨by rfl, ?_⟩) (by assumption) ?_; rotate_left; (focus (intro w hSw; ((try dsimp only at hSw); go_simp; try with_reducible rfl))); (try simp only [Act.put, sA, sZ, sS]))
  (refine wpAnyH_take (i := 1) (oi := ⟨some 18, Go.Op.load 3 (.tmp 17), 3, _, _, none⟩) (v := ?_) rfl (by kernel_rfl) (by kernel_rfl) (by kernel_rfl) (fun _ _ _ h => h) (Or.inl ⟨by rfl, ?_⟩) (by assumption) ?_; rotate_left; (focus (intro w hSw; ((try dsimp only at hSw); go_simp; try with_reducible rfl))); (try simp only [Act.put, sA, sZ, sS]))
  (refine wpAnyH_take (i := 3) (oi := ⟨some 20, Go.Op.fieldAddr 33 (.tmp 1) 1, 0, _, _, none⟩) (v := ?_) rfl (by kernel_rfl) (by kernel_rfl) (by kernel_rfl) (fun _ _ _ h => h) (Or.inl ⟨by rfl, ?_⟩) (by assumption) ?_; rotate_left; (focus (intro w hSw; ((try dsimp only at hSw); go_simp; try with_reducible rfl))); (try simp only [Act.put, sA, sZ, sS]))
  (refine wpAnyH_take (i := 4) (oi := ⟨some 21, Go.Op.load 3 (.tmp 20), 3, _, _, none⟩) (v := ?_) rfl (by kernel_rfl) (by kernel_rfl) (by kernel_rfl) (fun _ _ _ h => h) (Or.inl ⟨by rfl, ?_⟩) (by assumption) ?_; rotate_left; (focus (intro w hSw; ((try dsimp only at hSw); go_simp; try with_reducible rfl))); (try simp only [Act.put, sA, sZ, sS]))
  (refine wpAnyH_ready (rs := [2]) (by kernel_rfl) (by simp) ?_; refine AllReadyH.cons (o := ⟨some 19, Go.Op.call { callee := Go.Callee.value (.func 38), args := #[.tmp 18], argTypes := #[3] }, 9, _, _, none⟩) rfl (fun K hK => ?_) AllReadyH.nil; go_simp; ((go_at_call 38; refine (hnum_any _ _ (by first | decide | omega) (by first | decide | omega)).mono ?_; rintro e wn ⟨rfl, dn⟩; have KK := Lib.hid (Kn.later KK.out dn rfl rfl rfl rfl))); go_wp2_with fail; refine hK.out _ _ ?_ (fun hHeld => ?_); (focus ((try dsimp only); (try (exact wh_held KK.out rfl)); done)); clear hK; (try simp only [Act.put, sA, sZ, sS]))
  (refine wpAnyH_ready (rs := [5]) (by kernel_rfl) (by simp) ?_; refine AllReadyH.cons (o := ⟨some 22, Go.Op.call { callee := Go.Callee.value (.func 38), args := #[.tmp 21], argTypes := #[3] }, 9, _, _, none⟩) rfl (fun K hK => ?_) AllReadyH.nil; go_simp; ((go_at_call 38; refine (hnum_any _ _ (by first | decide | omega) (by first | decide | omega)).mono ?_; rintro e wn ⟨rfl, dn⟩; have KK := Lib.hid (Kn.later KK.out dn rfl rfl rfl rfl))); go_wp2_with fail; refine hK.out _ _ ?_ (fun hHeld => ?_); (focus ((try dsimp only); (try (exact wh_held KK.out rfl)); done)); clear hK; (try simp only [Act.put, sA, sZ, sS]))
  (refine wpAnyH_take (i := 6) (oi := ⟨some 23, Go.Op.binOp Go.BinOp.add 9 (.tmp 19) (.tmp 22) 9, 9, _, _, none⟩) (v := ?_) rfl (by kernel_rfl) (by kernel_rfl) (by kernel_rfl) (fun _ _ _ h => h) (Or.inl ⟨by rfl, ?_⟩) (by assumption) ?_; rotate_left; (focus (intro w hSw; ((try dsimp only at hSw); go_simp; try with_reducible rfl))); (try simp only [Act.put, sA, sZ, sS]))
  (refine wpAnyH_take (i := 7) (oi := ⟨some 5, Go.Op.assign (.tmp 23), 9, _, _, none⟩) (v := ?_) rfl (by kernel_rfl) (by kernel_rfl) (by kernel_rfl) (fun _ _ _ h => h) (Or.inl ⟨by rfl, ?_⟩) (by assumption) ?_; rotate_left; (focus (intro w hSw; ((try dsimp only at hSw); go_simp; try with_reducible rfl))); (try simp only [Act.put, sA, sZ, sS]))
  refine wpAnyH_done (by kernel_rfl) ?_ _
  clear hHeld
  have c0 := (wi_cells KK.out.hd rfl).c0
  have c7 := (wi_cells KK.out.hd rfl).c7
  simp only at c0 c7
  have n2 : ¬ (9223372036854775807 < (vput 6 ++ vput id).size + M.size) := by rw [ByteArray.size_append]; omega
  have n3 : ¬ (9223372036854775807 < (vput 6).size + (vput id).size + M.size) := by omega
  go_wp2_with (go_at_call 41; refine (MT _ KK.out.b).mono ?_; rintro e w5 ⟨rfl, dn⟩; have KK := Lib.hid (KK.out.below dn); clear dn)
  refine bodyPost_ret (v := .tuple #[.string (vput 6 ++ vput id ++ M), .int .i64 0]) (by simp [results, Tryz.results12, go_sem, *]) rfl ⟨rfl, by first | exact KK.out.b | (rw [hg]; exact KK.out.b)⟩
end
end Go.Proofs.YtglabahbklpocaaGreat
