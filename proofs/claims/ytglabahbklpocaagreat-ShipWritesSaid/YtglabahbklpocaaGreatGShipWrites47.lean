/- Messages of all kinds: Check and Bytes of both packages. Plain law: two hundred points as a message's bytes, of the other kind. Printed by hread4.py. Chapter 17's examples hold: the contract of 'awake'. -/
import Derived.Test.YtglabahbklpocaaGreatGShipWrites30
import Derived.Test.YtglabahbklpocaaGreatGShipWrites31
import Derived.Test.YtglabahbklpocaaGreatGShipWrites32
import Derived.Test.YtglabahbklpocaaGreatGShipWrites33
import Derived.Test.YtglabahbklpocaaGreatGShipWrites34
import Derived.Test.YtglabahbklpocaaGreatGShipWrites46
import Derived.Test.YtglabahbklpocaaGreatGShipWrites28
import Derived.Test.YtglabahbklpocaaGreatGShipWrites36
import Derived.Test.YtglabahbklpocaaGreatGShipWrites12
namespace Go.Proofs.YtglabahbklpocaaGreat
section
open Go.RowKit Go.Deep
set_option maxRecDepth 100000
set_option linter.unusedVariables false
set_option linter.unusedSimpArgs false
attribute [local go_sem ↓] Go.wp_at_zero Go.wp_at_succ
theorem none_iff (x : Wi) (p a c v r : Bool) : x.none p a c v r = true ↔ (p = true ∨ x.np.n = 0) ∧ (a = true ∨ (x.series.size = 0 ∧ x.from_ = 0 ∧ x.to_ = 0)) ∧ (c = true ∨ x.time = 0) ∧ (v = true ∨ x.vec.n = 0) ∧ (r = true ∨ x.nr.n = 0) := by
  have hs : x.series.toList.isEmpty = decide (x.series.size = 0) := by
    by_cases h : x.series.size = 0
    · rw [tl_nil _ h, decide_eq_true h]; rfl
    · rw [(tl_some _ (by omega)).2.2, decide_eq_false h]
  unfold Wi.none noneB
  rw [hs]
  simp only [Bool.and_eq_true, Bool.or_eq_true, decide_eq_true_eq, beq_iff_eq]
theorem idV_iff (n : Int) : idV n = true ↔ 0 ≤ n ∧ n ≤ 1099511627776 := by unfold idV; simp
theorem endV_iff (n : Int) : endV n = true ↔ 0 ≤ n ∧ n ≤ 1099511627777 := by unfold endV; simp
theorem okB_iff (l : List Pt) : okB l = true ↔ okPts l := by
  by_cases h : okPts l
  · exact ⟨fun _ => h, fun _ => okB_true h⟩
  · exact ⟨fun e => (by rw [okB_false h] at e; cases e), fun e => absurd e h⟩
theorem okQ_iff (l : List RecA) : okQ l = true ↔ okRecs l := by
  by_cases h : okRecs l
  · exact ⟨fun _ => h, fun _ => okQ_true h⟩
  · exact ⟨fun e => (by rw [okQ_false h] at e; cases e), fun e => absurd e h⟩
theorem chk_eq {x : Wi} {ps : List Pt} {rs : List RecA} {vs : List Int} {c : Prop} [Decidable c] (h : c ↔ okA x ∧ okT x ps rs vs) : (if c then (0 : Int) else 1) = chkW x ps rs vs := by
  by_cases hc : c
  · rw [if_pos hc, chkW_0 (h.1 hc).1 (h.1 hc).2]
  · rw [if_neg hc, chkW_1 (fun k => hc (h.2 k))]
set_option maxHeartbeats 4000000 in
theorem checkN_any (x : Wi) (w : World) (hk : x.kind < 1 ∨ 7 < x.kind) : Calls Tryz.prog 16 #[.agg x.arr] w fun e w' => e = .returned (.int .i64 1) ∧ Below w.heap.size w w' := by
  obtain ⟨kind, id, series, from_, to_, np, nr, vec, time⟩ := x
  simp only at hk
  have k1 : (kind == 1) = false := beq_eq_false_iff_ne.2 (by omega)
  have k2 : (kind == 2) = false := beq_eq_false_iff_ne.2 (by omega)
  have k3 : (kind == 3) = false := beq_eq_false_iff_ne.2 (by omega)
  have k4 : (kind == 4) = false := beq_eq_false_iff_ne.2 (by omega)
  have k5 : (kind == 5) = false := beq_eq_false_iff_ne.2 (by omega)
  have k6 : (kind == 6) = false := beq_eq_false_iff_ne.2 (by omega)
  have k7 : (kind == 7) = false := beq_eq_false_iff_ne.2 (by omega)
  clear hk
  unfold Wi.arr at *
  simp only
  go_enter Tryz.func16, Tryz.ntmps16
  go_upto_region 2 with fail
  generalize hw1 : World.alloc _ _ = w1
  have KK := Lib.hid (show Kn w.heap.size w [(w.heap.size, wiO ⟨kind, id, series, from_, to_, np, nr, vec, time⟩)] w1 by rw [← hw1]; exact (Kn.start w).new' rfl (wiO ⟨kind, id, series, from_, to_, np, nr, vec, time⟩))
  clear hw1
  generalize hg : w.heap.size = g at *
  have c0 := (wi_cells KK.out.hd rfl).c0
  simp only at c0
  go_wp2_with fail
  go_step3
  go_wp2_with fail
  go_step3
  go_wp2_with fail
  first | rw [Exit.noGoto_ret] | skip
  go_ret
  exact ⟨rfl, by first | exact KK.out.b | (rw [hg]; exact KK.out.b)⟩
set_option maxHeartbeats 4000000 in
theorem rcheckN_any (x : Wi) (w : World) (hk : x.kind < 1 ∨ 7 < x.kind) : Calls Tryz.prog 17 #[.agg x.arr] w fun e w' => e = .returned (.int .i64 1) ∧ Below w.heap.size w w' := by
  obtain ⟨kind, id, series, from_, to_, np, nr, vec, time⟩ := x
  simp only at hk
  unfold Wi.arr at *
  simp only
  go_enter Tryz.func17, Tryz.ntmps17
  go_upto_region 1 with fail
  generalize hw1 : World.alloc _ _ = w1
  have KK := Lib.hid (show Kn w.heap.size w [(w.heap.size, wiO ⟨kind, id, series, from_, to_, np, nr, vec, time⟩)] w1 by rw [← hw1]; exact (Kn.start w).new' rfl (wiO ⟨kind, id, series, from_, to_, np, nr, vec, time⟩))
  clear hw1
  generalize hg : w.heap.size = g at *
  have c0 := (wi_cells KK.out.hd rfl).c0
  simp only at c0
  by_cases h1 : kind < 1
  · have t1 : decide (kind < 1) = true := decide_eq_true h1
    clear hk h1
    go_wp2_with fail
    go_ret
    exact ⟨rfl, by first | exact KK.out.b | (rw [hg]; exact KK.out.b)⟩
  · have t1 : decide (kind < 1) = false := decide_eq_false h1
    have t2 : decide (kind > 7) = true := decide_eq_true (by omega)
    clear hk h1
    go_wp2_with fail
    go_ret
    exact ⟨rfl, by first | exact KK.out.b | (rw [hg]; exact KK.out.b)⟩
theorem kinds {k : Int} (h : 1 ≤ k ∧ k ≤ 7) : k = 1 ∨ k = 2 ∨ k = 3 ∨ k = 4 ∨ k = 5 ∨ k = 6 ∨ k = 7 := by omega
section
variable {w : World} {x : Wi} {ps : List Pt} {rs : List RecA} {vs : List Int}
theorem WiAt.v0 (h : WiAt w x ps rs vs) (h0 : x.vec.n = 0) : vs = pl vs := by
  obtain rfl : vs = [] := List.eq_nil_of_length_eq_zero (by have := h.v.r.1; omega)
  decide +kernel
theorem WiAt.r0 (h : WiAt w x ps rs vs) (h0 : x.nr.n = 0) : okRecs rs := by
  obtain rfl : rs = [] := List.eq_nil_of_length_eq_zero (by have := h.r.r.1; omega)
  intro y hy; simp at hy
theorem WiAt.p0 (h : WiAt w x ps rs vs) (h0 : x.np.n = 0) : okPts ps := by
  obtain rfl : ps = [] := List.eq_nil_of_length_eq_zero (by have := h.p.r.1; omega)
  intro y hy; simp at hy
theorem cond1 (h : WiAt w x ps rs vs) (hk : x.kind = 1) : (x.none true false false false false = true ∧ decide ((x.np.n : Int) ≤ 200) = true ∧ okB ps = true ∧ idV x.id = true) ↔ okA x ∧ okT x ps rs vs := by
  rw [none_iff, idV_iff, decide_eq_true_eq, okB_iff]
  unfold okA okT
  rw [hk]
  constructor
  · rintro ⟨⟨n1, n2, n3, n4, n5⟩, e1, e2, hid⟩
    have n2 := n2.resolve_left (by simp)
    have n3 := n3.resolve_left (by simp)
    have n4 := n4.resolve_left (by simp)
    have n5 := n5.resolve_left (by simp)
    exact ⟨⟨by omega, hid, .inl rfl, .inr n2, .inr n3, .inr n5, .inr n4, by omega, by omega, by omega, by omega⟩, e2, h.r0 n5, fun e => absurd e (by decide), h.v0 n4⟩
  · rintro ⟨⟨a1, a2, a3, a4, a5, a6, a7, a8, a9, a10, a11⟩, b1, b2, b3, b4⟩
    exact ⟨⟨.inl rfl, .inr (a4.resolve_left (by decide)), .inr (a5.resolve_left (by decide)), .inr (a7.resolve_left (by decide)), .inr (a6.resolve_left (by decide))⟩, by omega, b1, a2⟩
theorem cond2 (h : WiAt w x ps rs vs) (hk : x.kind = 2) : (x.none false false false false false = true ∧ idV x.id = true) ↔ okA x ∧ okT x ps rs vs := by
  rw [none_iff, idV_iff]
  unfold okA okT
  rw [hk]
  constructor
  · rintro ⟨⟨n1, n2, n3, n4, n5⟩, hid⟩
    have n1 := n1.resolve_left (by simp)
    have n2 := n2.resolve_left (by simp)
    have n3 := n3.resolve_left (by simp)
    have n4 := n4.resolve_left (by simp)
    have n5 := n5.resolve_left (by simp)
    exact ⟨⟨by omega, hid, .inr (.inr n1), .inr n2, .inr n3, .inr n5, .inr n4, by omega, by omega, by omega, by omega⟩, h.p0 n1, h.r0 n5, fun e => absurd e (by decide), h.v0 n4⟩
  · rintro ⟨⟨a1, a2, a3, a4, a5, a6, a7, a8, a9, a10, a11⟩, b1, b2, b3, b4⟩
    exact ⟨⟨.inr ((a3.resolve_left (by decide)).resolve_left (by decide)), .inr (a4.resolve_left (by decide)), .inr (a5.resolve_left (by decide)), .inr (a7.resolve_left (by decide)), .inr (a6.resolve_left (by decide))⟩, a2⟩
theorem cond3 (h : WiAt w x ps rs vs) (hk : x.kind = 3) : (x.none false true false false false = true ∧ nameV x.series = true ∧ spanV x.from_ x.to_ = true ∧ idV x.id = true) ↔ okA x ∧ okT x ps rs vs := by
  rw [none_iff, idV_iff]
  unfold okA okT
  rw [hk]
  constructor
  · rintro ⟨⟨n1, n2, n3, n4, n5⟩, e1, e2, hid⟩
    have n1 := n1.resolve_left (by simp)
    have n3 := n3.resolve_left (by simp)
    have n4 := n4.resolve_left (by simp)
    have n5 := n5.resolve_left (by simp)
    exact ⟨⟨by omega, hid, .inr (.inr n1), .inl rfl, .inr n3, .inr n5, .inr n4, by omega, by omega, by omega, by omega⟩, h.p0 n1, h.r0 n5, fun _ => ⟨e1, e2⟩, h.v0 n4⟩
  · rintro ⟨⟨a1, a2, a3, a4, a5, a6, a7, a8, a9, a10, a11⟩, b1, b2, b3, b4⟩
    exact ⟨⟨.inr ((a3.resolve_left (by decide)).resolve_left (by decide)), .inl rfl, .inr (a5.resolve_left (by decide)), .inr (a7.resolve_left (by decide)), .inr (a6.resolve_left (by decide))⟩, (b3 rfl).1, (b3 rfl).2, a2⟩
theorem cond4 (h : WiAt w x ps rs vs) (hk : x.kind = 4) : (x.none true false false false false = true ∧ decide ((x.np.n : Int) ≤ 200) = true ∧ okB ps = true ∧ idV x.id = true) ↔ okA x ∧ okT x ps rs vs := by
  rw [none_iff, idV_iff, decide_eq_true_eq, okB_iff]
  unfold okA okT
  rw [hk]
  constructor
  · rintro ⟨⟨n1, n2, n3, n4, n5⟩, e1, e2, hid⟩
    have n2 := n2.resolve_left (by simp)
    have n3 := n3.resolve_left (by simp)
    have n4 := n4.resolve_left (by simp)
    have n5 := n5.resolve_left (by simp)
    exact ⟨⟨by omega, hid, .inr (.inl rfl), .inr n2, .inr n3, .inr n5, .inr n4, by omega, by omega, by omega, by omega⟩, e2, h.r0 n5, fun e => absurd e (by decide), h.v0 n4⟩
  · rintro ⟨⟨a1, a2, a3, a4, a5, a6, a7, a8, a9, a10, a11⟩, b1, b2, b3, b4⟩
    exact ⟨⟨.inl rfl, .inr (a4.resolve_left (by decide)), .inr (a5.resolve_left (by decide)), .inr (a7.resolve_left (by decide)), .inr (a6.resolve_left (by decide))⟩, by omega, b1, a2⟩
theorem cond5 (h : WiAt w x ps rs vs) (hk : x.kind = 5) : (x.none false false true false false = true ∧ endV x.time = true ∧ idV x.id = true) ↔ okA x ∧ okT x ps rs vs := by
  rw [none_iff, idV_iff, endV_iff]
  unfold okA okT
  rw [hk]
  constructor
  · rintro ⟨⟨n1, n2, n3, n4, n5⟩, e1, hid⟩
    have n1 := n1.resolve_left (by simp)
    have n2 := n2.resolve_left (by simp)
    have n4 := n4.resolve_left (by simp)
    have n5 := n5.resolve_left (by simp)
    exact ⟨⟨by omega, hid, .inr (.inr n1), .inr n2, .inl rfl, .inr n5, .inr n4, by omega, by omega, by omega, by omega⟩, h.p0 n1, h.r0 n5, fun e => absurd e (by decide), h.v0 n4⟩
  · rintro ⟨⟨a1, a2, a3, a4, a5, a6, a7, a8, a9, a10, a11⟩, b1, b2, b3, b4⟩
    exact ⟨⟨.inr ((a3.resolve_left (by decide)).resolve_left (by decide)), .inr (a4.resolve_left (by decide)), .inl rfl, .inr (a7.resolve_left (by decide)), .inr (a6.resolve_left (by decide))⟩, ⟨a10, a11⟩, a2⟩
theorem cond6 (h : WiAt w x ps rs vs) (hk : x.kind = 6) : (x.none false false false true false = true ∧ decide (vs = pl vs) = true ∧ idV x.id = true) ↔ okA x ∧ okT x ps rs vs := by
  rw [none_iff, idV_iff, decide_eq_true_eq]
  unfold okA okT
  rw [hk]
  constructor
  · rintro ⟨⟨n1, n2, n3, n4, n5⟩, e1, hid⟩
    have n1 := n1.resolve_left (by simp)
    have n2 := n2.resolve_left (by simp)
    have n3 := n3.resolve_left (by simp)
    have n5 := n5.resolve_left (by simp)
    exact ⟨⟨by omega, hid, .inr (.inr n1), .inr n2, .inr n3, .inr n5, .inl (by decide), by omega, by omega, by omega, by omega⟩, h.p0 n1, h.r0 n5, fun e => absurd e (by decide), e1⟩
  · rintro ⟨⟨a1, a2, a3, a4, a5, a6, a7, a8, a9, a10, a11⟩, b1, b2, b3, b4⟩
    exact ⟨⟨.inr ((a3.resolve_left (by decide)).resolve_left (by decide)), .inr (a4.resolve_left (by decide)), .inr (a5.resolve_left (by decide)), .inl rfl, .inr (a6.resolve_left (by decide))⟩, b4, a2⟩
theorem cond7 (h : WiAt w x ps rs vs) (hk : x.kind = 7) : (x.none false false false true true = true ∧ decide (vs = pl vs) = true ∧ decide ((x.nr.n : Int) ≤ 16) = true ∧ okQ rs = true ∧ idV x.id = true) ↔ okA x ∧ okT x ps rs vs := by
  rw [none_iff, idV_iff, decide_eq_true_eq, decide_eq_true_eq, okQ_iff]
  unfold okA okT
  rw [hk]
  constructor
  · rintro ⟨⟨n1, n2, n3, n4, n5⟩, e1, e2, e3, hid⟩
    have n1 := n1.resolve_left (by simp)
    have n2 := n2.resolve_left (by simp)
    have n3 := n3.resolve_left (by simp)
    exact ⟨⟨by omega, hid, .inr (.inr n1), .inr n2, .inr n3, .inl rfl, .inl (by decide), by omega, by omega, by omega, by omega⟩, h.p0 n1, e3, fun e => absurd e (by decide), e1⟩
  · rintro ⟨⟨a1, a2, a3, a4, a5, a6, a7, a8, a9, a10, a11⟩, b1, b2, b3, b4⟩
    exact ⟨⟨.inr ((a3.resolve_left (by decide)).resolve_left (by decide)), .inr (a4.resolve_left (by decide)), .inr (a5.resolve_left (by decide)), .inl rfl, .inl rfl⟩, b4, by omega, b2, a2⟩
theorem check_w (h : WiAt w x ps rs vs) : Calls Tryz.prog 16 #[.agg x.arr] w fun e w' => e = .returned (.int .i64 (chkW x ps rs vs)) ∧ Below w.heap.size w w' := by
  by_cases hr : 1 ≤ x.kind ∧ x.kind ≤ 7
  · rcases kinds hr with hk | hk | hk | hk | hk | hk | hk
    · refine (check1_any x ps w hk h.f h.t h.p).mono ?_
      rintro e w' ⟨rfl, hb⟩
      exact ⟨by rw [chk_eq (cond1 h hk)], hb⟩
    · refine (check2_any x w hk h.f h.t).mono ?_
      rintro e w' ⟨rfl, hb⟩
      exact ⟨by rw [chk_eq (cond2 h hk)], hb⟩
    · refine (check3_any x w hk h.f h.t h.s).mono ?_
      rintro e w' ⟨rfl, hb⟩
      exact ⟨by rw [chk_eq (cond3 h hk)], hb⟩
    · refine (check4_any x ps w hk h.f h.t h.p).mono ?_
      rintro e w' ⟨rfl, hb⟩
      exact ⟨by rw [chk_eq (cond4 h hk)], hb⟩
    · refine (check5_any x w hk h.f h.t).mono ?_
      rintro e w' ⟨rfl, hb⟩
      exact ⟨by rw [chk_eq (cond5 h hk)], hb⟩
    · refine (check6_any x vs w hk h.f h.t h.v).mono ?_
      rintro e w' ⟨rfl, hb⟩
      exact ⟨by rw [chk_eq (cond6 h hk)], hb⟩
    · refine (check7_any x rs vs w hk h.f h.t h.v h.r).mono ?_
      rintro e w' ⟨rfl, hb⟩
      exact ⟨by rw [chk_eq (cond7 h hk)], hb⟩
  · refine (checkN_any x w (by omega)).mono ?_
    rintro e w' ⟨rfl, hb⟩
    exact ⟨by rw [chkW_1 (fun k => hr k.1.1)], hb⟩
theorem rcheck_w (h : WiAt w x ps rs vs) : Calls Tryz.prog 17 #[.agg x.arr] w fun e w' => e = .returned (.int .i64 (chkW x ps rs vs)) ∧ Below w.heap.size w w' := by
  by_cases hr : 1 ≤ x.kind ∧ x.kind ≤ 7
  · rcases kinds hr with hk | hk | hk | hk | hk | hk | hk
    · exact rcheck1_w x ps rs vs w hk h
    · exact rcheck2_w x ps rs vs w hk h
    · exact rcheck3_w x ps rs vs w hk h
    · exact rcheck4_w x ps rs vs w hk h
    · exact rcheck5_w x ps rs vs w hk h
    · exact rcheck6_w x ps rs vs w hk h
    · exact rcheck7_w x ps rs vs w hk h
  · refine (rcheckN_any x w (by omega)).mono ?_
    rintro e w' ⟨rfl, hb⟩
    exact ⟨by rw [chkW_1 (fun k => hr k.1.1)], hb⟩
/-- The bytes of a message that may be. -/
def wireB (x : Wi) (ps : List Pt) (rs : List RecA) (vs : List Int) : ByteArray :=
  if x.kind = 1 ∨ x.kind = 4 then vput x.kind ++ vput x.id ++ vtext ⟨(ptsL ps).toArray⟩
  else if x.kind = 2 then vput x.kind ++ vput x.id
  else if x.kind = 3 then vput x.kind ++ vput x.id ++ (vtext x.series ++ vput x.from_ ++ vput x.to_)
  else if x.kind = 5 then vput x.kind ++ vput x.id ++ vput x.time
  else if x.kind = 6 then vput x.kind ++ vput x.id ++ vecB vs
  else recsB (vput x.kind ++ vput x.id ++ (vecB vs ++ vput x.nr.n)) rs
theorem wireB1 (hk : x.kind = 1) : wireB x ps rs vs = vput 1 ++ vput x.id ++ vtext ⟨(ptsL ps).toArray⟩ := by unfold wireB; rw [hk]; rfl
theorem wireB2 (hk : x.kind = 2) : wireB x ps rs vs = vput 2 ++ vput x.id := by unfold wireB; rw [hk]; rfl
theorem wireB3 (hk : x.kind = 3) : wireB x ps rs vs = vput 3 ++ vput x.id ++ (vtext x.series ++ vput x.from_ ++ vput x.to_) := by unfold wireB; rw [hk]; rfl
theorem wireB4 (hk : x.kind = 4) : wireB x ps rs vs = vput 4 ++ vput x.id ++ vtext ⟨(ptsL ps).toArray⟩ := by unfold wireB; rw [hk]; rfl
theorem wireB5 (hk : x.kind = 5) : wireB x ps rs vs = vput 5 ++ vput x.id ++ vput x.time := by unfold wireB; rw [hk]; rfl
theorem wireB6 (hk : x.kind = 6) : wireB x ps rs vs = vput 6 ++ vput x.id ++ vecB vs := by unfold wireB; rw [hk]; rfl
theorem wireB7 (hk : x.kind = 7) : wireB x ps rs vs = recsB (vput 7 ++ vput x.id ++ (vecB vs ++ vput x.nr.n)) rs := by unfold wireB; rw [hk]; rfl
theorem bytes_w (h : WiAt w x ps rs vs) (h1 : okA x) (h2 : okT x ps rs vs) : Calls Tryz.prog 12 #[.agg x.arr] w fun e w' => e = .returned (.tuple #[.string (wireB x ps rs vs), .int .i64 0]) ∧ Below w.heap.size w w' := by
  rcases kinds h1.1 with hk | hk | hk | hk | hk | hk | hk
  · have c := (cond1 h hk).2 ⟨h1, h2⟩
    rw [wireB1 hk]
    exact bytes1_any x ps w hk h.f h.t h.p c.2.2.2 c.1 h1.2.2.2.2.2.2.2.1 h2.1
  · have c := (cond2 h hk).2 ⟨h1, h2⟩
    rw [wireB2 hk]
    exact bytes2_any x w hk h.f h.t c.2 c.1
  · have c := (cond3 h hk).2 ⟨h1, h2⟩
    rw [wireB3 hk]
    exact bytes3_any x w hk h.f h.t c.2.2.2 c.1 c.2.1 c.2.2.1
  · have c := (cond4 h hk).2 ⟨h1, h2⟩
    rw [wireB4 hk]
    exact bytes4_any x ps w hk h.f h.t h.p c.2.2.2 c.1 h1.2.2.2.2.2.2.2.1 h2.1
  · have c := (cond5 h hk).2 ⟨h1, h2⟩
    rw [wireB5 hk]
    exact bytes5_any x w hk h.f h.t c.2.2 c.1 c.2.1
  · have c := (cond6 h hk).2 ⟨h1, h2⟩
    rw [wireB6 hk]
    exact bytes6_any x vs w hk h.f h.t c.2.2 c.1 h.v h2.2.2.2
  · have c := (cond7 h hk).2 ⟨h1, h2⟩
    rw [wireB7 hk]
    exact bytes7_any x rs vs w hk h.f h.t h.v h.r c.2.2.2.2 c.1 h2.2.2.2 h1.2.2.2.2.2.2.2.2.1 h2.2.1
theorem bytesN_w (h : WiAt w x ps rs vs) (hn : ¬ (okA x ∧ okT x ps rs vs)) : Calls Tryz.prog 12 #[.agg x.arr] w fun e w' => e = .returned (.tuple #[.string ⟨#[]⟩, .int .i64 1]) ∧ Below w.heap.size w w' :=
  bytesE_any x w fun wx hb => by
    have C := check_w (h.below hb)
    rw [chkW_1 hn] at C
    exact C
theorem rbytesN_w (h : WiAt w x ps rs vs) (hn : ¬ (okA x ∧ okT x ps rs vs)) : Calls Tryz.prog 15 #[.agg x.arr] w fun e w' => e = .returned (.tuple #[.string ⟨#[]⟩, .int .i64 1]) ∧ Below w.heap.size w w' :=
  rbytesE_any x w fun wx hb => by
    have C := rcheck_w (h.below hb)
    rw [chkW_1 hn] at C
    exact C
theorem rbytes_w (h : WiAt w x ps rs vs) (h1 : okA x) (h2 : okT x ps rs vs) : Calls Tryz.prog 15 #[.agg x.arr] w fun e w' => e = .returned (.tuple #[.string (wireB x ps rs vs), .int .i64 0]) ∧ Below w.heap.size w w' := by
  have CH : ∀ wx, Below w.heap.size w wx → Calls Tryz.prog 17 #[.agg x.arr] wx fun e w' => e = .returned (.int .i64 0) ∧ Below wx.heap.size wx w' := fun wx hb => by
    have C := rcheck_w (h.below hb)
    rw [chkW_0 h1 h2] at C
    exact C
  rcases kinds h1.1 with hk | hk | hk | hk | hk | hk | hk
  · rw [wireB1 hk]
    exact rbytes1_any x ps w hk h.p h1.2.1 h1.2.2.2.2.2.2.2.1 h2.1 CH
  · rw [wireB2 hk]
    exact rbytes2_any x w hk h1.2.1 CH
  · rw [wireB3 hk]
    exact rbytes3_any x w hk h1.2.1 (h2.2.2.1 hk).1 (h2.2.2.1 hk).2 CH
  · rw [wireB4 hk]
    exact rbytes4_any x ps w hk h.p h1.2.1 h1.2.2.2.2.2.2.2.1 h2.1 CH
  · rw [wireB5 hk]
    exact rbytes5_any x w hk h1.2.1 h1.2.2.2.2.2.2.2.2.2 CH
  · rw [wireB6 hk]
    exact rbytes6_any x vs w hk h1.2.1 h.v CH
  · rw [wireB7 hk]
    exact rbytes7_any x rs vs w hk h.v h.r h1.2.1 h1.2.2.2.2.2.2.2.2.1 h2.2.1 CH
end
end
end Go.Proofs.YtglabahbklpocaaGreat
namespace Go.Proofs.YtglabahbklpocaaGreat
section
open Go.RowKit Go.Deep
set_option maxRecDepth 100000
set_option linter.unusedVariables false
set_option linter.unusedSimpArgs false
/-- A message's bytes that bear points, read again. -/
theorem gd4_bytes {L : List Pt} (id : Int) (hid : 0 ≤ id ∧ id ≤ 1099511627776) (hok : okPts L) (hw : ∀ p ∈ L, p.wf) (hn : L.length ≤ 200) :
    (vput 4 ++ vput id ++ vtext ⟨(ptsL L).toArray⟩).size ≤ 200000 ∧ ((r0 (vput 4 ++ vput id ++ vtext ⟨(ptsL L).toArray⟩)).small 7).1 = 4 ∧ gd4 (vput 4 ++ vput id ++ vtext ⟨(ptsL L).toArray⟩) ∧ (readP (tx1 (vput 4 ++ vput id ++ vtext ⟨(ptsL L).toArray⟩)).1).1 = L ∧ (id1 (vput 4 ++ vput id ++ vtext ⟨(ptsL L).toArray⟩)).1 = id := by
  have hP : (ptsL L).length ≤ 100000 := by
    have := ptsL_le hok
    omega
  have hd : (vput 4 ++ vput id ++ vtext ⟨(ptsL L).toArray⟩).data.toList = putB 9 4 ++ (putB 9 id ++ (tb ⟨(ptsL L).toArray⟩ ++ [])) := by
    simp only [ByteArray.data_append, Array.toList_append, vput_data, vtext_data, List.append_assoc, List.append_nil]
  obtain ⟨S, hS⟩ : ∃ S, vput 4 ++ vput id ++ vtext ⟨(ptsL L).toArray⟩ = S := ⟨_, rfl⟩
  have hsz : S.size ≤ 200000 := by
    have h1 : S.data.toList.length = S.size := by simp
    rw [← hS, hd] at h1
    simp only [List.length_append, List.length_nil, tb] at h1
    have z1 := putB_le (4 : Int)
    have z2 := putB_le id
    have z3 := putB_le ((⟨(ptsL L).toArray⟩ : ByteArray).size : Int)
    have z4 : (⟨(ptsL L).toArray⟩ : ByteArray).data.toList.length = (ptsL L).length := by simp
    rw [hS] at h1
    omega
  rw [hS] at hd ⊢
  have h0 := r0_ok (s := S) (by omega)
  have k1 := Rdr.small_ok h0 7
  have k2 := Rdr.small_ok k1.1 1099511627776
  have k3 := Rdr.text_ok k2.1
  obtain ⟨a1, a2, a3⟩ := small_at (most := 7) h0 rfl ((r0_rest S).trans hd) (by omega) (by omega) (by decide)
  obtain ⟨b1, b2, b3⟩ := small_at (most := 1099511627776) k1.1 a2 a3 hid.1 hid.2 (by decide)
  obtain ⟨c1, c2, c3⟩ := text_at k2.1 b2 b3
  have hfin : (tx1 S).2.fin = 0 := (fin_rest k3.1).2 ⟨c2, c3⟩
  have htx : (tx1 S).1 = ⟨(ptsL L).toArray⟩ := c1
  have hrp : readP (tx1 S).1 = (L, 0) := by rw [htx]; exact read_pts hok hw (by omega)
  refine ⟨hsz, a1, ⟨hfin, by rw [hrp], by rw [hrp]; exact hn, by rw [hrp]; exact hok, ?_⟩, by rw [hrp], b1⟩
  rw [hrp, show (id1 S).1 = id from b1]
  exact hS
end
end Go.Proofs.YtglabahbklpocaaGreat
namespace Go.Proofs.YtglabahbklpocaaGreat
section
open Go.RowKit Go.Deep
set_option maxRecDepth 100000
set_option linter.unusedVariables false
set_option linter.unusedSimpArgs false
attribute [local go_sem ↓] Go.wp_at_zero Go.wp_at_succ
def x1 : RcM := (mkR 0 1, [])
def x2 : RcM := (mkR 1 1, [1])
def x3 : RcM := (mkR 0 3, [2, 1])
def m1 : LogM := ⟨9, [], [1], [x1], 1⟩
def m2 : LogM := ⟨9, [], [1, 1], [x1, x2], 1⟩
end
end Go.Proofs.YtglabahbklpocaaGreat
