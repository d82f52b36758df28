/- agg.Mean. -/
import Derived.Test.YtojnooagifhekaaGAggParts21
import Derived.Test.YtojnooagifhekaaGAggParts23
import Derived.Test.YtojnooagifhekaaGAggParts25
import Derived.Test.YtojnooagifhekaaGAggParts13
namespace Go.Proofs.Ytojnooagifhekaa
section
open Go.RowKit
set_option maxRecDepth 100000
set_option linter.unusedVariables false
set_option linter.unusedSimpArgs false
attribute [local go_sem ↓] Go.wp_at_zero Go.wp_at_succ
theorem mean_pos (S n : Int) (hn : 1 ≤ n) (hn2 : n ≤ 2147483648) (hS : 0 ≤ S) (hi lo : Int) (hh : 0 ≤ hi) (hl : 0 ≤ lo) (hl2 : lo < 18446744073709551616) (e : S = hi * 18446744073709551616 + lo) :
    (n ≤ hi → 18446744073709551616 ≤ S / n) ∧ (hi < n → 0 ≤ S / n ∧ S / n < 18446744073709551616) := by
  refine ⟨fun h => ?_, fun h => ⟨Int.ediv_nonneg hS (by omega), ?_⟩⟩
  · rw [Int.le_ediv_iff_mul_le (by omega)]; omega
  · rw [Int.ediv_lt_iff_lt_mul (by omega)]; omega
def absW (a : Wd) : Wd := if a.hi < 0 then wd (-a.v) else a
theorem absW_ok {a : Wd} (h : a.ok) : (absW a).ok := by
  unfold absW
  split
  · exact wd_ok _
  · exact h
theorem mean_case (a : Ag) (ha : a.ok) (h1 : 1 ≤ a.cnt) (h2 : a.cnt ≤ 2147483648) :
    (a.cnt ≤ (absW a.sum).hi % 18446744073709551616 → meanV a = (0, false)) ∧
    ((absW a.sum).hi % 18446744073709551616 < a.cnt → (0 ≤ ((absW a.sum).hi % 18446744073709551616 * 18446744073709551616 + (absW a.sum).lo) / a.cnt ∧ ((absW a.sum).hi % 18446744073709551616 * 18446744073709551616 + (absW a.sum).lo) / a.cnt < 18446744073709551616) ∧
      meanV a = smallW (if a.sum.hi < 0 then wd (-(((absW a.sum).hi % 18446744073709551616 * 18446744073709551616 + (absW a.sum).lo) / a.cnt)) else ⟨0, ((absW a.sum).hi % 18446744073709551616 * 18446744073709551616 + (absW a.sum).lo) / a.cnt⟩)) := by
  obtain ⟨cnt, ⟨hi, lo⟩, mn, mx, last, st, bk⟩ := a
  obtain ⟨_, ⟨⟨k1, k2⟩, k3, k4⟩, _⟩ := ha
  simp only at k1 k2 k3 k4 h1 h2
  simp only [meanV]
  rw [if_neg (by omega)]
  by_cases hn : hi < 0
  · have e0 : absW ⟨hi, lo⟩ = wd (-(⟨hi, lo⟩ : Wd).v) := if_pos hn
    rw [e0, if_pos hn]
    generalize hS : (⟨hi, lo⟩ : Wd).v = S at *
    have hS' : S = hi * 18446744073709551616 + lo := hS.symm
    have hneg : S < 0 := by omega
    rw [tdiv_neg' S cnt hneg]
    by_cases hm : S = -170141183460469231731687303715884105728
    · have e1 : wd (-S) = ⟨-9223372036854775808, 0⟩ := by rw [hm]; decide
      rw [e1]
      simp only
      have hb := (mean_pos (-S) cnt h1 h2 (by omega) 9223372036854775808 0 (by omega) (by omega) (by omega) (by omega)).1 (by omega)
      exact ⟨fun _ => if_neg (by omega), fun h => by omega⟩
    · have e1 : wd (-S) = ⟨(-S) / 18446744073709551616, (-S) % 18446744073709551616⟩ := by
        unfold wd sg64
        simp only [Wd.mk.injEq, and_true]
        omega
      rw [e1]
      simp only
      have e2 : (-S) / 18446744073709551616 % 18446744073709551616 = (-S) / 18446744073709551616 := by omega
      have e3 : (-S) / 18446744073709551616 * 18446744073709551616 + (-S) % 18446744073709551616 = -S := by omega
      rw [e2, e3]
      have hb := mean_pos (-S) cnt h1 h2 (by omega) ((-S) / 18446744073709551616) ((-S) % 18446744073709551616) (by omega) (by omega) (by omega) (by omega)
      refine ⟨fun h => if_neg (by have := hb.1 h; omega), fun h => ⟨hb.2 h, ?_⟩⟩
      have hq := hb.2 h
      unfold smallW
      rw [v_wd _ (by omega) (by omega)]
  · have e0 : absW ⟨hi, lo⟩ = ⟨hi, lo⟩ := if_neg hn
    rw [e0, if_neg hn]
    have hS : (⟨hi, lo⟩ : Wd).v = hi * 18446744073709551616 + lo := rfl
    rw [hS]
    generalize hS' : hi * 18446744073709551616 + lo = S at *
    have e2 : hi % 18446744073709551616 = hi := by omega
    simp only [e2]
    rw [hS', tdiv_pos S cnt (by omega)]
    have hb := mean_pos S cnt h1 h2 (by omega) hi lo (by omega) (by omega) (by omega) (by omega)
    refine ⟨fun h => if_neg (by have := hb.1 h; omega), fun h => ⟨hb.2 h, ?_⟩⟩
    have hq := hb.2 h
    unfold smallW
    have e4 : (⟨0, S / cnt⟩ : Wd).v = S / cnt := by unfold Wd.v; simp
    rw [e4]
theorem lo_ok {q : Int} (h : 0 ≤ q ∧ q < 18446744073709551616) : (⟨0, q⟩ : Wd).ok := ⟨⟨(by decide : (-9223372036854775808 : Int) ≤ 0), (by decide : (0 : Int) ≤ 9223372036854775807)⟩, h.1, by show q ≤ _; omega⟩
def wdO (a : Wd) : Obj := .cells #[.int .i64 a.hi, .int .u64 a.lo] 24 (0, 0)
theorem Kn.setWd {B : Nat} {w0 w : World} {l : List (Nat × Obj)} {g : Nat} {a : Wd} (h : Kn B w0 ((g, wdO a) :: l) w) (hl : Apart g l) (hg : B ≤ g) (v : Wd) : Kn B w0 ((g, wdO v) :: l) ((w.setCell ⟨g, 0, none⟩ (.int .i64 v.hi)).setCell ⟨g, 1, none⟩ (.int .u64 v.lo)) := by
  refine Kn.but h ((But.set g 0 w _).trans (But.set g 1 _ _)) hl.all hg ?_
  have := h.hd
  unfold wdO at *
  simp [World.setCell, Array.getElem?_modify, this]
theorem Kn.wd0 {B : Nat} {w0 w : World} {l : List (Nat × Obj)} {g : Nat} {a : Wd} (h : Kn B w0 ((g, wdO a) :: l) w) : w.cell? ⟨g, 0, none⟩ = some (.int .i64 a.hi) ∧ w.cell? ⟨g, 1, none⟩ = some (.int .u64 a.lo) ∧ w.frozen? ⟨g, 0, none⟩ = false ∧ w.frozen? ⟨g, 1, none⟩ = false :=
  ⟨h.cell (g := g) (o := wdO a) (by simp) (j := 0) rfl, h.cell (g := g) (o := wdO a) (by simp) (j := 1) rfl, h.fz (g := g) (o := wdO a) (by simp) 0, h.fz (g := g) (o := wdO a) (by simp) 1⟩
set_option maxHeartbeats 4000000 in
set_option maxRecDepth 100000 in
theorem mean_any (a : Ag) (w : World) (ha : a.ok) : Calls Try.prog 21 #[a.val] w fun e w' => e = .returned (.tuple #[.int .i64 (meanV a).1, .bool (meanV a).2]) ∧ Below w.heap.size w w' := by
  obtain ⟨V, HV⟩ : ∃ V, Hid (V = meanV a) := ⟨_, rfl⟩
  rw [← HV.out]
  unfold Ag.val
  go_enter Try.func21, Try.ntmps21
  go_upto_region 1 with (fail)
  generalize hw1 : w.alloc (.cells a.cs.toArray 29) = w1
  have hK : Kn w.heap.size w [(w.heap.size, agO a)] w1 := by rw [← hw1]; exact (Kn.start w).new (agO a)
  have a0 := hK.cell (g := w.heap.size) (o := agO a) (by simp) (ag_c0 a)
  have a1 := hK.cell (g := w.heap.size) (o := agO a) (by simp) (ag_c1 a)
  have a2 := hK.cell (g := w.heap.size) (o := agO a) (by simp) (ag_c2 a)
  have hsz := hK.fresh
  generalize hg : w.heap.size = g at *
  have KK := Lib.hid hK
  clear hK hw1
  by_cases h1 : a.cnt < 1
  · have t1 : decide (a.cnt < 1) = true := decide_eq_true h1
    have HV : Hid (V = (0, false)) := HV.out.trans (if_pos (.inl h1))
    clear h1
    go_wp2_with fail
    go_ret2
    exact ⟨by rw [HV.out]; rfl, by rw [hg]; exact KK.out.b⟩
  · have t1 : decide (a.cnt < 1) = false := decide_eq_false h1
    by_cases h2 : 2147483648 < a.cnt
    · have t2 : decide (2147483648 < a.cnt) = true := decide_eq_true h2
      have HV : Hid (V = (0, false)) := HV.out.trans (if_pos (.inr h2))
      clear h1 h2
      go_wp2_with fail
      go_ret2
      exact ⟨by rw [HV.out]; rfl, by rw [hg]; exact KK.out.b⟩
    · have t2 : decide (2147483648 < a.cnt) = false := decide_eq_false h2
      have MC := Lib.hid (mean_case a ha (by omega) (by omega))
      have hn0 : 0 ≤ a.cnt := by omega
      have hn1 : a.cnt < 18446744073709551616 := by omega
      have hn2 : a.cnt ≤ 2147483648 := by omega
      have hn3 : 1 ≤ a.cnt := by omega
      clear h1 h2
      have HWok := absW_ok ha.2.1
      by_cases h3 : a.sum.hi < 0
      · have t3 : decide (a.sum.hi < 0) = true := decide_eq_true h3
        have HN := fun wx => neg_any a.sum wx ha.2.1
        have e0 : absW a.sum = wd (-a.sum.v) := if_pos h3
        rw [← e0] at HN
        simp only [if_pos h3] at MC
        generalize absW a.sum = W at *
        obtain ⟨u, l⟩ := W
        unfold Wd.val at HN
        simp only at HN MC HWok
        clear e0 h3
        rw [← wrap_u64] at MC
        go_wp2_with fail
        refine (HN _).mono ?_
        rintro e w3 ⟨rfl, d3⟩
        have hk := (KK.out.new (wdO a.sum)).below d3
        have hgk : g < w1.heap.size := hsz
        clear d3 KK a0 a1 a2
        generalize w1.heap.size = k5 at *
        have HK := Lib.hid hk
        obtain ⟨f0, f1, z0, z1⟩ := hk.wd0
        have a0 := hk.cell (g := g) (o := agO a) (by simp) (ag_c0 a)
        clear hk
        go_upto_region 7 with (fail)
        have hk := Kn.setWd HK.out (by simp only [Apart, and_true]; omega) (by omega) ⟨u, l⟩
        simp only at hk
        generalize (w3.setCell ⟨k5, 0, none⟩ (.int .i64 u)).setCell ⟨k5, 1, none⟩ (.int .u64 l) = w4 at *
        clear f0 f1 z0 z1 a0 HK
        have HK := Lib.hid hk
        obtain ⟨f0, f1, z0, z1⟩ := hk.wd0
        have a0 := hk.cell (g := g) (o := agO a) (by simp) (ag_c0 a)
        simp only at f0 f1
        clear hk
        by_cases h5 : a.cnt ≤ IntKind.u64.wrap u
        · have t5 : decide (a.cnt ≤ IntKind.u64.wrap u) = true := decide_eq_true h5
          have HV : Hid (V = (0, false)) := HV.out.trans (MC.out.1 h5)
          clear h5 MC
          go_wp2_with fail
          go_ret2
          exact ⟨by rw [HV.out]; rfl, by rw [hg]; exact HK.out.b⟩
        · have t5 : decide (a.cnt ≤ IntKind.u64.wrap u) = false := decide_eq_false h5
          have MC := Lib.hid (MC.out.2 (by omega))
          have hl := HWok.2
          simp only at hl
          have hu0 : 0 ≤ IntKind.u64.wrap u := by rw [wrap_u64]; omega
          have HD := fun wx => div64_any (IntKind.u64.wrap u) l a.cnt wx hu0 (by omega) hn1 hl.1 (by omega)
          have hu1 : IntKind.u64.wrap u < a.cnt := by omega
          clear h5
          go_wp2_with fail
          refine (HD _).mono ?_
          rintro e w5 ⟨q, r, rfl, hq, nq, rfl⟩
          have HK := Lib.hid (Kn.same (wd := w4.drewN nq) HK.out rfl rfl rfl rfl)
          generalize w4.drewN nq = w5 at *
          have hqr := MC.out.1
          have HV := HV.out.trans MC.out.2
          rw [← hq.out.1] at hqr HV
          have HV := Lib.hid HV
          clear MC hq HD f0 f1 z0 z1 a0
          have H2 := fun wx => neg_any ⟨0, q⟩ wx (lo_ok hqr)
          have e6 : (⟨0, q⟩ : Wd).v = q := by unfold Wd.v; simp
          rw [e6] at H2
          have H3 := fun wx => small_any (wd (-q)) wx (wd_ok _)
          unfold Wd.val at H2 H3
          simp only at H2
          generalize wd (-q) = Z at *
          go_wp2_with fail
          refine (H2 _).mono ?_
          rintro e w6 ⟨rfl, d6⟩
          have hk := (HK.out.new (wdO ⟨0, q⟩)).below d6
          have hlt := HK.out.fresh
          clear d6 HK e6
          generalize w5.heap.size = k9 at *
          have HK := Lib.hid hk
          obtain ⟨f0, f1, z0, z1⟩ := hk.wd0
          clear hk
          go_upto_region 14 with (fail)
          have hk := Kn.setWd HK.out (by simp only [Apart, and_true]; omega) (by omega) Z
          generalize (w6.setCell ⟨k9, 0, none⟩ _).setCell ⟨k9, 1, none⟩ _ = w7 at *
          clear f0 f1 z0 z1 HK
          have HK := Lib.hid hk
          obtain ⟨f0, f1, z0, z1⟩ := hk.wd0
          clear hk
          go_wp2_with fail
          refine (H3 _).mono ?_
          rintro e w8 ⟨rfl, d8⟩
          have hB := (HK.out.below d8).b
          clear d8 HK
          go_wp2_with fail
          go_ret2
          exact ⟨by rw [HV.out]; rfl, by rw [hg]; exact hB⟩
      · have t3 : decide (a.sum.hi < 0) = false := decide_eq_false h3
        have e0 : absW a.sum = a.sum := if_neg h3
        simp only [if_neg h3] at MC
        rw [e0] at MC HWok
        generalize hs : a.sum = W at *
        obtain ⟨u, l⟩ := W
        simp only at MC HWok a1 a2 t3
        clear e0 h3
        rw [← wrap_u64] at MC
        have hs1 : a.sum.hi = u := by rw [hs]
        go_upto_region 7 with (fail)
        have hk := KK.out.new (wdO ⟨u, l⟩)
        unfold wdO at hk
        generalize w1.alloc (.cells #[.int .i64 u, .int .u64 l] 24) = w4 at *
        have hgk : g < w1.heap.size := hsz
        generalize w1.heap.size = k5 at *
        have HK : Hid (Kn g w [(k5, wdO ⟨u, l⟩), (g, agO a)] w4) := hk
        clear hk KK a0 a1 a2
        obtain ⟨f0, f1, z0, z1⟩ := HK.out.wd0
        have a0 := HK.out.cell (g := g) (o := agO a) (by simp) (ag_c0 a)
        simp only at f0 f1
        by_cases h5 : a.cnt ≤ IntKind.u64.wrap u
        · have t5 : decide (a.cnt ≤ IntKind.u64.wrap u) = true := decide_eq_true h5
          have HV : Hid (V = (0, false)) := HV.out.trans (MC.out.1 h5)
          clear h5 MC
          go_wp2_with fail
          go_ret2
          exact ⟨by rw [HV.out]; rfl, by rw [hg]; exact HK.out.b⟩
        · have t5 : decide (a.cnt ≤ IntKind.u64.wrap u) = false := decide_eq_false h5
          have MC := Lib.hid (MC.out.2 (by omega))
          have hl := HWok.2
          simp only at hl
          have hu0 : 0 ≤ IntKind.u64.wrap u := by rw [wrap_u64]; omega
          have HD := fun wx => div64_any (IntKind.u64.wrap u) l a.cnt wx hu0 (by omega) hn1 hl.1 (by omega)
          have hu1 : IntKind.u64.wrap u < a.cnt := by omega
          clear h5
          go_wp2_with fail
          refine (HD _).mono ?_
          rintro e w5 ⟨q, r, rfl, hq, nq, rfl⟩
          have HK := Lib.hid (Kn.same (wd := w4.drewN nq) HK.out rfl rfl rfl rfl)
          generalize w4.drewN nq = w5 at *
          have hqr := MC.out.1
          have HV := HV.out.trans MC.out.2
          rw [← hq.out.1] at hqr HV
          have HV := Lib.hid HV
          clear MC hq HD f0 f1 z0 z1 a0
          have H3 := fun wx => small_any ⟨0, q⟩ wx (lo_ok hqr)
          unfold Wd.val at H3
          simp only at H3
          go_wp2_with fail
          refine (H3 _).mono ?_
          rintro e w6 ⟨rfl, d6⟩
          have hB := ((HK.out.new (wdO ⟨0, q⟩)).below d6).b
          clear d6 HK
          go_wp2_with fail
          go_ret2
          exact ⟨by rw [HV.out]; rfl, by rw [hg]; exact hB⟩
end
end Go.Proofs.Ytojnooagifhekaa
