/- MarkVectors: for any two lists, any site and any number the law answers true. -/
import Derived.Test.YtmdbdkeonijfbaaMfrom
import Derived.Test.YtmdbdkeonijfbaaTrk
import Derived.Test.YtmdbdkeonijfbaaOpenP
import Derived.Test.YtmdbdkeonijfbaaMrwith
import Derived.Test.YtmdbdkeonijfbaaRjoinJ
import Derived.Test.YtmdbdkeonijfbaaRjoinM
import Derived.Deep.DeepCutAuto
import Derived.Deep.CutBlock
import Derived.Deep.RegionHeld3
namespace Go.Proofs.Ytmdbdkeonijfbaa
open Go.RowKit
set_option linter.unusedVariables false
set_option linter.unusedSimpArgs false
section
variable {w0 : World} {a1 a2 : Option Addr} {n1 c1 n2 c2 : Nat} {xs ys : List Int}
theorem rjoin_from (wx : World) (hA : SlI w0 a1 n1 c1 xs) (hB : SlI w0 a2 n2 c2 ys) (hb : Below w0.heap.size w0 wx) :
    Calls Try.prog 17 #[.slice a1 n1 c1, .slice a2 n2 c2] wx fun e w' => ∃ a' n' c', e = .returned (.slice a' n' c') ∧ SlI w' a' n' c' (joinV xs ys) ∧ Below w0.heap.size w0 w' ∧ Below wx.heap.size wx w' :=
  (rjoin_any _ _ _ _ _ _ xs ys wx (hA.r.below hb) (hB.r.below hb) hA.h1 hA.h2 hB.h1 hB.h2).mono fun e w' ⟨a', c', h1, h2, h3, h4, h5⟩ => ⟨a', _, c', h1, ⟨h4.reads, h2, h3⟩, below_then hb hb.size h5, h5⟩
theorem rmeet_from (wx : World) (hA : SlI w0 a1 n1 c1 xs) (hB : SlI w0 a2 n2 c2 ys) (hb : Below w0.heap.size w0 wx) :
    Calls Try.prog 18 #[.slice a1 n1 c1, .slice a2 n2 c2] wx fun e w' => ∃ a' n' c', e = .returned (.slice a' n' c') ∧ SlI w' a' n' c' (meetV xs ys) ∧ Below w0.heap.size w0 w' ∧ Below wx.heap.size wx w' :=
  (rmeet_any _ _ _ _ _ _ xs ys wx (hA.r.below hb) (hB.r.below hb) hA.h1 hA.h2 hB.h1 hB.h2).mono fun e w' ⟨a', c', h1, h2, h3, h4, h5⟩ => ⟨a', _, c', h1, ⟨h4.reads, h2, h3⟩, below_then hb hb.size h5, h5⟩
end
set_option maxHeartbeats 4000000 in
set_option maxRecDepth 100000 in
theorem vectors_any (v1 : Value) (la : List Int) (v2 : Value) (lb : List Int) (q0 q1 : Int) (w : World) (hv1 : IsInts .i64 w v1 la) (hv2 : IsInts .i64 w v2 lb) (h00 : -9223372036854775808 ≤ q0) (h01 : q0 ≤ 9223372036854775807) :
    Calls Try.prog 4 #[v1, v2, .agg #[.int .i64 q0, .int .i64 q1]] w fun e w' => e = .returned (.bool true) ∧ Below w.heap.size w w' := by
  obtain ⟨a1, n1, c1, rfl, hnc1, hc1, hr1, -⟩ := hv1
  obtain ⟨a2, n2, c2, rfl, hnc2, hc2, hr2, -⟩ := hv2
  have sA : SlI w a1 n1 c1 la := ⟨hr1, hnc1, hc1⟩
  have sB : SlI w a2 n2 c2 lb := ⟨hr2, hnc2, hc2⟩
  clear hr1 hr2 hnc1 hc1 hnc2 hc2
  go_enter Try.func4, Try.ntmps4
  go_wp2_with fail
  have hb0 : Below w.heap.size w (w.alloc (.cells #[.int .i64 q0, .int .i64 q1] 29)) := (Below.refl _ _).alloc (Nat.le_refl _) _
  have hq0 : (w.alloc (.cells #[.int .i64 q0, .int .i64 q1] 29)).cell? ⟨w.heap.size, 0, none⟩ = some (.int .i64 q0) := by go_simp
  have hq1 : (w.alloc (.cells #[.int .i64 q0, .int .i64 q1] 29)).cell? ⟨w.heap.size, 1, none⟩ = some (.int .i64 q1) := by go_simp
  have hsz0 : (w.alloc (.cells #[.int .i64 q0, .int .i64 q1] 29)).heap.size = w.heap.size + 1 := by simp
  have tA0 := sA.below hb0
  have tB0 := sB.below hb0
  clear sA sB
  refine (awake_any _).mono ?_
  rintro e w1 ⟨rfl, hb1⟩
  generalize w.alloc (.cells #[.int .i64 q0, .int .i64 q1] 29) = wa at *
  have hgq : w.heap.size < wa.heap.size := by omega
  have HB0 := Lib.hid hb0
  have HQ : Hid (∀ wx, Below wa.heap.size wa wx → wx.cell? ⟨w.heap.size, 0, none⟩ = some (.int .i64 q0) ∧ wx.cell? ⟨w.heap.size, 1, none⟩ = some (.int .i64 q1)) := fun wx hb => ⟨(hb.cell (p := ⟨w.heap.size, 0, none⟩) hgq).trans hq0, (hb.cell (p := ⟨w.heap.size, 1, none⟩) hgq).trans hq1⟩
  clear hb0 hq0 hq1 hsz0
  go_wp2_with fail
  refine (few_from _ tA0 hb1).mono ?_
  rintro e w2 ⟨n1', c1', rfl, tA, rfl⟩
  go_wp2_with fail
  refine (few_from _ tB0 hb1).mono ?_
  rintro e w2 ⟨n2', c2', rfl, tB, rfl⟩
  clear tA0 tB0
  generalize la.take 12 = A at *
  generalize lb.take 12 = B at *
  go_wp2_with fail
  refine (join_from _ tA tB hb1).mono ?_
  rintro e w3 ⟨a3, n3, rfl, s3, hb3⟩
  go_wp2_with fail
  refine (rjoin_from _ tA tB hb3).mono ?_
  rintro e w4 ⟨a4, n4, c4, rfl, s4, hb4, hb34⟩
  go_wp2_with fail
  refine (same_from (w0 := w4) _ (s3.below hb34) s4 (Below.refl _ _)).mono ?_
  rintro e w5 ⟨rfl, hb5'⟩
  rw [decide_eq_true (rfl : joinV A B = joinV A B)]
  have hb5 := below_then hb4 hb4.size hb5'
  clear s3 s4 hb34 hb5' hb3 hb4
  go_wp2_with fail
  refine (meet_from _ tA tB hb5).mono ?_
  rintro e w6 ⟨a6, n6, rfl, s6, hb6⟩
  go_wp2_with fail
  refine (rmeet_from _ tA tB hb6).mono ?_
  rintro e w7 ⟨a7, n7, c7, rfl, s7, hb7, hb67⟩
  go_wp2_with fail
  refine (same_from (w0 := w7) _ (s6.below hb67) s7 (Below.refl _ _)).mono ?_
  rintro e w8 ⟨rfl, hb8'⟩
  rw [decide_eq_true (rfl : meetV A B = meetV A B)]
  have hb8 := below_then hb7 hb7.size hb8'
  clear s6 s7 hb67 hb8' hb6 hb7 hb5
  go_upto_region 6 with (fail)
  obtain ⟨k0, k1⟩ := HQ.out w8 hb8
  have D : Trk wa.heap.size wa w8 := ⟨hb8⟩
  clear hb8 hb1
  go_cut [10] (fun t wx => t = .bool true ∧ Below wa.heap.size wa wx)
  case first =>
    go_region_held3 (fun wx => wx.cell? ⟨w.heap.size, 0, none⟩ = some (.int .i64 q0) ∧ wx.cell? ⟨w.heap.size, 1, none⟩ = some (.int .i64 q1))
      (first
        | go_keep
        | exact ⟨cell_later (by assumption) (by go_simp), cell_later (by assumption) (by go_simp)⟩)
      (first
        | (go_at_call 19; refine (with_any _ _ _ A q0 q1 _ (by exact tA.r.below (below_same D.out rfl rfl rfl rfl)) tA.h1 tA.h2 h00 h01).mono ?_; rintro e w9 ⟨a9, rfl, s9, d9⟩; have D := Trk.mk (below_seq D.out d9 D.out.size rfl rfl rfl rfl); have hl9 := withV_length A q0 q1)
        | (go_at_call 20; refine (rwith_any _ _ _ A q0 q1 _ (by exact tA.r.below (below_same D.out rfl rfl rfl rfl)) tA.h1 tA.h2).mono ?_; rintro e w10 ⟨a10, c10, rfl, l10, m10, s10, d10⟩; have r9 := ReadsI.below (by exact s9.reads) d10; have D := Trk.mk (below_seq D.out d10 D.out.size rfl rfl rfl rfl))
        | (go_at_call 15; refine (same_any _ _ _ _ _ _ (withV A q0 q1) (withV A q0 q1) _ (by exact r9) (by exact s10.reads) (Nat.le_refl _) (by omega) l10 m10).mono ?_; rintro e w11 ⟨rfl, d11⟩; rw [decide_eq_true (rfl : withV A q0 q1 = withV A q0 q1)]; have D := Trk.mk (below_seq D.out d11 D.out.size rfl rfl rfl rfl)))
    go_wp2_with fail
    go_meet
    exact ⟨rfl, below_same D.out rfl rfl rfl rfl⟩
  case rest =>
    obtain ⟨rfl, hb9⟩ := hcut
    clear k0 k1 D
    obtain ⟨k0, k1⟩ := HQ.out _ hb9
    have D : Trk wa.heap.size wa _ := ⟨hb9⟩
    clear hb9
    have R1 := fun wx (h : Below wa.heap.size wa wx) => right_any a1 n1' c1' A wx (tA.r.below h) tA.h1 tA.h2
    have R2 := fun wx (h : Below wa.heap.size wa wx) => rright_any a1 n1' c1' A wx (tA.r.below h) tA.h1 tA.h2
    have R3 := fun wx (h : Below wa.heap.size wa wx) => at_any a1 n1' c1' A q0 wx (tA.r.below h) tA.h1 tA.h2 h00 h01
    have R4 := fun wx (h : Below wa.heap.size wa wx) => rat_any a1 n1' c1' A q0 wx (tA.r.below h) tA.h1 tA.h2
    have R5 := fun wx (h : Below wa.heap.size wa wx) => covers_any a1 a2 n1' c1' n2' c2' A B wx (tA.r.below h) (tB.r.below h) tA.h1 tA.h2 tB.h1 tB.h2
    have R6 := fun wx (h : Below wa.heap.size wa wx) => rcovers_any a1 a2 n1' c1' n2' c2' A B wx (tA.r.below h) (tB.r.below h) tA.h1 tA.h2 tB.h1 tB.h2
    have R7 := fun wx (h : Below wa.heap.size wa wx) => compare_any a1 a2 n1' c1' n2' c2' A B wx (tA.r.below h) (tB.r.below h) tA.h1 tA.h2 tB.h1 tB.h2
    have R8 := fun wx (h : Below wa.heap.size wa wx) => rcompare_any a1 a2 n1' c1' n2' c2' A B wx (tA.r.below h) (tB.r.below h) tA.h1 tA.h2 tB.h1 tB.h2
    generalize decide (A = pl A) = p1 at R1 R2
    generalize atV A q0 = z1 at R3 R4
    generalize covV A B = p2 at R5 R6
    generalize cmpV A B = z2 at R7 R8
    have e1 : (p1 == p1) = true := beq_self_eq_true _
    have e2 : (p2 == p2) = true := beq_self_eq_true _
    have e3 : (z1 == z1) = true := beq_self_eq_true _
    have e4 : (z2 == z2) = true := beq_self_eq_true _
    go_upto_region 7 with (fail)
    go_region_held3 (fun wx => wx.cell? ⟨w.heap.size, 0, none⟩ = some (.int .i64 q0))
      (first
        | go_keep
        | exact cell_later (by assumption) (by go_simp))
      (first
        | (go_at_call 16; refine (R1 _ (by exact below_same D.out rfl rfl rfl rfl)).mono ?_; rintro e w12 ⟨rfl, d12⟩; have D := Trk.mk (below_seq D.out d12 D.out.size rfl rfl rfl rfl))
        | (go_at_call 21; refine (R2 _ (by exact below_same D.out rfl rfl rfl rfl)).mono ?_; rintro e w13 ⟨rfl, d13⟩; have D := Trk.mk (below_seq D.out d13 D.out.size rfl rfl rfl rfl))
        | (go_at_call 22; refine (R3 _ (by exact below_same D.out rfl rfl rfl rfl)).mono ?_; rintro e w14 ⟨rfl, d14⟩; have D := Trk.mk (below_seq D.out d14 D.out.size rfl rfl rfl rfl))
        | (go_at_call 23; refine (R4 _ (by exact below_same D.out rfl rfl rfl rfl)).mono ?_; rintro e w15 ⟨rfl, d15⟩; have D := Trk.mk (below_seq D.out d15 D.out.size rfl rfl rfl rfl))
        | (go_at_call 14; refine (R5 _ (by exact below_same D.out rfl rfl rfl rfl)).mono ?_; rintro e w16 ⟨rfl, d16⟩; have D := Trk.mk (below_seq D.out d16 D.out.size rfl rfl rfl rfl))
        | (go_at_call 24; refine (R6 _ (by exact below_same D.out rfl rfl rfl rfl)).mono ?_; rintro e w17 ⟨rfl, d17⟩; have D := Trk.mk (below_seq D.out d17 D.out.size rfl rfl rfl rfl))
        | (go_at_call 25; refine (R7 _ (by exact below_same D.out rfl rfl rfl rfl)).mono ?_; rintro e w18 ⟨rfl, d18⟩; have D := Trk.mk (below_seq D.out d18 D.out.size rfl rfl rfl rfl))
        | (go_at_call 26; refine (R8 _ (by exact below_same D.out rfl rfl rfl rfl)).mono ?_; rintro e w19 ⟨rfl, d19⟩; have D := Trk.mk (below_seq D.out d19 D.out.size rfl rfl rfl rfl)))
    go_wp2
    go_ret
    exact ⟨rfl, by
      have hB := HB0.out.trans ((below_same D.out rfl rfl rfl rfl : Below wa.heap.size wa _).mono HB0.out.size)
      exact hB⟩
theorem vectors_row (v1 : Value) (la : List Int) (v2 : Value) (lb : List Int) (v3 : Value) (q : Int × Int) (w : World) (hv1 : IsInts .i64 w v1 la) (hv2 : IsInts .i64 w v2 lb) (hv3 : IsPair w v3 q) :
    Calls Try.prog 4 #[v1, v2, v3] w fun e w' => e = .returned (.bool true) ∧ Below w.heap.size w w' := by
  obtain ⟨rfl, h0, _⟩ := hv3
  exact vectors_any v1 la v2 lb q.1 q.2 w hv1 hv2 h0.1 h0.2
end Go.Proofs.Ytmdbdkeonijfbaa
