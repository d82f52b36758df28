/- MarkLattice: for any three lists the law answers true. -/
import Derived.Test.YtmdbdkeonijfbaaMfrom
import Derived.Deep.DeepCutAuto
import Derived.Deep.CutBlock
namespace Go.Proofs.Ytmdbdkeonijfbaa
open Go.RowKit
set_option linter.unusedVariables false
set_option linter.unusedSimpArgs false
theorem cov_join_l (A B : List Int) : covV (joinV A B) A = true := (covV_true _ _).2 fun i hi => by rw [nm_join A B i hi]; omega
theorem cov_join_r (A B : List Int) : covV (joinV A B) B = true := (covV_true _ _).2 fun i hi => by rw [nm_join A B i hi]; omega
theorem cov_meet_l (A B : List Int) : covV A (meetV A B) = true := (covV_true _ _).2 fun i hi => by rw [nm_meet A B i hi]; omega
theorem cov_meet_r (A B : List Int) : covV B (meetV A B) = true := (covV_true _ _).2 fun i hi => by rw [nm_meet A B i hi]; omega
theorem cov_to_join (A B C : List Int) : covV C (joinV A B) = (covV C A && covV C B) := by
  rw [Bool.eq_iff_iff, Bool.and_eq_true, covV_true, covV_true, covV_true]
  constructor
  · intro h
    exact ⟨fun i hi => by have := h i hi; rw [nm_join A B i hi] at this; omega, fun i hi => by have := h i hi; rw [nm_join A B i hi] at this; omega⟩
  · intro ⟨h1, h2⟩ i hi
    have := h1 i hi
    have := h2 i hi
    rw [nm_join A B i hi]; omega
theorem cov_of_meet (A B C : List Int) : covV (meetV A B) C = (covV A C && covV B C) := by
  rw [Bool.eq_iff_iff, Bool.and_eq_true, covV_true, covV_true, covV_true]
  constructor
  · intro h
    exact ⟨fun i hi => by have := h i hi; rw [nm_meet A B i hi] at this; omega, fun i hi => by have := h i hi; rw [nm_meet A B i hi] at this; omega⟩
  · intro ⟨h1, h2⟩ i hi
    have := h1 i hi
    have := h2 i hi
    rw [nm_meet A B i hi]; omega
theorem join_comm (A B : List Int) : joinV A B = joinV B A := vec_ext fun i hi => by omega
theorem meet_comm (A B : List Int) : meetV A B = meetV B A := vec_ext fun i hi => by omega
theorem join_idem (A B : List Int) : joinV (joinV A B) A = joinV A B := vec_ext fun i hi => by rw [nm_join A B i hi]; omega
theorem join_assoc (A B C : List Int) : joinV (joinV A B) C = joinV A (joinV B C) := vec_ext fun i hi => by rw [nm_join A B i hi, nm_join B C i hi]; omega
set_option maxHeartbeats 4000000 in
set_option maxRecDepth 100000 in
theorem lattice_any (v1 : Value) (la : List Int) (v2 : Value) (lb : List Int) (v3 : Value) (lc : List Int) (w : World) (hv1 : IsInts .i64 w v1 la) (hv2 : IsInts .i64 w v2 lb) (hv3 : IsInts .i64 w v3 lc) :
    Calls Try.prog 3 #[v1, v2, v3] w fun e w' => e = .returned (.bool true) ∧ Below w.heap.size w w' := by
  obtain ⟨a1, n1, c1, rfl, hnc1, hc1, hr1, -⟩ := hv1
  obtain ⟨a2, n2, c2, rfl, hnc2, hc2, hr2, -⟩ := hv2
  obtain ⟨a3, n3, c3, rfl, hnc3, hc3, hr3, -⟩ := hv3
  have sA : SlI w a1 n1 c1 la := ⟨hr1, hnc1, hc1⟩
  have sB : SlI w a2 n2 c2 lb := ⟨hr2, hnc2, hc2⟩
  have sC : SlI w a3 n3 c3 lc := ⟨hr3, hnc3, hc3⟩
  clear hr1 hr2 hr3 hnc1 hc1 hnc2 hc2 hnc3 hc3
  go_enter Try.func3, Try.ntmps3
  go_wp2_with fail
  refine (awake_any _).mono ?_
  rintro e w1 ⟨rfl, hb1⟩
  go_wp2_with fail
  refine (few_from _ sA hb1).mono ?_
  rintro e w2 ⟨n1', c1', rfl, tA, rfl⟩
  go_wp2_with fail
  refine (few_from _ sB hb1).mono ?_
  rintro e w2 ⟨n2', c2', rfl, tB, rfl⟩
  go_wp2_with fail
  refine (few_from _ sC hb1).mono ?_
  rintro e w2 ⟨n3', c3', rfl, tC, rfl⟩
  clear sA sB sC
  generalize la.take 12 = A at *
  generalize lb.take 12 = B at *
  generalize lc.take 12 = C at *
  go_wp2_with fail
  refine (join_from _ tA tB hb1).mono ?_
  rintro e w3 ⟨aj, nj, rfl, sJ, hb3⟩
  go_wp2_with fail
  refine (meet_from (w0 := w3) _ (tA.below hb3) (tB.below hb3) (Below.refl _ _)).mono ?_
  rintro e w4 ⟨am, nM, rfl, sM, hb34⟩
  have hb4 := below_then hb3 hb3.size hb34
  have uA := tA.below hb4
  have uB := tB.below hb4
  have uC := tC.below hb4
  have uJ := sJ.below hb34
  clear tA tB tC sJ hb1 hb3 hb34
  have L1 := cov_join_l A B
  have L2 := cov_join_r A B
  have L3 := cov_meet_l A B
  have L4 := cov_meet_r A B
  have L5 := cov_to_join A B C
  have L6 := cov_of_meet A B C
  have L7 := Lib.hid (join_comm A B)
  have L8 := Lib.hid (meet_comm A B)
  have L9 := Lib.hid (join_idem A B)
  have L10 := Lib.hid (join_assoc A B C)
  have L11 := Lib.hid (pl_join A B)
  have L12 := Lib.hid (pl_meet A B)
  have cJA := cov_from (w0 := w4) (hA := uJ) (hB := uA)
  have cJB := cov_from (w0 := w4) (hA := uJ) (hB := uB)
  have cAM := cov_from (w0 := w4) (hA := uA) (hB := sM)
  have cBM := cov_from (w0 := w4) (hA := uB) (hB := sM)
  have cCA := cov_from (w0 := w4) (hA := uC) (hB := uA)
  have cCB := cov_from (w0 := w4) (hA := uC) (hB := uB)
  have cCJ := cov_from (w0 := w4) (hA := uC) (hB := uJ)
  have cAC := cov_from (w0 := w4) (hA := uA) (hB := uC)
  have cBC := cov_from (w0 := w4) (hA := uB) (hB := uC)
  have cMC := cov_from (w0 := w4) (hA := sM) (hB := uC)
  rw [L1] at cJA
  rw [L2] at cJB
  rw [L3] at cAM
  rw [L4] at cBM
  rw [L5] at cCJ
  rw [L6] at cMC
  clear L1 L2 L3 L4 L5 L6
  have HB4 := Lib.hid hb4
  clear hb4
  go_wp2_with fail
  refine (cJA _ (Below.refl _ _)).mono ?_
  rintro e w5 ⟨rfl, d5⟩
  go_wp2_with fail
  refine (cJB _ d5).mono ?_
  rintro e w6 ⟨rfl, d6⟩
  go_wp2_with fail
  refine (cAM _ d6).mono ?_
  rintro e w7 ⟨rfl, d7⟩
  go_wp2_with fail
  refine (cBM _ d7).mono ?_
  rintro e w8 ⟨rfl, d8⟩
  clear cJA cJB cAM cBM d5 d6 d7
  go_upto_region 8 with (fail)
  go_cut [11] (fun t wx => t = .bool true ∧ Below w4.heap.size w4 wx)
  case first =>
    generalize covV C A = p1 at *
    generalize covV C B = p2 at *
    generalize covV A C = p3 at *
    generalize covV B C = p4 at *
    cases p1
    · simp only [Bool.false_and] at cCJ
      go_wp2_with fail
      refine (cCA _ d8).mono ?_
      rintro e wa ⟨rfl, da⟩
      go_wp2_with fail
      refine (cCJ _ da).mono ?_
      rintro e wz ⟨rfl, dz⟩
      clear da d8
      cases p3
      · simp only [Bool.false_and] at cMC
        go_wp2_with fail
        refine (cAC _ dz).mono ?_
        rintro e wb ⟨rfl, db⟩
        go_wp2_with fail
        refine (cMC _ db).mono ?_
        rintro e wc ⟨rfl, dc⟩
        go_wp2
        go_meet
        exact ⟨rfl, dc⟩
      · simp only [Bool.true_and] at cMC
        go_wp2_with fail
        refine (cAC _ dz).mono ?_
        rintro e wb ⟨rfl, db⟩
        go_wp2_with fail
        refine (cBC _ db).mono ?_
        rintro e wb ⟨rfl, db⟩
        go_wp2_with fail
        refine (cMC _ db).mono ?_
        rintro e wc ⟨rfl, dc⟩
        cases p4
        all_goals
          go_wp2
          go_meet
          exact ⟨rfl, dc⟩
    · simp only [Bool.true_and] at cCJ
      go_wp2_with fail
      refine (cCA _ d8).mono ?_
      rintro e wa ⟨rfl, da⟩
      go_wp2_with fail
      refine (cCB _ da).mono ?_
      rintro e wb ⟨rfl, db⟩
      go_wp2_with fail
      refine (cCJ _ db).mono ?_
      rintro e wz ⟨rfl, dz⟩
      clear da d8 db
      have hp : (p2 == p2) = true := beq_self_eq_true _
      cases p3
      · simp only [Bool.false_and] at cMC
        cases p2
        all_goals
          go_wp2_with fail
          refine (cAC _ dz).mono ?_
          rintro e wb ⟨rfl, db⟩
          go_wp2_with fail
          refine (cMC _ db).mono ?_
          rintro e wc ⟨rfl, dc⟩
          go_wp2
          go_meet
          exact ⟨rfl, dc⟩
      · simp only [Bool.true_and] at cMC
        cases p2
        all_goals
          go_wp2_with fail
          refine (cAC _ dz).mono ?_
          rintro e wb ⟨rfl, db⟩
          go_wp2_with fail
          refine (cBC _ db).mono ?_
          rintro e wb ⟨rfl, db⟩
          go_wp2_with fail
          refine (cMC _ db).mono ?_
          rintro e wc ⟨rfl, dc⟩
          cases p4
          all_goals
            go_wp2
            go_meet
            exact ⟨rfl, dc⟩
  case rest =>
    obtain ⟨rfl, d9⟩ := hcut
    go_wp2_with fail
    refine (join_from (w0 := w4) _ uB uA d9).mono ?_
    rintro e w10 ⟨a10, n10, rfl, s10, d10⟩
    rw [← L7.out] at s10
    go_wp2_with fail
    refine (same_from (w0 := w10) _ (uJ.below d10) s10 (Below.refl _ _)).mono ?_
    rintro e w11 ⟨rfl, d11⟩
    rw [decide_eq_true (rfl : joinV A B = joinV A B)]
    have d12 := below_then d10 d10.size d11
    clear d9 d10 d11 s10
    go_wp2_with fail
    refine (meet_from (w0 := w4) _ uB uA d12).mono ?_
    rintro e w13 ⟨a13, n13, rfl, s13, d13⟩
    rw [← L8.out] at s13
    go_wp2_with fail
    refine (same_from (w0 := w13) _ (sM.below d13) s13 (Below.refl _ _)).mono ?_
    rintro e w14 ⟨rfl, d14⟩
    rw [decide_eq_true (rfl : meetV A B = meetV A B)]
    have d15 := below_then d13 d13.size d14
    clear d12 d13 d14 s13
    go_wp2_with fail
    refine (join_from (w0 := w4) _ uJ uA d15).mono ?_
    rintro e w16 ⟨a16, n16, rfl, s16, d16⟩
    rw [L9.out] at s16
    go_wp2_with fail
    refine (same_from (w0 := w16) _ s16 (uJ.below d16) (Below.refl _ _)).mono ?_
    rintro e w17 ⟨rfl, d17⟩
    rw [decide_eq_true (rfl : joinV A B = joinV A B)]
    have d18 := below_then d16 d16.size d17
    clear d15 d16 d17 s16
    go_wp2_with fail
    refine (join_from (w0 := w4) _ uA uB d18).mono ?_
    rintro e w19 ⟨a19, n19, rfl, s19, d19⟩
    go_wp2_with fail
    refine (join_from (w0 := w19) _ s19 (uC.below d19) (Below.refl _ _)).mono ?_
    rintro e w20 ⟨a20, n20, rfl, s20, d20⟩
    have d21 := below_then d19 d19.size d20
    clear d18 d19 d20 s19
    rw [L10.out] at s20
    go_wp2_with fail
    refine (join_from (w0 := w20) _ (uB.below d21) (uC.below d21) (Below.refl _ _)).mono ?_
    rintro e w22 ⟨a22, n22, rfl, s22, d22⟩
    have d23 := below_then d21 d21.size d22
    have s23 := s20.below d22
    clear d21 d22 s20
    go_wp2_with fail
    refine (join_from (w0 := w22) _ (uA.below d23) s22 (Below.refl _ _)).mono ?_
    rintro e w24 ⟨a24, n24, rfl, s24, d24⟩
    go_wp2_with fail
    refine (same_from (w0 := w24) _ (s23.below d24) s24 (Below.refl _ _)).mono ?_
    rintro e w25 ⟨rfl, d25⟩
    rw [decide_eq_true (rfl : joinV A (joinV B C) = joinV A (joinV B C))]
    have d26 := below_then d23 d23.size d24
    have d27 := below_then d26 d26.size d25
    clear d23 d24 d25 d26 s22 s23 s24
    go_wp2_with fail
    refine (right_from (w0 := w4) _ uJ d27).mono ?_
    rintro e w28 ⟨rfl, d28⟩
    rw [decide_eq_true L11.out.symm]
    go_wp2_with fail
    refine (right_from (w0 := w4) _ sM d28).mono ?_
    rintro e w29 ⟨rfl, d29⟩
    rw [decide_eq_true L12.out.symm]
    go_wp2
    go_ret
    exact ⟨rfl, below_then HB4.out HB4.out.size d29⟩
end Go.Proofs.Ytmdbdkeonijfbaa
