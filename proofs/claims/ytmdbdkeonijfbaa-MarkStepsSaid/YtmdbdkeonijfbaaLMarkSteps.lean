/- MarkSteps: for any list and site the law answers true. -/
import Derived.Test.YtmdbdkeonijfbaaMfrom
import Derived.Test.YtmdbdkeonijfbaaMwith
import Derived.Deep.DeepCutAuto
import Derived.Deep.CutBlock
namespace Go.Proofs.Ytmdbdkeonijfbaa
open Go.RowKit
set_option linter.unusedVariables false
set_option linter.unusedSimpArgs false
theorem nm_with (V : List Int) (s : Int) (n : Int) (i : Nat) (hi : i < 8) : nm (withV V s n) i = if (i : Int) = s then cl n else nm V i :=
  nm_vec _ (fun i _ => by split; exact cl_range n; exact nm_range V i) i hi
theorem pl_withV (V : List Int) (s : Int) (n : Int) : pl (withV V s n) = withV V s n :=
  pl_vec _ fun i _ => by split; exact cl_range n; exact nm_range V i
theorem step_at (V : List Int) (k : Nat) (hk : k < 8) (x : Int) : atV (withV V k (nm V k + 1)) x = if x = k ∧ nm V k < 1099511627776 then nm V k + 1 else atV V x := by
  have hr := nm_range V k
  unfold atV
  by_cases h : 0 ≤ x ∧ x < 8
  · rw [if_pos h, if_pos h, nm_with _ _ _ _ (by omega)]
    by_cases hx : x = k
    · subst hx
      rw [if_pos (by simp)]
      simp only [true_and, Int.toNat_natCast]
      unfold cl
      split <;> omega
    · rw [if_neg (by omega), if_neg (by omega)]
  · rw [if_neg h, if_neg h, if_neg (by omega)]
theorem step_cmp (V : List Int) (k : Nat) (hk : k < 8) : cmpV (withV V k (nm V k + 1)) V = if nm V k < 1099511627776 then 1 else 0 := by
  have hr := nm_range V k
  have h1 : covV (withV V k (nm V k + 1)) V = true := (covV_true _ _).2 fun i hi => by
    rw [nm_with _ _ _ _ hi]
    split
    · rename_i h
      obtain rfl : i = k := by omega
      unfold cl; omega
    · omega
  have h2 : covV V (withV V k (nm V k + 1)) = decide (¬ nm V k < 1099511627776) := by
    rw [Bool.eq_iff_iff, covV_true, decide_eq_true_iff]
    constructor
    · intro h
      have := h k hk
      rw [nm_with _ _ _ _ hk, if_pos rfl] at this
      unfold cl at this
      omega
    · intro h i hi
      rw [nm_with _ _ _ _ hi]
      split
      · rename_i h3
        obtain rfl : i = k := by omega
        unfold cl; omega
      · omega
  unfold cmpV
  rw [h1, h2]
  by_cases h : nm V k < 1099511627776 <;> simp [h]
section
variable {w0 : World} {a1 : Option Addr} {n1 c1 : Nat} {xs : List Int}
theorem at_from (wx : World) (hA : SlI w0 a1 n1 c1 xs) (hb : Below w0.heap.size w0 wx) (x : Int) (h0 : -9223372036854775808 ≤ x) (h1 : x ≤ 9223372036854775807) :
    Calls Try.prog 22 #[.slice a1 n1 c1, .int .i64 x] wx fun e w' => e = .returned (.int .i64 (atV xs x)) ∧ Below w0.heap.size w0 w' :=
  (at_any _ _ _ xs x wx (hA.r.below hb) hA.h1 hA.h2 h0 h1).mono fun e w' ⟨h1, h2⟩ => ⟨h1, below_then hb hb.size h2⟩
theorem with_from (wx : World) (hA : SlI w0 a1 n1 c1 xs) (hb : Below w0.heap.size w0 wx) (x v : Int) (h0 : -9223372036854775808 ≤ x) (h1 : x ≤ 9223372036854775807) :
    Calls Try.prog 19 #[.slice a1 n1 c1, .int .i64 x, .int .i64 v] wx fun e w' => ∃ a' n', e = .returned (.slice a' n' n') ∧ SlI w' a' n' n' (withV xs x v) ∧ Below w0.heap.size w0 w' :=
  (with_any _ _ _ xs x v wx (hA.r.below hb) hA.h1 hA.h2 h0 h1).mono fun e w' ⟨a', h1, h2, h3⟩ => ⟨a', _, h1, h2.sl (withV_length _ _ _), below_then hb hb.size h3⟩
end
set_option maxHeartbeats 4000000 in
set_option maxRecDepth 100000 in
theorem steps_any (v1 : Value) (la : List Int) (site : Int) (w : World) (hv1 : IsInts .i64 w v1 la) (hs0 : -9223372036854775808 ≤ site) (hs1 : site ≤ 9223372036854775807) :
    Calls Try.prog 5 #[v1, .int .i64 site] w fun e w' => e = .returned (.bool true) ∧ Below w.heap.size w w' := by
  obtain ⟨a1, n1, c1, rfl, hnc1, hc1, hr1, -⟩ := hv1
  have sA : SlI w a1 n1 c1 la := ⟨hr1, hnc1, hc1⟩
  clear hr1 hnc1 hc1
  have hm : -7 ≤ site.tmod 8 ∧ site.tmod 8 ≤ 7 := by
    have h1 := Int.tmod_lt_of_pos site (show (0 : Int) < 8 by decide)
    have h2 := Int.lt_tmod_of_pos site (show (0 : Int) < 8 by decide)
    omega
  go_enter Try.func5, Try.ntmps5
  go_wp2_with fail
  refine (awake_any _).mono ?_
  rintro e w1 ⟨rfl, hb1⟩
  go_wp2_with fail
  refine (few_from _ sA hb1).mono ?_
  rintro e w2 ⟨n1', c1', rfl, tA, rfl⟩
  clear sA
  generalize la.take 12 = V at *
  go_upto_if 18 with (fail)
  go_cut [6] (fun t wx => (∃ k : Nat, k < 8 ∧ t = .int .i64 k) ∧ wx = w1)
  case first =>
    by_cases hneg : site.tmod 8 < 0
    · have t3 : decide (site.tmod 8 < 0) = true := decide_eq_true hneg
      go_wp2_with fail
      go_meet
      exact ⟨⟨(-(site.tmod 8)).toNat, by omega, by rw [Int.toNat_of_nonneg (by omega)]⟩, rfl⟩
    · have t3 : decide (site.tmod 8 < 0) = false := decide_eq_false hneg
      go_wp2_with fail
      go_meet
      exact ⟨⟨(site.tmod 8).toNat, by omega, by rw [Int.toNat_of_nonneg (by omega)]⟩, rfl⟩
  case rest =>
    obtain ⟨⟨k, hk, rfl⟩, rfl⟩ := hcut
    clear hm hs0 hs1
    have hNr := nm_range V k
    have hatk : atV V k = nm V k := by unfold atV; rw [if_pos (by omega)]; rfl
    go_wp2_with fail
    refine (at_from _ tA hb1 k (by omega) (by omega)).mono ?_
    rintro e w3 ⟨rfl, hb3⟩
    rw [hatk]
    clear hatk
    have hSA := Lib.hid (step_at V k hk)
    have hSC := Lib.hid (step_cmp V k hk)
    have hPW := Lib.hid (pl_withV V k (nm V k + 1))
    go_wp2_with fail
    refine (with_from _ tA hb3 k (nm V k + 1) (by omega) (by omega)).mono ?_
    rintro e w4 ⟨a4, n4, rfl, s4, hb4⟩
    have uA := tA.below hb4
    clear tA hb1 hb3
    generalize withV V k (nm V k + 1) = W at *
    generalize nm V k = N at *
    have HB4 := Lib.hid hb4
    clear hb4
    go_wp2_with fail
    go_loopw [9, 10] (fun i _ wr => ∃ x : Int, -1 ≤ x ∧ x ≤ 9 ∧ i = .int .i64 x ∧ Below w4.heap.size w4 wr) (fun i _ _ => (10 - intOf i).toNat)
    case atStart => exact ⟨-1, by omega, by omega, rfl, Below.refl _ _⟩
    case round =>
      obtain ⟨x, hx0, hx1, rfl, hbel⟩ := hrel
      by_cases hlt : x < 9
      · have t1 : decide (x < 9) = true := decide_eq_true hlt
        go_wp2_with fail
        refine (at_from _ uA hbel x (by omega) (by omega)).mono ?_
        rintro e w5 ⟨rfl, hb5⟩
        have hw : IntKind.i64.wrap (N + 1) = N + 1 := IntWalk.i64_in _ ⟨by omega, by omega⟩
        by_cases hxk : x = k
        · subst hxk
          have t2 : ((k : Int) == (k : Int)) = true := beq_self_eq_true _
          by_cases hN : N < 1099511627776
          · have t3 : decide (N < 1099511627776) = true := decide_eq_true hN
            go_wp2_with fail
            refine (at_from _ s4 hb5 (k : Int) (by omega) (by omega)).mono ?_
            rintro e w6 ⟨rfl, hb6⟩
            rw [hSA.out (k : Int), if_pos ⟨rfl, by omega⟩]
            have t4 : (N + 1 == N + 1) = true := beq_self_eq_true _
            go_wp2_with fail
            go_roundw
            case rel => exact ⟨(k : Int) + 1, by omega, by omega, by go_num, hb6⟩
            case measure => simp [intOf]; omega
          · have t3 : decide (N < 1099511627776) = false := decide_eq_false hN
            go_wp2_with fail
            refine (at_from _ s4 hb5 (k : Int) (by omega) (by omega)).mono ?_
            rintro e w6 ⟨rfl, hb6⟩
            rw [hSA.out (k : Int), if_neg (fun h => by omega)]
            have t4 : (atV V (k : Int) == atV V (k : Int)) = true := beq_self_eq_true _
            generalize atV V (k : Int) = y at *
            go_wp2_with fail
            go_roundw
            case rel => exact ⟨(k : Int) + 1, by omega, by omega, by go_num, hb6⟩
            case measure => simp [intOf]; omega
        · have t2 : (x == (k : Int)) = false := beq_eq_false_iff_ne.2 hxk
          go_wp2_with fail
          refine (at_from _ s4 hb5 x (by omega) (by omega)).mono ?_
          rintro e w6 ⟨rfl, hb6⟩
          rw [hSA.out x, if_neg (fun h => hxk h.1)]
          have t4 : (atV V x == atV V x) = true := beq_self_eq_true _
          generalize atV V x = y at *
          go_wp2_with fail
          go_roundw
          case rel => exact ⟨x + 1, by omega, by omega, by go_num, hb6⟩
          case measure => simp [intOf]; omega
      · have t1 : decide (x < 9) = false := decide_eq_false hlt
        go_upto_if 51 with (fail)
        go_cut [11] (fun t wx => t = .int .i64 (cmpV W V) ∧ Below w4.heap.size w4 wx)
        case first =>
          by_cases hN : N < 1099511627776
          · have t3 : decide (1099511627776 ≤ N) = false := decide_eq_false (by omega)
            go_wp2_with fail
            go_meet
            exact ⟨by rw [hSC.out, if_pos hN], hbel⟩
          · have t3 : decide (1099511627776 ≤ N) = true := decide_eq_true (by omega)
            go_wp2_with fail
            go_meet
            exact ⟨by rw [hSC.out, if_neg (by omega)], hbel⟩
        case rest =>
          obtain ⟨rfl, hbel2⟩ := hcut
          go_wp2_with fail
          refine (cmp_from _ s4 uA hbel2).mono ?_
          rintro e w7 ⟨rfl, hb7⟩
          have t4 : (cmpV W V == cmpV W V) = true := beq_self_eq_true _
          generalize cmpV W V = y at *
          go_wp2_with fail
          refine (right_from _ s4 hb7).mono ?_
          rintro e w8 ⟨rfl, hb8⟩
          rw [decide_eq_true hPW.out.symm]
          go_wp2
          go_ret
          exact ⟨rfl, below_then HB4.out HB4.out.size hb8⟩
end Go.Proofs.Ytmdbdkeonijfbaa
