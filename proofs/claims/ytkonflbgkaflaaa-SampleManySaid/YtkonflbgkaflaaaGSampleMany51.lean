/- SampleMany: for any number the law answers true. -/
import Derived.Test.YtkonflbgkaflaaaGSampleMany35
import Derived.Test.YtkonflbgkaflaaaGSampleMany47
import Derived.Test.YtkonflbgkaflaaaGSampleMany50
namespace Go.Proofs.Ytkonflbgkaflaaa
section
open Go.RowKit Go.Deep
set_option maxRecDepth 100000
set_option linter.unusedVariables false
set_option linter.unusedSimpArgs false
attribute [local go_sem ↓] Go.wp_at_zero Go.wp_at_succ
theorem ptsV_ok {L : List Pt} (h : okPts L) (hn : L.length ≤ 1000) : ptsV L = (⟨(ptsL L).toArray⟩, 0) := by unfold ptsV; rw [if_pos h, if_pos hn]
def mkP (i : Nat) : Pt := ⟨⟨#[97]⟩, i, 0, ⟨1, 0, 1⟩⟩
def mkL (n : Nat) : List Pt := (List.range n).map mkP
theorem mkL_len (n : Nat) : (mkL n).length = n := by simp [mkL]
theorem mkL_succ (n : Nat) : mkL (n + 1) = mkL n ++ [mkP n] := by simp [mkL, List.range_succ]
theorem mkP_name : nameV ⟨#[97]⟩ = true := nameV_true (by unfold nameP okC; decide)
theorem mkL_ok {n : Nat} (hn : n ≤ 2000) : okPts (mkL n) := by
  intro p hp
  simp only [mkL, List.mem_map, List.mem_range] at hp
  obtain ⟨i, hi, rfl⟩ := hp
  unfold chkP
  have hc : clockV (mkP i).time = true := by
    unfold clockV mkP
    simp
    omega
  rw [if_pos ⟨mkP_name, hc⟩]
  show chkV ⟨1, 0, 1⟩ = 0
  decide +kernel
theorem mkL_wf {n : Nat} (hn : n ≤ 2000) : ∀ p ∈ mkL n, p.wf := by
  intro p hp
  simp only [mkL, List.mem_map, List.mem_range] at hp
  obtain ⟨i, hi, rfl⟩ := hp
  have c0 : i64 0 := ⟨by decide, by decide⟩
  have c1 : i64 1 := ⟨by decide, by decide⟩
  refine ⟨by simp [mkP, maxLen, ByteArray.size], ?_, c0, c1, c0, c1⟩
  unfold i64 mkP
  simp only
  omega
set_option maxHeartbeats 8000000 in
theorem smany_any (n : Int) (w : World) (h0 : -9223372036854775808 ≤ n) (h1 : n ≤ 9223372036854775807) : Calls Try.prog 6 #[.int .i64 n] w fun e w' => e = .returned (.bool true) ∧ Below w.heap.size w w' := by
  have a1 := Int.tmod_lt_of_pos n (show (0 : Int) < 21 by decide)
  have a2 := Int.lt_tmod_of_pos n (show (0 : Int) < 21 by decide)
  clear h0 h1
  go_enter Try.func6, Try.ntmps6
  go_wp2_with fail
  refine (sawake_any _).mono ?_
  rintro e w1 ⟨rfl, d1⟩
  have hz1 := d1.size
  go_upto_region 3 with fail
  generalize n.tmod 21 = q at *
  go_upto_if 15 with fail
  go_cut [4, 15] (fun v _ wx => (∃ k : Nat, k ≤ 20 ∧ v = .int .i64 k) ∧ wx = w1)
  case first =>
    by_cases hneg : q < 0
    · have t3 : decide (q < 0) = true := decide_eq_true hneg
      have hw : wrap64 (-q) = -q := IntWalk.wrap64_in _ ⟨by omega, by omega⟩
      go_wp2_with fail
      go_meet
      exact ⟨⟨(-q).toNat, by omega, by rw [show (((-q).toNat : Nat) : Int) = -q by omega]⟩, rfl⟩
    · have t3 : decide (q < 0) = false := decide_eq_false hneg
      go_wp2_with fail
      go_meet
      exact ⟨⟨q.toNat, by omega, by rw [show ((q.toNat : Nat) : Int) = q by omega]⟩, rfl⟩
  case rest =>
    obtain ⟨⟨k, hk, rfl⟩, rfl⟩ := hcut
    clear a1 a2
    have hN : 990 + k ≤ 2000 := by omega
    obtain ⟨N, hNk⟩ : ∃ N, Hid (990 + k = N) := ⟨_, rfl⟩
    have hNN : N ≤ 1010 ∧ 990 ≤ N := by have := hNk.out; omega
    have hNI : (990 : Int) + (k : Int) = (N : Int) := by have := hNk.out; omega
    have HOK := mkL_ok (n := N) (by omega)
    have HWF := Lib.hid (mkL_wf (n := N) (by omega))
    clear hN
    go_wp2_with fail
    go_loopw [5, 6] (fun out i wr => ∃ (j cap : Nat) (a2 : Option Addr), j ≤ N ∧ i = .int .i64 j ∧ out = .slice a2 j cap ∧ AppE Pt.cs 34 6 wr wc.heap.size a2 j cap (mkL j) ∧ Below wc.heap.size wc wr) (fun _ i _ => N + 1 - (intOf i).toNat)
    case atStart => exact ⟨0, 0, none, by omega, rfl, rfl, appE_nil _ _, Below.refl _ _⟩
    case round =>
      obtain ⟨j, cap, a2, hj, rfl, rfl, hA, hB⟩ := hrel
      have HA := Lib.hid hA
      have hzz := hB.size
      clear hA
      by_cases hlt : j < N
      · have t1 : decide ((j : Int) < 990 + (k : Int)) = true := decide_eq_true (by omega)
        have HN := Lib.hid (mkL_succ j)
        go_wp2_with (at_builtin; refine wpList_append_E pt_ety rfl _ _ rfl _ wc.heap.size a2 j cap (mkL j) rfl (HA.out.below ?q1) ?q2 ?q3 wr.heap.size 1 (mkP j) rfl ?q4 ?q5)
        case q1 => exact (Below.refl _ _).alloc (Nat.le_refl _) _
        case q2 => simp; omega
        case q3 => omega
        case q4 =>
          intro i u hi
          rw [Nat.zero_add, World.cell?_alloc_new]
          show (mkP j).cs.toArray[i]? = some u
          simpa using hi
        case q5 =>
          intro a3 cap3 w5 hA5 hb5
          have FIN := Lib.hid (And.intro hA5 (hB.trans (((Below.refl wc.heap.size wr).alloc (by omega) _).trans hb5)))
          clear hA5 hb5
          go_wp2_with fail
          go_roundw
          case rel => exact ⟨j + 1, cap3, a3, by omega, by go_num, rfl, by rw [HN.out]; exact FIN.out.1, FIN.out.2⟩
          case measure => simp [intOf]; omega
      · obtain rfl : j = N := by omega
        have t1 : decide ((j : Int) < 990 + (k : Int)) = false := decide_eq_false (by omega)
        have hR := (AppE.reads pt_len (by decide) HA.out).1
        have hcap : j ≤ cap := HA.out.le
        have hmax : cap ≤ 9223372036854775807 := maxLen_i HA.out.max
        have P1 := points_any a2 j cap _ _ hR HWF.out hcap hmax
        have hzw : w.heap.size ≤ wr.heap.size := by omega
        have hBB := d1.trans (hB.mono hz1)
        have HR := Lib.hid hR
        clear HA hB hR
        by_cases hk10 : k ≤ 10
        · rw [ptsV_ok HOK (by rw [mkL_len]; have := hNk.out; omega)] at P1
          have t2 : decide (10 < (k : Int)) = false := decide_eq_false (by omega)
          have R1 := fun wx => readpts_any ⟨(ptsL (mkL j)).toArray⟩ wx (by rw [ba_size]; have := ptsL_le HOK; rw [mkL_len] at this; omega)
          rw [read_pts HOK HWF.out (by rw [mkL_len]; have := hNk.out; omega)] at R1
          generalize (⟨(ptsL (mkL j)).toArray⟩ : ByteArray) = S at *
          simp only at R1 P1
          have hj1 : 990 ≤ j := by omega
          clear HOK hNI hNk
          go_wp2_with fail
          refine P1.mono ?_
          rintro e w2 ⟨rfl, d2⟩
          have HR := Lib.hid (HR.out.below d2)
          have hBB := below_then hBB hzw d2
          go_wp2_with fail
          refine (R1 _).mono ?_
          rintro e w3 ⟨a3, n3, c3, rfl, hL3, hn3, hc3, d3⟩
          have HR := Lib.hid (HR.out.below d3)
          have hBB := below_then hBB hBB.size d3
          have hn33 : n3 = j := by have := hL3.1; rw [mkL_len] at this; exact this.symm
          subst hn33
          obtain ⟨z, rfl⟩ : ∃ z, n3 = z + 1 := ⟨n3 - 1, by omega⟩
          obtain ⟨b, o, x, rfl, _, hx, hC⟩ := HR.out.at (Below.refl _ _) z (by omega)
          obtain ⟨b', o', y, rfl, _, hy, hD⟩ := hL3.at (Below.refl _ _) z (by omega)
          rw [hx] at hy
          obtain rfl : x = y := Option.some.inj hy
          have hxw := HWF.out x (List.mem_of_getElem? hx)
          have NE0 := fun wx => (eq_pt x x hxw hxw wx).1
          simp only [decide_true] at NE0
          unfold Pt.val at NE0
          obtain ⟨a0, a1, a2, a3, a4, a5⟩ := pt_cells hC
          obtain ⟨b0, b1, b2, b3, b4, b5⟩ := pt_cells hD
          have i1 : (0 : Int) ≤ (z : Int) := by omega
          have i2 : (z : Int) < (z : Int) + 1 := by omega
          have e5 : ((z : Int) + 1 == (z : Int) + 1) = true := beq_self_eq_true _
          clear hC hD hx hy R1 P1 d2 d3 hL3 HR
          go_wp2_with (go_quiet (fail))
          go_ret
          exact ⟨rfl, below_same hBB rfl rfl rfl rfl⟩
        · have t2 : decide (10 < (k : Int)) = true := decide_eq_true (by omega)
          rw [show ptsV (mkL j) = (⟨#[]⟩, 11) by unfold ptsV; rw [if_pos HOK, if_neg (by rw [mkL_len]; have := hNk.out; omega)]] at P1
          simp only at P1
          clear HOK hNI hNk
          go_wp2_with fail
          refine P1.mono ?_
          rintro e w2 ⟨rfl, d2⟩
          have hBB := below_then hBB hzw d2
          go_wp2_with fail
          go_ret
          exact ⟨rfl, hBB⟩
end
end Go.Proofs.Ytkonflbgkaflaaa
