/- ShipMany: for any number the law answers true. -/
import Derived.Test.YtglabahbklpocaaGShipMany35
import Derived.Test.YtglabahbklpocaaGShipMany50
namespace Go.Proofs.Ytglabahbklpocaa
section
open Go.RowKit Go.Deep
set_option maxRecDepth 100000
set_option linter.unusedVariables false
set_option linter.unusedSimpArgs false
attribute [local go_sem ↓] Go.wp_at_zero Go.wp_at_succ
set_option maxHeartbeats 16000000 in
theorem hmany_any (n : Int) (w : World) (h0 : -9223372036854775808 ≤ n) (h1 : n ≤ 9223372036854775807) : Calls Try.prog 7 #[.int .i64 n] w fun e w' => e = .returned (.bool true) ∧ Below w.heap.size w w' := by
  have a1 := Int.tmod_lt_of_pos n (show (0 : Int) < 21 by decide)
  have a2 := Int.lt_tmod_of_pos n (show (0 : Int) < 21 by decide)
  clear h0 h1
  go_enter Try.func7, Try.ntmps7
  go_upto_region 2 with (go_at_call 8; refine (hawake_any _).mono ?_; rintro e w1 ⟨rfl, d1⟩)
  have hz1 := d1.size
  go_upto_region 3 with fail
  generalize n.tmod 21 = q at *
  go_upto_if 15 with fail
  go_cut [4, 15] (fun v _ wx => (∃ k : Nat, k ≤ 20 ∧ v = .int .i64 k) ∧ wx = w1)
  case first =>
    by_cases hneg : q < 0
    · have t3 : decide (q < 0) = true := decide_eq_true hneg
      have hw : wrap64 (-q) = -q := IntWalk.wrap64_in _ ⟨by omega, by omega⟩
      go_wp2_with fail
      go_meet
      exact ⟨⟨(-q).toNat, by omega, by rw [show (((-q).toNat : Nat) : Int) = -q by omega]⟩, rfl⟩
    · have t3 : decide (q < 0) = false := decide_eq_false hneg
      go_wp2_with fail
      go_meet
      exact ⟨⟨q.toNat, by omega, by rw [show ((q.toNat : Nat) : Int) = q by omega]⟩, rfl⟩
  case rest =>
    obtain ⟨⟨k, hk, rfl⟩, rfl⟩ := hcut
    clear a1 a2
    have hN : 190 + k ≤ 2000 := by omega
    obtain ⟨N, hNk⟩ : ∃ N, Hid (190 + k = N) := ⟨_, rfl⟩
    have hNN : N ≤ 210 ∧ 190 ≤ N := by have := hNk.out; omega
    have hNI : (190 : Int) + (k : Int) = (N : Int) := by have := hNk.out; omega
    have HOK := Lib.hid (mkL_ok (n := N) (by omega))
    have HWF := Lib.hid (mkL_wf (n := N) (by omega))
    clear hN
    go_upto_region 6 with (refine wpList_store_row rfl 53 _ _ rfl _ (Wi.arr ⟨1, 1, ⟨#[]⟩, 0, 0, Sl0, Sl0, Sl0, 0⟩) rfl rfl 53 _ (heap_alloc_new _ _) (by kernel_rfl) rfl (wi_one _) ?_; rw [World.setRow_alloc_new])
    try simp only [Act.put, List.setIfInBounds_toArray, List.set_cons_zero, List.set_cons_succ]
    generalize hwq : World.alloc _ _ = wq
    have KK := Lib.hid (show Kn wc.heap.size wc [(wc.heap.size, wiO ⟨1, 1, ⟨#[]⟩, 0, 0, Sl0, Sl0, Sl0, 0⟩)] wq by rw [← hwq]; exact (Kn.start wc).new' rfl (wiO ⟨1, 1, ⟨#[]⟩, 0, 0, Sl0, Sl0, Sl0, 0⟩))
    have hqs : wq.heap.size = wc.heap.size + 1 := by rw [← hwq]; simp
    clear hwq
    obtain ⟨g, hg⟩ : ∃ g, wc.heap.size = g := ⟨_, rfl⟩
    rw [hg] at KK hqs ⊢
    go_wp2_with fail
    go_loopw [6] (fun i wr => ∃ (j cap : Nat) (a2 : Option Addr), j ≤ N ∧ i = .int .i64 j ∧ AppE Pt.cs 60 6 wr (g + 1) a2 j cap (mkL j) ∧ Kn g wc [(g, wiO ⟨1, 1, ⟨#[]⟩, 0, 0, ⟨a2, j, cap⟩, Sl0, Sl0, 0⟩)] wr ∧ g + 1 ≤ wr.heap.size) (fun i _ => N + 1 - (intOf i).toNat)
    case atStart => exact ⟨0, 0, none, by omega, rfl, appE_nil _ _, KK.out, by omega⟩
    case round =>
      obtain ⟨j, cap, a2, hj, rfl, hA, hB, hzz⟩ := hrel
      clear KK
      have HA := Lib.hid hA
      have KK := Lib.hid hB
      clear hA hB
      by_cases hlt : j < N
      · have t1 : decide ((j : Int) < 190 + (k : Int)) = true := decide_eq_true (by omega)
        have HN := Lib.hid (mkL_succ j)
        have c5 := KK.out.cell (g := g) (o := wiO ⟨1, 1, ⟨#[]⟩, 0, 0, ⟨a2, j, cap⟩, Sl0, Sl0, 0⟩) (by simp) (j := 5) (v := .slice a2 j cap) rfl
        go_wp2_with (at_builtin; refine wpList_append_E pt_ety rfl _ _ rfl _ (g + 1) a2 j cap (mkL j) rfl (HA.out.below ?q1) ?q2 ?q3 wr.heap.size 1 (mkP j) rfl ?q4 ?q5)
        case q1 => exact (Below.refl _ _).alloc (Nat.le_refl _) _
        case q2 => simp; omega
        case q3 => omega
        case q4 =>
          intro i u hi
          rw [Nat.zero_add, World.cell?_alloc_new]
          show (mkP j).cs.toArray[i]? = some u
          simpa using hi
        case q5 =>
          intro a3 cap3 w5 hA5 hb5
          have KK := Lib.hid (Kn.belowB (KK.out.new _).tl hb5 (by omega) (by simp))
          have HA := Lib.hid hA5
          have hz5 := hb5.size
          clear hA5 hb5 c5
          have c5 := KK.out.cell (g := g) (o := wiO ⟨1, 1, ⟨#[]⟩, 0, 0, ⟨a2, j, cap⟩, Sl0, Sl0, 0⟩) (by simp) (j := 5) (v := .slice a2 j cap) rfl
          have f5 := KK.out.fz (g := g) (o := wiO ⟨1, 1, ⟨#[]⟩, 0, 0, ⟨a2, j, cap⟩, Sl0, Sl0, 0⟩) (by simp) 5
          go_wp2_with fail
          go_roundw
          case rel => exact ⟨j + 1, cap3, a3, by omega, by go_num, by rw [HN.out]; exact HA.out.but (But.set g 5 _ _) (by omega), Kn.setCell KK.out trivial (by omega) 5 _ (wiO ⟨1, 1, ⟨#[]⟩, 0, 0, ⟨a3, j + 1, cap3⟩, Sl0, Sl0, 0⟩) (cs := Wi.arr ⟨1, 1, ⟨#[]⟩, 0, 0, ⟨a2, j, cap⟩, Sl0, Sl0, 0⟩) rfl, by simp [World.setCell] at hz5 ⊢; omega⟩
          case measure => simp [intOf]; omega
      · obtain rfl : j = N := by omega
        have t1 : decide ((j : Int) < 190 + (k : Int)) = false := decide_eq_false (by omega)
        go_upto_region 10 with fail
        have hR := (AppE.reads pt_len (by decide) HA.out).1
        have hcap : j ≤ cap := HA.out.le
        have hmax : cap ≤ 9223372036854775807 := maxLen_i HA.out.max
        have SP := Lib.hid (show SlP wr ⟨a2, j, cap⟩ (mkL j) from ⟨hR, HWF.out, hcap, hmax⟩)
        have z : i64' 0 := ⟨by decide, by decide⟩
        have HB := Lib.hid d1
        clear hR HA
        by_cases hk10 : k ≤ 10
        · have hj2 : j ≤ 200 := by have := hNk.out; omega
          have B1 := fun wx hp => bytes1_any ⟨1, 1, ⟨#[]⟩, 0, 0, ⟨a2, j, cap⟩, Sl0, Sl0, 0⟩ (mkL j) wx rfl z z hp (show idV 1 = true by decide) (wi1_none 1 _) hj2 HOK.out
          have GB := gd1_bytes 1 ⟨by decide, by decide⟩ HOK.out HWF.out (by rw [mkL_len]; exact hj2)
          simp only at B1
          generalize vput 1 ++ vput 1 ++ vtext ⟨(ptsL (mkL j)).toArray⟩ = S at *
          have R1 : ∀ wx, Calls Try.prog 29 #[.string S] wx fun e w' => ∃ a c, e = .returned (.tuple #[.agg (Wi.arr ⟨1, 1, ⟨#[]⟩, 0, 0, ⟨a, j, c⟩, Sl0, Sl0, 0⟩), .int .i64 0]) ∧ Below wx.heap.size wx w' := fun wx =>
            (hread1_any S wx (by omega) GB.2.1).mono fun e w' ⟨x, E, h1, h2, h3⟩ => by
              rcases h3 with ⟨_, rfl, ⟨da, dn, dc⟩, rfl, h4⟩ | ⟨h4, _⟩
              · rw [GB.2.2.2.1] at h4
                have hn : dn = j := by have := h4.r.1; rw [mkL_len] at this; exact this.symm
                subst hn
                rw [GB.2.2.2.2] at h1
                exact ⟨da, dc, h1, h2⟩
              · exact absurd GB.2.2.1 h4
          have t2 : decide (10 < (k : Int)) = false := decide_eq_false (by omega)
          have t3 : decide ((k : Int) ≤ 10) = true := decide_eq_true (by omega)
          clear GB HOK HWF
          go_upto_region 12 with (first
            | refine wpList_load_row rfl 53 _ rfl g rfl 53 (Wi.arr ⟨1, 1, ⟨#[]⟩, 0, 0, ⟨a2, j, cap⟩, Sl0, Sl0, 0⟩) (0, 0) _ KK.out.hd Try.underlying53 rfl (by kernel_rfl) ?_
            | (go_at_call 28; refine (B1 _ SP.out).mono ?_; rintro e w6 ⟨rfl, dn⟩; have KK := Lib.hid (KK.out.below dn); clear dn)
            | (go_at_call 29; refine (R1 _).mono ?_; rintro e w7 ⟨xa, xc, rfl, dn⟩; have KK := Lib.hid (KK.out.below dn); clear dn)
            | (refine wpList_store_row rfl 53 _ _ rfl _ (Wi.arr ⟨1, 1, ⟨#[]⟩, 0, 0, ⟨xa, j, xc⟩, Sl0, Sl0, 0⟩) rfl rfl 53 _ (heap_alloc_new _ _) (by kernel_rfl) rfl (wi_one _) ?_; rw [World.setRow_alloc_new]))
          try simp only [Act.put, List.setIfInBounds_toArray, List.set_cons_zero, List.set_cons_succ]
          generalize hwq : World.alloc _ _ = w8
          have KK := Lib.hid (show Kn g wc [(w7.heap.size, wiO ⟨1, 1, ⟨#[]⟩, 0, 0, ⟨xa, j, xc⟩, Sl0, Sl0, 0⟩)] w8 by rw [← hwq]; exact (KK.out.new' rfl (wiO ⟨1, 1, ⟨#[]⟩, 0, 0, ⟨xa, j, xc⟩, Sl0, Sl0, 0⟩)).sub (by simp))
          clear hwq
          have c5 := KK.out.cell (g := w7.heap.size) (o := wiO ⟨1, 1, ⟨#[]⟩, 0, 0, ⟨xa, j, xc⟩, Sl0, Sl0, 0⟩) (by simp) (j := 5) (v := .slice xa j xc) rfl
          have t4 : ((j : Int) == 190 + (k : Int)) = true := by rw [hNI]; exact beq_self_eq_true _
          go_wp2_with fail
          go_ret
          exact ⟨rfl, below_then HB.out HB.out.size (by rw [hg]; exact KK.out.b)⟩
        · have hj2 : ¬ j ≤ 200 := by have := hNk.out; omega
          have B1 := fun wx (hp : SlP wx ⟨a2, j, cap⟩ (mkL j)) => bytesE_any ⟨1, 1, ⟨#[]⟩, 0, 0, ⟨a2, j, cap⟩, Sl0, Sl0, 0⟩ wx (fun wy hb => by
            have C := check1_any ⟨1, 1, ⟨#[]⟩, 0, 0, ⟨a2, j, cap⟩, Sl0, Sl0, 0⟩ (mkL j) wy rfl z z (hp.below hb)
            rw [if_neg (fun hh => hj2 (by have h1 := hh.2.1; simp only [decide_eq_true_eq] at h1; omega))] at C
            exact C)
          have R1 := fun wx => hread0_any ⟨#[]⟩ wx (by decide) small_empty
          have t2 : decide (10 < (k : Int)) = true := decide_eq_true (by omega)
          have t3 : decide ((k : Int) ≤ 10) = false := decide_eq_false (by omega)
          clear HOK HWF
          go_upto_region 12 with (first
            | refine wpList_load_row rfl 53 _ rfl g rfl 53 (Wi.arr ⟨1, 1, ⟨#[]⟩, 0, 0, ⟨a2, j, cap⟩, Sl0, Sl0, 0⟩) (0, 0) _ KK.out.hd Try.underlying53 rfl (by kernel_rfl) ?_
            | (go_at_call 28; refine (B1 _ SP.out).mono ?_; rintro e w6 ⟨rfl, dn⟩; have KK := Lib.hid (KK.out.below dn); clear dn)
            | (go_at_call 29; refine (R1 _).mono ?_; rintro e w7 ⟨rfl, dn⟩; have KK := Lib.hid (KK.out.below dn); clear dn)
            | (refine wpList_store_row rfl 53 _ _ rfl _ Wi0.arr rfl rfl 53 _ (heap_alloc_new _ _) (by kernel_rfl) rfl (wi_one _) ?_; rw [World.setRow_alloc_new]))
          try simp only [Act.put, List.setIfInBounds_toArray, List.set_cons_zero, List.set_cons_succ]
          generalize hwq : World.alloc _ _ = w8
          have KK := Lib.hid (show Kn g wc [(w7.heap.size, wiO Wi0)] w8 by rw [← hwq]; exact (KK.out.new' rfl (wiO Wi0)).sub (by simp))
          clear hwq
          go_wp2_with fail
          go_ret
          exact ⟨rfl, below_then HB.out HB.out.size (by rw [hg]; exact KK.out.b)⟩
theorem hmany_row (n : Int) (w : World) (h0 : -9223372036854775808 ≤ n) (h1 : n ≤ 9223372036854775807) : Calls Try.prog 7 #[.int .i64 n] w fun e w' => e = .returned (.bool true) ∧ Below w.heap.size w w' := hmany_any n w h0 h1
end
end Go.Proofs.Ytglabahbklpocaa
