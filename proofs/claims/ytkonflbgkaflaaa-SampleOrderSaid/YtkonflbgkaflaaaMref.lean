/- The reference's Plain, Right, At. -/
import Derived.Test.YtkonflbgkaflaaaMrvec
namespace Go.Proofs.Ytkonflbgkaflaaa
open Go.RowKit
set_option maxRecDepth 100000
set_option linter.unusedVariables false
set_option linter.unusedSimpArgs false
theorem rplain_any (a : Option Addr) (n c : Nat) (xs : List Int) (w : World) (h : ReadsI .i64 w a n xs) (hnc : n ≤ c) (hcb : c ≤ 9223372036854775807) :
    Calls Try.prog 79 #[.slice a n c] w fun e w' => ∃ a' cap', e = .returned (.slice a' (pl xs).length cap') ∧ (pl xs).length ≤ cap' ∧ cap' ≤ 9223372036854775807 ∧ VecAt w' w.heap.size a' (pl xs) ∧ Below w.heap.size w w' := by
  go_enter Try.func79, Try.ntmps79
  go_wp2_with fail
  refine (rall_any a n c xs w h hnc hcb).mono ?_
  rintro e w1 ⟨rfl, hb⟩
  go_wp2_with fail
  refine (rvec_any (nm xs) _ (fun i => (nm_range xs i).1)).mono ?_
  rintro e w2 ⟨a', cap', rfl, hl, hm, hv, hb2⟩
  go_wp2
  go_ret
  exact ⟨a', cap', rfl, hl, hm, hv.mono hb.size, below_then hb hb.size hb2⟩
theorem rright_any (a : Option Addr) (n c : Nat) (xs : List Int) (w : World) (h : ReadsI .i64 w a n xs) (hnc : n ≤ c) (hcb : c ≤ 9223372036854775807) :
    Calls Try.prog 50 #[.slice a n c] w fun e w' => e = .returned (.bool (decide (xs = pl xs))) ∧ Below w.heap.size w w' := by
  go_enter Try.func50, Try.ntmps50
  go_wp2_with fail
  refine (rplain_any a n c xs w h hnc hcb).mono ?_
  rintro e w1 ⟨a', cap', rfl, hl, hm, hv, hb⟩
  go_wp2_with fail
  refine (same_any a a' n c _ cap' xs (pl xs) _ (h.below hb) hv.reads hnc hcb hl hm).mono ?_
  rintro e w2 ⟨rfl, hb2⟩
  go_wp2
  go_ret
  exact ⟨rfl, below_then hb hb.size hb2⟩
theorem run_index_arr {P : Program} {T E n : Nat} (hT : P.underlying T = some (.array n E)) (hs : ∀ w, (sizeOf E).run P w = .ok 1 w) (ha : ∀ w, (isAgg E).run P w = .ok false w) (cells : Array Value) (k : Nat) (v : Value) (hk : k < n) (hc : cells[k]? = some v) :
    ∀ w : World, (Instr.index T (.agg cells) (.int .i64 k)).run P w = .ok v w := by
  intro w
  have h1 : (0 : Int) ≤ (k : Int) ∧ (k : Int) < (n : Int) := by omega
  simp [Instr.index, run_underlying hT, asIntOf, h1, hs, ha, part, hc, go_sem]
  omega
theorem rat_any (a : Option Addr) (n c : Nat) (xs : List Int) (site : Int) (w : World) (h : ReadsI .i64 w a n xs) (hnc : n ≤ c) (hcb : c ≤ 9223372036854775807) :
    Calls Try.prog 52 #[.slice a n c, .int .i64 site] w fun e w' => e = .returned (.int .i64 (atV xs site)) ∧ Below w.heap.size w w' := by
  obtain ⟨V, HV⟩ : ∃ V, Hid (V = atV xs site) := ⟨_, rfl⟩
  rw [← HV.out]
  unfold atV at HV
  by_cases h0 : site < 0
  · have t1 : decide (site < 0) = true := decide_eq_true h0
    rw [if_neg (by omega)] at HV
    go_enter Try.func52, Try.ntmps52
    go_wp2_with fail
    go_ret
    exact ⟨by rw [HV.out]; rfl, Below.refl _ _⟩
  · have t1 : decide (site < 0) = false := decide_eq_false h0
    by_cases h7 : 7 < site
    · have t2 : decide (7 < site) = true := decide_eq_true h7
      rw [if_neg (by omega)] at HV
      go_enter Try.func52, Try.ntmps52
      go_wp2_with fail
      go_ret
      exact ⟨by rw [HV.out]; rfl, Below.refl _ _⟩
    · have t2 : decide (7 < site) = false := decide_eq_false h7
      rw [if_pos (by omega)] at HV
      obtain ⟨k, rfl⟩ : ∃ k : Nat, site = k := ⟨site.toNat, by omega⟩
      rw [Int.toNat_natCast] at HV
      have hk : k < 8 := by omega
      have hel : (arrI (upto (nm xs) 8))[k]? = some (.int .i64 (nm xs k)) := by
        rw [arrI_get _ _ (by rw [upto_length]; exact hk), upto_eight, List.getD_eq_getElem?_getD]
        simp [hk]
      have HA8 : Hid (arr8 (nm xs) = .agg (arrI (upto (nm xs) 8))) := rfl
      have hsz : (arrI (upto (nm xs) 8)).size = 8 := by rw [arrI_size, upto_length]
      have hix := run_index_arr (P := Try.prog) Try.underlying97 Try.sizeOf3 Try.isAgg3 _ k _ hk hel
      go_enter Try.func52, Try.ntmps52
      go_wp2_with fail
      refine (rall_any a n c xs w h hnc hcb).mono ?_
      rintro e w1 ⟨rfl, hb⟩
      rw [HA8.out]
      generalize arrI (upto (nm xs) 8) = cells at *
      go_wp2_with fail
      go_ret
      exact ⟨by rw [HV.out]; rfl, hb⟩
end Go.Proofs.Ytkonflbgkaflaaa
