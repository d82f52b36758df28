/- AggFolds: for any points the law answers true. -/
import Derived.Test.YtojnooagifhekaaAawake
import Derived.Test.YtojnooagifhekaaArfold
import Derived.Test.YtojnooagifhekaaOpenA
namespace Go.Proofs.Ytojnooagifhekaa
open Go.RowKit
set_option maxRecDepth 100000
set_option linter.unusedVariables false
set_option linter.unusedSimpArgs false
attribute [local go_sem ↓] Go.wp_at_zero Go.wp_at_succ
set_option maxHeartbeats 4000000 in
theorem folds_any (a0 : Option Addr) (n c : Nat) (xs : List Pt) (w : World) (h : ReadsE Pt.cs 6 w a0 n xs) (hwf : ∀ x ∈ xs, x.wf) (hnc : n ≤ c) (hcb : c ≤ 9223372036854775807) : Calls Try.prog 4 #[.slice a0 n c] w fun e w' => e = .returned (.bool true) ∧ Below w.heap.size w w' := by
  have HFW := fun wx => few_any a0 n c wx hnc hcb
  have ht := h.take (min 40 n) (by omega)
  have htw : ∀ x ∈ xs.take (min 40 n), x.wf := fun x hx => hwf x (List.mem_of_mem_take hx)
  have hok := fold_ok _ htw
  have HE := fun wx => (eq_agg _ _ hok hok wx).1
  rw [decide_eq_true rfl] at HE
  have H := Lib.hid ht
  have H1 := fun wx (hb : Below w.heap.size w wx) => fold_any a0 (min 40 n) c _ wx (H.out.below hb) htw (by omega) hcb
  have H2 := fun wx (hb : Below w.heap.size w wx) => rfold_any a0 (min 40 n) c _ wx (H.out.below hb) htw (by omega) hcb
  generalize foldV (xs.take (min 40 n)) = F at *
  generalize min 40 n = m at *
  unfold Ag.val at H1 H2 HE
  clear h ht htw hok
  go_enter Try.func4, Try.ntmps4
  go_wp2_with fail
  refine (awake_any _).mono ?_
  rintro e w1 ⟨rfl, d1⟩
  go_wp2_with fail
  refine (HFW _).mono ?_
  rintro e w2 ⟨rfl, rfl⟩
  go_wp2_with fail
  refine (H1 _ d1).mono ?_
  rintro e w3 ⟨rfl, d3⟩
  have d3 := below_then d1 d1.size d3
  go_wp2_with fail
  refine (H2 _ d3).mono ?_
  rintro e w4 ⟨rfl, d4⟩
  have d4 := below_then d3 d3.size d4
  go_wp2_with fail
  go_ret
  exact ⟨rfl, d4⟩
theorem folds_row (v1 : Value) (xs : List Pt) (w : World) (h1 : IsEs Pt.cs 6 Pt.wf w v1 xs) :
    Calls Try.prog 4 #[v1] w fun e w' => e = .returned (.bool true) ∧ Below w.heap.size w w' := by
  obtain ⟨a, n, c, rfl, h1, h2, hr, hw⟩ := h1
  exact folds_any a n c xs w hr hw h1 h2
end Go.Proofs.Ytojnooagifhekaa
