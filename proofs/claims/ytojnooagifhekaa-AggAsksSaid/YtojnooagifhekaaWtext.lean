/- wide.Text: a number as digits. -/
import Derived.Test.YtojnooagifhekaaWadd
import Derived.Test.YtojnooagifhekaaDiv
import Derived.Test.YtojnooagifhekaaTpure
namespace Go.Proofs.Ytojnooagifhekaa
open Go.RowKit
set_option maxRecDepth 100000
set_option linter.unusedVariables false
set_option linter.unusedSimpArgs false
theorem rep_set (p : Nat) (D : List Int) (x : Int) : (List.replicate (p + 1) (0 : Int) ++ D).set p x = List.replicate p 0 ++ x :: D := by
  rw [List.replicate_succ', List.append_assoc, List.set_append_right _ _ (by simp)]
  simp
theorem zeros40 : cellsK .u8 (List.replicate 40 0) = #[.int .u8 0, .int .u8 0, .int .u8 0, .int .u8 0, .int .u8 0, .int .u8 0, .int .u8 0, .int .u8 0, .int .u8 0, .int .u8 0, .int .u8 0, .int .u8 0, .int .u8 0, .int .u8 0, .int .u8 0, .int .u8 0, .int .u8 0, .int .u8 0, .int .u8 0, .int .u8 0, .int .u8 0, .int .u8 0, .int .u8 0, .int .u8 0, .int .u8 0, .int .u8 0, .int .u8 0, .int .u8 0, .int .u8 0, .int .u8 0, .int .u8 0, .int .u8 0, .int .u8 0, .int .u8 0, .int .u8 0, .int .u8 0, .int .u8 0, .int .u8 0, .int .u8 0, .int .u8 0] := rfl
theorem forty : cellsK .i64 [40] = #[.int .i64 40] := rfl
theorem n39 (N : Int) (h0 : 0 ≤ N) (h1 : N ≤ 170141183460469231731687303715884105728) : N / 10 ^ 39 = 0 := Int.ediv_eq_zero_of_lt h0 (by simp; omega)
end Go.Proofs.Ytojnooagifhekaa
