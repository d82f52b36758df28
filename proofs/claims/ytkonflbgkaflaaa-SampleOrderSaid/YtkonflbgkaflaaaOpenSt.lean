/- A stamp among the arguments, as a walk is told of it. -/
import Derived.Test.YtkonflbgkaflaaaMstamp
import Derived.ProofKit
import Derived.OpenShut
import Derived.Lib.SmallJoins
namespace Go.Proofs.Ytkonflbgkaflaaa
open Go.ChangeShapes Go.WideShapes Go.ChangeAt Go.RowKit Go.Joins Go.Deep
set_option maxRecDepth 100000
set_option linter.unusedVariables false
set_option linter.unusedSimpArgs false
def St.wf (a : St) : Prop := (-9223372036854775808 ≤ a.clock ∧ a.clock ≤ 9223372036854775807) ∧ (-9223372036854775808 ≤ a.site ∧ a.site ≤ 9223372036854775807) ∧ (-9223372036854775808 ≤ a.seq ∧ a.seq ≤ 9223372036854775807)
def IsSt (w : World) (v : Value) (a : St) : Prop := v = a.val ∧ a.wf
theorem open_isSt {H : Type} {enc : TypeId × Value → H} {P : Program} {W : World} {r : Reach} {b0 : Nat} {t : TypeId} {f0 f1 f2 : Field} {v : Value} {d : DataW H} {ps : List MemPlace}
    (hs : P.underlying t = some (.struct #[f0, f1, f2])) (hone : oneCellFields P #[f0, f1, f2] = true) (hC : P.cellsOf t = 3) (t0 : P.underlying f0.type = some (.int .i64)) (t1 : P.underlying f1.type = some (.int .i64)) (t2 : P.underlying f2.type = some (.int .i64))
    (hval : Value.okWide P W r b0 t v) (hd : DataW.Trod enc P W 0 (fun _ => true) true t v d ps) : ∃ a, IsSt W v a := by
  obtain ⟨v0, v1, v2, y0, y1, y2, n, rfl, _, _, h0, h1, h2⟩ := open_agg3 hs hone hC hval hd
  obtain ⟨x0, e0, _, w0⟩ := DataW.trod_int t0 h0
  obtain ⟨x1, e1, _, w1⟩ := DataW.trod_int t1 h1
  obtain ⟨x2, e2, _, w2⟩ := DataW.trod_int t2 h2
  simp only [List.cons.injEq, and_true] at e0 e1 e2
  subst e0 e1 e2
  exact ⟨⟨x0, x1, x2⟩, rfl, bounds_i64 w0, bounds_i64 w1, bounds_i64 w2⟩
end Go.Proofs.Ytkonflbgkaflaaa
