/- An argument that is a number of 128 bits. -/
import Derived.Test.YtafjpgkffgmokaaWpure
import Derived.OpenShut
import Derived.ProofKit
import Derived.Lib.SmallJoins
namespace Go.Proofs.Ytafjpgkffgmokaa
open Go.RowKit Go.ChangeShapes Go.WideShapes Go.Joins Go.Deep
set_option linter.unusedVariables false
set_option linter.unusedSimpArgs false
def IsWd (w : World) (v : Value) (a : Wd) : Prop := v = a.val ∧ a.ok
theorem open_isWd {H : Type} {enc : TypeId × Value → H} {P : Program} {W : World} {r : Reach} {b0 : Nat} {t : TypeId} {f0 f1 : Field} {v : Value} {d : DataW H} {ps : List MemPlace}
    (hs : P.underlying t = some (.struct #[f0, f1])) (hone : oneCellFields P #[f0, f1] = true) (hC : P.cellsOf t = 2) (t0 : P.underlying f0.type = some (.int .i64)) (t1 : P.underlying f1.type = some (.int .u64))
    (hval : Value.okWide P W r b0 t v) (hd : DataW.Trod enc P W 0 (fun _ => true) true t v d ps) : ∃ a, IsWd W v a := by
  obtain ⟨v0, v1, y0, y1, n, rfl, _, _, h0, h1⟩ := open_agg2 hs hone hC hval hd
  obtain ⟨x0, e0, _, w0⟩ := DataW.trod_int t0 h0
  obtain ⟨x1, e1, _, w1⟩ := DataW.trod_int t1 h1
  simp only [List.cons.injEq, and_true] at e0 e1
  subst e0 e1
  have k1 := bounds_u64 w1
  exact ⟨⟨x0, x1⟩, rfl, bounds_i64 w0, by simp only; omega⟩
end Go.Proofs.Ytafjpgkffgmokaa
