/- An array of two numbers among the arguments, as a walk is told of it. -/
import Derived.Test.YtglabahbklpocaaGShipPeers1
import Derived.ProofKit
import Derived.OpenShut
namespace Go.Proofs.Ytglabahbklpocaa
section
open Go.ChangeShapes Go.WideShapes Go.ChangeAt Go.RowKit
set_option maxRecDepth 100000
set_option linter.unusedVariables false
set_option linter.unusedSimpArgs false
def IsPair (w : World) (v : Value) (q : Int × Int) : Prop := v = .agg #[.int .i64 q.1, .int .i64 q.2] ∧ (-9223372036854775808 ≤ q.1 ∧ q.1 ≤ 9223372036854775807) ∧ (-9223372036854775808 ≤ q.2 ∧ q.2 ≤ 9223372036854775807)
theorem open_isPair {H : Type} {enc : TypeId × Value → H} {P : Program} {W : World} {r : Reach} {b0 : Nat} {t e : TypeId} {v : Value} {d : DataW H} {ps : List MemPlace}
    (ht : P.underlying t = some (.array 2 e)) (he : P.underlying e = some (.int .i64)) (hc : P.cellsOf e = 1) (hC : P.cellsOf t = 2) (hval : Value.okWide P W r b0 t v) (hd : DataW.Trod enc P W 0 (fun _ => true) true t v d ps) :
    ∃ q, IsPair W v q := by
  simp only [Value.okWide, ht] at hval
  obtain ⟨cs, rfl, hsz, _⟩ := hval
  obtain ⟨fuel, hf⟩ := hd
  obtain ⟨xs, m, _, _, hl, hx, hi⟩ := DataW.trod_array ht hf
  obtain ⟨l⟩ := cs
  match l, hsz.trans hC with
  | [c0, c1], _ =>
    have h0 := hi 0 (by omega)
    have h1 := hi 1 (by omega)
    rw [hc] at h0 h1
    simp [Value.cells] at h0 h1
    match xs, hx with
    | [y0, y1], _ =>
      simp at h0 h1
      obtain ⟨x0, e0, _, w0⟩ := DataW.trod_int he h0
      obtain ⟨x1, e1, _, w1⟩ := DataW.trod_int he h1
      simp only [List.cons.injEq, and_true] at e0 e1
      subst e0 e1
      exact ⟨(x0, x1), rfl, bounds_i64 w0, bounds_i64 w1⟩
end
end Go.Proofs.Ytglabahbklpocaa
