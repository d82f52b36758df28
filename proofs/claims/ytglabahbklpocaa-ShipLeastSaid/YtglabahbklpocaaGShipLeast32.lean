/- slices.Clone of records; a log in memory. -/
import Derived.Test.YtglabahbklpocaaGShipLeast29
import Derived.Test.YtglabahbklpocaaGShipLeast6
import Derived.Test.YtglabahbklpocaaGShipLeast30
import Derived.Test.YtglabahbklpocaaGShipLeast31
import Derived.Lib.SliceRun
namespace Go.Proofs.Ytglabahbklpocaa
section
open Go.RowKit Go.Deep
set_option maxRecDepth 100000
set_option linter.unusedVariables false
set_option linter.unusedSimpArgs false
attribute [local go_sem ↓] Go.wp_at_zero Go.wp_at_succ
theorem appE_zero {α : Type} {cs : α → List Value} {T : TypeId} {sz : Nat} (w : World) (B : Nat) (hB : B ≤ w.heap.size) : AppE cs T sz (w.alloc (.cells #[] T)) B (some ⟨w.heap.size, 0, none⟩) 0 0 [] :=
  ⟨rfl, Nat.le_refl _, by unfold maxLen; omega, by simp, .inr ⟨w.heap.size, 0, #[], rfl, hB, heap_alloc_new w _, Nat.le_refl _, by unfold maxLen; omega, by simp, by simp⟩⟩
/-- Appending any elements to a slice of one's own, given their cells. -/
theorem wpList_append_A {α : Type} {cs : α → List Value} {S T : TypeId} {sz by_ : Nat} {z : Value} (E : Ety cs S T sz by_ z) {ops : Array Oper} {rest : List Oper} {o : Oper} {act : Act} {Q : Exit → Act → World → Prop} (hgd : o.guard = none) (s x : Operand)
    (ho : o.op = .call { callee := .builtin .append, args := #[s, x], argTypes := #[S, S] }) (w : World) (B : Nat) (a : Option Addr) (n cap : Nat) (l : List α) (hs : act.eval s = .slice a n cap) (h : AppE cs T sz w B a n cap l) (hB : B ≤ w.heap.size)
    (g : Addr) (m c : Nat) (ys : List α) (hn : n + m ≤ 100000) (hm : ys.length = m) (hx : act.eval x = .slice (some g) m c) (hy : ∀ j u, (ys.flatMap cs)[j]? = some u → w.cell? (g.add j) = some u)
    (hK : ∀ a' cap' w', AppE cs T sz w' B a' (n + m) cap' (l ++ ys) → Below B w w' → wpList Try.prog ops Q rest (act.put o.dst (.slice a' (n + m) cap')) w') : wpList Try.prog ops Q (o :: rest) act w := by
  refine wpList_plain hgd fun K hK' => ?_
  obtain ⟨i, hi, hii⟩ := Option.map_eq_some_iff.1 E.info
  simp only [Prod.mk.injEq] at hii
  obtain ⟨hz, hsize, hby⟩ := hii
  obtain ⟨v', w', hr, hown, hg, hnil⟩ := run_append_own (P := Try.prog) w B S o.type T i z sz by_ E.hS hi hz hsize hby E.hz E.pos _ n _ h.row g m c (ys.flatMap cs) (by rw [flat_len E.len, hm]) hy (by
    intro u hu
    obtain ⟨x, _, hx⟩ := List.mem_flatMap.1 hu
    exact E.one x u hx) (by unfold maxLen; omega) (by
      have := E.bmax
      have : (n + m) * by_ ≤ 100000 * 1000 := Nat.mul_le_mul hn this
      omega) hB
  have hform : ∃ a' cap', v' = .slice a' (n + m) cap' ∧ n + m ≤ cap' ∧ cap' ≤ maxLen := by
    rcases hown.2 with ⟨rfl, e⟩ | ⟨g', c', cur, rfl, _, _, h3, h4, _⟩
    · exact ⟨none, 0, by rw [e], by omega, by unfold maxLen; omega⟩
    · exact ⟨_, c', rfl, h3, h4⟩
  obtain ⟨a', cap', rfl, hc1, hc2⟩ := hform
  unfold Oper.wp
  simp [execOp, ho, resolve, invoke, builtin, hs, hx, hr, Result.andThen]
  exact hK' _ _ (hK a' cap' w' ⟨by rw [List.length_append, h.len, hm], hc1, hc2, by rw [List.flatMap_append]; exact hown⟩ ((Below.refl B w).grown hg hB fun k hk => (h.row.lt k hk).1))
end
end Go.Proofs.Ytglabahbklpocaa
