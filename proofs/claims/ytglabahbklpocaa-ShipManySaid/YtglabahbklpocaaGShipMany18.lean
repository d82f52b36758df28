/- A slice of whole numbers among the arguments, as a walk is told of it. -/
import Derived.Test.YtglabahbklpocaaGShipMany1
import Derived.ProofKit
import Derived.OpenShut
namespace Go.Proofs.Ytglabahbklpocaa
section
open Go.ChangeShapes Go.WideShapes Go.ChangeAt Go.RowKit
set_option maxRecDepth 100000
set_option linter.unusedVariables false
set_option linter.unusedSimpArgs false
def IsInts (k : IntKind) (w : World) (v : Value) (xs : List Int) : Prop :=
  ∃ a n c, v = .slice a n c ∧ n ≤ c ∧ c ≤ 9223372036854775807 ∧ ReadsI k w a n xs ∧ ∀ x ∈ xs, (Lit.int k x).wf = true
theorem open_isInts {H : Type} {enc : TypeId × Value → H} {P : Program} {W : World} {r : Reach} {b0 : Nat} {t e : TypeId} {k : IntKind} {v : Value} {d : DataW H} {ps : List MemPlace}
    (ht : P.underlying t = some (.slice e)) (he : P.underlying e = some (.int k)) (hc : P.cellsOf e = 1) (hval : Value.okWide P W r b0 t v) (hd : DataW.Trod enc P W 0 (fun _ => true) true t v d ps) :
    ∃ xs, IsInts k W v xs := by
  obtain ⟨a, len, cap, rfl⟩ := okWide_slice ht hval
  obtain ⟨fuel, hf⟩ := hd
  rcases open_ints ht he hc hf with ⟨hcs, _⟩ | ⟨x, l, c, zs, hcs, _, hl, hm, hz, _, hcell, hwz⟩
  · simp [Value.cells] at hcs
    obtain ⟨rfl, rfl, rfl⟩ := hcs
    exact ⟨[], none, 0, 0, rfl, by omega, by omega, ⟨rfl, .inl rfl⟩, by simp⟩
  · simp [Value.cells] at hcs
    obtain ⟨rfl, rfl, rfl⟩ := hcs
    have hz' : zs.length = cap := by simpa using hz
    refine ⟨zs.take len, some x, len, cap, rfl, hl, by unfold maxLen at hm; omega, ⟨by rw [List.length_take]; omega, ?_⟩, fun y hy => hwz y (List.mem_of_mem_take hy)⟩
    rcases Nat.eq_zero_or_pos len with h0 | h0
    · exact .inl h0
    · right
      obtain ⟨b, off, spot⟩ := x
      have hc0 := hcell 0 (by omega)
      have hspot : spot = none := by simpa [Addr.add] using World.cell?_spot hc0
      subst hspot
      have hadd : ∀ j, (⟨b, off, none⟩ : Addr).add j = ⟨b, off + j, none⟩ := fun j => by unfold Addr.add; split <;> simp_all
      refine ⟨b, off, rfl, ?_, fun j hj => ?_⟩
      · have := World.block_lt_of_cell? _ _ hc0
        rw [hadd] at this
        exact this
      · have := hcell j (by omega)
        rw [hadd] at this
        rw [this]
        simp [List.getD_eq_getElem?_getD, hj]
end
end Go.Proofs.Ytglabahbklpocaa
