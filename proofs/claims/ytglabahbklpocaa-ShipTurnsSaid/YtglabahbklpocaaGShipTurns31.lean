/- A record among the arguments; the law's short, small. -/
import Derived.Test.YtglabahbklpocaaGShipTurns26
import Derived.Test.YtglabahbklpocaaGShipTurns30
namespace Go.Proofs.Ytglabahbklpocaa
section
open Go.ChangeShapes Go.WideShapes Go.ChangeAt Go.RowKit Go.Joins Go.Deep
set_option maxRecDepth 100000
set_option linter.unusedVariables false
set_option linter.unusedSimpArgs false
attribute [local go_sem ↓] Go.wp_at_zero Go.wp_at_succ
def recL : List Leaf := [.int .i64, .str, .int .i64, .int .i64, .int .i64, .int .i64, .int .i64, .int .i64, .sl 26 3]
theorem rec_leaves : leaves Try.prog 5 86 = some recL := by kernel_rfl
theorem leaf_ints {H : Type} {enc : TypeId × Value → H} {W : World} {v : Value} (h : LeafIs enc Try.prog W (.sl 26 3) v) : ∃ xs, IsInts .i64 W v xs := by
  obtain ⟨_, fuel, y, hf⟩ := h
  have ht := Try.underlying26
  have he := Try.underlying3
  rcases open_ints ht he (by kernel_rfl) hf with ⟨hcs, _⟩ | ⟨x, l, c, zs, hcs, _, hl, hm, hz, _, hcell, hwz⟩
  · simp only [List.cons.injEq, and_true] at hcs
    subst hcs
    exact ⟨[], none, 0, 0, rfl, by omega, by omega, ⟨rfl, .inl rfl⟩, by simp⟩
  · simp only [List.cons.injEq, and_true] at hcs
    subst hcs
    have hz' : zs.length = c := by simpa using hz
    refine ⟨zs.take l, some x, l, c, rfl, hl, by unfold maxLen at hm; omega, ⟨by rw [List.length_take]; omega, ?_⟩, fun y hy => hwz y (List.mem_of_mem_take hy)⟩
    rcases Nat.eq_zero_or_pos l with h0 | h0
    · exact .inl h0
    · right
      obtain ⟨b, off, spot⟩ := x
      have hc0 := hcell 0 (by omega)
      have hspot : spot = none := by simpa [Addr.add] using World.cell?_spot hc0
      subst hspot
      have hadd : ∀ j, (⟨b, off, none⟩ : Addr).add j = ⟨b, off + j, none⟩ := fun j => by unfold Addr.add; split <;> simp_all
      refine ⟨b, off, rfl, ?_, fun j hj => ?_⟩
      · have := World.block_lt_of_cell? _ _ hc0
        rw [hadd] at this
        exact this
      · have := hcell j (by omega)
        rw [hadd] at this
        rw [this]
        simp [List.getD_eq_getElem?_getD, hj]
structure RecA where
  r : Rc
  d : Sl
  ds : List Int
def RecA.val (x : RecA) : Value := rcVal x.r x.d
structure RecA.ok (w : World) (x : RecA) : Prop where
  wf : x.r.wf
  sl : SlR w x.d x.ds
def IsRec (w : World) (v : Value) (x : RecA) : Prop := v = x.val ∧ x.ok w
theorem maxLen_i {n : Nat} (h : n ≤ maxLen) : n ≤ 9223372036854775807 := by unfold maxLen at h; omega
theorem open_isRec {H : Type} {enc : TypeId × Value → H} {W : World} {r : Reach} {b0 : Nat} {v : Value} {d : DataW H} {ps : List MemPlace} (hval : Value.okWide Try.prog W r b0 86 v) (hd : DataW.Trod enc Try.prog W 0 (fun _ => true) true 86 v d ps) : ∃ x, IsRec W v x := by
  obtain ⟨cs, rfl, hf⟩ := open_fits 5 recL rec_leaves (by kernel_rfl) hval hd
  have hl := fits_len hf
  match cs, hl with
  | [v0, v1, v2, v3, v4, v5, v6, v7, v8], _ =>
    obtain ⟨⟨n0, rfl, w0⟩, ⟨s, rfl, w1⟩, ⟨n2, rfl, w2⟩, ⟨n3, rfl, w3⟩, ⟨n4, rfl, w4⟩, ⟨n5, rfl, w5⟩, ⟨n6, rfl, w6⟩, ⟨n7, rfl, w7⟩, hs, _⟩ := hf
    obtain ⟨xs, a, n, c, rfl, h1, h2, h3, _⟩ := leaf_ints hs
    exact ⟨⟨⟨n0, s, n2, n3, n4, ⟨n5, n6, n7⟩⟩, ⟨a, n, c⟩, xs⟩, rfl, ⟨i64_of w0, maxLen_i w1, i64_of w2, i64_of w3, i64_of w4, i64_of w5, i64_of w6, i64_of w7⟩, h3, h1, h2⟩
end
end Go.Proofs.Ytglabahbklpocaa
