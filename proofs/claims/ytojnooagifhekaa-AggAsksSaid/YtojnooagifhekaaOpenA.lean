/- Points, lists of points, and what is known of points among the arguments. -/
import Derived.Test.YtojnooagifhekaaAfold
import Derived.OpenShut
import Derived.ProofKit
import Derived.Lib.SmallJoins
namespace Go.Proofs.Ytojnooagifhekaa
open Go.RowKit Go.ChangeShapes Go.WideShapes Go.Joins Go.Deep
set_option maxRecDepth 100000
set_option linter.unusedVariables false
set_option linter.unusedSimpArgs false
theorem ag_dec {cs : List Value} (h : Flat agL cs) : ∃ a : Ag, a.cs = cs ∧ a.ok := by
  have hl := h.len
  match cs, hl with
  | [v0, v1, v2, v3, v4, v5, v6, v7, v8, v9, v10, v11, v12, v13, v14, v15, v16, v17], _ =>
    obtain ⟨⟨n0, rfl, w0⟩, ⟨n1, rfl, w1⟩, ⟨n2, rfl, w2⟩, ⟨n3, rfl, w3⟩, ⟨n4, rfl, w4⟩, ⟨n5, rfl, w5⟩, ⟨n6, rfl, w6⟩, ⟨n7, rfl, w7⟩, ⟨n8, rfl, w8⟩, ⟨n9, rfl, w9⟩, ⟨n10, rfl, w10⟩, ⟨n11, rfl, w11⟩, ⟨n12, rfl, w12⟩, ⟨n13, rfl, w13⟩, ⟨n14, rfl, w14⟩, ⟨n15, rfl, w15⟩, ⟨n16, rfl, w16⟩, ⟨n17, rfl, w17⟩, _⟩ := h
    refine ⟨⟨n0, ⟨n1, n2⟩, n3, n4, n5, ⟨n6, n7, n8⟩, [n9, n10, n11, n12, n13, n14, n15, n16, n17]⟩, rfl, i64_of w0, ⟨i64_of w1, u64_of w2⟩, i64_of w3, i64_of w4, i64_of w5, ⟨i64_of w6, i64_of w7, i64_of w8⟩, rfl, ?_⟩
    intro x hx
    simp only [List.mem_cons, List.not_mem_nil, or_false] at hx
    rcases hx with rfl | rfl | rfl | rfl | rfl | rfl | rfl | rfl | rfl
    · exact i64_of w9
    · exact i64_of w10
    · exact i64_of w11
    · exact i64_of w12
    · exact i64_of w13
    · exact i64_of w14
    · exact i64_of w15
    · exact i64_of w16
    · exact i64_of w17
def IsAg (w : World) (v : Value) (a : Ag) : Prop := v = a.val ∧ a.ok
section
variable {H : Type} {enc : TypeId × Value → H} {W : World} {r : Reach} {b0 : Nat} {v : Value} {d : DataW H} {ps : List MemPlace}
theorem open_isAg (hval : Value.okWide Try.prog W r b0 29 v) (hd : DataW.Trod enc Try.prog W 0 (fun _ => true) true 29 v d ps) : ∃ a, IsAg W v a := by
  obtain ⟨cs, rfl, hf⟩ := open_fits 5 agL ag_leaves (by kernel_rfl) hval hd
  obtain ⟨a, rfl, hok⟩ := ag_dec (fits_flat hf rfl)
  exact ⟨a, rfl, hok⟩
end
end Go.Proofs.Ytojnooagifhekaa
