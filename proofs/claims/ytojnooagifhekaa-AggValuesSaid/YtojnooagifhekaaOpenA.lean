/- Points, lists of points, and what is known of points among the arguments. -/
import Derived.Test.YtojnooagifhekaaAfold
import Derived.OpenShut
import Derived.ProofKit
import Derived.Lib.SmallJoins
namespace Go.Proofs.Ytojnooagifhekaa
open Go.RowKit Go.ChangeShapes Go.WideShapes Go.Joins Go.Deep
set_option maxRecDepth 100000
set_option linter.unusedVariables false
set_option linter.unusedSimpArgs false
theorem fits_flat {H : Type} {enc : TypeId × Value → H} {P : Program} {w : World} {ls : List Leaf} {cs : List Value} (h : Fits enc P w ls cs) (hf : ls.all Leaf.flat = true) : Flat ls cs := by
  induction ls generalizing cs with
  | nil => cases cs with
    | nil => trivial
    | cons _ _ => exact h.elim
  | cons l ls ih =>
    simp only [List.all_cons, Bool.and_eq_true] at hf
    cases cs with
    | nil => exact h.elim
    | cons v vs => cases l with
      | sl _ _ => simp [Leaf.flat] at hf
      | int k => exact ⟨h.1, ih h.2 hf.2⟩
      | str => exact ⟨h.1, ih h.2 hf.2⟩
      | bool => exact ⟨h.1, ih h.2 hf.2⟩
theorem i64_of {n : Int} (h : (Lit.int .i64 n).wf = true) : i64 n := bounds_i64 h
theorem u64_of {n : Int} (h : (Lit.int .u64 n).wf = true) : 0 ≤ n ∧ n ≤ 18446744073709551615 := by have := bounds_u64 h; omega
theorem ag_dec {cs : List Value} (h : Flat agL cs) : ∃ a : Ag, a.cs = cs ∧ a.ok := by
  have hl := h.len
  match cs, hl with
  | [v0, v1, v2, v3, v4, v5, v6, v7, v8, v9, v10, v11, v12, v13, v14, v15, v16, v17], _ =>
    obtain ⟨⟨n0, rfl, w0⟩, ⟨n1, rfl, w1⟩, ⟨n2, rfl, w2⟩, ⟨n3, rfl, w3⟩, ⟨n4, rfl, w4⟩, ⟨n5, rfl, w5⟩, ⟨n6, rfl, w6⟩, ⟨n7, rfl, w7⟩, ⟨n8, rfl, w8⟩, ⟨n9, rfl, w9⟩, ⟨n10, rfl, w10⟩, ⟨n11, rfl, w11⟩, ⟨n12, rfl, w12⟩, ⟨n13, rfl, w13⟩, ⟨n14, rfl, w14⟩, ⟨n15, rfl, w15⟩, ⟨n16, rfl, w16⟩, ⟨n17, rfl, w17⟩, _⟩ := h
    refine ⟨⟨n0, ⟨n1, n2⟩, n3, n4, n5, ⟨n6, n7, n8⟩, [n9, n10, n11, n12, n13, n14, n15, n16, n17]⟩, rfl, i64_of w0, ⟨i64_of w1, u64_of w2⟩, i64_of w3, i64_of w4, i64_of w5, ⟨i64_of w6, i64_of w7, i64_of w8⟩, rfl, ?_⟩
    intro x hx
    simp only [List.mem_cons, List.not_mem_nil, or_false] at hx
    rcases hx with rfl | rfl | rfl | rfl | rfl | rfl | rfl | rfl | rfl
    · exact i64_of w9
    · exact i64_of w10
    · exact i64_of w11
    · exact i64_of w12
    · exact i64_of w13
    · exact i64_of w14
    · exact i64_of w15
    · exact i64_of w16
    · exact i64_of w17
theorem pt_dec {cs : List Value} (h : Flat ptL cs) : ∃ p : Pt, p.cs = cs ∧ p.wf := by
  have hl := h.len
  match cs, hl with
  | [v0, v1, v2, v3, v4, v5], _ =>
    obtain ⟨⟨s, rfl, w0⟩, ⟨n1, rfl, w1⟩, ⟨n2, rfl, w2⟩, ⟨n3, rfl, w3⟩, ⟨n4, rfl, w4⟩, ⟨n5, rfl, w5⟩, _⟩ := h
    exact ⟨⟨s, n1, n2, ⟨n3, n4, n5⟩⟩, rfl, w0, i64_of w1, i64_of w2, i64_of w3, i64_of w4, i64_of w5⟩
def IsAg (w : World) (v : Value) (a : Ag) : Prop := v = a.val ∧ a.ok
def IsPt (w : World) (v : Value) (p : Pt) : Prop := v = p.val ∧ p.wf
section
variable {H : Type} {enc : TypeId × Value → H} {W : World} {r : Reach} {b0 : Nat} {v : Value} {d : DataW H} {ps : List MemPlace}
theorem open_isAg (hval : Value.okWide Try.prog W r b0 29 v) (hd : DataW.Trod enc Try.prog W 0 (fun _ => true) true 29 v d ps) : ∃ a, IsAg W v a := by
  obtain ⟨cs, rfl, hf⟩ := open_fits 5 agL ag_leaves (by kernel_rfl) hval hd
  obtain ⟨a, rfl, hok⟩ := ag_dec (fits_flat hf rfl)
  exact ⟨a, rfl, hok⟩
theorem open_isPt (hval : Value.okWide Try.prog W r b0 31 v) (hd : DataW.Trod enc Try.prog W 0 (fun _ => true) true 31 v d ps) : ∃ p, IsPt W v p := by
  obtain ⟨cs, rfl, hf⟩ := open_fits 5 ptL pt_leaves (by kernel_rfl) hval hd
  obtain ⟨p, rfl, hok⟩ := pt_dec (fits_flat hf rfl)
  exact ⟨p, rfl, hok⟩
theorem open_isPts (hval : Value.okWide Try.prog W r b0 37 v) (hd : DataW.Trod enc Try.prog W 0 (fun _ => true) true 37 v d ps) : ∃ xs, IsEs Pt.cs 6 Pt.wf W v xs :=
  open_isEs Pt.cs 6 Pt.wf 5 ptL (fun l hl => pt_dec (fits_flat hl rfl)) rfl (by decide) Try.underlying37 pt_leaves (by kernel_rfl) hval hd
end
end Go.Proofs.Ytojnooagifhekaa
