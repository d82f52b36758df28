/- A script of ship's chapter among the arguments; few; a row of four vectors. -/
import Derived.Test.YtglabahbklpocaaGShipLeast43
import Derived.Test.YtglabahbklpocaaGShipLeast46
import Derived.Test.YtglabahbklpocaaGShipLeast25
import Derived.Test.YtglabahbklpocaaGShipLeast28
import Derived.Test.YtglabahbklpocaaGShipLeast47
import Derived.Test.YtglabahbklpocaaGShipLeast31
namespace Go.Proofs.Ytglabahbklpocaa
section
open Go.RowKit Go.Deep Go.ChangeShapes Go.WideShapes Go.Joins
set_option maxRecDepth 100000
set_option linter.unusedVariables false
set_option linter.unusedSimpArgs false
attribute [local go_sem ↓] Go.wp_at_zero Go.wp_at_succ
/-- A call of a script. -/
structure HOp where
  kind : Int
  site : Int
  n : Int
  v : Sl
  vs : List Int
def HOp.cs (o : HOp) : List Value := [.int .i64 o.kind, .int .i64 o.site, .int .i64 o.n, .slice o.v.a o.v.n o.v.c]
structure HOp.ok (w : World) (o : HOp) : Prop where
  kind : i64' o.kind
  site : i64' o.site
  n : i64' o.n
  v : SlR w o.v o.vs
def hopL : List Leaf := [.int .i64, .int .i64, .int .i64, .sl 26 3]
theorem hop_leaves : leaves Try.prog 6 34 = some hopL := by kernel_rfl
def IsHOps (w : World) (v : Value) (xs : List HOp) : Prop := IsEs HOp.cs 4 (HOp.ok w) w v xs
theorem open_isHOps {H : Type} {enc : TypeId × Value → H} {W : World} {r : Reach} {b0 : Nat} {v : Value} {d : DataW H} {ps : List MemPlace}
    (hval : Value.okWide Try.prog W r b0 30 v) (hd : DataW.Trod enc Try.prog W 0 (fun _ => true) true 30 v d ps) : ∃ xs, IsHOps W v xs := by
  refine open_isEs HOp.cs 4 (HOp.ok W) 6 hopL (fun l hl => ?_) rfl (by decide) Try.underlying30 hop_leaves (by kernel_rfl) hval hd
  have hln := fits_len hl
  match l, hln with
  | [v0, v1, v2, v3], _ =>
    obtain ⟨⟨n0, rfl, w0⟩, ⟨n1, rfl, w1⟩, ⟨n2, rfl, w2⟩, hs, _⟩ := hl
    obtain ⟨xs, a, n, c, rfl, h1, h2, h3, _⟩ := leaf_ints hs
    exact ⟨⟨n0, n1, n2, ⟨a, n, c⟩, xs⟩, rfl, i64_of w0, i64_of w1, i64_of w2, ⟨h3, h1, h2⟩⟩
theorem few19_any (d : Sl) (xs : List Int) (w : World) (h : SlR w d xs) : Calls Try.prog 13 #[.slice d.a d.n d.c] w fun e w' => e = .returned (.slice d.cut.a d.cut.n d.cut.c) ∧ w = w' := by
  have hnc := h.nc
  have hcb := h.cb
  by_cases h12 : 12 < d.n
  · have ha : ∃ b o, d.a = some ⟨b, o, none⟩ := by
      rcases h.r.2 with h2 | ⟨b, o, e1, _⟩
      · omega
      · exact ⟨b, o, e1⟩
    obtain ⟨b, o, ha⟩ := ha
    have t1 : decide (12 < (d.n : Int)) = true := decide_eq_true (by omega)
    have i1 : (12 : Int) ≤ (d.c : Int) := by omega
    have i2 : (12 : Int) ≤ (d.n : Int) := by omega
    have hc : d.cut = ⟨d.a, 12, d.c⟩ := by unfold Sl.cut; rw [if_pos h12]
    rw [hc]
    simp only
    rw [ha]
    clear hc ha
    go_enter Try.func13, Try.ntmps13
    go_wp2_with fail
    go_ret
    exact ⟨rfl, rfl⟩
  · have t1 : decide (12 < (d.n : Int)) = false := decide_eq_false (by omega)
    have hc : d.cut = d := by unfold Sl.cut; rw [if_neg h12]
    rw [hc]
    clear hc
    go_enter Try.func13, Try.ntmps13
    go_wp2_with fail
    go_ret
    exact ⟨rfl, rfl⟩
theorem hops_at {w : World} {a : Option Addr} {n : Nat} {xs : List HOp} (h : ReadsE HOp.cs 4 w a n xs) (k : Nat) (hk : k < n) : ∃ b o x, a = some ⟨b, o, none⟩ ∧ xs[k]? = some x ∧ ∀ wx, Below w.heap.size w wx → CellsAt wx b (o + k * 4) x.cs := by
  obtain ⟨b, o, x, e, hl, hx, hC⟩ := h.at (Below.refl _ _) k hk
  exact ⟨b, o, x, e, hx, fun wx hb => hC.below hb hl⟩
end
end Go.Proofs.Ytglabahbklpocaa
