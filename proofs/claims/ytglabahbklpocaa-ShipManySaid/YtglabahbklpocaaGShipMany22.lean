/- Points: their cells; among the arguments; held against each other. A record among the arguments; the law's short, small. -/
import Derived.Test.YtglabahbklpocaaGShipMany20
import Derived.Test.YtglabahbklpocaaGShipMany21
import Derived.Test.YtglabahbklpocaaGShipMany10
import Derived.OpenShut
import Derived.ProofKit
import Derived.Lib.SmallJoins
import Derived.Test.YtglabahbklpocaaGShipMany17
import Derived.Test.YtglabahbklpocaaGShipMany18
namespace Go.Proofs.Ytglabahbklpocaa
section
open Go.RowKit Go.ChangeShapes Go.WideShapes Go.Joins Go.Deep
set_option maxRecDepth 100000
set_option linter.unusedVariables false
set_option linter.unusedSimpArgs false
/-- A point. -/
structure Pt where
  series : ByteArray
  time : Int
  value : Int
  st : St
def Pt.cs (p : Pt) : List Value := [.string p.series, .int .i64 p.time, .int .i64 p.value, .int .i64 p.st.clock, .int .i64 p.st.site, .int .i64 p.st.seq]
def Pt.val (p : Pt) : Value := .agg #[.string p.series, .int .i64 p.time, .int .i64 p.value, .int .i64 p.st.clock, .int .i64 p.st.site, .int .i64 p.st.seq]
def i64 (x : Int) : Prop := -9223372036854775808 ≤ x ∧ x ≤ 9223372036854775807
def St.wf' (a : St) : Prop := i64 a.clock ∧ i64 a.site ∧ i64 a.seq
def Pt.wf (p : Pt) : Prop := p.series.size ≤ maxLen ∧ i64 p.time ∧ i64 p.value ∧ p.st.wf'
theorem wf_i64 {x : Int} (h : i64 x) : (Lit.int .i64 x).wf = true := by
  unfold i64 at h
  simp [Lit.wf, IntKind.min, IntKind.max, IntKind.signed, IntKind.bits]
  omega
theorem wf_u64 {x : Int} (h : 0 ≤ x ∧ x ≤ 18446744073709551615) : (Lit.int .u64 x).wf = true := by
  simp [Lit.wf, IntKind.min, IntKind.max, IntKind.signed, IntKind.bits]
  omega
def ptL : List Leaf := [.str, .int .i64, .int .i64, .int .i64, .int .i64, .int .i64]
theorem pt_leaves : leaves Try.prog 5 60 = some ptL := by kernel_rfl
theorem pt_flat {p : Pt} (h : p.wf) : Flat ptL p.cs := by
  obtain ⟨h1, h2, h3, h4, h5, h6⟩ := h
  exact ⟨⟨_, rfl, h1⟩, ⟨_, rfl, wf_i64 h2⟩, ⟨_, rfl, wf_i64 h3⟩, ⟨_, rfl, wf_i64 h4⟩, ⟨_, rfl, wf_i64 h5⟩, ⟨_, rfl, wf_i64 h6⟩, trivial⟩
def ptO (p : Pt) : Obj := .cells #[.string p.series, .int .i64 p.time, .int .i64 p.value, .int .i64 p.st.clock, .int .i64 p.st.site, .int .i64 p.st.seq] 60 (0, 0)
theorem pt_len (p : Pt) : p.cs.length = 6 := rfl
theorem pt_one (p : Pt) : ∀ u ∈ p.cs, u.oneCell' = true := by
  intro u hu
  simp [Pt.cs] at hu
  rcases hu with rfl | rfl | rfl | rfl | rfl | rfl <;> rfl
structure PtC (w : World) (b o : Nat) (p : Pt) : Prop where
  c0 : w.cell? ⟨b, o, none⟩ = some (.string p.series)
  c1 : w.cell? ⟨b, o + 1, none⟩ = some (.int .i64 p.time)
  c2 : w.cell? ⟨b, o + 2, none⟩ = some (.int .i64 p.value)
  c3 : w.cell? ⟨b, o + 3, none⟩ = some (.int .i64 p.st.clock)
  c4 : w.cell? ⟨b, o + 4, none⟩ = some (.int .i64 p.st.site)
  c5 : w.cell? ⟨b, o + 5, none⟩ = some (.int .i64 p.st.seq)
theorem pt_cells {w : World} {b o : Nat} {p : Pt} (h : CellsAt w b o p.cs) : PtC w b o p := ⟨h 0 _ rfl, h 1 _ rfl, h 2 _ rfl, h 3 _ rfl, h 4 _ rfl, h 5 _ rfl⟩
theorem pt_size : (Try.prog.info? 60).map (·.size) = some 6 := by kernel_rfl
theorem pt_ety : Ety Pt.cs 50 60 6 56 (.agg #[.string ⟨#[]⟩, .int .i64 0, .int .i64 0, .int .i64 0, .int .i64 0, .int .i64 0]) :=
  ⟨Try.underlying50, by kernel_rfl, rfl, by decide, by decide, pt_len, pt_one⟩
theorem fits_flat {H : Type} {enc : TypeId × Value → H} {P : Program} {w : World} {ls : List Leaf} {cs : List Value} (h : Fits enc P w ls cs) (hf : ls.all Leaf.flat = true) : Flat ls cs := by
  induction ls generalizing cs with
  | nil => cases cs with
    | nil => trivial
    | cons _ _ => exact h.elim
  | cons l ls ih =>
    simp only [List.all_cons, Bool.and_eq_true] at hf
    cases cs with
    | nil => exact h.elim
    | cons v vs => cases l with
      | sl _ _ => simp [Leaf.flat] at hf
      | int k => exact ⟨h.1, ih h.2 hf.2⟩
      | str => exact ⟨h.1, ih h.2 hf.2⟩
      | bool => exact ⟨h.1, ih h.2 hf.2⟩
theorem i64_of {n : Int} (h : (Lit.int .i64 n).wf = true) : i64 n := bounds_i64 h
theorem u64_of {n : Int} (h : (Lit.int .u64 n).wf = true) : 0 ≤ n ∧ n ≤ 18446744073709551615 := by have := bounds_u64 h; omega
theorem pt_dec {cs : List Value} (h : Flat ptL cs) : ∃ p : Pt, p.cs = cs ∧ p.wf := by
  have hl := h.len
  match cs, hl with
  | [v0, v1, v2, v3, v4, v5], _ =>
    obtain ⟨⟨s, rfl, w0⟩, ⟨n1, rfl, w1⟩, ⟨n2, rfl, w2⟩, ⟨n3, rfl, w3⟩, ⟨n4, rfl, w4⟩, ⟨n5, rfl, w5⟩, _⟩ := h
    exact ⟨⟨s, n1, n2, ⟨n3, n4, n5⟩⟩, rfl, w0, i64_of w1, i64_of w2, i64_of w3, i64_of w4, i64_of w5⟩
def IsPt (w : World) (v : Value) (p : Pt) : Prop := v = p.val ∧ p.wf
section
variable {H : Type} {enc : TypeId × Value → H} {W : World} {r : Reach} {b0 : Nat} {v : Value} {d : DataW H} {ps : List MemPlace}
theorem open_isPt (hval : Value.okWide Try.prog W r b0 60 v) (hd : DataW.Trod enc Try.prog W 0 (fun _ => true) true 60 v d ps) : ∃ p, IsPt W v p := by
  obtain ⟨cs, rfl, hf⟩ := open_fits 5 ptL pt_leaves (by kernel_rfl) hval hd
  obtain ⟨p, rfl, hok⟩ := pt_dec (fits_flat hf rfl)
  exact ⟨p, rfl, hok⟩
theorem open_isPts (hval : Value.okWide Try.prog W r b0 50 v) (hd : DataW.Trod enc Try.prog W 0 (fun _ => true) true 50 v d ps) : ∃ xs, IsEs Pt.cs 6 Pt.wf W v xs :=
  open_isEs Pt.cs 6 Pt.wf 5 ptL (fun l hl => pt_dec (fits_flat hl rfl)) rfl (by decide) Try.underlying50 pt_leaves (by kernel_rfl) hval hd
end
theorem Pt.cs_inj {a b : Pt} (h : a.cs = b.cs) : a = b := by
  obtain ⟨s, t, v, ⟨c, i, q⟩⟩ := a
  obtain ⟨s', t', v', ⟨c', i', q'⟩⟩ := b
  simp only [Pt.cs, List.cons.injEq, Value.int.injEq, Value.string.injEq, true_and, and_true] at h
  obtain ⟨rfl, rfl, rfl, rfl, rfl, rfl⟩ := h
  rfl
open Classical in
theorem eq_pt (a b : Pt) (ha : a.wf) (hb : b.wf) (w : World) : (binOp .eql 60 a.val b.val).run Try.prog w = .ok (.bool (decide (a = b))) w ∧ (binOp .neq 60 a.val b.val).run Try.prog w = .ok (.bool (!decide (a = b))) w :=
  eql_flat 5 (by decide) 60 ptL pt_leaves (by kernel_rfl) (by kernel_rfl) (by kernel_rfl) a.cs b.cs (pt_flat ha) (pt_flat hb) (a = b) ⟨fun e => by rw [e], Pt.cs_inj⟩ w
end
end Go.Proofs.Ytglabahbklpocaa
namespace Go.Proofs.Ytglabahbklpocaa
section
open Go.ChangeShapes Go.WideShapes Go.ChangeAt Go.RowKit Go.Joins Go.Deep
set_option maxRecDepth 100000
set_option linter.unusedVariables false
set_option linter.unusedSimpArgs false
attribute [local go_sem ↓] Go.wp_at_zero Go.wp_at_succ
def recL : List Leaf := [.int .i64, .str, .int .i64, .int .i64, .int .i64, .int .i64, .int .i64, .int .i64, .sl 26 3]
theorem rec_leaves : leaves Try.prog 5 86 = some recL := by kernel_rfl
theorem leaf_ints {H : Type} {enc : TypeId × Value → H} {W : World} {v : Value} (h : LeafIs enc Try.prog W (.sl 26 3) v) : ∃ xs, IsInts .i64 W v xs := by
  obtain ⟨_, fuel, y, hf⟩ := h
  have ht := Try.underlying26
  have he := Try.underlying3
  rcases open_ints ht he (by kernel_rfl) hf with ⟨hcs, _⟩ | ⟨x, l, c, zs, hcs, _, hl, hm, hz, _, hcell, hwz⟩
  · simp only [List.cons.injEq, and_true] at hcs
    subst hcs
    exact ⟨[], none, 0, 0, rfl, by omega, by omega, ⟨rfl, .inl rfl⟩, by simp⟩
  · simp only [List.cons.injEq, and_true] at hcs
    subst hcs
    have hz' : zs.length = c := by simpa using hz
    refine ⟨zs.take l, some x, l, c, rfl, hl, by unfold maxLen at hm; omega, ⟨by rw [List.length_take]; omega, ?_⟩, fun y hy => hwz y (List.mem_of_mem_take hy)⟩
    rcases Nat.eq_zero_or_pos l with h0 | h0
    · exact .inl h0
    · right
      obtain ⟨b, off, spot⟩ := x
      have hc0 := hcell 0 (by omega)
      have hspot : spot = none := by simpa [Addr.add] using World.cell?_spot hc0
      subst hspot
      have hadd : ∀ j, (⟨b, off, none⟩ : Addr).add j = ⟨b, off + j, none⟩ := fun j => by unfold Addr.add; split <;> simp_all
      refine ⟨b, off, rfl, ?_, fun j hj => ?_⟩
      · have := World.block_lt_of_cell? _ _ hc0
        rw [hadd] at this
        exact this
      · have := hcell j (by omega)
        rw [hadd] at this
        rw [this]
        simp [List.getD_eq_getElem?_getD, hj]
structure RecA where
  r : Rc
  d : Sl
  ds : List Int
def RecA.val (x : RecA) : Value := rcVal x.r x.d
structure RecA.ok (w : World) (x : RecA) : Prop where
  wf : x.r.wf
  sl : SlR w x.d x.ds
def IsRec (w : World) (v : Value) (x : RecA) : Prop := v = x.val ∧ x.ok w
theorem maxLen_i {n : Nat} (h : n ≤ maxLen) : n ≤ 9223372036854775807 := by unfold maxLen at h; omega
theorem open_isRec {H : Type} {enc : TypeId × Value → H} {W : World} {r : Reach} {b0 : Nat} {v : Value} {d : DataW H} {ps : List MemPlace} (hval : Value.okWide Try.prog W r b0 86 v) (hd : DataW.Trod enc Try.prog W 0 (fun _ => true) true 86 v d ps) : ∃ x, IsRec W v x := by
  obtain ⟨cs, rfl, hf⟩ := open_fits 5 recL rec_leaves (by kernel_rfl) hval hd
  have hl := fits_len hf
  match cs, hl with
  | [v0, v1, v2, v3, v4, v5, v6, v7, v8], _ =>
    obtain ⟨⟨n0, rfl, w0⟩, ⟨s, rfl, w1⟩, ⟨n2, rfl, w2⟩, ⟨n3, rfl, w3⟩, ⟨n4, rfl, w4⟩, ⟨n5, rfl, w5⟩, ⟨n6, rfl, w6⟩, ⟨n7, rfl, w7⟩, hs, _⟩ := hf
    obtain ⟨xs, a, n, c, rfl, h1, h2, h3, _⟩ := leaf_ints hs
    exact ⟨⟨⟨n0, s, n2, n3, n4, ⟨n5, n6, n7⟩⟩, ⟨a, n, c⟩, xs⟩, rfl, ⟨i64_of w0, maxLen_i w1, i64_of w2, i64_of w3, i64_of w4, i64_of w5, i64_of w6, i64_of w7⟩, h3, h1, h2⟩
end
end Go.Proofs.Ytglabahbklpocaa
