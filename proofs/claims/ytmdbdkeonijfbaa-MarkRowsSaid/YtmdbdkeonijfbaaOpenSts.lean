/- A slice of stamps among the arguments, as a walk is told of it. -/
import Derived.Test.YtmdbdkeonijfbaaOpenSt
import Derived.ChangeArms
import Derived.ChangeSlices
import Derived.DataReads
import Derived.Deep.Strs
namespace Go.Proofs.Ytmdbdkeonijfbaa
open Go.ChangeShapes Go.WideShapes Go.ChangeAt Go.RowKit Go.Joins Go.Deep
set_option linter.unusedVariables false
set_option linter.unusedSimpArgs false
def St0 : St := ⟨0, 0, 0⟩
/-- The cells of a stamp. -/
def StC (w : World) (b o : Nat) (a : St) : Prop := w.cell? ⟨b, o, none⟩ = some (.int .i64 a.clock) ∧ w.cell? ⟨b, o + 1, none⟩ = some (.int .i64 a.site) ∧ w.cell? ⟨b, o + 2, none⟩ = some (.int .i64 a.seq)
def ReadsSt (w : World) (a : Option Addr) (n : Nat) (xs : List St) : Prop :=
  xs.length = n ∧ (n = 0 ∨ ∃ b o, a = some ⟨b, o, none⟩ ∧ b < w.heap.size ∧ ∀ j, j < n → StC w b (o + j * 3) (xs.getD j St0))
def IsSts (w : World) (v : Value) (xs : List St) : Prop :=
  ∃ a n c, v = .slice a n c ∧ n ≤ c ∧ c ≤ 9223372036854775807 ∧ ReadsSt w a n xs ∧ ∀ x ∈ xs, x.wf
theorem trod_st {H : Type} {enc : TypeId × Value → H} {P : Program} {W : World} {base : Nat} {spare : Nat → Bool} {held : Bool} {fuel : Nat} {e : TypeId} {f0 f1 f2 : Field} {cs : List Value} {y : DataW H × List MemPlace}
    (hs : P.underlying e = some (.struct #[f0, f1, f2])) (hone : oneCellFields P #[f0, f1, f2] = true) (t0 : P.underlying f0.type = some (.int .i64)) (t1 : P.underlying f1.type = some (.int .i64)) (t2 : P.underlying f2.type = some (.int .i64))
    (h : DataW.trod enc P W base spare held fuel e cs = some y) : ∃ a : St, a.wf ∧ cs[0]? = some (.int .i64 a.clock) ∧ cs[1]? = some (.int .i64 a.site) ∧ cs[2]? = some (.int .i64 a.seq) := by
  obtain ⟨y0, y1, y2, n, _, _, h0, h1, h2⟩ := trod_struct3 hs h
  obtain ⟨o0, k0⟩ := hone_of hone 0 f0 rfl
  obtain ⟨o1, k1⟩ := hone_of hone 1 f1 rfl
  obtain ⟨o2, k2⟩ := hone_of hone 2 f2 rfl
  rw [o0, k0] at h0
  rw [o1, k1] at h1
  rw [o2, k2] at h2
  obtain ⟨x0, e0, _, w0⟩ := DataW.trod_int t0 h0
  obtain ⟨x1, e1, _, w1⟩ := DataW.trod_int t1 h1
  obtain ⟨x2, e2, _, w2⟩ := DataW.trod_int t2 h2
  have key : ∀ (i : Nat) (v : Value), (cs.drop i).take 1 = [v] → cs[i]? = some v := by
    intro i v hv
    have := congrArg (fun l => l[0]?) hv
    simpa [List.getElem?_take, List.getElem?_drop] using this
  exact ⟨⟨x0, x1, x2⟩, ⟨bounds_i64 w0, bounds_i64 w1, bounds_i64 w2⟩, key 0 _ e0, key 1 _ e1, key 2 _ e2⟩
theorem open_isSts {H : Type} {enc : TypeId × Value → H} {P : Program} {W : World} {r : Reach} {b0 : Nat} {t e : TypeId} {f0 f1 f2 : Field} {v : Value} {d : DataW H} {ps : List MemPlace}
    (ht : P.underlying t = some (.slice e)) (hs : P.underlying e = some (.struct #[f0, f1, f2])) (hone : oneCellFields P #[f0, f1, f2] = true) (hC : P.cellsOf e = 3) (t0 : P.underlying f0.type = some (.int .i64)) (t1 : P.underlying f1.type = some (.int .i64)) (t2 : P.underlying f2.type = some (.int .i64))
    (hval : Value.okWide P W r b0 t v) (hd : DataW.Trod enc P W 0 (fun _ => true) true t v d ps) : ∃ xs, IsSts W v xs := by
  obtain ⟨a, len, cap, rfl⟩ := okWide_slice ht hval
  obtain ⟨fuel, hf⟩ := hd
  rcases DataW.trod_slice ht hf with ⟨hcs, _⟩ | ⟨x, l, c, elems, rest, m, _, hcs, _, _, hl, hm, hlen, hel, _, _⟩
  · simp [Value.cells] at hcs
    obtain ⟨rfl, rfl, rfl⟩ := hcs
    exact ⟨[], none, 0, 0, rfl, by omega, by omega, ⟨rfl, .inl rfl⟩, by simp⟩
  · simp [Value.cells] at hcs
    obtain ⟨rfl, rfl, rfl⟩ := hcs
    have each : ∀ i, i < len → ∃ a : St, a.wf ∧ W.cell? (x.add (i * 3)) = some (.int .i64 a.clock) ∧ W.cell? ((x.add (i * 3)).add 1) = some (.int .i64 a.site) ∧ W.cell? ((x.add (i * 3)).add 2) = some (.int .i64 a.seq) := by
      intro i hi
      have h1 := hel i hi
      rw [List.getElem?_eq_getElem (by omega), hC, Option.bind_eq_some_iff] at h1
      obtain ⟨cs', hc', ht'⟩ := h1
      obtain ⟨_, _, hcell⟩ := World.cells?_some hc'
      obtain ⟨a, hw, k0, k1, k2⟩ := trod_st hs hone t0 t1 t2 ht'
      refine ⟨a, hw, ?_, ?_, ?_⟩
      · have := hcell 0 (by omega)
        rw [k0] at this
        simpa [Addr.add] using this
      · rw [hcell 1 (by omega), k1]
      · rw [hcell 2 (by omega), k2]
    have each2 : ∀ i : Nat, ∃ a : St, i < len → a.wf ∧ W.cell? (x.add (i * 3)) = some (.int .i64 a.clock) ∧ W.cell? ((x.add (i * 3)).add 1) = some (.int .i64 a.site) ∧ W.cell? ((x.add (i * 3)).add 2) = some (.int .i64 a.seq) := fun i => by
      by_cases hi : i < len
      · obtain ⟨a, h⟩ := each i hi
        exact ⟨a, fun _ => h⟩
      · exact ⟨St0, fun h => absurd h hi⟩
    let f : Nat → St := fun i => Classical.choose (each2 i)
    have hf2 : ∀ i, i < len → (f i).wf ∧ W.cell? (x.add (i * 3)) = some (.int .i64 (f i).clock) ∧ W.cell? ((x.add (i * 3)).add 1) = some (.int .i64 (f i).site) ∧ W.cell? ((x.add (i * 3)).add 2) = some (.int .i64 (f i).seq) := fun i => Classical.choose_spec (each2 i)
    refine ⟨(List.range len).map f, some x, len, cap, rfl, hl, by unfold maxLen at hm; omega, ⟨by simp, ?_⟩, fun y hy => ?_⟩
    · rcases Nat.eq_zero_or_pos len with h0 | h0
      · exact .inl h0
      · right
        obtain ⟨b, off, spot⟩ := x
        have hc0 := (hf2 0 h0).2.1
        have hspot : spot = none := by simpa [Addr.add] using World.cell?_spot hc0
        subst hspot
        have hadd : ∀ j, (⟨b, off, none⟩ : Addr).add j = ⟨b, off + j, none⟩ := fun j => by unfold Addr.add; split <;> simp_all
        have hadd2 : ∀ j k, (⟨b, off + j, none⟩ : Addr).add k = ⟨b, off + j + k, none⟩ := fun j k => by unfold Addr.add; split <;> simp_all
        refine ⟨b, off, rfl, ?_, fun j hj => ?_⟩
        · have := World.block_lt_of_cell? _ _ hc0
          rw [hadd] at this
          exact this
        · obtain ⟨_, g0, g1, g2⟩ := hf2 j hj
          rw [hadd] at g0 g1 g2
          rw [hadd2] at g1 g2
          have e : ((List.range len).map f).getD j St0 = f j := by simp [List.getD_eq_getElem?_getD, hj]
          rw [e]
          exact ⟨g0, g1, g2⟩
    · obtain ⟨i, hi, rfl⟩ := List.mem_map.1 hy
      exact (hf2 i (List.mem_range.1 hi)).1
end Go.Proofs.Ytmdbdkeonijfbaa
