/- A list of stamps of one's own that grows by append, one by one. -/
import Derived.Test.YtmdbdkeonijfbaaAppJ
import Derived.Test.YtmdbdkeonijfbaaOpenSts
import Derived.Test.YtmdbdkeonijfbaaMtake
namespace Go.Proofs.Ytmdbdkeonijfbaa
open Go.RowKit
set_option linter.unusedVariables false
set_option linter.unusedSimpArgs false
def stCells (a : St) : List Value := [.int .i64 a.clock, .int .i64 a.site, .int .i64 a.seq]
def stRow (l : List St) : List Value := l.flatMap stCells
theorem stRow_append (l m : List St) : stRow (l ++ m) = stRow l ++ stRow m := by simp [stRow]
theorem stRow_length (l : List St) : (stRow l).length = l.length * 3 := by
  induction l with
  | nil => rfl
  | cons x r ih => rw [show x :: r = [x] ++ r from rfl, stRow_append, List.length_append, ih]; simp [stRow, stCells]; omega
theorem stRow_get (l : List St) (j : Nat) (hj : j < l.length) : (stRow l)[j * 3]? = some (.int .i64 (l.getD j St0).clock) ∧ (stRow l)[j * 3 + 1]? = some (.int .i64 (l.getD j St0).site) ∧ (stRow l)[j * 3 + 2]? = some (.int .i64 (l.getD j St0).seq) := by
  induction l generalizing j with
  | nil => simp at hj
  | cons x r ih =>
    have e : stRow (x :: r) = .int .i64 x.clock :: .int .i64 x.site :: .int .i64 x.seq :: stRow r := rfl
    rw [e]
    cases j with
    | zero => exact ⟨rfl, rfl, rfl⟩
    | succ j =>
      obtain ⟨h1, h2, h3⟩ := ih j (by simpa using hj)
      rw [show (j + 1) * 3 = j * 3 + 3 by omega]
      refine ⟨?_, ?_, ?_⟩
      · simpa using h1
      · rw [show j * 3 + 3 + 1 = (j * 3 + 1) + 3 by omega]; simpa using h2
      · rw [show j * 3 + 3 + 2 = (j * 3 + 2) + 3 by omega]; simpa using h3
/-- The slice at a, n stamps long, is a row of its own, in memory from B on, and holds l. -/
structure AppS (w : World) (B : Nat) (a : Option Addr) (n cap : Nat) (l : List St) : Prop where
  len : l.length = n
  le : n ≤ cap
  max : cap ≤ maxLen
  row : w.ownsRow B 36 3 (.slice a n cap) n (stRow l)
theorem appS_nil (w : World) (B : Nat) : AppS w B none 0 0 [] := ⟨rfl, Nat.le_refl _, by unfold maxLen; omega, World.ownsRow_nil _ _ _ _⟩
theorem AppS.below {w w' : World} {B : Nat} {a : Option Addr} {n cap : Nat} {l : List St} (h : AppS w B a n cap l) (hb : Below w.heap.size w w') : AppS w' B a n cap l :=
  ⟨h.len, h.le, h.max, h.row.kept (row := none) ⟨hb.os, hb.tape, hb.output, hb.size, fun i hi _ => hb.block i hi⟩ (by cases Value.ownBlock (.slice a n cap) <;> simp)⟩
theorem AppS.reads {w : World} {B : Nat} {a : Option Addr} {n cap : Nat} {l : List St} (h : AppS w B a n cap l) : ReadsSt w a n l ∧ (n = 0 ∨ ∃ g, a = some ⟨g, 0, none⟩ ∧ B ≤ g) := by
  rcases Nat.eq_zero_or_pos n with h0 | hp
  · exact ⟨⟨h.len, .inl h0⟩, .inl h0⟩
  · obtain ⟨g, cap', hv, hg, hlt⟩ := h.row.form hp
    obtain rfl : a = some ⟨g, 0, none⟩ := by simp only [Value.slice.injEq] at hv; exact hv.1
    refine ⟨⟨h.len, .inr ⟨g, 0, rfl, hlt, fun j hj => ?_⟩⟩, .inr ⟨g, rfl, hg⟩⟩
    have hl := h.len
    obtain ⟨h1, h2, h3⟩ := stRow_get l j (by omega)
    rw [Nat.zero_add]
    exact ⟨by rw [h.row.cellAt _ (by omega)]; exact h1, by rw [h.row.cellAt _ (by omega)]; exact h2, by rw [h.row.cellAt _ (by omega)]; exact h3⟩
theorem info_st : (Try.prog.info? 36).map (fun i => (i.zero, i.size, i.bytes)) = some (some (.agg #[.int .i64 0, .int .i64 0, .int .i64 0]), 3, 24) := by kernel_rfl
theorem run_append_st (ty : TypeId) (w : World) (B : Nat) (a : Option Addr) (n cap : Nat) (l : List St) (h : AppS w B a n cap l) (hB : B ≤ w.heap.size) (hn : n ≤ 100000) (g c : Nat) (y : St) (hy : StC w g 0 y) :
    ∃ a' cap' w', (Builtin.append_ #[45, 45] ty #[.slice a n cap, .slice (some ⟨g, 0, none⟩) 1 c]).run Try.prog w = .ok (.slice a' (n + 1) cap') w' ∧ AppS w' B a' (n + 1) cap' (l ++ [y]) ∧ Below B w w' := by
  obtain ⟨i, hi, hii⟩ := Option.map_eq_some_iff.1 info_st
  simp only [Prod.mk.injEq] at hii
  obtain ⟨hz, hsize, hby⟩ := hii
  have hnews : ∀ j u, (stCells y)[j]? = some u → w.cell? ((⟨g, 0, none⟩ : Addr).add j) = some u := fun j u hj => by
    obtain ⟨k0, k1, k2⟩ := hy
    match j with
    | 0 => simp [stCells] at hj; subst hj; simpa [Addr.add] using k0
    | 1 => simp [stCells] at hj; subst hj; simpa [Addr.add] using k1
    | 2 => simp [stCells] at hj; subst hj; simpa [Addr.add] using k2
    | j + 3 => simp [stCells] at hj
  have h1 := h.row
  obtain ⟨v', w', hr, ho, hg, hnil⟩ := run_append_own (P := Try.prog) w B 45 ty 36 i (.agg #[.int .i64 0, .int .i64 0, .int .i64 0]) 3 24 Try.underlying45 hi hz hsize hby rfl (by decide) _ n _ h1 ⟨g, 0, none⟩ 1 c (stCells y) rfl hnews (by intro u hu; simp [stCells] at hu; rcases hu with rfl | rfl | rfl <;> rfl) (by unfold maxLen; omega) (by omega) hB
  obtain ⟨g', cap', rfl, hgB, hgl⟩ := ho.form (by omega)
  have hcap : n + 1 ≤ cap' ∧ cap' ≤ maxLen := by
    rcases ho.2 with ⟨e, _⟩ | ⟨g', c', cur, e, _, _, h3, h4, _⟩
    · simp at e
    · simp only [Value.slice.injEq, Option.some.injEq, Addr.mk.injEq, and_true, true_and] at e
      obtain ⟨rfl, rfl⟩ := e
      exact ⟨h3, h4⟩
  exact ⟨_, cap', w', hr, ⟨by simp [h.len], hcap.1, hcap.2, by rw [stRow_append]; simpa [stRow] using ho⟩, (Below.refl B w).grown hg hB fun k hk => (h1.lt k hk).1⟩
theorem wpList_append_st {ops : Array Oper} {rest : List Oper} {o : Oper} {act : Act} {Q : Exit → Act → World → Prop} (hgd : o.guard = none) (s x : Operand)
    (ho : o.op = .call { callee := .builtin .append, args := #[s, x], argTypes := #[45, 45] }) (w : World) (B : Nat) (a : Option Addr) (n cap : Nat) (l : List St) (hs : act.eval s = .slice a n cap) (h : AppS w B a n cap l) (hB : B ≤ w.heap.size) (hn : n ≤ 100000)
    (g : Nat) (c : Nat) (y : St) (hx : act.eval x = .slice (some ⟨g, 0, none⟩) 1 c) (hy : StC w g 0 y)
    (hK : ∀ a' cap' w', AppS w' B a' (n + 1) cap' (l ++ [y]) → Below B w w' → wpList Try.prog ops Q rest (act.put o.dst (.slice a' (n + 1) cap')) w') : wpList Try.prog ops Q (o :: rest) act w := by
  refine wpList_plain hgd fun K hK' => ?_
  obtain ⟨a', cap', w', hrun, h1, h2⟩ := run_append_st o.type w B a n cap l h hB hn g c y hy
  unfold Oper.wp
  simp [execOp, ho, resolve, invoke, builtin, hs, hx, hrun, Result.andThen]
  exact hK' _ _ (hK a' cap' w' h1 h2)
end Go.Proofs.Ytmdbdkeonijfbaa
