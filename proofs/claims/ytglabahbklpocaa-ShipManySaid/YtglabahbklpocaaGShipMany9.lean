/- A list of numbers that grows by append, from a slice without room or from a row of one's own. -/
import Derived.Test.YtglabahbklpocaaGShipMany6
import Derived.Laws.AppendOwn
namespace Go.Proofs.Ytglabahbklpocaa
section
open Go.RowKit
set_option maxRecDepth 100000
set_option linter.unusedVariables false
set_option linter.unusedSimpArgs false
/-- The slice at a, n numbers long, holds l, in memory from B on; it has no room, or is a row of its own. -/
structure GrowI (w : World) (B : Nat) (a : Option Addr) (n cap : Nat) (l : List Int) : Prop where
  len : l.length = n
  le : n ≤ cap
  max : cap ≤ maxLen
  row : (n = cap ∧ VecAt w B a l) ∨ w.ownsRow B 3 1 (.slice a n cap) n (l.map (Value.int .i64))
theorem VecAt.grow {w : World} {B : Nat} {a : Option Addr} {l : List Int} (h : VecAt w B a l) (hm : l.length ≤ 1000) : GrowI w B a l.length l.length l := ⟨rfl, Nat.le_refl _, by unfold maxLen; omega, .inl ⟨rfl, h⟩⟩
theorem grow_nil (w : World) (B : Nat) : GrowI w B none 0 0 [] := ⟨rfl, Nat.le_refl _, by unfold maxLen; omega, .inr (World.ownsRow_nil _ _ _ _)⟩
theorem ownsRow_vec {w : World} {B : Nat} {a : Option Addr} {n cap : Nat} {l : List Int} (h : w.ownsRow B 3 1 (.slice a n cap) n (l.map (Value.int .i64))) (hl : l.length = n) : VecAt w B a l := by
  rcases Nat.eq_zero_or_pos n with h0 | hp
  · obtain rfl : l = [] := List.eq_nil_of_length_eq_zero (by omega)
    exact VecAt.nil _ _ _
  · obtain ⟨g, cap', hv, hg, hlt⟩ := h.form hp
    obtain rfl : a = some ⟨g, 0, none⟩ := by simp only [Value.slice.injEq] at hv; exact hv.1
    refine ⟨⟨rfl, .inr ⟨g, 0, rfl, hlt, fun j hj => ?_⟩⟩, .inr ⟨g, rfl, hg, hlt, fun j => h.frozenAt j⟩⟩
    rw [Nat.zero_add, h.cellAt j (by omega), List.getElem?_map, List.getD_eq_getElem?_getD, List.getElem?_eq_getElem hj]
    rfl
theorem GrowI.vec {w : World} {B : Nat} {a : Option Addr} {n cap : Nat} {l : List Int} (h : GrowI w B a n cap l) : VecAt w B a l := by
  rcases h.row with ⟨_, h1⟩ | h1
  · exact h1
  · exact ownsRow_vec h1 h.len
theorem VecAt.below {w w' : World} {B : Nat} {a : Option Addr} {l : List Int} (h : VecAt w B a l) (hb : Below w.heap.size w w') : VecAt w' B a l :=
  ⟨h.reads.below hb, h.own.imp_right fun ⟨g, e1, e2, e3, e4⟩ => ⟨g, e1, e2, Nat.lt_of_lt_of_le e3 hb.size, fun j => (hb.frozen (p := ⟨g, j, none⟩) e3).trans (e4 j)⟩⟩
theorem GrowI.below {w w' : World} {B : Nat} {a : Option Addr} {n cap : Nat} {l : List Int} (h : GrowI w B a n cap l) (hb : Below w.heap.size w w') : GrowI w' B a n cap l := by
  refine ⟨h.len, h.le, h.max, ?_⟩
  rcases h.row with ⟨e, h1⟩ | h1
  · exact .inl ⟨e, h1.below hb⟩
  · exact .inr (h1.kept (row := none) ⟨hb.os, hb.tape, hb.output, hb.size, fun i hi _ => hb.block i hi⟩ (by cases Value.ownBlock (.slice a n cap) <;> simp))
theorem info_int : (Try.prog.info? 3).map (fun i => (i.zero, i.size, i.bytes)) = some (some (.int .i64 0), 1, 8) := by kernel_rfl
theorem run_append_int (ty : TypeId) (w : World) (B : Nat) (a : Option Addr) (n cap : Nat) (l : List Int) (h : GrowI w B a n cap l) (hB : B ≤ w.heap.size) (hn : n ≤ 100000) (ad : Addr) (c : Nat) (y : Int) (hy : w.cell? ad = some (.int .i64 y)) :
    ∃ a' cap' w', (Builtin.append_ #[26, 26] ty #[.slice a n cap, .slice (some ad) 1 c]).run Try.prog w = .ok (.slice a' (n + 1) cap') w' ∧ GrowI w' B a' (n + 1) cap' (l ++ [y]) ∧ Below B w w' := by
  obtain ⟨i, hi, hii⟩ := Option.map_eq_some_iff.1 info_int
  simp only [Prod.mk.injEq] at hii
  obtain ⟨hz, hsize, hby⟩ := hii
  have hnews : ∀ j u, [Value.int .i64 y][j]? = some u → w.cell? (ad.add j) = some u := fun j u hj => by
    cases j with
    | zero => simp at hj; subst hj; simpa [Addr.add] using hy
    | succ j => simp at hj
  have own : w.ownsRow B 3 1 (.slice a n cap) n (l.map (Value.int .i64)) → ∃ a' cap' w', (Builtin.append_ #[26, 26] ty #[.slice a n cap, .slice (some ad) 1 c]).run Try.prog w = .ok (.slice a' (n + 1) cap') w' ∧ GrowI w' B a' (n + 1) cap' (l ++ [y]) ∧ Below B w w' := fun h1 => by
    obtain ⟨v', w', hr, ho, hg, hnil⟩ := run_append_own (P := Try.prog) w B 26 ty 3 i (.int .i64 0) 1 8 Try.underlying26 hi hz hsize hby rfl (by decide) _ n _ h1 ad 1 c [.int .i64 y] rfl hnews (by intro u hu; simp at hu; subst hu; rfl) (by unfold maxLen; omega) (by omega) hB
    obtain ⟨g, cap', rfl, hgB, hgl⟩ := ho.form (by omega)
    have hcap : n + 1 ≤ cap' ∧ cap' ≤ maxLen := by
      rcases ho.2 with ⟨e, _⟩ | ⟨g', c', cur, e, _, _, h3, h4, _⟩
      · simp at e
      · simp only [Value.slice.injEq, Option.some.injEq, Addr.mk.injEq, and_true, true_and] at e
        obtain ⟨rfl, rfl⟩ := e
        exact ⟨h3, h4⟩
    refine ⟨_, cap', w', hr, ⟨by simp [h.len], hcap.1, hcap.2, .inr (by simpa using ho)⟩, (Below.refl B w).grown hg hB fun k hk => (h1.lt k hk).1⟩
  rcases h.row with ⟨rfl, h1⟩ | h1
  · cases a with
    | none =>
      have h0 : l = [] := by
        rcases h1.own with h0 | ⟨g, e, _⟩
        · exact h0
        · simp at e
      subst h0
      obtain rfl : n = 0 := h.len.symm
      exact own (World.ownsRow_nil _ _ _ _)
    | some b =>
      have holds : ∀ j u, (l.map (Value.int .i64))[j]? = some u → w.cell? (b.add j) = some u := fun j u hj => by
        have hjl : j < l.length := by have := (List.getElem?_eq_some_iff.1 hj).1; simpa using this
        obtain ⟨g, e, _, _, hc, _⟩ := h1.cell j hjl
        obtain rfl : b = ⟨g, 0, none⟩ := by simpa using e
        rw [List.getElem?_map, List.getElem?_eq_getElem hjl] at hj
        simp only [Addr.add_lit, Nat.zero_add]
        rw [hc, List.getD_eq_getElem?_getD, List.getElem?_eq_getElem hjl]
        exact hj
      have hr := run_append_grow (P := Try.prog) w 26 ty 3 i (.int .i64 0) Try.underlying26 hi hz b n n (l.map (Value.int .i64)) (by rw [hsize]; simp [h.len]) holds ad 1 c [.int .i64 y] (by rw [hsize]; rfl) hnews (by omega) (by omega) (by rw [hby]; exact growslice_fits (by omega) (by omega))
      have hge := grownCap_ge w (n + 1) n 3
      have hcm : grownCap w (n + 1) n 3 ≤ maxLen := grownCap_le_maxLen w (n + 1) n 3 (by unfold maxLen; omega)
      refine ⟨_, _, _, hr, ⟨by simp [h.len], hge, hcm, .inr ⟨by simp [h.len], .inr ⟨w.heap.size, _, _, rfl, hB, heap_alloc_new w.drew _, hge, hcm, ?_, ?_⟩⟩⟩, (Below.refl B w).drew.alloc hB _⟩
      · simp [size_zeroCells, Value.cells, h.len]
        omega
      · have hle : (l.map (Value.int .i64) ++ [Value.int .i64 y]).length = (n + 1) * 1 := by simp [h.len]
        simp only [Array.toList_append, List.map_append, List.map_cons, List.map_nil]
        rw [← hle]
        exact List.take_left
  · exact own h1
theorem wpList_append_int {ops : Array Oper} {rest : List Oper} {o : Oper} {act : Act} {Q : Exit → Act → World → Prop} (hgd : o.guard = none) (s x : Operand)
    (ho : o.op = .call { callee := .builtin .append, args := #[s, x], argTypes := #[26, 26] }) (w : World) (B : Nat) (a : Option Addr) (n cap : Nat) (l : List Int) (hs : act.eval s = .slice a n cap) (h : GrowI w B a n cap l) (hB : B ≤ w.heap.size) (hn : n ≤ 100000)
    (ad : Addr) (c : Nat) (y : Int) (hx : act.eval x = .slice (some ad) 1 c) (hy : w.cell? ad = some (.int .i64 y))
    (hK : ∀ a' cap' w', GrowI w' B a' (n + 1) cap' (l ++ [y]) → Below B w w' → wpList Try.prog ops Q rest (act.put o.dst (.slice a' (n + 1) cap')) w') : wpList Try.prog ops Q (o :: rest) act w := by
  refine wpList_plain hgd fun K hK' => ?_
  obtain ⟨a', cap', w', hrun, h1, h2⟩ := run_append_int o.type w B a n cap l h hB hn ad c y hy
  unfold Oper.wp
  simp [execOp, ho, resolve, invoke, builtin, hs, hx, hrun, Result.andThen]
  exact hK' _ _ (hK a' cap' w' h1 h2)
end
end Go.Proofs.Ytglabahbklpocaa
