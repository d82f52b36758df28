/- The vectors' contracts, from a world that lies further back. A list of numbers of one's own that grows by append, one by one. -/
import Derived.Test.YtglabahbklpocaaGShipPeers32
import Derived.Test.YtglabahbklpocaaGShipPeers22
import Derived.Test.YtglabahbklpocaaGShipPeers1
import Derived.Test.YtglabahbklpocaaGShipPeers17
import Derived.Laws.AppendOwn
import Derived.Laws.OwnMore
import Derived.Deep.AppendLies
namespace Go.Proofs.Ytglabahbklpocaa
section
open Go.RowKit
set_option maxRecDepth 100000
set_option linter.unusedVariables false
set_option linter.unusedSimpArgs false
/-- A slice that reads xs. -/
structure SlI (w : World) (a : Option Addr) (n c : Nat) (xs : List Int) : Prop where
  r : ReadsI .i64 w a n xs
  h1 : n ≤ c
  h2 : c ≤ 9223372036854775807
theorem SlI.below {w w' : World} {a : Option Addr} {n c : Nat} {xs : List Int} (h : SlI w a n c xs) (hb : Below w.heap.size w w') : SlI w' a n c xs := ⟨h.r.below hb, h.h1, h.h2⟩
theorem VecAt.sl {w : World} {B : Nat} {a : Option Addr} {l : List Int} (h : VecAt w B a l) (h8 : l.length ≤ 8) : SlI w a l.length l.length l := ⟨h.reads, Nat.le_refl _, by omega⟩
section
variable {w0 : World} {a1 a2 : Option Addr} {n1 c1 n2 c2 : Nat} {xs ys : List Int}
theorem cov_from (wx : World) (hA : SlI w0 a1 n1 c1 xs) (hB : SlI w0 a2 n2 c2 ys) (hb : Below w0.heap.size w0 wx) :
    Calls Try.prog 34 #[.slice a1 n1 c1, .slice a2 n2 c2] wx fun e w' => e = .returned (.bool (covV xs ys)) ∧ Below w0.heap.size w0 w' :=
  (covers_any _ _ _ _ _ _ xs ys wx (hA.r.below hb) (hB.r.below hb) hA.h1 hA.h2 hB.h1 hB.h2).mono fun e w' ⟨h1, h2⟩ => ⟨h1, below_then hb hb.size h2⟩
theorem same_from (wx : World) (hA : SlI w0 a1 n1 c1 xs) (hB : SlI w0 a2 n2 c2 ys) (hb : Below w0.heap.size w0 wx) :
    Calls Try.prog 17 #[.slice a1 n1 c1, .slice a2 n2 c2] wx fun e w' => e = .returned (.bool (decide (xs = ys))) ∧ Below w0.heap.size w0 w' :=
  (same_any _ _ _ _ _ _ xs ys wx (hA.r.below hb) (hB.r.below hb) hA.h1 hA.h2 hB.h1 hB.h2).mono fun e w' ⟨h1, h2⟩ => ⟨h1, below_then hb hb.size h2⟩
theorem join_from (wx : World) (hA : SlI w0 a1 n1 c1 xs) (hB : SlI w0 a2 n2 c2 ys) (hb : Below w0.heap.size w0 wx) :
    Calls Try.prog 35 #[.slice a1 n1 c1, .slice a2 n2 c2] wx fun e w' => ∃ a' n', e = .returned (.slice a' n' n') ∧ SlI w' a' n' n' (joinV xs ys) ∧ Below w0.heap.size w0 w' :=
  (join_any _ _ _ _ _ _ xs ys wx (hA.r.below hb) (hB.r.below hb) hA.h1 hA.h2 hB.h1 hB.h2).mono fun e w' ⟨a', h1, h2, h3⟩ => ⟨a', _, h1, h2.sl (joinV_length _ _), below_then hb hb.size h3⟩
theorem meet_from (wx : World) (hA : SlI w0 a1 n1 c1 xs) (hB : SlI w0 a2 n2 c2 ys) (hb : Below w0.heap.size w0 wx) :
    Calls Try.prog 39 #[.slice a1 n1 c1, .slice a2 n2 c2] wx fun e w' => ∃ a' n', e = .returned (.slice a' n' n') ∧ SlI w' a' n' n' (meetV xs ys) ∧ Below w0.heap.size w0 w' :=
  (meet_any _ _ _ _ _ _ xs ys wx (hA.r.below hb) (hB.r.below hb) hA.h1 hA.h2 hB.h1 hB.h2).mono fun e w' ⟨a', h1, h2, h3⟩ => ⟨a', _, h1, h2.sl (meetV_length _ _), below_then hb hb.size h3⟩
theorem right_from (wx : World) (hA : SlI w0 a1 n1 c1 xs) (hb : Below w0.heap.size w0 wx) :
    Calls Try.prog 78 #[.slice a1 n1 c1] wx fun e w' => e = .returned (.bool (decide (xs = pl xs))) ∧ Below w0.heap.size w0 w' :=
  (right_any _ _ _ xs wx (hA.r.below hb) hA.h1 hA.h2).mono fun e w' ⟨h1, h2⟩ => ⟨h1, below_then hb hb.size h2⟩
end
end
end Go.Proofs.Ytglabahbklpocaa
namespace Go.Proofs.Ytglabahbklpocaa
section
open Go.RowKit
set_option maxRecDepth 100000
set_option linter.unusedVariables false
set_option linter.unusedSimpArgs false
/-- The slice at a, n numbers long, is a row of its own, in memory from B on, and holds l. -/
structure AppJ (w : World) (B : Nat) (a : Option Addr) (n cap : Nat) (l : List Int) : Prop where
  len : l.length = n
  le : n ≤ cap
  max : cap ≤ maxLen
  row : w.ownsRow B 3 1 (.slice a n cap) n (l.map (Value.int .i64))
theorem appJ_nil (w : World) (B : Nat) : AppJ w B none 0 0 [] := ⟨rfl, Nat.le_refl _, by unfold maxLen; omega, World.ownsRow_nil _ _ _ _⟩
theorem AppJ.below {w w' : World} {B : Nat} {a : Option Addr} {n cap : Nat} {l : List Int} (h : AppJ w B a n cap l) (hb : Below w.heap.size w w') : AppJ w' B a n cap l :=
  ⟨h.len, h.le, h.max, h.row.kept (row := none) ⟨hb.os, hb.tape, hb.output, hb.size, fun i hi _ => hb.block i hi⟩ (by cases Value.ownBlock (.slice a n cap) <;> simp)⟩
theorem info_i64 : (Try.prog.info? 3).map (fun i => (i.zero, i.size, i.bytes)) = some (some (.int .i64 0), 1, 8) := by kernel_rfl
theorem run_append_i64 (ty : TypeId) (w : World) (B : Nat) (a : Option Addr) (n cap : Nat) (l : List Int) (h : AppJ w B a n cap l) (hB : B ≤ w.heap.size) (hn : n ≤ 100000) (ad : Addr) (c : Nat) (y : Int) (hy : w.cell? ad = some (.int .i64 y)) :
    ∃ a' cap' w', (Builtin.append_ #[26, 26] ty #[.slice a n cap, .slice (some ad) 1 c]).run Try.prog w = .ok (.slice a' (n + 1) cap') w' ∧ AppJ w' B a' (n + 1) cap' (l ++ [y]) ∧ Below B w w' := by
  obtain ⟨i, hi, hii⟩ := Option.map_eq_some_iff.1 info_i64
  simp only [Prod.mk.injEq] at hii
  obtain ⟨hz, hsize, hby⟩ := hii
  have hnews : ∀ j u, [Value.int .i64 y][j]? = some u → w.cell? (ad.add j) = some u := fun j u hj => by
    cases j with
    | zero => simp at hj; subst hj; simpa [Addr.add] using hy
    | succ j => simp at hj
  have h1 := h.row
  obtain ⟨v', w', hr, ho, hg, hnil⟩ := run_append_own (P := Try.prog) w B 26 ty 3 i (.int .i64 0) 1 8 Try.underlying26 hi hz hsize hby rfl (by decide) _ n _ h1 ad 1 c [.int .i64 y] rfl hnews (by intro u hu; simp at hu; subst hu; rfl) (by unfold maxLen; omega) (by omega) hB
  obtain ⟨g, cap', rfl, hgB, hgl⟩ := ho.form (by omega)
  have hcap : n + 1 ≤ cap' ∧ cap' ≤ maxLen := by
    rcases ho.2 with ⟨e, _⟩ | ⟨g', c', cur, e, _, _, h3, h4, _⟩
    · simp at e
    · simp only [Value.slice.injEq, Option.some.injEq, Addr.mk.injEq, and_true, true_and] at e
      obtain ⟨rfl, rfl⟩ := e
      exact ⟨h3, h4⟩
  exact ⟨_, cap', w', hr, ⟨by simp [h.len], hcap.1, hcap.2, by simpa using ho⟩, (Below.refl B w).grown hg hB fun k hk => (h1.lt k hk).1⟩
theorem wpList_append_i64 {ops : Array Oper} {rest : List Oper} {o : Oper} {act : Act} {Q : Exit → Act → World → Prop} (hgd : o.guard = none) (s x : Operand)
    (ho : o.op = .call { callee := .builtin .append, args := #[s, x], argTypes := #[26, 26] }) (w : World) (B : Nat) (a : Option Addr) (n cap : Nat) (l : List Int) (hs : act.eval s = .slice a n cap) (h : AppJ w B a n cap l) (hB : B ≤ w.heap.size) (hn : n ≤ 100000)
    (ad : Addr) (c : Nat) (y : Int) (hx : act.eval x = .slice (some ad) 1 c) (hy : w.cell? ad = some (.int .i64 y))
    (hK : ∀ a' cap' w', AppJ w' B a' (n + 1) cap' (l ++ [y]) → Below B w w' → wpList Try.prog ops Q rest (act.put o.dst (.slice a' (n + 1) cap')) w') : wpList Try.prog ops Q (o :: rest) act w := by
  refine wpList_plain hgd fun K hK' => ?_
  obtain ⟨a', cap', w', hrun, h1, h2⟩ := run_append_i64 o.type w B a n cap l h hB hn ad c y hy
  unfold Oper.wp
  simp [execOp, ho, resolve, invoke, builtin, hs, hx, hrun, Result.andThen]
  exact hK' _ _ (hK a' cap' w' h1 h2)
theorem AppJ.but {w w' : World} {B g : Nat} {a : Option Addr} {n cap : Nat} {l : List Int} (h : AppJ w B a n cap l) (k : But g w w') (hg : g < B) : AppJ w' B a n cap l := by
  refine ⟨h.len, h.le, h.max, h.row.kept (row := some g) k ?_⟩
  rcases h.row.2 with ⟨e, _⟩ | ⟨g', c', cur, e, h1, _⟩
  · rw [e]; exact .inl rfl
  · rw [e]
    right
    simp [Value.ownBlock]
    omega
theorem AppJ.sl {w : World} {B : Nat} {a : Option Addr} {n cap : Nat} {l : List Int} (h : AppJ w B a n cap l) : SlI w a n cap l := by
  refine ⟨⟨h.len, ?_⟩, h.le, by have := h.max; unfold maxLen at this; omega⟩
  rcases Nat.eq_zero_or_pos n with h0 | hp
  · exact .inl h0
  · right
    obtain ⟨g, cap', hv, hg, hlt⟩ := h.row.form hp
    obtain rfl : a = some ⟨g, 0, none⟩ := by simp only [Value.slice.injEq] at hv; exact hv.1
    refine ⟨g, 0, rfl, hlt, fun j hj => ?_⟩
    have hl := h.len
    rw [Nat.zero_add, h.row.cellAt j (by omega), List.getElem?_map, List.getD_eq_getElem?_getD, List.getElem?_eq_getElem (by omega)]
    rfl
theorem AppJ.ge {w : World} {B : Nat} {a : Option Addr} {n cap : Nat} {l : List Int} (h : AppJ w B a n cap l) : ∀ p, a = some p → B ≤ p.block := fun p hp => by
  subst hp
  exact (h.row.lt p.block rfl).1
end
end Go.Proofs.Ytglabahbklpocaa
