/- A list of bytes of one's own that grows by append, byte by byte; and its text. -/
import Derived.Test.YtafjpgkffgmokaaGen
import Derived.Laws.AppendOwn
import Derived.Laws.OwnMore
import Derived.Deep.AppendLies
namespace Go.Proofs.Ytafjpgkffgmokaa
open Go.RowKit
set_option linter.unusedVariables false
set_option linter.unusedSimpArgs false
/-- The slice at a, n bytes long, is a row of its own, in memory from B on, and holds l. -/
structure AppI (w : World) (B : Nat) (a : Option Addr) (n cap : Nat) (l : List Int) : Prop where
  len : l.length = n
  le : n ≤ cap
  max : cap ≤ maxLen
  row : w.ownsRow B 5 1 (.slice a n cap) n (l.map (Value.int .u8))
theorem app_nil (w : World) (B : Nat) : AppI w B none 0 0 [] := ⟨rfl, Nat.le_refl _, by unfold maxLen; omega, World.ownsRow_nil _ _ _ _⟩
theorem AppI.below {w w' : World} {B : Nat} {a : Option Addr} {n cap : Nat} {l : List Int} (h : AppI w B a n cap l) (hb : Below w.heap.size w w') : AppI w' B a n cap l :=
  ⟨h.len, h.le, h.max, h.row.kept (row := none) ⟨hb.os, hb.tape, hb.output, hb.size, fun i hi _ => hb.block i hi⟩ (by cases Value.ownBlock (.slice a n cap) <;> simp)⟩
theorem info_u8 : (Try.prog.info? 5).map (fun i => (i.zero, i.size, i.bytes)) = some (some (.int .u8 0), 1, 1) := by kernel_rfl
theorem run_append_u8 (ty : TypeId) (w : World) (B : Nat) (a : Option Addr) (n cap : Nat) (l : List Int) (h : AppI w B a n cap l) (hB : B ≤ w.heap.size) (hn : n ≤ 100000) (ad : Addr) (c : Nat) (y : Int) (hy : w.cell? ad = some (.int .u8 y)) :
    ∃ a' cap' w', (Builtin.append_ #[50, 50] ty #[.slice a n cap, .slice (some ad) 1 c]).run Try.prog w = .ok (.slice a' (n + 1) cap') w' ∧ AppI w' B a' (n + 1) cap' (l ++ [y]) ∧ Below B w w' := by
  obtain ⟨i, hi, hii⟩ := Option.map_eq_some_iff.1 info_u8
  simp only [Prod.mk.injEq] at hii
  obtain ⟨hz, hsize, hby⟩ := hii
  have hnews : ∀ j u, [Value.int .u8 y][j]? = some u → w.cell? (ad.add j) = some u := fun j u hj => by
    cases j with
    | zero => simp at hj; subst hj; simpa [Addr.add] using hy
    | succ j => simp at hj
  have h1 := h.row
  obtain ⟨v', w', hr, ho, hg, hnil⟩ := run_append_own (P := Try.prog) w B 50 ty 5 i (.int .u8 0) 1 1 Try.underlying50 hi hz hsize hby rfl (by decide) _ n _ h1 ad 1 c [.int .u8 y] rfl hnews (by intro u hu; simp at hu; subst hu; rfl) (by unfold maxLen; omega) (by omega) hB
  obtain ⟨g, cap', rfl, hgB, hgl⟩ := ho.form (by omega)
  have hcap : n + 1 ≤ cap' ∧ cap' ≤ maxLen := by
    rcases ho.2 with ⟨e, _⟩ | ⟨g', c', cur, e, _, _, h3, h4, _⟩
    · simp at e
    · simp only [Value.slice.injEq, Option.some.injEq, Addr.mk.injEq, and_true, true_and] at e
      obtain ⟨rfl, rfl⟩ := e
      exact ⟨h3, h4⟩
  exact ⟨_, cap', w', hr, ⟨by simp [h.len], hcap.1, hcap.2, by simpa using ho⟩, (Below.refl B w).grown hg hB fun k hk => (h1.lt k hk).1⟩
theorem wpList_append_u8 {ops : Array Oper} {rest : List Oper} {o : Oper} {act : Act} {Q : Exit → Act → World → Prop} (hgd : o.guard = none) (s x : Operand)
    (ho : o.op = .call { callee := .builtin .append, args := #[s, x], argTypes := #[50, 50] }) (w : World) (B : Nat) (a : Option Addr) (n cap : Nat) (l : List Int) (hs : act.eval s = .slice a n cap) (h : AppI w B a n cap l) (hB : B ≤ w.heap.size) (hn : n ≤ 100000)
    (ad : Addr) (c : Nat) (y : Int) (hx : act.eval x = .slice (some ad) 1 c) (hy : w.cell? ad = some (.int .u8 y))
    (hK : ∀ a' cap' w', AppI w' B a' (n + 1) cap' (l ++ [y]) → Below B w w' → wpList Try.prog ops Q rest (act.put o.dst (.slice a' (n + 1) cap')) w') : wpList Try.prog ops Q (o :: rest) act w := by
  refine wpList_plain hgd fun K hK' => ?_
  obtain ⟨a', cap', w', hrun, h1, h2⟩ := run_append_u8 o.type w B a n cap l h hB hn ad c y hy
  unfold Oper.wp
  simp [execOp, ho, resolve, invoke, builtin, hs, hx, hrun, Result.andThen]
  exact hK' _ _ (hK a' cap' w' h1 h2)
theorem app_text {w : World} {B : Nat} {a : Option Addr} {n cap : Nat} {l : List Int} (h : AppI w B a n cap l) (hn : 0 < n) (hx : ∀ x ∈ l, 0 ≤ x ∧ x < 256) :
    (convert 50 9 (.slice a n cap)).run Try.prog w = .ok (.string (strOfNums l)) w := by
  obtain ⟨g, cap', hv, hg, hlt⟩ := h.row.form hn
  simp only [Value.slice.injEq] at hv
  obtain ⟨rfl, -, rfl⟩ := hv
  obtain ⟨e1, e2, e3⟩ := h.len
  exact run_convert_bytes_arg (P := Try.prog) w 50 5 Try.underlying50 Try.underlying5 g 0 l.length cap l rfl (fun j hj => by
    rw [Nat.zero_add, h.row.cellAt j (by omega), List.getElem?_map, List.getD_eq_getElem?_getD, List.getElem?_eq_getElem hj]
    rfl) 9 Try.underlying9
end Go.Proofs.Ytafjpgkffgmokaa
