/- A list of one's own, of elements of several cells, that grows by append. Points: their cells; among the arguments; held against each other. A record among the arguments; the law's short, small. Lists of records: their cells; append without room. -/
import Derived.Test.YtglabahbklpocaaGreatGShipReads9
import Derived.Laws.AppendOwn
import Derived.Laws.OwnMore
import Derived.Deep.AppendLies
import Derived.Test.YtglabahbklpocaaGreatGShipReads5
import Derived.OpenShut
import Derived.ProofKit
import Derived.Lib.SmallJoins
import Derived.Deep.AppendSrc
namespace Go.Proofs.YtglabahbklpocaaGreat
section
open Go.RowKit
set_option maxRecDepth 100000
set_option linter.unusedVariables false
set_option linter.unusedSimpArgs false
/-- What append asks of an element's type. -/
structure Ety {α : Type} (cs : α → List Value) (S T : TypeId) (sz by_ : Nat) (z : Value) : Prop where
  hS : Tryz.prog.underlying S = some (.slice T)
  info : (Tryz.prog.info? T).map (fun i => (i.zero, i.size, i.bytes)) = some (some z, sz, by_)
  hz : z.cells.size = sz
  pos : 0 < sz
  bmax : by_ ≤ 1000
  len : ∀ x, (cs x).length = sz
  one : ∀ x, ∀ u ∈ cs x, u.oneCell' = true
/-- The slice at a, n elements long, is a row of its own, in memory from B on, and holds l. -/
structure AppE {α : Type} (cs : α → List Value) (T : TypeId) (sz : Nat) (w : World) (B : Nat) (a : Option Addr) (n cap : Nat) (l : List α) : Prop where
  len : l.length = n
  le : n ≤ cap
  max : cap ≤ maxLen
  row : w.ownsRow B T sz (.slice a n cap) n (l.flatMap cs)
theorem flat_get {α : Type} (cs : α → List Value) (sz : Nat) (hcs : ∀ x, (cs x).length = sz) (l : List α) (j : Nat) (x : α) (hx : l[j]? = some x) (k : Nat) (hk : k < sz) : (l.flatMap cs)[j * sz + k]? = (cs x)[k]? := by
  induction l generalizing j with
  | nil => simp at hx
  | cons y r ih =>
    rw [List.flatMap_cons]
    cases j with
    | zero =>
      simp only [List.getElem?_cons_zero, Option.some.injEq] at hx
      subst hx
      rw [Nat.zero_mul, Nat.zero_add, List.getElem?_append_left (by rw [hcs]; exact hk)]
    | succ j =>
      have := ih j (by simpa using hx)
      rw [List.getElem?_append_right (by rw [hcs, Nat.succ_mul]; omega), hcs, Nat.succ_mul]
      rw [show j * sz + sz + k - sz = j * sz + k by omega]
      exact this
section
variable {α : Type} {cs : α → List Value} {S T : TypeId} {sz by_ : Nat} {z : Value} {w w' : World} {B : Nat} {a : Option Addr} {n cap : Nat} {l : List α}
theorem appE_nil (w : World) (B : Nat) : AppE cs T sz w B none 0 0 [] := ⟨rfl, Nat.le_refl _, by unfold maxLen; omega, World.ownsRow_nil _ _ _ _⟩
theorem AppE.below (h : AppE cs T sz w B a n cap l) (hb : Below w.heap.size w w') : AppE cs T sz w' B a n cap l :=
  ⟨h.len, h.le, h.max, h.row.kept (row := none) ⟨hb.os, hb.tape, hb.output, hb.size, fun i hi _ => hb.block i hi⟩ (by cases Value.ownBlock (.slice a n cap) <;> simp)⟩
theorem AppE.same (h : AppE cs T sz w B a n cap l) (e : w'.heap = w.heap) : AppE cs T sz w' B a n cap l :=
  ⟨h.len, h.le, h.max, by have := h.row; unfold World.ownsRow at this ⊢; rw [e]; exact this⟩
theorem AppE.mono {B' : Nat} (h : AppE cs T sz w B a n cap l) (hB : B' ≤ B) : AppE cs T sz w B' a n cap l :=
  ⟨h.len, h.le, h.max, h.row.1, h.row.2.imp_right fun ⟨g, c, cur, e1, e2, e3⟩ => ⟨g, c, cur, e1, Nat.le_trans hB e2, e3⟩⟩
theorem AppE.lt (h : AppE cs T sz w B a n cap l) : ∀ p, a = some p → p.block < w.heap.size := fun p hp => by
  subst hp
  exact (h.row.lt p.block rfl).2
theorem AppE.reads (E : ∀ x, (cs x).length = sz) (hpos : 0 < sz) (h : AppE cs T sz w B a n cap l) : ReadsE cs sz w a n l ∧ (n = 0 ∨ ∃ g, a = some ⟨g, 0, none⟩ ∧ B ≤ g) := by
  rcases Nat.eq_zero_or_pos n with h0 | hp
  · exact ⟨⟨h.len, .inl h0⟩, .inl h0⟩
  · obtain ⟨g, cap', hv, hg, hlt⟩ := h.row.form hp
    obtain rfl : a = some ⟨g, 0, none⟩ := by simp only [Value.slice.injEq] at hv; exact hv.1
    refine ⟨⟨h.len, .inr ⟨g, 0, rfl, hlt, fun j x hj k u hk => ?_⟩⟩, .inr ⟨g, rfl, hg⟩⟩
    have hl := h.len
    have hjl : j < l.length := (List.getElem?_eq_some_iff.1 hj).1
    have hks : k < sz := by have := (List.getElem?_eq_some_iff.1 hk).1; rwa [E] at this
    have hin : j * sz + k < n * sz := by
      have : (j + 1) * sz ≤ n * sz := Nat.mul_le_mul_right _ (by omega)
      rw [Nat.succ_mul] at this
      omega
    rw [Nat.zero_add, h.row.cellAt _ hin, flat_get cs sz E l j x hj k hks]
    exact hk
theorem run_append_E (E : Ety cs S T sz by_ z) (ty : TypeId) (w : World) (h : AppE cs T sz w B a n cap l) (hB : B ≤ w.heap.size) (b o m c : Nat) (ys : List α) (hn : n + m ≤ 100000) (hm : ys.length = m) (hy : ∀ j x, ys[j]? = some x → CellsAt w b (o + j * sz) (cs x)) :
    ∃ a' cap' w', (Builtin.append_ #[S, S] ty #[.slice a n cap, .slice (some ⟨b, o, none⟩) m c]).run Tryz.prog w = .ok (.slice a' (n + m) cap') w' ∧ AppE cs T sz w' B a' (n + m) cap' (l ++ ys) ∧ Below B w w' ∧ w.grownBy w' (Value.slice a n cap).ownBlock ∧ (a' = none ↔ a = none ∧ m = 0) := by
  obtain ⟨i, hi, hii⟩ := Option.map_eq_some_iff.1 E.info
  simp only [Prod.mk.injEq] at hii
  obtain ⟨hz, hsize, hby⟩ := hii
  have hpos := E.pos
  have hlen : (ys.flatMap cs).length = m * sz := by
    subst hm
    clear hy hn
    induction ys with
    | nil => simp
    | cons y r ih => rw [List.flatMap_cons, List.length_append, ih, E.len, List.length_cons, Nat.succ_mul]; omega
  have hnews : ∀ j u, (ys.flatMap cs)[j]? = some u → w.cell? ((⟨b, o, none⟩ : Addr).add j) = some u := fun j u hj => by
    have hjl : j < m * sz := by have := (List.getElem?_eq_some_iff.1 hj).1; omega
    have hq : j / sz < m := Nat.div_lt_of_lt_mul (by rw [Nat.mul_comm]; exact hjl)
    have hr : j % sz < sz := Nat.mod_lt _ hpos
    have hx : ys[j / sz]? = some ys[j / sz] := List.getElem?_eq_getElem (by omega)
    have e : j / sz * sz + j % sz = j := by rw [Nat.mul_comm]; exact Nat.div_add_mod j sz
    have := flat_get cs sz E.len ys (j / sz) _ hx (j % sz) hr
    rw [e, hj] at this
    have := hy _ _ hx _ _ this.symm
    rw [Nat.add_assoc, e] at this
    rw [show (⟨b, o, none⟩ : Addr).add j = ⟨b, o + j, none⟩ by unfold Addr.add; split <;> simp_all]
    exact this
  have h1 := h.row
  obtain ⟨v', w', hr, ho, hg, hnil⟩ := run_append_own (P := Tryz.prog) w B S ty T i z sz by_ E.hS hi hz hsize hby E.hz hpos _ n _ h1 ⟨b, o, none⟩ m c (ys.flatMap cs) hlen hnews (by
    intro u hu
    obtain ⟨x, _, hx⟩ := List.mem_flatMap.1 hu
    exact E.one x u hx) (by unfold maxLen; omega) (by
      have := E.bmax
      have : (n + m) * by_ ≤ 100000 * 1000 := Nat.mul_le_mul hn this
      omega) hB
  have hform : ∃ a' cap', v' = .slice a' (n + m) cap' ∧ n + m ≤ cap' ∧ cap' ≤ maxLen := by
    rcases ho.2 with ⟨rfl, e⟩ | ⟨g', c', cur, rfl, _, _, h3, h4, _⟩
    · exact ⟨none, 0, by rw [e], by omega, by unfold maxLen; omega⟩
    · exact ⟨_, c', rfl, h3, h4⟩
  obtain ⟨a', cap', rfl, hc1, hc2⟩ := hform
  refine ⟨a', cap', w', hr, ⟨by simp [h.len, hm], hc1, hc2, by rw [List.flatMap_append]; exact ho⟩, (Below.refl B w).grown hg hB fun k hk => (h1.lt k hk).1, hg, ?_⟩
  constructor
  · intro e
    subst e
    rcases ho.2 with ⟨_, e⟩ | ⟨g', c', cur, e, _⟩
    · have hm0 : m = 0 := by omega
      refine ⟨?_, hm0⟩
      rcases h1.2 with ⟨e2, _⟩ | ⟨g', c', cur, e2, _, _, h3, h4, _⟩
      · simp only [Value.slice.injEq] at e2; exact e2.1
      · exfalso
        have := (hnil.1 (by
          rcases ho.2 with ⟨e3, _⟩ | ⟨_, _, _, e3, _⟩
          · exact e3
          · simp at e3)).1
        rw [e2] at this
        simp at this
    · simp at e
  · rintro ⟨rfl, rfl⟩
    have h0 : Value.slice none n cap = .slice none 0 0 := by
      rcases h1.2 with ⟨e2, _⟩ | ⟨g', c', cur, e2, _⟩
      · exact e2
      · simp at e2
    have := hnil.2 ⟨h0, rfl⟩
    simp only [Value.slice.injEq] at this
    exact this.1
theorem wpList_append_E (E : Ety cs S T sz by_ z) {ops : Array Oper} {rest : List Oper} {o : Oper} {act : Act} {Q : Exit → Act → World → Prop} (hgd : o.guard = none) (s x : Operand)
    (ho : o.op = .call { callee := .builtin .append, args := #[s, x], argTypes := #[S, S] }) (w : World) (B : Nat) (a : Option Addr) (n cap : Nat) (l : List α) (hs : act.eval s = .slice a n cap) (h : AppE cs T sz w B a n cap l) (hB : B ≤ w.heap.size) (hn : n < 100000)
    (g : Nat) (c : Nat) (y : α) (hx : act.eval x = .slice (some ⟨g, 0, none⟩) 1 c) (hy : CellsAt w g 0 (cs y))
    (hK : ∀ a' cap' w', AppE cs T sz w' B a' (n + 1) cap' (l ++ [y]) → Below B w w' → wpList Tryz.prog ops Q rest (act.put o.dst (.slice a' (n + 1) cap')) w') : wpList Tryz.prog ops Q (o :: rest) act w := by
  refine wpList_plain hgd fun K hK' => ?_
  obtain ⟨a', cap', w', hrun, h1, h2, _⟩ := run_append_E E o.type w h hB g 0 1 c [y] (by omega) rfl (fun j x hj => by
    cases j with
    | zero => simp at hj; subst hj; simpa using hy
    | succ j => simp at hj)
  unfold Oper.wp
  simp [execOp, ho, resolve, invoke, builtin, hs, hx, hrun, Result.andThen]
  exact hK' _ _ (hK a' cap' w' h1 h2)
end
end
end Go.Proofs.YtglabahbklpocaaGreat
namespace Go.Proofs.YtglabahbklpocaaGreat
section
open Go.RowKit Go.ChangeShapes Go.WideShapes Go.Joins Go.Deep
set_option maxRecDepth 100000
set_option linter.unusedVariables false
set_option linter.unusedSimpArgs false
/-- A point. -/
structure Pt where
  series : ByteArray
  time : Int
  value : Int
  st : St
def Pt.cs (p : Pt) : List Value := [.string p.series, .int .i64 p.time, .int .i64 p.value, .int .i64 p.st.clock, .int .i64 p.st.site, .int .i64 p.st.seq]
def Pt.val (p : Pt) : Value := .agg #[.string p.series, .int .i64 p.time, .int .i64 p.value, .int .i64 p.st.clock, .int .i64 p.st.site, .int .i64 p.st.seq]
def i64 (x : Int) : Prop := -9223372036854775808 ≤ x ∧ x ≤ 9223372036854775807
def St.wf' (a : St) : Prop := i64 a.clock ∧ i64 a.site ∧ i64 a.seq
def Pt.wf (p : Pt) : Prop := p.series.size ≤ maxLen ∧ i64 p.time ∧ i64 p.value ∧ p.st.wf'
theorem wf_i64 {x : Int} (h : i64 x) : (Lit.int .i64 x).wf = true := by
  unfold i64 at h
  simp [Lit.wf, IntKind.min, IntKind.max, IntKind.signed, IntKind.bits]
  omega
def ptL : List Leaf := [.str, .int .i64, .int .i64, .int .i64, .int .i64, .int .i64]
theorem pt_leaves : leaves Tryz.prog 5 90 = some ptL := by kernel_rfl
theorem pt_flat {p : Pt} (h : p.wf) : Flat ptL p.cs := by
  obtain ⟨h1, h2, h3, h4, h5, h6⟩ := h
  exact ⟨⟨_, rfl, h1⟩, ⟨_, rfl, wf_i64 h2⟩, ⟨_, rfl, wf_i64 h3⟩, ⟨_, rfl, wf_i64 h4⟩, ⟨_, rfl, wf_i64 h5⟩, ⟨_, rfl, wf_i64 h6⟩, trivial⟩
def ptO (p : Pt) : Obj := .cells #[.string p.series, .int .i64 p.time, .int .i64 p.value, .int .i64 p.st.clock, .int .i64 p.st.site, .int .i64 p.st.seq] 90 (0, 0)
theorem pt_len (p : Pt) : p.cs.length = 6 := rfl
theorem pt_one (p : Pt) : ∀ u ∈ p.cs, u.oneCell' = true := by
  intro u hu
  simp [Pt.cs] at hu
  rcases hu with rfl | rfl | rfl | rfl | rfl | rfl <;> rfl
structure PtC (w : World) (b o : Nat) (p : Pt) : Prop where
  c0 : w.cell? ⟨b, o, none⟩ = some (.string p.series)
  c1 : w.cell? ⟨b, o + 1, none⟩ = some (.int .i64 p.time)
  c2 : w.cell? ⟨b, o + 2, none⟩ = some (.int .i64 p.value)
  c3 : w.cell? ⟨b, o + 3, none⟩ = some (.int .i64 p.st.clock)
  c4 : w.cell? ⟨b, o + 4, none⟩ = some (.int .i64 p.st.site)
  c5 : w.cell? ⟨b, o + 5, none⟩ = some (.int .i64 p.st.seq)
theorem pt_cells {w : World} {b o : Nat} {p : Pt} (h : CellsAt w b o p.cs) : PtC w b o p := ⟨h 0 _ rfl, h 1 _ rfl, h 2 _ rfl, h 3 _ rfl, h 4 _ rfl, h 5 _ rfl⟩
theorem pt_ety : Ety Pt.cs 31 90 6 56 (.agg #[.string ⟨#[]⟩, .int .i64 0, .int .i64 0, .int .i64 0, .int .i64 0, .int .i64 0]) :=
  ⟨Tryz.underlying31, by kernel_rfl, rfl, by decide, by decide, pt_len, pt_one⟩
section
variable {H : Type} {enc : TypeId × Value → H} {W : World} {r : Reach} {b0 : Nat} {v : Value} {d : DataW H} {ps : List MemPlace}
end
theorem Pt.cs_inj {a b : Pt} (h : a.cs = b.cs) : a = b := by
  obtain ⟨s, t, v, ⟨c, i, q⟩⟩ := a
  obtain ⟨s', t', v', ⟨c', i', q'⟩⟩ := b
  simp only [Pt.cs, List.cons.injEq, Value.int.injEq, Value.string.injEq, true_and, and_true] at h
  obtain ⟨rfl, rfl, rfl, rfl, rfl, rfl⟩ := h
  rfl
open Classical in
theorem eq_pt (a b : Pt) (ha : a.wf) (hb : b.wf) (w : World) : (binOp .eql 90 a.val b.val).run Tryz.prog w = .ok (.bool (decide (a = b))) w ∧ (binOp .neq 90 a.val b.val).run Tryz.prog w = .ok (.bool (!decide (a = b))) w :=
  eql_flat 5 (by decide) 90 ptL pt_leaves (by kernel_rfl) (by kernel_rfl) (by kernel_rfl) a.cs b.cs (pt_flat ha) (pt_flat hb) (a = b) ⟨fun e => by rw [e], Pt.cs_inj⟩ w
end
end Go.Proofs.YtglabahbklpocaaGreat
namespace Go.Proofs.YtglabahbklpocaaGreat
section
open Go.ChangeShapes Go.WideShapes Go.ChangeAt Go.RowKit Go.Joins Go.Deep
set_option maxRecDepth 100000
set_option linter.unusedVariables false
set_option linter.unusedSimpArgs false
attribute [local go_sem ↓] Go.wp_at_zero Go.wp_at_succ
structure RecA where
  r : Rc
  d : Sl
  ds : List Int
def RecA.val (x : RecA) : Value := rcVal x.r x.d
structure RecA.ok (w : World) (x : RecA) : Prop where
  wf : x.r.wf
  sl : SlR w x.d x.ds
theorem maxLen_i {n : Nat} (h : n ≤ maxLen) : n ≤ 9223372036854775807 := by unfold maxLen at h; omega
end
end Go.Proofs.YtglabahbklpocaaGreat
namespace Go.Proofs.YtglabahbklpocaaGreat
section
open Go.RowKit Go.Deep
set_option maxRecDepth 100000
set_option linter.unusedVariables false
set_option linter.unusedSimpArgs false
attribute [local go_sem ↓] Go.wp_at_zero Go.wp_at_succ
def RecA.cs (x : RecA) : List Value := (rcA x.r x.d).toList
theorem rec_len (x : RecA) : x.cs.length = 9 := rfl
theorem rec_one (x : RecA) : ∀ u ∈ x.cs, u.oneCell' = true := by
  intro u hu
  simp [RecA.cs, rcA] at hu
  rcases hu with rfl | rfl | rfl | rfl | rfl | rfl | rfl | rfl | rfl <;> rfl
theorem rec_ety : Ety RecA.cs 22 60 9 96 (.agg #[.int .i64 0, .string ⟨#[]⟩, .int .i64 0, .int .i64 0, .int .i64 0, .int .i64 0, .int .i64 0, .int .i64 0, .slice none 0 0]) :=
  ⟨Tryz.underlying22, by kernel_rfl, rfl, by decide, by decide, rec_len, rec_one⟩
theorem flat_len {α : Type} {cs : α → List Value} {sz : Nat} (h : ∀ x, (cs x).length = sz) (l : List α) : (l.flatMap cs).length = l.length * sz := by
  induction l with
  | nil => simp
  | cons y r ih => rw [List.flatMap_cons, List.length_append, ih, h, List.length_cons, Nat.succ_mul]; omega
section
variable {α : Type} {cs : α → List Value} {S T : TypeId} {sz by_ : Nat} {z : Value} {w w' : World} {B : Nat} {a : Option Addr} {n cap : Nat} {l : List α}
end
end
end Go.Proofs.YtglabahbklpocaaGreat
