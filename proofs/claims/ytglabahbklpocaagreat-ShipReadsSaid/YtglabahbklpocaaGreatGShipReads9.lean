/- Known blocks, more: cells out of them, whole rows written, blocks that are made. Records: which may be; their cells. A slice of whole numbers among the arguments, as a walk is told of it. What the cells of a type's value are, leaf by leaf; arguments opened by their leaves; lists of elements of several cells in memory. '==' of structs and arrays whose leaves are numbers, texts and bools: whether the cells are the same. -/
import Derived.Test.YtglabahbklpocaaGreatGShipReads8
import Derived.Deep.RegionHeld3
import Derived.Deep.DrawnRows
import Derived.Deep.DeepCutAuto
import Derived.Deep.CutBlock
import Derived.Deep.WholeRow
import Derived.Deep.MidRow
import Derived.Test.YtglabahbklpocaaGreatGShipReads2
import Derived.Test.YtglabahbklpocaaGreatGShipReads4
import Derived.Test.YtglabahbklpocaaGreatGShipReads5
import Derived.Test.YtglabahbklpocaaGreatGShipReads3
import Derived.Test.YtglabahbklpocaaGreatGShipReads1
import Derived.ProofKit
import Derived.OpenShut
import Derived.ChangeArms
import Derived.ChangeSlices
import Derived.DataReads
import Derived.Deep.Strs
import Derived.ChangeOld
import Derived.Below
import Derived.Lib.SmallJoins
import Derived.Laws.StructEq
import Derived.DeepKeys
namespace Go.Proofs.YtglabahbklpocaaGreat
section
open Go.RowKit
set_option maxRecDepth 100000
set_option linter.unusedVariables false
set_option linter.unusedSimpArgs false
theorem cell_row_far {w : World} {g b o : Nat} {v : Value} {cs : Array Value} (h : w.cell? ⟨b, o, none⟩ = some v) (hne : b ≠ g) : (w.setRow g cs).cell? ⟨b, o, none⟩ = some v := by
  rw [← h]
  simp only [World.cell?]
  rw [setRow_other w g b cs hne]
/-- No listed block is g. -/
def Apart (g : Nat) : List (Nat × Obj) → Prop
  | [] => True
  | p :: r => p.1 ≠ g ∧ Apart g r
theorem Apart.all {g : Nat} {l : List (Nat × Obj)} (h : Apart g l) : ∀ p ∈ l, p.1 ≠ g := by
  induction l with
  | nil => simp
  | cons q r ih =>
    intro p hp
    rcases List.mem_cons.1 hp with rfl | hp
    · exact h.1
    · exact ih h.2 p hp
section
variable {B : Nat} {w0 w : World} {l : List (Nat × Obj)} {g : Nat} {o : Obj}
theorem Kn.new' (h : Kn B w0 l w) {n : Nat} (hn : w.heap.size = n) (o : Obj) : Kn B w0 ((n, o) :: l) (w.alloc o) := by subst hn; exact h.new o
theorem Kn.cell (h : Kn B w0 l w) (hm : (g, o) ∈ l) {cs : Array Value} {T : TypeId} {fr : Nat × Nat} {j : Nat} {v : Value} (hv : cs[j]? = some v) (ho : o = .cells cs T fr := by rfl) : w.cell? ⟨g, j, none⟩ = some v := by
  have := h.at_ _ hm
  subst ho
  simp only [World.cell?, this]
  exact hv
theorem Kn.fz (h : Kn B w0 l w) (hm : (g, o) ∈ l) (j : Nat) {cs : Array Value} {T : TypeId} (ho : o = .cells cs T (0, 0) := by rfl) : w.frozen? ⟨g, j, none⟩ = false := by
  have := h.at_ _ hm
  subst ho
  simp [World.frozen?, this]
theorem Kn.fresh (h : Kn B w0 ((g, o) :: l) w) : g < w.heap.size := h.lt (g, o) (List.mem_cons_self ..)
theorem Kn.setRow (h : Kn B w0 ((g, o) :: l) w) (hl : Apart g l) (hg : B ≤ g) (o' : Obj) {cs cs' : Array Value} {T : TypeId} (ho' : o' = .cells cs' T (0, 0) := by rfl) (ho : o = .cells cs T (0, 0) := by rfl) : Kn B w0 ((g, o') :: l) (w.setRow g cs') := by
  subst ho ho'
  refine Kn.but h (o' := .cells cs' T (0, 0)) ⟨rfl, rfl, rfl, by simp [World.setRow], fun i hi hne => setRow_other w g i cs' (by simpa using hne)⟩ hl.all hg (setRow_heap w g _ _ _ _ h.hd)
theorem Kn.setCell (h : Kn B w0 ((g, o) :: l) w) (hl : Apart g l) (hg : B ≤ g) (j : Nat) (v : Value) (o' : Obj) {cs : Array Value} {T : TypeId} (ho' : o' = .cells (cs.setIfInBounds j v) T (0, 0)) (ho : o = .cells cs T (0, 0) := by rfl) : Kn B w0 ((g, o') :: l) (w.setCell ⟨g, j, none⟩ v) := by
  subst ho ho'
  exact Kn.but h (o' := .cells (cs.setIfInBounds j v) T (0, 0)) (But.set g j w v) hl.all hg (heap_setCell_same w g j cs T v h.hd)
end
/-- A whole row loaded, guarded, where it is wanted. -/
theorem wpList_load_row_w {P : Program} {ops : Array Oper} {rest : List Oper} {o : Oper} {a : Act} {w : World} {Q : Exit → Act → World → Prop} (hw : Region.wanted o (yielded ops a.tmps) = true) (ty : TypeId) (x : Operand) (ho : o.op = .load ty x)
    (g : Nat) (hx : a.eval x = .pointer (some ⟨g, 0, none⟩)) (t : TypeId) (cs : Array Value) (fr : Nat × Nat) (d : TypeDesc) (hg : w.heap[g]? = some (.cells cs t fr))
    (hu : P.underlying ty = some d) (hd : (match d with | .struct _ | .array _ _ => true | _ => false) = true) (hi : (P.info? ty).map (·.size) = some cs.size)
    (h : wpList P ops Q rest (a.put o.dst (.agg cs)) w) : wpList P ops Q (o :: rest) a w := by
  unfold wpList
  rw [if_pos hw]
  exact .inl (wp_load_row ty x ho g hx t cs fr d hg hu hd hi h)
/-- A struct loaded out of the middle of a block. -/
theorem exec_load_mid {P : Program} {o : Oper} {a : Act} {w : World} (ty : TypeId) (x : Operand) (ho : o.op = .load ty x)
    (b off : Nat) (hx : a.eval x = .pointer (some ⟨b, off, none⟩)) (cs : List Value) (d : TypeDesc) (hc : w.rangeAt b off cs)
    (hu : P.underlying ty = some d) (hd : d.isRow = true) (hi : (P.info? ty).map (·.size) = some cs.length) :
    (execOp a.eval o).run P w = .ok (.value (.agg cs.toArray)) w := by
  unfold execOp
  simp only [ho, hx, Instr.loadAt, Instr.sureAddr, Sem.run_bind, Sem.run_pure, Result.andThen_ok, run_loadVar_mid w b off ty cs d hc hu hd hi]
end
end Go.Proofs.YtglabahbklpocaaGreat
namespace Go.Proofs.YtglabahbklpocaaGreat
section
open Go.RowKit
set_option maxRecDepth 100000
set_option linter.unusedVariables false
set_option linter.unusedSimpArgs false
attribute [local go_sem ↓] Go.wp_at_zero Go.wp_at_succ
/-- A record without its Deps. -/
structure Rc where
  kind : Int
  series : ByteArray
  time : Int
  value : Int
  tier : Int
  st : St

def i64' (x : Int) : Prop := -9223372036854775808 ≤ x ∧ x ≤ 9223372036854775807
structure Sl where
  a : Option Addr
  n : Nat
  c : Nat
def Sl.val (s : Sl) : Value := .slice s.a s.n s.c
def rcA (r : Rc) (d : Sl) : Array Value := #[.int .i64 r.kind, .string r.series, .int .i64 r.time, .int .i64 r.value, .int .i64 r.tier, .int .i64 r.st.clock, .int .i64 r.st.site, .int .i64 r.st.seq, .slice d.a d.n d.c]
def rcVal (r : Rc) (d : Sl) : Value := .agg (rcA r d)
def rcO (r : Rc) (d : Sl) : Obj := .cells (rcA r d) 60 (0, 0)
/-- The slice d reads as xs. -/
structure SlR (w : World) (d : Sl) (xs : List Int) : Prop where
  r : ReadsI .i64 w d.a d.n xs
  nc : d.n ≤ d.c
  cb : d.c ≤ 9223372036854775807
theorem SlR.below {w w' : World} {d : Sl} {xs : List Int} (h : SlR w d xs) (hb : Below w.heap.size w w') : SlR w' d xs := ⟨h.r.below hb, h.nc, h.cb⟩
theorem SlR.same {w wd : World} {d : Sl} {xs : List Int} (h : SlR w d xs) (e : wd.heap = w.heap) : SlR wd d xs := by
  obtain ⟨⟨h1, h2⟩, h3, h4⟩ := h
  refine ⟨⟨h1, h2.imp_right fun ⟨b, o, e1, e2, e3⟩ => ⟨b, o, e1, by rw [e]; exact e2, fun j hj => ?_⟩⟩, h3, h4⟩
  have := e3 j hj
  simp only [World.cell?] at this ⊢
  rw [e]; exact this
def Rc.wf (r : Rc) : Prop := i64' r.kind ∧ r.series.size ≤ 9223372036854775807 ∧ i64' r.time ∧ i64' r.value ∧ i64' r.tier ∧ i64' r.st.clock ∧ i64' r.st.site ∧ i64' r.st.seq
def recP (r : Rc) (ds : List Int) : Prop := clockV r.time = true ∧ okV r.st = true ∧ ds = pl ds ∧ atV ds r.st.site = r.st.seq - 1 ∧ ((r.kind = 1 ∧ nameV r.series = true ∧ r.tier = 0) ∨ (r.kind = 2 ∧ r.series.size = 0 ∧ r.value = 0 ∧ 0 ≤ r.tier ∧ r.tier ≤ 3))
open Classical in
noncomputable def chkR (r : Rc) (ds : List Int) : Int := if recP r ds then 0 else 1
theorem chkR_0 {r : Rc} {ds : List Int} (h : recP r ds) : chkR r ds = 0 := if_pos h
theorem chkR_1 {r : Rc} {ds : List Int} (h : ¬ recP r ds) : chkR r ds = 1 := if_neg h
structure RcC (w : World) (g : Nat) (r : Rc) (d : Sl) : Prop where
  c0 : w.cell? ⟨g, 0, none⟩ = some (.int .i64 r.kind)
  c1 : w.cell? ⟨g, 1, none⟩ = some (.string r.series)
  c2 : w.cell? ⟨g, 2, none⟩ = some (.int .i64 r.time)
  c3 : w.cell? ⟨g, 3, none⟩ = some (.int .i64 r.value)
  c4 : w.cell? ⟨g, 4, none⟩ = some (.int .i64 r.tier)
  c5 : w.cell? ⟨g, 5, none⟩ = some (.int .i64 r.st.clock)
  c6 : w.cell? ⟨g, 6, none⟩ = some (.int .i64 r.st.site)
  c7 : w.cell? ⟨g, 7, none⟩ = some (.int .i64 r.st.seq)
  c8 : w.cell? ⟨g, 8, none⟩ = some (.slice d.a d.n d.c)
theorem rc_cells {w wd : World} {g : Nat} {r : Rc} {d : Sl} (h : w.heap[g]? = some (rcO r d)) (e : wd.heap = w.heap) : RcC wd g r d := by
  have q : ∀ j v, (rcA r d)[j]? = some v → wd.cell? ⟨g, j, none⟩ = some v := fun j v hv => by
    simp only [World.cell?, e, h, rcO]
    exact hv
  exact ⟨q 0 _ rfl, q 1 _ rfl, q 2 _ rfl, q 3 _ rfl, q 4 _ rfl, q 5 _ rfl, q 6 _ rfl, q 7 _ rfl, q 8 _ rfl⟩
theorem RcC.conj {w : World} {g : Nat} {r : Rc} {d : Sl} (h : RcC w g r d) : w.cell? ⟨g, 2, none⟩ = some (.int .i64 r.time) ∧ w.cell? ⟨g, 5, none⟩ = some (.int .i64 r.st.clock) ∧ w.cell? ⟨g, 6, none⟩ = some (.int .i64 r.st.site) ∧ w.cell? ⟨g, 7, none⟩ = some (.int .i64 r.st.seq) ∧ w.cell? ⟨g, 8, none⟩ = some (.slice d.a d.n d.c) := ⟨h.c2, h.c5, h.c6, h.c7, h.c8⟩
end
end Go.Proofs.YtglabahbklpocaaGreat
namespace Go.Proofs.YtglabahbklpocaaGreat
section
open Go.ChangeShapes Go.WideShapes Go.ChangeAt Go.RowKit
set_option maxRecDepth 100000
set_option linter.unusedVariables false
set_option linter.unusedSimpArgs false
end
end Go.Proofs.YtglabahbklpocaaGreat
namespace Go.Proofs.YtglabahbklpocaaGreat
section
open Go.ChangeShapes Go.WideShapes Go.ChangeAt Go.RowKit Go.Joins Go.Deep
set_option maxRecDepth 100000
set_option linter.unusedVariables false
set_option linter.unusedSimpArgs false
inductive Leaf where
  | int (k : IntKind)
  | str
  | bool
  | sl (t e : TypeId)
def addLeaf (P : Program) (rec : TypeId → Option (List Leaf)) : List Leaf → List Field → Option (List Leaf)
  | acc, [] => some acc
  | acc, f :: fs => (rec f.type).bind fun l => if f.offset = acc.length ∧ P.cellsOf f.type = l.length then addLeaf P rec (acc ++ l) fs else none
def leaves (P : Program) : Nat → TypeId → Option (List Leaf)
  | 0, _ => none
  | d + 1, t =>
    match P.underlying t with
    | some (.int k) => some [.int k]
    | some .string => some [.str]
    | some .bool => some [.bool]
    | some (.slice e) => some [.sl t e]
    | some (.struct fs) => (addLeaf P (leaves P d) [] fs.toList).bind fun l => if P.cellsOf t = l.length then some l else none
    | some (.array n e) => (leaves P d e).bind fun l => if P.cellsOf e = l.length ∧ P.cellsOf t = n * l.length then some (List.replicate n l).flatten else none
    | _ => none
def LeafIs {H : Type} (enc : TypeId × Value → H) (P : Program) (w : World) (l : Leaf) (v : Value) : Prop :=
  match l with
  | .int k => ∃ n, v = .int k n ∧ (Lit.int k n).wf = true
  | .str => ∃ s : ByteArray, v = .string s ∧ s.size ≤ maxLen
  | .bool => ∃ b : Bool, v = .bool b
  | .sl t e => P.underlying t = some (.slice e) ∧ ∃ fuel y, DataW.trod enc P w 0 (fun _ => true) true fuel t [v] = some y
def Fits {H : Type} (enc : TypeId × Value → H) (P : Program) (w : World) : List Leaf → List Value → Prop
  | [], [] => True
  | l :: ls, v :: vs => LeafIs enc P w l v ∧ Fits enc P w ls vs
  | _, _ => False
section
variable {H : Type} {enc : TypeId × Value → H} {P : Program} {w : World}
end
/-- The cells from o on in block b. -/
def CellsAt (w : World) (b o : Nat) (l : List Value) : Prop := ∀ j u, l[j]? = some u → w.cell? ⟨b, o + j, none⟩ = some u
theorem CellsAt.below {w w' : World} {b o : Nat} {l : List Value} (h : CellsAt w b o l) (hb : Below w.heap.size w w') (hlt : b < w.heap.size) : CellsAt w' b o l := fun j u hj => (hb.cell (p := ⟨b, _, none⟩) hlt).trans (h j u hj)
theorem CellsAt.belowB {w w' : World} {B b o : Nat} {l : List Value} (h : CellsAt w b o l) (hb : Below B w w') (hlt : b < B) : CellsAt w' b o l := fun j u hj => (hb.cell (p := ⟨b, _, none⟩) hlt).trans (h j u hj)
theorem CellsAt.same {w w' : World} {b o : Nat} {l : List Value} (h : CellsAt w b o l) (e : w'.heap = w.heap) : CellsAt w' b o l := fun j u hj => by
  have := h j u hj
  simp only [World.cell?] at this ⊢
  rw [e]
  exact this
/-- A slice at a, n elements long, whose elements have the cells cs x (sz each). -/
def ReadsE {α : Type} (cs : α → List Value) (sz : Nat) (w : World) (a : Option Addr) (n : Nat) (xs : List α) : Prop :=
  xs.length = n ∧ (n = 0 ∨ ∃ b o, a = some ⟨b, o, none⟩ ∧ b < w.heap.size ∧ ∀ j x, xs[j]? = some x → CellsAt w b (o + j * sz) (cs x))
section
variable {α : Type} {cs : α → List Value} {sz : Nat} {w w' : World} {a : Option Addr} {n : Nat} {xs : List α}
theorem ReadsE.belowB {B : Nat} (h : ReadsE cs sz w a n xs) (hB : ∀ p, a = some p → n ≠ 0 → p.block < B) (hle : B ≤ w.heap.size) (hb : Below B w w') : ReadsE cs sz w' a n xs := by
  obtain ⟨h1, h2⟩ := h
  refine ⟨h1, ?_⟩
  rcases h2 with h2 | ⟨b, o, rfl, h4, h5⟩
  · exact .inl h2
  · rcases Nat.eq_zero_or_pos n with h0 | h0
    · exact .inl h0
    · have hlt : b < B := hB ⟨b, o, none⟩ rfl (by omega)
      exact .inr ⟨b, o, rfl, Nat.lt_of_lt_of_le h4 hb.size, fun j x hj => (h5 j x hj).belowB hb hlt⟩
theorem ReadsE.below (h : ReadsE cs sz w a n xs) (hb : Below w.heap.size w w') : ReadsE cs sz w' a n xs := by
  obtain ⟨h1, h2⟩ := h
  refine ⟨h1, ?_⟩
  rcases h2 with h2 | ⟨b, o, rfl, h4, h5⟩
  · exact .inl h2
  · exact .inr ⟨b, o, rfl, Nat.lt_of_lt_of_le h4 hb.size, fun j x hj => (h5 j x hj).below hb h4⟩
theorem ReadsE.same (h : ReadsE cs sz w a n xs) (e : w'.heap = w.heap) : ReadsE cs sz w' a n xs := by
  obtain ⟨h1, h2⟩ := h
  refine ⟨h1, ?_⟩
  rcases h2 with h2 | ⟨b, o, rfl, h4, h5⟩
  · exact .inl h2
  · exact .inr ⟨b, o, rfl, by rw [e]; exact h4, fun j x hj => (h5 j x hj).same e⟩
/-- Element k, at a world that has turned nothing of what was there. -/
theorem ReadsE.at (h : ReadsE cs sz w a n xs) {wr : World} (hb : Below w.heap.size w wr) (k : Nat) (hk : k < n) : ∃ b o x, a = some ⟨b, o, none⟩ ∧ b < w.heap.size ∧ xs[k]? = some x ∧ CellsAt wr b (o + k * sz) (cs x) := by
  obtain ⟨h1, h2⟩ := h
  obtain ⟨b, o, e, hlt, hc⟩ := h2.resolve_left (by omega)
  have hx : xs[k]? = some xs[k] := List.getElem?_eq_getElem (by omega)
  exact ⟨b, o, xs[k], e, hlt, hx, (hc k _ hx).below hb hlt⟩
theorem ReadsE.nil (w : World) : ReadsE cs sz w none 0 [] := ⟨rfl, .inl rfl⟩
theorem ReadsE.take (h : ReadsE cs sz w a n xs) (m : Nat) (hm : m ≤ n) : ReadsE cs sz w a m (xs.take m) := by
  obtain ⟨h1, h2⟩ := h
  refine ⟨by rw [List.length_take]; omega, ?_⟩
  rcases h2 with h2 | ⟨b, o, h3, h4, h5⟩
  · exact .inl (by omega)
  · refine .inr ⟨b, o, h3, h4, fun j x hj => h5 j x ?_⟩
    rw [List.getElem?_take] at hj
    split at hj
    · exact hj
    · simp at hj
theorem ReadsE.drop {b o : Nat} (h : ReadsE cs sz w (some ⟨b, o, none⟩) n xs) (m : Nat) (hm : m ≤ n) : ReadsE cs sz w (some ⟨b, o + m * sz, none⟩) (n - m) (xs.drop m) := by
  obtain ⟨h1, h2⟩ := h
  refine ⟨by rw [List.length_drop]; omega, ?_⟩
  rcases h2 with h2 | ⟨b', o', h3, h4, h5⟩
  · exact .inl (by omega)
  · simp only [Option.some.injEq, Addr.mk.injEq, and_true] at h3
    obtain ⟨rfl, rfl⟩ := h3
    refine .inr ⟨b, _, rfl, h4, fun j x hj => ?_⟩
    rw [List.getElem?_drop] at hj
    have := h5 (m + j) x hj
    rwa [Nat.add_mul, ← Nat.add_assoc] at this
end
end
end Go.Proofs.YtglabahbklpocaaGreat
namespace Go.Proofs.YtglabahbklpocaaGreat
section
open Go.RowKit
set_option maxRecDepth 100000
set_option linter.unusedVariables false
set_option linter.unusedSimpArgs false
def litOf : Value → Lit
  | .int k n => .int k n
  | .string s => .string s.data.toList
  | .bool b => .bool b
  | _ => .bool false
/-- The same as Fits, said by the values alone. -/
def Flat : List Leaf → List Value → Prop
  | [], [] => True
  | .int k :: ls, v :: vs => (∃ n, v = .int k n ∧ (Lit.int k n).wf = true) ∧ Flat ls vs
  | .str :: ls, v :: vs => (∃ s : ByteArray, v = .string s ∧ s.size ≤ maxLen) ∧ Flat ls vs
  | .bool :: ls, v :: vs => (∃ b : Bool, v = .bool b) ∧ Flat ls vs
  | _, _ => False
theorem Flat.len {ls : List Leaf} {cs : List Value} (h : Flat ls cs) : cs.length = ls.length := by
  induction ls generalizing cs with
  | nil => cases cs with
    | nil => rfl
    | cons _ _ => exact h.elim
  | cons l ls ih => cases cs with
    | nil => cases l <;> exact h.elim
    | cons v vs => cases l with
      | sl _ _ => exact h.elim
      | _ => simp [ih h.2]
theorem Flat.app {a b : List Leaf} {cs : List Value} (h : Flat (a ++ b) cs) : Flat a (cs.take a.length) ∧ Flat b (cs.drop a.length) := by
  induction a generalizing cs with
  | nil => exact ⟨by simp [Flat], h⟩
  | cons l ls ih => cases cs with
    | nil => cases l <;> exact h.elim
    | cons v vs => cases l with
      | sl _ _ => exact h.elim
      | _ => exact ⟨⟨h.1, (ih h.2).1⟩, (ih h.2).2⟩
theorem flat_inj {ls : List Leaf} {cs ds : List Value} (h : Flat ls cs) (k : Flat ls ds) (e : cs.map litOf = ds.map litOf) : cs = ds := by
  induction ls generalizing cs ds with
  | nil =>
    cases cs with
    | nil => cases ds with
      | nil => rfl
      | cons _ _ => exact k.elim
    | cons _ _ => exact h.elim
  | cons l ls ih =>
    cases cs with
    | nil => cases l <;> exact h.elim
    | cons v vs => cases ds with
      | nil => cases l <;> exact k.elim
      | cons u us =>
        simp only [List.map_cons, List.cons.injEq] at e
        cases l with
        | sl _ _ => exact h.elim
        | int kk =>
          obtain ⟨⟨n, rfl, _⟩, h2⟩ := h
          obtain ⟨⟨m, rfl, _⟩, k2⟩ := k
          have e1 := e.1
          simp only [litOf, Lit.int.injEq, true_and] at e1
          rw [ih h2 k2 e.2, e1]
        | str =>
          obtain ⟨⟨n, rfl, _⟩, h2⟩ := h
          obtain ⟨⟨m, rfl, _⟩, k2⟩ := k
          have e1 := e.1
          simp only [litOf, Lit.string.injEq] at e1
          have : n = m := ByteArray.ext (Array.ext' e1)
          rw [ih h2 k2 e.2, this]
        | bool =>
          obtain ⟨⟨n, rfl⟩, h2⟩ := h
          obtain ⟨⟨m, rfl⟩, k2⟩ := k
          have e1 := e.1
          simp only [litOf, Lit.bool.injEq] at e1
          rw [ih h2 k2 e.2, e1]
section
variable {P : Program} {w : World}
theorem lits_rep (d : Nat) (e : TypeId) (l : List Leaf) (hrec : ∀ cs, Flat l cs → P.keyLits d e cs = some (cs.map litOf)) (n m : Nat) (cs : List Value) (hf : Flat (List.replicate (m + n) l).flatten cs) :
    ∃ xs, ((List.range n).map (m + ·)).mapM (fun i => P.keyLits d e ((cs.drop (i * l.length)).take l.length)) = some xs ∧ xs.flatten = (cs.drop (m * l.length)).map litOf := by
  induction n generalizing m with
  | zero => exact ⟨[], rfl, by
      rw [List.drop_of_length_le (by rw [hf.len]; simp)]; rfl⟩
  | succ n ih =>
    have hf2 := hf
    rw [show m + (n + 1) = (m + 1) + n by omega] at hf
    obtain ⟨xs, h1, h2⟩ := ih (m + 1) hf
    rw [← List.replicate_append_replicate, List.flatten_append, List.replicate_succ, List.flatten_cons] at hf2
    have h3 := hf2.app.2.app.1
    have hlen : (List.replicate m l).flatten.length = m * l.length := by simp
    rw [hlen] at h3
    have h4 := hrec _ h3
    refine ⟨(((cs.drop (m * l.length)).take l.length).map litOf) :: xs, ?_, ?_⟩
    · rw [List.range_succ_eq_map, List.map_cons, List.mapM_cons, Nat.add_zero, h4, List.map_map]
      have e : ((m + ·) ∘ Nat.succ) = ((m + 1) + ·) := by funext i; simp [Function.comp]; omega
      rw [e, h1]; rfl
    · rw [List.flatten_cons, h2, Nat.succ_mul, ← List.drop_drop, ← List.map_append, List.take_append_drop]
theorem lits_of (d : Nat) (t : TypeId) (ls : List Leaf) (hl : leaves P d t = some ls) (hk : P.keyTypeAt d t = true) (cs : List Value) (hf : Flat ls cs) : P.keyLits d t cs = some (cs.map litOf) := by
  induction d generalizing t ls cs with
  | zero => simp [leaves] at hl
  | succ d ih =>
    unfold leaves at hl
    unfold Program.keyTypeAt at hk
    unfold Program.keyLits
    split at hl
    · rename_i k hu
      simp only [Option.some.injEq] at hl; subst hl
      match cs, hf with
      | [v], hf =>
        obtain ⟨⟨n, rfl, hw⟩, _⟩ := hf
        simp [hu, hw, litOf]
    · rename_i hu
      simp only [Option.some.injEq] at hl; subst hl
      match cs, hf with
      | [v], hf =>
        obtain ⟨⟨n, rfl, hw⟩, _⟩ := hf
        simp [hu, hw, litOf]
    · rename_i hu
      simp only [Option.some.injEq] at hl; subst hl
      match cs, hf with
      | [v], hf =>
        obtain ⟨⟨n, rfl⟩, _⟩ := hf
        simp [hu, litOf]
    · rename_i e hu
      simp only [Option.some.injEq] at hl; subst hl
      cases cs <;> exact hf.elim
    · rename_i fs hu
      rw [Option.bind_eq_some_iff] at hl
      obtain ⟨l, hl1, hl2⟩ := hl
      split at hl2
      · rename_i hc
        simp only [Option.some.injEq] at hl2; subst hl2
        simp only [hu, Bool.and_eq_true] at hk
        have hall := hk.1.1
        have hkf : ∀ f ∈ fs.toList, P.keyTypeAt d f.type = true := fun f hf' => by
          have := Array.all_eq_true_iff_forall_mem.1 hall f (Array.mem_toList_iff.1 hf')
          simp only [Bool.and_eq_true] at this
          exact this.2
        have hnm : fs.all (·.name != "_") = true := by
          rw [Array.all_eq_true_iff_forall_mem] at hall ⊢
          intro f hf'
          have := hall f hf'
          simp only [Bool.and_eq_true] at this
          exact this.1
        have key : ∃ xs, fs.toList.mapM (fun f => P.keyLits d f.type ((cs.drop f.offset).take (P.cellsOf f.type))) = some xs ∧ xs.flatten = cs.map litOf := by
          have : ∀ (gs : List Field) (acc : List Leaf), (∀ f ∈ gs, P.keyTypeAt d f.type = true) → addLeaf P (leaves P d) acc gs = some l → ∃ xs, gs.mapM (fun f => P.keyLits d f.type ((cs.drop f.offset).take (P.cellsOf f.type))) = some xs ∧ xs.flatten = (cs.drop acc.length).map litOf ∧ ∃ s, l = acc ++ s := by
            intro gs
            induction gs with
            | nil =>
              intro acc _ h
              simp only [addLeaf, Option.some.injEq] at h; subst h
              exact ⟨[], rfl, by rw [List.drop_of_length_le (by rw [hf.len]; omega)]; rfl, [], by simp⟩
            | cons f gs ihg =>
              intro acc hkg h
              simp only [addLeaf, Option.bind_eq_some_iff] at h
              obtain ⟨l1, hl, h⟩ := h
              split at h
              · rename_i hcc
                obtain ⟨xs, h1, h2, s, rfl⟩ := ihg _ (fun f hf => hkg f (List.mem_cons_of_mem _ hf)) h
                have hf2 := hf
                rw [List.append_assoc] at hf2
                have h3 := hf2.app.2.app.1
                have h4 := ih _ _ hl (hkg f (List.mem_cons_self ..)) _ h3
                refine ⟨(((cs.drop acc.length).take l1.length).map litOf) :: xs, ?_, ?_, l1 ++ s, by simp⟩
                · rw [List.mapM_cons, hcc.1, hcc.2, h4, h1]; rfl
                · rw [List.flatten_cons, h2, List.length_append, ← List.drop_drop, ← List.map_append, List.take_append_drop]
              · simp at h
          obtain ⟨xs, h1, h2, _⟩ := this fs.toList [] hkf hl1
          exact ⟨xs, h1, by simpa using h2⟩
        obtain ⟨xs, h1, h2⟩ := key
        simp only [hu]
        rw [if_pos ⟨by rw [hf.len, hc], hnm⟩, h1]
        simp [h2]
      · simp at hl2
    · rename_i k e hu
      rw [Option.bind_eq_some_iff] at hl
      obtain ⟨l, hl1, hl2⟩ := hl
      split at hl2
      · rename_i hc
        simp only [Option.some.injEq] at hl2; subst hl2
        simp only [hu] at hk
        obtain ⟨xs, h1, h2⟩ := lits_rep d e l (fun cs h => ih e l hl1 hk cs h) k 0 cs (by rw [Nat.zero_add]; exact hf)
        have e0 : (List.range k).map (0 + ·) = List.range k := by simp
        rw [e0] at h1
        rw [Nat.zero_mul, List.drop_zero] at h2
        simp only [hu]
        rw [if_pos (by rw [hf.len, hc.2]; simp), hc.1, h1]
        simp [h2]
      · simp at hl2
    · simp at hl
theorem eq_flat (d : Nat) (hd : d ≤ 10000) (t : TypeId) (ls : List Leaf) (hl : leaves P d t = some ls) (hk : P.keyTypeAt d t = true) (ha : (match P.underlying t with | some (.array _ _) | some (.struct _) => true | _ => false) = true) (hC : P.cellsOf t = ls.length)
    (cs ds : List Value) (h1 : Flat ls cs) (h2 : Flat ls ds) (w : World) : ∃ r : Bool, (Op.equalIn 10000 t (.agg cs.toArray) (.agg ds.toArray)).run P w = .ok r w ∧ (r = true ↔ cs = ds) := by
  have fm : ∀ cs : List Value, Flat ls cs → (Value.agg cs.toArray).formed P t = true := fun cs h => by
    unfold Value.formed
    split at ha
    · simp_all [h.len]
    · simp_all [h.len]
    · simp at ha
  have L := run_equalIn_deep (P := P) (10000 - d) d t hk w d d (.agg cs.toArray) (.agg ds.toArray) (cs.map litOf) (ds.map litOf) (fm cs h1) (fm ds h2) (lits_of d t ls hl hk cs h1) (lits_of d t ls hl hk ds h2)
  rw [show 10000 - d + d = 10000 by omega] at L
  obtain ⟨r, hr, hi⟩ := L
  exact ⟨r, hr, hi.trans ⟨fun e => flat_inj h1 h2 e, fun e => by rw [e]⟩⟩
theorem eql_flat (d : Nat) (hd : d ≤ 10000) (t : TypeId) (ls : List Leaf) (hl : leaves P d t = some ls) (hk : P.keyTypeAt d t = true) (ha : (match P.underlying t with | some (.array _ _) | some (.struct _) => true | _ => false) = true) (hC : P.cellsOf t = ls.length)
    (cs ds : List Value) (h1 : Flat ls cs) (h2 : Flat ls ds) (q : Prop) [Decidable q] (hq : q ↔ cs = ds) (w : World) : (binOp .eql t (.agg cs.toArray) (.agg ds.toArray)).run P w = .ok (.bool (decide q)) w ∧ (binOp .neq t (.agg cs.toArray) (.agg ds.toArray)).run P w = .ok (.bool (!decide q)) w := by
  obtain ⟨r, hr, hi⟩ := eq_flat (P := P) d hd t ls hl hk ha hC cs ds h1 h2 w
  have e : r = decide q := by
    rw [Bool.eq_iff_iff, hi, decide_eq_true_eq, hq]
  subst e
  rw [run_eql_struct, run_neq_struct, hr]
  exact ⟨rfl, rfl⟩
end
end
end Go.Proofs.YtglabahbklpocaaGreat
