/- Known blocks, more: cells out of them, whole rows written, blocks that are made. Records: which may be; their cells. A slice of whole numbers among the arguments, as a walk is told of it. What the cells of a type's value are, leaf by leaf; arguments opened by their leaves; lists of elements of several cells in memory. -/
import Derived.Test.YtglabahbklpocaaGreatGShipPacks7
import Derived.Deep.RegionHeld3
import Derived.Deep.DrawnRows
import Derived.Deep.DeepCutAuto
import Derived.Deep.CutBlock
import Derived.Deep.WholeRow
import Derived.Deep.MidRow
import Derived.Test.YtglabahbklpocaaGreatGShipPacks2
import Derived.Test.YtglabahbklpocaaGreatGShipPacks4
import Derived.Test.YtglabahbklpocaaGreatGShipPacks5
import Derived.Test.YtglabahbklpocaaGreatGShipPacks3
import Derived.Test.YtglabahbklpocaaGreatGShipPacks1
import Derived.ProofKit
import Derived.OpenShut
import Derived.ChangeArms
import Derived.ChangeSlices
import Derived.DataReads
import Derived.Deep.Strs
import Derived.ChangeOld
import Derived.Below
import Derived.Lib.SmallJoins
namespace Go.Proofs.YtglabahbklpocaaGreat
section
open Go.RowKit
set_option maxRecDepth 100000
set_option linter.unusedVariables false
set_option linter.unusedSimpArgs false
theorem cell_row_far {w : World} {g b o : Nat} {v : Value} {cs : Array Value} (h : w.cell? ⟨b, o, none⟩ = some v) (hne : b ≠ g) : (w.setRow g cs).cell? ⟨b, o, none⟩ = some v := by
  rw [← h]
  simp only [World.cell?]
  rw [setRow_other w g b cs hne]
/-- No listed block is g. -/
def Apart (g : Nat) : List (Nat × Obj) → Prop
  | [] => True
  | p :: r => p.1 ≠ g ∧ Apart g r
theorem Apart.all {g : Nat} {l : List (Nat × Obj)} (h : Apart g l) : ∀ p ∈ l, p.1 ≠ g := by
  induction l with
  | nil => simp
  | cons q r ih =>
    intro p hp
    rcases List.mem_cons.1 hp with rfl | hp
    · exact h.1
    · exact ih h.2 p hp
section
variable {B : Nat} {w0 w : World} {l : List (Nat × Obj)} {g : Nat} {o : Obj}
theorem Kn.new' (h : Kn B w0 l w) {n : Nat} (hn : w.heap.size = n) (o : Obj) : Kn B w0 ((n, o) :: l) (w.alloc o) := by subst hn; exact h.new o
theorem Kn.cell (h : Kn B w0 l w) (hm : (g, o) ∈ l) {cs : Array Value} {T : TypeId} {fr : Nat × Nat} {j : Nat} {v : Value} (hv : cs[j]? = some v) (ho : o = .cells cs T fr := by rfl) : w.cell? ⟨g, j, none⟩ = some v := by
  have := h.at_ _ hm
  subst ho
  simp only [World.cell?, this]
  exact hv
theorem Kn.fz (h : Kn B w0 l w) (hm : (g, o) ∈ l) (j : Nat) {cs : Array Value} {T : TypeId} (ho : o = .cells cs T (0, 0) := by rfl) : w.frozen? ⟨g, j, none⟩ = false := by
  have := h.at_ _ hm
  subst ho
  simp [World.frozen?, this]
theorem Kn.fresh (h : Kn B w0 ((g, o) :: l) w) : g < w.heap.size := h.lt (g, o) (List.mem_cons_self ..)
theorem Kn.setRow (h : Kn B w0 ((g, o) :: l) w) (hl : Apart g l) (hg : B ≤ g) (o' : Obj) {cs cs' : Array Value} {T : TypeId} (ho' : o' = .cells cs' T (0, 0) := by rfl) (ho : o = .cells cs T (0, 0) := by rfl) : Kn B w0 ((g, o') :: l) (w.setRow g cs') := by
  subst ho ho'
  refine Kn.but h (o' := .cells cs' T (0, 0)) ⟨rfl, rfl, rfl, by simp [World.setRow], fun i hi hne => setRow_other w g i cs' (by simpa using hne)⟩ hl.all hg (setRow_heap w g _ _ _ _ h.hd)
theorem Kn.setCell (h : Kn B w0 ((g, o) :: l) w) (hl : Apart g l) (hg : B ≤ g) (j : Nat) (v : Value) (o' : Obj) {cs : Array Value} {T : TypeId} (ho' : o' = .cells (cs.setIfInBounds j v) T (0, 0)) (ho : o = .cells cs T (0, 0) := by rfl) : Kn B w0 ((g, o') :: l) (w.setCell ⟨g, j, none⟩ v) := by
  subst ho ho'
  exact Kn.but h (o' := .cells (cs.setIfInBounds j v) T (0, 0)) (But.set g j w v) hl.all hg (heap_setCell_same w g j cs T v h.hd)
end
theorem exec_load_row {P : Program} {o : Oper} {a : Act} {w : World} (ty : TypeId) (x : Operand) (ho : o.op = .load ty x)
    (g : Nat) (hx : a.eval x = .pointer (some ⟨g, 0, none⟩)) (t : TypeId) (cs : Array Value) (fr : Nat × Nat) (d : TypeDesc) (hg : w.heap[g]? = some (.cells cs t fr))
    (hu : P.underlying ty = some d) (hd : (match d with | .struct _ | .array _ _ => true | _ => false) = true) (hi : (P.info? ty).map (·.size) = some cs.size) :
    (execOp a.eval o).run P w = .ok (.value (.agg cs)) w := by
  unfold execOp
  simp only [ho, hx, Instr.loadAt, Instr.sureAddr, Sem.run_bind, Sem.run_pure, Result.andThen_ok, run_loadVar_row w g t ty cs fr d hg hu hd hi]
/-- A whole row loaded, guarded, where it is wanted. -/
theorem wpList_load_row_w {P : Program} {ops : Array Oper} {rest : List Oper} {o : Oper} {a : Act} {w : World} {Q : Exit → Act → World → Prop} (hw : Region.wanted o (yielded ops a.tmps) = true) (ty : TypeId) (x : Operand) (ho : o.op = .load ty x)
    (g : Nat) (hx : a.eval x = .pointer (some ⟨g, 0, none⟩)) (t : TypeId) (cs : Array Value) (fr : Nat × Nat) (d : TypeDesc) (hg : w.heap[g]? = some (.cells cs t fr))
    (hu : P.underlying ty = some d) (hd : (match d with | .struct _ | .array _ _ => true | _ => false) = true) (hi : (P.info? ty).map (·.size) = some cs.size)
    (h : wpList P ops Q rest (a.put o.dst (.agg cs)) w) : wpList P ops Q (o :: rest) a w := by
  unfold wpList
  rw [if_pos hw]
  exact .inl (wp_load_row ty x ho g hx t cs fr d hg hu hd hi h)
/-- A struct loaded out of the middle of a block. -/
theorem exec_load_mid {P : Program} {o : Oper} {a : Act} {w : World} (ty : TypeId) (x : Operand) (ho : o.op = .load ty x)
    (b off : Nat) (hx : a.eval x = .pointer (some ⟨b, off, none⟩)) (cs : List Value) (d : TypeDesc) (hc : w.rangeAt b off cs)
    (hu : P.underlying ty = some d) (hd : d.isRow = true) (hi : (P.info? ty).map (·.size) = some cs.length) :
    (execOp a.eval o).run P w = .ok (.value (.agg cs.toArray)) w := by
  unfold execOp
  simp only [ho, hx, Instr.loadAt, Instr.sureAddr, Sem.run_bind, Sem.run_pure, Result.andThen_ok, run_loadVar_mid w b off ty cs d hc hu hd hi]
end
end Go.Proofs.YtglabahbklpocaaGreat
namespace Go.Proofs.YtglabahbklpocaaGreat
section
open Go.RowKit
set_option maxRecDepth 100000
set_option linter.unusedVariables false
set_option linter.unusedSimpArgs false
attribute [local go_sem ↓] Go.wp_at_zero Go.wp_at_succ
/-- A record without its Deps. -/
structure Rc where
  kind : Int
  series : ByteArray
  time : Int
  value : Int
  tier : Int
  st : St

def i64' (x : Int) : Prop := -9223372036854775808 ≤ x ∧ x ≤ 9223372036854775807
structure Sl where
  a : Option Addr
  n : Nat
  c : Nat
def Sl.val (s : Sl) : Value := .slice s.a s.n s.c
def rcA (r : Rc) (d : Sl) : Array Value := #[.int .i64 r.kind, .string r.series, .int .i64 r.time, .int .i64 r.value, .int .i64 r.tier, .int .i64 r.st.clock, .int .i64 r.st.site, .int .i64 r.st.seq, .slice d.a d.n d.c]
def rcVal (r : Rc) (d : Sl) : Value := .agg (rcA r d)
def rcO (r : Rc) (d : Sl) : Obj := .cells (rcA r d) 60 (0, 0)
/-- The slice d reads as xs. -/
structure SlR (w : World) (d : Sl) (xs : List Int) : Prop where
  r : ReadsI .i64 w d.a d.n xs
  nc : d.n ≤ d.c
  cb : d.c ≤ 9223372036854775807
theorem SlR.below {w w' : World} {d : Sl} {xs : List Int} (h : SlR w d xs) (hb : Below w.heap.size w w') : SlR w' d xs := ⟨h.r.below hb, h.nc, h.cb⟩
theorem SlR.same {w wd : World} {d : Sl} {xs : List Int} (h : SlR w d xs) (e : wd.heap = w.heap) : SlR wd d xs := by
  obtain ⟨⟨h1, h2⟩, h3, h4⟩ := h
  refine ⟨⟨h1, h2.imp_right fun ⟨b, o, e1, e2, e3⟩ => ⟨b, o, e1, by rw [e]; exact e2, fun j hj => ?_⟩⟩, h3, h4⟩
  have := e3 j hj
  simp only [World.cell?] at this ⊢
  rw [e]; exact this
def Rc.wf (r : Rc) : Prop := i64' r.kind ∧ r.series.size ≤ 9223372036854775807 ∧ i64' r.time ∧ i64' r.value ∧ i64' r.tier ∧ i64' r.st.clock ∧ i64' r.st.site ∧ i64' r.st.seq
def recP (r : Rc) (ds : List Int) : Prop := clockV r.time = true ∧ okV r.st = true ∧ ds = pl ds ∧ atV ds r.st.site = r.st.seq - 1 ∧ ((r.kind = 1 ∧ nameV r.series = true ∧ r.tier = 0) ∨ (r.kind = 2 ∧ r.series.size = 0 ∧ r.value = 0 ∧ 0 ≤ r.tier ∧ r.tier ≤ 3))
open Classical in
noncomputable def chkR (r : Rc) (ds : List Int) : Int := if recP r ds then 0 else 1
theorem chkR_0 {r : Rc} {ds : List Int} (h : recP r ds) : chkR r ds = 0 := if_pos h
theorem chkR_1 {r : Rc} {ds : List Int} (h : ¬ recP r ds) : chkR r ds = 1 := if_neg h
structure RcC (w : World) (g : Nat) (r : Rc) (d : Sl) : Prop where
  c0 : w.cell? ⟨g, 0, none⟩ = some (.int .i64 r.kind)
  c1 : w.cell? ⟨g, 1, none⟩ = some (.string r.series)
  c2 : w.cell? ⟨g, 2, none⟩ = some (.int .i64 r.time)
  c3 : w.cell? ⟨g, 3, none⟩ = some (.int .i64 r.value)
  c4 : w.cell? ⟨g, 4, none⟩ = some (.int .i64 r.tier)
  c5 : w.cell? ⟨g, 5, none⟩ = some (.int .i64 r.st.clock)
  c6 : w.cell? ⟨g, 6, none⟩ = some (.int .i64 r.st.site)
  c7 : w.cell? ⟨g, 7, none⟩ = some (.int .i64 r.st.seq)
  c8 : w.cell? ⟨g, 8, none⟩ = some (.slice d.a d.n d.c)
theorem rc_cells {w wd : World} {g : Nat} {r : Rc} {d : Sl} (h : w.heap[g]? = some (rcO r d)) (e : wd.heap = w.heap) : RcC wd g r d := by
  have q : ∀ j v, (rcA r d)[j]? = some v → wd.cell? ⟨g, j, none⟩ = some v := fun j v hv => by
    simp only [World.cell?, e, h, rcO]
    exact hv
  exact ⟨q 0 _ rfl, q 1 _ rfl, q 2 _ rfl, q 3 _ rfl, q 4 _ rfl, q 5 _ rfl, q 6 _ rfl, q 7 _ rfl, q 8 _ rfl⟩
theorem RcC.conj {w : World} {g : Nat} {r : Rc} {d : Sl} (h : RcC w g r d) : w.cell? ⟨g, 2, none⟩ = some (.int .i64 r.time) ∧ w.cell? ⟨g, 5, none⟩ = some (.int .i64 r.st.clock) ∧ w.cell? ⟨g, 6, none⟩ = some (.int .i64 r.st.site) ∧ w.cell? ⟨g, 7, none⟩ = some (.int .i64 r.st.seq) ∧ w.cell? ⟨g, 8, none⟩ = some (.slice d.a d.n d.c) := ⟨h.c2, h.c5, h.c6, h.c7, h.c8⟩
end
end Go.Proofs.YtglabahbklpocaaGreat
namespace Go.Proofs.YtglabahbklpocaaGreat
section
open Go.ChangeShapes Go.WideShapes Go.ChangeAt Go.RowKit
set_option maxRecDepth 100000
set_option linter.unusedVariables false
set_option linter.unusedSimpArgs false
def IsInts (k : IntKind) (w : World) (v : Value) (xs : List Int) : Prop :=
  ∃ a n c, v = .slice a n c ∧ n ≤ c ∧ c ≤ 9223372036854775807 ∧ ReadsI k w a n xs ∧ ∀ x ∈ xs, (Lit.int k x).wf = true
theorem open_isInts {H : Type} {enc : TypeId × Value → H} {P : Program} {W : World} {r : Reach} {b0 : Nat} {t e : TypeId} {k : IntKind} {v : Value} {d : DataW H} {ps : List MemPlace}
    (ht : P.underlying t = some (.slice e)) (he : P.underlying e = some (.int k)) (hc : P.cellsOf e = 1) (hval : Value.okWide P W r b0 t v) (hd : DataW.Trod enc P W 0 (fun _ => true) true t v d ps) :
    ∃ xs, IsInts k W v xs := by
  obtain ⟨a, len, cap, rfl⟩ := okWide_slice ht hval
  obtain ⟨fuel, hf⟩ := hd
  rcases open_ints ht he hc hf with ⟨hcs, _⟩ | ⟨x, l, c, zs, hcs, _, hl, hm, hz, _, hcell, hwz⟩
  · simp [Value.cells] at hcs
    obtain ⟨rfl, rfl, rfl⟩ := hcs
    exact ⟨[], none, 0, 0, rfl, by omega, by omega, ⟨rfl, .inl rfl⟩, by simp⟩
  · simp [Value.cells] at hcs
    obtain ⟨rfl, rfl, rfl⟩ := hcs
    have hz' : zs.length = cap := by simpa using hz
    refine ⟨zs.take len, some x, len, cap, rfl, hl, by unfold maxLen at hm; omega, ⟨by rw [List.length_take]; omega, ?_⟩, fun y hy => hwz y (List.mem_of_mem_take hy)⟩
    rcases Nat.eq_zero_or_pos len with h0 | h0
    · exact .inl h0
    · right
      obtain ⟨b, off, spot⟩ := x
      have hc0 := hcell 0 (by omega)
      have hspot : spot = none := by simpa [Addr.add] using World.cell?_spot hc0
      subst hspot
      have hadd : ∀ j, (⟨b, off, none⟩ : Addr).add j = ⟨b, off + j, none⟩ := fun j => by unfold Addr.add; split <;> simp_all
      refine ⟨b, off, rfl, ?_, fun j hj => ?_⟩
      · have := World.block_lt_of_cell? _ _ hc0
        rw [hadd] at this
        exact this
      · have := hcell j (by omega)
        rw [hadd] at this
        rw [this]
        simp [List.getD_eq_getElem?_getD, hj]
end
end Go.Proofs.YtglabahbklpocaaGreat
namespace Go.Proofs.YtglabahbklpocaaGreat
section
open Go.ChangeShapes Go.WideShapes Go.ChangeAt Go.RowKit Go.Joins Go.Deep
set_option maxRecDepth 100000
set_option linter.unusedVariables false
set_option linter.unusedSimpArgs false
inductive Leaf where
  | int (k : IntKind)
  | str
  | bool
  | sl (t e : TypeId)
def addLeaf (P : Program) (rec : TypeId → Option (List Leaf)) : List Leaf → List Field → Option (List Leaf)
  | acc, [] => some acc
  | acc, f :: fs => (rec f.type).bind fun l => if f.offset = acc.length ∧ P.cellsOf f.type = l.length then addLeaf P rec (acc ++ l) fs else none
def leaves (P : Program) : Nat → TypeId → Option (List Leaf)
  | 0, _ => none
  | d + 1, t =>
    match P.underlying t with
    | some (.int k) => some [.int k]
    | some .string => some [.str]
    | some .bool => some [.bool]
    | some (.slice e) => some [.sl t e]
    | some (.struct fs) => (addLeaf P (leaves P d) [] fs.toList).bind fun l => if P.cellsOf t = l.length then some l else none
    | some (.array n e) => (leaves P d e).bind fun l => if P.cellsOf e = l.length ∧ P.cellsOf t = n * l.length then some (List.replicate n l).flatten else none
    | _ => none
def LeafIs {H : Type} (enc : TypeId × Value → H) (P : Program) (w : World) (l : Leaf) (v : Value) : Prop :=
  match l with
  | .int k => ∃ n, v = .int k n ∧ (Lit.int k n).wf = true
  | .str => ∃ s : ByteArray, v = .string s ∧ s.size ≤ maxLen
  | .bool => ∃ b : Bool, v = .bool b
  | .sl t e => P.underlying t = some (.slice e) ∧ ∃ fuel y, DataW.trod enc P w 0 (fun _ => true) true fuel t [v] = some y
def Fits {H : Type} (enc : TypeId × Value → H) (P : Program) (w : World) : List Leaf → List Value → Prop
  | [], [] => True
  | l :: ls, v :: vs => LeafIs enc P w l v ∧ Fits enc P w ls vs
  | _, _ => False
section
variable {H : Type} {enc : TypeId × Value → H} {P : Program} {w : World}
theorem fits_len {ls : List Leaf} {cs : List Value} (h : Fits enc P w ls cs) : cs.length = ls.length := by
  induction ls generalizing cs with
  | nil => cases cs with
    | nil => rfl
    | cons _ _ => exact h.elim
  | cons l ls ih => cases cs with
    | nil => exact h.elim
    | cons v vs => simp [ih h.2]
theorem fits_append {a b : List Leaf} {cs ds : List Value} (h : Fits enc P w a cs) (k : Fits enc P w b ds) : Fits enc P w (a ++ b) (cs ++ ds) := by
  induction a generalizing cs with
  | nil => cases cs with
    | nil => exact k
    | cons _ _ => exact h.elim
  | cons l ls ih => cases cs with
    | nil => exact h.elim
    | cons v vs => exact ⟨h.1, ih h.2⟩
theorem fits_addLeaf (rec : TypeId → Option (List Leaf)) (n : Nat) (hrec : ∀ t ls cs y, rec t = some ls → DataW.trod enc P w 0 (fun _ => true) true n t cs = some y → Fits enc P w ls cs)
    (fs : List Field) (acc r : List Leaf) (cs : List Value) (h : addLeaf P rec acc fs = some r) (hacc : Fits enc P w acc (cs.take acc.length))
    (hf : ∀ f ∈ fs, ∃ y, DataW.trod enc P w 0 (fun _ => true) true n f.type ((cs.drop f.offset).take (P.cellsOf f.type)) = some y) : Fits enc P w r (cs.take r.length) := by
  induction fs generalizing acc with
  | nil => simp only [addLeaf, Option.some.injEq] at h; subst h; exact hacc
  | cons f fs ih =>
    simp only [addLeaf, Option.bind_eq_some_iff] at h
    obtain ⟨l, hl, h⟩ := h
    split at h
    · rename_i hc
      obtain ⟨y, hy⟩ := hf f (List.mem_cons_self ..)
      have h1 := hrec _ _ _ _ hl hy
      rw [hc.1, hc.2] at h1
      refine ih (acc ++ l) h ?_ (fun g hg => hf g (List.mem_cons_of_mem _ hg))
      have := fits_append hacc h1
      rwa [List.length_append, List.take_add]
    · simp at h
theorem fits_rep (l : List Leaf) (n : Nat) (cs : List Value) (hc : cs.length = n * l.length) (h : ∀ i, i < n → Fits enc P w l ((cs.drop (i * l.length)).take l.length)) : Fits enc P w (List.replicate n l).flatten cs := by
  induction n generalizing cs with
  | zero => cases cs with
    | nil => trivial
    | cons _ _ => simp at hc
  | succ n ih =>
    rw [List.replicate_succ, List.flatten_cons]
    have h0 := h 0 (by omega)
    rw [Nat.zero_mul, List.drop_zero] at h0
    have := ih (cs.drop l.length) (by rw [List.length_drop, hc, Nat.succ_mul]; omega) (fun i hi => by
      have := h (i + 1) (by omega)
      rw [List.drop_drop]
      rwa [Nat.succ_mul, Nat.add_comm] at this)
    have := fits_append h0 this
    rwa [List.take_append_drop] at this
theorem fits_of (d : Nat) (t : TypeId) (ls : List Leaf) (hl : leaves P d t = some ls) (n : Nat) (cs : List Value) (y : DataW H × List MemPlace) (h : DataW.trod enc P w 0 (fun _ => true) true n t cs = some y) : Fits enc P w ls cs := by
  induction d generalizing t ls n cs y with
  | zero => simp [leaves] at hl
  | succ d ih =>
    unfold leaves at hl
    split at hl
    · rename_i k hu
      simp only [Option.some.injEq] at hl; subst hl
      obtain ⟨x, rfl, _, hw⟩ := DataW.trod_int hu h
      exact ⟨⟨x, rfl, hw⟩, trivial⟩
    · rename_i hu
      simp only [Option.some.injEq] at hl; subst hl
      obtain ⟨s, rfl, _, hw⟩ := DataW.trod_string hu h
      exact ⟨⟨s, rfl, hw⟩, trivial⟩
    · rename_i hu
      simp only [Option.some.injEq] at hl; subst hl
      cases n with
      | zero => simp [DataW.trod] at h
      | succ m =>
        unfold DataW.trod at h
        rw [hu] at h
        split at h <;> simp_all
        exact ⟨⟨_, rfl⟩, trivial⟩
    · rename_i e hu
      simp only [Option.some.injEq] at hl; subst hl
      rcases DataW.trod_slice hu h with ⟨rfl, _⟩ | ⟨a, len, cap, _, _, _, _, rfl, _⟩
      · exact ⟨⟨hu, n, y, h⟩, trivial⟩
      · exact ⟨⟨hu, n, y, h⟩, trivial⟩
    · rename_i fs hu
      rw [Option.bind_eq_some_iff] at hl
      obtain ⟨l, hl1, hl2⟩ := hl
      split at hl2
      · rename_i hc
        simp only [Option.some.injEq] at hl2; subst hl2
        obtain ⟨xs, m, rfl, rfl, hcs, hlen, hf⟩ := DataW.trod_struct hu h
        have := fits_addLeaf (leaves P d) m (fun t ls cs y h1 h2 => ih t ls h1 m cs y h2) fs.toList [] l cs hl1 (by simp [Fits]) (fun f hfm => by
          obtain ⟨i, hi, rfl⟩ := List.getElem_of_mem hfm
          have hi2 : i < fs.size := by simpa using hi
          have := hf i fs.toList[i] (by simp)
          rw [List.getElem?_eq_getElem (by omega)] at this
          exact ⟨_, this⟩)
        rwa [← hc, ← hcs, List.take_length] at this
      · simp at hl2
    · rename_i k e hu
      rw [Option.bind_eq_some_iff] at hl
      obtain ⟨l, hl1, hl2⟩ := hl
      split at hl2
      · rename_i hc
        simp only [Option.some.injEq] at hl2; subst hl2
        obtain ⟨xs, m, rfl, rfl, hcs, hlen, hf⟩ := DataW.trod_array hu h
        refine fits_rep l k cs (by rw [hcs, hc.2]) fun i hi => ?_
        have h1 := hf i hi
        rw [List.getElem?_eq_getElem (by omega), hc.1] at h1
        exact ih e l hl1 m _ _ h1
      · simp at hl2
    · simp at hl
end
/-- The cells from o on in block b. -/
def CellsAt (w : World) (b o : Nat) (l : List Value) : Prop := ∀ j u, l[j]? = some u → w.cell? ⟨b, o + j, none⟩ = some u
theorem CellsAt.below {w w' : World} {b o : Nat} {l : List Value} (h : CellsAt w b o l) (hb : Below w.heap.size w w') (hlt : b < w.heap.size) : CellsAt w' b o l := fun j u hj => (hb.cell (p := ⟨b, _, none⟩) hlt).trans (h j u hj)
theorem CellsAt.belowB {w w' : World} {B b o : Nat} {l : List Value} (h : CellsAt w b o l) (hb : Below B w w') (hlt : b < B) : CellsAt w' b o l := fun j u hj => (hb.cell (p := ⟨b, _, none⟩) hlt).trans (h j u hj)
theorem CellsAt.same {w w' : World} {b o : Nat} {l : List Value} (h : CellsAt w b o l) (e : w'.heap = w.heap) : CellsAt w' b o l := fun j u hj => by
  have := h j u hj
  simp only [World.cell?] at this ⊢
  rw [e]
  exact this
/-- A slice at a, n elements long, whose elements have the cells cs x (sz each). -/
def ReadsE {α : Type} (cs : α → List Value) (sz : Nat) (w : World) (a : Option Addr) (n : Nat) (xs : List α) : Prop :=
  xs.length = n ∧ (n = 0 ∨ ∃ b o, a = some ⟨b, o, none⟩ ∧ b < w.heap.size ∧ ∀ j x, xs[j]? = some x → CellsAt w b (o + j * sz) (cs x))
section
variable {α : Type} {cs : α → List Value} {sz : Nat} {w w' : World} {a : Option Addr} {n : Nat} {xs : List α}
theorem ReadsE.belowB {B : Nat} (h : ReadsE cs sz w a n xs) (hB : ∀ p, a = some p → n ≠ 0 → p.block < B) (hle : B ≤ w.heap.size) (hb : Below B w w') : ReadsE cs sz w' a n xs := by
  obtain ⟨h1, h2⟩ := h
  refine ⟨h1, ?_⟩
  rcases h2 with h2 | ⟨b, o, rfl, h4, h5⟩
  · exact .inl h2
  · rcases Nat.eq_zero_or_pos n with h0 | h0
    · exact .inl h0
    · have hlt : b < B := hB ⟨b, o, none⟩ rfl (by omega)
      exact .inr ⟨b, o, rfl, Nat.lt_of_lt_of_le h4 hb.size, fun j x hj => (h5 j x hj).belowB hb hlt⟩
theorem ReadsE.below (h : ReadsE cs sz w a n xs) (hb : Below w.heap.size w w') : ReadsE cs sz w' a n xs := by
  obtain ⟨h1, h2⟩ := h
  refine ⟨h1, ?_⟩
  rcases h2 with h2 | ⟨b, o, rfl, h4, h5⟩
  · exact .inl h2
  · exact .inr ⟨b, o, rfl, Nat.lt_of_lt_of_le h4 hb.size, fun j x hj => (h5 j x hj).below hb h4⟩
theorem ReadsE.same (h : ReadsE cs sz w a n xs) (e : w'.heap = w.heap) : ReadsE cs sz w' a n xs := by
  obtain ⟨h1, h2⟩ := h
  refine ⟨h1, ?_⟩
  rcases h2 with h2 | ⟨b, o, rfl, h4, h5⟩
  · exact .inl h2
  · exact .inr ⟨b, o, rfl, by rw [e]; exact h4, fun j x hj => (h5 j x hj).same e⟩
/-- Element k, at a world that has turned nothing of what was there. -/
theorem ReadsE.at (h : ReadsE cs sz w a n xs) {wr : World} (hb : Below w.heap.size w wr) (k : Nat) (hk : k < n) : ∃ b o x, a = some ⟨b, o, none⟩ ∧ b < w.heap.size ∧ xs[k]? = some x ∧ CellsAt wr b (o + k * sz) (cs x) := by
  obtain ⟨h1, h2⟩ := h
  obtain ⟨b, o, e, hlt, hc⟩ := h2.resolve_left (by omega)
  have hx : xs[k]? = some xs[k] := List.getElem?_eq_getElem (by omega)
  exact ⟨b, o, xs[k], e, hlt, hx, (hc k _ hx).below hb hlt⟩
theorem ReadsE.nil (w : World) : ReadsE cs sz w none 0 [] := ⟨rfl, .inl rfl⟩
theorem ReadsE.take (h : ReadsE cs sz w a n xs) (m : Nat) (hm : m ≤ n) : ReadsE cs sz w a m (xs.take m) := by
  obtain ⟨h1, h2⟩ := h
  refine ⟨by rw [List.length_take]; omega, ?_⟩
  rcases h2 with h2 | ⟨b, o, h3, h4, h5⟩
  · exact .inl (by omega)
  · refine .inr ⟨b, o, h3, h4, fun j x hj => h5 j x ?_⟩
    rw [List.getElem?_take] at hj
    split at hj
    · exact hj
    · simp at hj
theorem ReadsE.drop {b o : Nat} (h : ReadsE cs sz w (some ⟨b, o, none⟩) n xs) (m : Nat) (hm : m ≤ n) : ReadsE cs sz w (some ⟨b, o + m * sz, none⟩) (n - m) (xs.drop m) := by
  obtain ⟨h1, h2⟩ := h
  refine ⟨by rw [List.length_drop]; omega, ?_⟩
  rcases h2 with h2 | ⟨b', o', h3, h4, h5⟩
  · exact .inl (by omega)
  · simp only [Option.some.injEq, Addr.mk.injEq, and_true] at h3
    obtain ⟨rfl, rfl⟩ := h3
    refine .inr ⟨b, _, rfl, h4, fun j x hj => ?_⟩
    rw [List.getElem?_drop] at hj
    have := h5 (m + j) x hj
    rwa [Nat.add_mul, ← Nat.add_assoc] at this
end
/-- A slice among the arguments. -/
def IsEs {α : Type} (cs : α → List Value) (sz : Nat) (wf : α → Prop) (w : World) (v : Value) (xs : List α) : Prop :=
  ∃ a n c, v = .slice a n c ∧ n ≤ c ∧ c ≤ 9223372036854775807 ∧ ReadsE cs sz w a n xs ∧ ∀ x ∈ xs, wf x
theorem open_isEs {H : Type} {enc : TypeId × Value → H} {P : Program} {W : World} {r : Reach} {b0 : Nat} {t e : TypeId} {v : Value} {d : DataW H} {ps : List MemPlace} {α : Type} (cs : α → List Value) (sz : Nat) (wf : α → Prop) (D : Nat) (ls : List Leaf)
    (dec : ∀ l, Fits enc P W ls l → ∃ x, cs x = l ∧ wf x) (hsz : sz = ls.length) (hpos : 0 < sz)
    (ht : P.underlying t = some (.slice e)) (hl : leaves P D e = some ls) (hC : P.cellsOf e = ls.length)
    (hval : Value.okWide P W r b0 t v) (hd : DataW.Trod enc P W 0 (fun _ => true) true t v d ps) : ∃ xs, IsEs cs sz wf W v xs := by
  subst hsz
  obtain ⟨a, len, cap, rfl⟩ := okWide_slice ht hval
  obtain ⟨fuel, hf⟩ := hd
  rcases DataW.trod_slice ht hf with ⟨hcs, _⟩ | ⟨x, l, c, elems, rest, m, _, hcs, _, _, hl', hm, hlen, hel, _, _⟩
  · simp [Value.cells] at hcs
    obtain ⟨rfl, rfl, rfl⟩ := hcs
    exact ⟨[], none, 0, 0, rfl, by omega, by omega, ⟨rfl, .inl rfl⟩, by simp⟩
  · simp [Value.cells] at hcs
    obtain ⟨rfl, rfl, rfl⟩ := hcs
    have each : ∀ i, i < len → ∃ y : α, wf y ∧ ls.length = (cs y).length ∧ ∀ j, j < ls.length → W.cell? ((x.add (i * ls.length)).add j) = (cs y)[j]? := by
      intro i hi
      have h1 := hel i hi
      rw [List.getElem?_eq_getElem (by omega), hC, Option.bind_eq_some_iff] at h1
      obtain ⟨cs', hc', ht'⟩ := h1
      obtain ⟨_, hlc, hcell⟩ := World.cells?_some hc'
      obtain ⟨y, hy, hw⟩ := dec cs' (fits_of D e ls hl m cs' _ ht')
      exact ⟨y, hw, by rw [hy, hlc], fun j hj => by rw [hy]; exact hcell j hj⟩
    rcases Nat.eq_zero_or_pos len with h0 | h0
    · subst h0
      exact ⟨[], some x, 0, cap, rfl, by omega, by unfold maxLen at hm; omega, ⟨rfl, .inl rfl⟩, by simp⟩
    · obtain ⟨y0, hy0⟩ := each 0 h0
      have each2 : ∀ i : Nat, ∃ y : α, i < len → wf y ∧ ls.length = (cs y).length ∧ ∀ j, j < ls.length → W.cell? ((x.add (i * ls.length)).add j) = (cs y)[j]? := fun i => by
        by_cases hi : i < len
        · obtain ⟨y, h⟩ := each i hi
          exact ⟨y, fun _ => h⟩
        · exact ⟨y0, fun h => absurd h hi⟩
      let f : Nat → α := fun i => Classical.choose (each2 i)
      have hf2 : ∀ i, i < len → wf (f i) ∧ ls.length = (cs (f i)).length ∧ ∀ j, j < ls.length → W.cell? ((x.add (i * ls.length)).add j) = (cs (f i))[j]? := fun i => Classical.choose_spec (each2 i)
      refine ⟨(List.range len).map f, some x, len, cap, rfl, hl', by unfold maxLen at hm; omega, ⟨by simp, ?_⟩, fun y hy => ?_⟩
      · right
        obtain ⟨b, off, spot⟩ := x
        obtain ⟨_, hl0, hc0⟩ := hf2 0 h0
        have hc0 := hc0 0 hpos
        rw [List.getElem?_eq_getElem (by omega)] at hc0
        have hspot : spot = none := by simpa [Addr.add] using World.cell?_spot hc0
        subst hspot
        have hadd : ∀ j, (⟨b, off, none⟩ : Addr).add j = ⟨b, off + j, none⟩ := fun j => by unfold Addr.add; split <;> simp_all
        have hadd2 : ∀ j k, (⟨b, off + j, none⟩ : Addr).add k = ⟨b, off + j + k, none⟩ := fun j k => by unfold Addr.add; split <;> simp_all
        refine ⟨b, off, rfl, ?_, fun j y hj k u hk => ?_⟩
        · have := World.block_lt_of_cell? _ _ hc0
          rw [hadd] at this
          exact this
        · obtain ⟨hjl, rfl⟩ := List.getElem?_eq_some_iff.1 hj
          simp only [List.getElem_map, List.getElem_range] at hk ⊢
          have hjl2 : j < len := by simpa using hjl
          obtain ⟨_, hle, hce⟩ := hf2 j hjl2
          have hk2 : k < ls.length := by
            have := (List.getElem?_eq_some_iff.1 hk).1
            omega
          have := hce k hk2
          rw [hadd, hadd2] at this
          rw [this, hk]
      · obtain ⟨i, hi, rfl⟩ := List.mem_map.1 hy
        exact (hf2 i (List.mem_range.1 hi)).1
end
end Go.Proofs.YtglabahbklpocaaGreat
