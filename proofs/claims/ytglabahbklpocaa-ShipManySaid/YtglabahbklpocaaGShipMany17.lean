/- Known blocks: what is known of the heap, carried along. Known blocks, more: cells out of them, whole rows written, blocks that are made. Records: which may be; their cells. -/
import Derived.Test.YtglabahbklpocaaGShipMany14
import Derived.Deep.RegionHeld3
import Derived.Deep.DrawnRows
import Derived.Deep.DeepCutAuto
import Derived.Deep.CutBlock
import Derived.Deep.WholeRow
import Derived.Deep.MidRow
import Derived.Test.YtglabahbklpocaaGShipMany4
import Derived.Test.YtglabahbklpocaaGShipMany7
import Derived.Test.YtglabahbklpocaaGShipMany10
import Derived.Test.YtglabahbklpocaaGShipMany16
import Derived.Test.YtglabahbklpocaaGShipMany6
namespace Go.Proofs.Ytglabahbklpocaa
section
open Go.RowKit
set_option maxRecDepth 100000
set_option linter.unusedVariables false
set_option linter.unusedSimpArgs false
/-- Each listed block is as listed; all that was there at w0 (of size B) is as it was. -/
structure Kn (B : Nat) (w0 : World) (l : List (Nat × Obj)) (w : World) : Prop where
  at_ : ∀ p ∈ l, w.heap[p.1]? = some p.2
  b : Below B w0 w
  le : B ≤ w.heap.size
theorem Kn.start (w : World) : Kn w.heap.size w [] w := ⟨by simp, Below.refl _ _, Nat.le_refl _⟩
theorem heap_lt {w : World} {g : Nat} {o : Obj} (h : w.heap[g]? = some o) : g < w.heap.size := by
  rcases Nat.lt_or_ge g w.heap.size with h' | h'
  · exact h'
  · simp [Array.getElem?_eq_none h'] at h
theorem Kn.lt {B : Nat} {w0 w : World} {l : List (Nat × Obj)} (h : Kn B w0 l w) : ∀ p ∈ l, p.1 < w.heap.size := fun p hp => heap_lt (h.at_ p hp)
theorem Kn.hd {B : Nat} {w0 w : World} {l : List (Nat × Obj)} {g : Nat} {o : Obj} (h : Kn B w0 ((g, o) :: l) w) : w.heap[g]? = some o := h.at_ (g, o) (List.mem_cons_self ..)
theorem Kn.tl {B : Nat} {w0 w : World} {l : List (Nat × Obj)} {p : Nat × Obj} (h : Kn B w0 (p :: l) w) : Kn B w0 l w := ⟨fun q hq => h.at_ q (List.mem_cons_of_mem _ hq), h.b, h.le⟩
theorem Kn.below {B : Nat} {w0 w w' : World} {l : List (Nat × Obj)} (h : Kn B w0 l w) (d : Below w.heap.size w w') : Kn B w0 l w' :=
  ⟨fun p hp => (d.block p.1 (h.lt p hp)).trans (h.at_ p hp), below_then h.b h.le d, Nat.le_trans h.le d.size⟩
theorem Kn.same {B : Nat} {w0 w wd : World} {l : List (Nat × Obj)} (h : Kn B w0 l w) (e1 : wd.heap = w.heap) (e2 : wd.os = w.os) (e3 : wd.tape = w.tape) (e4 : wd.output = w.output) : Kn B w0 l wd :=
  ⟨fun p hp => by rw [e1]; exact h.at_ p hp, ⟨e2.trans h.b.os, e3.trans h.b.tape, e4.trans h.b.output, by rw [e1]; exact h.b.size, fun k hk => by rw [e1]; exact h.b.block k hk⟩, by rw [e1]; exact h.le⟩
theorem Kn.later {B : Nat} {w0 w wd w' : World} {l : List (Nat × Obj)} (h : Kn B w0 l w) (d : Below wd.heap.size wd w') (e1 : wd.heap = w.heap) (e2 : wd.os = w.os) (e3 : wd.tape = w.tape) (e4 : wd.output = w.output) : Kn B w0 l w' := (h.same e1 e2 e3 e4).below d
theorem Kn.new {B : Nat} {w0 w : World} {l : List (Nat × Obj)} (h : Kn B w0 l w) (o : Obj) : Kn B w0 ((w.heap.size, o) :: l) (w.alloc o) := by
  have k := h.below ((Below.refl w.heap.size w).alloc (Nat.le_refl _) o)
  refine ⟨fun p hp => ?_, k.b, k.le⟩
  rcases List.mem_cons.1 hp with rfl | hp
  · exact heap_alloc_new w o
  · exact k.at_ p hp
/-- A block that is known by now. -/
theorem Kn.put {B : Nat} {w0 w : World} {l : List (Nat × Obj)} (h : Kn B w0 l w) {g : Nat} {o : Obj} (e : w.heap[g]? = some o) : Kn B w0 ((g, o) :: l) w := ⟨fun p hp => by
  rcases List.mem_cons.1 hp with rfl | hp
  · exact e
  · exact h.at_ p hp, h.b, h.le⟩
/-- Block g alone, the first one, was changed. -/
theorem Kn.but {B : Nat} {w0 w w' : World} {l : List (Nat × Obj)} {g : Nat} {o o' : Obj} (h : Kn B w0 ((g, o) :: l) w) (k : But g w w') (hl : ∀ p ∈ l, p.1 ≠ g) (hg : B ≤ g) (e : w'.heap[g]? = some o') : Kn B w0 ((g, o') :: l) w' :=
  Kn.put ⟨fun p hp => (k.block p.1 (h.tl.lt p hp) (by simp; exact fun e => hl p hp e)).trans (h.tl.at_ p hp), But.below h.b k h.le hg, Nat.le_trans h.le k.size⟩ e
theorem Kn.sub {B : Nat} {w0 w : World} {l m : List (Nat × Obj)} (h : Kn B w0 l w) (hm : ∀ p ∈ m, p ∈ l) : Kn B w0 m w := ⟨fun p hp => h.at_ p (hm p hp), h.b, h.le⟩
def rdO (T : TypeId) (r : Rdr) : Obj := .cells #[.string r.s, .int .i64 r.pos, .bool r.bad] T (0, 0)
theorem Kn.rdS {B : Nat} {w0 w wd : World} {l : List (Nat × Obj)} {g : Nat} {T : TypeId} {r : Rdr} (h : Kn B w0 l w) (hm : (g, rdO T r) ∈ l) (e : wd.heap = w.heap) : RdrAt T wd g r := by
  unfold RdrAt
  rw [e]
  exact h.at_ _ hm
theorem quiet_below {w w' : World} (d : QuietFrom w w') : Below w.heap.size w w' := d.below
theorem Kn.laterQ {B : Nat} {w0 w wd w' : World} {l : List (Nat × Obj)} (h : Kn B w0 l w) (d : QuietFrom wd w') (e1 : wd.heap = w.heap) (e2 : wd.os = w.os) (e3 : wd.tape = w.tape) (e4 : wd.output = w.output) : Kn B w0 l w' := h.later d.below e1 e2 e3 e4
end
end Go.Proofs.Ytglabahbklpocaa
namespace Go.Proofs.Ytglabahbklpocaa
section
open Go.RowKit
set_option maxRecDepth 100000
set_option linter.unusedVariables false
set_option linter.unusedSimpArgs false
theorem cell_row_far {w : World} {g b o : Nat} {v : Value} {cs : Array Value} (h : w.cell? ⟨b, o, none⟩ = some v) (hne : b ≠ g) : (w.setRow g cs).cell? ⟨b, o, none⟩ = some v := by
  rw [← h]
  simp only [World.cell?]
  rw [setRow_other w g b cs hne]
/-- No listed block is g. -/
def Apart (g : Nat) : List (Nat × Obj) → Prop
  | [] => True
  | p :: r => p.1 ≠ g ∧ Apart g r
theorem Apart.all {g : Nat} {l : List (Nat × Obj)} (h : Apart g l) : ∀ p ∈ l, p.1 ≠ g := by
  induction l with
  | nil => simp
  | cons q r ih =>
    intro p hp
    rcases List.mem_cons.1 hp with rfl | hp
    · exact h.1
    · exact ih h.2 p hp
section
variable {B : Nat} {w0 w : World} {l : List (Nat × Obj)} {g : Nat} {o : Obj}
theorem Kn.new' (h : Kn B w0 l w) {n : Nat} (hn : w.heap.size = n) (o : Obj) : Kn B w0 ((n, o) :: l) (w.alloc o) := by subst hn; exact h.new o
theorem Kn.cell (h : Kn B w0 l w) (hm : (g, o) ∈ l) {cs : Array Value} {T : TypeId} {fr : Nat × Nat} {j : Nat} {v : Value} (hv : cs[j]? = some v) (ho : o = .cells cs T fr := by rfl) : w.cell? ⟨g, j, none⟩ = some v := by
  have := h.at_ _ hm
  subst ho
  simp only [World.cell?, this]
  exact hv
theorem Kn.fz (h : Kn B w0 l w) (hm : (g, o) ∈ l) (j : Nat) {cs : Array Value} {T : TypeId} (ho : o = .cells cs T (0, 0) := by rfl) : w.frozen? ⟨g, j, none⟩ = false := by
  have := h.at_ _ hm
  subst ho
  simp [World.frozen?, this]
theorem Kn.fresh (h : Kn B w0 ((g, o) :: l) w) : g < w.heap.size := h.lt (g, o) (List.mem_cons_self ..)
theorem Kn.setRow (h : Kn B w0 ((g, o) :: l) w) (hl : Apart g l) (hg : B ≤ g) (o' : Obj) {cs cs' : Array Value} {T : TypeId} (ho' : o' = .cells cs' T (0, 0) := by rfl) (ho : o = .cells cs T (0, 0) := by rfl) : Kn B w0 ((g, o') :: l) (w.setRow g cs') := by
  subst ho ho'
  refine Kn.but h (o' := .cells cs' T (0, 0)) ⟨rfl, rfl, rfl, by simp [World.setRow], fun i hi hne => setRow_other w g i cs' (by simpa using hne)⟩ hl.all hg (setRow_heap w g _ _ _ _ h.hd)
theorem Kn.setCell (h : Kn B w0 ((g, o) :: l) w) (hl : Apart g l) (hg : B ≤ g) (j : Nat) (v : Value) (o' : Obj) {cs : Array Value} {T : TypeId} (ho' : o' = .cells (cs.setIfInBounds j v) T (0, 0)) (ho : o = .cells cs T (0, 0) := by rfl) : Kn B w0 ((g, o') :: l) (w.setCell ⟨g, j, none⟩ v) := by
  subst ho ho'
  exact Kn.but h (o' := .cells (cs.setIfInBounds j v) T (0, 0)) (But.set g j w v) hl.all hg (heap_setCell_same w g j cs T v h.hd)
/-- The block that is wanted comes first. -/
theorem Kn.perm (h : Kn B w0 l w) {m : List (Nat × Obj)} (hm : ∀ p ∈ m, p ∈ l) : Kn B w0 m w := h.sub hm
end
theorem exec_load_row {P : Program} {o : Oper} {a : Act} {w : World} (ty : TypeId) (x : Operand) (ho : o.op = .load ty x)
    (g : Nat) (hx : a.eval x = .pointer (some ⟨g, 0, none⟩)) (t : TypeId) (cs : Array Value) (fr : Nat × Nat) (d : TypeDesc) (hg : w.heap[g]? = some (.cells cs t fr))
    (hu : P.underlying ty = some d) (hd : (match d with | .struct _ | .array _ _ => true | _ => false) = true) (hi : (P.info? ty).map (·.size) = some cs.size) :
    (execOp a.eval o).run P w = .ok (.value (.agg cs)) w := by
  unfold execOp
  simp only [ho, hx, Instr.loadAt, Instr.sureAddr, Sem.run_bind, Sem.run_pure, Result.andThen_ok, run_loadVar_row w g t ty cs fr d hg hu hd hi]
/-- A whole row loaded, guarded, where it is wanted. -/
theorem wpList_load_row_w {P : Program} {ops : Array Oper} {rest : List Oper} {o : Oper} {a : Act} {w : World} {Q : Exit → Act → World → Prop} (hw : Region.wanted o (yielded ops a.tmps) = true) (ty : TypeId) (x : Operand) (ho : o.op = .load ty x)
    (g : Nat) (hx : a.eval x = .pointer (some ⟨g, 0, none⟩)) (t : TypeId) (cs : Array Value) (fr : Nat × Nat) (d : TypeDesc) (hg : w.heap[g]? = some (.cells cs t fr))
    (hu : P.underlying ty = some d) (hd : (match d with | .struct _ | .array _ _ => true | _ => false) = true) (hi : (P.info? ty).map (·.size) = some cs.size)
    (h : wpList P ops Q rest (a.put o.dst (.agg cs)) w) : wpList P ops Q (o :: rest) a w := by
  unfold wpList
  rw [if_pos hw]
  exact .inl (wp_load_row ty x ho g hx t cs fr d hg hu hd hi h)
/-- A struct loaded out of the middle of a block. -/
theorem exec_load_mid {P : Program} {o : Oper} {a : Act} {w : World} (ty : TypeId) (x : Operand) (ho : o.op = .load ty x)
    (b off : Nat) (hx : a.eval x = .pointer (some ⟨b, off, none⟩)) (cs : List Value) (d : TypeDesc) (hc : w.rangeAt b off cs)
    (hu : P.underlying ty = some d) (hd : d.isRow = true) (hi : (P.info? ty).map (·.size) = some cs.length) :
    (execOp a.eval o).run P w = .ok (.value (.agg cs.toArray)) w := by
  unfold execOp
  simp only [ho, hx, Instr.loadAt, Instr.sureAddr, Sem.run_bind, Sem.run_pure, Result.andThen_ok, run_loadVar_mid w b off ty cs d hc hu hd hi]
end
end Go.Proofs.Ytglabahbklpocaa
namespace Go.Proofs.Ytglabahbklpocaa
section
open Go.RowKit
set_option maxRecDepth 100000
set_option linter.unusedVariables false
set_option linter.unusedSimpArgs false
attribute [local go_sem ↓] Go.wp_at_zero Go.wp_at_succ
/-- A record without its Deps. -/
structure Rc where
  kind : Int
  series : ByteArray
  time : Int
  value : Int
  tier : Int
  st : St

def i64' (x : Int) : Prop := -9223372036854775808 ≤ x ∧ x ≤ 9223372036854775807
structure Sl where
  a : Option Addr
  n : Nat
  c : Nat
def Sl.val (s : Sl) : Value := .slice s.a s.n s.c
def rcA (r : Rc) (d : Sl) : Array Value := #[.int .i64 r.kind, .string r.series, .int .i64 r.time, .int .i64 r.value, .int .i64 r.tier, .int .i64 r.st.clock, .int .i64 r.st.site, .int .i64 r.st.seq, .slice d.a d.n d.c]
def rcVal (r : Rc) (d : Sl) : Value := .agg (rcA r d)
def rcO (r : Rc) (d : Sl) : Obj := .cells (rcA r d) 86 (0, 0)
/-- The slice d reads as xs. -/
structure SlR (w : World) (d : Sl) (xs : List Int) : Prop where
  r : ReadsI .i64 w d.a d.n xs
  nc : d.n ≤ d.c
  cb : d.c ≤ 9223372036854775807
theorem SlR.below {w w' : World} {d : Sl} {xs : List Int} (h : SlR w d xs) (hb : Below w.heap.size w w') : SlR w' d xs := ⟨h.r.below hb, h.nc, h.cb⟩
theorem SlR.same {w wd : World} {d : Sl} {xs : List Int} (h : SlR w d xs) (e : wd.heap = w.heap) : SlR wd d xs := by
  obtain ⟨⟨h1, h2⟩, h3, h4⟩ := h
  refine ⟨⟨h1, h2.imp_right fun ⟨b, o, e1, e2, e3⟩ => ⟨b, o, e1, by rw [e]; exact e2, fun j hj => ?_⟩⟩, h3, h4⟩
  have := e3 j hj
  simp only [World.cell?] at this ⊢
  rw [e]; exact this
def Rc.wf (r : Rc) : Prop := i64' r.kind ∧ r.series.size ≤ 9223372036854775807 ∧ i64' r.time ∧ i64' r.value ∧ i64' r.tier ∧ i64' r.st.clock ∧ i64' r.st.site ∧ i64' r.st.seq
def recP (r : Rc) (ds : List Int) : Prop := clockV r.time = true ∧ okV r.st = true ∧ ds = pl ds ∧ atV ds r.st.site = r.st.seq - 1 ∧ ((r.kind = 1 ∧ nameV r.series = true ∧ r.tier = 0) ∨ (r.kind = 2 ∧ r.series.size = 0 ∧ r.value = 0 ∧ 0 ≤ r.tier ∧ r.tier ≤ 3))
open Classical in
noncomputable def chkR (r : Rc) (ds : List Int) : Int := if recP r ds then 0 else 1
theorem chkR_0 {r : Rc} {ds : List Int} (h : recP r ds) : chkR r ds = 0 := if_pos h
theorem chkR_1 {r : Rc} {ds : List Int} (h : ¬ recP r ds) : chkR r ds = 1 := if_neg h
structure RcC (w : World) (g : Nat) (r : Rc) (d : Sl) : Prop where
  c0 : w.cell? ⟨g, 0, none⟩ = some (.int .i64 r.kind)
  c1 : w.cell? ⟨g, 1, none⟩ = some (.string r.series)
  c2 : w.cell? ⟨g, 2, none⟩ = some (.int .i64 r.time)
  c3 : w.cell? ⟨g, 3, none⟩ = some (.int .i64 r.value)
  c4 : w.cell? ⟨g, 4, none⟩ = some (.int .i64 r.tier)
  c5 : w.cell? ⟨g, 5, none⟩ = some (.int .i64 r.st.clock)
  c6 : w.cell? ⟨g, 6, none⟩ = some (.int .i64 r.st.site)
  c7 : w.cell? ⟨g, 7, none⟩ = some (.int .i64 r.st.seq)
  c8 : w.cell? ⟨g, 8, none⟩ = some (.slice d.a d.n d.c)
theorem rc_cells {w wd : World} {g : Nat} {r : Rc} {d : Sl} (h : w.heap[g]? = some (rcO r d)) (e : wd.heap = w.heap) : RcC wd g r d := by
  have q : ∀ j v, (rcA r d)[j]? = some v → wd.cell? ⟨g, j, none⟩ = some v := fun j v hv => by
    simp only [World.cell?, e, h, rcO]
    exact hv
  exact ⟨q 0 _ rfl, q 1 _ rfl, q 2 _ rfl, q 3 _ rfl, q 4 _ rfl, q 5 _ rfl, q 6 _ rfl, q 7 _ rfl, q 8 _ rfl⟩
theorem RcC.conj {w : World} {g : Nat} {r : Rc} {d : Sl} (h : RcC w g r d) : w.cell? ⟨g, 2, none⟩ = some (.int .i64 r.time) ∧ w.cell? ⟨g, 5, none⟩ = some (.int .i64 r.st.clock) ∧ w.cell? ⟨g, 6, none⟩ = some (.int .i64 r.st.site) ∧ w.cell? ⟨g, 7, none⟩ = some (.int .i64 r.st.seq) ∧ w.cell? ⟨g, 8, none⟩ = some (.slice d.a d.n d.c) := ⟨h.c2, h.c5, h.c6, h.c7, h.c8⟩
end
end Go.Proofs.Ytglabahbklpocaa
