/- A reader that is read on, beside known blocks. The law's few: at most 30 points, with short names. -/
import Derived.Test.YtglabahbklpocaaGShipMany17
import Derived.Test.YtglabahbklpocaaGShipMany15
import Derived.Test.YtglabahbklpocaaGShipMany39
import Derived.Test.YtglabahbklpocaaGShipMany21
import Derived.Test.YtglabahbklpocaaGShipMany44
namespace Go.Proofs.Ytglabahbklpocaa
section
open Go.RowKit
set_option maxRecDepth 100000
set_option linter.unusedVariables false
set_option linter.unusedSimpArgs false
/-- Block g is the reader R; the listed blocks are as listed; all else that was there at w0 is as it was. -/
structure Kr (T : TypeId) (g : Nat) (w0 : World) (l : List (Nat × Obj)) (R : Rdr) (w : World) : Prop where
  rd : RdrAt T w g R
  at_ : ∀ p ∈ l, p.1 ≠ g ∧ w.heap[p.1]? = some p.2
  b : But g w0 w
section
variable {T : TypeId} {g : Nat} {w0 w w' wd : World} {l m : List (Nat × Obj)} {R R' : Rdr}
theorem Kr.start (h : RdrAt T w g R) : Kr T g w [] R w := ⟨h, by simp, But.refl g w⟩
theorem Kr.ne (h : Kr T g w0 l R w) {p : Nat × Obj} (hp : p ∈ l) : p.1 ≠ g := (h.at_ p hp).1
theorem Kr.lt (h : Kr T g w0 l R w) : ∀ p ∈ l, p.1 < w.heap.size := fun p hp => heap_lt (h.at_ p hp).2
theorem Kr.hd {k : Nat} {o : Obj} (h : Kr T g w0 ((k, o) :: l) R w) : w.heap[k]? = some o := (h.at_ (k, o) (List.mem_cons_self ..)).2
theorem Kr.sub (h : Kr T g w0 l R w) (hm : ∀ p ∈ m, p ∈ l) : Kr T g w0 m R w := ⟨h.rd, fun p hp => h.at_ p (hm p hp), h.b⟩
theorem Kr.put (h : Kr T g w0 l R w) {k : Nat} {o : Obj} (e : w.heap[k]? = some o) (hk : k ≠ g) : Kr T g w0 ((k, o) :: l) R w := ⟨h.rd, fun p hp => by
  rcases List.mem_cons.1 hp with rfl | hp
  · exact ⟨hk, e⟩
  · exact h.at_ p hp, h.b⟩
theorem Kr.step (h : Kr T g w0 l R w) (h1 : RdrAt T w' g R') (d : But g w w') : Kr T g w0 l R' w' :=
  ⟨h1, fun p hp => ⟨(h.at_ p hp).1, (d.block p.1 (h.lt p hp) (by simpa using fun e => (h.at_ p hp).1 e)).trans (h.at_ p hp).2⟩, h.b.trans d⟩
theorem Kr.below (h : Kr T g w0 l R w) (d : Below w.heap.size w w') : Kr T g w0 l R w' := h.step (h.rd.below d) (But.of_below d)
theorem Kr.same (h : Kr T g w0 l R w) (e1 : wd.heap = w.heap) (e2 : wd.os = w.os) (e3 : wd.tape = w.tape) (e4 : wd.output = w.output) : Kr T g w0 l R wd :=
  h.step (by unfold RdrAt; rw [e1]; exact h.rd) ⟨e2, e3, e4, by rw [e1]; exact Nat.le_refl _, fun i hi hne => by rw [e1]⟩
theorem Kr.later (h : Kr T g w0 l R w) (d : Below wd.heap.size wd w') (e1 : wd.heap = w.heap) (e2 : wd.os = w.os) (e3 : wd.tape = w.tape) (e4 : wd.output = w.output) : Kr T g w0 l R w' := (h.same e1 e2 e3 e4).below d
theorem Kr.new (h : Kr T g w0 l R w) (o : Obj) : Kr T g w0 ((w.heap.size, o) :: l) R (w.alloc o) := by
  have k := h.below ((Below.refl w.heap.size w).alloc (Nat.le_refl _) o)
  have hlt := h.rd.lt
  refine ⟨k.rd, fun p hp => ?_, k.b⟩
  rcases List.mem_cons.1 hp with rfl | hp
  · exact ⟨by simp only; omega, heap_alloc_new w o⟩
  · exact k.at_ p hp
theorem Kr.new' (h : Kr T g w0 l R w) {n : Nat} (hn : w.heap.size = n) (o : Obj) : Kr T g w0 ((n, o) :: l) R (w.alloc o) := by subst hn; exact h.new o
theorem Kr.cell (h : Kr T g w0 l R w) {k : Nat} {o : Obj} (hm : (k, o) ∈ l) {cs : Array Value} {U : TypeId} {fr : Nat × Nat} {j : Nat} {v : Value} (hv : cs[j]? = some v) (ho : o = .cells cs U fr := by rfl) : w.cell? ⟨k, j, none⟩ = some v := by
  have := (h.at_ _ hm).2
  subst ho
  simp only [World.cell?, this]
  exact hv
theorem Kr.fz (h : Kr T g w0 l R w) {k : Nat} {o : Obj} (hm : (k, o) ∈ l) (j : Nat) {cs : Array Value} {U : TypeId} (ho : o = .cells cs U (0, 0) := by rfl) : w.frozen? ⟨k, j, none⟩ = false := by
  have := (h.at_ _ hm).2
  subst ho
  simp [World.frozen?, this]
/-- A block of one's own, the first of the list, is changed. -/
theorem Kr.but {k : Nat} {o o' : Obj} (h : Kr T g w0 ((k, o) :: l) R w) (hl : Apart k l) (hk : w0.heap.size ≤ k) (d : But k w w') (e : w'.heap[k]? = some o') : Kr T g w0 ((k, o') :: l) R w' := by
  have hkg := (h.at_ (k, o) (List.mem_cons_self ..)).1
  refine ⟨(d.block g h.rd.lt (by simpa using fun e => hkg e.symm)).trans h.rd, fun p hp => ?_, ⟨d.os.trans h.b.os, d.tape.trans h.b.tape, d.output.trans h.b.output, Nat.le_trans h.b.size d.size, fun i hi hne => ?_⟩⟩
  · rcases List.mem_cons.1 hp with rfl | hp
    · exact ⟨hkg, e⟩
    · have h1 := h.at_ p (List.mem_cons_of_mem _ hp)
      exact ⟨h1.1, (d.block p.1 (heap_lt h1.2) (by simpa using fun e => hl.all p hp e)).trans h1.2⟩
  · exact (d.block i (Nat.lt_of_lt_of_le hi h.b.size) (by simp; omega)).trans (h.b.block i hi hne)
theorem Kr.setCell {k : Nat} {o : Obj} (h : Kr T g w0 ((k, o) :: l) R w) (hl : Apart k l) (hk : w0.heap.size ≤ k) (j : Nat) (v : Value) (o' : Obj) {cs : Array Value} {U : TypeId} (ho' : o' = .cells (cs.setIfInBounds j v) U (0, 0)) (ho : o = .cells cs U (0, 0) := by rfl) : Kr T g w0 ((k, o') :: l) R (w.setCell ⟨k, j, none⟩ v) := by
  subst ho ho'
  exact Kr.but h hl hk (But.set k j w v) (heap_setCell_same w k j cs U v h.hd)
theorem Kr.setRow {k : Nat} {o : Obj} (h : Kr T g w0 ((k, o) :: l) R w) (hl : Apart k l) (hk : w0.heap.size ≤ k) (o' : Obj) {cs cs' : Array Value} {U : TypeId} (ho' : o' = .cells cs' U (0, 0) := by rfl) (ho : o = .cells cs U (0, 0) := by rfl) : Kr T g w0 ((k, o') :: l) R (w.setRow k cs') := by
  subst ho ho'
  exact Kr.but h hl hk ⟨rfl, rfl, rfl, by simp [World.setRow], fun i hi hne => setRow_other w k i cs' (by simpa using hne)⟩ (setRow_heap w k _ _ _ _ h.hd)
theorem Kr.own (h : Kr T g w0 l R w) (d : Below w0.heap.size w w') (hg : g < w0.heap.size) (hl : ∀ p ∈ l, p.1 < w0.heap.size) : Kr T g w0 l R w' :=
  ⟨(d.block g hg).trans h.rd, fun p hp => ⟨(h.at_ p hp).1, (d.block p.1 (hl p hp)).trans (h.at_ p hp).2⟩, ⟨d.os.trans h.b.os, d.tape.trans h.b.tape, d.output.trans h.b.output, Nat.le_trans h.b.size d.size, fun i hi hne => (d.block i hi).trans (h.b.block i hi hne)⟩⟩
theorem Kr.ownB {B : Nat} (h : Kr T g w0 l R w) (d : Below B w w') (hg : g < B) (hB : w0.heap.size ≤ B) (hl : ∀ p ∈ l, p.1 < B) : Kr T g w0 l R w' :=
  ⟨(d.block g hg).trans h.rd, fun p hp => ⟨(h.at_ p hp).1, (d.block p.1 (hl p hp)).trans (h.at_ p hp).2⟩, ⟨d.os.trans h.b.os, d.tape.trans h.b.tape, d.output.trans h.b.output, Nat.le_trans h.b.size d.size, fun i hi hne => (d.block i (Nat.lt_of_lt_of_le hi hB)).trans (h.b.block i hi hne)⟩⟩
end
end
end Go.Proofs.Ytglabahbklpocaa
namespace Go.Proofs.Ytglabahbklpocaa
section
open Go.RowKit Go.Deep
set_option maxRecDepth 100000
set_option linter.unusedVariables false
set_option linter.unusedSimpArgs false
attribute [local go_sem ↓] Go.wp_at_zero Go.wp_at_succ
def fewP (x : Pt) : Pt := { x with series := x.series.extract 0 60 }
def fewV (l : List Pt) : List Pt := (l.take 30).map fewP
theorem few_len (l : List Pt) : (fewV l).length = min 30 l.length := by simp [fewV]
theorem few_next (l : List Pt) (k : Nat) (p : Pt) (hk : k < 30) (h : l[k]? = some p) : (fewV l).take (k + 1) = (fewV l).take k ++ [fewP p] := by
  have h1 : (fewV l)[k]? = some (fewP p) := by
    unfold fewV
    rw [List.getElem?_map, List.getElem?_take_of_lt hk, h]
    rfl
  obtain ⟨h2, h3⟩ := List.getElem?_eq_some_iff.1 h1
  rw [List.take_succ_eq_append_getElem h2, h3]
theorem few_wf (l : List Pt) (h : ∀ p ∈ l, p.wf) : ∀ p ∈ fewV l, p.wf ∧ p.series.size ≤ 60 := by
  intro p hp
  obtain ⟨q, hq, rfl⟩ := List.mem_map.1 hp
  obtain ⟨h1, h2, h3, h4⟩ := h q (List.mem_of_mem_take hq)
  have : (fewP q).series.size ≤ 60 := by simp only [fewP, ByteArray.size_extract]; omega
  exact ⟨⟨by unfold maxLen; omega, h2, h3, h4⟩, this⟩
end
end Go.Proofs.Ytglabahbklpocaa
