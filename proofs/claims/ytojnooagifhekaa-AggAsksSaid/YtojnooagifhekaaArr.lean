/- A block that is an array of numbers of one kind; one that is a single number. -/
import Derived.Test.YtojnooagifhekaaGen
namespace Go.Proofs.Ytojnooagifhekaa
open Go.RowKit
set_option maxRecDepth 100000
set_option linter.unusedVariables false
set_option linter.unusedSimpArgs false
def cellsK (k : IntKind) (l : List Int) : Array Value := (l.map (Value.int k)).toArray
theorem cellsK_get (k : IntKind) (l : List Int) (i : Nat) (h : i < l.length) : (cellsK k l)[i]? = some (.int k (l.getD i 0)) := by
  simp [cellsK, h]
theorem cellsK_set (k : IntKind) (l : List Int) (i : Nat) (v : Int) : (cellsK k l).setIfInBounds i (.int k v) = cellsK k (l.set i v) := by
  simp [cellsK, List.map_set]
theorem cellsK_size (k : IntKind) (l : List Int) : (cellsK k l).size = l.length := by simp [cellsK]
theorem cellsK_one (k : IntKind) (l : List Int) : (cellsK k l).all (·.oneCell') = true := by
  simp [cellsK, Array.all_eq_true]
  intro i hi
  rfl
/-- The block g is an array (type T) of the numbers l. -/
def BlkK (k : IntKind) (T : TypeId) (w : World) (g : Nat) (l : List Int) : Prop := w.heap[g]? = some (.cells (cellsK k l) T (0, 0))
theorem BlkK.lt {k : IntKind} {T : TypeId} {w : World} {g : Nat} {l : List Int} (h : BlkK k T w g l) : g < w.heap.size := by
  unfold BlkK at h
  rcases Nat.lt_or_ge g w.heap.size with h' | h'
  · exact h'
  · simp [Array.getElem?_eq_none h'] at h
theorem BlkK.cell {k : IntKind} {T : TypeId} {w : World} {g : Nat} {l : List Int} (h : BlkK k T w g l) (i : Nat) (hi : i < l.length) : w.cell? ⟨g, i, none⟩ = some (.int k (l.getD i 0)) := by
  simp only [World.cell?, show w.heap[g]? = _ from h]
  exact cellsK_get k l i hi
theorem BlkK.fz {k : IntKind} {T : TypeId} {w : World} {g : Nat} {l : List Int} (h : BlkK k T w g l) (j : Nat) : w.frozen? ⟨g, j, none⟩ = false := by simp [World.frozen?, show w.heap[g]? = _ from h]
theorem BlkK.set {k : IntKind} {T : TypeId} {w : World} {g : Nat} {l : List Int} (h : BlkK k T w g l) (i : Nat) (v : Int) : BlkK k T (w.setCell ⟨g, i, none⟩ (.int k v)) g (l.set i v) := by
  unfold BlkK at *
  simp [World.setCell, Array.getElem?_modify, h, cellsK_set]
theorem BlkK.far {k : IntKind} {T : TypeId} {w : World} {g : Nat} {l : List Int} (h : BlkK k T w g l) {p : Addr} (hp : g ≠ p.block) (v : Value) : BlkK k T (w.setCell p v) g l := (Below.heap_setCell w p v g hp).trans h
theorem BlkK.below {k : IntKind} {T : TypeId} {w w' : World} {g : Nat} {l : List Int} (h : BlkK k T w g l) (hb : Below w.heap.size w w') : BlkK k T w' g l := (hb.block g h.lt).trans h
theorem BlkK.belowB {B : Nat} {k : IntKind} {T : TypeId} {w w' : World} {g : Nat} {l : List Int} (h : BlkK k T w g l) (hb : Below B w w') (hg : g < B) : BlkK k T w' g l := (hb.block g hg).trans h
theorem BlkK.drewN {k : IntKind} {T : TypeId} {w : World} {g : Nat} {l : List Int} (h : BlkK k T w g l) (n : Nat) : BlkK k T (w.drewN n) g l := h
theorem BlkK.alloc {k : IntKind} {T : TypeId} {w : World} {g : Nat} {l : List Int} (h : BlkK k T w g l) (o : Obj) : BlkK k T (w.alloc o) g l := (Below.heap_alloc w o g h.lt).trans h
theorem BlkK.new (k : IntKind) (T : TypeId) (w : World) (l : List Int) : BlkK k T (w.alloc (.cells (cellsK k l) T)) w.heap.size l := heap_alloc_new w _
theorem BlkK.setRow {k : IntKind} {T : TypeId} {w : World} {g : Nat} {l m : List Int} (h : BlkK k T w g l) : BlkK k T (w.setRow g (cellsK k m)) g m := setRow_heap w g _ _ _ _ h
theorem below_al {w0 w : World} {o : Obj} (h : Below w0.heap.size w0 w) : Below w0.heap.size w0 (w.alloc o) := h.alloc h.size o
theorem below_st {w0 w : World} {p : Addr} (h : Below w0.heap.size w0 w) (hp : w0.heap.size ≤ p.block) (v : Value) : Below w0.heap.size w0 (w.setCell p v) := h.setCell hp v
theorem below_dN {B : Nat} {w0 w : World} (h : Below B w0 w) (n : Nat) : Below B w0 (w.drewN n) := ⟨h.os, h.tape, h.output, h.size, h.block⟩
/-- All but the blocks of B is as it was. -/
theorem below_th {w0 w w' : World} (h : Below w0.heap.size w0 w) (k : Below w.heap.size w w') : Below w0.heap.size w0 w' := below_then h h.size k
end Go.Proofs.Ytojnooagifhekaa
