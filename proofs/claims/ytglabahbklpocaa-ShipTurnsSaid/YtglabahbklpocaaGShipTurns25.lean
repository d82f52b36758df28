/- Known blocks, more: cells out of them, whole rows written, blocks that are made. -/
import Derived.Test.YtglabahbklpocaaGShipTurns24
import Derived.Deep.RegionHeld3
import Derived.Deep.DrawnRows
import Derived.Deep.DeepCutAuto
import Derived.Deep.CutBlock
import Derived.Deep.WholeRow
import Derived.Deep.MidRow
namespace Go.Proofs.Ytglabahbklpocaa
section
open Go.RowKit
set_option maxRecDepth 100000
set_option linter.unusedVariables false
set_option linter.unusedSimpArgs false
theorem cell_row_far {w : World} {g b o : Nat} {v : Value} {cs : Array Value} (h : w.cell? ⟨b, o, none⟩ = some v) (hne : b ≠ g) : (w.setRow g cs).cell? ⟨b, o, none⟩ = some v := by
  rw [← h]
  simp only [World.cell?]
  rw [setRow_other w g b cs hne]
/-- No listed block is g. -/
def Apart (g : Nat) : List (Nat × Obj) → Prop
  | [] => True
  | p :: r => p.1 ≠ g ∧ Apart g r
theorem Apart.all {g : Nat} {l : List (Nat × Obj)} (h : Apart g l) : ∀ p ∈ l, p.1 ≠ g := by
  induction l with
  | nil => simp
  | cons q r ih =>
    intro p hp
    rcases List.mem_cons.1 hp with rfl | hp
    · exact h.1
    · exact ih h.2 p hp
section
variable {B : Nat} {w0 w : World} {l : List (Nat × Obj)} {g : Nat} {o : Obj}
theorem Kn.new' (h : Kn B w0 l w) {n : Nat} (hn : w.heap.size = n) (o : Obj) : Kn B w0 ((n, o) :: l) (w.alloc o) := by subst hn; exact h.new o
theorem Kn.cell (h : Kn B w0 l w) (hm : (g, o) ∈ l) {cs : Array Value} {T : TypeId} {fr : Nat × Nat} {j : Nat} {v : Value} (hv : cs[j]? = some v) (ho : o = .cells cs T fr := by rfl) : w.cell? ⟨g, j, none⟩ = some v := by
  have := h.at_ _ hm
  subst ho
  simp only [World.cell?, this]
  exact hv
theorem Kn.fz (h : Kn B w0 l w) (hm : (g, o) ∈ l) (j : Nat) {cs : Array Value} {T : TypeId} (ho : o = .cells cs T (0, 0) := by rfl) : w.frozen? ⟨g, j, none⟩ = false := by
  have := h.at_ _ hm
  subst ho
  simp [World.frozen?, this]
theorem Kn.fresh (h : Kn B w0 ((g, o) :: l) w) : g < w.heap.size := h.lt (g, o) (List.mem_cons_self ..)
theorem Kn.setRow (h : Kn B w0 ((g, o) :: l) w) (hl : Apart g l) (hg : B ≤ g) (o' : Obj) {cs cs' : Array Value} {T : TypeId} (ho' : o' = .cells cs' T (0, 0) := by rfl) (ho : o = .cells cs T (0, 0) := by rfl) : Kn B w0 ((g, o') :: l) (w.setRow g cs') := by
  subst ho ho'
  refine Kn.but h (o' := .cells cs' T (0, 0)) ⟨rfl, rfl, rfl, by simp [World.setRow], fun i hi hne => setRow_other w g i cs' (by simpa using hne)⟩ hl.all hg (setRow_heap w g _ _ _ _ h.hd)
theorem Kn.setCell (h : Kn B w0 ((g, o) :: l) w) (hl : Apart g l) (hg : B ≤ g) (j : Nat) (v : Value) (o' : Obj) {cs : Array Value} {T : TypeId} (ho' : o' = .cells (cs.setIfInBounds j v) T (0, 0)) (ho : o = .cells cs T (0, 0) := by rfl) : Kn B w0 ((g, o') :: l) (w.setCell ⟨g, j, none⟩ v) := by
  subst ho ho'
  exact Kn.but h (o' := .cells (cs.setIfInBounds j v) T (0, 0)) (But.set g j w v) hl.all hg (heap_setCell_same w g j cs T v h.hd)
/-- The block that is wanted comes first. -/
theorem Kn.perm (h : Kn B w0 l w) {m : List (Nat × Obj)} (hm : ∀ p ∈ m, p ∈ l) : Kn B w0 m w := h.sub hm
end
theorem exec_load_row {P : Program} {o : Oper} {a : Act} {w : World} (ty : TypeId) (x : Operand) (ho : o.op = .load ty x)
    (g : Nat) (hx : a.eval x = .pointer (some ⟨g, 0, none⟩)) (t : TypeId) (cs : Array Value) (fr : Nat × Nat) (d : TypeDesc) (hg : w.heap[g]? = some (.cells cs t fr))
    (hu : P.underlying ty = some d) (hd : (match d with | .struct _ | .array _ _ => true | _ => false) = true) (hi : (P.info? ty).map (·.size) = some cs.size) :
    (execOp a.eval o).run P w = .ok (.value (.agg cs)) w := by
  unfold execOp
  simp only [ho, hx, Instr.loadAt, Instr.sureAddr, Sem.run_bind, Sem.run_pure, Result.andThen_ok, run_loadVar_row w g t ty cs fr d hg hu hd hi]
/-- A whole row loaded, guarded, where it is wanted. -/
theorem wpList_load_row_w {P : Program} {ops : Array Oper} {rest : List Oper} {o : Oper} {a : Act} {w : World} {Q : Exit → Act → World → Prop} (hw : Region.wanted o (yielded ops a.tmps) = true) (ty : TypeId) (x : Operand) (ho : o.op = .load ty x)
    (g : Nat) (hx : a.eval x = .pointer (some ⟨g, 0, none⟩)) (t : TypeId) (cs : Array Value) (fr : Nat × Nat) (d : TypeDesc) (hg : w.heap[g]? = some (.cells cs t fr))
    (hu : P.underlying ty = some d) (hd : (match d with | .struct _ | .array _ _ => true | _ => false) = true) (hi : (P.info? ty).map (·.size) = some cs.size)
    (h : wpList P ops Q rest (a.put o.dst (.agg cs)) w) : wpList P ops Q (o :: rest) a w := by
  unfold wpList
  rw [if_pos hw]
  exact .inl (wp_load_row ty x ho g hx t cs fr d hg hu hd hi h)
/-- A struct loaded out of the middle of a block. -/
theorem exec_load_mid {P : Program} {o : Oper} {a : Act} {w : World} (ty : TypeId) (x : Operand) (ho : o.op = .load ty x)
    (b off : Nat) (hx : a.eval x = .pointer (some ⟨b, off, none⟩)) (cs : List Value) (d : TypeDesc) (hc : w.rangeAt b off cs)
    (hu : P.underlying ty = some d) (hd : d.isRow = true) (hi : (P.info? ty).map (·.size) = some cs.length) :
    (execOp a.eval o).run P w = .ok (.value (.agg cs.toArray)) w := by
  unfold execOp
  simp only [ho, hx, Instr.loadAt, Instr.sureAddr, Sem.run_bind, Sem.run_pure, Result.andThen_ok, run_loadVar_mid w b off ty cs d hc hu hd hi]
end
end Go.Proofs.Ytglabahbklpocaa
