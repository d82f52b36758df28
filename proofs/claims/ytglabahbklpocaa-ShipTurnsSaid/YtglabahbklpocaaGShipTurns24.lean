/- Known blocks: what is known of the heap, carried along. -/
import Derived.Test.YtglabahbklpocaaGShipTurns19
namespace Go.Proofs.Ytglabahbklpocaa
section
open Go.RowKit
set_option maxRecDepth 100000
set_option linter.unusedVariables false
set_option linter.unusedSimpArgs false
/-- Each listed block is as listed; all that was there at w0 (of size B) is as it was. -/
structure Kn (B : Nat) (w0 : World) (l : List (Nat × Obj)) (w : World) : Prop where
  at_ : ∀ p ∈ l, w.heap[p.1]? = some p.2
  b : Below B w0 w
  le : B ≤ w.heap.size
theorem Kn.start (w : World) : Kn w.heap.size w [] w := ⟨by simp, Below.refl _ _, Nat.le_refl _⟩
theorem heap_lt {w : World} {g : Nat} {o : Obj} (h : w.heap[g]? = some o) : g < w.heap.size := by
  rcases Nat.lt_or_ge g w.heap.size with h' | h'
  · exact h'
  · simp [Array.getElem?_eq_none h'] at h
theorem Kn.lt {B : Nat} {w0 w : World} {l : List (Nat × Obj)} (h : Kn B w0 l w) : ∀ p ∈ l, p.1 < w.heap.size := fun p hp => heap_lt (h.at_ p hp)
theorem Kn.hd {B : Nat} {w0 w : World} {l : List (Nat × Obj)} {g : Nat} {o : Obj} (h : Kn B w0 ((g, o) :: l) w) : w.heap[g]? = some o := h.at_ (g, o) (List.mem_cons_self ..)
theorem Kn.tl {B : Nat} {w0 w : World} {l : List (Nat × Obj)} {p : Nat × Obj} (h : Kn B w0 (p :: l) w) : Kn B w0 l w := ⟨fun q hq => h.at_ q (List.mem_cons_of_mem _ hq), h.b, h.le⟩
theorem Kn.below {B : Nat} {w0 w w' : World} {l : List (Nat × Obj)} (h : Kn B w0 l w) (d : Below w.heap.size w w') : Kn B w0 l w' :=
  ⟨fun p hp => (d.block p.1 (h.lt p hp)).trans (h.at_ p hp), below_then h.b h.le d, Nat.le_trans h.le d.size⟩
theorem Kn.same {B : Nat} {w0 w wd : World} {l : List (Nat × Obj)} (h : Kn B w0 l w) (e1 : wd.heap = w.heap) (e2 : wd.os = w.os) (e3 : wd.tape = w.tape) (e4 : wd.output = w.output) : Kn B w0 l wd :=
  ⟨fun p hp => by rw [e1]; exact h.at_ p hp, ⟨e2.trans h.b.os, e3.trans h.b.tape, e4.trans h.b.output, by rw [e1]; exact h.b.size, fun k hk => by rw [e1]; exact h.b.block k hk⟩, by rw [e1]; exact h.le⟩
theorem Kn.later {B : Nat} {w0 w wd w' : World} {l : List (Nat × Obj)} (h : Kn B w0 l w) (d : Below wd.heap.size wd w') (e1 : wd.heap = w.heap) (e2 : wd.os = w.os) (e3 : wd.tape = w.tape) (e4 : wd.output = w.output) : Kn B w0 l w' := (h.same e1 e2 e3 e4).below d
theorem Kn.new {B : Nat} {w0 w : World} {l : List (Nat × Obj)} (h : Kn B w0 l w) (o : Obj) : Kn B w0 ((w.heap.size, o) :: l) (w.alloc o) := by
  have k := h.below ((Below.refl w.heap.size w).alloc (Nat.le_refl _) o)
  refine ⟨fun p hp => ?_, k.b, k.le⟩
  rcases List.mem_cons.1 hp with rfl | hp
  · exact heap_alloc_new w o
  · exact k.at_ p hp
/-- A block that is known by now. -/
theorem Kn.put {B : Nat} {w0 w : World} {l : List (Nat × Obj)} (h : Kn B w0 l w) {g : Nat} {o : Obj} (e : w.heap[g]? = some o) : Kn B w0 ((g, o) :: l) w := ⟨fun p hp => by
  rcases List.mem_cons.1 hp with rfl | hp
  · exact e
  · exact h.at_ p hp, h.b, h.le⟩
/-- Block g alone, the first one, was changed. -/
theorem Kn.but {B : Nat} {w0 w w' : World} {l : List (Nat × Obj)} {g : Nat} {o o' : Obj} (h : Kn B w0 ((g, o) :: l) w) (k : But g w w') (hl : ∀ p ∈ l, p.1 ≠ g) (hg : B ≤ g) (e : w'.heap[g]? = some o') : Kn B w0 ((g, o') :: l) w' :=
  Kn.put ⟨fun p hp => (k.block p.1 (h.tl.lt p hp) (by simp; exact fun e => hl p hp e)).trans (h.tl.at_ p hp), But.below h.b k h.le hg, Nat.le_trans h.le k.size⟩ e
theorem Kn.sub {B : Nat} {w0 w : World} {l m : List (Nat × Obj)} (h : Kn B w0 l w) (hm : ∀ p ∈ m, p ∈ l) : Kn B w0 m w := ⟨fun p hp => h.at_ p (hm p hp), h.b, h.le⟩
def rdO (T : TypeId) (r : Rdr) : Obj := .cells #[.string r.s, .int .i64 r.pos, .bool r.bad] T (0, 0)
theorem Kn.rdS {B : Nat} {w0 w wd : World} {l : List (Nat × Obj)} {g : Nat} {T : TypeId} {r : Rdr} (h : Kn B w0 l w) (hm : (g, rdO T r) ∈ l) (e : wd.heap = w.heap) : RdrAt T wd g r := by
  unfold RdrAt
  rw [e]
  exact h.at_ _ hm
theorem quiet_below {w w' : World} (d : QuietFrom w w') : Below w.heap.size w w' := d.below
theorem Kn.laterQ {B : Nat} {w0 w wd w' : World} {l : List (Nat × Obj)} (h : Kn B w0 l w) (d : QuietFrom wd w') (e1 : wd.heap = w.heap) (e2 : wd.os = w.os) (e3 : wd.tape = w.tape) (e4 : wd.output = w.output) : Kn B w0 l w' := h.later d.below e1 e2 e3 e4
end
end Go.Proofs.Ytglabahbklpocaa
