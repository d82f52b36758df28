/- Stamps out of a reader: mark.Take, mark.Bytes; the reference's Check, Less, Bytes, Take. -/
import Derived.Test.YtdihbinbkneejaaGOriginNil15
import Derived.Test.YtdihbinbkneejaaGOriginNil18
import Derived.Test.YtdihbinbkneejaaGOriginNil17
import Derived.Test.YtdihbinbkneejaaGOriginNil3
import Derived.Deep.RegionHeld3
import Derived.Deep.DrawnRows
import Derived.Deep.DeepCutAuto
import Derived.Deep.CutBlock
namespace Go.Proofs.Ytdihbinbkneejaa
section
open Go.RowKit
set_option maxRecDepth 100000
set_option linter.unusedVariables false
set_option linter.unusedSimpArgs false
attribute [local go_sem ↓] Go.wp_at_zero Go.wp_at_succ
/-- The block g is a stamp. -/
def StAt (w : World) (g : Nat) (a : St) : Prop := w.heap[g]? = some (.cells #[.int .i64 a.clock, .int .i64 a.site, .int .i64 a.seq] 27 (0, 0))
theorem StAt.lt {w : World} {g : Nat} {a : St} (h : StAt w g a) : g < w.heap.size := by
  unfold StAt at h
  rcases Nat.lt_or_ge g w.heap.size with h' | h'
  · exact h'
  · simp [Array.getElem?_eq_none h'] at h
theorem StAt.c0 {w : World} {g : Nat} {a : St} (h : StAt w g a) : w.cell? ⟨g, 0, none⟩ = some (.int .i64 a.clock) := by simp [World.cell?, show w.heap[g]? = _ from h]
theorem StAt.c1 {w : World} {g : Nat} {a : St} (h : StAt w g a) : w.cell? ⟨g, 1, none⟩ = some (.int .i64 a.site) := by simp [World.cell?, show w.heap[g]? = _ from h]
theorem StAt.c2 {w : World} {g : Nat} {a : St} (h : StAt w g a) : w.cell? ⟨g, 2, none⟩ = some (.int .i64 a.seq) := by simp [World.cell?, show w.heap[g]? = _ from h]
theorem StAt.fz {w : World} {g : Nat} {a : St} (h : StAt w g a) (j : Nat) : w.frozen? ⟨g, j, none⟩ = false := by simp [World.frozen?, show w.heap[g]? = _ from h]
theorem StAt.new (w : World) (a : St) : StAt (w.alloc (.cells #[.int .i64 a.clock, .int .i64 a.site, .int .i64 a.seq] 27)) w.heap.size a := heap_alloc_new w _
theorem StAt.alloc {w : World} {g : Nat} {a : St} (h : StAt w g a) (o : Obj) : StAt (w.alloc o) g a := (Below.heap_alloc w o g h.lt).trans h
theorem StAt.below {w w' : World} {g : Nat} {a : St} (h : StAt w g a) (hb : Below w.heap.size w w') : StAt w' g a := (hb.block g h.lt).trans h
theorem StAt.far {w : World} {g : Nat} {a : St} (h : StAt w g a) {p : Addr} (hp : g ≠ p.block) (v : Value) : StAt (w.setCell p v) g a := (Below.heap_setCell w p v g hp).trans h
theorem StAt.but {w w' : World} {g b : Nat} {a : St} (h : StAt w b a) (k : But g w w') (hne : b ≠ g) : StAt w' b a := (k.block b h.lt (by simp; exact fun e => hne e)).trans h
theorem StAt.set {w : World} {g : Nat} {a : St} (h : StAt w g a) (b : St) : StAt (((w.setCell ⟨g, 0, none⟩ (.int .i64 b.clock)).setCell ⟨g, 1, none⟩ (.int .i64 b.site)).setCell ⟨g, 2, none⟩ (.int .i64 b.seq)) g b := by
  unfold StAt at *
  simp [World.setCell, Array.getElem?_modify, h]
theorem RdrAt.alloc {T : TypeId} {w : World} {g : Nat} {r : Rdr} (h : RdrAt T w g r) (o : Obj) : RdrAt T (w.alloc o) g r := (Below.heap_alloc w o g h.lt).trans h
theorem RdrAt.far {T : TypeId} {w : World} {g : Nat} {r : Rdr} (h : RdrAt T w g r) {p : Addr} (hp : g ≠ p.block) (v : Value) : RdrAt T (w.setCell p v) g r := (Below.heap_setCell w p v g hp).trans h
theorem But.alloc {g : Nat} {w w' : World} (h : But g w w') (o : Obj) : But g w (w'.alloc o) :=
  ⟨h.os, h.tape, h.output, Nat.le_trans h.size (by simp), fun i hi hne => (Below.heap_alloc w' o i (Nat.lt_of_lt_of_le hi h.size)).trans (h.block i hi hne)⟩
theorem But.then_below {g : Nat} {w w1 w2 : World} (h : But g w w1) (k : Below w1.heap.size w1 w2) : But g w w2 := h.trans (But.of_below k)
theorem But.far {g : Nat} {w w' : World} (h : But g w w') {p : Addr} (hp : w.heap.size ≤ p.block) (v : Value) : But g w (w'.setCell p v) :=
  ⟨h.os, h.tape, h.output, by have := h.size; simpa [World.setCell] using this, fun i hi hne => (Below.heap_setCell w' p v i (by omega)).trans (h.block i hi hne)⟩
/-- What Take takes. -/
def takeP (r : Rdr) : St × Rdr := (⟨(r.small 1099511627776).1, ((r.small 1099511627776).2.small 7).1, (((r.small 1099511627776).2.small 7).2.small 1099511627776).1⟩, (((r.small 1099511627776).2.small 7).2.small 1099511627776).2)
def takeV (r : Rdr) : St × Rdr := if okV (takeP r).1 = true then takeP r else (⟨0, 0, 0⟩, ((takeP r).2.small (-1)).2)
theorem Rdr.small_bad {r : Rdr} (most : Int) (h : (r.small most).2.bad = true) : (r.small most).1 = 0 := by
  unfold Rdr.small at *
  split at h
  · rename_i hc; rw [if_pos hc]
  · rename_i hc
    exact absurd (.inl h) hc
theorem take_good {r : Rdr} (h : okV (takeP r).1 = true) : (takeP r).2.bad = false := by
  rcases hb : (takeP r).2.bad with _ | _
  · rfl
  · exfalso
    have h0 : (takeP r).1.seq = 0 := Rdr.small_bad 1099511627776 hb
    unfold okV inV at h
    rw [h0] at h
    simp at h
theorem takeP_ok {r : Rdr} (h : r.ok) : (takeP r).2.ok ∧ (takeP r).2.s = r.s := by
  have h1 := Rdr.small_ok h 1099511627776
  have h2 := Rdr.small_ok h1.1 7
  have h3 := Rdr.small_ok h2.1 1099511627776
  exact ⟨h3.1, h3.2.trans (h2.2.trans h1.2)⟩
theorem takeV_ok {r : Rdr} (h : r.ok) : (takeV r).2.ok ∧ (takeV r).2.s = r.s := by
  have h1 := takeP_ok h
  unfold takeV
  split
  · exact h1
  · have h2 := Rdr.small_ok h1.1 (-1)
    exact ⟨h2.1, h2.2.trans h1.2⟩
end
end Go.Proofs.Ytdihbinbkneejaa
