/- The Reader of the package vint: what each method answers and leaves behind. The Reader of the package vint, more: Left, End, Text, Read. -/
import Derived.Test.YtdihbinbkneejaaGOriginNil2
import Derived.Test.YtdihbinbkneejaaGOriginNil15
import Derived.Test.YtdihbinbkneejaaGOriginNil16
import Derived.Deep.QuietTactic
import Derived.BigQuiet
namespace Go.Proofs.Ytdihbinbkneejaa
section
open Go.RowKit
set_option maxRecDepth 100000
set_option linter.unusedVariables false
set_option linter.unusedSimpArgs false
/-- A reader: its bytes, its place, is it broken. -/
structure Rdr where
  s : ByteArray
  pos : Int
  bad : Bool
def Rdr.ok (r : Rdr) : Prop := r.s.size ≤ 1000000000 ∧ 0 ≤ r.pos ∧ r.pos ≤ r.s.size
/-- The block g is a reader of type T. -/
def RdrAt (T : TypeId) (w : World) (g : Nat) (r : Rdr) : Prop := w.heap[g]? = some (.cells #[.string r.s, .int .i64 r.pos, .bool r.bad] T (0, 0))
theorem RdrAt.lt {T : TypeId} {w : World} {g : Nat} {r : Rdr} (h : RdrAt T w g r) : g < w.heap.size := by
  unfold RdrAt at h
  rcases Nat.lt_or_ge g w.heap.size with h' | h'
  · exact h'
  · simp [Array.getElem?_eq_none h'] at h
theorem RdrAt.c0 {T : TypeId} {w : World} {g : Nat} {r : Rdr} (h : RdrAt T w g r) : w.cell? ⟨g, 0, none⟩ = some (.string r.s) := by simp [World.cell?, show w.heap[g]? = _ from h]
theorem RdrAt.c1 {T : TypeId} {w : World} {g : Nat} {r : Rdr} (h : RdrAt T w g r) : w.cell? ⟨g, 1, none⟩ = some (.int .i64 r.pos) := by simp [World.cell?, show w.heap[g]? = _ from h]
theorem RdrAt.c2 {T : TypeId} {w : World} {g : Nat} {r : Rdr} (h : RdrAt T w g r) : w.cell? ⟨g, 2, none⟩ = some (.bool r.bad) := by simp [World.cell?, show w.heap[g]? = _ from h]
theorem RdrAt.fz {T : TypeId} {w : World} {g : Nat} {r : Rdr} (h : RdrAt T w g r) (j : Nat) : w.frozen? ⟨g, j, none⟩ = false := by simp [World.frozen?, show w.heap[g]? = _ from h]
theorem RdrAt.set2 {T : TypeId} {w : World} {g : Nat} {r : Rdr} (h : RdrAt T w g r) (b : Bool) : RdrAt T (w.setCell ⟨g, 2, none⟩ (.bool b)) g { r with bad := b } := by
  unfold RdrAt at *
  simp [World.setCell, Array.getElem?_modify, h]
theorem RdrAt.set1 {T : TypeId} {w : World} {g : Nat} {r : Rdr} (h : RdrAt T w g r) (p : Int) : RdrAt T (w.setCell ⟨g, 1, none⟩ (.int .i64 p)) g { r with pos := p } := by
  unfold RdrAt at *
  simp [World.setCell, Array.getElem?_modify, h]
/-- All but block g is as it was. -/
def But (g : Nat) (w w' : World) : Prop := w.grownBy w' (some g)
theorem But.refl (g : Nat) (w : World) : But g w w := ⟨rfl, rfl, rfl, Nat.le_refl _, fun _ _ _ => rfl⟩
theorem But.trans {g : Nat} {w w1 w2 : World} (h : But g w w1) (k : But g w1 w2) : But g w w2 :=
  ⟨k.os.trans h.os, k.tape.trans h.tape, k.output.trans h.output, Nat.le_trans h.size k.size, fun i hi hne => (k.block i (Nat.lt_of_lt_of_le hi h.size) hne).trans (h.block i hi hne)⟩
theorem But.set (g j : Nat) (w : World) (v : Value) : But g w (w.setCell ⟨g, j, none⟩ v) :=
  ⟨rfl, rfl, rfl, by simp [World.setCell], fun i hi hne => Below.heap_setCell _ _ _ _ (fun e => hne (by simp [e]))⟩
theorem But.drewN (g n : Nat) (w : World) : But g w (w.drewN n) := ⟨rfl, rfl, rfl, Nat.le_refl _, fun _ _ _ => rfl⟩
theorem But.of_below {g : Nat} {w w' : World} (h : Below w.heap.size w w') : But g w w' := ⟨h.os, h.tape, h.output, h.size, fun i hi _ => h.block i hi⟩
theorem But.below {B g : Nat} {w0 w w' : World} (h0 : Below B w0 w) (h : But g w w') (hB : B ≤ w.heap.size) (hg : B ≤ g) : Below B w0 w' := h0.grown h hB (fun k hk => by cases hk; exact hg)
theorem Rdr.eta_bad (r : Rdr) (b : Bool) (h : r.bad = b) : { r with bad := b } = r := by cases r; subst h; rfl
def Rdr.num (r : Rdr) : Int × Rdr :=
  if r.bad = true then (0, r) else
  if (vget r.s r.pos).2.2 = 0 then ((vget r.s r.pos).1, { r with pos := (vget r.s r.pos).2.1 }) else (0, { r with bad := true })
def Rdr.int (r : Rdr) : Int × Rdr := (zag r.num.1, r.num.2)
def Rdr.small (r : Rdr) (most : Int) : Int × Rdr :=
  if r.num.2.bad = true ∨ most < 0 ∨ most < r.num.1 then (0, { r.num.2 with bad := true }) else (r.num.1, r.num.2)
def Rdr.left (r : Rdr) : Int := if r.bad = true then 0 else (r.s.size : Int) - r.pos
def Rdr.text (r : Rdr) : ByteArray × Rdr :=
  if r.num.2.bad = true ∨ r.num.2.left < r.num.1 then (⟨#[]⟩, { r.num.2 with bad := true }) else
  (r.s.extract r.num.2.pos.toNat (r.num.2.pos + r.num.1).toNat, { r.num.2 with pos := r.num.2.pos + r.num.1 })
def Rdr.fin (r : Rdr) : Int := if r.bad = true ∨ r.pos < (r.s.size : Int) then 10 else 0
theorem vget_range (s : ByteArray) (p : Int) : 0 ≤ (vget s p).1 ∧ (vget s p).1 < 18446744073709551616 ∧ ((vget s p).2.2 = 0 ∧ p < (vget s p).2.1 ∧ (vget s p).2.1 ≤ s.size ∧ 0 ≤ p ∨ (vget s p) = (0, 0, 10)) := by
  unfold vget
  split
  · exact ⟨by decide, by decide, .inr rfl⟩
  · rename_i h
    split
    · exact ⟨by decide, by decide, .inr rfl⟩
    · rename_i q hq
      split
      · rename_i hc
        obtain ⟨h1, h2, h3, _⟩ := getL_some 10 _ q.1 q.2 hq
        refine ⟨h1, hc.1, .inl ⟨rfl, ?_, ?_, by omega⟩⟩
        · simp only; omega
        · simp only
          rw [List.length_drop] at h3
          have : s.data.toList.length = s.size := by simp
          omega
      · exact ⟨by decide, by decide, .inr rfl⟩
theorem Rdr.num_ok {r : Rdr} (h : r.ok) : r.num.2.ok ∧ 0 ≤ r.num.1 ∧ r.num.1 < 18446744073709551616 ∧ r.num.2.s = r.s := by
  obtain ⟨h1, h2, h3⟩ := h
  have hv := vget_range r.s r.pos
  unfold Rdr.num
  split
  · exact ⟨⟨h1, h2, h3⟩, Int.le_refl _, (by decide : (0 : Int) < 18446744073709551616), rfl⟩
  · split
    · rename_i he
      rcases hv.2.2 with ⟨_, ha, hb, _⟩ | hb
      · exact ⟨⟨h1, by simp only; omega, hb⟩, hv.1, hv.2.1, rfl⟩
      · rw [hb] at he; simp at he
    · exact ⟨⟨h1, h2, h3⟩, Int.le_refl _, (by decide : (0 : Int) < 18446744073709551616), rfl⟩
end
end Go.Proofs.Ytdihbinbkneejaa
namespace Go.Proofs.Ytdihbinbkneejaa
section
open Go.RowKit
set_option maxRecDepth 100000
set_option linter.unusedVariables false
set_option linter.unusedSimpArgs false
def QuietFrom (w w' : World) : Prop := ∃ n, w' = w.drewN n
theorem QuietFrom.but {g : Nat} {w w' : World} (h : QuietFrom w w') : But g w w' := by obtain ⟨n, rfl⟩ := h; exact But.drewN g n w
theorem QuietFrom.rdr {T : TypeId} {g : Nat} {r : Rdr} {w w' : World} (h : QuietFrom w w') (k : RdrAt T w g r) : RdrAt T w' g r := by obtain ⟨n, rfl⟩ := h; exact k
theorem QuietFrom.below {B : Nat} {w w' : World} (h : QuietFrom w w') : Below B w w' := by obtain ⟨n, rfl⟩ := h; exact ⟨rfl, rfl, rfl, Nat.le_refl _, fun _ _ => rfl⟩
theorem Rdr.small_ok {r : Rdr} (h : r.ok) (most : Int) : (r.small most).2.ok ∧ (r.small most).2.s = r.s := by
  have hk := Rdr.num_ok h
  unfold Rdr.small
  split
  · exact ⟨hk.1, hk.2.2.2⟩
  · exact ⟨hk.1, hk.2.2.2⟩
theorem Rdr.int_ok {r : Rdr} (h : r.ok) : r.int.2.ok ∧ r.int.2.s = r.s := ⟨(Rdr.num_ok h).1, (Rdr.num_ok h).2.2.2⟩
theorem Rdr.text_ok {r : Rdr} (h : r.ok) : r.text.2.ok ∧ r.text.2.s = r.s := by
  have hk := Rdr.num_ok h
  unfold Rdr.text
  split
  · exact ⟨hk.1, hk.2.2.2⟩
  · rename_i hc
    refine ⟨⟨hk.1.1, ?_, ?_⟩, hk.2.2.2⟩
    · have := hk.1.2.1; simp only; omega
    · have hb : ¬ r.num.2.bad = true := fun x => hc (.inl x)
      have : ¬ r.num.2.left < r.num.1 := fun x => hc (.inr x)
      unfold Rdr.left at this
      rw [if_neg hb] at this
      simp only; omega
end
end Go.Proofs.Ytdihbinbkneejaa
