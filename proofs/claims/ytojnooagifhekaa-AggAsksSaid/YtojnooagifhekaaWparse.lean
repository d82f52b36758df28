/- wide.Parse. -/
import Derived.Test.YtojnooagifhekaaWtext
import Derived.Test.YtojnooagifhekaaWmul
import Derived.Test.YtojnooagifhekaaPpure
import Derived.RegionTactic
import Derived.Deep.RegionWith
namespace Go.Proofs.Ytojnooagifhekaa
open Go.RowKit
set_option maxRecDepth 100000
set_option linter.unusedVariables false
set_option linter.unusedSimpArgs false
/-- The block g is a number of 128 bits. -/
def WdAt (w : World) (g : Nat) (a : Wd) : Prop := w.heap[g]? = some (.cells #[.int .i64 a.hi, .int .u64 a.lo] 24 (0, 0))
theorem WdAt.lt {w : World} {g : Nat} {a : Wd} (h : WdAt w g a) : g < w.heap.size := by
  unfold WdAt at h
  rcases Nat.lt_or_ge g w.heap.size with h' | h'
  · exact h'
  · simp [Array.getElem?_eq_none h'] at h
theorem WdAt.c0 {w : World} {g : Nat} {a : Wd} (h : WdAt w g a) : w.cell? ⟨g, 0, none⟩ = some (.int .i64 a.hi) := by simp [World.cell?, show w.heap[g]? = _ from h]
theorem WdAt.c1 {w : World} {g : Nat} {a : Wd} (h : WdAt w g a) : w.cell? ⟨g, 1, none⟩ = some (.int .u64 a.lo) := by simp [World.cell?, show w.heap[g]? = _ from h]
theorem WdAt.fz {w : World} {g : Nat} {a : Wd} (h : WdAt w g a) (j : Nat) : w.frozen? ⟨g, j, none⟩ = false := by simp [World.frozen?, show w.heap[g]? = _ from h]
theorem WdAt.set {w : World} {g : Nat} {a : Wd} (h : WdAt w g a) (b : Wd) : WdAt ((w.setCell ⟨g, 0, none⟩ (.int .i64 b.hi)).setCell ⟨g, 1, none⟩ (.int .u64 b.lo)) g b := by
  unfold WdAt at *
  simp [World.setCell, Array.getElem?_modify, h]
theorem WdAt.far {w : World} {g : Nat} {a : Wd} (h : WdAt w g a) {p : Addr} (hp : g ≠ p.block) (v : Value) : WdAt (w.setCell p v) g a := (Below.heap_setCell w p v g hp).trans h
theorem WdAt.below {w w' : World} {g : Nat} {a : Wd} (h : WdAt w g a) (hb : Below w.heap.size w w') : WdAt w' g a := (hb.block g h.lt).trans h
theorem WdAt.alloc {w : World} {g : Nat} {a : Wd} (h : WdAt w g a) (o : Obj) : WdAt (w.alloc o) g a := (Below.heap_alloc w o g h.lt).trans h
theorem WdAt.new (w : World) (a : Wd) : WdAt (w.alloc (.cells #[.int .i64 a.hi, .int .u64 a.lo] 24)) w.heap.size a := heap_alloc_new w _
/-- While the digits are read: the number at ga, the result's place at g2. -/
structure PInv (w : World) (ga g2 : Nat) (A : Wd) (wx : World) : Prop where
  a : WdAt wx ga A
  r : WdAt wx g2 ⟨0, 0⟩
  b : Below w.heap.size w wx
theorem PInv.below {w wx w' : World} {ga g2 : Nat} {A : Wd} (h : PInv w ga g2 A wx) (d : Below wx.heap.size wx w') : PInv w ga g2 A w' := ⟨h.a.below d, h.r.below d, below_th h.b d⟩
theorem PInv.later {w wx wd' w' : World} {ga g2 : Nat} {A : Wd} (h : PInv w ga g2 A wx) (d : Below wd'.heap.size wd' w') (e1 : wd'.heap = wx.heap) (e2 : wd'.os = wx.os) (e3 : wd'.tape = wx.tape) (e4 : wd'.output = wx.output) : PInv w ga g2 A w' :=
  PInv.below (wx := wd') ⟨by unfold WdAt; rw [e1]; exact h.a, by unfold WdAt; rw [e1]; exact h.r, ⟨e2.trans h.b.os, e3.trans h.b.tape, e4.trans h.b.output, by rw [e1]; exact h.b.size, fun k hk => by rw [e1]; exact h.b.block k hk⟩⟩ d
theorem PInv.set {w wx : World} {ga g2 : Nat} {A : Wd} (h : PInv w ga g2 A wx) (hne : g2 ≠ ga) (hga : w.heap.size ≤ ga) (B : Wd) : PInv w ga g2 B ((wx.setCell ⟨ga, 0, none⟩ (.int .i64 B.hi)).setCell ⟨ga, 1, none⟩ (.int .u64 B.lo)) :=
  ⟨h.a.set B, (h.r.far hne _).far hne _, below_st (below_st h.b hga _) hga _⟩
theorem take_snoc_getD (xs : List Int) (k : Nat) (h : k < xs.length) : xs.take (k + 1) = xs.take k ++ [xs.getD k 0] := by
  rw [List.take_succ_eq_append_getElem h]; simp [List.getD_eq_getElem?_getD, h]
theorem bl_extract1 (s : ByteArray) : bl (s.extract 1 s.size) = (bl s).drop 1 := by
  unfold bl
  rw [← List.map_drop]
  congr 1
  rw [ByteArray.data_extract, Array.toList_extract, List.extract_eq_take_drop]
  rw [List.take_of_length_le (by simp)]
theorem toList_nil (s : ByteArray) (h : s.size = 0) : s.toList = [] := by
  rw [ByteArray.toList_eq]
  exact List.eq_nil_of_length_eq_zero (by simpa using h)
theorem toList_some (s : ByteArray) (h : 0 < s.size) : ¬ s.toList = [] ∧ (!s.toList.isEmpty) = true ∧ s.toList.isEmpty = false := by
  have h1 : ¬ s.toList = [] := by
    rw [ByteArray.toList_eq]
    intro e
    have h2 : s.data.toList.length = s.size := by simp
    rw [e] at h2
    simp at h2
    omega
  refine ⟨h1, ?_, ?_⟩ <;> simp [h1]
theorem bl_digit (t : ByteArray) (i : Nat) (h : i < t.size) : 0 ≤ ((t[i]'h).toNat : Int) ∧ ((t[i]'h).toNat : Int) < 256 := by
  have := (t[i]'h).toNat_lt
  omega
theorem head_isNeg (s : ByteArray) (h : 0 < s.size) : isNeg (bl s) = (((s[0]'h).toNat : Int) == 45) := by
  unfold isNeg
  rw [bl_get s 0 h]
end Go.Proofs.Ytojnooagifhekaa
