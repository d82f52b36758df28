/- strings.Builder's WriteString, more: blocks that were made since the builder was last written stay as they are. -/
import Derived.Test.YtglabahbklpocaaGreatGShipPacks17
namespace Go.Proofs.YtglabahbklpocaaGreat
section
open Go.RowKit Go.Shelf
set_option maxRecDepth 100000
set_option linter.unusedVariables false
set_option linter.unusedSimpArgs false
theorem bld_check2 (B b : Nat) (bs : List Value) (w : World) (h : Lib.IsBuilder 132 5 B b bs w) :
    Calls Tryz.prog 130 #[.pointer (some ⟨b, 0, none⟩)] w fun e w' => e = .returned (.tuple #[]) ∧ (Lib.BuilderAt 132 5 B b (.pointer (some ⟨b, 0, none⟩)) bs w' ∧ Below B w w') ∧ (w' = w ∨ w' = w.setCell ⟨b, 0, none⟩ (.pointer (some ⟨b, 0, none⟩))) := by
  rcases h with h | h
  · refine (bld_check_fresh b w h.cell0 h.shape h.frozen0).mono ?_
    rintro e w' ⟨rfl, rfl⟩
    exact ⟨rfl, ⟨h.used _, (Below.refl B w).setCell (p := ⟨b, 0, none⟩) h.1 _⟩, .inr rfl⟩
  · refine (bld_check_used b w h.cell0).mono ?_
    rintro e w' ⟨rfl, rfl⟩
    exact ⟨rfl, ⟨h, Below.refl B _⟩, .inl rfl⟩
theorem bld_lt {B b : Nat} {bs : List Value} {w : World} (h : Lib.IsBuilder 132 5 B b bs w) : ∃ c v, b < w.heap.size ∧ w.heap[b]? = some (.cells #[c, v] 132 (0, 0)) ∧ ∀ k, v.ownBlock = some k → k < w.heap.size := by
  rcases h with ⟨hB, v, hbk, hown, hne⟩ | ⟨hB, v, hbk, hown, hne⟩
  · refine ⟨_, v, ?_, hbk, fun k hk => (hown.lt k hk).2⟩
    rcases Nat.lt_or_ge b w.heap.size with h' | h'
    · exact h'
    · simp [Array.getElem?_eq_none h'] at hbk
  · refine ⟨_, v, ?_, hbk, fun k hk => (hown.lt k hk).2⟩
    rcases Nat.lt_or_ge b w.heap.size with h' | h'
    · exact h'
    · simp [Array.getElem?_eq_none h'] at hbk
set_option maxHeartbeats 1000000 in
theorem bld_write2 (B b : Nat) (l : List UInt8) (s : ByteArray) (w0 w : World) (h0 : BldAt B b l w0) (hw : Below w0.heap.size w0 w) (hlen : l.length + s.size ≤ 140737488355328) (hBw : B ≤ w0.heap.size) :
    Calls Tryz.prog 101 #[.pointer (some ⟨b, 0, none⟩), .string s] w fun e w' => e = .returned (.tuple #[.int .i64 s.size, .nilIface]) ∧ (BldAt B b (l ++ s.data.toList) w' ∧ Below B w w') ∧ ∀ k, w0.heap.size ≤ k → k < w.heap.size → w'.heap[k]? = w.heap[k]? := by
  obtain ⟨i0, hi, hz0, hz1, hz2⟩ := info_parts info_u8
  obtain ⟨c00, v00, hb0, hbk0, hlt0⟩ := bld_lt h0
  have hbw : w.heap[b]? = some (.cells #[c00, v00] 132 (0, 0)) := (hw.block b hb0).trans hbk0
  have h : BldAt B b l w := bld_below h0 hw
  have hBw' : B ≤ w.heap.size := Nat.le_trans hBw hw.size
  have hlen' : (Lib.byteCells l).length + s.size ≤ 140737488355328 := by simpa [Lib.byteCells] using hlen
  unfold BldAt at h
  generalize hbs : Lib.byteCells l = bs at h hlen'
  go_enter Tryz.func101, Tryz.ntmps101
  go_wp2_with (go_at_call 130; refine (bld_check2 B b bs _ h).mono ?_)
  rintro e w1 ⟨rfl, ⟨h1, hb1⟩, hsame⟩
  obtain ⟨hB, v, hbk, hown, hne⟩ := h1
  have hfar : ∀ k, k ≠ b → w1.heap[k]? = w.heap[k]? := fun k hk => by
    rcases hsame with rfl | rfl
    · rfl
    · exact Below.heap_setCell _ _ _ _ hk
  have hvv : v = v00 := by
    rcases hsame with e | e
    · rw [e, hbw] at hbk
      simp at hbk
      exact hbk.2.symm
    · rw [e, heap_setCell_same w b 0 _ _ _ hbw] at hbk
      simp at hbk
      exact hbk.symm
  have hown0 : ∀ k, v.ownBlock = some k → k < w0.heap.size := by rw [hvv]; exact hlt0
  clear hsame hbw hbk0 hlt0 hvv
  have c0 : w1.cell? ⟨b, 0, none⟩ = some (.pointer (some ⟨b, 0, none⟩)) := by rw [Lib.cell_of_heap hbk]; rfl
  have c1 : w1.cell? ⟨b, 1, none⟩ = some v := by rw [Lib.cell_of_heap hbk]; rfl
  go_wp2_with (at_builtin; refine Lib.wpList_append_own_string _ rfl _ _ 130 9 rfl B 5 i0 Tryz.underlying130 Tryz.underlying9 hi hz0 hz1 hz2 _ _ _ rfl hown s rfl ?c3 ?c4 ?c5 ?_)
  case c3 => unfold maxLen; omega
  case c4 => omega
  case c5 => have := hb1.size; omega
  intro v' w2 hown' hgrow _
  have hlt : b < w1.heap.size := by
    rcases Nat.lt_or_ge b w1.heap.size with h' | h'
    · exact h'
    · simp [Array.getElem?_eq_none h'] at hbk
  have hb2 : w2.heap[b]? = some (.cells #[.pointer (some ⟨b, 0, none⟩), v] 132 (0, 0)) := by
    rw [hgrow.block b hlt (fun e => hne e.symm)]
    exact hbk
  have d0 : w2.cell? ⟨b, 0, none⟩ = some (.pointer (some ⟨b, 0, none⟩)) := by rw [Lib.cell_of_heap hb2]; rfl
  have d1 : w2.cell? ⟨b, 1, none⟩ = some v := by rw [Lib.cell_of_heap hb2]; rfl
  have f1 : w2.frozen? ⟨b, 1, none⟩ = false := Lib.frozen_of_heap hb2 1
  obtain ⟨ao, n', cap, rfl⟩ : ∃ ao n' cap, v' = .slice ao n' cap := by
    rcases hown'.2 with ⟨hv, _⟩ | ⟨g, cap, cur, hv, _⟩
    · exact ⟨_, _, _, hv⟩
    · exact ⟨_, _, _, hv⟩
  go_wp2
  go_ret2
  refine ⟨rfl, ⟨.inr ?_, ?_⟩, fun k hk1 hk2 => ?_⟩
  · have := Lib.BuilderAt.put (T := 132) (e := 5) hB hb2 (bs' := bs ++ Lib.strCells s) (by simpa [Lib.strCells_length] using hown') (by decide)
    rw [← hbs] at this
    simpa [Lib.byteCells, Lib.strCells] using this
  · exact (hb1.grown hgrow (by have := hb1.size; omega) (fun k hk => (hown.lt k hk).1)).setCell (p := ⟨b, 1, none⟩) hB _
  · rw [Below.heap_setCell _ _ _ _ (by simp only; omega), hgrow.block k (by have := hb1.size; omega) (fun e => by have := hown0 k e.symm; omega), hfar k (by omega)]
end
end Go.Proofs.YtglabahbklpocaaGreat
