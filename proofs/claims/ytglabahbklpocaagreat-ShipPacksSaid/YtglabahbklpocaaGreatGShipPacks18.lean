/- Messages: their cells; ship.none. -/
import Derived.Test.YtglabahbklpocaaGreatGShipPacks17
import Derived.Test.YtglabahbklpocaaGreatGShipPacks8
import Derived.Test.YtglabahbklpocaaGreatGShipPacks9
namespace Go.Proofs.YtglabahbklpocaaGreat
section
open Go.RowKit Go.Deep
set_option maxRecDepth 100000
set_option linter.unusedVariables false
set_option linter.unusedSimpArgs false
attribute [local go_sem ↓] Go.wp_at_zero Go.wp_at_succ
/-- A message, as it lies in a frame. -/
structure Wi where
  kind : Int
  id : Int
  series : ByteArray
  from_ : Int
  to_ : Int
  np : Sl
  nr : Sl
  vec : Sl
  time : Int
def Wi.arr (x : Wi) : Array Value := #[.int .i64 x.kind, .int .i64 x.id, .string x.series, .int .i64 x.from_, .int .i64 x.to_, .slice x.np.a x.np.n x.np.c, .slice x.nr.a x.nr.n x.nr.c, .slice x.vec.a x.vec.n x.vec.c, .int .i64 x.time]
def wiO (x : Wi) : Obj := .cells x.arr 33 (0, 0)
structure WiC (w : World) (g : Nat) (x : Wi) : Prop where
  c0 : w.cell? ⟨g, 0, none⟩ = some (.int .i64 x.kind)
  c1 : w.cell? ⟨g, 1, none⟩ = some (.int .i64 x.id)
  c2 : w.cell? ⟨g, 2, none⟩ = some (.string x.series)
  c3 : w.cell? ⟨g, 3, none⟩ = some (.int .i64 x.from_)
  c4 : w.cell? ⟨g, 4, none⟩ = some (.int .i64 x.to_)
  c5 : w.cell? ⟨g, 5, none⟩ = some (.slice x.np.a x.np.n x.np.c)
  c6 : w.cell? ⟨g, 6, none⟩ = some (.slice x.nr.a x.nr.n x.nr.c)
  c7 : w.cell? ⟨g, 7, none⟩ = some (.slice x.vec.a x.vec.n x.vec.c)
  c8 : w.cell? ⟨g, 8, none⟩ = some (.int .i64 x.time)
theorem wi_cells {w wd : World} {g : Nat} {x : Wi} (h : w.heap[g]? = some (wiO x)) (e : wd.heap = w.heap) : WiC wd g x := by
  refine ⟨?_, ?_, ?_, ?_, ?_, ?_, ?_, ?_, ?_⟩ <;> (simp only [World.cell?, e, h, wiO]; rfl)
theorem span_leaves : leaves Tryz.prog 5 30 = some [Leaf.int .i64, Leaf.int .i64] := by kernel_rfl
theorem span_flat (f t : Int) (hf : i64' f) (ht : i64' t) : Flat [Leaf.int .i64, Leaf.int .i64] [.int .i64 f, .int .i64 t] := by
  exact ⟨⟨_, rfl, wf_i64 hf⟩, ⟨_, rfl, wf_i64 ht⟩, trivial⟩
theorem eq_span (f t : Int) (hf : i64' f) (ht : i64' t) (w : World) : (binOp .eql 30 (.agg #[.int .i64 f, .int .i64 t]) (.agg #[.int .i64 0, .int .i64 0])).run Tryz.prog w = .ok (.bool (decide (f = 0 ∧ t = 0))) w :=
  (eql_flat 5 (by decide) 30 _ span_leaves (by kernel_rfl) (by kernel_rfl) (by kernel_rfl) [.int .i64 f, .int .i64 t] [.int .i64 0, .int .i64 0] (span_flat f t hf ht) (span_flat 0 0 ⟨by decide, by decide⟩ ⟨by decide, by decide⟩) (f = 0 ∧ t = 0) (by simp) w).1
def noneB (p a c v r b1 b2 b3 b4 b5 b6 : Bool) : Bool := (p || b1) && ((a || (b2 && b3)) && ((c || b4) && ((v || b5) && (r || b6))))
def Wi.none (x : Wi) (p a c v r : Bool) : Bool := noneB p a c v r (x.np.n == 0) x.series.toList.isEmpty (decide (x.from_ = 0 ∧ x.to_ = 0)) (x.time == 0) (x.vec.n == 0) (x.nr.n == 0)
set_option maxHeartbeats 4000000 in
theorem none_fffff (x : Wi) (w : World) (hf : i64' x.from_) (ht : i64' x.to_) : Calls Tryz.prog 63 #[.agg x.arr, .bool false, .bool false, .bool false, .bool false, .bool false] w fun e w' => e = .returned (.bool (x.none false false false false false)) ∧ Below w.heap.size w w' := by
  have E0 := fun wx => eq_span x.from_ x.to_ hf ht wx
  have u1 : ((x.np.n : Int) == 0) = (x.np.n == 0) := by rw [Bool.eq_iff_iff]; simp
  have u5 : ((x.vec.n : Int) == 0) = (x.vec.n == 0) := by rw [Bool.eq_iff_iff]; simp
  have u6 : ((x.nr.n : Int) == 0) = (x.nr.n == 0) := by rw [Bool.eq_iff_iff]; simp
  unfold Wi.none
  obtain ⟨b1, hb1⟩ : ∃ b, (x.np.n == 0) = b := ⟨_, rfl⟩
  obtain ⟨b2, hb2⟩ : ∃ b, x.series.toList.isEmpty = b := ⟨_, rfl⟩
  obtain ⟨b3, hb3⟩ : ∃ b, decide (x.from_ = 0 ∧ x.to_ = 0) = b := ⟨_, rfl⟩
  obtain ⟨b4, hb4⟩ : ∃ b, (x.time == 0) = b := ⟨_, rfl⟩
  obtain ⟨b5, hb5⟩ : ∃ b, (x.vec.n == 0) = b := ⟨_, rfl⟩
  obtain ⟨b6, hb6⟩ : ∃ b, (x.nr.n == 0) = b := ⟨_, rfl⟩
  rw [hb3] at E0
  rw [hb1] at u1
  rw [hb5] at u5
  rw [hb6] at u6
  rw [hb1, hb2, hb3, hb4, hb5, hb6]
  clear hf ht hb1 hb3 hb5 hb6
  unfold Wi.arr
  go_enter Tryz.func63, Tryz.ntmps63
  go_upto_region 1 with fail
  generalize hw1 : World.alloc _ _ = w1
  have KK := Lib.hid (show Kn w.heap.size w [(w.heap.size, wiO x)] w1 by rw [← hw1]; exact (Kn.start w).new' rfl (wiO x))
  clear hw1
  obtain ⟨c0, c1, c2, c3, c4, c5, c6, c7, c8⟩ := wi_cells KK.out.hd rfl
  generalize hg : w.heap.size = g at *
  cases b1
  · skip
    go_wp2_with fail
    go_ret
    exact ⟨by first | rfl | simp [noneB], by first | exact KK.out.b | (rw [hg]; exact KK.out.b)⟩
  · cases b2
    · skip
      go_wp2_with fail
      go_ret
      exact ⟨by first | rfl | simp [noneB], by first | exact KK.out.b | (rw [hg]; exact KK.out.b)⟩
    · cases b3
      · skip
        go_wp2_with fail
        go_ret
        exact ⟨by first | rfl | simp [noneB], by first | exact KK.out.b | (rw [hg]; exact KK.out.b)⟩
      · cases b4
        · skip
          go_wp2_with fail
          go_ret
          exact ⟨by first | rfl | simp [noneB], by first | exact KK.out.b | (rw [hg]; exact KK.out.b)⟩
        · cases b5
          · skip
            go_wp2_with fail
            go_ret
            exact ⟨by first | rfl | simp [noneB], by first | exact KK.out.b | (rw [hg]; exact KK.out.b)⟩
          · cases b6
            · skip
              go_wp2_with fail
              go_ret
              exact ⟨by first | rfl | simp [noneB], by first | exact KK.out.b | (rw [hg]; exact KK.out.b)⟩
            · skip
              go_wp2_with fail
              go_ret
              exact ⟨by first | rfl | simp [noneB], by first | exact KK.out.b | (rw [hg]; exact KK.out.b)⟩
set_option maxHeartbeats 4000000 in
theorem none_ffftf (x : Wi) (w : World) (hf : i64' x.from_) (ht : i64' x.to_) : Calls Tryz.prog 63 #[.agg x.arr, .bool false, .bool false, .bool false, .bool true, .bool false] w fun e w' => e = .returned (.bool (x.none false false false true false)) ∧ Below w.heap.size w w' := by
  have E0 := fun wx => eq_span x.from_ x.to_ hf ht wx
  have u1 : ((x.np.n : Int) == 0) = (x.np.n == 0) := by rw [Bool.eq_iff_iff]; simp
  have u5 : ((x.vec.n : Int) == 0) = (x.vec.n == 0) := by rw [Bool.eq_iff_iff]; simp
  have u6 : ((x.nr.n : Int) == 0) = (x.nr.n == 0) := by rw [Bool.eq_iff_iff]; simp
  unfold Wi.none
  obtain ⟨b1, hb1⟩ : ∃ b, (x.np.n == 0) = b := ⟨_, rfl⟩
  obtain ⟨b2, hb2⟩ : ∃ b, x.series.toList.isEmpty = b := ⟨_, rfl⟩
  obtain ⟨b3, hb3⟩ : ∃ b, decide (x.from_ = 0 ∧ x.to_ = 0) = b := ⟨_, rfl⟩
  obtain ⟨b4, hb4⟩ : ∃ b, (x.time == 0) = b := ⟨_, rfl⟩
  obtain ⟨b5, hb5⟩ : ∃ b, (x.vec.n == 0) = b := ⟨_, rfl⟩
  obtain ⟨b6, hb6⟩ : ∃ b, (x.nr.n == 0) = b := ⟨_, rfl⟩
  rw [hb3] at E0
  rw [hb1] at u1
  rw [hb5] at u5
  rw [hb6] at u6
  rw [hb1, hb2, hb3, hb4, hb5, hb6]
  clear hf ht hb1 hb3 hb5 hb6
  unfold Wi.arr
  go_enter Tryz.func63, Tryz.ntmps63
  go_upto_region 1 with fail
  generalize hw1 : World.alloc _ _ = w1
  have KK := Lib.hid (show Kn w.heap.size w [(w.heap.size, wiO x)] w1 by rw [← hw1]; exact (Kn.start w).new' rfl (wiO x))
  clear hw1
  obtain ⟨c0, c1, c2, c3, c4, c5, c6, c7, c8⟩ := wi_cells KK.out.hd rfl
  generalize hg : w.heap.size = g at *
  cases b1
  · skip
    go_wp2_with fail
    go_ret
    exact ⟨by first | rfl | simp [noneB], by first | exact KK.out.b | (rw [hg]; exact KK.out.b)⟩
  · cases b2
    · skip
      go_wp2_with fail
      go_ret
      exact ⟨by first | rfl | simp [noneB], by first | exact KK.out.b | (rw [hg]; exact KK.out.b)⟩
    · cases b3
      · skip
        go_wp2_with fail
        go_ret
        exact ⟨by first | rfl | simp [noneB], by first | exact KK.out.b | (rw [hg]; exact KK.out.b)⟩
      · cases b4
        · skip
          go_wp2_with fail
          go_ret
          exact ⟨by first | rfl | simp [noneB], by first | exact KK.out.b | (rw [hg]; exact KK.out.b)⟩
        · cases b6
          · skip
            go_wp2_with fail
            go_ret
            exact ⟨by first | rfl | simp [noneB], by first | exact KK.out.b | (rw [hg]; exact KK.out.b)⟩
          · skip
            go_wp2_with fail
            go_ret
            exact ⟨by first | rfl | simp [noneB], by first | exact KK.out.b | (rw [hg]; exact KK.out.b)⟩
end
end Go.Proofs.YtglabahbklpocaaGreat
