/- Peers in memory. Messages: their cells; ship.none. -/
import Derived.Test.YtglabahbklpocaaGreatGShipReads1
import Derived.Test.YtglabahbklpocaaGreatGShipReads12
import Derived.Test.YtglabahbklpocaaGreatGShipReads4
import Derived.Test.YtglabahbklpocaaGreatGShipReads9
import Derived.Test.YtglabahbklpocaaGreatGShipReads10
namespace Go.Proofs.YtglabahbklpocaaGreat
section
open Go.RowKit Go.Deep
set_option maxRecDepth 100000
set_option linter.unusedVariables false
set_option linter.unusedSimpArgs false
attribute [local go_sem ↓] Go.wp_at_zero Go.wp_at_succ
def slV (d : Sl) : Value := .slice d.a d.n d.c
def peC (m : PeM) (d : Nat → Sl) : Array Value := #[.int .i64 m.me, .int .i64 m.sites, .int .i64 m.every,
  slV (d 0), .bool (m.s 0), .int .i64 (m.a 0), slV (d 1), .bool (m.s 1), .int .i64 (m.a 1), slV (d 2), .bool (m.s 2), .int .i64 (m.a 2), slV (d 3), .bool (m.s 3), .int .i64 (m.a 3),
  slV (d 4), .bool (m.s 4), .int .i64 (m.a 4), slV (d 5), .bool (m.s 5), .int .i64 (m.a 5), slV (d 6), .bool (m.s 6), .int .i64 (m.a 6), slV (d 7), .bool (m.s 7), .int .i64 (m.a 7)]
def peO (m : PeM) (d : Nat → Sl) : Obj := .cells (peC m d) 111 (0, 0)
theorem peC_v (m : PeM) (d : Nat → Sl) (i : Nat) (hi : i < 8) : (peC m d)[3 + i * 3]? = some (slV (d i)) ∧ (peC m d)[3 + i * 3 + 1]? = some (.bool (m.s i)) ∧ (peC m d)[3 + i * 3 + 2]? = some (.int .i64 (m.a i)) := by
  match i, hi with
  | 0, _ | 1, _ | 2, _ | 3, _ | 4, _ | 5, _ | 6, _ | 7, _ => exact ⟨rfl, rfl, rfl⟩
theorem peC_setv (m : PeM) (d : Nat → Sl) (i : Nat) (hi : i < 8) (x : Sl) (v : Nat → List Int) : (peC m d).setIfInBounds (3 + i * 3) (slV x) = peC { m with v := v } (upd d i x) := by
  match i, hi with
  | 0, _ | 1, _ | 2, _ | 3, _ | 4, _ | 5, _ | 6, _ | 7, _ => rfl
theorem peC_sets (m : PeM) (d : Nat → Sl) (i : Nat) (hi : i < 8) (b : Bool) (t : Int) : ((peC m d).setIfInBounds (3 + i * 3 + 1) (.bool b)).setIfInBounds (3 + i * 3 + 2) (.int .i64 t) = peC { m with s := upd m.s i b, a := upd m.a i t } d := by
  match i, hi with
  | 0, _ | 1, _ | 2, _ | 3, _ | 4, _ | 5, _ | 6, _ | 7, _ => rfl
structure PeC (w : World) (F : List Nat) (d : Nat → Sl) (m : PeM) : Prop where
  sl : ∀ i, i < 8 → SlR w (d i) (m.v i) ∧ farA F (d i) ∧ (d i).n ≤ 8
  me : i64' m.me
  st : 0 ≤ m.sites ∧ m.sites ≤ 8
  ev : i64' m.every
  a : ∀ i, i < 8 → 0 ≤ m.a i ∧ m.a i ≤ 1125899906842624
def PeAt (w : World) (F : List Nat) (g : Nat) (m : PeM) : Prop := ∃ d, w.heap[g]? = some (peO m d) ∧ PeC w F d m
theorem PeC.keep {w w' : World} {F : List Nat} {d : Nat → Sl} {m : PeM} (h : PeC w F d m) (hs : w.heap.size ≤ w'.heap.size) (hd : ∀ i, i < w.heap.size → i ∉ F → w'.heap[i]? = w.heap[i]?) : PeC w' F d m :=
  ⟨fun i hi => ⟨(h.sl i hi).1.keep (h.sl i hi).2.1 hs hd, (h.sl i hi).2⟩, h.me, h.st, h.ev, h.a⟩
theorem PeAt.lt {w : World} {F : List Nat} {g : Nat} {m : PeM} (h : PeAt w F g m) : g < w.heap.size := by
  obtain ⟨d, h1, _⟩ := h
  exact heap_lt h1
theorem PeAt.below {w w' : World} {F : List Nat} {g : Nat} {m : PeM} (h : PeAt w F g m) (hb : Below w.heap.size w w') : PeAt w' F g m := by
  obtain ⟨d, h1, h2⟩ := h
  exact ⟨d, (hb.block g (heap_lt h1)).trans h1, h2.keep hb.size (fun i hi _ => hb.block i hi)⟩
theorem PeAt.but {w w' : World} {F : List Nat} {g g' : Nat} {m : PeM} (h : PeAt w F g m) (hg : g' ∈ F) (hne : g ≠ g') (k : But g' w w') : PeAt w' F g m := by
  obtain ⟨d, h1, h2⟩ := h
  exact ⟨d, (k.block g (heap_lt h1) (by simpa using fun e => hne e)).trans h1, h2.keep k.size (fun i hi hn => k.block i hi (by simp; exact fun e => hn (e ▸ hg)))⟩
theorem PeAt.ex {w : World} {F : List Nat} {g : Nat} {m : PeM} (h : PeAt w F g m) : i64' m.me ∧ (0 ≤ m.sites ∧ m.sites ≤ 8) ∧ i64' m.every ∧ ∀ i, i < 8 → 0 ≤ m.a i ∧ m.a i ≤ 1125899906842624 := by
  obtain ⟨d, h1, h2⟩ := h
  exact ⟨h2.me, h2.st, h2.ev, h2.a⟩
theorem peCell {w wd : World} {g : Nat} {m : PeM} {d : Nat → Sl} (h : w.heap[g]? = some (peO m d)) (e : wd.heap = w.heap) {j : Nat} {v : Value} (hv : (peC m d)[j]? = some v) : wd.cell? ⟨g, j, none⟩ = some v := by
  simp only [World.cell?, e, h, peO]
  exact hv
theorem peFz {w : World} {g : Nat} {m : PeM} {d : Nat → Sl} (h : w.heap[g]? = some (peO m d)) (j : Nat) : w.frozen? ⟨g, j, none⟩ = false := by
  simp [World.frozen?, h, peO]
set_option maxHeartbeats 2000000 in
theorem pnew_any (F : List Nat) (me sites every : Int) (w : World) (h1 : i64' me) (h2 : i64' sites) (h3 : i64' every) :
    Calls Tryz.prog 19 #[.int .i64 me, .int .i64 sites, .int .i64 every] w fun e w' => e = .returned (.pointer (some ⟨w.heap.size, 0, none⟩)) ∧ PeAt w' (w.heap.size :: F) w.heap.size (newP me sites every) ∧ Below w.heap.size w w' := by
  go_enter Tryz.func19, Tryz.ntmps19
  go_wp2_with fail
  go_ret
  have hn : ∀ wx : World, SlR wx ⟨none, 0, 0⟩ [] := fun wx => ⟨⟨rfl, .inl rfl⟩, Nat.le_refl _, by decide⟩
  refine ⟨rfl, ⟨fun _ => ⟨none, 0, 0⟩, heap_alloc_new w _, fun i hi => ⟨hn _, .inl rfl, by decide⟩, h1, ?_, ?_, fun i hi => ⟨Int.le_refl 0, by show (0 : Int) ≤ 1125899906842624; decide⟩⟩, (Below.refl _ _).alloc (Nat.le_refl _) _⟩
  · show 0 ≤ min (max sites 1) 8 ∧ min (max sites 1) 8 ≤ 8
    omega
  · show i64' (max every 1)
    unfold i64' at *
    omega
set_option maxHeartbeats 2000000 in
theorem pget_any (F : List Nat) (g : Nat) (m : PeM) (site : Int) (w : World) (hP : PeAt w F g m) :
    Calls Tryz.prog 81 #[.pointer (some ⟨g, 0, none⟩), .int .i64 site] w fun e w' => e = .returned (.pointer (if isO m site = true then some ⟨g, 3 + site.toNat * 3, none⟩ else none)) ∧ w = w' := by
  obtain ⟨d, hg, hc⟩ := hP
  have c0 := peCell hg rfl (j := 0) (v := .int .i64 m.me) rfl
  have c1 := peCell hg rfl (j := 1) (v := .int .i64 m.sites) rfl
  have hst := hc.st
  clear hg hc
  by_cases h0 : site < 0
  · have t1 : decide (site < 0) = true := decide_eq_true h0
    rw [if_neg (by unfold isO; simp; omega)]
    go_enter Tryz.func81, Tryz.ntmps81
    go_wp2_with fail
    go_ret
    exact ⟨rfl, rfl⟩
  · have t1 : decide (site < 0) = false := decide_eq_false h0
    by_cases hs : site ≥ m.sites
    · have t2 : decide (site ≥ m.sites) = true := decide_eq_true hs
      rw [if_neg (by unfold isO; simp; omega)]
      clear h0 hs
      go_enter Tryz.func81, Tryz.ntmps81
      go_wp2_with fail
      go_ret
      exact ⟨rfl, rfl⟩
    · have t2 : decide (site ≥ m.sites) = false := decide_eq_false hs
      by_cases hm : site = m.me
      · have t3 : (site == m.me) = true := beq_iff_eq.2 hm
        rw [if_neg (by unfold isO; simp; omega)]
        clear h0 hs hm
        go_enter Tryz.func81, Tryz.ntmps81
        go_wp2_with fail
        go_ret
        exact ⟨rfl, rfl⟩
      · have t3 : (site == m.me) = false := beq_eq_false_iff_ne.2 hm
        rw [if_pos (by unfold isO; simp; omega)]
        obtain ⟨k, rfl⟩ := Int.eq_ofNat_of_zero_le (show 0 ≤ site by omega)
        have i1 : (0 : Int) ≤ (k : Int) := by omega
        have i2 : (k : Int) < 8 := by omega
        rw [Int.toNat_natCast]
        clear h0 hs hm
        go_enter Tryz.func81, Tryz.ntmps81
        go_wp2_with fail
        go_ret
        exact ⟨rfl, rfl⟩
theorem clockP_range (n : Int) : 0 ≤ clockP n ∧ clockP n ≤ 1125899906842624 := by unfold clockP; omega
theorem pclock_any (n : Int) (w : World) : Calls Tryz.prog 84 #[.int .i64 n] w fun e w' => e = .returned (.int .i64 (clockP n)) ∧ w = w' := by
  go_enter Tryz.func84, Tryz.ntmps84
  go_wp2_with fail
  go_ret
  exact ⟨rfl, rfl⟩
end
end Go.Proofs.YtglabahbklpocaaGreat
namespace Go.Proofs.YtglabahbklpocaaGreat
section
open Go.RowKit Go.Deep
set_option maxRecDepth 100000
set_option linter.unusedVariables false
set_option linter.unusedSimpArgs false
attribute [local go_sem ↓] Go.wp_at_zero Go.wp_at_succ
/-- A message, as it lies in a frame. -/
structure Wi where
  kind : Int
  id : Int
  series : ByteArray
  from_ : Int
  to_ : Int
  np : Sl
  nr : Sl
  vec : Sl
  time : Int
def Wi.arr (x : Wi) : Array Value := #[.int .i64 x.kind, .int .i64 x.id, .string x.series, .int .i64 x.from_, .int .i64 x.to_, .slice x.np.a x.np.n x.np.c, .slice x.nr.a x.nr.n x.nr.c, .slice x.vec.a x.vec.n x.vec.c, .int .i64 x.time]
def wiO (x : Wi) : Obj := .cells x.arr 33 (0, 0)
structure WiC (w : World) (g : Nat) (x : Wi) : Prop where
  c0 : w.cell? ⟨g, 0, none⟩ = some (.int .i64 x.kind)
  c1 : w.cell? ⟨g, 1, none⟩ = some (.int .i64 x.id)
  c2 : w.cell? ⟨g, 2, none⟩ = some (.string x.series)
  c3 : w.cell? ⟨g, 3, none⟩ = some (.int .i64 x.from_)
  c4 : w.cell? ⟨g, 4, none⟩ = some (.int .i64 x.to_)
  c5 : w.cell? ⟨g, 5, none⟩ = some (.slice x.np.a x.np.n x.np.c)
  c6 : w.cell? ⟨g, 6, none⟩ = some (.slice x.nr.a x.nr.n x.nr.c)
  c7 : w.cell? ⟨g, 7, none⟩ = some (.slice x.vec.a x.vec.n x.vec.c)
  c8 : w.cell? ⟨g, 8, none⟩ = some (.int .i64 x.time)
theorem wi_cells {w wd : World} {g : Nat} {x : Wi} (h : w.heap[g]? = some (wiO x)) (e : wd.heap = w.heap) : WiC wd g x := by
  refine ⟨?_, ?_, ?_, ?_, ?_, ?_, ?_, ?_, ?_⟩ <;> (simp only [World.cell?, e, h, wiO]; rfl)
theorem span_leaves : leaves Tryz.prog 5 30 = some [Leaf.int .i64, Leaf.int .i64] := by kernel_rfl
theorem span_flat (f t : Int) (hf : i64' f) (ht : i64' t) : Flat [Leaf.int .i64, Leaf.int .i64] [.int .i64 f, .int .i64 t] := by
  exact ⟨⟨_, rfl, wf_i64 hf⟩, ⟨_, rfl, wf_i64 ht⟩, trivial⟩
theorem eq_span (f t : Int) (hf : i64' f) (ht : i64' t) (w : World) : (binOp .eql 30 (.agg #[.int .i64 f, .int .i64 t]) (.agg #[.int .i64 0, .int .i64 0])).run Tryz.prog w = .ok (.bool (decide (f = 0 ∧ t = 0))) w :=
  (eql_flat 5 (by decide) 30 _ span_leaves (by kernel_rfl) (by kernel_rfl) (by kernel_rfl) [.int .i64 f, .int .i64 t] [.int .i64 0, .int .i64 0] (span_flat f t hf ht) (span_flat 0 0 ⟨by decide, by decide⟩ ⟨by decide, by decide⟩) (f = 0 ∧ t = 0) (by simp) w).1
def noneB (p a c v r b1 b2 b3 b4 b5 b6 : Bool) : Bool := (p || b1) && ((a || (b2 && b3)) && ((c || b4) && ((v || b5) && (r || b6))))
def Wi.none (x : Wi) (p a c v r : Bool) : Bool := noneB p a c v r (x.np.n == 0) x.series.toList.isEmpty (decide (x.from_ = 0 ∧ x.to_ = 0)) (x.time == 0) (x.vec.n == 0) (x.nr.n == 0)
set_option maxHeartbeats 4000000 in
theorem none_fffff (x : Wi) (w : World) (hf : i64' x.from_) (ht : i64' x.to_) : Calls Tryz.prog 63 #[.agg x.arr, .bool false, .bool false, .bool false, .bool false, .bool false] w fun e w' => e = .returned (.bool (x.none false false false false false)) ∧ Below w.heap.size w w' := by
  have E0 := fun wx => eq_span x.from_ x.to_ hf ht wx
  have u1 : ((x.np.n : Int) == 0) = (x.np.n == 0) := by rw [Bool.eq_iff_iff]; simp
  have u5 : ((x.vec.n : Int) == 0) = (x.vec.n == 0) := by rw [Bool.eq_iff_iff]; simp
  have u6 : ((x.nr.n : Int) == 0) = (x.nr.n == 0) := by rw [Bool.eq_iff_iff]; simp
  unfold Wi.none
  obtain ⟨b1, hb1⟩ : ∃ b, (x.np.n == 0) = b := ⟨_, rfl⟩
  obtain ⟨b2, hb2⟩ : ∃ b, x.series.toList.isEmpty = b := ⟨_, rfl⟩
  obtain ⟨b3, hb3⟩ : ∃ b, decide (x.from_ = 0 ∧ x.to_ = 0) = b := ⟨_, rfl⟩
  obtain ⟨b4, hb4⟩ : ∃ b, (x.time == 0) = b := ⟨_, rfl⟩
  obtain ⟨b5, hb5⟩ : ∃ b, (x.vec.n == 0) = b := ⟨_, rfl⟩
  obtain ⟨b6, hb6⟩ : ∃ b, (x.nr.n == 0) = b := ⟨_, rfl⟩
  rw [hb3] at E0
  rw [hb1] at u1
  rw [hb5] at u5
  rw [hb6] at u6
  rw [hb1, hb2, hb3, hb4, hb5, hb6]
  clear hf ht hb1 hb3 hb5 hb6
  unfold Wi.arr
  go_enter Tryz.func63, Tryz.ntmps63
  go_upto_region 1 with fail
  generalize hw1 : World.alloc _ _ = w1
  have KK := Lib.hid (show Kn w.heap.size w [(w.heap.size, wiO x)] w1 by rw [← hw1]; exact (Kn.start w).new' rfl (wiO x))
  clear hw1
  obtain ⟨c0, c1, c2, c3, c4, c5, c6, c7, c8⟩ := wi_cells KK.out.hd rfl
  generalize hg : w.heap.size = g at *
  cases b1
  · skip
    go_wp2_with fail
    go_ret
    exact ⟨by first | rfl | simp [noneB], by first | exact KK.out.b | (rw [hg]; exact KK.out.b)⟩
  · cases b2
    · skip
      go_wp2_with fail
      go_ret
      exact ⟨by first | rfl | simp [noneB], by first | exact KK.out.b | (rw [hg]; exact KK.out.b)⟩
    · cases b3
      · skip
        go_wp2_with fail
        go_ret
        exact ⟨by first | rfl | simp [noneB], by first | exact KK.out.b | (rw [hg]; exact KK.out.b)⟩
      · cases b4
        · skip
          go_wp2_with fail
          go_ret
          exact ⟨by first | rfl | simp [noneB], by first | exact KK.out.b | (rw [hg]; exact KK.out.b)⟩
        · cases b5
          · skip
            go_wp2_with fail
            go_ret
            exact ⟨by first | rfl | simp [noneB], by first | exact KK.out.b | (rw [hg]; exact KK.out.b)⟩
          · cases b6
            · skip
              go_wp2_with fail
              go_ret
              exact ⟨by first | rfl | simp [noneB], by first | exact KK.out.b | (rw [hg]; exact KK.out.b)⟩
            · skip
              go_wp2_with fail
              go_ret
              exact ⟨by first | rfl | simp [noneB], by first | exact KK.out.b | (rw [hg]; exact KK.out.b)⟩
set_option maxHeartbeats 4000000 in
theorem none_ffftf (x : Wi) (w : World) (hf : i64' x.from_) (ht : i64' x.to_) : Calls Tryz.prog 63 #[.agg x.arr, .bool false, .bool false, .bool false, .bool true, .bool false] w fun e w' => e = .returned (.bool (x.none false false false true false)) ∧ Below w.heap.size w w' := by
  have E0 := fun wx => eq_span x.from_ x.to_ hf ht wx
  have u1 : ((x.np.n : Int) == 0) = (x.np.n == 0) := by rw [Bool.eq_iff_iff]; simp
  have u5 : ((x.vec.n : Int) == 0) = (x.vec.n == 0) := by rw [Bool.eq_iff_iff]; simp
  have u6 : ((x.nr.n : Int) == 0) = (x.nr.n == 0) := by rw [Bool.eq_iff_iff]; simp
  unfold Wi.none
  obtain ⟨b1, hb1⟩ : ∃ b, (x.np.n == 0) = b := ⟨_, rfl⟩
  obtain ⟨b2, hb2⟩ : ∃ b, x.series.toList.isEmpty = b := ⟨_, rfl⟩
  obtain ⟨b3, hb3⟩ : ∃ b, decide (x.from_ = 0 ∧ x.to_ = 0) = b := ⟨_, rfl⟩
  obtain ⟨b4, hb4⟩ : ∃ b, (x.time == 0) = b := ⟨_, rfl⟩
  obtain ⟨b5, hb5⟩ : ∃ b, (x.vec.n == 0) = b := ⟨_, rfl⟩
  obtain ⟨b6, hb6⟩ : ∃ b, (x.nr.n == 0) = b := ⟨_, rfl⟩
  rw [hb3] at E0
  rw [hb1] at u1
  rw [hb5] at u5
  rw [hb6] at u6
  rw [hb1, hb2, hb3, hb4, hb5, hb6]
  clear hf ht hb1 hb3 hb5 hb6
  unfold Wi.arr
  go_enter Tryz.func63, Tryz.ntmps63
  go_upto_region 1 with fail
  generalize hw1 : World.alloc _ _ = w1
  have KK := Lib.hid (show Kn w.heap.size w [(w.heap.size, wiO x)] w1 by rw [← hw1]; exact (Kn.start w).new' rfl (wiO x))
  clear hw1
  obtain ⟨c0, c1, c2, c3, c4, c5, c6, c7, c8⟩ := wi_cells KK.out.hd rfl
  generalize hg : w.heap.size = g at *
  cases b1
  · skip
    go_wp2_with fail
    go_ret
    exact ⟨by first | rfl | simp [noneB], by first | exact KK.out.b | (rw [hg]; exact KK.out.b)⟩
  · cases b2
    · skip
      go_wp2_with fail
      go_ret
      exact ⟨by first | rfl | simp [noneB], by first | exact KK.out.b | (rw [hg]; exact KK.out.b)⟩
    · cases b3
      · skip
        go_wp2_with fail
        go_ret
        exact ⟨by first | rfl | simp [noneB], by first | exact KK.out.b | (rw [hg]; exact KK.out.b)⟩
      · cases b4
        · skip
          go_wp2_with fail
          go_ret
          exact ⟨by first | rfl | simp [noneB], by first | exact KK.out.b | (rw [hg]; exact KK.out.b)⟩
        · cases b6
          · skip
            go_wp2_with fail
            go_ret
            exact ⟨by first | rfl | simp [noneB], by first | exact KK.out.b | (rw [hg]; exact KK.out.b)⟩
          · skip
            go_wp2_with fail
            go_ret
            exact ⟨by first | rfl | simp [noneB], by first | exact KK.out.b | (rw [hg]; exact KK.out.b)⟩
end
end Go.Proofs.YtglabahbklpocaaGreat
