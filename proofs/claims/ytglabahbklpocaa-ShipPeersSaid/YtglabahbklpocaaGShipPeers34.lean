/- Peers in memory. -/
import Derived.Test.YtglabahbklpocaaGShipPeers2
import Derived.Test.YtglabahbklpocaaGShipPeers30
import Derived.Test.YtglabahbklpocaaGShipPeers33
import Derived.Test.YtglabahbklpocaaGShipPeers10
namespace Go.Proofs.Ytglabahbklpocaa
section
open Go.RowKit Go.Deep
set_option maxRecDepth 100000
set_option linter.unusedVariables false
set_option linter.unusedSimpArgs false
attribute [local go_sem ↓] Go.wp_at_zero Go.wp_at_succ
def slV (d : Sl) : Value := .slice d.a d.n d.c
def peC (m : PeM) (d : Nat → Sl) : Array Value := #[.int .i64 m.me, .int .i64 m.sites, .int .i64 m.every,
  slV (d 0), .bool (m.s 0), .int .i64 (m.a 0), slV (d 1), .bool (m.s 1), .int .i64 (m.a 1), slV (d 2), .bool (m.s 2), .int .i64 (m.a 2), slV (d 3), .bool (m.s 3), .int .i64 (m.a 3),
  slV (d 4), .bool (m.s 4), .int .i64 (m.a 4), slV (d 5), .bool (m.s 5), .int .i64 (m.a 5), slV (d 6), .bool (m.s 6), .int .i64 (m.a 6), slV (d 7), .bool (m.s 7), .int .i64 (m.a 7)]
def peO (m : PeM) (d : Nat → Sl) : Obj := .cells (peC m d) 47 (0, 0)
theorem peC_v (m : PeM) (d : Nat → Sl) (i : Nat) (hi : i < 8) : (peC m d)[3 + i * 3]? = some (slV (d i)) ∧ (peC m d)[3 + i * 3 + 1]? = some (.bool (m.s i)) ∧ (peC m d)[3 + i * 3 + 2]? = some (.int .i64 (m.a i)) := by
  match i, hi with
  | 0, _ | 1, _ | 2, _ | 3, _ | 4, _ | 5, _ | 6, _ | 7, _ => exact ⟨rfl, rfl, rfl⟩
theorem peC_setv (m : PeM) (d : Nat → Sl) (i : Nat) (hi : i < 8) (x : Sl) (v : Nat → List Int) : (peC m d).setIfInBounds (3 + i * 3) (slV x) = peC { m with v := v } (upd d i x) := by
  match i, hi with
  | 0, _ | 1, _ | 2, _ | 3, _ | 4, _ | 5, _ | 6, _ | 7, _ => rfl
theorem peC_sets (m : PeM) (d : Nat → Sl) (i : Nat) (hi : i < 8) (b : Bool) (t : Int) : ((peC m d).setIfInBounds (3 + i * 3 + 1) (.bool b)).setIfInBounds (3 + i * 3 + 2) (.int .i64 t) = peC { m with s := upd m.s i b, a := upd m.a i t } d := by
  match i, hi with
  | 0, _ | 1, _ | 2, _ | 3, _ | 4, _ | 5, _ | 6, _ | 7, _ => rfl
structure PeC (w : World) (F : List Nat) (d : Nat → Sl) (m : PeM) : Prop where
  sl : ∀ i, i < 8 → SlR w (d i) (m.v i) ∧ farA F (d i) ∧ (d i).n ≤ 8
  me : i64' m.me
  st : 0 ≤ m.sites ∧ m.sites ≤ 8
  ev : i64' m.every
  a : ∀ i, i < 8 → 0 ≤ m.a i ∧ m.a i ≤ 1125899906842624
def PeAt (w : World) (F : List Nat) (g : Nat) (m : PeM) : Prop := ∃ d, w.heap[g]? = some (peO m d) ∧ PeC w F d m
theorem PeC.keep {w w' : World} {F : List Nat} {d : Nat → Sl} {m : PeM} (h : PeC w F d m) (hs : w.heap.size ≤ w'.heap.size) (hd : ∀ i, i < w.heap.size → i ∉ F → w'.heap[i]? = w.heap[i]?) : PeC w' F d m :=
  ⟨fun i hi => ⟨(h.sl i hi).1.keep (h.sl i hi).2.1 hs hd, (h.sl i hi).2⟩, h.me, h.st, h.ev, h.a⟩
theorem PeAt.lt {w : World} {F : List Nat} {g : Nat} {m : PeM} (h : PeAt w F g m) : g < w.heap.size := by
  obtain ⟨d, h1, _⟩ := h
  exact heap_lt h1
theorem PeAt.below {w w' : World} {F : List Nat} {g : Nat} {m : PeM} (h : PeAt w F g m) (hb : Below w.heap.size w w') : PeAt w' F g m := by
  obtain ⟨d, h1, h2⟩ := h
  exact ⟨d, (hb.block g (heap_lt h1)).trans h1, h2.keep hb.size (fun i hi _ => hb.block i hi)⟩
theorem PeAt.but {w w' : World} {F : List Nat} {g g' : Nat} {m : PeM} (h : PeAt w F g m) (hg : g' ∈ F) (hne : g ≠ g') (k : But g' w w') : PeAt w' F g m := by
  obtain ⟨d, h1, h2⟩ := h
  exact ⟨d, (k.block g (heap_lt h1) (by simpa using fun e => hne e)).trans h1, h2.keep k.size (fun i hi hn => k.block i hi (by simp; exact fun e => hn (e ▸ hg)))⟩
theorem PeAt.grow {w : World} {F : List Nat} {g : Nat} {m : PeM} (h : PeAt w F g m) {k : Nat} (hk : w.heap.size ≤ k) : PeAt w (k :: F) g m := by
  obtain ⟨d, h1, h2⟩ := h
  exact ⟨d, h1, fun i hi => ⟨(h2.sl i hi).1, (h2.sl i hi).2.1.grow (h2.sl i hi).1.lt hk, (h2.sl i hi).2.2⟩, h2.me, h2.st, h2.ev, h2.a⟩
theorem PeAt.ex {w : World} {F : List Nat} {g : Nat} {m : PeM} (h : PeAt w F g m) : i64' m.me ∧ (0 ≤ m.sites ∧ m.sites ≤ 8) ∧ i64' m.every ∧ ∀ i, i < 8 → 0 ≤ m.a i ∧ m.a i ≤ 1125899906842624 := by
  obtain ⟨d, h1, h2⟩ := h
  exact ⟨h2.me, h2.st, h2.ev, h2.a⟩
theorem peCell {w wd : World} {g : Nat} {m : PeM} {d : Nat → Sl} (h : w.heap[g]? = some (peO m d)) (e : wd.heap = w.heap) {j : Nat} {v : Value} (hv : (peC m d)[j]? = some v) : wd.cell? ⟨g, j, none⟩ = some v := by
  simp only [World.cell?, e, h, peO]
  exact hv
theorem peFz {w : World} {g : Nat} {m : PeM} {d : Nat → Sl} (h : w.heap[g]? = some (peO m d)) (j : Nat) : w.frozen? ⟨g, j, none⟩ = false := by
  simp [World.frozen?, h, peO]
set_option maxHeartbeats 2000000 in
theorem pnew_any (F : List Nat) (me sites every : Int) (w : World) (h1 : i64' me) (h2 : i64' sites) (h3 : i64' every) :
    Calls Try.prog 9 #[.int .i64 me, .int .i64 sites, .int .i64 every] w fun e w' => e = .returned (.pointer (some ⟨w.heap.size, 0, none⟩)) ∧ PeAt w' (w.heap.size :: F) w.heap.size (newP me sites every) ∧ Below w.heap.size w w' := by
  go_enter Try.func9, Try.ntmps9
  go_wp2_with fail
  go_ret
  have hn : ∀ wx : World, SlR wx ⟨none, 0, 0⟩ [] := fun wx => ⟨⟨rfl, .inl rfl⟩, Nat.le_refl _, by decide⟩
  refine ⟨rfl, ⟨fun _ => ⟨none, 0, 0⟩, heap_alloc_new w _, fun i hi => ⟨hn _, .inl rfl, by decide⟩, h1, ?_, ?_, fun i hi => ⟨Int.le_refl 0, by show (0 : Int) ≤ 1125899906842624; decide⟩⟩, (Below.refl _ _).alloc (Nat.le_refl _) _⟩
  · show 0 ≤ min (max sites 1) 8 ∧ min (max sites 1) 8 ≤ 8
    omega
  · show i64' (max every 1)
    unfold i64' at *
    omega
set_option maxHeartbeats 2000000 in
theorem pget_any (F : List Nat) (g : Nat) (m : PeM) (site : Int) (w : World) (hP : PeAt w F g m) :
    Calls Try.prog 33 #[.pointer (some ⟨g, 0, none⟩), .int .i64 site] w fun e w' => e = .returned (.pointer (if isO m site = true then some ⟨g, 3 + site.toNat * 3, none⟩ else none)) ∧ w = w' := by
  obtain ⟨d, hg, hc⟩ := hP
  have c0 := peCell hg rfl (j := 0) (v := .int .i64 m.me) rfl
  have c1 := peCell hg rfl (j := 1) (v := .int .i64 m.sites) rfl
  have hst := hc.st
  clear hg hc
  by_cases h0 : site < 0
  · have t1 : decide (site < 0) = true := decide_eq_true h0
    rw [if_neg (by unfold isO; simp; omega)]
    go_enter Try.func33, Try.ntmps33
    go_wp2_with fail
    go_ret
    exact ⟨rfl, rfl⟩
  · have t1 : decide (site < 0) = false := decide_eq_false h0
    by_cases hs : site ≥ m.sites
    · have t2 : decide (site ≥ m.sites) = true := decide_eq_true hs
      rw [if_neg (by unfold isO; simp; omega)]
      clear h0 hs
      go_enter Try.func33, Try.ntmps33
      go_wp2_with fail
      go_ret
      exact ⟨rfl, rfl⟩
    · have t2 : decide (site ≥ m.sites) = false := decide_eq_false hs
      by_cases hm : site = m.me
      · have t3 : (site == m.me) = true := beq_iff_eq.2 hm
        rw [if_neg (by unfold isO; simp; omega)]
        clear h0 hs hm
        go_enter Try.func33, Try.ntmps33
        go_wp2_with fail
        go_ret
        exact ⟨rfl, rfl⟩
      · have t3 : (site == m.me) = false := beq_eq_false_iff_ne.2 hm
        rw [if_pos (by unfold isO; simp; omega)]
        obtain ⟨k, rfl⟩ := Int.eq_ofNat_of_zero_le (show 0 ≤ site by omega)
        have i1 : (0 : Int) ≤ (k : Int) := by omega
        have i2 : (k : Int) < 8 := by omega
        rw [Int.toNat_natCast]
        clear h0 hs hm
        go_enter Try.func33, Try.ntmps33
        go_wp2_with fail
        go_ret
        exact ⟨rfl, rfl⟩
theorem clockP_range (n : Int) : 0 ≤ clockP n ∧ clockP n ≤ 1125899906842624 := by unfold clockP; omega
theorem pclock_any (n : Int) (w : World) : Calls Try.prog 30 #[.int .i64 n] w fun e w' => e = .returned (.int .i64 (clockP n)) ∧ w = w' := by
  go_enter Try.func30, Try.ntmps30
  go_wp2_with fail
  go_ret
  exact ⟨rfl, rfl⟩
end
end Go.Proofs.Ytglabahbklpocaa
