/- The reference's Peers in memory: New, other, clock, Of, Sent. -/
import Derived.Test.YtglabahbklpocaaGShipPeers34
import Derived.Test.YtglabahbklpocaaGShipPeers21
import Derived.Test.YtglabahbklpocaaGShipPeers44
import Derived.Test.YtglabahbklpocaaGShipPeers45
import Derived.Test.YtglabahbklpocaaGShipPeers13
import Derived.Test.YtglabahbklpocaaGShipPeers29
namespace Go.Proofs.Ytglabahbklpocaa
section
open Go.RowKit Go.Deep
set_option maxRecDepth 100000
set_option linter.unusedVariables false
set_option linter.unusedSimpArgs false
attribute [local go_sem ↓] Go.wp_at_zero Go.wp_at_succ
def lastM (m : PeM) (i : Nat) : Int := if m.s i = true then m.a i + 1 else 0
def rpL (me sites every : Int) (d : Nat → Sl) (l : Nat → Int) : Array Value := #[.int .i64 me, .int .i64 sites, .int .i64 every,
  slV (d 0), slV (d 1), slV (d 2), slV (d 3), slV (d 4), slV (d 5), slV (d 6), slV (d 7),
  .int .i64 (l 0), .int .i64 (l 1), .int .i64 (l 2), .int .i64 (l 3), .int .i64 (l 4), .int .i64 (l 5), .int .i64 (l 6), .int .i64 (l 7)]
def rpC (m : PeM) (d : Nat → Sl) : Array Value := rpL m.me m.sites m.every d (lastM m)
def rpO (m : PeM) (d : Nat → Sl) : Obj := .cells (rpC m d) 74 (0, 0)
theorem rpC_v (m : PeM) (d : Nat → Sl) (i : Nat) (hi : i < 8) : (rpC m d)[3 + i]? = some (slV (d i)) ∧ (rpC m d)[11 + i]? = some (.int .i64 (lastM m i)) := by
  match i, hi with
  | 0, _ | 1, _ | 2, _ | 3, _ | 4, _ | 5, _ | 6, _ | 7, _ => exact ⟨rfl, rfl⟩
theorem rpL_setv (a b c : Int) (l : Nat → Int) (d : Nat → Sl) (i : Nat) (hi : i < 8) (x : Sl) : (rpL a b c d l).setIfInBounds (3 + i) (slV x) = rpL a b c (upd d i x) l := by
  match i, hi with
  | 0, _ | 1, _ | 2, _ | 3, _ | 4, _ | 5, _ | 6, _ | 7, _ => rfl
theorem rpL_setl (a b c : Int) (l : Nat → Int) (d : Nat → Sl) (i : Nat) (hi : i < 8) (x : Int) : (rpL a b c d l).setIfInBounds (11 + i) (.int .i64 x) = rpL a b c d (upd l i x) := by
  match i, hi with
  | 0, _ | 1, _ | 2, _ | 3, _ | 4, _ | 5, _ | 6, _ | 7, _ => rfl
theorem lastM_set (m : PeM) (i : Nat) (t : Int) : lastM { m with s := upd m.s i true, a := upd m.a i t } = upd (lastM m) i (t + 1) := by
  funext j
  unfold lastM upd
  by_cases h : j = i <;> simp [h]
def RPeAt (w : World) (F : List Nat) (g : Nat) (m : PeM) : Prop := ∃ d, w.heap[g]? = some (rpO m d) ∧ PeC w F d m ∧ ∀ i, pl (m.v i) = m.v i
theorem RPeAt.lt {w : World} {F : List Nat} {g : Nat} {m : PeM} (h : RPeAt w F g m) : g < w.heap.size := by
  obtain ⟨d, h1, _⟩ := h
  exact heap_lt h1
theorem RPeAt.below {w w' : World} {F : List Nat} {g : Nat} {m : PeM} (h : RPeAt w F g m) (hb : Below w.heap.size w w') : RPeAt w' F g m := by
  obtain ⟨d, h1, h2, h3⟩ := h
  exact ⟨d, (hb.block g (heap_lt h1)).trans h1, h2.keep hb.size (fun i hi _ => hb.block i hi), h3⟩
theorem RPeAt.but {w w' : World} {F : List Nat} {g g' : Nat} {m : PeM} (h : RPeAt w F g m) (hg : g' ∈ F) (hne : g ≠ g') (k : But g' w w') : RPeAt w' F g m := by
  obtain ⟨d, h1, h2, h3⟩ := h
  exact ⟨d, (k.block g (heap_lt h1) (by simpa using fun e => hne e)).trans h1, h2.keep k.size (fun i hi hn => k.block i hi (by simp; exact fun e => hn (e ▸ hg))), h3⟩
theorem rpCell {w wd : World} {g : Nat} {m : PeM} {d : Nat → Sl} (h : w.heap[g]? = some (rpO m d)) (e : wd.heap = w.heap) {j : Nat} {v : Value} (hv : (rpC m d)[j]? = some v) : wd.cell? ⟨g, j, none⟩ = some v := by
  simp only [World.cell?, e, h, rpO]
  exact hv
theorem rpFz {w : World} {g : Nat} {m : PeM} {d : Nat → Sl} (h : w.heap[g]? = some (rpO m d)) (j : Nat) : w.frozen? ⟨g, j, none⟩ = false := by
  simp [World.frozen?, h, rpO]
theorem min_max_site (s : Int) : min (max s 1) 8 = if s < 1 then 1 else if s > 8 then 8 else s := by split <;> (try split) <;> omega
set_option maxHeartbeats 4000000 in
theorem rpnew_any (F : List Nat) (me sites every : Int) (w : World) (h1 : i64' me) (h2 : i64' sites) (h3 : i64' every) :
    Calls Try.prog 12 #[.int .i64 me, .int .i64 sites, .int .i64 every] w fun e w' => e = .returned (.pointer (some ⟨w.heap.size, 0, none⟩)) ∧ RPeAt w' (w.heap.size :: F) w.heap.size (newP me sites every) ∧ Below w.heap.size w w' := by
  have hn : ∀ wx : World, SlR wx ⟨none, 0, 0⟩ [] := fun wx => ⟨⟨rfl, .inl rfl⟩, Nat.le_refl _, by decide⟩
  have FIN : ∀ s e : Int, s = min (max sites 1) 8 → e = max every 1 → Hid (RPeAt (w.alloc (.cells #[.int .i64 me, .int .i64 s, .int .i64 e, .slice none 0 0, .slice none 0 0, .slice none 0 0, .slice none 0 0, .slice none 0 0, .slice none 0 0, .slice none 0 0, .slice none 0 0, .int .i64 0, .int .i64 0, .int .i64 0, .int .i64 0, .int .i64 0, .int .i64 0, .int .i64 0, .int .i64 0] 74 (0, 0))) (w.heap.size :: F) w.heap.size (newP me sites every)) := by
    intro s e hs he
    subst hs he
    refine ⟨fun _ => ⟨none, 0, 0⟩, heap_alloc_new w _, ⟨fun i hi => ⟨hn _, .inl rfl, by decide⟩, h1, ?_, ?_, fun i hi => ⟨Int.le_refl 0, by show (0 : Int) ≤ 1125899906842624; decide⟩⟩, fun i => by show pl [] = []; decide +kernel⟩
    · show 0 ≤ min (max sites 1) 8 ∧ min (max sites 1) 8 ≤ 8
      omega
    · show i64' (max every 1)
      unfold i64' at *
      omega
  have HB := fun o => Lib.hid ((Below.refl w.heap.size w).alloc (Nat.le_refl _) o)
  clear h1 h2 h3
  by_cases k1 : sites < 1
  · have t1 : decide (sites < 1) = true := decide_eq_true k1
    by_cases k3 : every < 1
    · have t3 : decide (every < 1) = true := decide_eq_true k3
      have FIN := FIN 1 1 (by omega) (by omega)
      clear k1 k3
      go_enter Try.func12, Try.ntmps12
      go_wp2_with fail
      go_ret
      exact ⟨rfl, FIN.out, (HB _).out⟩
    · have t3 : decide (every < 1) = false := decide_eq_false k3
      have FIN := FIN 1 every (by omega) (by omega)
      clear k1 k3
      go_enter Try.func12, Try.ntmps12
      go_wp2_with fail
      go_ret
      exact ⟨rfl, FIN.out, (HB _).out⟩
  · have t1 : decide (sites < 1) = false := decide_eq_false k1
    by_cases k2 : sites > 8
    · have t2 : decide (sites > 8) = true := decide_eq_true k2
      by_cases k3 : every < 1
      · have t3 : decide (every < 1) = true := decide_eq_true k3
        have FIN := FIN 8 1 (by omega) (by omega)
        clear k1 k2 k3
        go_enter Try.func12, Try.ntmps12
        go_wp2_with fail
        go_ret
        exact ⟨rfl, FIN.out, (HB _).out⟩
      · have t3 : decide (every < 1) = false := decide_eq_false k3
        have FIN := FIN 8 every (by omega) (by omega)
        clear k1 k2 k3
        go_enter Try.func12, Try.ntmps12
        go_wp2_with fail
        go_ret
        exact ⟨rfl, FIN.out, (HB _).out⟩
    · have t2 : decide (sites > 8) = false := decide_eq_false k2
      by_cases k3 : every < 1
      · have t3 : decide (every < 1) = true := decide_eq_true k3
        have FIN := FIN sites 1 (by omega) (by omega)
        clear k1 k2 k3
        go_enter Try.func12, Try.ntmps12
        go_wp2_with fail
        go_ret
        exact ⟨rfl, FIN.out, (HB _).out⟩
      · have t3 : decide (every < 1) = false := decide_eq_false k3
        have FIN := FIN sites every (by omega) (by omega)
        clear k1 k2 k3
        go_enter Try.func12, Try.ntmps12
        go_wp2_with fail
        go_ret
        exact ⟨rfl, FIN.out, (HB _).out⟩
set_option maxHeartbeats 4000000 in
theorem rpother_any (F : List Nat) (g : Nat) (m : PeM) (site : Int) (w : World) (hP : RPeAt w F g m) :
    Calls Try.prog 36 #[.pointer (some ⟨g, 0, none⟩), .int .i64 site] w fun e w' => e = .returned (.bool (isO m site)) ∧ w = w' := by
  obtain ⟨d, hg, hc, _⟩ := hP
  have c0 := rpCell hg rfl (j := 0) (v := .int .i64 m.me) rfl
  have c1 := rpCell hg rfl (j := 1) (v := .int .i64 m.sites) rfl
  clear hg hc
  unfold isO
  by_cases h0 : site ≥ 0
  · have t1 : decide (site ≥ 0) = true := decide_eq_true h0
    have v1 : decide (0 ≤ site) = true := decide_eq_true h0
    by_cases h1 : site < m.sites
    · have t2 : decide (site < m.sites) = true := decide_eq_true h1
      by_cases h2 : site = m.me
      · have t3 : (site != m.me) = false := by simp [h2]
        have v3 : decide (site = m.me) = true := decide_eq_true h2
        rw [v1, t2, v3]
        clear h0 h1 h2 v1 v3
        go_enter Try.func36, Try.ntmps36
        go_wp2_with fail
        go_ret
        exact ⟨rfl, rfl⟩
      · have t3 : (site != m.me) = true := bne_iff_ne.2 h2
        have v3 : decide (site = m.me) = false := decide_eq_false h2
        rw [v1, t2, v3]
        clear h0 h1 h2 v1 v3
        go_enter Try.func36, Try.ntmps36
        go_wp2_with fail
        go_ret
        exact ⟨rfl, rfl⟩
    · have t2 : decide (site < m.sites) = false := decide_eq_false h1
      rw [v1, t2]
      clear h0 h1 v1
      go_enter Try.func36, Try.ntmps36
      go_wp2_with fail
      go_ret
      exact ⟨rfl, rfl⟩
  · have t1 : decide (site ≥ 0) = false := decide_eq_false h0
    have v1 : decide (0 ≤ site) = false := decide_eq_false h0
    rw [v1]
    clear h0 v1
    go_enter Try.func36, Try.ntmps36
    go_wp2_with fail
    go_ret
    exact ⟨rfl, rfl⟩
theorem rclock_any (n : Int) (w : World) : Calls Try.prog 37 #[.int .i64 n] w fun e w' => e = .returned (.int .i64 (clockP n)) ∧ w = w' := by
  by_cases h0 : n < 0
  · have t1 : decide (n < 0) = true := decide_eq_true h0
    have e : clockP n = 0 := by unfold clockP; omega
    rw [e]
    clear h0 e
    go_enter Try.func37, Try.ntmps37
    go_wp2_with fail
    go_ret
    exact ⟨rfl, rfl⟩
  · have t1 : decide (n < 0) = false := decide_eq_false h0
    by_cases h1 : n > 1125899906842624
    · have t2 : decide (n > 1125899906842624) = true := decide_eq_true h1
      have e : clockP n = 1125899906842624 := by unfold clockP; omega
      rw [e]
      clear h0 e h1
      go_enter Try.func37, Try.ntmps37
      go_wp2_with fail
      go_ret
      exact ⟨rfl, rfl⟩
    · have t2 : decide (n > 1125899906842624) = false := decide_eq_false h1
      have e : clockP n = n := by unfold clockP; omega
      rw [e]
      clear h0 e h1
      go_enter Try.func37, Try.ntmps37
      go_wp2_with fail
      go_ret
      exact ⟨rfl, rfl⟩
set_option maxHeartbeats 4000000 in
theorem rpof_any (F : List Nat) (g : Nat) (m : PeM) (site : Int) (w : World) (hP : RPeAt w F g m) :
    Calls Try.prog 19 #[.pointer (some ⟨g, 0, none⟩), .int .i64 site] w fun e w' => ∃ o : Sl, e = .returned (.slice o.a o.n o.c) ∧ SlR w' o (ofM m site) ∧ Below w.heap.size w w' := by
  have G := rpother_any F g m site w hP
  obtain ⟨d, hg, hc, _⟩ := hP
  unfold ofM
  by_cases h : isO m site = true
  · rw [if_pos h]
    rw [h] at G
    obtain ⟨h0, h1, h2⟩ := isO_true h
    obtain ⟨k, rfl⟩ := Int.eq_ofNat_of_zero_le h0
    have hst := hc.st
    have hk : k < 8 := by omega
    rw [Int.toNat_natCast]
    have FIN := Lib.hid (hc.sl k hk).1
    have q0 := rpCell hg rfl (rpC_v m d k hk).1
    unfold slV at q0
    have i1 : (0 : Int) ≤ (k : Int) := by omega
    have i2 : (k : Int) < 8 := by omega
    clear hg hc h h0 h1 h2 hst
    go_enter Try.func19, Try.ntmps19
    go_wp2_with (first | (go_at_call 36; refine G.mono ?_; rintro e w1 ⟨rfl, rfl⟩))
    go_ret
    exact ⟨d k, rfl, FIN.out, Below.refl _ _⟩
  · rw [if_neg h]
    rw [show isO m site = false by simpa using h] at G
    clear hg hc h
    go_enter Try.func19, Try.ntmps19
    go_wp2_with (first | (go_at_call 36; refine G.mono ?_; rintro e w1 ⟨rfl, rfl⟩))
    go_ret
    exact ⟨⟨none, 0, 0⟩, rfl, ⟨⟨rfl, .inl rfl⟩, Nat.le_refl _, by decide⟩, Below.refl _ _⟩
end
end Go.Proofs.Ytglabahbklpocaa
