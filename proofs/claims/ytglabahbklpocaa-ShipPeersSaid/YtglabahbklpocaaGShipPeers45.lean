/- The reference's Meet. (Printed by wip/rjoin.py.) -/
import Derived.Test.YtglabahbklpocaaGShipPeers13
import Derived.Deep.WholeRow
namespace Go.Proofs.Ytglabahbklpocaa
section
open Go.RowKit
set_option maxRecDepth 100000
set_option linter.unusedVariables false
set_option linter.unusedSimpArgs false
/-- The first k are reckoned. -/
def halfMeet (f g : Nat → Int) (k : Nat) : Nat → Int := fun j => if j < k then min (f j) (g j) else f j
theorem halfMeet_step (f g : Nat → Int) (k : Nat) : (upto (halfMeet f g k) 8).set k (min (f k) (g k)) = upto (halfMeet f g (k + 1)) 8 := by
  rw [upto_eight, upto_eight]
  apply List.ext_getElem?
  intro i
  rw [List.getElem?_set]
  simp only [List.length_map, List.length_range, List.getElem?_map]
  by_cases h8 : i < 8
  · rcases Nat.lt_trichotomy i k with h1 | h1 | h1
    · rw [if_neg (by omega)]; simp [h8, halfMeet, h1, show i < k + 1 by omega]
    · subst h1; simp [h8, halfMeet]
    · rw [if_neg (by omega)]; simp [h8, halfMeet, show ¬ i < k by omega, show ¬ i < k + 1 by omega]
  · by_cases hk : k = i
    · subst hk; simp [h8]
    · rw [if_neg hk]; simp [h8]
theorem halfMeet_same (f g : Nat → Int) (k : Nat) (h : min (f k) (g k) = f k) : upto (halfMeet f g k) 8 = upto (halfMeet f g (k + 1)) 8 := by
  rw [upto_eight, upto_eight]
  apply List.map_congr_left
  intro i hi
  unfold halfMeet
  rcases Nat.lt_trichotomy i k with h1 | h1 | h1
  · rw [if_pos h1, if_pos (by omega)]
  · subst h1; rw [if_neg (by omega), if_pos (by omega), h]
  · rw [if_neg (by omega), if_neg (by omega)]
theorem halfMeet_getD (f g : Nat → Int) (k : Nat) (h : k < 8) : (upto (halfMeet f g k) 8).getD k 0 = f k := by
  rw [upto_eight, List.getD_eq_getElem?_getD]; simp [h, halfMeet]
theorem halfMeet_zero (f g : Nat → Int) : halfMeet f g 0 = f := by funext j; simp [halfMeet]
theorem halfMeet_end (f g : Nat → Int) : upto (halfMeet f g 8) 8 = upto (fun j => min (f j) (g j)) 8 := by
  rw [upto_eight, upto_eight]
  apply List.map_congr_left
  intro i hi
  simp at hi
  simp [halfMeet, hi]
set_option maxHeartbeats 4000000 in
theorem rmeet_any (a1 a2 : Option Addr) (n1 c1 n2 c2 : Nat) (xs ys : List Int) (w : World) (h1 : ReadsI .i64 w a1 n1 xs) (h2 : ReadsI .i64 w a2 n2 ys) (hc1 : n1 ≤ c1) (hb1 : c1 ≤ 9223372036854775807) (hc2 : n2 ≤ c2) (hb2 : c2 ≤ 9223372036854775807) :
    Calls Try.prog 41 #[.slice a1 n1 c1, .slice a2 n2 c2] w fun e w' => ∃ a' cap', e = .returned (.slice a' (meetV xs ys).length cap') ∧ (meetV xs ys).length ≤ cap' ∧ cap' ≤ 9223372036854775807 ∧ VecAt w' w.heap.size a' (meetV xs ys) ∧ Below w.heap.size w w' := by
  obtain ⟨V, HV⟩ : ∃ V, Hid (V = meetV xs ys) := ⟨_, rfl⟩
  rw [← HV.out]
  have H2 := Lib.hid h2
  clear h2
  go_enter Try.func41, Try.ntmps41
  go_wp2_with fail
  refine (rall_any a1 n1 c1 xs w h1 hc1 hb1).mono ?_
  rintro e w1 ⟨rfl, hbw1⟩
  go_wp2_with (refine wpList_store_row rfl 72 _ _ rfl w1.heap.size (arrI (upto (nm xs) 8)) rfl rfl 72 _ (heap_alloc_new w1 _) (size8 _ _) (by rw [arrI_size, upto_length]; rfl) (arrI_one _) ?_)
  rw [World.setRow_alloc_new]
  have hX1 : ArrAt (w1.alloc (.cells (arrI (upto (nm xs) 8)) 72)) 72 w1.heap.size (upto (nm xs) 8) := heap_alloc_new w1 _
  have hb1' : Below w.heap.size w (w1.alloc (.cells (arrI (upto (nm xs) 8)) 72)) := hbw1.alloc hbw1.size _
  have hg5 : w.heap.size ≤ w1.heap.size := hbw1.size
  generalize w1.alloc (.cells (arrI (upto (nm xs) 8)) 72) = w2 at *
  refine (rall_any a2 n2 c2 ys w2 (H2.out.below hb1') hc2 hb2).mono ?_
  rintro e w3 ⟨rfl, hbw3⟩
  have hX3 := hX1.below hbw3
  have hb3' := below_then hb1' hb1'.size hbw3
  clear hX1 hb1' hbw3 hbw1
  go_wp2_with (refine wpList_store_row rfl 72 _ _ rfl w3.heap.size (arrI (upto (nm ys) 8)) rfl rfl 72 _ (heap_alloc_new w3 _) (size8 _ _) (by rw [arrI_size, upto_length]; rfl) (arrI_one _) ?_)
  rw [World.setRow_alloc_new]
  have hY4 : ArrAt (w3.alloc (.cells (arrI (upto (nm ys) 8)) 72)) 72 w3.heap.size (upto (nm ys) 8) := heap_alloc_new w3 _
  have hX4 : ArrAt (w3.alloc (.cells (arrI (upto (nm ys) 8)) 72)) 72 w1.heap.size (upto (nm xs) 8) := hX3.below ((Below.refl _ _).alloc (Nat.le_refl _) _)
  have hb4 : Below w.heap.size w (w3.alloc (.cells (arrI (upto (nm ys) 8)) 72)) := hb3'.alloc hb3'.size _
  have hne : w1.heap.size ≠ w3.heap.size := Nat.ne_of_lt hX3.lt
  clear hX3 hb3'
  generalize w3.alloc (.cells (arrI (upto (nm ys) 8)) 72) = w4 at *
  generalize w1.heap.size = g5 at *
  generalize w3.heap.size = g6 at *
  have hfr := fun i => nm_range xs i
  have hgr := fun i => nm_range ys i
  have HV2 : Hid (V = vec fun j => min (nm xs j) (nm ys j)) := HV.out
  clear HV
  generalize nm xs = f at *
  generalize nm ys = g at *
  have INIT := Lib.hid (And.intro hX4 (And.intro hY4 hb4))
  clear hX4 hY4 hb4
  go_loopw [7] (fun i wr => ∃ k : Nat, k ≤ 8 ∧ i = .int .i64 k ∧ ArrAt wr 72 g5 (upto (halfMeet f g k) 8) ∧ ArrAt wr 72 g6 (upto g 8) ∧ Below w.heap.size w wr) (fun i _ => 9 - (intOf i).toNat)
  case atStart => exact ⟨0, by omega, rfl, by rw [halfMeet_zero]; exact INIT.out.1, INIT.out.2⟩
  case round =>
    obtain ⟨k, hk, rfl, hX, hY, hbel⟩ := hrel
    by_cases hlt : k < 8
    · have t1 : decide ((k : Int) < 8) = true := decide_eq_true (by omega)
      have i1 : (0 : Int) ≤ (k : Int) := by omega
      have i2 : (k : Int) < 8 := by omega
      have hxc := hX.cell k (by rw [upto_length]; exact hlt)
      have hyc := hY.cell k (by rw [upto_length]; exact hlt)
      have hxf := hX.fz k
      rw [halfMeet_getD f g k hlt] at hxc
      have hgk : (upto g 8).getD k 0 = g k := by rw [upto_eight, List.getD_eq_getElem?_getD]; simp [hlt]
      rw [hgk] at hyc
      clear hgk
      have HX := Lib.hid hX
      have HY := Lib.hid hY
      clear hX hY
      have HST := Lib.hid (halfMeet_step f g k)
      have HSA := Lib.hid (halfMeet_same f g k)
      generalize f k = x at *
      generalize g k = y at *
      by_cases hxy : y < x
      · have t2 : decide (y < x) = true := decide_eq_true hxy
        have hop : min x y = y := by omega
        rw [hop] at HST
        clear hop HSA
        go_wp2_with fail
        go_quiet (fail)
        have hX5 : ArrAt ((wr.drewN nq).setCell ⟨g5, k, none⟩ (.int .i64 y)) 72 g5 (upto (halfMeet f g (k + 1)) 8) := by
          have h : ArrAt (wr.drewN nq) 72 g5 (upto (halfMeet f g k) 8) := HX.out
          have := h.set k y
          rw [HST.out] at this
          exact this
        have hY5 : ArrAt ((wr.drewN nq).setCell ⟨g5, k, none⟩ (.int .i64 y)) 72 g6 (upto g 8) := by
          unfold ArrAt
          rw [Below.heap_setCell _ _ _ _ (Ne.symm hne)]
          exact HY.out
        have hb5 : Below w.heap.size w ((wr.drewN nq).setCell ⟨g5, k, none⟩ (.int .i64 y)) := (below_drewN hbel nq).setCell (p := ⟨g5, k, none⟩) hg5 _
        have HA := Lib.hid (And.intro hX5 (And.intro hY5 hb5))
        clear hX5 hY5 hb5
        go_wp2_with fail
        go_roundw
        case rel => exact ⟨k + 1, by omega, by go_num, HA.out⟩
        case measure => simp [intOf]; omega
      · have t2 : decide (y < x) = false := decide_eq_false hxy
        have hop : min x y = x := by omega
        have HS2 := Lib.hid (HSA.out hop)
        clear hop HSA HST
        go_wp2_with fail
        go_quiet (fail)
        go_wp2_with fail
        go_roundw
        case rel => exact ⟨k + 1, by omega, by go_num, by rw [← HS2.out]; exact HX.out, HY.out, below_drewN hbel nq⟩
        case measure => simp [intOf]; omega
    · have t1 : decide ((k : Int) < 8) = false := decide_eq_false (by omega)
      obtain rfl : k = 8 := by omega
      rw [halfMeet_end] at hX
      have HX := Lib.hid hX
      clear hX
      go_wp2_with (refine wpList_load_row rfl 72 _ rfl g5 rfl 72 (arrI (upto (fun j => min (f j) (g j)) 8)) (0, 0) _ HX.out Try.underlying72 rfl (size8 _ _) ?_)
      refine (rvec_any (fun j => min (f j) (g j)) _ (fun i => by have := hfr i; have := hgr i; omega)).mono ?_
      rintro e w5 ⟨a', cap', rfl, hl, hm, hv, hb5⟩
      rw [← HV2.out] at hl hv ⊢
      go_wp2
      go_ret
      exact ⟨a', cap', rfl, hl, hm, hv.mono hbel.size, below_then hbel hbel.size hb5⟩
end
end Go.Proofs.Ytglabahbklpocaa
