/- The reference's Join. (Printed by wip/rjoin.py.) A script of ship's chapter among the arguments; few; a row of four vectors. -/
import Derived.Test.YtglabahbklpocaaGShipPeers13
import Derived.Deep.WholeRow
import Derived.Test.YtglabahbklpocaaGShipPeers40
import Derived.Test.YtglabahbklpocaaGShipPeers43
import Derived.Test.YtglabahbklpocaaGShipPeers23
import Derived.Test.YtglabahbklpocaaGShipPeers26
import Derived.Test.YtglabahbklpocaaGShipPeers29
namespace Go.Proofs.Ytglabahbklpocaa
section
open Go.RowKit
set_option maxRecDepth 100000
set_option linter.unusedVariables false
set_option linter.unusedSimpArgs false
/-- The first k are reckoned. -/
def halfJoin (f g : Nat → Int) (k : Nat) : Nat → Int := fun j => if j < k then max (f j) (g j) else f j
theorem halfJoin_step (f g : Nat → Int) (k : Nat) : (upto (halfJoin f g k) 8).set k (max (f k) (g k)) = upto (halfJoin f g (k + 1)) 8 := by
  rw [upto_eight, upto_eight]
  apply List.ext_getElem?
  intro i
  rw [List.getElem?_set]
  simp only [List.length_map, List.length_range, List.getElem?_map]
  by_cases h8 : i < 8
  · rcases Nat.lt_trichotomy i k with h1 | h1 | h1
    · rw [if_neg (by omega)]; simp [h8, halfJoin, h1, show i < k + 1 by omega]
    · subst h1; simp [h8, halfJoin]
    · rw [if_neg (by omega)]; simp [h8, halfJoin, show ¬ i < k by omega, show ¬ i < k + 1 by omega]
  · by_cases hk : k = i
    · subst hk; simp [h8]
    · rw [if_neg hk]; simp [h8]
theorem halfJoin_same (f g : Nat → Int) (k : Nat) (h : max (f k) (g k) = f k) : upto (halfJoin f g k) 8 = upto (halfJoin f g (k + 1)) 8 := by
  rw [upto_eight, upto_eight]
  apply List.map_congr_left
  intro i hi
  unfold halfJoin
  rcases Nat.lt_trichotomy i k with h1 | h1 | h1
  · rw [if_pos h1, if_pos (by omega)]
  · subst h1; rw [if_neg (by omega), if_pos (by omega), h]
  · rw [if_neg (by omega), if_neg (by omega)]
theorem halfJoin_getD (f g : Nat → Int) (k : Nat) (h : k < 8) : (upto (halfJoin f g k) 8).getD k 0 = f k := by
  rw [upto_eight, List.getD_eq_getElem?_getD]; simp [h, halfJoin]
theorem halfJoin_zero (f g : Nat → Int) : halfJoin f g 0 = f := by funext j; simp [halfJoin]
theorem halfJoin_end (f g : Nat → Int) : upto (halfJoin f g 8) 8 = upto (fun j => max (f j) (g j)) 8 := by
  rw [upto_eight, upto_eight]
  apply List.map_congr_left
  intro i hi
  simp at hi
  simp [halfJoin, hi]
set_option maxHeartbeats 4000000 in
theorem rjoin_any (a1 a2 : Option Addr) (n1 c1 n2 c2 : Nat) (xs ys : List Int) (w : World) (h1 : ReadsI .i64 w a1 n1 xs) (h2 : ReadsI .i64 w a2 n2 ys) (hc1 : n1 ≤ c1) (hb1 : c1 ≤ 9223372036854775807) (hc2 : n2 ≤ c2) (hb2 : c2 ≤ 9223372036854775807) :
    Calls Try.prog 25 #[.slice a1 n1 c1, .slice a2 n2 c2] w fun e w' => ∃ a' cap', e = .returned (.slice a' (joinV xs ys).length cap') ∧ (joinV xs ys).length ≤ cap' ∧ cap' ≤ 9223372036854775807 ∧ VecAt w' w.heap.size a' (joinV xs ys) ∧ Below w.heap.size w w' := by
  obtain ⟨V, HV⟩ : ∃ V, Hid (V = joinV xs ys) := ⟨_, rfl⟩
  rw [← HV.out]
  have H2 := Lib.hid h2
  clear h2
  go_enter Try.func25, Try.ntmps25
  go_wp2_with fail
  refine (rall_any a1 n1 c1 xs w h1 hc1 hb1).mono ?_
  rintro e w1 ⟨rfl, hbw1⟩
  go_wp2_with (refine wpList_store_row rfl 72 _ _ rfl w1.heap.size (arrI (upto (nm xs) 8)) rfl rfl 72 _ (heap_alloc_new w1 _) (size8 _ _) (by rw [arrI_size, upto_length]; rfl) (arrI_one _) ?_)
  rw [World.setRow_alloc_new]
  have hX1 : ArrAt (w1.alloc (.cells (arrI (upto (nm xs) 8)) 72)) 72 w1.heap.size (upto (nm xs) 8) := heap_alloc_new w1 _
  have hb1' : Below w.heap.size w (w1.alloc (.cells (arrI (upto (nm xs) 8)) 72)) := hbw1.alloc hbw1.size _
  have hg5 : w.heap.size ≤ w1.heap.size := hbw1.size
  generalize w1.alloc (.cells (arrI (upto (nm xs) 8)) 72) = w2 at *
  refine (rall_any a2 n2 c2 ys w2 (H2.out.below hb1') hc2 hb2).mono ?_
  rintro e w3 ⟨rfl, hbw3⟩
  have hX3 := hX1.below hbw3
  have hb3' := below_then hb1' hb1'.size hbw3
  clear hX1 hb1' hbw3 hbw1
  go_wp2_with (refine wpList_store_row rfl 72 _ _ rfl w3.heap.size (arrI (upto (nm ys) 8)) rfl rfl 72 _ (heap_alloc_new w3 _) (size8 _ _) (by rw [arrI_size, upto_length]; rfl) (arrI_one _) ?_)
  rw [World.setRow_alloc_new]
  have hY4 : ArrAt (w3.alloc (.cells (arrI (upto (nm ys) 8)) 72)) 72 w3.heap.size (upto (nm ys) 8) := heap_alloc_new w3 _
  have hX4 : ArrAt (w3.alloc (.cells (arrI (upto (nm ys) 8)) 72)) 72 w1.heap.size (upto (nm xs) 8) := hX3.below ((Below.refl _ _).alloc (Nat.le_refl _) _)
  have hb4 : Below w.heap.size w (w3.alloc (.cells (arrI (upto (nm ys) 8)) 72)) := hb3'.alloc hb3'.size _
  have hne : w1.heap.size ≠ w3.heap.size := Nat.ne_of_lt hX3.lt
  clear hX3 hb3'
  generalize w3.alloc (.cells (arrI (upto (nm ys) 8)) 72) = w4 at *
  generalize w1.heap.size = g5 at *
  generalize w3.heap.size = g6 at *
  have hfr := fun i => nm_range xs i
  have hgr := fun i => nm_range ys i
  have HV2 : Hid (V = vec fun j => max (nm xs j) (nm ys j)) := HV.out
  clear HV
  generalize nm xs = f at *
  generalize nm ys = g at *
  have INIT := Lib.hid (And.intro hX4 (And.intro hY4 hb4))
  clear hX4 hY4 hb4
  go_loopw [7] (fun i wr => ∃ k : Nat, k ≤ 8 ∧ i = .int .i64 k ∧ ArrAt wr 72 g5 (upto (halfJoin f g k) 8) ∧ ArrAt wr 72 g6 (upto g 8) ∧ Below w.heap.size w wr) (fun i _ => 9 - (intOf i).toNat)
  case atStart => exact ⟨0, by omega, rfl, by rw [halfJoin_zero]; exact INIT.out.1, INIT.out.2⟩
  case round =>
    obtain ⟨k, hk, rfl, hX, hY, hbel⟩ := hrel
    by_cases hlt : k < 8
    · have t1 : decide ((k : Int) < 8) = true := decide_eq_true (by omega)
      have i1 : (0 : Int) ≤ (k : Int) := by omega
      have i2 : (k : Int) < 8 := by omega
      have hxc := hX.cell k (by rw [upto_length]; exact hlt)
      have hyc := hY.cell k (by rw [upto_length]; exact hlt)
      have hxf := hX.fz k
      rw [halfJoin_getD f g k hlt] at hxc
      have hgk : (upto g 8).getD k 0 = g k := by rw [upto_eight, List.getD_eq_getElem?_getD]; simp [hlt]
      rw [hgk] at hyc
      clear hgk
      have HX := Lib.hid hX
      have HY := Lib.hid hY
      clear hX hY
      have HST := Lib.hid (halfJoin_step f g k)
      have HSA := Lib.hid (halfJoin_same f g k)
      generalize f k = x at *
      generalize g k = y at *
      by_cases hxy : x < y
      · have t2 : decide (x < y) = true := decide_eq_true hxy
        have hop : max x y = y := by omega
        rw [hop] at HST
        clear hop HSA
        go_wp2_with fail
        go_quiet (fail)
        have hX5 : ArrAt ((wr.drewN nq).setCell ⟨g5, k, none⟩ (.int .i64 y)) 72 g5 (upto (halfJoin f g (k + 1)) 8) := by
          have h : ArrAt (wr.drewN nq) 72 g5 (upto (halfJoin f g k) 8) := HX.out
          have := h.set k y
          rw [HST.out] at this
          exact this
        have hY5 : ArrAt ((wr.drewN nq).setCell ⟨g5, k, none⟩ (.int .i64 y)) 72 g6 (upto g 8) := by
          unfold ArrAt
          rw [Below.heap_setCell _ _ _ _ (Ne.symm hne)]
          exact HY.out
        have hb5 : Below w.heap.size w ((wr.drewN nq).setCell ⟨g5, k, none⟩ (.int .i64 y)) := (below_drewN hbel nq).setCell (p := ⟨g5, k, none⟩) hg5 _
        have HA := Lib.hid (And.intro hX5 (And.intro hY5 hb5))
        clear hX5 hY5 hb5
        go_wp2_with fail
        go_roundw
        case rel => exact ⟨k + 1, by omega, by go_num, HA.out⟩
        case measure => simp [intOf]; omega
      · have t2 : decide (x < y) = false := decide_eq_false hxy
        have hop : max x y = x := by omega
        have HS2 := Lib.hid (HSA.out hop)
        clear hop HSA HST
        go_wp2_with fail
        go_quiet (fail)
        go_wp2_with fail
        go_roundw
        case rel => exact ⟨k + 1, by omega, by go_num, by rw [← HS2.out]; exact HX.out, HY.out, below_drewN hbel nq⟩
        case measure => simp [intOf]; omega
    · have t1 : decide ((k : Int) < 8) = false := decide_eq_false (by omega)
      obtain rfl : k = 8 := by omega
      rw [halfJoin_end] at hX
      have HX := Lib.hid hX
      clear hX
      go_wp2_with (refine wpList_load_row rfl 72 _ rfl g5 rfl 72 (arrI (upto (fun j => max (f j) (g j)) 8)) (0, 0) _ HX.out Try.underlying72 rfl (size8 _ _) ?_)
      refine (rvec_any (fun j => max (f j) (g j)) _ (fun i => by have := hfr i; have := hgr i; omega)).mono ?_
      rintro e w5 ⟨a', cap', rfl, hl, hm, hv, hb5⟩
      rw [← HV2.out] at hl hv ⊢
      go_wp2
      go_ret
      exact ⟨a', cap', rfl, hl, hm, hv.mono hbel.size, below_then hbel hbel.size hb5⟩
end
end Go.Proofs.Ytglabahbklpocaa
namespace Go.Proofs.Ytglabahbklpocaa
section
open Go.RowKit Go.Deep Go.ChangeShapes Go.WideShapes Go.Joins
set_option maxRecDepth 100000
set_option linter.unusedVariables false
set_option linter.unusedSimpArgs false
attribute [local go_sem ↓] Go.wp_at_zero Go.wp_at_succ
/-- A call of a script. -/
structure HOp where
  kind : Int
  site : Int
  n : Int
  v : Sl
  vs : List Int
def HOp.cs (o : HOp) : List Value := [.int .i64 o.kind, .int .i64 o.site, .int .i64 o.n, .slice o.v.a o.v.n o.v.c]
structure HOp.ok (w : World) (o : HOp) : Prop where
  kind : i64' o.kind
  site : i64' o.site
  n : i64' o.n
  v : SlR w o.v o.vs
def hopL : List Leaf := [.int .i64, .int .i64, .int .i64, .sl 26 3]
theorem hop_leaves : leaves Try.prog 6 34 = some hopL := by kernel_rfl
def IsHOps (w : World) (v : Value) (xs : List HOp) : Prop := IsEs HOp.cs 4 (HOp.ok w) w v xs
theorem open_isHOps {H : Type} {enc : TypeId × Value → H} {W : World} {r : Reach} {b0 : Nat} {v : Value} {d : DataW H} {ps : List MemPlace}
    (hval : Value.okWide Try.prog W r b0 30 v) (hd : DataW.Trod enc Try.prog W 0 (fun _ => true) true 30 v d ps) : ∃ xs, IsHOps W v xs := by
  refine open_isEs HOp.cs 4 (HOp.ok W) 6 hopL (fun l hl => ?_) rfl (by decide) Try.underlying30 hop_leaves (by kernel_rfl) hval hd
  have hln := fits_len hl
  match l, hln with
  | [v0, v1, v2, v3], _ =>
    obtain ⟨⟨n0, rfl, w0⟩, ⟨n1, rfl, w1⟩, ⟨n2, rfl, w2⟩, hs, _⟩ := hl
    obtain ⟨xs, a, n, c, rfl, h1, h2, h3, _⟩ := leaf_ints hs
    exact ⟨⟨n0, n1, n2, ⟨a, n, c⟩, xs⟩, rfl, i64_of w0, i64_of w1, i64_of w2, ⟨h3, h1, h2⟩⟩
theorem few19_any (d : Sl) (xs : List Int) (w : World) (h : SlR w d xs) : Calls Try.prog 13 #[.slice d.a d.n d.c] w fun e w' => e = .returned (.slice d.cut.a d.cut.n d.cut.c) ∧ w = w' := by
  have hnc := h.nc
  have hcb := h.cb
  by_cases h12 : 12 < d.n
  · have ha : ∃ b o, d.a = some ⟨b, o, none⟩ := by
      rcases h.r.2 with h2 | ⟨b, o, e1, _⟩
      · omega
      · exact ⟨b, o, e1⟩
    obtain ⟨b, o, ha⟩ := ha
    have t1 : decide (12 < (d.n : Int)) = true := decide_eq_true (by omega)
    have i1 : (12 : Int) ≤ (d.c : Int) := by omega
    have i2 : (12 : Int) ≤ (d.n : Int) := by omega
    have hc : d.cut = ⟨d.a, 12, d.c⟩ := by unfold Sl.cut; rw [if_pos h12]
    rw [hc]
    simp only
    rw [ha]
    clear hc ha
    go_enter Try.func13, Try.ntmps13
    go_wp2_with fail
    go_ret
    exact ⟨rfl, rfl⟩
  · have t1 : decide (12 < (d.n : Int)) = false := decide_eq_false (by omega)
    have hc : d.cut = d := by unfold Sl.cut; rw [if_neg h12]
    rw [hc]
    clear hc
    go_enter Try.func13, Try.ntmps13
    go_wp2_with fail
    go_ret
    exact ⟨rfl, rfl⟩
theorem hops_at {w : World} {a : Option Addr} {n : Nat} {xs : List HOp} (h : ReadsE HOp.cs 4 w a n xs) (k : Nat) (hk : k < n) : ∃ b o x, a = some ⟨b, o, none⟩ ∧ xs[k]? = some x ∧ ∀ wx, Below w.heap.size w wx → CellsAt wx b (o + k * 4) x.cs := by
  obtain ⟨b, o, x, e, hl, hx, hC⟩ := h.at (Below.refl _ _) k hk
  exact ⟨b, o, x, e, hx, fun wx hb => hC.below hb hl⟩
end
end Go.Proofs.Ytglabahbklpocaa
