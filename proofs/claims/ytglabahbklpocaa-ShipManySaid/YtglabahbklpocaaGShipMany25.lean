/- mark.With: another number for a site. The reference's Covers, Compare, With. slices.Clone of records; a log in memory. -/
import Derived.Test.YtglabahbklpocaaGShipMany9
import Derived.Test.YtglabahbklpocaaGShipMany7
import Derived.Deep.DeepCutAuto
import Derived.Deep.CutBlock
import Derived.Test.YtglabahbklpocaaGShipMany10
import Derived.Deep.WholeRow
import Derived.Test.YtglabahbklpocaaGShipMany23
import Derived.Test.YtglabahbklpocaaGShipMany4
import Derived.Test.YtglabahbklpocaaGShipMany24
import Derived.Lib.SliceRun
namespace Go.Proofs.Ytglabahbklpocaa
section
open Go.RowKit
set_option maxRecDepth 100000
set_option linter.unusedVariables false
set_option linter.unusedSimpArgs false
theorem VecAt.stored {w : World} {B g : Nat} {l : List Int} (h : VecAt w B (some ⟨g, 0, none⟩) l) (i : Nat) (hi : i < l.length) (x : Int) : ReadsI .i64 (w.setCell ⟨g, i, none⟩ (.int .i64 x)) (some ⟨g, 0, none⟩) l.length (l.set i x) := by
  obtain ⟨g', e, _, hlt, hc, _⟩ := h.cell i hi
  obtain rfl : g = g' := by simpa using e
  refine ⟨by simp, .inr ⟨g, 0, rfl, by simpa using hlt, fun j hj => ?_⟩⟩
  rw [Nat.zero_add]
  by_cases hij : i = j
  · subst hij
    rw [World.cell?_setCell_same _ _ _ hc, List.getD_eq_getElem?_getD, List.getElem?_set_self hi]
    rfl
  · rw [World.cell?_setCell_other _ _ _ _ (by simp [hij])]
    obtain ⟨g', e, _, _, hc2, _⟩ := h.cell j hj
    obtain rfl : g = g' := by simpa using e
    rw [hc2, List.getD_eq_getElem?_getD, List.getD_eq_getElem?_getD, List.getElem?_set_ne hij]
/-- What the vector of a longer list with another number is. -/
theorem pl_with (xs : List Int) (k : Nat) (s : Nat) (hs : s < 8) (n : Int) (hl : s < (pl xs ++ List.replicate k 0).length) : pl ((pl xs ++ List.replicate k 0).set s n) = withV xs s n := by
  unfold withV
  apply vec_ext
  intro i hi
  unfold nm
  rw [List.getD_eq_getElem?_getD, List.getElem?_set]
  by_cases h : s = i
  · subst h
    rw [if_pos rfl, if_pos hl, if_pos rfl]
    rfl
  · rw [if_neg h, if_neg (by omega)]
    have e : (pl xs ++ List.replicate k 0)[i]?.getD 0 = (pl xs).getD i 0 := by
      rw [List.getD_eq_getElem?_getD, List.getElem?_append]
      split
      · rfl
      · rename_i h2
        rw [List.getElem?_eq_none (Nat.le_of_not_lt h2)]
        rw [List.getElem?_replicate]
        split <;> rfl
    rw [e, pl_getD, if_pos hi]
    exact cl_id (nm_range xs i).1 (nm_range xs i).2
theorem withV_out (xs : List Int) (s n : Int) (h : s < 0 ∨ 8 ≤ s) : withV xs s n = pl xs := vec_ext fun i hi => if_neg (by omega)
theorem withV_length (xs : List Int) (s n : Int) : (withV xs s n).length ≤ 8 := vec_length _
end
end Go.Proofs.Ytglabahbklpocaa
namespace Go.Proofs.Ytglabahbklpocaa
section
open Go.RowKit
set_option maxRecDepth 100000
set_option linter.unusedVariables false
set_option linter.unusedSimpArgs false
set_option maxHeartbeats 4000000 in
theorem rcovers_any (a1 a2 : Option Addr) (n1 c1 n2 c2 : Nat) (xs ys : List Int) (w : World) (h1 : ReadsI .i64 w a1 n1 xs) (h2 : ReadsI .i64 w a2 n2 ys) (hc1 : n1 ≤ c1) (hb1 : c1 ≤ 9223372036854775807) (hc2 : n2 ≤ c2) (hb2 : c2 ≤ 9223372036854775807) :
    Calls Try.prog 26 #[.slice a1 n1 c1, .slice a2 n2 c2] w fun e w' => e = .returned (.bool (covV xs ys)) ∧ Below w.heap.size w w' := by
  obtain ⟨V, HV⟩ : ∃ V, Hid (V = covV xs ys) := ⟨_, rfl⟩
  rw [← HV.out]
  have H2 := Lib.hid h2
  clear h2
  go_enter Try.func26, Try.ntmps26
  go_wp2_with fail
  refine (rall_any a1 n1 c1 xs w h1 hc1 hb1).mono ?_
  rintro e w1 ⟨rfl, hbw1⟩
  go_wp2_with (refine wpList_store_row rfl 72 _ _ rfl w1.heap.size (arrI (upto (nm xs) 8)) rfl rfl 72 _ (heap_alloc_new w1 _) (size8 _ _) (by rw [arrI_size, upto_length]; rfl) (arrI_one _) ?_)
  rw [World.setRow_alloc_new]
  have hX1 : ArrAt (w1.alloc (.cells (arrI (upto (nm xs) 8)) 72)) 72 w1.heap.size (upto (nm xs) 8) := heap_alloc_new w1 _
  have hb1' : Below w.heap.size w (w1.alloc (.cells (arrI (upto (nm xs) 8)) 72)) := hbw1.alloc hbw1.size _
  have hg5 : w.heap.size ≤ w1.heap.size := hbw1.size
  generalize w1.alloc (.cells (arrI (upto (nm xs) 8)) 72) = w2 at *
  refine (rall_any a2 n2 c2 ys w2 (H2.out.below hb1') hc2 hb2).mono ?_
  rintro e w3 ⟨rfl, hbw3⟩
  have hX3 := hX1.below hbw3
  have hb3' := below_then hb1' hb1'.size hbw3
  clear hX1 hb1' hbw3 hbw1
  go_wp2_with (refine wpList_store_row rfl 72 _ _ rfl w3.heap.size (arrI (upto (nm ys) 8)) rfl rfl 72 _ (heap_alloc_new w3 _) (size8 _ _) (by rw [arrI_size, upto_length]; rfl) (arrI_one _) ?_)
  rw [World.setRow_alloc_new]
  have hY4 : ArrAt (w3.alloc (.cells (arrI (upto (nm ys) 8)) 72)) 72 w3.heap.size (upto (nm ys) 8) := heap_alloc_new w3 _
  have hX4 : ArrAt (w3.alloc (.cells (arrI (upto (nm ys) 8)) 72)) 72 w1.heap.size (upto (nm xs) 8) := hX3.below ((Below.refl _ _).alloc (Nat.le_refl _) _)
  have hb4 : Below w.heap.size w (w3.alloc (.cells (arrI (upto (nm ys) 8)) 72)) := hb3'.alloc hb3'.size _
  have hne : w1.heap.size ≠ w3.heap.size := Nat.ne_of_lt hX3.lt
  clear hX3 hb3'
  generalize w3.alloc (.cells (arrI (upto (nm ys) 8)) 72) = w4 at *
  generalize w1.heap.size = g5 at *
  generalize w3.heap.size = g6 at *
  have hfr := fun i => nm_range xs i
  have hgr := fun i => nm_range ys i
  have HV2 : Hid (V = true ↔ ∀ i, i < 8 → nm ys i ≤ nm xs i) := by
    show _ ↔ _
    rw [HV.out]
    exact covV_true xs ys
  clear HV
  generalize nm xs = f at *
  generalize nm ys = g at *
  have INIT := Lib.hid (And.intro hX4 (And.intro hY4 hb4))
  clear hX4 hY4 hb4
  go_loopw [7] (fun i wr => ∃ k : Nat, k ≤ 8 ∧ i = .int .i64 k ∧ ArrAt wr 72 g5 (upto f 8) ∧ ArrAt wr 72 g6 (upto g 8) ∧ (∀ j, j < k → g j ≤ f j) ∧ Below w.heap.size w wr) (fun i _ => 9 - (intOf i).toNat)
  case atStart => exact ⟨0, by omega, rfl, INIT.out.1, INIT.out.2.1, fun j hj => by omega, INIT.out.2.2⟩
  case round =>
    obtain ⟨k, hk, rfl, hX, hY, hle, hbel⟩ := hrel
    have HLE := Lib.hid hle
    clear hle
    by_cases hlt : k < 8
    · have t1 : decide ((k : Int) < 8) = true := decide_eq_true (by omega)
      have i1 : (0 : Int) ≤ (k : Int) := by omega
      have i2 : (k : Int) < 8 := by omega
      have hxc := hX.cell k (by rw [upto_length]; exact hlt)
      have hyc := hY.cell k (by rw [upto_length]; exact hlt)
      have hxf := hX.fz k
      have hfk : (upto f 8).getD k 0 = f k := by rw [upto_eight, List.getD_eq_getElem?_getD]; simp [hlt]
      rw [hfk] at hxc
      clear hfk
      have hgk : (upto g 8).getD k 0 = g k := by rw [upto_eight, List.getD_eq_getElem?_getD]; simp [hlt]
      rw [hgk] at hyc
      clear hgk
      have HX := Lib.hid hX
      have HY := Lib.hid hY
      clear hX hY
      by_cases hxy : f k < g k
      · have t2 : decide (f k < g k) = true := decide_eq_true hxy
        have hV : Hid (V = false) := by
          show _ = _
          cases hV : V with
          | false => rfl
          | true => exact absurd (HV2.out.1 hV k hlt) (by omega)
        generalize f k = x at *
        generalize g k = y at *
        go_wp2_with fail
        go_quiet (fail)
        go_wp2_with fail
        go_ret
        exact ⟨by rw [hV.out]; rfl, below_drewN hbel nq⟩
      · have t2 : decide (f k < g k) = false := decide_eq_false hxy
        have HL2 : Hid (∀ j, j < k + 1 → g j ≤ f j) := fun j hj => by
          rcases Nat.lt_or_ge j k with h | h
          · exact HLE.out j h
          · obtain rfl : j = k := by omega
            omega
        generalize f k = x at *
        generalize g k = y at *
        go_wp2_with fail
        go_quiet (fail)
        go_wp2_with fail
        go_roundw
        case rel => exact ⟨k + 1, by omega, by go_num, HX.out, HY.out, HL2.out, below_drewN hbel nq⟩
        case measure => simp [intOf]; omega
    · have t1 : decide ((k : Int) < 8) = false := decide_eq_false (by omega)
      obtain rfl : k = 8 := by omega
      have hV : Hid (V = true) := HV2.out.2 fun i hi => HLE.out i hi
      go_wp2_with fail
      go_ret
      exact ⟨by rw [hV.out]; rfl, hbel⟩
end
end Go.Proofs.Ytglabahbklpocaa
namespace Go.Proofs.Ytglabahbklpocaa
section
open Go.RowKit Go.Deep
set_option maxRecDepth 100000
set_option linter.unusedVariables false
set_option linter.unusedSimpArgs false
attribute [local go_sem ↓] Go.wp_at_zero Go.wp_at_succ
theorem appE_zero {α : Type} {cs : α → List Value} {T : TypeId} {sz : Nat} (w : World) (B : Nat) (hB : B ≤ w.heap.size) : AppE cs T sz (w.alloc (.cells #[] T)) B (some ⟨w.heap.size, 0, none⟩) 0 0 [] :=
  ⟨rfl, Nat.le_refl _, by unfold maxLen; omega, by simp, .inr ⟨w.heap.size, 0, #[], rfl, hB, heap_alloc_new w _, Nat.le_refl _, by unfold maxLen; omega, by simp, by simp⟩⟩
/-- Appending any elements to a slice of one's own, given their cells. -/
theorem wpList_append_A {α : Type} {cs : α → List Value} {S T : TypeId} {sz by_ : Nat} {z : Value} (E : Ety cs S T sz by_ z) {ops : Array Oper} {rest : List Oper} {o : Oper} {act : Act} {Q : Exit → Act → World → Prop} (hgd : o.guard = none) (s x : Operand)
    (ho : o.op = .call { callee := .builtin .append, args := #[s, x], argTypes := #[S, S] }) (w : World) (B : Nat) (a : Option Addr) (n cap : Nat) (l : List α) (hs : act.eval s = .slice a n cap) (h : AppE cs T sz w B a n cap l) (hB : B ≤ w.heap.size)
    (g : Addr) (m c : Nat) (ys : List α) (hn : n + m ≤ 100000) (hm : ys.length = m) (hx : act.eval x = .slice (some g) m c) (hy : ∀ j u, (ys.flatMap cs)[j]? = some u → w.cell? (g.add j) = some u)
    (hK : ∀ a' cap' w', AppE cs T sz w' B a' (n + m) cap' (l ++ ys) → Below B w w' → wpList Try.prog ops Q rest (act.put o.dst (.slice a' (n + m) cap')) w') : wpList Try.prog ops Q (o :: rest) act w := by
  refine wpList_plain hgd fun K hK' => ?_
  obtain ⟨i, hi, hii⟩ := Option.map_eq_some_iff.1 E.info
  simp only [Prod.mk.injEq] at hii
  obtain ⟨hz, hsize, hby⟩ := hii
  obtain ⟨v', w', hr, hown, hg, hnil⟩ := run_append_own (P := Try.prog) w B S o.type T i z sz by_ E.hS hi hz hsize hby E.hz E.pos _ n _ h.row g m c (ys.flatMap cs) (by rw [flat_len E.len, hm]) hy (by
    intro u hu
    obtain ⟨x, _, hx⟩ := List.mem_flatMap.1 hu
    exact E.one x u hx) (by unfold maxLen; omega) (by
      have := E.bmax
      have : (n + m) * by_ ≤ 100000 * 1000 := Nat.mul_le_mul hn this
      omega) hB
  have hform : ∃ a' cap', v' = .slice a' (n + m) cap' ∧ n + m ≤ cap' ∧ cap' ≤ maxLen := by
    rcases hown.2 with ⟨rfl, e⟩ | ⟨g', c', cur, rfl, _, _, h3, h4, _⟩
    · exact ⟨none, 0, by rw [e], by omega, by unfold maxLen; omega⟩
    · exact ⟨_, c', rfl, h3, h4⟩
  obtain ⟨a', cap', rfl, hc1, hc2⟩ := hform
  unfold Oper.wp
  simp [execOp, ho, resolve, invoke, builtin, hs, hx, hr, Result.andThen]
  exact hK' _ _ (hK a' cap' w' ⟨by rw [List.length_append, h.len, hm], hc1, hc2, by rw [List.flatMap_append]; exact hown⟩ ((Below.refl B w).grown hg hB fun k hk => (h.row.lt k hk).1))
end
end Go.Proofs.Ytglabahbklpocaa
