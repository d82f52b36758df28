/- mark.plain: the vector of a list. -/
import Derived.Test.YtglabahbklpocaaGShipMany4
import Derived.Test.YtglabahbklpocaaGShipMany1
import Derived.Deep.DeepCutAuto
import Derived.Deep.CutBlock
import Derived.Deep.AppendLies
namespace Go.Proofs.Ytglabahbklpocaa
section
open Go.RowKit
set_option maxRecDepth 100000
set_option linter.unusedVariables false
set_option linter.unusedSimpArgs false
/-- The list l lies at a, in memory from B on. -/
structure VecAt (w : World) (B : Nat) (a : Option Addr) (l : List Int) : Prop where
  reads : ReadsI .i64 w a l.length l
  own : l = [] ∨ ∃ g, a = some ⟨g, 0, none⟩ ∧ B ≤ g ∧ g < w.heap.size ∧ ∀ j, w.frozen? ⟨g, j, none⟩ = false
theorem VecAt.nil (w : World) (B : Nat) (a : Option Addr) : VecAt w B a [] := ⟨⟨rfl, .inl rfl⟩, .inl rfl⟩
def mixed (ys : List Int) (k : Nat) : List Int := (ys.take k).map cl ++ ys.drop k
theorem mixed_set (ys : List Int) (k : Nat) (h : k < ys.length) : (mixed ys k).set k (cl (ys.getD k 0)) = mixed ys (k + 1) := by
  unfold mixed
  apply List.ext_getElem?
  intro i
  rw [List.getElem?_set]
  simp only [List.getElem?_append, List.length_map, List.length_take, List.getElem?_map, List.getElem?_take, List.getElem?_drop, List.length_append, List.length_drop]
  rcases Nat.lt_trichotomy i k with h1 | h1 | h1
  · rw [if_neg (by omega), if_pos (by omega), if_pos (by omega), if_pos (by omega), if_pos (by omega)]
  · subst h1
    rw [if_pos rfl, if_pos (by omega), if_pos (by omega), if_pos (by omega)]
    simp [List.getD_eq_getElem?_getD, List.getElem?_eq_getElem h]
  · rw [if_neg (by omega), if_neg (by omega), if_neg (by omega)]
    congr 1
    omega
theorem mixed_get (ys : List Int) (k : Nat) (h : k < ys.length) : (mixed ys k)[k]? = some (ys.getD k 0) := by
  unfold mixed
  simp only [List.getElem?_append, List.length_map, List.length_take, List.getElem?_drop]
  rw [if_neg (by omega), List.getD_eq_getElem?_getD]
  simp [show min k ys.length = k by omega, List.getElem?_eq_getElem h]
theorem mixed_all (ys : List Int) : mixed ys ys.length = ys.map cl := by simp [mixed]
theorem mixed_zero (ys : List Int) : mixed ys 0 = ys := by simp [mixed]
theorem mixed_length (ys : List Int) (k : Nat) : (mixed ys k).length = ys.length := by simp [mixed]; omega
theorem trim_cut (l : List Int) (k : Nat) (hk : k + 1 ≤ l.length) (h0 : l.getD k 0 = 0) : trim (l.take (k + 1)) = trim (l.take k) := by
  apply trim_ext
  intro i
  simp only [List.getD_eq_getElem?_getD, List.getElem?_take]
  rcases Nat.lt_trichotomy i k with h1 | h1 | h1
  · rw [if_pos (by omega), if_pos h1]
  · subst h1
    rw [if_pos (by omega), if_neg (by omega)]
    rw [List.getD_eq_getElem?_getD] at h0
    simpa using h0
  · rw [if_neg (by omega), if_neg (by omega)]
theorem trim_full (l : List Int) (h : l = [] ∨ l.getD (l.length - 1) 0 ≠ 0) : trim l = l := by
  rw [trim_take]
  apply List.take_of_length_le
  rcases h with rfl | h
  · simp
  · rw [← trim_getD] at h
    rcases Nat.lt_or_ge (l.length - 1) (trim l).length with h1 | h1
    · omega
    · exact absurd (getD_out h1) h
set_option maxHeartbeats 2000000 in
theorem plain_any (a : Option Addr) (n c : Nat) (xs : List Int) (w : World) (h : ReadsI .i64 w a n xs) (hnc : n ≤ c) (hcb : c ≤ 9223372036854775807) :
    Calls Try.prog 65 #[.slice a n c] w fun e w' => ∃ a', e = .returned (.slice a' (pl xs).length (pl xs).length) ∧ VecAt w' w.heap.size a' (pl xs) ∧ Below w.heap.size w w' := by
  have HR := Lib.hid h
  have hlen := h.1
  clear h
  have hle : (xs.take 8).length = min n 8 := by simp [hlen]; omega
  have HT := Lib.hid (HR.out.take (min n 8) (by omega))
  have htk : xs.take (min n 8) = xs.take 8 := by
    rcases Nat.le_total n 8 with h | h
    · rw [Nat.min_eq_left h, List.take_of_length_le (by omega), List.take_of_length_le (by omega)]
    · rw [Nat.min_eq_right h]
  rw [htk] at HT
  have HP : Hid (pl xs = trim ((xs.take 8).map cl)) := pl_trim xs
  generalize pl xs = P at *
  have hmin : min (n : Int) 8 = ((min n 8 : Nat) : Int) := by omega
  have hm1 : ((min n 8 : Nat) : Int) ≤ (c : Int) := by omega
  have hm2 : ((min n 8 : Nat) : Int) ≤ 8 := by omega
  have hm3 : ((min n 8 : Nat) : Int) ≤ (n : Int) := by omega
  generalize hN : min n 8 = N at *
  go_enter Try.func65, Try.ntmps65
  go_wp2_with fail
  refine (clone_any a N N (xs.take 8) w HT.out (by omega)).mono ?_
  rintro e w1 ⟨v', rfl, how, hb1⟩
  generalize xs.take 8 = ys at *
  subst hle
  clear HT htk hmin hm1 hm3 hN HR
  rcases Nat.eq_zero_or_pos ys.length with h0 | hp
  · obtain rfl : ys = [] := List.eq_nil_of_length_eq_zero h0
    have HP2 : Hid (P = []) := HP.out
    have hsl : ∃ a' c', v' = .slice a' 0 c' := by
      rcases how.2 with ⟨h, _⟩ | ⟨g, cap, cur, h, _⟩
      · exact ⟨none, 0, h⟩
      · exact ⟨_, cap, by rw [h]; rfl⟩
    obtain ⟨a', c', rfl⟩ := hsl
    go_wp2_with fail
    go_loop [16] (fun i => i = .int .i64 0) (fun _ => 0)
    case atStart => rfl
    case round =>
      subst hrel
      go_wp2_with fail
      go_loop [3] (fun i => i = .int .i64 0) (fun _ => 0)
      case atStart => rfl
      case round =>
        subst hrel
        go_wp2_with fail
        go_ret
        rw [HP2.out]
        exact ⟨a', rfl, VecAt.nil _ _ _, hb1⟩
  · obtain ⟨g, cap, rfl, hg, hgl⟩ := how.form hp
    have hcap : ys.length ≤ cap ∧ cap ≤ 9223372036854775807 := by
      rcases how.2 with ⟨h, _⟩ | ⟨g', cap', cur, h, _, _, h3, h4, _⟩
      · simp at h
      · simp only [Value.slice.injEq, Option.some.injEq, Addr.mk.injEq, and_true, true_and] at h
        obtain ⟨rfl, rfl⟩ := h
        exact ⟨h3, h4⟩
    obtain ⟨hcap1, hcap2⟩ := hcap
    have HO := Lib.hid how
    clear how
    have HC1 := Lib.hid hcap1
    go_wp2_with fail
    go_loopw [16, 4, 5] (fun i _ _ wr => ∃ k : Nat, k ≤ ys.length ∧ i = .int .i64 k ∧ wr.ownsRow w.heap.size 3 1 (.slice (some ⟨g, 0, none⟩) ys.length cap) ys.length ((mixed ys k).map (Value.int .i64)) ∧ Below w.heap.size w wr) (fun i _ _ _ => 9 - (intOf i).toNat)
    case atStart => exact ⟨0, by omega, rfl, by rw [mixed_zero]; exact HO.out, hb1⟩
    case round =>
      obtain ⟨k, hk, rfl, hown, hbel⟩ := hrel
      have HW := Lib.hid hown
      clear hown
      by_cases hlt : k < ys.length
      · have t1 : decide (k < ys.length) = true := decide_eq_true hlt
        have hcell : wr.cell? ⟨g, k, none⟩ = some (.int .i64 (ys.getD k 0)) := by
          rw [HW.out.cellAt k (by omega), List.getElem?_map, mixed_get ys k hlt]; rfl
        have hfz : wr.frozen? ⟨g, k, none⟩ = false := HW.out.frozenAt k
        have HS := Lib.hid (HW.out.stored k (.int .i64 (cl (ys.getD k 0))))
        have HM := Lib.hid (mixed_set ys k hlt)
        have HCL : Hid (cl (ys.getD k 0) = min (max (ys.getD k 0) 0) 1099511627776) := rfl
        have i1 : (0 : Int) ≤ (k : Int) := by omega
        have i2 : (k : Int) < (ys.length : Int) := by omega
        have hkb : k ≤ 8 := by omega
        generalize ys.getD k 0 = y at *
        go_wp2_with fail
        go_roundw
        case rel =>
          refine ⟨k + 1, by omega, by go_num, ?_, ?_⟩
          · have := HS.out.1
            rw [← List.map_set, HM.out, HCL.out] at this
            exact this
          · have := HS.out.2
            rw [HCL.out] at this
            exact hbel.grown this hbel.size (fun j hj => by cases hj; exact hg)
        case measure => simp [intOf]; omega
      · have t1 : decide (k < ys.length) = false := decide_eq_false hlt
        have : k = ys.length := by omega
        subst this
        rw [mixed_all] at HW
        have hcells : Hid (∀ j, j < ys.length → wr.cell? ⟨g, j, none⟩ = some (.int .i64 ((ys.map cl).getD j 0))) := fun j hj => by
          rw [HW.out.cellAt j (by omega), List.getElem?_map, List.getElem?_map, List.getD_eq_getElem?_getD, List.getElem?_map, List.getElem?_eq_getElem hj]; rfl
        have hfr : Hid (∀ j, wr.frozen? ⟨g, j, none⟩ = false) := fun j => HW.out.frozenAt j
        have hglt : g < wr.heap.size := (HW.out.lt g rfl).2
        clear HW
        have hzl : (ys.map cl).length = ys.length := List.length_map _
        generalize ys.map cl = zs at *
        generalize hL : ys.length = L at *
        go_wp2_with fail
        go_loop [3] (fun i => ∃ k : Nat, k ≤ L ∧ i = .int .i64 k ∧ P = trim (zs.take k)) (fun i => (intOf i).toNat)
        case atStart => exact ⟨L, by omega, rfl, by rw [List.take_of_length_le (by omega)]; exact HP.out⟩
        case round =>
          obtain ⟨k, hk, rfl, hpk⟩ := hrel
          have HPK := Lib.hid hpk
          clear hpk
          have fin : (k = 0 ∨ zs.getD (k - 1) 0 ≠ 0) → P.length = k ∧ VecAt wr w.heap.size (some ⟨g, 0, none⟩) P := fun h => by
            have e1 : P = zs.take k := by
              rw [HPK.out]
              apply trim_full
              rcases h with rfl | h
              · left; simp
              · rcases Nat.eq_zero_or_pos k with h0 | hp
                · left; subst h0; simp
                · right
                  rw [List.length_take, Nat.min_eq_left (by omega), List.getD_eq_getElem?_getD, List.getElem?_take, if_pos (by omega), ← List.getD_eq_getElem?_getD]
                  exact h
            have e2 : P.length = k := by rw [e1, List.length_take]; omega
            refine ⟨e2, ⟨⟨rfl, .inr ⟨g, 0, rfl, hglt, fun j hj => ?_⟩⟩, .inr ⟨g, rfl, hg, hglt, hfr.out⟩⟩⟩
            rw [Nat.zero_add, hcells.out j (by omega), e1, List.getD_eq_getElem?_getD, List.getD_eq_getElem?_getD, List.getElem?_take, if_pos (by omega)]
          have FIN := Lib.hid fin
          clear fin
          have hkc : (k : Int) ≤ (cap : Int) := by omega
          have hkc2 : (k : Int) ≤ (L : Int) := by omega
          rcases Nat.eq_zero_or_pos k with h0 | hpos
          · have t2 : decide (0 < k) = false := decide_eq_false (by omega)
            obtain ⟨f1, f2⟩ := FIN.out (.inl h0)
            have FV := Lib.hid f2
            clear f2
            go_wp2_with fail
            go_ret
            exact ⟨_, rfl, FV.out, hbel⟩
          · have t2 : decide (0 < k) = true := decide_eq_true hpos
            have hc := hcells.out (k - 1) (by omega)
            have hk1 : ((k - 1 : Nat) : Int) = (k : Int) - 1 := by omega
            have hk2 : ((k : Int) - 1).toNat = k - 1 := by omega
            by_cases hz : zs.getD (k - 1) 0 = 0
            · have t3 : (zs.getD (k - 1) 0 == 0) = true := beq_iff_eq.2 hz
              have HCut := Lib.hid (trim_cut zs (k - 1) (by omega) hz)
              generalize zs.getD (k - 1) 0 = z at *
              go_wp2_with fail
              go_round
              case rel => exact ⟨k - 1, by omega, by rw [hk1], by rw [HPK.out, ← HCut.out, show k - 1 + 1 = k by omega]⟩
              case measure => simp [intOf]; omega
            · have t3 : (zs.getD (k - 1) 0 == 0) = false := beq_eq_false_iff_ne.2 hz
              obtain ⟨f1, f2⟩ := FIN.out (.inr hz)
              have FV := Lib.hid f2
              clear f2
              generalize zs.getD (k - 1) 0 = z at *
              go_wp2_with fail
              go_ret
              exact ⟨_, rfl, FV.out, hbel⟩
end
end Go.Proofs.Ytglabahbklpocaa
