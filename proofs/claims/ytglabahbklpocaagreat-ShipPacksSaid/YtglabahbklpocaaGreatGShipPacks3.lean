/- mark.plain: the vector of a list. The vectors of the package mark: At, each, Join, Meet, Covers, Compare, Right. mark.each with the inner function of mark.Join. (Printed by wip/meach.py.) mark.each with the inner function of mark.Meet. (Printed by wip/meach.py.) -/
import Derived.Test.YtglabahbklpocaaGreatGShipPacks2
import Derived.Deep.DeepCutAuto
import Derived.Deep.CutBlock
import Derived.Deep.AppendLies
namespace Go.Proofs.YtglabahbklpocaaGreat
section
open Go.RowKit
set_option maxRecDepth 100000
set_option linter.unusedVariables false
set_option linter.unusedSimpArgs false
/-- The list l lies at a, in memory from B on. -/
structure VecAt (w : World) (B : Nat) (a : Option Addr) (l : List Int) : Prop where
  reads : ReadsI .i64 w a l.length l
  own : l = [] ∨ ∃ g, a = some ⟨g, 0, none⟩ ∧ B ≤ g ∧ g < w.heap.size ∧ ∀ j, w.frozen? ⟨g, j, none⟩ = false
theorem VecAt.nil (w : World) (B : Nat) (a : Option Addr) : VecAt w B a [] := ⟨⟨rfl, .inl rfl⟩, .inl rfl⟩
def mixed (ys : List Int) (k : Nat) : List Int := (ys.take k).map cl ++ ys.drop k
theorem mixed_set (ys : List Int) (k : Nat) (h : k < ys.length) : (mixed ys k).set k (cl (ys.getD k 0)) = mixed ys (k + 1) := by
  unfold mixed
  apply List.ext_getElem?
  intro i
  rw [List.getElem?_set]
  simp only [List.getElem?_append, List.length_map, List.length_take, List.getElem?_map, List.getElem?_take, List.getElem?_drop, List.length_append, List.length_drop]
  rcases Nat.lt_trichotomy i k with h1 | h1 | h1
  · rw [if_neg (by omega), if_pos (by omega), if_pos (by omega), if_pos (by omega), if_pos (by omega)]
  · subst h1
    rw [if_pos rfl, if_pos (by omega), if_pos (by omega), if_pos (by omega)]
    simp [List.getD_eq_getElem?_getD, List.getElem?_eq_getElem h]
  · rw [if_neg (by omega), if_neg (by omega), if_neg (by omega)]
    congr 1
    omega
theorem mixed_get (ys : List Int) (k : Nat) (h : k < ys.length) : (mixed ys k)[k]? = some (ys.getD k 0) := by
  unfold mixed
  simp only [List.getElem?_append, List.length_map, List.length_take, List.getElem?_drop]
  rw [if_neg (by omega), List.getD_eq_getElem?_getD]
  simp [show min k ys.length = k by omega, List.getElem?_eq_getElem h]
theorem mixed_all (ys : List Int) : mixed ys ys.length = ys.map cl := by simp [mixed]
theorem mixed_zero (ys : List Int) : mixed ys 0 = ys := by simp [mixed]
theorem trim_cut (l : List Int) (k : Nat) (hk : k + 1 ≤ l.length) (h0 : l.getD k 0 = 0) : trim (l.take (k + 1)) = trim (l.take k) := by
  apply trim_ext
  intro i
  simp only [List.getD_eq_getElem?_getD, List.getElem?_take]
  rcases Nat.lt_trichotomy i k with h1 | h1 | h1
  · rw [if_pos (by omega), if_pos h1]
  · subst h1
    rw [if_pos (by omega), if_neg (by omega)]
    rw [List.getD_eq_getElem?_getD] at h0
    simpa using h0
  · rw [if_neg (by omega), if_neg (by omega)]
theorem trim_full (l : List Int) (h : l = [] ∨ l.getD (l.length - 1) 0 ≠ 0) : trim l = l := by
  rw [trim_take]
  apply List.take_of_length_le
  rcases h with rfl | h
  · simp
  · rw [← trim_getD] at h
    rcases Nat.lt_or_ge (l.length - 1) (trim l).length with h1 | h1
    · omega
    · exact absurd (getD_out h1) h
set_option maxHeartbeats 2000000 in
theorem plain_any (a : Option Addr) (n c : Nat) (xs : List Int) (w : World) (h : ReadsI .i64 w a n xs) (hnc : n ≤ c) (hcb : c ≤ 9223372036854775807) :
    Calls Tryz.prog 106 #[.slice a n c] w fun e w' => ∃ a', e = .returned (.slice a' (pl xs).length (pl xs).length) ∧ VecAt w' w.heap.size a' (pl xs) ∧ Below w.heap.size w w' := by
  have HR := Lib.hid h
  have hlen := h.1
  clear h
  have hle : (xs.take 8).length = min n 8 := by simp [hlen]; omega
  have HT := Lib.hid (HR.out.take (min n 8) (by omega))
  have htk : xs.take (min n 8) = xs.take 8 := by
    rcases Nat.le_total n 8 with h | h
    · rw [Nat.min_eq_left h, List.take_of_length_le (by omega), List.take_of_length_le (by omega)]
    · rw [Nat.min_eq_right h]
  rw [htk] at HT
  have HP : Hid (pl xs = trim ((xs.take 8).map cl)) := pl_trim xs
  generalize pl xs = P at *
  have hmin : min (n : Int) 8 = ((min n 8 : Nat) : Int) := by omega
  have hm1 : ((min n 8 : Nat) : Int) ≤ (c : Int) := by omega
  have hm2 : ((min n 8 : Nat) : Int) ≤ 8 := by omega
  have hm3 : ((min n 8 : Nat) : Int) ≤ (n : Int) := by omega
  generalize hN : min n 8 = N at *
  go_enter Tryz.func106, Tryz.ntmps106
  go_wp2_with fail
  refine (clone_any a N N (xs.take 8) w HT.out (by omega)).mono ?_
  rintro e w1 ⟨v', rfl, how, hb1⟩
  generalize xs.take 8 = ys at *
  subst hle
  clear HT htk hmin hm1 hm3 hN HR
  rcases Nat.eq_zero_or_pos ys.length with h0 | hp
  · obtain rfl : ys = [] := List.eq_nil_of_length_eq_zero h0
    have HP2 : Hid (P = []) := HP.out
    have hsl : ∃ a' c', v' = .slice a' 0 c' := by
      rcases how.2 with ⟨h, _⟩ | ⟨g, cap, cur, h, _⟩
      · exact ⟨none, 0, h⟩
      · exact ⟨_, cap, by rw [h]; rfl⟩
    obtain ⟨a', c', rfl⟩ := hsl
    go_wp2_with fail
    go_loop [16] (fun i => i = .int .i64 0) (fun _ => 0)
    case atStart => rfl
    case round =>
      subst hrel
      go_wp2_with fail
      go_loop [3] (fun i => i = .int .i64 0) (fun _ => 0)
      case atStart => rfl
      case round =>
        subst hrel
        go_wp2_with fail
        go_ret
        rw [HP2.out]
        exact ⟨a', rfl, VecAt.nil _ _ _, hb1⟩
  · obtain ⟨g, cap, rfl, hg, hgl⟩ := how.form hp
    have hcap : ys.length ≤ cap ∧ cap ≤ 9223372036854775807 := by
      rcases how.2 with ⟨h, _⟩ | ⟨g', cap', cur, h, _, _, h3, h4, _⟩
      · simp at h
      · simp only [Value.slice.injEq, Option.some.injEq, Addr.mk.injEq, and_true, true_and] at h
        obtain ⟨rfl, rfl⟩ := h
        exact ⟨h3, h4⟩
    obtain ⟨hcap1, hcap2⟩ := hcap
    have HO := Lib.hid how
    clear how
    have HC1 := Lib.hid hcap1
    go_wp2_with fail
    go_loopw [16, 4, 5] (fun i _ _ wr => ∃ k : Nat, k ≤ ys.length ∧ i = .int .i64 k ∧ wr.ownsRow w.heap.size 3 1 (.slice (some ⟨g, 0, none⟩) ys.length cap) ys.length ((mixed ys k).map (Value.int .i64)) ∧ Below w.heap.size w wr) (fun i _ _ _ => 9 - (intOf i).toNat)
    case atStart => exact ⟨0, by omega, rfl, by rw [mixed_zero]; exact HO.out, hb1⟩
    case round =>
      obtain ⟨k, hk, rfl, hown, hbel⟩ := hrel
      have HW := Lib.hid hown
      clear hown
      by_cases hlt : k < ys.length
      · have t1 : decide (k < ys.length) = true := decide_eq_true hlt
        have hcell : wr.cell? ⟨g, k, none⟩ = some (.int .i64 (ys.getD k 0)) := by
          rw [HW.out.cellAt k (by omega), List.getElem?_map, mixed_get ys k hlt]; rfl
        have hfz : wr.frozen? ⟨g, k, none⟩ = false := HW.out.frozenAt k
        have HS := Lib.hid (HW.out.stored k (.int .i64 (cl (ys.getD k 0))))
        have HM := Lib.hid (mixed_set ys k hlt)
        have HCL : Hid (cl (ys.getD k 0) = min (max (ys.getD k 0) 0) 1099511627776) := rfl
        have i1 : (0 : Int) ≤ (k : Int) := by omega
        have i2 : (k : Int) < (ys.length : Int) := by omega
        have hkb : k ≤ 8 := by omega
        generalize ys.getD k 0 = y at *
        go_wp2_with fail
        go_roundw
        case rel =>
          refine ⟨k + 1, by omega, by go_num, ?_, ?_⟩
          · have := HS.out.1
            rw [← List.map_set, HM.out, HCL.out] at this
            exact this
          · have := HS.out.2
            rw [HCL.out] at this
            exact hbel.grown this hbel.size (fun j hj => by cases hj; exact hg)
        case measure => simp [intOf]; omega
      · have t1 : decide (k < ys.length) = false := decide_eq_false hlt
        have : k = ys.length := by omega
        subst this
        rw [mixed_all] at HW
        have hcells : Hid (∀ j, j < ys.length → wr.cell? ⟨g, j, none⟩ = some (.int .i64 ((ys.map cl).getD j 0))) := fun j hj => by
          rw [HW.out.cellAt j (by omega), List.getElem?_map, List.getElem?_map, List.getD_eq_getElem?_getD, List.getElem?_map, List.getElem?_eq_getElem hj]; rfl
        have hfr : Hid (∀ j, wr.frozen? ⟨g, j, none⟩ = false) := fun j => HW.out.frozenAt j
        have hglt : g < wr.heap.size := (HW.out.lt g rfl).2
        clear HW
        have hzl : (ys.map cl).length = ys.length := List.length_map _
        generalize ys.map cl = zs at *
        generalize hL : ys.length = L at *
        go_wp2_with fail
        go_loop [3] (fun i => ∃ k : Nat, k ≤ L ∧ i = .int .i64 k ∧ P = trim (zs.take k)) (fun i => (intOf i).toNat)
        case atStart => exact ⟨L, by omega, rfl, by rw [List.take_of_length_le (by omega)]; exact HP.out⟩
        case round =>
          obtain ⟨k, hk, rfl, hpk⟩ := hrel
          have HPK := Lib.hid hpk
          clear hpk
          have fin : (k = 0 ∨ zs.getD (k - 1) 0 ≠ 0) → P.length = k ∧ VecAt wr w.heap.size (some ⟨g, 0, none⟩) P := fun h => by
            have e1 : P = zs.take k := by
              rw [HPK.out]
              apply trim_full
              rcases h with rfl | h
              · left; simp
              · rcases Nat.eq_zero_or_pos k with h0 | hp
                · left; subst h0; simp
                · right
                  rw [List.length_take, Nat.min_eq_left (by omega), List.getD_eq_getElem?_getD, List.getElem?_take, if_pos (by omega), ← List.getD_eq_getElem?_getD]
                  exact h
            have e2 : P.length = k := by rw [e1, List.length_take]; omega
            refine ⟨e2, ⟨⟨rfl, .inr ⟨g, 0, rfl, hglt, fun j hj => ?_⟩⟩, .inr ⟨g, rfl, hg, hglt, hfr.out⟩⟩⟩
            rw [Nat.zero_add, hcells.out j (by omega), e1, List.getD_eq_getElem?_getD, List.getD_eq_getElem?_getD, List.getElem?_take, if_pos (by omega)]
          have FIN := Lib.hid fin
          clear fin
          have hkc : (k : Int) ≤ (cap : Int) := by omega
          have hkc2 : (k : Int) ≤ (L : Int) := by omega
          rcases Nat.eq_zero_or_pos k with h0 | hpos
          · have t2 : decide (0 < k) = false := decide_eq_false (by omega)
            obtain ⟨f1, f2⟩ := FIN.out (.inl h0)
            have FV := Lib.hid f2
            clear f2
            go_wp2_with fail
            go_ret
            exact ⟨_, rfl, FV.out, hbel⟩
          · have t2 : decide (0 < k) = true := decide_eq_true hpos
            have hc := hcells.out (k - 1) (by omega)
            have hk1 : ((k - 1 : Nat) : Int) = (k : Int) - 1 := by omega
            have hk2 : ((k : Int) - 1).toNat = k - 1 := by omega
            by_cases hz : zs.getD (k - 1) 0 = 0
            · have t3 : (zs.getD (k - 1) 0 == 0) = true := beq_iff_eq.2 hz
              have HCut := Lib.hid (trim_cut zs (k - 1) (by omega) hz)
              generalize zs.getD (k - 1) 0 = z at *
              go_wp2_with fail
              go_round
              case rel => exact ⟨k - 1, by omega, by rw [hk1], by rw [HPK.out, ← HCut.out, show k - 1 + 1 = k by omega]⟩
              case measure => simp [intOf]; omega
            · have t3 : (zs.getD (k - 1) 0 == 0) = false := beq_eq_false_iff_ne.2 hz
              obtain ⟨f1, f2⟩ := FIN.out (.inr hz)
              have FV := Lib.hid f2
              clear f2
              generalize zs.getD (k - 1) 0 = z at *
              go_wp2_with fail
              go_ret
              exact ⟨_, rfl, FV.out, hbel⟩
end
end Go.Proofs.YtglabahbklpocaaGreat
namespace Go.Proofs.YtglabahbklpocaaGreat
section
open Go.RowKit
set_option maxRecDepth 100000
set_option linter.unusedVariables false
set_option linter.unusedSimpArgs false
theorem atV_pl (xs : List Int) (i : Int) : atV xs i = if 0 ≤ i then (pl xs).getD i.toNat 0 else 0 := by
  unfold atV
  by_cases h0 : 0 ≤ i
  · rw [if_pos h0, pl_getD]
    by_cases h8 : i < 8
    · rw [if_pos ⟨h0, h8⟩, if_pos (by omega)]
    · rw [if_neg (by omega), if_neg (by omega)]
  · rw [if_neg h0, if_neg (by omega)]
theorem VecAt.cell {w : World} {B : Nat} {a : Option Addr} {l : List Int} (h : VecAt w B a l) (i : Nat) (hi : i < l.length) : ∃ g, a = some ⟨g, 0, none⟩ ∧ B ≤ g ∧ g < w.heap.size ∧ w.cell? ⟨g, i, none⟩ = some (.int .i64 (l.getD i 0)) ∧ w.frozen? ⟨g, i, none⟩ = false := by
  obtain ⟨g, rfl, h1, h2, h3⟩ := h.own.resolve_left (by intro h'; subst h'; simp at hi)
  obtain ⟨b, o, h4, h5, h6⟩ := h.reads.2.resolve_left (by omega)
  simp only [Option.some.injEq, Addr.mk.injEq, and_true] at h4
  obtain ⟨rfl, rfl⟩ := h4
  exact ⟨g, rfl, h1, h2, by simpa using h6 i hi, h3 i⟩
set_option maxHeartbeats 1000000 in
theorem at_any (a : Option Addr) (n c : Nat) (xs : List Int) (site : Int) (w : World) (h : ReadsI .i64 w a n xs) (hnc : n ≤ c) (hcb : c ≤ 9223372036854775807) (h0 : -9223372036854775808 ≤ site) (h1 : site ≤ 9223372036854775807) :
    Calls Tryz.prog 89 #[.slice a n c, .int .i64 site] w fun e w' => e = .returned (.int .i64 (atV xs site)) ∧ Below w.heap.size w w' := by
  obtain ⟨V, HV⟩ : ∃ V, Hid (V = atV xs site) := ⟨_, rfl⟩
  rw [← HV.out]
  rw [atV_pl] at HV
  have hl8 := pl_length xs
  go_enter Tryz.func89, Tryz.ntmps89
  go_wp2_with fail
  refine (plain_any a n c xs w h hnc hcb).mono ?_
  rintro e w1 ⟨a', rfl, hv, hb⟩
  generalize pl xs = P at *
  have HVec := Lib.hid hv
  clear hv
  by_cases hneg : site < 0
  · have t1 : decide (site < 0) = true := decide_eq_true hneg
    have hV : Hid (V = 0) := by
      show _ = _
      rw [HV.out, if_neg (by omega)]
    go_wp2_with fail
    go_ret
    exact ⟨by rw [hV.out]; rfl, hb⟩
  · have t1 : decide (site < 0) = false := decide_eq_false hneg
    by_cases hge : (P.length : Int) ≤ site
    · have t2 : decide ((P.length : Int) ≤ site) = true := decide_eq_true hge
      have hV : Hid (V = 0) := by
        show _ = _
        rw [HV.out, if_pos (by omega), getD_out (by omega)]
      go_wp2_with fail
      go_ret
      exact ⟨by rw [hV.out]; rfl, hb⟩
    · obtain ⟨k, rfl⟩ : ∃ k : Nat, site = k := ⟨site.toNat, by omega⟩
      have t2 : decide (P.length ≤ k) = false := decide_eq_false (by omega)
      obtain ⟨g, rfl, _, _, hcell, _⟩ := HVec.out.cell k (by omega)
      have hV : Hid (P.getD k 0 = V) := by
        show _ = _
        rw [HV.out, if_pos (by omega)]
        rfl
      have i1 : (0 : Int) ≤ (k : Int) := by omega
      have i2 : (k : Int) < (P.length : Int) := by omega
      generalize P.getD k 0 = y at *
      clear HV
      go_wp2_with fail
      go_ret
      exact ⟨by rw [← hV.out]; rfl, hb⟩
def arrI (l : List Int) : Array Value := (l.map (Value.int .i64)).toArray
theorem arrI_get (l : List Int) (i : Nat) (h : i < l.length) : (arrI l)[i]? = some (.int .i64 (l.getD i 0)) := by
  simp [arrI, h]
theorem arrI_set (l : List Int) (i : Nat) (v : Int) : (arrI l).setIfInBounds i (.int .i64 v) = arrI (l.set i v) := by
  simp [arrI, List.map_set]
/-- The block g is an array of the numbers l. -/
def ArrAt (w : World) (T : TypeId) (g : Nat) (l : List Int) : Prop := w.heap[g]? = some (.cells (arrI l) T (0, 0))
theorem ArrAt.lt {T : TypeId} {w : World} {g : Nat} {l : List Int} (h : ArrAt w T g l) : g < w.heap.size := by
  unfold ArrAt at h
  rcases Nat.lt_or_ge g w.heap.size with h' | h'
  · exact h'
  · simp [Array.getElem?_eq_none h'] at h
theorem ArrAt.cell {T : TypeId} {w : World} {g : Nat} {l : List Int} (h : ArrAt w T g l) (i : Nat) (hi : i < l.length) : w.cell? ⟨g, i, none⟩ = some (.int .i64 (l.getD i 0)) := by
  simp only [World.cell?, show w.heap[g]? = _ from h]
  exact arrI_get l i hi
theorem ArrAt.fz {T : TypeId} {w : World} {g : Nat} {l : List Int} (h : ArrAt w T g l) (j : Nat) : w.frozen? ⟨g, j, none⟩ = false := by simp [World.frozen?, show w.heap[g]? = _ from h]
theorem ArrAt.set {T : TypeId} {w : World} {g : Nat} {l : List Int} (h : ArrAt w T g l) (i : Nat) (v : Int) : ArrAt (w.setCell ⟨g, i, none⟩ (.int .i64 v)) T g (l.set i v) := by
  unfold ArrAt at *
  simp [World.setCell, Array.getElem?_modify, h, arrI_set]
theorem ArrAt.below {T : TypeId} {w w' : World} {g : Nat} {l : List Int} (h : ArrAt w T g l) (hb : Below w.heap.size w w') : ArrAt w' T g l := (hb.block g h.lt).trans h
theorem ArrAt.reads {T : TypeId} {w : World} {g : Nat} {l : List Int} (h : ArrAt w T g l) : ReadsI .i64 w (some ⟨g, 0, none⟩) l.length l :=
  ⟨rfl, .inr ⟨g, 0, rfl, h.lt, fun j hj => by rw [Nat.zero_add]; exact h.cell j hj⟩⟩
/-- The first k of a row of 8. -/
def upto (f : Nat → Int) (k : Nat) : List Int := (List.range 8).map fun j => if j < k then f j else 0
theorem upto_length (f : Nat → Int) (k : Nat) : (upto f k).length = 8 := by simp [upto]
theorem upto_set (f : Nat → Int) (k : Nat) : (upto f k).set k (f k) = upto f (k + 1) := by
  unfold upto
  apply List.ext_getElem?
  intro i
  rw [List.getElem?_set]
  simp only [List.length_map, List.length_range, List.getElem?_map, List.getElem?_range]
  by_cases h8 : i < 8
  · rcases Nat.lt_trichotomy i k with h1 | h1 | h1
    · rw [if_neg (by omega)]; simp [h8, h1, show i < k + 1 by omega]
    · subst h1; simp [h8]
    · rw [if_neg (by omega)]; simp [h8, show ¬ i < k by omega, show ¬ i < k + 1 by omega]
  · by_cases hk : k = i
    · subst hk; simp [h8]
    · rw [if_neg hk]; simp [h8]
theorem upto_eight (f : Nat → Int) : upto f 8 = (List.range 8).map f := by
  unfold upto
  apply List.map_congr_left
  intro i hi
  simp at hi
  simp [hi]
theorem pl_upto (f : Nat → Int) (h : ∀ i, i < 8 → 0 ≤ f i ∧ f i ≤ 1099511627776) : pl (upto f 8) = vec f := by
  apply vec_ext
  intro i hi
  unfold nm
  rw [upto_eight, List.getD_eq_getElem?_getD]
  simp [hi]
  exact cl_id (h i hi).1 (h i hi).2
theorem sliceAt_all {P : Program} {T E n sz : Nat} (hT : P.underlying T = some (.array n E)) (hs : ∀ w, (sizeOf E).run P w = .ok sz w) (a : Addr) :
    ∀ w : World, (Instr.sliceAt T (.pointer (some a)) none none none).run P w = .ok (.slice (some a) n n) w := by
  intro w
  have ht : P.underlying T = some (.array (P.arrayLen T) (P.elem T)) := by rw [hT]; simp [Program.arrayLen, Program.elem, hT]
  have hl : P.arrayLen T = n := by simp [Program.arrayLen, hT]
  have he : P.elem T = E := by simp [Program.elem, hT]
  rw [run_sliceAt_array_all w T a ht, he, hs, hl]
  simp only [Result.andThen, slicedAt]
  have ha : a.add (0 * sz) = a := by simp [Addr.add]
  rw [ha]; simp
end
end Go.Proofs.YtglabahbklpocaaGreat
namespace Go.Proofs.YtglabahbklpocaaGreat
section
open Go.RowKit
set_option maxRecDepth 100000
set_option linter.unusedVariables false
set_option linter.unusedSimpArgs false
theorem of_join (x y : Int) (w : World) : Calls Tryz.prog 96 #[.int .i64 x, .int .i64 y] w fun e w' => e = .returned (.int .i64 (max x y)) ∧ w = w' := by
  go_enter Tryz.func96, Tryz.ntmps96
  go_wp2
  go_ret
  exact ⟨rfl, rfl⟩
set_option maxHeartbeats 2000000 in
theorem each_join (a1 a2 : Option Addr) (n1 c1 n2 c2 : Nat) (xs ys : List Int) (w : World) (h1 : ReadsI .i64 w a1 n1 xs) (h2 : ReadsI .i64 w a2 n2 ys) (hc1 : n1 ≤ c1) (hb1 : c1 ≤ 9223372036854775807) (hc2 : n2 ≤ c2) (hb2 : c2 ≤ 9223372036854775807) :
    Calls Tryz.prog 95 #[.slice a1 n1 c1, .slice a2 n2 c2, .func (.func 96) #[] #[]] w fun e w' => ∃ a', e = .returned (.slice a' (vec fun i => max (nm xs i) (nm ys i)).length (vec fun i => max (nm xs i) (nm ys i)).length) ∧ VecAt w' w.heap.size a' (vec fun i => max (nm xs i) (nm ys i)) ∧ Below w.heap.size w w' := by
  obtain ⟨F, HF⟩ : ∃ F : Nat → Int, Hid (F = fun i => max (nm xs i) (nm ys i)) := ⟨_, rfl⟩
  rw [← HF.out]
  have HFr : Hid (∀ i, 0 ≤ F i ∧ F i ≤ 1099511627776) := fun i => by
    rw [HF.out]
    have h1 := nm_range xs i
    have h2 := nm_range ys i
    show 0 ≤ max _ _ ∧ max _ _ ≤ _
    omega
  have HE : Hid (∀ i, (∃ k : Nat, k < 8 ∧ i = (k : Int)) → ∀ wx, Calls Tryz.prog 96 #[.int .i64 (atV xs i), .int .i64 (atV ys i)] wx fun e w' => e = .returned (.int .i64 (F i.toNat)) ∧ wx = w') := fun i ⟨k, hk, hik⟩ wx => by
    subst hik
    rw [HF.out, show atV xs (k : Int) = nm xs k by unfold atV; rw [if_pos (by omega)]; rfl, show atV ys (k : Int) = nm ys k by unfold atV; rw [if_pos (by omega)]; rfl]
    exact of_join _ _ wx
  have H1 := Lib.hid h1
  have H2 := Lib.hid h2
  clear h1 h2
  have hsl := sliceAt_all (P := Tryz.prog) (T := 121) Tryz.underlying121 (sz := 1) (fun _ => by kernel_rfl) ⟨w.heap.size, 0, none⟩
  have hsl2 := fun w => hsl w
  go_enter Tryz.func95, Tryz.ntmps95
  go_wp2_with fail
  have hA0 : ArrAt (w.alloc (.cells (arrI (upto F 0)) 121)) 121 w.heap.size (upto F 0) := heap_alloc_new w _
  have hu0 : arrI (upto F 0) = #[.int .i64 0, .int .i64 0, .int .i64 0, .int .i64 0, .int .i64 0, .int .i64 0, .int .i64 0, .int .i64 0] := by
    simp [arrI, upto, List.range, List.range.loop]
  rw [hu0] at hA0
  have hB0 := (Below.refl w.heap.size w).alloc (Nat.le_refl _) (.cells #[.int .i64 0, .int .i64 0, .int .i64 0, .int .i64 0, .int .i64 0, .int .i64 0, .int .i64 0, .int .i64 0] 121)
  generalize hw0 : w.alloc _ = w0 at *
  clear hw0 hu0
  go_loopw [9, 8] (fun i _ wr => ∃ k : Nat, k ≤ 8 ∧ i = .int .i64 k ∧ ArrAt wr 121 w.heap.size (upto F k) ∧ Below w.heap.size w wr) (fun i _ _ => 9 - (intOf i).toNat)
  case atStart => exact ⟨0, by omega, rfl, hA0, hB0⟩
  case round =>
    obtain ⟨k, hk, rfl, hat, hbel⟩ := hrel
    have HAT := Lib.hid hat
    clear hat
    by_cases hlt : k < 8
    · have t1 : decide ((k : Int) < 8) = true := decide_eq_true (by omega)
      have i1 : (0 : Int) ≤ (k : Int) := by omega
      have i2 : (k : Int) < 8 := by omega
      go_wp2_with fail
      refine (at_any a1 n1 c1 xs k _ (H1.out.below hbel) hc1 hb1 (by omega) (by omega)).mono ?_
      rintro e w2 ⟨rfl, hb3⟩
      have hA2 := HAT.out.below hb3
      have hbl2 := below_then hbel hbel.size hb3
      go_wp2_with fail
      refine (at_any a2 n2 c2 ys k _ (H2.out.below hbl2) hc2 hb2 (by omega) (by omega)).mono ?_
      rintro e w3 ⟨rfl, hb4⟩
      have hA3 := hA2.below hb4
      have hbl3 := below_then hbl2 hbl2.size hb4
      clear hA2 hbl2 hb3 hb4
      go_wp2_with fail
      refine (HE.out k ⟨k, hlt, rfl⟩ _).mono ?_
      rintro e w4 ⟨rfl, rfl⟩
      rw [Int.toNat_natCast]
      have hcl := hA3.cell k (by rw [upto_length]; omega)
      have hfz := hA3.fz k
      have hA4 := Lib.hid (hA3.set k (F k))
      have HU := Lib.hid (upto_set F k)
      have HB5 := Lib.hid (hbl3)
      clear hA3
      generalize (upto F k).getD k 0 = z at *
      generalize hFk : F k = y at *
      go_wp2_with fail
      go_roundw
      case rel => 
        refine ⟨k + 1, by omega, by go_num, ?_, ?_⟩
        · have := hA4.out
          rw [HU.out] at this
          exact this
        · exact HB5.out.setCell (p := ⟨w.heap.size, k, none⟩) (Nat.le_refl _) _
      case measure => simp [intOf]; omega
    · have t1 : decide ((k : Int) < 8) = false := decide_eq_false (by omega)
      have : k = 8 := by omega
      subst this
      have hrd := HAT.out.reads
      rw [upto_length] at hrd
      have HPU := Lib.hid (pl_upto F fun i _ => HFr.out i)
      go_wp2_with fail
      refine (plain_any (some ⟨w.heap.size, 0, none⟩) 8 8 (upto F 8) _ hrd (by omega) (by omega)).mono ?_
      rintro e w2 ⟨a', rfl, hv, hb3⟩
      rw [HPU.out] at hv ⊢
      go_wp2_with fail
      go_ret
      exact ⟨a', rfl, ⟨hv.reads, hv.own.imp_right fun ⟨g, e1, e2, e3⟩ => ⟨g, e1, Nat.le_trans hbel.size e2, e3⟩⟩, below_then hbel hbel.size hb3⟩
end
end Go.Proofs.YtglabahbklpocaaGreat
namespace Go.Proofs.YtglabahbklpocaaGreat
section
open Go.RowKit
set_option maxRecDepth 100000
set_option linter.unusedVariables false
set_option linter.unusedSimpArgs false
theorem of_meet (x y : Int) (w : World) : Calls Tryz.prog 128 #[.int .i64 x, .int .i64 y] w fun e w' => e = .returned (.int .i64 (min x y)) ∧ w = w' := by
  go_enter Tryz.func128, Tryz.ntmps128
  go_wp2
  go_ret
  exact ⟨rfl, rfl⟩
set_option maxHeartbeats 2000000 in
theorem each_meet (a1 a2 : Option Addr) (n1 c1 n2 c2 : Nat) (xs ys : List Int) (w : World) (h1 : ReadsI .i64 w a1 n1 xs) (h2 : ReadsI .i64 w a2 n2 ys) (hc1 : n1 ≤ c1) (hb1 : c1 ≤ 9223372036854775807) (hc2 : n2 ≤ c2) (hb2 : c2 ≤ 9223372036854775807) :
    Calls Tryz.prog 95 #[.slice a1 n1 c1, .slice a2 n2 c2, .func (.func 128) #[] #[]] w fun e w' => ∃ a', e = .returned (.slice a' (vec fun i => min (nm xs i) (nm ys i)).length (vec fun i => min (nm xs i) (nm ys i)).length) ∧ VecAt w' w.heap.size a' (vec fun i => min (nm xs i) (nm ys i)) ∧ Below w.heap.size w w' := by
  obtain ⟨F, HF⟩ : ∃ F : Nat → Int, Hid (F = fun i => min (nm xs i) (nm ys i)) := ⟨_, rfl⟩
  rw [← HF.out]
  have HFr : Hid (∀ i, 0 ≤ F i ∧ F i ≤ 1099511627776) := fun i => by
    rw [HF.out]
    have h1 := nm_range xs i
    have h2 := nm_range ys i
    show 0 ≤ min _ _ ∧ min _ _ ≤ _
    omega
  have HE : Hid (∀ i, (∃ k : Nat, k < 8 ∧ i = (k : Int)) → ∀ wx, Calls Tryz.prog 128 #[.int .i64 (atV xs i), .int .i64 (atV ys i)] wx fun e w' => e = .returned (.int .i64 (F i.toNat)) ∧ wx = w') := fun i ⟨k, hk, hik⟩ wx => by
    subst hik
    rw [HF.out, show atV xs (k : Int) = nm xs k by unfold atV; rw [if_pos (by omega)]; rfl, show atV ys (k : Int) = nm ys k by unfold atV; rw [if_pos (by omega)]; rfl]
    exact of_meet _ _ wx
  have H1 := Lib.hid h1
  have H2 := Lib.hid h2
  clear h1 h2
  have hsl := sliceAt_all (P := Tryz.prog) (T := 121) Tryz.underlying121 (sz := 1) (fun _ => by kernel_rfl) ⟨w.heap.size, 0, none⟩
  have hsl2 := fun w => hsl w
  go_enter Tryz.func95, Tryz.ntmps95
  go_wp2_with fail
  have hA0 : ArrAt (w.alloc (.cells (arrI (upto F 0)) 121)) 121 w.heap.size (upto F 0) := heap_alloc_new w _
  have hu0 : arrI (upto F 0) = #[.int .i64 0, .int .i64 0, .int .i64 0, .int .i64 0, .int .i64 0, .int .i64 0, .int .i64 0, .int .i64 0] := by
    simp [arrI, upto, List.range, List.range.loop]
  rw [hu0] at hA0
  have hB0 := (Below.refl w.heap.size w).alloc (Nat.le_refl _) (.cells #[.int .i64 0, .int .i64 0, .int .i64 0, .int .i64 0, .int .i64 0, .int .i64 0, .int .i64 0, .int .i64 0] 121)
  generalize hw0 : w.alloc _ = w0 at *
  clear hw0 hu0
  go_loopw [9, 8] (fun i _ wr => ∃ k : Nat, k ≤ 8 ∧ i = .int .i64 k ∧ ArrAt wr 121 w.heap.size (upto F k) ∧ Below w.heap.size w wr) (fun i _ _ => 9 - (intOf i).toNat)
  case atStart => exact ⟨0, by omega, rfl, hA0, hB0⟩
  case round =>
    obtain ⟨k, hk, rfl, hat, hbel⟩ := hrel
    have HAT := Lib.hid hat
    clear hat
    by_cases hlt : k < 8
    · have t1 : decide ((k : Int) < 8) = true := decide_eq_true (by omega)
      have i1 : (0 : Int) ≤ (k : Int) := by omega
      have i2 : (k : Int) < 8 := by omega
      go_wp2_with fail
      refine (at_any a1 n1 c1 xs k _ (H1.out.below hbel) hc1 hb1 (by omega) (by omega)).mono ?_
      rintro e w2 ⟨rfl, hb3⟩
      have hA2 := HAT.out.below hb3
      have hbl2 := below_then hbel hbel.size hb3
      go_wp2_with fail
      refine (at_any a2 n2 c2 ys k _ (H2.out.below hbl2) hc2 hb2 (by omega) (by omega)).mono ?_
      rintro e w3 ⟨rfl, hb4⟩
      have hA3 := hA2.below hb4
      have hbl3 := below_then hbl2 hbl2.size hb4
      clear hA2 hbl2 hb3 hb4
      go_wp2_with fail
      refine (HE.out k ⟨k, hlt, rfl⟩ _).mono ?_
      rintro e w4 ⟨rfl, rfl⟩
      rw [Int.toNat_natCast]
      have hcl := hA3.cell k (by rw [upto_length]; omega)
      have hfz := hA3.fz k
      have hA4 := Lib.hid (hA3.set k (F k))
      have HU := Lib.hid (upto_set F k)
      have HB5 := Lib.hid (hbl3)
      clear hA3
      generalize (upto F k).getD k 0 = z at *
      generalize hFk : F k = y at *
      go_wp2_with fail
      go_roundw
      case rel => 
        refine ⟨k + 1, by omega, by go_num, ?_, ?_⟩
        · have := hA4.out
          rw [HU.out] at this
          exact this
        · exact HB5.out.setCell (p := ⟨w.heap.size, k, none⟩) (Nat.le_refl _) _
      case measure => simp [intOf]; omega
    · have t1 : decide ((k : Int) < 8) = false := decide_eq_false (by omega)
      have : k = 8 := by omega
      subst this
      have hrd := HAT.out.reads
      rw [upto_length] at hrd
      have HPU := Lib.hid (pl_upto F fun i _ => HFr.out i)
      go_wp2_with fail
      refine (plain_any (some ⟨w.heap.size, 0, none⟩) 8 8 (upto F 8) _ hrd (by omega) (by omega)).mono ?_
      rintro e w2 ⟨a', rfl, hv, hb3⟩
      rw [HPU.out] at hv ⊢
      go_wp2_with fail
      go_ret
      exact ⟨a', rfl, ⟨hv.reads, hv.own.imp_right fun ⟨g, e1, e2, e3⟩ => ⟨g, e1, Nat.le_trans hbel.size e2, e3⟩⟩, below_then hbel hbel.size hb3⟩
end
end Go.Proofs.YtglabahbklpocaaGreat
