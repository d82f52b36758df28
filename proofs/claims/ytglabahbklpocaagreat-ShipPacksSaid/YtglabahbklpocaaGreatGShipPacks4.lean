/- Join, Meet, Covers, Compare, Right; the reference's Same. The reference's 'all': the numbers of the 8 sites. A list of numbers that grows by append, from a slice without room or from a row of one's own. -/
import Derived.Test.YtglabahbklpocaaGreatGShipPacks3
import Derived.Deep.QuietTactic
import Derived.BigQuiet
import Derived.Deep.DeepCutAuto
import Derived.Deep.CutBlock
import Derived.Laws.AppendOwn
namespace Go.Proofs.YtglabahbklpocaaGreat
section
open Go.RowKit
set_option maxRecDepth 100000
set_option linter.unusedVariables false
set_option linter.unusedSimpArgs false
theorem VecAt.mono {w : World} {B B' : Nat} {a : Option Addr} {l : List Int} (h : VecAt w B a l) (hB : B' ≤ B) : VecAt w B' a l := ⟨h.reads, h.own.imp_right fun ⟨g, e1, e2, e3⟩ => ⟨g, e1, Nat.le_trans hB e2, e3⟩⟩
theorem joinV_length (xs ys : List Int) : (joinV xs ys).length ≤ 8 := vec_length _
theorem join_any (a1 a2 : Option Addr) (n1 c1 n2 c2 : Nat) (xs ys : List Int) (w : World) (h1 : ReadsI .i64 w a1 n1 xs) (h2 : ReadsI .i64 w a2 n2 ys) (hc1 : n1 ≤ c1) (hb1 : c1 ≤ 9223372036854775807) (hc2 : n2 ≤ c2) (hb2 : c2 ≤ 9223372036854775807) :
    Calls Tryz.prog 33 #[.slice a1 n1 c1, .slice a2 n2 c2] w fun e w' => ∃ a', e = .returned (.slice a' (joinV xs ys).length (joinV xs ys).length) ∧ VecAt w' w.heap.size a' (joinV xs ys) ∧ Below w.heap.size w w' := by
  go_enter Tryz.func33, Tryz.ntmps33
  go_wp2_with fail
  refine (each_join a1 a2 n1 c1 n2 c2 xs ys w h1 h2 hc1 hb1 hc2 hb2).mono ?_
  rintro e w1 ⟨a', rfl, hv, hb⟩
  go_wp2
  go_ret
  exact ⟨a', rfl, hv, hb⟩
theorem meet_any (a1 a2 : Option Addr) (n1 c1 n2 c2 : Nat) (xs ys : List Int) (w : World) (h1 : ReadsI .i64 w a1 n1 xs) (h2 : ReadsI .i64 w a2 n2 ys) (hc1 : n1 ≤ c1) (hb1 : c1 ≤ 9223372036854775807) (hc2 : n2 ≤ c2) (hb2 : c2 ≤ 9223372036854775807) :
    Calls Tryz.prog 83 #[.slice a1 n1 c1, .slice a2 n2 c2] w fun e w' => ∃ a', e = .returned (.slice a' (meetV xs ys).length (meetV xs ys).length) ∧ VecAt w' w.heap.size a' (meetV xs ys) ∧ Below w.heap.size w w' := by
  go_enter Tryz.func83, Tryz.ntmps83
  go_wp2_with fail
  refine (each_meet a1 a2 n1 c1 n2 c2 xs ys w h1 h2 hc1 hb1 hc2 hb2).mono ?_
  rintro e w1 ⟨a', rfl, hv, hb⟩
  go_wp2
  go_ret
  exact ⟨a', rfl, hv, hb⟩
theorem right_any (a : Option Addr) (n c : Nat) (xs : List Int) (w : World) (h : ReadsI .i64 w a n xs) (hnc : n ≤ c) (hcb : c ≤ 9223372036854775807) :
    Calls Tryz.prog 66 #[.slice a n c] w fun e w' => e = .returned (.bool (decide (xs = pl xs))) ∧ Below w.heap.size w w' := by
  have hl8 := pl_length xs
  go_enter Tryz.func66, Tryz.ntmps66
  go_wp2_with fail
  refine (plain_any a n c xs w h hnc hcb).mono ?_
  rintro e w1 ⟨a', rfl, hv, hb⟩
  go_wp2_with fail
  refine (equal_any a a' n (pl xs).length c (pl xs).length xs (pl xs) _ (h.below hb) hv.reads (by omega) (by omega)).mono ?_
  rintro e w2 ⟨rfl, hb2⟩
  go_wp2
  go_ret
  exact ⟨rfl, below_then hb hb.size hb2⟩
theorem covers_any (a1 a2 : Option Addr) (n1 c1 n2 c2 : Nat) (xs ys : List Int) (w : World) (h1 : ReadsI .i64 w a1 n1 xs) (h2 : ReadsI .i64 w a2 n2 ys) (hc1 : n1 ≤ c1) (hb1 : c1 ≤ 9223372036854775807) (hc2 : n2 ≤ c2) (hb2 : c2 ≤ 9223372036854775807) :
    Calls Tryz.prog 82 #[.slice a1 n1 c1, .slice a2 n2 c2] w fun e w' => e = .returned (.bool (covV xs ys)) ∧ Below w.heap.size w w' := by
  have hl8 := pl_length xs
  have hj8 := joinV_length xs ys
  rw [← covV_iff]
  go_enter Tryz.func82, Tryz.ntmps82
  go_wp2_with fail
  refine (join_any a1 a2 n1 c1 n2 c2 xs ys w h1 h2 hc1 hb1 hc2 hb2).mono ?_
  rintro e w1 ⟨a', rfl, hv, hb⟩
  go_wp2_with fail
  refine (plain_any a1 n1 c1 xs _ (h1.below hb) hc1 hb1).mono ?_
  rintro e w2 ⟨a'', rfl, hv2, hb'⟩
  have hr1 := hv.reads.below hb'
  go_wp2_with fail
  refine (equal_any a' a'' _ _ _ _ (joinV xs ys) (pl xs) _ hr1 hv2.reads (by omega) (by omega)).mono ?_
  rintro e w3 ⟨rfl, hb3⟩
  go_wp2
  go_ret
  have hbb := below_then hb hb.size hb'
  exact ⟨rfl, below_then hbb hbb.size hb3⟩
theorem below_drewN {B : Nat} {w0 w : World} (h : Below B w0 w) (n : Nat) : Below B w0 (w.drewN n) := ⟨h.os, h.tape, h.output, h.size, h.block⟩
theorem ReadsI.at {k : IntKind} {w w' : World} {a : Option Addr} {n : Nat} {xs : List Int} (h : ReadsI k w a n xs) (hb : Below w.heap.size w w') (i : Nat) (hi : i < n) : ∃ b o, a = some ⟨b, o, none⟩ ∧ b < w.heap.size ∧ w'.cell? ⟨b, o + i, none⟩ = some (.int k (xs.getD i 0)) := by
  obtain ⟨_, h2⟩ := h
  obtain ⟨b, o, h3, h4, h5⟩ := h2.resolve_left (by omega)
  exact ⟨b, o, h3, h4, (hb.cell (p := ⟨b, o + i, none⟩) h4).trans (h5 i hi)⟩
theorem list_ext_getD {xs ys : List Int} (hl : xs.length = ys.length) (h : ∀ j, j < xs.length → xs.getD j 0 = ys.getD j 0) : xs = ys := by
  apply List.ext_getElem hl
  intro i h1 h2
  have := h i h1
  simpa [List.getD_eq_getElem?_getD, h1, h2] using this
set_option maxHeartbeats 1000000 in
theorem same_any (a1 a2 : Option Addr) (n1 c1 n2 c2 : Nat) (xs ys : List Int) (w : World) (h1 : ReadsI .i64 w a1 n1 xs) (h2 : ReadsI .i64 w a2 n2 ys) (hc1 : n1 ≤ c1) (hb1 : c1 ≤ 9223372036854775807) (hc2 : n2 ≤ c2) (hb2 : c2 ≤ 9223372036854775807) :
    Calls Tryz.prog 22 #[.slice a1 n1 c1, .slice a2 n2 c2] w fun e w' => e = .returned (.bool (decide (xs = ys))) ∧ Below w.heap.size w w' := by
  obtain ⟨V, HV⟩ : ∃ V, Hid (V = decide (xs = ys)) := ⟨_, rfl⟩
  rw [← HV.out]
  have hl1 := h1.1
  have hl2 := h2.1
  have H1 := Lib.hid h1
  have H2 := Lib.hid h2
  clear h1 h2
  by_cases hne : n1 = n2
  · subst hne
    have t0 : (n1 == n1) = true := by simp
    go_enter Tryz.func22, Tryz.ntmps22
    go_wp2_with fail
    go_loopw [5] (fun i wr => ∃ k : Nat, k ≤ n1 ∧ i = .int .i64 k ∧ (∀ j, j < k → xs.getD j 0 = ys.getD j 0) ∧ Below w.heap.size w wr) (fun i _ => (n1 + 1) - (intOf i).toNat)
    case atStart => exact ⟨0, by omega, rfl, fun j hj => by omega, Below.refl _ _⟩
    case round =>
      obtain ⟨k, hk, rfl, heq, hbel⟩ := hrel
      have HQ := Lib.hid heq
      clear heq
      by_cases hlt : k < n1
      · have t1 : decide (k < n1) = true := decide_eq_true hlt
        obtain ⟨b, o, rfl, _, hx⟩ := H1.out.at hbel k hlt
        obtain ⟨b', o', rfl, _, hy⟩ := H2.out.at hbel k hlt
        have i1 : (0 : Int) ≤ (k : Int) := by omega
        have i2 : (k : Int) < (n1 : Int) := by omega
        by_cases hxy : xs.getD k 0 = ys.getD k 0
        · have hy2 := hxy ▸ hy
          have HQ2 : Hid (∀ j, j < k + 1 → xs.getD j 0 = ys.getD j 0) := fun j hj => by
            rcases Nat.lt_or_ge j k with h | h
            · exact HQ.out j h
            · obtain rfl : j = k := by omega
              exact hxy
          clear hy hxy
          have e1 : (xs.getD k 0 == xs.getD k 0) = true := beq_self_eq_true _
          have hbd := fun q => below_drewN hbel q
          generalize xs.getD k 0 = x at *
          go_wp2_with fail
          go_quiet (fail)
          go_wp2_with fail
          go_roundw
          case rel => exact ⟨k + 1, by omega, by go_num, HQ2.out, below_drewN hbel _⟩
          case measure => simp [intOf]; omega
        · have e1 : (xs.getD k 0 == ys.getD k 0) = false := beq_eq_false_iff_ne.2 hxy
          have hV : Hid (V = false) := by
            show _ = _
            rw [HV.out, decide_eq_false]
            intro h
            exact hxy (by rw [h])
          generalize xs.getD k 0 = x at *
          generalize ys.getD k 0 = y at *
          go_wp2_with fail
          go_quiet (fail)
          go_wp2_with fail
          go_ret
          exact ⟨by rw [hV.out]; rfl, below_drewN hbel _⟩
      · have t1 : decide (k < n1) = false := decide_eq_false hlt
        have hV : Hid (V = true) := by
          show _ = _
          rw [HV.out, decide_eq_true]
          exact list_ext_getD (by omega) (fun j hj => HQ.out j (by omega))
        go_wp2_with fail
        go_ret
        exact ⟨by rw [hV.out]; rfl, hbel⟩
  · have t0 : ((n1 : Int) == (n2 : Int)) = false := by simp; omega
    have t00 : (n1 == n2) = false := by simp; omega
    have hV : Hid (V = false) := by
      show _ = _
      rw [HV.out, decide_eq_false]
      intro h
      exact hne (by rw [← hl1, ← hl2, h])
    go_enter Tryz.func22, Tryz.ntmps22
    go_wp2_with fail
    go_ret
    exact ⟨by rw [hV.out]; rfl, Below.refl _ _⟩
end
end Go.Proofs.YtglabahbklpocaaGreat
namespace Go.Proofs.YtglabahbklpocaaGreat
section
open Go.RowKit
set_option maxRecDepth 100000
set_option linter.unusedVariables false
set_option linter.unusedSimpArgs false
/-- The array of the numbers of the 8 sites. -/
def arr8 (f : Nat → Int) : Value := .agg (arrI (upto f 8))
theorem arrI_size (l : List Int) : (arrI l).size = l.length := by simp [arrI]
theorem arrI_one (l : List Int) : (arrI l).all (·.oneCell') = true := by
  simp [arrI, Array.all_eq_true]
  intro i hi
  rfl
theorem info_arr8 : (Tryz.prog.info? 121).map (·.size) = some 8 := by kernel_rfl
theorem nm_out (xs : List Int) (i : Nat) (h : xs.length ≤ i) : nm xs i = 0 := by unfold nm; rw [getD_out h]; rfl
theorem upto_out (xs : List Int) (k : Nat) (h : xs.length ≤ k) (h8 : k ≤ 8) : upto (nm xs) k = upto (nm xs) 8 := by
  unfold upto
  apply List.map_congr_left
  intro i hi
  simp at hi
  by_cases h1 : i < k
  · rw [if_pos h1, if_pos hi]
  · rw [if_neg h1, if_pos hi, nm_out xs i (by omega)]
theorem ArrAt.setRow {T : TypeId} {w : World} {g : Nat} {l m : List Int} (h : ArrAt w T g l) (hl : m.length = l.length) : ArrAt (w.setRow g (arrI m)) T g m :=
  setRow_heap w g _ _ _ _ h
theorem below_setRow {B : Nat} {a w : World} (h : Below B a w) {g : Nat} (hg : B ≤ g) (cs : Array Value) : Below B a (w.setRow g cs) :=
  ⟨h.os, h.tape, h.output, by have := h.size; simpa [World.setRow] using this, fun k hk => (setRow_other w g k cs (by omega)).trans (h.block k hk)⟩
theorem size8 (f : Nat → Int) (k : Nat) : (Tryz.prog.info? 121).map (·.size) = some (arrI (upto f k)).size := by rw [info_arr8, arrI_size, upto_length]
set_option maxHeartbeats 2000000 in
theorem rall_any (a : Option Addr) (n c : Nat) (xs : List Int) (w : World) (h : ReadsI .i64 w a n xs) (hnc : n ≤ c) (hcb : c ≤ 9223372036854775807) :
    Calls Tryz.prog 88 #[.slice a n c] w fun e w' => e = .returned (arr8 (nm xs)) ∧ Below w.heap.size w w' := by
  have hlen := h.1
  have HR := Lib.hid h
  clear h
  obtain ⟨V, HV⟩ : ∃ V, Hid (V = arr8 (nm xs)) := ⟨_, rfl⟩
  rw [← HV.out]
  go_enter Tryz.func88, Tryz.ntmps88
  go_wp2_with fail
  have hz : arrI (upto (nm xs) 0) = #[.int .i64 0, .int .i64 0, .int .i64 0, .int .i64 0, .int .i64 0, .int .i64 0, .int .i64 0, .int .i64 0] := by
    simp [arrI, upto, List.range, List.range.loop]
  have hB0 := ((Below.refl w.heap.size w).alloc (Nat.le_refl _) (.cells (arrI (upto (nm xs) 0)) 121)).alloc (by simp) (.cells (arrI (upto (nm xs) 0)) 121)
  have hA0 : ArrAt ((w.alloc (.cells (arrI (upto (nm xs) 0)) 121)).alloc (.cells (arrI (upto (nm xs) 0)) 121)) 121 (w.heap.size + 1) (upto (nm xs) 0) := by
    have := heap_alloc_new (w.alloc (.cells (arrI (upto (nm xs) 0)) 121)) (.cells (arrI (upto (nm xs) 0)) 121)
    unfold ArrAt
    simpa using this
  have hR0 : ArrAt ((w.alloc (.cells (arrI (upto (nm xs) 0)) 121)).alloc (.cells (arrI (upto (nm xs) 0)) 121)) 121 w.heap.size (upto (nm xs) 0) := by
    unfold ArrAt
    rw [heap_alloc_old (h := by simp)]
    exact heap_alloc_new w _
  rw [hz] at hB0 hA0 hR0
  generalize hw0 : (w.alloc _).alloc _ = w0 at *
  clear hw0 hz
  have INIT := Lib.hid (And.intro hA0 (And.intro hR0 hB0))
  clear hA0 hR0 hB0
  go_loopw [4, 5] (fun i _ wr => ∃ k : Nat, k ≤ 8 ∧ k ≤ n ∧ i = .int .i64 k ∧ ArrAt wr 121 (w.heap.size + 1) (upto (nm xs) k) ∧ ArrAt wr 121 w.heap.size (upto (nm xs) 0) ∧ Below w.heap.size w wr) (fun i _ _ => 9 - (intOf i).toNat)
  case atStart => exact ⟨0, by omega, by omega, rfl, INIT.out⟩
  case round =>
    obtain ⟨k, hk8, hkn, rfl, hA, hR, hbel⟩ := hrel
    have HA := Lib.hid hA
    have HRs := Lib.hid hR
    clear hA hR
    by_cases hlt : k < n
    · have t1 : decide (k < n) = true := decide_eq_true hlt
      by_cases h8 : k < 8
      · have t2 : decide ((k : Int) < 8) = true := decide_eq_true (by omega)
        obtain ⟨b, o, rfl, hbl, hcell⟩ := HR.out.2.resolve_left (by omega)
        have hcK : wr.cell? ⟨b, o + k, none⟩ = some (.int .i64 (xs.getD k 0)) := (hbel.cell (p := ⟨b, o + k, none⟩) hbl).trans (hcell k hlt)
        clear hcell
        have i1 : (0 : Int) ≤ (k : Int) := by omega
        have i2 : (k : Int) < (n : Int) := by omega
        have i3 : (k : Int) < 8 := by omega
        have HX : Hid (nm xs k = cl (xs.getD k 0)) := rfl
        have HU := Lib.hid (upto_set (nm xs) k)
        have hac := HA.out.cell k (by rw [upto_length]; exact h8)
        have haf := HA.out.fz k
        generalize xs.getD k 0 = x at *
        generalize (upto (nm xs) k).getD k 0 = z at *
        have fin : ∀ wx, wx = wr.setCell ⟨w.heap.size + 1, k, none⟩ (.int .i64 (cl x)) → ArrAt wx 121 (w.heap.size + 1) (upto (nm xs) (k + 1)) ∧ ArrAt wx 121 w.heap.size (upto (nm xs) 0) ∧ Below w.heap.size w wx := fun wx hwx => by
          subst hwx
          refine ⟨?_, ?_, hbel.setCell (p := ⟨w.heap.size + 1, k, none⟩) (by show w.heap.size ≤ w.heap.size + 1; omega) _⟩
          · have := HA.out.set k (nm xs k)
            rw [HU.out, HX.out] at this
            exact this
          · unfold ArrAt
            rw [Below.heap_setCell _ _ _ _ (by show w.heap.size ≠ w.heap.size + 1; omega)]
            exact HRs.out
        have FIN := Lib.hid fin
        clear fin
        by_cases hneg : x < 0
        · have t3 : decide (x < 0) = true := decide_eq_true hneg
          have hcl : cl x = 0 := by unfold cl; omega
          rw [hcl] at FIN
          clear hcl
          go_wp2_with fail
          go_roundw
          case rel => exact ⟨k + 1, by omega, by omega, by go_num, FIN.out _ rfl⟩
          case measure => simp [intOf]; omega
        · have t3 : decide (x < 0) = false := decide_eq_false hneg
          by_cases hbig : 1099511627776 < x
          · have t4 : decide (1099511627776 < x) = true := decide_eq_true hbig
            have hcl : cl x = 1099511627776 := by unfold cl; omega
            rw [hcl] at FIN
            clear hcl
            go_wp2_with fail
            go_roundw
            case rel => exact ⟨k + 1, by omega, by omega, by go_num, FIN.out _ rfl⟩
            case measure => simp [intOf]; omega
          · have t4 : decide (1099511627776 < x) = false := decide_eq_false hbig
            have hcl : cl x = x := by unfold cl; omega
            rw [hcl] at FIN
            clear hcl
            go_wp2_with fail
            go_roundw
            case rel => exact ⟨k + 1, by omega, by omega, by go_num, FIN.out _ rfl⟩
            case measure => simp [intOf]; omega
      · have t2 : decide ((k : Int) < 8) = false := decide_eq_false (by omega)
        have hk : k = 8 := by omega
        subst hk
        go_upto_region 11 with (fail)
        go_wp2_with (first
          | refine wpList_load_row rfl 121 _ rfl (w.heap.size + 1) rfl 121 (arrI (upto (nm xs) 8)) (0, 0) _ HA.out Tryz.underlying121 rfl (size8 _ _) ?_
          | refine wpList_store_row rfl 121 _ _ rfl w.heap.size (arrI (upto (nm xs) 8)) rfl rfl 121 (arrI (upto (nm xs) 0)) HRs.out (size8 _ _) (by rw [arrI_size, arrI_size, upto_length, upto_length]) (arrI_one _) ?_)
        have hfin : ArrAt (wr.setRow w.heap.size (arrI (upto (nm xs) 8))) 121 w.heap.size (upto (nm xs) 8) := HRs.out.setRow (by rw [upto_length, upto_length])
        refine bodyPost_ret (v := arr8 (nm xs)) (results_cell_row rfl _ _ w.heap.size 121 (arrI (upto (nm xs) 8)) (0, 0) _ rfl hfin Tryz.underlying121 rfl (size8 _ _)) rfl ⟨by rw [HV.out], below_setRow hbel (Nat.le_refl _) _⟩
    · have t1 : decide (k < n) = false := decide_eq_false hlt
      rw [upto_out xs k (by omega) hk8] at HA
      go_upto_region 11 with (fail)
      go_wp2_with (first
        | refine wpList_load_row rfl 121 _ rfl (w.heap.size + 1) rfl 121 (arrI (upto (nm xs) 8)) (0, 0) _ HA.out Tryz.underlying121 rfl (size8 _ _) ?_
        | refine wpList_store_row rfl 121 _ _ rfl w.heap.size (arrI (upto (nm xs) 8)) rfl rfl 121 (arrI (upto (nm xs) 0)) HRs.out (size8 _ _) (by rw [arrI_size, arrI_size, upto_length, upto_length]) (arrI_one _) ?_)
      have hfin : ArrAt (wr.setRow w.heap.size (arrI (upto (nm xs) 8))) 121 w.heap.size (upto (nm xs) 8) := HRs.out.setRow (by rw [upto_length, upto_length])
      refine bodyPost_ret (v := arr8 (nm xs)) (results_cell_row rfl _ _ w.heap.size 121 (arrI (upto (nm xs) 8)) (0, 0) _ rfl hfin Tryz.underlying121 rfl (size8 _ _)) rfl ⟨by rw [HV.out], below_setRow hbel (Nat.le_refl _) _⟩
end
end Go.Proofs.YtglabahbklpocaaGreat
namespace Go.Proofs.YtglabahbklpocaaGreat
section
open Go.RowKit
set_option maxRecDepth 100000
set_option linter.unusedVariables false
set_option linter.unusedSimpArgs false
/-- The slice at a, n numbers long, holds l, in memory from B on; it has no room, or is a row of its own. -/
structure GrowI (w : World) (B : Nat) (a : Option Addr) (n cap : Nat) (l : List Int) : Prop where
  len : l.length = n
  le : n ≤ cap
  max : cap ≤ maxLen
  row : (n = cap ∧ VecAt w B a l) ∨ w.ownsRow B 3 1 (.slice a n cap) n (l.map (Value.int .i64))
theorem VecAt.grow {w : World} {B : Nat} {a : Option Addr} {l : List Int} (h : VecAt w B a l) (hm : l.length ≤ 1000) : GrowI w B a l.length l.length l := ⟨rfl, Nat.le_refl _, by unfold maxLen; omega, .inl ⟨rfl, h⟩⟩
theorem grow_nil (w : World) (B : Nat) : GrowI w B none 0 0 [] := ⟨rfl, Nat.le_refl _, by unfold maxLen; omega, .inr (World.ownsRow_nil _ _ _ _)⟩
theorem ownsRow_vec {w : World} {B : Nat} {a : Option Addr} {n cap : Nat} {l : List Int} (h : w.ownsRow B 3 1 (.slice a n cap) n (l.map (Value.int .i64))) (hl : l.length = n) : VecAt w B a l := by
  rcases Nat.eq_zero_or_pos n with h0 | hp
  · obtain rfl : l = [] := List.eq_nil_of_length_eq_zero (by omega)
    exact VecAt.nil _ _ _
  · obtain ⟨g, cap', hv, hg, hlt⟩ := h.form hp
    obtain rfl : a = some ⟨g, 0, none⟩ := by simp only [Value.slice.injEq] at hv; exact hv.1
    refine ⟨⟨rfl, .inr ⟨g, 0, rfl, hlt, fun j hj => ?_⟩⟩, .inr ⟨g, rfl, hg, hlt, fun j => h.frozenAt j⟩⟩
    rw [Nat.zero_add, h.cellAt j (by omega), List.getElem?_map, List.getD_eq_getElem?_getD, List.getElem?_eq_getElem hj]
    rfl
theorem GrowI.vec {w : World} {B : Nat} {a : Option Addr} {n cap : Nat} {l : List Int} (h : GrowI w B a n cap l) : VecAt w B a l := by
  rcases h.row with ⟨_, h1⟩ | h1
  · exact h1
  · exact ownsRow_vec h1 h.len
theorem VecAt.below {w w' : World} {B : Nat} {a : Option Addr} {l : List Int} (h : VecAt w B a l) (hb : Below w.heap.size w w') : VecAt w' B a l :=
  ⟨h.reads.below hb, h.own.imp_right fun ⟨g, e1, e2, e3, e4⟩ => ⟨g, e1, e2, Nat.lt_of_lt_of_le e3 hb.size, fun j => (hb.frozen (p := ⟨g, j, none⟩) e3).trans (e4 j)⟩⟩
theorem GrowI.below {w w' : World} {B : Nat} {a : Option Addr} {n cap : Nat} {l : List Int} (h : GrowI w B a n cap l) (hb : Below w.heap.size w w') : GrowI w' B a n cap l := by
  refine ⟨h.len, h.le, h.max, ?_⟩
  rcases h.row with ⟨e, h1⟩ | h1
  · exact .inl ⟨e, h1.below hb⟩
  · exact .inr (h1.kept (row := none) ⟨hb.os, hb.tape, hb.output, hb.size, fun i hi _ => hb.block i hi⟩ (by cases Value.ownBlock (.slice a n cap) <;> simp))
theorem info_int : (Tryz.prog.info? 3).map (fun i => (i.zero, i.size, i.bytes)) = some (some (.int .i64 0), 1, 8) := by kernel_rfl
theorem run_append_int (ty : TypeId) (w : World) (B : Nat) (a : Option Addr) (n cap : Nat) (l : List Int) (h : GrowI w B a n cap l) (hB : B ≤ w.heap.size) (hn : n ≤ 100000) (ad : Addr) (c : Nat) (y : Int) (hy : w.cell? ad = some (.int .i64 y)) :
    ∃ a' cap' w', (Builtin.append_ #[23, 23] ty #[.slice a n cap, .slice (some ad) 1 c]).run Tryz.prog w = .ok (.slice a' (n + 1) cap') w' ∧ GrowI w' B a' (n + 1) cap' (l ++ [y]) ∧ Below B w w' := by
  obtain ⟨i, hi, hii⟩ := Option.map_eq_some_iff.1 info_int
  simp only [Prod.mk.injEq] at hii
  obtain ⟨hz, hsize, hby⟩ := hii
  have hnews : ∀ j u, [Value.int .i64 y][j]? = some u → w.cell? (ad.add j) = some u := fun j u hj => by
    cases j with
    | zero => simp at hj; subst hj; simpa [Addr.add] using hy
    | succ j => simp at hj
  have own : w.ownsRow B 3 1 (.slice a n cap) n (l.map (Value.int .i64)) → ∃ a' cap' w', (Builtin.append_ #[23, 23] ty #[.slice a n cap, .slice (some ad) 1 c]).run Tryz.prog w = .ok (.slice a' (n + 1) cap') w' ∧ GrowI w' B a' (n + 1) cap' (l ++ [y]) ∧ Below B w w' := fun h1 => by
    obtain ⟨v', w', hr, ho, hg, hnil⟩ := run_append_own (P := Tryz.prog) w B 23 ty 3 i (.int .i64 0) 1 8 Tryz.underlying23 hi hz hsize hby rfl (by decide) _ n _ h1 ad 1 c [.int .i64 y] rfl hnews (by intro u hu; simp at hu; subst hu; rfl) (by unfold maxLen; omega) (by omega) hB
    obtain ⟨g, cap', rfl, hgB, hgl⟩ := ho.form (by omega)
    have hcap : n + 1 ≤ cap' ∧ cap' ≤ maxLen := by
      rcases ho.2 with ⟨e, _⟩ | ⟨g', c', cur, e, _, _, h3, h4, _⟩
      · simp at e
      · simp only [Value.slice.injEq, Option.some.injEq, Addr.mk.injEq, and_true, true_and] at e
        obtain ⟨rfl, rfl⟩ := e
        exact ⟨h3, h4⟩
    refine ⟨_, cap', w', hr, ⟨by simp [h.len], hcap.1, hcap.2, .inr (by simpa using ho)⟩, (Below.refl B w).grown hg hB fun k hk => (h1.lt k hk).1⟩
  rcases h.row with ⟨rfl, h1⟩ | h1
  · cases a with
    | none =>
      have h0 : l = [] := by
        rcases h1.own with h0 | ⟨g, e, _⟩
        · exact h0
        · simp at e
      subst h0
      obtain rfl : n = 0 := h.len.symm
      exact own (World.ownsRow_nil _ _ _ _)
    | some b =>
      have holds : ∀ j u, (l.map (Value.int .i64))[j]? = some u → w.cell? (b.add j) = some u := fun j u hj => by
        have hjl : j < l.length := by have := (List.getElem?_eq_some_iff.1 hj).1; simpa using this
        obtain ⟨g, e, _, _, hc, _⟩ := h1.cell j hjl
        obtain rfl : b = ⟨g, 0, none⟩ := by simpa using e
        rw [List.getElem?_map, List.getElem?_eq_getElem hjl] at hj
        simp only [Addr.add_lit, Nat.zero_add]
        rw [hc, List.getD_eq_getElem?_getD, List.getElem?_eq_getElem hjl]
        exact hj
      have hr := run_append_grow (P := Tryz.prog) w 23 ty 3 i (.int .i64 0) Tryz.underlying23 hi hz b n n (l.map (Value.int .i64)) (by rw [hsize]; simp [h.len]) holds ad 1 c [.int .i64 y] (by rw [hsize]; rfl) hnews (by omega) (by omega) (by rw [hby]; exact growslice_fits (by omega) (by omega))
      have hge := grownCap_ge w (n + 1) n 3
      have hcm : grownCap w (n + 1) n 3 ≤ maxLen := grownCap_le_maxLen w (n + 1) n 3 (by unfold maxLen; omega)
      refine ⟨_, _, _, hr, ⟨by simp [h.len], hge, hcm, .inr ⟨by simp [h.len], .inr ⟨w.heap.size, _, _, rfl, hB, heap_alloc_new w.drew _, hge, hcm, ?_, ?_⟩⟩⟩, (Below.refl B w).drew.alloc hB _⟩
      · simp [size_zeroCells, Value.cells, h.len]
        omega
      · have hle : (l.map (Value.int .i64) ++ [Value.int .i64 y]).length = (n + 1) * 1 := by simp [h.len]
        simp only [Array.toList_append, List.map_append, List.map_cons, List.map_nil]
        rw [← hle]
        exact List.take_left
  · exact own h1
theorem wpList_append_int {ops : Array Oper} {rest : List Oper} {o : Oper} {act : Act} {Q : Exit → Act → World → Prop} (hgd : o.guard = none) (s x : Operand)
    (ho : o.op = .call { callee := .builtin .append, args := #[s, x], argTypes := #[23, 23] }) (w : World) (B : Nat) (a : Option Addr) (n cap : Nat) (l : List Int) (hs : act.eval s = .slice a n cap) (h : GrowI w B a n cap l) (hB : B ≤ w.heap.size) (hn : n ≤ 100000)
    (ad : Addr) (c : Nat) (y : Int) (hx : act.eval x = .slice (some ad) 1 c) (hy : w.cell? ad = some (.int .i64 y))
    (hK : ∀ a' cap' w', GrowI w' B a' (n + 1) cap' (l ++ [y]) → Below B w w' → wpList Tryz.prog ops Q rest (act.put o.dst (.slice a' (n + 1) cap')) w') : wpList Tryz.prog ops Q (o :: rest) act w := by
  refine wpList_plain hgd fun K hK' => ?_
  obtain ⟨a', cap', w', hrun, h1, h2⟩ := run_append_int o.type w B a n cap l h hB hn ad c y hy
  unfold Oper.wp
  simp [execOp, ho, resolve, invoke, builtin, hs, hx, hrun, Result.andThen]
  exact hK' _ _ (hK a' cap' w' h1 h2)
end
end Go.Proofs.YtglabahbklpocaaGreat
