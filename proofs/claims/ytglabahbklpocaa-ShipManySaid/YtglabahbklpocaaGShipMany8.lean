/- The reference's 'all': the numbers of the 8 sites. -/
import Derived.Test.YtglabahbklpocaaGShipMany6
import Derived.Deep.DeepCutAuto
import Derived.Deep.CutBlock
namespace Go.Proofs.Ytglabahbklpocaa
section
open Go.RowKit
set_option maxRecDepth 100000
set_option linter.unusedVariables false
set_option linter.unusedSimpArgs false
/-- The array of the numbers of the 8 sites. -/
def arr8 (f : Nat → Int) : Value := .agg (arrI (upto f 8))
theorem arrI_size (l : List Int) : (arrI l).size = l.length := by simp [arrI]
theorem arrI_one (l : List Int) : (arrI l).all (·.oneCell') = true := by
  simp [arrI, Array.all_eq_true]
  intro i hi
  rfl
theorem info_arr8 : (Try.prog.info? 72).map (·.size) = some 8 := by kernel_rfl
theorem nm_out (xs : List Int) (i : Nat) (h : xs.length ≤ i) : nm xs i = 0 := by unfold nm; rw [getD_out h]; rfl
theorem upto_out (xs : List Int) (k : Nat) (h : xs.length ≤ k) (h8 : k ≤ 8) : upto (nm xs) k = upto (nm xs) 8 := by
  unfold upto
  apply List.map_congr_left
  intro i hi
  simp at hi
  by_cases h1 : i < k
  · rw [if_pos h1, if_pos hi]
  · rw [if_neg h1, if_pos hi, nm_out xs i (by omega)]
theorem ArrAt.setRow {T : TypeId} {w : World} {g : Nat} {l m : List Int} (h : ArrAt w T g l) (hl : m.length = l.length) : ArrAt (w.setRow g (arrI m)) T g m :=
  setRow_heap w g _ _ _ _ h
theorem below_setRow {B : Nat} {a w : World} (h : Below B a w) {g : Nat} (hg : B ≤ g) (cs : Array Value) : Below B a (w.setRow g cs) :=
  ⟨h.os, h.tape, h.output, by have := h.size; simpa [World.setRow] using this, fun k hk => (setRow_other w g k cs (by omega)).trans (h.block k hk)⟩
theorem size8 (f : Nat → Int) (k : Nat) : (Try.prog.info? 72).map (·.size) = some (arrI (upto f k)).size := by rw [info_arr8, arrI_size, upto_length]
set_option maxHeartbeats 2000000 in
theorem rall_any (a : Option Addr) (n c : Nat) (xs : List Int) (w : World) (h : ReadsI .i64 w a n xs) (hnc : n ≤ c) (hcb : c ≤ 9223372036854775807) :
    Calls Try.prog 43 #[.slice a n c] w fun e w' => e = .returned (arr8 (nm xs)) ∧ Below w.heap.size w w' := by
  have hlen := h.1
  have HR := Lib.hid h
  clear h
  obtain ⟨V, HV⟩ : ∃ V, Hid (V = arr8 (nm xs)) := ⟨_, rfl⟩
  rw [← HV.out]
  go_enter Try.func43, Try.ntmps43
  go_wp2_with fail
  have hz : arrI (upto (nm xs) 0) = #[.int .i64 0, .int .i64 0, .int .i64 0, .int .i64 0, .int .i64 0, .int .i64 0, .int .i64 0, .int .i64 0] := by
    simp [arrI, upto, List.range, List.range.loop]
  have hB0 := ((Below.refl w.heap.size w).alloc (Nat.le_refl _) (.cells (arrI (upto (nm xs) 0)) 72)).alloc (by simp) (.cells (arrI (upto (nm xs) 0)) 72)
  have hA0 : ArrAt ((w.alloc (.cells (arrI (upto (nm xs) 0)) 72)).alloc (.cells (arrI (upto (nm xs) 0)) 72)) 72 (w.heap.size + 1) (upto (nm xs) 0) := by
    have := heap_alloc_new (w.alloc (.cells (arrI (upto (nm xs) 0)) 72)) (.cells (arrI (upto (nm xs) 0)) 72)
    unfold ArrAt
    simpa using this
  have hR0 : ArrAt ((w.alloc (.cells (arrI (upto (nm xs) 0)) 72)).alloc (.cells (arrI (upto (nm xs) 0)) 72)) 72 w.heap.size (upto (nm xs) 0) := by
    unfold ArrAt
    rw [heap_alloc_old (h := by simp)]
    exact heap_alloc_new w _
  rw [hz] at hB0 hA0 hR0
  generalize hw0 : (w.alloc _).alloc _ = w0 at *
  clear hw0 hz
  have INIT := Lib.hid (And.intro hA0 (And.intro hR0 hB0))
  clear hA0 hR0 hB0
  go_loopw [4, 5] (fun i _ wr => ∃ k : Nat, k ≤ 8 ∧ k ≤ n ∧ i = .int .i64 k ∧ ArrAt wr 72 (w.heap.size + 1) (upto (nm xs) k) ∧ ArrAt wr 72 w.heap.size (upto (nm xs) 0) ∧ Below w.heap.size w wr) (fun i _ _ => 9 - (intOf i).toNat)
  case atStart => exact ⟨0, by omega, by omega, rfl, INIT.out⟩
  case round =>
    obtain ⟨k, hk8, hkn, rfl, hA, hR, hbel⟩ := hrel
    have HA := Lib.hid hA
    have HRs := Lib.hid hR
    clear hA hR
    by_cases hlt : k < n
    · have t1 : decide (k < n) = true := decide_eq_true hlt
      by_cases h8 : k < 8
      · have t2 : decide ((k : Int) < 8) = true := decide_eq_true (by omega)
        obtain ⟨b, o, rfl, hbl, hcell⟩ := HR.out.2.resolve_left (by omega)
        have hcK : wr.cell? ⟨b, o + k, none⟩ = some (.int .i64 (xs.getD k 0)) := (hbel.cell (p := ⟨b, o + k, none⟩) hbl).trans (hcell k hlt)
        clear hcell
        have i1 : (0 : Int) ≤ (k : Int) := by omega
        have i2 : (k : Int) < (n : Int) := by omega
        have i3 : (k : Int) < 8 := by omega
        have HX : Hid (nm xs k = cl (xs.getD k 0)) := rfl
        have HU := Lib.hid (upto_set (nm xs) k)
        have hac := HA.out.cell k (by rw [upto_length]; exact h8)
        have haf := HA.out.fz k
        generalize xs.getD k 0 = x at *
        generalize (upto (nm xs) k).getD k 0 = z at *
        have fin : ∀ wx, wx = wr.setCell ⟨w.heap.size + 1, k, none⟩ (.int .i64 (cl x)) → ArrAt wx 72 (w.heap.size + 1) (upto (nm xs) (k + 1)) ∧ ArrAt wx 72 w.heap.size (upto (nm xs) 0) ∧ Below w.heap.size w wx := fun wx hwx => by
          subst hwx
          refine ⟨?_, ?_, hbel.setCell (p := ⟨w.heap.size + 1, k, none⟩) (by show w.heap.size ≤ w.heap.size + 1; omega) _⟩
          · have := HA.out.set k (nm xs k)
            rw [HU.out, HX.out] at this
            exact this
          · unfold ArrAt
            rw [Below.heap_setCell _ _ _ _ (by show w.heap.size ≠ w.heap.size + 1; omega)]
            exact HRs.out
        have FIN := Lib.hid fin
        clear fin
        by_cases hneg : x < 0
        · have t3 : decide (x < 0) = true := decide_eq_true hneg
          have hcl : cl x = 0 := by unfold cl; omega
          rw [hcl] at FIN
          clear hcl
          go_wp2_with fail
          go_roundw
          case rel => exact ⟨k + 1, by omega, by omega, by go_num, FIN.out _ rfl⟩
          case measure => simp [intOf]; omega
        · have t3 : decide (x < 0) = false := decide_eq_false hneg
          by_cases hbig : 1099511627776 < x
          · have t4 : decide (1099511627776 < x) = true := decide_eq_true hbig
            have hcl : cl x = 1099511627776 := by unfold cl; omega
            rw [hcl] at FIN
            clear hcl
            go_wp2_with fail
            go_roundw
            case rel => exact ⟨k + 1, by omega, by omega, by go_num, FIN.out _ rfl⟩
            case measure => simp [intOf]; omega
          · have t4 : decide (1099511627776 < x) = false := decide_eq_false hbig
            have hcl : cl x = x := by unfold cl; omega
            rw [hcl] at FIN
            clear hcl
            go_wp2_with fail
            go_roundw
            case rel => exact ⟨k + 1, by omega, by omega, by go_num, FIN.out _ rfl⟩
            case measure => simp [intOf]; omega
      · have t2 : decide ((k : Int) < 8) = false := decide_eq_false (by omega)
        have hk : k = 8 := by omega
        subst hk
        go_upto_region 11 with (fail)
        go_wp2_with (first
          | refine wpList_load_row rfl 72 _ rfl (w.heap.size + 1) rfl 72 (arrI (upto (nm xs) 8)) (0, 0) _ HA.out Try.underlying72 rfl (size8 _ _) ?_
          | refine wpList_store_row rfl 72 _ _ rfl w.heap.size (arrI (upto (nm xs) 8)) rfl rfl 72 (arrI (upto (nm xs) 0)) HRs.out (size8 _ _) (by rw [arrI_size, arrI_size, upto_length, upto_length]) (arrI_one _) ?_)
        have hfin : ArrAt (wr.setRow w.heap.size (arrI (upto (nm xs) 8))) 72 w.heap.size (upto (nm xs) 8) := HRs.out.setRow (by rw [upto_length, upto_length])
        refine bodyPost_ret (v := arr8 (nm xs)) (results_cell_row rfl _ _ w.heap.size 72 (arrI (upto (nm xs) 8)) (0, 0) _ rfl hfin Try.underlying72 rfl (size8 _ _)) rfl ⟨by rw [HV.out], below_setRow hbel (Nat.le_refl _) _⟩
    · have t1 : decide (k < n) = false := decide_eq_false hlt
      rw [upto_out xs k (by omega) hk8] at HA
      go_upto_region 11 with (fail)
      go_wp2_with (first
        | refine wpList_load_row rfl 72 _ rfl (w.heap.size + 1) rfl 72 (arrI (upto (nm xs) 8)) (0, 0) _ HA.out Try.underlying72 rfl (size8 _ _) ?_
        | refine wpList_store_row rfl 72 _ _ rfl w.heap.size (arrI (upto (nm xs) 8)) rfl rfl 72 (arrI (upto (nm xs) 0)) HRs.out (size8 _ _) (by rw [arrI_size, arrI_size, upto_length, upto_length]) (arrI_one _) ?_)
      have hfin : ArrAt (wr.setRow w.heap.size (arrI (upto (nm xs) 8))) 72 w.heap.size (upto (nm xs) 8) := HRs.out.setRow (by rw [upto_length, upto_length])
      refine bodyPost_ret (v := arr8 (nm xs)) (results_cell_row rfl _ _ w.heap.size 72 (arrI (upto (nm xs) 8)) (0, 0) _ rfl hfin Try.underlying72 rfl (size8 _ _)) rfl ⟨by rw [HV.out], below_setRow hbel (Nat.le_refl _) _⟩
end
end Go.Proofs.Ytglabahbklpocaa
