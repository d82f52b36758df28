/- mark.each with the inner function of mark.Meet. (Printed by wip/meach.py.) -/
import Derived.Test.YtglabahbklpocaaGShipPeers8
namespace Go.Proofs.Ytglabahbklpocaa
section
open Go.RowKit
set_option maxRecDepth 100000
set_option linter.unusedVariables false
set_option linter.unusedSimpArgs false
theorem of_meet (x y : Int) (w : World) : Calls Try.prog 68 #[.int .i64 x, .int .i64 y] w fun e w' => e = .returned (.int .i64 (min x y)) ∧ w = w' := by
  go_enter Try.func68, Try.ntmps68
  go_wp2
  go_ret
  exact ⟨rfl, rfl⟩
set_option maxHeartbeats 2000000 in
theorem each_meet (a1 a2 : Option Addr) (n1 c1 n2 c2 : Nat) (xs ys : List Int) (w : World) (h1 : ReadsI .i64 w a1 n1 xs) (h2 : ReadsI .i64 w a2 n2 ys) (hc1 : n1 ≤ c1) (hb1 : c1 ≤ 9223372036854775807) (hc2 : n2 ≤ c2) (hb2 : c2 ≤ 9223372036854775807) :
    Calls Try.prog 66 #[.slice a1 n1 c1, .slice a2 n2 c2, .func (.func 68) #[] #[]] w fun e w' => ∃ a', e = .returned (.slice a' (vec fun i => min (nm xs i) (nm ys i)).length (vec fun i => min (nm xs i) (nm ys i)).length) ∧ VecAt w' w.heap.size a' (vec fun i => min (nm xs i) (nm ys i)) ∧ Below w.heap.size w w' := by
  obtain ⟨F, HF⟩ : ∃ F : Nat → Int, Hid (F = fun i => min (nm xs i) (nm ys i)) := ⟨_, rfl⟩
  rw [← HF.out]
  have HFr : Hid (∀ i, 0 ≤ F i ∧ F i ≤ 1099511627776) := fun i => by
    rw [HF.out]
    have h1 := nm_range xs i
    have h2 := nm_range ys i
    show 0 ≤ min _ _ ∧ min _ _ ≤ _
    omega
  have HE : Hid (∀ i, (∃ k : Nat, k < 8 ∧ i = (k : Int)) → ∀ wx, Calls Try.prog 68 #[.int .i64 (atV xs i), .int .i64 (atV ys i)] wx fun e w' => e = .returned (.int .i64 (F i.toNat)) ∧ wx = w') := fun i ⟨k, hk, hik⟩ wx => by
    subst hik
    rw [HF.out, show atV xs (k : Int) = nm xs k by unfold atV; rw [if_pos (by omega)]; rfl, show atV ys (k : Int) = nm ys k by unfold atV; rw [if_pos (by omega)]; rfl]
    exact of_meet _ _ wx
  have H1 := Lib.hid h1
  have H2 := Lib.hid h2
  clear h1 h2
  have hsl := sliceAt_all (P := Try.prog) (T := 72) Try.underlying72 (sz := 1) (fun _ => by kernel_rfl) ⟨w.heap.size, 0, none⟩
  have hsl2 := fun w => hsl w
  go_enter Try.func66, Try.ntmps66
  go_wp2_with fail
  have hA0 : ArrAt (w.alloc (.cells (arrI (upto F 0)) 72)) 72 w.heap.size (upto F 0) := heap_alloc_new w _
  have hu0 : arrI (upto F 0) = #[.int .i64 0, .int .i64 0, .int .i64 0, .int .i64 0, .int .i64 0, .int .i64 0, .int .i64 0, .int .i64 0] := by
    simp [arrI, upto, List.range, List.range.loop]
  rw [hu0] at hA0
  have hB0 := (Below.refl w.heap.size w).alloc (Nat.le_refl _) (.cells #[.int .i64 0, .int .i64 0, .int .i64 0, .int .i64 0, .int .i64 0, .int .i64 0, .int .i64 0, .int .i64 0] 72)
  generalize hw0 : w.alloc _ = w0 at *
  clear hw0 hu0
  go_loopw [9, 8] (fun i _ wr => ∃ k : Nat, k ≤ 8 ∧ i = .int .i64 k ∧ ArrAt wr 72 w.heap.size (upto F k) ∧ Below w.heap.size w wr) (fun i _ _ => 9 - (intOf i).toNat)
  case atStart => exact ⟨0, by omega, rfl, hA0, hB0⟩
  case round =>
    obtain ⟨k, hk, rfl, hat, hbel⟩ := hrel
    have HAT := Lib.hid hat
    clear hat
    by_cases hlt : k < 8
    · have t1 : decide ((k : Int) < 8) = true := decide_eq_true (by omega)
      have i1 : (0 : Int) ≤ (k : Int) := by omega
      have i2 : (k : Int) < 8 := by omega
      go_wp2_with fail
      refine (at_any a1 n1 c1 xs k _ (H1.out.below hbel) hc1 hb1 (by omega) (by omega)).mono ?_
      rintro e w2 ⟨rfl, hb3⟩
      have hA2 := HAT.out.below hb3
      have hbl2 := below_then hbel hbel.size hb3
      go_wp2_with fail
      refine (at_any a2 n2 c2 ys k _ (H2.out.below hbl2) hc2 hb2 (by omega) (by omega)).mono ?_
      rintro e w3 ⟨rfl, hb4⟩
      have hA3 := hA2.below hb4
      have hbl3 := below_then hbl2 hbl2.size hb4
      clear hA2 hbl2 hb3 hb4
      go_wp2_with fail
      refine (HE.out k ⟨k, hlt, rfl⟩ _).mono ?_
      rintro e w4 ⟨rfl, rfl⟩
      rw [Int.toNat_natCast]
      have hcl := hA3.cell k (by rw [upto_length]; omega)
      have hfz := hA3.fz k
      have hA4 := Lib.hid (hA3.set k (F k))
      have HU := Lib.hid (upto_set F k)
      have HB5 := Lib.hid (hbl3)
      clear hA3
      generalize (upto F k).getD k 0 = z at *
      generalize hFk : F k = y at *
      go_wp2_with fail
      go_roundw
      case rel => 
        refine ⟨k + 1, by omega, by go_num, ?_, ?_⟩
        · have := hA4.out
          rw [HU.out] at this
          exact this
        · exact HB5.out.setCell (p := ⟨w.heap.size, k, none⟩) (Nat.le_refl _) _
      case measure => simp [intOf]; omega
    · have t1 : decide ((k : Int) < 8) = false := decide_eq_false (by omega)
      have : k = 8 := by omega
      subst this
      have hrd := HAT.out.reads
      rw [upto_length] at hrd
      have HPU := Lib.hid (pl_upto F fun i _ => HFr.out i)
      go_wp2_with fail
      refine (plain_any (some ⟨w.heap.size, 0, none⟩) 8 8 (upto F 8) _ hrd (by omega) (by omega)).mono ?_
      rintro e w2 ⟨a', rfl, hv, hb3⟩
      rw [HPU.out] at hv ⊢
      go_wp2_with fail
      go_ret
      exact ⟨a', rfl, ⟨hv.reads, hv.own.imp_right fun ⟨g, e1, e2, e3⟩ => ⟨g, e1, Nat.le_trans hbel.size e2, e3⟩⟩, below_then hbel hbel.size hb3⟩
end
end Go.Proofs.Ytglabahbklpocaa
