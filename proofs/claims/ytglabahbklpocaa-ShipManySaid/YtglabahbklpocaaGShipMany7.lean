/- mark.each with the inner function of mark.Meet. (Printed by wip/meach.py.) Join, Meet, Covers, Compare, Right; the reference's Same. -/
import Derived.Test.YtglabahbklpocaaGShipMany6
import Derived.Deep.QuietTactic
import Derived.BigQuiet
namespace Go.Proofs.Ytglabahbklpocaa
section
open Go.RowKit
set_option maxRecDepth 100000
set_option linter.unusedVariables false
set_option linter.unusedSimpArgs false
theorem of_meet (x y : Int) (w : World) : Calls Try.prog 68 #[.int .i64 x, .int .i64 y] w fun e w' => e = .returned (.int .i64 (min x y)) ∧ w = w' := by
  go_enter Try.func68, Try.ntmps68
  go_wp2
  go_ret
  exact ⟨rfl, rfl⟩
set_option maxHeartbeats 2000000 in
theorem each_meet (a1 a2 : Option Addr) (n1 c1 n2 c2 : Nat) (xs ys : List Int) (w : World) (h1 : ReadsI .i64 w a1 n1 xs) (h2 : ReadsI .i64 w a2 n2 ys) (hc1 : n1 ≤ c1) (hb1 : c1 ≤ 9223372036854775807) (hc2 : n2 ≤ c2) (hb2 : c2 ≤ 9223372036854775807) :
    Calls Try.prog 66 #[.slice a1 n1 c1, .slice a2 n2 c2, .func (.func 68) #[] #[]] w fun e w' => ∃ a', e = .returned (.slice a' (vec fun i => min (nm xs i) (nm ys i)).length (vec fun i => min (nm xs i) (nm ys i)).length) ∧ VecAt w' w.heap.size a' (vec fun i => min (nm xs i) (nm ys i)) ∧ Below w.heap.size w w' := by
  obtain ⟨F, HF⟩ : ∃ F : Nat → Int, Hid (F = fun i => min (nm xs i) (nm ys i)) := ⟨_, rfl⟩
  rw [← HF.out]
  have HFr : Hid (∀ i, 0 ≤ F i ∧ F i ≤ 1099511627776) := fun i => by
    rw [HF.out]
    have h1 := nm_range xs i
    have h2 := nm_range ys i
    show 0 ≤ min _ _ ∧ min _ _ ≤ _
    omega
  have HE : Hid (∀ i, (∃ k : Nat, k < 8 ∧ i = (k : Int)) → ∀ wx, Calls Try.prog 68 #[.int .i64 (atV xs i), .int .i64 (atV ys i)] wx fun e w' => e = .returned (.int .i64 (F i.toNat)) ∧ wx = w') := fun i ⟨k, hk, hik⟩ wx => by
    subst hik
    rw [HF.out, show atV xs (k : Int) = nm xs k by unfold atV; rw [if_pos (by omega)]; rfl, show atV ys (k : Int) = nm ys k by unfold atV; rw [if_pos (by omega)]; rfl]
    exact of_meet _ _ wx
  have H1 := Lib.hid h1
  have H2 := Lib.hid h2
  clear h1 h2
  have hsl := sliceAt_all (P := Try.prog) (T := 72) Try.underlying72 (sz := 1) (fun _ => by kernel_rfl) ⟨w.heap.size, 0, none⟩
  have hsl2 := fun w => hsl w
  go_enter Try.func66, Try.ntmps66
  go_wp2_with fail
  have hA0 : ArrAt (w.alloc (.cells (arrI (upto F 0)) 72)) 72 w.heap.size (upto F 0) := heap_alloc_new w _
  have hu0 : arrI (upto F 0) = #[.int .i64 0, .int .i64 0, .int .i64 0, .int .i64 0, .int .i64 0, .int .i64 0, .int .i64 0, .int .i64 0] := by
    simp [arrI, upto, List.range, List.range.loop]
  rw [hu0] at hA0
  have hB0 := (Below.refl w.heap.size w).alloc (Nat.le_refl _) (.cells #[.int .i64 0, .int .i64 0, .int .i64 0, .int .i64 0, .int .i64 0, .int .i64 0, .int .i64 0, .int .i64 0] 72)
  generalize hw0 : w.alloc _ = w0 at *
  clear hw0 hu0
  go_loopw [9, 8] (fun i _ wr => ∃ k : Nat, k ≤ 8 ∧ i = .int .i64 k ∧ ArrAt wr 72 w.heap.size (upto F k) ∧ Below w.heap.size w wr) (fun i _ _ => 9 - (intOf i).toNat)
  case atStart => exact ⟨0, by omega, rfl, hA0, hB0⟩
  case round =>
    obtain ⟨k, hk, rfl, hat, hbel⟩ := hrel
    have HAT := Lib.hid hat
    clear hat
    by_cases hlt : k < 8
    · have t1 : decide ((k : Int) < 8) = true := decide_eq_true (by omega)
      have i1 : (0 : Int) ≤ (k : Int) := by omega
      have i2 : (k : Int) < 8 := by omega
      go_wp2_with fail
      refine (at_any a1 n1 c1 xs k _ (H1.out.below hbel) hc1 hb1 (by omega) (by omega)).mono ?_
      rintro e w2 ⟨rfl, hb3⟩
      have hA2 := HAT.out.below hb3
      have hbl2 := below_then hbel hbel.size hb3
      go_wp2_with fail
      refine (at_any a2 n2 c2 ys k _ (H2.out.below hbl2) hc2 hb2 (by omega) (by omega)).mono ?_
      rintro e w3 ⟨rfl, hb4⟩
      have hA3 := hA2.below hb4
      have hbl3 := below_then hbl2 hbl2.size hb4
      clear hA2 hbl2 hb3 hb4
      go_wp2_with fail
      refine (HE.out k ⟨k, hlt, rfl⟩ _).mono ?_
      rintro e w4 ⟨rfl, rfl⟩
      rw [Int.toNat_natCast]
      have hcl := hA3.cell k (by rw [upto_length]; omega)
      have hfz := hA3.fz k
      have hA4 := Lib.hid (hA3.set k (F k))
      have HU := Lib.hid (upto_set F k)
      have HB5 := Lib.hid (hbl3)
      clear hA3
      generalize (upto F k).getD k 0 = z at *
      generalize hFk : F k = y at *
      go_wp2_with fail
      go_roundw
      case rel => 
        refine ⟨k + 1, by omega, by go_num, ?_, ?_⟩
        · have := hA4.out
          rw [HU.out] at this
          exact this
        · exact HB5.out.setCell (p := ⟨w.heap.size, k, none⟩) (Nat.le_refl _) _
      case measure => simp [intOf]; omega
    · have t1 : decide ((k : Int) < 8) = false := decide_eq_false (by omega)
      have : k = 8 := by omega
      subst this
      have hrd := HAT.out.reads
      rw [upto_length] at hrd
      have HPU := Lib.hid (pl_upto F fun i _ => HFr.out i)
      go_wp2_with fail
      refine (plain_any (some ⟨w.heap.size, 0, none⟩) 8 8 (upto F 8) _ hrd (by omega) (by omega)).mono ?_
      rintro e w2 ⟨a', rfl, hv, hb3⟩
      rw [HPU.out] at hv ⊢
      go_wp2_with fail
      go_ret
      exact ⟨a', rfl, ⟨hv.reads, hv.own.imp_right fun ⟨g, e1, e2, e3⟩ => ⟨g, e1, Nat.le_trans hbel.size e2, e3⟩⟩, below_then hbel hbel.size hb3⟩
end
end Go.Proofs.Ytglabahbklpocaa
namespace Go.Proofs.Ytglabahbklpocaa
section
open Go.RowKit
set_option maxRecDepth 100000
set_option linter.unusedVariables false
set_option linter.unusedSimpArgs false
theorem VecAt.mono {w : World} {B B' : Nat} {a : Option Addr} {l : List Int} (h : VecAt w B a l) (hB : B' ≤ B) : VecAt w B' a l := ⟨h.reads, h.own.imp_right fun ⟨g, e1, e2, e3⟩ => ⟨g, e1, Nat.le_trans hB e2, e3⟩⟩
theorem joinV_length (xs ys : List Int) : (joinV xs ys).length ≤ 8 := vec_length _
theorem meetV_length (xs ys : List Int) : (meetV xs ys).length ≤ 8 := vec_length _
theorem join_any (a1 a2 : Option Addr) (n1 c1 n2 c2 : Nat) (xs ys : List Int) (w : World) (h1 : ReadsI .i64 w a1 n1 xs) (h2 : ReadsI .i64 w a2 n2 ys) (hc1 : n1 ≤ c1) (hb1 : c1 ≤ 9223372036854775807) (hc2 : n2 ≤ c2) (hb2 : c2 ≤ 9223372036854775807) :
    Calls Try.prog 35 #[.slice a1 n1 c1, .slice a2 n2 c2] w fun e w' => ∃ a', e = .returned (.slice a' (joinV xs ys).length (joinV xs ys).length) ∧ VecAt w' w.heap.size a' (joinV xs ys) ∧ Below w.heap.size w w' := by
  go_enter Try.func35, Try.ntmps35
  go_wp2_with fail
  refine (each_join a1 a2 n1 c1 n2 c2 xs ys w h1 h2 hc1 hb1 hc2 hb2).mono ?_
  rintro e w1 ⟨a', rfl, hv, hb⟩
  go_wp2
  go_ret
  exact ⟨a', rfl, hv, hb⟩
theorem meet_any (a1 a2 : Option Addr) (n1 c1 n2 c2 : Nat) (xs ys : List Int) (w : World) (h1 : ReadsI .i64 w a1 n1 xs) (h2 : ReadsI .i64 w a2 n2 ys) (hc1 : n1 ≤ c1) (hb1 : c1 ≤ 9223372036854775807) (hc2 : n2 ≤ c2) (hb2 : c2 ≤ 9223372036854775807) :
    Calls Try.prog 39 #[.slice a1 n1 c1, .slice a2 n2 c2] w fun e w' => ∃ a', e = .returned (.slice a' (meetV xs ys).length (meetV xs ys).length) ∧ VecAt w' w.heap.size a' (meetV xs ys) ∧ Below w.heap.size w w' := by
  go_enter Try.func39, Try.ntmps39
  go_wp2_with fail
  refine (each_meet a1 a2 n1 c1 n2 c2 xs ys w h1 h2 hc1 hb1 hc2 hb2).mono ?_
  rintro e w1 ⟨a', rfl, hv, hb⟩
  go_wp2
  go_ret
  exact ⟨a', rfl, hv, hb⟩
theorem right_any (a : Option Addr) (n c : Nat) (xs : List Int) (w : World) (h : ReadsI .i64 w a n xs) (hnc : n ≤ c) (hcb : c ≤ 9223372036854775807) :
    Calls Try.prog 78 #[.slice a n c] w fun e w' => e = .returned (.bool (decide (xs = pl xs))) ∧ Below w.heap.size w w' := by
  have hl8 := pl_length xs
  go_enter Try.func78, Try.ntmps78
  go_wp2_with fail
  refine (plain_any a n c xs w h hnc hcb).mono ?_
  rintro e w1 ⟨a', rfl, hv, hb⟩
  go_wp2_with fail
  refine (equal_any a a' n (pl xs).length c (pl xs).length xs (pl xs) _ (h.below hb) hv.reads (by omega) (by omega)).mono ?_
  rintro e w2 ⟨rfl, hb2⟩
  go_wp2
  go_ret
  exact ⟨rfl, below_then hb hb.size hb2⟩
theorem covers_any (a1 a2 : Option Addr) (n1 c1 n2 c2 : Nat) (xs ys : List Int) (w : World) (h1 : ReadsI .i64 w a1 n1 xs) (h2 : ReadsI .i64 w a2 n2 ys) (hc1 : n1 ≤ c1) (hb1 : c1 ≤ 9223372036854775807) (hc2 : n2 ≤ c2) (hb2 : c2 ≤ 9223372036854775807) :
    Calls Try.prog 34 #[.slice a1 n1 c1, .slice a2 n2 c2] w fun e w' => e = .returned (.bool (covV xs ys)) ∧ Below w.heap.size w w' := by
  have hl8 := pl_length xs
  have hj8 := joinV_length xs ys
  rw [← covV_iff]
  go_enter Try.func34, Try.ntmps34
  go_wp2_with fail
  refine (join_any a1 a2 n1 c1 n2 c2 xs ys w h1 h2 hc1 hb1 hc2 hb2).mono ?_
  rintro e w1 ⟨a', rfl, hv, hb⟩
  go_wp2_with fail
  refine (plain_any a1 n1 c1 xs _ (h1.below hb) hc1 hb1).mono ?_
  rintro e w2 ⟨a'', rfl, hv2, hb'⟩
  have hr1 := hv.reads.below hb'
  go_wp2_with fail
  refine (equal_any a' a'' _ _ _ _ (joinV xs ys) (pl xs) _ hr1 hv2.reads (by omega) (by omega)).mono ?_
  rintro e w3 ⟨rfl, hb3⟩
  go_wp2
  go_ret
  have hbb := below_then hb hb.size hb'
  exact ⟨rfl, below_then hbb hbb.size hb3⟩
theorem below_drewN {B : Nat} {w0 w : World} (h : Below B w0 w) (n : Nat) : Below B w0 (w.drewN n) := ⟨h.os, h.tape, h.output, h.size, h.block⟩
theorem ReadsI.at {k : IntKind} {w w' : World} {a : Option Addr} {n : Nat} {xs : List Int} (h : ReadsI k w a n xs) (hb : Below w.heap.size w w') (i : Nat) (hi : i < n) : ∃ b o, a = some ⟨b, o, none⟩ ∧ b < w.heap.size ∧ w'.cell? ⟨b, o + i, none⟩ = some (.int k (xs.getD i 0)) := by
  obtain ⟨_, h2⟩ := h
  obtain ⟨b, o, h3, h4, h5⟩ := h2.resolve_left (by omega)
  exact ⟨b, o, h3, h4, (hb.cell (p := ⟨b, o + i, none⟩) h4).trans (h5 i hi)⟩
theorem list_ext_getD {xs ys : List Int} (hl : xs.length = ys.length) (h : ∀ j, j < xs.length → xs.getD j 0 = ys.getD j 0) : xs = ys := by
  apply List.ext_getElem hl
  intro i h1 h2
  have := h i h1
  simpa [List.getD_eq_getElem?_getD, h1, h2] using this
set_option maxHeartbeats 1000000 in
theorem same_any (a1 a2 : Option Addr) (n1 c1 n2 c2 : Nat) (xs ys : List Int) (w : World) (h1 : ReadsI .i64 w a1 n1 xs) (h2 : ReadsI .i64 w a2 n2 ys) (hc1 : n1 ≤ c1) (hb1 : c1 ≤ 9223372036854775807) (hc2 : n2 ≤ c2) (hb2 : c2 ≤ 9223372036854775807) :
    Calls Try.prog 17 #[.slice a1 n1 c1, .slice a2 n2 c2] w fun e w' => e = .returned (.bool (decide (xs = ys))) ∧ Below w.heap.size w w' := by
  obtain ⟨V, HV⟩ : ∃ V, Hid (V = decide (xs = ys)) := ⟨_, rfl⟩
  rw [← HV.out]
  have hl1 := h1.1
  have hl2 := h2.1
  have H1 := Lib.hid h1
  have H2 := Lib.hid h2
  clear h1 h2
  by_cases hne : n1 = n2
  · subst hne
    have t0 : (n1 == n1) = true := by simp
    go_enter Try.func17, Try.ntmps17
    go_wp2_with fail
    go_loopw [5] (fun i wr => ∃ k : Nat, k ≤ n1 ∧ i = .int .i64 k ∧ (∀ j, j < k → xs.getD j 0 = ys.getD j 0) ∧ Below w.heap.size w wr) (fun i _ => (n1 + 1) - (intOf i).toNat)
    case atStart => exact ⟨0, by omega, rfl, fun j hj => by omega, Below.refl _ _⟩
    case round =>
      obtain ⟨k, hk, rfl, heq, hbel⟩ := hrel
      have HQ := Lib.hid heq
      clear heq
      by_cases hlt : k < n1
      · have t1 : decide (k < n1) = true := decide_eq_true hlt
        obtain ⟨b, o, rfl, _, hx⟩ := H1.out.at hbel k hlt
        obtain ⟨b', o', rfl, _, hy⟩ := H2.out.at hbel k hlt
        have i1 : (0 : Int) ≤ (k : Int) := by omega
        have i2 : (k : Int) < (n1 : Int) := by omega
        by_cases hxy : xs.getD k 0 = ys.getD k 0
        · have hy2 := hxy ▸ hy
          have HQ2 : Hid (∀ j, j < k + 1 → xs.getD j 0 = ys.getD j 0) := fun j hj => by
            rcases Nat.lt_or_ge j k with h | h
            · exact HQ.out j h
            · obtain rfl : j = k := by omega
              exact hxy
          clear hy hxy
          have e1 : (xs.getD k 0 == xs.getD k 0) = true := beq_self_eq_true _
          have hbd := fun q => below_drewN hbel q
          generalize xs.getD k 0 = x at *
          go_wp2_with fail
          go_quiet (fail)
          go_wp2_with fail
          go_roundw
          case rel => exact ⟨k + 1, by omega, by go_num, HQ2.out, below_drewN hbel _⟩
          case measure => simp [intOf]; omega
        · have e1 : (xs.getD k 0 == ys.getD k 0) = false := beq_eq_false_iff_ne.2 hxy
          have hV : Hid (V = false) := by
            show _ = _
            rw [HV.out, decide_eq_false]
            intro h
            exact hxy (by rw [h])
          generalize xs.getD k 0 = x at *
          generalize ys.getD k 0 = y at *
          go_wp2_with fail
          go_quiet (fail)
          go_wp2_with fail
          go_ret
          exact ⟨by rw [hV.out]; rfl, below_drewN hbel _⟩
      · have t1 : decide (k < n1) = false := decide_eq_false hlt
        have hV : Hid (V = true) := by
          show _ = _
          rw [HV.out, decide_eq_true]
          exact list_ext_getD (by omega) (fun j hj => HQ.out j (by omega))
        go_wp2_with fail
        go_ret
        exact ⟨by rw [hV.out]; rfl, hbel⟩
  · have t0 : ((n1 : Int) == (n2 : Int)) = false := by simp; omega
    have t00 : (n1 == n2) = false := by simp; omega
    have hV : Hid (V = false) := by
      show _ = _
      rw [HV.out, decide_eq_false]
      intro h
      exact hne (by rw [← hl1, ← hl2, h])
    go_enter Try.func17, Try.ntmps17
    go_wp2_with fail
    go_ret
    exact ⟨by rw [hV.out]; rfl, Below.refl _ _⟩
end
end Go.Proofs.Ytglabahbklpocaa
