/- mark.Text, few, and the chapter's examples. -/
import Derived.Test.YtglabahbklpocaaGShipTurns11
import Derived.Test.YtglabahbklpocaaGShipTurns37
import Derived.Test.YtglabahbklpocaaGShipTurns3
import Derived.Test.YtglabahbklpocaaGShipTurns17
import Derived.Test.YtglabahbklpocaaGShipTurns21
namespace Go.Proofs.Ytglabahbklpocaa
section
open Go.RowKit
set_option maxRecDepth 100000
set_option linter.unusedVariables false
set_option linter.unusedSimpArgs false
def mcat (p : List Int) : List UInt8 := p.flatMap (putB 9)
def mtB (p : List Int) : List UInt8 := putB 9 p.length ++ mcat p
theorem mcat_append (xs ys : List Int) : mcat (xs ++ ys) = mcat xs ++ mcat ys := by simp [mcat]
theorem mcat_one (x : Int) : mcat [x] = putB 9 x := by simp [mcat]
theorem vput_putB (n : Int) : (vput n).size = (putB 9 n).length := rfl
theorem putB_le (n : Int) : (putB 9 n).length ≤ 10 := by simp only [putB, List.length_map]; exact putI_le 9 n
theorem mcat_length (xs : List Int) : (mcat xs).length ≤ 10 * xs.length := by
  induction xs with
  | nil => simp [mcat]
  | cons x r ih =>
    rw [show x :: r = [x] ++ r from rfl, mcat_append, mcat_one, List.length_append, List.length_append]
    have := putB_le x
    simp; omega
theorem take_snoc_getD (xs : List Int) (k : Nat) (h : k < xs.length) : xs.take (k + 1) = xs.take k ++ [xs.getD k 0] := by
  rw [List.take_succ_eq_append_getElem h]; simp [List.getD_eq_getElem?_getD, h]
theorem pl_range (xs : List Int) (k : Nat) : 0 ≤ (pl xs).getD k 0 ∧ (pl xs).getD k 0 ≤ 1099511627776 := by
  rw [pl_getD]
  split
  · exact nm_range xs k
  · exact ⟨by decide, by decide⟩
set_option maxHeartbeats 2000000 in
theorem mtext_any (a : Option Addr) (n c : Nat) (xs : List Int) (w : World) (h : ReadsI .i64 w a n xs) (hnc : n ≤ c) (hcb : c ≤ 9223372036854775807) :
    Calls Try.prog 50 #[.slice a n c] w fun e w' => e = .returned (.string ⟨(mtB (pl xs)).toArray⟩) ∧ Below w.heap.size w w' := by
  have hl8 := pl_length xs
  have HRng := Lib.hid (pl_range xs)
  obtain ⟨P, HP⟩ : ∃ P, Hid (P = pl xs) := ⟨_, rfl⟩
  rw [← HP.out]
  go_enter Try.func50, Try.ntmps50
  go_wp2_with fail
  refine (plain_any a n c xs w h hnc hcb).mono ?_
  rintro e w1 ⟨a', rfl, hv, hb⟩
  rw [← HP.out] at hv hl8 HRng ⊢
  clear HP
  have HV := Lib.hid hv.reads
  clear hv
  have hsz := hb.size
  have hwr : IntKind.u64.wrap (P.length : Int) = P.length := by rw [wrap_u64]; omega
  go_wp2_with fail
  refine (put_any _ _ (by omega) (by omega)).mono ?_
  rintro e w2 ⟨rfl, hb2⟩
  have HB1 : BldAt w1.heap.size w1.heap.size [] w2 := bld_below (bld_fresh w1) hb2
  have hbl : Below w.heap.size w w2 := below_then (hb.alloc hb.size _) (Nat.le_trans hb.size (by simp)) hb2
  have hbl1 : Below w1.heap.size w1 w2 := below_then ((Below.refl _ _).alloc (Nat.le_refl _) _) (by simp) hb2
  have hgl0 : w1.heap.size < w2.heap.size := by
    have := hb2.size
    simp at this
    omega
  clear hb2
  have hvz := vput_putB (P.length : Int)
  have hvz2 := putB_le (P.length : Int)
  go_wp2_with fail
  refine (bld_write _ _ _ _ _ HB1 (by rw [hvz]; simp; omega) hbl1.size).mono ?_
  rintro e w3 ⟨rfl, hbld2, hb3⟩
  have hbl2 := hbl1.trans hb3
  have hbl3 : Below w.heap.size w w3 := hbl.trans (hb3.mono hb.size)
  have HB2 : Hid (BldAt w1.heap.size w1.heap.size (putB 9 P.length ++ mcat (P.take 0)) w3) := by
    have e : mcat (P.take 0) = [] := by simp [mcat]
    rw [e, List.append_nil]
    rw [vput_data, List.nil_append] at hbld2
    exact hbld2
  have hgl : w1.heap.size < w3.heap.size := by have := hb3.size; omega
  clear hbld2 hb3 HB1 hbl1 hbl hgl0
  go_wp2_with fail
  go_loopw [16, 6] (fun i _ wr => ∃ k : Nat, k ≤ P.length ∧ i = .int .i64 k ∧ BldAt w1.heap.size w1.heap.size (putB 9 P.length ++ mcat (P.take k)) wr ∧ Below w1.heap.size w1 wr ∧ Below w.heap.size w wr ∧ w1.heap.size < wr.heap.size) (fun i _ _ => P.length - (intOf i).toNat)
  case atStart => exact ⟨0, by omega, rfl, HB2.out, hbl2, hbl3, hgl⟩
  case round =>
    obtain ⟨k, hk, rfl, hbld, hbel, hbw, hsz2⟩ := hrel
    have HB := Lib.hid hbld
    clear hbld
    by_cases hlt : k < P.length
    · have t1 : decide (k < P.length) = true := decide_eq_true hlt
      obtain ⟨b, o, rfl, hblt, hc1⟩ := HV.out.at hbel k hlt
      have hx := HRng.out k
      have HT := Lib.hid (take_snoc_getD P k hlt)
      have HL2 : (putB 9 P.length ++ mcat (P.take k)).length ≤ 100 := by
        have := mcat_length (P.take k)
        rw [List.length_take] at this
        rw [List.length_append]
        omega
      have i1 : (0 : Int) ≤ (k : Int) := by omega
      have i2 : (k : Int) < (P.length : Int) := by omega
      have hwx : IntKind.u64.wrap (P.getD k 0) = P.getD k 0 := by rw [wrap_u64]; omega
      generalize P.getD k 0 = x at *
      go_wp2_with fail
      refine (put_any _ _ (by omega) (by omega)).mono ?_
      rintro e w4 ⟨rfl, hb1⟩
      have hp9 := putB_le x
      have e9 := vput_putB x
      go_wp2_with fail
      refine (bld_write _ _ _ _ _ (bld_below HB.out hb1) (by omega) (Nat.le_trans hbel.size hb1.size)).mono ?_
      rintro e w5 ⟨rfl, hbld2, hb2⟩
      have hbel2 := (below_then hbel hbel.size hb1).trans hb2
      have hbw2 := (below_then hbw hbw.size hb1).trans (hb2.mono hsz)
      have hsz3 : w1.heap.size < w5.heap.size := by have := hb1.size; have := hb2.size; omega
      have HN : Hid (BldAt w1.heap.size w1.heap.size (putB 9 P.length ++ mcat (P.take (k + 1))) w5) := by
        rw [HT.out, mcat_append, mcat_one, ← List.append_assoc]
        exact hbld2
      clear hbld2
      go_wp2
      go_roundw
      case rel => exact ⟨k + 1, by omega, by go_num, HN.out, hbel2, hbw2, hsz3⟩
      case measure => simp [intOf]; omega
    · have t1 : decide (k < P.length) = false := decide_eq_false hlt
      have HF : Hid (putB 9 P.length ++ mcat (P.take k) = mtB P) := by
        show _ = _
        rw [List.take_of_length_le (by omega)]; rfl
      go_wp2_with fail
      refine (bld_string _ _ _ _ HB.out hbel.size).mono ?_
      rintro e w4 ⟨rfl, hb1⟩
      rw [HF.out]
      go_wp2
      go_ret
      exact ⟨rfl, hbw.trans (hb1.mono hsz)⟩
end
end Go.Proofs.Ytglabahbklpocaa
