/- mark.Text, few, and the chapter's examples. The chapter's examples hold: the contract of 'awake'. The vectors' contracts, from a world that lies further back. -/
import Derived.Test.YtglabahbklpocaaGShipMany7
import Derived.Test.YtglabahbklpocaaGShipMany27
import Derived.Test.YtglabahbklpocaaGShipMany2
import Derived.Test.YtglabahbklpocaaGShipMany12
import Derived.Test.YtglabahbklpocaaGShipMany15
import Derived.Test.YtglabahbklpocaaGShipMany18
namespace Go.Proofs.Ytglabahbklpocaa
section
open Go.RowKit
set_option maxRecDepth 100000
set_option linter.unusedVariables false
set_option linter.unusedSimpArgs false
def mcat (p : List Int) : List UInt8 := p.flatMap (putB 9)
def mtB (p : List Int) : List UInt8 := putB 9 p.length ++ mcat p
theorem mcat_append (xs ys : List Int) : mcat (xs ++ ys) = mcat xs ++ mcat ys := by simp [mcat]
theorem mcat_one (x : Int) : mcat [x] = putB 9 x := by simp [mcat]
theorem vput_putB (n : Int) : (vput n).size = (putB 9 n).length := rfl
theorem putB_le (n : Int) : (putB 9 n).length ≤ 10 := by simp only [putB, List.length_map]; exact putI_le 9 n
theorem mcat_length (xs : List Int) : (mcat xs).length ≤ 10 * xs.length := by
  induction xs with
  | nil => simp [mcat]
  | cons x r ih =>
    rw [show x :: r = [x] ++ r from rfl, mcat_append, mcat_one, List.length_append, List.length_append]
    have := putB_le x
    simp; omega
theorem take_snoc_getD (xs : List Int) (k : Nat) (h : k < xs.length) : xs.take (k + 1) = xs.take k ++ [xs.getD k 0] := by
  rw [List.take_succ_eq_append_getElem h]; simp [List.getD_eq_getElem?_getD, h]
theorem pl_range (xs : List Int) (k : Nat) : 0 ≤ (pl xs).getD k 0 ∧ (pl xs).getD k 0 ≤ 1099511627776 := by
  rw [pl_getD]
  split
  · exact nm_range xs k
  · exact ⟨by decide, by decide⟩
set_option maxHeartbeats 2000000 in
theorem mtext_any (a : Option Addr) (n c : Nat) (xs : List Int) (w : World) (h : ReadsI .i64 w a n xs) (hnc : n ≤ c) (hcb : c ≤ 9223372036854775807) :
    Calls Try.prog 50 #[.slice a n c] w fun e w' => e = .returned (.string ⟨(mtB (pl xs)).toArray⟩) ∧ Below w.heap.size w w' := by
  have hl8 := pl_length xs
  have HRng := Lib.hid (pl_range xs)
  obtain ⟨P, HP⟩ : ∃ P, Hid (P = pl xs) := ⟨_, rfl⟩
  rw [← HP.out]
  go_enter Try.func50, Try.ntmps50
  go_wp2_with fail
  refine (plain_any a n c xs w h hnc hcb).mono ?_
  rintro e w1 ⟨a', rfl, hv, hb⟩
  rw [← HP.out] at hv hl8 HRng ⊢
  clear HP
  have HV := Lib.hid hv.reads
  clear hv
  have hsz := hb.size
  have hwr : IntKind.u64.wrap (P.length : Int) = P.length := by rw [wrap_u64]; omega
  go_wp2_with fail
  refine (put_any _ _ (by omega) (by omega)).mono ?_
  rintro e w2 ⟨rfl, hb2⟩
  have HB1 : BldAt w1.heap.size w1.heap.size [] w2 := bld_below (bld_fresh w1) hb2
  have hbl : Below w.heap.size w w2 := below_then (hb.alloc hb.size _) (Nat.le_trans hb.size (by simp)) hb2
  have hbl1 : Below w1.heap.size w1 w2 := below_then ((Below.refl _ _).alloc (Nat.le_refl _) _) (by simp) hb2
  have hgl0 : w1.heap.size < w2.heap.size := by
    have := hb2.size
    simp at this
    omega
  clear hb2
  have hvz := vput_putB (P.length : Int)
  have hvz2 := putB_le (P.length : Int)
  go_wp2_with fail
  refine (bld_write _ _ _ _ _ HB1 (by rw [hvz]; simp; omega) hbl1.size).mono ?_
  rintro e w3 ⟨rfl, hbld2, hb3⟩
  have hbl2 := hbl1.trans hb3
  have hbl3 : Below w.heap.size w w3 := hbl.trans (hb3.mono hb.size)
  have HB2 : Hid (BldAt w1.heap.size w1.heap.size (putB 9 P.length ++ mcat (P.take 0)) w3) := by
    have e : mcat (P.take 0) = [] := by simp [mcat]
    rw [e, List.append_nil]
    rw [vput_data, List.nil_append] at hbld2
    exact hbld2
  have hgl : w1.heap.size < w3.heap.size := by have := hb3.size; omega
  clear hbld2 hb3 HB1 hbl1 hbl hgl0
  go_wp2_with fail
  go_loopw [16, 6] (fun i _ wr => ∃ k : Nat, k ≤ P.length ∧ i = .int .i64 k ∧ BldAt w1.heap.size w1.heap.size (putB 9 P.length ++ mcat (P.take k)) wr ∧ Below w1.heap.size w1 wr ∧ Below w.heap.size w wr ∧ w1.heap.size < wr.heap.size) (fun i _ _ => P.length - (intOf i).toNat)
  case atStart => exact ⟨0, by omega, rfl, HB2.out, hbl2, hbl3, hgl⟩
  case round =>
    obtain ⟨k, hk, rfl, hbld, hbel, hbw, hsz2⟩ := hrel
    have HB := Lib.hid hbld
    clear hbld
    by_cases hlt : k < P.length
    · have t1 : decide (k < P.length) = true := decide_eq_true hlt
      obtain ⟨b, o, rfl, hblt, hc1⟩ := HV.out.at hbel k hlt
      have hx := HRng.out k
      have HT := Lib.hid (take_snoc_getD P k hlt)
      have HL2 : (putB 9 P.length ++ mcat (P.take k)).length ≤ 100 := by
        have := mcat_length (P.take k)
        rw [List.length_take] at this
        rw [List.length_append]
        omega
      have i1 : (0 : Int) ≤ (k : Int) := by omega
      have i2 : (k : Int) < (P.length : Int) := by omega
      have hwx : IntKind.u64.wrap (P.getD k 0) = P.getD k 0 := by rw [wrap_u64]; omega
      generalize P.getD k 0 = x at *
      go_wp2_with fail
      refine (put_any _ _ (by omega) (by omega)).mono ?_
      rintro e w4 ⟨rfl, hb1⟩
      have hp9 := putB_le x
      have e9 := vput_putB x
      go_wp2_with fail
      refine (bld_write _ _ _ _ _ (bld_below HB.out hb1) (by omega) (Nat.le_trans hbel.size hb1.size)).mono ?_
      rintro e w5 ⟨rfl, hbld2, hb2⟩
      have hbel2 := (below_then hbel hbel.size hb1).trans hb2
      have hbw2 := (below_then hbw hbw.size hb1).trans (hb2.mono hsz)
      have hsz3 : w1.heap.size < w5.heap.size := by have := hb1.size; have := hb2.size; omega
      have HN : Hid (BldAt w1.heap.size w1.heap.size (putB 9 P.length ++ mcat (P.take (k + 1))) w5) := by
        rw [HT.out, mcat_append, mcat_one, ← List.append_assoc]
        exact hbld2
      clear hbld2
      go_wp2
      go_roundw
      case rel => exact ⟨k + 1, by omega, by go_num, HN.out, hbel2, hbw2, hsz3⟩
      case measure => simp [intOf]; omega
    · have t1 : decide (k < P.length) = false := decide_eq_false hlt
      have HF : Hid (putB 9 P.length ++ mcat (P.take k) = mtB P) := by
        show _ = _
        rw [List.take_of_length_le (by omega)]; rfl
      go_wp2_with fail
      refine (bld_string _ _ _ _ HB.out hbel.size).mono ?_
      rintro e w4 ⟨rfl, hb1⟩
      rw [HF.out]
      go_wp2
      go_ret
      exact ⟨rfl, hbw.trans (hb1.mono hsz)⟩
end
end Go.Proofs.Ytglabahbklpocaa
namespace Go.Proofs.Ytglabahbklpocaa
section
open Go.RowKit
set_option maxRecDepth 100000
set_option linter.unusedVariables false
set_option linter.unusedSimpArgs false
theorem ReadsI.alloc {k : IntKind} {w : World} {a : Option Addr} {n : Nat} {xs : List Int} (h : ReadsI k w a n xs) (o : Obj) : ReadsI k (w.alloc o) a n xs := h.below ((Below.refl _ _).alloc (Nat.le_refl _) _)
section
variable (xs ys zs : List Int) (w : World) (cx cy : Array Value) (nx ny nz : Nat) (hcx : cx = (xs.map (Value.int .i64)).toArray) (hcy : cy = (ys.map (Value.int .i64)).toArray) (hnx : nx = xs.length) (hny : ny = ys.length) (hnz : nz = zs.length) (hx : xs.length ≤ 100) (hy : ys.length ≤ 100) (hz : zs.length ≤ 100)
include hcx hcy hnx hny
theorem reads2 : ReadsI .i64 ((w.alloc (.cells cx 3)).alloc (.cells cy 3)) (some ⟨w.heap.size, 0, none⟩) nx xs ∧ ReadsI .i64 ((w.alloc (.cells cx 3)).alloc (.cells cy 3)) (some ⟨w.heap.size + 1, 0, none⟩) ny ys ∧ Below w.heap.size w ((w.alloc (.cells cx 3)).alloc (.cells cy 3)) := by
  subst hcx hcy hnx hny
  refine ⟨(reads_new .i64 w xs _).alloc _, ?_, ((Below.refl w.heap.size w).alloc (Nat.le_refl _) _).alloc (by simp) _⟩
  have := reads_new .i64 (w.alloc (.cells (xs.map (Value.int .i64)).toArray 3)) ys 3
  simpa using this
include hx hy
include hnz
theorem join_ex (h : joinV xs ys = zs) :
    Calls Try.prog 35 #[.slice (some ⟨w.heap.size, 0, none⟩) nx nx, .slice (some ⟨w.heap.size + 1, 0, none⟩) ny ny] ((w.alloc (.cells cx 3)).alloc (.cells cy 3)) fun e w' => ∃ a', e = .returned (.slice a' nz nz) ∧ ReadsI .i64 w' a' nz zs ∧ Below w.heap.size w w' := by
  obtain ⟨h1, h2, h3⟩ := reads2 xs ys w cx cy nx ny hcx hcy hnx hny
  exact (join_any _ _ _ _ _ _ xs ys _ h1 h2 (Nat.le_refl _) (by omega) (Nat.le_refl _) (by omega)).mono fun e w' ⟨a', h4, h5, h6⟩ => ⟨a', by rw [h4, h, hnz], by subst h hnz; exact h5.reads, below_then h3 h3.size h6⟩
theorem meet_ex (h : meetV xs ys = zs) :
    Calls Try.prog 39 #[.slice (some ⟨w.heap.size, 0, none⟩) nx nx, .slice (some ⟨w.heap.size + 1, 0, none⟩) ny ny] ((w.alloc (.cells cx 3)).alloc (.cells cy 3)) fun e w' => ∃ a', e = .returned (.slice a' nz nz) ∧ ReadsI .i64 w' a' nz zs ∧ Below w.heap.size w w' := by
  obtain ⟨h1, h2, h3⟩ := reads2 xs ys w cx cy nx ny hcx hcy hnx hny
  exact (meet_any _ _ _ _ _ _ xs ys _ h1 h2 (Nat.le_refl _) (by omega) (Nat.le_refl _) (by omega)).mono fun e w' ⟨a', h4, h5, h6⟩ => ⟨a', by rw [h4, h, hnz], by subst h hnz; exact h5.reads, below_then h3 h3.size h6⟩
end
theorem same_ex (zs : List Int) (w : World) (a : Option Addr) (cz : Array Value) (nz : Nat) (hcz : cz = (zs.map (Value.int .i64)).toArray) (hnz : nz = zs.length) (hz : zs.length ≤ 100) (h : ReadsI .i64 w a nz zs) :
    Calls Try.prog 17 #[.slice a nz nz, .slice (some ⟨w.heap.size, 0, none⟩) nz nz] (w.alloc (.cells cz 3)) fun e w' => e = .returned (.bool true) ∧ Below w.heap.size w w' := by
  subst hcz hnz
  have hB := (Below.refl w.heap.size w).alloc (Nat.le_refl _) (.cells (zs.map (Value.int .i64)).toArray 3)
  exact (same_any _ _ _ _ _ _ zs zs _ (h.alloc _) (reads_new .i64 w zs _) (Nat.le_refl _) (by omega) (Nat.le_refl _) (by omega)).mono fun e w' ⟨h1, h2⟩ => ⟨by rw [h1]; simp, below_then hB hB.size h2⟩
end
end Go.Proofs.Ytglabahbklpocaa
namespace Go.Proofs.Ytglabahbklpocaa
section
open Go.RowKit
set_option maxRecDepth 100000
set_option linter.unusedVariables false
set_option linter.unusedSimpArgs false
/-- A slice that reads xs. -/
structure SlI (w : World) (a : Option Addr) (n c : Nat) (xs : List Int) : Prop where
  r : ReadsI .i64 w a n xs
  h1 : n ≤ c
  h2 : c ≤ 9223372036854775807
theorem SlI.below {w w' : World} {a : Option Addr} {n c : Nat} {xs : List Int} (h : SlI w a n c xs) (hb : Below w.heap.size w w') : SlI w' a n c xs := ⟨h.r.below hb, h.h1, h.h2⟩
theorem VecAt.sl {w : World} {B : Nat} {a : Option Addr} {l : List Int} (h : VecAt w B a l) (h8 : l.length ≤ 8) : SlI w a l.length l.length l := ⟨h.reads, Nat.le_refl _, by omega⟩
section
variable {w0 : World} {a1 a2 : Option Addr} {n1 c1 n2 c2 : Nat} {xs ys : List Int}
theorem cov_from (wx : World) (hA : SlI w0 a1 n1 c1 xs) (hB : SlI w0 a2 n2 c2 ys) (hb : Below w0.heap.size w0 wx) :
    Calls Try.prog 34 #[.slice a1 n1 c1, .slice a2 n2 c2] wx fun e w' => e = .returned (.bool (covV xs ys)) ∧ Below w0.heap.size w0 w' :=
  (covers_any _ _ _ _ _ _ xs ys wx (hA.r.below hb) (hB.r.below hb) hA.h1 hA.h2 hB.h1 hB.h2).mono fun e w' ⟨h1, h2⟩ => ⟨h1, below_then hb hb.size h2⟩
theorem same_from (wx : World) (hA : SlI w0 a1 n1 c1 xs) (hB : SlI w0 a2 n2 c2 ys) (hb : Below w0.heap.size w0 wx) :
    Calls Try.prog 17 #[.slice a1 n1 c1, .slice a2 n2 c2] wx fun e w' => e = .returned (.bool (decide (xs = ys))) ∧ Below w0.heap.size w0 w' :=
  (same_any _ _ _ _ _ _ xs ys wx (hA.r.below hb) (hB.r.below hb) hA.h1 hA.h2 hB.h1 hB.h2).mono fun e w' ⟨h1, h2⟩ => ⟨h1, below_then hb hb.size h2⟩
theorem join_from (wx : World) (hA : SlI w0 a1 n1 c1 xs) (hB : SlI w0 a2 n2 c2 ys) (hb : Below w0.heap.size w0 wx) :
    Calls Try.prog 35 #[.slice a1 n1 c1, .slice a2 n2 c2] wx fun e w' => ∃ a' n', e = .returned (.slice a' n' n') ∧ SlI w' a' n' n' (joinV xs ys) ∧ Below w0.heap.size w0 w' :=
  (join_any _ _ _ _ _ _ xs ys wx (hA.r.below hb) (hB.r.below hb) hA.h1 hA.h2 hB.h1 hB.h2).mono fun e w' ⟨a', h1, h2, h3⟩ => ⟨a', _, h1, h2.sl (joinV_length _ _), below_then hb hb.size h3⟩
theorem meet_from (wx : World) (hA : SlI w0 a1 n1 c1 xs) (hB : SlI w0 a2 n2 c2 ys) (hb : Below w0.heap.size w0 wx) :
    Calls Try.prog 39 #[.slice a1 n1 c1, .slice a2 n2 c2] wx fun e w' => ∃ a' n', e = .returned (.slice a' n' n') ∧ SlI w' a' n' n' (meetV xs ys) ∧ Below w0.heap.size w0 w' :=
  (meet_any _ _ _ _ _ _ xs ys wx (hA.r.below hb) (hB.r.below hb) hA.h1 hA.h2 hB.h1 hB.h2).mono fun e w' ⟨a', h1, h2, h3⟩ => ⟨a', _, h1, h2.sl (meetV_length _ _), below_then hb hb.size h3⟩
theorem right_from (wx : World) (hA : SlI w0 a1 n1 c1 xs) (hb : Below w0.heap.size w0 wx) :
    Calls Try.prog 78 #[.slice a1 n1 c1] wx fun e w' => e = .returned (.bool (decide (xs = pl xs))) ∧ Below w0.heap.size w0 w' :=
  (right_any _ _ _ xs wx (hA.r.below hb) hA.h1 hA.h2).mono fun e w' ⟨h1, h2⟩ => ⟨h1, below_then hb hb.size h2⟩
end
end
end Go.Proofs.Ytglabahbklpocaa
