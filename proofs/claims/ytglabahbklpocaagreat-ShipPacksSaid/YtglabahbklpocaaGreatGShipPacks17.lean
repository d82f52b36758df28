/- strings.Builder, made by the call itself: copyCheck, WriteString, String (the walks after the kit's shelf; the laying of String is what the kit's tool wrote). mark.Text, few, and the chapter's examples. The chapter's examples hold: the contract of 'awake'. The vectors' contracts, from a world that lies further back. A list of numbers of one's own that grows by append, one by one. Peers in memory. -/
import Derived.Shelf.Strings.Builder1
import Derived.Test.YtglabahbklpocaaGreatGShipPacks1
import Derived.Lib.Builder
import Derived.Lib.AppendStr
import Derived.Lib.UnsafeStr
import Derived.Lib.Walk
import Derived.Laws.Externs
import Derived.Test.YtglabahbklpocaaGreatGShipPacks4
import Derived.Test.YtglabahbklpocaaGreatGShipPacks5
import Derived.Test.YtglabahbklpocaaGreatGShipPacks6
import Derived.Test.YtglabahbklpocaaGreatGShipPacks8
import Derived.Laws.AppendOwn
import Derived.Laws.OwnMore
import Derived.Deep.AppendLies
import Derived.Test.YtglabahbklpocaaGreatGShipPacks16
import Derived.Test.YtglabahbklpocaaGreatGShipPacks12
namespace Go.Proofs.YtglabahbklpocaaGreat
section
open Go.RowKit Go.Shelf
set_option maxRecDepth 100000
set_option linter.unusedVariables false
set_option linter.unusedSimpArgs false
def lays169_ren : Go.Shelf.Ren := ⟨fun | 169 => 105 | n => n, fun | 70 => 129 | 9 => 9 | 0 => 0 | 72 => 132 | 37 => 130 | 127 => 156 | 3 => 3 | 5 => 5 | n => n, fun | n => n⟩
theorem lays169 : Go.Proofs.Lays.n169 Tryz.prog lays169_ren := {
  mixed := by kernel_rfl
  f169 := Tryz.func105.trans (congrArg some (by kernel_rfl))
  t0 := Tryz.underlying0
  a0 := Tryz.isAgg0
  z0 := Tryz.sizeOf0
  v0 := Tryz.zeroValue0
  t3 := Tryz.underlying3
  a3 := Tryz.isAgg3
  z3 := Tryz.sizeOf3
  v3 := Tryz.zeroValue3
  t9 := Tryz.underlying9
  a9 := Tryz.isAgg9
  z9 := Tryz.sizeOf9
  v9 := Tryz.zeroValue9
  t37 := Tryz.underlying130
  a37 := Tryz.isAgg130
  z37 := Tryz.sizeOf130
  v37 := Tryz.zeroValue130
  t70 := Tryz.underlying129
  a70 := Tryz.isAgg129
  z70 := Tryz.sizeOf129
  v70 := Tryz.zeroValue129
  t72 := Tryz.underlying132
  a72 := Tryz.isAgg132
  z72 := Tryz.sizeOf132
  v72 := Tryz.zeroValue132
  t127 := Tryz.underlying156
  a127 := Tryz.isAgg156
  z127 := Tryz.sizeOf156
  v127 := Tryz.zeroValue156 }
theorem builder_extra : Builder.Extra Tryz.prog lays169_ren := {
  sizeBuilder := by kernel_rfl
  liesBuilder := by kernel_rfl
  t5 := Tryz.underlying5
  a5 := Tryz.isAgg5
  z5 := Tryz.sizeOf5
  v5 := Tryz.zeroValue5
  infoByte := by kernel_rfl
  cellsByte := by kernel_rfl
  sizeByte := by kernel_rfl
  neB5 := by decide }
/-- The builder in block b holds the bytes l. -/
def BldAt (B b : Nat) (l : List UInt8) (w : World) : Prop := Lib.IsBuilder 132 5 B b (Lib.byteCells l) w
theorem bld_string (B b : Nat) (l : List UInt8) (w : World) (h : BldAt B b l w) (hBw : B ≤ w.heap.size) :
    Calls Tryz.prog 105 #[.pointer (some ⟨b, 0, none⟩)] w fun e w' => e = .returned (.string ⟨l.toArray⟩) ∧ Below B w w' := Any.Builder_String_any lays169 builder_extra B b l w h hBw
theorem bld_fresh (w : World) : BldAt w.heap.size w.heap.size [] (w.alloc (.cells #[.pointer none, .slice none 0 0] 132)) := Lib.fresh_isBuilder _ _ w
theorem bld_check_used (b : Nat) (w : World) (h0 : w.cell? ⟨b, 0, none⟩ = some (.pointer (some ⟨b, 0, none⟩))) :
    Calls Tryz.prog 130 #[.pointer (some ⟨b, 0, none⟩)] w fun e w' => e = .returned (.tuple #[]) ∧ w' = w := by
  go_enter Tryz.func130, Tryz.ntmps130
  go_wp2
  obtain ⟨j, hj, hjs⟩ := Option.map_eq_some_iff.1 (show (Tryz.prog.info? 132).map (·.size) = some 2 by kernel_rfl)
  rw [Lib.run_neq_ptr_same w _ Tryz.underlying129 hj]
  go_wp2
  go_end0
  exact ⟨rfl, rfl⟩
theorem bld_check_fresh (b : Nat) (w : World) (h0 : w.cell? ⟨b, 0, none⟩ = some (.pointer none)) (hsh : w.shape? b = some (132, 2)) (hfz : w.frozen? ⟨b, 0, none⟩ = false) :
    Calls Tryz.prog 130 #[.pointer (some ⟨b, 0, none⟩)] w fun e w' => e = .returned (.tuple #[]) ∧ w' = w.setCell ⟨b, 0, none⟩ (.pointer (some ⟨b, 0, none⟩)) := by
  go_enter Tryz.func130, Tryz.ntmps130
  go_wp2
  obtain ⟨j, hj, hjs⟩ := Option.map_eq_some_iff.1 (show (Tryz.prog.info? 132).map (·.size) = some 2 by kernel_rfl)
  rw [Lib.run_to_unsafe w ⟨b, 0, none⟩ Tryz.underlying129 Tryz.underlying160 hj (by rw [hjs]; decide) hsh (Nat.zero_lt_succ 1)]
  simp only [Result.andThen]
  rw [Oper.upon_value]
  go_wp2
  rw [run_callFunc_extern Tryz.func137 (by kernel_rfl) (by kernel_rfl) (by kernel_rfl) (e := Extern.AbiNoEscape.same) (by kernel_rfl)]
  rw [Lib.run_noEscape]
  simp only [Result.andThen]
  rw [Oper.upon_value]
  go_wp2
  rw [Lib.run_from_unsafe w ⟨b, 0, none⟩ Tryz.underlying160 Tryz.underlying129 hj hsh (by kernel_rfl)]
  simp only [Result.andThen]
  rw [Oper.upon_value]
  go_wp2
  go_end0
  exact ⟨rfl, rfl⟩
theorem bld_check (B b : Nat) (bs : List Value) (w : World) (h : Lib.IsBuilder 132 5 B b bs w) :
    Calls Tryz.prog 130 #[.pointer (some ⟨b, 0, none⟩)] w fun e w' => e = .returned (.tuple #[]) ∧ (Lib.BuilderAt 132 5 B b (.pointer (some ⟨b, 0, none⟩)) bs w' ∧ Below B w w') := by
  rcases h with h | h
  · refine (bld_check_fresh b w h.cell0 h.shape h.frozen0).mono ?_
    rintro e w' ⟨rfl, rfl⟩
    exact ⟨rfl, h.used _, (Below.refl B w).setCell (p := ⟨b, 0, none⟩) h.1 _⟩
  · refine (bld_check_used b w h.cell0).mono ?_
    rintro e w' ⟨rfl, rfl⟩
    exact ⟨rfl, h, Below.refl B _⟩
theorem info_u8 : (Tryz.prog.info? 5).map (fun i => (i.zero, i.size, i.bytes)) = some (some (.int .u8 0), 1, 1) := by kernel_rfl
set_option maxHeartbeats 1000000 in
theorem bld_write0 (B b : Nat) (bs : List Value) (s : ByteArray) (w : World) (h : Lib.IsBuilder 132 5 B b bs w) (hlen : bs.length + s.size ≤ 140737488355328) (hBw : B ≤ w.heap.size) :
    Calls Tryz.prog 101 #[.pointer (some ⟨b, 0, none⟩), .string s] w fun e w' => e = .returned (.tuple #[.int .i64 s.size, .nilIface]) ∧ (Lib.BuilderAt 132 5 B b (.pointer (some ⟨b, 0, none⟩)) (bs ++ Lib.strCells s) w' ∧ Below B w w') := by
  obtain ⟨i0, hi, hz0, hz1, hz2⟩ := info_parts info_u8
  go_enter Tryz.func101, Tryz.ntmps101
  go_wp2_with (go_at_call 130; refine (bld_check B b bs _ h).mono ?_)
  rintro e w1 ⟨rfl, h1, hb1⟩
  obtain ⟨hB, v, hbk, hown, hne⟩ := h1
  have c0 : w1.cell? ⟨b, 0, none⟩ = some (.pointer (some ⟨b, 0, none⟩)) := by rw [Lib.cell_of_heap hbk]; rfl
  have c1 : w1.cell? ⟨b, 1, none⟩ = some v := by rw [Lib.cell_of_heap hbk]; rfl
  go_wp2_with (at_builtin; refine Lib.wpList_append_own_string _ rfl _ _ 130 9 rfl B 5 i0 Tryz.underlying130 Tryz.underlying9 hi hz0 hz1 hz2 _ _ _ rfl hown s rfl ?c3 ?c4 ?c5 ?_)
  case c3 => unfold maxLen; omega
  case c4 => omega
  case c5 => have := hb1.size; omega
  intro v' w2 hown' hgrow _
  have hlt : b < w1.heap.size := by
    rcases Nat.lt_or_ge b w1.heap.size with h' | h'
    · exact h'
    · simp [Array.getElem?_eq_none h'] at hbk
  have hb2 : w2.heap[b]? = some (.cells #[.pointer (some ⟨b, 0, none⟩), v] 132 (0, 0)) := by
    rw [hgrow.block b hlt (fun e => hne e.symm)]
    exact hbk
  have d0 : w2.cell? ⟨b, 0, none⟩ = some (.pointer (some ⟨b, 0, none⟩)) := by rw [Lib.cell_of_heap hb2]; rfl
  have d1 : w2.cell? ⟨b, 1, none⟩ = some v := by rw [Lib.cell_of_heap hb2]; rfl
  have f1 : w2.frozen? ⟨b, 1, none⟩ = false := Lib.frozen_of_heap hb2 1
  obtain ⟨ao, n', cap, rfl⟩ : ∃ ao n' cap, v' = .slice ao n' cap := by
    rcases hown'.2 with ⟨hv, _⟩ | ⟨g, cap, cur, hv, _⟩
    · exact ⟨_, _, _, hv⟩
    · exact ⟨_, _, _, hv⟩
  go_wp2
  go_ret2
  refine ⟨rfl, ?_, ?_⟩
  · exact Lib.BuilderAt.put (T := 132) (e := 5) hB hb2 (bs' := bs ++ Lib.strCells s) (by simpa [Lib.strCells_length] using hown') (by decide)
  · exact (hb1.grown hgrow (by have := hb1.size; omega) (fun k hk => (hown.lt k hk).1)).setCell (p := ⟨b, 1, none⟩) hB _
theorem bld_write (B b : Nat) (l : List UInt8) (s : ByteArray) (w : World) (h : BldAt B b l w) (hlen : l.length + s.size ≤ 140737488355328) (hBw : B ≤ w.heap.size) :
    Calls Tryz.prog 101 #[.pointer (some ⟨b, 0, none⟩), .string s] w fun e w' => e = .returned (.tuple #[.int .i64 s.size, .nilIface]) ∧ (BldAt B b (l ++ s.data.toList) w' ∧ Below B w w') :=
  (bld_write0 B b _ s w h (by simpa [Lib.byteCells] using hlen) hBw).mono fun e w' ⟨h1, h2, h3⟩ => ⟨h1, .inr (by simpa [Lib.byteCells, Lib.strCells] using h2), h3⟩
/-- A builder lives on where nothing from B on but new blocks and blocks beside it has turned. -/
theorem bld_below {B b : Nat} {l : List UInt8} {w w' : World} (h : BldAt B b l w) (hb : Below w.heap.size w w') : BldAt B b l w' := by
  rcases h with ⟨hB, v, hbk, hown, hne⟩ | ⟨hB, v, hbk, hown, hne⟩
  · have hlt : b < w.heap.size := by
      rcases Nat.lt_or_ge b w.heap.size with h' | h'
      · exact h'
      · simp [Array.getElem?_eq_none h'] at hbk
    exact .inl ⟨hB, v, by rw [hb.block b hlt]; exact hbk, hown.kept (row := none) ⟨hb.os, hb.tape, hb.output, hb.size, fun i hi _ => hb.block i hi⟩ (by cases v.ownBlock <;> simp), hne⟩
  · have hlt : b < w.heap.size := by
      rcases Nat.lt_or_ge b w.heap.size with h' | h'
      · exact h'
      · simp [Array.getElem?_eq_none h'] at hbk
    exact .inr ⟨hB, v, by rw [hb.block b hlt]; exact hbk, hown.kept (row := none) ⟨hb.os, hb.tape, hb.output, hb.size, fun i hi _ => hb.block i hi⟩ (by cases v.ownBlock <;> simp), hne⟩
end
end Go.Proofs.YtglabahbklpocaaGreat
namespace Go.Proofs.YtglabahbklpocaaGreat
section
open Go.RowKit
set_option maxRecDepth 100000
set_option linter.unusedVariables false
set_option linter.unusedSimpArgs false
def mcat (p : List Int) : List UInt8 := p.flatMap (putB 9)
def mtB (p : List Int) : List UInt8 := putB 9 p.length ++ mcat p
theorem mcat_append (xs ys : List Int) : mcat (xs ++ ys) = mcat xs ++ mcat ys := by simp [mcat]
theorem mcat_one (x : Int) : mcat [x] = putB 9 x := by simp [mcat]
theorem vput_putB (n : Int) : (vput n).size = (putB 9 n).length := rfl
theorem putB_le (n : Int) : (putB 9 n).length ≤ 10 := by simp only [putB, List.length_map]; exact putI_le 9 n
theorem mcat_length (xs : List Int) : (mcat xs).length ≤ 10 * xs.length := by
  induction xs with
  | nil => simp [mcat]
  | cons x r ih =>
    rw [show x :: r = [x] ++ r from rfl, mcat_append, mcat_one, List.length_append, List.length_append]
    have := putB_le x
    simp; omega
theorem take_snoc_getD (xs : List Int) (k : Nat) (h : k < xs.length) : xs.take (k + 1) = xs.take k ++ [xs.getD k 0] := by
  rw [List.take_succ_eq_append_getElem h]; simp [List.getD_eq_getElem?_getD, h]
theorem pl_range (xs : List Int) (k : Nat) : 0 ≤ (pl xs).getD k 0 ∧ (pl xs).getD k 0 ≤ 1099511627776 := by
  rw [pl_getD]
  split
  · exact nm_range xs k
  · exact ⟨by decide, by decide⟩
set_option maxHeartbeats 2000000 in
theorem mtext_any (a : Option Addr) (n c : Nat) (xs : List Int) (w : World) (h : ReadsI .i64 w a n xs) (hnc : n ≤ c) (hcb : c ≤ 9223372036854775807) :
    Calls Tryz.prog 41 #[.slice a n c] w fun e w' => e = .returned (.string ⟨(mtB (pl xs)).toArray⟩) ∧ Below w.heap.size w w' := by
  have hl8 := pl_length xs
  have HRng := Lib.hid (pl_range xs)
  obtain ⟨P, HP⟩ : ∃ P, Hid (P = pl xs) := ⟨_, rfl⟩
  rw [← HP.out]
  go_enter Tryz.func41, Tryz.ntmps41
  go_wp2_with fail
  refine (plain_any a n c xs w h hnc hcb).mono ?_
  rintro e w1 ⟨a', rfl, hv, hb⟩
  rw [← HP.out] at hv hl8 HRng ⊢
  clear HP
  have HV := Lib.hid hv.reads
  clear hv
  have hsz := hb.size
  have hwr : IntKind.u64.wrap (P.length : Int) = P.length := by rw [wrap_u64]; omega
  go_wp2_with fail
  refine (put_any _ _ (by omega) (by omega)).mono ?_
  rintro e w2 ⟨rfl, hb2⟩
  have HB1 : BldAt w1.heap.size w1.heap.size [] w2 := bld_below (bld_fresh w1) hb2
  have hbl : Below w.heap.size w w2 := below_then (hb.alloc hb.size _) (Nat.le_trans hb.size (by simp)) hb2
  have hbl1 : Below w1.heap.size w1 w2 := below_then ((Below.refl _ _).alloc (Nat.le_refl _) _) (by simp) hb2
  have hgl0 : w1.heap.size < w2.heap.size := by
    have := hb2.size
    simp at this
    omega
  clear hb2
  have hvz := vput_putB (P.length : Int)
  have hvz2 := putB_le (P.length : Int)
  go_wp2_with fail
  refine (bld_write _ _ _ _ _ HB1 (by rw [hvz]; simp; omega) hbl1.size).mono ?_
  rintro e w3 ⟨rfl, hbld2, hb3⟩
  have hbl2 := hbl1.trans hb3
  have hbl3 : Below w.heap.size w w3 := hbl.trans (hb3.mono hb.size)
  have HB2 : Hid (BldAt w1.heap.size w1.heap.size (putB 9 P.length ++ mcat (P.take 0)) w3) := by
    have e : mcat (P.take 0) = [] := by simp [mcat]
    rw [e, List.append_nil]
    rw [vput_data, List.nil_append] at hbld2
    exact hbld2
  have hgl : w1.heap.size < w3.heap.size := by have := hb3.size; omega
  clear hbld2 hb3 HB1 hbl1 hbl hgl0
  go_wp2_with fail
  go_loopw [16, 6] (fun i _ wr => ∃ k : Nat, k ≤ P.length ∧ i = .int .i64 k ∧ BldAt w1.heap.size w1.heap.size (putB 9 P.length ++ mcat (P.take k)) wr ∧ Below w1.heap.size w1 wr ∧ Below w.heap.size w wr ∧ w1.heap.size < wr.heap.size) (fun i _ _ => P.length - (intOf i).toNat)
  case atStart => exact ⟨0, by omega, rfl, HB2.out, hbl2, hbl3, hgl⟩
  case round =>
    obtain ⟨k, hk, rfl, hbld, hbel, hbw, hsz2⟩ := hrel
    have HB := Lib.hid hbld
    clear hbld
    by_cases hlt : k < P.length
    · have t1 : decide (k < P.length) = true := decide_eq_true hlt
      obtain ⟨b, o, rfl, hblt, hc1⟩ := HV.out.at hbel k hlt
      have hx := HRng.out k
      have HT := Lib.hid (take_snoc_getD P k hlt)
      have HL2 : (putB 9 P.length ++ mcat (P.take k)).length ≤ 100 := by
        have := mcat_length (P.take k)
        rw [List.length_take] at this
        rw [List.length_append]
        omega
      have i1 : (0 : Int) ≤ (k : Int) := by omega
      have i2 : (k : Int) < (P.length : Int) := by omega
      have hwx : IntKind.u64.wrap (P.getD k 0) = P.getD k 0 := by rw [wrap_u64]; omega
      generalize P.getD k 0 = x at *
      go_wp2_with fail
      refine (put_any _ _ (by omega) (by omega)).mono ?_
      rintro e w4 ⟨rfl, hb1⟩
      have hp9 := putB_le x
      have e9 := vput_putB x
      go_wp2_with fail
      refine (bld_write _ _ _ _ _ (bld_below HB.out hb1) (by omega) (Nat.le_trans hbel.size hb1.size)).mono ?_
      rintro e w5 ⟨rfl, hbld2, hb2⟩
      have hbel2 := (below_then hbel hbel.size hb1).trans hb2
      have hbw2 := (below_then hbw hbw.size hb1).trans (hb2.mono hsz)
      have hsz3 : w1.heap.size < w5.heap.size := by have := hb1.size; have := hb2.size; omega
      have HN : Hid (BldAt w1.heap.size w1.heap.size (putB 9 P.length ++ mcat (P.take (k + 1))) w5) := by
        rw [HT.out, mcat_append, mcat_one, ← List.append_assoc]
        exact hbld2
      clear hbld2
      go_wp2
      go_roundw
      case rel => exact ⟨k + 1, by omega, by go_num, HN.out, hbel2, hbw2, hsz3⟩
      case measure => simp [intOf]; omega
    · have t1 : decide (k < P.length) = false := decide_eq_false hlt
      have HF : Hid (putB 9 P.length ++ mcat (P.take k) = mtB P) := by
        show _ = _
        rw [List.take_of_length_le (by omega)]; rfl
      go_wp2_with fail
      refine (bld_string _ _ _ _ HB.out hbel.size).mono ?_
      rintro e w4 ⟨rfl, hb1⟩
      rw [HF.out]
      go_wp2
      go_ret
      exact ⟨rfl, hbw.trans (hb1.mono hsz)⟩
end
end Go.Proofs.YtglabahbklpocaaGreat
namespace Go.Proofs.YtglabahbklpocaaGreat
section
open Go.RowKit
set_option maxRecDepth 100000
set_option linter.unusedVariables false
set_option linter.unusedSimpArgs false
theorem ReadsI.alloc {k : IntKind} {w : World} {a : Option Addr} {n : Nat} {xs : List Int} (h : ReadsI k w a n xs) (o : Obj) : ReadsI k (w.alloc o) a n xs := h.below ((Below.refl _ _).alloc (Nat.le_refl _) _)
section
variable (xs ys zs : List Int) (w : World) (cx cy : Array Value) (nx ny nz : Nat) (hcx : cx = (xs.map (Value.int .i64)).toArray) (hcy : cy = (ys.map (Value.int .i64)).toArray) (hnx : nx = xs.length) (hny : ny = ys.length) (hnz : nz = zs.length) (hx : xs.length ≤ 100) (hy : ys.length ≤ 100) (hz : zs.length ≤ 100)
include hcx hcy hnx hny
include hx hy
include hnz
end
end
end Go.Proofs.YtglabahbklpocaaGreat
namespace Go.Proofs.YtglabahbklpocaaGreat
section
open Go.RowKit
set_option maxRecDepth 100000
set_option linter.unusedVariables false
set_option linter.unusedSimpArgs false
/-- A slice that reads xs. -/
structure SlI (w : World) (a : Option Addr) (n c : Nat) (xs : List Int) : Prop where
  r : ReadsI .i64 w a n xs
  h1 : n ≤ c
  h2 : c ≤ 9223372036854775807
theorem SlI.below {w w' : World} {a : Option Addr} {n c : Nat} {xs : List Int} (h : SlI w a n c xs) (hb : Below w.heap.size w w') : SlI w' a n c xs := ⟨h.r.below hb, h.h1, h.h2⟩
theorem VecAt.sl {w : World} {B : Nat} {a : Option Addr} {l : List Int} (h : VecAt w B a l) (h8 : l.length ≤ 8) : SlI w a l.length l.length l := ⟨h.reads, Nat.le_refl _, by omega⟩
section
variable {w0 : World} {a1 a2 : Option Addr} {n1 c1 n2 c2 : Nat} {xs ys : List Int}
end
end
end Go.Proofs.YtglabahbklpocaaGreat
namespace Go.Proofs.YtglabahbklpocaaGreat
section
open Go.RowKit
set_option maxRecDepth 100000
set_option linter.unusedVariables false
set_option linter.unusedSimpArgs false
/-- The slice at a, n numbers long, is a row of its own, in memory from B on, and holds l. -/
structure AppJ (w : World) (B : Nat) (a : Option Addr) (n cap : Nat) (l : List Int) : Prop where
  len : l.length = n
  le : n ≤ cap
  max : cap ≤ maxLen
  row : w.ownsRow B 3 1 (.slice a n cap) n (l.map (Value.int .i64))
theorem appJ_nil (w : World) (B : Nat) : AppJ w B none 0 0 [] := ⟨rfl, Nat.le_refl _, by unfold maxLen; omega, World.ownsRow_nil _ _ _ _⟩
theorem AppJ.below {w w' : World} {B : Nat} {a : Option Addr} {n cap : Nat} {l : List Int} (h : AppJ w B a n cap l) (hb : Below w.heap.size w w') : AppJ w' B a n cap l :=
  ⟨h.len, h.le, h.max, h.row.kept (row := none) ⟨hb.os, hb.tape, hb.output, hb.size, fun i hi _ => hb.block i hi⟩ (by cases Value.ownBlock (.slice a n cap) <;> simp)⟩
theorem info_i64 : (Tryz.prog.info? 3).map (fun i => (i.zero, i.size, i.bytes)) = some (some (.int .i64 0), 1, 8) := by kernel_rfl
theorem run_append_i64 (ty : TypeId) (w : World) (B : Nat) (a : Option Addr) (n cap : Nat) (l : List Int) (h : AppJ w B a n cap l) (hB : B ≤ w.heap.size) (hn : n ≤ 100000) (ad : Addr) (c : Nat) (y : Int) (hy : w.cell? ad = some (.int .i64 y)) :
    ∃ a' cap' w', (Builtin.append_ #[23, 23] ty #[.slice a n cap, .slice (some ad) 1 c]).run Tryz.prog w = .ok (.slice a' (n + 1) cap') w' ∧ AppJ w' B a' (n + 1) cap' (l ++ [y]) ∧ Below B w w' := by
  obtain ⟨i, hi, hii⟩ := Option.map_eq_some_iff.1 info_i64
  simp only [Prod.mk.injEq] at hii
  obtain ⟨hz, hsize, hby⟩ := hii
  have hnews : ∀ j u, [Value.int .i64 y][j]? = some u → w.cell? (ad.add j) = some u := fun j u hj => by
    cases j with
    | zero => simp at hj; subst hj; simpa [Addr.add] using hy
    | succ j => simp at hj
  have h1 := h.row
  obtain ⟨v', w', hr, ho, hg, hnil⟩ := run_append_own (P := Tryz.prog) w B 23 ty 3 i (.int .i64 0) 1 8 Tryz.underlying23 hi hz hsize hby rfl (by decide) _ n _ h1 ad 1 c [.int .i64 y] rfl hnews (by intro u hu; simp at hu; subst hu; rfl) (by unfold maxLen; omega) (by omega) hB
  obtain ⟨g, cap', rfl, hgB, hgl⟩ := ho.form (by omega)
  have hcap : n + 1 ≤ cap' ∧ cap' ≤ maxLen := by
    rcases ho.2 with ⟨e, _⟩ | ⟨g', c', cur, e, _, _, h3, h4, _⟩
    · simp at e
    · simp only [Value.slice.injEq, Option.some.injEq, Addr.mk.injEq, and_true, true_and] at e
      obtain ⟨rfl, rfl⟩ := e
      exact ⟨h3, h4⟩
  exact ⟨_, cap', w', hr, ⟨by simp [h.len], hcap.1, hcap.2, by simpa using ho⟩, (Below.refl B w).grown hg hB fun k hk => (h1.lt k hk).1⟩
theorem wpList_append_i64 {ops : Array Oper} {rest : List Oper} {o : Oper} {act : Act} {Q : Exit → Act → World → Prop} (hgd : o.guard = none) (s x : Operand)
    (ho : o.op = .call { callee := .builtin .append, args := #[s, x], argTypes := #[23, 23] }) (w : World) (B : Nat) (a : Option Addr) (n cap : Nat) (l : List Int) (hs : act.eval s = .slice a n cap) (h : AppJ w B a n cap l) (hB : B ≤ w.heap.size) (hn : n ≤ 100000)
    (ad : Addr) (c : Nat) (y : Int) (hx : act.eval x = .slice (some ad) 1 c) (hy : w.cell? ad = some (.int .i64 y))
    (hK : ∀ a' cap' w', AppJ w' B a' (n + 1) cap' (l ++ [y]) → Below B w w' → wpList Tryz.prog ops Q rest (act.put o.dst (.slice a' (n + 1) cap')) w') : wpList Tryz.prog ops Q (o :: rest) act w := by
  refine wpList_plain hgd fun K hK' => ?_
  obtain ⟨a', cap', w', hrun, h1, h2⟩ := run_append_i64 o.type w B a n cap l h hB hn ad c y hy
  unfold Oper.wp
  simp [execOp, ho, resolve, invoke, builtin, hs, hx, hrun, Result.andThen]
  exact hK' _ _ (hK a' cap' w' h1 h2)
theorem AppJ.but {w w' : World} {B g : Nat} {a : Option Addr} {n cap : Nat} {l : List Int} (h : AppJ w B a n cap l) (k : But g w w') (hg : g < B) : AppJ w' B a n cap l := by
  refine ⟨h.len, h.le, h.max, h.row.kept (row := some g) k ?_⟩
  rcases h.row.2 with ⟨e, _⟩ | ⟨g', c', cur, e, h1, _⟩
  · rw [e]; exact .inl rfl
  · rw [e]
    right
    simp [Value.ownBlock]
    omega
theorem AppJ.sl {w : World} {B : Nat} {a : Option Addr} {n cap : Nat} {l : List Int} (h : AppJ w B a n cap l) : SlI w a n cap l := by
  refine ⟨⟨h.len, ?_⟩, h.le, by have := h.max; unfold maxLen at this; omega⟩
  rcases Nat.eq_zero_or_pos n with h0 | hp
  · exact .inl h0
  · right
    obtain ⟨g, cap', hv, hg, hlt⟩ := h.row.form hp
    obtain rfl : a = some ⟨g, 0, none⟩ := by simp only [Value.slice.injEq] at hv; exact hv.1
    refine ⟨g, 0, rfl, hlt, fun j hj => ?_⟩
    have hl := h.len
    rw [Nat.zero_add, h.row.cellAt j (by omega), List.getElem?_map, List.getD_eq_getElem?_getD, List.getElem?_eq_getElem (by omega)]
    rfl
theorem AppJ.ge {w : World} {B : Nat} {a : Option Addr} {n cap : Nat} {l : List Int} (h : AppJ w B a n cap l) : ∀ p, a = some p → B ≤ p.block := fun p hp => by
  subst hp
  exact (h.row.lt p.block rfl).1
end
end Go.Proofs.YtglabahbklpocaaGreat
namespace Go.Proofs.YtglabahbklpocaaGreat
section
open Go.RowKit Go.Deep
set_option maxRecDepth 100000
set_option linter.unusedVariables false
set_option linter.unusedSimpArgs false
attribute [local go_sem ↓] Go.wp_at_zero Go.wp_at_succ
def slV (d : Sl) : Value := .slice d.a d.n d.c
def peC (m : PeM) (d : Nat → Sl) : Array Value := #[.int .i64 m.me, .int .i64 m.sites, .int .i64 m.every,
  slV (d 0), .bool (m.s 0), .int .i64 (m.a 0), slV (d 1), .bool (m.s 1), .int .i64 (m.a 1), slV (d 2), .bool (m.s 2), .int .i64 (m.a 2), slV (d 3), .bool (m.s 3), .int .i64 (m.a 3),
  slV (d 4), .bool (m.s 4), .int .i64 (m.a 4), slV (d 5), .bool (m.s 5), .int .i64 (m.a 5), slV (d 6), .bool (m.s 6), .int .i64 (m.a 6), slV (d 7), .bool (m.s 7), .int .i64 (m.a 7)]
def peO (m : PeM) (d : Nat → Sl) : Obj := .cells (peC m d) 111 (0, 0)
theorem peC_v (m : PeM) (d : Nat → Sl) (i : Nat) (hi : i < 8) : (peC m d)[3 + i * 3]? = some (slV (d i)) ∧ (peC m d)[3 + i * 3 + 1]? = some (.bool (m.s i)) ∧ (peC m d)[3 + i * 3 + 2]? = some (.int .i64 (m.a i)) := by
  match i, hi with
  | 0, _ | 1, _ | 2, _ | 3, _ | 4, _ | 5, _ | 6, _ | 7, _ => exact ⟨rfl, rfl, rfl⟩
theorem peC_setv (m : PeM) (d : Nat → Sl) (i : Nat) (hi : i < 8) (x : Sl) (v : Nat → List Int) : (peC m d).setIfInBounds (3 + i * 3) (slV x) = peC { m with v := v } (upd d i x) := by
  match i, hi with
  | 0, _ | 1, _ | 2, _ | 3, _ | 4, _ | 5, _ | 6, _ | 7, _ => rfl
theorem peC_sets (m : PeM) (d : Nat → Sl) (i : Nat) (hi : i < 8) (b : Bool) (t : Int) : ((peC m d).setIfInBounds (3 + i * 3 + 1) (.bool b)).setIfInBounds (3 + i * 3 + 2) (.int .i64 t) = peC { m with s := upd m.s i b, a := upd m.a i t } d := by
  match i, hi with
  | 0, _ | 1, _ | 2, _ | 3, _ | 4, _ | 5, _ | 6, _ | 7, _ => rfl
structure PeC (w : World) (F : List Nat) (d : Nat → Sl) (m : PeM) : Prop where
  sl : ∀ i, i < 8 → SlR w (d i) (m.v i) ∧ farA F (d i) ∧ (d i).n ≤ 8
  me : i64' m.me
  st : 0 ≤ m.sites ∧ m.sites ≤ 8
  ev : i64' m.every
  a : ∀ i, i < 8 → 0 ≤ m.a i ∧ m.a i ≤ 1125899906842624
def PeAt (w : World) (F : List Nat) (g : Nat) (m : PeM) : Prop := ∃ d, w.heap[g]? = some (peO m d) ∧ PeC w F d m
theorem PeC.keep {w w' : World} {F : List Nat} {d : Nat → Sl} {m : PeM} (h : PeC w F d m) (hs : w.heap.size ≤ w'.heap.size) (hd : ∀ i, i < w.heap.size → i ∉ F → w'.heap[i]? = w.heap[i]?) : PeC w' F d m :=
  ⟨fun i hi => ⟨(h.sl i hi).1.keep (h.sl i hi).2.1 hs hd, (h.sl i hi).2⟩, h.me, h.st, h.ev, h.a⟩
theorem PeAt.lt {w : World} {F : List Nat} {g : Nat} {m : PeM} (h : PeAt w F g m) : g < w.heap.size := by
  obtain ⟨d, h1, _⟩ := h
  exact heap_lt h1
theorem PeAt.below {w w' : World} {F : List Nat} {g : Nat} {m : PeM} (h : PeAt w F g m) (hb : Below w.heap.size w w') : PeAt w' F g m := by
  obtain ⟨d, h1, h2⟩ := h
  exact ⟨d, (hb.block g (heap_lt h1)).trans h1, h2.keep hb.size (fun i hi _ => hb.block i hi)⟩
theorem PeAt.but {w w' : World} {F : List Nat} {g g' : Nat} {m : PeM} (h : PeAt w F g m) (hg : g' ∈ F) (hne : g ≠ g') (k : But g' w w') : PeAt w' F g m := by
  obtain ⟨d, h1, h2⟩ := h
  exact ⟨d, (k.block g (heap_lt h1) (by simpa using fun e => hne e)).trans h1, h2.keep k.size (fun i hi hn => k.block i hi (by simp; exact fun e => hn (e ▸ hg)))⟩
theorem PeAt.grow {w : World} {F : List Nat} {g : Nat} {m : PeM} (h : PeAt w F g m) {k : Nat} (hk : w.heap.size ≤ k) : PeAt w (k :: F) g m := by
  obtain ⟨d, h1, h2⟩ := h
  exact ⟨d, h1, fun i hi => ⟨(h2.sl i hi).1, (h2.sl i hi).2.1.grow (h2.sl i hi).1.lt hk, (h2.sl i hi).2.2⟩, h2.me, h2.st, h2.ev, h2.a⟩
theorem PeAt.ex {w : World} {F : List Nat} {g : Nat} {m : PeM} (h : PeAt w F g m) : i64' m.me ∧ (0 ≤ m.sites ∧ m.sites ≤ 8) ∧ i64' m.every ∧ ∀ i, i < 8 → 0 ≤ m.a i ∧ m.a i ≤ 1125899906842624 := by
  obtain ⟨d, h1, h2⟩ := h
  exact ⟨h2.me, h2.st, h2.ev, h2.a⟩
theorem peCell {w wd : World} {g : Nat} {m : PeM} {d : Nat → Sl} (h : w.heap[g]? = some (peO m d)) (e : wd.heap = w.heap) {j : Nat} {v : Value} (hv : (peC m d)[j]? = some v) : wd.cell? ⟨g, j, none⟩ = some v := by
  simp only [World.cell?, e, h, peO]
  exact hv
theorem peFz {w : World} {g : Nat} {m : PeM} {d : Nat → Sl} (h : w.heap[g]? = some (peO m d)) (j : Nat) : w.frozen? ⟨g, j, none⟩ = false := by
  simp [World.frozen?, h, peO]
set_option maxHeartbeats 2000000 in
theorem pnew_any (F : List Nat) (me sites every : Int) (w : World) (h1 : i64' me) (h2 : i64' sites) (h3 : i64' every) :
    Calls Tryz.prog 19 #[.int .i64 me, .int .i64 sites, .int .i64 every] w fun e w' => e = .returned (.pointer (some ⟨w.heap.size, 0, none⟩)) ∧ PeAt w' (w.heap.size :: F) w.heap.size (newP me sites every) ∧ Below w.heap.size w w' := by
  go_enter Tryz.func19, Tryz.ntmps19
  go_wp2_with fail
  go_ret
  have hn : ∀ wx : World, SlR wx ⟨none, 0, 0⟩ [] := fun wx => ⟨⟨rfl, .inl rfl⟩, Nat.le_refl _, by decide⟩
  refine ⟨rfl, ⟨fun _ => ⟨none, 0, 0⟩, heap_alloc_new w _, fun i hi => ⟨hn _, .inl rfl, by decide⟩, h1, ?_, ?_, fun i hi => ⟨Int.le_refl 0, by show (0 : Int) ≤ 1125899906842624; decide⟩⟩, (Below.refl _ _).alloc (Nat.le_refl _) _⟩
  · show 0 ≤ min (max sites 1) 8 ∧ min (max sites 1) 8 ≤ 8
    omega
  · show i64' (max every 1)
    unfold i64' at *
    omega
set_option maxHeartbeats 2000000 in
theorem pget_any (F : List Nat) (g : Nat) (m : PeM) (site : Int) (w : World) (hP : PeAt w F g m) :
    Calls Tryz.prog 81 #[.pointer (some ⟨g, 0, none⟩), .int .i64 site] w fun e w' => e = .returned (.pointer (if isO m site = true then some ⟨g, 3 + site.toNat * 3, none⟩ else none)) ∧ w = w' := by
  obtain ⟨d, hg, hc⟩ := hP
  have c0 := peCell hg rfl (j := 0) (v := .int .i64 m.me) rfl
  have c1 := peCell hg rfl (j := 1) (v := .int .i64 m.sites) rfl
  have hst := hc.st
  clear hg hc
  by_cases h0 : site < 0
  · have t1 : decide (site < 0) = true := decide_eq_true h0
    rw [if_neg (by unfold isO; simp; omega)]
    go_enter Tryz.func81, Tryz.ntmps81
    go_wp2_with fail
    go_ret
    exact ⟨rfl, rfl⟩
  · have t1 : decide (site < 0) = false := decide_eq_false h0
    by_cases hs : site ≥ m.sites
    · have t2 : decide (site ≥ m.sites) = true := decide_eq_true hs
      rw [if_neg (by unfold isO; simp; omega)]
      clear h0 hs
      go_enter Tryz.func81, Tryz.ntmps81
      go_wp2_with fail
      go_ret
      exact ⟨rfl, rfl⟩
    · have t2 : decide (site ≥ m.sites) = false := decide_eq_false hs
      by_cases hm : site = m.me
      · have t3 : (site == m.me) = true := beq_iff_eq.2 hm
        rw [if_neg (by unfold isO; simp; omega)]
        clear h0 hs hm
        go_enter Tryz.func81, Tryz.ntmps81
        go_wp2_with fail
        go_ret
        exact ⟨rfl, rfl⟩
      · have t3 : (site == m.me) = false := beq_eq_false_iff_ne.2 hm
        rw [if_pos (by unfold isO; simp; omega)]
        obtain ⟨k, rfl⟩ := Int.eq_ofNat_of_zero_le (show 0 ≤ site by omega)
        have i1 : (0 : Int) ≤ (k : Int) := by omega
        have i2 : (k : Int) < 8 := by omega
        rw [Int.toNat_natCast]
        clear h0 hs hm
        go_enter Tryz.func81, Tryz.ntmps81
        go_wp2_with fail
        go_ret
        exact ⟨rfl, rfl⟩
theorem clockP_range (n : Int) : 0 ≤ clockP n ∧ clockP n ≤ 1125899906842624 := by unfold clockP; omega
theorem pclock_any (n : Int) (w : World) : Calls Tryz.prog 84 #[.int .i64 n] w fun e w' => e = .returned (.int .i64 (clockP n)) ∧ w = w' := by
  go_enter Tryz.func84, Tryz.ntmps84
  go_wp2_with fail
  go_ret
  exact ⟨rfl, rfl⟩
end
end Go.Proofs.YtglabahbklpocaaGreat
