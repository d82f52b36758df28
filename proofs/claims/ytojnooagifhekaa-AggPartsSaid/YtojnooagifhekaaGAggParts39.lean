/- Join, Meet, Covers, Compare, Right; the reference's Same. strings.Builder, made by the call itself: copyCheck, WriteString, String (the walks after the kit's shelf; the laying of String is what the kit's tool wrote). mark.Text, few, and the chapter's examples. -/
import Derived.Test.YtojnooagifhekaaGAggParts38
import Derived.Deep.QuietTactic
import Derived.BigQuiet
import Derived.Shelf.Strings.Builder1
import Derived.Test.YtojnooagifhekaaGAggParts1
import Derived.Lib.Builder
import Derived.Lib.AppendStr
import Derived.Lib.UnsafeStr
import Derived.Lib.Walk
import Derived.Laws.Externs
import Derived.Test.YtojnooagifhekaaGAggParts9
import Derived.Test.YtojnooagifhekaaGAggParts29
namespace Go.Proofs.Ytojnooagifhekaa
section
open Go.RowKit
set_option maxRecDepth 100000
set_option linter.unusedVariables false
set_option linter.unusedSimpArgs false
theorem VecAt.mono {w : World} {B B' : Nat} {a : Option Addr} {l : List Int} (h : VecAt w B a l) (hB : B' ≤ B) : VecAt w B' a l := ⟨h.reads, h.own.imp_right fun ⟨g, e1, e2, e3⟩ => ⟨g, e1, Nat.le_trans hB e2, e3⟩⟩
theorem joinV_length (xs ys : List Int) : (joinV xs ys).length ≤ 8 := vec_length _
theorem meetV_length (xs ys : List Int) : (meetV xs ys).length ≤ 8 := vec_length _
theorem below_drewN {B : Nat} {w0 w : World} (h : Below B w0 w) (n : Nat) : Below B w0 (w.drewN n) := ⟨h.os, h.tape, h.output, h.size, h.block⟩
theorem ReadsI.at {k : IntKind} {w w' : World} {a : Option Addr} {n : Nat} {xs : List Int} (h : ReadsI k w a n xs) (hb : Below w.heap.size w w') (i : Nat) (hi : i < n) : ∃ b o, a = some ⟨b, o, none⟩ ∧ b < w.heap.size ∧ w'.cell? ⟨b, o + i, none⟩ = some (.int k (xs.getD i 0)) := by
  obtain ⟨_, h2⟩ := h
  obtain ⟨b, o, h3, h4, h5⟩ := h2.resolve_left (by omega)
  exact ⟨b, o, h3, h4, (hb.cell (p := ⟨b, o + i, none⟩) h4).trans (h5 i hi)⟩
theorem list_ext_getD {xs ys : List Int} (hl : xs.length = ys.length) (h : ∀ j, j < xs.length → xs.getD j 0 = ys.getD j 0) : xs = ys := by
  apply List.ext_getElem hl
  intro i h1 h2
  have := h i h1
  simpa [List.getD_eq_getElem?_getD, h1, h2] using this
end
end Go.Proofs.Ytojnooagifhekaa
namespace Go.Proofs.Ytojnooagifhekaa
section
open Go.RowKit Go.Shelf
set_option maxRecDepth 100000
set_option linter.unusedVariables false
set_option linter.unusedSimpArgs false
def lays169_ren : Go.Shelf.Ren := ⟨fun | 169 => 84 | n => n, fun | 70 => 103 | 9 => 9 | 0 => 0 | 72 => 105 | 37 => 101 | 127 => 114 | 3 => 3 | 5 => 5 | n => n, fun | n => n⟩
theorem lays169 : Go.Proofs.Lays.n169 Try.prog lays169_ren := {
  mixed := by kernel_rfl
  f169 := Try.func84.trans (congrArg some (by kernel_rfl))
  t0 := Try.underlying0
  a0 := Try.isAgg0
  z0 := Try.sizeOf0
  v0 := Try.zeroValue0
  t3 := Try.underlying3
  a3 := Try.isAgg3
  z3 := Try.sizeOf3
  v3 := Try.zeroValue3
  t9 := Try.underlying9
  a9 := Try.isAgg9
  z9 := Try.sizeOf9
  v9 := Try.zeroValue9
  t37 := Try.underlying101
  a37 := Try.isAgg101
  z37 := Try.sizeOf101
  v37 := Try.zeroValue101
  t70 := Try.underlying103
  a70 := Try.isAgg103
  z70 := Try.sizeOf103
  v70 := Try.zeroValue103
  t72 := Try.underlying105
  a72 := Try.isAgg105
  z72 := Try.sizeOf105
  v72 := Try.zeroValue105
  t127 := Try.underlying114
  a127 := Try.isAgg114
  z127 := Try.sizeOf114
  v127 := Try.zeroValue114 }
theorem builder_extra : Builder.Extra Try.prog lays169_ren := {
  sizeBuilder := by kernel_rfl
  liesBuilder := by kernel_rfl
  t5 := Try.underlying5
  a5 := Try.isAgg5
  z5 := Try.sizeOf5
  v5 := Try.zeroValue5
  infoByte := by kernel_rfl
  cellsByte := by kernel_rfl
  sizeByte := by kernel_rfl
  neB5 := by decide }
/-- The builder in block b holds the bytes l. -/
def BldAt (B b : Nat) (l : List UInt8) (w : World) : Prop := Lib.IsBuilder 105 5 B b (Lib.byteCells l) w
theorem bld_string (B b : Nat) (l : List UInt8) (w : World) (h : BldAt B b l w) (hBw : B ≤ w.heap.size) :
    Calls Try.prog 84 #[.pointer (some ⟨b, 0, none⟩)] w fun e w' => e = .returned (.string ⟨l.toArray⟩) ∧ Below B w w' := Any.Builder_String_any lays169 builder_extra B b l w h hBw
theorem bld_fresh (w : World) : BldAt w.heap.size w.heap.size [] (w.alloc (.cells #[.pointer none, .slice none 0 0] 105)) := Lib.fresh_isBuilder _ _ w
theorem bld_check_used (b : Nat) (w : World) (h0 : w.cell? ⟨b, 0, none⟩ = some (.pointer (some ⟨b, 0, none⟩))) :
    Calls Try.prog 92 #[.pointer (some ⟨b, 0, none⟩)] w fun e w' => e = .returned (.tuple #[]) ∧ w' = w := by
  go_enter Try.func92, Try.ntmps92
  go_wp2
  obtain ⟨j, hj, hjs⟩ := Option.map_eq_some_iff.1 (show (Try.prog.info? 105).map (·.size) = some 2 by kernel_rfl)
  rw [Lib.run_neq_ptr_same w _ Try.underlying103 hj]
  go_wp2
  go_end0
  exact ⟨rfl, rfl⟩
theorem bld_check_fresh (b : Nat) (w : World) (h0 : w.cell? ⟨b, 0, none⟩ = some (.pointer none)) (hsh : w.shape? b = some (105, 2)) (hfz : w.frozen? ⟨b, 0, none⟩ = false) :
    Calls Try.prog 92 #[.pointer (some ⟨b, 0, none⟩)] w fun e w' => e = .returned (.tuple #[]) ∧ w' = w.setCell ⟨b, 0, none⟩ (.pointer (some ⟨b, 0, none⟩)) := by
  go_enter Try.func92, Try.ntmps92
  go_wp2
  obtain ⟨j, hj, hjs⟩ := Option.map_eq_some_iff.1 (show (Try.prog.info? 105).map (·.size) = some 2 by kernel_rfl)
  rw [Lib.run_to_unsafe w ⟨b, 0, none⟩ Try.underlying103 Try.underlying115 hj (by rw [hjs]; decide) hsh (Nat.zero_lt_succ 1)]
  simp only [Result.andThen]
  rw [Oper.upon_value]
  go_wp2
  rw [run_callFunc_extern Try.func93 (by kernel_rfl) (by kernel_rfl) (by kernel_rfl) (e := Extern.AbiNoEscape.same) (by kernel_rfl)]
  rw [Lib.run_noEscape]
  simp only [Result.andThen]
  rw [Oper.upon_value]
  go_wp2
  rw [Lib.run_from_unsafe w ⟨b, 0, none⟩ Try.underlying115 Try.underlying103 hj hsh (by kernel_rfl)]
  simp only [Result.andThen]
  rw [Oper.upon_value]
  go_wp2
  go_end0
  exact ⟨rfl, rfl⟩
theorem bld_check (B b : Nat) (bs : List Value) (w : World) (h : Lib.IsBuilder 105 5 B b bs w) :
    Calls Try.prog 92 #[.pointer (some ⟨b, 0, none⟩)] w fun e w' => e = .returned (.tuple #[]) ∧ (Lib.BuilderAt 105 5 B b (.pointer (some ⟨b, 0, none⟩)) bs w' ∧ Below B w w') := by
  rcases h with h | h
  · refine (bld_check_fresh b w h.cell0 h.shape h.frozen0).mono ?_
    rintro e w' ⟨rfl, rfl⟩
    exact ⟨rfl, h.used _, (Below.refl B w).setCell (p := ⟨b, 0, none⟩) h.1 _⟩
  · refine (bld_check_used b w h.cell0).mono ?_
    rintro e w' ⟨rfl, rfl⟩
    exact ⟨rfl, h, Below.refl B _⟩
theorem info_u8 : (Try.prog.info? 5).map (fun i => (i.zero, i.size, i.bytes)) = some (some (.int .u8 0), 1, 1) := by kernel_rfl
set_option maxHeartbeats 1000000 in
theorem bld_write0 (B b : Nat) (bs : List Value) (s : ByteArray) (w : World) (h : Lib.IsBuilder 105 5 B b bs w) (hlen : bs.length + s.size ≤ 140737488355328) (hBw : B ≤ w.heap.size) :
    Calls Try.prog 82 #[.pointer (some ⟨b, 0, none⟩), .string s] w fun e w' => e = .returned (.tuple #[.int .i64 s.size, .nilIface]) ∧ (Lib.BuilderAt 105 5 B b (.pointer (some ⟨b, 0, none⟩)) (bs ++ Lib.strCells s) w' ∧ Below B w w') := by
  obtain ⟨i0, hi, hz0, hz1, hz2⟩ := info_parts info_u8
  go_enter Try.func82, Try.ntmps82
  go_wp2_with (go_at_call 92; refine (bld_check B b bs _ h).mono ?_)
  rintro e w1 ⟨rfl, h1, hb1⟩
  obtain ⟨hB, v, hbk, hown, hne⟩ := h1
  have c0 : w1.cell? ⟨b, 0, none⟩ = some (.pointer (some ⟨b, 0, none⟩)) := by rw [Lib.cell_of_heap hbk]; rfl
  have c1 : w1.cell? ⟨b, 1, none⟩ = some v := by rw [Lib.cell_of_heap hbk]; rfl
  go_wp2_with (at_builtin; refine Lib.wpList_append_own_string _ rfl _ _ 101 9 rfl B 5 i0 Try.underlying101 Try.underlying9 hi hz0 hz1 hz2 _ _ _ rfl hown s rfl ?c3 ?c4 ?c5 ?_)
  case c3 => unfold maxLen; omega
  case c4 => omega
  case c5 => have := hb1.size; omega
  intro v' w2 hown' hgrow _
  have hlt : b < w1.heap.size := by
    rcases Nat.lt_or_ge b w1.heap.size with h' | h'
    · exact h'
    · simp [Array.getElem?_eq_none h'] at hbk
  have hb2 : w2.heap[b]? = some (.cells #[.pointer (some ⟨b, 0, none⟩), v] 105 (0, 0)) := by
    rw [hgrow.block b hlt (fun e => hne e.symm)]
    exact hbk
  have d0 : w2.cell? ⟨b, 0, none⟩ = some (.pointer (some ⟨b, 0, none⟩)) := by rw [Lib.cell_of_heap hb2]; rfl
  have d1 : w2.cell? ⟨b, 1, none⟩ = some v := by rw [Lib.cell_of_heap hb2]; rfl
  have f1 : w2.frozen? ⟨b, 1, none⟩ = false := Lib.frozen_of_heap hb2 1
  obtain ⟨ao, n', cap, rfl⟩ : ∃ ao n' cap, v' = .slice ao n' cap := by
    rcases hown'.2 with ⟨hv, _⟩ | ⟨g, cap, cur, hv, _⟩
    · exact ⟨_, _, _, hv⟩
    · exact ⟨_, _, _, hv⟩
  go_wp2
  go_ret2
  refine ⟨rfl, ?_, ?_⟩
  · exact Lib.BuilderAt.put (T := 105) (e := 5) hB hb2 (bs' := bs ++ Lib.strCells s) (by simpa [Lib.strCells_length] using hown') (by decide)
  · exact (hb1.grown hgrow (by have := hb1.size; omega) (fun k hk => (hown.lt k hk).1)).setCell (p := ⟨b, 1, none⟩) hB _
theorem bld_write (B b : Nat) (l : List UInt8) (s : ByteArray) (w : World) (h : BldAt B b l w) (hlen : l.length + s.size ≤ 140737488355328) (hBw : B ≤ w.heap.size) :
    Calls Try.prog 82 #[.pointer (some ⟨b, 0, none⟩), .string s] w fun e w' => e = .returned (.tuple #[.int .i64 s.size, .nilIface]) ∧ (BldAt B b (l ++ s.data.toList) w' ∧ Below B w w') :=
  (bld_write0 B b _ s w h (by simpa [Lib.byteCells] using hlen) hBw).mono fun e w' ⟨h1, h2, h3⟩ => ⟨h1, .inr (by simpa [Lib.byteCells, Lib.strCells] using h2), h3⟩
/-- A builder lives on where nothing from B on but new blocks and blocks beside it has turned. -/
theorem bld_below {B b : Nat} {l : List UInt8} {w w' : World} (h : BldAt B b l w) (hb : Below w.heap.size w w') : BldAt B b l w' := by
  rcases h with ⟨hB, v, hbk, hown, hne⟩ | ⟨hB, v, hbk, hown, hne⟩
  · have hlt : b < w.heap.size := by
      rcases Nat.lt_or_ge b w.heap.size with h' | h'
      · exact h'
      · simp [Array.getElem?_eq_none h'] at hbk
    exact .inl ⟨hB, v, by rw [hb.block b hlt]; exact hbk, hown.kept (row := none) ⟨hb.os, hb.tape, hb.output, hb.size, fun i hi _ => hb.block i hi⟩ (by cases v.ownBlock <;> simp), hne⟩
  · have hlt : b < w.heap.size := by
      rcases Nat.lt_or_ge b w.heap.size with h' | h'
      · exact h'
      · simp [Array.getElem?_eq_none h'] at hbk
    exact .inr ⟨hB, v, by rw [hb.block b hlt]; exact hbk, hown.kept (row := none) ⟨hb.os, hb.tape, hb.output, hb.size, fun i hi _ => hb.block i hi⟩ (by cases v.ownBlock <;> simp), hne⟩
end
end Go.Proofs.Ytojnooagifhekaa
namespace Go.Proofs.Ytojnooagifhekaa
section
open Go.RowKit
set_option maxRecDepth 100000
set_option linter.unusedVariables false
set_option linter.unusedSimpArgs false
def mcat (p : List Int) : List UInt8 := p.flatMap (putB 9)
def mtB (p : List Int) : List UInt8 := putB 9 p.length ++ mcat p
theorem mcat_append (xs ys : List Int) : mcat (xs ++ ys) = mcat xs ++ mcat ys := by simp [mcat]
theorem mcat_one (x : Int) : mcat [x] = putB 9 x := by simp [mcat]
theorem vput_putB (n : Int) : (vput n).size = (putB 9 n).length := rfl
theorem putB_le (n : Int) : (putB 9 n).length ≤ 10 := by simp only [putB, List.length_map]; exact putI_le 9 n
theorem mcat_length (xs : List Int) : (mcat xs).length ≤ 10 * xs.length := by
  induction xs with
  | nil => simp [mcat]
  | cons x r ih =>
    rw [show x :: r = [x] ++ r from rfl, mcat_append, mcat_one, List.length_append, List.length_append]
    have := putB_le x
    simp; omega
theorem take_snoc_getD (xs : List Int) (k : Nat) (h : k < xs.length) : xs.take (k + 1) = xs.take k ++ [xs.getD k 0] := by
  rw [List.take_succ_eq_append_getElem h]; simp [List.getD_eq_getElem?_getD, h]
theorem pl_range (xs : List Int) (k : Nat) : 0 ≤ (pl xs).getD k 0 ∧ (pl xs).getD k 0 ≤ 1099511627776 := by
  rw [pl_getD]
  split
  · exact nm_range xs k
  · exact ⟨by decide, by decide⟩
end
end Go.Proofs.Ytojnooagifhekaa
