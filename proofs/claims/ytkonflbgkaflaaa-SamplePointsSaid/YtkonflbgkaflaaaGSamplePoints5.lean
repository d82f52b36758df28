/- mark.Text, few, and the chapter's examples. The chapter's examples hold: the contract of 'awake'. A slice of whole numbers among the arguments, as a walk is told of it. The vectors' contracts, from a world that lies further back. A list of numbers of one's own that grows by append, one by one. Plain law: vectors out of a reader, and back. Vectors read: mark.Read; the reference's Text, TakeVector, Read. The reference's Text, TakeVector, Read. -/
import Derived.Test.YtkonflbgkaflaaaGSamplePoints1
import Derived.Test.YtkonflbgkaflaaaGSamplePoints4
import Derived.Test.YtkonflbgkaflaaaGSamplePoints2
import Derived.ProofKit
import Derived.OpenShut
import Derived.Laws.AppendOwn
import Derived.Laws.OwnMore
import Derived.Deep.AppendLies
import Derived.Test.YtkonflbgkaflaaaGSamplePoints3
namespace Go.Proofs.Ytkonflbgkaflaaa
section
open Go.RowKit
set_option maxRecDepth 100000
set_option linter.unusedVariables false
set_option linter.unusedSimpArgs false
def mcat (p : List Int) : List UInt8 := p.flatMap (putB 9)
def mtB (p : List Int) : List UInt8 := putB 9 p.length ++ mcat p
theorem mcat_append (xs ys : List Int) : mcat (xs ++ ys) = mcat xs ++ mcat ys := by simp [mcat]
theorem mcat_one (x : Int) : mcat [x] = putB 9 x := by simp [mcat]
theorem vput_putB (n : Int) : (vput n).size = (putB 9 n).length := rfl
theorem putB_le (n : Int) : (putB 9 n).length ≤ 10 := by simp only [putB, List.length_map]; exact putI_le 9 n
theorem mcat_length (xs : List Int) : (mcat xs).length ≤ 10 * xs.length := by
  induction xs with
  | nil => simp [mcat]
  | cons x r ih =>
    rw [show x :: r = [x] ++ r from rfl, mcat_append, mcat_one, List.length_append, List.length_append]
    have := putB_le x
    simp; omega
theorem take_snoc_getD (xs : List Int) (k : Nat) (h : k < xs.length) : xs.take (k + 1) = xs.take k ++ [xs.getD k 0] := by
  rw [List.take_succ_eq_append_getElem h]; simp [List.getD_eq_getElem?_getD, h]
theorem pl_range (xs : List Int) (k : Nat) : 0 ≤ (pl xs).getD k 0 ∧ (pl xs).getD k 0 ≤ 1099511627776 := by
  rw [pl_getD]
  split
  · exact nm_range xs k
  · exact ⟨by decide, by decide⟩
set_option maxHeartbeats 2000000 in
theorem mtext_any (a : Option Addr) (n c : Nat) (xs : List Int) (w : World) (h : ReadsI .i64 w a n xs) (hnc : n ≤ c) (hcb : c ≤ 9223372036854775807) :
    Calls Try.prog 39 #[.slice a n c] w fun e w' => e = .returned (.string ⟨(mtB (pl xs)).toArray⟩) ∧ Below w.heap.size w w' := by
  have hl8 := pl_length xs
  have HRng := Lib.hid (pl_range xs)
  obtain ⟨P, HP⟩ : ∃ P, Hid (P = pl xs) := ⟨_, rfl⟩
  rw [← HP.out]
  go_enter Try.func39, Try.ntmps39
  go_wp2_with fail
  refine (plain_any a n c xs w h hnc hcb).mono ?_
  rintro e w1 ⟨a', rfl, hv, hb⟩
  rw [← HP.out] at hv hl8 HRng ⊢
  clear HP
  have HV := Lib.hid hv.reads
  clear hv
  have hsz := hb.size
  have hwr : IntKind.u64.wrap (P.length : Int) = P.length := by rw [wrap_u64]; omega
  go_wp2_with fail
  refine (put_any _ _ (by omega) (by omega)).mono ?_
  rintro e w2 ⟨rfl, hb2⟩
  have HB1 : BldAt w1.heap.size w1.heap.size [] w2 := bld_below (bld_fresh w1) hb2
  have hbl : Below w.heap.size w w2 := below_then (hb.alloc hb.size _) (Nat.le_trans hb.size (by simp)) hb2
  have hbl1 : Below w1.heap.size w1 w2 := below_then ((Below.refl _ _).alloc (Nat.le_refl _) _) (by simp) hb2
  have hgl0 : w1.heap.size < w2.heap.size := by
    have := hb2.size
    simp at this
    omega
  clear hb2
  have hvz := vput_putB (P.length : Int)
  have hvz2 := putB_le (P.length : Int)
  go_wp2_with fail
  refine (bld_write _ _ _ _ _ HB1 (by rw [hvz]; simp; omega) hbl1.size).mono ?_
  rintro e w3 ⟨rfl, hbld2, hb3⟩
  have hbl2 := hbl1.trans hb3
  have hbl3 : Below w.heap.size w w3 := hbl.trans (hb3.mono hb.size)
  have HB2 : Hid (BldAt w1.heap.size w1.heap.size (putB 9 P.length ++ mcat (P.take 0)) w3) := by
    have e : mcat (P.take 0) = [] := by simp [mcat]
    rw [e, List.append_nil]
    rw [vput_data, List.nil_append] at hbld2
    exact hbld2
  have hgl : w1.heap.size < w3.heap.size := by have := hb3.size; omega
  clear hbld2 hb3 HB1 hbl1 hbl hgl0
  go_wp2_with fail
  go_loopw [16, 6] (fun i _ wr => ∃ k : Nat, k ≤ P.length ∧ i = .int .i64 k ∧ BldAt w1.heap.size w1.heap.size (putB 9 P.length ++ mcat (P.take k)) wr ∧ Below w1.heap.size w1 wr ∧ Below w.heap.size w wr ∧ w1.heap.size < wr.heap.size) (fun i _ _ => P.length - (intOf i).toNat)
  case atStart => exact ⟨0, by omega, rfl, HB2.out, hbl2, hbl3, hgl⟩
  case round =>
    obtain ⟨k, hk, rfl, hbld, hbel, hbw, hsz2⟩ := hrel
    have HB := Lib.hid hbld
    clear hbld
    by_cases hlt : k < P.length
    · have t1 : decide (k < P.length) = true := decide_eq_true hlt
      obtain ⟨b, o, rfl, hblt, hc1⟩ := HV.out.at hbel k hlt
      have hx := HRng.out k
      have HT := Lib.hid (take_snoc_getD P k hlt)
      have HL2 : (putB 9 P.length ++ mcat (P.take k)).length ≤ 100 := by
        have := mcat_length (P.take k)
        rw [List.length_take] at this
        rw [List.length_append]
        omega
      have i1 : (0 : Int) ≤ (k : Int) := by omega
      have i2 : (k : Int) < (P.length : Int) := by omega
      have hwx : IntKind.u64.wrap (P.getD k 0) = P.getD k 0 := by rw [wrap_u64]; omega
      generalize P.getD k 0 = x at *
      go_wp2_with fail
      refine (put_any _ _ (by omega) (by omega)).mono ?_
      rintro e w4 ⟨rfl, hb1⟩
      have hp9 := putB_le x
      have e9 := vput_putB x
      go_wp2_with fail
      refine (bld_write _ _ _ _ _ (bld_below HB.out hb1) (by omega) (Nat.le_trans hbel.size hb1.size)).mono ?_
      rintro e w5 ⟨rfl, hbld2, hb2⟩
      have hbel2 := (below_then hbel hbel.size hb1).trans hb2
      have hbw2 := (below_then hbw hbw.size hb1).trans (hb2.mono hsz)
      have hsz3 : w1.heap.size < w5.heap.size := by have := hb1.size; have := hb2.size; omega
      have HN : Hid (BldAt w1.heap.size w1.heap.size (putB 9 P.length ++ mcat (P.take (k + 1))) w5) := by
        rw [HT.out, mcat_append, mcat_one, ← List.append_assoc]
        exact hbld2
      clear hbld2
      go_wp2
      go_roundw
      case rel => exact ⟨k + 1, by omega, by go_num, HN.out, hbel2, hbw2, hsz3⟩
      case measure => simp [intOf]; omega
    · have t1 : decide (k < P.length) = false := decide_eq_false hlt
      have HF : Hid (putB 9 P.length ++ mcat (P.take k) = mtB P) := by
        show _ = _
        rw [List.take_of_length_le (by omega)]; rfl
      go_wp2_with fail
      refine (bld_string _ _ _ _ HB.out hbel.size).mono ?_
      rintro e w4 ⟨rfl, hb1⟩
      rw [HF.out]
      go_wp2
      go_ret
      exact ⟨rfl, hbw.trans (hb1.mono hsz)⟩
end
end Go.Proofs.Ytkonflbgkaflaaa
namespace Go.Proofs.Ytkonflbgkaflaaa
section
open Go.RowKit
set_option maxRecDepth 100000
set_option linter.unusedVariables false
set_option linter.unusedSimpArgs false
theorem ReadsI.alloc {k : IntKind} {w : World} {a : Option Addr} {n : Nat} {xs : List Int} (h : ReadsI k w a n xs) (o : Obj) : ReadsI k (w.alloc o) a n xs := h.below ((Below.refl _ _).alloc (Nat.le_refl _) _)
section
variable (xs ys zs : List Int) (w : World) (cx cy : Array Value) (nx ny nz : Nat) (hcx : cx = (xs.map (Value.int .i64)).toArray) (hcy : cy = (ys.map (Value.int .i64)).toArray) (hnx : nx = xs.length) (hny : ny = ys.length) (hnz : nz = zs.length) (hx : xs.length ≤ 100) (hy : ys.length ≤ 100) (hz : zs.length ≤ 100)
include hcx hcy hnx hny
theorem reads2 : ReadsI .i64 ((w.alloc (.cells cx 3)).alloc (.cells cy 3)) (some ⟨w.heap.size, 0, none⟩) nx xs ∧ ReadsI .i64 ((w.alloc (.cells cx 3)).alloc (.cells cy 3)) (some ⟨w.heap.size + 1, 0, none⟩) ny ys ∧ Below w.heap.size w ((w.alloc (.cells cx 3)).alloc (.cells cy 3)) := by
  subst hcx hcy hnx hny
  refine ⟨(reads_new .i64 w xs _).alloc _, ?_, ((Below.refl w.heap.size w).alloc (Nat.le_refl _) _).alloc (by simp) _⟩
  have := reads_new .i64 (w.alloc (.cells (xs.map (Value.int .i64)).toArray 3)) ys 3
  simpa using this
include hx hy
end
theorem same_ex (zs : List Int) (w : World) (a : Option Addr) (cz : Array Value) (nz : Nat) (hcz : cz = (zs.map (Value.int .i64)).toArray) (hnz : nz = zs.length) (hz : zs.length ≤ 100) (h : ReadsI .i64 w a nz zs) :
    Calls Try.prog 75 #[.slice a nz nz, .slice (some ⟨w.heap.size, 0, none⟩) nz nz] (w.alloc (.cells cz 3)) fun e w' => e = .returned (.bool true) ∧ Below w.heap.size w w' := by
  subst hcz hnz
  have hB := (Below.refl w.heap.size w).alloc (Nat.le_refl _) (.cells (zs.map (Value.int .i64)).toArray 3)
  exact (same_any _ _ _ _ _ _ zs zs _ (h.alloc _) (reads_new .i64 w zs _) (Nat.le_refl _) (by omega) (Nat.le_refl _) (by omega)).mono fun e w' ⟨h1, h2⟩ => ⟨by rw [h1]; simp, below_then hB hB.size h2⟩
end
end Go.Proofs.Ytkonflbgkaflaaa
namespace Go.Proofs.Ytkonflbgkaflaaa
section
open Go.ChangeShapes Go.WideShapes Go.ChangeAt Go.RowKit
set_option maxRecDepth 100000
set_option linter.unusedVariables false
set_option linter.unusedSimpArgs false
def IsInts (k : IntKind) (w : World) (v : Value) (xs : List Int) : Prop :=
  ∃ a n c, v = .slice a n c ∧ n ≤ c ∧ c ≤ 9223372036854775807 ∧ ReadsI k w a n xs ∧ ∀ x ∈ xs, (Lit.int k x).wf = true
theorem open_isInts {H : Type} {enc : TypeId × Value → H} {P : Program} {W : World} {r : Reach} {b0 : Nat} {t e : TypeId} {k : IntKind} {v : Value} {d : DataW H} {ps : List MemPlace}
    (ht : P.underlying t = some (.slice e)) (he : P.underlying e = some (.int k)) (hc : P.cellsOf e = 1) (hval : Value.okWide P W r b0 t v) (hd : DataW.Trod enc P W 0 (fun _ => true) true t v d ps) :
    ∃ xs, IsInts k W v xs := by
  obtain ⟨a, len, cap, rfl⟩ := okWide_slice ht hval
  obtain ⟨fuel, hf⟩ := hd
  rcases open_ints ht he hc hf with ⟨hcs, _⟩ | ⟨x, l, c, zs, hcs, _, hl, hm, hz, _, hcell, hwz⟩
  · simp [Value.cells] at hcs
    obtain ⟨rfl, rfl, rfl⟩ := hcs
    exact ⟨[], none, 0, 0, rfl, by omega, by omega, ⟨rfl, .inl rfl⟩, by simp⟩
  · simp [Value.cells] at hcs
    obtain ⟨rfl, rfl, rfl⟩ := hcs
    have hz' : zs.length = cap := by simpa using hz
    refine ⟨zs.take len, some x, len, cap, rfl, hl, by unfold maxLen at hm; omega, ⟨by rw [List.length_take]; omega, ?_⟩, fun y hy => hwz y (List.mem_of_mem_take hy)⟩
    rcases Nat.eq_zero_or_pos len with h0 | h0
    · exact .inl h0
    · right
      obtain ⟨b, off, spot⟩ := x
      have hc0 := hcell 0 (by omega)
      have hspot : spot = none := by simpa [Addr.add] using World.cell?_spot hc0
      subst hspot
      have hadd : ∀ j, (⟨b, off, none⟩ : Addr).add j = ⟨b, off + j, none⟩ := fun j => by unfold Addr.add; split <;> simp_all
      refine ⟨b, off, rfl, ?_, fun j hj => ?_⟩
      · have := World.block_lt_of_cell? _ _ hc0
        rw [hadd] at this
        exact this
      · have := hcell j (by omega)
        rw [hadd] at this
        rw [this]
        simp [List.getD_eq_getElem?_getD, hj]
end
end Go.Proofs.Ytkonflbgkaflaaa
namespace Go.Proofs.Ytkonflbgkaflaaa
section
open Go.RowKit
set_option maxRecDepth 100000
set_option linter.unusedVariables false
set_option linter.unusedSimpArgs false
/-- A slice that reads xs. -/
structure SlI (w : World) (a : Option Addr) (n c : Nat) (xs : List Int) : Prop where
  r : ReadsI .i64 w a n xs
  h1 : n ≤ c
  h2 : c ≤ 9223372036854775807
theorem SlI.below {w w' : World} {a : Option Addr} {n c : Nat} {xs : List Int} (h : SlI w a n c xs) (hb : Below w.heap.size w w') : SlI w' a n c xs := ⟨h.r.below hb, h.h1, h.h2⟩
theorem VecAt.sl {w : World} {B : Nat} {a : Option Addr} {l : List Int} (h : VecAt w B a l) (h8 : l.length ≤ 8) : SlI w a l.length l.length l := ⟨h.reads, Nat.le_refl _, by omega⟩
section
variable {w0 : World} {a1 a2 : Option Addr} {n1 c1 n2 c2 : Nat} {xs ys : List Int}
theorem same_from (wx : World) (hA : SlI w0 a1 n1 c1 xs) (hB : SlI w0 a2 n2 c2 ys) (hb : Below w0.heap.size w0 wx) :
    Calls Try.prog 75 #[.slice a1 n1 c1, .slice a2 n2 c2] wx fun e w' => e = .returned (.bool (decide (xs = ys))) ∧ Below w0.heap.size w0 w' :=
  (same_any _ _ _ _ _ _ xs ys wx (hA.r.below hb) (hB.r.below hb) hA.h1 hA.h2 hB.h1 hB.h2).mono fun e w' ⟨h1, h2⟩ => ⟨h1, below_then hb hb.size h2⟩
theorem right_from (wx : World) (hA : SlI w0 a1 n1 c1 xs) (hb : Below w0.heap.size w0 wx) :
    Calls Try.prog 47 #[.slice a1 n1 c1] wx fun e w' => e = .returned (.bool (decide (xs = pl xs))) ∧ Below w0.heap.size w0 w' :=
  (right_any _ _ _ xs wx (hA.r.below hb) hA.h1 hA.h2).mono fun e w' ⟨h1, h2⟩ => ⟨h1, below_then hb hb.size h2⟩
end
end
end Go.Proofs.Ytkonflbgkaflaaa
namespace Go.Proofs.Ytkonflbgkaflaaa
section
open Go.RowKit
set_option maxRecDepth 100000
set_option linter.unusedVariables false
set_option linter.unusedSimpArgs false
/-- The slice at a, n numbers long, is a row of its own, in memory from B on, and holds l. -/
structure AppJ (w : World) (B : Nat) (a : Option Addr) (n cap : Nat) (l : List Int) : Prop where
  len : l.length = n
  le : n ≤ cap
  max : cap ≤ maxLen
  row : w.ownsRow B 3 1 (.slice a n cap) n (l.map (Value.int .i64))
theorem appJ_nil (w : World) (B : Nat) : AppJ w B none 0 0 [] := ⟨rfl, Nat.le_refl _, by unfold maxLen; omega, World.ownsRow_nil _ _ _ _⟩
theorem AppJ.below {w w' : World} {B : Nat} {a : Option Addr} {n cap : Nat} {l : List Int} (h : AppJ w B a n cap l) (hb : Below w.heap.size w w') : AppJ w' B a n cap l :=
  ⟨h.len, h.le, h.max, h.row.kept (row := none) ⟨hb.os, hb.tape, hb.output, hb.size, fun i hi _ => hb.block i hi⟩ (by cases Value.ownBlock (.slice a n cap) <;> simp)⟩
theorem info_i64 : (Try.prog.info? 3).map (fun i => (i.zero, i.size, i.bytes)) = some (some (.int .i64 0), 1, 8) := by kernel_rfl
theorem run_append_i64 (ty : TypeId) (w : World) (B : Nat) (a : Option Addr) (n cap : Nat) (l : List Int) (h : AppJ w B a n cap l) (hB : B ≤ w.heap.size) (hn : n ≤ 100000) (ad : Addr) (c : Nat) (y : Int) (hy : w.cell? ad = some (.int .i64 y)) :
    ∃ a' cap' w', (Builtin.append_ #[24, 24] ty #[.slice a n cap, .slice (some ad) 1 c]).run Try.prog w = .ok (.slice a' (n + 1) cap') w' ∧ AppJ w' B a' (n + 1) cap' (l ++ [y]) ∧ Below B w w' := by
  obtain ⟨i, hi, hii⟩ := Option.map_eq_some_iff.1 info_i64
  simp only [Prod.mk.injEq] at hii
  obtain ⟨hz, hsize, hby⟩ := hii
  have hnews : ∀ j u, [Value.int .i64 y][j]? = some u → w.cell? (ad.add j) = some u := fun j u hj => by
    cases j with
    | zero => simp at hj; subst hj; simpa [Addr.add] using hy
    | succ j => simp at hj
  have h1 := h.row
  obtain ⟨v', w', hr, ho, hg, hnil⟩ := run_append_own (P := Try.prog) w B 24 ty 3 i (.int .i64 0) 1 8 Try.underlying24 hi hz hsize hby rfl (by decide) _ n _ h1 ad 1 c [.int .i64 y] rfl hnews (by intro u hu; simp at hu; subst hu; rfl) (by unfold maxLen; omega) (by omega) hB
  obtain ⟨g, cap', rfl, hgB, hgl⟩ := ho.form (by omega)
  have hcap : n + 1 ≤ cap' ∧ cap' ≤ maxLen := by
    rcases ho.2 with ⟨e, _⟩ | ⟨g', c', cur, e, _, _, h3, h4, _⟩
    · simp at e
    · simp only [Value.slice.injEq, Option.some.injEq, Addr.mk.injEq, and_true, true_and] at e
      obtain ⟨rfl, rfl⟩ := e
      exact ⟨h3, h4⟩
  exact ⟨_, cap', w', hr, ⟨by simp [h.len], hcap.1, hcap.2, by simpa using ho⟩, (Below.refl B w).grown hg hB fun k hk => (h1.lt k hk).1⟩
theorem wpList_append_i64 {ops : Array Oper} {rest : List Oper} {o : Oper} {act : Act} {Q : Exit → Act → World → Prop} (hgd : o.guard = none) (s x : Operand)
    (ho : o.op = .call { callee := .builtin .append, args := #[s, x], argTypes := #[24, 24] }) (w : World) (B : Nat) (a : Option Addr) (n cap : Nat) (l : List Int) (hs : act.eval s = .slice a n cap) (h : AppJ w B a n cap l) (hB : B ≤ w.heap.size) (hn : n ≤ 100000)
    (ad : Addr) (c : Nat) (y : Int) (hx : act.eval x = .slice (some ad) 1 c) (hy : w.cell? ad = some (.int .i64 y))
    (hK : ∀ a' cap' w', AppJ w' B a' (n + 1) cap' (l ++ [y]) → Below B w w' → wpList Try.prog ops Q rest (act.put o.dst (.slice a' (n + 1) cap')) w') : wpList Try.prog ops Q (o :: rest) act w := by
  refine wpList_plain hgd fun K hK' => ?_
  obtain ⟨a', cap', w', hrun, h1, h2⟩ := run_append_i64 o.type w B a n cap l h hB hn ad c y hy
  unfold Oper.wp
  simp [execOp, ho, resolve, invoke, builtin, hs, hx, hrun, Result.andThen]
  exact hK' _ _ (hK a' cap' w' h1 h2)
theorem AppJ.but {w w' : World} {B g : Nat} {a : Option Addr} {n cap : Nat} {l : List Int} (h : AppJ w B a n cap l) (k : But g w w') (hg : g < B) : AppJ w' B a n cap l := by
  refine ⟨h.len, h.le, h.max, h.row.kept (row := some g) k ?_⟩
  rcases h.row.2 with ⟨e, _⟩ | ⟨g', c', cur, e, h1, _⟩
  · rw [e]; exact .inl rfl
  · rw [e]
    right
    simp [Value.ownBlock]
    omega
theorem AppJ.sl {w : World} {B : Nat} {a : Option Addr} {n cap : Nat} {l : List Int} (h : AppJ w B a n cap l) : SlI w a n cap l := by
  refine ⟨⟨h.len, ?_⟩, h.le, by have := h.max; unfold maxLen at this; omega⟩
  rcases Nat.eq_zero_or_pos n with h0 | hp
  · exact .inl h0
  · right
    obtain ⟨g, cap', hv, hg, hlt⟩ := h.row.form hp
    obtain rfl : a = some ⟨g, 0, none⟩ := by simp only [Value.slice.injEq] at hv; exact hv.1
    refine ⟨g, 0, rfl, hlt, fun j hj => ?_⟩
    have hl := h.len
    rw [Nat.zero_add, h.row.cellAt j (by omega), List.getElem?_map, List.getD_eq_getElem?_getD, List.getElem?_eq_getElem (by omega)]
    rfl
end
end Go.Proofs.Ytkonflbgkaflaaa
namespace Go.Proofs.Ytkonflbgkaflaaa
section
set_option maxRecDepth 100000
set_option linter.unusedVariables false
set_option linter.unusedSimpArgs false
/-- What is still to be read. -/
def Rdr.rest (r : Rdr) : List UInt8 := r.s.data.toList.drop r.pos.toNat
theorem vget_some {s : ByteArray} {p v p' : Int} (h : vget s p = (v, p', 0)) : 0 ≤ p ∧ 0 ≤ v ∧ s.data.toList.drop p.toNat = putB 9 v ++ s.data.toList.drop p'.toNat ∧ p ≤ p' ∧ p' ≤ s.size := by
  unfold vget at h
  split at h
  · simp at h
  · rename_i hp
    cases hg : getL 10 (s.data.toList.drop p.toNat) with
    | none => rw [hg] at h; simp at h
    | some q =>
      obtain ⟨V, c⟩ := q
      rw [hg] at h
      simp only at h
      split at h
      · rename_i hc
        simp only [Prod.mk.injEq, and_true] at h
        obtain ⟨rfl, rfl⟩ := h
        obtain ⟨h1, h2, h3, h4, h5, h6⟩ := getL_some 10 _ V c hg
        have ht := put_getL 10 _ V c 9 hg hc.2 (by omega)
        have hl : (s.data.toList.drop p.toNat).length = s.size - p.toNat := by simp
        refine ⟨by omega, h1, ?_, by omega, by omega⟩
        rw [← ht, show (p + (c : Int)).toNat = p.toNat + c by omega, ← List.drop_drop, List.take_append_drop]
      · simp at h
theorem vget_at {s : ByteArray} {p v : Int} {t : List UInt8} (hp0 : 0 ≤ p) (hp : p ≤ s.size) (h : s.data.toList.drop p.toNat = putB 9 v ++ t) (h0 : 0 ≤ v) (h1 : v < 18446744073709551616) :
    vget s p = (v, p + ((putI 9 v).length : Int), 0) ∧ s.data.toList.drop (p + ((putI 9 v).length : Int)).toNat = t ∧ p + ((putI 9 v).length : Int) ≤ s.size := by
  have hl : (s.data.toList.drop p.toNat).length = s.size - p.toNat := by simp
  have hz := putI_pos 9 v
  have hb : (putB 9 v).length = (putI 9 v).length := by simp [putB]
  rw [h, List.length_append, hb] at hl
  refine ⟨?_, ?_, by omega⟩
  · unfold vget
    rw [if_neg (by omega), h, getL_put 9 v _ h0 (by simp only [Int.reducePow]; omega)]
    exact if_pos ⟨h1, putI_canon 9 v h0⟩
  · rw [show (p + ((putI 9 v).length : Int)).toNat = p.toNat + (putB 9 v).length by rw [hb]; omega, ← List.drop_drop, h]
    exact List.drop_left' rfl
theorem small_good {r : Rdr} {most : Int} (hr : r.ok) (h : (r.small most).2.bad = false) :
    r.bad = false ∧ 0 ≤ (r.small most).1 ∧ (r.small most).1 ≤ most ∧ r.rest = putB 9 (r.small most).1 ++ (r.small most).2.rest := by
  have hk := Rdr.num_ok hr
  unfold Rdr.small at *
  split at h
  · simp at h
  · rename_i hc
    rw [if_neg hc]
    have hb : r.num.2.bad = false := by
      rcases hh : r.num.2.bad with _ | _
      · rfl
      · exact absurd (.inl hh) hc
    have hv : ¬ most < r.num.1 := fun x => hc (.inr (.inr x))
    unfold Rdr.num at hb hv hk ⊢
    split at hb
    · rename_i h1; rw [h1] at hb; cases hb
    · rename_i h1
      rw [if_neg h1] at hv hk ⊢
      split at hb
      · rename_i h2
        rw [if_pos h2] at hv hk ⊢
        have hg : vget r.s r.pos = ((vget r.s r.pos).1, (vget r.s r.pos).2.1, 0) := by rw [← h2]
        obtain ⟨g1, g2, g3, g4, g5⟩ := vget_some hg
        refine ⟨by simpa using h1, g2, by simp only at hv ⊢; omega, ?_⟩
        exact g3
      · simp at hb
theorem small_at {r : Rdr} {most v : Int} {t : List UInt8} (hr : r.ok) (hb : r.bad = false) (h : r.rest = putB 9 v ++ t) (h0 : 0 ≤ v) (h1 : v ≤ most) (hm : most ≤ 9223372036854775807) :
    (r.small most).1 = v ∧ (r.small most).2.bad = false ∧ (r.small most).2.rest = t := by
  obtain ⟨a1, a2, a3⟩ := hr
  obtain ⟨g1, g2, g3⟩ := vget_at a2 a3 h h0 (by omega)
  have hn : r.num = (v, { r with pos := r.pos + ((putI 9 v).length : Int) }) := by
    unfold Rdr.num
    rw [if_neg (by rw [hb]; decide), g1]
    simp
  unfold Rdr.small
  rw [hn]
  simp only
  rw [if_neg (by rw [hb]; simp; omega)]
  exact ⟨rfl, hb, g2⟩
def takeN : Nat → Rdr → List Int × Rdr
  | 0, r => ([], r)
  | n + 1, r => ((takeN n r).1 ++ [((takeN n r).2.small 1099511627776).1], ((takeN n r).2.small 1099511627776).2)
theorem takeN_length (n : Nat) (r : Rdr) : (takeN n r).1.length = n := by
  induction n with
  | zero => rfl
  | succ n ih => simp [takeN, ih]
theorem takeN_ok {r : Rdr} (hr : r.ok) (n : Nat) : (takeN n r).2.ok ∧ (takeN n r).2.s = r.s := by
  induction n with
  | zero => exact ⟨hr, rfl⟩
  | succ n ih =>
    have := Rdr.small_ok ih.1 1099511627776
    exact ⟨this.1, this.2.trans ih.2⟩
theorem takeN_good {r : Rdr} (hr : r.ok) (n : Nat) (h : (takeN n r).2.bad = false) : r.bad = false ∧ (∀ x ∈ (takeN n r).1, 0 ≤ x ∧ x ≤ 1099511627776) ∧ r.rest = mcat (takeN n r).1 ++ (takeN n r).2.rest := by
  induction n with
  | zero => exact ⟨h, by simp [takeN], by simp [takeN, mcat]⟩
  | succ n ih =>
    obtain ⟨g1, g2, g3, g4⟩ := small_good (takeN_ok hr n).1 h
    obtain ⟨i1, i2, i3⟩ := ih g1
    refine ⟨i1, ?_, ?_⟩
    · intro x hx
      simp only [takeN, List.mem_append, List.mem_singleton] at hx
      rcases hx with hx | rfl
      · exact i2 x hx
      · exact ⟨g2, g3⟩
    · simp only [takeN]
      rw [mcat_append, mcat_one, List.append_assoc, ← g4, ← i3]
theorem takeN_range {r : Rdr} (hr : r.ok) (n : Nat) : ∀ x ∈ (takeN n r).1, 0 ≤ x ∧ x ≤ 1099511627776 := by
  induction n with
  | zero => simp [takeN]
  | succ n ih =>
    intro x hx
    simp only [takeN, List.mem_append, List.mem_singleton] at hx
    rcases hx with hx | rfl
    · exact ih x hx
    · rcases hb : ((takeN n r).2.small 1099511627776).2.bad with _ | _
      · have := small_good (takeN_ok hr n).1 hb
        exact ⟨this.2.1, this.2.2.1⟩
      · have : ((takeN n r).2.small 1099511627776).1 = 0 := by
          unfold Rdr.small at *
          split at hb
          · rename_i hc; rw [if_pos hc]
          · rename_i hc
            exact absurd (.inl hb) hc
        omega
theorem takeN_at {r : Rdr} (hr : r.ok) (hb : r.bad = false) (l : List Int) (t : List UInt8) (hl : ∀ x ∈ l, 0 ≤ x ∧ x ≤ 1099511627776) (h : r.rest = mcat l ++ t) (n : Nat) (hn : n ≤ l.length) :
    (takeN n r).1 = l.take n ∧ (takeN n r).2.bad = false ∧ (takeN n r).2.rest = mcat (l.drop n) ++ t := by
  induction n with
  | zero => exact ⟨by simp [takeN], hb, by simpa [takeN] using h⟩
  | succ n ih =>
    obtain ⟨i1, i2, i3⟩ := ih (by omega)
    have hlt : n < l.length := by omega
    have hx := hl l[n] (List.getElem_mem hlt)
    rw [List.drop_eq_getElem_cons hlt, show l[n] :: l.drop (n + 1) = [l[n]] ++ l.drop (n + 1) from rfl, mcat_append, mcat_one, List.append_assoc] at i3
    obtain ⟨s1, s2, s3⟩ := small_at (takeN_ok hr n).1 i2 i3 hx.1 hx.2 (by decide)
    refine ⟨?_, s2, s3⟩
    simp only [takeN]
    rw [i1, s1, List.take_succ_eq_append_getElem hlt]
def r0 (s : ByteArray) : Rdr := ⟨s, 0, false⟩
def tkV (r : Rdr) : List Int × Rdr := takeN (r.small 8).1.toNat (r.small 8).2
def readM (s : ByteArray) : List Int × Int := if (tkV (r0 s)).2.fin = 0 ∧ (tkV (r0 s)).1 = pl (tkV (r0 s)).1 then ((tkV (r0 s)).1, 0) else ([], 10)
theorem r0_ok {s : ByteArray} (hs : s.size ≤ 1000000000) : (r0 s).ok := ⟨hs, Int.le_refl _, by show (0 : Int) ≤ _; omega⟩
theorem r0_rest (s : ByteArray) : (r0 s).rest = s.data.toList := rfl
theorem fin_rest {r : Rdr} (hr : r.ok) : r.fin = 0 ↔ r.bad = false ∧ r.rest = [] := by
  obtain ⟨a1, a2, a3⟩ := hr
  have hl : r.rest.length = r.s.size - r.pos.toNat := by simp [Rdr.rest]
  unfold Rdr.fin
  constructor
  · intro h
    split at h
    · cases h
    · rename_i hc
      have hb : r.bad = false := by
        rcases hh : r.bad with _ | _
        · rfl
        · exact absurd (.inl hh) hc
      have : ¬ r.pos < (r.s.size : Int) := fun x => hc (.inr x)
      exact ⟨hb, List.eq_nil_of_length_eq_zero (by omega)⟩
  · rintro ⟨h1, h2⟩
    rw [h2] at hl
    simp at hl
    rw [if_neg (by rw [h1]; simp; omega)]
theorem text_read (s : ByteArray) (hs : s.size ≤ 1000000000) (h : (readM s).2 = 0) : (⟨(mtB (pl (readM s).1)).toArray⟩ : ByteArray) = s := by
  unfold readM at *
  split at h
  · rename_i hc
    rw [if_pos hc]
    simp only
    rw [← hc.2]
    have h1 := Rdr.small_ok (r0_ok hs) 8
    have h2 := takeN_ok h1.1 ((r0 s).small 8).1.toNat
    obtain ⟨f1, f2⟩ := (fin_rest h2.1).1 hc.1
    obtain ⟨g1, g2, g3⟩ := takeN_good h1.1 _ f1
    obtain ⟨k1, k2, k3, k4⟩ := small_good (r0_ok hs) g1
    have hlen := takeN_length ((r0 s).small 8).1.toNat ((r0 s).small 8).2
    rw [f2, List.append_nil] at g3
    rw [g3, r0_rest] at k4
    apply ByteArray.ext
    apply Array.ext'
    rw [k4]
    unfold mtB tkV
    rw [hlen, show ((((r0 s).small 8).1.toNat : Nat) : Int) = ((r0 s).small 8).1 by omega]
  · cases h
theorem read_text (xs : List Int) : readM ⟨(mtB (pl xs)).toArray⟩ = (pl xs, 0) := by
  have hl8 := pl_length xs
  have hz : (⟨(mtB (pl xs)).toArray⟩ : ByteArray).size ≤ 1000000000 := by
    have h1 := mcat_length (pl xs)
    have h2 := putB_le ((pl xs).length : Int)
    show (mtB (pl xs)).toArray.size ≤ _
    simp [mtB]
    omega
  have hr : ∀ x ∈ pl xs, 0 ≤ x ∧ x ≤ 1099511627776 := by
    intro x hx
    obtain ⟨i, hi, rfl⟩ := List.mem_iff_getElem.1 hx
    have := pl_range xs i
    rw [List.getD_eq_getElem?_getD, List.getElem?_eq_getElem hi] at this
    exact this
  obtain ⟨s1, s2, s3⟩ := small_at (most := 8) (v := ((pl xs).length : Int)) (t := mcat (pl xs) ++ []) (r0_ok hz) rfl (by rw [r0_rest]; simp [mtB]) (by omega) (by omega) (by decide)
  have h1 := Rdr.small_ok (r0_ok hz) 8
  obtain ⟨t1, t2, t3⟩ := takeN_at h1.1 s2 (pl xs) [] hr s3 (pl xs).length (Nat.le_refl _)
  have h2 := takeN_ok h1.1 (pl xs).length
  rw [List.take_length] at t1
  rw [List.drop_length] at t3
  have e : tkV (r0 ⟨(mtB (pl xs)).toArray⟩) = (pl xs, (takeN (pl xs).length ((r0 ⟨(mtB (pl xs)).toArray⟩).small 8).2).2) := by
    unfold tkV
    rw [s1, Int.toNat_natCast]
    exact Prod.ext t1 rfl
  unfold readM
  rw [e]
  simp only
  rw [if_pos ⟨(fin_rest h2.1).2 ⟨t2, by rw [t3]; rfl⟩, (pl_pl xs).symm⟩]
end
end Go.Proofs.Ytkonflbgkaflaaa
namespace Go.Proofs.Ytkonflbgkaflaaa
section
open Go.RowKit
set_option maxRecDepth 100000
set_option linter.unusedVariables false
set_option linter.unusedSimpArgs false
theorem below_but {B g : Nat} {w0 w w' : World} (h0 : Below B w0 w) (h : But g w w') (hB : B ≤ w.heap.size) (hg : B ≤ g) : Below B w0 w' := But.below h0 h hB hg
theorem small8 {r : Rdr} (hr : r.ok) : 0 ≤ (r.small 8).1 ∧ (r.small 8).1 ≤ 8 := by
  rcases hb : (r.small 8).2.bad with _ | _
  · have := small_good hr hb
    omega
  · have := Rdr.small_bad 8 hb
    omega
end
end Go.Proofs.Ytkonflbgkaflaaa
namespace Go.Proofs.Ytkonflbgkaflaaa
section
open Go.RowKit
set_option maxRecDepth 100000
set_option linter.unusedVariables false
set_option linter.unusedSimpArgs false
theorem ba_cat (l : List UInt8) (x : Int) : (⟨l.toArray⟩ : ByteArray) ++ vput x = ⟨(l ++ putB 9 x).toArray⟩ := by
  apply ByteArray.ext
  apply Array.ext'
  rw [ByteArray.data_append, Array.toList_append, vput_data]
theorem ba_size (l : List UInt8) : (⟨l.toArray⟩ : ByteArray).size = l.length := by simp [ByteArray.size]
theorem vput_ba (x : Int) : vput x = ⟨(putB 9 x).toArray⟩ := by
  apply ByteArray.ext
  apply Array.ext'
  rw [vput_data]
set_option maxHeartbeats 2000000 in
theorem rmtext_any (a : Option Addr) (n c : Nat) (xs : List Int) (w : World) (h : ReadsI .i64 w a n xs) (hnc : n ≤ c) (hcb : c ≤ 9223372036854775807) :
    Calls Try.prog 44 #[.slice a n c] w fun e w' => e = .returned (.string ⟨(mtB (pl xs)).toArray⟩) ∧ Below w.heap.size w w' := by
  have hl8 := pl_length xs
  have HRng := Lib.hid (pl_range xs)
  obtain ⟨P, HP⟩ : ∃ P, Hid (P = pl xs) := ⟨_, rfl⟩
  rw [← HP.out]
  go_enter Try.func44, Try.ntmps44
  go_wp2_with fail
  refine (rplain_any a n c xs w h hnc hcb).mono ?_
  rintro e w1 ⟨a', cap', rfl, hlc, hcm, hv, hb⟩
  rw [← HP.out] at hv hl8 HRng hlc ⊢
  clear HP
  have HV := Lib.hid hv.reads
  clear hv
  have hwr : IntKind.u64.wrap (P.length : Int) = P.length := by rw [wrap_u64]; omega
  go_wp2_with fail
  refine (rput_any _ _ (by omega) (by omega)).mono ?_
  rintro e w2 ⟨rfl, hb2⟩
  have hbl1 := Lib.hid (And.intro hb2 (below_then hb hb.size hb2))
  clear hb hb2
  rw [vput_ba]
  go_wp2_with fail
  go_loopw [4, 5] (fun t i wr => ∃ k : Nat, k ≤ P.length ∧ i = .int .i64 k ∧ t = .string ⟨(putB 9 P.length ++ mcat (P.take k)).toArray⟩ ∧ Below w1.heap.size w1 wr ∧ Below w.heap.size w wr) (fun _ i _ => P.length - (intOf i).toNat)
  case atStart => exact ⟨0, by omega, rfl, by simp [mcat], hbl1.out.1, hbl1.out.2⟩
  case round =>
    obtain ⟨k, hk, rfl, rfl, hbel, hbw⟩ := hrel
    by_cases hlt : k < P.length
    · have t1 : decide (k < P.length) = true := decide_eq_true hlt
      obtain ⟨b, o, rfl, hblt, hc1⟩ := HV.out.at hbel k hlt
      have hx := HRng.out k
      have HT := Lib.hid (take_snoc_getD P k hlt)
      have HL2 : (putB 9 P.length ++ mcat (P.take k)).length ≤ 100 := by
        have := mcat_length (P.take k)
        have := putB_le (P.length : Int)
        rw [List.length_take] at *
        rw [List.length_append]
        omega
      have i1 : (0 : Int) ≤ (k : Int) := by omega
      have i2 : (k : Int) < (P.length : Int) := by omega
      have hwx : IntKind.u64.wrap (P.getD k 0) = P.getD k 0 := by rw [wrap_u64]; omega
      have hz := ba_size (putB 9 P.length ++ mcat (P.take k))
      have HC := Lib.hid (ba_cat (putB 9 P.length ++ mcat (P.take k)) (P.getD k 0))
      have hvz := vput_le (P.getD k 0)
      generalize P.getD k 0 = x at *
      go_wp2_with fail
      refine (rput_any _ _ (by omega) (by omega)).mono ?_
      rintro e w4 ⟨rfl, hb1⟩
      have hbel2 := Lib.hid (And.intro (below_then hbel hbel.size hb1) (below_then hbw hbw.size hb1))
      go_wp2
      go_roundw
      case rel => exact ⟨k + 1, by omega, by go_num, by rw [HC.out, HT.out, mcat_append, mcat_one, ← List.append_assoc], hbel2.out.1, hbel2.out.2⟩
      case measure => simp [intOf]; omega
    · have t1 : decide (k < P.length) = false := decide_eq_false hlt
      go_wp2
      go_ret
      exact ⟨ret_str (by rw [List.take_of_length_le (by omega)]; rfl), hbw⟩
/-- What TakeVector takes. -/
def tvV (r : Rdr) : List Int × Rdr := if (tkV r).2.bad = false ∧ (tkV r).1 = pl (tkV r).1 then tkV r else ([], { (tkV r).2 with bad := true })
theorem tkV_ok {r : Rdr} (h : r.ok) : (tkV r).2.ok ∧ (tkV r).2.s = r.s := by
  have h1 := Rdr.small_ok h 8
  have h2 := takeN_ok h1.1 (r.small 8).1.toNat
  exact ⟨h2.1, h2.2.trans h1.2⟩
theorem tvV_ok {r : Rdr} (h : r.ok) : (tvV r).2.ok ∧ (tvV r).2.s = r.s := by
  have h1 := tkV_ok h
  unfold tvV
  split
  · exact h1
  · exact ⟨h1.1, h1.2⟩
set_option maxHeartbeats 2000000 in
theorem rtv_any (g : Nat) (r : Rdr) (w : World) (hr : RdrAt 91 w g r) (hok : r.ok) : Calls Try.prog 73 #[.pointer (some ⟨g, 0, none⟩)] w fun e w' => ∃ a n c, e = .returned (.slice a n c) ∧ SlI w' a n c (tvV r).1 ∧ RdrAt 91 w' g (tvV r).2 ∧ But g w w' := by
  have h1 := Rdr.small_ok hok 8
  have h8 := small8 hok
  have HM : Hid (tvV r = if (tkV r).2.bad = false ∧ (tkV r).1 = pl (tkV r).1 then tkV r else ([], { (tkV r).2 with bad := true })) := rfl
  have HTK : Hid (tkV r = takeN (r.small 8).1.toNat (r.small 8).2) := rfl
  generalize tvV r = M at *
  generalize tkV r = TK at *
  have hgl := hr.lt
  go_enter Try.func73, Try.ntmps73
  go_wp2_with fail
  refine (rrdr_small g r 8 _ hr hok (by decide) (by decide)).mono ?_
  rintro e w2 ⟨rfl, h2, b2⟩
  have hgl2 := h2.lt
  have hz := b2.size
  generalize (r.small 8).2 = R1 at *
  obtain ⟨n, hn⟩ : ∃ n : Nat, (r.small 8).1 = n := ⟨(r.small 8).1.toNat, by omega⟩
  rw [hn] at h8 HTK ⊢
  rw [Int.toNat_natCast] at HTK
  have INIT := Lib.hid (And.intro h2 b2)
  clear h2 b2 hn hr
  go_wp2_with fail
  go_loopw [4, 5] (fun p i wr => ∃ (k : Nat) (a : Option Addr) (cap : Nat), k ≤ n ∧ i = .int .i64 k ∧ p = .slice a k cap ∧ RdrAt 91 wr g (takeN k R1).2 ∧ AppJ wr w.heap.size a k cap (takeN k R1).1 ∧ But g w wr) (fun _ i _ => 9 - (intOf i).toNat)
  case atStart => exact ⟨0, none, 0, by omega, rfl, rfl, INIT.out.1, appJ_nil _ _, INIT.out.2⟩
  case round =>
    obtain ⟨k, a, cap, hk, rfl, rfl, hR, hA, hB⟩ := hrel
    have hRok := takeN_ok h1.1 k
    have hle := hA.le
    have hmax : cap ≤ 9223372036854775807 := hA.max
    have hlt0 := hR.lt
    have hz2 := hB.size
    have HT : Hid (takeN (k + 1) R1 = ((takeN k R1).1 ++ [((takeN k R1).2.small 1099511627776).1], ((takeN k R1).2.small 1099511627776).2)) := rfl
    by_cases hlt : k < n
    · have t1 : decide (k < n) = true := decide_eq_true hlt
      have t2 : decide ((k : Int) < (n : Int)) = true := decide_eq_true (by omega)
      generalize takeN k R1 = TK1 at *
      obtain ⟨L, R⟩ := TK1
      simp only at hR hA hRok HT
      go_wp2_with fail
      refine (rrdr_small g R 1099511627776 _ hR hRok.1 (by decide) (by decide)).mono ?_
      rintro e w3 ⟨rfl, h3, b3⟩
      have hA3 := Lib.hid (hA.but b3 (by omega))
      have hB3 := hB.trans b3
      have hl3 := h3.lt
      have hz3 := hB3.size
      have H3 := Lib.hid h3
      clear h3 b3 hA hR hB
      generalize (R.small 1099511627776).1 = y at *
      go_wp2_with (at_builtin; refine wpList_append_i64 rfl _ _ rfl _ w.heap.size a k cap L rfl (hA3.out.below ?q1) ?q2 ?q3 ⟨w3.heap.size, 0, none⟩ 1 y rfl ?q4 ?q5)
      case q1 => exact (Below.refl _ _).alloc (Nat.le_refl _) _
      case q2 => simp; omega
      case q3 => omega
      case q4 => rw [World.cell?_alloc_new]; rfl
      case q5 =>
        intro a3 cap3 w5 hg3 hb3
        have HG3 := Lib.hid hg3
        clear hg3
        have hb4 : Below w.heap.size w3 w5 := ((Below.refl _ _).alloc (by omega) _).trans hb3
        have hR5 : RdrAt 91 w5 g (R.small 1099511627776).2 := (hb4.block g (by omega)).trans H3.out
        have hB5 : But g w w5 := ⟨hb4.os.trans hB3.os, hb4.tape.trans hB3.tape, hb4.output.trans hB3.output, Nat.le_trans hz3 hb4.size, fun i hi hne => (hb4.block i hi).trans (hB3.block i hi hne)⟩
        go_wp2
        go_roundw
        case rel => exact ⟨k + 1, a3, cap3, by omega, by go_num, rfl, by rw [HT.out]; exact hR5, by rw [HT.out]; exact HG3.out, hB5⟩
        case measure => simp [intOf]; omega
    · have t1 : decide (k < n) = false := decide_eq_false hlt
      have t2 : decide ((k : Int) < (n : Int)) = false := decide_eq_false (by omega)
      obtain rfl : k = n := by omega
      rw [← HTK.out] at hR hA hRok
      obtain ⟨L, R⟩ := TK
      simp only at hR hA hRok HM
      clear HTK HT
      have hS := hA.sl
      go_wp2_with fail
      refine (rright_any _ _ _ _ _ hS.r hS.h1 hS.h2).mono ?_
      rintro e w3 ⟨rfl, d3⟩
      have hS3 := Lib.hid (hS.below d3)
      have hR3 := hR.below d3
      have hB3 := Lib.hid (hB.then_below d3)
      have c2 := hR3.c2
      have f2 := hR3.fz 2
      have HR3 := Lib.hid hR3
      have HRB := Lib.hid (And.intro (hR3.set2 true) ((hB.then_below d3).trans (But.set g 2 _ (.bool true))))
      clear hS d3 hR3 hA hR hB
      have nilS : ∀ wx : World, SlI wx none 0 0 [] := fun wx => ⟨⟨rfl, .inl rfl⟩, Nat.le_refl _, by decide⟩
      rcases hbad : R.bad with _ | _
      · rw [hbad] at c2
        by_cases hp : L = pl L
        · have hd : decide (L = pl L) = true := decide_eq_true hp
          have HV : Hid (M = (L, R)) := by show _ = _; rw [HM.out, if_pos ⟨hbad, hp⟩]
          rw [hd]
          clear hd hp hbad
          go_wp2_with fail
          go_ret
          exact ⟨a, k, cap, rfl, by rw [HV.out]; exact hS3.out, by rw [HV.out]; exact HR3.out, hB3.out⟩
        · have hd : decide (L = pl L) = false := decide_eq_false hp
          have HV : Hid (M = ([], { R with bad := true })) := by show _ = _; rw [HM.out, if_neg (fun h => hp h.2)]
          rw [hd]
          clear hd hp hbad
          go_wp2_with fail
          go_ret
          exact ⟨none, 0, 0, rfl, by rw [HV.out]; exact nilS _, by rw [HV.out]; exact HRB.out.1, HRB.out.2⟩
      · rw [hbad] at c2
        have HV : Hid (M = ([], { R with bad := true })) := by show _ = _; rw [HM.out, if_neg (fun h => by rw [hbad] at h; cases h.1)]
        clear hbad
        go_wp2_with fail
        go_ret
        exact ⟨none, 0, 0, rfl, by rw [HV.out]; exact nilS _, by rw [HV.out]; exact HRB.out.1, HRB.out.2⟩
theorem read_tv (s : ByteArray) (hs : s.size ≤ 1000000000) : readM s = if (tvV (r0 s)).2.fin = 0 then ((tvV (r0 s)).1, 0) else ([], 10) := by
  have hk := (tkV_ok (r0_ok hs)).1
  have hf := fin_rest hk
  unfold readM tvV
  by_cases h : (tkV (r0 s)).2.bad = false ∧ (tkV (r0 s)).1 = pl (tkV (r0 s)).1
  · rw [if_pos h]
    by_cases h2 : (tkV (r0 s)).2.fin = 0
    · rw [if_pos ⟨h2, h.2⟩, if_pos h2]
    · rw [if_neg (fun x => h2 x.1), if_neg h2]
  · rw [if_neg h, if_neg]
    · rw [if_neg]
      unfold Rdr.fin
      rw [if_pos (.inl rfl)]
      decide
    · intro x
      exact h ⟨(hf.1 x.1).1, x.2⟩
end
end Go.Proofs.Ytkonflbgkaflaaa
