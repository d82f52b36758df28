/- Small words used by all walks of this claim: local arrays of bytes, slices of arrays, numbers as bytes. Plain law: whole numbers of 128 bits, as two halves. A block that is an array of numbers of one kind; one that is a single number. Contracts of the package vint: what each function answers. -/
import Derived.Test.YtojnooagifhekaaRows
import Derived.WalkKit
import Derived.WalkSpells
import Derived.WalkLawsBesides
import Derived.Lib.Hide
namespace Go.Proofs.Ytojnooagifhekaa
section
open Go.RowKit
set_option maxRecDepth 100000
set_option linter.unusedVariables false
set_option linter.unusedSimpArgs false
def arrB (l : List Int) : Array Value := (l.map (Value.int .u8)).toArray
theorem arrB_get (l : List Int) (i : Nat) (h : i < l.length) : (arrB l)[i]? = some (.int .u8 (l.getD i 0)) := by
  simp [arrB, h]
theorem arrB_set (l : List Int) (i : Nat) (v : Int) : (arrB l).setIfInBounds i (.int .u8 v) = arrB (l.set i v) := by
  simp [arrB, List.map_set]
theorem sliceAt_to {P : Program} {T E n sz : Nat} (hT : P.underlying T = some (.array n E)) (hs : ∀ w, (sizeOf E).run P w = .ok sz w) (a : Addr) (x : Int) (k : Nat) (hx : x = k) (hk : k ≤ n) :
    ∀ w : World, (Instr.sliceAt T (.pointer (some a)) none (some (.int .i64 x)) none).run P w = .ok (.slice (some a) k n) w := by
  intro w
  subst hx
  have ht : P.underlying T = some (.array (P.arrayLen T) (P.elem T)) := by rw [hT]; simp [Program.arrayLen, Program.elem, hT]
  have hl : P.arrayLen T = n := by simp [Program.arrayLen, hT]
  have he : P.elem T = E := by simp [Program.elem, hT]
  rw [run_sliceAt_array_h w T a ht .i64 k (by omega) (by omega), he, hs, hl]
  simp only [Result.andThen, slicedAt]
  have ha : a.add (0 * sz) = a := by simp [Addr.add]
  rw [ha]; simp
def putI : Nat → Int → List Int
  | 0, n => [n]
  | f + 1, n => if n < 128 then [n] else (n % 128 + 128) :: putI f (n / 128)
def vput (n : Int) : ByteArray := strOfNums (putI 9 n)
theorem u8_or_128 (x : Int) (h0 : 0 ≤ x) (h1 : x < 256) : bits .or .u8 x 128 = x % 128 + 128 := by
  have : ∀ k : Fin 256, bits .or .u8 (k.val : Int) 128 = (k.val : Int) % 128 + 128 := by decide +kernel
  have h := this ⟨x.toNat, by omega⟩
  simpa [show ((x.toNat : Nat) : Int) = x by omega] using h
theorem ret_str {a b : ByteArray} (h : a = b) : Ending.returned (.string a) = .returned (.string b) := by rw [h]
theorem take_set_snoc (l : List Int) (i : Nat) (v : Int) (h : i < l.length) : (l.set i v).take (i + 1) = l.take i ++ [v] := by
  rw [List.take_succ_eq_append_getElem (by simpa using h), List.take_set_of_le (Nat.le_refl _)]
  simp
theorem strOfNums_append (a b : List Int) : strOfNums (a ++ b) = strOfNums a ++ strOfNums b := by
  apply ByteArray.ext
  simp [strOfNums]
/-- 'string([]byte{x})'. -/
theorem conv_one {P : Program} {S E T : TypeId} (hs : P.underlying S = some (.slice E)) (he : P.underlying E = some (.int .u8)) (hd : P.underlying T = some .string) :
    ∀ (wx : World) (x : Int), (convert S T (.slice (some ⟨wx.heap.size, 0, none⟩) 1 1)).run P (wx.alloc (.cells #[.int .u8 x] E)) = .ok (.string (strOfNums [x])) (wx.alloc (.cells #[.int .u8 x] E)) :=
  fun wx x => run_convert_bytes_arg _ S E hs he wx.heap.size 0 1 1 [x] rfl (fun i hi => by
    have : i = 0 := by omega
    subst this
    rw [World.cell?_alloc_new]; rfl) T hd
/-- 's[lo:hi]'. -/
theorem str_slice {P : Program} {T : TypeId} (hu : P.underlying T = some .string) (s : ByteArray) (lo hi : Int) (a b : Nat) (ha : lo = a) (hb : hi = b) (h1 : a ≤ b) (h2 : b ≤ s.size) :
    ∀ wx : World, (Instr.slice T (.string s) (some (.int .i64 lo)) (some (.int .i64 hi)) none).run P wx = .ok (.string (s.extract a b)) wx := by
  intro wx
  subst ha hb
  have := run_slice_string (P := P) wx T s .i64 .i64 (a : Int) (b : Int) hu (by omega) (by omega) (by omega)
  simpa using this
theorem below_from_drew {B : Nat} {w w' : World} (h : Below B w.drew w') : Below B w w' := ⟨h.os, h.tape, h.output, h.size, h.block⟩
theorem below_from_alloc {B : Nat} {w w' : World} {o : Obj} (h : Below B (w.alloc o) w') (hB : B ≤ w.heap.size) : Below B w w' := ((Below.refl B w).alloc hB o).trans h
theorem below_then {B : Nat} {w w1 w2 : World} (h : Below B w w1) (hB : B ≤ w1.heap.size) (k : Below w1.heap.size w1 w2) : Below B w w2 := h.trans (k.mono hB)
/-- A slice of whole numbers that is read: nil, empty and other slices alike. -/
def ReadsI (k : IntKind) (w : World) (a : Option Addr) (n : Nat) (xs : List Int) : Prop :=
  xs.length = n ∧ (n = 0 ∨ ∃ b o, a = some ⟨b, o, none⟩ ∧ b < w.heap.size ∧ ∀ j, j < n → w.cell? ⟨b, o + j, none⟩ = some (.int k (xs.getD j 0)))
theorem ReadsI.below {k : IntKind} {w w' : World} {a : Option Addr} {n : Nat} {xs : List Int} (h : ReadsI k w a n xs) (hb : Below w.heap.size w w') : ReadsI k w' a n xs := by
  obtain ⟨h1, h2⟩ := h
  refine ⟨h1, ?_⟩
  rcases h2 with h2 | ⟨b, o, h3, h4, h5⟩
  · exact .inl h2
  · exact .inr ⟨b, o, h3, Nat.lt_of_lt_of_le h4 hb.size, fun j hj => (hb.cell (p := ⟨b, o + j, none⟩) h4).trans (h5 j hj)⟩
theorem ReadsI.take {k : IntKind} {w : World} {a : Option Addr} {n : Nat} {xs : List Int} (h : ReadsI k w a n xs) (m : Nat) (hm : m ≤ n) : ReadsI k w a m (xs.take m) := by
  obtain ⟨h1, h2⟩ := h
  refine ⟨by rw [List.length_take]; omega, ?_⟩
  rcases h2 with h2 | ⟨b, o, h3, h4, h5⟩
  · exact .inl (by omega)
  · exact .inr ⟨b, o, h3, h4, fun j hj => by rw [h5 j (by omega)]; simp [List.getD_eq_getElem?_getD, hj]⟩
theorem reads_new (k : IntKind) (w : World) (xs : List Int) (E : TypeId) : ReadsI k (w.alloc (.cells (xs.map (Value.int k)).toArray E)) (some ⟨w.heap.size, 0, none⟩) xs.length xs :=
  ⟨rfl, .inr ⟨w.heap.size, 0, rfl, by simp, fun j hj => by
    rw [World.cell?_alloc_new, Nat.zero_add]
    simp [List.getD_eq_getElem?_getD, hj]⟩⟩
end
end Go.Proofs.Ytojnooagifhekaa
namespace Go.Proofs.Ytojnooagifhekaa
section
set_option maxRecDepth 100000
set_option linter.unusedVariables false
set_option linter.unusedSimpArgs false
structure Wd where
  hi : Int
  lo : Int
deriving DecidableEq
def Wd.val (a : Wd) : Value := .agg #[.int .i64 a.hi, .int .u64 a.lo]
def Wd.ok (a : Wd) : Prop := (-9223372036854775808 ≤ a.hi ∧ a.hi ≤ 9223372036854775807) ∧ (0 ≤ a.lo ∧ a.lo ≤ 18446744073709551615)
def Wd.v (a : Wd) : Int := a.hi * 18446744073709551616 + a.lo
def sg64 (x : Int) : Int := (x + 9223372036854775808) % 18446744073709551616 - 9223372036854775808
def wd (n : Int) : Wd := ⟨sg64 (n / 18446744073709551616), n % 18446744073709551616⟩
theorem sg64_range (x : Int) : -9223372036854775808 ≤ sg64 x ∧ sg64 x ≤ 9223372036854775807 := by unfold sg64; omega
theorem wd_ok (n : Int) : (wd n).ok := ⟨sg64_range _, by unfold wd; simp only; omega⟩
theorem wd_v (a : Wd) (h : a.ok) : wd a.v = a := by
  obtain ⟨hi, lo⟩ := a
  obtain ⟨h1, h2⟩ := h
  simp only at h1 h2
  unfold wd Wd.v sg64
  simp only [Wd.mk.injEq]
  constructor <;> omega
theorem v_range (a : Wd) (h : a.ok) : -170141183460469231731687303715884105728 ≤ a.v ∧ a.v ≤ 170141183460469231731687303715884105727 := by
  obtain ⟨h1, h2⟩ := h
  unfold Wd.v
  omega
theorem v_wd (n : Int) (h0 : -170141183460469231731687303715884105728 ≤ n) (h1 : n ≤ 170141183460469231731687303715884105727) : (wd n).v = n := by
  unfold wd Wd.v sg64
  simp only
  omega
theorem wd_mod (n m : Int) (h : n % 340282366920938463463374607431768211456 = m % 340282366920938463463374607431768211456) : wd n = wd m := by
  unfold wd sg64
  simp only [Wd.mk.injEq]
  constructor <;> omega
theorem v_wd_mod (n : Int) : (wd n).v % 340282366920938463463374607431768211456 = n % 340282366920938463463374607431768211456 := by
  unfold wd Wd.v sg64
  simp only
  omega
theorem wd_eq_iff (n m : Int) : wd n = wd m ↔ n % 340282366920938463463374607431768211456 = m % 340282366920938463463374607431768211456 :=
  ⟨fun h => by rw [← v_wd_mod n, h, v_wd_mod], wd_mod n m⟩
theorem v_inj {a b : Wd} (ha : a.ok) (hb : b.ok) (h : a.v = b.v) : a = b := by rw [← wd_v a ha, ← wd_v b hb, h]
def cmpW (a b : Wd) : Int := if a.v = b.v then 0 else if a.v < b.v then -1 else 1
def smallW (a : Wd) : Int × Bool := if -9223372036854775808 ≤ a.v ∧ a.v ≤ 9223372036854775807 then (a.v, true) else (0, false)
end
end Go.Proofs.Ytojnooagifhekaa
namespace Go.Proofs.Ytojnooagifhekaa
section
open Go.RowKit
set_option maxRecDepth 100000
set_option linter.unusedVariables false
set_option linter.unusedSimpArgs false
def cellsK (k : IntKind) (l : List Int) : Array Value := (l.map (Value.int k)).toArray
theorem cellsK_get (k : IntKind) (l : List Int) (i : Nat) (h : i < l.length) : (cellsK k l)[i]? = some (.int k (l.getD i 0)) := by
  simp [cellsK, h]
theorem cellsK_set (k : IntKind) (l : List Int) (i : Nat) (v : Int) : (cellsK k l).setIfInBounds i (.int k v) = cellsK k (l.set i v) := by
  simp [cellsK, List.map_set]
theorem cellsK_size (k : IntKind) (l : List Int) : (cellsK k l).size = l.length := by simp [cellsK]
theorem cellsK_one (k : IntKind) (l : List Int) : (cellsK k l).all (·.oneCell') = true := by
  simp [cellsK, Array.all_eq_true]
  intro i hi
  rfl
/-- The block g is an array (type T) of the numbers l. -/
def BlkK (k : IntKind) (T : TypeId) (w : World) (g : Nat) (l : List Int) : Prop := w.heap[g]? = some (.cells (cellsK k l) T (0, 0))
theorem BlkK.lt {k : IntKind} {T : TypeId} {w : World} {g : Nat} {l : List Int} (h : BlkK k T w g l) : g < w.heap.size := by
  unfold BlkK at h
  rcases Nat.lt_or_ge g w.heap.size with h' | h'
  · exact h'
  · simp [Array.getElem?_eq_none h'] at h
theorem BlkK.cell {k : IntKind} {T : TypeId} {w : World} {g : Nat} {l : List Int} (h : BlkK k T w g l) (i : Nat) (hi : i < l.length) : w.cell? ⟨g, i, none⟩ = some (.int k (l.getD i 0)) := by
  simp only [World.cell?, show w.heap[g]? = _ from h]
  exact cellsK_get k l i hi
theorem BlkK.fz {k : IntKind} {T : TypeId} {w : World} {g : Nat} {l : List Int} (h : BlkK k T w g l) (j : Nat) : w.frozen? ⟨g, j, none⟩ = false := by simp [World.frozen?, show w.heap[g]? = _ from h]
theorem BlkK.set {k : IntKind} {T : TypeId} {w : World} {g : Nat} {l : List Int} (h : BlkK k T w g l) (i : Nat) (v : Int) : BlkK k T (w.setCell ⟨g, i, none⟩ (.int k v)) g (l.set i v) := by
  unfold BlkK at *
  simp [World.setCell, Array.getElem?_modify, h, cellsK_set]
theorem BlkK.far {k : IntKind} {T : TypeId} {w : World} {g : Nat} {l : List Int} (h : BlkK k T w g l) {p : Addr} (hp : g ≠ p.block) (v : Value) : BlkK k T (w.setCell p v) g l := (Below.heap_setCell w p v g hp).trans h
theorem BlkK.below {k : IntKind} {T : TypeId} {w w' : World} {g : Nat} {l : List Int} (h : BlkK k T w g l) (hb : Below w.heap.size w w') : BlkK k T w' g l := (hb.block g h.lt).trans h
theorem BlkK.belowB {B : Nat} {k : IntKind} {T : TypeId} {w w' : World} {g : Nat} {l : List Int} (h : BlkK k T w g l) (hb : Below B w w') (hg : g < B) : BlkK k T w' g l := (hb.block g hg).trans h
theorem BlkK.drewN {k : IntKind} {T : TypeId} {w : World} {g : Nat} {l : List Int} (h : BlkK k T w g l) (n : Nat) : BlkK k T (w.drewN n) g l := h
theorem BlkK.alloc {k : IntKind} {T : TypeId} {w : World} {g : Nat} {l : List Int} (h : BlkK k T w g l) (o : Obj) : BlkK k T (w.alloc o) g l := (Below.heap_alloc w o g h.lt).trans h
theorem BlkK.new (k : IntKind) (T : TypeId) (w : World) (l : List Int) : BlkK k T (w.alloc (.cells (cellsK k l) T)) w.heap.size l := heap_alloc_new w _
theorem BlkK.setRow {k : IntKind} {T : TypeId} {w : World} {g : Nat} {l m : List Int} (h : BlkK k T w g l) : BlkK k T (w.setRow g (cellsK k m)) g m := setRow_heap w g _ _ _ _ h
theorem below_al {w0 w : World} {o : Obj} (h : Below w0.heap.size w0 w) : Below w0.heap.size w0 (w.alloc o) := h.alloc h.size o
theorem below_st {w0 w : World} {p : Addr} (h : Below w0.heap.size w0 w) (hp : w0.heap.size ≤ p.block) (v : Value) : Below w0.heap.size w0 (w.setCell p v) := h.setCell hp v
theorem below_dN {B : Nat} {w0 w : World} (h : Below B w0 w) (n : Nat) : Below B w0 (w.drewN n) := ⟨h.os, h.tape, h.output, h.size, h.block⟩
/-- All but the blocks of B is as it was. -/
theorem below_th {w0 w w' : World} (h : Below w0.heap.size w0 w) (k : Below w.heap.size w w') : Below w0.heap.size w0 w' := below_then h h.size k
end
end Go.Proofs.Ytojnooagifhekaa
namespace Go.Proofs.Ytojnooagifhekaa
section
open Go.RowKit
set_option maxRecDepth 100000
set_option linter.unusedVariables false
set_option linter.unusedSimpArgs false
set_option maxHeartbeats 400000 in
theorem put_any (n : Int) (w : World) (h0 : 0 ≤ n) (h1 : n < 18446744073709551616) :
    Calls Try.prog 58 #[.int .u64 n] w fun e w' => e = .returned (.string (vput n)) ∧ Below w.heap.size w w' := by
  go_enter Try.func58, Try.ntmps58
  go_wp2
  go_loopw [0, 4] (fun n' k wr => ∃ (m : Int) (i : Nat) (l : List Int), l.length = 10 ∧ 0 ≤ m ∧ m < 18446744073709551616 ∧ m < 128 ^ (9 - i) * 2 ∧ n' = .int .u64 m ∧ k = .int .i64 i ∧ i ≤ 9 ∧ wr = w.alloc (.cells (arrB l) 100) ∧ l.take i ++ putI (9 - i) m = putI 9 n) (fun n _ _ => (intOf n).toNat)
  case atStart => 
    exact ⟨n, 0, List.replicate 10 0, rfl, h0, h1, by simpa using h1, rfl, rfl, by omega, rfl, rfl⟩
  case round =>
    obtain ⟨m, i, l, hl, hm0, hm1, hm2, rfl, rfl, hi, hwr, hp⟩ := hrel
    subst hwr
    have HP := Lib.hid hp
    clear hp
    have hc := arrB_get l i (by omega)
    have hst := arrB_set l i
    by_cases hlt : m < 128
    · have hsl := sliceAt_to (P := Try.prog) (T := 100) Try.underlying100 (sz := 1) (fun _ => by kernel_rfl) ⟨w.heap.size, 0, none⟩ (↑i + 1) (i + 1) (by omega) (by omega)
      have hcv := run_convert_bytes_arg (P := Try.prog) (w.alloc (.cells (arrB (l.set i m)) 100)) 101 5 Try.underlying101 Try.underlying5 w.heap.size 0 (i + 1) 10 ((l.set i m).take (i + 1)) (by simp; omega) (fun j hj => by
        rw [World.cell?_alloc_new, Nat.zero_add, arrB_get _ _ (by simp; omega)]
        simp [List.getD_eq_getElem?_getD, hj]) 9 Try.underlying9
      go_wp2
      go_ret
      refine ⟨ret_str ?_, (Below.refl _ _).alloc (Nat.le_refl _) _⟩
      unfold vput
      rw [take_set_snoc l i m (by omega), ← HP.out]
      cases hq : 9 - i with
      | zero => rfl
      | succ f => simp [putI, hlt]
    · have hi9 : i < 9 := by
        rcases Nat.lt_or_ge i 9 with h | h
        · exact h
        · have : i = 9 := by omega
          subst this
          simp at hm2
          omega
      have hor := u8_or_128 (m % 256) (by omega) (by omega)
      have h128 : m % 256 % 128 = m % 128 := by omega
      have hq : 9 - i = (9 - (i + 1)) + 1 := by omega
      have HQ := Lib.hid hq
      clear hq
      go_wp2
      go_roundw
      case rel =>
        refine ⟨m / 128, i + 1, l.set i (m % 128 + 128), by simpa using hl, by omega, by omega, ?_, rfl, by go_num, by omega, rfl, ?_⟩
        · rw [HQ.out, Int.pow_succ] at hm2
          exact Int.ediv_lt_of_lt_mul (by omega) (by omega)
        · rw [take_set_snoc l i _ (by omega), ← HP.out, HQ.out]
          simp [putI, hlt]
      case measure => simp [intOf]; omega
end
end Go.Proofs.Ytojnooagifhekaa
