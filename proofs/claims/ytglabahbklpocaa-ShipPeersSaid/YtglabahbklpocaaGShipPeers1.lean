/- Small words used by all walks of this claim: local arrays of bytes, slices of arrays, numbers as bytes. -/
import Derived.Test.YtglabahbklpocaaRows
import Derived.WalkKit
import Derived.WalkSpells
import Derived.WalkLawsBesides
import Derived.Lib.Hide
namespace Go.Proofs.Ytglabahbklpocaa
section
open Go.RowKit
set_option maxRecDepth 100000
set_option linter.unusedVariables false
set_option linter.unusedSimpArgs false
def arrB (l : List Int) : Array Value := (l.map (Value.int .u8)).toArray
theorem arrB_get (l : List Int) (i : Nat) (h : i < l.length) : (arrB l)[i]? = some (.int .u8 (l.getD i 0)) := by
  simp [arrB, h]
theorem arrB_set (l : List Int) (i : Nat) (v : Int) : (arrB l).setIfInBounds i (.int .u8 v) = arrB (l.set i v) := by
  simp [arrB, List.map_set]
theorem sliceAt_to {P : Program} {T E n sz : Nat} (hT : P.underlying T = some (.array n E)) (hs : ∀ w, (sizeOf E).run P w = .ok sz w) (a : Addr) (x : Int) (k : Nat) (hx : x = k) (hk : k ≤ n) :
    ∀ w : World, (Instr.sliceAt T (.pointer (some a)) none (some (.int .i64 x)) none).run P w = .ok (.slice (some a) k n) w := by
  intro w
  subst hx
  have ht : P.underlying T = some (.array (P.arrayLen T) (P.elem T)) := by rw [hT]; simp [Program.arrayLen, Program.elem, hT]
  have hl : P.arrayLen T = n := by simp [Program.arrayLen, hT]
  have he : P.elem T = E := by simp [Program.elem, hT]
  rw [run_sliceAt_array_h w T a ht .i64 k (by omega) (by omega), he, hs, hl]
  simp only [Result.andThen, slicedAt]
  have ha : a.add (0 * sz) = a := by simp [Addr.add]
  rw [ha]; simp
def putI : Nat → Int → List Int
  | 0, n => [n]
  | f + 1, n => if n < 128 then [n] else (n % 128 + 128) :: putI f (n / 128)
def vput (n : Int) : ByteArray := strOfNums (putI 9 n)
theorem u8_or_128 (x : Int) (h0 : 0 ≤ x) (h1 : x < 256) : bits .or .u8 x 128 = x % 128 + 128 := by
  have : ∀ k : Fin 256, bits .or .u8 (k.val : Int) 128 = (k.val : Int) % 128 + 128 := by decide +kernel
  have h := this ⟨x.toNat, by omega⟩
  simpa [show ((x.toNat : Nat) : Int) = x by omega] using h
theorem ret_str {a b : ByteArray} (h : a = b) : Ending.returned (.string a) = .returned (.string b) := by rw [h]
theorem take_set_snoc (l : List Int) (i : Nat) (v : Int) (h : i < l.length) : (l.set i v).take (i + 1) = l.take i ++ [v] := by
  rw [List.take_succ_eq_append_getElem (by simpa using h), List.take_set_of_le (Nat.le_refl _)]
  simp
theorem strOfNums_append (a b : List Int) : strOfNums (a ++ b) = strOfNums a ++ strOfNums b := by
  apply ByteArray.ext
  simp [strOfNums]
/-- 'string([]byte{x})'. -/
theorem conv_one {P : Program} {S E T : TypeId} (hs : P.underlying S = some (.slice E)) (he : P.underlying E = some (.int .u8)) (hd : P.underlying T = some .string) :
    ∀ (wx : World) (x : Int), (convert S T (.slice (some ⟨wx.heap.size, 0, none⟩) 1 1)).run P (wx.alloc (.cells #[.int .u8 x] E)) = .ok (.string (strOfNums [x])) (wx.alloc (.cells #[.int .u8 x] E)) :=
  fun wx x => run_convert_bytes_arg _ S E hs he wx.heap.size 0 1 1 [x] rfl (fun i hi => by
    have : i = 0 := by omega
    subst this
    rw [World.cell?_alloc_new]; rfl) T hd
/-- 's[lo:hi]'. -/
theorem str_slice {P : Program} {T : TypeId} (hu : P.underlying T = some .string) (s : ByteArray) (lo hi : Int) (a b : Nat) (ha : lo = a) (hb : hi = b) (h1 : a ≤ b) (h2 : b ≤ s.size) :
    ∀ wx : World, (Instr.slice T (.string s) (some (.int .i64 lo)) (some (.int .i64 hi)) none).run P wx = .ok (.string (s.extract a b)) wx := by
  intro wx
  subst ha hb
  have := run_slice_string (P := P) wx T s .i64 .i64 (a : Int) (b : Int) hu (by omega) (by omega) (by omega)
  simpa using this
theorem below_from_drew {B : Nat} {w w' : World} (h : Below B w.drew w') : Below B w w' := ⟨h.os, h.tape, h.output, h.size, h.block⟩
theorem below_from_alloc {B : Nat} {w w' : World} {o : Obj} (h : Below B (w.alloc o) w') (hB : B ≤ w.heap.size) : Below B w w' := ((Below.refl B w).alloc hB o).trans h
theorem below_then {B : Nat} {w w1 w2 : World} (h : Below B w w1) (hB : B ≤ w1.heap.size) (k : Below w1.heap.size w1 w2) : Below B w w2 := h.trans (k.mono hB)
/-- A slice of whole numbers that is read: nil, empty and other slices alike. -/
def ReadsI (k : IntKind) (w : World) (a : Option Addr) (n : Nat) (xs : List Int) : Prop :=
  xs.length = n ∧ (n = 0 ∨ ∃ b o, a = some ⟨b, o, none⟩ ∧ b < w.heap.size ∧ ∀ j, j < n → w.cell? ⟨b, o + j, none⟩ = some (.int k (xs.getD j 0)))
theorem ReadsI.below {k : IntKind} {w w' : World} {a : Option Addr} {n : Nat} {xs : List Int} (h : ReadsI k w a n xs) (hb : Below w.heap.size w w') : ReadsI k w' a n xs := by
  obtain ⟨h1, h2⟩ := h
  refine ⟨h1, ?_⟩
  rcases h2 with h2 | ⟨b, o, h3, h4, h5⟩
  · exact .inl h2
  · exact .inr ⟨b, o, h3, Nat.lt_of_lt_of_le h4 hb.size, fun j hj => (hb.cell (p := ⟨b, o + j, none⟩) h4).trans (h5 j hj)⟩
theorem ReadsI.take {k : IntKind} {w : World} {a : Option Addr} {n : Nat} {xs : List Int} (h : ReadsI k w a n xs) (m : Nat) (hm : m ≤ n) : ReadsI k w a m (xs.take m) := by
  obtain ⟨h1, h2⟩ := h
  refine ⟨by rw [List.length_take]; omega, ?_⟩
  rcases h2 with h2 | ⟨b, o, h3, h4, h5⟩
  · exact .inl (by omega)
  · exact .inr ⟨b, o, h3, h4, fun j hj => by rw [h5 j (by omega)]; simp [List.getD_eq_getElem?_getD, hj]⟩
theorem reads_new (k : IntKind) (w : World) (xs : List Int) (E : TypeId) : ReadsI k (w.alloc (.cells (xs.map (Value.int k)).toArray E)) (some ⟨w.heap.size, 0, none⟩) xs.length xs :=
  ⟨rfl, .inr ⟨w.heap.size, 0, rfl, by simp, fun j hj => by
    rw [World.cell?_alloc_new, Nat.zero_add]
    simp [List.getD_eq_getElem?_getD, hj]⟩⟩
end
end Go.Proofs.Ytglabahbklpocaa
