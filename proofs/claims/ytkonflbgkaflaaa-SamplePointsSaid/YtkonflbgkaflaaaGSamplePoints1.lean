/- Small words used by all walks of this claim: local arrays of bytes, slices of arrays, numbers as bytes. Contracts of the package vint: what each function answers. What the numbers at the head of bytes are (plain law), and Get's contract. Contract of the reference Put. sample.Name, clock, num; the reference's. slices.Clone and slices.Equal at []int, off the shelf (the layings are what the kit's tool writes, in plain words). Plain law: a list of numbers as a vector of 8 sites. mark.plain: the vector of a list. The vectors of the package mark: At, each, Join, Meet, Covers, Compare, Right. mark.each with the inner function of mark.Join. (Printed by wip/meach.py.) mark.each with the inner function of mark.Meet. (Printed by wip/meach.py.) Join, Meet, Covers, Compare, Right; the reference's Same. The reference's 'all': the numbers of the 8 sites. -/
import Derived.Test.YtkonflbgkaflaaaRows
import Derived.WalkKit
import Derived.WalkSpells
import Derived.WalkLawsBesides
import Derived.Lib.Hide
import Derived.Shelf.Slices.Clone
import Derived.Shelf.Slices.Equal
import Derived.Shelf.Slices.Empties2
import Derived.Deep.DeepCutAuto
import Derived.Deep.CutBlock
import Derived.Deep.AppendLies
import Derived.Deep.QuietTactic
import Derived.BigQuiet
namespace Go.Proofs.Ytkonflbgkaflaaa
section
open Go.RowKit
set_option maxRecDepth 100000
set_option linter.unusedVariables false
set_option linter.unusedSimpArgs false
def arrB (l : List Int) : Array Value := (l.map (Value.int .u8)).toArray
theorem arrB_get (l : List Int) (i : Nat) (h : i < l.length) : (arrB l)[i]? = some (.int .u8 (l.getD i 0)) := by
  simp [arrB, h]
theorem arrB_set (l : List Int) (i : Nat) (v : Int) : (arrB l).setIfInBounds i (.int .u8 v) = arrB (l.set i v) := by
  simp [arrB, List.map_set]
theorem sliceAt_to {P : Program} {T E n sz : Nat} (hT : P.underlying T = some (.array n E)) (hs : ∀ w, (sizeOf E).run P w = .ok sz w) (a : Addr) (x : Int) (k : Nat) (hx : x = k) (hk : k ≤ n) :
    ∀ w : World, (Instr.sliceAt T (.pointer (some a)) none (some (.int .i64 x)) none).run P w = .ok (.slice (some a) k n) w := by
  intro w
  subst hx
  have ht : P.underlying T = some (.array (P.arrayLen T) (P.elem T)) := by rw [hT]; simp [Program.arrayLen, Program.elem, hT]
  have hl : P.arrayLen T = n := by simp [Program.arrayLen, hT]
  have he : P.elem T = E := by simp [Program.elem, hT]
  rw [run_sliceAt_array_h w T a ht .i64 k (by omega) (by omega), he, hs, hl]
  simp only [Result.andThen, slicedAt]
  have ha : a.add (0 * sz) = a := by simp [Addr.add]
  rw [ha]; simp
def putI : Nat → Int → List Int
  | 0, n => [n]
  | f + 1, n => if n < 128 then [n] else (n % 128 + 128) :: putI f (n / 128)
def vput (n : Int) : ByteArray := strOfNums (putI 9 n)
theorem u8_or_128 (x : Int) (h0 : 0 ≤ x) (h1 : x < 256) : bits .or .u8 x 128 = x % 128 + 128 := by
  have : ∀ k : Fin 256, bits .or .u8 (k.val : Int) 128 = (k.val : Int) % 128 + 128 := by decide +kernel
  have h := this ⟨x.toNat, by omega⟩
  simpa [show ((x.toNat : Nat) : Int) = x by omega] using h
theorem ret_str {a b : ByteArray} (h : a = b) : Ending.returned (.string a) = .returned (.string b) := by rw [h]
theorem take_set_snoc (l : List Int) (i : Nat) (v : Int) (h : i < l.length) : (l.set i v).take (i + 1) = l.take i ++ [v] := by
  rw [List.take_succ_eq_append_getElem (by simpa using h), List.take_set_of_le (Nat.le_refl _)]
  simp
theorem strOfNums_append (a b : List Int) : strOfNums (a ++ b) = strOfNums a ++ strOfNums b := by
  apply ByteArray.ext
  simp [strOfNums]
/-- 'string([]byte{x})'. -/
theorem conv_one {P : Program} {S E T : TypeId} (hs : P.underlying S = some (.slice E)) (he : P.underlying E = some (.int .u8)) (hd : P.underlying T = some .string) :
    ∀ (wx : World) (x : Int), (convert S T (.slice (some ⟨wx.heap.size, 0, none⟩) 1 1)).run P (wx.alloc (.cells #[.int .u8 x] E)) = .ok (.string (strOfNums [x])) (wx.alloc (.cells #[.int .u8 x] E)) :=
  fun wx x => run_convert_bytes_arg _ S E hs he wx.heap.size 0 1 1 [x] rfl (fun i hi => by
    have : i = 0 := by omega
    subst this
    rw [World.cell?_alloc_new]; rfl) T hd
/-- 's[lo:hi]'. -/
theorem str_slice {P : Program} {T : TypeId} (hu : P.underlying T = some .string) (s : ByteArray) (lo hi : Int) (a b : Nat) (ha : lo = a) (hb : hi = b) (h1 : a ≤ b) (h2 : b ≤ s.size) :
    ∀ wx : World, (Instr.slice T (.string s) (some (.int .i64 lo)) (some (.int .i64 hi)) none).run P wx = .ok (.string (s.extract a b)) wx := by
  intro wx
  subst ha hb
  have := run_slice_string (P := P) wx T s .i64 .i64 (a : Int) (b : Int) hu (by omega) (by omega) (by omega)
  simpa using this
theorem below_from_drew {B : Nat} {w w' : World} (h : Below B w.drew w') : Below B w w' := ⟨h.os, h.tape, h.output, h.size, h.block⟩
theorem below_from_alloc {B : Nat} {w w' : World} {o : Obj} (h : Below B (w.alloc o) w') (hB : B ≤ w.heap.size) : Below B w w' := ((Below.refl B w).alloc hB o).trans h
theorem below_then {B : Nat} {w w1 w2 : World} (h : Below B w w1) (hB : B ≤ w1.heap.size) (k : Below w1.heap.size w1 w2) : Below B w w2 := h.trans (k.mono hB)
/-- A slice of whole numbers that is read: nil, empty and other slices alike. -/
def ReadsI (k : IntKind) (w : World) (a : Option Addr) (n : Nat) (xs : List Int) : Prop :=
  xs.length = n ∧ (n = 0 ∨ ∃ b o, a = some ⟨b, o, none⟩ ∧ b < w.heap.size ∧ ∀ j, j < n → w.cell? ⟨b, o + j, none⟩ = some (.int k (xs.getD j 0)))
theorem ReadsI.below {k : IntKind} {w w' : World} {a : Option Addr} {n : Nat} {xs : List Int} (h : ReadsI k w a n xs) (hb : Below w.heap.size w w') : ReadsI k w' a n xs := by
  obtain ⟨h1, h2⟩ := h
  refine ⟨h1, ?_⟩
  rcases h2 with h2 | ⟨b, o, h3, h4, h5⟩
  · exact .inl h2
  · exact .inr ⟨b, o, h3, Nat.lt_of_lt_of_le h4 hb.size, fun j hj => (hb.cell (p := ⟨b, o + j, none⟩) h4).trans (h5 j hj)⟩
theorem ReadsI.take {k : IntKind} {w : World} {a : Option Addr} {n : Nat} {xs : List Int} (h : ReadsI k w a n xs) (m : Nat) (hm : m ≤ n) : ReadsI k w a m (xs.take m) := by
  obtain ⟨h1, h2⟩ := h
  refine ⟨by rw [List.length_take]; omega, ?_⟩
  rcases h2 with h2 | ⟨b, o, h3, h4, h5⟩
  · exact .inl (by omega)
  · exact .inr ⟨b, o, h3, h4, fun j hj => by rw [h5 j (by omega)]; simp [List.getD_eq_getElem?_getD, hj]⟩
theorem reads_new (k : IntKind) (w : World) (xs : List Int) (E : TypeId) : ReadsI k (w.alloc (.cells (xs.map (Value.int k)).toArray E)) (some ⟨w.heap.size, 0, none⟩) xs.length xs :=
  ⟨rfl, .inr ⟨w.heap.size, 0, rfl, by simp, fun j hj => by
    rw [World.cell?_alloc_new, Nat.zero_add]
    simp [List.getD_eq_getElem?_getD, hj]⟩⟩
end
end Go.Proofs.Ytkonflbgkaflaaa
namespace Go.Proofs.Ytkonflbgkaflaaa
section
open Go.RowKit
set_option maxRecDepth 100000
set_option linter.unusedVariables false
set_option linter.unusedSimpArgs false
set_option maxHeartbeats 400000 in
theorem put_any (n : Int) (w : World) (h0 : 0 ≤ n) (h1 : n < 18446744073709551616) :
    Calls Try.prog 76 #[.int .u64 n] w fun e w' => e = .returned (.string (vput n)) ∧ Below w.heap.size w w' := by
  go_enter Try.func76, Try.ntmps76
  go_wp2
  go_loopw [0, 4] (fun n' k wr => ∃ (m : Int) (i : Nat) (l : List Int), l.length = 10 ∧ 0 ≤ m ∧ m < 18446744073709551616 ∧ m < 128 ^ (9 - i) * 2 ∧ n' = .int .u64 m ∧ k = .int .i64 i ∧ i ≤ 9 ∧ wr = w.alloc (.cells (arrB l) 106) ∧ l.take i ++ putI (9 - i) m = putI 9 n) (fun n _ _ => (intOf n).toNat)
  case atStart => 
    exact ⟨n, 0, List.replicate 10 0, rfl, h0, h1, by simpa using h1, rfl, rfl, by omega, rfl, rfl⟩
  case round =>
    obtain ⟨m, i, l, hl, hm0, hm1, hm2, rfl, rfl, hi, hwr, hp⟩ := hrel
    subst hwr
    have HP := Lib.hid hp
    clear hp
    have hc := arrB_get l i (by omega)
    have hst := arrB_set l i
    by_cases hlt : m < 128
    · have hsl := sliceAt_to (P := Try.prog) (T := 106) Try.underlying106 (sz := 1) (fun _ => by kernel_rfl) ⟨w.heap.size, 0, none⟩ (↑i + 1) (i + 1) (by omega) (by omega)
      have hcv := run_convert_bytes_arg (P := Try.prog) (w.alloc (.cells (arrB (l.set i m)) 106)) 71 5 Try.underlying71 Try.underlying5 w.heap.size 0 (i + 1) 10 ((l.set i m).take (i + 1)) (by simp; omega) (fun j hj => by
        rw [World.cell?_alloc_new, Nat.zero_add, arrB_get _ _ (by simp; omega)]
        simp [List.getD_eq_getElem?_getD, hj]) 9 Try.underlying9
      go_wp2
      go_ret
      refine ⟨ret_str ?_, (Below.refl _ _).alloc (Nat.le_refl _) _⟩
      unfold vput
      rw [take_set_snoc l i m (by omega), ← HP.out]
      cases hq : 9 - i with
      | zero => rfl
      | succ f => simp [putI, hlt]
    · have hi9 : i < 9 := by
        rcases Nat.lt_or_ge i 9 with h | h
        · exact h
        · have : i = 9 := by omega
          subst this
          simp at hm2
          omega
      have hor := u8_or_128 (m % 256) (by omega) (by omega)
      have h128 : m % 256 % 128 = m % 128 := by omega
      have hq : 9 - i = (9 - (i + 1)) + 1 := by omega
      have HQ := Lib.hid hq
      clear hq
      go_wp2
      go_roundw
      case rel =>
        refine ⟨m / 128, i + 1, l.set i (m % 128 + 128), by simpa using hl, by omega, by omega, ?_, rfl, by go_num, by omega, rfl, ?_⟩
        · rw [HQ.out, Int.pow_succ] at hm2
          exact Int.ediv_lt_of_lt_mul (by omega) (by omega)
        · rw [take_set_snoc l i _ (by omega), ← HP.out, HQ.out]
          simp [putI, hlt]
      case measure => simp [intOf]; omega
end
end Go.Proofs.Ytkonflbgkaflaaa
namespace Go.Proofs.Ytkonflbgkaflaaa
section
open Go.RowKit
set_option maxRecDepth 100000
set_option linter.unusedVariables false
set_option linter.unusedSimpArgs false

/-- The number at the head of some bytes, and how many bytes it has. -/
def getL : Nat → List UInt8 → Option (Int × Nat)
  | 0, _ => none
  | _ + 1, [] => none
  | f + 1, b :: r => if (b.toNat : Int) < 128 then some ((b.toNat : Int), 1) else (getL f r).map fun p => ((b.toNat : Int) - 128 + 128 * p.1, p.2 + 1)
/-- Get's answer: the number, the place behind it, the error. -/
def vget (s : ByteArray) (at' : Int) : Int × Int × Int :=
  if at' < 0 ∨ (s.size : Int) ≤ at' then (0, 0, 10) else
  match getL 10 (s.data.toList.drop at'.toNat) with
  | none => (0, 0, 10)
  | some p => if p.1 < 18446744073709551616 ∧ (p.2 = 1 ∨ 128 ^ (p.2 - 1) ≤ p.1) then (p.1, at' + p.2, 0) else (0, 0, 10)

theorem u8_andNot_128 (x : Int) (h0 : 0 ≤ x) (h1 : x < 256) : bits .andNot .u8 x 128 = x % 128 := by
  have : ∀ k : Fin 256, bits .andNot .u8 (k.val : Int) 128 = (k.val : Int) % 128 := by decide +kernel
  have h := this ⟨x.toNat, by omega⟩
  simpa [show ((x.toNat : Nat) : Int) = x by omega] using h
theorem wrap_u64 (n : Int) : IntKind.u64.wrap n = n % 18446744073709551616 := by simp [IntKind.wrap, IntKind.bits, IntKind.signed]
theorem wraps_u64 (n : Int) (h₀ : 0 ≤ n) (h₁ : n < 2 ^ 64) : IntKind.u64.wrap n = n := by rw [wrap_u64]; omega
theorem bits_or_comm (k : IntKind) (x y : Int) : bits .or k x y = bits .or k y x := by simp only [bits, BitVec.or_comm]
theorem or_shift (x b : Int) (i : Nat) (hi : i ≤ 9) (hx0 : 0 ≤ x) (hx : x < 128 ^ i) (hb0 : 0 ≤ b) (hb : b < 128) :
    bits .or .u64 x (IntKind.u64.wrap (b * 2 ^ (7 * i))) = x + (b * 128 ^ i) % 18446744073709551616 := by
  have e : (2 : Int) ^ (7 * i) = 128 ^ i := by rw [Int.pow_mul]; rfl
  rw [bits_or_comm, wrap_u64, e]
  have hc : i = 0 ∨ i = 1 ∨ i = 2 ∨ i = 3 ∨ i = 4 ∨ i = 5 ∨ i = 6 ∨ i = 7 ∨ i = 8 ∨ i = 9 := by omega
  rcases hc with rfl | rfl | rfl | rfl | rfl | rfl | rfl | rfl | rfl | rfl <;> simp only [Int.reducePow] at hx ⊢ <;>
    first
    | rw [bits_join .u64 64 (by decide) wraps_u64 0 _ x (by omega) (by omega) (by omega) hx0 (by omega) (by omega)]; omega
    | rw [bits_join .u64 64 (by decide) wraps_u64 7 _ x (by omega) (by omega) (by omega) hx0 (by omega) (by omega)]; omega
    | rw [bits_join .u64 64 (by decide) wraps_u64 14 _ x (by omega) (by omega) (by omega) hx0 (by omega) (by omega)]; omega
    | rw [bits_join .u64 64 (by decide) wraps_u64 21 _ x (by omega) (by omega) (by omega) hx0 (by omega) (by omega)]; omega
    | rw [bits_join .u64 64 (by decide) wraps_u64 28 _ x (by omega) (by omega) (by omega) hx0 (by omega) (by omega)]; omega
    | rw [bits_join .u64 64 (by decide) wraps_u64 35 _ x (by omega) (by omega) (by omega) hx0 (by omega) (by omega)]; omega
    | rw [bits_join .u64 64 (by decide) wraps_u64 42 _ x (by omega) (by omega) (by omega) hx0 (by omega) (by omega)]; omega
    | rw [bits_join .u64 64 (by decide) wraps_u64 49 _ x (by omega) (by omega) (by omega) hx0 (by omega) (by omega)]; omega
    | rw [bits_join .u64 64 (by decide) wraps_u64 56 _ x (by omega) (by omega) (by omega) hx0 (by omega) (by omega)]; omega
    | rw [bits_join .u64 64 (by decide) wraps_u64 63 _ x (by omega) (by omega) (by omega) hx0 (by omega) (by omega)]; omega

theorem getL_cons (f : Nat) (b : UInt8) (r : List UInt8) : getL (f + 1) (b :: r) = if (b.toNat : Int) < 128 then some ((b.toNat : Int), 1) else (getL f r).map fun p => ((b.toNat : Int) - 128 + 128 * p.1, p.2 + 1) := rfl
theorem lt_step {x q q' p : Int} (hx : x < p) (hq : q ≤ 127 * p) (hm : q' ≤ q) : x + q' < 128 * p := by omega
theorem emod_nn (x : Int) : 0 ≤ x % 18446744073709551616 := Int.emod_nonneg _ (by decide)
theorem emod_le_self (x : Int) (h : 0 ≤ x) : x % 18446744073709551616 ≤ x := by omega
theorem drop_cons (s : ByteArray) (k : Nat) (h : k < s.size) : s.data.toList.drop k = s[k] :: s.data.toList.drop (k + 1) := by
  rw [List.drop_eq_getElem_cons (by simpa using h)]; rfl
def getRel (s : ByteArray) (a i : Nat) (x : Int) : Prop :=
  0 ≤ x ∧ (i ≤ 9 → x < 128 ^ i) ∧ getL 10 (s.data.toList.drop a) = (getL (10 - i) (s.data.toList.drop (a + i))).map fun p => (x + 128 ^ i * p.1, p.2 + i)
theorem getRel_zero (s : ByteArray) (a : Nat) : getRel s a 0 0 := ⟨by omega, fun _ => by simp, by
  cases h : getL 10 (s.data.toList.drop a) <;> simp [h]⟩
theorem getRel_more {s : ByteArray} {a i : Nat} {x b : Int} (h : getRel s a i x) (hi : i ≤ 9) (hlt : a + i < s.size) (hb : ((s[a + i].toNat : Nat) : Int) = b) (h128 : 128 ≤ b) :
    getRel s a (i + 1) (x + (b % 128 * 128 ^ i) % 18446744073709551616) := by
  obtain ⟨h0, h1, h2⟩ := h
  have hb2 : b < 256 := by have := s[a + i].toNat_lt; omega
  refine ⟨Int.add_nonneg h0 (emod_nn _), fun hi' => ?_, ?_⟩
  · have hx := h1 hi
    have hp : (0 : Int) < 128 ^ i := Int.pow_pos (by decide)
    have e : (128 : Int) ^ (i + 1) = 128 * 128 ^ i := by rw [Int.pow_succ]; omega
    have hle : b % 128 * 128 ^ i ≤ 127 * 128 ^ i := Int.mul_le_mul_of_nonneg_right (by omega) (by omega)
    have hn : 0 ≤ b % 128 * 128 ^ i := Int.mul_nonneg (by omega) (by omega)
    have hm := emod_le_self _ hn
    rw [e]
    exact lt_step hx hle hm
  · rw [h2, drop_cons s (a + i) hlt, show 10 - i = (10 - (i + 1)) + 1 by omega, getL_cons, if_neg (by omega), hb]
    rcases Nat.lt_or_ge i 9 with h9 | h9
    · have hc : i = 0 ∨ i = 1 ∨ i = 2 ∨ i = 3 ∨ i = 4 ∨ i = 5 ∨ i = 6 ∨ i = 7 ∨ i = 8 := by omega
      have em : (b % 128 * 128 ^ i) % 18446744073709551616 = (b - 128) * 128 ^ i := by
        rcases hc with rfl | rfl | rfl | rfl | rfl | rfl | rfl | rfl | rfl <;> simp only [Int.reducePow] <;> omega
      rw [em, Option.map_map]
      congr 1
      funext p
      simp only [Function.comp, Prod.mk.injEq]
      refine ⟨?_, by omega⟩
      rw [Int.pow_succ, Int.mul_add, Int.mul_assoc, Int.mul_comm (b - 128)]
      omega
    · have e0 : 10 - (i + 1) = 0 := by omega
      have g0 : ∀ l, getL (10 - (i + 1)) l = none := fun l => by rw [e0]; rfl
      rw [g0, g0, Option.map_none, Option.map_none, Option.map_none]
theorem getRel_last {s : ByteArray} {a i : Nat} {x b : Int} (h : getRel s a i x) (hi : i ≤ 9) (hlt : a + i < s.size) (hb : ((s[a + i].toNat : Nat) : Int) = b) (h128 : b < 128) :
    getL 10 (s.data.toList.drop a) = some (x + 128 ^ i * b, 1 + i) := by
  rw [h.2.2, drop_cons s (a + i) hlt, show 10 - i = (10 - (i + 1)) + 1 by omega, getL_cons, if_pos (by omega), hb]
  rfl
theorem vget_fail {s : ByteArray} {a : Nat} (h : getL 10 (s.data.toList.drop a) = none) : vget s a = (0, 0, 10) := by
  unfold vget
  split
  · rfl
  · simp [h]
theorem getRel_end {s : ByteArray} {a i : Nat} {x : Int} (h : getRel s a i x) (he : s.size ≤ a + i ∨ i = 10) : vget s a = (0, 0, 10) := by
  apply vget_fail
  rw [h.2.2]
  have g0 : getL (10 - i) (s.data.toList.drop (a + i)) = none := by
    rcases he with he | he
    · rw [List.drop_of_length_le (by simpa using he)]
      cases 10 - i <;> rfl
    · rw [show 10 - i = 0 by omega]; rfl
  rw [g0, Option.map_none]
theorem vget_out {s : ByteArray} {a : Int} (h : a < 0 ∨ (s.size : Int) ≤ a) : vget s a = (0, 0, 10) := by
  unfold vget; rw [if_pos h]
/-- The last byte: what is refused. -/
theorem vget_bad {s : ByteArray} {a i : Nat} {x b : Int} (h : getRel s a i x) (hi : i ≤ 9) (hlt : a + i < s.size) (hb : ((s[a + i].toNat : Nat) : Int) = b) (h128 : b < 128)
    (hz : (1 ≤ i ∧ b = 0) ∨ (i = 9 ∧ 1 < b)) : vget s a = (0, 0, 10) := by
  unfold vget
  rw [if_neg (by omega)]
  simp only [Int.toNat_natCast, getRel_last h hi hlt hb h128]
  rw [if_neg]
  have hx := h.2.1 hi
  rcases hz with ⟨h1, rfl⟩ | ⟨rfl, h2⟩
  · rintro ⟨_, h3⟩
    rw [show 1 + i - 1 = i by omega] at h3
    omega
  · simp only [Int.reducePow] at hx ⊢
    rintro ⟨h3, _⟩
    have := h.1
    omega
theorem vget_good {s : ByteArray} {a i : Nat} {x b : Int} (h : getRel s a i x) (hi : i ≤ 9) (hlt : a + i < s.size) (hb : ((s[a + i].toNat : Nat) : Int) = b) (h128 : b < 128)
    (hz : ¬ ((1 ≤ i ∧ b = 0) ∨ (i = 9 ∧ 1 < b))) : vget s a = (x + (b % 128 * 128 ^ i) % 18446744073709551616, (a : Int) + (i + 1), 0) := by
  have hx := h.2.1 hi
  have h0 := h.1
  have hb0 : 0 ≤ b := by omega
  unfold vget
  rw [if_neg (by omega)]
  simp only [Int.toNat_natCast, getRel_last h hi hlt hb h128]
  have hc : i = 0 ∨ i = 1 ∨ i = 2 ∨ i = 3 ∨ i = 4 ∨ i = 5 ∨ i = 6 ∨ i = 7 ∨ i = 8 ∨ i = 9 := by omega
  rcases hc with rfl | rfl | rfl | rfl | rfl | rfl | rfl | rfl | rfl | rfl <;> simp only [Int.reducePow] at hx ⊢ <;>
    (rw [if_pos (by simp only [Nat.reduceAdd, Nat.reduceSub, Int.reducePow, true_or, and_true]; omega)]; simp only [Prod.mk.injEq]; refine ⟨by omega, by omega, trivial⟩)

/-- Three numbers as Get hands them back. -/
def get3 (r : Int × Int × Int) : Value := .tuple #[.int .u64 r.1, .int .i64 r.2.1, .int .i64 r.2.2]
theorem ret_get3 {r r' : Int × Int × Int} (h : r' = r) : Ending.returned (.tuple #[.int .u64 r.1, .int .i64 r.2.1, .int .i64 r.2.2]) = .returned (get3 r') := by rw [h]; rfl
theorem get_out (s : ByteArray) (at' : Int) (w : World) (hs : s.size ≤ 9223372036854775807) (h : at' < 0 ∨ (s.size : Int) ≤ at') :
    Calls Try.prog 94 #[.string s, .int .i64 at'] w fun e w' => e = .returned (get3 (vget s at')) ∧ w = w' := by
  have HV := Lib.hid (vget_out h)
  by_cases hb : at' < 0
  · have hb' : decide (at' < 0) = true := decide_eq_true hb
    clear h
    go_enter Try.func94, Try.ntmps94
    go_wp2
    go_step3
    go_wp2
    rw [Exit.noGoto_ret]
    go_ret3
    exact ⟨ret_get3 HV.out, rfl⟩
  · have hb' : decide (at' < 0) = false := decide_eq_false hb
    have hb2' : decide ((s.size : Int) ≤ at') = true := decide_eq_true (by omega)
    clear h
    go_enter Try.func94, Try.ntmps94
    go_wp2
    go_step3
    go_wp2
    rw [Exit.noGoto_ret]
    go_ret3
    exact ⟨ret_get3 HV.out, rfl⟩
set_option maxHeartbeats 1000000 in
set_option maxRecDepth 100000 in
theorem get_in (s : ByteArray) (a : Nat) (w : World) (hs : s.size ≤ 9223372036854775807) (h1 : a < s.size) :
    Calls Try.prog 94 #[.string s, .int .i64 (a : Int)] w fun e w' => e = .returned (get3 (vget s a)) ∧ w = w' := by
  have hb' : decide ((a : Int) < 0) = false := decide_eq_false (by omega)
  have hb2' : decide (s.size ≤ a) = false := decide_eq_false (by omega)
  go_enter Try.func94, Try.ntmps94
  go_wp2
  go_step3
  go_wp2
  go_step3
  go_wp2
  go_loop [7, 8] (fun v k => ∃ (x : Int) (i : Nat), i ≤ 10 ∧ a + i ≤ s.size ∧ v = .int .u64 x ∧ k = .int .i64 i ∧ getRel s a i x) (fun _ k => 10 - (intOf k).toNat)
  case atStart => exact ⟨0, 0, by omega, by omega, rfl, rfl, getRel_zero s a⟩
  case round =>
    obtain ⟨x, i, hi, hat, rfl, rfl, hr⟩ := hrel
    have HR := Lib.hid hr
    clear hr
    by_cases h10 : i = 10
    · subst h10
      go_wp2
      first | rw [Exit.noGoto_ret] | skip
      go_ret3
      exact ⟨ret_get3 (getRel_end HR.out (.inr rfl)), rfl⟩
    · have h10' : ((i : Int) == 10) = false := by simpa using (by omega : ¬ (i : Int) = 10)
      by_cases hend : s.size ≤ a + i
      · have hend' : decide ((s.size : Int) ≤ a + i) = true := decide_eq_true (by omega)
        go_wp2
        first | rw [Exit.noGoto_ret] | skip
        go_ret3
        exact ⟨ret_get3 (getRel_end HR.out (.inl hend)), rfl⟩
      · have hend' : decide ((s.size : Int) ≤ a + i) = false := decide_eq_false (by omega)
        have hlt : a + i < s.size := by omega
        obtain ⟨b, hb⟩ : ∃ b : Int, ((s[a + i].toNat : Nat) : Int) = b := ⟨_, rfl⟩
        have hb0 : 0 ≤ b := by omega
        have hb1 : b < 256 := by have := s[a + i].toNat_lt; omega
        have HB := Lib.hid hb
        have f1 := u8_andNot_128 b hb0 hb1
        have f2 := wraps_u64 (b % 128) (by omega) (by omega)
        have f3 := or_shift x (b % 128) i (by omega) HR.out.1 (HR.out.2.1 (by omega)) (by omega) (by omega)
        have F := Lib.hid (And.intro f1 (And.intro f2 f3))
        by_cases h128 : b < 128
        · have t1 : decide (b < 128) = true := decide_eq_true h128
          by_cases hz : (1 ≤ i ∧ b = 0) ∨ (i = 9 ∧ 1 < b)
          · have HV := Lib.hid (vget_bad HR.out (by omega) hlt hb h128 hz)
            rcases hz with ⟨hz1, hz2⟩ | ⟨hz1, hz2⟩
            · have t2 : (b == 0) = true := by simpa using hz2
              have t3 : decide (1 < (i : Int) + 1) = true := decide_eq_true (by omega)
              clear hz2
              go_wp2
              first | rw [Exit.noGoto_ret] | skip
              go_ret3
              exact ⟨ret_get3 HV.out, rfl⟩
            · subst hz1
              have t2 : (b == 0) = false := by simpa using (by omega : ¬ b = 0)
              have t3 : decide (1 < b) = true := decide_eq_true (by omega)
              go_wp2
              first | rw [Exit.noGoto_ret] | skip
              go_ret3
              exact ⟨ret_get3 HV.out, rfl⟩
          · have HV := Lib.hid (vget_good HR.out (by omega) hlt hb h128 hz)
            by_cases hi0 : i = 0
            · have t3 : decide (1 < (i : Int) + 1) = false := decide_eq_false (by omega)
              have t4 : ((i : Int) + 1 == 10) = false := by simpa using (by omega : ¬ (i : Int) + 1 = 10)
              clear hi0
              go_wp2
              first | rw [Exit.noGoto_ret] | skip
              go_ret3
              exact ⟨ret_get3 HV.out, rfl⟩
            · have t2 : (b == 0) = false := by simpa using (by omega : ¬ b = 0)
              have t3 : decide (1 < (i : Int) + 1) = true := decide_eq_true (by omega)
              by_cases h9 : i = 9
              · have t4 : decide (1 < b) = false := decide_eq_false (by omega)
                have t5 : ((i : Int) + 1 == 10) = true := by simpa using (by omega : (i : Int) + 1 = 10)
                clear h9
                go_wp2
                first | rw [Exit.noGoto_ret] | skip
                go_ret3
                exact ⟨ret_get3 HV.out, rfl⟩
              · have t4 : ((i : Int) + 1 == 10) = false := by simpa using (by omega : ¬ (i : Int) + 1 = 10)
                go_wp2
                first | rw [Exit.noGoto_ret] | skip
                go_ret3
                exact ⟨ret_get3 HV.out, rfl⟩
        · have t1 : decide (b < 128) = false := decide_eq_false h128
          have HM := Lib.hid (getRel_more HR.out (by omega) hlt hb (by omega))
          go_wp2
          go_round
          case rel => exact ⟨_, i + 1, by omega, by omega, rfl, by go_num, HM.out⟩
          case measure => simp [intOf]; omega
theorem get_any (s : ByteArray) (at' : Int) (w : World) (hs : s.size ≤ 9223372036854775807) :
    Calls Try.prog 94 #[.string s, .int .i64 at'] w fun e w' => e = .returned (get3 (vget s at')) ∧ w = w' := by
  by_cases h : at' < 0 ∨ (s.size : Int) ≤ at'
  · exact get_out s at' w hs h
  · obtain ⟨a, rfl⟩ := Int.eq_ofNat_of_zero_le (show 0 ≤ at' by omega)
    exact get_in s a w hs (by omega)
end
end Go.Proofs.Ytkonflbgkaflaaa
namespace Go.Proofs.Ytkonflbgkaflaaa
section
open Go.RowKit
set_option maxRecDepth 100000
set_option linter.unusedVariables false
set_option linter.unusedSimpArgs false
set_option maxHeartbeats 400000 in
theorem rput_any (n : Int) (w : World) (h0 : 0 ≤ n) (h1 : n < 18446744073709551616) :
    Calls Try.prog 40 #[.int .u64 n] w fun e w' => e = .returned (.string (vput n)) ∧ Below w.heap.size w w' := by
  go_enter Try.func40, Try.ntmps40
  go_wp2
  go_loopw [0, 3] (fun n' k wr => ∃ (m : Int) (f : Nat) (l : List Int), 0 ≤ m ∧ m < 18446744073709551616 ∧ m < 128 ^ f * 2 ∧ l.length + f ≤ 9 ∧ n' = .int .u64 m ∧ k = .string (strOfNums l) ∧ Below w.heap.size w wr ∧ l ++ putI f m = putI 9 n) (fun n _ _ => (intOf n).toNat)
  case atStart => exact ⟨n, 9, [], h0, h1, by simpa using h1, by simp, rfl, rfl, Below.refl _ _, rfl⟩
  case round =>
    obtain ⟨m, f, l, hm0, hm1, hm2, hlf, rfl, rfl, hb, hp⟩ := hrel
    have HP := Lib.hid hp
    clear hp
    have hcv := conv_one (P := Try.prog) Try.underlying71 Try.underlying5 Try.underlying9
    have hz1 : (strOfNums l).size ≤ 9 := by rw [strOfNums_size]; omega
    have hz2 : ∀ x : Int, (strOfNums [x]).size ≤ 1 := fun x => by rw [strOfNums_size]; simp
    have hz3 := hz2 m
    have hz4 := hz2 (m % 128 + 128)
    clear hz2
    by_cases hlt : m < 128
    · go_wp2
      go_ret
      refine ⟨ret_str ?_, hb.alloc hb.size _⟩
      rw [← strOfNums_append]
      unfold vput
      rw [← HP.out]
      cases f with
      | zero => rfl
      | succ f => simp [putI, hlt]
    · have hx : (m % 128 + 128) % 256 = m % 128 + 128 := by omega
      go_wp2
      go_roundw
      case rel => 
        cases f with
        | zero => simp at hm2; omega
        | succ f =>
          refine ⟨m / 128, f, l ++ [m % 128 + 128], by omega, by omega, ?_, by simp; omega, rfl, by rw [strOfNums_append], hb.alloc hb.size _, ?_⟩
          · rw [Int.pow_succ] at hm2
            exact Int.ediv_lt_of_lt_mul (by omega) (by omega)
          · rw [← HP.out]
            simp [putI, hlt]
      case measure => simp [intOf]; omega
end
end Go.Proofs.Ytkonflbgkaflaaa
namespace Go.Proofs.Ytkonflbgkaflaaa
section
open Go.RowKit
set_option maxRecDepth 100000
set_option linter.unusedVariables false
set_option linter.unusedSimpArgs false
theorem tl_nil (s : ByteArray) (h : s.size = 0) : s.toList = [] := by
  rw [ByteArray.toList_eq]
  exact List.eq_nil_of_length_eq_zero (by simpa using h)
theorem tl_some (s : ByteArray) (h : 0 < s.size) : ¬ s.toList = [] ∧ (!s.toList.isEmpty) = true ∧ s.toList.isEmpty = false := by
  have h1 : ¬ s.toList = [] := by
    rw [ByteArray.toList_eq]
    intro e
    have h2 : s.data.toList.length = s.size := by simp
    rw [e] at h2
    simp at h2
    omega
  refine ⟨h1, ?_, ?_⟩ <;> simp [h1]
def okC (c : Int) : Prop := (97 ≤ c ∧ c ≤ 122) ∨ (48 ≤ c ∧ c ≤ 57) ∨ c = 95 ∨ c = 46
/-- The byte at a place, 0 behind the end. -/
def bAt (s : ByteArray) (i : Nat) : Int := if h : i < s.size then ((s[i]'h).toNat : Int) else 0
theorem bAt_eq (s : ByteArray) (i : Nat) (h : i < s.size) : ((s[i]'h).toNat : Int) = bAt s i := by unfold bAt; rw [dif_pos h]
theorem bAt_range (s : ByteArray) (i : Nat) : 0 ≤ bAt s i ∧ bAt s i < 256 := by
  unfold bAt
  split
  · have := (s[i]).toNat_lt; omega
  · omega
def nameP (s : ByteArray) : Prop := 1 ≤ s.size ∧ s.size ≤ 40 ∧ (97 ≤ bAt s 0 ∧ bAt s 0 ≤ 122) ∧ ∀ i, i < s.size → okC (bAt s i)
open Classical in
noncomputable def nameV (s : ByteArray) : Bool := decide (nameP s)
theorem nameV_true {s : ByteArray} (h : nameP s) : nameV s = true := by unfold nameV; simp [h]
theorem nameV_false {s : ByteArray} (h : ¬ nameP s) : nameV s = false := by unfold nameV; simp [h]
def clockV (t : Int) : Bool := decide (0 ≤ t) && decide (t ≤ 1099511627776)
theorem clock_any (t : Int) (w : World) : Calls Try.prog 45 #[.int .i64 t] w fun e w' => e = .returned (.bool (clockV t)) ∧ w = w' := by
  obtain ⟨V, HV⟩ : ∃ V, Hid (V = clockV t) := ⟨_, rfl⟩
  rw [← HV.out]
  unfold clockV at HV
  go_enter Try.func45, Try.ntmps45
  go_wp2
  all_goals (go_ret; exact ⟨by rw [HV.out]; (try simp [*]); (try omega), rfl⟩)
theorem rclock_any (t : Int) (w : World) : Calls Try.prog 49 #[.int .i64 t] w fun e w' => e = .returned (.bool (clockV t)) ∧ w = w' := by
  obtain ⟨V, HV⟩ : ∃ V, Hid (V = clockV t) := ⟨_, rfl⟩
  rw [← HV.out]
  unfold clockV at HV
  go_enter Try.func49, Try.ntmps49
  go_wp2
  all_goals (go_ret; exact ⟨by rw [HV.out]; (try simp [*]); (try omega), rfl⟩)
theorem num_any (n : Int) (w : World) (h0 : 0 ≤ n) (h1 : n ≤ 9223372036854775807) : Calls Try.prog 35 #[.int .i64 n] w fun e w' => e = .returned (.string (vput n)) ∧ Below w.heap.size w w' := by
  have h2 : n < 18446744073709551616 := by omega
  go_enter Try.func35, Try.ntmps35
  go_wp2_with fail
  refine (put_any n _ h0 h2).mono ?_
  rintro e w1 ⟨rfl, d⟩
  go_wp2_with fail
  go_ret
  exact ⟨rfl, d⟩
set_option maxHeartbeats 4000000 in
theorem name_any (s : ByteArray) (w : World) (hs : s.size ≤ 9223372036854775807) : Calls Try.prog 18 #[.string s] w fun e w' => e = .returned (.bool (nameV s)) ∧ w = w' := by
  obtain ⟨V, HV⟩ : ∃ V, Hid (V = nameV s) := ⟨_, rfl⟩
  rw [← HV.out]
  by_cases h0 : s.size = 0
  · have HV := Lib.hid (HV.out.trans (nameV_false (fun h => by have := h.1; omega)))
    have f1 := tl_nil s h0
    have f2 : (s.toList.isEmpty) = true := by rw [f1]; rfl
    clear h0
    go_enter Try.func18, Try.ntmps18
    go_wp2_with fail
    go_ret
    exact ⟨by rw [HV.out]; rfl, rfl⟩
  · obtain ⟨f1, f2, f3⟩ := tl_some s (by omega)
    have hp : 0 < s.size := by omega
    have e0 := bAt_eq s 0 hp
    by_cases h40 : 40 < s.size
    · have HV := Lib.hid (HV.out.trans (nameV_false (fun h => by have := h.2.1; omega)))
      have t1 : decide (40 < s.size) = true := decide_eq_true h40
      have t2 : decide ((40 : Int) < (s.size : Int)) = true := decide_eq_true (by omega)
      clear h0 h40 e0
      go_enter Try.func18, Try.ntmps18
      go_wp2_with fail
      go_ret
      exact ⟨by rw [HV.out]; rfl, rfl⟩
    · have t1 : decide (40 < s.size) = false := decide_eq_false h40
      have t2 : decide ((40 : Int) < (s.size : Int)) = false := decide_eq_false (by omega)
      by_cases hf : 97 ≤ bAt s 0 ∧ bAt s 0 ≤ 122
      · rw [← e0] at hf
        have t3 : decide (((s[0]'hp).toNat : Int) < 97) = false := decide_eq_false (by omega)
        have t4 : decide ((122 : Int) < ((s[0]'hp).toNat : Int)) = false := decide_eq_false (by omega)
        have HF : Hid (97 ≤ bAt s 0 ∧ bAt s 0 ≤ 122) := by rw [e0] at hf; exact hf
        have hle : s.size ≤ 40 := by omega
        clear hf e0 h0 h40
        go_enter Try.func18, Try.ntmps18
        go_wp2_with fail
        go_loop [24, 3, 4] (fun i i3 c => ∃ k : Nat, k ≤ s.size ∧ i = .int .i64 k ∧ ∀ j, j < k → okC (bAt s j)) (fun i _ _ => 41 - (intOf i).toNat)
        case atStart => exact ⟨0, by omega, rfl, fun j hj => by omega⟩
        case round =>
          obtain ⟨k, hk, rfl, hall⟩ := hrel
          have HALL := Lib.hid hall
          clear hall
          by_cases hlt : k < s.size
          · have u1 : decide (k < s.size) = true := decide_eq_true hlt
            have u2 : decide ((k : Int) < (s.size : Int)) = true := decide_eq_true (by omega)
            have e1 := bAt_eq s k hlt
            have E1 := Lib.hid e1
            by_cases hc : okC (bAt s k)
            · have HC : Hid ((97 ≤ ((s[k]'hlt).toNat : Int) ∧ ((s[k]'hlt).toNat : Int) ≤ 122) ∨ (48 ≤ ((s[k]'hlt).toNat : Int) ∧ ((s[k]'hlt).toNat : Int) ≤ 57) ∨ ((s[k]'hlt).toNat : Int) = 95 ∨ ((s[k]'hlt).toNat : Int) = 46) := by rw [e1]; exact hc
              have HN : Hid (∀ j, j < k + 1 → okC (bAt s j)) := fun j hj => by
                by_cases h : j = k
                · rw [h]; exact hc
                · exact HALL.out j (by omega)
              clear hc e1
              go_wp2
              all_goals first
                | (exfalso; have := HC.out; (try simp only [bne_eq_false_iff_eq, bne_iff_ne, beq_iff_eq, beq_eq_false_iff_ne, ne_eq, Bool.not_eq_eq_eq_not, Bool.not_false, Bool.not_true, decide_eq_true_eq, decide_eq_false_iff_not] at *); omega)
                | (go_round; (case rel => exact ⟨k + 1, by omega, by go_num, HN.out⟩); (case measure => (simp [intOf]; omega)))
            · have HC : Hid (¬ ((97 ≤ ((s[k]'hlt).toNat : Int) ∧ ((s[k]'hlt).toNat : Int) ≤ 122) ∨ (48 ≤ ((s[k]'hlt).toNat : Int) ∧ ((s[k]'hlt).toNat : Int) ≤ 57) ∨ ((s[k]'hlt).toNat : Int) = 95 ∨ ((s[k]'hlt).toNat : Int) = 46)) := by rw [e1]; exact hc
              have HV := Lib.hid (HV.out.trans (nameV_false (fun h => hc (h.2.2.2 k hlt))))
              clear hc e1
              go_wp2
              all_goals first
                | (exfalso; have := HC.out; (try simp only [bne_eq_false_iff_eq, bne_iff_ne, beq_iff_eq, beq_eq_false_iff_ne, ne_eq, Bool.not_eq_eq_eq_not, Bool.not_false, Bool.not_true, decide_eq_true_eq, decide_eq_false_iff_not] at *); omega)
                | (go_ret; exact ⟨by rw [HV.out]; rfl, rfl⟩)
          · have u1 : decide (k < s.size) = false := decide_eq_false hlt
            have u2 : decide ((k : Int) < (s.size : Int)) = false := decide_eq_false (by omega)
            obtain rfl : k = s.size := by omega
            have HV := Lib.hid (HV.out.trans (nameV_true ⟨by omega, by omega, HF.out, HALL.out⟩))
            go_wp2_with fail
            go_ret
            exact ⟨by rw [HV.out]; rfl, rfl⟩
      · have HV := Lib.hid (HV.out.trans (nameV_false (fun h => hf h.2.2.1)))
        rw [← e0] at hf
        have HC := Lib.hid hf
        clear hf e0 h0 h40
        go_enter Try.func18, Try.ntmps18
        go_wp2
        all_goals first
          | (exfalso; have := HC.out; (try simp only [bne_eq_false_iff_eq, bne_iff_ne, beq_iff_eq, beq_eq_false_iff_ne, ne_eq, Bool.not_eq_eq_eq_not, Bool.not_false, Bool.not_true, decide_eq_true_eq, decide_eq_false_iff_not] at *); omega)
          | (go_ret; exact ⟨by rw [HV.out]; rfl, rfl⟩)
set_option maxHeartbeats 4000000 in
theorem rname_any (s : ByteArray) (w : World) (hs : s.size ≤ 9223372036854775807) : Calls Try.prog 19 #[.string s] w fun e w' => e = .returned (.bool (nameV s)) ∧ w = w' := by
  obtain ⟨V, HV⟩ : ∃ V, Hid (V = nameV s) := ⟨_, rfl⟩
  rw [← HV.out]
  by_cases h0 : s.size = 0
  · have HV := Lib.hid (HV.out.trans (nameV_false (fun h => by have := h.1; omega)))
    have f1 : decide (s.size < 1) = true := decide_eq_true (by omega)
    have f2 : decide ((s.size : Int) < 1) = true := decide_eq_true (by omega)
    clear h0
    go_enter Try.func19, Try.ntmps19
    go_wp2_with fail
    go_ret
    exact ⟨by rw [HV.out]; rfl, rfl⟩
  · have f1 : decide (s.size < 1) = false := decide_eq_false (by omega)
    have f2 : decide ((s.size : Int) < 1) = false := decide_eq_false (by omega)
    have hp : 0 < s.size := by omega
    have e0 := bAt_eq s 0 hp
    by_cases h40 : 40 < s.size
    · have HV := Lib.hid (HV.out.trans (nameV_false (fun h => by have := h.2.1; omega)))
      have t1 : decide (40 < s.size) = true := decide_eq_true h40
      have t2 : decide ((40 : Int) < (s.size : Int)) = true := decide_eq_true (by omega)
      clear h0 h40 e0
      go_enter Try.func19, Try.ntmps19
      go_wp2_with fail
      go_ret
      exact ⟨by rw [HV.out]; rfl, rfl⟩
    · have t1 : decide (40 < s.size) = false := decide_eq_false h40
      have t2 : decide ((40 : Int) < (s.size : Int)) = false := decide_eq_false (by omega)
      by_cases hf : 97 ≤ bAt s 0 ∧ bAt s 0 ≤ 122
      · rw [← e0] at hf
        have t3 : decide (((s[0]'hp).toNat : Int) < 97) = false := decide_eq_false (by omega)
        have t4 : decide ((122 : Int) < ((s[0]'hp).toNat : Int)) = false := decide_eq_false (by omega)
        have HF : Hid (97 ≤ bAt s 0 ∧ bAt s 0 ≤ 122) := by rw [e0] at hf; exact hf
        have hle : s.size ≤ 40 := by omega
        clear hf e0 h0 h40
        go_enter Try.func19, Try.ntmps19
        go_wp2_with fail
        go_loop [3, 4] (fun i c => ∃ k : Nat, k ≤ s.size ∧ i = .int .i64 k ∧ ∀ j, j < k → okC (bAt s j)) (fun i _ => 41 - (intOf i).toNat)
        case atStart => exact ⟨0, by omega, rfl, fun j hj => by omega⟩
        case round =>
          obtain ⟨k, hk, rfl, hall⟩ := hrel
          have HALL := Lib.hid hall
          clear hall
          by_cases hlt : k < s.size
          · have u1 : decide (k < s.size) = true := decide_eq_true hlt
            have u2 : decide ((k : Int) < (s.size : Int)) = true := decide_eq_true (by omega)
            have e1 := bAt_eq s k hlt
            have E1 := Lib.hid e1
            by_cases hc : okC (bAt s k)
            · have HC : Hid ((97 ≤ ((s[k]'hlt).toNat : Int) ∧ ((s[k]'hlt).toNat : Int) ≤ 122) ∨ (48 ≤ ((s[k]'hlt).toNat : Int) ∧ ((s[k]'hlt).toNat : Int) ≤ 57) ∨ ((s[k]'hlt).toNat : Int) = 95 ∨ ((s[k]'hlt).toNat : Int) = 46) := by rw [e1]; exact hc
              have HN : Hid (∀ j, j < k + 1 → okC (bAt s j)) := fun j hj => by
                by_cases h : j = k
                · rw [h]; exact hc
                · exact HALL.out j (by omega)
              clear hc e1
              go_wp2
              all_goals first
                | (exfalso; have := HC.out; (try simp only [bne_eq_false_iff_eq, bne_iff_ne, beq_iff_eq, beq_eq_false_iff_ne, ne_eq, Bool.not_eq_eq_eq_not, Bool.not_false, Bool.not_true, decide_eq_true_eq, decide_eq_false_iff_not] at *); omega)
                | (go_round; (case rel => exact ⟨k + 1, by omega, by go_num, HN.out⟩); (case measure => (simp [intOf]; omega)))
            · have HC : Hid (¬ ((97 ≤ ((s[k]'hlt).toNat : Int) ∧ ((s[k]'hlt).toNat : Int) ≤ 122) ∨ (48 ≤ ((s[k]'hlt).toNat : Int) ∧ ((s[k]'hlt).toNat : Int) ≤ 57) ∨ ((s[k]'hlt).toNat : Int) = 95 ∨ ((s[k]'hlt).toNat : Int) = 46)) := by rw [e1]; exact hc
              have HV := Lib.hid (HV.out.trans (nameV_false (fun h => hc (h.2.2.2 k hlt))))
              clear hc e1
              go_wp2
              all_goals first
                | (exfalso; have := HC.out; (try simp only [bne_eq_false_iff_eq, bne_iff_ne, beq_iff_eq, beq_eq_false_iff_ne, ne_eq, Bool.not_eq_eq_eq_not, Bool.not_false, Bool.not_true, decide_eq_true_eq, decide_eq_false_iff_not] at *); omega)
                | (go_ret; exact ⟨by rw [HV.out]; rfl, rfl⟩)
          · have u1 : decide (k < s.size) = false := decide_eq_false hlt
            have u2 : decide ((k : Int) < (s.size : Int)) = false := decide_eq_false (by omega)
            obtain rfl : k = s.size := by omega
            have HV := Lib.hid (HV.out.trans (nameV_true ⟨by omega, by omega, HF.out, HALL.out⟩))
            go_wp2_with fail
            go_ret
            exact ⟨by rw [HV.out]; rfl, rfl⟩
      · have HV := Lib.hid (HV.out.trans (nameV_false (fun h => hf h.2.2.1)))
        rw [← e0] at hf
        have HC := Lib.hid hf
        clear hf e0 h0 h40
        go_enter Try.func19, Try.ntmps19
        go_wp2
        all_goals first
          | (exfalso; have := HC.out; (try simp only [bne_eq_false_iff_eq, bne_iff_ne, beq_iff_eq, beq_eq_false_iff_ne, ne_eq, Bool.not_eq_eq_eq_not, Bool.not_false, Bool.not_true, decide_eq_true_eq, decide_eq_false_iff_not] at *); omega)
          | (go_ret; exact ⟨by rw [HV.out]; rfl, rfl⟩)
end
end Go.Proofs.Ytkonflbgkaflaaa
namespace Go.Proofs.Ytkonflbgkaflaaa
section
open Go.RowKit Go.Shelf Go.Lib
set_option maxRecDepth 100000
set_option linter.unusedVariables false
set_option linter.unusedSimpArgs false
def laysC_ren : Go.Shelf.Ren := ⟨fun | 15 => 91 | n => n, fun | 22 => 24 | 3 => 3 | 4 => 4 | n => n, fun | n => n⟩
theorem laysC : Go.Proofs.Lays2.n15 Try.prog laysC_ren := {
  mixed := by kernel_rfl
  f15 := Try.func91.trans (congrArg some (by kernel_rfl))
  t3 := Try.underlying3
  a3 := Try.isAgg3
  z3 := Try.sizeOf3
  v3 := Try.zeroValue3
  t4 := Try.underlying4
  a4 := Try.isAgg4
  z4 := Try.sizeOf4
  v4 := Try.zeroValue4
  t22 := Try.underlying24
  a22 := Try.isAgg24
  z22 := Try.sizeOf24
  v22 := Try.zeroValue24
  i3 := by kernel_rfl }
def laysE_ren : Go.Shelf.Ren := ⟨fun | 111 => 81 | n => n, fun | 28 => 24 | 3 => 3 | 4 => 4 | 0 => 0 | n => n, fun | n => n⟩
theorem laysE : Go.Proofs.Lays.n111 Try.prog laysE_ren := {
  mixed := by kernel_rfl
  f111 := Try.func81.trans (congrArg some (by kernel_rfl))
  t0 := Try.underlying0
  a0 := Try.isAgg0
  z0 := Try.sizeOf0
  v0 := Try.zeroValue0
  t3 := Try.underlying3
  a3 := Try.isAgg3
  z3 := Try.sizeOf3
  v3 := Try.zeroValue3
  t4 := Try.underlying4
  a4 := Try.isAgg4
  z4 := Try.sizeOf4
  v4 := Try.zeroValue4
  t28 := Try.underlying24
  a28 := Try.isAgg24
  z28 := Try.sizeOf24
  v28 := Try.zeroValue24 }
theorem clone_any (a : Option Addr) (n c : Nat) (xs : List Int) (w : World) (h : ReadsI .i64 w a n xs) (hn : n ≤ 1000) :
    Calls Try.prog 91 #[.slice a n c] w fun e w' => ∃ v', e = .returned v' ∧ w'.ownsRow w.heap.size 3 1 v' n (xs.map (Value.int .i64)) ∧ Below w.heap.size w w' := by
  obtain ⟨h1, h2⟩ := h
  cases a with
  | none =>
    have h0 : n = 0 := by
      rcases h2 with h2 | ⟨b, o, h2, _⟩
      · exact h2
      · simp at h2
    subst h0
    obtain rfl : xs = [] := List.eq_nil_of_length_eq_zero h1
    exact (Any.slices_Clone_int_nil laysC 0 c w).mono fun e w' ⟨h3, h4⟩ => ⟨_, h3, by subst h4; exact World.ownsRow_nil _ _ _ _, by subst h4; exact Below.refl _ _⟩
  | some a =>
    rcases h2 with h2 | ⟨b, o, h2, h3, h4⟩
    · subst h2
      obtain rfl : xs = [] := List.eq_nil_of_length_eq_zero h1
      exact (Any.slices_Clone_int_zero laysC a c w).mono fun e w' ⟨v', h3, h4, _, h5⟩ => ⟨v', h3, h4, h5⟩
    · obtain rfl : a = ⟨b, o, none⟩ := by simpa using h2
      refine (Any.slices_Clone_int laysC b o n c xs w (by omega) (by omega) (fun j hj => h4 j (by omega))).mono fun e w' ⟨v', h3, h5, _, h6⟩ => ⟨v', h3, ?_, h6⟩
      rw [List.take_of_length_le (by omega)] at h5
      exact h5
theorem equal_any (a1 a2 : Option Addr) (n1 n2 c1 c2 : Nat) (xs ys : List Int) (w : World) (h1 : ReadsI .i64 w a1 n1 xs) (h2 : ReadsI .i64 w a2 n2 ys) (hn1 : n1 ≤ 9223372036854775807) (hn2 : n2 ≤ 9223372036854775807) :
    Calls Try.prog 81 #[.slice a1 n1 c1, .slice a2 n2 c2] w fun e w' => e = .returned (.bool (decide (xs = ys))) ∧ Below w.heap.size w w' := by
  obtain ⟨l1, r1⟩ := h1
  obtain ⟨l2, r2⟩ := h2
  by_cases hne : n1 = n2
  · subst hne
    rcases Nat.eq_zero_or_pos n1 with h0 | hp
    · subst h0
      obtain rfl : xs = [] := List.eq_nil_of_length_eq_zero l1
      obtain rfl : ys = [] := List.eq_nil_of_length_eq_zero l2
      exact (Any.slices_Equal_int_empty laysE a1 a2 c1 0 c2 w hn2).mono fun e w' ⟨h3, h4⟩ => ⟨h3, by subst h4; exact Below.refl _ _⟩
    · obtain ⟨b1, o1, rfl, _, hc1⟩ := r1.resolve_left (by omega)
      obtain ⟨b2, o2, rfl, _, hc2⟩ := r2.resolve_left (by omega)
      refine (Any.slices_Equal_int laysE b1 o1 n1 c1 b2 o2 n1 c2 xs ys w (by omega) (by omega) hn1 hn2 (fun j hj => hc1 j (by omega)) (fun j hj => hc2 j (by omega))).mono fun e w' ⟨h3, q, h4⟩ => ⟨?_, ?_⟩
      · rw [h3, List.take_of_length_le (by omega), List.take_of_length_le (by omega)]
        congr 2
        by_cases hxy : xs = ys <;> simp [hxy]
      · subst h4; exact ⟨rfl, rfl, rfl, Nat.le_refl _, fun _ _ => rfl⟩
  · refine (Any.slices_Equal_int_lens laysE a1 a2 n1 c1 n2 c2 w hne).mono fun e w' ⟨h3, h4⟩ => ⟨?_, by subst h4; exact Below.refl _ _⟩
    rw [h3, decide_eq_false (fun h => hne (by rw [← l1, ← l2, h]))]
end
end Go.Proofs.Ytkonflbgkaflaaa
namespace Go.Proofs.Ytkonflbgkaflaaa
section
set_option maxRecDepth 100000
set_option linter.unusedVariables false
set_option linter.unusedSimpArgs false
/-- A number that may be. -/
def cl (x : Int) : Int := min (max x 0) 1099511627776
theorem cl_range (x : Int) : 0 ≤ cl x ∧ cl x ≤ 1099511627776 := by unfold cl; omega
theorem cl_id {x : Int} (h0 : 0 ≤ x) (h1 : x ≤ 1099511627776) : cl x = x := by unfold cl; omega
theorem cl_zero : cl 0 = 0 := by decide
/-- Without zeros at the end. -/
def trim : List Int → List Int
  | [] => []
  | x :: xs => if trim xs = [] ∧ x = 0 then [] else x :: trim xs
theorem getD_out {l : List Int} {i : Nat} (h : l.length ≤ i) : l.getD i 0 = 0 := by
  rw [List.getD_eq_getElem?_getD, List.getElem?_eq_none h]; rfl
theorem trim_getD (l : List Int) (i : Nat) : (trim l).getD i 0 = l.getD i 0 := by
  induction l generalizing i with
  | nil => rfl
  | cons x xs ih =>
    unfold trim
    by_cases h : trim xs = [] ∧ x = 0
    · rw [if_pos h]
      cases i with
      | zero => simp [h.2]
      | succ i => have := ih i; rw [h.1] at this; simpa using this
    · rw [if_neg h]
      cases i with
      | zero => rfl
      | succ i => simpa using ih i
theorem trim_length (l : List Int) : (trim l).length ≤ l.length := by
  induction l with
  | nil => simp [trim]
  | cons x xs ih =>
    unfold trim
    split
    · simp
    · simp; exact ih
theorem trim_last (l : List Int) (h : trim l ≠ []) : (trim l).getD ((trim l).length - 1) 0 ≠ 0 := by
  induction l with
  | nil => simp [trim] at h
  | cons x xs ih =>
    unfold trim at h ⊢
    by_cases hc : trim xs = [] ∧ x = 0
    · rw [if_pos hc] at h; simp at h
    · rw [if_neg hc]
      by_cases he : trim xs = []
      · simp [he]
        intro hx
        exact hc ⟨he, hx⟩
      · have := ih he
        have hl : 0 < (trim xs).length := List.length_pos_iff.2 he
        rw [show (x :: trim xs).length - 1 = ((trim xs).length - 1) + 1 by simp; omega]
        simpa using this
/-- Two lists without zeros at the end, the same at each place, are the same. -/
theorem trim_ext {l m : List Int} (h : ∀ i, l.getD i 0 = m.getD i 0) : trim l = trim m := by
  have key : ∀ l m : List Int, (∀ i, l.getD i 0 = m.getD i 0) → (trim l).length ≤ (trim m).length := by
    intro l m h
    by_cases he : trim l = []
    · simp [he]
    · have h1 := trim_last l he
      have hl : 0 < (trim l).length := List.length_pos_iff.2 he
      rw [trim_getD, h, ← trim_getD] at h1
      rcases Nat.lt_or_ge ((trim l).length - 1) (trim m).length with h2 | h2
      · omega
      · exact absurd (by rw [getD_out h2]) h1
  have hlen : (trim l).length = (trim m).length := Nat.le_antisymm (key l m h) (key m l fun i => (h i).symm)
  apply List.ext_getElem hlen
  intro i h1 h2
  have := trim_getD l i
  rw [h i, ← trim_getD m i] at this
  rw [List.getD_eq_getElem?_getD, List.getD_eq_getElem?_getD, List.getElem?_eq_getElem h1, List.getElem?_eq_getElem h2] at this
  simpa using this
theorem trim_take (l : List Int) : trim l = l.take (trim l).length := by
  induction l with
  | nil => rfl
  | cons x xs ih =>
    unfold trim
    split
    · rfl
    · simp; exact ih
/-- The vector of a number for each site. -/
def vec (f : Nat → Int) : List Int := trim ((List.range 8).map f)
theorem vec_getD (f : Nat → Int) (i : Nat) : (vec f).getD i 0 = if i < 8 then f i else 0 := by
  unfold vec
  rw [trim_getD]
  by_cases h : i < 8
  · rw [if_pos h, List.getD_eq_getElem?_getD]
    simp [h]
  · rw [if_neg h, getD_out (by simp; omega)]
theorem vec_length (f : Nat → Int) : (vec f).length ≤ 8 := by
  have := trim_length ((List.range 8).map f)
  simpa [vec] using this
theorem vec_ext {f g : Nat → Int} (h : ∀ i, i < 8 → f i = g i) : vec f = vec g := by
  unfold vec
  congr 1
  apply List.map_congr_left
  intro i hi
  exact h i (by simpa using hi)
theorem vec_inj {f g : Nat → Int} (h : vec f = vec g) : ∀ i, i < 8 → f i = g i := by
  intro i hi
  have h1 := vec_getD f i
  rw [h, vec_getD g i, if_pos hi, if_pos hi] at h1
  exact h1.symm
theorem vec_eq_iff (f g : Nat → Int) : vec f = vec g ↔ ∀ i, i < 8 → f i = g i := ⟨vec_inj, vec_ext⟩
theorem trim_vec (l : List Int) (h : l.length ≤ 8) : trim l = vec fun i => l.getD i 0 := by
  unfold vec
  apply trim_ext
  intro i
  by_cases hi : i < 8
  · simp [List.getD_eq_getElem?_getD, hi]
  · rw [getD_out (by omega), getD_out (by simp; omega)]
/-- A site's number. -/
def nm (xs : List Int) (i : Nat) : Int := cl (xs.getD i 0)
theorem nm_range (xs : List Int) (i : Nat) : 0 ≤ nm xs i ∧ nm xs i ≤ 1099511627776 := cl_range _
def pl (xs : List Int) : List Int := vec (nm xs)
theorem pl_length (xs : List Int) : (pl xs).length ≤ 8 := vec_length _
theorem nm_vec (f : Nat → Int) (h : ∀ i, i < 8 → 0 ≤ f i ∧ f i ≤ 1099511627776) (i : Nat) (hi : i < 8) : nm (vec f) i = f i := by
  unfold nm
  rw [vec_getD, if_pos hi]
  exact cl_id (h i hi).1 (h i hi).2
theorem pl_vec (f : Nat → Int) (h : ∀ i, i < 8 → 0 ≤ f i ∧ f i ≤ 1099511627776) : pl (vec f) = vec f := vec_ext fun i hi => nm_vec f h i hi
theorem pl_pl (xs : List Int) : pl (pl xs) = pl xs := pl_vec _ fun i _ => nm_range xs i
theorem nm_pl (xs : List Int) (i : Nat) (hi : i < 8) : nm (pl xs) i = nm xs i := nm_vec _ (fun i _ => nm_range xs i) i hi
theorem pl_getD (xs : List Int) (i : Nat) : (pl xs).getD i 0 = if i < 8 then nm xs i else 0 := vec_getD _ i
theorem pl_trim (xs : List Int) : pl xs = trim ((xs.take 8).map cl) := by
  rw [trim_vec _ (by simp; omega)]
  apply vec_ext
  intro i hi
  unfold nm
  simp only [List.getD_eq_getElem?_getD, List.getElem?_map, List.getElem?_take, hi, if_true]
  cases xs[i]? <;> simp [cl_zero]
/-- A site's number, of any site. -/
def atV (xs : List Int) (i : Int) : Int := if 0 ≤ i ∧ i < 8 then nm xs i.toNat else 0
def joinV (xs ys : List Int) : List Int := vec fun i => max (nm xs i) (nm ys i)
def meetV (xs ys : List Int) : List Int := vec fun i => min (nm xs i) (nm ys i)
def covV (xs ys : List Int) : Bool := (List.range 8).all fun i => decide (nm ys i ≤ nm xs i)
theorem covV_true (xs ys : List Int) : covV xs ys = true ↔ ∀ i, i < 8 → nm ys i ≤ nm xs i := by
  simp [covV]
theorem covV_iff (xs ys : List Int) : decide (joinV xs ys = pl xs) = covV xs ys := by
  rw [Bool.eq_iff_iff, covV_true, decide_eq_true_iff]
  unfold joinV pl
  rw [vec_eq_iff]
  constructor
  · intro h i hi; have := h i hi; omega
  · intro h i hi; have := h i hi; omega
theorem nm_join (xs ys : List Int) (i : Nat) (hi : i < 8) : nm (joinV xs ys) i = max (nm xs i) (nm ys i) := nm_vec _ (fun i _ => by have := nm_range xs i; have := nm_range ys i; omega) i hi
theorem nm_meet (xs ys : List Int) (i : Nat) (hi : i < 8) : nm (meetV xs ys) i = min (nm xs i) (nm ys i) := nm_vec _ (fun i _ => by have := nm_range xs i; have := nm_range ys i; omega) i hi
theorem pl_join (xs ys : List Int) : pl (joinV xs ys) = joinV xs ys := pl_vec _ fun i _ => by have := nm_range xs i; have := nm_range ys i; omega
theorem pl_meet (xs ys : List Int) : pl (meetV xs ys) = meetV xs ys := pl_vec _ fun i _ => by have := nm_range xs i; have := nm_range ys i; omega
def withV (xs : List Int) (site n : Int) : List Int := vec fun i => if (i : Int) = site then cl n else nm xs i
def cmpV (xs ys : List Int) : Int := if covV xs ys = true then (if covV ys xs = true then 0 else 1) else (if covV ys xs = true then -1 else 2)
end
end Go.Proofs.Ytkonflbgkaflaaa
namespace Go.Proofs.Ytkonflbgkaflaaa
section
open Go.RowKit
set_option maxRecDepth 100000
set_option linter.unusedVariables false
set_option linter.unusedSimpArgs false
/-- The list l lies at a, in memory from B on. -/
structure VecAt (w : World) (B : Nat) (a : Option Addr) (l : List Int) : Prop where
  reads : ReadsI .i64 w a l.length l
  own : l = [] ∨ ∃ g, a = some ⟨g, 0, none⟩ ∧ B ≤ g ∧ g < w.heap.size ∧ ∀ j, w.frozen? ⟨g, j, none⟩ = false
theorem VecAt.nil (w : World) (B : Nat) (a : Option Addr) : VecAt w B a [] := ⟨⟨rfl, .inl rfl⟩, .inl rfl⟩
def mixed (ys : List Int) (k : Nat) : List Int := (ys.take k).map cl ++ ys.drop k
theorem mixed_set (ys : List Int) (k : Nat) (h : k < ys.length) : (mixed ys k).set k (cl (ys.getD k 0)) = mixed ys (k + 1) := by
  unfold mixed
  apply List.ext_getElem?
  intro i
  rw [List.getElem?_set]
  simp only [List.getElem?_append, List.length_map, List.length_take, List.getElem?_map, List.getElem?_take, List.getElem?_drop, List.length_append, List.length_drop]
  rcases Nat.lt_trichotomy i k with h1 | h1 | h1
  · rw [if_neg (by omega), if_pos (by omega), if_pos (by omega), if_pos (by omega), if_pos (by omega)]
  · subst h1
    rw [if_pos rfl, if_pos (by omega), if_pos (by omega), if_pos (by omega)]
    simp [List.getD_eq_getElem?_getD, List.getElem?_eq_getElem h]
  · rw [if_neg (by omega), if_neg (by omega), if_neg (by omega)]
    congr 1
    omega
theorem mixed_get (ys : List Int) (k : Nat) (h : k < ys.length) : (mixed ys k)[k]? = some (ys.getD k 0) := by
  unfold mixed
  simp only [List.getElem?_append, List.length_map, List.length_take, List.getElem?_drop]
  rw [if_neg (by omega), List.getD_eq_getElem?_getD]
  simp [show min k ys.length = k by omega, List.getElem?_eq_getElem h]
theorem mixed_all (ys : List Int) : mixed ys ys.length = ys.map cl := by simp [mixed]
theorem mixed_zero (ys : List Int) : mixed ys 0 = ys := by simp [mixed]
theorem mixed_length (ys : List Int) (k : Nat) : (mixed ys k).length = ys.length := by simp [mixed]; omega
theorem trim_cut (l : List Int) (k : Nat) (hk : k + 1 ≤ l.length) (h0 : l.getD k 0 = 0) : trim (l.take (k + 1)) = trim (l.take k) := by
  apply trim_ext
  intro i
  simp only [List.getD_eq_getElem?_getD, List.getElem?_take]
  rcases Nat.lt_trichotomy i k with h1 | h1 | h1
  · rw [if_pos (by omega), if_pos h1]
  · subst h1
    rw [if_pos (by omega), if_neg (by omega)]
    rw [List.getD_eq_getElem?_getD] at h0
    simpa using h0
  · rw [if_neg (by omega), if_neg (by omega)]
theorem trim_full (l : List Int) (h : l = [] ∨ l.getD (l.length - 1) 0 ≠ 0) : trim l = l := by
  rw [trim_take]
  apply List.take_of_length_le
  rcases h with rfl | h
  · simp
  · rw [← trim_getD] at h
    rcases Nat.lt_or_ge (l.length - 1) (trim l).length with h1 | h1
    · omega
    · exact absurd (getD_out h1) h
set_option maxHeartbeats 2000000 in
theorem plain_any (a : Option Addr) (n c : Nat) (xs : List Int) (w : World) (h : ReadsI .i64 w a n xs) (hnc : n ≤ c) (hcb : c ≤ 9223372036854775807) :
    Calls Try.prog 78 #[.slice a n c] w fun e w' => ∃ a', e = .returned (.slice a' (pl xs).length (pl xs).length) ∧ VecAt w' w.heap.size a' (pl xs) ∧ Below w.heap.size w w' := by
  have HR := Lib.hid h
  have hlen := h.1
  clear h
  have hle : (xs.take 8).length = min n 8 := by simp [hlen]; omega
  have HT := Lib.hid (HR.out.take (min n 8) (by omega))
  have htk : xs.take (min n 8) = xs.take 8 := by
    rcases Nat.le_total n 8 with h | h
    · rw [Nat.min_eq_left h, List.take_of_length_le (by omega), List.take_of_length_le (by omega)]
    · rw [Nat.min_eq_right h]
  rw [htk] at HT
  have HP : Hid (pl xs = trim ((xs.take 8).map cl)) := pl_trim xs
  generalize pl xs = P at *
  have hmin : min (n : Int) 8 = ((min n 8 : Nat) : Int) := by omega
  have hm1 : ((min n 8 : Nat) : Int) ≤ (c : Int) := by omega
  have hm2 : ((min n 8 : Nat) : Int) ≤ 8 := by omega
  have hm3 : ((min n 8 : Nat) : Int) ≤ (n : Int) := by omega
  generalize hN : min n 8 = N at *
  go_enter Try.func78, Try.ntmps78
  go_wp2_with fail
  refine (clone_any a N N (xs.take 8) w HT.out (by omega)).mono ?_
  rintro e w1 ⟨v', rfl, how, hb1⟩
  generalize xs.take 8 = ys at *
  subst hle
  clear HT htk hmin hm1 hm3 hN HR
  rcases Nat.eq_zero_or_pos ys.length with h0 | hp
  · obtain rfl : ys = [] := List.eq_nil_of_length_eq_zero h0
    have HP2 : Hid (P = []) := HP.out
    have hsl : ∃ a' c', v' = .slice a' 0 c' := by
      rcases how.2 with ⟨h, _⟩ | ⟨g, cap, cur, h, _⟩
      · exact ⟨none, 0, h⟩
      · exact ⟨_, cap, by rw [h]; rfl⟩
    obtain ⟨a', c', rfl⟩ := hsl
    go_wp2_with fail
    go_loop [16] (fun i => i = .int .i64 0) (fun _ => 0)
    case atStart => rfl
    case round =>
      subst hrel
      go_wp2_with fail
      go_loop [3] (fun i => i = .int .i64 0) (fun _ => 0)
      case atStart => rfl
      case round =>
        subst hrel
        go_wp2_with fail
        go_ret
        rw [HP2.out]
        exact ⟨a', rfl, VecAt.nil _ _ _, hb1⟩
  · obtain ⟨g, cap, rfl, hg, hgl⟩ := how.form hp
    have hcap : ys.length ≤ cap ∧ cap ≤ 9223372036854775807 := by
      rcases how.2 with ⟨h, _⟩ | ⟨g', cap', cur, h, _, _, h3, h4, _⟩
      · simp at h
      · simp only [Value.slice.injEq, Option.some.injEq, Addr.mk.injEq, and_true, true_and] at h
        obtain ⟨rfl, rfl⟩ := h
        exact ⟨h3, h4⟩
    obtain ⟨hcap1, hcap2⟩ := hcap
    have HO := Lib.hid how
    clear how
    have HC1 := Lib.hid hcap1
    go_wp2_with fail
    go_loopw [16, 4, 5] (fun i _ _ wr => ∃ k : Nat, k ≤ ys.length ∧ i = .int .i64 k ∧ wr.ownsRow w.heap.size 3 1 (.slice (some ⟨g, 0, none⟩) ys.length cap) ys.length ((mixed ys k).map (Value.int .i64)) ∧ Below w.heap.size w wr) (fun i _ _ _ => 9 - (intOf i).toNat)
    case atStart => exact ⟨0, by omega, rfl, by rw [mixed_zero]; exact HO.out, hb1⟩
    case round =>
      obtain ⟨k, hk, rfl, hown, hbel⟩ := hrel
      have HW := Lib.hid hown
      clear hown
      by_cases hlt : k < ys.length
      · have t1 : decide (k < ys.length) = true := decide_eq_true hlt
        have hcell : wr.cell? ⟨g, k, none⟩ = some (.int .i64 (ys.getD k 0)) := by
          rw [HW.out.cellAt k (by omega), List.getElem?_map, mixed_get ys k hlt]; rfl
        have hfz : wr.frozen? ⟨g, k, none⟩ = false := HW.out.frozenAt k
        have HS := Lib.hid (HW.out.stored k (.int .i64 (cl (ys.getD k 0))))
        have HM := Lib.hid (mixed_set ys k hlt)
        have HCL : Hid (cl (ys.getD k 0) = min (max (ys.getD k 0) 0) 1099511627776) := rfl
        have i1 : (0 : Int) ≤ (k : Int) := by omega
        have i2 : (k : Int) < (ys.length : Int) := by omega
        have hkb : k ≤ 8 := by omega
        generalize ys.getD k 0 = y at *
        go_wp2_with fail
        go_roundw
        case rel =>
          refine ⟨k + 1, by omega, by go_num, ?_, ?_⟩
          · have := HS.out.1
            rw [← List.map_set, HM.out, HCL.out] at this
            exact this
          · have := HS.out.2
            rw [HCL.out] at this
            exact hbel.grown this hbel.size (fun j hj => by cases hj; exact hg)
        case measure => simp [intOf]; omega
      · have t1 : decide (k < ys.length) = false := decide_eq_false hlt
        have : k = ys.length := by omega
        subst this
        rw [mixed_all] at HW
        have hcells : Hid (∀ j, j < ys.length → wr.cell? ⟨g, j, none⟩ = some (.int .i64 ((ys.map cl).getD j 0))) := fun j hj => by
          rw [HW.out.cellAt j (by omega), List.getElem?_map, List.getElem?_map, List.getD_eq_getElem?_getD, List.getElem?_map, List.getElem?_eq_getElem hj]; rfl
        have hfr : Hid (∀ j, wr.frozen? ⟨g, j, none⟩ = false) := fun j => HW.out.frozenAt j
        have hglt : g < wr.heap.size := (HW.out.lt g rfl).2
        clear HW
        have hzl : (ys.map cl).length = ys.length := List.length_map _
        generalize ys.map cl = zs at *
        generalize hL : ys.length = L at *
        go_wp2_with fail
        go_loop [3] (fun i => ∃ k : Nat, k ≤ L ∧ i = .int .i64 k ∧ P = trim (zs.take k)) (fun i => (intOf i).toNat)
        case atStart => exact ⟨L, by omega, rfl, by rw [List.take_of_length_le (by omega)]; exact HP.out⟩
        case round =>
          obtain ⟨k, hk, rfl, hpk⟩ := hrel
          have HPK := Lib.hid hpk
          clear hpk
          have fin : (k = 0 ∨ zs.getD (k - 1) 0 ≠ 0) → P.length = k ∧ VecAt wr w.heap.size (some ⟨g, 0, none⟩) P := fun h => by
            have e1 : P = zs.take k := by
              rw [HPK.out]
              apply trim_full
              rcases h with rfl | h
              · left; simp
              · rcases Nat.eq_zero_or_pos k with h0 | hp
                · left; subst h0; simp
                · right
                  rw [List.length_take, Nat.min_eq_left (by omega), List.getD_eq_getElem?_getD, List.getElem?_take, if_pos (by omega), ← List.getD_eq_getElem?_getD]
                  exact h
            have e2 : P.length = k := by rw [e1, List.length_take]; omega
            refine ⟨e2, ⟨⟨rfl, .inr ⟨g, 0, rfl, hglt, fun j hj => ?_⟩⟩, .inr ⟨g, rfl, hg, hglt, hfr.out⟩⟩⟩
            rw [Nat.zero_add, hcells.out j (by omega), e1, List.getD_eq_getElem?_getD, List.getD_eq_getElem?_getD, List.getElem?_take, if_pos (by omega)]
          have FIN := Lib.hid fin
          clear fin
          have hkc : (k : Int) ≤ (cap : Int) := by omega
          have hkc2 : (k : Int) ≤ (L : Int) := by omega
          rcases Nat.eq_zero_or_pos k with h0 | hpos
          · have t2 : decide (0 < k) = false := decide_eq_false (by omega)
            obtain ⟨f1, f2⟩ := FIN.out (.inl h0)
            have FV := Lib.hid f2
            clear f2
            go_wp2_with fail
            go_ret
            exact ⟨_, rfl, FV.out, hbel⟩
          · have t2 : decide (0 < k) = true := decide_eq_true hpos
            have hc := hcells.out (k - 1) (by omega)
            have hk1 : ((k - 1 : Nat) : Int) = (k : Int) - 1 := by omega
            have hk2 : ((k : Int) - 1).toNat = k - 1 := by omega
            by_cases hz : zs.getD (k - 1) 0 = 0
            · have t3 : (zs.getD (k - 1) 0 == 0) = true := beq_iff_eq.2 hz
              have HCut := Lib.hid (trim_cut zs (k - 1) (by omega) hz)
              generalize zs.getD (k - 1) 0 = z at *
              go_wp2_with fail
              go_round
              case rel => exact ⟨k - 1, by omega, by rw [hk1], by rw [HPK.out, ← HCut.out, show k - 1 + 1 = k by omega]⟩
              case measure => simp [intOf]; omega
            · have t3 : (zs.getD (k - 1) 0 == 0) = false := beq_eq_false_iff_ne.2 hz
              obtain ⟨f1, f2⟩ := FIN.out (.inr hz)
              have FV := Lib.hid f2
              clear f2
              generalize zs.getD (k - 1) 0 = z at *
              go_wp2_with fail
              go_ret
              exact ⟨_, rfl, FV.out, hbel⟩
end
end Go.Proofs.Ytkonflbgkaflaaa
namespace Go.Proofs.Ytkonflbgkaflaaa
section
open Go.RowKit
set_option maxRecDepth 100000
set_option linter.unusedVariables false
set_option linter.unusedSimpArgs false
theorem atV_pl (xs : List Int) (i : Int) : atV xs i = if 0 ≤ i then (pl xs).getD i.toNat 0 else 0 := by
  unfold atV
  by_cases h0 : 0 ≤ i
  · rw [if_pos h0, pl_getD]
    by_cases h8 : i < 8
    · rw [if_pos ⟨h0, h8⟩, if_pos (by omega)]
    · rw [if_neg (by omega), if_neg (by omega)]
  · rw [if_neg h0, if_neg (by omega)]
theorem VecAt.cell {w : World} {B : Nat} {a : Option Addr} {l : List Int} (h : VecAt w B a l) (i : Nat) (hi : i < l.length) : ∃ g, a = some ⟨g, 0, none⟩ ∧ B ≤ g ∧ g < w.heap.size ∧ w.cell? ⟨g, i, none⟩ = some (.int .i64 (l.getD i 0)) ∧ w.frozen? ⟨g, i, none⟩ = false := by
  obtain ⟨g, rfl, h1, h2, h3⟩ := h.own.resolve_left (by intro h'; subst h'; simp at hi)
  obtain ⟨b, o, h4, h5, h6⟩ := h.reads.2.resolve_left (by omega)
  simp only [Option.some.injEq, Addr.mk.injEq, and_true] at h4
  obtain ⟨rfl, rfl⟩ := h4
  exact ⟨g, rfl, h1, h2, by simpa using h6 i hi, h3 i⟩
set_option maxHeartbeats 1000000 in
theorem at_any (a : Option Addr) (n c : Nat) (xs : List Int) (site : Int) (w : World) (h : ReadsI .i64 w a n xs) (hnc : n ≤ c) (hcb : c ≤ 9223372036854775807) (h0 : -9223372036854775808 ≤ site) (h1 : site ≤ 9223372036854775807) :
    Calls Try.prog 48 #[.slice a n c, .int .i64 site] w fun e w' => e = .returned (.int .i64 (atV xs site)) ∧ Below w.heap.size w w' := by
  obtain ⟨V, HV⟩ : ∃ V, Hid (V = atV xs site) := ⟨_, rfl⟩
  rw [← HV.out]
  rw [atV_pl] at HV
  have hl8 := pl_length xs
  go_enter Try.func48, Try.ntmps48
  go_wp2_with fail
  refine (plain_any a n c xs w h hnc hcb).mono ?_
  rintro e w1 ⟨a', rfl, hv, hb⟩
  generalize pl xs = P at *
  have HVec := Lib.hid hv
  clear hv
  by_cases hneg : site < 0
  · have t1 : decide (site < 0) = true := decide_eq_true hneg
    have hV : Hid (V = 0) := by
      show _ = _
      rw [HV.out, if_neg (by omega)]
    go_wp2_with fail
    go_ret
    exact ⟨by rw [hV.out]; rfl, hb⟩
  · have t1 : decide (site < 0) = false := decide_eq_false hneg
    by_cases hge : (P.length : Int) ≤ site
    · have t2 : decide ((P.length : Int) ≤ site) = true := decide_eq_true hge
      have hV : Hid (V = 0) := by
        show _ = _
        rw [HV.out, if_pos (by omega), getD_out (by omega)]
      go_wp2_with fail
      go_ret
      exact ⟨by rw [hV.out]; rfl, hb⟩
    · obtain ⟨k, rfl⟩ : ∃ k : Nat, site = k := ⟨site.toNat, by omega⟩
      have t2 : decide (P.length ≤ k) = false := decide_eq_false (by omega)
      obtain ⟨g, rfl, _, _, hcell, _⟩ := HVec.out.cell k (by omega)
      have hV : Hid (P.getD k 0 = V) := by
        show _ = _
        rw [HV.out, if_pos (by omega)]
        rfl
      have i1 : (0 : Int) ≤ (k : Int) := by omega
      have i2 : (k : Int) < (P.length : Int) := by omega
      generalize P.getD k 0 = y at *
      clear HV
      go_wp2_with fail
      go_ret
      exact ⟨by rw [← hV.out]; rfl, hb⟩
def arrI (l : List Int) : Array Value := (l.map (Value.int .i64)).toArray
theorem arrI_get (l : List Int) (i : Nat) (h : i < l.length) : (arrI l)[i]? = some (.int .i64 (l.getD i 0)) := by
  simp [arrI, h]
theorem arrI_set (l : List Int) (i : Nat) (v : Int) : (arrI l).setIfInBounds i (.int .i64 v) = arrI (l.set i v) := by
  simp [arrI, List.map_set]
/-- The block g is an array of the numbers l. -/
def ArrAt (w : World) (T : TypeId) (g : Nat) (l : List Int) : Prop := w.heap[g]? = some (.cells (arrI l) T (0, 0))
theorem ArrAt.lt {T : TypeId} {w : World} {g : Nat} {l : List Int} (h : ArrAt w T g l) : g < w.heap.size := by
  unfold ArrAt at h
  rcases Nat.lt_or_ge g w.heap.size with h' | h'
  · exact h'
  · simp [Array.getElem?_eq_none h'] at h
theorem ArrAt.cell {T : TypeId} {w : World} {g : Nat} {l : List Int} (h : ArrAt w T g l) (i : Nat) (hi : i < l.length) : w.cell? ⟨g, i, none⟩ = some (.int .i64 (l.getD i 0)) := by
  simp only [World.cell?, show w.heap[g]? = _ from h]
  exact arrI_get l i hi
theorem ArrAt.fz {T : TypeId} {w : World} {g : Nat} {l : List Int} (h : ArrAt w T g l) (j : Nat) : w.frozen? ⟨g, j, none⟩ = false := by simp [World.frozen?, show w.heap[g]? = _ from h]
theorem ArrAt.set {T : TypeId} {w : World} {g : Nat} {l : List Int} (h : ArrAt w T g l) (i : Nat) (v : Int) : ArrAt (w.setCell ⟨g, i, none⟩ (.int .i64 v)) T g (l.set i v) := by
  unfold ArrAt at *
  simp [World.setCell, Array.getElem?_modify, h, arrI_set]
theorem ArrAt.below {T : TypeId} {w w' : World} {g : Nat} {l : List Int} (h : ArrAt w T g l) (hb : Below w.heap.size w w') : ArrAt w' T g l := (hb.block g h.lt).trans h
theorem ArrAt.reads {T : TypeId} {w : World} {g : Nat} {l : List Int} (h : ArrAt w T g l) : ReadsI .i64 w (some ⟨g, 0, none⟩) l.length l :=
  ⟨rfl, .inr ⟨g, 0, rfl, h.lt, fun j hj => by rw [Nat.zero_add]; exact h.cell j hj⟩⟩
/-- The first k of a row of 8. -/
def upto (f : Nat → Int) (k : Nat) : List Int := (List.range 8).map fun j => if j < k then f j else 0
theorem upto_length (f : Nat → Int) (k : Nat) : (upto f k).length = 8 := by simp [upto]
theorem upto_set (f : Nat → Int) (k : Nat) : (upto f k).set k (f k) = upto f (k + 1) := by
  unfold upto
  apply List.ext_getElem?
  intro i
  rw [List.getElem?_set]
  simp only [List.length_map, List.length_range, List.getElem?_map, List.getElem?_range]
  by_cases h8 : i < 8
  · rcases Nat.lt_trichotomy i k with h1 | h1 | h1
    · rw [if_neg (by omega)]; simp [h8, h1, show i < k + 1 by omega]
    · subst h1; simp [h8]
    · rw [if_neg (by omega)]; simp [h8, show ¬ i < k by omega, show ¬ i < k + 1 by omega]
  · by_cases hk : k = i
    · subst hk; simp [h8]
    · rw [if_neg hk]; simp [h8]
theorem upto_eight (f : Nat → Int) : upto f 8 = (List.range 8).map f := by
  unfold upto
  apply List.map_congr_left
  intro i hi
  simp at hi
  simp [hi]
theorem pl_upto (f : Nat → Int) (h : ∀ i, i < 8 → 0 ≤ f i ∧ f i ≤ 1099511627776) : pl (upto f 8) = vec f := by
  apply vec_ext
  intro i hi
  unfold nm
  rw [upto_eight, List.getD_eq_getElem?_getD]
  simp [hi]
  exact cl_id (h i hi).1 (h i hi).2
theorem sliceAt_all {P : Program} {T E n sz : Nat} (hT : P.underlying T = some (.array n E)) (hs : ∀ w, (sizeOf E).run P w = .ok sz w) (a : Addr) :
    ∀ w : World, (Instr.sliceAt T (.pointer (some a)) none none none).run P w = .ok (.slice (some a) n n) w := by
  intro w
  have ht : P.underlying T = some (.array (P.arrayLen T) (P.elem T)) := by rw [hT]; simp [Program.arrayLen, Program.elem, hT]
  have hl : P.arrayLen T = n := by simp [Program.arrayLen, hT]
  have he : P.elem T = E := by simp [Program.elem, hT]
  rw [run_sliceAt_array_all w T a ht, he, hs, hl]
  simp only [Result.andThen, slicedAt]
  have ha : a.add (0 * sz) = a := by simp [Addr.add]
  rw [ha]; simp
end
end Go.Proofs.Ytkonflbgkaflaaa
namespace Go.Proofs.Ytkonflbgkaflaaa
section
open Go.RowKit
set_option maxRecDepth 100000
set_option linter.unusedVariables false
set_option linter.unusedSimpArgs false
end
end Go.Proofs.Ytkonflbgkaflaaa
namespace Go.Proofs.Ytkonflbgkaflaaa
section
open Go.RowKit
set_option maxRecDepth 100000
set_option linter.unusedVariables false
set_option linter.unusedSimpArgs false
end
end Go.Proofs.Ytkonflbgkaflaaa
namespace Go.Proofs.Ytkonflbgkaflaaa
section
open Go.RowKit
set_option maxRecDepth 100000
set_option linter.unusedVariables false
set_option linter.unusedSimpArgs false
theorem VecAt.mono {w : World} {B B' : Nat} {a : Option Addr} {l : List Int} (h : VecAt w B a l) (hB : B' ≤ B) : VecAt w B' a l := ⟨h.reads, h.own.imp_right fun ⟨g, e1, e2, e3⟩ => ⟨g, e1, Nat.le_trans hB e2, e3⟩⟩
theorem joinV_length (xs ys : List Int) : (joinV xs ys).length ≤ 8 := vec_length _
theorem meetV_length (xs ys : List Int) : (meetV xs ys).length ≤ 8 := vec_length _
theorem right_any (a : Option Addr) (n c : Nat) (xs : List Int) (w : World) (h : ReadsI .i64 w a n xs) (hnc : n ≤ c) (hcb : c ≤ 9223372036854775807) :
    Calls Try.prog 47 #[.slice a n c] w fun e w' => e = .returned (.bool (decide (xs = pl xs))) ∧ Below w.heap.size w w' := by
  have hl8 := pl_length xs
  go_enter Try.func47, Try.ntmps47
  go_wp2_with fail
  refine (plain_any a n c xs w h hnc hcb).mono ?_
  rintro e w1 ⟨a', rfl, hv, hb⟩
  go_wp2_with fail
  refine (equal_any a a' n (pl xs).length c (pl xs).length xs (pl xs) _ (h.below hb) hv.reads (by omega) (by omega)).mono ?_
  rintro e w2 ⟨rfl, hb2⟩
  go_wp2
  go_ret
  exact ⟨rfl, below_then hb hb.size hb2⟩
theorem below_drewN {B : Nat} {w0 w : World} (h : Below B w0 w) (n : Nat) : Below B w0 (w.drewN n) := ⟨h.os, h.tape, h.output, h.size, h.block⟩
theorem ReadsI.at {k : IntKind} {w w' : World} {a : Option Addr} {n : Nat} {xs : List Int} (h : ReadsI k w a n xs) (hb : Below w.heap.size w w') (i : Nat) (hi : i < n) : ∃ b o, a = some ⟨b, o, none⟩ ∧ b < w.heap.size ∧ w'.cell? ⟨b, o + i, none⟩ = some (.int k (xs.getD i 0)) := by
  obtain ⟨_, h2⟩ := h
  obtain ⟨b, o, h3, h4, h5⟩ := h2.resolve_left (by omega)
  exact ⟨b, o, h3, h4, (hb.cell (p := ⟨b, o + i, none⟩) h4).trans (h5 i hi)⟩
theorem list_ext_getD {xs ys : List Int} (hl : xs.length = ys.length) (h : ∀ j, j < xs.length → xs.getD j 0 = ys.getD j 0) : xs = ys := by
  apply List.ext_getElem hl
  intro i h1 h2
  have := h i h1
  simpa [List.getD_eq_getElem?_getD, h1, h2] using this
set_option maxHeartbeats 1000000 in
theorem same_any (a1 a2 : Option Addr) (n1 c1 n2 c2 : Nat) (xs ys : List Int) (w : World) (h1 : ReadsI .i64 w a1 n1 xs) (h2 : ReadsI .i64 w a2 n2 ys) (hc1 : n1 ≤ c1) (hb1 : c1 ≤ 9223372036854775807) (hc2 : n2 ≤ c2) (hb2 : c2 ≤ 9223372036854775807) :
    Calls Try.prog 75 #[.slice a1 n1 c1, .slice a2 n2 c2] w fun e w' => e = .returned (.bool (decide (xs = ys))) ∧ Below w.heap.size w w' := by
  obtain ⟨V, HV⟩ : ∃ V, Hid (V = decide (xs = ys)) := ⟨_, rfl⟩
  rw [← HV.out]
  have hl1 := h1.1
  have hl2 := h2.1
  have H1 := Lib.hid h1
  have H2 := Lib.hid h2
  clear h1 h2
  by_cases hne : n1 = n2
  · subst hne
    have t0 : (n1 == n1) = true := by simp
    go_enter Try.func75, Try.ntmps75
    go_wp2_with fail
    go_loopw [5] (fun i wr => ∃ k : Nat, k ≤ n1 ∧ i = .int .i64 k ∧ (∀ j, j < k → xs.getD j 0 = ys.getD j 0) ∧ Below w.heap.size w wr) (fun i _ => (n1 + 1) - (intOf i).toNat)
    case atStart => exact ⟨0, by omega, rfl, fun j hj => by omega, Below.refl _ _⟩
    case round =>
      obtain ⟨k, hk, rfl, heq, hbel⟩ := hrel
      have HQ := Lib.hid heq
      clear heq
      by_cases hlt : k < n1
      · have t1 : decide (k < n1) = true := decide_eq_true hlt
        obtain ⟨b, o, rfl, _, hx⟩ := H1.out.at hbel k hlt
        obtain ⟨b', o', rfl, _, hy⟩ := H2.out.at hbel k hlt
        have i1 : (0 : Int) ≤ (k : Int) := by omega
        have i2 : (k : Int) < (n1 : Int) := by omega
        by_cases hxy : xs.getD k 0 = ys.getD k 0
        · have hy2 := hxy ▸ hy
          have HQ2 : Hid (∀ j, j < k + 1 → xs.getD j 0 = ys.getD j 0) := fun j hj => by
            rcases Nat.lt_or_ge j k with h | h
            · exact HQ.out j h
            · obtain rfl : j = k := by omega
              exact hxy
          clear hy hxy
          have e1 : (xs.getD k 0 == xs.getD k 0) = true := beq_self_eq_true _
          have hbd := fun q => below_drewN hbel q
          generalize xs.getD k 0 = x at *
          go_wp2_with fail
          go_quiet (fail)
          go_wp2_with fail
          go_roundw
          case rel => exact ⟨k + 1, by omega, by go_num, HQ2.out, below_drewN hbel _⟩
          case measure => simp [intOf]; omega
        · have e1 : (xs.getD k 0 == ys.getD k 0) = false := beq_eq_false_iff_ne.2 hxy
          have hV : Hid (V = false) := by
            show _ = _
            rw [HV.out, decide_eq_false]
            intro h
            exact hxy (by rw [h])
          generalize xs.getD k 0 = x at *
          generalize ys.getD k 0 = y at *
          go_wp2_with fail
          go_quiet (fail)
          go_wp2_with fail
          go_ret
          exact ⟨by rw [hV.out]; rfl, below_drewN hbel _⟩
      · have t1 : decide (k < n1) = false := decide_eq_false hlt
        have hV : Hid (V = true) := by
          show _ = _
          rw [HV.out, decide_eq_true]
          exact list_ext_getD (by omega) (fun j hj => HQ.out j (by omega))
        go_wp2_with fail
        go_ret
        exact ⟨by rw [hV.out]; rfl, hbel⟩
  · have t0 : ((n1 : Int) == (n2 : Int)) = false := by simp; omega
    have t00 : (n1 == n2) = false := by simp; omega
    have hV : Hid (V = false) := by
      show _ = _
      rw [HV.out, decide_eq_false]
      intro h
      exact hne (by rw [← hl1, ← hl2, h])
    go_enter Try.func75, Try.ntmps75
    go_wp2_with fail
    go_ret
    exact ⟨by rw [hV.out]; rfl, Below.refl _ _⟩
end
end Go.Proofs.Ytkonflbgkaflaaa
namespace Go.Proofs.Ytkonflbgkaflaaa
section
open Go.RowKit
set_option maxRecDepth 100000
set_option linter.unusedVariables false
set_option linter.unusedSimpArgs false
/-- The array of the numbers of the 8 sites. -/
def arr8 (f : Nat → Int) : Value := .agg (arrI (upto f 8))
theorem arrI_size (l : List Int) : (arrI l).size = l.length := by simp [arrI]
theorem arrI_one (l : List Int) : (arrI l).all (·.oneCell') = true := by
  simp [arrI, Array.all_eq_true]
  intro i hi
  rfl
theorem info_arr8 : (Try.prog.info? 97).map (·.size) = some 8 := by kernel_rfl
theorem nm_out (xs : List Int) (i : Nat) (h : xs.length ≤ i) : nm xs i = 0 := by unfold nm; rw [getD_out h]; rfl
theorem upto_out (xs : List Int) (k : Nat) (h : xs.length ≤ k) (h8 : k ≤ 8) : upto (nm xs) k = upto (nm xs) 8 := by
  unfold upto
  apply List.map_congr_left
  intro i hi
  simp at hi
  by_cases h1 : i < k
  · rw [if_pos h1, if_pos hi]
  · rw [if_neg h1, if_pos hi, nm_out xs i (by omega)]
theorem ArrAt.setRow {T : TypeId} {w : World} {g : Nat} {l m : List Int} (h : ArrAt w T g l) (hl : m.length = l.length) : ArrAt (w.setRow g (arrI m)) T g m :=
  setRow_heap w g _ _ _ _ h
theorem below_setRow {B : Nat} {a w : World} (h : Below B a w) {g : Nat} (hg : B ≤ g) (cs : Array Value) : Below B a (w.setRow g cs) :=
  ⟨h.os, h.tape, h.output, by have := h.size; simpa [World.setRow] using this, fun k hk => (setRow_other w g k cs (by omega)).trans (h.block k hk)⟩
theorem size8 (f : Nat → Int) (k : Nat) : (Try.prog.info? 97).map (·.size) = some (arrI (upto f k)).size := by rw [info_arr8, arrI_size, upto_length]
set_option maxHeartbeats 2000000 in
theorem rall_any (a : Option Addr) (n c : Nat) (xs : List Int) (w : World) (h : ReadsI .i64 w a n xs) (hnc : n ≤ c) (hcb : c ≤ 9223372036854775807) :
    Calls Try.prog 82 #[.slice a n c] w fun e w' => e = .returned (arr8 (nm xs)) ∧ Below w.heap.size w w' := by
  have hlen := h.1
  have HR := Lib.hid h
  clear h
  obtain ⟨V, HV⟩ : ∃ V, Hid (V = arr8 (nm xs)) := ⟨_, rfl⟩
  rw [← HV.out]
  go_enter Try.func82, Try.ntmps82
  go_wp2_with fail
  have hz : arrI (upto (nm xs) 0) = #[.int .i64 0, .int .i64 0, .int .i64 0, .int .i64 0, .int .i64 0, .int .i64 0, .int .i64 0, .int .i64 0] := by
    simp [arrI, upto, List.range, List.range.loop]
  have hB0 := ((Below.refl w.heap.size w).alloc (Nat.le_refl _) (.cells (arrI (upto (nm xs) 0)) 97)).alloc (by simp) (.cells (arrI (upto (nm xs) 0)) 97)
  have hA0 : ArrAt ((w.alloc (.cells (arrI (upto (nm xs) 0)) 97)).alloc (.cells (arrI (upto (nm xs) 0)) 97)) 97 (w.heap.size + 1) (upto (nm xs) 0) := by
    have := heap_alloc_new (w.alloc (.cells (arrI (upto (nm xs) 0)) 97)) (.cells (arrI (upto (nm xs) 0)) 97)
    unfold ArrAt
    simpa using this
  have hR0 : ArrAt ((w.alloc (.cells (arrI (upto (nm xs) 0)) 97)).alloc (.cells (arrI (upto (nm xs) 0)) 97)) 97 w.heap.size (upto (nm xs) 0) := by
    unfold ArrAt
    rw [heap_alloc_old (h := by simp)]
    exact heap_alloc_new w _
  rw [hz] at hB0 hA0 hR0
  generalize hw0 : (w.alloc _).alloc _ = w0 at *
  clear hw0 hz
  have INIT := Lib.hid (And.intro hA0 (And.intro hR0 hB0))
  clear hA0 hR0 hB0
  go_loopw [4, 5] (fun i _ wr => ∃ k : Nat, k ≤ 8 ∧ k ≤ n ∧ i = .int .i64 k ∧ ArrAt wr 97 (w.heap.size + 1) (upto (nm xs) k) ∧ ArrAt wr 97 w.heap.size (upto (nm xs) 0) ∧ Below w.heap.size w wr) (fun i _ _ => 9 - (intOf i).toNat)
  case atStart => exact ⟨0, by omega, by omega, rfl, INIT.out⟩
  case round =>
    obtain ⟨k, hk8, hkn, rfl, hA, hR, hbel⟩ := hrel
    have HA := Lib.hid hA
    have HRs := Lib.hid hR
    clear hA hR
    by_cases hlt : k < n
    · have t1 : decide (k < n) = true := decide_eq_true hlt
      by_cases h8 : k < 8
      · have t2 : decide ((k : Int) < 8) = true := decide_eq_true (by omega)
        obtain ⟨b, o, rfl, hbl, hcell⟩ := HR.out.2.resolve_left (by omega)
        have hcK : wr.cell? ⟨b, o + k, none⟩ = some (.int .i64 (xs.getD k 0)) := (hbel.cell (p := ⟨b, o + k, none⟩) hbl).trans (hcell k hlt)
        clear hcell
        have i1 : (0 : Int) ≤ (k : Int) := by omega
        have i2 : (k : Int) < (n : Int) := by omega
        have i3 : (k : Int) < 8 := by omega
        have HX : Hid (nm xs k = cl (xs.getD k 0)) := rfl
        have HU := Lib.hid (upto_set (nm xs) k)
        have hac := HA.out.cell k (by rw [upto_length]; exact h8)
        have haf := HA.out.fz k
        generalize xs.getD k 0 = x at *
        generalize (upto (nm xs) k).getD k 0 = z at *
        have fin : ∀ wx, wx = wr.setCell ⟨w.heap.size + 1, k, none⟩ (.int .i64 (cl x)) → ArrAt wx 97 (w.heap.size + 1) (upto (nm xs) (k + 1)) ∧ ArrAt wx 97 w.heap.size (upto (nm xs) 0) ∧ Below w.heap.size w wx := fun wx hwx => by
          subst hwx
          refine ⟨?_, ?_, hbel.setCell (p := ⟨w.heap.size + 1, k, none⟩) (by show w.heap.size ≤ w.heap.size + 1; omega) _⟩
          · have := HA.out.set k (nm xs k)
            rw [HU.out, HX.out] at this
            exact this
          · unfold ArrAt
            rw [Below.heap_setCell _ _ _ _ (by show w.heap.size ≠ w.heap.size + 1; omega)]
            exact HRs.out
        have FIN := Lib.hid fin
        clear fin
        by_cases hneg : x < 0
        · have t3 : decide (x < 0) = true := decide_eq_true hneg
          have hcl : cl x = 0 := by unfold cl; omega
          rw [hcl] at FIN
          clear hcl
          go_wp2_with fail
          go_roundw
          case rel => exact ⟨k + 1, by omega, by omega, by go_num, FIN.out _ rfl⟩
          case measure => simp [intOf]; omega
        · have t3 : decide (x < 0) = false := decide_eq_false hneg
          by_cases hbig : 1099511627776 < x
          · have t4 : decide (1099511627776 < x) = true := decide_eq_true hbig
            have hcl : cl x = 1099511627776 := by unfold cl; omega
            rw [hcl] at FIN
            clear hcl
            go_wp2_with fail
            go_roundw
            case rel => exact ⟨k + 1, by omega, by omega, by go_num, FIN.out _ rfl⟩
            case measure => simp [intOf]; omega
          · have t4 : decide (1099511627776 < x) = false := decide_eq_false hbig
            have hcl : cl x = x := by unfold cl; omega
            rw [hcl] at FIN
            clear hcl
            go_wp2_with fail
            go_roundw
            case rel => exact ⟨k + 1, by omega, by omega, by go_num, FIN.out _ rfl⟩
            case measure => simp [intOf]; omega
      · have t2 : decide ((k : Int) < 8) = false := decide_eq_false (by omega)
        have hk : k = 8 := by omega
        subst hk
        go_upto_region 11 with (fail)
        go_wp2_with (first
          | refine wpList_load_row rfl 97 _ rfl (w.heap.size + 1) rfl 97 (arrI (upto (nm xs) 8)) (0, 0) _ HA.out Try.underlying97 rfl (size8 _ _) ?_
          | refine wpList_store_row rfl 97 _ _ rfl w.heap.size (arrI (upto (nm xs) 8)) rfl rfl 97 (arrI (upto (nm xs) 0)) HRs.out (size8 _ _) (by rw [arrI_size, arrI_size, upto_length, upto_length]) (arrI_one _) ?_)
        have hfin : ArrAt (wr.setRow w.heap.size (arrI (upto (nm xs) 8))) 97 w.heap.size (upto (nm xs) 8) := HRs.out.setRow (by rw [upto_length, upto_length])
        refine bodyPost_ret (v := arr8 (nm xs)) (results_cell_row rfl _ _ w.heap.size 97 (arrI (upto (nm xs) 8)) (0, 0) _ rfl hfin Try.underlying97 rfl (size8 _ _)) rfl ⟨by rw [HV.out], below_setRow hbel (Nat.le_refl _) _⟩
    · have t1 : decide (k < n) = false := decide_eq_false hlt
      rw [upto_out xs k (by omega) hk8] at HA
      go_upto_region 11 with (fail)
      go_wp2_with (first
        | refine wpList_load_row rfl 97 _ rfl (w.heap.size + 1) rfl 97 (arrI (upto (nm xs) 8)) (0, 0) _ HA.out Try.underlying97 rfl (size8 _ _) ?_
        | refine wpList_store_row rfl 97 _ _ rfl w.heap.size (arrI (upto (nm xs) 8)) rfl rfl 97 (arrI (upto (nm xs) 0)) HRs.out (size8 _ _) (by rw [arrI_size, arrI_size, upto_length, upto_length]) (arrI_one _) ?_)
      have hfin : ArrAt (wr.setRow w.heap.size (arrI (upto (nm xs) 8))) 97 w.heap.size (upto (nm xs) 8) := HRs.out.setRow (by rw [upto_length, upto_length])
      refine bodyPost_ret (v := arr8 (nm xs)) (results_cell_row rfl _ _ w.heap.size 97 (arrI (upto (nm xs) 8)) (0, 0) _ rfl hfin Try.underlying97 rfl (size8 _ _)) rfl ⟨by rw [HV.out], below_setRow hbel (Nat.le_refl _) _⟩
end
end Go.Proofs.Ytkonflbgkaflaaa
