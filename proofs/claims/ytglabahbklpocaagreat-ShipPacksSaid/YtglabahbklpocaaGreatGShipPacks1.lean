/- Small words used by all walks of this claim: local arrays of bytes, slices of arrays, numbers as bytes. Contracts of the package vint: what each function answers. What the numbers at the head of bytes are (plain law), and Get's contract. Contract of the reference Put. -/
import Derived.Test.YtglabahbklpocaaGreatRows
import Derived.WalkKit
import Derived.WalkSpells
import Derived.WalkLawsBesides
import Derived.Lib.Hide
namespace Go.Proofs.YtglabahbklpocaaGreat
section
open Go.RowKit
set_option maxRecDepth 100000
set_option linter.unusedVariables false
set_option linter.unusedSimpArgs false
def arrB (l : List Int) : Array Value := (l.map (Value.int .u8)).toArray
theorem arrB_get (l : List Int) (i : Nat) (h : i < l.length) : (arrB l)[i]? = some (.int .u8 (l.getD i 0)) := by
  simp [arrB, h]
theorem arrB_set (l : List Int) (i : Nat) (v : Int) : (arrB l).setIfInBounds i (.int .u8 v) = arrB (l.set i v) := by
  simp [arrB, List.map_set]
theorem sliceAt_to {P : Program} {T E n sz : Nat} (hT : P.underlying T = some (.array n E)) (hs : ∀ w, (sizeOf E).run P w = .ok sz w) (a : Addr) (x : Int) (k : Nat) (hx : x = k) (hk : k ≤ n) :
    ∀ w : World, (Instr.sliceAt T (.pointer (some a)) none (some (.int .i64 x)) none).run P w = .ok (.slice (some a) k n) w := by
  intro w
  subst hx
  have ht : P.underlying T = some (.array (P.arrayLen T) (P.elem T)) := by rw [hT]; simp [Program.arrayLen, Program.elem, hT]
  have hl : P.arrayLen T = n := by simp [Program.arrayLen, hT]
  have he : P.elem T = E := by simp [Program.elem, hT]
  rw [run_sliceAt_array_h w T a ht .i64 k (by omega) (by omega), he, hs, hl]
  simp only [Result.andThen, slicedAt]
  have ha : a.add (0 * sz) = a := by simp [Addr.add]
  rw [ha]; simp
def putI : Nat → Int → List Int
  | 0, n => [n]
  | f + 1, n => if n < 128 then [n] else (n % 128 + 128) :: putI f (n / 128)
def vput (n : Int) : ByteArray := strOfNums (putI 9 n)
theorem u8_or_128 (x : Int) (h0 : 0 ≤ x) (h1 : x < 256) : bits .or .u8 x 128 = x % 128 + 128 := by
  have : ∀ k : Fin 256, bits .or .u8 (k.val : Int) 128 = (k.val : Int) % 128 + 128 := by decide +kernel
  have h := this ⟨x.toNat, by omega⟩
  simpa [show ((x.toNat : Nat) : Int) = x by omega] using h
theorem ret_str {a b : ByteArray} (h : a = b) : Ending.returned (.string a) = .returned (.string b) := by rw [h]
theorem take_set_snoc (l : List Int) (i : Nat) (v : Int) (h : i < l.length) : (l.set i v).take (i + 1) = l.take i ++ [v] := by
  rw [List.take_succ_eq_append_getElem (by simpa using h), List.take_set_of_le (Nat.le_refl _)]
  simp
/-- 's[lo:hi]'. -/
theorem str_slice {P : Program} {T : TypeId} (hu : P.underlying T = some .string) (s : ByteArray) (lo hi : Int) (a b : Nat) (ha : lo = a) (hb : hi = b) (h1 : a ≤ b) (h2 : b ≤ s.size) :
    ∀ wx : World, (Instr.slice T (.string s) (some (.int .i64 lo)) (some (.int .i64 hi)) none).run P wx = .ok (.string (s.extract a b)) wx := by
  intro wx
  subst ha hb
  have := run_slice_string (P := P) wx T s .i64 .i64 (a : Int) (b : Int) hu (by omega) (by omega) (by omega)
  simpa using this
theorem below_then {B : Nat} {w w1 w2 : World} (h : Below B w w1) (hB : B ≤ w1.heap.size) (k : Below w1.heap.size w1 w2) : Below B w w2 := h.trans (k.mono hB)
/-- A slice of whole numbers that is read: nil, empty and other slices alike. -/
def ReadsI (k : IntKind) (w : World) (a : Option Addr) (n : Nat) (xs : List Int) : Prop :=
  xs.length = n ∧ (n = 0 ∨ ∃ b o, a = some ⟨b, o, none⟩ ∧ b < w.heap.size ∧ ∀ j, j < n → w.cell? ⟨b, o + j, none⟩ = some (.int k (xs.getD j 0)))
theorem ReadsI.below {k : IntKind} {w w' : World} {a : Option Addr} {n : Nat} {xs : List Int} (h : ReadsI k w a n xs) (hb : Below w.heap.size w w') : ReadsI k w' a n xs := by
  obtain ⟨h1, h2⟩ := h
  refine ⟨h1, ?_⟩
  rcases h2 with h2 | ⟨b, o, h3, h4, h5⟩
  · exact .inl h2
  · exact .inr ⟨b, o, h3, Nat.lt_of_lt_of_le h4 hb.size, fun j hj => (hb.cell (p := ⟨b, o + j, none⟩) h4).trans (h5 j hj)⟩
theorem ReadsI.take {k : IntKind} {w : World} {a : Option Addr} {n : Nat} {xs : List Int} (h : ReadsI k w a n xs) (m : Nat) (hm : m ≤ n) : ReadsI k w a m (xs.take m) := by
  obtain ⟨h1, h2⟩ := h
  refine ⟨by rw [List.length_take]; omega, ?_⟩
  rcases h2 with h2 | ⟨b, o, h3, h4, h5⟩
  · exact .inl (by omega)
  · exact .inr ⟨b, o, h3, h4, fun j hj => by rw [h5 j (by omega)]; simp [List.getD_eq_getElem?_getD, hj]⟩
theorem reads_new (k : IntKind) (w : World) (xs : List Int) (E : TypeId) : ReadsI k (w.alloc (.cells (xs.map (Value.int k)).toArray E)) (some ⟨w.heap.size, 0, none⟩) xs.length xs :=
  ⟨rfl, .inr ⟨w.heap.size, 0, rfl, by simp, fun j hj => by
    rw [World.cell?_alloc_new, Nat.zero_add]
    simp [List.getD_eq_getElem?_getD, hj]⟩⟩
theorem sA {α : Type} {l : List α} {i : Nat} {a : α} : l.toArray.setIfInBounds i a = (l.set i a).toArray := List.setIfInBounds_toArray ..
theorem sZ {α : Type} {x : α} {xs : List α} {a : α} : (x :: xs).set 0 a = a :: xs := List.set_cons_zero
theorem sS {α : Type} {x : α} {xs : List α} {n : Nat} {a : α} : (x :: xs).set (n + 1) a = x :: xs.set n a := List.set_cons_succ
end
end Go.Proofs.YtglabahbklpocaaGreat
namespace Go.Proofs.YtglabahbklpocaaGreat
section
open Go.RowKit
set_option maxRecDepth 100000
set_option linter.unusedVariables false
set_option linter.unusedSimpArgs false
set_option maxHeartbeats 400000 in
theorem put_any (n : Int) (w : World) (h0 : 0 ≤ n) (h1 : n < 18446744073709551616) :
    Calls Tryz.prog 99 #[.int .u64 n] w fun e w' => e = .returned (.string (vput n)) ∧ Below w.heap.size w w' := by
  go_enter Tryz.func99, Tryz.ntmps99
  go_wp2
  go_loopw [0, 4] (fun n' k wr => ∃ (m : Int) (i : Nat) (l : List Int), l.length = 10 ∧ 0 ≤ m ∧ m < 18446744073709551616 ∧ m < 128 ^ (9 - i) * 2 ∧ n' = .int .u64 m ∧ k = .int .i64 i ∧ i ≤ 9 ∧ wr = w.alloc (.cells (arrB l) 153) ∧ l.take i ++ putI (9 - i) m = putI 9 n) (fun n _ _ => (intOf n).toNat)
  case atStart => 
    exact ⟨n, 0, List.replicate 10 0, rfl, h0, h1, by simpa using h1, rfl, rfl, by omega, rfl, rfl⟩
  case round =>
    obtain ⟨m, i, l, hl, hm0, hm1, hm2, rfl, rfl, hi, hwr, hp⟩ := hrel
    subst hwr
    have HP := Lib.hid hp
    clear hp
    have hc := arrB_get l i (by omega)
    have hst := arrB_set l i
    by_cases hlt : m < 128
    · have hsl := sliceAt_to (P := Tryz.prog) (T := 153) Tryz.underlying153 (sz := 1) (fun _ => by kernel_rfl) ⟨w.heap.size, 0, none⟩ (↑i + 1) (i + 1) (by omega) (by omega)
      have hcv := run_convert_bytes_arg (P := Tryz.prog) (w.alloc (.cells (arrB (l.set i m)) 153)) 130 5 Tryz.underlying130 Tryz.underlying5 w.heap.size 0 (i + 1) 10 ((l.set i m).take (i + 1)) (by simp; omega) (fun j hj => by
        rw [World.cell?_alloc_new, Nat.zero_add, arrB_get _ _ (by simp; omega)]
        simp [List.getD_eq_getElem?_getD, hj]) 9 Tryz.underlying9
      go_wp2
      go_ret
      refine ⟨ret_str ?_, (Below.refl _ _).alloc (Nat.le_refl _) _⟩
      unfold vput
      rw [take_set_snoc l i m (by omega), ← HP.out]
      cases hq : 9 - i with
      | zero => rfl
      | succ f => simp [putI, hlt]
    · have hi9 : i < 9 := by
        rcases Nat.lt_or_ge i 9 with h | h
        · exact h
        · have : i = 9 := by omega
          subst this
          simp at hm2
          omega
      have hor := u8_or_128 (m % 256) (by omega) (by omega)
      have h128 : m % 256 % 128 = m % 128 := by omega
      have hq : 9 - i = (9 - (i + 1)) + 1 := by omega
      have HQ := Lib.hid hq
      clear hq
      go_wp2
      go_roundw
      case rel =>
        refine ⟨m / 128, i + 1, l.set i (m % 128 + 128), by simpa using hl, by omega, by omega, ?_, rfl, by go_num, by omega, rfl, ?_⟩
        · rw [HQ.out, Int.pow_succ] at hm2
          exact Int.ediv_lt_of_lt_mul (by omega) (by omega)
        · rw [take_set_snoc l i _ (by omega), ← HP.out, HQ.out]
          simp [putI, hlt]
      case measure => simp [intOf]; omega
end
end Go.Proofs.YtglabahbklpocaaGreat
namespace Go.Proofs.YtglabahbklpocaaGreat
section
open Go.RowKit
set_option maxRecDepth 100000
set_option linter.unusedVariables false
set_option linter.unusedSimpArgs false

/-- The number at the head of some bytes, and how many bytes it has. -/
def getL : Nat → List UInt8 → Option (Int × Nat)
  | 0, _ => none
  | _ + 1, [] => none
  | f + 1, b :: r => if (b.toNat : Int) < 128 then some ((b.toNat : Int), 1) else (getL f r).map fun p => ((b.toNat : Int) - 128 + 128 * p.1, p.2 + 1)
/-- Get's answer: the number, the place behind it, the error. -/
def vget (s : ByteArray) (at' : Int) : Int × Int × Int :=
  if at' < 0 ∨ (s.size : Int) ≤ at' then (0, 0, 10) else
  match getL 10 (s.data.toList.drop at'.toNat) with
  | none => (0, 0, 10)
  | some p => if p.1 < 18446744073709551616 ∧ (p.2 = 1 ∨ 128 ^ (p.2 - 1) ≤ p.1) then (p.1, at' + p.2, 0) else (0, 0, 10)

theorem u8_andNot_128 (x : Int) (h0 : 0 ≤ x) (h1 : x < 256) : bits .andNot .u8 x 128 = x % 128 := by
  have : ∀ k : Fin 256, bits .andNot .u8 (k.val : Int) 128 = (k.val : Int) % 128 := by decide +kernel
  have h := this ⟨x.toNat, by omega⟩
  simpa [show ((x.toNat : Nat) : Int) = x by omega] using h
theorem wrap_u64 (n : Int) : IntKind.u64.wrap n = n % 18446744073709551616 := by simp [IntKind.wrap, IntKind.bits, IntKind.signed]
theorem wraps_u64 (n : Int) (h₀ : 0 ≤ n) (h₁ : n < 2 ^ 64) : IntKind.u64.wrap n = n := by rw [wrap_u64]; omega
theorem bits_or_comm (k : IntKind) (x y : Int) : bits .or k x y = bits .or k y x := by simp only [bits, BitVec.or_comm]
theorem or_shift (x b : Int) (i : Nat) (hi : i ≤ 9) (hx0 : 0 ≤ x) (hx : x < 128 ^ i) (hb0 : 0 ≤ b) (hb : b < 128) :
    bits .or .u64 x (IntKind.u64.wrap (b * 2 ^ (7 * i))) = x + (b * 128 ^ i) % 18446744073709551616 := by
  have e : (2 : Int) ^ (7 * i) = 128 ^ i := by rw [Int.pow_mul]; rfl
  rw [bits_or_comm, wrap_u64, e]
  have hc : i = 0 ∨ i = 1 ∨ i = 2 ∨ i = 3 ∨ i = 4 ∨ i = 5 ∨ i = 6 ∨ i = 7 ∨ i = 8 ∨ i = 9 := by omega
  rcases hc with rfl | rfl | rfl | rfl | rfl | rfl | rfl | rfl | rfl | rfl <;> simp only [Int.reducePow] at hx ⊢ <;>
    first
    | rw [bits_join .u64 64 (by decide) wraps_u64 0 _ x (by omega) (by omega) (by omega) hx0 (by omega) (by omega)]; omega
    | rw [bits_join .u64 64 (by decide) wraps_u64 7 _ x (by omega) (by omega) (by omega) hx0 (by omega) (by omega)]; omega
    | rw [bits_join .u64 64 (by decide) wraps_u64 14 _ x (by omega) (by omega) (by omega) hx0 (by omega) (by omega)]; omega
    | rw [bits_join .u64 64 (by decide) wraps_u64 21 _ x (by omega) (by omega) (by omega) hx0 (by omega) (by omega)]; omega
    | rw [bits_join .u64 64 (by decide) wraps_u64 28 _ x (by omega) (by omega) (by omega) hx0 (by omega) (by omega)]; omega
    | rw [bits_join .u64 64 (by decide) wraps_u64 35 _ x (by omega) (by omega) (by omega) hx0 (by omega) (by omega)]; omega
    | rw [bits_join .u64 64 (by decide) wraps_u64 42 _ x (by omega) (by omega) (by omega) hx0 (by omega) (by omega)]; omega
    | rw [bits_join .u64 64 (by decide) wraps_u64 49 _ x (by omega) (by omega) (by omega) hx0 (by omega) (by omega)]; omega
    | rw [bits_join .u64 64 (by decide) wraps_u64 56 _ x (by omega) (by omega) (by omega) hx0 (by omega) (by omega)]; omega
    | rw [bits_join .u64 64 (by decide) wraps_u64 63 _ x (by omega) (by omega) (by omega) hx0 (by omega) (by omega)]; omega

theorem getL_cons (f : Nat) (b : UInt8) (r : List UInt8) : getL (f + 1) (b :: r) = if (b.toNat : Int) < 128 then some ((b.toNat : Int), 1) else (getL f r).map fun p => ((b.toNat : Int) - 128 + 128 * p.1, p.2 + 1) := rfl
theorem lt_step {x q q' p : Int} (hx : x < p) (hq : q ≤ 127 * p) (hm : q' ≤ q) : x + q' < 128 * p := by omega
theorem emod_nn (x : Int) : 0 ≤ x % 18446744073709551616 := Int.emod_nonneg _ (by decide)
theorem emod_le_self (x : Int) (h : 0 ≤ x) : x % 18446744073709551616 ≤ x := by omega
theorem drop_cons (s : ByteArray) (k : Nat) (h : k < s.size) : s.data.toList.drop k = s[k] :: s.data.toList.drop (k + 1) := by
  rw [List.drop_eq_getElem_cons (by simpa using h)]; rfl
def getRel (s : ByteArray) (a i : Nat) (x : Int) : Prop :=
  0 ≤ x ∧ (i ≤ 9 → x < 128 ^ i) ∧ getL 10 (s.data.toList.drop a) = (getL (10 - i) (s.data.toList.drop (a + i))).map fun p => (x + 128 ^ i * p.1, p.2 + i)
theorem getRel_zero (s : ByteArray) (a : Nat) : getRel s a 0 0 := ⟨by omega, fun _ => by simp, by
  cases h : getL 10 (s.data.toList.drop a) <;> simp [h]⟩
theorem getRel_more {s : ByteArray} {a i : Nat} {x b : Int} (h : getRel s a i x) (hi : i ≤ 9) (hlt : a + i < s.size) (hb : ((s[a + i].toNat : Nat) : Int) = b) (h128 : 128 ≤ b) :
    getRel s a (i + 1) (x + (b % 128 * 128 ^ i) % 18446744073709551616) := by
  obtain ⟨h0, h1, h2⟩ := h
  have hb2 : b < 256 := by have := s[a + i].toNat_lt; omega
  refine ⟨Int.add_nonneg h0 (emod_nn _), fun hi' => ?_, ?_⟩
  · have hx := h1 hi
    have hp : (0 : Int) < 128 ^ i := Int.pow_pos (by decide)
    have e : (128 : Int) ^ (i + 1) = 128 * 128 ^ i := by rw [Int.pow_succ]; omega
    have hle : b % 128 * 128 ^ i ≤ 127 * 128 ^ i := Int.mul_le_mul_of_nonneg_right (by omega) (by omega)
    have hn : 0 ≤ b % 128 * 128 ^ i := Int.mul_nonneg (by omega) (by omega)
    have hm := emod_le_self _ hn
    rw [e]
    exact lt_step hx hle hm
  · rw [h2, drop_cons s (a + i) hlt, show 10 - i = (10 - (i + 1)) + 1 by omega, getL_cons, if_neg (by omega), hb]
    rcases Nat.lt_or_ge i 9 with h9 | h9
    · have hc : i = 0 ∨ i = 1 ∨ i = 2 ∨ i = 3 ∨ i = 4 ∨ i = 5 ∨ i = 6 ∨ i = 7 ∨ i = 8 := by omega
      have em : (b % 128 * 128 ^ i) % 18446744073709551616 = (b - 128) * 128 ^ i := by
        rcases hc with rfl | rfl | rfl | rfl | rfl | rfl | rfl | rfl | rfl <;> simp only [Int.reducePow] <;> omega
      rw [em, Option.map_map]
      congr 1
      funext p
      simp only [Function.comp, Prod.mk.injEq]
      refine ⟨?_, by omega⟩
      rw [Int.pow_succ, Int.mul_add, Int.mul_assoc, Int.mul_comm (b - 128)]
      omega
    · have e0 : 10 - (i + 1) = 0 := by omega
      have g0 : ∀ l, getL (10 - (i + 1)) l = none := fun l => by rw [e0]; rfl
      rw [g0, g0, Option.map_none, Option.map_none, Option.map_none]
theorem getRel_last {s : ByteArray} {a i : Nat} {x b : Int} (h : getRel s a i x) (hi : i ≤ 9) (hlt : a + i < s.size) (hb : ((s[a + i].toNat : Nat) : Int) = b) (h128 : b < 128) :
    getL 10 (s.data.toList.drop a) = some (x + 128 ^ i * b, 1 + i) := by
  rw [h.2.2, drop_cons s (a + i) hlt, show 10 - i = (10 - (i + 1)) + 1 by omega, getL_cons, if_pos (by omega), hb]
  rfl
theorem vget_fail {s : ByteArray} {a : Nat} (h : getL 10 (s.data.toList.drop a) = none) : vget s a = (0, 0, 10) := by
  unfold vget
  split
  · rfl
  · simp [h]
theorem getRel_end {s : ByteArray} {a i : Nat} {x : Int} (h : getRel s a i x) (he : s.size ≤ a + i ∨ i = 10) : vget s a = (0, 0, 10) := by
  apply vget_fail
  rw [h.2.2]
  have g0 : getL (10 - i) (s.data.toList.drop (a + i)) = none := by
    rcases he with he | he
    · rw [List.drop_of_length_le (by simpa using he)]
      cases 10 - i <;> rfl
    · rw [show 10 - i = 0 by omega]; rfl
  rw [g0, Option.map_none]
theorem vget_out {s : ByteArray} {a : Int} (h : a < 0 ∨ (s.size : Int) ≤ a) : vget s a = (0, 0, 10) := by
  unfold vget; rw [if_pos h]
/-- The last byte: what is refused. -/
theorem vget_bad {s : ByteArray} {a i : Nat} {x b : Int} (h : getRel s a i x) (hi : i ≤ 9) (hlt : a + i < s.size) (hb : ((s[a + i].toNat : Nat) : Int) = b) (h128 : b < 128)
    (hz : (1 ≤ i ∧ b = 0) ∨ (i = 9 ∧ 1 < b)) : vget s a = (0, 0, 10) := by
  unfold vget
  rw [if_neg (by omega)]
  simp only [Int.toNat_natCast, getRel_last h hi hlt hb h128]
  rw [if_neg]
  have hx := h.2.1 hi
  rcases hz with ⟨h1, rfl⟩ | ⟨rfl, h2⟩
  · rintro ⟨_, h3⟩
    rw [show 1 + i - 1 = i by omega] at h3
    omega
  · simp only [Int.reducePow] at hx ⊢
    rintro ⟨h3, _⟩
    have := h.1
    omega
theorem vget_good {s : ByteArray} {a i : Nat} {x b : Int} (h : getRel s a i x) (hi : i ≤ 9) (hlt : a + i < s.size) (hb : ((s[a + i].toNat : Nat) : Int) = b) (h128 : b < 128)
    (hz : ¬ ((1 ≤ i ∧ b = 0) ∨ (i = 9 ∧ 1 < b))) : vget s a = (x + (b % 128 * 128 ^ i) % 18446744073709551616, (a : Int) + (i + 1), 0) := by
  have hx := h.2.1 hi
  have h0 := h.1
  have hb0 : 0 ≤ b := by omega
  unfold vget
  rw [if_neg (by omega)]
  simp only [Int.toNat_natCast, getRel_last h hi hlt hb h128]
  have hc : i = 0 ∨ i = 1 ∨ i = 2 ∨ i = 3 ∨ i = 4 ∨ i = 5 ∨ i = 6 ∨ i = 7 ∨ i = 8 ∨ i = 9 := by omega
  rcases hc with rfl | rfl | rfl | rfl | rfl | rfl | rfl | rfl | rfl | rfl <;> simp only [Int.reducePow] at hx ⊢ <;>
    (rw [if_pos (by simp only [Nat.reduceAdd, Nat.reduceSub, Int.reducePow, true_or, and_true]; omega)]; simp only [Prod.mk.injEq]; refine ⟨by omega, by omega, trivial⟩)

/-- Three numbers as Get hands them back. -/
def get3 (r : Int × Int × Int) : Value := .tuple #[.int .u64 r.1, .int .i64 r.2.1, .int .i64 r.2.2]
theorem ret_get3 {r r' : Int × Int × Int} (h : r' = r) : Ending.returned (.tuple #[.int .u64 r.1, .int .i64 r.2.1, .int .i64 r.2.2]) = .returned (get3 r') := by rw [h]; rfl
theorem get_out (s : ByteArray) (at' : Int) (w : World) (hs : s.size ≤ 9223372036854775807) (h : at' < 0 ∨ (s.size : Int) ≤ at') :
    Calls Tryz.prog 132 #[.string s, .int .i64 at'] w fun e w' => e = .returned (get3 (vget s at')) ∧ w = w' := by
  have HV := Lib.hid (vget_out h)
  by_cases hb : at' < 0
  · have hb' : decide (at' < 0) = true := decide_eq_true hb
    clear h
    go_enter Tryz.func132, Tryz.ntmps132
    go_wp2
    go_step3
    go_wp2
    rw [Exit.noGoto_ret]
    go_ret3
    exact ⟨ret_get3 HV.out, rfl⟩
  · have hb' : decide (at' < 0) = false := decide_eq_false hb
    have hb2' : decide ((s.size : Int) ≤ at') = true := decide_eq_true (by omega)
    clear h
    go_enter Tryz.func132, Tryz.ntmps132
    go_wp2
    go_step3
    go_wp2
    rw [Exit.noGoto_ret]
    go_ret3
    exact ⟨ret_get3 HV.out, rfl⟩
set_option maxHeartbeats 1000000 in
set_option maxRecDepth 100000 in
theorem get_in (s : ByteArray) (a : Nat) (w : World) (hs : s.size ≤ 9223372036854775807) (h1 : a < s.size) :
    Calls Tryz.prog 132 #[.string s, .int .i64 (a : Int)] w fun e w' => e = .returned (get3 (vget s a)) ∧ w = w' := by
  have hb' : decide ((a : Int) < 0) = false := decide_eq_false (by omega)
  have hb2' : decide (s.size ≤ a) = false := decide_eq_false (by omega)
  go_enter Tryz.func132, Tryz.ntmps132
  go_wp2
  go_step3
  go_wp2
  go_step3
  go_wp2
  go_loop [7, 8] (fun v k => ∃ (x : Int) (i : Nat), i ≤ 10 ∧ a + i ≤ s.size ∧ v = .int .u64 x ∧ k = .int .i64 i ∧ getRel s a i x) (fun _ k => 10 - (intOf k).toNat)
  case atStart => exact ⟨0, 0, by omega, by omega, rfl, rfl, getRel_zero s a⟩
  case round =>
    obtain ⟨x, i, hi, hat, rfl, rfl, hr⟩ := hrel
    have HR := Lib.hid hr
    clear hr
    by_cases h10 : i = 10
    · subst h10
      go_wp2
      first | rw [Exit.noGoto_ret] | skip
      go_ret3
      exact ⟨ret_get3 (getRel_end HR.out (.inr rfl)), rfl⟩
    · have h10' : ((i : Int) == 10) = false := by simpa using (by omega : ¬ (i : Int) = 10)
      by_cases hend : s.size ≤ a + i
      · have hend' : decide ((s.size : Int) ≤ a + i) = true := decide_eq_true (by omega)
        go_wp2
        first | rw [Exit.noGoto_ret] | skip
        go_ret3
        exact ⟨ret_get3 (getRel_end HR.out (.inl hend)), rfl⟩
      · have hend' : decide ((s.size : Int) ≤ a + i) = false := decide_eq_false (by omega)
        have hlt : a + i < s.size := by omega
        obtain ⟨b, hb⟩ : ∃ b : Int, ((s[a + i].toNat : Nat) : Int) = b := ⟨_, rfl⟩
        have hb0 : 0 ≤ b := by omega
        have hb1 : b < 256 := by have := s[a + i].toNat_lt; omega
        have HB := Lib.hid hb
        have f1 := u8_andNot_128 b hb0 hb1
        have f2 := wraps_u64 (b % 128) (by omega) (by omega)
        have f3 := or_shift x (b % 128) i (by omega) HR.out.1 (HR.out.2.1 (by omega)) (by omega) (by omega)
        have F := Lib.hid (And.intro f1 (And.intro f2 f3))
        by_cases h128 : b < 128
        · have t1 : decide (b < 128) = true := decide_eq_true h128
          by_cases hz : (1 ≤ i ∧ b = 0) ∨ (i = 9 ∧ 1 < b)
          · have HV := Lib.hid (vget_bad HR.out (by omega) hlt hb h128 hz)
            rcases hz with ⟨hz1, hz2⟩ | ⟨hz1, hz2⟩
            · have t2 : (b == 0) = true := by simpa using hz2
              have t3 : decide (1 < (i : Int) + 1) = true := decide_eq_true (by omega)
              clear hz2
              go_wp2
              first | rw [Exit.noGoto_ret] | skip
              go_ret3
              exact ⟨ret_get3 HV.out, rfl⟩
            · subst hz1
              have t2 : (b == 0) = false := by simpa using (by omega : ¬ b = 0)
              have t3 : decide (1 < b) = true := decide_eq_true (by omega)
              go_wp2
              first | rw [Exit.noGoto_ret] | skip
              go_ret3
              exact ⟨ret_get3 HV.out, rfl⟩
          · have HV := Lib.hid (vget_good HR.out (by omega) hlt hb h128 hz)
            by_cases hi0 : i = 0
            · have t3 : decide (1 < (i : Int) + 1) = false := decide_eq_false (by omega)
              have t4 : ((i : Int) + 1 == 10) = false := by simpa using (by omega : ¬ (i : Int) + 1 = 10)
              clear hi0
              go_wp2
              first | rw [Exit.noGoto_ret] | skip
              go_ret3
              exact ⟨ret_get3 HV.out, rfl⟩
            · have t2 : (b == 0) = false := by simpa using (by omega : ¬ b = 0)
              have t3 : decide (1 < (i : Int) + 1) = true := decide_eq_true (by omega)
              by_cases h9 : i = 9
              · have t4 : decide (1 < b) = false := decide_eq_false (by omega)
                have t5 : ((i : Int) + 1 == 10) = true := by simpa using (by omega : (i : Int) + 1 = 10)
                clear h9
                go_wp2
                first | rw [Exit.noGoto_ret] | skip
                go_ret3
                exact ⟨ret_get3 HV.out, rfl⟩
              · have t4 : ((i : Int) + 1 == 10) = false := by simpa using (by omega : ¬ (i : Int) + 1 = 10)
                go_wp2
                first | rw [Exit.noGoto_ret] | skip
                go_ret3
                exact ⟨ret_get3 HV.out, rfl⟩
        · have t1 : decide (b < 128) = false := decide_eq_false h128
          have HM := Lib.hid (getRel_more HR.out (by omega) hlt hb (by omega))
          go_wp2
          go_round
          case rel => exact ⟨_, i + 1, by omega, by omega, rfl, by go_num, HM.out⟩
          case measure => simp [intOf]; omega
theorem get_any (s : ByteArray) (at' : Int) (w : World) (hs : s.size ≤ 9223372036854775807) :
    Calls Tryz.prog 132 #[.string s, .int .i64 at'] w fun e w' => e = .returned (get3 (vget s at')) ∧ w = w' := by
  by_cases h : at' < 0 ∨ (s.size : Int) ≤ at'
  · exact get_out s at' w hs h
  · obtain ⟨a, rfl⟩ := Int.eq_ofNat_of_zero_le (show 0 ≤ at' by omega)
    exact get_in s a w hs (by omega)
end
end Go.Proofs.YtglabahbklpocaaGreat
namespace Go.Proofs.YtglabahbklpocaaGreat
section
open Go.RowKit
set_option maxRecDepth 100000
set_option linter.unusedVariables false
set_option linter.unusedSimpArgs false
end
end Go.Proofs.YtglabahbklpocaaGreat
