/- Small words used by all walks of this claim: local arrays of bytes, slices of arrays, numbers as bytes. Plain law: a list of numbers as a vector of 8 sites. Plain law of peers: what is known of other sites. No program is in sight. Contracts of the package vint: what each function answers. -/
import Derived.Test.YtglabahbklpocaaGreatRows
import Derived.WalkKit
import Derived.WalkSpells
import Derived.WalkLawsBesides
import Derived.Lib.Hide
namespace Go.Proofs.YtglabahbklpocaaGreat
section
open Go.RowKit
set_option maxRecDepth 100000
set_option linter.unusedVariables false
set_option linter.unusedSimpArgs false
def arrB (l : List Int) : Array Value := (l.map (Value.int .u8)).toArray
theorem arrB_get (l : List Int) (i : Nat) (h : i < l.length) : (arrB l)[i]? = some (.int .u8 (l.getD i 0)) := by
  simp [arrB, h]
theorem arrB_set (l : List Int) (i : Nat) (v : Int) : (arrB l).setIfInBounds i (.int .u8 v) = arrB (l.set i v) := by
  simp [arrB, List.map_set]
theorem sliceAt_to {P : Program} {T E n sz : Nat} (hT : P.underlying T = some (.array n E)) (hs : ∀ w, (sizeOf E).run P w = .ok sz w) (a : Addr) (x : Int) (k : Nat) (hx : x = k) (hk : k ≤ n) :
    ∀ w : World, (Instr.sliceAt T (.pointer (some a)) none (some (.int .i64 x)) none).run P w = .ok (.slice (some a) k n) w := by
  intro w
  subst hx
  have ht : P.underlying T = some (.array (P.arrayLen T) (P.elem T)) := by rw [hT]; simp [Program.arrayLen, Program.elem, hT]
  have hl : P.arrayLen T = n := by simp [Program.arrayLen, hT]
  have he : P.elem T = E := by simp [Program.elem, hT]
  rw [run_sliceAt_array_h w T a ht .i64 k (by omega) (by omega), he, hs, hl]
  simp only [Result.andThen, slicedAt]
  have ha : a.add (0 * sz) = a := by simp [Addr.add]
  rw [ha]; simp
def putI : Nat → Int → List Int
  | 0, n => [n]
  | f + 1, n => if n < 128 then [n] else (n % 128 + 128) :: putI f (n / 128)
def vput (n : Int) : ByteArray := strOfNums (putI 9 n)
theorem u8_or_128 (x : Int) (h0 : 0 ≤ x) (h1 : x < 256) : bits .or .u8 x 128 = x % 128 + 128 := by
  have : ∀ k : Fin 256, bits .or .u8 (k.val : Int) 128 = (k.val : Int) % 128 + 128 := by decide +kernel
  have h := this ⟨x.toNat, by omega⟩
  simpa [show ((x.toNat : Nat) : Int) = x by omega] using h
theorem ret_str {a b : ByteArray} (h : a = b) : Ending.returned (.string a) = .returned (.string b) := by rw [h]
theorem take_set_snoc (l : List Int) (i : Nat) (v : Int) (h : i < l.length) : (l.set i v).take (i + 1) = l.take i ++ [v] := by
  rw [List.take_succ_eq_append_getElem (by simpa using h), List.take_set_of_le (Nat.le_refl _)]
  simp
theorem strOfNums_append (a b : List Int) : strOfNums (a ++ b) = strOfNums a ++ strOfNums b := by
  apply ByteArray.ext
  simp [strOfNums]
/-- 'string([]byte{x})'. -/
theorem conv_one {P : Program} {S E T : TypeId} (hs : P.underlying S = some (.slice E)) (he : P.underlying E = some (.int .u8)) (hd : P.underlying T = some .string) :
    ∀ (wx : World) (x : Int), (convert S T (.slice (some ⟨wx.heap.size, 0, none⟩) 1 1)).run P (wx.alloc (.cells #[.int .u8 x] E)) = .ok (.string (strOfNums [x])) (wx.alloc (.cells #[.int .u8 x] E)) :=
  fun wx x => run_convert_bytes_arg _ S E hs he wx.heap.size 0 1 1 [x] rfl (fun i hi => by
    have : i = 0 := by omega
    subst this
    rw [World.cell?_alloc_new]; rfl) T hd
/-- 's[lo:hi]'. -/
theorem str_slice {P : Program} {T : TypeId} (hu : P.underlying T = some .string) (s : ByteArray) (lo hi : Int) (a b : Nat) (ha : lo = a) (hb : hi = b) (h1 : a ≤ b) (h2 : b ≤ s.size) :
    ∀ wx : World, (Instr.slice T (.string s) (some (.int .i64 lo)) (some (.int .i64 hi)) none).run P wx = .ok (.string (s.extract a b)) wx := by
  intro wx
  subst ha hb
  have := run_slice_string (P := P) wx T s .i64 .i64 (a : Int) (b : Int) hu (by omega) (by omega) (by omega)
  simpa using this
theorem below_from_drew {B : Nat} {w w' : World} (h : Below B w.drew w') : Below B w w' := ⟨h.os, h.tape, h.output, h.size, h.block⟩
theorem below_then {B : Nat} {w w1 w2 : World} (h : Below B w w1) (hB : B ≤ w1.heap.size) (k : Below w1.heap.size w1 w2) : Below B w w2 := h.trans (k.mono hB)
/-- A slice of whole numbers that is read: nil, empty and other slices alike. -/
def ReadsI (k : IntKind) (w : World) (a : Option Addr) (n : Nat) (xs : List Int) : Prop :=
  xs.length = n ∧ (n = 0 ∨ ∃ b o, a = some ⟨b, o, none⟩ ∧ b < w.heap.size ∧ ∀ j, j < n → w.cell? ⟨b, o + j, none⟩ = some (.int k (xs.getD j 0)))
theorem ReadsI.below {k : IntKind} {w w' : World} {a : Option Addr} {n : Nat} {xs : List Int} (h : ReadsI k w a n xs) (hb : Below w.heap.size w w') : ReadsI k w' a n xs := by
  obtain ⟨h1, h2⟩ := h
  refine ⟨h1, ?_⟩
  rcases h2 with h2 | ⟨b, o, h3, h4, h5⟩
  · exact .inl h2
  · exact .inr ⟨b, o, h3, Nat.lt_of_lt_of_le h4 hb.size, fun j hj => (hb.cell (p := ⟨b, o + j, none⟩) h4).trans (h5 j hj)⟩
theorem ReadsI.take {k : IntKind} {w : World} {a : Option Addr} {n : Nat} {xs : List Int} (h : ReadsI k w a n xs) (m : Nat) (hm : m ≤ n) : ReadsI k w a m (xs.take m) := by
  obtain ⟨h1, h2⟩ := h
  refine ⟨by rw [List.length_take]; omega, ?_⟩
  rcases h2 with h2 | ⟨b, o, h3, h4, h5⟩
  · exact .inl (by omega)
  · exact .inr ⟨b, o, h3, h4, fun j hj => by rw [h5 j (by omega)]; simp [List.getD_eq_getElem?_getD, hj]⟩
theorem sA {α : Type} {l : List α} {i : Nat} {a : α} : l.toArray.setIfInBounds i a = (l.set i a).toArray := List.setIfInBounds_toArray ..
theorem sZ {α : Type} {x : α} {xs : List α} {a : α} : (x :: xs).set 0 a = a :: xs := List.set_cons_zero
theorem sS {α : Type} {x : α} {xs : List α} {n : Nat} {a : α} : (x :: xs).set (n + 1) a = x :: xs.set n a := List.set_cons_succ
end
end Go.Proofs.YtglabahbklpocaaGreat
namespace Go.Proofs.YtglabahbklpocaaGreat
section
set_option maxRecDepth 100000
set_option linter.unusedVariables false
set_option linter.unusedSimpArgs false
/-- A number that may be. -/
def cl (x : Int) : Int := min (max x 0) 1099511627776
theorem cl_range (x : Int) : 0 ≤ cl x ∧ cl x ≤ 1099511627776 := by unfold cl; omega
theorem cl_id {x : Int} (h0 : 0 ≤ x) (h1 : x ≤ 1099511627776) : cl x = x := by unfold cl; omega
theorem cl_zero : cl 0 = 0 := by decide
/-- Without zeros at the end. -/
def trim : List Int → List Int
  | [] => []
  | x :: xs => if trim xs = [] ∧ x = 0 then [] else x :: trim xs
theorem getD_out {l : List Int} {i : Nat} (h : l.length ≤ i) : l.getD i 0 = 0 := by
  rw [List.getD_eq_getElem?_getD, List.getElem?_eq_none h]; rfl
theorem trim_getD (l : List Int) (i : Nat) : (trim l).getD i 0 = l.getD i 0 := by
  induction l generalizing i with
  | nil => rfl
  | cons x xs ih =>
    unfold trim
    by_cases h : trim xs = [] ∧ x = 0
    · rw [if_pos h]
      cases i with
      | zero => simp [h.2]
      | succ i => have := ih i; rw [h.1] at this; simpa using this
    · rw [if_neg h]
      cases i with
      | zero => rfl
      | succ i => simpa using ih i
theorem trim_length (l : List Int) : (trim l).length ≤ l.length := by
  induction l with
  | nil => simp [trim]
  | cons x xs ih =>
    unfold trim
    split
    · simp
    · simp; exact ih
theorem trim_last (l : List Int) (h : trim l ≠ []) : (trim l).getD ((trim l).length - 1) 0 ≠ 0 := by
  induction l with
  | nil => simp [trim] at h
  | cons x xs ih =>
    unfold trim at h ⊢
    by_cases hc : trim xs = [] ∧ x = 0
    · rw [if_pos hc] at h; simp at h
    · rw [if_neg hc]
      by_cases he : trim xs = []
      · simp [he]
        intro hx
        exact hc ⟨he, hx⟩
      · have := ih he
        have hl : 0 < (trim xs).length := List.length_pos_iff.2 he
        rw [show (x :: trim xs).length - 1 = ((trim xs).length - 1) + 1 by simp; omega]
        simpa using this
/-- Two lists without zeros at the end, the same at each place, are the same. -/
theorem trim_ext {l m : List Int} (h : ∀ i, l.getD i 0 = m.getD i 0) : trim l = trim m := by
  have key : ∀ l m : List Int, (∀ i, l.getD i 0 = m.getD i 0) → (trim l).length ≤ (trim m).length := by
    intro l m h
    by_cases he : trim l = []
    · simp [he]
    · have h1 := trim_last l he
      have hl : 0 < (trim l).length := List.length_pos_iff.2 he
      rw [trim_getD, h, ← trim_getD] at h1
      rcases Nat.lt_or_ge ((trim l).length - 1) (trim m).length with h2 | h2
      · omega
      · exact absurd (by rw [getD_out h2]) h1
  have hlen : (trim l).length = (trim m).length := Nat.le_antisymm (key l m h) (key m l fun i => (h i).symm)
  apply List.ext_getElem hlen
  intro i h1 h2
  have := trim_getD l i
  rw [h i, ← trim_getD m i] at this
  rw [List.getD_eq_getElem?_getD, List.getD_eq_getElem?_getD, List.getElem?_eq_getElem h1, List.getElem?_eq_getElem h2] at this
  simpa using this
theorem trim_take (l : List Int) : trim l = l.take (trim l).length := by
  induction l with
  | nil => rfl
  | cons x xs ih =>
    unfold trim
    split
    · rfl
    · simp; exact ih
/-- The vector of a number for each site. -/
def vec (f : Nat → Int) : List Int := trim ((List.range 8).map f)
theorem vec_getD (f : Nat → Int) (i : Nat) : (vec f).getD i 0 = if i < 8 then f i else 0 := by
  unfold vec
  rw [trim_getD]
  by_cases h : i < 8
  · rw [if_pos h, List.getD_eq_getElem?_getD]
    simp [h]
  · rw [if_neg h, getD_out (by simp; omega)]
theorem vec_length (f : Nat → Int) : (vec f).length ≤ 8 := by
  have := trim_length ((List.range 8).map f)
  simpa [vec] using this
theorem vec_ext {f g : Nat → Int} (h : ∀ i, i < 8 → f i = g i) : vec f = vec g := by
  unfold vec
  congr 1
  apply List.map_congr_left
  intro i hi
  exact h i (by simpa using hi)
theorem vec_inj {f g : Nat → Int} (h : vec f = vec g) : ∀ i, i < 8 → f i = g i := by
  intro i hi
  have h1 := vec_getD f i
  rw [h, vec_getD g i, if_pos hi, if_pos hi] at h1
  exact h1.symm
theorem vec_eq_iff (f g : Nat → Int) : vec f = vec g ↔ ∀ i, i < 8 → f i = g i := ⟨vec_inj, vec_ext⟩
theorem trim_vec (l : List Int) (h : l.length ≤ 8) : trim l = vec fun i => l.getD i 0 := by
  unfold vec
  apply trim_ext
  intro i
  by_cases hi : i < 8
  · simp [List.getD_eq_getElem?_getD, hi]
  · rw [getD_out (by omega), getD_out (by simp; omega)]
/-- A site's number. -/
def nm (xs : List Int) (i : Nat) : Int := cl (xs.getD i 0)
theorem nm_range (xs : List Int) (i : Nat) : 0 ≤ nm xs i ∧ nm xs i ≤ 1099511627776 := cl_range _
def pl (xs : List Int) : List Int := vec (nm xs)
theorem pl_length (xs : List Int) : (pl xs).length ≤ 8 := vec_length _
theorem pl_getD (xs : List Int) (i : Nat) : (pl xs).getD i 0 = if i < 8 then nm xs i else 0 := vec_getD _ i
theorem pl_trim (xs : List Int) : pl xs = trim ((xs.take 8).map cl) := by
  rw [trim_vec _ (by simp; omega)]
  apply vec_ext
  intro i hi
  unfold nm
  simp only [List.getD_eq_getElem?_getD, List.getElem?_map, List.getElem?_take, hi, if_true]
  cases xs[i]? <;> simp [cl_zero]
/-- A site's number, of any site. -/
def atV (xs : List Int) (i : Int) : Int := if 0 ≤ i ∧ i < 8 then nm xs i.toNat else 0
def joinV (xs ys : List Int) : List Int := vec fun i => max (nm xs i) (nm ys i)
def meetV (xs ys : List Int) : List Int := vec fun i => min (nm xs i) (nm ys i)
def covV (xs ys : List Int) : Bool := (List.range 8).all fun i => decide (nm ys i ≤ nm xs i)
theorem covV_true (xs ys : List Int) : covV xs ys = true ↔ ∀ i, i < 8 → nm ys i ≤ nm xs i := by
  simp [covV]
theorem covV_iff (xs ys : List Int) : decide (joinV xs ys = pl xs) = covV xs ys := by
  rw [Bool.eq_iff_iff, covV_true, decide_eq_true_iff]
  unfold joinV pl
  rw [vec_eq_iff]
  constructor
  · intro h i hi; have := h i hi; omega
  · intro h i hi; have := h i hi; omega
end
end Go.Proofs.YtglabahbklpocaaGreat
namespace Go.Proofs.YtglabahbklpocaaGreat
section
set_option maxRecDepth 100000
set_option linter.unusedVariables false
set_option linter.unusedSimpArgs false
def upd {α : Type} (f : Nat → α) (i : Nat) (x : α) : Nat → α := fun j => if j = i then x else f j
/-- Peers, plainly: of site i the vector v i; s i: was something sent; a i: when. -/
structure PeM where
  me : Int
  sites : Int
  every : Int
  v : Nat → List Int
  s : Nat → Bool
  a : Nat → Int
def isO (m : PeM) (i : Int) : Bool := decide (0 ≤ i) && (decide (i < m.sites) && !decide (i = m.me))
theorem isO_true {m : PeM} {i : Int} (h : isO m i = true) : 0 ≤ i ∧ i < m.sites ∧ i ≠ m.me := by
  unfold isO at h
  simp only [Bool.and_eq_true, decide_eq_true_eq, Bool.not_eq_true', decide_eq_false_iff_not] at h
  exact h
def clockP (n : Int) : Int := min (max n 0) 1125899906842624
def newP (me sites every : Int) : PeM := ⟨me, min (max sites 1) 8, max every 1, fun _ => [], fun _ => false, fun _ => 0⟩
def noteM (m : PeM) (site : Int) (v : List Int) : PeM × Bool := if isO m site = true ∧ covV (m.v site.toNat) v = false then ({ m with v := upd m.v site.toNat (joinV (m.v site.toNat) v) }, true) else (m, false)
def leastK (m : PeM) (mine : List Int) : Nat → List Int
  | 0 => joinV mine []
  | k + 1 => if isO m (k : Int) = true then meetV (leastK m mine k) (m.v k) else leastK m mine k
def leastM (m : PeM) (mine : List Int) : List Int := leastK m mine 8
def thoseK (m : PeM) (P : Nat → Bool) : Nat → List Int
  | 0 => []
  | k + 1 => if isO m (k : Int) = true ∧ P k = true then thoseK m P k ++ [(k : Int)] else thoseK m P k
def dueP (m : PeM) (t : Int) (i : Nat) : Bool := !m.s i || (decide (m.every ≤ t - m.a i) || decide (t < m.a i))
def dueM (m : PeM) (now : Int) : List Int := thoseK m (dueP m (clockP now)) 8
def sentM (m : PeM) (site now : Int) : PeM × Bool := if isO m site = true then ({ m with s := upd m.s site.toNat true, a := upd m.a site.toNat (clockP now) }, true) else (m, false)
theorem thoseK_len (m : PeM) (P : Nat → Bool) (k : Nat) : (thoseK m P k).length ≤ k := by
  induction k with
  | zero => exact Nat.le_refl _
  | succ k ih =>
    unfold thoseK
    split
    · rw [List.length_append]; simp; omega
    · omega
end
end Go.Proofs.YtglabahbklpocaaGreat
namespace Go.Proofs.YtglabahbklpocaaGreat
section
open Go.RowKit
set_option maxRecDepth 100000
set_option linter.unusedVariables false
set_option linter.unusedSimpArgs false
set_option maxHeartbeats 400000 in
theorem put_any (n : Int) (w : World) (h0 : 0 ≤ n) (h1 : n < 18446744073709551616) :
    Calls Tryz.prog 99 #[.int .u64 n] w fun e w' => e = .returned (.string (vput n)) ∧ Below w.heap.size w w' := by
  go_enter Tryz.func99, Tryz.ntmps99
  go_wp2
  go_loopw [0, 4] (fun n' k wr => ∃ (m : Int) (i : Nat) (l : List Int), l.length = 10 ∧ 0 ≤ m ∧ m < 18446744073709551616 ∧ m < 128 ^ (9 - i) * 2 ∧ n' = .int .u64 m ∧ k = .int .i64 i ∧ i ≤ 9 ∧ wr = w.alloc (.cells (arrB l) 153) ∧ l.take i ++ putI (9 - i) m = putI 9 n) (fun n _ _ => (intOf n).toNat)
  case atStart => 
    exact ⟨n, 0, List.replicate 10 0, rfl, h0, h1, by simpa using h1, rfl, rfl, by omega, rfl, rfl⟩
  case round =>
    obtain ⟨m, i, l, hl, hm0, hm1, hm2, rfl, rfl, hi, hwr, hp⟩ := hrel
    subst hwr
    have HP := Lib.hid hp
    clear hp
    have hc := arrB_get l i (by omega)
    have hst := arrB_set l i
    by_cases hlt : m < 128
    · have hsl := sliceAt_to (P := Tryz.prog) (T := 153) Tryz.underlying153 (sz := 1) (fun _ => by kernel_rfl) ⟨w.heap.size, 0, none⟩ (↑i + 1) (i + 1) (by omega) (by omega)
      have hcv := run_convert_bytes_arg (P := Tryz.prog) (w.alloc (.cells (arrB (l.set i m)) 153)) 130 5 Tryz.underlying130 Tryz.underlying5 w.heap.size 0 (i + 1) 10 ((l.set i m).take (i + 1)) (by simp; omega) (fun j hj => by
        rw [World.cell?_alloc_new, Nat.zero_add, arrB_get _ _ (by simp; omega)]
        simp [List.getD_eq_getElem?_getD, hj]) 9 Tryz.underlying9
      go_wp2
      go_ret
      refine ⟨ret_str ?_, (Below.refl _ _).alloc (Nat.le_refl _) _⟩
      unfold vput
      rw [take_set_snoc l i m (by omega), ← HP.out]
      cases hq : 9 - i with
      | zero => rfl
      | succ f => simp [putI, hlt]
    · have hi9 : i < 9 := by
        rcases Nat.lt_or_ge i 9 with h | h
        · exact h
        · have : i = 9 := by omega
          subst this
          simp at hm2
          omega
      have hor := u8_or_128 (m % 256) (by omega) (by omega)
      have h128 : m % 256 % 128 = m % 128 := by omega
      have hq : 9 - i = (9 - (i + 1)) + 1 := by omega
      have HQ := Lib.hid hq
      clear hq
      go_wp2
      go_roundw
      case rel =>
        refine ⟨m / 128, i + 1, l.set i (m % 128 + 128), by simpa using hl, by omega, by omega, ?_, rfl, by go_num, by omega, rfl, ?_⟩
        · rw [HQ.out, Int.pow_succ] at hm2
          exact Int.ediv_lt_of_lt_mul (by omega) (by omega)
        · rw [take_set_snoc l i _ (by omega), ← HP.out, HQ.out]
          simp [putI, hlt]
      case measure => simp [intOf]; omega
end
end Go.Proofs.YtglabahbklpocaaGreat
