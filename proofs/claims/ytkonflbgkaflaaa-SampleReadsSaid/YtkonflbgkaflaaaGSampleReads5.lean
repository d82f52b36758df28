/- slices.Clone and slices.Equal at []int, off the shelf (the layings are what the kit's tool writes, in plain words). Plain law: a list of numbers as a vector of 8 sites. -/
import Derived.Test.YtkonflbgkaflaaaGSampleReads1
import Derived.Shelf.Slices.Clone
import Derived.Shelf.Slices.Equal
import Derived.Shelf.Slices.Empties2
namespace Go.Proofs.Ytkonflbgkaflaaa
section
open Go.RowKit Go.Shelf Go.Lib
set_option maxRecDepth 100000
set_option linter.unusedVariables false
set_option linter.unusedSimpArgs false
def laysC_ren : Go.Shelf.Ren := ⟨fun | 15 => 91 | n => n, fun | 22 => 24 | 3 => 3 | 4 => 4 | n => n, fun | n => n⟩
theorem laysC : Go.Proofs.Lays2.n15 Try.prog laysC_ren := {
  mixed := by kernel_rfl
  f15 := Try.func91.trans (congrArg some (by kernel_rfl))
  t3 := Try.underlying3
  a3 := Try.isAgg3
  z3 := Try.sizeOf3
  v3 := Try.zeroValue3
  t4 := Try.underlying4
  a4 := Try.isAgg4
  z4 := Try.sizeOf4
  v4 := Try.zeroValue4
  t22 := Try.underlying24
  a22 := Try.isAgg24
  z22 := Try.sizeOf24
  v22 := Try.zeroValue24
  i3 := by kernel_rfl }
def laysE_ren : Go.Shelf.Ren := ⟨fun | 111 => 81 | n => n, fun | 28 => 24 | 3 => 3 | 4 => 4 | 0 => 0 | n => n, fun | n => n⟩
theorem laysE : Go.Proofs.Lays.n111 Try.prog laysE_ren := {
  mixed := by kernel_rfl
  f111 := Try.func81.trans (congrArg some (by kernel_rfl))
  t0 := Try.underlying0
  a0 := Try.isAgg0
  z0 := Try.sizeOf0
  v0 := Try.zeroValue0
  t3 := Try.underlying3
  a3 := Try.isAgg3
  z3 := Try.sizeOf3
  v3 := Try.zeroValue3
  t4 := Try.underlying4
  a4 := Try.isAgg4
  z4 := Try.sizeOf4
  v4 := Try.zeroValue4
  t28 := Try.underlying24
  a28 := Try.isAgg24
  z28 := Try.sizeOf24
  v28 := Try.zeroValue24 }
theorem clone_any (a : Option Addr) (n c : Nat) (xs : List Int) (w : World) (h : ReadsI .i64 w a n xs) (hn : n ≤ 1000) :
    Calls Try.prog 91 #[.slice a n c] w fun e w' => ∃ v', e = .returned v' ∧ w'.ownsRow w.heap.size 3 1 v' n (xs.map (Value.int .i64)) ∧ Below w.heap.size w w' := by
  obtain ⟨h1, h2⟩ := h
  cases a with
  | none =>
    have h0 : n = 0 := by
      rcases h2 with h2 | ⟨b, o, h2, _⟩
      · exact h2
      · simp at h2
    subst h0
    obtain rfl : xs = [] := List.eq_nil_of_length_eq_zero h1
    exact (Any.slices_Clone_int_nil laysC 0 c w).mono fun e w' ⟨h3, h4⟩ => ⟨_, h3, by subst h4; exact World.ownsRow_nil _ _ _ _, by subst h4; exact Below.refl _ _⟩
  | some a =>
    rcases h2 with h2 | ⟨b, o, h2, h3, h4⟩
    · subst h2
      obtain rfl : xs = [] := List.eq_nil_of_length_eq_zero h1
      exact (Any.slices_Clone_int_zero laysC a c w).mono fun e w' ⟨v', h3, h4, _, h5⟩ => ⟨v', h3, h4, h5⟩
    · obtain rfl : a = ⟨b, o, none⟩ := by simpa using h2
      refine (Any.slices_Clone_int laysC b o n c xs w (by omega) (by omega) (fun j hj => h4 j (by omega))).mono fun e w' ⟨v', h3, h5, _, h6⟩ => ⟨v', h3, ?_, h6⟩
      rw [List.take_of_length_le (by omega)] at h5
      exact h5
theorem equal_any (a1 a2 : Option Addr) (n1 n2 c1 c2 : Nat) (xs ys : List Int) (w : World) (h1 : ReadsI .i64 w a1 n1 xs) (h2 : ReadsI .i64 w a2 n2 ys) (hn1 : n1 ≤ 9223372036854775807) (hn2 : n2 ≤ 9223372036854775807) :
    Calls Try.prog 81 #[.slice a1 n1 c1, .slice a2 n2 c2] w fun e w' => e = .returned (.bool (decide (xs = ys))) ∧ Below w.heap.size w w' := by
  obtain ⟨l1, r1⟩ := h1
  obtain ⟨l2, r2⟩ := h2
  by_cases hne : n1 = n2
  · subst hne
    rcases Nat.eq_zero_or_pos n1 with h0 | hp
    · subst h0
      obtain rfl : xs = [] := List.eq_nil_of_length_eq_zero l1
      obtain rfl : ys = [] := List.eq_nil_of_length_eq_zero l2
      exact (Any.slices_Equal_int_empty laysE a1 a2 c1 0 c2 w hn2).mono fun e w' ⟨h3, h4⟩ => ⟨h3, by subst h4; exact Below.refl _ _⟩
    · obtain ⟨b1, o1, rfl, _, hc1⟩ := r1.resolve_left (by omega)
      obtain ⟨b2, o2, rfl, _, hc2⟩ := r2.resolve_left (by omega)
      refine (Any.slices_Equal_int laysE b1 o1 n1 c1 b2 o2 n1 c2 xs ys w (by omega) (by omega) hn1 hn2 (fun j hj => hc1 j (by omega)) (fun j hj => hc2 j (by omega))).mono fun e w' ⟨h3, q, h4⟩ => ⟨?_, ?_⟩
      · rw [h3, List.take_of_length_le (by omega), List.take_of_length_le (by omega)]
        congr 2
        by_cases hxy : xs = ys <;> simp [hxy]
      · subst h4; exact ⟨rfl, rfl, rfl, Nat.le_refl _, fun _ _ => rfl⟩
  · refine (Any.slices_Equal_int_lens laysE a1 a2 n1 c1 n2 c2 w hne).mono fun e w' ⟨h3, h4⟩ => ⟨?_, by subst h4; exact Below.refl _ _⟩
    rw [h3, decide_eq_false (fun h => hne (by rw [← l1, ← l2, h]))]
end
end Go.Proofs.Ytkonflbgkaflaaa
namespace Go.Proofs.Ytkonflbgkaflaaa
section
set_option maxRecDepth 100000
set_option linter.unusedVariables false
set_option linter.unusedSimpArgs false
/-- A number that may be. -/
def cl (x : Int) : Int := min (max x 0) 1099511627776
theorem cl_range (x : Int) : 0 ≤ cl x ∧ cl x ≤ 1099511627776 := by unfold cl; omega
theorem cl_id {x : Int} (h0 : 0 ≤ x) (h1 : x ≤ 1099511627776) : cl x = x := by unfold cl; omega
theorem cl_zero : cl 0 = 0 := by decide
/-- Without zeros at the end. -/
def trim : List Int → List Int
  | [] => []
  | x :: xs => if trim xs = [] ∧ x = 0 then [] else x :: trim xs
theorem getD_out {l : List Int} {i : Nat} (h : l.length ≤ i) : l.getD i 0 = 0 := by
  rw [List.getD_eq_getElem?_getD, List.getElem?_eq_none h]; rfl
theorem trim_getD (l : List Int) (i : Nat) : (trim l).getD i 0 = l.getD i 0 := by
  induction l generalizing i with
  | nil => rfl
  | cons x xs ih =>
    unfold trim
    by_cases h : trim xs = [] ∧ x = 0
    · rw [if_pos h]
      cases i with
      | zero => simp [h.2]
      | succ i => have := ih i; rw [h.1] at this; simpa using this
    · rw [if_neg h]
      cases i with
      | zero => rfl
      | succ i => simpa using ih i
theorem trim_length (l : List Int) : (trim l).length ≤ l.length := by
  induction l with
  | nil => simp [trim]
  | cons x xs ih =>
    unfold trim
    split
    · simp
    · simp; exact ih
theorem trim_last (l : List Int) (h : trim l ≠ []) : (trim l).getD ((trim l).length - 1) 0 ≠ 0 := by
  induction l with
  | nil => simp [trim] at h
  | cons x xs ih =>
    unfold trim at h ⊢
    by_cases hc : trim xs = [] ∧ x = 0
    · rw [if_pos hc] at h; simp at h
    · rw [if_neg hc]
      by_cases he : trim xs = []
      · simp [he]
        intro hx
        exact hc ⟨he, hx⟩
      · have := ih he
        have hl : 0 < (trim xs).length := List.length_pos_iff.2 he
        rw [show (x :: trim xs).length - 1 = ((trim xs).length - 1) + 1 by simp; omega]
        simpa using this
/-- Two lists without zeros at the end, the same at each place, are the same. -/
theorem trim_ext {l m : List Int} (h : ∀ i, l.getD i 0 = m.getD i 0) : trim l = trim m := by
  have key : ∀ l m : List Int, (∀ i, l.getD i 0 = m.getD i 0) → (trim l).length ≤ (trim m).length := by
    intro l m h
    by_cases he : trim l = []
    · simp [he]
    · have h1 := trim_last l he
      have hl : 0 < (trim l).length := List.length_pos_iff.2 he
      rw [trim_getD, h, ← trim_getD] at h1
      rcases Nat.lt_or_ge ((trim l).length - 1) (trim m).length with h2 | h2
      · omega
      · exact absurd (by rw [getD_out h2]) h1
  have hlen : (trim l).length = (trim m).length := Nat.le_antisymm (key l m h) (key m l fun i => (h i).symm)
  apply List.ext_getElem hlen
  intro i h1 h2
  have := trim_getD l i
  rw [h i, ← trim_getD m i] at this
  rw [List.getD_eq_getElem?_getD, List.getD_eq_getElem?_getD, List.getElem?_eq_getElem h1, List.getElem?_eq_getElem h2] at this
  simpa using this
theorem trim_take (l : List Int) : trim l = l.take (trim l).length := by
  induction l with
  | nil => rfl
  | cons x xs ih =>
    unfold trim
    split
    · rfl
    · simp; exact ih
/-- The vector of a number for each site. -/
def vec (f : Nat → Int) : List Int := trim ((List.range 8).map f)
theorem vec_getD (f : Nat → Int) (i : Nat) : (vec f).getD i 0 = if i < 8 then f i else 0 := by
  unfold vec
  rw [trim_getD]
  by_cases h : i < 8
  · rw [if_pos h, List.getD_eq_getElem?_getD]
    simp [h]
  · rw [if_neg h, getD_out (by simp; omega)]
theorem vec_length (f : Nat → Int) : (vec f).length ≤ 8 := by
  have := trim_length ((List.range 8).map f)
  simpa [vec] using this
theorem vec_ext {f g : Nat → Int} (h : ∀ i, i < 8 → f i = g i) : vec f = vec g := by
  unfold vec
  congr 1
  apply List.map_congr_left
  intro i hi
  exact h i (by simpa using hi)
theorem vec_inj {f g : Nat → Int} (h : vec f = vec g) : ∀ i, i < 8 → f i = g i := by
  intro i hi
  have h1 := vec_getD f i
  rw [h, vec_getD g i, if_pos hi, if_pos hi] at h1
  exact h1.symm
theorem vec_eq_iff (f g : Nat → Int) : vec f = vec g ↔ ∀ i, i < 8 → f i = g i := ⟨vec_inj, vec_ext⟩
theorem trim_vec (l : List Int) (h : l.length ≤ 8) : trim l = vec fun i => l.getD i 0 := by
  unfold vec
  apply trim_ext
  intro i
  by_cases hi : i < 8
  · simp [List.getD_eq_getElem?_getD, hi]
  · rw [getD_out (by omega), getD_out (by simp; omega)]
/-- A site's number. -/
def nm (xs : List Int) (i : Nat) : Int := cl (xs.getD i 0)
theorem nm_range (xs : List Int) (i : Nat) : 0 ≤ nm xs i ∧ nm xs i ≤ 1099511627776 := cl_range _
def pl (xs : List Int) : List Int := vec (nm xs)
theorem pl_length (xs : List Int) : (pl xs).length ≤ 8 := vec_length _
theorem nm_vec (f : Nat → Int) (h : ∀ i, i < 8 → 0 ≤ f i ∧ f i ≤ 1099511627776) (i : Nat) (hi : i < 8) : nm (vec f) i = f i := by
  unfold nm
  rw [vec_getD, if_pos hi]
  exact cl_id (h i hi).1 (h i hi).2
theorem pl_vec (f : Nat → Int) (h : ∀ i, i < 8 → 0 ≤ f i ∧ f i ≤ 1099511627776) : pl (vec f) = vec f := vec_ext fun i hi => nm_vec f h i hi
theorem pl_pl (xs : List Int) : pl (pl xs) = pl xs := pl_vec _ fun i _ => nm_range xs i
theorem nm_pl (xs : List Int) (i : Nat) (hi : i < 8) : nm (pl xs) i = nm xs i := nm_vec _ (fun i _ => nm_range xs i) i hi
theorem pl_getD (xs : List Int) (i : Nat) : (pl xs).getD i 0 = if i < 8 then nm xs i else 0 := vec_getD _ i
theorem pl_trim (xs : List Int) : pl xs = trim ((xs.take 8).map cl) := by
  rw [trim_vec _ (by simp; omega)]
  apply vec_ext
  intro i hi
  unfold nm
  simp only [List.getD_eq_getElem?_getD, List.getElem?_map, List.getElem?_take, hi, if_true]
  cases xs[i]? <;> simp [cl_zero]
/-- A site's number, of any site. -/
def atV (xs : List Int) (i : Int) : Int := if 0 ≤ i ∧ i < 8 then nm xs i.toNat else 0
def joinV (xs ys : List Int) : List Int := vec fun i => max (nm xs i) (nm ys i)
def meetV (xs ys : List Int) : List Int := vec fun i => min (nm xs i) (nm ys i)
def covV (xs ys : List Int) : Bool := (List.range 8).all fun i => decide (nm ys i ≤ nm xs i)
theorem covV_true (xs ys : List Int) : covV xs ys = true ↔ ∀ i, i < 8 → nm ys i ≤ nm xs i := by
  simp [covV]
theorem covV_iff (xs ys : List Int) : decide (joinV xs ys = pl xs) = covV xs ys := by
  rw [Bool.eq_iff_iff, covV_true, decide_eq_true_iff]
  unfold joinV pl
  rw [vec_eq_iff]
  constructor
  · intro h i hi; have := h i hi; omega
  · intro h i hi; have := h i hi; omega
theorem nm_join (xs ys : List Int) (i : Nat) (hi : i < 8) : nm (joinV xs ys) i = max (nm xs i) (nm ys i) := nm_vec _ (fun i _ => by have := nm_range xs i; have := nm_range ys i; omega) i hi
theorem nm_meet (xs ys : List Int) (i : Nat) (hi : i < 8) : nm (meetV xs ys) i = min (nm xs i) (nm ys i) := nm_vec _ (fun i _ => by have := nm_range xs i; have := nm_range ys i; omega) i hi
theorem pl_join (xs ys : List Int) : pl (joinV xs ys) = joinV xs ys := pl_vec _ fun i _ => by have := nm_range xs i; have := nm_range ys i; omega
theorem pl_meet (xs ys : List Int) : pl (meetV xs ys) = meetV xs ys := pl_vec _ fun i _ => by have := nm_range xs i; have := nm_range ys i; omega
def withV (xs : List Int) (site n : Int) : List Int := vec fun i => if (i : Int) = site then cl n else nm xs i
def cmpV (xs ys : List Int) : Int := if covV xs ys = true then (if covV ys xs = true then 0 else 1) else (if covV ys xs = true then -1 else 2)
end
end Go.Proofs.Ytkonflbgkaflaaa
