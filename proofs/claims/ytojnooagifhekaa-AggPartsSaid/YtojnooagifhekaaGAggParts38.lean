/- slices.Clone and slices.Equal at []int, off the shelf (the layings are what the kit's tool writes, in plain words). Plain law: a list of numbers as a vector of 8 sites. mark.plain: the vector of a list. The vectors of the package mark: At, each, Join, Meet, Covers, Compare, Right. mark.each with the inner function of mark.Join. (Printed by wip/meach.py.) mark.each with the inner function of mark.Meet. (Printed by wip/meach.py.) -/
import Derived.Test.YtojnooagifhekaaGAggParts1
import Derived.Shelf.Slices.Clone
import Derived.Shelf.Slices.Equal
import Derived.Shelf.Slices.Empties2
import Derived.Deep.DeepCutAuto
import Derived.Deep.CutBlock
import Derived.Deep.AppendLies
namespace Go.Proofs.Ytojnooagifhekaa
section
open Go.RowKit Go.Shelf Go.Lib
set_option maxRecDepth 100000
set_option linter.unusedVariables false
set_option linter.unusedSimpArgs false
end
end Go.Proofs.Ytojnooagifhekaa
namespace Go.Proofs.Ytojnooagifhekaa
section
set_option maxRecDepth 100000
set_option linter.unusedVariables false
set_option linter.unusedSimpArgs false
/-- A number that may be. -/
def cl (x : Int) : Int := min (max x 0) 1099511627776
theorem cl_range (x : Int) : 0 ≤ cl x ∧ cl x ≤ 1099511627776 := by unfold cl; omega
theorem cl_id {x : Int} (h0 : 0 ≤ x) (h1 : x ≤ 1099511627776) : cl x = x := by unfold cl; omega
theorem cl_zero : cl 0 = 0 := by decide
/-- Without zeros at the end. -/
def trim : List Int → List Int
  | [] => []
  | x :: xs => if trim xs = [] ∧ x = 0 then [] else x :: trim xs
theorem getD_out {l : List Int} {i : Nat} (h : l.length ≤ i) : l.getD i 0 = 0 := by
  rw [List.getD_eq_getElem?_getD, List.getElem?_eq_none h]; rfl
theorem trim_getD (l : List Int) (i : Nat) : (trim l).getD i 0 = l.getD i 0 := by
  induction l generalizing i with
  | nil => rfl
  | cons x xs ih =>
    unfold trim
    by_cases h : trim xs = [] ∧ x = 0
    · rw [if_pos h]
      cases i with
      | zero => simp [h.2]
      | succ i => have := ih i; rw [h.1] at this; simpa using this
    · rw [if_neg h]
      cases i with
      | zero => rfl
      | succ i => simpa using ih i
theorem trim_length (l : List Int) : (trim l).length ≤ l.length := by
  induction l with
  | nil => simp [trim]
  | cons x xs ih =>
    unfold trim
    split
    · simp
    · simp; exact ih
theorem trim_last (l : List Int) (h : trim l ≠ []) : (trim l).getD ((trim l).length - 1) 0 ≠ 0 := by
  induction l with
  | nil => simp [trim] at h
  | cons x xs ih =>
    unfold trim at h ⊢
    by_cases hc : trim xs = [] ∧ x = 0
    · rw [if_pos hc] at h; simp at h
    · rw [if_neg hc]
      by_cases he : trim xs = []
      · simp [he]
        intro hx
        exact hc ⟨he, hx⟩
      · have := ih he
        have hl : 0 < (trim xs).length := List.length_pos_iff.2 he
        rw [show (x :: trim xs).length - 1 = ((trim xs).length - 1) + 1 by simp; omega]
        simpa using this
/-- Two lists without zeros at the end, the same at each place, are the same. -/
theorem trim_ext {l m : List Int} (h : ∀ i, l.getD i 0 = m.getD i 0) : trim l = trim m := by
  have key : ∀ l m : List Int, (∀ i, l.getD i 0 = m.getD i 0) → (trim l).length ≤ (trim m).length := by
    intro l m h
    by_cases he : trim l = []
    · simp [he]
    · have h1 := trim_last l he
      have hl : 0 < (trim l).length := List.length_pos_iff.2 he
      rw [trim_getD, h, ← trim_getD] at h1
      rcases Nat.lt_or_ge ((trim l).length - 1) (trim m).length with h2 | h2
      · omega
      · exact absurd (by rw [getD_out h2]) h1
  have hlen : (trim l).length = (trim m).length := Nat.le_antisymm (key l m h) (key m l fun i => (h i).symm)
  apply List.ext_getElem hlen
  intro i h1 h2
  have := trim_getD l i
  rw [h i, ← trim_getD m i] at this
  rw [List.getD_eq_getElem?_getD, List.getD_eq_getElem?_getD, List.getElem?_eq_getElem h1, List.getElem?_eq_getElem h2] at this
  simpa using this
theorem trim_take (l : List Int) : trim l = l.take (trim l).length := by
  induction l with
  | nil => rfl
  | cons x xs ih =>
    unfold trim
    split
    · rfl
    · simp; exact ih
/-- The vector of a number for each site. -/
def vec (f : Nat → Int) : List Int := trim ((List.range 8).map f)
theorem vec_getD (f : Nat → Int) (i : Nat) : (vec f).getD i 0 = if i < 8 then f i else 0 := by
  unfold vec
  rw [trim_getD]
  by_cases h : i < 8
  · rw [if_pos h, List.getD_eq_getElem?_getD]
    simp [h]
  · rw [if_neg h, getD_out (by simp; omega)]
theorem vec_length (f : Nat → Int) : (vec f).length ≤ 8 := by
  have := trim_length ((List.range 8).map f)
  simpa [vec] using this
theorem vec_ext {f g : Nat → Int} (h : ∀ i, i < 8 → f i = g i) : vec f = vec g := by
  unfold vec
  congr 1
  apply List.map_congr_left
  intro i hi
  exact h i (by simpa using hi)
theorem vec_inj {f g : Nat → Int} (h : vec f = vec g) : ∀ i, i < 8 → f i = g i := by
  intro i hi
  have h1 := vec_getD f i
  rw [h, vec_getD g i, if_pos hi, if_pos hi] at h1
  exact h1.symm
theorem vec_eq_iff (f g : Nat → Int) : vec f = vec g ↔ ∀ i, i < 8 → f i = g i := ⟨vec_inj, vec_ext⟩
theorem trim_vec (l : List Int) (h : l.length ≤ 8) : trim l = vec fun i => l.getD i 0 := by
  unfold vec
  apply trim_ext
  intro i
  by_cases hi : i < 8
  · simp [List.getD_eq_getElem?_getD, hi]
  · rw [getD_out (by omega), getD_out (by simp; omega)]
/-- A site's number. -/
def nm (xs : List Int) (i : Nat) : Int := cl (xs.getD i 0)
theorem nm_range (xs : List Int) (i : Nat) : 0 ≤ nm xs i ∧ nm xs i ≤ 1099511627776 := cl_range _
def pl (xs : List Int) : List Int := vec (nm xs)
theorem pl_length (xs : List Int) : (pl xs).length ≤ 8 := vec_length _
theorem nm_vec (f : Nat → Int) (h : ∀ i, i < 8 → 0 ≤ f i ∧ f i ≤ 1099511627776) (i : Nat) (hi : i < 8) : nm (vec f) i = f i := by
  unfold nm
  rw [vec_getD, if_pos hi]
  exact cl_id (h i hi).1 (h i hi).2
theorem pl_vec (f : Nat → Int) (h : ∀ i, i < 8 → 0 ≤ f i ∧ f i ≤ 1099511627776) : pl (vec f) = vec f := vec_ext fun i hi => nm_vec f h i hi
theorem pl_pl (xs : List Int) : pl (pl xs) = pl xs := pl_vec _ fun i _ => nm_range xs i
theorem nm_pl (xs : List Int) (i : Nat) (hi : i < 8) : nm (pl xs) i = nm xs i := nm_vec _ (fun i _ => nm_range xs i) i hi
theorem pl_getD (xs : List Int) (i : Nat) : (pl xs).getD i 0 = if i < 8 then nm xs i else 0 := vec_getD _ i
theorem pl_trim (xs : List Int) : pl xs = trim ((xs.take 8).map cl) := by
  rw [trim_vec _ (by simp; omega)]
  apply vec_ext
  intro i hi
  unfold nm
  simp only [List.getD_eq_getElem?_getD, List.getElem?_map, List.getElem?_take, hi, if_true]
  cases xs[i]? <;> simp [cl_zero]
/-- A site's number, of any site. -/
def atV (xs : List Int) (i : Int) : Int := if 0 ≤ i ∧ i < 8 then nm xs i.toNat else 0
def joinV (xs ys : List Int) : List Int := vec fun i => max (nm xs i) (nm ys i)
def meetV (xs ys : List Int) : List Int := vec fun i => min (nm xs i) (nm ys i)
def covV (xs ys : List Int) : Bool := (List.range 8).all fun i => decide (nm ys i ≤ nm xs i)
theorem covV_true (xs ys : List Int) : covV xs ys = true ↔ ∀ i, i < 8 → nm ys i ≤ nm xs i := by
  simp [covV]
theorem covV_iff (xs ys : List Int) : decide (joinV xs ys = pl xs) = covV xs ys := by
  rw [Bool.eq_iff_iff, covV_true, decide_eq_true_iff]
  unfold joinV pl
  rw [vec_eq_iff]
  constructor
  · intro h i hi; have := h i hi; omega
  · intro h i hi; have := h i hi; omega
theorem nm_join (xs ys : List Int) (i : Nat) (hi : i < 8) : nm (joinV xs ys) i = max (nm xs i) (nm ys i) := nm_vec _ (fun i _ => by have := nm_range xs i; have := nm_range ys i; omega) i hi
theorem nm_meet (xs ys : List Int) (i : Nat) (hi : i < 8) : nm (meetV xs ys) i = min (nm xs i) (nm ys i) := nm_vec _ (fun i _ => by have := nm_range xs i; have := nm_range ys i; omega) i hi
theorem pl_join (xs ys : List Int) : pl (joinV xs ys) = joinV xs ys := pl_vec _ fun i _ => by have := nm_range xs i; have := nm_range ys i; omega
theorem pl_meet (xs ys : List Int) : pl (meetV xs ys) = meetV xs ys := pl_vec _ fun i _ => by have := nm_range xs i; have := nm_range ys i; omega
def withV (xs : List Int) (site n : Int) : List Int := vec fun i => if (i : Int) = site then cl n else nm xs i
def cmpV (xs ys : List Int) : Int := if covV xs ys = true then (if covV ys xs = true then 0 else 1) else (if covV ys xs = true then -1 else 2)
end
end Go.Proofs.Ytojnooagifhekaa
namespace Go.Proofs.Ytojnooagifhekaa
section
open Go.RowKit
set_option maxRecDepth 100000
set_option linter.unusedVariables false
set_option linter.unusedSimpArgs false
/-- The list l lies at a, in memory from B on. -/
structure VecAt (w : World) (B : Nat) (a : Option Addr) (l : List Int) : Prop where
  reads : ReadsI .i64 w a l.length l
  own : l = [] ∨ ∃ g, a = some ⟨g, 0, none⟩ ∧ B ≤ g ∧ g < w.heap.size ∧ ∀ j, w.frozen? ⟨g, j, none⟩ = false
theorem VecAt.nil (w : World) (B : Nat) (a : Option Addr) : VecAt w B a [] := ⟨⟨rfl, .inl rfl⟩, .inl rfl⟩
def mixed (ys : List Int) (k : Nat) : List Int := (ys.take k).map cl ++ ys.drop k
theorem mixed_set (ys : List Int) (k : Nat) (h : k < ys.length) : (mixed ys k).set k (cl (ys.getD k 0)) = mixed ys (k + 1) := by
  unfold mixed
  apply List.ext_getElem?
  intro i
  rw [List.getElem?_set]
  simp only [List.getElem?_append, List.length_map, List.length_take, List.getElem?_map, List.getElem?_take, List.getElem?_drop, List.length_append, List.length_drop]
  rcases Nat.lt_trichotomy i k with h1 | h1 | h1
  · rw [if_neg (by omega), if_pos (by omega), if_pos (by omega), if_pos (by omega), if_pos (by omega)]
  · subst h1
    rw [if_pos rfl, if_pos (by omega), if_pos (by omega), if_pos (by omega)]
    simp [List.getD_eq_getElem?_getD, List.getElem?_eq_getElem h]
  · rw [if_neg (by omega), if_neg (by omega), if_neg (by omega)]
    congr 1
    omega
theorem mixed_get (ys : List Int) (k : Nat) (h : k < ys.length) : (mixed ys k)[k]? = some (ys.getD k 0) := by
  unfold mixed
  simp only [List.getElem?_append, List.length_map, List.length_take, List.getElem?_drop]
  rw [if_neg (by omega), List.getD_eq_getElem?_getD]
  simp [show min k ys.length = k by omega, List.getElem?_eq_getElem h]
theorem mixed_all (ys : List Int) : mixed ys ys.length = ys.map cl := by simp [mixed]
theorem mixed_zero (ys : List Int) : mixed ys 0 = ys := by simp [mixed]
theorem mixed_length (ys : List Int) (k : Nat) : (mixed ys k).length = ys.length := by simp [mixed]; omega
theorem trim_cut (l : List Int) (k : Nat) (hk : k + 1 ≤ l.length) (h0 : l.getD k 0 = 0) : trim (l.take (k + 1)) = trim (l.take k) := by
  apply trim_ext
  intro i
  simp only [List.getD_eq_getElem?_getD, List.getElem?_take]
  rcases Nat.lt_trichotomy i k with h1 | h1 | h1
  · rw [if_pos (by omega), if_pos h1]
  · subst h1
    rw [if_pos (by omega), if_neg (by omega)]
    rw [List.getD_eq_getElem?_getD] at h0
    simpa using h0
  · rw [if_neg (by omega), if_neg (by omega)]
theorem trim_full (l : List Int) (h : l = [] ∨ l.getD (l.length - 1) 0 ≠ 0) : trim l = l := by
  rw [trim_take]
  apply List.take_of_length_le
  rcases h with rfl | h
  · simp
  · rw [← trim_getD] at h
    rcases Nat.lt_or_ge (l.length - 1) (trim l).length with h1 | h1
    · omega
    · exact absurd (getD_out h1) h
end
end Go.Proofs.Ytojnooagifhekaa
namespace Go.Proofs.Ytojnooagifhekaa
section
open Go.RowKit
set_option maxRecDepth 100000
set_option linter.unusedVariables false
set_option linter.unusedSimpArgs false
theorem atV_pl (xs : List Int) (i : Int) : atV xs i = if 0 ≤ i then (pl xs).getD i.toNat 0 else 0 := by
  unfold atV
  by_cases h0 : 0 ≤ i
  · rw [if_pos h0, pl_getD]
    by_cases h8 : i < 8
    · rw [if_pos ⟨h0, h8⟩, if_pos (by omega)]
    · rw [if_neg (by omega), if_neg (by omega)]
  · rw [if_neg h0, if_neg (by omega)]
theorem VecAt.cell {w : World} {B : Nat} {a : Option Addr} {l : List Int} (h : VecAt w B a l) (i : Nat) (hi : i < l.length) : ∃ g, a = some ⟨g, 0, none⟩ ∧ B ≤ g ∧ g < w.heap.size ∧ w.cell? ⟨g, i, none⟩ = some (.int .i64 (l.getD i 0)) ∧ w.frozen? ⟨g, i, none⟩ = false := by
  obtain ⟨g, rfl, h1, h2, h3⟩ := h.own.resolve_left (by intro h'; subst h'; simp at hi)
  obtain ⟨b, o, h4, h5, h6⟩ := h.reads.2.resolve_left (by omega)
  simp only [Option.some.injEq, Addr.mk.injEq, and_true] at h4
  obtain ⟨rfl, rfl⟩ := h4
  exact ⟨g, rfl, h1, h2, by simpa using h6 i hi, h3 i⟩
def arrI (l : List Int) : Array Value := (l.map (Value.int .i64)).toArray
theorem arrI_get (l : List Int) (i : Nat) (h : i < l.length) : (arrI l)[i]? = some (.int .i64 (l.getD i 0)) := by
  simp [arrI, h]
theorem arrI_set (l : List Int) (i : Nat) (v : Int) : (arrI l).setIfInBounds i (.int .i64 v) = arrI (l.set i v) := by
  simp [arrI, List.map_set]
/-- The block g is an array of the numbers l. -/
def ArrAt (w : World) (T : TypeId) (g : Nat) (l : List Int) : Prop := w.heap[g]? = some (.cells (arrI l) T (0, 0))
theorem ArrAt.lt {T : TypeId} {w : World} {g : Nat} {l : List Int} (h : ArrAt w T g l) : g < w.heap.size := by
  unfold ArrAt at h
  rcases Nat.lt_or_ge g w.heap.size with h' | h'
  · exact h'
  · simp [Array.getElem?_eq_none h'] at h
theorem ArrAt.cell {T : TypeId} {w : World} {g : Nat} {l : List Int} (h : ArrAt w T g l) (i : Nat) (hi : i < l.length) : w.cell? ⟨g, i, none⟩ = some (.int .i64 (l.getD i 0)) := by
  simp only [World.cell?, show w.heap[g]? = _ from h]
  exact arrI_get l i hi
theorem ArrAt.fz {T : TypeId} {w : World} {g : Nat} {l : List Int} (h : ArrAt w T g l) (j : Nat) : w.frozen? ⟨g, j, none⟩ = false := by simp [World.frozen?, show w.heap[g]? = _ from h]
theorem ArrAt.set {T : TypeId} {w : World} {g : Nat} {l : List Int} (h : ArrAt w T g l) (i : Nat) (v : Int) : ArrAt (w.setCell ⟨g, i, none⟩ (.int .i64 v)) T g (l.set i v) := by
  unfold ArrAt at *
  simp [World.setCell, Array.getElem?_modify, h, arrI_set]
theorem ArrAt.below {T : TypeId} {w w' : World} {g : Nat} {l : List Int} (h : ArrAt w T g l) (hb : Below w.heap.size w w') : ArrAt w' T g l := (hb.block g h.lt).trans h
theorem ArrAt.reads {T : TypeId} {w : World} {g : Nat} {l : List Int} (h : ArrAt w T g l) : ReadsI .i64 w (some ⟨g, 0, none⟩) l.length l :=
  ⟨rfl, .inr ⟨g, 0, rfl, h.lt, fun j hj => by rw [Nat.zero_add]; exact h.cell j hj⟩⟩
/-- The first k of a row of 8. -/
def upto (f : Nat → Int) (k : Nat) : List Int := (List.range 8).map fun j => if j < k then f j else 0
theorem upto_length (f : Nat → Int) (k : Nat) : (upto f k).length = 8 := by simp [upto]
theorem upto_set (f : Nat → Int) (k : Nat) : (upto f k).set k (f k) = upto f (k + 1) := by
  unfold upto
  apply List.ext_getElem?
  intro i
  rw [List.getElem?_set]
  simp only [List.length_map, List.length_range, List.getElem?_map, List.getElem?_range]
  by_cases h8 : i < 8
  · rcases Nat.lt_trichotomy i k with h1 | h1 | h1
    · rw [if_neg (by omega)]; simp [h8, h1, show i < k + 1 by omega]
    · subst h1; simp [h8]
    · rw [if_neg (by omega)]; simp [h8, show ¬ i < k by omega, show ¬ i < k + 1 by omega]
  · by_cases hk : k = i
    · subst hk; simp [h8]
    · rw [if_neg hk]; simp [h8]
theorem upto_eight (f : Nat → Int) : upto f 8 = (List.range 8).map f := by
  unfold upto
  apply List.map_congr_left
  intro i hi
  simp at hi
  simp [hi]
theorem pl_upto (f : Nat → Int) (h : ∀ i, i < 8 → 0 ≤ f i ∧ f i ≤ 1099511627776) : pl (upto f 8) = vec f := by
  apply vec_ext
  intro i hi
  unfold nm
  rw [upto_eight, List.getD_eq_getElem?_getD]
  simp [hi]
  exact cl_id (h i hi).1 (h i hi).2
theorem sliceAt_all {P : Program} {T E n sz : Nat} (hT : P.underlying T = some (.array n E)) (hs : ∀ w, (sizeOf E).run P w = .ok sz w) (a : Addr) :
    ∀ w : World, (Instr.sliceAt T (.pointer (some a)) none none none).run P w = .ok (.slice (some a) n n) w := by
  intro w
  have ht : P.underlying T = some (.array (P.arrayLen T) (P.elem T)) := by rw [hT]; simp [Program.arrayLen, Program.elem, hT]
  have hl : P.arrayLen T = n := by simp [Program.arrayLen, hT]
  have he : P.elem T = E := by simp [Program.elem, hT]
  rw [run_sliceAt_array_all w T a ht, he, hs, hl]
  simp only [Result.andThen, slicedAt]
  have ha : a.add (0 * sz) = a := by simp [Addr.add]
  rw [ha]; simp
end
end Go.Proofs.Ytojnooagifhekaa
namespace Go.Proofs.Ytojnooagifhekaa
section
open Go.RowKit
set_option maxRecDepth 100000
set_option linter.unusedVariables false
set_option linter.unusedSimpArgs false
end
end Go.Proofs.Ytojnooagifhekaa
namespace Go.Proofs.Ytojnooagifhekaa
section
open Go.RowKit
set_option maxRecDepth 100000
set_option linter.unusedVariables false
set_option linter.unusedSimpArgs false
end
end Go.Proofs.Ytojnooagifhekaa
