/- What the cells of a type's value are, leaf by leaf; arguments opened by their leaves; lists of elements of several cells in memory. -/
import Derived.Test.YtglabahbklpocaaGShipMany1
import Derived.OpenShut
import Derived.ChangeArms
import Derived.ChangeSlices
import Derived.DataReads
import Derived.Deep.Strs
import Derived.ProofKit
import Derived.ChangeOld
import Derived.Below
import Derived.Lib.SmallJoins
namespace Go.Proofs.Ytglabahbklpocaa
section
open Go.ChangeShapes Go.WideShapes Go.ChangeAt Go.RowKit Go.Joins Go.Deep
set_option maxRecDepth 100000
set_option linter.unusedVariables false
set_option linter.unusedSimpArgs false
inductive Leaf where
  | int (k : IntKind)
  | str
  | bool
  | sl (t e : TypeId)
def addLeaf (P : Program) (rec : TypeId → Option (List Leaf)) : List Leaf → List Field → Option (List Leaf)
  | acc, [] => some acc
  | acc, f :: fs => (rec f.type).bind fun l => if f.offset = acc.length ∧ P.cellsOf f.type = l.length then addLeaf P rec (acc ++ l) fs else none
def leaves (P : Program) : Nat → TypeId → Option (List Leaf)
  | 0, _ => none
  | d + 1, t =>
    match P.underlying t with
    | some (.int k) => some [.int k]
    | some .string => some [.str]
    | some .bool => some [.bool]
    | some (.slice e) => some [.sl t e]
    | some (.struct fs) => (addLeaf P (leaves P d) [] fs.toList).bind fun l => if P.cellsOf t = l.length then some l else none
    | some (.array n e) => (leaves P d e).bind fun l => if P.cellsOf e = l.length ∧ P.cellsOf t = n * l.length then some (List.replicate n l).flatten else none
    | _ => none
def LeafIs {H : Type} (enc : TypeId × Value → H) (P : Program) (w : World) (l : Leaf) (v : Value) : Prop :=
  match l with
  | .int k => ∃ n, v = .int k n ∧ (Lit.int k n).wf = true
  | .str => ∃ s : ByteArray, v = .string s ∧ s.size ≤ maxLen
  | .bool => ∃ b : Bool, v = .bool b
  | .sl t e => P.underlying t = some (.slice e) ∧ ∃ fuel y, DataW.trod enc P w 0 (fun _ => true) true fuel t [v] = some y
def Fits {H : Type} (enc : TypeId × Value → H) (P : Program) (w : World) : List Leaf → List Value → Prop
  | [], [] => True
  | l :: ls, v :: vs => LeafIs enc P w l v ∧ Fits enc P w ls vs
  | _, _ => False
section
variable {H : Type} {enc : TypeId × Value → H} {P : Program} {w : World}
theorem fits_len {ls : List Leaf} {cs : List Value} (h : Fits enc P w ls cs) : cs.length = ls.length := by
  induction ls generalizing cs with
  | nil => cases cs with
    | nil => rfl
    | cons _ _ => exact h.elim
  | cons l ls ih => cases cs with
    | nil => exact h.elim
    | cons v vs => simp [ih h.2]
theorem fits_append {a b : List Leaf} {cs ds : List Value} (h : Fits enc P w a cs) (k : Fits enc P w b ds) : Fits enc P w (a ++ b) (cs ++ ds) := by
  induction a generalizing cs with
  | nil => cases cs with
    | nil => exact k
    | cons _ _ => exact h.elim
  | cons l ls ih => cases cs with
    | nil => exact h.elim
    | cons v vs => exact ⟨h.1, ih h.2⟩
theorem fits_addLeaf (rec : TypeId → Option (List Leaf)) (n : Nat) (hrec : ∀ t ls cs y, rec t = some ls → DataW.trod enc P w 0 (fun _ => true) true n t cs = some y → Fits enc P w ls cs)
    (fs : List Field) (acc r : List Leaf) (cs : List Value) (h : addLeaf P rec acc fs = some r) (hacc : Fits enc P w acc (cs.take acc.length))
    (hf : ∀ f ∈ fs, ∃ y, DataW.trod enc P w 0 (fun _ => true) true n f.type ((cs.drop f.offset).take (P.cellsOf f.type)) = some y) : Fits enc P w r (cs.take r.length) := by
  induction fs generalizing acc with
  | nil => simp only [addLeaf, Option.some.injEq] at h; subst h; exact hacc
  | cons f fs ih =>
    simp only [addLeaf, Option.bind_eq_some_iff] at h
    obtain ⟨l, hl, h⟩ := h
    split at h
    · rename_i hc
      obtain ⟨y, hy⟩ := hf f (List.mem_cons_self ..)
      have h1 := hrec _ _ _ _ hl hy
      rw [hc.1, hc.2] at h1
      refine ih (acc ++ l) h ?_ (fun g hg => hf g (List.mem_cons_of_mem _ hg))
      have := fits_append hacc h1
      rwa [List.length_append, List.take_add]
    · simp at h
theorem fits_rep (l : List Leaf) (n : Nat) (cs : List Value) (hc : cs.length = n * l.length) (h : ∀ i, i < n → Fits enc P w l ((cs.drop (i * l.length)).take l.length)) : Fits enc P w (List.replicate n l).flatten cs := by
  induction n generalizing cs with
  | zero => cases cs with
    | nil => trivial
    | cons _ _ => simp at hc
  | succ n ih =>
    rw [List.replicate_succ, List.flatten_cons]
    have h0 := h 0 (by omega)
    rw [Nat.zero_mul, List.drop_zero] at h0
    have := ih (cs.drop l.length) (by rw [List.length_drop, hc, Nat.succ_mul]; omega) (fun i hi => by
      have := h (i + 1) (by omega)
      rw [List.drop_drop]
      rwa [Nat.succ_mul, Nat.add_comm] at this)
    have := fits_append h0 this
    rwa [List.take_append_drop] at this
theorem fits_of (d : Nat) (t : TypeId) (ls : List Leaf) (hl : leaves P d t = some ls) (n : Nat) (cs : List Value) (y : DataW H × List MemPlace) (h : DataW.trod enc P w 0 (fun _ => true) true n t cs = some y) : Fits enc P w ls cs := by
  induction d generalizing t ls n cs y with
  | zero => simp [leaves] at hl
  | succ d ih =>
    unfold leaves at hl
    split at hl
    · rename_i k hu
      simp only [Option.some.injEq] at hl; subst hl
      obtain ⟨x, rfl, _, hw⟩ := DataW.trod_int hu h
      exact ⟨⟨x, rfl, hw⟩, trivial⟩
    · rename_i hu
      simp only [Option.some.injEq] at hl; subst hl
      obtain ⟨s, rfl, _, hw⟩ := DataW.trod_string hu h
      exact ⟨⟨s, rfl, hw⟩, trivial⟩
    · rename_i hu
      simp only [Option.some.injEq] at hl; subst hl
      cases n with
      | zero => simp [DataW.trod] at h
      | succ m =>
        unfold DataW.trod at h
        rw [hu] at h
        split at h <;> simp_all
        exact ⟨⟨_, rfl⟩, trivial⟩
    · rename_i e hu
      simp only [Option.some.injEq] at hl; subst hl
      rcases DataW.trod_slice hu h with ⟨rfl, _⟩ | ⟨a, len, cap, _, _, _, _, rfl, _⟩
      · exact ⟨⟨hu, n, y, h⟩, trivial⟩
      · exact ⟨⟨hu, n, y, h⟩, trivial⟩
    · rename_i fs hu
      rw [Option.bind_eq_some_iff] at hl
      obtain ⟨l, hl1, hl2⟩ := hl
      split at hl2
      · rename_i hc
        simp only [Option.some.injEq] at hl2; subst hl2
        obtain ⟨xs, m, rfl, rfl, hcs, hlen, hf⟩ := DataW.trod_struct hu h
        have := fits_addLeaf (leaves P d) m (fun t ls cs y h1 h2 => ih t ls h1 m cs y h2) fs.toList [] l cs hl1 (by simp [Fits]) (fun f hfm => by
          obtain ⟨i, hi, rfl⟩ := List.getElem_of_mem hfm
          have hi2 : i < fs.size := by simpa using hi
          have := hf i fs.toList[i] (by simp)
          rw [List.getElem?_eq_getElem (by omega)] at this
          exact ⟨_, this⟩)
        rwa [← hc, ← hcs, List.take_length] at this
      · simp at hl2
    · rename_i k e hu
      rw [Option.bind_eq_some_iff] at hl
      obtain ⟨l, hl1, hl2⟩ := hl
      split at hl2
      · rename_i hc
        simp only [Option.some.injEq] at hl2; subst hl2
        obtain ⟨xs, m, rfl, rfl, hcs, hlen, hf⟩ := DataW.trod_array hu h
        refine fits_rep l k cs (by rw [hcs, hc.2]) fun i hi => ?_
        have h1 := hf i hi
        rw [List.getElem?_eq_getElem (by omega), hc.1] at h1
        exact ih e l hl1 m _ _ h1
      · simp at hl2
    · simp at hl
/-- A struct, or an array, among the arguments. -/
theorem open_fits {r : Reach} {b0 : Nat} {t : TypeId} {v : Value} {d : DataW H} {ps : List MemPlace} (D : Nat) (ls : List Leaf) (hl : leaves P D t = some ls) (ha : (P.underlying t).map (fun u => match u with | .struct _ => true | _ => false) = some true)
    (hval : Value.okWide P w r b0 t v) (hd : DataW.Trod enc P w 0 (fun _ => true) true t v d ps) : ∃ cs : List Value, v = .agg cs.toArray ∧ Fits enc P w ls cs := by
  obtain ⟨fuel, hf⟩ := hd
  rw [Option.map_eq_some_iff] at ha
  obtain ⟨u, hu, hs⟩ := ha
  cases u with
  | struct fs =>
    obtain ⟨cs, rfl, _⟩ := okWide_struct hu hval
    exact ⟨cs.toList, by simp, fits_of D t ls hl fuel _ _ hf⟩
  | _ => simp at hs
end
/-- The cells from o on in block b. -/
def CellsAt (w : World) (b o : Nat) (l : List Value) : Prop := ∀ j u, l[j]? = some u → w.cell? ⟨b, o + j, none⟩ = some u
theorem CellsAt.below {w w' : World} {b o : Nat} {l : List Value} (h : CellsAt w b o l) (hb : Below w.heap.size w w') (hlt : b < w.heap.size) : CellsAt w' b o l := fun j u hj => (hb.cell (p := ⟨b, _, none⟩) hlt).trans (h j u hj)
theorem CellsAt.belowB {w w' : World} {B b o : Nat} {l : List Value} (h : CellsAt w b o l) (hb : Below B w w') (hlt : b < B) : CellsAt w' b o l := fun j u hj => (hb.cell (p := ⟨b, _, none⟩) hlt).trans (h j u hj)
theorem CellsAt.same {w w' : World} {b o : Nat} {l : List Value} (h : CellsAt w b o l) (e : w'.heap = w.heap) : CellsAt w' b o l := fun j u hj => by
  have := h j u hj
  simp only [World.cell?] at this ⊢
  rw [e]
  exact this
/-- A slice at a, n elements long, whose elements have the cells cs x (sz each). -/
def ReadsE {α : Type} (cs : α → List Value) (sz : Nat) (w : World) (a : Option Addr) (n : Nat) (xs : List α) : Prop :=
  xs.length = n ∧ (n = 0 ∨ ∃ b o, a = some ⟨b, o, none⟩ ∧ b < w.heap.size ∧ ∀ j x, xs[j]? = some x → CellsAt w b (o + j * sz) (cs x))
section
variable {α : Type} {cs : α → List Value} {sz : Nat} {w w' : World} {a : Option Addr} {n : Nat} {xs : List α}
theorem ReadsE.belowB {B : Nat} (h : ReadsE cs sz w a n xs) (hB : ∀ p, a = some p → n ≠ 0 → p.block < B) (hle : B ≤ w.heap.size) (hb : Below B w w') : ReadsE cs sz w' a n xs := by
  obtain ⟨h1, h2⟩ := h
  refine ⟨h1, ?_⟩
  rcases h2 with h2 | ⟨b, o, rfl, h4, h5⟩
  · exact .inl h2
  · rcases Nat.eq_zero_or_pos n with h0 | h0
    · exact .inl h0
    · have hlt : b < B := hB ⟨b, o, none⟩ rfl (by omega)
      exact .inr ⟨b, o, rfl, Nat.lt_of_lt_of_le h4 hb.size, fun j x hj => (h5 j x hj).belowB hb hlt⟩
theorem ReadsE.below (h : ReadsE cs sz w a n xs) (hb : Below w.heap.size w w') : ReadsE cs sz w' a n xs := by
  obtain ⟨h1, h2⟩ := h
  refine ⟨h1, ?_⟩
  rcases h2 with h2 | ⟨b, o, rfl, h4, h5⟩
  · exact .inl h2
  · exact .inr ⟨b, o, rfl, Nat.lt_of_lt_of_le h4 hb.size, fun j x hj => (h5 j x hj).below hb h4⟩
theorem ReadsE.same (h : ReadsE cs sz w a n xs) (e : w'.heap = w.heap) : ReadsE cs sz w' a n xs := by
  obtain ⟨h1, h2⟩ := h
  refine ⟨h1, ?_⟩
  rcases h2 with h2 | ⟨b, o, rfl, h4, h5⟩
  · exact .inl h2
  · exact .inr ⟨b, o, rfl, by rw [e]; exact h4, fun j x hj => (h5 j x hj).same e⟩
/-- Element k, at a world that has turned nothing of what was there. -/
theorem ReadsE.at (h : ReadsE cs sz w a n xs) {wr : World} (hb : Below w.heap.size w wr) (k : Nat) (hk : k < n) : ∃ b o x, a = some ⟨b, o, none⟩ ∧ b < w.heap.size ∧ xs[k]? = some x ∧ CellsAt wr b (o + k * sz) (cs x) := by
  obtain ⟨h1, h2⟩ := h
  obtain ⟨b, o, e, hlt, hc⟩ := h2.resolve_left (by omega)
  have hx : xs[k]? = some xs[k] := List.getElem?_eq_getElem (by omega)
  exact ⟨b, o, xs[k], e, hlt, hx, (hc k _ hx).below hb hlt⟩
theorem ReadsE.nil (w : World) : ReadsE cs sz w none 0 [] := ⟨rfl, .inl rfl⟩
theorem ReadsE.take (h : ReadsE cs sz w a n xs) (m : Nat) (hm : m ≤ n) : ReadsE cs sz w a m (xs.take m) := by
  obtain ⟨h1, h2⟩ := h
  refine ⟨by rw [List.length_take]; omega, ?_⟩
  rcases h2 with h2 | ⟨b, o, h3, h4, h5⟩
  · exact .inl (by omega)
  · refine .inr ⟨b, o, h3, h4, fun j x hj => h5 j x ?_⟩
    rw [List.getElem?_take] at hj
    split at hj
    · exact hj
    · simp at hj
theorem ReadsE.drop {b o : Nat} (h : ReadsE cs sz w (some ⟨b, o, none⟩) n xs) (m : Nat) (hm : m ≤ n) : ReadsE cs sz w (some ⟨b, o + m * sz, none⟩) (n - m) (xs.drop m) := by
  obtain ⟨h1, h2⟩ := h
  refine ⟨by rw [List.length_drop]; omega, ?_⟩
  rcases h2 with h2 | ⟨b', o', h3, h4, h5⟩
  · exact .inl (by omega)
  · simp only [Option.some.injEq, Addr.mk.injEq, and_true] at h3
    obtain ⟨rfl, rfl⟩ := h3
    refine .inr ⟨b, _, rfl, h4, fun j x hj => ?_⟩
    rw [List.getElem?_drop] at hj
    have := h5 (m + j) x hj
    rwa [Nat.add_mul, ← Nat.add_assoc] at this
end
/-- A slice among the arguments. -/
def IsEs {α : Type} (cs : α → List Value) (sz : Nat) (wf : α → Prop) (w : World) (v : Value) (xs : List α) : Prop :=
  ∃ a n c, v = .slice a n c ∧ n ≤ c ∧ c ≤ 9223372036854775807 ∧ ReadsE cs sz w a n xs ∧ ∀ x ∈ xs, wf x
theorem open_isEs {H : Type} {enc : TypeId × Value → H} {P : Program} {W : World} {r : Reach} {b0 : Nat} {t e : TypeId} {v : Value} {d : DataW H} {ps : List MemPlace} {α : Type} (cs : α → List Value) (sz : Nat) (wf : α → Prop) (D : Nat) (ls : List Leaf)
    (dec : ∀ l, Fits enc P W ls l → ∃ x, cs x = l ∧ wf x) (hsz : sz = ls.length) (hpos : 0 < sz)
    (ht : P.underlying t = some (.slice e)) (hl : leaves P D e = some ls) (hC : P.cellsOf e = ls.length)
    (hval : Value.okWide P W r b0 t v) (hd : DataW.Trod enc P W 0 (fun _ => true) true t v d ps) : ∃ xs, IsEs cs sz wf W v xs := by
  subst hsz
  obtain ⟨a, len, cap, rfl⟩ := okWide_slice ht hval
  obtain ⟨fuel, hf⟩ := hd
  rcases DataW.trod_slice ht hf with ⟨hcs, _⟩ | ⟨x, l, c, elems, rest, m, _, hcs, _, _, hl', hm, hlen, hel, _, _⟩
  · simp [Value.cells] at hcs
    obtain ⟨rfl, rfl, rfl⟩ := hcs
    exact ⟨[], none, 0, 0, rfl, by omega, by omega, ⟨rfl, .inl rfl⟩, by simp⟩
  · simp [Value.cells] at hcs
    obtain ⟨rfl, rfl, rfl⟩ := hcs
    have each : ∀ i, i < len → ∃ y : α, wf y ∧ ls.length = (cs y).length ∧ ∀ j, j < ls.length → W.cell? ((x.add (i * ls.length)).add j) = (cs y)[j]? := by
      intro i hi
      have h1 := hel i hi
      rw [List.getElem?_eq_getElem (by omega), hC, Option.bind_eq_some_iff] at h1
      obtain ⟨cs', hc', ht'⟩ := h1
      obtain ⟨_, hlc, hcell⟩ := World.cells?_some hc'
      obtain ⟨y, hy, hw⟩ := dec cs' (fits_of D e ls hl m cs' _ ht')
      exact ⟨y, hw, by rw [hy, hlc], fun j hj => by rw [hy]; exact hcell j hj⟩
    rcases Nat.eq_zero_or_pos len with h0 | h0
    · subst h0
      exact ⟨[], some x, 0, cap, rfl, by omega, by unfold maxLen at hm; omega, ⟨rfl, .inl rfl⟩, by simp⟩
    · obtain ⟨y0, hy0⟩ := each 0 h0
      have each2 : ∀ i : Nat, ∃ y : α, i < len → wf y ∧ ls.length = (cs y).length ∧ ∀ j, j < ls.length → W.cell? ((x.add (i * ls.length)).add j) = (cs y)[j]? := fun i => by
        by_cases hi : i < len
        · obtain ⟨y, h⟩ := each i hi
          exact ⟨y, fun _ => h⟩
        · exact ⟨y0, fun h => absurd h hi⟩
      let f : Nat → α := fun i => Classical.choose (each2 i)
      have hf2 : ∀ i, i < len → wf (f i) ∧ ls.length = (cs (f i)).length ∧ ∀ j, j < ls.length → W.cell? ((x.add (i * ls.length)).add j) = (cs (f i))[j]? := fun i => Classical.choose_spec (each2 i)
      refine ⟨(List.range len).map f, some x, len, cap, rfl, hl', by unfold maxLen at hm; omega, ⟨by simp, ?_⟩, fun y hy => ?_⟩
      · right
        obtain ⟨b, off, spot⟩ := x
        obtain ⟨_, hl0, hc0⟩ := hf2 0 h0
        have hc0 := hc0 0 hpos
        rw [List.getElem?_eq_getElem (by omega)] at hc0
        have hspot : spot = none := by simpa [Addr.add] using World.cell?_spot hc0
        subst hspot
        have hadd : ∀ j, (⟨b, off, none⟩ : Addr).add j = ⟨b, off + j, none⟩ := fun j => by unfold Addr.add; split <;> simp_all
        have hadd2 : ∀ j k, (⟨b, off + j, none⟩ : Addr).add k = ⟨b, off + j + k, none⟩ := fun j k => by unfold Addr.add; split <;> simp_all
        refine ⟨b, off, rfl, ?_, fun j y hj k u hk => ?_⟩
        · have := World.block_lt_of_cell? _ _ hc0
          rw [hadd] at this
          exact this
        · obtain ⟨hjl, rfl⟩ := List.getElem?_eq_some_iff.1 hj
          simp only [List.getElem_map, List.getElem_range] at hk ⊢
          have hjl2 : j < len := by simpa using hjl
          obtain ⟨_, hle, hce⟩ := hf2 j hjl2
          have hk2 : k < ls.length := by
            have := (List.getElem?_eq_some_iff.1 hk).1
            omega
          have := hce k hk2
          rw [hadd, hadd2] at this
          rw [this, hk]
      · obtain ⟨i, hi, rfl⟩ := List.mem_map.1 hy
        exact (hf2 i (List.mem_range.1 hi)).1
end
end Go.Proofs.Ytglabahbklpocaa
