/- The chapter's examples hold: the contract of 'awake'. What the cells of a type's value are, leaf by leaf; arguments opened by their leaves; lists of elements of several cells in memory. '==' of structs and arrays whose leaves are numbers, texts and bools: whether the cells are the same. A list of one's own, of elements of several cells, that grows by append. Points: their cells; among the arguments; held against each other. sample.CheckPoint, Before, Newer; the reference's. A record among the arguments; the law's short, small. The law's short, small. The law's few: at most 30 points, with short names. Plain law: stamps that stand one behind the other are taken as they were written. The reference's Reader, more: Text. -/
import Derived.Test.YtkonflbgkaflaaaGSamplePoints6
import Derived.Test.YtkonflbgkaflaaaGSamplePoints1
import Derived.OpenShut
import Derived.ChangeArms
import Derived.ChangeSlices
import Derived.DataReads
import Derived.Deep.Strs
import Derived.ProofKit
import Derived.ChangeOld
import Derived.Below
import Derived.Lib.SmallJoins
import Derived.Laws.StructEq
import Derived.DeepKeys
import Derived.Laws.AppendOwn
import Derived.Laws.OwnMore
import Derived.Deep.AppendLies
import Derived.Test.YtkonflbgkaflaaaGSamplePoints2
import Derived.Test.YtkonflbgkaflaaaGSamplePoints3
import Derived.Test.YtkonflbgkaflaaaGSamplePoints5
namespace Go.Proofs.Ytkonflbgkaflaaa
section
open Go.RowKit
set_option maxRecDepth 100000
set_option linter.unusedVariables false
set_option linter.unusedSimpArgs false
attribute [local go_sem ↓] Go.wp_at_zero Go.wp_at_succ
/-- A block of one int. -/
def oneI (v : Int) : Obj := .cells #[.int .i64 v] 3 (0, 0)
def awR : Rc := ⟨1, ⟨#[97]⟩, 1, -1, 0, ⟨1, 0, 1⟩⟩
def awZ : Sl := ⟨none, 0, 0⟩
theorem awR_wf : awR.wf := by simp [Rc.wf, awR, i64', ByteArray.size]
theorem awP : recP awR [] := ⟨by decide +kernel, by decide +kernel, by decide +kernel, by decide +kernel, .inl ⟨rfl, nameV_true (by unfold nameP okC; decide +kernel), rfl⟩⟩
theorem awB : recB awR [] = ⟨#[1, 1, 97, 1, 1, 1, 0, 1, 0]⟩ := by
  unfold recB
  rw [if_pos awP]
  decide +kernel
theorem awN : ¬ recP awR [1] := fun h => absurd h.2.2.2.1 (by decide +kernel)
set_option maxHeartbeats 4000000 in
theorem sawake_any (w : World) : Calls Try.prog 9 #[] w fun e w' => e = .returned (.bool true) ∧ Below w.heap.size w w' := by
  have B0 := fun wx => sbytes_any awR awZ [] wx awR_wf ⟨⟨rfl, .inl rfl⟩, Nat.le_refl _, by decide⟩
  simp only [awB, chkR_0 awP] at B0
  unfold rcVal awZ at B0
  go_enter Try.func9, Try.ntmps9
  go_upto_region 2 with (refine wpList_store_row rfl 26 _ _ rfl w.heap.size (rcA awR awZ) rfl rfl 26 _ (heap_alloc_new _ _) (by kernel_rfl) rfl (by simp [Value.oneCell', rcA]) ?_; rw [World.setRow_alloc_new])
  generalize hw1 : World.alloc _ _ = w1
  have KK := Lib.hid (show Kn w.heap.size w [(w.heap.size, rcO awR awZ)] w1 by rw [← hw1]; exact (Kn.start w).new' rfl (rcO awR awZ))
  clear hw1
  generalize hg : w.heap.size = g at *
  go_upto_region 3 with (first
    | refine wpList_load_row rfl 26 _ rfl g rfl 26 (rcA awR awZ) (0, 0) _ KK.out.hd Try.underlying26 rfl (by kernel_rfl) ?_
    | (go_at_call 12; refine (B0 _).mono ?_; rintro e wn ⟨rfl, dn⟩; have KK := Lib.hid (KK.out.below dn); clear dn))
  clear B0
  have K2 : Kn g w [(wn.heap.size, oneI 1), (g, rcO awR awZ)] (wn.alloc (.cells #[.int .i64 1] 3 (0, 0))) := KK.out.new (oneI 1)
  have c8 : (wn.alloc (.cells #[.int .i64 1] 3 (0, 0))).cell? ⟨g, 8, none⟩ = some (.slice none 0 0) := (rc_cells (K2.at_ (g, rcO awR awZ) (by simp)) rfl).c8
  have f8 : (wn.alloc (.cells #[.int .i64 1] 3 (0, 0))).frozen? ⟨g, 8, none⟩ = false := K2.fz (g := g) (o := rcO awR awZ) (by simp) 8
  go_upto_region 4 with fail
  have hne : wn.heap.size ≠ g := by have := KK.out.fresh; omega
  have K3 := Kn.setCell (K2.sub (m := [(g, rcO awR awZ), (wn.heap.size, oneI 1)]) (by simp)) (by simp only [Apart, and_true]; omega) (by omega) 8 (.slice (some ⟨wn.heap.size, 0, none⟩) 1 1) (rcO awR ⟨some ⟨wn.heap.size, 0, none⟩, 1, 1⟩) rfl
  clear c8 f8 K2
  generalize hw3 : World.setCell _ _ _ = w3 at K3 ⊢
  clear hw3
  obtain ⟨k, hk⟩ : ∃ k, wn.heap.size = k := ⟨_, rfl⟩
  rw [hk] at K3 hne ⊢
  have KK := Lib.hid K3
  have N1 := fun wx => name_any ⟨#[99, 112, 117, 46, 48]⟩ wx (by decide)
  have N2 := fun wx => name_any ⟨#[48, 99, 112, 117]⟩ wx (by decide)
  have N3 := fun wx => name_any ⟨#[]⟩ wx (by decide)
  rw [nameV_true (by unfold nameP okC; decide +kernel)] at N1
  rw [nameV_false (by unfold nameP okC; decide +kernel)] at N2 N3
  have hs : SlR w3 ⟨some ⟨k, 0, none⟩, 1, 1⟩ [1] := ⟨⟨rfl, .inr ⟨_, _, rfl, by have := KK.out.lt (k, oneI 1) (by simp); exact this, fun j hj => by
    have : j = 0 := by simp at hj; omega
    subst this
    exact KK.out.cell (g := k) (o := oneI 1) (by simp) rfl⟩⟩, Nat.le_refl _, by simp⟩
  have C5 := scheck_any awR ⟨some ⟨k, 0, none⟩, 1, 1⟩ [1] w3 awR_wf hs
  rw [chkR_1 awN] at C5
  clear hs K3 hne
  go_wp2_with (first
    | refine wpList_load_row_w (by rfl) 26 _ rfl g rfl 26 (rcA awR ⟨some ⟨k, 0, none⟩, 1, 1⟩) (0, 0) _ KK.out.hd Try.underlying26 rfl (by kernel_rfl) ?_
    | (go_at_call_of 18 (#[.string ⟨#[99, 112, 117, 46, 48]⟩] : Array Value); refine (N1 _).mono ?_; rintro e wx ⟨rfl, rfl⟩)
    | (go_at_call_of 18 (#[.string ⟨#[48, 99, 112, 117]⟩] : Array Value); refine (N2 _).mono ?_; rintro e wx ⟨rfl, rfl⟩)
    | (go_at_call_of 18 (#[.string ⟨#[]⟩] : Array Value); refine (N3 _).mono ?_; rintro e wx ⟨rfl, rfl⟩)
    | (go_at_call 16; refine C5.mono ?_; rintro e wz ⟨rfl, dn⟩; have KK := Lib.hid (KK.out.below dn)))
  go_ret
  exact ⟨rfl, by first | exact KK.out.b | (rw [hg]; exact KK.out.b)⟩
end
end Go.Proofs.Ytkonflbgkaflaaa
namespace Go.Proofs.Ytkonflbgkaflaaa
section
open Go.ChangeShapes Go.WideShapes Go.ChangeAt Go.RowKit Go.Joins Go.Deep
set_option maxRecDepth 100000
set_option linter.unusedVariables false
set_option linter.unusedSimpArgs false
inductive Leaf where
  | int (k : IntKind)
  | str
  | bool
  | sl (t e : TypeId)
def addLeaf (P : Program) (rec : TypeId → Option (List Leaf)) : List Leaf → List Field → Option (List Leaf)
  | acc, [] => some acc
  | acc, f :: fs => (rec f.type).bind fun l => if f.offset = acc.length ∧ P.cellsOf f.type = l.length then addLeaf P rec (acc ++ l) fs else none
def leaves (P : Program) : Nat → TypeId → Option (List Leaf)
  | 0, _ => none
  | d + 1, t =>
    match P.underlying t with
    | some (.int k) => some [.int k]
    | some .string => some [.str]
    | some .bool => some [.bool]
    | some (.slice e) => some [.sl t e]
    | some (.struct fs) => (addLeaf P (leaves P d) [] fs.toList).bind fun l => if P.cellsOf t = l.length then some l else none
    | some (.array n e) => (leaves P d e).bind fun l => if P.cellsOf e = l.length ∧ P.cellsOf t = n * l.length then some (List.replicate n l).flatten else none
    | _ => none
def LeafIs {H : Type} (enc : TypeId × Value → H) (P : Program) (w : World) (l : Leaf) (v : Value) : Prop :=
  match l with
  | .int k => ∃ n, v = .int k n ∧ (Lit.int k n).wf = true
  | .str => ∃ s : ByteArray, v = .string s ∧ s.size ≤ maxLen
  | .bool => ∃ b : Bool, v = .bool b
  | .sl t e => P.underlying t = some (.slice e) ∧ ∃ fuel y, DataW.trod enc P w 0 (fun _ => true) true fuel t [v] = some y
def Fits {H : Type} (enc : TypeId × Value → H) (P : Program) (w : World) : List Leaf → List Value → Prop
  | [], [] => True
  | l :: ls, v :: vs => LeafIs enc P w l v ∧ Fits enc P w ls vs
  | _, _ => False
section
variable {H : Type} {enc : TypeId × Value → H} {P : Program} {w : World}
theorem fits_len {ls : List Leaf} {cs : List Value} (h : Fits enc P w ls cs) : cs.length = ls.length := by
  induction ls generalizing cs with
  | nil => cases cs with
    | nil => rfl
    | cons _ _ => exact h.elim
  | cons l ls ih => cases cs with
    | nil => exact h.elim
    | cons v vs => simp [ih h.2]
theorem fits_append {a b : List Leaf} {cs ds : List Value} (h : Fits enc P w a cs) (k : Fits enc P w b ds) : Fits enc P w (a ++ b) (cs ++ ds) := by
  induction a generalizing cs with
  | nil => cases cs with
    | nil => exact k
    | cons _ _ => exact h.elim
  | cons l ls ih => cases cs with
    | nil => exact h.elim
    | cons v vs => exact ⟨h.1, ih h.2⟩
theorem fits_addLeaf (rec : TypeId → Option (List Leaf)) (n : Nat) (hrec : ∀ t ls cs y, rec t = some ls → DataW.trod enc P w 0 (fun _ => true) true n t cs = some y → Fits enc P w ls cs)
    (fs : List Field) (acc r : List Leaf) (cs : List Value) (h : addLeaf P rec acc fs = some r) (hacc : Fits enc P w acc (cs.take acc.length))
    (hf : ∀ f ∈ fs, ∃ y, DataW.trod enc P w 0 (fun _ => true) true n f.type ((cs.drop f.offset).take (P.cellsOf f.type)) = some y) : Fits enc P w r (cs.take r.length) := by
  induction fs generalizing acc with
  | nil => simp only [addLeaf, Option.some.injEq] at h; subst h; exact hacc
  | cons f fs ih =>
    simp only [addLeaf, Option.bind_eq_some_iff] at h
    obtain ⟨l, hl, h⟩ := h
    split at h
    · rename_i hc
      obtain ⟨y, hy⟩ := hf f (List.mem_cons_self ..)
      have h1 := hrec _ _ _ _ hl hy
      rw [hc.1, hc.2] at h1
      refine ih (acc ++ l) h ?_ (fun g hg => hf g (List.mem_cons_of_mem _ hg))
      have := fits_append hacc h1
      rwa [List.length_append, List.take_add]
    · simp at h
theorem fits_rep (l : List Leaf) (n : Nat) (cs : List Value) (hc : cs.length = n * l.length) (h : ∀ i, i < n → Fits enc P w l ((cs.drop (i * l.length)).take l.length)) : Fits enc P w (List.replicate n l).flatten cs := by
  induction n generalizing cs with
  | zero => cases cs with
    | nil => trivial
    | cons _ _ => simp at hc
  | succ n ih =>
    rw [List.replicate_succ, List.flatten_cons]
    have h0 := h 0 (by omega)
    rw [Nat.zero_mul, List.drop_zero] at h0
    have := ih (cs.drop l.length) (by rw [List.length_drop, hc, Nat.succ_mul]; omega) (fun i hi => by
      have := h (i + 1) (by omega)
      rw [List.drop_drop]
      rwa [Nat.succ_mul, Nat.add_comm] at this)
    have := fits_append h0 this
    rwa [List.take_append_drop] at this
theorem fits_of (d : Nat) (t : TypeId) (ls : List Leaf) (hl : leaves P d t = some ls) (n : Nat) (cs : List Value) (y : DataW H × List MemPlace) (h : DataW.trod enc P w 0 (fun _ => true) true n t cs = some y) : Fits enc P w ls cs := by
  induction d generalizing t ls n cs y with
  | zero => simp [leaves] at hl
  | succ d ih =>
    unfold leaves at hl
    split at hl
    · rename_i k hu
      simp only [Option.some.injEq] at hl; subst hl
      obtain ⟨x, rfl, _, hw⟩ := DataW.trod_int hu h
      exact ⟨⟨x, rfl, hw⟩, trivial⟩
    · rename_i hu
      simp only [Option.some.injEq] at hl; subst hl
      obtain ⟨s, rfl, _, hw⟩ := DataW.trod_string hu h
      exact ⟨⟨s, rfl, hw⟩, trivial⟩
    · rename_i hu
      simp only [Option.some.injEq] at hl; subst hl
      cases n with
      | zero => simp [DataW.trod] at h
      | succ m =>
        unfold DataW.trod at h
        rw [hu] at h
        split at h <;> simp_all
        exact ⟨⟨_, rfl⟩, trivial⟩
    · rename_i e hu
      simp only [Option.some.injEq] at hl; subst hl
      rcases DataW.trod_slice hu h with ⟨rfl, _⟩ | ⟨a, len, cap, _, _, _, _, rfl, _⟩
      · exact ⟨⟨hu, n, y, h⟩, trivial⟩
      · exact ⟨⟨hu, n, y, h⟩, trivial⟩
    · rename_i fs hu
      rw [Option.bind_eq_some_iff] at hl
      obtain ⟨l, hl1, hl2⟩ := hl
      split at hl2
      · rename_i hc
        simp only [Option.some.injEq] at hl2; subst hl2
        obtain ⟨xs, m, rfl, rfl, hcs, hlen, hf⟩ := DataW.trod_struct hu h
        have := fits_addLeaf (leaves P d) m (fun t ls cs y h1 h2 => ih t ls h1 m cs y h2) fs.toList [] l cs hl1 (by simp [Fits]) (fun f hfm => by
          obtain ⟨i, hi, rfl⟩ := List.getElem_of_mem hfm
          have hi2 : i < fs.size := by simpa using hi
          have := hf i fs.toList[i] (by simp)
          rw [List.getElem?_eq_getElem (by omega)] at this
          exact ⟨_, this⟩)
        rwa [← hc, ← hcs, List.take_length] at this
      · simp at hl2
    · rename_i k e hu
      rw [Option.bind_eq_some_iff] at hl
      obtain ⟨l, hl1, hl2⟩ := hl
      split at hl2
      · rename_i hc
        simp only [Option.some.injEq] at hl2; subst hl2
        obtain ⟨xs, m, rfl, rfl, hcs, hlen, hf⟩ := DataW.trod_array hu h
        refine fits_rep l k cs (by rw [hcs, hc.2]) fun i hi => ?_
        have h1 := hf i hi
        rw [List.getElem?_eq_getElem (by omega), hc.1] at h1
        exact ih e l hl1 m _ _ h1
      · simp at hl2
    · simp at hl
/-- A struct, or an array, among the arguments. -/
theorem open_fits {r : Reach} {b0 : Nat} {t : TypeId} {v : Value} {d : DataW H} {ps : List MemPlace} (D : Nat) (ls : List Leaf) (hl : leaves P D t = some ls) (ha : (P.underlying t).map (fun u => match u with | .struct _ => true | _ => false) = some true)
    (hval : Value.okWide P w r b0 t v) (hd : DataW.Trod enc P w 0 (fun _ => true) true t v d ps) : ∃ cs : List Value, v = .agg cs.toArray ∧ Fits enc P w ls cs := by
  obtain ⟨fuel, hf⟩ := hd
  rw [Option.map_eq_some_iff] at ha
  obtain ⟨u, hu, hs⟩ := ha
  cases u with
  | struct fs =>
    obtain ⟨cs, rfl, _⟩ := okWide_struct hu hval
    exact ⟨cs.toList, by simp, fits_of D t ls hl fuel _ _ hf⟩
  | _ => simp at hs
end
/-- The cells from o on in block b. -/
def CellsAt (w : World) (b o : Nat) (l : List Value) : Prop := ∀ j u, l[j]? = some u → w.cell? ⟨b, o + j, none⟩ = some u
theorem CellsAt.below {w w' : World} {b o : Nat} {l : List Value} (h : CellsAt w b o l) (hb : Below w.heap.size w w') (hlt : b < w.heap.size) : CellsAt w' b o l := fun j u hj => (hb.cell (p := ⟨b, _, none⟩) hlt).trans (h j u hj)
theorem CellsAt.belowB {w w' : World} {B b o : Nat} {l : List Value} (h : CellsAt w b o l) (hb : Below B w w') (hlt : b < B) : CellsAt w' b o l := fun j u hj => (hb.cell (p := ⟨b, _, none⟩) hlt).trans (h j u hj)
theorem CellsAt.same {w w' : World} {b o : Nat} {l : List Value} (h : CellsAt w b o l) (e : w'.heap = w.heap) : CellsAt w' b o l := fun j u hj => by
  have := h j u hj
  simp only [World.cell?] at this ⊢
  rw [e]
  exact this
/-- A slice at a, n elements long, whose elements have the cells cs x (sz each). -/
def ReadsE {α : Type} (cs : α → List Value) (sz : Nat) (w : World) (a : Option Addr) (n : Nat) (xs : List α) : Prop :=
  xs.length = n ∧ (n = 0 ∨ ∃ b o, a = some ⟨b, o, none⟩ ∧ b < w.heap.size ∧ ∀ j x, xs[j]? = some x → CellsAt w b (o + j * sz) (cs x))
section
variable {α : Type} {cs : α → List Value} {sz : Nat} {w w' : World} {a : Option Addr} {n : Nat} {xs : List α}
theorem ReadsE.belowB {B : Nat} (h : ReadsE cs sz w a n xs) (hB : ∀ p, a = some p → n ≠ 0 → p.block < B) (hle : B ≤ w.heap.size) (hb : Below B w w') : ReadsE cs sz w' a n xs := by
  obtain ⟨h1, h2⟩ := h
  refine ⟨h1, ?_⟩
  rcases h2 with h2 | ⟨b, o, rfl, h4, h5⟩
  · exact .inl h2
  · rcases Nat.eq_zero_or_pos n with h0 | h0
    · exact .inl h0
    · have hlt : b < B := hB ⟨b, o, none⟩ rfl (by omega)
      exact .inr ⟨b, o, rfl, Nat.lt_of_lt_of_le h4 hb.size, fun j x hj => (h5 j x hj).belowB hb hlt⟩
theorem ReadsE.below (h : ReadsE cs sz w a n xs) (hb : Below w.heap.size w w') : ReadsE cs sz w' a n xs := by
  obtain ⟨h1, h2⟩ := h
  refine ⟨h1, ?_⟩
  rcases h2 with h2 | ⟨b, o, rfl, h4, h5⟩
  · exact .inl h2
  · exact .inr ⟨b, o, rfl, Nat.lt_of_lt_of_le h4 hb.size, fun j x hj => (h5 j x hj).below hb h4⟩
theorem ReadsE.same (h : ReadsE cs sz w a n xs) (e : w'.heap = w.heap) : ReadsE cs sz w' a n xs := by
  obtain ⟨h1, h2⟩ := h
  refine ⟨h1, ?_⟩
  rcases h2 with h2 | ⟨b, o, rfl, h4, h5⟩
  · exact .inl h2
  · exact .inr ⟨b, o, rfl, by rw [e]; exact h4, fun j x hj => (h5 j x hj).same e⟩
/-- Element k, at a world that has turned nothing of what was there. -/
theorem ReadsE.at (h : ReadsE cs sz w a n xs) {wr : World} (hb : Below w.heap.size w wr) (k : Nat) (hk : k < n) : ∃ b o x, a = some ⟨b, o, none⟩ ∧ b < w.heap.size ∧ xs[k]? = some x ∧ CellsAt wr b (o + k * sz) (cs x) := by
  obtain ⟨h1, h2⟩ := h
  obtain ⟨b, o, e, hlt, hc⟩ := h2.resolve_left (by omega)
  have hx : xs[k]? = some xs[k] := List.getElem?_eq_getElem (by omega)
  exact ⟨b, o, xs[k], e, hlt, hx, (hc k _ hx).below hb hlt⟩
theorem ReadsE.nil (w : World) : ReadsE cs sz w none 0 [] := ⟨rfl, .inl rfl⟩
theorem ReadsE.take (h : ReadsE cs sz w a n xs) (m : Nat) (hm : m ≤ n) : ReadsE cs sz w a m (xs.take m) := by
  obtain ⟨h1, h2⟩ := h
  refine ⟨by rw [List.length_take]; omega, ?_⟩
  rcases h2 with h2 | ⟨b, o, h3, h4, h5⟩
  · exact .inl (by omega)
  · refine .inr ⟨b, o, h3, h4, fun j x hj => h5 j x ?_⟩
    rw [List.getElem?_take] at hj
    split at hj
    · exact hj
    · simp at hj
theorem ReadsE.drop {b o : Nat} (h : ReadsE cs sz w (some ⟨b, o, none⟩) n xs) (m : Nat) (hm : m ≤ n) : ReadsE cs sz w (some ⟨b, o + m * sz, none⟩) (n - m) (xs.drop m) := by
  obtain ⟨h1, h2⟩ := h
  refine ⟨by rw [List.length_drop]; omega, ?_⟩
  rcases h2 with h2 | ⟨b', o', h3, h4, h5⟩
  · exact .inl (by omega)
  · simp only [Option.some.injEq, Addr.mk.injEq, and_true] at h3
    obtain ⟨rfl, rfl⟩ := h3
    refine .inr ⟨b, _, rfl, h4, fun j x hj => ?_⟩
    rw [List.getElem?_drop] at hj
    have := h5 (m + j) x hj
    rwa [Nat.add_mul, ← Nat.add_assoc] at this
end
/-- A slice among the arguments. -/
def IsEs {α : Type} (cs : α → List Value) (sz : Nat) (wf : α → Prop) (w : World) (v : Value) (xs : List α) : Prop :=
  ∃ a n c, v = .slice a n c ∧ n ≤ c ∧ c ≤ 9223372036854775807 ∧ ReadsE cs sz w a n xs ∧ ∀ x ∈ xs, wf x
theorem open_isEs {H : Type} {enc : TypeId × Value → H} {P : Program} {W : World} {r : Reach} {b0 : Nat} {t e : TypeId} {v : Value} {d : DataW H} {ps : List MemPlace} {α : Type} (cs : α → List Value) (sz : Nat) (wf : α → Prop) (D : Nat) (ls : List Leaf)
    (dec : ∀ l, Fits enc P W ls l → ∃ x, cs x = l ∧ wf x) (hsz : sz = ls.length) (hpos : 0 < sz)
    (ht : P.underlying t = some (.slice e)) (hl : leaves P D e = some ls) (hC : P.cellsOf e = ls.length)
    (hval : Value.okWide P W r b0 t v) (hd : DataW.Trod enc P W 0 (fun _ => true) true t v d ps) : ∃ xs, IsEs cs sz wf W v xs := by
  subst hsz
  obtain ⟨a, len, cap, rfl⟩ := okWide_slice ht hval
  obtain ⟨fuel, hf⟩ := hd
  rcases DataW.trod_slice ht hf with ⟨hcs, _⟩ | ⟨x, l, c, elems, rest, m, _, hcs, _, _, hl', hm, hlen, hel, _, _⟩
  · simp [Value.cells] at hcs
    obtain ⟨rfl, rfl, rfl⟩ := hcs
    exact ⟨[], none, 0, 0, rfl, by omega, by omega, ⟨rfl, .inl rfl⟩, by simp⟩
  · simp [Value.cells] at hcs
    obtain ⟨rfl, rfl, rfl⟩ := hcs
    have each : ∀ i, i < len → ∃ y : α, wf y ∧ ls.length = (cs y).length ∧ ∀ j, j < ls.length → W.cell? ((x.add (i * ls.length)).add j) = (cs y)[j]? := by
      intro i hi
      have h1 := hel i hi
      rw [List.getElem?_eq_getElem (by omega), hC, Option.bind_eq_some_iff] at h1
      obtain ⟨cs', hc', ht'⟩ := h1
      obtain ⟨_, hlc, hcell⟩ := World.cells?_some hc'
      obtain ⟨y, hy, hw⟩ := dec cs' (fits_of D e ls hl m cs' _ ht')
      exact ⟨y, hw, by rw [hy, hlc], fun j hj => by rw [hy]; exact hcell j hj⟩
    rcases Nat.eq_zero_or_pos len with h0 | h0
    · subst h0
      exact ⟨[], some x, 0, cap, rfl, by omega, by unfold maxLen at hm; omega, ⟨rfl, .inl rfl⟩, by simp⟩
    · obtain ⟨y0, hy0⟩ := each 0 h0
      have each2 : ∀ i : Nat, ∃ y : α, i < len → wf y ∧ ls.length = (cs y).length ∧ ∀ j, j < ls.length → W.cell? ((x.add (i * ls.length)).add j) = (cs y)[j]? := fun i => by
        by_cases hi : i < len
        · obtain ⟨y, h⟩ := each i hi
          exact ⟨y, fun _ => h⟩
        · exact ⟨y0, fun h => absurd h hi⟩
      let f : Nat → α := fun i => Classical.choose (each2 i)
      have hf2 : ∀ i, i < len → wf (f i) ∧ ls.length = (cs (f i)).length ∧ ∀ j, j < ls.length → W.cell? ((x.add (i * ls.length)).add j) = (cs (f i))[j]? := fun i => Classical.choose_spec (each2 i)
      refine ⟨(List.range len).map f, some x, len, cap, rfl, hl', by unfold maxLen at hm; omega, ⟨by simp, ?_⟩, fun y hy => ?_⟩
      · right
        obtain ⟨b, off, spot⟩ := x
        obtain ⟨_, hl0, hc0⟩ := hf2 0 h0
        have hc0 := hc0 0 hpos
        rw [List.getElem?_eq_getElem (by omega)] at hc0
        have hspot : spot = none := by simpa [Addr.add] using World.cell?_spot hc0
        subst hspot
        have hadd : ∀ j, (⟨b, off, none⟩ : Addr).add j = ⟨b, off + j, none⟩ := fun j => by unfold Addr.add; split <;> simp_all
        have hadd2 : ∀ j k, (⟨b, off + j, none⟩ : Addr).add k = ⟨b, off + j + k, none⟩ := fun j k => by unfold Addr.add; split <;> simp_all
        refine ⟨b, off, rfl, ?_, fun j y hj k u hk => ?_⟩
        · have := World.block_lt_of_cell? _ _ hc0
          rw [hadd] at this
          exact this
        · obtain ⟨hjl, rfl⟩ := List.getElem?_eq_some_iff.1 hj
          simp only [List.getElem_map, List.getElem_range] at hk ⊢
          have hjl2 : j < len := by simpa using hjl
          obtain ⟨_, hle, hce⟩ := hf2 j hjl2
          have hk2 : k < ls.length := by
            have := (List.getElem?_eq_some_iff.1 hk).1
            omega
          have := hce k hk2
          rw [hadd, hadd2] at this
          rw [this, hk]
      · obtain ⟨i, hi, rfl⟩ := List.mem_map.1 hy
        exact (hf2 i (List.mem_range.1 hi)).1
end
end Go.Proofs.Ytkonflbgkaflaaa
namespace Go.Proofs.Ytkonflbgkaflaaa
section
open Go.RowKit
set_option maxRecDepth 100000
set_option linter.unusedVariables false
set_option linter.unusedSimpArgs false
def litOf : Value → Lit
  | .int k n => .int k n
  | .string s => .string s.data.toList
  | .bool b => .bool b
  | _ => .bool false
/-- Leaves that can be held against each other. -/
def Leaf.flat : Leaf → Bool
  | .sl _ _ => false
  | _ => true
/-- The same as Fits, said by the values alone. -/
def Flat : List Leaf → List Value → Prop
  | [], [] => True
  | .int k :: ls, v :: vs => (∃ n, v = .int k n ∧ (Lit.int k n).wf = true) ∧ Flat ls vs
  | .str :: ls, v :: vs => (∃ s : ByteArray, v = .string s ∧ s.size ≤ maxLen) ∧ Flat ls vs
  | .bool :: ls, v :: vs => (∃ b : Bool, v = .bool b) ∧ Flat ls vs
  | _, _ => False
theorem Flat.len {ls : List Leaf} {cs : List Value} (h : Flat ls cs) : cs.length = ls.length := by
  induction ls generalizing cs with
  | nil => cases cs with
    | nil => rfl
    | cons _ _ => exact h.elim
  | cons l ls ih => cases cs with
    | nil => cases l <;> exact h.elim
    | cons v vs => cases l with
      | sl _ _ => exact h.elim
      | _ => simp [ih h.2]
theorem Flat.app {a b : List Leaf} {cs : List Value} (h : Flat (a ++ b) cs) : Flat a (cs.take a.length) ∧ Flat b (cs.drop a.length) := by
  induction a generalizing cs with
  | nil => exact ⟨by simp [Flat], h⟩
  | cons l ls ih => cases cs with
    | nil => cases l <;> exact h.elim
    | cons v vs => cases l with
      | sl _ _ => exact h.elim
      | _ => exact ⟨⟨h.1, (ih h.2).1⟩, (ih h.2).2⟩
theorem flat_inj {ls : List Leaf} {cs ds : List Value} (h : Flat ls cs) (k : Flat ls ds) (e : cs.map litOf = ds.map litOf) : cs = ds := by
  induction ls generalizing cs ds with
  | nil =>
    cases cs with
    | nil => cases ds with
      | nil => rfl
      | cons _ _ => exact k.elim
    | cons _ _ => exact h.elim
  | cons l ls ih =>
    cases cs with
    | nil => cases l <;> exact h.elim
    | cons v vs => cases ds with
      | nil => cases l <;> exact k.elim
      | cons u us =>
        simp only [List.map_cons, List.cons.injEq] at e
        cases l with
        | sl _ _ => exact h.elim
        | int kk =>
          obtain ⟨⟨n, rfl, _⟩, h2⟩ := h
          obtain ⟨⟨m, rfl, _⟩, k2⟩ := k
          have e1 := e.1
          simp only [litOf, Lit.int.injEq, true_and] at e1
          rw [ih h2 k2 e.2, e1]
        | str =>
          obtain ⟨⟨n, rfl, _⟩, h2⟩ := h
          obtain ⟨⟨m, rfl, _⟩, k2⟩ := k
          have e1 := e.1
          simp only [litOf, Lit.string.injEq] at e1
          have : n = m := ByteArray.ext (Array.ext' e1)
          rw [ih h2 k2 e.2, this]
        | bool =>
          obtain ⟨⟨n, rfl⟩, h2⟩ := h
          obtain ⟨⟨m, rfl⟩, k2⟩ := k
          have e1 := e.1
          simp only [litOf, Lit.bool.injEq] at e1
          rw [ih h2 k2 e.2, e1]
section
variable {P : Program} {w : World}
theorem lits_addLeaf (d : Nat) (rec : TypeId → Option (List Leaf)) (hrec : ∀ t ls cs, rec t = some ls → Flat ls cs → P.keyLits d t cs = some (cs.map litOf))
    (fs : List Field) (acc r : List Leaf) (cs : List Value) (h : addLeaf P rec acc fs = some r) (hf : Flat r cs) :
    ∃ xs, fs.mapM (fun f => P.keyLits d f.type ((cs.drop f.offset).take (P.cellsOf f.type))) = some xs ∧ xs.flatten = (cs.drop acc.length).map litOf ∧ ∃ s, r = acc ++ s := by
  induction fs generalizing acc with
  | nil =>
    simp only [addLeaf, Option.some.injEq] at h; subst h
    exact ⟨[], rfl, by rw [List.drop_of_length_le (by rw [hf.len]; omega)]; rfl, [], by simp⟩
  | cons f fs ih =>
    simp only [addLeaf, Option.bind_eq_some_iff] at h
    obtain ⟨l, hl, h⟩ := h
    split at h
    · rename_i hc
      obtain ⟨xs, h1, h2, s, rfl⟩ := ih _ h
      rw [List.append_assoc] at hf
      have h3 := hf.app.2.app.1
      have h4 := hrec _ _ _ hl h3
      refine ⟨(((cs.drop acc.length).take l.length).map litOf) :: xs, ?_, ?_, l ++ s, by simp⟩
      · rw [List.mapM_cons, hc.1, hc.2, h4, h1]; rfl
      · rw [List.flatten_cons, h2, List.length_append, ← List.drop_drop, ← List.map_append, List.take_append_drop]
    · simp at h
theorem lits_rep (d : Nat) (e : TypeId) (l : List Leaf) (hrec : ∀ cs, Flat l cs → P.keyLits d e cs = some (cs.map litOf)) (n m : Nat) (cs : List Value) (hf : Flat (List.replicate (m + n) l).flatten cs) :
    ∃ xs, ((List.range n).map (m + ·)).mapM (fun i => P.keyLits d e ((cs.drop (i * l.length)).take l.length)) = some xs ∧ xs.flatten = (cs.drop (m * l.length)).map litOf := by
  induction n generalizing m with
  | zero => exact ⟨[], rfl, by
      rw [List.drop_of_length_le (by rw [hf.len]; simp)]; rfl⟩
  | succ n ih =>
    have hf2 := hf
    rw [show m + (n + 1) = (m + 1) + n by omega] at hf
    obtain ⟨xs, h1, h2⟩ := ih (m + 1) hf
    rw [← List.replicate_append_replicate, List.flatten_append, List.replicate_succ, List.flatten_cons] at hf2
    have h3 := hf2.app.2.app.1
    have hlen : (List.replicate m l).flatten.length = m * l.length := by simp
    rw [hlen] at h3
    have h4 := hrec _ h3
    refine ⟨(((cs.drop (m * l.length)).take l.length).map litOf) :: xs, ?_, ?_⟩
    · rw [List.range_succ_eq_map, List.map_cons, List.mapM_cons, Nat.add_zero, h4, List.map_map]
      have e : ((m + ·) ∘ Nat.succ) = ((m + 1) + ·) := by funext i; simp [Function.comp]; omega
      rw [e, h1]; rfl
    · rw [List.flatten_cons, h2, Nat.succ_mul, ← List.drop_drop, ← List.map_append, List.take_append_drop]
theorem lits_of (d : Nat) (t : TypeId) (ls : List Leaf) (hl : leaves P d t = some ls) (hk : P.keyTypeAt d t = true) (cs : List Value) (hf : Flat ls cs) : P.keyLits d t cs = some (cs.map litOf) := by
  induction d generalizing t ls cs with
  | zero => simp [leaves] at hl
  | succ d ih =>
    unfold leaves at hl
    unfold Program.keyTypeAt at hk
    unfold Program.keyLits
    split at hl
    · rename_i k hu
      simp only [Option.some.injEq] at hl; subst hl
      match cs, hf with
      | [v], hf =>
        obtain ⟨⟨n, rfl, hw⟩, _⟩ := hf
        simp [hu, hw, litOf]
    · rename_i hu
      simp only [Option.some.injEq] at hl; subst hl
      match cs, hf with
      | [v], hf =>
        obtain ⟨⟨n, rfl, hw⟩, _⟩ := hf
        simp [hu, hw, litOf]
    · rename_i hu
      simp only [Option.some.injEq] at hl; subst hl
      match cs, hf with
      | [v], hf =>
        obtain ⟨⟨n, rfl⟩, _⟩ := hf
        simp [hu, litOf]
    · rename_i e hu
      simp only [Option.some.injEq] at hl; subst hl
      cases cs <;> exact hf.elim
    · rename_i fs hu
      rw [Option.bind_eq_some_iff] at hl
      obtain ⟨l, hl1, hl2⟩ := hl
      split at hl2
      · rename_i hc
        simp only [Option.some.injEq] at hl2; subst hl2
        simp only [hu, Bool.and_eq_true] at hk
        have hall := hk.1.1
        have hkf : ∀ f ∈ fs.toList, P.keyTypeAt d f.type = true := fun f hf' => by
          have := Array.all_eq_true_iff_forall_mem.1 hall f (Array.mem_toList_iff.1 hf')
          simp only [Bool.and_eq_true] at this
          exact this.2
        have hnm : fs.all (·.name != "_") = true := by
          rw [Array.all_eq_true_iff_forall_mem] at hall ⊢
          intro f hf'
          have := hall f hf'
          simp only [Bool.and_eq_true] at this
          exact this.1
        have key : ∃ xs, fs.toList.mapM (fun f => P.keyLits d f.type ((cs.drop f.offset).take (P.cellsOf f.type))) = some xs ∧ xs.flatten = cs.map litOf := by
          have : ∀ (gs : List Field) (acc : List Leaf), (∀ f ∈ gs, P.keyTypeAt d f.type = true) → addLeaf P (leaves P d) acc gs = some l → ∃ xs, gs.mapM (fun f => P.keyLits d f.type ((cs.drop f.offset).take (P.cellsOf f.type))) = some xs ∧ xs.flatten = (cs.drop acc.length).map litOf ∧ ∃ s, l = acc ++ s := by
            intro gs
            induction gs with
            | nil =>
              intro acc _ h
              simp only [addLeaf, Option.some.injEq] at h; subst h
              exact ⟨[], rfl, by rw [List.drop_of_length_le (by rw [hf.len]; omega)]; rfl, [], by simp⟩
            | cons f gs ihg =>
              intro acc hkg h
              simp only [addLeaf, Option.bind_eq_some_iff] at h
              obtain ⟨l1, hl, h⟩ := h
              split at h
              · rename_i hcc
                obtain ⟨xs, h1, h2, s, rfl⟩ := ihg _ (fun f hf => hkg f (List.mem_cons_of_mem _ hf)) h
                have hf2 := hf
                rw [List.append_assoc] at hf2
                have h3 := hf2.app.2.app.1
                have h4 := ih _ _ hl (hkg f (List.mem_cons_self ..)) _ h3
                refine ⟨(((cs.drop acc.length).take l1.length).map litOf) :: xs, ?_, ?_, l1 ++ s, by simp⟩
                · rw [List.mapM_cons, hcc.1, hcc.2, h4, h1]; rfl
                · rw [List.flatten_cons, h2, List.length_append, ← List.drop_drop, ← List.map_append, List.take_append_drop]
              · simp at h
          obtain ⟨xs, h1, h2, _⟩ := this fs.toList [] hkf hl1
          exact ⟨xs, h1, by simpa using h2⟩
        obtain ⟨xs, h1, h2⟩ := key
        simp only [hu]
        rw [if_pos ⟨by rw [hf.len, hc], hnm⟩, h1]
        simp [h2]
      · simp at hl2
    · rename_i k e hu
      rw [Option.bind_eq_some_iff] at hl
      obtain ⟨l, hl1, hl2⟩ := hl
      split at hl2
      · rename_i hc
        simp only [Option.some.injEq] at hl2; subst hl2
        simp only [hu] at hk
        obtain ⟨xs, h1, h2⟩ := lits_rep d e l (fun cs h => ih e l hl1 hk cs h) k 0 cs (by rw [Nat.zero_add]; exact hf)
        have e0 : (List.range k).map (0 + ·) = List.range k := by simp
        rw [e0] at h1
        rw [Nat.zero_mul, List.drop_zero] at h2
        simp only [hu]
        rw [if_pos (by rw [hf.len, hc.2]; simp), hc.1, h1]
        simp [h2]
      · simp at hl2
    · simp at hl
theorem eq_flat (d : Nat) (hd : d ≤ 10000) (t : TypeId) (ls : List Leaf) (hl : leaves P d t = some ls) (hk : P.keyTypeAt d t = true) (ha : (match P.underlying t with | some (.array _ _) | some (.struct _) => true | _ => false) = true) (hC : P.cellsOf t = ls.length)
    (cs ds : List Value) (h1 : Flat ls cs) (h2 : Flat ls ds) (w : World) : ∃ r : Bool, (Op.equalIn 10000 t (.agg cs.toArray) (.agg ds.toArray)).run P w = .ok r w ∧ (r = true ↔ cs = ds) := by
  have fm : ∀ cs : List Value, Flat ls cs → (Value.agg cs.toArray).formed P t = true := fun cs h => by
    unfold Value.formed
    split at ha
    · simp_all [h.len]
    · simp_all [h.len]
    · simp at ha
  have L := run_equalIn_deep (P := P) (10000 - d) d t hk w d d (.agg cs.toArray) (.agg ds.toArray) (cs.map litOf) (ds.map litOf) (fm cs h1) (fm ds h2) (lits_of d t ls hl hk cs h1) (lits_of d t ls hl hk ds h2)
  rw [show 10000 - d + d = 10000 by omega] at L
  obtain ⟨r, hr, hi⟩ := L
  exact ⟨r, hr, hi.trans ⟨fun e => flat_inj h1 h2 e, fun e => by rw [e]⟩⟩
theorem eql_flat (d : Nat) (hd : d ≤ 10000) (t : TypeId) (ls : List Leaf) (hl : leaves P d t = some ls) (hk : P.keyTypeAt d t = true) (ha : (match P.underlying t with | some (.array _ _) | some (.struct _) => true | _ => false) = true) (hC : P.cellsOf t = ls.length)
    (cs ds : List Value) (h1 : Flat ls cs) (h2 : Flat ls ds) (q : Prop) [Decidable q] (hq : q ↔ cs = ds) (w : World) : (binOp .eql t (.agg cs.toArray) (.agg ds.toArray)).run P w = .ok (.bool (decide q)) w ∧ (binOp .neq t (.agg cs.toArray) (.agg ds.toArray)).run P w = .ok (.bool (!decide q)) w := by
  obtain ⟨r, hr, hi⟩ := eq_flat (P := P) d hd t ls hl hk ha hC cs ds h1 h2 w
  have e : r = decide q := by
    rw [Bool.eq_iff_iff, hi, decide_eq_true_eq, hq]
  subst e
  rw [run_eql_struct, run_neq_struct, hr]
  exact ⟨rfl, rfl⟩
end
end
end Go.Proofs.Ytkonflbgkaflaaa
namespace Go.Proofs.Ytkonflbgkaflaaa
section
open Go.RowKit
set_option maxRecDepth 100000
set_option linter.unusedVariables false
set_option linter.unusedSimpArgs false
/-- What append asks of an element's type. -/
structure Ety {α : Type} (cs : α → List Value) (S T : TypeId) (sz by_ : Nat) (z : Value) : Prop where
  hS : Try.prog.underlying S = some (.slice T)
  info : (Try.prog.info? T).map (fun i => (i.zero, i.size, i.bytes)) = some (some z, sz, by_)
  hz : z.cells.size = sz
  pos : 0 < sz
  bmax : by_ ≤ 1000
  len : ∀ x, (cs x).length = sz
  one : ∀ x, ∀ u ∈ cs x, u.oneCell' = true
/-- The slice at a, n elements long, is a row of its own, in memory from B on, and holds l. -/
structure AppE {α : Type} (cs : α → List Value) (T : TypeId) (sz : Nat) (w : World) (B : Nat) (a : Option Addr) (n cap : Nat) (l : List α) : Prop where
  len : l.length = n
  le : n ≤ cap
  max : cap ≤ maxLen
  row : w.ownsRow B T sz (.slice a n cap) n (l.flatMap cs)
theorem flat_get {α : Type} (cs : α → List Value) (sz : Nat) (hcs : ∀ x, (cs x).length = sz) (l : List α) (j : Nat) (x : α) (hx : l[j]? = some x) (k : Nat) (hk : k < sz) : (l.flatMap cs)[j * sz + k]? = (cs x)[k]? := by
  induction l generalizing j with
  | nil => simp at hx
  | cons y r ih =>
    rw [List.flatMap_cons]
    cases j with
    | zero =>
      simp only [List.getElem?_cons_zero, Option.some.injEq] at hx
      subst hx
      rw [Nat.zero_mul, Nat.zero_add, List.getElem?_append_left (by rw [hcs]; exact hk)]
    | succ j =>
      have := ih j (by simpa using hx)
      rw [List.getElem?_append_right (by rw [hcs, Nat.succ_mul]; omega), hcs, Nat.succ_mul]
      rw [show j * sz + sz + k - sz = j * sz + k by omega]
      exact this
section
variable {α : Type} {cs : α → List Value} {S T : TypeId} {sz by_ : Nat} {z : Value} {w w' : World} {B : Nat} {a : Option Addr} {n cap : Nat} {l : List α}
theorem appE_nil (w : World) (B : Nat) : AppE cs T sz w B none 0 0 [] := ⟨rfl, Nat.le_refl _, by unfold maxLen; omega, World.ownsRow_nil _ _ _ _⟩
theorem AppE.below (h : AppE cs T sz w B a n cap l) (hb : Below w.heap.size w w') : AppE cs T sz w' B a n cap l :=
  ⟨h.len, h.le, h.max, h.row.kept (row := none) ⟨hb.os, hb.tape, hb.output, hb.size, fun i hi _ => hb.block i hi⟩ (by cases Value.ownBlock (.slice a n cap) <;> simp)⟩
theorem AppE.same (h : AppE cs T sz w B a n cap l) (e : w'.heap = w.heap) : AppE cs T sz w' B a n cap l :=
  ⟨h.len, h.le, h.max, by have := h.row; unfold World.ownsRow at this ⊢; rw [e]; exact this⟩
theorem AppE.mono {B' : Nat} (h : AppE cs T sz w B a n cap l) (hB : B' ≤ B) : AppE cs T sz w B' a n cap l :=
  ⟨h.len, h.le, h.max, h.row.1, h.row.2.imp_right fun ⟨g, c, cur, e1, e2, e3⟩ => ⟨g, c, cur, e1, Nat.le_trans hB e2, e3⟩⟩
theorem AppE.lt (h : AppE cs T sz w B a n cap l) : ∀ p, a = some p → p.block < w.heap.size := fun p hp => by
  subst hp
  exact (h.row.lt p.block rfl).2
theorem AppE.reads (E : ∀ x, (cs x).length = sz) (hpos : 0 < sz) (h : AppE cs T sz w B a n cap l) : ReadsE cs sz w a n l ∧ (n = 0 ∨ ∃ g, a = some ⟨g, 0, none⟩ ∧ B ≤ g) := by
  rcases Nat.eq_zero_or_pos n with h0 | hp
  · exact ⟨⟨h.len, .inl h0⟩, .inl h0⟩
  · obtain ⟨g, cap', hv, hg, hlt⟩ := h.row.form hp
    obtain rfl : a = some ⟨g, 0, none⟩ := by simp only [Value.slice.injEq] at hv; exact hv.1
    refine ⟨⟨h.len, .inr ⟨g, 0, rfl, hlt, fun j x hj k u hk => ?_⟩⟩, .inr ⟨g, rfl, hg⟩⟩
    have hl := h.len
    have hjl : j < l.length := (List.getElem?_eq_some_iff.1 hj).1
    have hks : k < sz := by have := (List.getElem?_eq_some_iff.1 hk).1; rwa [E] at this
    have hin : j * sz + k < n * sz := by
      have : (j + 1) * sz ≤ n * sz := Nat.mul_le_mul_right _ (by omega)
      rw [Nat.succ_mul] at this
      omega
    rw [Nat.zero_add, h.row.cellAt _ hin, flat_get cs sz E l j x hj k hks]
    exact hk
theorem run_append_E (E : Ety cs S T sz by_ z) (ty : TypeId) (w : World) (h : AppE cs T sz w B a n cap l) (hB : B ≤ w.heap.size) (b o m c : Nat) (ys : List α) (hn : n + m ≤ 100000) (hm : ys.length = m) (hy : ∀ j x, ys[j]? = some x → CellsAt w b (o + j * sz) (cs x)) :
    ∃ a' cap' w', (Builtin.append_ #[S, S] ty #[.slice a n cap, .slice (some ⟨b, o, none⟩) m c]).run Try.prog w = .ok (.slice a' (n + m) cap') w' ∧ AppE cs T sz w' B a' (n + m) cap' (l ++ ys) ∧ Below B w w' ∧ w.grownBy w' (Value.slice a n cap).ownBlock ∧ (a' = none ↔ a = none ∧ m = 0) := by
  obtain ⟨i, hi, hii⟩ := Option.map_eq_some_iff.1 E.info
  simp only [Prod.mk.injEq] at hii
  obtain ⟨hz, hsize, hby⟩ := hii
  have hpos := E.pos
  have hlen : (ys.flatMap cs).length = m * sz := by
    subst hm
    clear hy hn
    induction ys with
    | nil => simp
    | cons y r ih => rw [List.flatMap_cons, List.length_append, ih, E.len, List.length_cons, Nat.succ_mul]; omega
  have hnews : ∀ j u, (ys.flatMap cs)[j]? = some u → w.cell? ((⟨b, o, none⟩ : Addr).add j) = some u := fun j u hj => by
    have hjl : j < m * sz := by have := (List.getElem?_eq_some_iff.1 hj).1; omega
    have hq : j / sz < m := Nat.div_lt_of_lt_mul (by rw [Nat.mul_comm]; exact hjl)
    have hr : j % sz < sz := Nat.mod_lt _ hpos
    have hx : ys[j / sz]? = some ys[j / sz] := List.getElem?_eq_getElem (by omega)
    have e : j / sz * sz + j % sz = j := by rw [Nat.mul_comm]; exact Nat.div_add_mod j sz
    have := flat_get cs sz E.len ys (j / sz) _ hx (j % sz) hr
    rw [e, hj] at this
    have := hy _ _ hx _ _ this.symm
    rw [Nat.add_assoc, e] at this
    rw [show (⟨b, o, none⟩ : Addr).add j = ⟨b, o + j, none⟩ by unfold Addr.add; split <;> simp_all]
    exact this
  have h1 := h.row
  obtain ⟨v', w', hr, ho, hg, hnil⟩ := run_append_own (P := Try.prog) w B S ty T i z sz by_ E.hS hi hz hsize hby E.hz hpos _ n _ h1 ⟨b, o, none⟩ m c (ys.flatMap cs) hlen hnews (by
    intro u hu
    obtain ⟨x, _, hx⟩ := List.mem_flatMap.1 hu
    exact E.one x u hx) (by unfold maxLen; omega) (by
      have := E.bmax
      have : (n + m) * by_ ≤ 100000 * 1000 := Nat.mul_le_mul hn this
      omega) hB
  have hform : ∃ a' cap', v' = .slice a' (n + m) cap' ∧ n + m ≤ cap' ∧ cap' ≤ maxLen := by
    rcases ho.2 with ⟨rfl, e⟩ | ⟨g', c', cur, rfl, _, _, h3, h4, _⟩
    · exact ⟨none, 0, by rw [e], by omega, by unfold maxLen; omega⟩
    · exact ⟨_, c', rfl, h3, h4⟩
  obtain ⟨a', cap', rfl, hc1, hc2⟩ := hform
  refine ⟨a', cap', w', hr, ⟨by simp [h.len, hm], hc1, hc2, by rw [List.flatMap_append]; exact ho⟩, (Below.refl B w).grown hg hB fun k hk => (h1.lt k hk).1, hg, ?_⟩
  constructor
  · intro e
    subst e
    rcases ho.2 with ⟨_, e⟩ | ⟨g', c', cur, e, _⟩
    · have hm0 : m = 0 := by omega
      refine ⟨?_, hm0⟩
      rcases h1.2 with ⟨e2, _⟩ | ⟨g', c', cur, e2, _, _, h3, h4, _⟩
      · simp only [Value.slice.injEq] at e2; exact e2.1
      · exfalso
        have := (hnil.1 (by
          rcases ho.2 with ⟨e3, _⟩ | ⟨_, _, _, e3, _⟩
          · exact e3
          · simp at e3)).1
        rw [e2] at this
        simp at this
    · simp at e
  · rintro ⟨rfl, rfl⟩
    have h0 : Value.slice none n cap = .slice none 0 0 := by
      rcases h1.2 with ⟨e2, _⟩ | ⟨g', c', cur, e2, _⟩
      · exact e2
      · simp at e2
    have := hnil.2 ⟨h0, rfl⟩
    simp only [Value.slice.injEq] at this
    exact this.1
theorem wpList_append_E (E : Ety cs S T sz by_ z) {ops : Array Oper} {rest : List Oper} {o : Oper} {act : Act} {Q : Exit → Act → World → Prop} (hgd : o.guard = none) (s x : Operand)
    (ho : o.op = .call { callee := .builtin .append, args := #[s, x], argTypes := #[S, S] }) (w : World) (B : Nat) (a : Option Addr) (n cap : Nat) (l : List α) (hs : act.eval s = .slice a n cap) (h : AppE cs T sz w B a n cap l) (hB : B ≤ w.heap.size) (hn : n < 100000)
    (g : Nat) (c : Nat) (y : α) (hx : act.eval x = .slice (some ⟨g, 0, none⟩) 1 c) (hy : CellsAt w g 0 (cs y))
    (hK : ∀ a' cap' w', AppE cs T sz w' B a' (n + 1) cap' (l ++ [y]) → Below B w w' → wpList Try.prog ops Q rest (act.put o.dst (.slice a' (n + 1) cap')) w') : wpList Try.prog ops Q (o :: rest) act w := by
  refine wpList_plain hgd fun K hK' => ?_
  obtain ⟨a', cap', w', hrun, h1, h2, _⟩ := run_append_E E o.type w h hB g 0 1 c [y] (by omega) rfl (fun j x hj => by
    cases j with
    | zero => simp at hj; subst hj; simpa using hy
    | succ j => simp at hj)
  unfold Oper.wp
  simp [execOp, ho, resolve, invoke, builtin, hs, hx, hrun, Result.andThen]
  exact hK' _ _ (hK a' cap' w' h1 h2)
end
theorem readsE_new {α : Type} (cs : α → List Value) (sz : Nat) (E : ∀ x, (cs x).length = sz) (w : World) (xs : List α) (T : TypeId) : ReadsE cs sz (w.alloc (.cells (xs.flatMap cs).toArray T)) (some ⟨w.heap.size, 0, none⟩) xs.length xs :=
  ⟨rfl, .inr ⟨w.heap.size, 0, rfl, by simp, fun j x hj k u hk => by
    have hks : k < sz := by have := (List.getElem?_eq_some_iff.1 hk).1; rwa [E] at this
    rw [Nat.zero_add, World.cell?_alloc_new, List.getElem?_toArray, flat_get cs sz E xs j x hj k hks]
    exact hk⟩⟩
end
end Go.Proofs.Ytkonflbgkaflaaa
namespace Go.Proofs.Ytkonflbgkaflaaa
section
open Go.RowKit Go.ChangeShapes Go.WideShapes Go.Joins Go.Deep
set_option maxRecDepth 100000
set_option linter.unusedVariables false
set_option linter.unusedSimpArgs false
/-- A point. -/
structure Pt where
  series : ByteArray
  time : Int
  value : Int
  st : St
def Pt.cs (p : Pt) : List Value := [.string p.series, .int .i64 p.time, .int .i64 p.value, .int .i64 p.st.clock, .int .i64 p.st.site, .int .i64 p.st.seq]
def Pt.val (p : Pt) : Value := .agg #[.string p.series, .int .i64 p.time, .int .i64 p.value, .int .i64 p.st.clock, .int .i64 p.st.site, .int .i64 p.st.seq]
def i64 (x : Int) : Prop := -9223372036854775808 ≤ x ∧ x ≤ 9223372036854775807
def St.wf' (a : St) : Prop := i64 a.clock ∧ i64 a.site ∧ i64 a.seq
def Pt.wf (p : Pt) : Prop := p.series.size ≤ maxLen ∧ i64 p.time ∧ i64 p.value ∧ p.st.wf'
theorem wf_i64 {x : Int} (h : i64 x) : (Lit.int .i64 x).wf = true := by
  unfold i64 at h
  simp [Lit.wf, IntKind.min, IntKind.max, IntKind.signed, IntKind.bits]
  omega
theorem wf_u64 {x : Int} (h : 0 ≤ x ∧ x ≤ 18446744073709551615) : (Lit.int .u64 x).wf = true := by
  simp [Lit.wf, IntKind.min, IntKind.max, IntKind.signed, IntKind.bits]
  omega
def ptL : List Leaf := [.str, .int .i64, .int .i64, .int .i64, .int .i64, .int .i64]
theorem pt_leaves : leaves Try.prog 5 34 = some ptL := by kernel_rfl
theorem pt_flat {p : Pt} (h : p.wf) : Flat ptL p.cs := by
  obtain ⟨h1, h2, h3, h4, h5, h6⟩ := h
  exact ⟨⟨_, rfl, h1⟩, ⟨_, rfl, wf_i64 h2⟩, ⟨_, rfl, wf_i64 h3⟩, ⟨_, rfl, wf_i64 h4⟩, ⟨_, rfl, wf_i64 h5⟩, ⟨_, rfl, wf_i64 h6⟩, trivial⟩
def ptO (p : Pt) : Obj := .cells #[.string p.series, .int .i64 p.time, .int .i64 p.value, .int .i64 p.st.clock, .int .i64 p.st.site, .int .i64 p.st.seq] 34 (0, 0)
theorem pt_len (p : Pt) : p.cs.length = 6 := rfl
theorem pt_one (p : Pt) : ∀ u ∈ p.cs, u.oneCell' = true := by
  intro u hu
  simp [Pt.cs] at hu
  rcases hu with rfl | rfl | rfl | rfl | rfl | rfl <;> rfl
structure PtC (w : World) (b o : Nat) (p : Pt) : Prop where
  c0 : w.cell? ⟨b, o, none⟩ = some (.string p.series)
  c1 : w.cell? ⟨b, o + 1, none⟩ = some (.int .i64 p.time)
  c2 : w.cell? ⟨b, o + 2, none⟩ = some (.int .i64 p.value)
  c3 : w.cell? ⟨b, o + 3, none⟩ = some (.int .i64 p.st.clock)
  c4 : w.cell? ⟨b, o + 4, none⟩ = some (.int .i64 p.st.site)
  c5 : w.cell? ⟨b, o + 5, none⟩ = some (.int .i64 p.st.seq)
theorem pt_cells {w : World} {b o : Nat} {p : Pt} (h : CellsAt w b o p.cs) : PtC w b o p := ⟨h 0 _ rfl, h 1 _ rfl, h 2 _ rfl, h 3 _ rfl, h 4 _ rfl, h 5 _ rfl⟩
theorem pt_size : (Try.prog.info? 34).map (·.size) = some 6 := by kernel_rfl
theorem pt_ety : Ety Pt.cs 40 34 6 56 (.agg #[.string ⟨#[]⟩, .int .i64 0, .int .i64 0, .int .i64 0, .int .i64 0, .int .i64 0]) :=
  ⟨Try.underlying40, by kernel_rfl, rfl, by decide, by decide, pt_len, pt_one⟩
theorem fits_flat {H : Type} {enc : TypeId × Value → H} {P : Program} {w : World} {ls : List Leaf} {cs : List Value} (h : Fits enc P w ls cs) (hf : ls.all Leaf.flat = true) : Flat ls cs := by
  induction ls generalizing cs with
  | nil => cases cs with
    | nil => trivial
    | cons _ _ => exact h.elim
  | cons l ls ih =>
    simp only [List.all_cons, Bool.and_eq_true] at hf
    cases cs with
    | nil => exact h.elim
    | cons v vs => cases l with
      | sl _ _ => simp [Leaf.flat] at hf
      | int k => exact ⟨h.1, ih h.2 hf.2⟩
      | str => exact ⟨h.1, ih h.2 hf.2⟩
      | bool => exact ⟨h.1, ih h.2 hf.2⟩
theorem i64_of {n : Int} (h : (Lit.int .i64 n).wf = true) : i64 n := bounds_i64 h
theorem u64_of {n : Int} (h : (Lit.int .u64 n).wf = true) : 0 ≤ n ∧ n ≤ 18446744073709551615 := by have := bounds_u64 h; omega
theorem pt_dec {cs : List Value} (h : Flat ptL cs) : ∃ p : Pt, p.cs = cs ∧ p.wf := by
  have hl := h.len
  match cs, hl with
  | [v0, v1, v2, v3, v4, v5], _ =>
    obtain ⟨⟨s, rfl, w0⟩, ⟨n1, rfl, w1⟩, ⟨n2, rfl, w2⟩, ⟨n3, rfl, w3⟩, ⟨n4, rfl, w4⟩, ⟨n5, rfl, w5⟩, _⟩ := h
    exact ⟨⟨s, n1, n2, ⟨n3, n4, n5⟩⟩, rfl, w0, i64_of w1, i64_of w2, i64_of w3, i64_of w4, i64_of w5⟩
def IsPt (w : World) (v : Value) (p : Pt) : Prop := v = p.val ∧ p.wf
section
variable {H : Type} {enc : TypeId × Value → H} {W : World} {r : Reach} {b0 : Nat} {v : Value} {d : DataW H} {ps : List MemPlace}
theorem open_isPt (hval : Value.okWide Try.prog W r b0 34 v) (hd : DataW.Trod enc Try.prog W 0 (fun _ => true) true 34 v d ps) : ∃ p, IsPt W v p := by
  obtain ⟨cs, rfl, hf⟩ := open_fits 5 ptL pt_leaves (by kernel_rfl) hval hd
  obtain ⟨p, rfl, hok⟩ := pt_dec (fits_flat hf rfl)
  exact ⟨p, rfl, hok⟩
theorem open_isPts (hval : Value.okWide Try.prog W r b0 40 v) (hd : DataW.Trod enc Try.prog W 0 (fun _ => true) true 40 v d ps) : ∃ xs, IsEs Pt.cs 6 Pt.wf W v xs :=
  open_isEs Pt.cs 6 Pt.wf 5 ptL (fun l hl => pt_dec (fits_flat hl rfl)) rfl (by decide) Try.underlying40 pt_leaves (by kernel_rfl) hval hd
end
theorem Pt.cs_inj {a b : Pt} (h : a.cs = b.cs) : a = b := by
  obtain ⟨s, t, v, ⟨c, i, q⟩⟩ := a
  obtain ⟨s', t', v', ⟨c', i', q'⟩⟩ := b
  simp only [Pt.cs, List.cons.injEq, Value.int.injEq, Value.string.injEq, true_and, and_true] at h
  obtain ⟨rfl, rfl, rfl, rfl, rfl, rfl⟩ := h
  rfl
open Classical in
theorem eq_pt (a b : Pt) (ha : a.wf) (hb : b.wf) (w : World) : (binOp .eql 34 a.val b.val).run Try.prog w = .ok (.bool (decide (a = b))) w ∧ (binOp .neq 34 a.val b.val).run Try.prog w = .ok (.bool (!decide (a = b))) w :=
  eql_flat 5 (by decide) 34 ptL pt_leaves (by kernel_rfl) (by kernel_rfl) (by kernel_rfl) a.cs b.cs (pt_flat ha) (pt_flat hb) (a = b) ⟨fun e => by rw [e], Pt.cs_inj⟩ w
end
end Go.Proofs.Ytkonflbgkaflaaa
namespace Go.Proofs.Ytkonflbgkaflaaa
section
open Go.RowKit
set_option maxRecDepth 100000
set_option linter.unusedVariables false
set_option linter.unusedSimpArgs false
attribute [local go_sem ↓] Go.wp_at_zero Go.wp_at_succ
noncomputable def chkP (p : Pt) : Int := if nameV p.series = true ∧ clockV p.time = true then chkV p.st else 1
def eqS (a b : ByteArray) : Bool := a.toList == b.toList
def ltS (a b : ByteArray) : Bool := Op.bytesLess a.toList b.toList
def beforeV (a b : Pt) : Bool := ltS a.series b.series || (eqS a.series b.series && decide (a.time < b.time))
def newerV (a b : Pt) : Bool := (eqS a.series b.series && a.time == b.time) && lessV b.st a.st
theorem PtC.of {w wd : World} {g : Nat} {p : Pt} (h : w.heap[g]? = some (ptO p)) (e : wd.heap = w.heap) : PtC wd g 0 p := by
  have q : ∀ j v, (#[.string p.series, .int .i64 p.time, .int .i64 p.value, .int .i64 p.st.clock, .int .i64 p.st.site, .int .i64 p.st.seq] : Array Value)[j]? = some v → wd.cell? ⟨g, j, none⟩ = some v := fun j v hv => by
    simp only [World.cell?, e, h, ptO]
    exact hv
  exact ⟨q 0 _ rfl, q 1 _ rfl, q 2 _ rfl, q 3 _ rfl, q 4 _ rfl, q 5 _ rfl⟩
theorem pt_size_le {p : Pt} (h : p.wf) : p.series.size ≤ 9223372036854775807 := by have := h.1; unfold maxLen at this; omega
set_option maxHeartbeats 4000000 in
theorem chkpt_any (p : Pt) (w : World) (hp : p.wf) : Calls Try.prog 27 #[p.val] w fun e w' => e = .returned (.int .i64 (chkP p)) ∧ Below w.heap.size w w' := by
  obtain ⟨V, HV⟩ : ∃ V, Hid (V = chkP p) := ⟨_, rfl⟩
  rw [← HV.out]
  have C1 := fun wx => name_any p.series wx (pt_size_le hp)
  have C2 := fun wx => clock_any p.time wx
  have C3 := fun wx => check_any p.st wx
  have hB : Below w.heap.size w (w.alloc (ptO p)) := (Below.refl _ _).alloc (Nat.le_refl _) _
  unfold chkP at HV
  unfold ptO at hB
  generalize nameV p.series = B1 at *
  generalize clockV p.time = B2 at *
  generalize chkV p.st = K at *
  clear hp
  obtain ⟨s, t, v, c, si, q⟩ := p
  unfold Pt.val
  unfold St.val at C3
  simp only at C1 C2 C3 hB ⊢
  go_enter Try.func27, Try.ntmps27
  cases B1
  · have HV : Hid (V = 1) := HV.out.trans (if_neg (by simp))
    go_wp2_with (first | (go_at_call 18; refine (C1 _).mono ?_; rintro e wn ⟨rfl, rfl⟩))
    go_ret
    exact ⟨by rw [HV.out]; rfl, hB⟩
  · cases B2
    · have HV : Hid (V = 1) := HV.out.trans (if_neg (by simp))
      go_wp2_with (first | (go_at_call 18; refine (C1 _).mono ?_; rintro e wn ⟨rfl, rfl⟩) | (go_at_call 45; refine (C2 _).mono ?_; rintro e wn ⟨rfl, rfl⟩))
      go_ret
      exact ⟨by rw [HV.out]; rfl, hB⟩
    · have HV : Hid (V = K) := HV.out.trans (if_pos ⟨rfl, rfl⟩)
      go_wp2_with (first | (go_at_call 18; refine (C1 _).mono ?_; rintro e wn ⟨rfl, rfl⟩) | (go_at_call 45; refine (C2 _).mono ?_; rintro e wn ⟨rfl, rfl⟩) | (go_at_call 46; refine (C3 _).mono ?_; rintro e wn ⟨rfl, dn⟩))
      go_ret
      exact ⟨by rw [HV.out]; rfl, below_then hB (by simp) dn⟩
set_option maxHeartbeats 4000000 in
theorem rchkpt_any (p : Pt) (w : World) (hp : p.wf) : Calls Try.prog 28 #[p.val] w fun e w' => e = .returned (.int .i64 (chkP p)) ∧ Below w.heap.size w w' := by
  obtain ⟨V, HV⟩ : ∃ V, Hid (V = chkP p) := ⟨_, rfl⟩
  rw [← HV.out]
  have C1 := fun wx => rname_any p.series wx (pt_size_le hp)
  have C2 := fun wx => rclock_any p.time wx
  have C3 := fun wx => rcheck_any p.st wx
  have hB : Below w.heap.size w (w.alloc (ptO p)) := (Below.refl _ _).alloc (Nat.le_refl _) _
  unfold chkP at HV
  unfold ptO at hB
  have hK : chkV p.st = 0 ∨ chkV p.st = 1 := by unfold chkV; split <;> simp
  generalize nameV p.series = B1 at *
  generalize clockV p.time = B2 at *
  generalize chkV p.st = K at *
  clear hp
  obtain ⟨s, t, v, c, si, q⟩ := p
  unfold Pt.val
  unfold St.val at C3
  simp only at C1 C2 C3 hB ⊢
  go_enter Try.func28, Try.ntmps28
  cases B1
  · have HV : Hid (V = 1) := HV.out.trans (if_neg (by simp))
    go_wp2_with (first | (go_at_call 19; refine (C1 _).mono ?_; rintro e wn ⟨rfl, rfl⟩) | (go_at_call 49; refine (C2 _).mono ?_; rintro e wn ⟨rfl, rfl⟩))
    go_ret
    exact ⟨by rw [HV.out]; rfl, hB⟩
  · cases B2
    · have HV : Hid (V = 1) := HV.out.trans (if_neg (by simp))
      go_wp2_with (first | (go_at_call 19; refine (C1 _).mono ?_; rintro e wn ⟨rfl, rfl⟩) | (go_at_call 49; refine (C2 _).mono ?_; rintro e wn ⟨rfl, rfl⟩))
      go_ret
      exact ⟨by rw [HV.out]; rfl, hB⟩
    · have HV : Hid (V = K) := HV.out.trans (if_pos ⟨rfl, rfl⟩)
      rcases hK with rfl | rfl
      · go_wp2_with (first | (go_at_call 19; refine (C1 _).mono ?_; rintro e wn ⟨rfl, rfl⟩) | (go_at_call 49; refine (C2 _).mono ?_; rintro e wn ⟨rfl, rfl⟩) | (go_at_call 51; refine (C3 _).mono ?_; rintro e wn ⟨rfl, dn⟩))
        go_ret
        exact ⟨by rw [HV.out]; rfl, below_then hB (by simp) dn⟩
      · go_wp2_with (first | (go_at_call 19; refine (C1 _).mono ?_; rintro e wn ⟨rfl, rfl⟩) | (go_at_call 49; refine (C2 _).mono ?_; rintro e wn ⟨rfl, rfl⟩) | (go_at_call 51; refine (C3 _).mono ?_; rintro e wn ⟨rfl, dn⟩))
        go_ret
        exact ⟨by rw [HV.out]; rfl, below_then hB (by simp) dn⟩
set_option maxHeartbeats 4000000 in
theorem before_any (a b : Pt) (w : World) : Calls Try.prog 21 #[a.val, b.val] w fun e w' => e = .returned (.bool (beforeV a b)) ∧ Below w.heap.size w w' := by
  obtain ⟨V, HV⟩ : ∃ V, Hid (V = beforeV a b) := ⟨_, rfl⟩
  rw [← HV.out]
  have hB : Below w.heap.size w ((w.alloc (ptO a)).alloc (ptO b)) := ((Below.refl _ _).alloc (Nat.le_refl _) _).alloc (by simp) _
  unfold beforeV at HV
  unfold ptO at hB
  have E1 : eqS a.series b.series = (a.series.toList == b.series.toList) := rfl
  have E2 : ltS a.series b.series = Op.bytesLess a.series.toList b.series.toList := rfl
  generalize eqS a.series b.series = B1 at *
  generalize ltS a.series b.series = B2 at *
  replace E1 := E1.symm
  replace E2 := E2.symm
  obtain ⟨s, t, v, c, si, q⟩ := a
  obtain ⟨s', t', v', c', si', q'⟩ := b
  unfold Pt.val
  simp only at E1 E2 HV hB ⊢
  obtain ⟨T, hT⟩ : ∃ T, decide (t < t') = T := ⟨_, rfl⟩
  rw [hT] at HV
  cases B1 <;> cases B2 <;> cases T
  all_goals
    have HV := Lib.hid HV.out
    go_enter Try.func21, Try.ntmps21
    go_wp2_with fail
    go_ret
    exact ⟨by rw [HV.out]; rfl, hB⟩
set_option maxHeartbeats 4000000 in
theorem rbefore_any (a b : Pt) (w : World) : Calls Try.prog 25 #[a.val, b.val] w fun e w' => e = .returned (.bool (beforeV a b)) ∧ Below w.heap.size w w' := by
  obtain ⟨V, HV⟩ : ∃ V, Hid (V = beforeV a b) := ⟨_, rfl⟩
  rw [← HV.out]
  have hB : Below w.heap.size w ((w.alloc (ptO a)).alloc (ptO b)) := ((Below.refl _ _).alloc (Nat.le_refl _) _).alloc (by simp) _
  unfold beforeV at HV
  unfold ptO at hB
  have E1 : eqS a.series b.series = (a.series.toList == b.series.toList) := rfl
  have E2 : ltS a.series b.series = Op.bytesLess a.series.toList b.series.toList := rfl
  generalize eqS a.series b.series = B1 at *
  generalize ltS a.series b.series = B2 at *
  replace E1 := E1.symm
  replace E2 := E2.symm
  obtain ⟨s, t, v, c, si, q⟩ := a
  obtain ⟨s', t', v', c', si', q'⟩ := b
  unfold Pt.val
  simp only at E1 E2 HV hB ⊢
  obtain ⟨T, hT⟩ : ∃ T, decide (t < t') = T := ⟨_, rfl⟩
  rw [hT] at HV
  cases B1 <;> cases B2 <;> cases T
  all_goals
    have HV := Lib.hid HV.out
    go_enter Try.func25, Try.ntmps25
    go_wp2_with fail
    go_ret
    exact ⟨by rw [HV.out]; rfl, hB⟩
set_option maxHeartbeats 4000000 in
theorem newer_any (a b : Pt) (w : World) : Calls Try.prog 22 #[a.val, b.val] w fun e w' => e = .returned (.bool (newerV a b)) ∧ Below w.heap.size w w' := by
  obtain ⟨V, HV⟩ : ∃ V, Hid (V = newerV a b) := ⟨_, rfl⟩
  rw [← HV.out]
  have hB : Below w.heap.size w ((w.alloc (ptO a)).alloc (ptO b)) := ((Below.refl _ _).alloc (Nat.le_refl _) _).alloc (by simp) _
  have hK := ((Kn.start w).new' rfl (ptO a)).new' (n := w.heap.size + 1) (by simp [ptO]) (ptO b)
  have C := fun wx => less_any b.st a.st wx
  unfold newerV at HV
  have E1 : eqS a.series b.series = (a.series.toList == b.series.toList) := rfl
  generalize eqS a.series b.series = B1 at *
  replace E1 := E1.symm
  generalize lessV b.st a.st = LS at *
  unfold ptO at hB
  obtain ⟨s, t, v, c, si, q⟩ := a
  obtain ⟨s', t', v', c', si', q'⟩ := b
  unfold St.val at C
  unfold Pt.val
  simp only at E1 HV hB C ⊢
  obtain ⟨T, hT⟩ : ∃ T, (t == t') = T := ⟨_, rfl⟩
  rw [hT] at HV
  cases B1 <;> cases T
  all_goals
    have HV := Lib.hid HV.out
    clear hK
    go_enter Try.func22, Try.ntmps22
    go_wp2_with (first | (go_at_call 53; refine (C _).mono ?_; rintro e wn ⟨rfl, dn⟩; have hB := below_then hB (by simp; omega) dn))
    go_ret
    exact ⟨by rw [HV.out]; rfl, hB⟩
set_option maxHeartbeats 4000000 in
theorem rnewer_any (a b : Pt) (w : World) : Calls Try.prog 26 #[a.val, b.val] w fun e w' => e = .returned (.bool (newerV a b)) ∧ Below w.heap.size w w' := by
  obtain ⟨V, HV⟩ : ∃ V, Hid (V = newerV a b) := ⟨_, rfl⟩
  rw [← HV.out]
  have C := fun wx => rless_any b.st a.st wx
  unfold newerV at HV
  have E1 : eqS a.series b.series = (a.series.toList == b.series.toList) := rfl
  generalize eqS a.series b.series = B1 at *
  replace E1 := E1.symm
  generalize lessV b.st a.st = LS at *
  obtain ⟨T, hT⟩ : ∃ T, (a.time == b.time) = T := ⟨_, rfl⟩
  rw [hT] at HV
  unfold St.val at C
  unfold Pt.val
  go_enter Try.func26, Try.ntmps26
  go_upto_region 1 with (fail)
  generalize hw1 : (w.alloc (.cells #[.string a.series, .int .i64 a.time, .int .i64 a.value, .int .i64 a.st.clock, .int .i64 a.st.site, .int .i64 a.st.seq] 34)).alloc (.cells #[.string b.series, .int .i64 b.time, .int .i64 b.value, .int .i64 b.st.clock, .int .i64 b.st.site, .int .i64 b.st.seq] 34) = w1
  have hK : Kn w.heap.size w [(w.heap.size + 1, ptO b), (w.heap.size, ptO a)] w1 := by
    rw [← hw1]
    exact ((Kn.start w).new' rfl (ptO a)).new' (n := w.heap.size + 1) (by simp [ptO]) (ptO b)
  clear hw1
  generalize hg : w.heap.size = g at *
  obtain ⟨a0, a1, _, a3, a4, a5⟩ := PtC.of (hK.at_ (g, ptO a) (by simp)) rfl
  obtain ⟨b0, b1, _, b3, b4, b5⟩ := PtC.of (hK.at_ (g + 1, ptO b) (by simp)) rfl
  simp only [Nat.zero_add] at a1 a3 a4 a5 b1 b3 b4 b5
  go_upto_region 2 with (first | (go_at_call 58; refine (C _).mono ?_; rintro e w2 ⟨rfl, d2⟩))
  have KK := Lib.hid (hK.below d2)
  clear hK d2 a0 a1 a3 a4 a5 b0 b1 b3 b4 b5 C
  obtain ⟨a0, a1, _, a3, a4, a5⟩ := PtC.of (KK.out.at_ (g, ptO a) (by simp)) rfl
  obtain ⟨b0, b1, _, b3, b4, b5⟩ := PtC.of (KK.out.at_ (g + 1, ptO b) (by simp)) rfl
  simp only [Nat.zero_add] at a1 a3 a4 a5 b1 b3 b4 b5
  cases B1 <;> cases T
  all_goals
    have HV := Lib.hid HV.out
    go_wp2_with fail
    go_ret
    exact ⟨by rw [HV.out]; rfl, by first | exact KK.out.b | (rw [hg]; exact KK.out.b)⟩
end
end Go.Proofs.Ytkonflbgkaflaaa
namespace Go.Proofs.Ytkonflbgkaflaaa
section
open Go.ChangeShapes Go.WideShapes Go.ChangeAt Go.RowKit Go.Joins Go.Deep
set_option maxRecDepth 100000
set_option linter.unusedVariables false
set_option linter.unusedSimpArgs false
attribute [local go_sem ↓] Go.wp_at_zero Go.wp_at_succ
def recL : List Leaf := [.int .i64, .str, .int .i64, .int .i64, .int .i64, .int .i64, .int .i64, .int .i64, .sl 24 3]
theorem rec_leaves : leaves Try.prog 5 26 = some recL := by kernel_rfl
theorem leaf_ints {H : Type} {enc : TypeId × Value → H} {W : World} {v : Value} (h : LeafIs enc Try.prog W (.sl 24 3) v) : ∃ xs, IsInts .i64 W v xs := by
  obtain ⟨_, fuel, y, hf⟩ := h
  have ht := Try.underlying24
  have he := Try.underlying3
  rcases open_ints ht he (by kernel_rfl) hf with ⟨hcs, _⟩ | ⟨x, l, c, zs, hcs, _, hl, hm, hz, _, hcell, hwz⟩
  · simp only [List.cons.injEq, and_true] at hcs
    subst hcs
    exact ⟨[], none, 0, 0, rfl, by omega, by omega, ⟨rfl, .inl rfl⟩, by simp⟩
  · simp only [List.cons.injEq, and_true] at hcs
    subst hcs
    have hz' : zs.length = c := by simpa using hz
    refine ⟨zs.take l, some x, l, c, rfl, hl, by unfold maxLen at hm; omega, ⟨by rw [List.length_take]; omega, ?_⟩, fun y hy => hwz y (List.mem_of_mem_take hy)⟩
    rcases Nat.eq_zero_or_pos l with h0 | h0
    · exact .inl h0
    · right
      obtain ⟨b, off, spot⟩ := x
      have hc0 := hcell 0 (by omega)
      have hspot : spot = none := by simpa [Addr.add] using World.cell?_spot hc0
      subst hspot
      have hadd : ∀ j, (⟨b, off, none⟩ : Addr).add j = ⟨b, off + j, none⟩ := fun j => by unfold Addr.add; split <;> simp_all
      refine ⟨b, off, rfl, ?_, fun j hj => ?_⟩
      · have := World.block_lt_of_cell? _ _ hc0
        rw [hadd] at this
        exact this
      · have := hcell j (by omega)
        rw [hadd] at this
        rw [this]
        simp [List.getD_eq_getElem?_getD, hj]
structure RecA where
  r : Rc
  d : Sl
  ds : List Int
def RecA.val (x : RecA) : Value := rcVal x.r x.d
structure RecA.ok (w : World) (x : RecA) : Prop where
  wf : x.r.wf
  sl : SlR w x.d x.ds
def IsRec (w : World) (v : Value) (x : RecA) : Prop := v = x.val ∧ x.ok w
theorem maxLen_i {n : Nat} (h : n ≤ maxLen) : n ≤ 9223372036854775807 := by unfold maxLen at h; omega
theorem open_isRec {H : Type} {enc : TypeId × Value → H} {W : World} {r : Reach} {b0 : Nat} {v : Value} {d : DataW H} {ps : List MemPlace} (hval : Value.okWide Try.prog W r b0 26 v) (hd : DataW.Trod enc Try.prog W 0 (fun _ => true) true 26 v d ps) : ∃ x, IsRec W v x := by
  obtain ⟨cs, rfl, hf⟩ := open_fits 5 recL rec_leaves (by kernel_rfl) hval hd
  have hl := fits_len hf
  match cs, hl with
  | [v0, v1, v2, v3, v4, v5, v6, v7, v8], _ =>
    obtain ⟨⟨n0, rfl, w0⟩, ⟨s, rfl, w1⟩, ⟨n2, rfl, w2⟩, ⟨n3, rfl, w3⟩, ⟨n4, rfl, w4⟩, ⟨n5, rfl, w5⟩, ⟨n6, rfl, w6⟩, ⟨n7, rfl, w7⟩, hs, _⟩ := hf
    obtain ⟨xs, a, n, c, rfl, h1, h2, h3, _⟩ := leaf_ints hs
    exact ⟨⟨⟨n0, s, n2, n3, n4, ⟨n5, n6, n7⟩⟩, ⟨a, n, c⟩, xs⟩, rfl, ⟨i64_of w0, maxLen_i w1, i64_of w2, i64_of w3, i64_of w4, i64_of w5, i64_of w6, i64_of w7⟩, h3, h1, h2⟩
end
end Go.Proofs.Ytkonflbgkaflaaa
namespace Go.Proofs.Ytkonflbgkaflaaa
section
open Go.RowKit
set_option maxRecDepth 100000
set_option linter.unusedVariables false
set_option linter.unusedSimpArgs false
attribute [local go_sem ↓] Go.wp_at_zero Go.wp_at_succ
theorem sshort_any (s : ByteArray) (n : Nat) (w : World) (h0 : s.size ≤ 9223372036854775807) (h1 : n ≤ 1000) :
    Calls Try.prog 11 #[.string s, .int .i64 n] w fun e w' => e = .returned (.string (s.extract 0 n)) ∧ w = w' := by
  by_cases h : s.size ≤ n
  · have t : decide ((n : Int) < s.size) = false := decide_eq_false (by omega)
    go_enter Try.func11, Try.ntmps11
    go_wp2
    go_ret
    refine ⟨ret_str ?_, rfl⟩
    exact (extract_all s n h).symm
  · have t : decide ((n : Int) < s.size) = true := decide_eq_true (by omega)
    go_enter Try.func11, Try.ntmps11
    go_wp2
    go_ret
    refine ⟨ret_str ?_, rfl⟩
    rfl
def Sl.cut (d : Sl) : Sl := if 12 < d.n then ⟨d.a, 12, d.c⟩ else d
def RecA.small (x : RecA) : RecA := ⟨{ x.r with series := x.r.series.extract 0 60 }, x.d.cut, x.ds.take 12⟩
def Sl0 : Sl := ⟨none, 0, 0⟩
def Rc0 : Rc := ⟨0, ⟨#[]⟩, 0, 0, 0, ⟨0, 0, 0⟩⟩
theorem SlR.cut {w : World} {d : Sl} {ds : List Int} (h : SlR w d ds) : SlR w d.cut (ds.take 12) := by
  obtain ⟨⟨h1, h2⟩, h3, h4⟩ := h
  unfold Sl.cut
  split
  · refine ⟨⟨by simp; omega, ?_⟩, by simp; omega, h4⟩
    rcases h2 with h2 | ⟨b, o, e1, e2, e3⟩
    · omega
    · refine .inr ⟨b, o, e1, e2, fun j hj => ?_⟩
      simp only at hj
      rw [e3 j (by omega)]
      congr 2
      simp only [List.getD_eq_getElem?_getD, List.getElem?_take]
      rw [if_pos hj]
  · rw [List.take_of_length_le (by omega)]
    exact ⟨⟨h1, h2⟩, h3, h4⟩
theorem RecA.small_ok {w : World} {x : RecA} (h : x.ok w) : x.small.ok w := ⟨⟨h.wf.1, by
  have := h.wf.2.1
  simp only [RecA.small, ByteArray.size_extract]
  omega, h.wf.2.2⟩, h.sl.cut⟩
theorem RecA.ok.below {w w' : World} {x : RecA} (h : x.ok w) (hb : Below w.heap.size w w') : x.ok w' := ⟨h.wf, h.sl.below hb⟩
set_option maxHeartbeats 4000000 in
theorem small_any (x : RecA) (w : World) (h : x.ok w) : Calls Try.prog 10 #[x.val] w fun e w' => e = .returned x.small.val ∧ Below w.heap.size w w' := by
  obtain ⟨V, HV⟩ : ∃ V, Hid (V = x.small) := ⟨_, rfl⟩
  rw [← HV.out]
  obtain ⟨r, d, ds⟩ := x
  obtain ⟨⟨v0, v1, v2⟩, hs⟩ := h
  have HS := fun wx => sshort_any r.series 60 wx v1 (by omega)
  have hnc := hs.nc
  have hcb := hs.cb
  simp only at hnc hcb
  have hsome : 12 < d.n → ∃ b o, d.a = some ⟨b, o, none⟩ := fun h => by
    rcases hs.r.2 with h2 | ⟨b, o, e1, _⟩
    · simp only at h2; omega
    · exact ⟨b, o, e1⟩
  clear hs v0 v2
  unfold RecA.val rcVal
  simp only [rcA]
  go_enter Try.func10, Try.ntmps10
  go_upto_region 1 with fail
  generalize hw1 : World.alloc _ _ = w1
  have hK : Kn w.heap.size w [(w.heap.size, rcO r d), (w.heap.size + 1, rcO Rc0 Sl0)] w1 := by rw [← hw1]; exact (((Kn.start w).new' rfl (rcO r d)).new' (n := w.heap.size + 1) (by simp) (rcO Rc0 Sl0)).sub (by simp)
  clear hw1
  generalize hg : w.heap.size = g at *
  have c1 := (rc_cells hK.hd rfl).c1
  have f1 := hK.fz (g := g) (o := rcO r d) (by simp) 1
  go_upto_region 2 with (first | (go_at_call 11; refine (HS _).mono ?_; rintro e wn ⟨rfl, rfl⟩))
  have K2 := Kn.setCell hK (by simp only [Apart, and_true]; omega) (by omega) 1 (.string (r.series.extract 0 60)) (rcO { r with series := r.series.extract 0 60 } d) rfl
  generalize hr : ({ r with series := r.series.extract 0 60 } : Rc) = r' at *
  generalize hw2 : World.setCell _ _ _ = w2 at *
  clear hw2 c1 f1 hK HS
  have KK := Lib.hid K2
  clear K2
  have c6 := (rc_cells KK.out.hd rfl).c8
  have f6 := KK.out.fz (g := g) (o := rcO r' d) (by simp) 8
  by_cases hlt : 12 < d.n
  · obtain ⟨b, o, hb⟩ := hsome hlt
    have t1 : decide ((12 : Int) < (d.n : Int)) = true := decide_eq_true (by omega)
    have t2 : (12 : Int) ≤ (d.c : Int) := by omega
    have t3 : 12 ≤ d.c := by omega
    rw [hb] at c6
    go_upto_region 4 with fail
    have K2 := Kn.setCell KK.out (by simp only [Apart, and_true]; omega) (by omega) 8 (.slice (some ⟨b, o, none⟩) 12 d.c) (rcO r' ⟨some ⟨b, o, none⟩, 12, d.c⟩) rfl
    have HV : Hid (V = ⟨r', ⟨some ⟨b, o, none⟩, 12, d.c⟩, ds.take 12⟩) := HV.out.trans (by simp only [RecA.small, Sl.cut, if_pos hlt, hr, hb])
    generalize hw3 : World.setCell _ _ _ = w3 at *
    clear hw3
    have KK := Lib.hid K2
    clear c6 f6
    go_wp2_with (first
      | refine wpList_load_row rfl 26 _ rfl g rfl 26 (rcA r' ⟨some ⟨b, o, none⟩, 12, d.c⟩) (0, 0) _ KK.out.hd Try.underlying26 rfl (by kernel_rfl) ?_
      | refine wpList_store_row rfl 26 _ _ rfl (g + 1) (rcA r' ⟨some ⟨b, o, none⟩, 12, d.c⟩) rfl rfl 26 _ (KK.out.at_ (g + 1, rcO Rc0 Sl0) (by simp)) (by kernel_rfl) rfl (by simp [Value.oneCell', rcA]) ?_)
    have KF := Kn.setRow (KK.out.sub (m := [(g + 1, rcO Rc0 Sl0), (g, rcO r' ⟨some ⟨b, o, none⟩, 12, d.c⟩)]) (by simp)) (by simp only [Apart, and_true]; omega) (by omega) (rcO r' ⟨some ⟨b, o, none⟩, 12, d.c⟩)
    refine bodyPost_ret (v := rcVal r' ⟨some ⟨b, o, none⟩, 12, d.c⟩) (results_cell_row rfl _ _ (g + 1) 26 (rcA r' ⟨some ⟨b, o, none⟩, 12, d.c⟩) (0, 0) _ rfl KF.hd Try.underlying26 rfl (by kernel_rfl)) rfl ⟨by rw [HV.out]; rfl, by first | exact KF.b | (rw [hg]; exact KF.b)⟩
  · have t1 : decide ((12 : Int) < (d.n : Int)) = false := decide_eq_false (by omega)
    go_upto_region 4 with fail
    have HV : Hid (V = ⟨r', d, ds.take 12⟩) := HV.out.trans (by simp only [RecA.small, Sl.cut, if_neg hlt, hr])
    clear c6 f6
    go_wp2_with (first
      | refine wpList_load_row rfl 26 _ rfl g rfl 26 (rcA r' d) (0, 0) _ KK.out.hd Try.underlying26 rfl (by kernel_rfl) ?_
      | refine wpList_store_row rfl 26 _ _ rfl (g + 1) (rcA r' d) rfl rfl 26 _ (KK.out.at_ (g + 1, rcO Rc0 Sl0) (by simp)) (by kernel_rfl) rfl (by simp [Value.oneCell', rcA]) ?_)
    have KF := Kn.setRow (KK.out.sub (m := [(g + 1, rcO Rc0 Sl0), (g, rcO r' d)]) (by simp)) (by simp only [Apart, and_true]; omega) (by omega) (rcO r' d)
    refine bodyPost_ret (v := rcVal r' d) (results_cell_row rfl _ _ (g + 1) 26 (rcA r' d) (0, 0) _ rfl KF.hd Try.underlying26 rfl (by kernel_rfl)) rfl ⟨by rw [HV.out]; rfl, by first | exact KF.b | (rw [hg]; exact KF.b)⟩
end
end Go.Proofs.Ytkonflbgkaflaaa
namespace Go.Proofs.Ytkonflbgkaflaaa
section
open Go.RowKit Go.Deep
set_option maxRecDepth 100000
set_option linter.unusedVariables false
set_option linter.unusedSimpArgs false
attribute [local go_sem ↓] Go.wp_at_zero Go.wp_at_succ
def fewP (x : Pt) : Pt := { x with series := x.series.extract 0 60 }
def fewV (l : List Pt) : List Pt := (l.take 30).map fewP
theorem few_len (l : List Pt) : (fewV l).length = min 30 l.length := by simp [fewV]
theorem few_next (l : List Pt) (k : Nat) (p : Pt) (hk : k < 30) (h : l[k]? = some p) : (fewV l).take (k + 1) = (fewV l).take k ++ [fewP p] := by
  have h1 : (fewV l)[k]? = some (fewP p) := by
    unfold fewV
    rw [List.getElem?_map, List.getElem?_take_of_lt hk, h]
    rfl
  obtain ⟨h2, h3⟩ := List.getElem?_eq_some_iff.1 h1
  rw [List.take_succ_eq_append_getElem h2, h3]
theorem few_wf (l : List Pt) (h : ∀ p ∈ l, p.wf) : ∀ p ∈ fewV l, p.wf ∧ p.series.size ≤ 60 := by
  intro p hp
  obtain ⟨q, hq, rfl⟩ := List.mem_map.1 hp
  obtain ⟨h1, h2, h3, h4⟩ := h q (List.mem_of_mem_take hq)
  have : (fewP q).series.size ≤ 60 := by simp only [fewP, ByteArray.size_extract]; omega
  exact ⟨⟨by unfold maxLen; omega, h2, h3, h4⟩, this⟩
set_option maxHeartbeats 4000000 in
theorem sfew_any (a0 : Option Addr) (n c : Nat) (xs : List Pt) (w : World) (h : ReadsE Pt.cs 6 w a0 n xs) (hwf : ∀ x ∈ xs, x.wf) (hnc : n ≤ c) (hcb : c ≤ 9223372036854775807) : Calls Try.prog 20 #[.slice a0 n c] w fun e w' =>
    ∃ a' c', e = .returned (.slice a' (fewV xs).length c') ∧ AppE Pt.cs 34 6 w' w.heap.size a' (fewV xs).length c' (fewV xs) ∧ Below w.heap.size w w' := by
  have hlen := h.1
  have H := Lib.hid h
  obtain ⟨m, HM⟩ : ∃ m, Hid (min 30 n = m) := ⟨_, rfl⟩
  have hm := HM.out
  have hR : (fewV xs).length = m := by rw [few_len, hlen]; exact HM.out
  rw [hR]
  have HR := Lib.hid hR
  have hmn : m ≤ n ∧ m ≤ 30 := by omega
  have hmi : ∀ k : Nat, k < m ↔ (k < n ∧ k < 30) := fun k => by omega
  have HMI := Lib.hid hmi
  clear h hm hR hmi
  go_enter Try.func20, Try.ntmps20
  go_wp2_with fail
  go_loopw [3, 4] (fun out i wr => ∃ (k cap : Nat) (a2 : Option Addr), k ≤ m ∧ i = .int .i64 k ∧ out = .slice a2 k cap ∧ AppE Pt.cs 34 6 wr w.heap.size a2 k cap ((fewV xs).take k) ∧ Below w.heap.size w wr) (fun _ i _ => 41 - (intOf i).toNat)
  case atStart => exact ⟨0, 0, none, by omega, rfl, rfl, by rw [List.take_zero]; exact appE_nil _ _, Below.refl _ _⟩
  case round =>
    obtain ⟨k, cap, a2, hkm, rfl, rfl, hA, hbel⟩ := hrel
    have A := Lib.hid hA
    clear hA
    by_cases hlt : k < m
    · have t1 : decide ((k : Int) < (n : Int)) = true := decide_eq_true (by omega)
      have t2 : decide ((k : Int) < 30) = true := decide_eq_true (by omega)
      obtain ⟨b, o, x, rfl, hbl, hx, hC⟩ := H.out.at hbel k (by omega)
      have hxw := hwf x (List.mem_of_getElem? hx)
      obtain ⟨c0, c1, c2, c3, c4, c5⟩ := pt_cells hC
      have i1 : (0 : Int) ≤ (k : Int) := by omega
      have i2 : (k : Int) < (n : Int) := by omega
      have HN := Lib.hid (few_next xs k x (by omega) hx)
      have hz := hbel.size
      have HS := fun wx => sshort_any x.series 60 wx (pt_size_le hxw) (by omega)
      clear hC
      go_upto_region 6 with (fail)
      have K1 := (Kn.start wr).new (ptO x)
      have u0 : (wr.alloc (.cells #[.string x.series, .int .i64 x.time, .int .i64 x.value, .int .i64 x.st.clock, .int .i64 x.st.site, .int .i64 x.st.seq] 34)).cell? ⟨wr.heap.size, 0, none⟩ = some (.string x.series) := K1.cell (g := wr.heap.size) (o := ptO x) (by simp) rfl
      have u1 : (wr.alloc (.cells #[.string x.series, .int .i64 x.time, .int .i64 x.value, .int .i64 x.st.clock, .int .i64 x.st.site, .int .i64 x.st.seq] 34)).frozen? ⟨wr.heap.size, 0, none⟩ = false := K1.fz (g := wr.heap.size) (o := ptO x) (by simp) 0
      have K2 := Kn.setCell K1 (by simp only [Apart]) (Nat.le_refl _) 0 (.string (x.series.extract 0 60)) (ptO (fewP x)) rfl
      unfold ptO at K2
      simp only [fewP] at K2
      generalize hw2 : wr.alloc (.cells #[.string x.series, .int .i64 x.time, .int .i64 x.value, .int .i64 x.st.clock, .int .i64 x.st.site, .int .i64 x.st.seq] 34) = w2 at *
      clear c0 c1 c2 c3 c4 c5 K1 hw2
      go_upto_region 7 with (first | (go_at_call 11; refine (HS _).mono ?_; rintro e wn ⟨rfl, rfl⟩))
      generalize hw3 : World.setCell _ _ _ = w3 at *
      have KK := Lib.hid K2
      clear hw3 u0 u1 K2 HS
      have A1 := Lib.hid (A.out.below KK.out.b)
      have hB1 : Below w.heap.size w w3 := below_then hbel hz KK.out.b
      have hlt3 := KK.out.fresh
      have q : ∀ j v, (#[.string (x.series.extract 0 60), .int .i64 x.time, .int .i64 x.value, .int .i64 x.st.clock, .int .i64 x.st.site, .int .i64 x.st.seq] : Array Value)[j]? = some v → w3.cell? ⟨wr.heap.size, j, none⟩ = some v := fun j v hv => by have := KK.out.hd; simp only [World.cell?, this]; exact hv
      have c0 := q 0 _ rfl
      have c1 := q 1 _ rfl
      have c2 := q 2 _ rfl
      have c3 := q 3 _ rfl
      have c4 := q 4 _ rfl
      have c5 := q 5 _ rfl
      clear q KK A
      generalize hgp : wr.heap.size = p at *
      have hs2 : w.heap.size ≤ w3.heap.size := hB1.size
      go_wp2_with (at_builtin; refine wpList_append_E pt_ety rfl _ _ rfl _ w.heap.size a2 k cap ((fewV xs).take k) rfl (A1.out.below ?q1) ?q2 ?q3 w3.heap.size 1 (fewP x) rfl ?q4 ?q5)
      case q1 => exact (Below.refl _ _).alloc (Nat.le_refl _) _
      case q2 => simp; omega
      case q3 => omega
      case q4 =>
        intro j u hj
        rw [Nat.zero_add, World.cell?_alloc_new]
        show (fewP x).cs.toArray[j]? = some u
        simpa using hj
      case q5 =>
        intro a3 cap3 w5 hA5 hb5
        have FIN := Lib.hid (And.intro hA5 (hB1.trans (((Below.refl w.heap.size w3).alloc (by omega) _).trans hb5)))
        clear hA5 hb5
        go_wp2_with fail
        go_roundw
        case rel => exact ⟨k + 1, cap3, a3, by omega, by go_num, rfl, by rw [HN.out]; exact FIN.out.1, FIN.out.2⟩
        case measure => simp [intOf]; omega
    · obtain rfl : k = m := by omega
      have FIN := Lib.hid (And.intro A.out hbel)
      have HT : Hid ((fewV xs).take k = fewV xs) := List.take_of_length_le (by rw [HR.out]; omega)
      have hor : ¬ (k < n ∧ k < 30) := fun h => hlt ((HMI.out k).2 h)
      by_cases hkn : k < n
      · have t1 : decide ((k : Int) < (n : Int)) = true := decide_eq_true (by omega)
        have t2 : decide ((k : Int) < 30) = false := decide_eq_false (by omega)
        clear hor
        go_wp2_with fail
        go_ret
        exact ⟨a2, cap, rfl, by rw [← HT.out]; exact FIN.out.1, FIN.out.2⟩
      · have t1 : decide ((k : Int) < (n : Int)) = false := decide_eq_false (by omega)
        clear hor
        go_wp2_with fail
        go_ret
        exact ⟨a2, cap, rfl, by rw [← HT.out]; exact FIN.out.1, FIN.out.2⟩
end
end Go.Proofs.Ytkonflbgkaflaaa
namespace Go.Proofs.Ytkonflbgkaflaaa
section
set_option maxRecDepth 100000
set_option linter.unusedVariables false
set_option linter.unusedSimpArgs false
def stL (a : St) : List UInt8 := putB 9 a.clock ++ (putB 9 a.site ++ putB 9 a.seq)
def stsL (l : List St) : List UInt8 := l.flatMap stL
theorem stsL_append (l m : List St) : stsL (l ++ m) = stsL l ++ stsL m := by simp [stsL]
theorem stsL_one (a : St) : stsL [a] = stL a := by simp [stsL]
theorem stL_len (a : St) : 3 ≤ (stL a).length ∧ (stL a).length ≤ 30 := by
  have h1 := putB_le a.clock
  have h2 := putB_le a.site
  have h3 := putB_le a.seq
  have k1 := putI_pos 9 a.clock
  have k2 := putI_pos 9 a.site
  have k3 := putI_pos 9 a.seq
  have b : ∀ x, (putB 9 x).length = (putI 9 x).length := fun x => by simp [putB]
  have b1 := b a.clock
  have b2 := b a.site
  have b3 := b a.seq
  simp only [stL, List.length_append]
  omega
theorem stsL_len (l : List St) : (stsL l).length ≤ 30 * l.length := by
  induction l with
  | nil => simp [stsL]
  | cons x r ih =>
    have := (stL_len x).2
    rw [show x :: r = [x] ++ r from rfl, stsL_append, stsL_one, List.length_append, List.length_append]
    simp; omega
theorem stB_data (a : St) (h : okV a = true) : stB a = ⟨(stL a).toArray⟩ := by
  unfold stB
  rw [if_pos h]
  apply ByteArray.ext
  apply Array.ext'
  rw [ByteArray.data_append, ByteArray.data_append, Array.toList_append, Array.toList_append, vput_data, vput_data, vput_data, List.append_assoc]
  rfl
theorem take_at {r : Rdr} {a : St} {t : List UInt8} (hr : r.ok) (hb : r.bad = false) (ha : okV a = true) (h : r.rest = stL a ++ t) : (takeV r).1 = a ∧ (takeV r).2.bad = false ∧ (takeV r).2.rest = t := by
  obtain ⟨⟨a1, a2⟩, ⟨a3, a4⟩, a5, a6⟩ := okV_range ha
  unfold stL at h
  rw [List.append_assoc, List.append_assoc] at h
  obtain ⟨s1, s2, s3⟩ := small_at (most := 1099511627776) hr hb h (by omega) (by omega) (by decide)
  have k1 := Rdr.small_ok hr 1099511627776
  obtain ⟨q1, q2, q3⟩ := small_at (most := 7) k1.1 s2 s3 (by omega) (by omega) (by decide)
  have k2 := Rdr.small_ok k1.1 7
  obtain ⟨p1, p2, p3⟩ := small_at (most := 1099511627776) k2.1 q2 q3 (by omega) (by omega) (by decide)
  have e : takeP r = (a, (((r.small 1099511627776).2.small 7).2.small 1099511627776).2) := by
    unfold takeP
    rw [s1, q1, p1]
  unfold takeV
  rw [e]
  simp only
  rw [if_pos ha]
  exact ⟨rfl, p2, p3⟩
theorem take_end {r : Rdr} (hr : r.ok) (hb : r.bad = false) (h : r.rest = []) : (takeV r).1 = ⟨0, 0, 0⟩ ∧ (takeV r).2.bad = true := by
  have hbad : (r.small 1099511627776).2.bad = true := by
    rcases hh : (r.small 1099511627776).2.bad with _ | _
    · have := (small_good hr hh).2.2.2
      rw [h] at this
      have k := putI_pos 9 (r.small 1099511627776).1
      have b : (putB 9 (r.small 1099511627776).1).length = (putI 9 (r.small 1099511627776).1).length := by simp [putB]
      have := congrArg List.length this
      simp at this
      omega
    · rfl
  have h0 := Rdr.small_bad 1099511627776 hbad
  have hno : ¬ okV (takeP r).1 = true := by
    intro hk
    have := (okV_range hk).1.1
    have e : (takeP r).1.clock = (r.small 1099511627776).1 := rfl
    omega
  unfold takeV
  rw [if_neg hno]
  refine ⟨rfl, ?_⟩
  unfold Rdr.small
  rw [if_pos (.inr (.inl (by decide)))]
/-- The first k takes. -/
def takes : Nat → Rdr → Rdr
  | 0, r => r
  | k + 1, r => (takeV (takes k r)).2
theorem takes_ok {r : Rdr} (hr : r.ok) (k : Nat) : (takes k r).ok := by
  induction k with
  | zero => exact hr
  | succ k ih => exact (takeV_ok ih).1
theorem takes_at (l : List St) (hl : ∀ a ∈ l, okV a = true) {r : Rdr} (hr : r.ok) (hb : r.bad = false) (h : r.rest = stsL l) (k : Nat) (hk : k ≤ l.length) : (takes k r).bad = false ∧ (takes k r).rest = stsL (l.drop k) := by
  induction k with
  | zero => exact ⟨hb, by simpa [takes] using h⟩
  | succ k ih =>
    obtain ⟨i1, i2⟩ := ih (by omega)
    have hlt : k < l.length := by omega
    rw [List.drop_eq_getElem_cons hlt, show l[k] :: l.drop (k + 1) = [l[k]] ++ l.drop (k + 1) from rfl, stsL_append, stsL_one] at i2
    obtain ⟨t1, t2, t3⟩ := take_at (takes_ok hr k) i1 (hl _ (List.getElem_mem hlt)) i2
    exact ⟨t2, t3⟩
theorem takes_next (l : List St) (hl : ∀ a ∈ l, okV a = true) {r : Rdr} (hr : r.ok) (hb : r.bad = false) (h : r.rest = stsL l) (k : Nat) (hk : k < l.length) : (takeV (takes k r)).1 = l.getD k ⟨0, 0, 0⟩ := by
  obtain ⟨i1, i2⟩ := takes_at l hl hr hb h k (by omega)
  rw [List.drop_eq_getElem_cons hk, show l[k] :: l.drop (k + 1) = [l[k]] ++ l.drop (k + 1) from rfl, stsL_append, stsL_one] at i2
  rw [(take_at (takes_ok hr k) i1 (hl _ (List.getElem_mem hk)) i2).1]
  simp [List.getD_eq_getElem?_getD, hk]
end
end Go.Proofs.Ytkonflbgkaflaaa
namespace Go.Proofs.Ytkonflbgkaflaaa
section
open Go.RowKit
set_option maxRecDepth 100000
set_option linter.unusedVariables false
set_option linter.unusedSimpArgs false
set_option maxHeartbeats 2000000 in
theorem rrdr_text (g : Nat) (r : Rdr) (w : World) (h : RdrAt 91 w g r) (hr : r.ok) :
    Calls Try.prog 70 #[.pointer (some ⟨g, 0, none⟩)] w fun e w' => e = .returned (.string r.text.1) ∧ RdrAt 91 w' g r.text.2 ∧ But g w w' := by
  have hk := Rdr.num_ok hr
  go_enter Try.func70, Try.ntmps70
  go_wp2_with fail
  refine (rrdr_num g r _ h hr).mono ?_
  rintro e w1 ⟨rfl, h1, hb1⟩
  have HS : Hid (r.text = if r.num.2.bad = true ∨ r.num.2.left < r.num.1 then (⟨#[]⟩, { r.num.2 with bad := true }) else
    (r.num.2.s.extract r.num.2.pos.toNat (r.num.2.pos + r.num.1).toNat, { r.num.2 with pos := r.num.2.pos + r.num.1 })) := by
    show r.text = _
    unfold Rdr.text
    rw [hk.2.2.2]
  generalize r.num = q at *
  obtain ⟨v, r1⟩ := q
  simp only at h1 hk
  have HK := Lib.hid hk
  have hv0 := hk.2.1
  have hpos := hk.1.2.1
  have hpos2 := hk.1.2.2
  have hbig := hk.1.1
  clear hk h hr
  have c0 := h1.c0
  have c1 := h1.c1
  have c2 := h1.c2
  have H1 := Lib.hid h1
  clear h1
  cases hbd : r1.bad
  · have HL : Hid (r1.left = (r1.s.size : Int) - r1.pos) := by show r1.left = _; unfold Rdr.left; rw [if_neg (by rw [hbd]; decide)]
    rw [hbd] at c2
    have hw1 : IntKind.i64.wrap ((r1.s.size : Int) - r1.pos) = (r1.s.size : Int) - r1.pos := IntWalk.i64_in _ (by omega)
    have hw2 : IntKind.u64.wrap ((r1.s.size : Int) - r1.pos) = (r1.s.size : Int) - r1.pos := by rw [wrap_u64]; omega
    by_cases hle : v ≤ (r1.s.size : Int) - r1.pos
    · have t1 : decide ((r1.s.size : Int) - r1.pos < v) = false := decide_eq_false (by omega)
      have HS2 := Lib.hid (HS.out.trans (if_neg (show ¬ (r1.bad = true ∨ r1.left < v) by rw [hbd, HL.out]; simp; omega)))
      have hw4 : wrap64 v = v := IntWalk.wrap64_in v ⟨by omega, by omega⟩
      have hw5 : IntKind.i64.wrap v = v := IntWalk.i64_in v ⟨by omega, by omega⟩
      have hw6 : IntKind.i64.wrap (r1.pos + v) = r1.pos + v := IntWalk.i64_in _ ⟨by omega, by omega⟩
      have hn3 : 0 ≤ r1.pos + v := by omega
      have hsl := str_slice (P := Try.prog) (T := 9) Try.underlying9 r1.s r1.pos (r1.pos + v) r1.pos.toNat (r1.pos + v).toNat (by omega) (by omega) (by omega) (by omega)
      clear hbd
      go_wp2
      go_quiet (fail)
      have h4 : RdrAt 91 (w1.drewN nq) g r1 := H1.out
      have hb4 : But g w (w1.drewN nq) := hb1.trans (But.drewN g nq _)
      clear c0 c1 c2
      generalize w1.drewN nq = w5 at *
      have d0 := h4.c0
      have d1 := h4.c1
      have H4 := Lib.hid h4
      clear h4
      go_wp2
      go_quiet (fail)
      have h6 : RdrAt 91 (w5.drewN nq) g r1 := H4.out
      have hb6 : But g w (w5.drewN nq) := hb4.trans (But.drewN g nq _)
      clear d0 d1
      generalize w5.drewN nq = w6 at *
      have e1 := h6.c1
      have f1 := h6.fz 1
      go_wp2
      go_ret
      rw [HS2.out]
      exact ⟨rfl, h6.set1 _, hb6.trans (But.set g 1 _ _)⟩
    · have t1 : decide ((r1.s.size : Int) - r1.pos < v) = true := decide_eq_true (by omega)
      have HS2 := Lib.hid (HS.out.trans (if_pos (show (r1.bad = true ∨ r1.left < v) by rw [HL.out]; right; omega)))
      clear hbd
      go_wp2
      go_quiet (fail)
      have h4 : RdrAt 91 (w1.drewN nq) g r1 := H1.out
      have hb4 : But g w (w1.drewN nq) := hb1.trans (But.drewN g nq _)
      generalize w1.drewN nq = w5 at *
      have d2 := h4.c2
      have f2 := h4.fz 2
      go_wp2
      go_ret
      rw [HS2.out]
      exact ⟨rfl, h4.set2 true, hb4.trans (But.set g 2 _ _)⟩
  · have HS2 := Lib.hid (HS.out.trans (if_pos (show (r1.bad = true ∨ r1.left < v) by rw [hbd]; simp)))
    rw [hbd] at c2
    clear hbd
    go_wp2
    go_quiet (fail)
    have h4 : RdrAt 91 (w1.drewN nq) g r1 := H1.out
    have hb4 : But g w (w1.drewN nq) := hb1.trans (But.drewN g nq _)
    generalize w1.drewN nq = w5 at *
    have d2 := h4.c2
    have f2 := h4.fz 2
    go_wp2
    go_ret
    rw [HS2.out]
    exact ⟨rfl, h4.set2 true, hb4.trans (But.set g 2 _ _)⟩
end
end Go.Proofs.Ytkonflbgkaflaaa
