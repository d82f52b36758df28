/- '==' of structs and arrays whose leaves are numbers, texts and bools: whether the cells are the same. A list of one's own, of elements of several cells, that grows by append. Points: their cells; among the arguments; held against each other. A record among the arguments; the law's short, small. -/
import Derived.Test.YtglabahbklpocaaGreatGShipPacks8
import Derived.Laws.StructEq
import Derived.DeepKeys
import Derived.Laws.AppendOwn
import Derived.Laws.OwnMore
import Derived.Deep.AppendLies
import Derived.Test.YtglabahbklpocaaGreatGShipPacks5
import Derived.OpenShut
import Derived.ProofKit
import Derived.Lib.SmallJoins
namespace Go.Proofs.YtglabahbklpocaaGreat
section
open Go.RowKit
set_option maxRecDepth 100000
set_option linter.unusedVariables false
set_option linter.unusedSimpArgs false
def litOf : Value → Lit
  | .int k n => .int k n
  | .string s => .string s.data.toList
  | .bool b => .bool b
  | _ => .bool false
/-- The same as Fits, said by the values alone. -/
def Flat : List Leaf → List Value → Prop
  | [], [] => True
  | .int k :: ls, v :: vs => (∃ n, v = .int k n ∧ (Lit.int k n).wf = true) ∧ Flat ls vs
  | .str :: ls, v :: vs => (∃ s : ByteArray, v = .string s ∧ s.size ≤ maxLen) ∧ Flat ls vs
  | .bool :: ls, v :: vs => (∃ b : Bool, v = .bool b) ∧ Flat ls vs
  | _, _ => False
theorem Flat.len {ls : List Leaf} {cs : List Value} (h : Flat ls cs) : cs.length = ls.length := by
  induction ls generalizing cs with
  | nil => cases cs with
    | nil => rfl
    | cons _ _ => exact h.elim
  | cons l ls ih => cases cs with
    | nil => cases l <;> exact h.elim
    | cons v vs => cases l with
      | sl _ _ => exact h.elim
      | _ => simp [ih h.2]
theorem Flat.app {a b : List Leaf} {cs : List Value} (h : Flat (a ++ b) cs) : Flat a (cs.take a.length) ∧ Flat b (cs.drop a.length) := by
  induction a generalizing cs with
  | nil => exact ⟨by simp [Flat], h⟩
  | cons l ls ih => cases cs with
    | nil => cases l <;> exact h.elim
    | cons v vs => cases l with
      | sl _ _ => exact h.elim
      | _ => exact ⟨⟨h.1, (ih h.2).1⟩, (ih h.2).2⟩
theorem flat_inj {ls : List Leaf} {cs ds : List Value} (h : Flat ls cs) (k : Flat ls ds) (e : cs.map litOf = ds.map litOf) : cs = ds := by
  induction ls generalizing cs ds with
  | nil =>
    cases cs with
    | nil => cases ds with
      | nil => rfl
      | cons _ _ => exact k.elim
    | cons _ _ => exact h.elim
  | cons l ls ih =>
    cases cs with
    | nil => cases l <;> exact h.elim
    | cons v vs => cases ds with
      | nil => cases l <;> exact k.elim
      | cons u us =>
        simp only [List.map_cons, List.cons.injEq] at e
        cases l with
        | sl _ _ => exact h.elim
        | int kk =>
          obtain ⟨⟨n, rfl, _⟩, h2⟩ := h
          obtain ⟨⟨m, rfl, _⟩, k2⟩ := k
          have e1 := e.1
          simp only [litOf, Lit.int.injEq, true_and] at e1
          rw [ih h2 k2 e.2, e1]
        | str =>
          obtain ⟨⟨n, rfl, _⟩, h2⟩ := h
          obtain ⟨⟨m, rfl, _⟩, k2⟩ := k
          have e1 := e.1
          simp only [litOf, Lit.string.injEq] at e1
          have : n = m := ByteArray.ext (Array.ext' e1)
          rw [ih h2 k2 e.2, this]
        | bool =>
          obtain ⟨⟨n, rfl⟩, h2⟩ := h
          obtain ⟨⟨m, rfl⟩, k2⟩ := k
          have e1 := e.1
          simp only [litOf, Lit.bool.injEq] at e1
          rw [ih h2 k2 e.2, e1]
section
variable {P : Program} {w : World}
theorem lits_rep (d : Nat) (e : TypeId) (l : List Leaf) (hrec : ∀ cs, Flat l cs → P.keyLits d e cs = some (cs.map litOf)) (n m : Nat) (cs : List Value) (hf : Flat (List.replicate (m + n) l).flatten cs) :
    ∃ xs, ((List.range n).map (m + ·)).mapM (fun i => P.keyLits d e ((cs.drop (i * l.length)).take l.length)) = some xs ∧ xs.flatten = (cs.drop (m * l.length)).map litOf := by
  induction n generalizing m with
  | zero => exact ⟨[], rfl, by
      rw [List.drop_of_length_le (by rw [hf.len]; simp)]; rfl⟩
  | succ n ih =>
    have hf2 := hf
    rw [show m + (n + 1) = (m + 1) + n by omega] at hf
    obtain ⟨xs, h1, h2⟩ := ih (m + 1) hf
    rw [← List.replicate_append_replicate, List.flatten_append, List.replicate_succ, List.flatten_cons] at hf2
    have h3 := hf2.app.2.app.1
    have hlen : (List.replicate m l).flatten.length = m * l.length := by simp
    rw [hlen] at h3
    have h4 := hrec _ h3
    refine ⟨(((cs.drop (m * l.length)).take l.length).map litOf) :: xs, ?_, ?_⟩
    · rw [List.range_succ_eq_map, List.map_cons, List.mapM_cons, Nat.add_zero, h4, List.map_map]
      have e : ((m + ·) ∘ Nat.succ) = ((m + 1) + ·) := by funext i; simp [Function.comp]; omega
      rw [e, h1]; rfl
    · rw [List.flatten_cons, h2, Nat.succ_mul, ← List.drop_drop, ← List.map_append, List.take_append_drop]
theorem lits_of (d : Nat) (t : TypeId) (ls : List Leaf) (hl : leaves P d t = some ls) (hk : P.keyTypeAt d t = true) (cs : List Value) (hf : Flat ls cs) : P.keyLits d t cs = some (cs.map litOf) := by
  induction d generalizing t ls cs with
  | zero => simp [leaves] at hl
  | succ d ih =>
    unfold leaves at hl
    unfold Program.keyTypeAt at hk
    unfold Program.keyLits
    split at hl
    · rename_i k hu
      simp only [Option.some.injEq] at hl; subst hl
      match cs, hf with
      | [v], hf =>
        obtain ⟨⟨n, rfl, hw⟩, _⟩ := hf
        simp [hu, hw, litOf]
    · rename_i hu
      simp only [Option.some.injEq] at hl; subst hl
      match cs, hf with
      | [v], hf =>
        obtain ⟨⟨n, rfl, hw⟩, _⟩ := hf
        simp [hu, hw, litOf]
    · rename_i hu
      simp only [Option.some.injEq] at hl; subst hl
      match cs, hf with
      | [v], hf =>
        obtain ⟨⟨n, rfl⟩, _⟩ := hf
        simp [hu, litOf]
    · rename_i e hu
      simp only [Option.some.injEq] at hl; subst hl
      cases cs <;> exact hf.elim
    · rename_i fs hu
      rw [Option.bind_eq_some_iff] at hl
      obtain ⟨l, hl1, hl2⟩ := hl
      split at hl2
      · rename_i hc
        simp only [Option.some.injEq] at hl2; subst hl2
        simp only [hu, Bool.and_eq_true] at hk
        have hall := hk.1.1
        have hkf : ∀ f ∈ fs.toList, P.keyTypeAt d f.type = true := fun f hf' => by
          have := Array.all_eq_true_iff_forall_mem.1 hall f (Array.mem_toList_iff.1 hf')
          simp only [Bool.and_eq_true] at this
          exact this.2
        have hnm : fs.all (·.name != "_") = true := by
          rw [Array.all_eq_true_iff_forall_mem] at hall ⊢
          intro f hf'
          have := hall f hf'
          simp only [Bool.and_eq_true] at this
          exact this.1
        have key : ∃ xs, fs.toList.mapM (fun f => P.keyLits d f.type ((cs.drop f.offset).take (P.cellsOf f.type))) = some xs ∧ xs.flatten = cs.map litOf := by
          have : ∀ (gs : List Field) (acc : List Leaf), (∀ f ∈ gs, P.keyTypeAt d f.type = true) → addLeaf P (leaves P d) acc gs = some l → ∃ xs, gs.mapM (fun f => P.keyLits d f.type ((cs.drop f.offset).take (P.cellsOf f.type))) = some xs ∧ xs.flatten = (cs.drop acc.length).map litOf ∧ ∃ s, l = acc ++ s := by
            intro gs
            induction gs with
            | nil =>
              intro acc _ h
              simp only [addLeaf, Option.some.injEq] at h; subst h
              exact ⟨[], rfl, by rw [List.drop_of_length_le (by rw [hf.len]; omega)]; rfl, [], by simp⟩
            | cons f gs ihg =>
              intro acc hkg h
              simp only [addLeaf, Option.bind_eq_some_iff] at h
              obtain ⟨l1, hl, h⟩ := h
              split at h
              · rename_i hcc
                obtain ⟨xs, h1, h2, s, rfl⟩ := ihg _ (fun f hf => hkg f (List.mem_cons_of_mem _ hf)) h
                have hf2 := hf
                rw [List.append_assoc] at hf2
                have h3 := hf2.app.2.app.1
                have h4 := ih _ _ hl (hkg f (List.mem_cons_self ..)) _ h3
                refine ⟨(((cs.drop acc.length).take l1.length).map litOf) :: xs, ?_, ?_, l1 ++ s, by simp⟩
                · rw [List.mapM_cons, hcc.1, hcc.2, h4, h1]; rfl
                · rw [List.flatten_cons, h2, List.length_append, ← List.drop_drop, ← List.map_append, List.take_append_drop]
              · simp at h
          obtain ⟨xs, h1, h2, _⟩ := this fs.toList [] hkf hl1
          exact ⟨xs, h1, by simpa using h2⟩
        obtain ⟨xs, h1, h2⟩ := key
        simp only [hu]
        rw [if_pos ⟨by rw [hf.len, hc], hnm⟩, h1]
        simp [h2]
      · simp at hl2
    · rename_i k e hu
      rw [Option.bind_eq_some_iff] at hl
      obtain ⟨l, hl1, hl2⟩ := hl
      split at hl2
      · rename_i hc
        simp only [Option.some.injEq] at hl2; subst hl2
        simp only [hu] at hk
        obtain ⟨xs, h1, h2⟩ := lits_rep d e l (fun cs h => ih e l hl1 hk cs h) k 0 cs (by rw [Nat.zero_add]; exact hf)
        have e0 : (List.range k).map (0 + ·) = List.range k := by simp
        rw [e0] at h1
        rw [Nat.zero_mul, List.drop_zero] at h2
        simp only [hu]
        rw [if_pos (by rw [hf.len, hc.2]; simp), hc.1, h1]
        simp [h2]
      · simp at hl2
    · simp at hl
theorem eq_flat (d : Nat) (hd : d ≤ 10000) (t : TypeId) (ls : List Leaf) (hl : leaves P d t = some ls) (hk : P.keyTypeAt d t = true) (ha : (match P.underlying t with | some (.array _ _) | some (.struct _) => true | _ => false) = true) (hC : P.cellsOf t = ls.length)
    (cs ds : List Value) (h1 : Flat ls cs) (h2 : Flat ls ds) (w : World) : ∃ r : Bool, (Op.equalIn 10000 t (.agg cs.toArray) (.agg ds.toArray)).run P w = .ok r w ∧ (r = true ↔ cs = ds) := by
  have fm : ∀ cs : List Value, Flat ls cs → (Value.agg cs.toArray).formed P t = true := fun cs h => by
    unfold Value.formed
    split at ha
    · simp_all [h.len]
    · simp_all [h.len]
    · simp at ha
  have L := run_equalIn_deep (P := P) (10000 - d) d t hk w d d (.agg cs.toArray) (.agg ds.toArray) (cs.map litOf) (ds.map litOf) (fm cs h1) (fm ds h2) (lits_of d t ls hl hk cs h1) (lits_of d t ls hl hk ds h2)
  rw [show 10000 - d + d = 10000 by omega] at L
  obtain ⟨r, hr, hi⟩ := L
  exact ⟨r, hr, hi.trans ⟨fun e => flat_inj h1 h2 e, fun e => by rw [e]⟩⟩
theorem eql_flat (d : Nat) (hd : d ≤ 10000) (t : TypeId) (ls : List Leaf) (hl : leaves P d t = some ls) (hk : P.keyTypeAt d t = true) (ha : (match P.underlying t with | some (.array _ _) | some (.struct _) => true | _ => false) = true) (hC : P.cellsOf t = ls.length)
    (cs ds : List Value) (h1 : Flat ls cs) (h2 : Flat ls ds) (q : Prop) [Decidable q] (hq : q ↔ cs = ds) (w : World) : (binOp .eql t (.agg cs.toArray) (.agg ds.toArray)).run P w = .ok (.bool (decide q)) w ∧ (binOp .neq t (.agg cs.toArray) (.agg ds.toArray)).run P w = .ok (.bool (!decide q)) w := by
  obtain ⟨r, hr, hi⟩ := eq_flat (P := P) d hd t ls hl hk ha hC cs ds h1 h2 w
  have e : r = decide q := by
    rw [Bool.eq_iff_iff, hi, decide_eq_true_eq, hq]
  subst e
  rw [run_eql_struct, run_neq_struct, hr]
  exact ⟨rfl, rfl⟩
end
end
end Go.Proofs.YtglabahbklpocaaGreat
namespace Go.Proofs.YtglabahbklpocaaGreat
section
open Go.RowKit
set_option maxRecDepth 100000
set_option linter.unusedVariables false
set_option linter.unusedSimpArgs false
/-- What append asks of an element's type. -/
structure Ety {α : Type} (cs : α → List Value) (S T : TypeId) (sz by_ : Nat) (z : Value) : Prop where
  hS : Tryz.prog.underlying S = some (.slice T)
  info : (Tryz.prog.info? T).map (fun i => (i.zero, i.size, i.bytes)) = some (some z, sz, by_)
  hz : z.cells.size = sz
  pos : 0 < sz
  bmax : by_ ≤ 1000
  len : ∀ x, (cs x).length = sz
  one : ∀ x, ∀ u ∈ cs x, u.oneCell' = true
/-- The slice at a, n elements long, is a row of its own, in memory from B on, and holds l. -/
structure AppE {α : Type} (cs : α → List Value) (T : TypeId) (sz : Nat) (w : World) (B : Nat) (a : Option Addr) (n cap : Nat) (l : List α) : Prop where
  len : l.length = n
  le : n ≤ cap
  max : cap ≤ maxLen
  row : w.ownsRow B T sz (.slice a n cap) n (l.flatMap cs)
theorem flat_get {α : Type} (cs : α → List Value) (sz : Nat) (hcs : ∀ x, (cs x).length = sz) (l : List α) (j : Nat) (x : α) (hx : l[j]? = some x) (k : Nat) (hk : k < sz) : (l.flatMap cs)[j * sz + k]? = (cs x)[k]? := by
  induction l generalizing j with
  | nil => simp at hx
  | cons y r ih =>
    rw [List.flatMap_cons]
    cases j with
    | zero =>
      simp only [List.getElem?_cons_zero, Option.some.injEq] at hx
      subst hx
      rw [Nat.zero_mul, Nat.zero_add, List.getElem?_append_left (by rw [hcs]; exact hk)]
    | succ j =>
      have := ih j (by simpa using hx)
      rw [List.getElem?_append_right (by rw [hcs, Nat.succ_mul]; omega), hcs, Nat.succ_mul]
      rw [show j * sz + sz + k - sz = j * sz + k by omega]
      exact this
section
variable {α : Type} {cs : α → List Value} {S T : TypeId} {sz by_ : Nat} {z : Value} {w w' : World} {B : Nat} {a : Option Addr} {n cap : Nat} {l : List α}
theorem appE_nil (w : World) (B : Nat) : AppE cs T sz w B none 0 0 [] := ⟨rfl, Nat.le_refl _, by unfold maxLen; omega, World.ownsRow_nil _ _ _ _⟩
theorem AppE.below (h : AppE cs T sz w B a n cap l) (hb : Below w.heap.size w w') : AppE cs T sz w' B a n cap l :=
  ⟨h.len, h.le, h.max, h.row.kept (row := none) ⟨hb.os, hb.tape, hb.output, hb.size, fun i hi _ => hb.block i hi⟩ (by cases Value.ownBlock (.slice a n cap) <;> simp)⟩
theorem AppE.same (h : AppE cs T sz w B a n cap l) (e : w'.heap = w.heap) : AppE cs T sz w' B a n cap l :=
  ⟨h.len, h.le, h.max, by have := h.row; unfold World.ownsRow at this ⊢; rw [e]; exact this⟩
theorem AppE.mono {B' : Nat} (h : AppE cs T sz w B a n cap l) (hB : B' ≤ B) : AppE cs T sz w B' a n cap l :=
  ⟨h.len, h.le, h.max, h.row.1, h.row.2.imp_right fun ⟨g, c, cur, e1, e2, e3⟩ => ⟨g, c, cur, e1, Nat.le_trans hB e2, e3⟩⟩
theorem AppE.lt (h : AppE cs T sz w B a n cap l) : ∀ p, a = some p → p.block < w.heap.size := fun p hp => by
  subst hp
  exact (h.row.lt p.block rfl).2
theorem AppE.reads (E : ∀ x, (cs x).length = sz) (hpos : 0 < sz) (h : AppE cs T sz w B a n cap l) : ReadsE cs sz w a n l ∧ (n = 0 ∨ ∃ g, a = some ⟨g, 0, none⟩ ∧ B ≤ g) := by
  rcases Nat.eq_zero_or_pos n with h0 | hp
  · exact ⟨⟨h.len, .inl h0⟩, .inl h0⟩
  · obtain ⟨g, cap', hv, hg, hlt⟩ := h.row.form hp
    obtain rfl : a = some ⟨g, 0, none⟩ := by simp only [Value.slice.injEq] at hv; exact hv.1
    refine ⟨⟨h.len, .inr ⟨g, 0, rfl, hlt, fun j x hj k u hk => ?_⟩⟩, .inr ⟨g, rfl, hg⟩⟩
    have hl := h.len
    have hjl : j < l.length := (List.getElem?_eq_some_iff.1 hj).1
    have hks : k < sz := by have := (List.getElem?_eq_some_iff.1 hk).1; rwa [E] at this
    have hin : j * sz + k < n * sz := by
      have : (j + 1) * sz ≤ n * sz := Nat.mul_le_mul_right _ (by omega)
      rw [Nat.succ_mul] at this
      omega
    rw [Nat.zero_add, h.row.cellAt _ hin, flat_get cs sz E l j x hj k hks]
    exact hk
theorem run_append_E (E : Ety cs S T sz by_ z) (ty : TypeId) (w : World) (h : AppE cs T sz w B a n cap l) (hB : B ≤ w.heap.size) (b o m c : Nat) (ys : List α) (hn : n + m ≤ 100000) (hm : ys.length = m) (hy : ∀ j x, ys[j]? = some x → CellsAt w b (o + j * sz) (cs x)) :
    ∃ a' cap' w', (Builtin.append_ #[S, S] ty #[.slice a n cap, .slice (some ⟨b, o, none⟩) m c]).run Tryz.prog w = .ok (.slice a' (n + m) cap') w' ∧ AppE cs T sz w' B a' (n + m) cap' (l ++ ys) ∧ Below B w w' ∧ w.grownBy w' (Value.slice a n cap).ownBlock ∧ (a' = none ↔ a = none ∧ m = 0) := by
  obtain ⟨i, hi, hii⟩ := Option.map_eq_some_iff.1 E.info
  simp only [Prod.mk.injEq] at hii
  obtain ⟨hz, hsize, hby⟩ := hii
  have hpos := E.pos
  have hlen : (ys.flatMap cs).length = m * sz := by
    subst hm
    clear hy hn
    induction ys with
    | nil => simp
    | cons y r ih => rw [List.flatMap_cons, List.length_append, ih, E.len, List.length_cons, Nat.succ_mul]; omega
  have hnews : ∀ j u, (ys.flatMap cs)[j]? = some u → w.cell? ((⟨b, o, none⟩ : Addr).add j) = some u := fun j u hj => by
    have hjl : j < m * sz := by have := (List.getElem?_eq_some_iff.1 hj).1; omega
    have hq : j / sz < m := Nat.div_lt_of_lt_mul (by rw [Nat.mul_comm]; exact hjl)
    have hr : j % sz < sz := Nat.mod_lt _ hpos
    have hx : ys[j / sz]? = some ys[j / sz] := List.getElem?_eq_getElem (by omega)
    have e : j / sz * sz + j % sz = j := by rw [Nat.mul_comm]; exact Nat.div_add_mod j sz
    have := flat_get cs sz E.len ys (j / sz) _ hx (j % sz) hr
    rw [e, hj] at this
    have := hy _ _ hx _ _ this.symm
    rw [Nat.add_assoc, e] at this
    rw [show (⟨b, o, none⟩ : Addr).add j = ⟨b, o + j, none⟩ by unfold Addr.add; split <;> simp_all]
    exact this
  have h1 := h.row
  obtain ⟨v', w', hr, ho, hg, hnil⟩ := run_append_own (P := Tryz.prog) w B S ty T i z sz by_ E.hS hi hz hsize hby E.hz hpos _ n _ h1 ⟨b, o, none⟩ m c (ys.flatMap cs) hlen hnews (by
    intro u hu
    obtain ⟨x, _, hx⟩ := List.mem_flatMap.1 hu
    exact E.one x u hx) (by unfold maxLen; omega) (by
      have := E.bmax
      have : (n + m) * by_ ≤ 100000 * 1000 := Nat.mul_le_mul hn this
      omega) hB
  have hform : ∃ a' cap', v' = .slice a' (n + m) cap' ∧ n + m ≤ cap' ∧ cap' ≤ maxLen := by
    rcases ho.2 with ⟨rfl, e⟩ | ⟨g', c', cur, rfl, _, _, h3, h4, _⟩
    · exact ⟨none, 0, by rw [e], by omega, by unfold maxLen; omega⟩
    · exact ⟨_, c', rfl, h3, h4⟩
  obtain ⟨a', cap', rfl, hc1, hc2⟩ := hform
  refine ⟨a', cap', w', hr, ⟨by simp [h.len, hm], hc1, hc2, by rw [List.flatMap_append]; exact ho⟩, (Below.refl B w).grown hg hB fun k hk => (h1.lt k hk).1, hg, ?_⟩
  constructor
  · intro e
    subst e
    rcases ho.2 with ⟨_, e⟩ | ⟨g', c', cur, e, _⟩
    · have hm0 : m = 0 := by omega
      refine ⟨?_, hm0⟩
      rcases h1.2 with ⟨e2, _⟩ | ⟨g', c', cur, e2, _, _, h3, h4, _⟩
      · simp only [Value.slice.injEq] at e2; exact e2.1
      · exfalso
        have := (hnil.1 (by
          rcases ho.2 with ⟨e3, _⟩ | ⟨_, _, _, e3, _⟩
          · exact e3
          · simp at e3)).1
        rw [e2] at this
        simp at this
    · simp at e
  · rintro ⟨rfl, rfl⟩
    have h0 : Value.slice none n cap = .slice none 0 0 := by
      rcases h1.2 with ⟨e2, _⟩ | ⟨g', c', cur, e2, _⟩
      · exact e2
      · simp at e2
    have := hnil.2 ⟨h0, rfl⟩
    simp only [Value.slice.injEq] at this
    exact this.1
theorem wpList_append_E (E : Ety cs S T sz by_ z) {ops : Array Oper} {rest : List Oper} {o : Oper} {act : Act} {Q : Exit → Act → World → Prop} (hgd : o.guard = none) (s x : Operand)
    (ho : o.op = .call { callee := .builtin .append, args := #[s, x], argTypes := #[S, S] }) (w : World) (B : Nat) (a : Option Addr) (n cap : Nat) (l : List α) (hs : act.eval s = .slice a n cap) (h : AppE cs T sz w B a n cap l) (hB : B ≤ w.heap.size) (hn : n < 100000)
    (g : Nat) (c : Nat) (y : α) (hx : act.eval x = .slice (some ⟨g, 0, none⟩) 1 c) (hy : CellsAt w g 0 (cs y))
    (hK : ∀ a' cap' w', AppE cs T sz w' B a' (n + 1) cap' (l ++ [y]) → Below B w w' → wpList Tryz.prog ops Q rest (act.put o.dst (.slice a' (n + 1) cap')) w') : wpList Tryz.prog ops Q (o :: rest) act w := by
  refine wpList_plain hgd fun K hK' => ?_
  obtain ⟨a', cap', w', hrun, h1, h2, _⟩ := run_append_E E o.type w h hB g 0 1 c [y] (by omega) rfl (fun j x hj => by
    cases j with
    | zero => simp at hj; subst hj; simpa using hy
    | succ j => simp at hj)
  unfold Oper.wp
  simp [execOp, ho, resolve, invoke, builtin, hs, hx, hrun, Result.andThen]
  exact hK' _ _ (hK a' cap' w' h1 h2)
end
end
end Go.Proofs.YtglabahbklpocaaGreat
namespace Go.Proofs.YtglabahbklpocaaGreat
section
open Go.RowKit Go.ChangeShapes Go.WideShapes Go.Joins Go.Deep
set_option maxRecDepth 100000
set_option linter.unusedVariables false
set_option linter.unusedSimpArgs false
/-- A point. -/
structure Pt where
  series : ByteArray
  time : Int
  value : Int
  st : St
def Pt.cs (p : Pt) : List Value := [.string p.series, .int .i64 p.time, .int .i64 p.value, .int .i64 p.st.clock, .int .i64 p.st.site, .int .i64 p.st.seq]
def Pt.val (p : Pt) : Value := .agg #[.string p.series, .int .i64 p.time, .int .i64 p.value, .int .i64 p.st.clock, .int .i64 p.st.site, .int .i64 p.st.seq]
def i64 (x : Int) : Prop := -9223372036854775808 ≤ x ∧ x ≤ 9223372036854775807
def St.wf' (a : St) : Prop := i64 a.clock ∧ i64 a.site ∧ i64 a.seq
def Pt.wf (p : Pt) : Prop := p.series.size ≤ maxLen ∧ i64 p.time ∧ i64 p.value ∧ p.st.wf'
theorem wf_i64 {x : Int} (h : i64 x) : (Lit.int .i64 x).wf = true := by
  unfold i64 at h
  simp [Lit.wf, IntKind.min, IntKind.max, IntKind.signed, IntKind.bits]
  omega
def ptL : List Leaf := [.str, .int .i64, .int .i64, .int .i64, .int .i64, .int .i64]
theorem pt_leaves : leaves Tryz.prog 5 90 = some ptL := by kernel_rfl
theorem pt_flat {p : Pt} (h : p.wf) : Flat ptL p.cs := by
  obtain ⟨h1, h2, h3, h4, h5, h6⟩ := h
  exact ⟨⟨_, rfl, h1⟩, ⟨_, rfl, wf_i64 h2⟩, ⟨_, rfl, wf_i64 h3⟩, ⟨_, rfl, wf_i64 h4⟩, ⟨_, rfl, wf_i64 h5⟩, ⟨_, rfl, wf_i64 h6⟩, trivial⟩
def ptO (p : Pt) : Obj := .cells #[.string p.series, .int .i64 p.time, .int .i64 p.value, .int .i64 p.st.clock, .int .i64 p.st.site, .int .i64 p.st.seq] 90 (0, 0)
theorem pt_len (p : Pt) : p.cs.length = 6 := rfl
theorem pt_one (p : Pt) : ∀ u ∈ p.cs, u.oneCell' = true := by
  intro u hu
  simp [Pt.cs] at hu
  rcases hu with rfl | rfl | rfl | rfl | rfl | rfl <;> rfl
structure PtC (w : World) (b o : Nat) (p : Pt) : Prop where
  c0 : w.cell? ⟨b, o, none⟩ = some (.string p.series)
  c1 : w.cell? ⟨b, o + 1, none⟩ = some (.int .i64 p.time)
  c2 : w.cell? ⟨b, o + 2, none⟩ = some (.int .i64 p.value)
  c3 : w.cell? ⟨b, o + 3, none⟩ = some (.int .i64 p.st.clock)
  c4 : w.cell? ⟨b, o + 4, none⟩ = some (.int .i64 p.st.site)
  c5 : w.cell? ⟨b, o + 5, none⟩ = some (.int .i64 p.st.seq)
theorem pt_cells {w : World} {b o : Nat} {p : Pt} (h : CellsAt w b o p.cs) : PtC w b o p := ⟨h 0 _ rfl, h 1 _ rfl, h 2 _ rfl, h 3 _ rfl, h 4 _ rfl, h 5 _ rfl⟩
theorem pt_ety : Ety Pt.cs 31 90 6 56 (.agg #[.string ⟨#[]⟩, .int .i64 0, .int .i64 0, .int .i64 0, .int .i64 0, .int .i64 0]) :=
  ⟨Tryz.underlying31, by kernel_rfl, rfl, by decide, by decide, pt_len, pt_one⟩
theorem i64_of {n : Int} (h : (Lit.int .i64 n).wf = true) : i64 n := bounds_i64 h
section
variable {H : Type} {enc : TypeId × Value → H} {W : World} {r : Reach} {b0 : Nat} {v : Value} {d : DataW H} {ps : List MemPlace}
end
theorem Pt.cs_inj {a b : Pt} (h : a.cs = b.cs) : a = b := by
  obtain ⟨s, t, v, ⟨c, i, q⟩⟩ := a
  obtain ⟨s', t', v', ⟨c', i', q'⟩⟩ := b
  simp only [Pt.cs, List.cons.injEq, Value.int.injEq, Value.string.injEq, true_and, and_true] at h
  obtain ⟨rfl, rfl, rfl, rfl, rfl, rfl⟩ := h
  rfl
open Classical in
theorem eq_pt (a b : Pt) (ha : a.wf) (hb : b.wf) (w : World) : (binOp .eql 90 a.val b.val).run Tryz.prog w = .ok (.bool (decide (a = b))) w ∧ (binOp .neq 90 a.val b.val).run Tryz.prog w = .ok (.bool (!decide (a = b))) w :=
  eql_flat 5 (by decide) 90 ptL pt_leaves (by kernel_rfl) (by kernel_rfl) (by kernel_rfl) a.cs b.cs (pt_flat ha) (pt_flat hb) (a = b) ⟨fun e => by rw [e], Pt.cs_inj⟩ w
end
end Go.Proofs.YtglabahbklpocaaGreat
namespace Go.Proofs.YtglabahbklpocaaGreat
section
open Go.ChangeShapes Go.WideShapes Go.ChangeAt Go.RowKit Go.Joins Go.Deep
set_option maxRecDepth 100000
set_option linter.unusedVariables false
set_option linter.unusedSimpArgs false
attribute [local go_sem ↓] Go.wp_at_zero Go.wp_at_succ
def recL : List Leaf := [.int .i64, .str, .int .i64, .int .i64, .int .i64, .int .i64, .int .i64, .int .i64, .sl 23 3]
theorem rec_leaves : leaves Tryz.prog 5 60 = some recL := by kernel_rfl
theorem leaf_ints {H : Type} {enc : TypeId × Value → H} {W : World} {v : Value} (h : LeafIs enc Tryz.prog W (.sl 23 3) v) : ∃ xs, IsInts .i64 W v xs := by
  obtain ⟨_, fuel, y, hf⟩ := h
  have ht := Tryz.underlying23
  have he := Tryz.underlying3
  rcases open_ints ht he (by kernel_rfl) hf with ⟨hcs, _⟩ | ⟨x, l, c, zs, hcs, _, hl, hm, hz, _, hcell, hwz⟩
  · simp only [List.cons.injEq, and_true] at hcs
    subst hcs
    exact ⟨[], none, 0, 0, rfl, by omega, by omega, ⟨rfl, .inl rfl⟩, by simp⟩
  · simp only [List.cons.injEq, and_true] at hcs
    subst hcs
    have hz' : zs.length = c := by simpa using hz
    refine ⟨zs.take l, some x, l, c, rfl, hl, by unfold maxLen at hm; omega, ⟨by rw [List.length_take]; omega, ?_⟩, fun y hy => hwz y (List.mem_of_mem_take hy)⟩
    rcases Nat.eq_zero_or_pos l with h0 | h0
    · exact .inl h0
    · right
      obtain ⟨b, off, spot⟩ := x
      have hc0 := hcell 0 (by omega)
      have hspot : spot = none := by simpa [Addr.add] using World.cell?_spot hc0
      subst hspot
      have hadd : ∀ j, (⟨b, off, none⟩ : Addr).add j = ⟨b, off + j, none⟩ := fun j => by unfold Addr.add; split <;> simp_all
      refine ⟨b, off, rfl, ?_, fun j hj => ?_⟩
      · have := World.block_lt_of_cell? _ _ hc0
        rw [hadd] at this
        exact this
      · have := hcell j (by omega)
        rw [hadd] at this
        rw [this]
        simp [List.getD_eq_getElem?_getD, hj]
structure RecA where
  r : Rc
  d : Sl
  ds : List Int
def RecA.val (x : RecA) : Value := rcVal x.r x.d
structure RecA.ok (w : World) (x : RecA) : Prop where
  wf : x.r.wf
  sl : SlR w x.d x.ds
theorem maxLen_i {n : Nat} (h : n ≤ maxLen) : n ≤ 9223372036854775807 := by unfold maxLen at h; omega
end
end Go.Proofs.YtglabahbklpocaaGreat
