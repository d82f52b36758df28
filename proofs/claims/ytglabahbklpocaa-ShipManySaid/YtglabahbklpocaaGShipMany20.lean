/- '==' of structs and arrays whose leaves are numbers, texts and bools: whether the cells are the same. -/
import Derived.Test.YtglabahbklpocaaGShipMany19
import Derived.Laws.StructEq
import Derived.DeepKeys
namespace Go.Proofs.Ytglabahbklpocaa
section
open Go.RowKit
set_option maxRecDepth 100000
set_option linter.unusedVariables false
set_option linter.unusedSimpArgs false
def litOf : Value → Lit
  | .int k n => .int k n
  | .string s => .string s.data.toList
  | .bool b => .bool b
  | _ => .bool false
/-- Leaves that can be held against each other. -/
def Leaf.flat : Leaf → Bool
  | .sl _ _ => false
  | _ => true
/-- The same as Fits, said by the values alone. -/
def Flat : List Leaf → List Value → Prop
  | [], [] => True
  | .int k :: ls, v :: vs => (∃ n, v = .int k n ∧ (Lit.int k n).wf = true) ∧ Flat ls vs
  | .str :: ls, v :: vs => (∃ s : ByteArray, v = .string s ∧ s.size ≤ maxLen) ∧ Flat ls vs
  | .bool :: ls, v :: vs => (∃ b : Bool, v = .bool b) ∧ Flat ls vs
  | _, _ => False
theorem Flat.len {ls : List Leaf} {cs : List Value} (h : Flat ls cs) : cs.length = ls.length := by
  induction ls generalizing cs with
  | nil => cases cs with
    | nil => rfl
    | cons _ _ => exact h.elim
  | cons l ls ih => cases cs with
    | nil => cases l <;> exact h.elim
    | cons v vs => cases l with
      | sl _ _ => exact h.elim
      | _ => simp [ih h.2]
theorem Flat.app {a b : List Leaf} {cs : List Value} (h : Flat (a ++ b) cs) : Flat a (cs.take a.length) ∧ Flat b (cs.drop a.length) := by
  induction a generalizing cs with
  | nil => exact ⟨by simp [Flat], h⟩
  | cons l ls ih => cases cs with
    | nil => cases l <;> exact h.elim
    | cons v vs => cases l with
      | sl _ _ => exact h.elim
      | _ => exact ⟨⟨h.1, (ih h.2).1⟩, (ih h.2).2⟩
theorem flat_inj {ls : List Leaf} {cs ds : List Value} (h : Flat ls cs) (k : Flat ls ds) (e : cs.map litOf = ds.map litOf) : cs = ds := by
  induction ls generalizing cs ds with
  | nil =>
    cases cs with
    | nil => cases ds with
      | nil => rfl
      | cons _ _ => exact k.elim
    | cons _ _ => exact h.elim
  | cons l ls ih =>
    cases cs with
    | nil => cases l <;> exact h.elim
    | cons v vs => cases ds with
      | nil => cases l <;> exact k.elim
      | cons u us =>
        simp only [List.map_cons, List.cons.injEq] at e
        cases l with
        | sl _ _ => exact h.elim
        | int kk =>
          obtain ⟨⟨n, rfl, _⟩, h2⟩ := h
          obtain ⟨⟨m, rfl, _⟩, k2⟩ := k
          have e1 := e.1
          simp only [litOf, Lit.int.injEq, true_and] at e1
          rw [ih h2 k2 e.2, e1]
        | str =>
          obtain ⟨⟨n, rfl, _⟩, h2⟩ := h
          obtain ⟨⟨m, rfl, _⟩, k2⟩ := k
          have e1 := e.1
          simp only [litOf, Lit.string.injEq] at e1
          have : n = m := ByteArray.ext (Array.ext' e1)
          rw [ih h2 k2 e.2, this]
        | bool =>
          obtain ⟨⟨n, rfl⟩, h2⟩ := h
          obtain ⟨⟨m, rfl⟩, k2⟩ := k
          have e1 := e.1
          simp only [litOf, Lit.bool.injEq] at e1
          rw [ih h2 k2 e.2, e1]
section
variable {P : Program} {w : World}
theorem lits_addLeaf (d : Nat) (rec : TypeId → Option (List Leaf)) (hrec : ∀ t ls cs, rec t = some ls → Flat ls cs → P.keyLits d t cs = some (cs.map litOf))
    (fs : List Field) (acc r : List Leaf) (cs : List Value) (h : addLeaf P rec acc fs = some r) (hf : Flat r cs) :
    ∃ xs, fs.mapM (fun f => P.keyLits d f.type ((cs.drop f.offset).take (P.cellsOf f.type))) = some xs ∧ xs.flatten = (cs.drop acc.length).map litOf ∧ ∃ s, r = acc ++ s := by
  induction fs generalizing acc with
  | nil =>
    simp only [addLeaf, Option.some.injEq] at h; subst h
    exact ⟨[], rfl, by rw [List.drop_of_length_le (by rw [hf.len]; omega)]; rfl, [], by simp⟩
  | cons f fs ih =>
    simp only [addLeaf, Option.bind_eq_some_iff] at h
    obtain ⟨l, hl, h⟩ := h
    split at h
    · rename_i hc
      obtain ⟨xs, h1, h2, s, rfl⟩ := ih _ h
      rw [List.append_assoc] at hf
      have h3 := hf.app.2.app.1
      have h4 := hrec _ _ _ hl h3
      refine ⟨(((cs.drop acc.length).take l.length).map litOf) :: xs, ?_, ?_, l ++ s, by simp⟩
      · rw [List.mapM_cons, hc.1, hc.2, h4, h1]; rfl
      · rw [List.flatten_cons, h2, List.length_append, ← List.drop_drop, ← List.map_append, List.take_append_drop]
    · simp at h
theorem lits_rep (d : Nat) (e : TypeId) (l : List Leaf) (hrec : ∀ cs, Flat l cs → P.keyLits d e cs = some (cs.map litOf)) (n m : Nat) (cs : List Value) (hf : Flat (List.replicate (m + n) l).flatten cs) :
    ∃ xs, ((List.range n).map (m + ·)).mapM (fun i => P.keyLits d e ((cs.drop (i * l.length)).take l.length)) = some xs ∧ xs.flatten = (cs.drop (m * l.length)).map litOf := by
  induction n generalizing m with
  | zero => exact ⟨[], rfl, by
      rw [List.drop_of_length_le (by rw [hf.len]; simp)]; rfl⟩
  | succ n ih =>
    have hf2 := hf
    rw [show m + (n + 1) = (m + 1) + n by omega] at hf
    obtain ⟨xs, h1, h2⟩ := ih (m + 1) hf
    rw [← List.replicate_append_replicate, List.flatten_append, List.replicate_succ, List.flatten_cons] at hf2
    have h3 := hf2.app.2.app.1
    have hlen : (List.replicate m l).flatten.length = m * l.length := by simp
    rw [hlen] at h3
    have h4 := hrec _ h3
    refine ⟨(((cs.drop (m * l.length)).take l.length).map litOf) :: xs, ?_, ?_⟩
    · rw [List.range_succ_eq_map, List.map_cons, List.mapM_cons, Nat.add_zero, h4, List.map_map]
      have e : ((m + ·) ∘ Nat.succ) = ((m + 1) + ·) := by funext i; simp [Function.comp]; omega
      rw [e, h1]; rfl
    · rw [List.flatten_cons, h2, Nat.succ_mul, ← List.drop_drop, ← List.map_append, List.take_append_drop]
theorem lits_of (d : Nat) (t : TypeId) (ls : List Leaf) (hl : leaves P d t = some ls) (hk : P.keyTypeAt d t = true) (cs : List Value) (hf : Flat ls cs) : P.keyLits d t cs = some (cs.map litOf) := by
  induction d generalizing t ls cs with
  | zero => simp [leaves] at hl
  | succ d ih =>
    unfold leaves at hl
    unfold Program.keyTypeAt at hk
    unfold Program.keyLits
    split at hl
    · rename_i k hu
      simp only [Option.some.injEq] at hl; subst hl
      match cs, hf with
      | [v], hf =>
        obtain ⟨⟨n, rfl, hw⟩, _⟩ := hf
        simp [hu, hw, litOf]
    · rename_i hu
      simp only [Option.some.injEq] at hl; subst hl
      match cs, hf with
      | [v], hf =>
        obtain ⟨⟨n, rfl, hw⟩, _⟩ := hf
        simp [hu, hw, litOf]
    · rename_i hu
      simp only [Option.some.injEq] at hl; subst hl
      match cs, hf with
      | [v], hf =>
        obtain ⟨⟨n, rfl⟩, _⟩ := hf
        simp [hu, litOf]
    · rename_i e hu
      simp only [Option.some.injEq] at hl; subst hl
      cases cs <;> exact hf.elim
    · rename_i fs hu
      rw [Option.bind_eq_some_iff] at hl
      obtain ⟨l, hl1, hl2⟩ := hl
      split at hl2
      · rename_i hc
        simp only [Option.some.injEq] at hl2; subst hl2
        simp only [hu, Bool.and_eq_true] at hk
        have hall := hk.1.1
        have hkf : ∀ f ∈ fs.toList, P.keyTypeAt d f.type = true := fun f hf' => by
          have := Array.all_eq_true_iff_forall_mem.1 hall f (Array.mem_toList_iff.1 hf')
          simp only [Bool.and_eq_true] at this
          exact this.2
        have hnm : fs.all (·.name != "_") = true := by
          rw [Array.all_eq_true_iff_forall_mem] at hall ⊢
          intro f hf'
          have := hall f hf'
          simp only [Bool.and_eq_true] at this
          exact this.1
        have key : ∃ xs, fs.toList.mapM (fun f => P.keyLits d f.type ((cs.drop f.offset).take (P.cellsOf f.type))) = some xs ∧ xs.flatten = cs.map litOf := by
          have : ∀ (gs : List Field) (acc : List Leaf), (∀ f ∈ gs, P.keyTypeAt d f.type = true) → addLeaf P (leaves P d) acc gs = some l → ∃ xs, gs.mapM (fun f => P.keyLits d f.type ((cs.drop f.offset).take (P.cellsOf f.type))) = some xs ∧ xs.flatten = (cs.drop acc.length).map litOf ∧ ∃ s, l = acc ++ s := by
            intro gs
            induction gs with
            | nil =>
              intro acc _ h
              simp only [addLeaf, Option.some.injEq] at h; subst h
              exact ⟨[], rfl, by rw [List.drop_of_length_le (by rw [hf.len]; omega)]; rfl, [], by simp⟩
            | cons f gs ihg =>
              intro acc hkg h
              simp only [addLeaf, Option.bind_eq_some_iff] at h
              obtain ⟨l1, hl, h⟩ := h
              split at h
              · rename_i hcc
                obtain ⟨xs, h1, h2, s, rfl⟩ := ihg _ (fun f hf => hkg f (List.mem_cons_of_mem _ hf)) h
                have hf2 := hf
                rw [List.append_assoc] at hf2
                have h3 := hf2.app.2.app.1
                have h4 := ih _ _ hl (hkg f (List.mem_cons_self ..)) _ h3
                refine ⟨(((cs.drop acc.length).take l1.length).map litOf) :: xs, ?_, ?_, l1 ++ s, by simp⟩
                · rw [List.mapM_cons, hcc.1, hcc.2, h4, h1]; rfl
                · rw [List.flatten_cons, h2, List.length_append, ← List.drop_drop, ← List.map_append, List.take_append_drop]
              · simp at h
          obtain ⟨xs, h1, h2, _⟩ := this fs.toList [] hkf hl1
          exact ⟨xs, h1, by simpa using h2⟩
        obtain ⟨xs, h1, h2⟩ := key
        simp only [hu]
        rw [if_pos ⟨by rw [hf.len, hc], hnm⟩, h1]
        simp [h2]
      · simp at hl2
    · rename_i k e hu
      rw [Option.bind_eq_some_iff] at hl
      obtain ⟨l, hl1, hl2⟩ := hl
      split at hl2
      · rename_i hc
        simp only [Option.some.injEq] at hl2; subst hl2
        simp only [hu] at hk
        obtain ⟨xs, h1, h2⟩ := lits_rep d e l (fun cs h => ih e l hl1 hk cs h) k 0 cs (by rw [Nat.zero_add]; exact hf)
        have e0 : (List.range k).map (0 + ·) = List.range k := by simp
        rw [e0] at h1
        rw [Nat.zero_mul, List.drop_zero] at h2
        simp only [hu]
        rw [if_pos (by rw [hf.len, hc.2]; simp), hc.1, h1]
        simp [h2]
      · simp at hl2
    · simp at hl
theorem eq_flat (d : Nat) (hd : d ≤ 10000) (t : TypeId) (ls : List Leaf) (hl : leaves P d t = some ls) (hk : P.keyTypeAt d t = true) (ha : (match P.underlying t with | some (.array _ _) | some (.struct _) => true | _ => false) = true) (hC : P.cellsOf t = ls.length)
    (cs ds : List Value) (h1 : Flat ls cs) (h2 : Flat ls ds) (w : World) : ∃ r : Bool, (Op.equalIn 10000 t (.agg cs.toArray) (.agg ds.toArray)).run P w = .ok r w ∧ (r = true ↔ cs = ds) := by
  have fm : ∀ cs : List Value, Flat ls cs → (Value.agg cs.toArray).formed P t = true := fun cs h => by
    unfold Value.formed
    split at ha
    · simp_all [h.len]
    · simp_all [h.len]
    · simp at ha
  have L := run_equalIn_deep (P := P) (10000 - d) d t hk w d d (.agg cs.toArray) (.agg ds.toArray) (cs.map litOf) (ds.map litOf) (fm cs h1) (fm ds h2) (lits_of d t ls hl hk cs h1) (lits_of d t ls hl hk ds h2)
  rw [show 10000 - d + d = 10000 by omega] at L
  obtain ⟨r, hr, hi⟩ := L
  exact ⟨r, hr, hi.trans ⟨fun e => flat_inj h1 h2 e, fun e => by rw [e]⟩⟩
theorem eql_flat (d : Nat) (hd : d ≤ 10000) (t : TypeId) (ls : List Leaf) (hl : leaves P d t = some ls) (hk : P.keyTypeAt d t = true) (ha : (match P.underlying t with | some (.array _ _) | some (.struct _) => true | _ => false) = true) (hC : P.cellsOf t = ls.length)
    (cs ds : List Value) (h1 : Flat ls cs) (h2 : Flat ls ds) (q : Prop) [Decidable q] (hq : q ↔ cs = ds) (w : World) : (binOp .eql t (.agg cs.toArray) (.agg ds.toArray)).run P w = .ok (.bool (decide q)) w ∧ (binOp .neq t (.agg cs.toArray) (.agg ds.toArray)).run P w = .ok (.bool (!decide q)) w := by
  obtain ⟨r, hr, hi⟩ := eq_flat (P := P) d hd t ls hl hk ha hC cs ds h1 h2 w
  have e : r = decide q := by
    rw [Bool.eq_iff_iff, hi, decide_eq_true_eq, hq]
  subst e
  rw [run_eql_struct, run_neq_struct, hr]
  exact ⟨rfl, rfl⟩
end
end
end Go.Proofs.Ytglabahbklpocaa
