/- Lists of records: their cells; append without room. -/
import Derived.Test.YtglabahbklpocaaGreatGShipPacks9
import Derived.Test.YtglabahbklpocaaGreatGShipPacks8
import Derived.Deep.AppendSrc
namespace Go.Proofs.YtglabahbklpocaaGreat
section
open Go.RowKit Go.Deep
set_option maxRecDepth 100000
set_option linter.unusedVariables false
set_option linter.unusedSimpArgs false
attribute [local go_sem ↓] Go.wp_at_zero Go.wp_at_succ
def RecA.cs (x : RecA) : List Value := (rcA x.r x.d).toList
theorem rec_len (x : RecA) : x.cs.length = 9 := rfl
theorem rec_one (x : RecA) : ∀ u ∈ x.cs, u.oneCell' = true := by
  intro u hu
  simp [RecA.cs, rcA] at hu
  rcases hu with rfl | rfl | rfl | rfl | rfl | rfl | rfl | rfl | rfl <;> rfl
theorem rec_ety : Ety RecA.cs 22 60 9 96 (.agg #[.int .i64 0, .string ⟨#[]⟩, .int .i64 0, .int .i64 0, .int .i64 0, .int .i64 0, .int .i64 0, .int .i64 0, .slice none 0 0]) :=
  ⟨Tryz.underlying22, by kernel_rfl, rfl, by decide, by decide, rec_len, rec_one⟩
theorem flat_len {α : Type} {cs : α → List Value} {sz : Nat} (h : ∀ x, (cs x).length = sz) (l : List α) : (l.flatMap cs).length = l.length * sz := by
  induction l with
  | nil => simp
  | cons y r ih => rw [List.flatMap_cons, List.length_append, ih, h, List.length_cons, Nat.succ_mul]; omega
theorem flat_cells {α : Type} {cs : α → List Value} {sz : Nat} (E : ∀ x, (cs x).length = sz) (hpos : 0 < sz) {w : World} {b o : Nat} {l : List α} (h : ∀ j x, l[j]? = some x → CellsAt w b (o + j * sz) (cs x)) (j : Nat) (u : Value) (hj : (l.flatMap cs)[j]? = some u) : w.cell? ⟨b, o + j, none⟩ = some u := by
  have hl := flat_len E l
  have hjl : j < l.length * sz := by have := (List.getElem?_eq_some_iff.1 hj).1; omega
  have hq : j / sz < l.length := Nat.div_lt_of_lt_mul (by rw [Nat.mul_comm]; exact hjl)
  have hr : j % sz < sz := Nat.mod_lt _ hpos
  have hx : l[j / sz]? = some l[j / sz] := List.getElem?_eq_getElem hq
  have e : j / sz * sz + j % sz = j := by rw [Nat.mul_comm]; exact Nat.div_add_mod j sz
  have := flat_get cs sz E l (j / sz) _ hx (j % sz) hr
  rw [e, hj] at this
  have := h _ _ hx _ _ this.symm
  rw [Nat.add_assoc, e] at this
  exact this
section
variable {α : Type} {cs : α → List Value} {S T : TypeId} {sz by_ : Nat} {z : Value} {w w' : World} {B : Nat} {a : Option Addr} {n cap : Nat} {l : List α}
theorem run_append_full (E : Ety cs S T sz by_ z) (ty : TypeId) (w : World) (h : ReadsE cs sz w a n l) (b o m c : Nat) (ys : List α) (hm0 : 0 < m) (hn : n + m ≤ 100000) (hm : ys.length = m) (hy : ∀ j x, ys[j]? = some x → CellsAt w b (o + j * sz) (cs x)) :
    ∃ a' cap' w', (Builtin.append_ #[S, S] ty #[.slice a n n, .slice (some ⟨b, o, none⟩) m c]).run Tryz.prog w = .ok (.slice a' (n + m) cap') w' ∧ AppE cs T sz w' w.heap.size a' (n + m) cap' (l ++ ys) ∧ Below w.heap.size w w' := by
  obtain ⟨i, hi, hii⟩ := Option.map_eq_some_iff.1 E.info
  simp only [Prod.mk.injEq] at hii
  obtain ⟨hz, hsize, hby⟩ := hii
  obtain ⟨hl, hr⟩ := h
  have hadd : ∀ (b o j : Nat), (⟨b, o, none⟩ : Addr).add j = ⟨b, o + j, none⟩ := fun b o j => by unfold Addr.add; split <;> simp_all
  have hnews : ∀ j u, (ys.flatMap cs)[j]? = some u → w.cell? ((⟨b, o, none⟩ : Addr).add j) = some u := fun j u hj => by
    rw [hadd]
    exact flat_cells E.len E.pos hy j u hj
  have hold : (Builtin.firstCells i.size n (.slice a n n)).run Tryz.prog w.drew = .ok (l.flatMap cs).toArray w.drew := by
    rcases Nat.eq_zero_or_pos n with h0 | h0
    · subst h0
      obtain rfl : l = [] := List.eq_nil_of_length_eq_zero hl
      cases a with
      | none => exact run_firstCells_none w.drew i.size 0 0 0
      | some x => exact run_firstCells_some w.drew i.size 0 x 0 0 [] (by simp) (by simp)
    · obtain ⟨b', o', rfl, hlt, hc⟩ := hr.resolve_left (by omega)
      refine run_firstCells_some w.drew i.size n ⟨b', o', none⟩ n n _ (by rw [flat_len E.len, hl, hsize]) (fun j v hj => ?_)
      rw [hadd]
      exact flat_cells E.len E.pos hc j v hj
  have hsrc : Src Tryz.prog i.size S (.slice (some ⟨b, o, none⟩) m c) m (ys.flatMap cs) w := Src.ofSlice w E.hS ⟨b, o, none⟩ m c _ (by rw [flat_len E.len, hm, hsize]) hnews (by
    intro u hu
    obtain ⟨x, _, hx⟩ := List.mem_flatMap.1 hu
    exact E.one x u hx)
  have hlen : (l ++ ys).length = n + m := by rw [List.length_append, hl, hm]
  have hmax : n + m ≤ maxLen := by unfold maxLen; omega
  have hfits : (n + m) * i.bytes ≤ 140737488355328 := by
    have := E.bmax
    have : (n + m) * by_ ≤ 100000 * 1000 := Nat.mul_le_mul hn this
    rw [hby]
    omega
  have hrun := run_append_grow_src w S S ty T i z E.hS hi hz a n n (l.flatMap cs) hold _ m (ys.flatMap cs) hsrc (by omega) (by omega) (growslice_fits (by omega) hfits)
  have hge := grownCap_ge w (n + m) n T
  have hcm : grownCap w (n + m) n T ≤ maxLen := grownCap_le_maxLen w (n + m) n T hmax
  refine ⟨_, _, _, hrun, ⟨hlen, hge, hcm, by rw [flat_len E.len, hlen], .inr ⟨w.heap.size, _, _, rfl, Nat.le_refl _, heap_alloc_new w.drew _, hge, hcm, ?_, ?_⟩⟩, ⟨rfl, rfl, rfl, by simp, fun k hk => Below.heap_alloc w.drew _ k hk⟩⟩
  · simp only [Array.size_append, List.size_toArray, size_zeroCells, E.hz, List.length_append, flat_len E.len, hl, hm, ← Nat.add_mul]
    congr 1
    omega
  · simp only [Array.toList_append, List.flatMap_append]
    have : (n + m) * sz = ((l.flatMap cs) ++ (ys.flatMap cs)).length := by rw [List.length_append, flat_len E.len, flat_len E.len, hl, hm, Nat.add_mul]
    rw [this]
    exact List.take_left
end
end
end Go.Proofs.YtglabahbklpocaaGreat
