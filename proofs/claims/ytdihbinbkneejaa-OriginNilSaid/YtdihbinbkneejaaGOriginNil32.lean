/- slices.Clone of records; a log in memory. -/
import Derived.Test.YtdihbinbkneejaaGOriginNil28
import Derived.Test.YtdihbinbkneejaaGOriginNil5
import Derived.Test.YtdihbinbkneejaaGOriginNil29
import Derived.Test.YtdihbinbkneejaaGOriginNil30
import Derived.Test.YtdihbinbkneejaaGOriginNil31
import Derived.Lib.SliceRun
namespace Go.Proofs.Ytdihbinbkneejaa
section
open Go.RowKit Go.Deep
set_option maxRecDepth 100000
set_option linter.unusedVariables false
set_option linter.unusedSimpArgs false
attribute [local go_sem ↓] Go.wp_at_zero Go.wp_at_succ
theorem appE_zero {α : Type} {cs : α → List Value} {T : TypeId} {sz : Nat} (w : World) (B : Nat) (hB : B ≤ w.heap.size) : AppE cs T sz (w.alloc (.cells #[] T)) B (some ⟨w.heap.size, 0, none⟩) 0 0 [] :=
  ⟨rfl, Nat.le_refl _, by unfold maxLen; omega, by simp, .inr ⟨w.heap.size, 0, #[], rfl, hB, heap_alloc_new w _, Nat.le_refl _, by unfold maxLen; omega, by simp, by simp⟩⟩
/-- Appending any elements to a slice of one's own, given their cells. -/
theorem wpList_append_A {α : Type} {cs : α → List Value} {S T : TypeId} {sz by_ : Nat} {z : Value} (E : Ety cs S T sz by_ z) {ops : Array Oper} {rest : List Oper} {o : Oper} {act : Act} {Q : Exit → Act → World → Prop} (hgd : o.guard = none) (s x : Operand)
    (ho : o.op = .call { callee := .builtin .append, args := #[s, x], argTypes := #[S, S] }) (w : World) (B : Nat) (a : Option Addr) (n cap : Nat) (l : List α) (hs : act.eval s = .slice a n cap) (h : AppE cs T sz w B a n cap l) (hB : B ≤ w.heap.size)
    (g : Addr) (m c : Nat) (ys : List α) (hn : n + m ≤ 100000) (hm : ys.length = m) (hx : act.eval x = .slice (some g) m c) (hy : ∀ j u, (ys.flatMap cs)[j]? = some u → w.cell? (g.add j) = some u)
    (hK : ∀ a' cap' w', AppE cs T sz w' B a' (n + m) cap' (l ++ ys) → Below B w w' → wpList Try.prog ops Q rest (act.put o.dst (.slice a' (n + m) cap')) w') : wpList Try.prog ops Q (o :: rest) act w := by
  refine wpList_plain hgd fun K hK' => ?_
  obtain ⟨i, hi, hii⟩ := Option.map_eq_some_iff.1 E.info
  simp only [Prod.mk.injEq] at hii
  obtain ⟨hz, hsize, hby⟩ := hii
  obtain ⟨v', w', hr, hown, hg, hnil⟩ := run_append_own (P := Try.prog) w B S o.type T i z sz by_ E.hS hi hz hsize hby E.hz E.pos _ n _ h.row g m c (ys.flatMap cs) (by rw [flat_len E.len, hm]) hy (by
    intro u hu
    obtain ⟨x, _, hx⟩ := List.mem_flatMap.1 hu
    exact E.one x u hx) (by unfold maxLen; omega) (by
      have := E.bmax
      have : (n + m) * by_ ≤ 100000 * 1000 := Nat.mul_le_mul hn this
      omega) hB
  have hform : ∃ a' cap', v' = .slice a' (n + m) cap' ∧ n + m ≤ cap' ∧ cap' ≤ maxLen := by
    rcases hown.2 with ⟨rfl, e⟩ | ⟨g', c', cur, rfl, _, _, h3, h4, _⟩
    · exact ⟨none, 0, by rw [e], by omega, by unfold maxLen; omega⟩
    · exact ⟨_, c', rfl, h3, h4⟩
  obtain ⟨a', cap', rfl, hc1, hc2⟩ := hform
  unfold Oper.wp
  simp [execOp, ho, resolve, invoke, builtin, hs, hx, hr, Result.andThen]
  exact hK' _ _ (hK a' cap' w' ⟨by rw [List.length_append, h.len, hm], hc1, hc2, by rw [List.flatMap_append]; exact hown⟩ ((Below.refl B w).grown hg hB fun k hk => (h.row.lt k hk).1))
set_option maxHeartbeats 2000000 in
theorem clonerec_any (a : Option Addr) (n c : Nat) (xs : List RecA) (w : World) (h : ReadsE RecA.cs 9 w a n xs) (hn : n ≤ 1000) :
    Calls Try.prog 46 #[.slice a n c] w fun e w' => ∃ a' c', e = .returned (.slice a' n c') ∧ AppE RecA.cs 30 9 w' w.heap.size a' n c' xs ∧ Below w.heap.size w w' := by
  have q : ∀ (w : World) (a : Option Addr) (n c n' c' : Nat), (binOp .eql 38 (.slice a n c) (.slice none n' c')).run Try.prog w = .ok (.bool a.isNone) w := fun w a n c n' c' => Lib.run_eql_slice_nil w _ _ a n c n' c' Try.underlying38
  cases a with
  | none =>
    have h0 : n = 0 := by
      rcases h.2 with h2 | ⟨b, o, h2, _⟩
      · exact h2
      · simp at h2
    subst h0
    obtain rfl : xs = [] := List.eq_nil_of_length_eq_zero h.1
    clear h
    go_enter Try.func46, Try.ntmps46
    go_wp2_with fail
    go_ret
    exact ⟨none, 0, rfl, appE_nil _ _, Below.refl _ _⟩
  | some x =>
    have hadd : ∀ (b o j : Nat), (⟨b, o, none⟩ : Addr).add j = ⟨b, o + j, none⟩ := fun b o j => by unfold Addr.add; split <;> simp_all
    have HY : Hid (∀ wx : World, (∀ k, k < w.heap.size → wx.heap[k]? = w.heap[k]?) → ∀ j u, (xs.flatMap RecA.cs)[j]? = some u → wx.cell? (x.add j) = some u) := by
      intro wx hx j u hj
      rcases Nat.eq_zero_or_pos n with h0 | h0
      · obtain rfl : xs = [] := List.eq_nil_of_length_eq_zero (by rw [h.1]; exact h0)
        simp at hj
      · obtain ⟨b, o, hb, hlt, hc⟩ := h.2.resolve_left (by omega)
        obtain rfl : x = ⟨b, o, none⟩ := by simpa using hb
        rw [hadd]
        have := flat_cells rec_len (by decide) hc j u hj
        simp only [World.cell?] at this ⊢
        rw [hx b hlt]
        exact this
    have l1 := h.1
    clear h hadd
    go_enter Try.func46, Try.ntmps46
    go_wp2_with (at_builtin; refine wpList_append_A rec_ety rfl _ _ rfl _ w.heap.size (some ⟨w.heap.size, 0, none⟩) 0 0 [] rfl (appE_zero w _ (Nat.le_refl _)) ?q2 x n c xs ?q3 l1 rfl ?q4 ?q5)
    case q2 => simp
    case q3 => omega
    case q4 => exact HY.out _ (fun k hk => Below.heap_alloc w _ k hk)
    case q5 =>
      intro a' c' w' hA hb
      have FIN := Lib.hid (And.intro hA (((Below.refl w.heap.size w).alloc (Nat.le_refl _) _).trans hb))
      clear hA hb
      go_wp2_with fail
      go_ret
      exact ⟨a', c', rfl, FIN.out.1, FIN.out.2⟩
end
end Go.Proofs.Ytdihbinbkneejaa
