/- Plain law of logs that are trimmed. No program is in sight. -/
import Derived.Test.YtdihbinbkneejaaGOriginNil47
namespace Go.Proofs.Ytdihbinbkneejaa
section
set_option maxRecDepth 100000
set_option linter.unusedVariables false
set_option linter.unusedSimpArgs false
theorem cov_self (vs : List Int) : covV vs vs = true := by
  rw [covV_true]
  intro i hi
  exact Int.le_refl _
theorem trimN_all (vs : List Int) (xs : List RcM) (k : Nat) (x : RcM) (hk : k < trimN vs xs) (hx : xs[k]? = some x) : x.1.st.seq ≤ atV vs x.1.st.site := by
  have hp : (xs.takeWhile (trimP vs)) <+: xs := List.takeWhile_prefix _
  unfold trimN at hk
  have h1 : (xs.takeWhile (trimP vs))[k]? = some x := by
    obtain ⟨t, ht⟩ := hp
    rw [← ht, List.getElem?_append_left hk] at hx
    exact hx
  have h2 := List.mem_of_getElem? h1
  have h3 : ∀ (l : List RcM) (y : RcM), y ∈ l.takeWhile (trimP vs) → trimP vs y = true := by
    intro l
    induction l with
    | nil => intro y h; simp at h
    | cons z r ih =>
      intro y h
      rw [List.takeWhile_cons] at h
      by_cases hz : trimP vs z = true
      · rw [if_pos hz] at h
        rcases List.mem_cons.1 h with rfl | h
        · exact hz
        · exact ih y h
      · rw [if_neg hz] at h
        simp at h
  exact of_decide_eq_true (h3 xs x h2)
theorem nm_step {ks : List Int} {x : RcM} (h : okStep ks x) (i : Nat) (hi : i < 8) : nm (stepK ks x) i = if (i : Int) = x.1.st.site then x.1.st.seq else nm ks i := by
  obtain ⟨h1, h2, h3⟩ := h.range
  unfold stepK
  rw [nm_with _ _ _ i hi, cl_id (by omega) h3]
/-- What was trimmed is covered by the vector that trimmed. -/
theorem trim_cov {vs : List Int} {xs : List RcM} (h : Good [] xs) : ∀ k, k ≤ trimN vs xs → covV vs (kAll [] (xs.take k)) = true := by
  intro k
  induction k with
  | zero => intro _; exact cov_nil _
  | succ k ih =>
    intro hk
    have hle := trimN_le vs xs
    have hx : xs[k]? = some xs[k] := List.getElem?_eq_getElem (by omega)
    have ho := h k _ hx
    have hr := ho.range
    have ht := trimN_all vs xs k _ (by omega) hx
    rw [k_next hx, covV_true]
    intro i hi
    have h0 := (covV_true _ _).1 (ih (by omega)) i hi
    rw [nm_step ho i hi]
    by_cases he : (i : Int) = (xs[k]).1.st.site
    · rw [if_pos he]
      unfold atV at ht
      rw [if_pos hr.1, ← he] at ht
      simpa using ht
    · rw [if_neg he]
      exact h0
theorem at_cov {vs ks : List Int} (h : covV vs ks = true) (s : Int) : atV ks s ≤ atV vs s := by
  unfold atV
  by_cases hs : 0 ≤ s ∧ s < 8
  · rw [if_pos hs, if_pos hs]
    exact (covV_true _ _).1 h s.toNat (by omega)
  · rw [if_neg hs, if_neg hs]
    exact Int.le_refl _
/-- Nothing that was trimmed is known to nobody. -/
theorem cov_nil_iff {xs : List RcM} (h : Good [] xs) (k : Nat) (hk : k ≤ xs.length) : covV [] (kAll [] (xs.take k)) = decide (k = 0) := by
  by_cases h0 : k = 0
  · subst h0
    rw [decide_eq_true rfl]
    exact cov_nil _
  · rw [decide_eq_false h0]
    cases hc : covV [] (kAll [] (xs.take k)) with
    | false => rfl
    | true =>
      exfalso
      have hx : xs[0]? = some xs[0] := List.getElem?_eq_getElem (by omega)
      have ho := h 0 _ hx
      have hr := ho.range
      have h1 := at_cov hc (xs[0]).1.st.site
      have h2 := k_mono h (xs[0]).1.st.site 1 k (by omega) hk
      rw [k_next (k := 0) hx, at_step ho, if_pos rfl] at h2
      have h3 : atV [] (xs[0]).1.st.site = 0 := by
        unfold atV
        rw [if_pos hr.1]
        unfold nm
        simp [cl_zero]
      omega
theorem later_drop2 {xs : List RcM} (h : Good [] xs) (c : Nat) (hc : c ≤ xs.length) : (xs.drop c).filter (laterP (kAll [] (xs.take c))) = xs.drop c := by
  rw [List.filter_eq_self]
  intro x hx
  obtain ⟨i, hi, he⟩ := List.mem_iff_getElem.1 hx
  rw [List.length_drop] at hi
  have hxi : xs[c + i]? = some x := by
    rw [List.getElem_drop] at he
    rw [← he]
    exact List.getElem?_eq_getElem (by omega)
  have ho := h (c + i) x hxi
  have h3 := k_mono h x.1.st.site c (c + i) (by omega) (by omega)
  have h4 := ho.2.1
  unfold laterP
  simp only [decide_eq_true_eq]
  omega
/-- Told is what was not trimmed, to who has what was. -/
theorem trim_tells {l : LogM} (h : Good [] l.xs) (hb : l.bs = []) (vs : List Int) (hl : l.xs.length ≤ 300) : afterM (trimM l vs) (trimM l vs).bs 400 = (l.xs.drop (trimN vs l.xs), true) := by
  have hle := trimN_le vs l.xs
  rw [afterM_pos (cov_self _)]
  unfold thoseM trimM
  simp only
  rw [hb, later_drop2 h _ hle, List.take_of_length_le (by rw [List.length_drop]; show _ ≤ 400; omega)]
theorem trim_none {l : LogM} (h : Good [] l.xs) (hb : l.bs = []) (vs : List Int) : (afterM (trimM l vs) [] 400).2 = decide (trimN vs l.xs = 0) := by
  have e := cov_nil_iff h (trimN vs l.xs) (trimN_le _ _)
  have e2 : covV [] (trimM l vs).bs = decide (trimN vs l.xs = 0) := by unfold trimM; simp only; rw [hb]; exact e
  unfold afterM
  rw [e2]
  by_cases h0 : trimN vs l.xs = 0
  · rw [if_pos (decide_eq_true h0), decide_eq_true h0]
  · rw [if_neg (by rw [decide_eq_false h0]; decide), decide_eq_false h0]
end
end Go.Proofs.Ytdihbinbkneejaa
