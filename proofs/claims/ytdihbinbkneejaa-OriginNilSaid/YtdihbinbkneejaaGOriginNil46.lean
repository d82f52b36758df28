/- Plain law of logs: what a log is told is what it has not. No program is in sight. -/
import Derived.Test.YtdihbinbkneejaaGOriginNil40
namespace Go.Proofs.Ytdihbinbkneejaa
section
set_option maxRecDepth 100000
set_option linter.unusedVariables false
set_option linter.unusedSimpArgs false
def stepK (ks : List Int) (x : RcM) : List Int := withV ks x.1.st.site x.1.st.seq
def okStep (ks : List Int) (x : RcM) : Prop := recP x.1 x.2 ∧ x.1.st.seq = atV ks x.1.st.site + 1 ∧ covV ks x.2 = true
def kAll (ks : List Int) (xs : List RcM) : List Int := xs.foldl stepK ks
def clk (c : Int) (xs : List RcM) : Int := xs.foldl (fun c x => max c x.1.st.clock) c
def Good (ks : List Int) (xs : List RcM) : Prop := ∀ k x, xs[k]? = some x → okStep (kAll ks (xs.take k)) x
theorem kAll_snoc (ks : List Int) (xs : List RcM) (x : RcM) : kAll ks (xs ++ [x]) = stepK (kAll ks xs) x := by simp [kAll]
theorem clk_snoc (c : Int) (xs : List RcM) (x : RcM) : clk c (xs ++ [x]) = max (clk c xs) x.1.st.clock := by simp [clk]
theorem Good.snoc {ks : List Int} {xs : List RcM} {x : RcM} (h : Good ks xs) (hx : okStep (kAll ks xs) x) : Good ks (xs ++ [x]) := by
  intro k y hk
  rcases Nat.lt_or_ge k xs.length with hlt | hge
  · rw [List.getElem?_append_left hlt] at hk
    rw [List.take_append_of_le_length (by omega)]
    exact h k y hk
  · have hk2 : k = xs.length := by
      have := (List.getElem?_eq_some_iff.1 hk).1
      simp at this
      omega
    subst hk2
    have hy : x = y := by simpa using hk
    subst hy
    rw [List.take_append_of_le_length (Nat.le_refl _), List.take_length]
    exact hx
theorem Good.take {ks : List Int} {xs : List RcM} (h : Good ks xs) (c : Nat) : Good ks (xs.take c) := by
  intro k y hk
  have hlt : k < (xs.take c).length := (List.getElem?_eq_some_iff.1 hk).1
  rw [List.length_take] at hlt
  rw [List.getElem?_take_of_lt (by omega)] at hk
  rw [List.take_take, Nat.min_eq_left (by omega)]
  exact h k y hk
theorem addM_ok {m : LogM} {x : RcM} (h : okStep m.ks x) (hl : (m.xs.length : Int) < m.most) : addM m x = ({ m with xs := m.xs ++ [x], ks := stepK m.ks x, clock := max m.clock x.1.st.clock }, 0) := by
  obtain ⟨h1, h2, h3⟩ := h
  unfold addM
  rw [if_neg (by simpa using h1), if_neg (by rw [h3]; rintro (h | h); exact h h2; cases h), if_neg (by omega)]
  rfl
theorem addM_cases (m : LogM) (x : RcM) : (addM m x).1 = m ∨ (okStep m.ks x ∧ (m.xs.length : Int) < m.most ∧ (addM m x).1 = { m with xs := m.xs ++ [x], ks := stepK m.ks x, clock := max m.clock x.1.st.clock }) := by
  unfold addM
  by_cases h1 : recP x.1 x.2
  · rw [if_neg (by simpa using h1)]
    by_cases h2 : x.1.st.seq ≠ atV m.ks x.1.st.site + 1 ∨ covV m.ks x.2 = false
    · rw [if_pos h2]; exact .inl rfl
    · rw [if_neg h2]
      by_cases h3 : m.most ≤ m.xs.length
      · rw [if_pos h3]; exact .inl rfl
      · rw [if_neg h3]
        refine .inr ⟨⟨h1, ?_, ?_⟩, by omega, rfl⟩
        · rcases Int.decEq x.1.st.seq (atV m.ks x.1.st.site + 1) with h | h
          · exact absurd (.inl h) h2
          · exact h
        · rcases hc : covV m.ks x.2 with _ | _
          · exact absurd (.inr hc) h2
          · rfl
  · rw [if_pos h1]; exact .inl rfl
structure LInv (m : LogM) : Prop where
  good : Good m.bs m.xs
  ks : m.ks = kAll m.bs m.xs
theorem LInv.add {m : LogM} (h : LInv m) (x : RcM) : LInv (addM m x).1 := by
  rcases addM_cases m x with e | ⟨ho, _, e⟩
  · rw [e]; exact h
  · rw [e]
    refine ⟨h.good.snoc (by rw [← h.ks]; exact ho), ?_⟩
    show stepK m.ks x = kAll m.bs (m.xs ++ [x])
    rw [kAll_snoc, ← h.ks]
theorem add_len (m : LogM) (x : RcM) : (addM m x).1.xs.length ≤ m.xs.length + 1 ∧ (addM m x).1.most = m.most ∧ (addM m x).1.bs = m.bs := by
  rcases addM_cases m x with e | ⟨_, _, e⟩
  · rw [e]; exact ⟨by omega, rfl, rfl⟩
  · rw [e]; exact ⟨by simp, rfl, rfl⟩
theorem add_clk {m : LogM} (h : m.clock = clk 0 m.xs) (x : RcM) : (addM m x).1.clock = clk 0 (addM m x).1.xs := by
  rcases addM_cases m x with e | ⟨_, _, e⟩
  · rw [e]; exact h
  · rw [e]
    show max m.clock x.1.st.clock = clk 0 (m.xs ++ [x])
    rw [clk_snoc, ← h]
theorem nm_with (ks : List Int) (s n : Int) (i : Nat) (hi : i < 8) : nm (withV ks s n) i = if (i : Int) = s then cl n else nm ks i := by
  unfold withV
  rw [nm_vec _ (fun j hj => by split; exact cl_range _; exact nm_range _ _) i hi]
theorem at_with (ks : List Int) (s n : Int) (hn : 0 ≤ n ∧ n ≤ 1099511627776) (i : Int) : atV (withV ks s n) i = if 0 ≤ i ∧ i < 8 ∧ i = s then n else atV ks i := by
  unfold atV
  by_cases hi : 0 ≤ i ∧ i < 8
  · rw [if_pos hi, nm_with ks s n i.toNat (by omega), show ((i.toNat : Nat) : Int) = i by omega, if_pos hi, cl_id hn.1 hn.2]
    by_cases he : i = s
    · rw [if_pos he, if_pos ⟨hi.1, hi.2, he⟩]
    · rw [if_neg he, if_neg (fun h => he h.2.2)]
  · rw [if_neg hi, if_neg (fun h => hi ⟨h.1, h.2.1⟩), if_neg hi]
theorem okStep.range {ks : List Int} {x : RcM} (h : okStep ks x) : (0 ≤ x.1.st.site ∧ x.1.st.site < 8) ∧ 1 ≤ x.1.st.seq ∧ x.1.st.seq ≤ 1099511627776 := by
  obtain ⟨⟨a1, a2⟩, ⟨a3, a4⟩, a5, a6⟩ := okV_range h.1.2.1
  exact ⟨⟨a5, by omega⟩, a3, a4⟩
theorem at_step {ks : List Int} {x : RcM} (h : okStep ks x) (s : Int) : atV (stepK ks x) s = if s = x.1.st.site then x.1.st.seq else atV ks s := by
  obtain ⟨h1, h2, h3⟩ := h.range
  unfold stepK
  rw [at_with _ _ _ ⟨by omega, h3⟩]
  by_cases he : s = x.1.st.site
  · rw [if_pos ⟨by omega, by omega, he⟩, if_pos he]
  · rw [if_neg (fun h => he h.2.2), if_neg he]
theorem at_mono {ks : List Int} {x : RcM} (h : okStep ks x) (s : Int) : atV ks s ≤ atV (stepK ks x) s := by
  rw [at_step h]
  split
  · rename_i he
    rw [h.2.1, he]
    omega
  · exact Int.le_refl _
theorem k_next {ks : List Int} {xs : List RcM} {k : Nat} {x : RcM} (hx : xs[k]? = some x) : kAll ks (xs.take (k + 1)) = stepK (kAll ks (xs.take k)) x := by
  rw [List.take_add_one, hx]
  exact kAll_snoc _ _ _
theorem k_mono {ks : List Int} {xs : List RcM} (h : Good ks xs) (s : Int) (i : Nat) : ∀ j, i ≤ j → j ≤ xs.length → atV (kAll ks (xs.take i)) s ≤ atV (kAll ks (xs.take j)) s := by
  intro j hij hj
  induction j with
  | zero => obtain rfl : i = 0 := by omega
            exact Int.le_refl _
  | succ j ih =>
    rcases Nat.lt_or_ge j i with h' | h'
    · obtain rfl : i = j + 1 := by omega
      exact Int.le_refl _
    · have hx : xs[j]? = some xs[j] := List.getElem?_eq_getElem (by omega)
      have := at_mono (h j _ hx) s
      rw [k_next hx]
      have := ih h' (by omega)
      omega
/-- What a log is told that has the first c records is the rest. -/
theorem later_drop {ks : List Int} {xs : List RcM} (h : Good ks xs) (c : Nat) (hc : c ≤ xs.length) : xs.filter (laterP (kAll ks (xs.take c))) = xs.drop c := by
  conv => lhs; rw [← List.take_append_drop c xs, List.filter_append]
  rw [List.take_append_drop]
  have h1 : (xs.take c).filter (laterP (kAll ks (xs.take c))) = [] := by
    rw [List.filter_eq_nil_iff]
    intro x hx
    obtain ⟨i, hi, he⟩ := List.mem_iff_getElem.1 hx
    rw [List.length_take] at hi
    have hxi : xs[i]? = some x := by
      rw [List.getElem_take] at he
      rw [← he]
      exact List.getElem?_eq_getElem (by omega)
    have ho := h i x hxi
    have h2 := at_step ho x.1.st.site
    rw [if_pos rfl] at h2
    have h3 := k_mono h x.1.st.site (i + 1) c (by omega) hc
    rw [k_next hxi, h2] at h3
    unfold laterP
    simp only [decide_eq_true_eq]
    omega
  have h2 : (xs.drop c).filter (laterP (kAll ks (xs.take c))) = xs.drop c := by
    rw [List.filter_eq_self]
    intro x hx
    obtain ⟨i, hi, he⟩ := List.mem_iff_getElem.1 hx
    rw [List.length_drop] at hi
    have hxi : xs[c + i]? = some x := by
      rw [List.getElem_drop] at he
      rw [← he]
      exact List.getElem?_eq_getElem (by omega)
    have ho := h (c + i) x hxi
    have h3 := k_mono h x.1.st.site c (c + i) (by omega) (by omega)
    have h4 := ho.2.1
    unfold laterP
    simp only [decide_eq_true_eq]
    omega
  rw [h1, h2, List.nil_append]
theorem cov_nil (vs : List Int) : covV vs [] = true := by
  rw [covV_true]
  intro i hi
  have h0 : nm [] i = 0 := by unfold nm; simp [cl_zero]
  have := nm_range vs i
  omega
/-- A log of the first c records. -/
def preM (xs : List RcM) (c : Nat) : LogM := ⟨400, [], kAll [] (xs.take c), xs.take c, clk 0 (xs.take c)⟩
theorem preM_all {m : LogM} (h : LInv m) (h1 : m.most = 400) (h2 : m.bs = []) (h3 : m.clock = clk 0 m.xs) : m = preM m.xs m.xs.length := by
  obtain ⟨mo, bs, ks, xs, ck⟩ := m
  simp only at h1 h2 h3
  subst h1 h2 h3
  have := h.ks
  simp only at this
  subst this
  unfold preM
  simp only [List.take_length]
theorem preM_zero (xs : List RcM) : newM 400 [] = preM xs 0 := by
  unfold newM preM
  have : joinV [] [] = [] := by decide +kernel
  rw [this]
  rfl
theorem preM_add {xs : List RcM} (h : Good [] xs) (hl : xs.length ≤ 300) (c : Nat) (x : RcM) (hx : xs[c]? = some x) : addM (preM xs c) x = (preM xs (c + 1), 0) := by
  have hc : c < xs.length := (List.getElem?_eq_some_iff.1 hx).1
  have e1 : (preM xs c).ks = kAll [] (xs.take c) := rfl
  have e2 : (preM xs c).xs = xs.take c := rfl
  have e3 : (preM xs c).most = 400 := rfl
  have ho : okStep (preM xs c).ks x := by rw [e1]; exact h c x hx
  have hl2 : ((preM xs c).xs.length : Int) < (preM xs c).most := by rw [e2, e3, List.length_take]; omega
  have e := addM_ok ho hl2
  rw [e]
  have f1 : xs.take (c + 1) = xs.take c ++ [x] := by rw [List.take_add_one, hx]; rfl
  unfold preM
  simp only
  rw [f1, kAll_snoc, clk_snoc]
theorem afterM_pos {m : LogM} {vs : List Int} {n : Int} (h : covV vs m.bs = true) : afterM m vs n = (thoseM m n (laterP vs), true) := if_pos h
theorem preM_after {xs : List RcM} (h : Good [] xs) (c : Nat) (hc : c ≤ xs.length) (n : Int) (m : LogM) (hx : m.xs = xs) (hb : m.bs = []) : afterM m (kAll [] (xs.take c)) n = ((xs.drop c).take n.toNat, true) := by
  have h1 : covV (kAll [] (xs.take c)) m.bs = true := by rw [hb]; exact cov_nil _
  have h2 : thoseM m n (laterP (kAll [] (xs.take c))) = (xs.drop c).take n.toNat := by
    unfold thoseM
    rw [hx, later_drop h c hc]
  rw [afterM_pos h1, h2]
end
end Go.Proofs.Ytdihbinbkneejaa
