/- Plain law: least, greatest, buckets of points that are put together; points with stamps of their own. -/
import Derived.Test.YtojnooagifhekaaGAggParts20
namespace Go.Proofs.Ytojnooagifhekaa
section
open Go.RowKit
set_option maxRecDepth 100000
set_option linter.unusedVariables false
set_option linter.unusedSimpArgs false
/-- Point i with a stamp that may be, and that no other one has. -/
def rp (i : Nat) (p : Pt) : Pt := { p with st := ⟨1 + p.st.clock % 8, p.st.site % 8, (i : Int) + 1⟩ }
def rightV (l : List Pt) : List Pt := (l.take 40).mapIdx rp
theorem right_len (l : List Pt) : (rightV l).length = min 40 l.length := by simp [rightV]
theorem right_le (l : List Pt) : (rightV l).length ≤ 40 := by rw [right_len]; omega
theorem right_get (l : List Pt) (k : Nat) (p : Pt) (hk : k < 40) (h : l[k]? = some p) : (rightV l)[k]? = some (rp k p) := by
  unfold rightV
  rw [List.getElem?_mapIdx, List.getElem?_take_of_lt hk, h]
  rfl
theorem right_next (l : List Pt) (k : Nat) (p : Pt) (hk : k < 40) (h : l[k]? = some p) : (rightV l).take (k + 1) = (rightV l).take k ++ [rp k p] := by
  have h1 := right_get l k p hk h
  obtain ⟨h2, h3⟩ := List.getElem?_eq_some_iff.1 h1
  rw [List.take_succ_eq_append_getElem h2, h3]
theorem right_wf (l : List Pt) (h : ∀ p ∈ l, p.wf) : ∀ p ∈ rightV l, p.wf := by
  intro p hp
  obtain ⟨i, hi, rfl⟩ := List.getElem_of_mem hp
  have hi2 := hi
  rw [right_len] at hi2
  have e := right_get l i l[i] (by omega) (List.getElem?_eq_getElem (by omega))
  rw [List.getElem?_eq_getElem hi] at e
  have e := Option.some.inj e
  rw [e]
  obtain ⟨h1, h2, h3, _⟩ := h l[i] (List.getElem_mem _)
  exact ⟨h1, h2, h3, by unfold rp i64; simp only; omega, by unfold rp i64; simp only; omega, by unfold rp i64; simp only; omega⟩
theorem right_st (l : List Pt) (i : Nat) (p : Pt) (h : (rightV l)[i]? = some p) : okV p.st = true ∧ p.st.seq = (i : Int) + 1 ∧ (1 ≤ p.st.clock ∧ p.st.clock ≤ 8) ∧ (0 ≤ p.st.site ∧ p.st.site ≤ 7) := by
  obtain ⟨hi, rfl⟩ := List.getElem?_eq_some_iff.1 h
  have hi2 := hi
  rw [right_len] at hi2
  have e := right_get l i l[i] (by omega) (List.getElem?_eq_getElem (by omega))
  rw [List.getElem?_eq_getElem hi] at e
  have e := Option.some.inj e
  rw [e]
  refine ⟨?_, rfl, ?_, ?_⟩
  · unfold okV inV rp
    simp only [Bool.and_eq_true, decide_eq_true_eq]
    omega
  · unfold rp; simp only; omega
  · unfold rp; simp only; omega
theorem right_apart (l : List Pt) : (rightV l).Pairwise (fun p q => p.st ≠ q.st) := by
  rw [List.pairwise_iff_getElem]
  intro i j hi hj hij e
  have h1 := (right_st l i _ (List.getElem?_eq_getElem hi)).2.1
  have h2 := (right_st l j _ (List.getElem?_eq_getElem hj)).2.1
  rw [e, h2] at h1
  omega
theorem right_uniq (l : List Pt) (p q : Pt) (hp : p ∈ rightV l) (hq : q ∈ rightV l) (e : p.st = q.st) : p = q := by
  obtain ⟨i, hi, rfl⟩ := List.getElem_of_mem hp
  obtain ⟨j, hj, rfl⟩ := List.getElem_of_mem hq
  have h1 := (right_st l i _ (List.getElem?_eq_getElem hi)).2.1
  have h2 := (right_st l j _ (List.getElem?_eq_getElem hj)).2.1
  rw [e, h2] at h1
  have : i = j := by omega
  subst this
  rfl
theorem merge_one {a : Ag} (ha : a.cnt ≠ 0) (p : Pt) : mergeV a p.one = ⟨wrap64 (a.cnt + 1), wd (a.sum.v + (wd p.value).v), min a.mn p.value, max a.mx p.value, if lessV a.at_ p.st = true then p.value else a.last, if lessV a.at_ p.st = true then p.st else a.at_, addL a.bk p.one.bk⟩ := by
  rw [merge_ne ha (show p.one.cnt ≠ 0 from (by decide : ¬ (1 : Int) = 0))]; rfl
theorem fold_snoc (r : List Pt) (p : Pt) : foldV (r ++ [p]) = mergeV (foldV r) p.one := by
  unfold foldV; rw [List.foldl_append]; rfl
theorem fold_ne {r : List Pt} (h : r.length ≤ 1000000) (h0 : r ≠ []) : (foldV r).cnt ≠ 0 := by
  rw [(fold_good r h).2]
  have : 0 < r.length := List.length_pos_iff.2 h0
  omega
theorem snoc_ind {P : List Pt → Prop} (h0 : P []) (h1 : ∀ r p, P r → P (r ++ [p])) (l : List Pt) : P l := by
  have key : ∀ n, ∀ l : List Pt, l.length = n → P l := by
    intro n
    induction n with
    | zero => intro l hl; rw [List.eq_nil_of_length_eq_zero hl]; exact h0
    | succ n ih =>
      intro l hl
      have hne : l ≠ [] := by rintro rfl; simp at hl
      rw [← List.dropLast_concat_getLast hne]
      exact h1 _ _ (ih _ (by simp [hl]))
  exact key _ l rfl
theorem fold_min (l : List Pt) (h : l.length ≤ 1000000) : (∀ p ∈ l, (foldV l).mn ≤ p.value ∧ p.value ≤ (foldV l).mx) ∧ (l ≠ [] → (∃ p ∈ l, p.value = (foldV l).mn) ∧ ∃ p ∈ l, p.value = (foldV l).mx) := by
  induction l using snoc_ind with
  | h0 => exact ⟨by simp, fun e => absurd rfl e⟩
  | h1 r p ih =>
  simp only [List.length_append, List.length_cons, List.length_nil] at h
  have ih := ih (by omega)
  rw [fold_snoc]
  by_cases h0 : r = []
  · subst h0
    have e : mergeV (foldV []) p.one = p.one := rfl
    rw [e]
    exact ⟨fun q hq => by simp at hq; subst hq; exact ⟨Int.le_refl _, Int.le_refl _⟩, fun _ => ⟨⟨p, by simp, rfl⟩, ⟨p, by simp, rfl⟩⟩⟩
  · rw [merge_one (fold_ne (by omega) h0)]
    simp only
    obtain ⟨i1, i2⟩ := ih
    obtain ⟨⟨q1, hq1, e1⟩, ⟨q2, hq2, e2⟩⟩ := i2 h0
    refine ⟨fun q hq => ?_, fun _ => ⟨?_, ?_⟩⟩
    · rcases List.mem_append.1 hq with hq | hq
      · have := i1 q hq; omega
      · simp at hq; subst hq; omega
    · by_cases hm : (foldV r).mn ≤ p.value
      · exact ⟨q1, by simp [hq1], by omega⟩
      · exact ⟨p, by simp, by omega⟩
    · by_cases hm : p.value ≤ (foldV r).mx
      · exact ⟨q2, by simp [hq2], by omega⟩
      · exact ⟨p, by simp, by omega⟩
/-- A bucket's number raised by one. -/
def upB (l : List Int) (k : Nat) : List Int := l.set k (l.getD k 0 + 1)
def cntB (l : List Pt) : List Int := l.foldl (fun b p => upB b (bucketV p.value).toNat) (List.replicate 9 0)
theorem cntB_snoc (r : List Pt) (p : Pt) : cntB (r ++ [p]) = upB (cntB r) (bucketV p.value).toNat := by
  unfold cntB; rw [List.foldl_append]; rfl
theorem cntB_len (l : List Pt) : (cntB l).length = 9 := by
  induction l using snoc_ind with
  | h0 => simp [cntB]
  | h1 r p ih =>
  rw [cntB_snoc]
  simp [upB, ih]
theorem sum_set (l : List Int) (k : Nat) (hk : k < l.length) (v : Int) : (l.set k v).sum = l.sum - l.getD k 0 + v := by
  induction l generalizing k with
  | nil => simp at hk
  | cons x r ih =>
    cases k with
    | zero => simp; omega
    | succ k =>
      have := ih k (by simpa using hk)
      simp only [List.set_cons_succ, List.sum_cons, List.getD_cons_succ, this]
      omega
theorem cntB_sum (l : List Pt) : (cntB l).sum = l.length ∧ ∀ x ∈ cntB l, 0 ≤ x ∧ x ≤ l.length := by
  induction l using snoc_ind with
  | h0 => exact ⟨by decide, by decide⟩
  | h1 r p ih =>
  rw [cntB_snoc]
  have hb := bucketV_range p.value
  have hk : (bucketV p.value).toNat < (cntB r).length := by rw [cntB_len]; omega
  refine ⟨?_, fun x hx => ?_⟩
  · unfold upB
    rw [sum_set _ _ hk, ih.1]
    simp only [List.length_append, List.length_cons, List.length_nil]
    omega
  · unfold upB at hx
    simp only [List.length_append, List.length_cons, List.length_nil]
    rcases List.mem_or_eq_of_mem_set hx with h | h
    · have := ih.2 x h; omega
    · have : (cntB r).getD (bucketV p.value).toNat 0 ∈ cntB r := by
        rw [List.getD_eq_getElem?_getD, List.getElem?_eq_getElem hk]; exact List.getElem_mem _
      have := ih.2 _ this
      omega
theorem addL_one (a : List Int) (k : Nat) (ha : a.length = 9) (hk : k < 9) (hw : ∀ x ∈ a, 0 ≤ x ∧ x ≤ 1000000) : addL a ((List.replicate 9 0).set k 1) = upB a k := by
  have key : ∀ (n : Nat) (a : List Int) (k : Nat), a.length = n → k < n → (∀ x ∈ a, 0 ≤ x ∧ x ≤ 1000000) → addL a ((List.replicate n 0).set k 1) = upB a k := by
    intro n
    induction n with
    | zero => intro a k _ hk; omega
    | succ n ih =>
      intro a k ha hk hw
      match a, ha with
      | x :: r, ha =>
        have hx := hw x (List.mem_cons_self ..)
        have hr := fun y hy => hw y (List.mem_cons_of_mem _ hy)
        rw [List.replicate_succ]
        cases k with
        | zero =>
          have h0 : ∀ (m : Nat) (l : List Int), l.length = m → (∀ y ∈ l, 0 ≤ y ∧ y ≤ 1000000) → List.zipWith (fun x y => wrap64 (x + y)) l (List.replicate m 0) = l := by
            intro m
            induction m with
            | zero => intro l hl _; rw [List.eq_nil_of_length_eq_zero hl]; rfl
            | succ m ihm =>
              intro l hl hb
              match l, hl with
              | y :: s, hl =>
                have hy := hb y (List.mem_cons_self ..)
                rw [List.replicate_succ, List.zipWith_cons_cons, ihm s (by simpa using hl) (fun z hz => hb z (List.mem_cons_of_mem _ hz)), wrap64_in _ (by unfold i64; omega), Int.add_zero]
          unfold addL upB
          rw [List.set_cons_zero, List.zipWith_cons_cons, h0 n r (by simpa using ha) hr, wrap64_in _ (by unfold i64; omega)]
          rfl
        | succ k =>
          have := ih r k (by simpa using ha) (by omega) hr
          unfold addL upB at this ⊢
          rw [List.set_cons_succ, List.zipWith_cons_cons, this, wrap64_in _ (by unfold i64; omega), Int.add_zero]
          rfl
  exact key 9 a k ha hk hw
theorem fold_bk (l : List Pt) (h : l.length ≤ 1000000) : (foldV l).bk = cntB l := by
  induction l using snoc_ind with
  | h0 => rfl
  | h1 r p ih =>
  simp only [List.length_append, List.length_cons, List.length_nil] at h
  have ih := ih (by omega)
  rw [fold_snoc, cntB_snoc]
  have hb := bucketV_range p.value
  by_cases h0 : r = []
  · subst h0
    show (List.replicate 9 (0 : Int)).set (bucketV p.value).toNat 1 = upB (List.replicate 9 0) (bucketV p.value).toNat
    unfold upB
    congr 1
    have : (bucketV p.value).toNat < 9 := by omega
    rw [List.getD_eq_getElem?_getD, List.getElem?_replicate, if_pos this]
    rfl
  · rw [merge_one (fold_ne (by omega) h0)]
    simp only
    rw [ih]
    exact addL_one _ _ (cntB_len r) (by omega) (fun x hx => by have := (cntB_sum r).2 x hx; omega)
/-- How many lie in the buckets below one. -/
def underV (bk : List Int) (b : Int) : Int := (bk.take (min (max b 0) 9).toNat).foldl (fun n x => wrap64 (n + x)) 0
theorem under_sum (l : List Int) (n : Int) (h0 : 0 ≤ n) (h : ∀ x ∈ l, 0 ≤ x) (hs : n + l.sum ≤ 1000000) : l.foldl (fun n x => wrap64 (n + x)) n = n + l.sum := by
  induction l generalizing n with
  | nil => simp
  | cons x r ih =>
    have hx := h x (List.mem_cons_self ..)
    have hr : 0 ≤ r.sum := by
      have : ∀ l : List Int, (∀ x ∈ l, 0 ≤ x) → 0 ≤ l.sum := by
        intro l
        induction l with
        | nil => intro _; simp
        | cons y s ih => intro h; have := ih (fun x hx => h x (List.mem_cons_of_mem _ hx)); have := h y (List.mem_cons_self ..); simp; omega
      exact this r (fun x hx => h x (List.mem_cons_of_mem _ hx))
    simp only [List.sum_cons] at hs ⊢
    rw [List.foldl_cons, wrap64_in _ (by unfold i64; omega), ih (n + x) (by omega) (fun x hx => h x (List.mem_cons_of_mem _ hx)) (by omega)]
    omega
theorem under_all (l : List Pt) (h : l.length ≤ 1000000) : underV (foldV l).bk 9 = l.length := by
  unfold underV
  rw [fold_bk l h, show (min (max (9 : Int) 0) 9).toNat = 9 from rfl, List.take_of_length_le (by rw [cntB_len]; omega), under_sum _ 0 (by omega) (fun x hx => ((cntB_sum l).2 x hx).1) (by rw [(cntB_sum l).1]; omega), (cntB_sum l).1]
  omega
end
end Go.Proofs.Ytojnooagifhekaa
