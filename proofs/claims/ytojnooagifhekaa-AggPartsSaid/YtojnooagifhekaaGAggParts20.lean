/- Plain law: points put together in parts; order of parts. -/
import Derived.Test.YtojnooagifhekaaGAggParts8
namespace Go.Proofs.Ytojnooagifhekaa
section
open Go.RowKit
set_option maxRecDepth 100000
set_option linter.unusedVariables false
set_option linter.unusedSimpArgs false
theorem less_irrefl (a : St) : lessV a a = false := by unfold lessV; simp
theorem less_asymm {a b : St} (h : lessV a b = true) : lessV b a = false := by
  unfold lessV at *
  split at h <;> split <;> (try split at h) <;> (try split) <;> simp at * <;> omega
theorem less_trans {a b c : St} (h : lessV a b = true) (k : lessV b c = true) : lessV a c = true := by
  unfold lessV at *
  repeat' split at h
  all_goals (repeat' split at k)
  all_goals (repeat' split)
  all_goals (simp at *)
  all_goals omega
theorem less_total {a b : St} (h : lessV a b = false) (hne : a ≠ b) : lessV b a = true := by
  obtain ⟨a1, a2, a3⟩ := a
  obtain ⟨b1, b2, b3⟩ := b
  unfold lessV at *
  simp only [ne_eq, St.mk.injEq] at *
  repeat' split at h
  all_goals (repeat' split)
  all_goals (simp at *)
  all_goals omega
theorem less_ntrans {a b c : St} (h : lessV a b = false) (k : lessV b c = false) : lessV a c = false := by
  rcases hx : lessV a c with _ | _
  · rfl
  · by_cases e : a = b
    · subst e; rw [hx] at k; exact k
    · have := less_total h e
      have := less_trans this hx
      rw [this] at k
      exact k
/-- What is known of at most so many points. -/
structure Good (a : Ag) : Prop where
  c0 : 0 ≤ a.cnt
  c1 : a.cnt ≤ 1000000
  z : a.cnt = 0 → a = Ag0
  len : a.bk.length = 9
theorem good0 : Good Ag0 := ⟨by decide, by decide, fun _ => rfl, rfl⟩
theorem merge_ne {a b : Ag} (ha : a.cnt ≠ 0) (hb : b.cnt ≠ 0) : mergeV a b = ⟨wrap64 (a.cnt + b.cnt), wd (a.sum.v + b.sum.v), min a.mn b.mn, max a.mx b.mx, if lessV a.at_ b.at_ = true then b.last else a.last, if lessV a.at_ b.at_ = true then b.at_ else a.at_, addL a.bk b.bk⟩ := by
  unfold mergeV; rw [if_neg ha, if_neg hb]
theorem merge_z1 {a b : Ag} (ha : a.cnt = 0) : mergeV a b = b := if_pos ha
theorem merge_z2 {a b : Ag} (ha : a.cnt ≠ 0) (hb : b.cnt = 0) : mergeV a b = a := by unfold mergeV; rw [if_neg ha, if_pos hb]
theorem wrap64_in (x : Int) (h : i64 x) : wrap64 x = x := by unfold wrap64 i64 at *; omega
theorem merge_cnt {a b : Ag} (ha : Good a) (hb : Good b) (h : a.cnt + b.cnt ≤ 1000000) : (mergeV a b).cnt = a.cnt + b.cnt := by
  have h1 := ha.c0; have h2 := hb.c0
  unfold mergeV
  split
  · omega
  · split
    · omega
    · exact wrap64_in _ (by unfold i64; omega)
theorem merge_good {a b : Ag} (ha : Good a) (hb : Good b) (h : a.cnt + b.cnt ≤ 1000000) : Good (mergeV a b) := by
  have hc := merge_cnt ha hb h
  have h1 := ha.c0; have h2 := hb.c0
  refine ⟨by omega, by omega, fun e => ?_, ?_⟩
  · have e1 : a.cnt = 0 := by omega
    have e2 : b.cnt = 0 := by omega
    unfold mergeV
    rw [if_pos e1]
    exact hb.z e2
  · unfold mergeV
    split
    · exact hb.len
    · split
      · exact ha.len
      · exact addL_len ha.len hb.len
theorem one_good (v : Int) (s : St) : Good (oneV v s) := ⟨(by decide : (0 : Int) ≤ 1), (by decide : (1 : Int) ≤ 1000000), fun e => absurd e (by decide : ¬ (1 : Int) = 0), by simp [oneV]⟩
theorem addL_assoc (a b c : List Int) : addL (addL a b) c = addL a (addL b c) := by
  unfold addL
  induction a generalizing b c with
  | nil => simp
  | cons x a ih =>
    cases b with
    | nil => simp
    | cons y b =>
      cases c with
      | nil => simp
      | cons z c =>
        simp only [List.zipWith_cons_cons, List.cons.injEq, ih, and_true]
        unfold wrap64
        omega
theorem addL_comm (a b : List Int) : addL a b = addL b a := by
  unfold addL
  induction a generalizing b with
  | nil => cases b <;> simp
  | cons x a ih =>
    cases b with
    | nil => simp
    | cons y b => simp only [List.zipWith_cons_cons, List.cons.injEq, ih, Int.add_comm, and_true]
theorem wd_assoc (x y z : Int) : wd ((wd (x + y)).v + z) = wd (x + (wd (y + z)).v) := by
  apply wd_mod
  have h1 := v_wd_mod (x + y)
  have h2 := v_wd_mod (y + z)
  omega
theorem merge_assoc {a b c : Ag} (ha : Good a) (hb : Good b) (hc : Good c) (h : a.cnt + b.cnt + c.cnt ≤ 1000000) : mergeV (mergeV a b) c = mergeV a (mergeV b c) := by
  have h1 := ha.c0; have h2 := hb.c0; have h3 := hc.c0
  have hab := merge_cnt ha hb (by omega)
  have hbc := merge_cnt hb hc (by omega)
  by_cases ea : a.cnt = 0
  · have e1 : mergeV a b = b := if_pos ea
    have e2 : mergeV a (mergeV b c) = mergeV b c := if_pos ea
    rw [e1, e2]
  · by_cases eb : b.cnt = 0
    · have e1 : mergeV a b = a := by unfold mergeV; rw [if_neg ea, if_pos eb]
      have e2 : mergeV b c = c := if_pos eb
      rw [e1, e2]
    · by_cases ec : c.cnt = 0
      · have e1 : mergeV b c = b := by unfold mergeV; rw [if_neg eb, if_pos ec]
        have e2 : mergeV (mergeV a b) c = mergeV a b := by
          exact merge_z2 (by omega) ec
        rw [e1, e2]
      · rw [merge_ne (show (mergeV a b).cnt ≠ 0 by omega) ec, merge_ne ea (show (mergeV b c).cnt ≠ 0 by omega), hab, hbc, merge_ne ea eb, merge_ne eb ec]
        simp only
        rw [Int.add_assoc, wd_assoc, addL_assoc, show min (min a.mn b.mn) c.mn = min a.mn (min b.mn c.mn) by omega, show max (max a.mx b.mx) c.mx = max a.mx (max b.mx c.mx) by omega]
        rcases hx : lessV a.at_ b.at_ with _ | _ <;> rcases hy : lessV b.at_ c.at_ with _ | _ <;> simp only [hx, hy, if_true, if_false, Bool.false_eq_true]
        · rw [less_ntrans hx hy]; simp only [Bool.false_eq_true, if_false]
        · rw [less_trans hx hy]; simp only [if_true]
theorem merge_comm {a b : Ag} (ha : Good a) (hb : Good b) (h : a.cnt + b.cnt ≤ 1000000) (hne : a.cnt ≠ 0 → b.cnt ≠ 0 → a.at_ ≠ b.at_) : mergeV a b = mergeV b a := by
  by_cases ea : a.cnt = 0
  · have e1 : mergeV a b = b := if_pos ea
    rw [e1]
    by_cases eb : b.cnt = 0
    · have e2 : mergeV b a = a := if_pos eb
      rw [e2, ha.z ea, hb.z eb]
    · unfold mergeV; rw [if_neg eb, if_pos ea]
  · by_cases eb : b.cnt = 0
    · have e1 : mergeV b a = a := if_pos eb
      rw [e1]; unfold mergeV; rw [if_neg ea, if_pos eb]
    · have hne := hne ea eb
      unfold mergeV
      rw [if_neg ea, if_neg eb, if_neg eb, if_neg ea]
      rw [Int.add_comm, Int.add_comm a.sum.v, addL_comm, show min a.mn b.mn = min b.mn a.mn by omega, show max a.mx b.mx = max b.mx a.mx by omega]
      rcases hx : lessV a.at_ b.at_ with _ | _
      · rw [less_total hx hne]; simp only [Bool.false_eq_true, if_true, if_false]
      · rw [less_asymm hx]; simp only [Bool.false_eq_true, if_true, if_false]
theorem foldl_good (l : List Pt) (a : Ag) (ha : Good a) (h : a.cnt + l.length ≤ 1000000) : Good (l.foldl (fun a p => mergeV a p.one) a) ∧ (l.foldl (fun a p => mergeV a p.one) a).cnt = a.cnt + l.length := by
  induction l generalizing a with
  | nil => exact ⟨ha, by simp⟩
  | cons p r ih =>
    have h1 : (Pt.one p).cnt = 1 := rfl
    simp only [List.length_cons] at h
    have hc := merge_cnt ha (one_good p.value p.st) (by show _ + (Pt.one p).cnt ≤ _; omega)
    have hc' : (mergeV a p.one).cnt = a.cnt + 1 := hc
    have := ih (mergeV a p.one) (merge_good ha (one_good _ _) (by show _ + (Pt.one p).cnt ≤ _; omega)) (by omega)
    refine ⟨this.1, ?_⟩
    rw [List.foldl_cons, this.2, hc']
    simp only [List.length_cons]
    omega
theorem fold_good (l : List Pt) (h : l.length ≤ 1000000) : Good (foldV l) ∧ (foldV l).cnt = l.length := by
  have := foldl_good l Ag0 good0 (by show (0 : Int) + _ ≤ _; omega)
  refine ⟨this.1, this.2.trans ?_⟩
  show (0 : Int) + _ = _
  omega
theorem foldl_merge (l : List Pt) (a : Ag) (ha : Good a) (h : a.cnt + l.length ≤ 1000000) : l.foldl (fun a p => mergeV a p.one) a = mergeV a (foldV l) := by
  induction l generalizing a with
  | nil =>
    show a = mergeV a Ag0
    by_cases ea : a.cnt = 0
    · rw [ha.z ea]; rfl
    · exact (merge_z2 ea rfl).symm
  | cons p r ih =>
    have h1 : (Pt.one p).cnt = 1 := rfl
    simp only [List.length_cons] at h
    have g1 : Good p.one := one_good _ _
    have hz := ha.c0
    have hc' : (mergeV a p.one).cnt = a.cnt + 1 := merge_cnt ha g1 (by omega)
    have e0 : mergeV Ag0 p.one = p.one := rfl
    have g2 := merge_good ha g1 (by omega)
    rw [List.foldl_cons, ih (mergeV a p.one) g2 (by omega)]
    have e : foldV (p :: r) = mergeV p.one (foldV r) := by
      show r.foldl (fun a p => mergeV a p.one) (mergeV Ag0 p.one) = _
      rw [e0]
      exact ih p.one g1 (by omega)
    rw [e]
    have := fold_good r (by omega)
    exact merge_assoc ha g1 this.1 (by rw [this.2]; omega)
theorem fold_append (l m : List Pt) (h : l.length + m.length ≤ 1000000) : foldV (l ++ m) = mergeV (foldV l) (foldV m) := by
  have := fold_good l (by omega)
  have e : foldV (l ++ m) = m.foldl (fun a p => mergeV a p.one) (foldV l) := by unfold foldV; rw [List.foldl_append]
  rw [e]
  exact foldl_merge m _ this.1 (by rw [this.2]; omega)
/-- The stamp is one of the points'. -/
theorem fold_at (l : List Pt) (h : l.length ≤ 1000000) (hne : l ≠ []) : ∃ p ∈ l, (foldV l).at_ = p.st ∧ (foldV l).last = p.value ∧ ∀ q ∈ l, lessV (foldV l).at_ q.st = false := by
  have key : ∀ n, ∀ l : List Pt, l.length = n → n ≤ 1000000 → l ≠ [] → ∃ p ∈ l, (foldV l).at_ = p.st ∧ (foldV l).last = p.value ∧ ∀ q ∈ l, lessV (foldV l).at_ q.st = false := by
    intro n
    induction n with
    | zero => intro l hl _ hne; exact absurd (List.eq_nil_of_length_eq_zero hl) hne
    | succ n ih =>
      intro l hl hn hne
      obtain ⟨r, p, rfl⟩ : ∃ r p, l = r ++ [p] := ⟨l.dropLast, l.getLast hne, (List.dropLast_concat_getLast hne).symm⟩
      have hr : r.length = n := by simpa using hl
      have e1 : foldV [p] = p.one := rfl
      rw [fold_append r [p] (by simp; omega), e1]
      by_cases h0 : r = []
      · subst h0
        exact ⟨p, by simp, rfl, rfl, fun q hq => by
          simp at hq; subst hq; exact less_irrefl _⟩
      · obtain ⟨p', hp', a1, a2, a3⟩ := ih r hr (by omega) h0
        have hg := fold_good r (by omega)
        have hc : (foldV r).cnt ≠ 0 := by
          rw [hg.2]
          have : 0 < r.length := List.length_pos_iff.2 h0
          omega
        have e : mergeV (foldV r) p.one = ⟨wrap64 ((foldV r).cnt + p.one.cnt), wd ((foldV r).sum.v + p.one.sum.v), min (foldV r).mn p.one.mn, max (foldV r).mx p.one.mx, if lessV (foldV r).at_ p.one.at_ = true then p.one.last else (foldV r).last, if lessV (foldV r).at_ p.one.at_ = true then p.one.at_ else (foldV r).at_, addL (foldV r).bk p.one.bk⟩ := by
          unfold mergeV; rw [if_neg hc, if_neg (show p.one.cnt ≠ 0 from (by decide : ¬ (1 : Int) = 0))]
        rw [e]
        simp only
        have e2 : p.one.at_ = p.st := rfl
        have e3 : p.one.last = p.value := rfl
        rw [e2, e3]
        rcases hx : lessV (foldV r).at_ p.st with _ | _
        · simp only [Bool.false_eq_true, if_false]
          refine ⟨p', by simp [hp'], a1, a2, fun q hq => ?_⟩
          rcases List.mem_append.1 hq with hq | hq
          · exact a3 q hq
          · simp at hq; subst hq; exact hx
        · simp only [if_true]
          refine ⟨p, by simp, rfl, rfl, fun q hq => ?_⟩
          rcases List.mem_append.1 hq with hq | hq
          · rcases hy : lessV p.st q.st with _ | _
            · rfl
            · have := less_trans hx hy
              rw [a3 q hq] at this
              simp at this
          · simp at hq; subst hq; exact less_irrefl _
  exact key l.length l rfl h hne
theorem fold_parts (x y z : List Pt) (h : x.length + y.length + z.length ≤ 1000000) (hd : (x ++ y ++ z).Pairwise (fun p q => p.st ≠ q.st)) :
    foldV (x ++ y ++ z) = mergeV (mergeV (foldV x) (foldV y)) (foldV z) ∧ foldV (x ++ y ++ z) = mergeV (foldV x) (mergeV (foldV y) (foldV z)) ∧
    foldV (x ++ y ++ z) = mergeV (foldV z) (mergeV (foldV x) (foldV y)) ∧ foldV (x ++ y ++ z) = mergeV (mergeV (foldV y) (foldV z)) (foldV x) := by
  have gx := fold_good x (by omega)
  have gy := fold_good y (by omega)
  have gz := fold_good z (by omega)
  have comm : ∀ l m : List Pt, l.length + m.length ≤ 1000000 → (∀ p ∈ l, ∀ q ∈ m, p.st ≠ q.st) → mergeV (foldV l) (foldV m) = mergeV (foldV m) (foldV l) := by
    intro l m hlm hne
    have gl := fold_good l (by omega)
    have gm := fold_good m (by omega)
    refine merge_comm gl.1 gm.1 (by rw [gl.2, gm.2]; omega) fun e1 e2 => ?_
    have n1 : l ≠ [] := by rintro rfl; exact e1 rfl
    have n2 : m ≠ [] := by rintro rfl; exact e2 rfl
    obtain ⟨p, hp, a1, _⟩ := fold_at l (by omega) n1
    obtain ⟨q, hq, b1, _⟩ := fold_at m (by omega) n2
    rw [a1, b1]
    exact hne p hp q hq
  have hxyz := List.pairwise_append.1 hd
  have hxy := List.pairwise_append.1 hxyz.1
  have e1 : foldV (x ++ y ++ z) = mergeV (mergeV (foldV x) (foldV y)) (foldV z) := by
    rw [fold_append _ _ (by simp; omega), fold_append _ _ (by omega)]
  have e2 : foldV (x ++ y ++ z) = mergeV (foldV x) (mergeV (foldV y) (foldV z)) := by
    rw [List.append_assoc, fold_append _ _ (by simp; omega), fold_append _ _ (by omega)]
  refine ⟨e1, e2, ?_, ?_⟩
  · rw [e1, ← fold_append _ _ (by omega)]
    exact comm _ _ (by simp; omega) hxyz.2.2
  · rw [e2, ← fold_append y z (by omega)]
    refine comm _ _ (by simp; omega) fun p hp q hq => ?_
    rcases List.mem_append.1 hq with hq | hq
    · exact hxy.2.2 p hp q hq
    · exact hxyz.2.2 p (List.mem_append_left _ hp) q hq
end
end Go.Proofs.Ytojnooagifhekaa
