/- Plain law: by ticks each other site is due at the first one, and then each every so many. No program is in sight. -/
import Derived.Test.YtglabahbklpocaaGShipPeers2
namespace Go.Proofs.Ytglabahbklpocaa
section
set_option maxRecDepth 100000
set_option linter.unusedVariables false
set_option linter.unusedSimpArgs false
def oth (m : PeM) : List Int := thoseK m (fun _ => true) 8
theorem thoseK_mem (m : PeM) (P : Nat → Bool) (k : Nat) (hk : k ≤ 8) : ∀ x ∈ thoseK m P k, ∃ i : Nat, x = (i : Int) ∧ i < 8 ∧ isO m (i : Int) = true ∧ P i = true := by
  induction k with
  | zero => intro x hx; simp [thoseK] at hx
  | succ k ih =>
    intro x hx
    unfold thoseK at hx
    split at hx
    · rename_i h
      rcases List.mem_append.1 hx with hx | hx
      · exact ih (by omega) x hx
      · simp only [List.mem_singleton] at hx
        exact ⟨k, hx, by omega, h.1, h.2⟩
    · exact ih (by omega) x hx
theorem mem_thoseK (m : PeM) (P : Nat → Bool) (k : Nat) (i : Nat) (hi : i < k) (h1 : isO m (i : Int) = true) (h2 : P i = true) : (i : Int) ∈ thoseK m P k := by
  induction k with
  | zero => omega
  | succ k ih =>
    unfold thoseK
    rcases Nat.lt_or_ge i k with h | h
    · split
      · exact List.mem_append_left _ (ih h)
      · exact ih h
    · obtain rfl : i = k := by omega
      rw [if_pos ⟨h1, h2⟩]
      simp
theorem oth_len (m : PeM) (hs : 0 ≤ m.sites ∧ m.sites ≤ 8) : ((oth m).length : Int) = if 0 ≤ m.me ∧ m.me < m.sites then m.sites - 1 else m.sites := by
  have h : ∀ k : Nat, k ≤ 8 → ((thoseK m (fun _ => true) k).length : Int) = min (k : Int) m.sites - (if 0 ≤ m.me ∧ m.me < min (k : Int) m.sites then 1 else 0) := by
    intro k
    induction k with
    | zero => intro _; simp [thoseK]; omega
    | succ k ih =>
      intro hk
      have ih := ih (by omega)
      unfold thoseK
      by_cases ho : isO m (k : Int) = true
      · obtain ⟨h0, h1, h2⟩ := isO_true ho
        rw [if_pos ⟨ho, rfl⟩, List.length_append, List.length_singleton]
        push_cast
        rw [ih]
        split <;> split <;> omega
      · have h1 := isO_false (by simpa using ho)
        rw [if_neg (fun h => ho h.1), ih]
        push_cast
        split <;> split <;> omega
  have := h 8 (Nat.le_refl _)
  show ((thoseK m (fun _ => true) 8).length : Int) = _
  rw [this]
  have e : min (((8 : Nat) : Int)) m.sites = m.sites := by omega
  rw [e]
  split <;> omega
theorem thoseK_congr (m : PeM) (P Q : Nat → Bool) (k : Nat) (h : ∀ i : Nat, i < k → isO m (i : Int) = true → P i = Q i) : thoseK m P k = thoseK m Q k := by
  induction k with
  | zero => rfl
  | succ k ih =>
    unfold thoseK
    rw [ih (fun i hi => h i (by omega))]
    by_cases ho : isO m (k : Int) = true
    · rw [h k (by omega) ho]
    · rw [if_neg (fun x => ho x.1), if_neg (fun x => ho x.1)]
theorem thoseK_none (m : PeM) (k : Nat) : thoseK m (fun _ => false) k = [] := by
  induction k with
  | zero => rfl
  | succ k ih =>
    unfold thoseK
    rw [if_neg (by simp), ih]
/-- What is known ahead of tick t. -/
def StT (m : PeM) (t : Int) : Prop := ∀ i : Nat, i < 8 → isO m (i : Int) = true → (t = 1 → m.s i = false) ∧ (2 ≤ t → m.s i = true ∧ m.a i = 1 + (t - 2) / m.every * m.every)
theorem due_turn {m : PeM} {t : Int} (h : StT m t) (ht : 1 ≤ t ∧ t ≤ 1000) (he : 1 ≤ m.every) : dueM m t = if (t - 1) % m.every = 0 then oth m else [] := by
  have hc : clockP t = t := by unfold clockP; omega
  unfold dueM oth
  rw [hc]
  have key : ∀ i : Nat, i < 8 → isO m (i : Int) = true → dueP m t i = decide ((t - 1) % m.every = 0) := by
    intro i hi ho
    obtain ⟨h1, h2⟩ := h i hi ho
    unfold dueP
    by_cases h0 : t = 1
    · rw [h1 h0, h0]
      simp
    · obtain ⟨h3, h4⟩ := h2 (by omega)
      rw [h3, h4]
      have e := Int.mul_ediv_add_emod (t - 2) m.every
      have r0 := Int.emod_nonneg (t - 2) (show m.every ≠ 0 by omega)
      have r1 := Int.emod_lt_of_pos (t - 2) (show 0 < m.every by omega)
      rw [Int.mul_comm] at e
      generalize (t - 2) / m.every * m.every = q at *
      have e2 : t - 1 = q + ((t - 2) % m.every + 1) := by omega
      have hq : q % m.every = 0 := by
        have : q = (t - 2) - (t - 2) % m.every := by omega
        rw [this, Int.sub_emod, Int.emod_emod_of_dvd _ (Int.dvd_refl _), Int.sub_self, Int.zero_emod]
      have e3 : (t - 1) % m.every = ((t - 2) % m.every + 1) % m.every := by
        rw [e2, Int.add_emod, hq, Int.zero_add, Int.emod_emod_of_dvd _ (Int.dvd_refl _)]
      generalize hr : (t - 2) % m.every = r at *
      have n1 : decide (t < 1 + q) = false := decide_eq_false (by omega)
      rw [n1, e3]
      by_cases hr1 : r + 1 = m.every
      · rw [hr1, Int.emod_self]
        simp
        omega
      · rw [Int.emod_eq_of_lt (by omega) (by omega)]
        have n2 : decide (m.every ≤ t - (1 + q)) = false := decide_eq_false (by omega)
        have n3 : decide (r + 1 = 0) = false := decide_eq_false (by omega)
        rw [n2, n3]
        rfl
  by_cases hd : (t - 1) % m.every = 0
  · rw [if_pos hd]
    exact thoseK_congr m _ _ 8 (fun i hi ho => by rw [key i hi ho, decide_eq_true hd])
  · rw [if_neg hd, thoseK_congr m (dueP m t) (fun _ => false) 8 (fun i hi ho => by rw [key i hi ho, decide_eq_false hd])]
    exact thoseK_none m 8
def sentL (m : PeM) (l : List Int) (t : Int) : PeM := l.foldl (fun m i => (sentM m i t).1) m
theorem sentL_next (m : PeM) (l : List Int) (t : Int) (k : Nat) (x : Int) (h : l[k]? = some x) : sentL m (l.take (k + 1)) t = (sentM (sentL m (l.take k) t) x t).1 := by
  unfold sentL
  rw [List.take_add_one, h, List.foldl_append]
  rfl
theorem sentM_fix (m : PeM) (i t : Int) : (sentM m i t).1.me = m.me ∧ (sentM m i t).1.sites = m.sites ∧ (sentM m i t).1.every = m.every := by
  unfold sentM
  split <;> exact ⟨rfl, rfl, rfl⟩
theorem isO_congr {m m' : PeM} (h1 : m'.me = m.me) (h2 : m'.sites = m.sites) (i : Int) : isO m' i = isO m i := by unfold isO; rw [h1, h2]
theorem sentL_fix (l : List Int) (m : PeM) (t : Int) : (sentL m l t).me = m.me ∧ (sentL m l t).sites = m.sites ∧ (sentL m l t).every = m.every := by
  induction l generalizing m with
  | nil => exact ⟨rfl, rfl, rfl⟩
  | cons x r ih =>
    have h1 := ih (sentM m x t).1
    have h2 := sentM_fix m x t
    exact ⟨h1.1.trans h2.1, h1.2.1.trans h2.2.1, h1.2.2.trans h2.2.2⟩
theorem sentM_keep (m : PeM) (x t : Int) (i : Nat) (h : m.s i = true ∧ m.a i = clockP t) : (sentM m x t).1.s i = true ∧ (sentM m x t).1.a i = clockP t := by
  unfold sentM
  split
  · show upd m.s x.toNat true i = true ∧ upd m.a x.toNat (clockP t) i = _
    unfold upd
    split
    · exact ⟨rfl, rfl⟩
    · exact h
  · exact h
theorem sentL_keep (l : List Int) (m : PeM) (t : Int) (i : Nat) (h : m.s i = true ∧ m.a i = clockP t) : (sentL m l t).s i = true ∧ (sentL m l t).a i = clockP t := by
  induction l generalizing m with
  | nil => exact h
  | cons x r ih => exact ih _ (sentM_keep m x t i h)
theorem sentL_set (l : List Int) (m : PeM) (t : Int) (i : Nat) (hi : (i : Int) ∈ l) (ho : isO m (i : Int) = true) : (sentL m l t).s i = true ∧ (sentL m l t).a i = clockP t := by
  induction l generalizing m with
  | nil => simp at hi
  | cons x r ih =>
    show (sentL (sentM m x t).1 r t).s i = true ∧ (sentL (sentM m x t).1 r t).a i = _
    rcases List.mem_cons.1 hi with h | h
    · refine sentL_keep r _ t i ?_
      unfold sentM
      rw [← h, if_pos ho]
      show upd m.s (i : Int).toNat true i = true ∧ upd m.a (i : Int).toNat (clockP t) i = _
      rw [Int.toNat_natCast, upd_same, upd_same]
      exact ⟨rfl, rfl⟩
    · exact ih _ h (by rw [isO_congr (sentM_fix m x t).1 (sentM_fix m x t).2.1]; exact ho)
theorem turn_next {m : PeM} {t : Int} (h : StT m t) (ht : 1 ≤ t ∧ t ≤ 1000) (he : 1 ≤ m.every) : StT (sentL m (dueM m t) t) (t + 1) := by
  have hf := sentL_fix (dueM m t) m t
  intro i hi ho
  rw [isO_congr hf.1 hf.2.1] at ho
  refine ⟨fun h => by omega, fun _ => ?_⟩
  have hc : clockP t = t := by unfold clockP; omega
  rw [hf.2.2, show t + 1 - 2 = t - 1 by omega]
  by_cases hd : (t - 1) % m.every = 0
  · have hm : (i : Int) ∈ dueM m t := by rw [due_turn h ht he, if_pos hd]; exact mem_thoseK m _ 8 i hi ho rfl
    obtain ⟨h1, h2⟩ := sentL_set (dueM m t) m t i hm ho
    refine ⟨h1, ?_⟩
    rw [h2, hc]
    have := Int.mul_ediv_add_emod (t - 1) m.every
    rw [hd, Int.mul_comm] at this
    omega
  · rw [due_turn h ht he, if_neg hd]
    show m.s i = true ∧ m.a i = _
    obtain ⟨h1, h2⟩ := h i hi ho
    have h0 : t ≠ 1 := fun e => hd (by rw [e]; simp)
    obtain ⟨h3, h4⟩ := h2 (by omega)
    refine ⟨h3, ?_⟩
    rw [h4]
    have e1 := Int.mul_ediv_add_emod (t - 2) m.every
    have e2 := Int.mul_ediv_add_emod (t - 1) m.every
    have r0 := Int.emod_nonneg (t - 2) (show m.every ≠ 0 by omega)
    have r1 := Int.emod_lt_of_pos (t - 2) (show 0 < m.every by omega)
    have r2 := Int.emod_nonneg (t - 1) (show m.every ≠ 0 by omega)
    have r3 := Int.emod_lt_of_pos (t - 1) (show 0 < m.every by omega)
    have hq : (t - 2) / m.every = (t - 1) / m.every := by
      have h5 : (t - 1) / m.every * m.every ≤ t - 2 := by rw [Int.mul_comm] at e2; omega
      have h6 : t - 2 < ((t - 1) / m.every + 1) * m.every := by rw [Int.add_mul]; rw [Int.mul_comm] at e2; omega
      have h7 := (Int.le_ediv_iff_mul_le (show 0 < m.every by omega)).2 h5
      have h8 := (Int.ediv_lt_iff_lt_mul (show 0 < m.every by omega)).2 h6
      omega
    rw [hq]
theorem turn_first (me n e : Int) : StT (newP me n e) 1 := fun i hi ho => ⟨fun _ => rfl, fun h => absurd h (by decide)⟩
end
end Go.Proofs.Ytglabahbklpocaa
