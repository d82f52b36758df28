/- Plain law: the least of all, and who is behind, out of what each was told. No program is in sight. The law's short, small. -/
import Derived.Test.YtglabahbklpocaaGShipPeers42
import Derived.Test.YtglabahbklpocaaGShipPeers26
import Derived.Test.YtglabahbklpocaaGShipPeers14
namespace Go.Proofs.Ytglabahbklpocaa
section
set_option maxRecDepth 100000
set_option linter.unusedVariables false
set_option linter.unusedSimpArgs false
theorem leastK_mine (m : PeM) (xs : List Int) (k : Nat) (i : Nat) (hi : i < 8) : nm (leastK m xs k) i ≤ nm xs i := by
  induction k with
  | zero =>
    show nm (joinV xs []) i ≤ _
    rw [nm_join _ _ _ hi]
    have h1 := nm_range xs i
    have h2 : nm [] i = 0 := by show cl (([] : List Int).getD i 0) = 0; rw [getD_out (by simp)]; exact cl_zero
    omega
  | succ k ih =>
    unfold leastK
    split
    · rw [nm_meet _ _ _ hi]
      omega
    · exact ih
theorem leastK_of (m : PeM) (xs : List Int) (k p : Nat) (hp : p < k) (ho : isO m (p : Int) = true) (i : Nat) (hi : i < 8) : nm (leastK m xs k) i ≤ nm (m.v p) i := by
  induction k with
  | zero => omega
  | succ k ih =>
    unfold leastK
    rcases Nat.lt_or_ge p k with h | h
    · have := ih h
      split
      · rw [nm_meet _ _ _ hi]
        omega
      · exact this
    · obtain rfl : p = k := by omega
      rw [if_pos ho, nm_meet _ _ _ hi]
      omega
theorem least_mine (m : PeM) (xs : List Int) : covV xs (leastM m xs) = true := (covV_true _ _).2 fun i hi => leastK_mine m xs 8 i hi
theorem least_of (m : PeM) (xs : List Int) (p : Nat) (hp : p < 8) (ho : isO m (p : Int) = true) : covV (m.v p) (leastM m xs) = true := (covV_true _ _).2 fun i hi => leastK_of m xs 8 p hp ho i hi
theorem join_cov (a b : List Int) (ha : pl a = a) (h : covV a b = true) : joinV a b = a := by
  have h1 := (covV_iff a b).trans h
  rw [decide_eq_true_eq] at h1
  rw [h1, ha]
/-- What was told, and what is known. -/
structure ToI (m : PeM) (T : Nat → List Int) : Prop where
  me : m.me = 0
  st : m.sites = 4
  eq : ∀ i, 1 ≤ i → i < 4 → m.v i = T i
  pc : ∀ i, pl (m.v i) = m.v i
theorem to_first : ToI (newP 0 4 5) (fun _ => []) := ⟨rfl, rfl, fun _ _ _ => rfl, fun _ => by show pl [] = []; decide +kernel⟩
theorem ToI.o {m : PeM} {T : Nat → List Int} (h : ToI m T) (i : Nat) (h1 : 1 ≤ i) (h4 : i < 4) : isO m (i : Int) = true := by
  unfold isO
  rw [h.me, h.st]
  simp only [Bool.and_eq_true, decide_eq_true_eq, Bool.not_eq_true', decide_eq_false_iff_not]
  omega
theorem ToI.note {m : PeM} {T : Nat → List Int} (h : ToI m T) (p : Nat) (h1 : 1 ≤ p) (h4 : p < 4) (v : List Int) : ToI (noteM m (p : Int) v).1 (upd T p (joinV (T p) v)) := by
  have ho := h.o p h1 h4
  unfold noteM
  rw [Int.toNat_natCast]
  by_cases hc : covV (m.v p) v = true
  · rw [if_neg (by rw [hc]; simp)]
    refine ⟨h.me, h.st, fun i hi1 hi4 => ?_, h.pc⟩
    unfold upd
    split
    · rename_i e
      rw [e, h.eq p h1 h4, join_cov _ _ (by rw [← h.eq p h1 h4]; exact h.pc p) (by rw [← h.eq p h1 h4]; exact hc)]
    · exact h.eq i hi1 hi4
  · rw [if_pos ⟨ho, by simpa using hc⟩]
    refine ⟨h.me, h.st, fun i hi1 hi4 => ?_, fun i => ?_⟩
    · show upd m.v p _ i = _
      unfold upd
      split
      · rw [h.eq p h1 h4]
      · exact h.eq i hi1 hi4
    · show pl (upd m.v p _ i) = upd m.v p _ i
      unfold upd
      split
      · exact pl_join _ _
      · exact h.pc i
theorem thoseK_succ (m : PeM) (P : Nat → Bool) (n : Nat) : thoseK m P (n + 1) = if isO m (n : Int) = true ∧ P n = true then thoseK m P n ++ [(n : Int)] else thoseK m P n := rfl
theorem thoseK_split (m : PeM) (P : Nat → Bool) (k n : Nat) (h : k ≤ n) : ∃ r, thoseK m P n = thoseK m P k ++ r ∧ ∀ x ∈ r, (k : Int) ≤ x := by
  induction n with
  | zero =>
    obtain rfl : k = 0 := by omega
    exact ⟨[], rfl, fun x hx => absurd hx (by simp)⟩
  | succ n ih =>
    rcases Nat.lt_or_ge n k with hk | hk
    · obtain rfl : k = n + 1 := by omega
      exact ⟨[], by simp, by simp⟩
    · obtain ⟨r, h1, h2⟩ := ih hk
      rw [thoseK_succ m P n]
      split
      · refine ⟨r ++ [(n : Int)], by rw [h1, List.append_assoc], fun x hx => ?_⟩
        rcases List.mem_append.1 hx with hx | hx
        · exact h2 x hx
        · simp only [List.mem_singleton] at hx
          omega
      · exact ⟨r, h1, h2⟩
/-- Site p is next on the list exactly if it is behind. -/
theorem those_at (m : PeM) (P : Nat → Bool) (p : Nat) (hp : p < 8) (ho : isO m (p : Int) = true) : ((thoseK m P 8)[(thoseK m P p).length]? = some (p : Int)) ↔ P p = true := by
  obtain ⟨r, h1, h2⟩ := thoseK_split m P (p + 1) 8 (by omega)
  by_cases hP : P p = true
  · have e : thoseK m P (p + 1) = thoseK m P p ++ [(p : Int)] := by
      rw [thoseK_succ, if_pos ⟨ho, hP⟩]
    rw [h1, e, List.append_assoc]
    simp [hP]
  · have e : thoseK m P (p + 1) = thoseK m P p := by
      rw [thoseK_succ, if_neg (fun h => hP h.2)]
    rw [h1, e]
    refine ⟨fun h => ?_, fun h => absurd h hP⟩
    rw [List.getElem?_append_right (Nat.le_refl _)] at h
    have := h2 _ (List.mem_of_getElem? h)
    omega
theorem those_next (m : PeM) (P : Nat → Bool) (p : Nat) (ho : isO m (p : Int) = true) : (thoseK m P (p + 1)).length = if P p = true then (thoseK m P p).length + 1 else (thoseK m P p).length := by
  rw [thoseK_succ]
  by_cases h : P p = true
  · rw [if_pos ⟨ho, h⟩, if_pos h, List.length_append, List.length_singleton]
  · rw [if_neg (fun x => h x.2), if_neg h]
theorem those_first {m : PeM} {T : Nat → List Int} (h : ToI m T) (P : Nat → Bool) : thoseK m P 1 = [] := by
  rw [thoseK_succ, if_neg]
  · rfl
  · intro x
    have := isO_true x.1
    rw [h.me] at this
    omega
theorem those_last {m : PeM} {T : Nat → List Int} (h : ToI m T) (P : Nat → Bool) : thoseK m P 8 = thoseK m P 4 := by
  have s : ∀ k : Nat, 4 ≤ k → thoseK m P (k + 1) = thoseK m P k := fun k hk => by
    rw [thoseK_succ, if_neg]
    intro x
    have := isO_true x.1
    rw [h.st] at this
    omega
  rw [s 7 (by omega), s 6 (by omega), s 5 (by omega), s 4 (by omega)]
end
end Go.Proofs.Ytglabahbklpocaa
namespace Go.Proofs.Ytglabahbklpocaa
section
open Go.RowKit
set_option maxRecDepth 100000
set_option linter.unusedVariables false
set_option linter.unusedSimpArgs false
attribute [local go_sem ↓] Go.wp_at_zero Go.wp_at_succ
def Sl.cut (d : Sl) : Sl := if 12 < d.n then ⟨d.a, 12, d.c⟩ else d
def RecA.small (x : RecA) : RecA := ⟨{ x.r with series := x.r.series.extract 0 60 }, x.d.cut, x.ds.take 12⟩
def Sl0 : Sl := ⟨none, 0, 0⟩
def Rc0 : Rc := ⟨0, ⟨#[]⟩, 0, 0, 0, ⟨0, 0, 0⟩⟩
theorem SlR.cut {w : World} {d : Sl} {ds : List Int} (h : SlR w d ds) : SlR w d.cut (ds.take 12) := by
  obtain ⟨⟨h1, h2⟩, h3, h4⟩ := h
  unfold Sl.cut
  split
  · refine ⟨⟨by simp; omega, ?_⟩, by simp; omega, h4⟩
    rcases h2 with h2 | ⟨b, o, e1, e2, e3⟩
    · omega
    · refine .inr ⟨b, o, e1, e2, fun j hj => ?_⟩
      simp only at hj
      rw [e3 j (by omega)]
      congr 2
      simp only [List.getD_eq_getElem?_getD, List.getElem?_take]
      rw [if_pos hj]
  · rw [List.take_of_length_le (by omega)]
    exact ⟨⟨h1, h2⟩, h3, h4⟩
theorem RecA.small_ok {w : World} {x : RecA} (h : x.ok w) : x.small.ok w := ⟨⟨h.wf.1, by
  have := h.wf.2.1
  simp only [RecA.small, ByteArray.size_extract]
  omega, h.wf.2.2⟩, h.sl.cut⟩
theorem RecA.ok.below {w w' : World} {x : RecA} (h : x.ok w) (hb : Below w.heap.size w w') : x.ok w' := ⟨h.wf, h.sl.below hb⟩
end
end Go.Proofs.Ytglabahbklpocaa
