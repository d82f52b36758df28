/- Contract of the reference Put. sample.Name, clock, num; the reference's. slices.Clone and slices.Equal at []int, off the shelf (the layings are what the kit's tool writes, in plain words). -/
import Derived.Test.YtglabahbklpocaaGShipMany3
import Derived.Test.YtglabahbklpocaaGShipMany1
import Derived.Shelf.Slices.Clone
import Derived.Shelf.Slices.Equal
import Derived.Shelf.Slices.Empties2
namespace Go.Proofs.Ytglabahbklpocaa
section
open Go.RowKit
set_option maxRecDepth 100000
set_option linter.unusedVariables false
set_option linter.unusedSimpArgs false
end
end Go.Proofs.Ytglabahbklpocaa
namespace Go.Proofs.Ytglabahbklpocaa
section
open Go.RowKit
set_option maxRecDepth 100000
set_option linter.unusedVariables false
set_option linter.unusedSimpArgs false
theorem tl_nil (s : ByteArray) (h : s.size = 0) : s.toList = [] := by
  rw [ByteArray.toList_eq]
  exact List.eq_nil_of_length_eq_zero (by simpa using h)
theorem tl_some (s : ByteArray) (h : 0 < s.size) : ¬ s.toList = [] ∧ (!s.toList.isEmpty) = true ∧ s.toList.isEmpty = false := by
  have h1 : ¬ s.toList = [] := by
    rw [ByteArray.toList_eq]
    intro e
    have h2 : s.data.toList.length = s.size := by simp
    rw [e] at h2
    simp at h2
    omega
  refine ⟨h1, ?_, ?_⟩ <;> simp [h1]
def okC (c : Int) : Prop := (97 ≤ c ∧ c ≤ 122) ∨ (48 ≤ c ∧ c ≤ 57) ∨ c = 95 ∨ c = 46
/-- The byte at a place, 0 behind the end. -/
def bAt (s : ByteArray) (i : Nat) : Int := if h : i < s.size then ((s[i]'h).toNat : Int) else 0
theorem bAt_eq (s : ByteArray) (i : Nat) (h : i < s.size) : ((s[i]'h).toNat : Int) = bAt s i := by unfold bAt; rw [dif_pos h]
theorem bAt_range (s : ByteArray) (i : Nat) : 0 ≤ bAt s i ∧ bAt s i < 256 := by
  unfold bAt
  split
  · have := (s[i]).toNat_lt; omega
  · omega
def nameP (s : ByteArray) : Prop := 1 ≤ s.size ∧ s.size ≤ 40 ∧ (97 ≤ bAt s 0 ∧ bAt s 0 ≤ 122) ∧ ∀ i, i < s.size → okC (bAt s i)
open Classical in
noncomputable def nameV (s : ByteArray) : Bool := decide (nameP s)
theorem nameV_true {s : ByteArray} (h : nameP s) : nameV s = true := by unfold nameV; simp [h]
theorem nameV_false {s : ByteArray} (h : ¬ nameP s) : nameV s = false := by unfold nameV; simp [h]
def clockV (t : Int) : Bool := decide (0 ≤ t) && decide (t ≤ 1099511627776)
theorem clock_any (t : Int) (w : World) : Calls Try.prog 100 #[.int .i64 t] w fun e w' => e = .returned (.bool (clockV t)) ∧ w = w' := by
  obtain ⟨V, HV⟩ : ∃ V, Hid (V = clockV t) := ⟨_, rfl⟩
  rw [← HV.out]
  unfold clockV at HV
  go_enter Try.func100, Try.ntmps100
  go_wp2
  all_goals (go_ret; exact ⟨by rw [HV.out]; (try simp [*]); (try omega), rfl⟩)
theorem num_any (n : Int) (w : World) (h0 : 0 ≤ n) (h1 : n ≤ 9223372036854775807) : Calls Try.prog 85 #[.int .i64 n] w fun e w' => e = .returned (.string (vput n)) ∧ Below w.heap.size w w' := by
  have h2 : n < 18446744073709551616 := by omega
  go_enter Try.func85, Try.ntmps85
  go_wp2_with fail
  refine (put_any n _ h0 h2).mono ?_
  rintro e w1 ⟨rfl, d⟩
  go_wp2_with fail
  go_ret
  exact ⟨rfl, d⟩
set_option maxHeartbeats 4000000 in
theorem name_any (s : ByteArray) (w : World) (hs : s.size ≤ 9223372036854775807) : Calls Try.prog 76 #[.string s] w fun e w' => e = .returned (.bool (nameV s)) ∧ w = w' := by
  obtain ⟨V, HV⟩ : ∃ V, Hid (V = nameV s) := ⟨_, rfl⟩
  rw [← HV.out]
  by_cases h0 : s.size = 0
  · have HV := Lib.hid (HV.out.trans (nameV_false (fun h => by have := h.1; omega)))
    have f1 := tl_nil s h0
    have f2 : (s.toList.isEmpty) = true := by rw [f1]; rfl
    clear h0
    go_enter Try.func76, Try.ntmps76
    go_wp2_with fail
    go_ret
    exact ⟨by rw [HV.out]; rfl, rfl⟩
  · obtain ⟨f1, f2, f3⟩ := tl_some s (by omega)
    have hp : 0 < s.size := by omega
    have e0 := bAt_eq s 0 hp
    by_cases h40 : 40 < s.size
    · have HV := Lib.hid (HV.out.trans (nameV_false (fun h => by have := h.2.1; omega)))
      have t1 : decide (40 < s.size) = true := decide_eq_true h40
      have t2 : decide ((40 : Int) < (s.size : Int)) = true := decide_eq_true (by omega)
      clear h0 h40 e0
      go_enter Try.func76, Try.ntmps76
      go_wp2_with fail
      go_ret
      exact ⟨by rw [HV.out]; rfl, rfl⟩
    · have t1 : decide (40 < s.size) = false := decide_eq_false h40
      have t2 : decide ((40 : Int) < (s.size : Int)) = false := decide_eq_false (by omega)
      by_cases hf : 97 ≤ bAt s 0 ∧ bAt s 0 ≤ 122
      · rw [← e0] at hf
        have t3 : decide (((s[0]'hp).toNat : Int) < 97) = false := decide_eq_false (by omega)
        have t4 : decide ((122 : Int) < ((s[0]'hp).toNat : Int)) = false := decide_eq_false (by omega)
        have HF : Hid (97 ≤ bAt s 0 ∧ bAt s 0 ≤ 122) := by rw [e0] at hf; exact hf
        have hle : s.size ≤ 40 := by omega
        clear hf e0 h0 h40
        go_enter Try.func76, Try.ntmps76
        go_wp2_with fail
        go_loop [24, 3, 4] (fun i i3 c => ∃ k : Nat, k ≤ s.size ∧ i = .int .i64 k ∧ ∀ j, j < k → okC (bAt s j)) (fun i _ _ => 41 - (intOf i).toNat)
        case atStart => exact ⟨0, by omega, rfl, fun j hj => by omega⟩
        case round =>
          obtain ⟨k, hk, rfl, hall⟩ := hrel
          have HALL := Lib.hid hall
          clear hall
          by_cases hlt : k < s.size
          · have u1 : decide (k < s.size) = true := decide_eq_true hlt
            have u2 : decide ((k : Int) < (s.size : Int)) = true := decide_eq_true (by omega)
            have e1 := bAt_eq s k hlt
            have E1 := Lib.hid e1
            by_cases hc : okC (bAt s k)
            · have HC : Hid ((97 ≤ ((s[k]'hlt).toNat : Int) ∧ ((s[k]'hlt).toNat : Int) ≤ 122) ∨ (48 ≤ ((s[k]'hlt).toNat : Int) ∧ ((s[k]'hlt).toNat : Int) ≤ 57) ∨ ((s[k]'hlt).toNat : Int) = 95 ∨ ((s[k]'hlt).toNat : Int) = 46) := by rw [e1]; exact hc
              have HN : Hid (∀ j, j < k + 1 → okC (bAt s j)) := fun j hj => by
                by_cases h : j = k
                · rw [h]; exact hc
                · exact HALL.out j (by omega)
              clear hc e1
              go_wp2
              all_goals first
                | (exfalso; have := HC.out; (try simp only [bne_eq_false_iff_eq, bne_iff_ne, beq_iff_eq, beq_eq_false_iff_ne, ne_eq, Bool.not_eq_eq_eq_not, Bool.not_false, Bool.not_true, decide_eq_true_eq, decide_eq_false_iff_not] at *); omega)
                | (go_round; (case rel => exact ⟨k + 1, by omega, by go_num, HN.out⟩); (case measure => (simp [intOf]; omega)))
            · have HC : Hid (¬ ((97 ≤ ((s[k]'hlt).toNat : Int) ∧ ((s[k]'hlt).toNat : Int) ≤ 122) ∨ (48 ≤ ((s[k]'hlt).toNat : Int) ∧ ((s[k]'hlt).toNat : Int) ≤ 57) ∨ ((s[k]'hlt).toNat : Int) = 95 ∨ ((s[k]'hlt).toNat : Int) = 46)) := by rw [e1]; exact hc
              have HV := Lib.hid (HV.out.trans (nameV_false (fun h => hc (h.2.2.2 k hlt))))
              clear hc e1
              go_wp2
              all_goals first
                | (exfalso; have := HC.out; (try simp only [bne_eq_false_iff_eq, bne_iff_ne, beq_iff_eq, beq_eq_false_iff_ne, ne_eq, Bool.not_eq_eq_eq_not, Bool.not_false, Bool.not_true, decide_eq_true_eq, decide_eq_false_iff_not] at *); omega)
                | (go_ret; exact ⟨by rw [HV.out]; rfl, rfl⟩)
          · have u1 : decide (k < s.size) = false := decide_eq_false hlt
            have u2 : decide ((k : Int) < (s.size : Int)) = false := decide_eq_false (by omega)
            obtain rfl : k = s.size := by omega
            have HV := Lib.hid (HV.out.trans (nameV_true ⟨by omega, by omega, HF.out, HALL.out⟩))
            go_wp2_with fail
            go_ret
            exact ⟨by rw [HV.out]; rfl, rfl⟩
      · have HV := Lib.hid (HV.out.trans (nameV_false (fun h => hf h.2.2.1)))
        rw [← e0] at hf
        have HC := Lib.hid hf
        clear hf e0 h0 h40
        go_enter Try.func76, Try.ntmps76
        go_wp2
        all_goals first
          | (exfalso; have := HC.out; (try simp only [bne_eq_false_iff_eq, bne_iff_ne, beq_iff_eq, beq_eq_false_iff_ne, ne_eq, Bool.not_eq_eq_eq_not, Bool.not_false, Bool.not_true, decide_eq_true_eq, decide_eq_false_iff_not] at *); omega)
          | (go_ret; exact ⟨by rw [HV.out]; rfl, rfl⟩)
end
end Go.Proofs.Ytglabahbklpocaa
namespace Go.Proofs.Ytglabahbklpocaa
section
open Go.RowKit Go.Shelf Go.Lib
set_option maxRecDepth 100000
set_option linter.unusedVariables false
set_option linter.unusedSimpArgs false
def laysC_ren : Go.Shelf.Ren := ⟨fun | 15 => 38 | n => n, fun | 22 => 26 | 3 => 3 | 4 => 4 | n => n, fun | n => n⟩
theorem laysC : Go.Proofs.Lays2.n15 Try.prog laysC_ren := {
  mixed := by kernel_rfl
  f15 := Try.func38.trans (congrArg some (by kernel_rfl))
  t3 := Try.underlying3
  a3 := Try.isAgg3
  z3 := Try.sizeOf3
  v3 := Try.zeroValue3
  t4 := Try.underlying4
  a4 := Try.isAgg4
  z4 := Try.sizeOf4
  v4 := Try.zeroValue4
  t22 := Try.underlying26
  a22 := Try.isAgg26
  z22 := Try.sizeOf26
  v22 := Try.zeroValue26
  i3 := by kernel_rfl }
def laysE_ren : Go.Shelf.Ren := ⟨fun | 111 => 64 | n => n, fun | 28 => 26 | 3 => 3 | 4 => 4 | 0 => 0 | n => n, fun | n => n⟩
theorem laysE : Go.Proofs.Lays.n111 Try.prog laysE_ren := {
  mixed := by kernel_rfl
  f111 := Try.func64.trans (congrArg some (by kernel_rfl))
  t0 := Try.underlying0
  a0 := Try.isAgg0
  z0 := Try.sizeOf0
  v0 := Try.zeroValue0
  t3 := Try.underlying3
  a3 := Try.isAgg3
  z3 := Try.sizeOf3
  v3 := Try.zeroValue3
  t4 := Try.underlying4
  a4 := Try.isAgg4
  z4 := Try.sizeOf4
  v4 := Try.zeroValue4
  t28 := Try.underlying26
  a28 := Try.isAgg26
  z28 := Try.sizeOf26
  v28 := Try.zeroValue26 }
theorem clone_any (a : Option Addr) (n c : Nat) (xs : List Int) (w : World) (h : ReadsI .i64 w a n xs) (hn : n ≤ 1000) :
    Calls Try.prog 38 #[.slice a n c] w fun e w' => ∃ v', e = .returned v' ∧ w'.ownsRow w.heap.size 3 1 v' n (xs.map (Value.int .i64)) ∧ Below w.heap.size w w' := by
  obtain ⟨h1, h2⟩ := h
  cases a with
  | none =>
    have h0 : n = 0 := by
      rcases h2 with h2 | ⟨b, o, h2, _⟩
      · exact h2
      · simp at h2
    subst h0
    obtain rfl : xs = [] := List.eq_nil_of_length_eq_zero h1
    exact (Any.slices_Clone_int_nil laysC 0 c w).mono fun e w' ⟨h3, h4⟩ => ⟨_, h3, by subst h4; exact World.ownsRow_nil _ _ _ _, by subst h4; exact Below.refl _ _⟩
  | some a =>
    rcases h2 with h2 | ⟨b, o, h2, h3, h4⟩
    · subst h2
      obtain rfl : xs = [] := List.eq_nil_of_length_eq_zero h1
      exact (Any.slices_Clone_int_zero laysC a c w).mono fun e w' ⟨v', h3, h4, _, h5⟩ => ⟨v', h3, h4, h5⟩
    · obtain rfl : a = ⟨b, o, none⟩ := by simpa using h2
      refine (Any.slices_Clone_int laysC b o n c xs w (by omega) (by omega) (fun j hj => h4 j (by omega))).mono fun e w' ⟨v', h3, h5, _, h6⟩ => ⟨v', h3, ?_, h6⟩
      rw [List.take_of_length_le (by omega)] at h5
      exact h5
theorem equal_any (a1 a2 : Option Addr) (n1 n2 c1 c2 : Nat) (xs ys : List Int) (w : World) (h1 : ReadsI .i64 w a1 n1 xs) (h2 : ReadsI .i64 w a2 n2 ys) (hn1 : n1 ≤ 9223372036854775807) (hn2 : n2 ≤ 9223372036854775807) :
    Calls Try.prog 64 #[.slice a1 n1 c1, .slice a2 n2 c2] w fun e w' => e = .returned (.bool (decide (xs = ys))) ∧ Below w.heap.size w w' := by
  obtain ⟨l1, r1⟩ := h1
  obtain ⟨l2, r2⟩ := h2
  by_cases hne : n1 = n2
  · subst hne
    rcases Nat.eq_zero_or_pos n1 with h0 | hp
    · subst h0
      obtain rfl : xs = [] := List.eq_nil_of_length_eq_zero l1
      obtain rfl : ys = [] := List.eq_nil_of_length_eq_zero l2
      exact (Any.slices_Equal_int_empty laysE a1 a2 c1 0 c2 w hn2).mono fun e w' ⟨h3, h4⟩ => ⟨h3, by subst h4; exact Below.refl _ _⟩
    · obtain ⟨b1, o1, rfl, _, hc1⟩ := r1.resolve_left (by omega)
      obtain ⟨b2, o2, rfl, _, hc2⟩ := r2.resolve_left (by omega)
      refine (Any.slices_Equal_int laysE b1 o1 n1 c1 b2 o2 n1 c2 xs ys w (by omega) (by omega) hn1 hn2 (fun j hj => hc1 j (by omega)) (fun j hj => hc2 j (by omega))).mono fun e w' ⟨h3, q, h4⟩ => ⟨?_, ?_⟩
      · rw [h3, List.take_of_length_le (by omega), List.take_of_length_le (by omega)]
        congr 2
        by_cases hxy : xs = ys <;> simp [hxy]
      · subst h4; exact ⟨rfl, rfl, rfl, Nat.le_refl _, fun _ _ => rfl⟩
  · refine (Any.slices_Equal_int_lens laysE a1 a2 n1 c1 n2 c2 w hne).mono fun e w' ⟨h3, h4⟩ => ⟨?_, by subst h4; exact Below.refl _ _⟩
    rw [h3, decide_eq_false (fun h => hne (by rw [← l1, ← l2, h]))]
end
end Go.Proofs.Ytglabahbklpocaa
