/- sample.Name, clock, num; the reference's. slices.Clone and slices.Equal at []int, off the shelf (the layings are what the kit's tool writes, in plain words). Plain law: a list of numbers as a vector of 8 sites. -/
import Derived.Test.YtglabahbklpocaaGreatGShipPacks1
import Derived.Shelf.Slices.Clone
import Derived.Shelf.Slices.Equal
import Derived.Shelf.Slices.Empties2
namespace Go.Proofs.YtglabahbklpocaaGreat
section
open Go.RowKit
set_option maxRecDepth 100000
set_option linter.unusedVariables false
set_option linter.unusedSimpArgs false
theorem tl_nil (s : ByteArray) (h : s.size = 0) : s.toList = [] := by
  rw [ByteArray.toList_eq]
  exact List.eq_nil_of_length_eq_zero (by simpa using h)
theorem tl_some (s : ByteArray) (h : 0 < s.size) : ¬ s.toList = [] ∧ (!s.toList.isEmpty) = true ∧ s.toList.isEmpty = false := by
  have h1 : ¬ s.toList = [] := by
    rw [ByteArray.toList_eq]
    intro e
    have h2 : s.data.toList.length = s.size := by simp
    rw [e] at h2
    simp at h2
    omega
  refine ⟨h1, ?_, ?_⟩ <;> simp [h1]
def okC (c : Int) : Prop := (97 ≤ c ∧ c ≤ 122) ∨ (48 ≤ c ∧ c ≤ 57) ∨ c = 95 ∨ c = 46
/-- The byte at a place, 0 behind the end. -/
def bAt (s : ByteArray) (i : Nat) : Int := if h : i < s.size then ((s[i]'h).toNat : Int) else 0
theorem bAt_eq (s : ByteArray) (i : Nat) (h : i < s.size) : ((s[i]'h).toNat : Int) = bAt s i := by unfold bAt; rw [dif_pos h]
def nameP (s : ByteArray) : Prop := 1 ≤ s.size ∧ s.size ≤ 40 ∧ (97 ≤ bAt s 0 ∧ bAt s 0 ≤ 122) ∧ ∀ i, i < s.size → okC (bAt s i)
open Classical in
noncomputable def nameV (s : ByteArray) : Bool := decide (nameP s)
theorem nameV_true {s : ByteArray} (h : nameP s) : nameV s = true := by unfold nameV; simp [h]
theorem nameV_false {s : ByteArray} (h : ¬ nameP s) : nameV s = false := by unfold nameV; simp [h]
def clockV (t : Int) : Bool := decide (0 ≤ t) && decide (t ≤ 1099511627776)
theorem clock_any (t : Int) (w : World) : Calls Tryz.prog 119 #[.int .i64 t] w fun e w' => e = .returned (.bool (clockV t)) ∧ w = w' := by
  obtain ⟨V, HV⟩ : ∃ V, Hid (V = clockV t) := ⟨_, rfl⟩
  rw [← HV.out]
  unfold clockV at HV
  go_enter Tryz.func119, Tryz.ntmps119
  go_wp2
  all_goals (go_ret; exact ⟨by rw [HV.out]; (try simp [*]); (try omega), rfl⟩)
theorem rclock_any (t : Int) (w : World) : Calls Tryz.prog 123 #[.int .i64 t] w fun e w' => e = .returned (.bool (clockV t)) ∧ w = w' := by
  obtain ⟨V, HV⟩ : ∃ V, Hid (V = clockV t) := ⟨_, rfl⟩
  rw [← HV.out]
  unfold clockV at HV
  go_enter Tryz.func123, Tryz.ntmps123
  go_wp2
  all_goals (go_ret; exact ⟨by rw [HV.out]; (try simp [*]); (try omega), rfl⟩)
theorem num_any (n : Int) (w : World) (h0 : 0 ≤ n) (h1 : n ≤ 9223372036854775807) : Calls Tryz.prog 102 #[.int .i64 n] w fun e w' => e = .returned (.string (vput n)) ∧ Below w.heap.size w w' := by
  have h2 : n < 18446744073709551616 := by omega
  go_enter Tryz.func102, Tryz.ntmps102
  go_wp2_with fail
  refine (put_any n _ h0 h2).mono ?_
  rintro e w1 ⟨rfl, d⟩
  go_wp2_with fail
  go_ret
  exact ⟨rfl, d⟩
set_option maxHeartbeats 4000000 in
theorem name_any (s : ByteArray) (w : World) (hs : s.size ≤ 9223372036854775807) : Calls Tryz.prog 64 #[.string s] w fun e w' => e = .returned (.bool (nameV s)) ∧ w = w' := by
  obtain ⟨V, HV⟩ : ∃ V, Hid (V = nameV s) := ⟨_, rfl⟩
  rw [← HV.out]
  by_cases h0 : s.size = 0
  · have HV := Lib.hid (HV.out.trans (nameV_false (fun h => by have := h.1; omega)))
    have f1 := tl_nil s h0
    have f2 : (s.toList.isEmpty) = true := by rw [f1]; rfl
    clear h0
    go_enter Tryz.func64, Tryz.ntmps64
    go_wp2_with fail
    go_ret
    exact ⟨by rw [HV.out]; rfl, rfl⟩
  · obtain ⟨f1, f2, f3⟩ := tl_some s (by omega)
    have hp : 0 < s.size := by omega
    have e0 := bAt_eq s 0 hp
    by_cases h40 : 40 < s.size
    · have HV := Lib.hid (HV.out.trans (nameV_false (fun h => by have := h.2.1; omega)))
      have t1 : decide (40 < s.size) = true := decide_eq_true h40
      have t2 : decide ((40 : Int) < (s.size : Int)) = true := decide_eq_true (by omega)
      clear h0 h40 e0
      go_enter Tryz.func64, Tryz.ntmps64
      go_wp2_with fail
      go_ret
      exact ⟨by rw [HV.out]; rfl, rfl⟩
    · have t1 : decide (40 < s.size) = false := decide_eq_false h40
      have t2 : decide ((40 : Int) < (s.size : Int)) = false := decide_eq_false (by omega)
      by_cases hf : 97 ≤ bAt s 0 ∧ bAt s 0 ≤ 122
      · rw [← e0] at hf
        have t3 : decide (((s[0]'hp).toNat : Int) < 97) = false := decide_eq_false (by omega)
        have t4 : decide ((122 : Int) < ((s[0]'hp).toNat : Int)) = false := decide_eq_false (by omega)
        have HF : Hid (97 ≤ bAt s 0 ∧ bAt s 0 ≤ 122) := by rw [e0] at hf; exact hf
        have hle : s.size ≤ 40 := by omega
        clear hf e0 h0 h40
        go_enter Tryz.func64, Tryz.ntmps64
        go_wp2_with fail
        go_loop [24, 3, 4] (fun i i3 c => ∃ k : Nat, k ≤ s.size ∧ i = .int .i64 k ∧ ∀ j, j < k → okC (bAt s j)) (fun i _ _ => 41 - (intOf i).toNat)
        case atStart => exact ⟨0, by omega, rfl, fun j hj => by omega⟩
        case round =>
          obtain ⟨k, hk, rfl, hall⟩ := hrel
          have HALL := Lib.hid hall
          clear hall
          by_cases hlt : k < s.size
          · have u1 : decide (k < s.size) = true := decide_eq_true hlt
            have u2 : decide ((k : Int) < (s.size : Int)) = true := decide_eq_true (by omega)
            have e1 := bAt_eq s k hlt
            have E1 := Lib.hid e1
            by_cases hc : okC (bAt s k)
            · have HC : Hid ((97 ≤ ((s[k]'hlt).toNat : Int) ∧ ((s[k]'hlt).toNat : Int) ≤ 122) ∨ (48 ≤ ((s[k]'hlt).toNat : Int) ∧ ((s[k]'hlt).toNat : Int) ≤ 57) ∨ ((s[k]'hlt).toNat : Int) = 95 ∨ ((s[k]'hlt).toNat : Int) = 46) := by rw [e1]; exact hc
              have HN : Hid (∀ j, j < k + 1 → okC (bAt s j)) := fun j hj => by
                by_cases h : j = k
                · rw [h]; exact hc
                · exact HALL.out j (by omega)
              clear hc e1
              go_wp2
              all_goals first
                | (exfalso; have := HC.out; (try simp only [bne_eq_false_iff_eq, bne_iff_ne, beq_iff_eq, beq_eq_false_iff_ne, ne_eq, Bool.not_eq_eq_eq_not, Bool.not_false, Bool.not_true, decide_eq_true_eq, decide_eq_false_iff_not] at *); omega)
                | (go_round; (case rel => exact ⟨k + 1, by omega, by go_num, HN.out⟩); (case measure => (simp [intOf]; omega)))
            · have HC : Hid (¬ ((97 ≤ ((s[k]'hlt).toNat : Int) ∧ ((s[k]'hlt).toNat : Int) ≤ 122) ∨ (48 ≤ ((s[k]'hlt).toNat : Int) ∧ ((s[k]'hlt).toNat : Int) ≤ 57) ∨ ((s[k]'hlt).toNat : Int) = 95 ∨ ((s[k]'hlt).toNat : Int) = 46)) := by rw [e1]; exact hc
              have HV := Lib.hid (HV.out.trans (nameV_false (fun h => hc (h.2.2.2 k hlt))))
              clear hc e1
              go_wp2
              all_goals first
                | (exfalso; have := HC.out; (try simp only [bne_eq_false_iff_eq, bne_iff_ne, beq_iff_eq, beq_eq_false_iff_ne, ne_eq, Bool.not_eq_eq_eq_not, Bool.not_false, Bool.not_true, decide_eq_true_eq, decide_eq_false_iff_not] at *); omega)
                | (go_ret; exact ⟨by rw [HV.out]; rfl, rfl⟩)
          · have u1 : decide (k < s.size) = false := decide_eq_false hlt
            have u2 : decide ((k : Int) < (s.size : Int)) = false := decide_eq_false (by omega)
            obtain rfl : k = s.size := by omega
            have HV := Lib.hid (HV.out.trans (nameV_true ⟨by omega, by omega, HF.out, HALL.out⟩))
            go_wp2_with fail
            go_ret
            exact ⟨by rw [HV.out]; rfl, rfl⟩
      · have HV := Lib.hid (HV.out.trans (nameV_false (fun h => hf h.2.2.1)))
        rw [← e0] at hf
        have HC := Lib.hid hf
        clear hf e0 h0 h40
        go_enter Tryz.func64, Tryz.ntmps64
        go_wp2
        all_goals first
          | (exfalso; have := HC.out; (try simp only [bne_eq_false_iff_eq, bne_iff_ne, beq_iff_eq, beq_eq_false_iff_ne, ne_eq, Bool.not_eq_eq_eq_not, Bool.not_false, Bool.not_true, decide_eq_true_eq, decide_eq_false_iff_not] at *); omega)
          | (go_ret; exact ⟨by rw [HV.out]; rfl, rfl⟩)
set_option maxHeartbeats 4000000 in
theorem rname_any (s : ByteArray) (w : World) (hs : s.size ≤ 9223372036854775807) : Calls Tryz.prog 72 #[.string s] w fun e w' => e = .returned (.bool (nameV s)) ∧ w = w' := by
  obtain ⟨V, HV⟩ : ∃ V, Hid (V = nameV s) := ⟨_, rfl⟩
  rw [← HV.out]
  by_cases h0 : s.size = 0
  · have HV := Lib.hid (HV.out.trans (nameV_false (fun h => by have := h.1; omega)))
    have f1 : decide (s.size < 1) = true := decide_eq_true (by omega)
    have f2 : decide ((s.size : Int) < 1) = true := decide_eq_true (by omega)
    clear h0
    go_enter Tryz.func72, Tryz.ntmps72
    go_wp2_with fail
    go_ret
    exact ⟨by rw [HV.out]; rfl, rfl⟩
  · have f1 : decide (s.size < 1) = false := decide_eq_false (by omega)
    have f2 : decide ((s.size : Int) < 1) = false := decide_eq_false (by omega)
    have hp : 0 < s.size := by omega
    have e0 := bAt_eq s 0 hp
    by_cases h40 : 40 < s.size
    · have HV := Lib.hid (HV.out.trans (nameV_false (fun h => by have := h.2.1; omega)))
      have t1 : decide (40 < s.size) = true := decide_eq_true h40
      have t2 : decide ((40 : Int) < (s.size : Int)) = true := decide_eq_true (by omega)
      clear h0 h40 e0
      go_enter Tryz.func72, Tryz.ntmps72
      go_wp2_with fail
      go_ret
      exact ⟨by rw [HV.out]; rfl, rfl⟩
    · have t1 : decide (40 < s.size) = false := decide_eq_false h40
      have t2 : decide ((40 : Int) < (s.size : Int)) = false := decide_eq_false (by omega)
      by_cases hf : 97 ≤ bAt s 0 ∧ bAt s 0 ≤ 122
      · rw [← e0] at hf
        have t3 : decide (((s[0]'hp).toNat : Int) < 97) = false := decide_eq_false (by omega)
        have t4 : decide ((122 : Int) < ((s[0]'hp).toNat : Int)) = false := decide_eq_false (by omega)
        have HF : Hid (97 ≤ bAt s 0 ∧ bAt s 0 ≤ 122) := by rw [e0] at hf; exact hf
        have hle : s.size ≤ 40 := by omega
        clear hf e0 h0 h40
        go_enter Tryz.func72, Tryz.ntmps72
        go_wp2_with fail
        go_loop [3, 4] (fun i c => ∃ k : Nat, k ≤ s.size ∧ i = .int .i64 k ∧ ∀ j, j < k → okC (bAt s j)) (fun i _ => 41 - (intOf i).toNat)
        case atStart => exact ⟨0, by omega, rfl, fun j hj => by omega⟩
        case round =>
          obtain ⟨k, hk, rfl, hall⟩ := hrel
          have HALL := Lib.hid hall
          clear hall
          by_cases hlt : k < s.size
          · have u1 : decide (k < s.size) = true := decide_eq_true hlt
            have u2 : decide ((k : Int) < (s.size : Int)) = true := decide_eq_true (by omega)
            have e1 := bAt_eq s k hlt
            have E1 := Lib.hid e1
            by_cases hc : okC (bAt s k)
            · have HC : Hid ((97 ≤ ((s[k]'hlt).toNat : Int) ∧ ((s[k]'hlt).toNat : Int) ≤ 122) ∨ (48 ≤ ((s[k]'hlt).toNat : Int) ∧ ((s[k]'hlt).toNat : Int) ≤ 57) ∨ ((s[k]'hlt).toNat : Int) = 95 ∨ ((s[k]'hlt).toNat : Int) = 46) := by rw [e1]; exact hc
              have HN : Hid (∀ j, j < k + 1 → okC (bAt s j)) := fun j hj => by
                by_cases h : j = k
                · rw [h]; exact hc
                · exact HALL.out j (by omega)
              clear hc e1
              go_wp2
              all_goals first
                | (exfalso; have := HC.out; (try simp only [bne_eq_false_iff_eq, bne_iff_ne, beq_iff_eq, beq_eq_false_iff_ne, ne_eq, Bool.not_eq_eq_eq_not, Bool.not_false, Bool.not_true, decide_eq_true_eq, decide_eq_false_iff_not] at *); omega)
                | (go_round; (case rel => exact ⟨k + 1, by omega, by go_num, HN.out⟩); (case measure => (simp [intOf]; omega)))
            · have HC : Hid (¬ ((97 ≤ ((s[k]'hlt).toNat : Int) ∧ ((s[k]'hlt).toNat : Int) ≤ 122) ∨ (48 ≤ ((s[k]'hlt).toNat : Int) ∧ ((s[k]'hlt).toNat : Int) ≤ 57) ∨ ((s[k]'hlt).toNat : Int) = 95 ∨ ((s[k]'hlt).toNat : Int) = 46)) := by rw [e1]; exact hc
              have HV := Lib.hid (HV.out.trans (nameV_false (fun h => hc (h.2.2.2 k hlt))))
              clear hc e1
              go_wp2
              all_goals first
                | (exfalso; have := HC.out; (try simp only [bne_eq_false_iff_eq, bne_iff_ne, beq_iff_eq, beq_eq_false_iff_ne, ne_eq, Bool.not_eq_eq_eq_not, Bool.not_false, Bool.not_true, decide_eq_true_eq, decide_eq_false_iff_not] at *); omega)
                | (go_ret; exact ⟨by rw [HV.out]; rfl, rfl⟩)
          · have u1 : decide (k < s.size) = false := decide_eq_false hlt
            have u2 : decide ((k : Int) < (s.size : Int)) = false := decide_eq_false (by omega)
            obtain rfl : k = s.size := by omega
            have HV := Lib.hid (HV.out.trans (nameV_true ⟨by omega, by omega, HF.out, HALL.out⟩))
            go_wp2_with fail
            go_ret
            exact ⟨by rw [HV.out]; rfl, rfl⟩
      · have HV := Lib.hid (HV.out.trans (nameV_false (fun h => hf h.2.2.1)))
        rw [← e0] at hf
        have HC := Lib.hid hf
        clear hf e0 h0 h40
        go_enter Tryz.func72, Tryz.ntmps72
        go_wp2
        all_goals first
          | (exfalso; have := HC.out; (try simp only [bne_eq_false_iff_eq, bne_iff_ne, beq_iff_eq, beq_eq_false_iff_ne, ne_eq, Bool.not_eq_eq_eq_not, Bool.not_false, Bool.not_true, decide_eq_true_eq, decide_eq_false_iff_not] at *); omega)
          | (go_ret; exact ⟨by rw [HV.out]; rfl, rfl⟩)
end
end Go.Proofs.YtglabahbklpocaaGreat
namespace Go.Proofs.YtglabahbklpocaaGreat
section
open Go.RowKit Go.Shelf Go.Lib
set_option maxRecDepth 100000
set_option linter.unusedVariables false
set_option linter.unusedSimpArgs false
def laysC_ren : Go.Shelf.Ren := ⟨fun | 15 => 129 | n => n, fun | 22 => 23 | 3 => 3 | 4 => 4 | n => n, fun | n => n⟩
theorem laysC : Go.Proofs.Lays2.n15 Tryz.prog laysC_ren := {
  mixed := by kernel_rfl
  f15 := Tryz.func129.trans (congrArg some (by kernel_rfl))
  t3 := Tryz.underlying3
  a3 := Tryz.isAgg3
  z3 := Tryz.sizeOf3
  v3 := Tryz.zeroValue3
  t4 := Tryz.underlying4
  a4 := Tryz.isAgg4
  z4 := Tryz.sizeOf4
  v4 := Tryz.zeroValue4
  t22 := Tryz.underlying23
  a22 := Tryz.isAgg23
  z22 := Tryz.sizeOf23
  v22 := Tryz.zeroValue23
  i3 := by kernel_rfl }
def laysE_ren : Go.Shelf.Ren := ⟨fun | 111 => 121 | n => n, fun | 28 => 23 | 3 => 3 | 4 => 4 | 0 => 0 | n => n, fun | n => n⟩
theorem laysE : Go.Proofs.Lays.n111 Tryz.prog laysE_ren := {
  mixed := by kernel_rfl
  f111 := Tryz.func121.trans (congrArg some (by kernel_rfl))
  t0 := Tryz.underlying0
  a0 := Tryz.isAgg0
  z0 := Tryz.sizeOf0
  v0 := Tryz.zeroValue0
  t3 := Tryz.underlying3
  a3 := Tryz.isAgg3
  z3 := Tryz.sizeOf3
  v3 := Tryz.zeroValue3
  t4 := Tryz.underlying4
  a4 := Tryz.isAgg4
  z4 := Tryz.sizeOf4
  v4 := Tryz.zeroValue4
  t28 := Tryz.underlying23
  a28 := Tryz.isAgg23
  z28 := Tryz.sizeOf23
  v28 := Tryz.zeroValue23 }
theorem clone_any (a : Option Addr) (n c : Nat) (xs : List Int) (w : World) (h : ReadsI .i64 w a n xs) (hn : n ≤ 1000) :
    Calls Tryz.prog 129 #[.slice a n c] w fun e w' => ∃ v', e = .returned v' ∧ w'.ownsRow w.heap.size 3 1 v' n (xs.map (Value.int .i64)) ∧ Below w.heap.size w w' := by
  obtain ⟨h1, h2⟩ := h
  cases a with
  | none =>
    have h0 : n = 0 := by
      rcases h2 with h2 | ⟨b, o, h2, _⟩
      · exact h2
      · simp at h2
    subst h0
    obtain rfl : xs = [] := List.eq_nil_of_length_eq_zero h1
    exact (Any.slices_Clone_int_nil laysC 0 c w).mono fun e w' ⟨h3, h4⟩ => ⟨_, h3, by subst h4; exact World.ownsRow_nil _ _ _ _, by subst h4; exact Below.refl _ _⟩
  | some a =>
    rcases h2 with h2 | ⟨b, o, h2, h3, h4⟩
    · subst h2
      obtain rfl : xs = [] := List.eq_nil_of_length_eq_zero h1
      exact (Any.slices_Clone_int_zero laysC a c w).mono fun e w' ⟨v', h3, h4, _, h5⟩ => ⟨v', h3, h4, h5⟩
    · obtain rfl : a = ⟨b, o, none⟩ := by simpa using h2
      refine (Any.slices_Clone_int laysC b o n c xs w (by omega) (by omega) (fun j hj => h4 j (by omega))).mono fun e w' ⟨v', h3, h5, _, h6⟩ => ⟨v', h3, ?_, h6⟩
      rw [List.take_of_length_le (by omega)] at h5
      exact h5
theorem equal_any (a1 a2 : Option Addr) (n1 n2 c1 c2 : Nat) (xs ys : List Int) (w : World) (h1 : ReadsI .i64 w a1 n1 xs) (h2 : ReadsI .i64 w a2 n2 ys) (hn1 : n1 ≤ 9223372036854775807) (hn2 : n2 ≤ 9223372036854775807) :
    Calls Tryz.prog 121 #[.slice a1 n1 c1, .slice a2 n2 c2] w fun e w' => e = .returned (.bool (decide (xs = ys))) ∧ Below w.heap.size w w' := by
  obtain ⟨l1, r1⟩ := h1
  obtain ⟨l2, r2⟩ := h2
  by_cases hne : n1 = n2
  · subst hne
    rcases Nat.eq_zero_or_pos n1 with h0 | hp
    · subst h0
      obtain rfl : xs = [] := List.eq_nil_of_length_eq_zero l1
      obtain rfl : ys = [] := List.eq_nil_of_length_eq_zero l2
      exact (Any.slices_Equal_int_empty laysE a1 a2 c1 0 c2 w hn2).mono fun e w' ⟨h3, h4⟩ => ⟨h3, by subst h4; exact Below.refl _ _⟩
    · obtain ⟨b1, o1, rfl, _, hc1⟩ := r1.resolve_left (by omega)
      obtain ⟨b2, o2, rfl, _, hc2⟩ := r2.resolve_left (by omega)
      refine (Any.slices_Equal_int laysE b1 o1 n1 c1 b2 o2 n1 c2 xs ys w (by omega) (by omega) hn1 hn2 (fun j hj => hc1 j (by omega)) (fun j hj => hc2 j (by omega))).mono fun e w' ⟨h3, q, h4⟩ => ⟨?_, ?_⟩
      · rw [h3, List.take_of_length_le (by omega), List.take_of_length_le (by omega)]
        congr 2
        by_cases hxy : xs = ys <;> simp [hxy]
      · subst h4; exact ⟨rfl, rfl, rfl, Nat.le_refl _, fun _ _ => rfl⟩
  · refine (Any.slices_Equal_int_lens laysE a1 a2 n1 c1 n2 c2 w hne).mono fun e w' ⟨h3, h4⟩ => ⟨?_, by subst h4; exact Below.refl _ _⟩
    rw [h3, decide_eq_false (fun h => hne (by rw [← l1, ← l2, h]))]
end
end Go.Proofs.YtglabahbklpocaaGreat
namespace Go.Proofs.YtglabahbklpocaaGreat
section
set_option maxRecDepth 100000
set_option linter.unusedVariables false
set_option linter.unusedSimpArgs false
/-- A number that may be. -/
def cl (x : Int) : Int := min (max x 0) 1099511627776
theorem cl_range (x : Int) : 0 ≤ cl x ∧ cl x ≤ 1099511627776 := by unfold cl; omega
theorem cl_id {x : Int} (h0 : 0 ≤ x) (h1 : x ≤ 1099511627776) : cl x = x := by unfold cl; omega
theorem cl_zero : cl 0 = 0 := by decide
/-- Without zeros at the end. -/
def trim : List Int → List Int
  | [] => []
  | x :: xs => if trim xs = [] ∧ x = 0 then [] else x :: trim xs
theorem getD_out {l : List Int} {i : Nat} (h : l.length ≤ i) : l.getD i 0 = 0 := by
  rw [List.getD_eq_getElem?_getD, List.getElem?_eq_none h]; rfl
theorem trim_getD (l : List Int) (i : Nat) : (trim l).getD i 0 = l.getD i 0 := by
  induction l generalizing i with
  | nil => rfl
  | cons x xs ih =>
    unfold trim
    by_cases h : trim xs = [] ∧ x = 0
    · rw [if_pos h]
      cases i with
      | zero => simp [h.2]
      | succ i => have := ih i; rw [h.1] at this; simpa using this
    · rw [if_neg h]
      cases i with
      | zero => rfl
      | succ i => simpa using ih i
theorem trim_length (l : List Int) : (trim l).length ≤ l.length := by
  induction l with
  | nil => simp [trim]
  | cons x xs ih =>
    unfold trim
    split
    · simp
    · simp; exact ih
theorem trim_last (l : List Int) (h : trim l ≠ []) : (trim l).getD ((trim l).length - 1) 0 ≠ 0 := by
  induction l with
  | nil => simp [trim] at h
  | cons x xs ih =>
    unfold trim at h ⊢
    by_cases hc : trim xs = [] ∧ x = 0
    · rw [if_pos hc] at h; simp at h
    · rw [if_neg hc]
      by_cases he : trim xs = []
      · simp [he]
        intro hx
        exact hc ⟨he, hx⟩
      · have := ih he
        have hl : 0 < (trim xs).length := List.length_pos_iff.2 he
        rw [show (x :: trim xs).length - 1 = ((trim xs).length - 1) + 1 by simp; omega]
        simpa using this
/-- Two lists without zeros at the end, the same at each place, are the same. -/
theorem trim_ext {l m : List Int} (h : ∀ i, l.getD i 0 = m.getD i 0) : trim l = trim m := by
  have key : ∀ l m : List Int, (∀ i, l.getD i 0 = m.getD i 0) → (trim l).length ≤ (trim m).length := by
    intro l m h
    by_cases he : trim l = []
    · simp [he]
    · have h1 := trim_last l he
      have hl : 0 < (trim l).length := List.length_pos_iff.2 he
      rw [trim_getD, h, ← trim_getD] at h1
      rcases Nat.lt_or_ge ((trim l).length - 1) (trim m).length with h2 | h2
      · omega
      · exact absurd (by rw [getD_out h2]) h1
  have hlen : (trim l).length = (trim m).length := Nat.le_antisymm (key l m h) (key m l fun i => (h i).symm)
  apply List.ext_getElem hlen
  intro i h1 h2
  have := trim_getD l i
  rw [h i, ← trim_getD m i] at this
  rw [List.getD_eq_getElem?_getD, List.getD_eq_getElem?_getD, List.getElem?_eq_getElem h1, List.getElem?_eq_getElem h2] at this
  simpa using this
theorem trim_take (l : List Int) : trim l = l.take (trim l).length := by
  induction l with
  | nil => rfl
  | cons x xs ih =>
    unfold trim
    split
    · rfl
    · simp; exact ih
/-- The vector of a number for each site. -/
def vec (f : Nat → Int) : List Int := trim ((List.range 8).map f)
theorem vec_getD (f : Nat → Int) (i : Nat) : (vec f).getD i 0 = if i < 8 then f i else 0 := by
  unfold vec
  rw [trim_getD]
  by_cases h : i < 8
  · rw [if_pos h, List.getD_eq_getElem?_getD]
    simp [h]
  · rw [if_neg h, getD_out (by simp; omega)]
theorem vec_length (f : Nat → Int) : (vec f).length ≤ 8 := by
  have := trim_length ((List.range 8).map f)
  simpa [vec] using this
theorem vec_ext {f g : Nat → Int} (h : ∀ i, i < 8 → f i = g i) : vec f = vec g := by
  unfold vec
  congr 1
  apply List.map_congr_left
  intro i hi
  exact h i (by simpa using hi)
theorem vec_inj {f g : Nat → Int} (h : vec f = vec g) : ∀ i, i < 8 → f i = g i := by
  intro i hi
  have h1 := vec_getD f i
  rw [h, vec_getD g i, if_pos hi, if_pos hi] at h1
  exact h1.symm
theorem vec_eq_iff (f g : Nat → Int) : vec f = vec g ↔ ∀ i, i < 8 → f i = g i := ⟨vec_inj, vec_ext⟩
theorem trim_vec (l : List Int) (h : l.length ≤ 8) : trim l = vec fun i => l.getD i 0 := by
  unfold vec
  apply trim_ext
  intro i
  by_cases hi : i < 8
  · simp [List.getD_eq_getElem?_getD, hi]
  · rw [getD_out (by omega), getD_out (by simp; omega)]
/-- A site's number. -/
def nm (xs : List Int) (i : Nat) : Int := cl (xs.getD i 0)
theorem nm_range (xs : List Int) (i : Nat) : 0 ≤ nm xs i ∧ nm xs i ≤ 1099511627776 := cl_range _
def pl (xs : List Int) : List Int := vec (nm xs)
theorem pl_length (xs : List Int) : (pl xs).length ≤ 8 := vec_length _
theorem nm_vec (f : Nat → Int) (h : ∀ i, i < 8 → 0 ≤ f i ∧ f i ≤ 1099511627776) (i : Nat) (hi : i < 8) : nm (vec f) i = f i := by
  unfold nm
  rw [vec_getD, if_pos hi]
  exact cl_id (h i hi).1 (h i hi).2
theorem pl_vec (f : Nat → Int) (h : ∀ i, i < 8 → 0 ≤ f i ∧ f i ≤ 1099511627776) : pl (vec f) = vec f := vec_ext fun i hi => nm_vec f h i hi
theorem pl_pl (xs : List Int) : pl (pl xs) = pl xs := pl_vec _ fun i _ => nm_range xs i
theorem pl_getD (xs : List Int) (i : Nat) : (pl xs).getD i 0 = if i < 8 then nm xs i else 0 := vec_getD _ i
theorem pl_trim (xs : List Int) : pl xs = trim ((xs.take 8).map cl) := by
  rw [trim_vec _ (by simp; omega)]
  apply vec_ext
  intro i hi
  unfold nm
  simp only [List.getD_eq_getElem?_getD, List.getElem?_map, List.getElem?_take, hi, if_true]
  cases xs[i]? <;> simp [cl_zero]
/-- A site's number, of any site. -/
def atV (xs : List Int) (i : Int) : Int := if 0 ≤ i ∧ i < 8 then nm xs i.toNat else 0
def joinV (xs ys : List Int) : List Int := vec fun i => max (nm xs i) (nm ys i)
def meetV (xs ys : List Int) : List Int := vec fun i => min (nm xs i) (nm ys i)
def covV (xs ys : List Int) : Bool := (List.range 8).all fun i => decide (nm ys i ≤ nm xs i)
theorem covV_true (xs ys : List Int) : covV xs ys = true ↔ ∀ i, i < 8 → nm ys i ≤ nm xs i := by
  simp [covV]
theorem covV_iff (xs ys : List Int) : decide (joinV xs ys = pl xs) = covV xs ys := by
  rw [Bool.eq_iff_iff, covV_true, decide_eq_true_iff]
  unfold joinV pl
  rw [vec_eq_iff]
  constructor
  · intro h i hi; have := h i hi; omega
  · intro h i hi; have := h i hi; omega
def withV (xs : List Int) (site n : Int) : List Int := vec fun i => if (i : Int) = site then cl n else nm xs i
end
end Go.Proofs.YtglabahbklpocaaGreat
