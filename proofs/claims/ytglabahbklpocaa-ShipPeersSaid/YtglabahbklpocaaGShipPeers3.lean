/- Contracts of the package vint: what each function answers. -/
import Derived.Test.YtglabahbklpocaaGShipPeers1
namespace Go.Proofs.Ytglabahbklpocaa
section
open Go.RowKit
set_option maxRecDepth 100000
set_option linter.unusedVariables false
set_option linter.unusedSimpArgs false
set_option maxHeartbeats 400000 in
theorem put_any (n : Int) (w : World) (h0 : 0 ≤ n) (h1 : n < 18446744073709551616) :
    Calls Try.prog 82 #[.int .u64 n] w fun e w' => e = .returned (.string (vput n)) ∧ Below w.heap.size w w' := by
  go_enter Try.func82, Try.ntmps82
  go_wp2
  go_loopw [0, 4] (fun n' k wr => ∃ (m : Int) (i : Nat) (l : List Int), l.length = 10 ∧ 0 ≤ m ∧ m < 18446744073709551616 ∧ m < 128 ^ (9 - i) * 2 ∧ n' = .int .u64 m ∧ k = .int .i64 i ∧ i ≤ 9 ∧ wr = w.alloc (.cells (arrB l) 143) ∧ l.take i ++ putI (9 - i) m = putI 9 n) (fun n _ _ => (intOf n).toNat)
  case atStart => 
    exact ⟨n, 0, List.replicate 10 0, rfl, h0, h1, by simpa using h1, rfl, rfl, by omega, rfl, rfl⟩
  case round =>
    obtain ⟨m, i, l, hl, hm0, hm1, hm2, rfl, rfl, hi, hwr, hp⟩ := hrel
    subst hwr
    have HP := Lib.hid hp
    clear hp
    have hc := arrB_get l i (by omega)
    have hst := arrB_set l i
    by_cases hlt : m < 128
    · have hsl := sliceAt_to (P := Try.prog) (T := 143) Try.underlying143 (sz := 1) (fun _ => by kernel_rfl) ⟨w.heap.size, 0, none⟩ (↑i + 1) (i + 1) (by omega) (by omega)
      have hcv := run_convert_bytes_arg (P := Try.prog) (w.alloc (.cells (arrB (l.set i m)) 143)) 122 5 Try.underlying122 Try.underlying5 w.heap.size 0 (i + 1) 10 ((l.set i m).take (i + 1)) (by simp; omega) (fun j hj => by
        rw [World.cell?_alloc_new, Nat.zero_add, arrB_get _ _ (by simp; omega)]
        simp [List.getD_eq_getElem?_getD, hj]) 9 Try.underlying9
      go_wp2
      go_ret
      refine ⟨ret_str ?_, (Below.refl _ _).alloc (Nat.le_refl _) _⟩
      unfold vput
      rw [take_set_snoc l i m (by omega), ← HP.out]
      cases hq : 9 - i with
      | zero => rfl
      | succ f => simp [putI, hlt]
    · have hi9 : i < 9 := by
        rcases Nat.lt_or_ge i 9 with h | h
        · exact h
        · have : i = 9 := by omega
          subst this
          simp at hm2
          omega
      have hor := u8_or_128 (m % 256) (by omega) (by omega)
      have h128 : m % 256 % 128 = m % 128 := by omega
      have hq : 9 - i = (9 - (i + 1)) + 1 := by omega
      have HQ := Lib.hid hq
      clear hq
      go_wp2
      go_roundw
      case rel =>
        refine ⟨m / 128, i + 1, l.set i (m % 128 + 128), by simpa using hl, by omega, by omega, ?_, rfl, by go_num, by omega, rfl, ?_⟩
        · rw [HQ.out, Int.pow_succ] at hm2
          exact Int.ediv_lt_of_lt_mul (by omega) (by omega)
        · rw [take_set_snoc l i _ (by omega), ← HP.out, HQ.out]
          simp [putI, hlt]
      case measure => simp [intOf]; omega
end
end Go.Proofs.Ytglabahbklpocaa
