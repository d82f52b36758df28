/- Contract of the reference Put. -/
import Derived.Test.YtkonflbgkaflaaaGSampleMany2
namespace Go.Proofs.Ytkonflbgkaflaaa
section
open Go.RowKit
set_option maxRecDepth 100000
set_option linter.unusedVariables false
set_option linter.unusedSimpArgs false
set_option maxHeartbeats 400000 in
theorem rput_any (n : Int) (w : World) (h0 : 0 ≤ n) (h1 : n < 18446744073709551616) :
    Calls Try.prog 40 #[.int .u64 n] w fun e w' => e = .returned (.string (vput n)) ∧ Below w.heap.size w w' := by
  go_enter Try.func40, Try.ntmps40
  go_wp2
  go_loopw [0, 3] (fun n' k wr => ∃ (m : Int) (f : Nat) (l : List Int), 0 ≤ m ∧ m < 18446744073709551616 ∧ m < 128 ^ f * 2 ∧ l.length + f ≤ 9 ∧ n' = .int .u64 m ∧ k = .string (strOfNums l) ∧ Below w.heap.size w wr ∧ l ++ putI f m = putI 9 n) (fun n _ _ => (intOf n).toNat)
  case atStart => exact ⟨n, 9, [], h0, h1, by simpa using h1, by simp, rfl, rfl, Below.refl _ _, rfl⟩
  case round =>
    obtain ⟨m, f, l, hm0, hm1, hm2, hlf, rfl, rfl, hb, hp⟩ := hrel
    have HP := Lib.hid hp
    clear hp
    have hcv := conv_one (P := Try.prog) Try.underlying71 Try.underlying5 Try.underlying9
    have hz1 : (strOfNums l).size ≤ 9 := by rw [strOfNums_size]; omega
    have hz2 : ∀ x : Int, (strOfNums [x]).size ≤ 1 := fun x => by rw [strOfNums_size]; simp
    have hz3 := hz2 m
    have hz4 := hz2 (m % 128 + 128)
    clear hz2
    by_cases hlt : m < 128
    · go_wp2
      go_ret
      refine ⟨ret_str ?_, hb.alloc hb.size _⟩
      rw [← strOfNums_append]
      unfold vput
      rw [← HP.out]
      cases f with
      | zero => rfl
      | succ f => simp [putI, hlt]
    · have hx : (m % 128 + 128) % 256 = m % 128 + 128 := by omega
      go_wp2
      go_roundw
      case rel => 
        cases f with
        | zero => simp at hm2; omega
        | succ f =>
          refine ⟨m / 128, f, l ++ [m % 128 + 128], by omega, by omega, ?_, by simp; omega, rfl, by rw [strOfNums_append], hb.alloc hb.size _, ?_⟩
          · rw [Int.pow_succ] at hm2
            exact Int.ediv_lt_of_lt_mul (by omega) (by omega)
          · rw [← HP.out]
            simp [putI, hlt]
      case measure => simp [intOf]; omega
end
end Go.Proofs.Ytkonflbgkaflaaa
