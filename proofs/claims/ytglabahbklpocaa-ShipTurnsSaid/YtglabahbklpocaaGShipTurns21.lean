/- Plain law: a number's bytes are read as it, wherever they stand; no two numbers have one text of bytes; a lesser number has no more. -/
import Derived.Test.YtglabahbklpocaaGShipTurns17
import Derived.Test.YtglabahbklpocaaGShipTurns16
namespace Go.Proofs.Ytglabahbklpocaa
section
open Go.RowKit
set_option maxRecDepth 100000
set_option linter.unusedVariables false
set_option linter.unusedSimpArgs false
theorem vput_size (n : Int) : (vput n).size = (putI 9 n).length := by simp [vput, strOfNums_size]
theorem vput_pos (n : Int) : 1 ≤ (vput n).size := by rw [vput_size]; exact putI_pos 9 n
theorem vput_le (n : Int) : (vput n).size ≤ 10 := by rw [vput_size]; exact putI_le 9 n
theorem vget_put (pre post : ByteArray) (n : Int) (h0 : 0 ≤ n) (h1 : n < 18446744073709551616) :
    vget (pre ++ vput n ++ post) (pre.size : Int) = (n, (pre.size : Int) + ((vput n).size : Int), 0) := by
  have hp := vput_pos n
  have hs : (pre ++ vput n ++ post).size = pre.size + (vput n).size + post.size := by simp [ByteArray.size_append]
  unfold vget
  rw [if_neg (by rw [hs]; omega), Int.toNat_natCast]
  have hd : (pre ++ vput n ++ post).data.toList.drop pre.size = putB 9 n ++ post.data.toList := by
    rw [ByteArray.data_append, ByteArray.data_append, Array.toList_append, Array.toList_append, vput_data, List.append_assoc]
    exact List.drop_left' (by rw [Array.length_toList]; rfl)
  rw [hd, getL_put 9 n _ h0 (by simp only [Int.reducePow]; omega)]
  simp only
  rw [if_pos ⟨h1, putI_canon 9 n h0⟩, vput_size]
theorem vget_put0 (post : ByteArray) (n : Int) (h0 : 0 ≤ n) (h1 : n < 18446744073709551616) : vget (vput n ++ post) 0 = (n, ((vput n).size : Int), 0) := by
  have h := vget_put ByteArray.empty post n h0 h1
  have e : ByteArray.empty ++ vput n = vput n := by apply ByteArray.ext; simp [ByteArray.data_append]
  rw [e] at h
  simpa using h
theorem append_empty_r (a : ByteArray) : a ++ ByteArray.empty = a := by apply ByteArray.ext; simp [ByteArray.data_append]
theorem vput_inj {a b : Int} (ha0 : 0 ≤ a) (ha1 : a < 18446744073709551616) (hb0 : 0 ≤ b) (hb1 : b < 18446744073709551616) (h : vput a = vput b) : a = b := by
  have x := vget_put0 ByteArray.empty a ha0 ha1
  have y := vget_put0 ByteArray.empty b hb0 hb1
  rw [h, y] at x
  simp only [Prod.mk.injEq] at x
  exact x.1.symm
theorem vput_eq_iff {a b : Int} (ha0 : 0 ≤ a) (ha1 : a < 18446744073709551616) (hb0 : 0 ≤ b) (hb1 : b < 18446744073709551616) : ((vput a).toList == (vput b).toList) = (a == b) := by
  by_cases h : a = b
  · subst h; simp
  · have : ¬ (vput a).toList = (vput b).toList := fun e => h (vput_inj ha0 ha1 hb0 hb1 (by
      rw [ByteArray.toList_eq, ByteArray.toList_eq] at e
      exact ByteArray.ext (Array.ext' e)))
    rw [beq_eq_false_iff_ne.2 this, beq_eq_false_iff_ne.2 h]
theorem putI_mono (f : Nat) (a b : Int) (h : a ≤ b) : (putI f a).length ≤ (putI f b).length := by
  induction f generalizing a b with
  | zero => simp [putI]
  | succ f ih =>
    by_cases ha : a < 128
    · rw [putI_small _ a ha]; exact putI_pos _ _
    · rw [putI_big f a ha, putI_big f b (by omega)]
      have := ih (a / 128) (b / 128) (by omega)
      simp; omega
theorem vput_mono {a b : Int} (h : a ≤ b) : (vput a).size ≤ (vput b).size := by rw [vput_size, vput_size]; exact putI_mono 9 a b h
end
end Go.Proofs.Ytglabahbklpocaa
