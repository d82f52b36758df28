/- The reference Get: its plain law and its contract. The reference's Reader: each method answers and leaves behind what the program's does. Plain law: a number's bytes are read as it, wherever they stand; no two numbers have one text of bytes; a lesser number has no more. -/
import Derived.Test.YtglabahbklpocaaGShipPeers15
import Derived.Test.YtglabahbklpocaaGShipPeers5
import Derived.RegionCalls
import Derived.Deep.RegionWith
import Derived.Test.YtglabahbklpocaaGShipPeers17
import Derived.Test.YtglabahbklpocaaGShipPeers14
namespace Go.Proofs.Ytglabahbklpocaa
section
open Go.RowKit
set_option maxRecDepth 100000
set_option linter.unusedVariables false
set_option linter.unusedSimpArgs false
theorem getL_all (f i : Nat) (l : List UInt8) (h : ∀ j b, j < i → l[j]? = some b → 128 ≤ b.toNat) :
    (f ≤ i ∨ l.length ≤ i → getL f l = none) ∧ (∀ b, i < f → l[i]? = some b → b.toNat < 128 → ∃ V, getL f l = some (V, i + 1)) := by
  induction f generalizing i l with
  | zero => exact ⟨fun _ => rfl, fun b hb => by omega⟩
  | succ f ih =>
    cases l with
    | nil => exact ⟨fun _ => rfl, fun b _ hb => by simp at hb⟩
    | cons x r =>
      cases i with
      | zero =>
        refine ⟨fun hc => by simp at hc, fun b _ hb h1 => ?_⟩
        simp at hb
        subst hb
        exact ⟨(x.toNat : Int), by rw [getL_cons, if_pos (by omega)]⟩
      | succ i =>
        have hx := h 0 x (by omega) rfl
        obtain ⟨g1, g2⟩ := ih i r (fun j b hj hb => h (j + 1) b (by omega) (by simpa using hb))
        refine ⟨fun hc => ?_, fun b hi hb h1 => ?_⟩
        · rw [getL_cons, if_neg (by omega), g1 (by simp at hc; omega)]; rfl
        · obtain ⟨V, hV⟩ := g2 b (by omega) (by simpa using hb) h1
          rw [getL_cons, if_neg (by omega), hV]
          exact ⟨_, rfl⟩
/-- The bytes ahead of place a + i go on. -/
def goOn (s : ByteArray) (a i : Nat) : Prop := ∀ j b, j < i → (s.data.toList.drop a)[j]? = some b → 128 ≤ b.toNat
theorem goOn_zero (s : ByteArray) (a : Nat) : goOn s a 0 := fun j b hj => by omega
theorem at_drop (s : ByteArray) (a i : Nat) (h : a + i < s.size) : (s.data.toList.drop a)[i]? = some s[a + i] := by
  rw [List.getElem?_drop, List.getElem?_eq_getElem (by simpa using h)]; rfl
theorem goOn_succ {s : ByteArray} {a i : Nat} (h : goOn s a i) (hlt : a + i < s.size) (hb : 128 ≤ s[a + i].toNat) : goOn s a (i + 1) := by
  intro j b hj hg
  rcases Nat.lt_or_ge j i with h1 | h1
  · exact h j b h1 hg
  · have : j = i := by omega
    subst this
    rw [at_drop s a j hlt] at hg
    cases hg
    exact hb
theorem goOn_end {s : ByteArray} {a i : Nat} (h : goOn s a i) (he : s.size ≤ a + i ∨ 10 ≤ i) : vget s a = (0, 0, 10) := by
  apply vget_fail
  refine (getL_all 10 i _ h).1 ?_
  rcases he with he | he
  · right; simp; omega
  · left; exact he
theorem goOn_last {s : ByteArray} {a i : Nat} (h : goOn s a i) (hi : i ≤ 9) (hlt : a + i < s.size) (hb : s[a + i].toNat < 128) :
    getL 10 (s.data.toList.drop a) = some (digV ((s.data.toList.drop a).take (i + 1)), i + 1) := by
  obtain ⟨V, hV⟩ := (getL_all 10 i _ h).2 _ (by omega) (at_drop s a i hlt) hb
  rw [hV, ← getL_digV _ _ _ _ hV]
theorem take_extract (s : ByteArray) (a n : Nat) : (s.data.toList.drop a).take n = (s.extract a (a + n)).data.toList := by
  simp [ByteArray.data_extract, List.extract_eq_take_drop]
/-- What the reference's last look tells. -/
theorem rget_good {s : ByteArray} {a i : Nat} {v : Int} (h : goOn s a i) (hi : i ≤ 9) (hlt : a + i < s.size) (hb : s[a + i].toNat < 128)
    (hv : v = digV ((s.data.toList.drop a).take (i + 1)) % 18446744073709551616) (he : (vput v).toList = (s.extract a (a + (i + 1))).toList) : vget s a = (v, (a : Int) + (i + 1), 0) := by
  have hl := goOn_last h hi hlt hb
  rw [ByteArray.toList_eq, ByteArray.toList_eq, vput_data, ← take_extract, hv] at he
  have hc := (put_iff _ _ _ hl).1 he
  unfold vget
  rw [if_neg (by omega)]
  simp only [Int.toNat_natCast, hl]
  rw [if_pos hc, hv, Int.emod_eq_of_lt (digV_nn _) hc.1]
  simp
theorem rget_bad {s : ByteArray} {a i : Nat} {v : Int} (h : goOn s a i) (hi : i ≤ 9) (hlt : a + i < s.size) (hb : s[a + i].toNat < 128)
    (hv : v = digV ((s.data.toList.drop a).take (i + 1)) % 18446744073709551616) (he : ¬ (vput v).toList = (s.extract a (a + (i + 1))).toList) : vget s a = (0, 0, 10) := by
  have hl := goOn_last h hi hlt hb
  rw [ByteArray.toList_eq, ByteArray.toList_eq, vput_data, ← take_extract, hv] at he
  have hc : ¬ _ := fun x => he ((put_iff _ _ _ hl).2 x)
  unfold vget
  rw [if_neg (by omega)]
  simp only [Int.toNat_natCast, hl]
  rw [if_neg hc]

theorem digV_step (s : ByteArray) (a i j : Nat) (hj : j ≤ i) (hi : a + i < s.size) :
    digV (((s.data.toList.drop a).take (i + 1)).drop j) = (s[a + j].toNat : Int) % 128 + 128 * digV (((s.data.toList.drop a).take (i + 1)).drop (j + 1)) := by
  have hl : j < ((s.data.toList.drop a).take (i + 1)).length := by
    have : s.data.toList.length = s.size := by simp
    rw [List.length_take, List.length_drop]; omega
  rw [List.drop_eq_getElem_cons hl, digV]
  have e : ((s.data.toList.drop a).take (i + 1))[j] = s[a + j] := by
    rw [List.getElem_take, List.getElem_drop]; rfl
  rw [e]
theorem digV_end (s : ByteArray) (a i : Nat) : digV (((s.data.toList.drop a).take (i + 1)).drop (i + 1)) = 0 := by
  rw [List.drop_of_length_le (by simp; omega)]; rfl
end
end Go.Proofs.Ytglabahbklpocaa
namespace Go.Proofs.Ytglabahbklpocaa
section
open Go.RowKit
set_option maxRecDepth 100000
set_option linter.unusedVariables false
set_option linter.unusedSimpArgs false
theorem RdrAt.below {T : TypeId} {g : Nat} {r : Rdr} {w w' : World} (k : RdrAt T w g r) (h : Below w.heap.size w w') : RdrAt T w' g r := by
  unfold RdrAt
  rw [h.block g k.lt]
  exact k
end
end Go.Proofs.Ytglabahbklpocaa
namespace Go.Proofs.Ytglabahbklpocaa
section
open Go.RowKit
set_option maxRecDepth 100000
set_option linter.unusedVariables false
set_option linter.unusedSimpArgs false
theorem vput_size (n : Int) : (vput n).size = (putI 9 n).length := by simp [vput, strOfNums_size]
theorem vput_pos (n : Int) : 1 ≤ (vput n).size := by rw [vput_size]; exact putI_pos 9 n
theorem vput_le (n : Int) : (vput n).size ≤ 10 := by rw [vput_size]; exact putI_le 9 n
theorem vget_put (pre post : ByteArray) (n : Int) (h0 : 0 ≤ n) (h1 : n < 18446744073709551616) :
    vget (pre ++ vput n ++ post) (pre.size : Int) = (n, (pre.size : Int) + ((vput n).size : Int), 0) := by
  have hp := vput_pos n
  have hs : (pre ++ vput n ++ post).size = pre.size + (vput n).size + post.size := by simp [ByteArray.size_append]
  unfold vget
  rw [if_neg (by rw [hs]; omega), Int.toNat_natCast]
  have hd : (pre ++ vput n ++ post).data.toList.drop pre.size = putB 9 n ++ post.data.toList := by
    rw [ByteArray.data_append, ByteArray.data_append, Array.toList_append, Array.toList_append, vput_data, List.append_assoc]
    exact List.drop_left' (by rw [Array.length_toList]; rfl)
  rw [hd, getL_put 9 n _ h0 (by simp only [Int.reducePow]; omega)]
  simp only
  rw [if_pos ⟨h1, putI_canon 9 n h0⟩, vput_size]
theorem vget_put0 (post : ByteArray) (n : Int) (h0 : 0 ≤ n) (h1 : n < 18446744073709551616) : vget (vput n ++ post) 0 = (n, ((vput n).size : Int), 0) := by
  have h := vget_put ByteArray.empty post n h0 h1
  have e : ByteArray.empty ++ vput n = vput n := by apply ByteArray.ext; simp [ByteArray.data_append]
  rw [e] at h
  simpa using h
theorem append_empty_r (a : ByteArray) : a ++ ByteArray.empty = a := by apply ByteArray.ext; simp [ByteArray.data_append]
theorem vput_inj {a b : Int} (ha0 : 0 ≤ a) (ha1 : a < 18446744073709551616) (hb0 : 0 ≤ b) (hb1 : b < 18446744073709551616) (h : vput a = vput b) : a = b := by
  have x := vget_put0 ByteArray.empty a ha0 ha1
  have y := vget_put0 ByteArray.empty b hb0 hb1
  rw [h, y] at x
  simp only [Prod.mk.injEq] at x
  exact x.1.symm
theorem vput_eq_iff {a b : Int} (ha0 : 0 ≤ a) (ha1 : a < 18446744073709551616) (hb0 : 0 ≤ b) (hb1 : b < 18446744073709551616) : ((vput a).toList == (vput b).toList) = (a == b) := by
  by_cases h : a = b
  · subst h; simp
  · have : ¬ (vput a).toList = (vput b).toList := fun e => h (vput_inj ha0 ha1 hb0 hb1 (by
      rw [ByteArray.toList_eq, ByteArray.toList_eq] at e
      exact ByteArray.ext (Array.ext' e)))
    rw [beq_eq_false_iff_ne.2 this, beq_eq_false_iff_ne.2 h]
theorem putI_mono (f : Nat) (a b : Int) (h : a ≤ b) : (putI f a).length ≤ (putI f b).length := by
  induction f generalizing a b with
  | zero => simp [putI]
  | succ f ih =>
    by_cases ha : a < 128
    · rw [putI_small _ a ha]; exact putI_pos _ _
    · rw [putI_big f a ha, putI_big f b (by omega)]
      have := ih (a / 128) (b / 128) (by omega)
      simp; omega
theorem vput_mono {a b : Int} (h : a ≤ b) : (vput a).size ≤ (vput b).size := by rw [vput_size, vput_size]; exact putI_mono 9 a b h
end
end Go.Proofs.Ytglabahbklpocaa
