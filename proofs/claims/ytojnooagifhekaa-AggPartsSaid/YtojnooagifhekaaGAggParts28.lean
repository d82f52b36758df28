/- The reference Get: its plain law and its contract. -/
import Derived.Test.YtojnooagifhekaaGAggParts9
import Derived.Test.YtojnooagifhekaaGAggParts27
import Derived.RegionCalls
import Derived.Deep.RegionWith
namespace Go.Proofs.Ytojnooagifhekaa
section
open Go.RowKit
set_option maxRecDepth 100000
set_option linter.unusedVariables false
set_option linter.unusedSimpArgs false
theorem getL_all (f i : Nat) (l : List UInt8) (h : ∀ j b, j < i → l[j]? = some b → 128 ≤ b.toNat) :
    (f ≤ i ∨ l.length ≤ i → getL f l = none) ∧ (∀ b, i < f → l[i]? = some b → b.toNat < 128 → ∃ V, getL f l = some (V, i + 1)) := by
  induction f generalizing i l with
  | zero => exact ⟨fun _ => rfl, fun b hb => by omega⟩
  | succ f ih =>
    cases l with
    | nil => exact ⟨fun _ => rfl, fun b _ hb => by simp at hb⟩
    | cons x r =>
      cases i with
      | zero =>
        refine ⟨fun hc => by simp at hc, fun b _ hb h1 => ?_⟩
        simp at hb
        subst hb
        exact ⟨(x.toNat : Int), by rw [getL_cons, if_pos (by omega)]⟩
      | succ i =>
        have hx := h 0 x (by omega) rfl
        obtain ⟨g1, g2⟩ := ih i r (fun j b hj hb => h (j + 1) b (by omega) (by simpa using hb))
        refine ⟨fun hc => ?_, fun b hi hb h1 => ?_⟩
        · rw [getL_cons, if_neg (by omega), g1 (by simp at hc; omega)]; rfl
        · obtain ⟨V, hV⟩ := g2 b (by omega) (by simpa using hb) h1
          rw [getL_cons, if_neg (by omega), hV]
          exact ⟨_, rfl⟩
/-- The bytes ahead of place a + i go on. -/
def goOn (s : ByteArray) (a i : Nat) : Prop := ∀ j b, j < i → (s.data.toList.drop a)[j]? = some b → 128 ≤ b.toNat
theorem goOn_zero (s : ByteArray) (a : Nat) : goOn s a 0 := fun j b hj => by omega
theorem at_drop (s : ByteArray) (a i : Nat) (h : a + i < s.size) : (s.data.toList.drop a)[i]? = some s[a + i] := by
  rw [List.getElem?_drop, List.getElem?_eq_getElem (by simpa using h)]; rfl
theorem goOn_succ {s : ByteArray} {a i : Nat} (h : goOn s a i) (hlt : a + i < s.size) (hb : 128 ≤ s[a + i].toNat) : goOn s a (i + 1) := by
  intro j b hj hg
  rcases Nat.lt_or_ge j i with h1 | h1
  · exact h j b h1 hg
  · have : j = i := by omega
    subst this
    rw [at_drop s a j hlt] at hg
    cases hg
    exact hb
theorem goOn_end {s : ByteArray} {a i : Nat} (h : goOn s a i) (he : s.size ≤ a + i ∨ 10 ≤ i) : vget s a = (0, 0, 10) := by
  apply vget_fail
  refine (getL_all 10 i _ h).1 ?_
  rcases he with he | he
  · right; simp; omega
  · left; exact he
theorem goOn_last {s : ByteArray} {a i : Nat} (h : goOn s a i) (hi : i ≤ 9) (hlt : a + i < s.size) (hb : s[a + i].toNat < 128) :
    getL 10 (s.data.toList.drop a) = some (digV ((s.data.toList.drop a).take (i + 1)), i + 1) := by
  obtain ⟨V, hV⟩ := (getL_all 10 i _ h).2 _ (by omega) (at_drop s a i hlt) hb
  rw [hV, ← getL_digV _ _ _ _ hV]
theorem take_extract (s : ByteArray) (a n : Nat) : (s.data.toList.drop a).take n = (s.extract a (a + n)).data.toList := by
  simp [ByteArray.data_extract, List.extract_eq_take_drop]
/-- What the reference's last look tells. -/
theorem rget_good {s : ByteArray} {a i : Nat} {v : Int} (h : goOn s a i) (hi : i ≤ 9) (hlt : a + i < s.size) (hb : s[a + i].toNat < 128)
    (hv : v = digV ((s.data.toList.drop a).take (i + 1)) % 18446744073709551616) (he : (vput v).toList = (s.extract a (a + (i + 1))).toList) : vget s a = (v, (a : Int) + (i + 1), 0) := by
  have hl := goOn_last h hi hlt hb
  rw [ByteArray.toList_eq, ByteArray.toList_eq, vput_data, ← take_extract, hv] at he
  have hc := (put_iff _ _ _ hl).1 he
  unfold vget
  rw [if_neg (by omega)]
  simp only [Int.toNat_natCast, hl]
  rw [if_pos hc, hv, Int.emod_eq_of_lt (digV_nn _) hc.1]
  simp
theorem rget_bad {s : ByteArray} {a i : Nat} {v : Int} (h : goOn s a i) (hi : i ≤ 9) (hlt : a + i < s.size) (hb : s[a + i].toNat < 128)
    (hv : v = digV ((s.data.toList.drop a).take (i + 1)) % 18446744073709551616) (he : ¬ (vput v).toList = (s.extract a (a + (i + 1))).toList) : vget s a = (0, 0, 10) := by
  have hl := goOn_last h hi hlt hb
  rw [ByteArray.toList_eq, ByteArray.toList_eq, vput_data, ← take_extract, hv] at he
  have hc : ¬ _ := fun x => he ((put_iff _ _ _ hl).2 x)
  unfold vget
  rw [if_neg (by omega)]
  simp only [Int.toNat_natCast, hl]
  rw [if_neg hc]

theorem digV_step (s : ByteArray) (a i j : Nat) (hj : j ≤ i) (hi : a + i < s.size) :
    digV (((s.data.toList.drop a).take (i + 1)).drop j) = (s[a + j].toNat : Int) % 128 + 128 * digV (((s.data.toList.drop a).take (i + 1)).drop (j + 1)) := by
  have hl : j < ((s.data.toList.drop a).take (i + 1)).length := by
    have : s.data.toList.length = s.size := by simp
    rw [List.length_take, List.length_drop]; omega
  rw [List.drop_eq_getElem_cons hl, digV]
  have e : ((s.data.toList.drop a).take (i + 1))[j] = s[a + j] := by
    rw [List.getElem_take, List.getElem_drop]; rfl
  rw [e]
theorem digV_end (s : ByteArray) (a i : Nat) : digV (((s.data.toList.drop a).take (i + 1)).drop (i + 1)) = 0 := by
  rw [List.drop_of_length_le (by simp; omega)]; rfl
theorem rget_out (s : ByteArray) (at' : Int) (w : World) (h : at' < 0) :
    Calls Try.prog 91 #[.string s, .int .i64 at'] w fun e w' => e = .returned (get3 (vget s at')) ∧ Below w.heap.size w w' := by
  have HV := Lib.hid (vget_out (s := s) (.inl h))
  go_enter Try.func91, Try.ntmps91
  go_wp2
  go_ret3
  exact ⟨ret_get3 HV.out, Below.refl _ _⟩
set_option maxHeartbeats 1000000 in
set_option maxRecDepth 100000 in
theorem rget_in (s : ByteArray) (a : Nat) (w : World) (hs : s.size ≤ 9223372036854775807) (ha : a ≤ 9223372036854775807) :
    Calls Try.prog 91 #[.string s, .int .i64 (a : Int)] w fun e w' => e = .returned (get3 (vget s a)) ∧ Below w.heap.size w w' := by
  have hb' : decide ((a : Int) < 0) = false := decide_eq_false (by omega)
  go_enter Try.func91, Try.ntmps91
  go_wp2
  go_loop [7] (fun n => ∃ (i : Nat), i ≤ 10 ∧ (1 ≤ i → a + i ≤ s.size) ∧ n = .int .i64 (i + 1) ∧ goOn s a i) (fun n => 12 - (intOf n).toNat)
  case atStart => exact ⟨0, by omega, fun h => absurd h (by omega), rfl, goOn_zero s a⟩
  case round =>
    obtain ⟨i, hi, hat, rfl, hr⟩ := hrel
    have HR := Lib.hid hr
    clear hr
    by_cases h10 : i = 10
    · have t1 : decide ((i : Int) + 1 ≤ 10) = false := decide_eq_false (by omega)
      have hge : 10 ≤ i := by omega
      clear h10
      go_wp2
      go_ret3
      exact ⟨ret_get3 (goOn_end HR.out (.inr hge)), Below.refl _ _⟩
    · have t1 : decide ((i : Int) + 1 ≤ 10) = true := decide_eq_true (by omega)
      by_cases hend : s.size ≤ a + i
      · have t2 : decide ((s.size : Int) - (i + 1) < a) = true := decide_eq_true (by omega)
        go_wp2
        go_ret3
        exact ⟨ret_get3 (goOn_end HR.out (.inl hend)), Below.refl _ _⟩
      · have t2 : decide ((s.size : Int) - (i + 1) < a) = false := decide_eq_false (by omega)
        have hlt : a + i < s.size := by omega
        have hidx : (a : Int) + (i + 1) - 1 = ((a + i : Nat) : Int) := by omega
        obtain ⟨b, hb⟩ : ∃ b : Int, ((s[a + i].toNat : Nat) : Int) = b := ⟨_, rfl⟩
        have hb0 : 0 ≤ b := by omega
        have hb1 : b < 256 := by have := s[a + i].toNat_lt; omega
        by_cases h128 : 128 ≤ b
        · have t3 : decide (128 ≤ b) = true := decide_eq_true h128
          have HG := Lib.hid (goOn_succ HR.out hlt (by omega))
          go_wp2
          go_round
          case rel => exact ⟨i + 1, by omega, fun _ => by omega, by go_num, HG.out⟩
          case measure => simp [intOf]; omega
        · have t3 : decide (128 ≤ b) = false := decide_eq_false h128
          have hbl : s[a + i].toNat < 128 := by omega
          have HB := Lib.hid hb
          clear hb
          go_wp2
          go_loop [8, 9] (fun v k => ∃ (j : Nat) (x : Int), j ≤ i + 1 ∧ 0 ≤ x ∧ x < 18446744073709551616 ∧ v = .int .u64 x ∧ k = .int .i64 ((j : Int) - 1) ∧ x = digV (((s.data.toList.drop a).take (i + 1)).drop j) % 18446744073709551616) (fun _ k => (intOf k + 1).toNat)
          case atStart => exact ⟨i + 1, 0, by omega, by omega, by omega, rfl, by go_num, by rw [digV_end]; rfl⟩
          case round =>
            obtain ⟨j, x, hj, hx0, hx1, rfl, rfl, hx⟩ := hrel
            have HX := Lib.hid hx
            clear hx
            cases j with
            | zero =>
              have hx := HX.out
              rw [List.drop_zero] at hx
              by_cases he : (vput x).toList = (s.extract a (a + (i + 1))).toList
              · have HV := Lib.hid (rget_good HR.out (by omega) hlt hbl hx he)
                have t5 : ((vput x).toList == (s.extract a (a + (i + 1))).toList) = true := by simpa using he
                clear hx he
                have hsl := str_slice (P := Try.prog) (T := 9) Try.underlying9 s (a : Int) ((a : Int) + ((i : Int) + 1)) a (a + (i + 1)) rfl (by omega) (by omega) (by omega)
                have hwr : IntKind.i64.wrap ((a : Int) + ((i : Int) + 1)) = (a : Int) + ((i : Int) + 1) := IntWalk.i64_in _ (by omega)
                have hnn : 0 ≤ (a : Int) + ((i : Int) + 1) := by omega
                have hnt : ((a : Int) + ((i : Int) + 1)).toNat = a + (i + 1) := by omega
                go_wp2
                go_region_with (go_at_call 62; refine (rput_any x _ hx0 hx1).mono ?_; rintro e w' ⟨rfl, hbw⟩)
                go_wp2
                go_ret3
                exact ⟨ret_get3 HV.out, below_from_drew hbw⟩
              · have HV := Lib.hid (rget_bad HR.out (by omega) hlt hbl hx he)
                have t5 : ((vput x).toList == (s.extract a (a + (i + 1))).toList) = false := by simpa using he
                clear hx he
                have hsl := str_slice (P := Try.prog) (T := 9) Try.underlying9 s (a : Int) ((a : Int) + ((i : Int) + 1)) a (a + (i + 1)) rfl (by omega) (by omega) (by omega)
                have hwr : IntKind.i64.wrap ((a : Int) + ((i : Int) + 1)) = (a : Int) + ((i : Int) + 1) := IntWalk.i64_in _ (by omega)
                have hnn : 0 ≤ (a : Int) + ((i : Int) + 1) := by omega
                have hnt : ((a : Int) + ((i : Int) + 1)).toNat = a + (i + 1) := by omega
                go_wp2
                go_region_with (go_at_call 62; refine (rput_any x _ hx0 hx1).mono ?_; rintro e w' ⟨rfl, hbw⟩)
                go_wp2
                go_ret3
                exact ⟨ret_get3 HV.out, below_from_drew hbw⟩
            | succ j =>
              have hjl : a + j < s.size := by omega
              have hidx2 : (a : Int) + ((j : Int) + 1 - 1) = ((a + j : Nat) : Int) := by omega
              obtain ⟨d, hd⟩ : ∃ d : Int, ((s[a + j].toNat : Nat) : Int) = d := ⟨_, rfl⟩
              have hd0 : 0 ≤ d := by omega
              have hd1 : d < 256 := by have := s[a + j].toNat_lt; omega
              have HD := Lib.hid (And.intro hd (digV_step s a i j (by omega) hlt))
              go_wp2
              go_round
              case rel =>
                refine ⟨j, _, by omega, ?_, ?_, rfl, by go_num, ?_⟩
                · rw [wrap_u64]; omega
                · rw [wrap_u64]; omega
                · rw [HD.out.2, HD.out.1, HX.out, wrap_u64, wrap_u64]
                  generalize digV _ = q
                  omega
              case measure => simp [intOf]
theorem rget_any (s : ByteArray) (at' : Int) (w : World) (hs : s.size ≤ 9223372036854775807) (h1 : at' ≤ 9223372036854775807) :
    Calls Try.prog 91 #[.string s, .int .i64 at'] w fun e w' => e = .returned (get3 (vget s at')) ∧ Below w.heap.size w w' := by
  by_cases h : at' < 0
  · exact rget_out s at' w h
  · obtain ⟨a, rfl⟩ := Int.eq_ofNat_of_zero_le (show 0 ≤ at' by omega)
    exact rget_in s a w hs (by omega)
end
end Go.Proofs.Ytojnooagifhekaa
