/- The reference Get: its plain law and its contract. The reference's Reader: each method answers and leaves behind what the program's does. Plain law: a number's bytes are read as it, wherever they stand; no two numbers have one text of bytes; a lesser number has no more. -/
import Derived.Test.YtglabahbklpocaaGreatGShipReads6
import Derived.Test.YtglabahbklpocaaGreatGShipReads2
import Derived.RegionCalls
import Derived.Deep.RegionWith
import Derived.Test.YtglabahbklpocaaGreatGShipReads5
namespace Go.Proofs.YtglabahbklpocaaGreat
section
open Go.RowKit
set_option maxRecDepth 100000
set_option linter.unusedVariables false
set_option linter.unusedSimpArgs false
theorem getL_all (f i : Nat) (l : List UInt8) (h : ∀ j b, j < i → l[j]? = some b → 128 ≤ b.toNat) :
    (f ≤ i ∨ l.length ≤ i → getL f l = none) ∧ (∀ b, i < f → l[i]? = some b → b.toNat < 128 → ∃ V, getL f l = some (V, i + 1)) := by
  induction f generalizing i l with
  | zero => exact ⟨fun _ => rfl, fun b hb => by omega⟩
  | succ f ih =>
    cases l with
    | nil => exact ⟨fun _ => rfl, fun b _ hb => by simp at hb⟩
    | cons x r =>
      cases i with
      | zero =>
        refine ⟨fun hc => by simp at hc, fun b _ hb h1 => ?_⟩
        simp at hb
        subst hb
        exact ⟨(x.toNat : Int), by rw [getL_cons, if_pos (by omega)]⟩
      | succ i =>
        have hx := h 0 x (by omega) rfl
        obtain ⟨g1, g2⟩ := ih i r (fun j b hj hb => h (j + 1) b (by omega) (by simpa using hb))
        refine ⟨fun hc => ?_, fun b hi hb h1 => ?_⟩
        · rw [getL_cons, if_neg (by omega), g1 (by simp at hc; omega)]; rfl
        · obtain ⟨V, hV⟩ := g2 b (by omega) (by simpa using hb) h1
          rw [getL_cons, if_neg (by omega), hV]
          exact ⟨_, rfl⟩
/-- The bytes ahead of place a + i go on. -/
def goOn (s : ByteArray) (a i : Nat) : Prop := ∀ j b, j < i → (s.data.toList.drop a)[j]? = some b → 128 ≤ b.toNat
theorem goOn_zero (s : ByteArray) (a : Nat) : goOn s a 0 := fun j b hj => by omega
theorem at_drop (s : ByteArray) (a i : Nat) (h : a + i < s.size) : (s.data.toList.drop a)[i]? = some s[a + i] := by
  rw [List.getElem?_drop, List.getElem?_eq_getElem (by simpa using h)]; rfl
theorem goOn_succ {s : ByteArray} {a i : Nat} (h : goOn s a i) (hlt : a + i < s.size) (hb : 128 ≤ s[a + i].toNat) : goOn s a (i + 1) := by
  intro j b hj hg
  rcases Nat.lt_or_ge j i with h1 | h1
  · exact h j b h1 hg
  · have : j = i := by omega
    subst this
    rw [at_drop s a j hlt] at hg
    cases hg
    exact hb
theorem goOn_end {s : ByteArray} {a i : Nat} (h : goOn s a i) (he : s.size ≤ a + i ∨ 10 ≤ i) : vget s a = (0, 0, 10) := by
  apply vget_fail
  refine (getL_all 10 i _ h).1 ?_
  rcases he with he | he
  · right; simp; omega
  · left; exact he
theorem goOn_last {s : ByteArray} {a i : Nat} (h : goOn s a i) (hi : i ≤ 9) (hlt : a + i < s.size) (hb : s[a + i].toNat < 128) :
    getL 10 (s.data.toList.drop a) = some (digV ((s.data.toList.drop a).take (i + 1)), i + 1) := by
  obtain ⟨V, hV⟩ := (getL_all 10 i _ h).2 _ (by omega) (at_drop s a i hlt) hb
  rw [hV, ← getL_digV _ _ _ _ hV]
theorem take_extract (s : ByteArray) (a n : Nat) : (s.data.toList.drop a).take n = (s.extract a (a + n)).data.toList := by
  simp [ByteArray.data_extract, List.extract_eq_take_drop]
/-- What the reference's last look tells. -/
theorem rget_good {s : ByteArray} {a i : Nat} {v : Int} (h : goOn s a i) (hi : i ≤ 9) (hlt : a + i < s.size) (hb : s[a + i].toNat < 128)
    (hv : v = digV ((s.data.toList.drop a).take (i + 1)) % 18446744073709551616) (he : (vput v).toList = (s.extract a (a + (i + 1))).toList) : vget s a = (v, (a : Int) + (i + 1), 0) := by
  have hl := goOn_last h hi hlt hb
  rw [ByteArray.toList_eq, ByteArray.toList_eq, vput_data, ← take_extract, hv] at he
  have hc := (put_iff _ _ _ hl).1 he
  unfold vget
  rw [if_neg (by omega)]
  simp only [Int.toNat_natCast, hl]
  rw [if_pos hc, hv, Int.emod_eq_of_lt (digV_nn _) hc.1]
  simp
theorem rget_bad {s : ByteArray} {a i : Nat} {v : Int} (h : goOn s a i) (hi : i ≤ 9) (hlt : a + i < s.size) (hb : s[a + i].toNat < 128)
    (hv : v = digV ((s.data.toList.drop a).take (i + 1)) % 18446744073709551616) (he : ¬ (vput v).toList = (s.extract a (a + (i + 1))).toList) : vget s a = (0, 0, 10) := by
  have hl := goOn_last h hi hlt hb
  rw [ByteArray.toList_eq, ByteArray.toList_eq, vput_data, ← take_extract, hv] at he
  have hc : ¬ _ := fun x => he ((put_iff _ _ _ hl).2 x)
  unfold vget
  rw [if_neg (by omega)]
  simp only [Int.toNat_natCast, hl]
  rw [if_neg hc]

theorem digV_step (s : ByteArray) (a i j : Nat) (hj : j ≤ i) (hi : a + i < s.size) :
    digV (((s.data.toList.drop a).take (i + 1)).drop j) = (s[a + j].toNat : Int) % 128 + 128 * digV (((s.data.toList.drop a).take (i + 1)).drop (j + 1)) := by
  have hl : j < ((s.data.toList.drop a).take (i + 1)).length := by
    have : s.data.toList.length = s.size := by simp
    rw [List.length_take, List.length_drop]; omega
  rw [List.drop_eq_getElem_cons hl, digV]
  have e : ((s.data.toList.drop a).take (i + 1))[j] = s[a + j] := by
    rw [List.getElem_take, List.getElem_drop]; rfl
  rw [e]
theorem digV_end (s : ByteArray) (a i : Nat) : digV (((s.data.toList.drop a).take (i + 1)).drop (i + 1)) = 0 := by
  rw [List.drop_of_length_le (by simp; omega)]; rfl
theorem rget_out (s : ByteArray) (at' : Int) (w : World) (h : at' < 0) :
    Calls Tryz.prog 135 #[.string s, .int .i64 at'] w fun e w' => e = .returned (get3 (vget s at')) ∧ Below w.heap.size w w' := by
  have HV := Lib.hid (vget_out (s := s) (.inl h))
  go_enter Tryz.func135, Tryz.ntmps135
  go_wp2
  go_ret3
  exact ⟨ret_get3 HV.out, Below.refl _ _⟩
set_option maxHeartbeats 1000000 in
set_option maxRecDepth 100000 in
theorem rget_in (s : ByteArray) (a : Nat) (w : World) (hs : s.size ≤ 9223372036854775807) (ha : a ≤ 9223372036854775807) :
    Calls Tryz.prog 135 #[.string s, .int .i64 (a : Int)] w fun e w' => e = .returned (get3 (vget s a)) ∧ Below w.heap.size w w' := by
  have hb' : decide ((a : Int) < 0) = false := decide_eq_false (by omega)
  go_enter Tryz.func135, Tryz.ntmps135
  go_wp2
  go_loop [7] (fun n => ∃ (i : Nat), i ≤ 10 ∧ (1 ≤ i → a + i ≤ s.size) ∧ n = .int .i64 (i + 1) ∧ goOn s a i) (fun n => 12 - (intOf n).toNat)
  case atStart => exact ⟨0, by omega, fun h => absurd h (by omega), rfl, goOn_zero s a⟩
  case round =>
    obtain ⟨i, hi, hat, rfl, hr⟩ := hrel
    have HR := Lib.hid hr
    clear hr
    by_cases h10 : i = 10
    · have t1 : decide ((i : Int) + 1 ≤ 10) = false := decide_eq_false (by omega)
      have hge : 10 ≤ i := by omega
      clear h10
      go_wp2
      go_ret3
      exact ⟨ret_get3 (goOn_end HR.out (.inr hge)), Below.refl _ _⟩
    · have t1 : decide ((i : Int) + 1 ≤ 10) = true := decide_eq_true (by omega)
      by_cases hend : s.size ≤ a + i
      · have t2 : decide ((s.size : Int) - (i + 1) < a) = true := decide_eq_true (by omega)
        go_wp2
        go_ret3
        exact ⟨ret_get3 (goOn_end HR.out (.inl hend)), Below.refl _ _⟩
      · have t2 : decide ((s.size : Int) - (i + 1) < a) = false := decide_eq_false (by omega)
        have hlt : a + i < s.size := by omega
        have hidx : (a : Int) + (i + 1) - 1 = ((a + i : Nat) : Int) := by omega
        obtain ⟨b, hb⟩ : ∃ b : Int, ((s[a + i].toNat : Nat) : Int) = b := ⟨_, rfl⟩
        have hb0 : 0 ≤ b := by omega
        have hb1 : b < 256 := by have := s[a + i].toNat_lt; omega
        by_cases h128 : 128 ≤ b
        · have t3 : decide (128 ≤ b) = true := decide_eq_true h128
          have HG := Lib.hid (goOn_succ HR.out hlt (by omega))
          go_wp2
          go_round
          case rel => exact ⟨i + 1, by omega, fun _ => by omega, by go_num, HG.out⟩
          case measure => simp [intOf]; omega
        · have t3 : decide (128 ≤ b) = false := decide_eq_false h128
          have hbl : s[a + i].toNat < 128 := by omega
          have HB := Lib.hid hb
          clear hb
          go_wp2
          go_loop [8, 9] (fun v k => ∃ (j : Nat) (x : Int), j ≤ i + 1 ∧ 0 ≤ x ∧ x < 18446744073709551616 ∧ v = .int .u64 x ∧ k = .int .i64 ((j : Int) - 1) ∧ x = digV (((s.data.toList.drop a).take (i + 1)).drop j) % 18446744073709551616) (fun _ k => (intOf k + 1).toNat)
          case atStart => exact ⟨i + 1, 0, by omega, by omega, by omega, rfl, by go_num, by rw [digV_end]; rfl⟩
          case round =>
            obtain ⟨j, x, hj, hx0, hx1, rfl, rfl, hx⟩ := hrel
            have HX := Lib.hid hx
            clear hx
            cases j with
            | zero =>
              have hx := HX.out
              rw [List.drop_zero] at hx
              by_cases he : (vput x).toList = (s.extract a (a + (i + 1))).toList
              · have HV := Lib.hid (rget_good HR.out (by omega) hlt hbl hx he)
                have t5 : ((vput x).toList == (s.extract a (a + (i + 1))).toList) = true := by simpa using he
                clear hx he
                have hsl := str_slice (P := Tryz.prog) (T := 9) Tryz.underlying9 s (a : Int) ((a : Int) + ((i : Int) + 1)) a (a + (i + 1)) rfl (by omega) (by omega) (by omega)
                have hwr : IntKind.i64.wrap ((a : Int) + ((i : Int) + 1)) = (a : Int) + ((i : Int) + 1) := IntWalk.i64_in _ (by omega)
                have hnn : 0 ≤ (a : Int) + ((i : Int) + 1) := by omega
                have hnt : ((a : Int) + ((i : Int) + 1)).toNat = a + (i + 1) := by omega
                go_wp2
                go_region_with (go_at_call 55; refine (rput_any x _ hx0 hx1).mono ?_; rintro e w' ⟨rfl, hbw⟩)
                go_wp2
                go_ret3
                exact ⟨ret_get3 HV.out, below_from_drew hbw⟩
              · have HV := Lib.hid (rget_bad HR.out (by omega) hlt hbl hx he)
                have t5 : ((vput x).toList == (s.extract a (a + (i + 1))).toList) = false := by simpa using he
                clear hx he
                have hsl := str_slice (P := Tryz.prog) (T := 9) Tryz.underlying9 s (a : Int) ((a : Int) + ((i : Int) + 1)) a (a + (i + 1)) rfl (by omega) (by omega) (by omega)
                have hwr : IntKind.i64.wrap ((a : Int) + ((i : Int) + 1)) = (a : Int) + ((i : Int) + 1) := IntWalk.i64_in _ (by omega)
                have hnn : 0 ≤ (a : Int) + ((i : Int) + 1) := by omega
                have hnt : ((a : Int) + ((i : Int) + 1)).toNat = a + (i + 1) := by omega
                go_wp2
                go_region_with (go_at_call 55; refine (rput_any x _ hx0 hx1).mono ?_; rintro e w' ⟨rfl, hbw⟩)
                go_wp2
                go_ret3
                exact ⟨ret_get3 HV.out, below_from_drew hbw⟩
            | succ j =>
              have hjl : a + j < s.size := by omega
              have hidx2 : (a : Int) + ((j : Int) + 1 - 1) = ((a + j : Nat) : Int) := by omega
              obtain ⟨d, hd⟩ : ∃ d : Int, ((s[a + j].toNat : Nat) : Int) = d := ⟨_, rfl⟩
              have hd0 : 0 ≤ d := by omega
              have hd1 : d < 256 := by have := s[a + j].toNat_lt; omega
              have HD := Lib.hid (And.intro hd (digV_step s a i j (by omega) hlt))
              go_wp2
              go_round
              case rel =>
                refine ⟨j, _, by omega, ?_, ?_, rfl, by go_num, ?_⟩
                · rw [wrap_u64]; omega
                · rw [wrap_u64]; omega
                · rw [HD.out.2, HD.out.1, HX.out, wrap_u64, wrap_u64]
                  generalize digV _ = q
                  omega
              case measure => simp [intOf]
theorem rget_any (s : ByteArray) (at' : Int) (w : World) (hs : s.size ≤ 9223372036854775807) (h1 : at' ≤ 9223372036854775807) :
    Calls Tryz.prog 135 #[.string s, .int .i64 at'] w fun e w' => e = .returned (get3 (vget s at')) ∧ Below w.heap.size w w' := by
  by_cases h : at' < 0
  · exact rget_out s at' w h
  · obtain ⟨a, rfl⟩ := Int.eq_ofNat_of_zero_le (show 0 ≤ at' by omega)
    exact rget_in s a w hs (by omega)
end
end Go.Proofs.YtglabahbklpocaaGreat
namespace Go.Proofs.YtglabahbklpocaaGreat
section
open Go.RowKit
set_option maxRecDepth 100000
set_option linter.unusedVariables false
set_option linter.unusedSimpArgs false
set_option maxHeartbeats 1000000 in
theorem rrdr_end (g : Nat) (r : Rdr) (w : World) (h : RdrAt 105 w g r) (hr : r.ok) :
    Calls Tryz.prog 80 #[.pointer (some ⟨g, 0, none⟩)] w fun e w' => e = .returned (.int .i64 r.fin) ∧ QuietFrom w w' := by
  have c0 := h.c0
  have c1 := h.c1
  have c2 := h.c2
  obtain ⟨s, p, bad⟩ := r
  obtain ⟨h1, h2, h3⟩ := hr
  simp only at c0 c1 c2 h1 h2 h3
  clear h
  cases bad
  · by_cases hp : p < (s.size : Int)
    · have t1 : decide (p < (s.size : Int)) = true := decide_eq_true hp
      have HF : Hid ((⟨s, p, false⟩ : Rdr).fin = 10) := by show Rdr.fin _ = _; unfold Rdr.fin; rw [if_pos (.inr hp)]
      go_enter Tryz.func80, Tryz.ntmps80
      go_wp2
      go_quiet (fail)
      go_wp2
      go_ret
      exact ⟨ret_num HF.out.symm, ⟨nq, rfl⟩⟩
    · have t1 : decide (p < (s.size : Int)) = false := decide_eq_false hp
      have HF : Hid ((⟨s, p, false⟩ : Rdr).fin = 0) := by show Rdr.fin _ = _; unfold Rdr.fin; rw [if_neg (by simp; omega)]
      go_enter Tryz.func80, Tryz.ntmps80
      go_wp2
      go_quiet (fail)
      go_wp2
      go_ret
      exact ⟨ret_num HF.out.symm, ⟨nq, rfl⟩⟩
  · have HF : Hid ((⟨s, p, true⟩ : Rdr).fin = 10) := by show Rdr.fin _ = _; unfold Rdr.fin; rw [if_pos (.inl rfl)]
    go_enter Tryz.func80, Tryz.ntmps80
    go_wp2
    go_quiet (fail)
    go_wp2
    go_ret
    exact ⟨ret_num HF.out.symm, ⟨nq, rfl⟩⟩
theorem rget_t (s : ByteArray) (at' : Int) (w : World) (hs : s.size ≤ 1000000000) (h1 : at' ≤ s.size) :
    Calls Tryz.prog 135 #[.string s, .int .i64 at'] w fun e w' => e = .returned (.tuple #[.int .u64 (vget s at').1, .int .i64 (vget s at').2.1, .int .i64 (vget s at').2.2]) ∧ Below w.heap.size w w' :=
  rget_any s at' w (by omega) (by omega)
theorem RdrAt.below {T : TypeId} {g : Nat} {r : Rdr} {w w' : World} (k : RdrAt T w g r) (h : Below w.heap.size w w') : RdrAt T w' g r := by
  unfold RdrAt
  rw [h.block g k.lt]
  exact k
set_option maxHeartbeats 1000000 in
theorem rrdr_num (g : Nat) (r : Rdr) (w : World) (h : RdrAt 105 w g r) (hr : r.ok) :
    Calls Tryz.prog 125 #[.pointer (some ⟨g, 0, none⟩)] w fun e w' => e = .returned (.int .u64 r.num.1) ∧ RdrAt 105 w' g r.num.2 ∧ But g w w' := by
  have c0 := h.c0
  have c1 := h.c1
  have hsz := hr.1
  have hp1 := hr.2.2
  have HN : Hid (r.num = if r.bad = true then (0, r) else if (vget r.s r.pos).2.2 = 0 then ((vget r.s r.pos).1, { r with pos := (vget r.s r.pos).2.1 }) else (0, { r with bad := true })) := rfl
  go_enter Tryz.func125, Tryz.ntmps125
  go_wp2
  go_region_with (go_at_call 135; refine (rget_t _ _ _ hsz hp1).mono ?_; rintro e w' ⟨rfl, hbw⟩)
  all_goals
    have h1 : RdrAt 105 w' g r := (show RdrAt 105 w.drew g r from h).below hbw
    have hb1 : But g w w' := (show But g w w.drew from ⟨rfl, rfl, rfl, Nat.le_refl _, fun _ _ _ => rfl⟩).trans (But.of_below hbw)
    have d2 := h1.c2
    have f1 := h1.fz 1
    have f2 := h1.fz 2
    have H1 := Lib.hid h1
    clear h1 c0 c1 hbw
    cases hbd : r.bad
    · have HN2 := Lib.hid (HN.out.trans (if_neg (by rw [hbd]; decide)))
      rw [hbd] at d2
      by_cases he : (vget r.s r.pos).2.2 = 0
      · have t1 : ((vget r.s r.pos).2.2 != 0) = false := by simpa using he
        have HN3 := Lib.hid (HN2.out.trans (if_pos he))
        generalize vget r.s r.pos = q at *
        obtain ⟨v, nx, er⟩ := q
        simp only at he t1
        subst he
        clear HN HN2 t1 hbd
        have d1 := H1.out.c1
        go_wp2
        go_ret
        rw [HN3.out]
        exact ⟨rfl, H1.out.set1 nx, hb1.trans (But.set g 1 _ _)⟩
      · have t1 : ((vget r.s r.pos).2.2 != 0) = true := by simpa using he
        have HN3 := Lib.hid (HN2.out.trans (if_neg he))
        generalize vget r.s r.pos = q at *
        obtain ⟨v, nx, er⟩ := q
        simp only at he t1
        clear HN HN2 he hbd
        go_wp2
        go_ret
        rw [HN3.out]
        exact ⟨rfl, H1.out.set2 true, hb1.trans (But.set g 2 _ _)⟩
    · have HN2 := Lib.hid (HN.out.trans (if_pos hbd))
      have hs2 := H1.out.set2 true
      rw [Rdr.eta_bad r true hbd] at hs2
      rw [hbd] at d2
      clear HN hbd
      go_wp2
      go_ret
      rw [HN2.out]
      exact ⟨rfl, hs2, hb1.trans (But.set g 2 _ _)⟩
theorem rrdr_int (g : Nat) (r : Rdr) (w : World) (h : RdrAt 105 w g r) (hr : r.ok) :
    Calls Tryz.prog 126 #[.pointer (some ⟨g, 0, none⟩)] w fun e w' => e = .returned (.int .i64 r.int.1) ∧ RdrAt 105 w' g r.int.2 ∧ But g w w' := by
  have hk := Rdr.num_ok hr
  go_enter Tryz.func126, Tryz.ntmps126
  go_wp2_with fail
  refine (rrdr_num g r _ h hr).mono ?_
  rintro e w1 ⟨rfl, h1, hb1⟩
  go_wp2_with fail
  refine (rzag_any _ _ hk.2.1 hk.2.2.1).mono ?_
  rintro e w2 ⟨rfl, rfl⟩
  go_wp2
  go_ret
  exact ⟨rfl, h1, hb1⟩
set_option maxHeartbeats 1000000 in
theorem rrdr_small (g : Nat) (r : Rdr) (most : Int) (w : World) (h : RdrAt 105 w g r) (hr : r.ok) (hm0 : -9223372036854775808 ≤ most) (hm1 : most ≤ 9223372036854775807) :
    Calls Tryz.prog 75 #[.pointer (some ⟨g, 0, none⟩), .int .i64 most] w fun e w' => e = .returned (.int .i64 (r.small most).1) ∧ RdrAt 105 w' g (r.small most).2 ∧ But g w w' := by
  have hk := Rdr.num_ok hr
  go_enter Tryz.func75, Tryz.ntmps75
  go_wp2_with fail
  refine (rrdr_num g r _ h hr).mono ?_
  rintro e w1 ⟨rfl, h1, hb1⟩
  have HS : Hid (r.small most = if r.num.2.bad = true ∨ most < 0 ∨ most < r.num.1 then (0, { r.num.2 with bad := true }) else (r.num.1, r.num.2)) := rfl
  generalize r.num = q at *
  obtain ⟨v, r1⟩ := q
  simp only at h1 hk
  have d2 := h1.c2
  have f2 := h1.fz 2
  have H1 := Lib.hid h1
  have HK := Lib.hid hk
  have hv0 := hk.2.1
  clear h1 hk h
  by_cases hneg : most < 0
  · have t1 : decide (most < 0) = true := decide_eq_true hneg
    have HS2 := Lib.hid (HS.out.trans (if_pos (.inr (.inl hneg))))
    go_wp2
    go_ret
    rw [HS2.out]
    exact ⟨rfl, H1.out.set2 true, hb1.trans (But.set g 2 _ _)⟩
  · have t1 : decide (most < 0) = false := decide_eq_false hneg
    have hw : IntKind.u64.wrap most = most := by rw [wrap_u64]; omega
    by_cases hle : v ≤ most
    · have t2 : decide (most < v) = false := decide_eq_false (by omega)
      cases hbd : r1.bad
      · have HS2 := Lib.hid (HS.out.trans (if_neg (show ¬ (r1.bad = true ∨ most < 0 ∨ most < v) by rw [hbd]; simp; omega)))
        rw [hbd] at d2
        have hiw : wrap64 v = v := IntWalk.wrap64_in v ⟨by omega, by omega⟩
        clear hbd
        go_wp2
        go_ret
        rw [HS2.out]
        exact ⟨rfl, H1.out, hb1⟩
      · have HS2 := Lib.hid (HS.out.trans (if_pos (show (r1.bad = true ∨ most < 0 ∨ most < v) by rw [hbd]; simp)))
        have h3 := H1.out
        rw [← Rdr.eta_bad r1 true hbd] at h3
        rw [hbd] at d2
        clear hbd
        go_wp2
        go_ret
        rw [HS2.out]
        exact ⟨rfl, h3, hb1⟩
    · have t2 : decide (most < v) = true := decide_eq_true (by omega)
      have HS2 := Lib.hid (HS.out.trans (if_pos (.inr (.inr (by omega)))))
      go_wp2
      go_ret
      rw [HS2.out]
      exact ⟨rfl, H1.out.set2 true, hb1.trans (But.set g 2 _ _)⟩
end
end Go.Proofs.YtglabahbklpocaaGreat
namespace Go.Proofs.YtglabahbklpocaaGreat
section
open Go.RowKit
set_option maxRecDepth 100000
set_option linter.unusedVariables false
set_option linter.unusedSimpArgs false
theorem vput_size (n : Int) : (vput n).size = (putI 9 n).length := by simp [vput, strOfNums_size]
theorem vput_pos (n : Int) : 1 ≤ (vput n).size := by rw [vput_size]; exact putI_pos 9 n
theorem vput_le (n : Int) : (vput n).size ≤ 10 := by rw [vput_size]; exact putI_le 9 n
theorem vget_put (pre post : ByteArray) (n : Int) (h0 : 0 ≤ n) (h1 : n < 18446744073709551616) :
    vget (pre ++ vput n ++ post) (pre.size : Int) = (n, (pre.size : Int) + ((vput n).size : Int), 0) := by
  have hp := vput_pos n
  have hs : (pre ++ vput n ++ post).size = pre.size + (vput n).size + post.size := by simp [ByteArray.size_append]
  unfold vget
  rw [if_neg (by rw [hs]; omega), Int.toNat_natCast]
  have hd : (pre ++ vput n ++ post).data.toList.drop pre.size = putB 9 n ++ post.data.toList := by
    rw [ByteArray.data_append, ByteArray.data_append, Array.toList_append, Array.toList_append, vput_data, List.append_assoc]
    exact List.drop_left' (by rw [Array.length_toList]; rfl)
  rw [hd, getL_put 9 n _ h0 (by simp only [Int.reducePow]; omega)]
  simp only
  rw [if_pos ⟨h1, putI_canon 9 n h0⟩, vput_size]
theorem vget_put0 (post : ByteArray) (n : Int) (h0 : 0 ≤ n) (h1 : n < 18446744073709551616) : vget (vput n ++ post) 0 = (n, ((vput n).size : Int), 0) := by
  have h := vget_put ByteArray.empty post n h0 h1
  have e : ByteArray.empty ++ vput n = vput n := by apply ByteArray.ext; simp [ByteArray.data_append]
  rw [e] at h
  simpa using h
theorem vput_inj {a b : Int} (ha0 : 0 ≤ a) (ha1 : a < 18446744073709551616) (hb0 : 0 ≤ b) (hb1 : b < 18446744073709551616) (h : vput a = vput b) : a = b := by
  have x := vget_put0 ByteArray.empty a ha0 ha1
  have y := vget_put0 ByteArray.empty b hb0 hb1
  rw [h, y] at x
  simp only [Prod.mk.injEq] at x
  exact x.1.symm
end
end Go.Proofs.YtglabahbklpocaaGreat
