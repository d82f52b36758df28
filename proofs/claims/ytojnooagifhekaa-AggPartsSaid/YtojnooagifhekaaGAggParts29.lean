/- The reference's Reader: each method answers and leaves behind what the program's does. Plain law: a number's bytes are read as it, wherever they stand; no two numbers have one text of bytes; a lesser number has no more. -/
import Derived.Test.YtojnooagifhekaaGAggParts11
import Derived.Test.YtojnooagifhekaaGAggParts28
import Derived.Test.YtojnooagifhekaaGAggParts9
import Derived.Test.YtojnooagifhekaaGAggParts8
namespace Go.Proofs.Ytojnooagifhekaa
section
open Go.RowKit
set_option maxRecDepth 100000
set_option linter.unusedVariables false
set_option linter.unusedSimpArgs false
set_option maxHeartbeats 1000000 in
theorem rrdr_left (g : Nat) (r : Rdr) (w : World) (h : RdrAt 77 w g r) (hr : r.ok) :
    Calls Try.prog 53 #[.pointer (some ⟨g, 0, none⟩)] w fun e w' => e = .returned (.int .i64 r.left) ∧ QuietFrom w w' := by
  have c0 := h.c0
  have c1 := h.c1
  have c2 := h.c2
  obtain ⟨s, p, bad⟩ := r
  obtain ⟨h1, h2, h3⟩ := hr
  simp only at c0 c1 c2 h1 h2 h3
  clear h
  cases bad
  · have hw : IntKind.i64.wrap ((s.size : Int) - p) = (s.size : Int) - p := IntWalk.i64_in _ (by omega)
    go_enter Try.func53, Try.ntmps53
    go_wp2
    go_quiet (fail)
    go_wp2
    go_ret
    exact ⟨rfl, ⟨nq, rfl⟩⟩
  · go_enter Try.func53, Try.ntmps53
    go_wp2
    go_ret
    exact ⟨rfl, ⟨0, rfl⟩⟩
set_option maxHeartbeats 1000000 in
theorem rrdr_end (g : Nat) (r : Rdr) (w : World) (h : RdrAt 77 w g r) (hr : r.ok) :
    Calls Try.prog 57 #[.pointer (some ⟨g, 0, none⟩)] w fun e w' => e = .returned (.int .i64 r.fin) ∧ QuietFrom w w' := by
  have c0 := h.c0
  have c1 := h.c1
  have c2 := h.c2
  obtain ⟨s, p, bad⟩ := r
  obtain ⟨h1, h2, h3⟩ := hr
  simp only at c0 c1 c2 h1 h2 h3
  clear h
  cases bad
  · by_cases hp : p < (s.size : Int)
    · have t1 : decide (p < (s.size : Int)) = true := decide_eq_true hp
      have HF : Hid ((⟨s, p, false⟩ : Rdr).fin = 10) := by show Rdr.fin _ = _; unfold Rdr.fin; rw [if_pos (.inr hp)]
      go_enter Try.func57, Try.ntmps57
      go_wp2
      go_quiet (fail)
      go_wp2
      go_ret
      exact ⟨ret_num HF.out.symm, ⟨nq, rfl⟩⟩
    · have t1 : decide (p < (s.size : Int)) = false := decide_eq_false hp
      have HF : Hid ((⟨s, p, false⟩ : Rdr).fin = 0) := by show Rdr.fin _ = _; unfold Rdr.fin; rw [if_neg (by simp; omega)]
      go_enter Try.func57, Try.ntmps57
      go_wp2
      go_quiet (fail)
      go_wp2
      go_ret
      exact ⟨ret_num HF.out.symm, ⟨nq, rfl⟩⟩
  · have HF : Hid ((⟨s, p, true⟩ : Rdr).fin = 10) := by show Rdr.fin _ = _; unfold Rdr.fin; rw [if_pos (.inl rfl)]
    go_enter Try.func57, Try.ntmps57
    go_wp2
    go_quiet (fail)
    go_wp2
    go_ret
    exact ⟨ret_num HF.out.symm, ⟨nq, rfl⟩⟩
theorem rget_t (s : ByteArray) (at' : Int) (w : World) (hs : s.size ≤ 1000000000) (h1 : at' ≤ s.size) :
    Calls Try.prog 91 #[.string s, .int .i64 at'] w fun e w' => e = .returned (.tuple #[.int .u64 (vget s at').1, .int .i64 (vget s at').2.1, .int .i64 (vget s at').2.2]) ∧ Below w.heap.size w w' :=
  rget_any s at' w (by omega) (by omega)
theorem RdrAt.below {T : TypeId} {g : Nat} {r : Rdr} {w w' : World} (k : RdrAt T w g r) (h : Below w.heap.size w w') : RdrAt T w' g r := by
  unfold RdrAt
  rw [h.block g k.lt]
  exact k
set_option maxHeartbeats 1000000 in
theorem rrdr_num (g : Nat) (r : Rdr) (w : World) (h : RdrAt 77 w g r) (hr : r.ok) :
    Calls Try.prog 80 #[.pointer (some ⟨g, 0, none⟩)] w fun e w' => e = .returned (.int .u64 r.num.1) ∧ RdrAt 77 w' g r.num.2 ∧ But g w w' := by
  have c0 := h.c0
  have c1 := h.c1
  have hsz := hr.1
  have hp1 := hr.2.2
  have HN : Hid (r.num = if r.bad = true then (0, r) else if (vget r.s r.pos).2.2 = 0 then ((vget r.s r.pos).1, { r with pos := (vget r.s r.pos).2.1 }) else (0, { r with bad := true })) := rfl
  go_enter Try.func80, Try.ntmps80
  go_wp2
  go_region_with (go_at_call 91; refine (rget_t _ _ _ hsz hp1).mono ?_; rintro e w' ⟨rfl, hbw⟩)
  all_goals
    have h1 : RdrAt 77 w' g r := (show RdrAt 77 w.drew g r from h).below hbw
    have hb1 : But g w w' := (show But g w w.drew from ⟨rfl, rfl, rfl, Nat.le_refl _, fun _ _ _ => rfl⟩).trans (But.of_below hbw)
    have d2 := h1.c2
    have f1 := h1.fz 1
    have f2 := h1.fz 2
    have H1 := Lib.hid h1
    clear h1 c0 c1 hbw
    cases hbd : r.bad
    · have HN2 := Lib.hid (HN.out.trans (if_neg (by rw [hbd]; decide)))
      rw [hbd] at d2
      by_cases he : (vget r.s r.pos).2.2 = 0
      · have t1 : ((vget r.s r.pos).2.2 != 0) = false := by simpa using he
        have HN3 := Lib.hid (HN2.out.trans (if_pos he))
        generalize vget r.s r.pos = q at *
        obtain ⟨v, nx, er⟩ := q
        simp only at he t1
        subst he
        clear HN HN2 t1 hbd
        have d1 := H1.out.c1
        go_wp2
        go_ret
        rw [HN3.out]
        exact ⟨rfl, H1.out.set1 nx, hb1.trans (But.set g 1 _ _)⟩
      · have t1 : ((vget r.s r.pos).2.2 != 0) = true := by simpa using he
        have HN3 := Lib.hid (HN2.out.trans (if_neg he))
        generalize vget r.s r.pos = q at *
        obtain ⟨v, nx, er⟩ := q
        simp only at he t1
        clear HN HN2 he hbd
        go_wp2
        go_ret
        rw [HN3.out]
        exact ⟨rfl, H1.out.set2 true, hb1.trans (But.set g 2 _ _)⟩
    · have HN2 := Lib.hid (HN.out.trans (if_pos hbd))
      have hs2 := H1.out.set2 true
      rw [Rdr.eta_bad r true hbd] at hs2
      rw [hbd] at d2
      clear HN hbd
      go_wp2
      go_ret
      rw [HN2.out]
      exact ⟨rfl, hs2, hb1.trans (But.set g 2 _ _)⟩
theorem rrdr_int (g : Nat) (r : Rdr) (w : World) (h : RdrAt 77 w g r) (hr : r.ok) :
    Calls Try.prog 55 #[.pointer (some ⟨g, 0, none⟩)] w fun e w' => e = .returned (.int .i64 r.int.1) ∧ RdrAt 77 w' g r.int.2 ∧ But g w w' := by
  have hk := Rdr.num_ok hr
  go_enter Try.func55, Try.ntmps55
  go_wp2_with fail
  refine (rrdr_num g r _ h hr).mono ?_
  rintro e w1 ⟨rfl, h1, hb1⟩
  go_wp2_with fail
  refine (rzag_any _ _ hk.2.1 hk.2.2.1).mono ?_
  rintro e w2 ⟨rfl, rfl⟩
  go_wp2
  go_ret
  exact ⟨rfl, h1, hb1⟩
set_option maxHeartbeats 1000000 in
theorem rrdr_small (g : Nat) (r : Rdr) (most : Int) (w : World) (h : RdrAt 77 w g r) (hr : r.ok) (hm0 : -9223372036854775808 ≤ most) (hm1 : most ≤ 9223372036854775807) :
    Calls Try.prog 52 #[.pointer (some ⟨g, 0, none⟩), .int .i64 most] w fun e w' => e = .returned (.int .i64 (r.small most).1) ∧ RdrAt 77 w' g (r.small most).2 ∧ But g w w' := by
  have hk := Rdr.num_ok hr
  go_enter Try.func52, Try.ntmps52
  go_wp2_with fail
  refine (rrdr_num g r _ h hr).mono ?_
  rintro e w1 ⟨rfl, h1, hb1⟩
  have HS : Hid (r.small most = if r.num.2.bad = true ∨ most < 0 ∨ most < r.num.1 then (0, { r.num.2 with bad := true }) else (r.num.1, r.num.2)) := rfl
  generalize r.num = q at *
  obtain ⟨v, r1⟩ := q
  simp only at h1 hk
  have d2 := h1.c2
  have f2 := h1.fz 2
  have H1 := Lib.hid h1
  have HK := Lib.hid hk
  have hv0 := hk.2.1
  clear h1 hk h
  by_cases hneg : most < 0
  · have t1 : decide (most < 0) = true := decide_eq_true hneg
    have HS2 := Lib.hid (HS.out.trans (if_pos (.inr (.inl hneg))))
    go_wp2
    go_ret
    rw [HS2.out]
    exact ⟨rfl, H1.out.set2 true, hb1.trans (But.set g 2 _ _)⟩
  · have t1 : decide (most < 0) = false := decide_eq_false hneg
    have hw : IntKind.u64.wrap most = most := by rw [wrap_u64]; omega
    by_cases hle : v ≤ most
    · have t2 : decide (most < v) = false := decide_eq_false (by omega)
      cases hbd : r1.bad
      · have HS2 := Lib.hid (HS.out.trans (if_neg (show ¬ (r1.bad = true ∨ most < 0 ∨ most < v) by rw [hbd]; simp; omega)))
        rw [hbd] at d2
        have hiw : wrap64 v = v := IntWalk.wrap64_in v ⟨by omega, by omega⟩
        clear hbd
        go_wp2
        go_ret
        rw [HS2.out]
        exact ⟨rfl, H1.out, hb1⟩
      · have HS2 := Lib.hid (HS.out.trans (if_pos (show (r1.bad = true ∨ most < 0 ∨ most < v) by rw [hbd]; simp)))
        have h3 := H1.out
        rw [← Rdr.eta_bad r1 true hbd] at h3
        rw [hbd] at d2
        clear hbd
        go_wp2
        go_ret
        rw [HS2.out]
        exact ⟨rfl, h3, hb1⟩
    · have t2 : decide (most < v) = true := decide_eq_true (by omega)
      have HS2 := Lib.hid (HS.out.trans (if_pos (.inr (.inr (by omega)))))
      go_wp2
      go_ret
      rw [HS2.out]
      exact ⟨rfl, H1.out.set2 true, hb1.trans (But.set g 2 _ _)⟩
end
end Go.Proofs.Ytojnooagifhekaa
namespace Go.Proofs.Ytojnooagifhekaa
section
open Go.RowKit
set_option maxRecDepth 100000
set_option linter.unusedVariables false
set_option linter.unusedSimpArgs false
theorem vput_size (n : Int) : (vput n).size = (putI 9 n).length := by simp [vput, strOfNums_size]
theorem vput_pos (n : Int) : 1 ≤ (vput n).size := by rw [vput_size]; exact putI_pos 9 n
theorem vput_le (n : Int) : (vput n).size ≤ 10 := by rw [vput_size]; exact putI_le 9 n
theorem vget_put (pre post : ByteArray) (n : Int) (h0 : 0 ≤ n) (h1 : n < 18446744073709551616) :
    vget (pre ++ vput n ++ post) (pre.size : Int) = (n, (pre.size : Int) + ((vput n).size : Int), 0) := by
  have hp := vput_pos n
  have hs : (pre ++ vput n ++ post).size = pre.size + (vput n).size + post.size := by simp [ByteArray.size_append]
  unfold vget
  rw [if_neg (by rw [hs]; omega), Int.toNat_natCast]
  have hd : (pre ++ vput n ++ post).data.toList.drop pre.size = putB 9 n ++ post.data.toList := by
    rw [ByteArray.data_append, ByteArray.data_append, Array.toList_append, Array.toList_append, vput_data, List.append_assoc]
    exact List.drop_left' (by rw [Array.length_toList]; rfl)
  rw [hd, getL_put 9 n _ h0 (by simp only [Int.reducePow]; omega)]
  simp only
  rw [if_pos ⟨h1, putI_canon 9 n h0⟩, vput_size]
theorem vget_put0 (post : ByteArray) (n : Int) (h0 : 0 ≤ n) (h1 : n < 18446744073709551616) : vget (vput n ++ post) 0 = (n, ((vput n).size : Int), 0) := by
  have h := vget_put ByteArray.empty post n h0 h1
  have e : ByteArray.empty ++ vput n = vput n := by apply ByteArray.ext; simp [ByteArray.data_append]
  rw [e] at h
  simpa using h
theorem append_empty_r (a : ByteArray) : a ++ ByteArray.empty = a := by apply ByteArray.ext; simp [ByteArray.data_append]
theorem vput_inj {a b : Int} (ha0 : 0 ≤ a) (ha1 : a < 18446744073709551616) (hb0 : 0 ≤ b) (hb1 : b < 18446744073709551616) (h : vput a = vput b) : a = b := by
  have x := vget_put0 ByteArray.empty a ha0 ha1
  have y := vget_put0 ByteArray.empty b hb0 hb1
  rw [h, y] at x
  simp only [Prod.mk.injEq] at x
  exact x.1.symm
theorem vput_eq_iff {a b : Int} (ha0 : 0 ≤ a) (ha1 : a < 18446744073709551616) (hb0 : 0 ≤ b) (hb1 : b < 18446744073709551616) : ((vput a).toList == (vput b).toList) = (a == b) := by
  by_cases h : a = b
  · subst h; simp
  · have : ¬ (vput a).toList = (vput b).toList := fun e => h (vput_inj ha0 ha1 hb0 hb1 (by
      rw [ByteArray.toList_eq, ByteArray.toList_eq] at e
      exact ByteArray.ext (Array.ext' e)))
    rw [beq_eq_false_iff_ne.2 this, beq_eq_false_iff_ne.2 h]
theorem putI_mono (f : Nat) (a b : Int) (h : a ≤ b) : (putI f a).length ≤ (putI f b).length := by
  induction f generalizing a b with
  | zero => simp [putI]
  | succ f ih =>
    by_cases ha : a < 128
    · rw [putI_small _ a ha]; exact putI_pos _ _
    · rw [putI_big f a ha, putI_big f b (by omega)]
      have := ih (a / 128) (b / 128) (by omega)
      simp; omega
theorem vput_mono {a b : Int} (h : a ≤ b) : (vput a).size ≤ (vput b).size := by rw [vput_size, vput_size]; exact putI_mono 9 a b h
end
end Go.Proofs.Ytojnooagifhekaa
