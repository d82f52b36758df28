/- agg.product: a number so many times. A stamp among the arguments, as a walk is told of it. mark.within, mark.Check: which stamps may be. Plain law: which values may be. No program is in sight. Contract of the reference Put. -/
import Derived.Test.YtojnooagifhekaaGAggParts3
import Derived.Test.YtojnooagifhekaaGAggParts26
import Derived.Test.YtojnooagifhekaaGAggParts6
import Derived.ProofKit
import Derived.OpenShut
import Derived.Lib.SmallJoins
import Derived.Test.YtojnooagifhekaaGAggParts8
import Derived.Test.YtojnooagifhekaaGAggParts2
namespace Go.Proofs.Ytojnooagifhekaa
section
open Go.RowKit
set_option maxRecDepth 100000
set_option linter.unusedVariables false
set_option linter.unusedSimpArgs false
theorem wd_hilo (x hi lo : Int) (h : x = hi * 18446744073709551616 + lo) (h0 : 0 ≤ hi ∧ hi ≤ 9223372036854775807) (h1 : 0 ≤ lo ∧ lo < 18446744073709551616) : wd x = ⟨hi, lo⟩ := by
  have h2 : (⟨hi, lo⟩ : Wd).ok := ⟨⟨by show -9223372036854775808 ≤ hi; omega, by show hi ≤ _; omega⟩, by show 0 ≤ lo; omega, by show lo ≤ _; omega⟩
  rw [← wd_v _ h2]
  unfold Wd.v
  rw [h]
theorem prod_hi {v n hi lo : Int} (hv0 : 0 ≤ v) (hv : v ≤ 9223372036854775808) (hn0 : 0 ≤ n) (hn : n ≤ 1099511627776) (h : v * n = hi * 18446744073709551616 + lo) (h1 : 0 ≤ lo ∧ lo < 18446744073709551616) : 0 ≤ hi ∧ hi ≤ 549755813888 := by
  have a1 : 0 ≤ v * n := Int.mul_nonneg hv0 hn0
  have a2 : v * n ≤ 9223372036854775808 * 1099511627776 := Int.mul_le_mul hv hn hn0 (by decide)
  omega
theorem product_any (v n : Int) (w : World) (hv : i64 v) (hn : 0 ≤ n ∧ n ≤ 1099511627776) : Calls Try.prog 68 #[.int .i64 v, .int .i64 n] w fun e w' => e = .returned (wd (v * n)).val ∧ Below w.heap.size w w' := by
  have hwn : IntKind.u64.wrap n = n := by rw [wrap_u64]; omega
  unfold i64 at hv
  obtain ⟨W, hW⟩ : ∃ W, Hid (wd (v * n) = W) := ⟨_, rfl⟩
  rw [hW.out]
  by_cases hneg : v < 0
  · have t1 : decide (v < 0) = true := decide_eq_true hneg
    have e1 : IntKind.u64.wrap (-IntKind.u64.wrap v) = -v := by rw [wrap_u64, wrap_u64]; omega
    go_enter Try.func68, Try.ntmps68
    go_wp2_with fail
    refine (mul64_any (-v) n _ (by omega) (by omega)).mono ?_
    rintro e w1 ⟨hi, lo, rfl, hhi, hlo, F, rfl⟩
    have hh := prod_hi (v := -v) (by omega) (by omega) hn.1 hn.2 F.out hlo
    have e2 : wrap64 hi = hi := wrap64_in _ ⟨by omega, by omega⟩
    have E := wd_hilo _ _ _ F.out ⟨hh.1, by omega⟩ hlo
    have hok : (⟨hi, lo⟩ : Wd).ok := by rw [← E]; exact wd_ok _
    have NG := fun wx => neg_any ⟨hi, lo⟩ wx hok
    have E2 : wd (-(⟨hi, lo⟩ : Wd).v) = W := by
      have : (⟨hi, lo⟩ : Wd).v = -v * n := by have := F.out; unfold Wd.v; simp only; omega
      rw [this, Int.neg_mul, Int.neg_neg, hW.out]
    rw [E2] at NG
    unfold Wd.val at NG
    simp only at NG
    clear E E2 hW hok hneg e1
    go_upto_region 7 with fail
    generalize hw2 : World.alloc _ _ = w2
    have KK := Lib.hid (show Kn w.heap.size w [(w.heap.size + 1, wdO ⟨hi, lo⟩), (w.heap.size, wdO ⟨0, 0⟩)] w2 by rw [← hw2]; exact (((Kn.start w).new' rfl (wdO ⟨0, 0⟩)).new' (n := w.heap.size + 1) (by simp) (wdO ⟨hi, lo⟩)))
    clear hw2
    obtain ⟨k0, hk0⟩ : ∃ k0, w.heap.size = k0 := ⟨_, rfl⟩
    rw [hk0] at KK ⊢
    have q0 := KK.out.cell (g := k0 + 1) (o := wdO ⟨hi, lo⟩) (by simp) (j := 0) (v := .int .i64 hi) rfl
    have q1 := KK.out.cell (g := k0 + 1) (o := wdO ⟨hi, lo⟩) (by simp) (j := 1) (v := .int .u64 lo) rfl
    go_upto_region 8 with fail
    go_wp2_with (first | (go_at_call 38; refine (NG _).mono ?_; rintro e w3 ⟨rfl, dn⟩; have KK := Lib.hid ((KK.out.below dn).sub (m := [(k0, wdO ⟨0, 0⟩)]) (by simp)); have r0 := KK.out.fz (g := k0) (o := wdO ⟨0, 0⟩) (by simp) 0; have r1 := KK.out.fz (g := k0) (o := wdO ⟨0, 0⟩) (by simp) 1; have r2 := KK.out.cell (g := k0) (o := wdO ⟨0, 0⟩) (by simp) (j := 0) (v := .int .i64 0) rfl; have r3 := KK.out.cell (g := k0) (o := wdO ⟨0, 0⟩) (by simp) (j := 1) (v := .int .u64 0) rfl; clear dn q0 q1))
    have KF := Kn.setWd KK.out trivial (by omega) W
    refine bodyPost_ret (v := W.val) (results_cell_row rfl _ _ k0 24 #[.int .i64 W.hi, .int .u64 W.lo] (0, 0) _ rfl KF.hd Try.underlying24 rfl (by kernel_rfl)) rfl ⟨rfl, by rw [hk0]; exact KF.b⟩
  · have t1 : decide (v < 0) = false := decide_eq_false hneg
    have e1 : IntKind.u64.wrap v = v := by rw [wrap_u64]; omega
    go_enter Try.func68, Try.ntmps68
    go_wp2_with fail
    refine (mul64_any v n _ (by omega) (by omega)).mono ?_
    rintro e w1 ⟨hi, lo, rfl, hhi, hlo, F, rfl⟩
    have hh := prod_hi (v := v) (by omega) (by omega) hn.1 hn.2 F.out hlo
    have e2 : wrap64 hi = hi := wrap64_in _ ⟨by omega, by omega⟩
    have E := Lib.hid ((wd_hilo _ _ _ F.out ⟨hh.1, by omega⟩ hlo).symm.trans hW.out)
    go_wp2_with fail
    rw [E.out.symm]
    exact bodyPost_ret (v := .agg #[.int .i64 hi, .int .u64 lo]) (by simp [results, Try.results68, go_sem]) rfl ⟨rfl, below_al (below_al (Below.refl _ _))⟩
end
end Go.Proofs.Ytojnooagifhekaa
namespace Go.Proofs.Ytojnooagifhekaa
section
open Go.ChangeShapes Go.WideShapes Go.ChangeAt Go.RowKit Go.Joins Go.Deep
set_option maxRecDepth 100000
set_option linter.unusedVariables false
set_option linter.unusedSimpArgs false
def St.wf (a : St) : Prop := (-9223372036854775808 ≤ a.clock ∧ a.clock ≤ 9223372036854775807) ∧ (-9223372036854775808 ≤ a.site ∧ a.site ≤ 9223372036854775807) ∧ (-9223372036854775808 ≤ a.seq ∧ a.seq ≤ 9223372036854775807)
def IsSt (w : World) (v : Value) (a : St) : Prop := v = a.val ∧ a.wf
theorem open_isSt {H : Type} {enc : TypeId × Value → H} {P : Program} {W : World} {r : Reach} {b0 : Nat} {t : TypeId} {f0 f1 f2 : Field} {v : Value} {d : DataW H} {ps : List MemPlace}
    (hs : P.underlying t = some (.struct #[f0, f1, f2])) (hone : oneCellFields P #[f0, f1, f2] = true) (hC : P.cellsOf t = 3) (t0 : P.underlying f0.type = some (.int .i64)) (t1 : P.underlying f1.type = some (.int .i64)) (t2 : P.underlying f2.type = some (.int .i64))
    (hval : Value.okWide P W r b0 t v) (hd : DataW.Trod enc P W 0 (fun _ => true) true t v d ps) : ∃ a, IsSt W v a := by
  obtain ⟨v0, v1, v2, y0, y1, y2, n, rfl, _, _, h0, h1, h2⟩ := open_agg3 hs hone hC hval hd
  obtain ⟨x0, e0, _, w0⟩ := DataW.trod_int t0 h0
  obtain ⟨x1, e1, _, w1⟩ := DataW.trod_int t1 h1
  obtain ⟨x2, e2, _, w2⟩ := DataW.trod_int t2 h2
  simp only [List.cons.injEq, and_true] at e0 e1 e2
  subst e0 e1 e2
  exact ⟨⟨x0, x1, x2⟩, rfl, bounds_i64 w0, bounds_i64 w1, bounds_i64 w2⟩
end
end Go.Proofs.Ytojnooagifhekaa
namespace Go.Proofs.Ytojnooagifhekaa
section
open Go.RowKit
set_option maxRecDepth 100000
set_option linter.unusedVariables false
set_option linter.unusedSimpArgs false
theorem within_any (n : Int) (w : World) : Calls Try.prog 86 #[.int .i64 n] w fun e w' => e = .returned (.bool (inV n)) ∧ w = w' := by
  obtain ⟨V, HV⟩ : ∃ V, Hid (V = inV n) := ⟨_, rfl⟩
  rw [← HV.out]
  unfold inV at HV
  by_cases h1 : 1 ≤ n
  · have t1 : decide (1 ≤ n) = true := decide_eq_true h1
    by_cases h2 : n ≤ 1099511627776
    · have t2 : decide (n ≤ 1099511627776) = true := decide_eq_true h2
      rw [t1, t2] at HV
      go_enter Try.func86, Try.ntmps86
      go_wp2_with fail
      go_ret
      exact ⟨by rw [HV.out]; rfl, rfl⟩
    · have t2 : decide (n ≤ 1099511627776) = false := decide_eq_false h2
      rw [t1, t2] at HV
      go_enter Try.func86, Try.ntmps86
      go_wp2_with fail
      go_ret
      exact ⟨by rw [HV.out]; rfl, rfl⟩
  · have t1 : decide (1 ≤ n) = false := decide_eq_false h1
    rw [t1] at HV
    go_enter Try.func86, Try.ntmps86
    go_wp2_with fail
    go_ret
    exact ⟨by rw [HV.out]; rfl, rfl⟩
def chkV (a : St) : Int := if okV a = true then 0 else 1
set_option maxHeartbeats 1000000 in
theorem check_any (a : St) (w : World) : Calls Try.prog 66 #[a.val] w fun e w' => e = .returned (.int .i64 (chkV a)) ∧ Below w.heap.size w w' := by
  obtain ⟨V, HV⟩ : ∃ V, Hid (V = chkV a) := ⟨_, rfl⟩
  rw [← HV.out]
  obtain ⟨c, s, q⟩ := a
  unfold chkV okV at HV
  unfold St.val
  simp only at HV ⊢
  have hB : Below w.heap.size w (w.alloc (.cells #[.int .i64 c, .int .i64 s, .int .i64 q] 26)) := (Below.refl _ _).alloc (Nat.le_refl _) _
  go_enter Try.func66, Try.ntmps66
  go_wp2_with fail
  refine (within_any c _).mono ?_
  rintro e w1 ⟨rfl, rfl⟩
  cases h1 : inV c
  · rw [h1] at HV
    go_wp2_with fail
    go_ret
    exact ⟨by rw [HV.out]; rfl, hB⟩
  · rw [h1] at HV
    go_wp2_with fail
    refine (within_any q _).mono ?_
    rintro e w1 ⟨rfl, rfl⟩
    cases h2 : inV q
    · rw [h2] at HV
      go_wp2_with fail
      go_ret
      exact ⟨by rw [HV.out]; rfl, hB⟩
    · rw [h2] at HV
      by_cases h3 : s < 0
      · have t3 : decide (s < 0) = true := decide_eq_true h3
        rw [show decide (0 ≤ s) = false from decide_eq_false (by omega)] at HV
        go_wp2_with fail
        go_ret
        exact ⟨by rw [HV.out]; rfl, hB⟩
      · have t3 : decide (s < 0) = false := decide_eq_false h3
        rw [show decide (0 ≤ s) = true from decide_eq_true (by omega)] at HV
        by_cases h4 : 8 ≤ s
        · have t4 : decide (8 ≤ s) = true := decide_eq_true h4
          rw [show decide (s < 8) = false from decide_eq_false (by omega)] at HV
          go_wp2_with fail
          go_ret
          exact ⟨by rw [HV.out]; rfl, hB⟩
        · have t4 : decide (8 ≤ s) = false := decide_eq_false h4
          rw [show decide (s < 8) = true from decide_eq_true (by omega)] at HV
          go_wp2_with fail
          go_ret
          exact ⟨by rw [HV.out]; rfl, hB⟩
end
end Go.Proofs.Ytojnooagifhekaa
namespace Go.Proofs.Ytojnooagifhekaa
section
open Go.RowKit
set_option maxRecDepth 100000
set_option linter.unusedVariables false
set_option linter.unusedSimpArgs false
def bkP (lo hi : Int) (i : Nat) (n : Int) : Prop := (((i : Int) < lo ∨ hi < (i : Int)) → n ≤ 0) ∧ (((i : Int) = lo ∨ (i : Int) = hi) → n ≠ 0)
structure okA (a : Ag) : Prop where
  c0 : 0 ≤ a.cnt
  c1 : a.cnt ≤ 1099511627776
  nn : ∀ i, i < 9 → 0 ≤ a.bk.getD i 0
  sum : a.bk.sum = a.cnt
  bk : 0 < a.cnt → ∀ i, i < 9 → bkP (bucketV a.mn) (bucketV a.mx) i (a.bk.getD i 0)
  zero : a.cnt = 0 → a = Ag0
  mn : 0 < a.cnt → a.mn ≤ a.mx
  l1 : 0 < a.cnt → a.mn ≤ a.last
  l2 : 0 < a.cnt → a.last ≤ a.mx
  at_ : 0 < a.cnt → okV a.at_ = true
  s1 : 0 < a.cnt → a.mn * a.cnt ≤ a.sum.v
  s2 : 0 < a.cnt → a.sum.v ≤ a.mx * a.cnt
open Classical in
noncomputable def chkA (a : Ag) : Int := if okA a then 0 else 1
theorem chkA_0 {a : Ag} (h : okA a) : chkA a = 0 := if_pos h
theorem chkA_1 {a : Ag} (h : ¬ okA a) : chkA a = 1 := if_neg h
theorem chkA_cases (a : Ag) : (okA a ∧ chkA a = 0) ∨ (¬ okA a ∧ chkA a = 1) := by
  by_cases h : okA a
  · exact .inl ⟨h, chkA_0 h⟩
  · exact .inr ⟨h, chkA_1 h⟩
/-- How many are in the first k buckets. -/
def preS (l : List Int) (k : Nat) : Int := (l.take k).sum
theorem preS_next (l : List Int) (k : Nat) (hk : k < l.length) : preS l (k + 1) = preS l k + l.getD k 0 := by
  unfold preS
  rw [List.take_succ_eq_append_getElem hk, List.sum_append, List.getD_eq_getElem?_getD, List.getElem?_eq_getElem hk]
  simp
theorem preS_all (l : List Int) (k : Nat) (hk : l.length ≤ k) : preS l k = l.sum := by
  unfold preS
  rw [List.take_of_length_le hk]
theorem preS_le (l : List Int) (h : ∀ i, i < l.length → 0 ≤ l.getD i 0) : ∀ k j, k ≤ j → j ≤ l.length → preS l k ≤ preS l j := by
  intro k j hkj hj
  induction j with
  | zero => obtain rfl : k = 0 := by omega
            exact Int.le_refl _
  | succ j ih =>
    rcases Nat.lt_or_ge j k with h' | h'
    · obtain rfl : k = j + 1 := by omega
      exact Int.le_refl _
    · have := ih h' (by omega)
      rw [preS_next l j (by omega)]
      have := h j (by omega)
      omega
/-- What the loops know of the first k buckets. -/
structure preA (a : Ag) (k : Nat) : Prop where
  nn : ∀ i, i < k → 0 ≤ a.bk.getD i 0
  le : 0 ≤ a.cnt - preS a.bk k
theorem preA_zero (a : Ag) (h : 0 ≤ a.cnt) : preA a 0 := ⟨by simp, by simpa [preS] using h⟩
theorem preA_next {a : Ag} (hl : a.bk.length = 9) {k : Nat} (h : preA a k) (hk : k < 9) (h1 : 0 ≤ a.bk.getD k 0) (h2 : a.bk.getD k 0 ≤ a.cnt - preS a.bk k) : preA a (k + 1) := by
  refine ⟨fun i hi => ?_, by rw [preS_next _ _ (by omega)]; omega⟩
  rcases Nat.lt_or_ge i k with h' | h'
  · exact h.nn i h'
  · obtain rfl : i = k := by omega
    exact h1
theorem preA.up {a : Ag} {k : Nat} (h : preA a k) (hl : a.bk.length = 9) (hk : k ≤ 9) : a.cnt - preS a.bk k ≤ a.cnt := by
  have h1 : ∀ j, j ≤ k → 0 ≤ preS a.bk j := by
    intro j
    induction j with
    | zero => intro _; simp [preS]
    | succ j ih =>
      intro hj
      rw [preS_next _ _ (by omega)]
      have := ih (by omega)
      have := h.nn j (by omega)
      omega
  have := h1 k (Nat.le_refl _)
  omega
theorem okA.pre {a : Ag} (h : okA a) (hl : a.bk.length = 9) (k : Nat) (hk : k < 9) : 0 ≤ a.bk.getD k 0 ∧ a.bk.getD k 0 ≤ a.cnt - preS a.bk k := by
  refine ⟨h.nn k hk, ?_⟩
  have h1 := preS_le a.bk (fun i hi => h.nn i (by omega)) (k + 1) 9 (by omega) (by omega)
  rw [preS_next _ _ (by omega), preS_all _ 9 (by omega), h.sum] at h1
  omega
theorem wdv_mul (v n : Int) (hv : -9223372036854775808 ≤ v ∧ v ≤ 9223372036854775807) (hn : 0 ≤ n ∧ n ≤ 1099511627776) : (wd (v * n)).v = v * n := by
  have a1 : v * n ≤ 9223372036854775808 * 1099511627776 := by
    by_cases h : 0 ≤ v
    · exact Int.mul_le_mul (by omega) hn.2 hn.1 (by decide)
    · have := Int.mul_nonneg (a := -v) (b := n) (by omega) hn.1
      rw [Int.neg_mul] at this
      omega
  have a2 : -(9223372036854775808 * 1099511627776) ≤ v * n := by
    by_cases h : 0 ≤ v
    · have := Int.mul_nonneg h hn.1
      omega
    · have := Int.mul_le_mul (a := -v) (b := n) (c := 9223372036854775808) (d := 1099511627776) (by omega) hn.2 hn.1 (by decide)
      rw [Int.neg_mul] at this
      omega
  exact v_wd _ (by omega) (by omega)
theorem cmp_gt (x : Wd) (y : Wd) : cmpW x y > 0 ↔ y.v < x.v := by
  unfold cmpW
  split
  · omega
  · split <;> omega
theorem cmp_lt (x : Wd) (y : Wd) : cmpW x y < 0 ↔ x.v < y.v := by
  unfold cmpW
  split
  · omega
  · split <;> omega
end
end Go.Proofs.Ytojnooagifhekaa
namespace Go.Proofs.Ytojnooagifhekaa
section
open Go.RowKit
set_option maxRecDepth 100000
set_option linter.unusedVariables false
set_option linter.unusedSimpArgs false
set_option maxHeartbeats 400000 in
theorem rput_any (n : Int) (w : World) (h0 : 0 ≤ n) (h1 : n < 18446744073709551616) :
    Calls Try.prog 62 #[.int .u64 n] w fun e w' => e = .returned (.string (vput n)) ∧ Below w.heap.size w w' := by
  go_enter Try.func62, Try.ntmps62
  go_wp2
  go_loopw [0, 3] (fun n' k wr => ∃ (m : Int) (f : Nat) (l : List Int), 0 ≤ m ∧ m < 18446744073709551616 ∧ m < 128 ^ f * 2 ∧ l.length + f ≤ 9 ∧ n' = .int .u64 m ∧ k = .string (strOfNums l) ∧ Below w.heap.size w wr ∧ l ++ putI f m = putI 9 n) (fun n _ _ => (intOf n).toNat)
  case atStart => exact ⟨n, 9, [], h0, h1, by simpa using h1, by simp, rfl, rfl, Below.refl _ _, rfl⟩
  case round =>
    obtain ⟨m, f, l, hm0, hm1, hm2, hlf, rfl, rfl, hb, hp⟩ := hrel
    have HP := Lib.hid hp
    clear hp
    have hcv := conv_one (P := Try.prog) Try.underlying101 Try.underlying5 Try.underlying9
    have hz1 : (strOfNums l).size ≤ 9 := by rw [strOfNums_size]; omega
    have hz2 : ∀ x : Int, (strOfNums [x]).size ≤ 1 := fun x => by rw [strOfNums_size]; simp
    have hz3 := hz2 m
    have hz4 := hz2 (m % 128 + 128)
    clear hz2
    by_cases hlt : m < 128
    · go_wp2
      go_ret
      refine ⟨ret_str ?_, hb.alloc hb.size _⟩
      rw [← strOfNums_append]
      unfold vput
      rw [← HP.out]
      cases f with
      | zero => rfl
      | succ f => simp [putI, hlt]
    · have hx : (m % 128 + 128) % 256 = m % 128 + 128 := by omega
      go_wp2
      go_roundw
      case rel => 
        cases f with
        | zero => simp at hm2; omega
        | succ f =>
          refine ⟨m / 128, f, l ++ [m % 128 + 128], by omega, by omega, ?_, by simp; omega, rfl, by rw [strOfNums_append], hb.alloc hb.size _, ?_⟩
          · rw [Int.pow_succ] at hm2
            exact Int.ediv_lt_of_lt_mul (by omega) (by omega)
          · rw [← HP.out]
            simp [putI, hlt]
      case measure => simp [intOf]; omega
end
end Go.Proofs.Ytojnooagifhekaa
