/- Points: their cells; among the arguments; held against each other. agg.Bucket and the reference's. -/
import Derived.Test.YtojnooagifhekaaGAggParts5
import Derived.Test.YtojnooagifhekaaGAggParts6
import Derived.OpenShut
import Derived.ProofKit
import Derived.Lib.SmallJoins
import Derived.Test.YtojnooagifhekaaGAggParts1
namespace Go.Proofs.Ytojnooagifhekaa
section
open Go.RowKit Go.ChangeShapes Go.WideShapes Go.Joins Go.Deep
set_option maxRecDepth 100000
set_option linter.unusedVariables false
set_option linter.unusedSimpArgs false
/-- A point. -/
structure Pt where
  series : ByteArray
  time : Int
  value : Int
  st : St
def Pt.cs (p : Pt) : List Value := [.string p.series, .int .i64 p.time, .int .i64 p.value, .int .i64 p.st.clock, .int .i64 p.st.site, .int .i64 p.st.seq]
def Pt.val (p : Pt) : Value := .agg #[.string p.series, .int .i64 p.time, .int .i64 p.value, .int .i64 p.st.clock, .int .i64 p.st.site, .int .i64 p.st.seq]
def i64 (x : Int) : Prop := -9223372036854775808 ≤ x ∧ x ≤ 9223372036854775807
def St.wf' (a : St) : Prop := i64 a.clock ∧ i64 a.site ∧ i64 a.seq
def Pt.wf (p : Pt) : Prop := p.series.size ≤ maxLen ∧ i64 p.time ∧ i64 p.value ∧ p.st.wf'
theorem wf_i64 {x : Int} (h : i64 x) : (Lit.int .i64 x).wf = true := by
  unfold i64 at h
  simp [Lit.wf, IntKind.min, IntKind.max, IntKind.signed, IntKind.bits]
  omega
theorem wf_u64 {x : Int} (h : 0 ≤ x ∧ x ≤ 18446744073709551615) : (Lit.int .u64 x).wf = true := by
  simp [Lit.wf, IntKind.min, IntKind.max, IntKind.signed, IntKind.bits]
  omega
def ptL : List Leaf := [.str, .int .i64, .int .i64, .int .i64, .int .i64, .int .i64]
theorem pt_leaves : leaves Try.prog 5 31 = some ptL := by kernel_rfl
theorem pt_flat {p : Pt} (h : p.wf) : Flat ptL p.cs := by
  obtain ⟨h1, h2, h3, h4, h5, h6⟩ := h
  exact ⟨⟨_, rfl, h1⟩, ⟨_, rfl, wf_i64 h2⟩, ⟨_, rfl, wf_i64 h3⟩, ⟨_, rfl, wf_i64 h4⟩, ⟨_, rfl, wf_i64 h5⟩, ⟨_, rfl, wf_i64 h6⟩, trivial⟩
def ptO (p : Pt) : Obj := .cells #[.string p.series, .int .i64 p.time, .int .i64 p.value, .int .i64 p.st.clock, .int .i64 p.st.site, .int .i64 p.st.seq] 31 (0, 0)
theorem pt_len (p : Pt) : p.cs.length = 6 := rfl
theorem pt_one (p : Pt) : ∀ u ∈ p.cs, u.oneCell' = true := by
  intro u hu
  simp [Pt.cs] at hu
  rcases hu with rfl | rfl | rfl | rfl | rfl | rfl <;> rfl
structure PtC (w : World) (b o : Nat) (p : Pt) : Prop where
  c0 : w.cell? ⟨b, o, none⟩ = some (.string p.series)
  c1 : w.cell? ⟨b, o + 1, none⟩ = some (.int .i64 p.time)
  c2 : w.cell? ⟨b, o + 2, none⟩ = some (.int .i64 p.value)
  c3 : w.cell? ⟨b, o + 3, none⟩ = some (.int .i64 p.st.clock)
  c4 : w.cell? ⟨b, o + 4, none⟩ = some (.int .i64 p.st.site)
  c5 : w.cell? ⟨b, o + 5, none⟩ = some (.int .i64 p.st.seq)
theorem pt_cells {w : World} {b o : Nat} {p : Pt} (h : CellsAt w b o p.cs) : PtC w b o p := ⟨h 0 _ rfl, h 1 _ rfl, h 2 _ rfl, h 3 _ rfl, h 4 _ rfl, h 5 _ rfl⟩
theorem pt_size : (Try.prog.info? 31).map (·.size) = some 6 := by kernel_rfl
theorem pt_ety : Ety Pt.cs 37 31 6 56 (.agg #[.string ⟨#[]⟩, .int .i64 0, .int .i64 0, .int .i64 0, .int .i64 0, .int .i64 0]) :=
  ⟨Try.underlying37, by kernel_rfl, rfl, by decide, by decide, pt_len, pt_one⟩
theorem fits_flat {H : Type} {enc : TypeId × Value → H} {P : Program} {w : World} {ls : List Leaf} {cs : List Value} (h : Fits enc P w ls cs) (hf : ls.all Leaf.flat = true) : Flat ls cs := by
  induction ls generalizing cs with
  | nil => cases cs with
    | nil => trivial
    | cons _ _ => exact h.elim
  | cons l ls ih =>
    simp only [List.all_cons, Bool.and_eq_true] at hf
    cases cs with
    | nil => exact h.elim
    | cons v vs => cases l with
      | sl _ _ => simp [Leaf.flat] at hf
      | int k => exact ⟨h.1, ih h.2 hf.2⟩
      | str => exact ⟨h.1, ih h.2 hf.2⟩
      | bool => exact ⟨h.1, ih h.2 hf.2⟩
theorem i64_of {n : Int} (h : (Lit.int .i64 n).wf = true) : i64 n := bounds_i64 h
theorem u64_of {n : Int} (h : (Lit.int .u64 n).wf = true) : 0 ≤ n ∧ n ≤ 18446744073709551615 := by have := bounds_u64 h; omega
theorem pt_dec {cs : List Value} (h : Flat ptL cs) : ∃ p : Pt, p.cs = cs ∧ p.wf := by
  have hl := h.len
  match cs, hl with
  | [v0, v1, v2, v3, v4, v5], _ =>
    obtain ⟨⟨s, rfl, w0⟩, ⟨n1, rfl, w1⟩, ⟨n2, rfl, w2⟩, ⟨n3, rfl, w3⟩, ⟨n4, rfl, w4⟩, ⟨n5, rfl, w5⟩, _⟩ := h
    exact ⟨⟨s, n1, n2, ⟨n3, n4, n5⟩⟩, rfl, w0, i64_of w1, i64_of w2, i64_of w3, i64_of w4, i64_of w5⟩
def IsPt (w : World) (v : Value) (p : Pt) : Prop := v = p.val ∧ p.wf
section
variable {H : Type} {enc : TypeId × Value → H} {W : World} {r : Reach} {b0 : Nat} {v : Value} {d : DataW H} {ps : List MemPlace}
theorem open_isPt (hval : Value.okWide Try.prog W r b0 31 v) (hd : DataW.Trod enc Try.prog W 0 (fun _ => true) true 31 v d ps) : ∃ p, IsPt W v p := by
  obtain ⟨cs, rfl, hf⟩ := open_fits 5 ptL pt_leaves (by kernel_rfl) hval hd
  obtain ⟨p, rfl, hok⟩ := pt_dec (fits_flat hf rfl)
  exact ⟨p, rfl, hok⟩
theorem open_isPts (hval : Value.okWide Try.prog W r b0 37 v) (hd : DataW.Trod enc Try.prog W 0 (fun _ => true) true 37 v d ps) : ∃ xs, IsEs Pt.cs 6 Pt.wf W v xs :=
  open_isEs Pt.cs 6 Pt.wf 5 ptL (fun l hl => pt_dec (fits_flat hl rfl)) rfl (by decide) Try.underlying37 pt_leaves (by kernel_rfl) hval hd
end
theorem Pt.cs_inj {a b : Pt} (h : a.cs = b.cs) : a = b := by
  obtain ⟨s, t, v, ⟨c, i, q⟩⟩ := a
  obtain ⟨s', t', v', ⟨c', i', q'⟩⟩ := b
  simp only [Pt.cs, List.cons.injEq, Value.int.injEq, Value.string.injEq, true_and, and_true] at h
  obtain ⟨rfl, rfl, rfl, rfl, rfl, rfl⟩ := h
  rfl
open Classical in
theorem eq_pt (a b : Pt) (ha : a.wf) (hb : b.wf) (w : World) : (binOp .eql 31 a.val b.val).run Try.prog w = .ok (.bool (decide (a = b))) w ∧ (binOp .neq 31 a.val b.val).run Try.prog w = .ok (.bool (!decide (a = b))) w :=
  eql_flat 5 (by decide) 31 ptL pt_leaves (by kernel_rfl) (by kernel_rfl) (by kernel_rfl) a.cs b.cs (pt_flat ha) (pt_flat hb) (a = b) ⟨fun e => by rw [e], Pt.cs_inj⟩ w
end
end Go.Proofs.Ytojnooagifhekaa
namespace Go.Proofs.Ytojnooagifhekaa
section
open Go.RowKit
set_option maxRecDepth 100000
set_option linter.unusedVariables false
set_option linter.unusedSimpArgs false
/-- How many digits, f at most. -/
def bkR : Nat → Int → Nat
  | 0, _ => 0
  | f + 1, v => if v ≤ 0 then 0 else 1 + bkR f (v / 10)
def bucketV (v : Int) : Int := if v < 0 then 0 else 1 + (bkR 7 v : Int)
theorem bkR_zero (f : Nat) (v : Int) (h : v ≤ 0) : bkR f v = 0 := by cases f with
  | zero => rfl
  | succ f => exact if_pos h
theorem bkR_succ (f : Nat) (v : Int) (h : 0 < v) : bkR (f + 1) v = 1 + bkR f (v / 10) := if_neg (by omega)
theorem bkR_le (f : Nat) (v : Int) : bkR f v ≤ f := by
  induction f generalizing v with
  | zero => exact Nat.le_refl _
  | succ f ih =>
    have := ih (v / 10)
    simp only [bkR]
    split <;> omega
theorem bkR_min (f g : Nat) (v : Int) : bkR f v = min f (bkR (f + g) v) := by
  induction f generalizing v with
  | zero => simp [bkR]
  | succ f ih =>
    rw [show f + 1 + g = f + g + 1 by omega]
    simp only [bkR]
    split
    · simp
    · rw [ih (v / 10)]; omega
theorem bucketV_range (v : Int) : 0 ≤ bucketV v ∧ bucketV v ≤ 8 := by
  unfold bucketV
  have := bkR_le 7 v
  split <;> omega
theorem bucket_any (v : Int) (w : World) (h1 : v ≤ 9223372036854775807) : Calls Try.prog 12 #[.int .i64 v] w fun e w' => e = .returned (.int .i64 (bucketV v)) ∧ w = w' := by
  obtain ⟨V, HV⟩ : ∃ V, Hid (V = bucketV v) := ⟨_, rfl⟩
  rw [← HV.out]
  unfold bucketV at HV
  by_cases hn : v < 0
  · have t1 : decide (v < 0) = true := decide_eq_true hn
    rw [if_pos hn] at HV
    go_enter Try.func12, Try.ntmps12
    go_wp2_with fail
    go_ret
    exact ⟨by rw [HV.out]; rfl, rfl⟩
  · have t1 : decide (v < 0) = false := decide_eq_false hn
    rw [if_neg hn] at HV
    go_enter Try.func12, Try.ntmps12
    go_wp2_with fail
    go_loop [0, 3] (fun x i => ∃ (m : Int) (k : Nat), k ≤ 7 ∧ 0 ≤ m ∧ m ≤ v ∧ x = .int .i64 m ∧ i = .int .i64 (1 + k) ∧ k + bkR (7 - k) m = bkR 7 v) (fun _ i => 9 - (intOf i).toNat)
    case atStart => exact ⟨v, 0, by omega, by omega, by omega, rfl, rfl, by simp⟩
    case round =>
      obtain ⟨m, k, hk, hm, hmv, rfl, rfl, hr⟩ := hrel
      have R := Lib.hid hr
      clear hr
      by_cases hz : 0 < m
      · have t2 : decide (0 < m) = true := decide_eq_true hz
        by_cases hk7 : k < 7
        · have t3 : decide (1 + (k : Int) < 8) = true := decide_eq_true (by omega)
          have e1 : m.tdiv 10 = m / 10 := Int.tdiv_eq_ediv_of_nonneg hm
          have N : Hid (k + 1 + bkR (7 - (k + 1)) (m / 10) = bkR 7 v) := by
            have := R.out
            rw [show 7 - k = (7 - (k + 1)) + 1 by omega, bkR_succ _ _ hz] at this
            show _ = _
            omega
          have hq : 0 ≤ m / 10 ∧ m / 10 ≤ v := by omega
          go_wp2_with fail
          go_round
          case rel => exact ⟨m / 10, k + 1, by omega, hq.1, hq.2, by first | rfl | rw [e1], by go_num, N.out⟩
          case measure => simp [intOf]; omega
        · have t3 : decide (1 + (k : Int) < 8) = false := decide_eq_false (by omega)
          have e : V = 1 + (k : Int) := by
            have := R.out
            rw [show 7 - k = 0 by omega, show bkR 0 m = 0 from rfl] at this
            rw [HV.out]
            omega
          have E := Lib.hid e
          clear e
          go_wp2_with fail
          go_ret
          exact ⟨by rw [E.out]; rfl, rfl⟩
      · have t2 : decide (0 < m) = false := decide_eq_false hz
        have e : V = 1 + (k : Int) := by
          have := R.out
          rw [bkR_zero _ _ (by omega)] at this
          rw [HV.out]
          omega
        have E := Lib.hid e
        clear e
        go_wp2_with fail
        go_ret
        exact ⟨by rw [E.out]; rfl, rfl⟩
theorem pow_le19 : (9223372036854775807 : Int) < 10 ^ 19 := by decide
theorem div_pow19 (m : Int) (k : Nat) (hm : 0 ≤ m) (h : m < 10 ^ (k + 1)) : m / 10 < 10 ^ k := by
  rw [Int.pow_succ] at h
  exact Int.ediv_lt_of_lt_mul (by decide) h
theorem rbucket_any (v : Int) (w : World) (h1 : v ≤ 9223372036854775807) : Calls Try.prog 13 #[.int .i64 v] w fun e w' => e = .returned (.int .i64 (bucketV v)) ∧ w = w' := by
  obtain ⟨V, HV⟩ : ∃ V, Hid (V = bucketV v) := ⟨_, rfl⟩
  rw [← HV.out]
  unfold bucketV at HV
  by_cases hn : v < 0
  · have t1 : decide (v < 0) = true := decide_eq_true hn
    rw [if_pos hn] at HV
    go_enter Try.func13, Try.ntmps13
    go_wp2_with fail
    go_ret
    exact ⟨by rw [HV.out]; rfl, rfl⟩
  · have t1 : decide (v < 0) = false := decide_eq_false hn
    rw [if_neg hn, bkR_min 7 12 v] at HV
    have h19 := pow_le19
    go_enter Try.func13, Try.ntmps13
    go_wp2_with fail
    go_loop [0, 3] (fun x i => ∃ (m : Int) (k : Nat), k ≤ 19 ∧ 0 ≤ m ∧ m ≤ v ∧ m < 10 ^ (19 - k) ∧ x = .int .i64 m ∧ i = .int .i64 (1 + k) ∧ k + bkR (19 - k) m = bkR (7 + 12) v) (fun _ i => 21 - (intOf i).toNat)
    case atStart => exact ⟨v, 0, by omega, by omega, by omega, by simp only [Nat.sub_zero]; omega, rfl, rfl, by simp⟩
    case round =>
      obtain ⟨m, k, hk, hm, hmv, hp, rfl, rfl, hr⟩ := hrel
      have R := Lib.hid hr
      have P := Lib.hid hp
      clear hr hp h19
      by_cases hz : 0 < m
      · have t2 : decide (0 < m) = true := decide_eq_true hz
        have hk7 : k < 19 := by
          rcases Nat.lt_or_ge k 19 with h | h
          · exact h
          · have := P.out
            rw [show 19 - k = 0 by omega] at this
            simp at this
            omega
        have e1 : m.tdiv 10 = m / 10 := Int.tdiv_eq_ediv_of_nonneg hm
        have N : Hid (k + 1 + bkR (19 - (k + 1)) (m / 10) = bkR (7 + 12) v) := by
          have := R.out
          rw [show 19 - k = (19 - (k + 1)) + 1 by omega, bkR_succ _ _ hz] at this
          show _ = _
          omega
        have Q : Hid (m / 10 < 10 ^ (19 - (k + 1))) := by
          have := P.out
          rw [show 19 - k = (19 - (k + 1)) + 1 by omega] at this
          exact div_pow19 m _ hm this
        have hq : 0 ≤ m / 10 ∧ m / 10 ≤ v := by omega
        go_wp2_with fail
        go_round
        case rel => exact ⟨m / 10, k + 1, by omega, hq.1, hq.2, Q.out, by first | rfl | rw [e1], by go_num, N.out⟩
        case measure => simp [intOf]; omega
      · have t2 : decide (0 < m) = false := decide_eq_false hz
        have e : bkR (7 + 12) v = k := by
          have := R.out
          rw [bkR_zero _ _ (by omega)] at this
          omega
        rw [e] at HV
        clear e
        by_cases h8 : 7 < k
        · have t3 : decide ((8 : Int) < 1 + (k : Int)) = true := decide_eq_true (by omega)
          have e : V = 8 := by rw [HV.out]; omega
          have E := Lib.hid e
          clear e
          go_wp2_with fail
          go_ret
          exact ⟨by rw [E.out]; rfl, rfl⟩
        · have t3 : decide ((8 : Int) < 1 + (k : Int)) = false := decide_eq_false (by omega)
          have e : V = 1 + (k : Int) := by rw [HV.out]; omega
          have E := Lib.hid e
          clear e
          go_wp2_with fail
          go_ret
          exact ⟨by rw [E.out]; rfl, rfl⟩
end
end Go.Proofs.Ytojnooagifhekaa
