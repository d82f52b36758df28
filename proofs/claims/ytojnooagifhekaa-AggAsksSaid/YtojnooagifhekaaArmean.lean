/- The reference's Mean: bit by bit. -/
import Derived.Test.YtojnooagifhekaaAmean
import Derived.Test.YtojnooagifhekaaRadd
import Derived.Test.YtojnooagifhekaaRops
namespace Go.Proofs.Ytojnooagifhekaa
open Go.RowKit
set_option maxRecDepth 100000
set_option linter.unusedVariables false
set_option linter.unusedSimpArgs false
attribute [local go_sem ↓] Go.wp_at_zero Go.wp_at_succ
def capM (M : Int) : Int := if M ≤ 36893488147419103231 then M else 36893488147419103231
theorem two_pos (j : Nat) : 1 ≤ (2 : Int) ^ j := by
  induction j with
  | zero => decide
  | succ j ih => rw [Int.pow_succ]; omega
theorem two_le {j : Nat} (h : j ≤ 64) : (2 : Int) ^ j ≤ 18446744073709551616 := by
  have h1 := two_pos j
  have h2 := two_pos (64 - j)
  have e : (2 : Int) ^ j * 2 ^ (64 - j) = 18446744073709551616 := by
    rw [← Int.pow_add, show j + (64 - j) = 64 by omega]
    decide
  have := Int.mul_le_mul_of_nonneg_left h2 (show (0 : Int) ≤ 2 ^ j by omega)
  omega
def qAt (M : Int) (k : Nat) : Int := capM M / 2 ^ k * 2 ^ k
theorem qAt_top (M : Int) (hM : 0 ≤ M) : qAt M 65 = 0 := by
  unfold qAt capM
  have e : (2 : Int) ^ 65 = 36893488147419103232 := by decide
  rw [e]
  split <;> omega
theorem qAt_zero (M : Int) : qAt M 0 = capM M := by unfold qAt; simp
theorem q_step (M : Int) (hM : 0 ≤ M) (j : Nat) (hj : j ≤ 64) : 0 ≤ qAt M (j + 1) ∧ qAt M (j + 1) + 2 ^ j ≤ 36893488147419103231 ∧ (qAt M (j + 1) + 2 ^ j ≤ M → qAt M j = qAt M (j + 1) + 2 ^ j) ∧ (¬ qAt M (j + 1) + 2 ^ j ≤ M → qAt M j = qAt M (j + 1)) := by
  have hm0 : 0 ≤ capM M := by unfold capM; split <;> omega
  have hm1 : capM M ≤ 36893488147419103231 := by unfold capM; split <;> omega
  have hmM : capM M ≤ M := by unfold capM; split <;> omega
  have hcap : ∀ x, x ≤ 36893488147419103231 → x ≤ M → x ≤ capM M := fun x h1 h2 => by unfold capM; split <;> omega
  have hc := two_pos j
  have B := bits_step (capM M) (2 ^ j) (by omega) hm0
  unfold qAt
  rw [show (2 : Int) ^ (j + 1) = 2 * 2 ^ j by rw [Int.pow_succ, Int.mul_comm]]
  have hq0 : 0 ≤ capM M / (2 * 2 ^ j) := Int.ediv_nonneg hm0 (by omega)
  have hq1 : capM M / (2 * 2 ^ j) < 2 ^ (64 - j) := by
    rw [Int.ediv_lt_iff_lt_mul (by omega)]
    have e : (2 : Int) ^ (64 - j) * (2 * 2 ^ j) = 36893488147419103232 := by
      rw [← Int.mul_assoc, Int.mul_comm _ 2, Int.mul_assoc, ← Int.pow_add, show 64 - j + j = 64 by omega]
      decide
    omega
  have hq2 : (capM M / (2 * 2 ^ j) + 1) * (2 * 2 ^ j) ≤ 36893488147419103232 := by
    have e : (2 : Int) ^ (64 - j) * (2 * 2 ^ j) = 36893488147419103232 := by
      rw [← Int.mul_assoc, Int.mul_comm _ 2, Int.mul_assoc, ← Int.pow_add, show 64 - j + j = 64 by omega]
      decide
    rw [← e]
    exact Int.mul_le_mul_of_nonneg_right (by omega) (by omega)
  rw [Int.add_mul] at hq2
  have hq3 : 0 ≤ capM M / (2 * 2 ^ j) * (2 * 2 ^ j) := Int.mul_nonneg hq0 (by omega)
  generalize capM M / (2 * 2 ^ j) * (2 * 2 ^ j) = q at *
  refine ⟨hq3, by omega, fun h => ?_, fun h => ?_⟩
  · rw [B, if_pos (hcap _ (by omega) h)]
  · rw [B, if_neg (fun h2 => h (by omega))]
theorem q_le (M : Int) (hM : 0 ≤ M) (k : Nat) (hk : k ≤ 65) : 0 ≤ qAt M k ∧ qAt M k ≤ 36893488147419103231 := by
  rcases Nat.eq_zero_or_pos k with rfl | h
  · rw [qAt_zero]; unfold capM; split <;> omega
  · have := q_step M hM (k - 1) (by omega)
    rw [show k - 1 + 1 = k by omega] at this
    have := two_pos (k - 1)
    omega
theorem mean_ref (a : Ag) (ha : a.ok) (h1 : 1 ≤ a.cnt) (h2 : a.cnt ≤ 2147483648) :
    ((absW a.sum).v < 0 → meanV a = (0, false)) ∧
    (0 ≤ (absW a.sum).v → (capM ((absW a.sum).v / a.cnt) + 1 ≤ (absW a.sum).v / a.cnt → meanV a = (0, false)) ∧
      (¬ capM ((absW a.sum).v / a.cnt) + 1 ≤ (absW a.sum).v / a.cnt → meanV a = smallW (if a.sum.hi < 0 then wd (-capM ((absW a.sum).v / a.cnt)) else wd (capM ((absW a.sum).v / a.cnt))))) := by
  obtain ⟨cnt, ⟨hi, lo⟩, mn, mx, last, st, bk⟩ := a
  obtain ⟨_, ⟨⟨k1, k2⟩, k3, k4⟩, _⟩ := ha
  simp only at k1 k2 k3 k4 h1 h2
  simp only [meanV]
  rw [if_neg (by omega)]
  generalize hS : (⟨hi, lo⟩ : Wd).v = S at *
  have hS' : S = hi * 18446744073709551616 + lo := hS.symm
  by_cases hn : hi < 0
  · have e0 : absW ⟨hi, lo⟩ = wd (-(⟨hi, lo⟩ : Wd).v) := if_pos hn
    rw [e0, if_pos hn, hS, tdiv_neg' S cnt (by omega)]
    by_cases hm : S = -170141183460469231731687303715884105728
    · have e1 : (wd (-S)).v = -170141183460469231731687303715884105728 := by rw [hm]; decide
      rw [e1]
      have hb : 18446744073709551616 ≤ -S / cnt := by
        rw [Int.le_ediv_iff_mul_le (by omega)]
        omega
      refine ⟨fun _ => if_neg (by omega), fun h => by omega⟩
    · have e1 : (wd (-S)).v = -S := v_wd _ (by omega) (by omega)
      rw [e1]
      have hM : 0 ≤ -S / cnt := Int.ediv_nonneg (by omega) (by omega)
      generalize -S / cnt = M at *
      refine ⟨fun h => by omega, fun _ => ⟨fun h => if_neg ?_, fun h => ?_⟩⟩
      · unfold capM at h; split at h <;> omega
      · have hc : capM M = M := by unfold capM at h ⊢; split at h <;> omega
        have hM2 : M ≤ 36893488147419103231 := by unfold capM at hc; split at hc <;> omega
        rw [hc]
        unfold smallW
        rw [v_wd _ (by omega) (by omega)]
  · have e0 : absW ⟨hi, lo⟩ = ⟨hi, lo⟩ := if_neg hn
    rw [e0, if_neg hn, hS, tdiv_pos S cnt (by omega)]
    have hM : 0 ≤ S / cnt := Int.ediv_nonneg (by omega) (by omega)
    generalize S / cnt = M at *
    refine ⟨fun h => by omega, fun _ => ⟨fun h => if_neg ?_, fun h => ?_⟩⟩
    · unfold capM at h; split at h <;> omega
    · have hc : capM M = M := by unfold capM at h ⊢; split at h <;> omega
      have hM2 : M ≤ 36893488147419103231 := by unfold capM at hc; split at hc <;> omega
      rw [hc]
      unfold smallW
      rw [v_wd _ (by omega) (by omega)]
theorem held_m {B kt kq ks g : Nat} {w0 w wd' : World} {T Q W : Wd} {a : Ag} (h : Kn B w0 [(kt, wdO T), (kq, wdO Q), (ks, wdO W), (g, agO a)] w) (e : wd'.heap = w.heap) :
    (wd'.cell? ⟨kt, 0, none⟩ = some (.int .i64 T.hi) ∧ wd'.cell? ⟨kt, 1, none⟩ = some (.int .u64 T.lo)) ∧ (wd'.cell? ⟨ks, 0, none⟩ = some (.int .i64 W.hi) ∧ wd'.cell? ⟨ks, 1, none⟩ = some (.int .u64 W.lo)) ∧ wd'.cell? ⟨g, 0, none⟩ = some (.int .i64 a.cnt) := by
  have c : ∀ k o v, w.cell? ⟨k, o, none⟩ = some v → wd'.cell? ⟨k, o, none⟩ = some v := fun k o v hv => by simp only [World.cell?] at hv ⊢; rw [e]; exact hv
  exact ⟨⟨c _ _ _ (h.cell (g := kt) (o := wdO T) (by simp) (j := 0) rfl), c _ _ _ (h.cell (g := kt) (o := wdO T) (by simp) (j := 1) rfl)⟩, ⟨c _ _ _ (h.cell (g := ks) (o := wdO W) (by simp) (j := 0) rfl), c _ _ _ (h.cell (g := ks) (o := wdO W) (by simp) (j := 1) rfl)⟩, c _ _ _ (h.cell (g := g) (o := agO a) (by simp) (ag_c0 a))⟩
theorem held_m' {B kq ks g : Nat} {w0 w wd' : World} {Q W : Wd} {a : Ag} (h : Kn B w0 [(kq, wdO Q), (ks, wdO W), (g, agO a)] w) (e : wd'.heap = w.heap) :
    (wd'.cell? ⟨kq, 0, none⟩ = some (.int .i64 Q.hi) ∧ wd'.cell? ⟨kq, 1, none⟩ = some (.int .u64 Q.lo)) ∧ (wd'.cell? ⟨ks, 0, none⟩ = some (.int .i64 W.hi) ∧ wd'.cell? ⟨ks, 1, none⟩ = some (.int .u64 W.lo)) ∧ wd'.cell? ⟨g, 0, none⟩ = some (.int .i64 a.cnt) :=
  held_m (kt := kq) (T := Q) (kq := kq) (Q := Q) ⟨fun p hp => h.at_ p (by simpa using hp), h.b, h.le⟩ e
set_option maxHeartbeats 8000000 in
theorem rmean_any (a : Ag) (w : World) (ha : a.ok) : Calls Try.prog 22 #[a.val] w fun e w' => e = .returned (.tuple #[.int .i64 (meanV a).1, .bool (meanV a).2]) ∧ Below w.heap.size w w' := by
  obtain ⟨V, HV⟩ : ∃ V, Hid (V = meanV a) := ⟨_, rfl⟩
  rw [← HV.out]
  unfold Ag.val
  go_enter Try.func22, Try.ntmps22
  go_upto_region 1 with (fail)
  generalize hw1 : w.alloc (.cells a.cs.toArray 29) = w1
  have hK : Kn w.heap.size w [(w.heap.size, agO a)] w1 := by rw [← hw1]; exact (Kn.start w).new (agO a)
  have a0 := hK.cell (g := w.heap.size) (o := agO a) (by simp) (ag_c0 a)
  have a1 := hK.cell (g := w.heap.size) (o := agO a) (by simp) (ag_c1 a)
  have a2 := hK.cell (g := w.heap.size) (o := agO a) (by simp) (ag_c2 a)
  have hsz := hK.fresh
  generalize hg : w.heap.size = g at *
  have KK := Lib.hid hK
  clear hK hw1
  by_cases h1 : a.cnt < 1
  · have t1 : decide (a.cnt < 1) = true := decide_eq_true h1
    have HV : Hid (V = (0, false)) := HV.out.trans (if_pos (.inl h1))
    clear h1
    go_wp2_with fail
    go_ret2
    exact ⟨by rw [HV.out]; rfl, by rw [hg]; exact KK.out.b⟩
  · have t1 : decide (a.cnt < 1) = false := decide_eq_false h1
    by_cases h2 : 2147483648 < a.cnt
    · have t2 : decide (2147483648 < a.cnt) = true := decide_eq_true h2
      have HV : Hid (V = (0, false)) := HV.out.trans (if_pos (.inr h2))
      clear h1 h2
      go_wp2_with fail
      go_ret2
      exact ⟨by rw [HV.out]; rfl, by rw [hg]; exact KK.out.b⟩
    · have t2 : decide (2147483648 < a.cnt) = false := decide_eq_false h2
      have MC := Lib.hid (mean_ref a ha (by omega) (by omega))
      have hn0 : 0 ≤ a.cnt := by omega
      have hn2 : a.cnt ≤ 2147483648 := by omega
      have hn3 : 1 ≤ a.cnt := by omega
      clear h1 h2
      have HWok := absW_ok ha.2.1
      have hs0 : Hid ((if a.sum.hi < 0 then decide (cmpW a.sum ⟨0, 0⟩ < 0) = true else decide (cmpW a.sum ⟨0, 0⟩ < 0) = false)) := by
        have := ha.2.1
        unfold Wd.ok at this
        show ite _ _ _
        unfold cmpW Wd.v
        simp only [Int.zero_mul, Int.add_zero]
        split
        · rw [if_neg (by omega), if_pos (by omega)]; rfl
        · split
          · rfl
          · rw [if_neg (by omega)]; rfl
      have CZ := fun wx => rcmp_any a.sum ⟨0, 0⟩ wx ha.2.1 (lo_ok ⟨by omega, by omega⟩)
      have CZ2 := fun wx => rcmp_any (absW a.sum) ⟨0, 0⟩ wx HWok (lo_ok ⟨by omega, by omega⟩)
      have HN := fun wx => rneg_any a.sum wx ha.2.1
      unfold Wd.val at CZ CZ2 HN
      simp only at CZ CZ2
      obtain ⟨B, HB⟩ : ∃ B, decide (cmpW a.sum ⟨0, 0⟩ < 0) = B := ⟨_, rfl⟩
      have HBB : Hid (B = decide (a.sum.hi < 0)) := by
        show _ = _
        have := hs0.out
        rw [HB] at this
        split at this
        · rw [this, decide_eq_true (by assumption)]
        · rw [this, decide_eq_false (by assumption)]
      clear hs0
      go_upto_region 5 with (fail)
      generalize hw2 : World.alloc _ _ = w2
      have hk : Kn g w [(w1.heap.size + 1, wdO a.sum), (w1.heap.size, wdO ⟨0, 0⟩), (g, agO a)] w2 := by rw [← hw2]; exact (KK.out.new (wdO ⟨0, 0⟩)).new' (n := w1.heap.size + 1) (by simp) (wdO a.sum)
      clear hw2 a0 a1 a2 KK
      obtain ⟨kz, hkz⟩ : ∃ k, w1.heap.size = k := ⟨_, rfl⟩
      rw [hkz] at hk hsz ⊢
      obtain ⟨ks, hks⟩ : ∃ k, kz + 1 = k := ⟨_, rfl⟩
      rw [hks] at hk ⊢
      have KK := Lib.hid hk
      have s0 := hk.cell (g := ks) (o := wdO a.sum) (by simp) (j := 0) rfl
      have s1 := hk.cell (g := ks) (o := wdO a.sum) (by simp) (j := 1) rfl
      have z0 := hk.cell (g := kz) (o := wdO ⟨0, 0⟩) (by simp) (j := 0) rfl
      have z1 := hk.cell (g := kz) (o := wdO ⟨0, 0⟩) (by simp) (j := 1) rfl
      clear hk
      go_upto_if 26 with (first | (go_at_call 41; refine (CZ _).mono ?_; rintro e wn ⟨rfl, dn⟩; have KK := Lib.hid (KK.out.below dn); clear dn))
      clear s0 s1 z0 z1 CZ HB
      obtain ⟨W, HW⟩ : ∃ W, Hid (absW a.sum = W) := ⟨_, rfl⟩
      go_cut [26] (fun x wx => Kn g w [(ks, wdO W), (kz, wdO ⟨0, 0⟩), (g, agO a)] wx)
      case first =>
        cases B
        · have hW2 : W = a.sum := by rw [← HW.out]; exact if_neg (by have := HBB.out; simpa using this)
          clear HBB MC
          go_wp2_with fail
          go_meet
          rw [hW2]
          exact KK.out
        · have hW2 : W = wd (-a.sum.v) := by rw [← HW.out]; exact if_pos (by have := HBB.out; simpa using this)
          clear HBB MC CZ2 HWok
          have HW2 := Lib.hid hW2
          clear HW hW2
          rw [← HW2.out] at HN
          have s0 := KK.out.cell (g := ks) (o := wdO a.sum) (by simp) (j := 0) rfl
          have s1 := KK.out.cell (g := ks) (o := wdO a.sum) (by simp) (j := 1) rfl
          go_wp2_with fail
          refine (HN _).mono ?_
          rintro e w4 ⟨rfl, d4⟩
          have KK := Lib.hid (KK.out.below d4)
          clear d4 s0 s1 HN HW2
          obtain ⟨f0, f1, y0, y1⟩ := KK.out.wd0
          go_wp2_with fail
          go_meet
          exact Kn.setWd KK.out (by simp only [Apart, and_true]; omega) (by omega) W
      case rest =>
        have KK := Lib.hid hcut
        clear hcut HN
        rw [HW.out] at MC CZ2 HWok
        clear HW
        have s0 := KK.out.cell (g := ks) (o := wdO W) (by simp) (j := 0) rfl
        have s1 := KK.out.cell (g := ks) (o := wdO W) (by simp) (j := 1) rfl
        have z0 := KK.out.cell (g := kz) (o := wdO ⟨0, 0⟩) (by simp) (j := 0) rfl
        have z1 := KK.out.cell (g := kz) (o := wdO ⟨0, 0⟩) (by simp) (j := 1) rfl
        have hcz : cmpW W ⟨0, 0⟩ < 0 ↔ W.v < 0 := by
          have e : (⟨0, 0⟩ : Wd).v = 0 := rfl
          unfold cmpW
          rw [e]
          split
          · omega
          · split <;> omega
        by_cases hF : W.v < 0
        · have t3 : decide (cmpW W ⟨0, 0⟩ < 0) = true := decide_eq_true (hcz.2 hF)
          have HV := Lib.hid (HV.out.trans (MC.out.1 hF))
          clear MC hF hcz
          go_wp2_with (first | (go_at_call 41; refine (CZ2 _).mono ?_; rintro e wn ⟨rfl, dn⟩; have KK := Lib.hid (KK.out.below dn); clear dn))
          go_ret2
          exact ⟨by rw [HV.out]; rfl, by first | exact KK.out.b | (rw [hg]; exact KK.out.b)⟩
        · have t3 : decide (cmpW W ⟨0, 0⟩ < 0) = false := decide_eq_false (fun h => hF (hcz.1 h))
          have MC := Lib.hid (MC.out.2 (by omega))
          have hM : 0 ≤ W.v / a.cnt := Int.ediv_nonneg (by omega) (by omega)
          have hMF : Hid (∀ t, t ≤ W.v / a.cnt ↔ t * a.cnt ≤ W.v) := fun t => Int.le_ediv_iff_mul_le (by omega)
          generalize W.v / a.cnt = M at *
          clear hcz
          go_upto_region 10 with (first | (go_at_call 41; refine (CZ2 _).mono ?_; rintro e w5 ⟨rfl, dn⟩; have KK := Lib.hid (KK.out.below dn); clear dn))
          clear CZ2 s0 s1 z0 z1 t3
          have z0 := KK.out.cell (g := kz) (o := wdO ⟨0, 0⟩) (by simp) (j := 0) rfl
          have z1 := KK.out.cell (g := kz) (o := wdO ⟨0, 0⟩) (by simp) (j := 1) rfl
          go_upto_region 11 with fail
          generalize hw6 : World.alloc _ _ = w6
          have hk : Kn g w [(w5.heap.size, wdO (wd (qAt M 65))), (ks, wdO W), (g, agO a)] w6 := by
            rw [← hw6, qAt_top M hM]
            exact (KK.out.new (wdO ⟨0, 0⟩)).sub (by simp [wd, sg64])
          have hlt : ks < w5.heap.size := KK.out.fresh
          clear hw6 z0 z1 KK
          obtain ⟨kq, hkq⟩ : ∃ k, w5.heap.size = k := ⟨_, rfl⟩
          rw [hkq] at hk hlt ⊢
          have KK := Lib.hid hk
          clear hk
          go_wp2_with fail
          go_loopw [8] (fun i wr => ∃ k : Nat, k ≤ 65 ∧ i = .int .i64 ((k : Int) - 1) ∧ Kn g w [(kq, wdO (wd (qAt M k))), (ks, wdO W), (g, agO a)] wr) (fun i _ => (intOf i + 1).toNat)
          case atStart => exact ⟨65, by omega, rfl, KK.out⟩
          case round =>
            obtain ⟨k, hk65, rfl, hk⟩ := hrel
            clear KK
            by_cases hlt0 : k = 0
            · subst hlt0
              have t1 : decide ((0 : Int) ≤ ((0 : Nat) : Int) - 1) = false := rfl
              have hq := q_le M hM 0 (by omega)
              rw [qAt_zero] at hq hk
              generalize hc : capM M = c at *
              have HA := fun wx => radd_any (wd c) ⟨0, 1⟩ wx (wd_ok _) (lo_ok ⟨by omega, by omega⟩)
              rw [v_wd c (by omega) (by omega), show (⟨0, 1⟩ : Wd).v = 1 from rfl] at HA
              have HT := fun wx => rtimes_any (wd (c + 1)) a.cnt wx (wd_ok _) (by omega)
              rw [v_wd (c + 1) (by omega) (by omega)] at HT
              have hx0 : 0 ≤ (c + 1) * a.cnt := Int.mul_nonneg (by omega) hn0
              have hx1 : (c + 1) * a.cnt ≤ 36893488147419103232 * 2147483648 := Int.mul_le_mul (by omega) hn2 hn0 (by omega)
              have HC := fun wx => rcmp_any (wd ((c + 1) * a.cnt)) W wx (wd_ok _) HWok
              have hle : Hid (cmpW (wd ((c + 1) * a.cnt)) W ≤ 0 ↔ c + 1 ≤ M) := by
                show _ ↔ _
                rw [hMF.out]
                unfold cmpW
                rw [v_wd _ (by omega) (by omega)]
                split
                · omega
                · split <;> omega
              have hu : IntKind.u32.wrap a.cnt = a.cnt := by rw [IntKind.wrap_u32]; omega
              have HN := fun wx => rneg_any (wd c) wx (wd_ok _)
              rw [v_wd c (by omega) (by omega)] at HN
              have HS := fun wx => rsmall_any (wd c) wx (wd_ok _)
              have HS2 := fun wx => rsmall_any (wd (-c)) wx (wd_ok _)
              clear hx0 hx1
              have MC := Lib.hid MC.out
              generalize wd (c + 1) = T at *
              generalize wd ((c + 1) * a.cnt) = X at *
              generalize wd c = Q at *
              generalize wd (-c) = QN at *
              unfold Wd.val at HA HT HC HN HS HS2
              simp only at HA
              have KK := Lib.hid hk
              clear hk
              go_upto_region 22 with fail
              refine wp_region_held_drew (S := (fun wx => (wx.cell? ⟨kq, 0, none⟩ = some (.int .i64 Q.hi) ∧ wx.cell? ⟨kq, 1, none⟩ = some (.int .u64 Q.lo)) ∧ (wx.cell? ⟨ks, 0, none⟩ = some (.int .i64 W.hi) ∧ wx.cell? ⟨ks, 1, none⟩ = some (.int .u64 W.lo)) ∧ wx.cell? ⟨g, 0, none⟩ = some (.int .i64 a.cnt))) (by kernel_rfl) ?_ (fun hHeld => ?_)
              focus ((try dsimp only); (try (exact held_m' KK.out rfl)); done)
              (refine wpAnyH_take (i := 0) (oi := { dst := some 59, op := Go.Op.load 24 (Go.Operand.tmp 7), type := 24, pos := "ref.go:184", after := #[], guard := none }) (v := ?_) rfl (by kernel_rfl) (by kernel_rfl) (by kernel_rfl) (fun _ _ _ h => h) (Or.inl ⟨by rfl, ?_⟩) (by assumption) ?_; rotate_left; (focus (intro w hSw; ((try dsimp only at hSw); go_simp; try with_reducible rfl))); (try simp only [Act.put, List.setIfInBounds_toArray, List.set_cons_zero, List.set_cons_succ]))
              (refine wpAnyH_take (i := 1) (oi := { dst := some 60, op := Go.Op.build 24 #[(1, Go.Operand.const (Go.Value.int Go.IntKind.u64 1))], type := 24, pos := "ref.go:184", after := #[], guard := none }) (v := ?_) rfl (by kernel_rfl) (by kernel_rfl) (by kernel_rfl) (fun _ _ _ h => h) (Or.inl ⟨by rfl, ?_⟩) (by assumption) ?_; rotate_left; (focus (intro w hSw; ((try dsimp only at hSw); go_simp; try with_reducible rfl))); (try simp only [Act.put, List.setIfInBounds_toArray, List.set_cons_zero, List.set_cons_succ]))
              (refine wpAnyH_take (i := 3) (oi := { dst := some 62, op := Go.Op.fieldAddr 29 (Go.Operand.tmp 1) 0, type := 0, pos := "ref.go:184", after := #[], guard := none }) (v := ?_) rfl (by kernel_rfl) (by kernel_rfl) (by kernel_rfl) (fun _ _ _ h => h) (Or.inl ⟨by rfl, ?_⟩) (by assumption) ?_; rotate_left; (focus (intro w hSw; ((try dsimp only at hSw); go_simp; try with_reducible rfl))); (try simp only [Act.put, List.setIfInBounds_toArray, List.set_cons_zero, List.set_cons_succ]))
              (refine wpAnyH_take (i := 4) (oi := { dst := some 63, op := Go.Op.load 3 (Go.Operand.tmp 62), type := 3, pos := "ref.go:184", after := #[{ on := 3, ground := Go.Ground.data }], guard := none }) (v := ?_) rfl (by kernel_rfl) (by kernel_rfl) (by kernel_rfl) (fun _ _ _ h => h) (Or.inl ⟨by rfl, ?_⟩) (by assumption) ?_; rotate_left; (focus (intro w hSw; ((try dsimp only at hSw); go_simp; try with_reducible rfl))); (try simp only [Act.put, List.setIfInBounds_toArray, List.set_cons_zero, List.set_cons_succ]))
              (refine wpAnyH_take (i := 5) (oi := { dst := some 64, op := Go.Op.convert 3 65 (Go.Operand.tmp 63), type := 65, pos := "ref.go:184", after := #[{ on := 4, ground := Go.Ground.data }], guard := none }) (v := ?_) rfl (by kernel_rfl) (by kernel_rfl) (by kernel_rfl) (fun _ _ _ h => h) (Or.inl ⟨by rfl, ?_⟩) (by assumption) ?_; rotate_left; (focus (intro w hSw; ((try dsimp only at hSw); go_simp; try with_reducible rfl))); (try simp only [Act.put, List.setIfInBounds_toArray, List.set_cons_zero, List.set_cons_succ]))
              (refine wpAnyH_take (i := 7) (oi := { dst := some 66, op := Go.Op.load 24 (Go.Operand.tmp 5), type := 24, pos := "ref.go:184", after := #[], guard := none }) (v := ?_) rfl (by kernel_rfl) (by kernel_rfl) (by kernel_rfl) (fun _ _ _ h => h) (Or.inl ⟨by rfl, ?_⟩) (by assumption) ?_; rotate_left; (focus (intro w hSw; ((try dsimp only at hSw); go_simp; try with_reducible rfl))); (try simp only [Act.put, List.setIfInBounds_toArray, List.set_cons_zero, List.set_cons_succ]))
              (refine wpAnyH_ready (rs := [2]) (by kernel_rfl) (by simp) ?_; refine AllReadyH.cons (o := { dst := some 61, op := Go.Op.call { callee := Go.Callee.value (Go.Operand.func 36), args := #[Go.Operand.tmp 59, Go.Operand.tmp 60], argTypes := #[24, 24] }, type := 24, pos := "ref.go:184", after := #[{ on := 0, ground := Go.Ground.data }, { on := 1, ground := Go.Ground.data }], guard := none }) rfl (fun K hK => ?_) AllReadyH.nil; go_simp; ((first | (go_at_call 36; refine (HA _).mono ?_; rintro e wn ⟨rfl, dn⟩; have KK := Lib.hid (Kn.later KK.out dn rfl rfl rfl rfl)) | (go_at_call 43; refine (HT _).mono ?_; rintro e wn ⟨rfl, dn⟩; have KK := Lib.hid (Kn.later KK.out dn rfl rfl rfl rfl)) | (go_at_call 41; refine (HC _).mono ?_; rintro e wn ⟨rfl, dn⟩; have KK := Lib.hid (Kn.later KK.out dn rfl rfl rfl rfl)))); go_wp2_with fail; refine hK.out _ _ ?_ (fun hHeld => ?_); (focus ((try dsimp only); (try (exact held_m' KK.out rfl)); done)); clear hK; (try simp only [Act.put, List.setIfInBounds_toArray, List.set_cons_zero, List.set_cons_succ]))
              (refine wpAnyH_ready (rs := [6]) (by kernel_rfl) (by simp) ?_; refine AllReadyH.cons (o := { dst := some 65, op := Go.Op.call { callee := Go.Callee.value (Go.Operand.func 43), args := #[Go.Operand.tmp 61, Go.Operand.tmp 64], argTypes := #[24, 65] }, type := 24, pos := "ref.go:184", after := #[{ on := 2, ground := Go.Ground.data }, { on := 5, ground := Go.Ground.data }, { on := 2, ground := Go.Ground.chain }], guard := none }) rfl (fun K hK => ?_) AllReadyH.nil; go_simp; ((first | (go_at_call 36; refine (HA _).mono ?_; rintro e wn ⟨rfl, dn⟩; have KK := Lib.hid (Kn.later KK.out dn rfl rfl rfl rfl)) | (go_at_call 43; refine (HT _).mono ?_; rintro e wn ⟨rfl, dn⟩; have KK := Lib.hid (Kn.later KK.out dn rfl rfl rfl rfl)) | (go_at_call 41; refine (HC _).mono ?_; rintro e wn ⟨rfl, dn⟩; have KK := Lib.hid (Kn.later KK.out dn rfl rfl rfl rfl)))); go_wp2_with fail; refine hK.out _ _ ?_ (fun hHeld => ?_); (focus ((try dsimp only); (try (exact held_m' KK.out rfl)); done)); clear hK; (try simp only [Act.put, List.setIfInBounds_toArray, List.set_cons_zero, List.set_cons_succ]))
              (refine wpAnyH_ready (rs := [8]) (by kernel_rfl) (by simp) ?_; refine AllReadyH.cons (o := { dst := some 67, op := Go.Op.call { callee := Go.Callee.value (Go.Operand.func 41), args := #[Go.Operand.tmp 65, Go.Operand.tmp 66], argTypes := #[24, 24] }, type := 3, pos := "ref.go:184", after := #[{ on := 6, ground := Go.Ground.data }, { on := 7, ground := Go.Ground.data }, { on := 6, ground := Go.Ground.chain }], guard := none }) rfl (fun K hK => ?_) AllReadyH.nil; go_simp; ((first | (go_at_call 36; refine (HA _).mono ?_; rintro e wn ⟨rfl, dn⟩; have KK := Lib.hid (Kn.later KK.out dn rfl rfl rfl rfl)) | (go_at_call 43; refine (HT _).mono ?_; rintro e wn ⟨rfl, dn⟩; have KK := Lib.hid (Kn.later KK.out dn rfl rfl rfl rfl)) | (go_at_call 41; refine (HC _).mono ?_; rintro e wn ⟨rfl, dn⟩; have KK := Lib.hid (Kn.later KK.out dn rfl rfl rfl rfl)))); go_wp2_with fail; refine hK.out _ _ ?_ (fun hHeld => ?_); (focus ((try dsimp only); (try (exact held_m' KK.out rfl)); done)); clear hK; (try simp only [Act.put, List.setIfInBounds_toArray, List.set_cons_zero, List.set_cons_succ]))
              (refine wpAnyH_take (i := 9) (oi := { dst := some 68, op := Go.Op.binOp Go.BinOp.leq 3 (Go.Operand.tmp 67) (Go.Operand.const (Go.Value.int Go.IntKind.i64 0)) 3, type := 4, pos := "ref.go:184", after := #[{ on := 8, ground := Go.Ground.data }], guard := none }) (v := ?_) rfl (by kernel_rfl) (by kernel_rfl) (by kernel_rfl) (fun _ _ _ h => h) (Or.inl ⟨by rfl, ?_⟩) (by assumption) ?_; rotate_left; (focus (intro w hSw; ((try dsimp only at hSw); go_simp; try with_reducible rfl))); (try simp only [Act.put, List.setIfInBounds_toArray, List.set_cons_zero, List.set_cons_succ]))
              refine wpAnyH_done (by kernel_rfl) ?_ _
              by_cases hqc : c + 1 ≤ M
              · have t3 : decide (cmpW X W ≤ 0) = true := decide_eq_true (hle.out.2 hqc)
                have t4 : ¬ (0 < cmpW X W) := by have := hle.out.2 hqc; omega
                have t5 : decide (0 < cmpW X W) = false := decide_eq_false t4
                have HV := Lib.hid (HV.out.trans (MC.out.1 hqc))
                clear hqc hle MC
                go_wp2_with fail
                go_ret2
                exact ⟨by rw [HV.out]; rfl, by first | exact (Kn.same KK.out rfl rfl rfl rfl).b | (rw [hg]; exact (Kn.same KK.out rfl rfl rfl rfl).b)⟩
              · have t3 : decide (cmpW X W ≤ 0) = false := decide_eq_false (fun h => hqc (hle.out.1 h))
                have t4 : 0 < cmpW X W := by
                  by_cases h : cmpW X W ≤ 0
                  · exact absurd (hle.out.1 h) hqc
                  · omega
                have t5 : decide (0 < cmpW X W) = true := decide_eq_true t4
                have MV := MC.out.2 (by omega)
                clear hqc hle MC
                have q0 := KK.out.cell (g := kq) (o := wdO Q) (by simp) (j := 0) rfl
                have q1 := KK.out.cell (g := kq) (o := wdO Q) (by simp) (j := 1) rfl
                cases B
                · rw [if_neg (by have := HBB.out; simpa using this)] at MV
                  have HV := Lib.hid (HV.out.trans MV)
                  clear MV HBB
                  go_wp2_with (first | (go_at_call 44; refine (HS _).mono ?_; rintro e wn ⟨rfl, dn⟩; have KK := Lib.hid (Kn.later KK.out dn rfl rfl rfl rfl)))
                  go_ret2
                  exact ⟨by rw [HV.out]; rfl, by first | exact (Kn.same KK.out rfl rfl rfl rfl).b | (rw [hg]; exact (Kn.same KK.out rfl rfl rfl rfl).b)⟩
                · rw [if_pos (by have := HBB.out; simpa using this)] at MV
                  have HV := Lib.hid (HV.out.trans MV)
                  clear MV HBB
                  go_wp2_with fail
                  refine (HN _).mono ?_
                  rintro e wx ⟨rfl, dx⟩
                  have KK := Lib.hid (Kn.later KK.out dx rfl rfl rfl rfl)
                  clear dx q0 q1
                  obtain ⟨f0, f1, y0, y1⟩ := KK.out.wd0
                  go_upto_region 26 with fail
                  have hk := Kn.setWd KK.out (by simp only [Apart, and_true]; omega) (by omega) QN
                  generalize (World.setCell _ _ _ : World) = wA at hk ⊢
                  have KK := Lib.hid hk
                  clear hk f0 f1 y0 y1
                  obtain ⟨f0, f1, y0, y1⟩ := KK.out.wd0
                  go_wp2_with (first | (go_at_call 44; refine (HS2 _).mono ?_; rintro e wn ⟨rfl, dn⟩; have KK := Lib.hid (Kn.later KK.out dn rfl rfl rfl rfl)))
                  go_ret2
                  exact ⟨by rw [HV.out]; rfl, by first | exact (Kn.same KK.out rfl rfl rfl rfl).b | (rw [hg]; exact (Kn.same KK.out rfl rfl rfl rfl).b)⟩
            · obtain ⟨j, rfl⟩ : ∃ j, k = j + 1 := ⟨k - 1, by omega⟩
              rw [show ((j + 1 : Nat) : Int) - 1 = (j : Int) by omega]
              have ST := q_step M hM j (by omega)
              generalize qAt M (j + 1) = q at *
              have t1 : (0 : Int) ≤ (j : Int) := by omega
              have hj64 : j ≤ 64 := by omega
              go_upto_region 16 with fail
              generalize hw8 : World.alloc _ _ = w8
              have hk2 : Kn g w [(wr.heap.size, wdO (wd (2 ^ 0))), (kq, wdO (wd q)), (ks, wdO W), (g, agO a)] w8 := by
                rw [← hw8]
                exact hk.new (wdO ⟨0, 1⟩)
              have hlt2 : kq < wr.heap.size := hk.fresh
              clear hw8 hk
              obtain ⟨kt, hkt⟩ : ∃ k, wr.heap.size = k := ⟨_, rfl⟩
              rw [hkt] at hk2 hlt2 ⊢
              have KK := Lib.hid hk2
              clear hk2
              go_loopw [10] (fun i wi => ∃ m : Nat, m ≤ j ∧ i = .int .i64 (m : Int) ∧ Kn g w [(kt, wdO (wd (2 ^ m))), (kq, wdO (wd q)), (ks, wdO W), (g, agO a)] wi) (fun i _ => j - (intOf i).toNat)
              case atStart => exact ⟨0, by omega, rfl, KK.out⟩
              case round =>
                obtain ⟨m, hmj, rfl, hk⟩ := hrel
                clear KK
                by_cases hlt : m < j
                · have t2 : decide ((m : Int) < (j : Int)) = true := decide_eq_true (by omega)
                  have b1 := two_pos m
                  have b2 := two_le (j := m) (by omega)
                  have HA := fun wx => radd_any (wd (2 ^ m)) (wd (2 ^ m)) wx (wd_ok _) (wd_ok _)
                  have hv := v_wd (2 ^ m) (by omega) (by omega)
                  rw [hv, show (2 : Int) ^ m + 2 ^ m = 2 ^ (m + 1) by rw [Int.pow_succ]; omega] at HA
                  clear hv b1 b2
                  generalize hC : wd (2 ^ m) = C at *
                  generalize hD : wd (2 ^ (m + 1)) = D at *
                  unfold Wd.val at HA
                  obtain ⟨f0, f1, y0, y1⟩ := hk.wd0
                  have KK := Lib.hid hk
                  clear hk hC
                  go_wp2_with fail
                  refine (HA _).mono ?_
                  rintro e w9 ⟨rfl, d9⟩
                  have KK := Lib.hid (KK.out.below d9)
                  clear d9 HA f0 f1 y0 y1
                  obtain ⟨f0, f1, y0, y1⟩ := KK.out.wd0
                  go_wp2_with fail
                  go_roundw
                  case rel => exact ⟨m + 1, by omega, by go_num, by rw [hD]; exact Kn.setWd KK.out (by simp only [Apart, and_true]; omega) (by omega) D⟩
                  case measure => simp [intOf]; omega
                · obtain rfl : m = j := by omega
                  have t2 : decide ((m : Int) < (m : Int)) = false := decide_eq_false (by omega)
                  have b1 := two_pos m
                  have b2 := two_le hj64
                  generalize (2 : Int) ^ m = c at *
                  have HA := fun wx => radd_any (wd q) (wd c) wx (wd_ok _) (wd_ok _)
                  rw [v_wd q (by omega) (by omega), v_wd c (by omega) (by omega)] at HA
                  have HT := fun wx => rtimes_any (wd (q + c)) a.cnt wx (wd_ok _) (by omega)
                  rw [v_wd (q + c) (by omega) (by omega)] at HT
                  have hx0 : 0 ≤ (q + c) * a.cnt := Int.mul_nonneg (by omega) hn0
                  have hx1 : (q + c) * a.cnt ≤ 36893488147419103231 * 2147483648 := Int.mul_le_mul (by omega) hn2 hn0 (by omega)
                  have HC := fun wx => rcmp_any (wd ((q + c) * a.cnt)) W wx (wd_ok _) HWok
                  have hle : cmpW (wd ((q + c) * a.cnt)) W ≤ 0 ↔ q + c ≤ M := by
                    rw [hMF.out]
                    unfold cmpW
                    rw [v_wd _ (by omega) (by omega)]
                    split
                    · omega
                    · split <;> omega
                  have hu : IntKind.u32.wrap a.cnt = a.cnt := by rw [IntKind.wrap_u32]; omega
                  obtain ⟨f0, f1, y0, y1⟩ := hk.wd0
                  have q0 := hk.cell (g := kq) (o := wdO (wd q)) (by simp) (j := 0) rfl
                  have q1 := hk.cell (g := kq) (o := wdO (wd q)) (by simp) (j := 1) rfl
                  have KK := Lib.hid hk
                  clear hk hx0 hx1
                  generalize hT : wd (q + c) = T at *
                  generalize wd ((q + c) * a.cnt) = X at *
                  generalize hQ : wd q = Q at *
                  generalize wd c = C at *
                  unfold Wd.val at HA HT HC
                  go_wp2_with fail
                  refine (HA _).mono ?_
                  rintro e w9 ⟨rfl, d9⟩
                  have KK := Lib.hid (KK.out.below d9)
                  clear d9 HA f0 f1 y0 y1 q0 q1
                  obtain ⟨f0, f1, y0, y1⟩ := KK.out.wd0
                  go_upto_region 20 with fail
                  have KK := Lib.hid (Kn.setWd KK.out (by simp only [Apart, and_true]; omega) (by omega) T)
                  generalize (World.setCell _ _ _ : World) = wA at KK ⊢
                  clear f0 f1 y0 y1
                  refine wp_region_held_drew (S := (fun wx => (wx.cell? ⟨kt, 0, none⟩ = some (.int .i64 T.hi) ∧ wx.cell? ⟨kt, 1, none⟩ = some (.int .u64 T.lo)) ∧ (wx.cell? ⟨ks, 0, none⟩ = some (.int .i64 W.hi) ∧ wx.cell? ⟨ks, 1, none⟩ = some (.int .u64 W.lo)) ∧ wx.cell? ⟨g, 0, none⟩ = some (.int .i64 a.cnt))) (by kernel_rfl) ?_ (fun hHeld => ?_)
                  focus ((try dsimp only); (try (exact held_m KK.out rfl)); done)
                  (refine wpAnyH_take (i := 0) (oi := { dst := some 50, op := Go.Op.load 24 (Go.Operand.tmp 9), type := 24, pos := "ref.go:180", after := #[], guard := none }) (v := ?_) rfl (by kernel_rfl) (by kernel_rfl) (by kernel_rfl) (fun _ _ _ h => h) (Or.inl ⟨by rfl, ?_⟩) (by assumption) ?_; rotate_left; (focus (intro w hSw; ((try dsimp only at hSw); go_simp; try with_reducible rfl))); (try simp only [Act.put, List.setIfInBounds_toArray, List.set_cons_zero, List.set_cons_succ]))
                  (refine wpAnyH_take (i := 1) (oi := { dst := some 51, op := Go.Op.fieldAddr 29 (Go.Operand.tmp 1) 0, type := 0, pos := "ref.go:180", after := #[], guard := none }) (v := ?_) rfl (by kernel_rfl) (by kernel_rfl) (by kernel_rfl) (fun _ _ _ h => h) (Or.inl ⟨by rfl, ?_⟩) (by assumption) ?_; rotate_left; (focus (intro w hSw; ((try dsimp only at hSw); go_simp; try with_reducible rfl))); (try simp only [Act.put, List.setIfInBounds_toArray, List.set_cons_zero, List.set_cons_succ]))
                  (refine wpAnyH_take (i := 2) (oi := { dst := some 52, op := Go.Op.load 3 (Go.Operand.tmp 51), type := 3, pos := "ref.go:180", after := #[{ on := 1, ground := Go.Ground.data }], guard := none }) (v := ?_) rfl (by kernel_rfl) (by kernel_rfl) (by kernel_rfl) (fun _ _ _ h => h) (Or.inl ⟨by rfl, ?_⟩) (by assumption) ?_; rotate_left; (focus (intro w hSw; ((try dsimp only at hSw); go_simp; try with_reducible rfl))); (try simp only [Act.put, List.setIfInBounds_toArray, List.set_cons_zero, List.set_cons_succ]))
                  (refine wpAnyH_take (i := 3) (oi := { dst := some 53, op := Go.Op.convert 3 65 (Go.Operand.tmp 52), type := 65, pos := "ref.go:180", after := #[{ on := 2, ground := Go.Ground.data }], guard := none }) (v := ?_) rfl (by kernel_rfl) (by kernel_rfl) (by kernel_rfl) (fun _ _ _ h => h) (Or.inl ⟨by rfl, ?_⟩) (by assumption) ?_; rotate_left; (focus (intro w hSw; ((try dsimp only at hSw); go_simp; try with_reducible rfl))); (try simp only [Act.put, List.setIfInBounds_toArray, List.set_cons_zero, List.set_cons_succ]))
                  (refine wpAnyH_take (i := 5) (oi := { dst := some 55, op := Go.Op.load 24 (Go.Operand.tmp 5), type := 24, pos := "ref.go:180", after := #[], guard := none }) (v := ?_) rfl (by kernel_rfl) (by kernel_rfl) (by kernel_rfl) (fun _ _ _ h => h) (Or.inl ⟨by rfl, ?_⟩) (by assumption) ?_; rotate_left; (focus (intro w hSw; ((try dsimp only at hSw); go_simp; try with_reducible rfl))); (try simp only [Act.put, List.setIfInBounds_toArray, List.set_cons_zero, List.set_cons_succ]))
                  (refine wpAnyH_ready (rs := [4]) (by kernel_rfl) (by simp) ?_; refine AllReadyH.cons (o := { dst := some 54, op := Go.Op.call { callee := Go.Callee.value (Go.Operand.func 43), args := #[Go.Operand.tmp 50, Go.Operand.tmp 53], argTypes := #[24, 65] }, type := 24, pos := "ref.go:180", after := #[{ on := 0, ground := Go.Ground.data }, { on := 3, ground := Go.Ground.data }], guard := none }) rfl (fun K hK => ?_) AllReadyH.nil; go_simp; ((first | (go_at_call 43; refine (HT _).mono ?_; rintro e wn ⟨rfl, dn⟩; have KK := Lib.hid (Kn.later KK.out dn rfl rfl rfl rfl)) | (go_at_call 41; refine (HC _).mono ?_; rintro e wn ⟨rfl, dn⟩; have KK := Lib.hid (Kn.later KK.out dn rfl rfl rfl rfl)))); go_wp2_with fail; refine hK.out _ _ ?_ (fun hHeld => ?_); (focus ((try dsimp only); (try (exact held_m KK.out rfl)); done)); clear hK; (try simp only [Act.put, List.setIfInBounds_toArray, List.set_cons_zero, List.set_cons_succ]))
                  (refine wpAnyH_ready (rs := [6]) (by kernel_rfl) (by simp) ?_; refine AllReadyH.cons (o := { dst := some 56, op := Go.Op.call { callee := Go.Callee.value (Go.Operand.func 41), args := #[Go.Operand.tmp 54, Go.Operand.tmp 55], argTypes := #[24, 24] }, type := 3, pos := "ref.go:180", after := #[{ on := 4, ground := Go.Ground.data }, { on := 5, ground := Go.Ground.data }, { on := 4, ground := Go.Ground.chain }], guard := none }) rfl (fun K hK => ?_) AllReadyH.nil; go_simp; ((first | (go_at_call 43; refine (HT _).mono ?_; rintro e wn ⟨rfl, dn⟩; have KK := Lib.hid (Kn.later KK.out dn rfl rfl rfl rfl)) | (go_at_call 41; refine (HC _).mono ?_; rintro e wn ⟨rfl, dn⟩; have KK := Lib.hid (Kn.later KK.out dn rfl rfl rfl rfl)))); go_wp2_with fail; refine hK.out _ _ ?_ (fun hHeld => ?_); (focus ((try dsimp only); (try (exact held_m KK.out rfl)); done)); clear hK; (try simp only [Act.put, List.setIfInBounds_toArray, List.set_cons_zero, List.set_cons_succ]))
                  (refine wpAnyH_take (i := 7) (oi := { dst := some 57, op := Go.Op.binOp Go.BinOp.leq 3 (Go.Operand.tmp 56) (Go.Operand.const (Go.Value.int Go.IntKind.i64 0)) 3, type := 4, pos := "ref.go:180", after := #[{ on := 6, ground := Go.Ground.data }], guard := none }) (v := ?_) rfl (by kernel_rfl) (by kernel_rfl) (by kernel_rfl) (fun _ _ _ h => h) (Or.inl ⟨by rfl, ?_⟩) (by assumption) ?_; rotate_left; (focus (intro w hSw; ((try dsimp only at hSw); go_simp; try with_reducible rfl))); (try simp only [Act.put, List.setIfInBounds_toArray, List.set_cons_zero, List.set_cons_succ]))
                  refine wpAnyH_done (by kernel_rfl) ?_ _
                  by_cases hqc : q + c ≤ M
                  · have t3 : decide (cmpW X W ≤ 0) = true := decide_eq_true (hle.2 hqc)
                    have hQ2 := ST.2.2.1 hqc
                    have KK := Lib.hid (KK.out.sub (m := [(kq, wdO Q), (kt, wdO T), (ks, wdO W), (g, agO a)]) (by simp))
                    obtain ⟨f0, f1, y0, y1⟩ := KK.out.wd0
                    have e0 := KK.out.cell (g := kt) (o := wdO T) (by simp) (j := 0) rfl
                    have e1 := KK.out.cell (g := kt) (o := wdO T) (by simp) (j := 1) rfl
                    clear hqc hle
                    go_wp2_with fail
                    go_roundw
                    case rel => exact ⟨m, by omega, by go_num, by rw [hQ2, hT]; exact Kn.sub (Kn.same (Kn.setWd KK.out (by simp only [Apart, and_true]; omega) (by omega) T) rfl rfl rfl rfl) (by simp)⟩
                    case measure => simp [intOf]
                  · have t3 : decide (cmpW X W ≤ 0) = false := decide_eq_false (fun h => hqc (hle.1 h))
                    have hQ2 := ST.2.2.2 (by omega)
                    clear hqc hle
                    go_wp2_with fail
                    go_roundw
                    case rel => exact ⟨m, by omega, by go_num, by rw [hQ2, hQ]; exact Kn.same (KK.out.sub (by simp)) rfl rfl rfl rfl⟩
                    case measure => simp [intOf]
end Go.Proofs.Ytojnooagifhekaa
