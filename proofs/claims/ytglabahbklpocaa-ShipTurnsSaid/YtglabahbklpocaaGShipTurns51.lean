/- ShipTurns: for any sites, any me and any pair, the law answers true. -/
import Derived.Test.YtglabahbklpocaaGShipTurns48
import Derived.Test.YtglabahbklpocaaGShipTurns49
import Derived.Test.YtglabahbklpocaaGShipTurns50
import Derived.Test.YtglabahbklpocaaGShipTurns24
import Derived.Deep.CutBlock
namespace Go.Proofs.Ytglabahbklpocaa
section
open Go.RowKit Go.Deep
set_option maxRecDepth 100000
set_option linter.unusedVariables false
set_option linter.unusedSimpArgs false
attribute [local go_sem ↓] Go.wp_at_zero Go.wp_at_succ
theorem and7h (x : Int) (h : i64' x) : bits .and .i64 x 7 = x % 8 := by
  unfold i64' at h
  have e1 : (BitVec.ofInt 64 x).toNat % 8 = (x % 8).toNat := by
    rw [BitVec.toNat_ofInt]
    omega
  show IntKind.i64.wrap ((BitVec.ofInt 64 x &&& BitVec.ofInt 64 7).toNat : Int) = _
  rw [BitVec.toNat_and, show (BitVec.ofInt 64 7).toNat = 2 ^ 3 - 1 from by decide, Nat.and_two_pow_sub_one_eq_mod, show 2 ^ 3 = 8 from rfl, e1, IntKind.wrap_i64]
  omega
theorem and31h (x : Int) (h : i64' x) : bits .and .i64 x 31 = x % 32 := by
  unfold i64' at h
  have e1 : (BitVec.ofInt 64 x).toNat % 32 = (x % 32).toNat := by
    rw [BitVec.toNat_ofInt]
    omega
  show IntKind.i64.wrap ((BitVec.ofInt 64 x &&& BitVec.ofInt 64 31).toNat : Int) = _
  rw [BitVec.toNat_and, show (BitVec.ofInt 64 31).toNat = 2 ^ 5 - 1 from by decide, Nat.and_two_pow_sub_one_eq_mod, show 2 ^ 5 = 32 from rfl, e1, IntKind.wrap_i64]
  omega
def pairO (a b : Int) : Obj := .cells #[.int .i64 a, .int .i64 b] 22 (0, 0)
/-- The peers with their fixed numbers, ahead of tick t. -/
structure TuI (w0 : World) (g : Nat) (me n e t : Int) (m : PeM) (w : World) : Prop where
  p : PeI w0 g m w
  me : m.me = me
  st : m.sites = n
  ev : m.every = e
set_option maxHeartbeats 16000000 in
theorem turns_any (sites me q0 q1 : Int) (w : World) (hs : i64' sites) (hm : i64' me) (h0 : i64' q0) (h1 : i64' q1) :
    Calls Try.prog 3 #[.int .i64 sites, .int .i64 me, .agg #[.int .i64 q0, .int .i64 q1]] w fun e w' => e = .returned (.bool true) ∧ Below w.heap.size w w' := by
  have e1 := and7h sites hs
  have e2 := and7h q0 h0
  have e3 := and31h q1 h1
  have r1 : 0 ≤ sites % 8 ∧ sites % 8 ≤ 7 := by omega
  have r2 : 0 ≤ (q0 % 8).tmod 6 ∧ (q0 % 8).tmod 6 ≤ 5 := by
    rw [Int.tmod_eq_emod_of_nonneg (by omega)]
    omega
  have r3 : 0 ≤ q1 % 32 ∧ q1 % 32 ≤ 31 := by omega
  have HM := Lib.hid hm
  clear h0 h1 hs hm
  go_enter Try.func3, Try.ntmps3
  go_upto_region 1 with fail
  have KK := Lib.hid (show Kn w.heap.size w [(w.heap.size, pairO q0 q1)] (w.alloc (.cells #[.int .i64 q0, .int .i64 q1] 22)) from (Kn.start w).new (pairO q0 q1))
  obtain ⟨p, hp⟩ : ∃ p, w.heap.size = p := ⟨_, rfl⟩
  rw [hp] at KK ⊢
  generalize w.alloc (.cells #[.int .i64 q0, .int .i64 q1] 22) = wa at *
  go_upto_region 2 with (go_at_call 8; refine (hawake_any _).mono ?_; rintro e w1 ⟨rfl, dn⟩; have KK := Lib.hid (KK.out.below dn); clear dn)
  have c0 := KK.out.cell (g := p) (o := pairO q0 q1) (by simp) (j := 0) (v := .int .i64 q0) rfl
  have c1 := KK.out.cell (g := p) (o := pairO q0 q1) (by simp) (j := 1) (v := .int .i64 q1) rfl
  obtain ⟨A, hA⟩ : ∃ A, sites % 8 = A := ⟨_, rfl⟩
  obtain ⟨B, hB⟩ : ∃ B, (q0 % 8).tmod 6 = B := ⟨_, rfl⟩
  obtain ⟨C, hC⟩ : ∃ C, q1 % 32 = C := ⟨_, rfl⟩
  rw [hA] at r1 e1
  rw [hB] at r2
  rw [hC] at r3 e3
  clear hA hC
  go_upto_region 5 with (go_at_call 9; refine (pnew_any [] _ _ _ _ HM.out ⟨by omega, by omega⟩ ⟨by omega, by omega⟩).mono ?_; rintro e w3 ⟨rfl, hq, d3⟩; have hg := KK.out.lt (p, pairO q0 q1) (by simp); have TU := Lib.hid (show TuI w w1.heap.size me (1 + A) (1 + B) 1 (newP me (1 + A) (1 + B)) w3 ∧ StT (newP me (1 + A) (1 + B)) 1 from ⟨⟨⟨hq, below_then (by rw [hp]; exact KK.out.b) (by omega) d3⟩, rfl, by show min (max (1 + A) 1) 8 = _; omega, by show max (1 + B) 1 = _; omega⟩, turn_first _ _ _⟩); have KK := Lib.hid (KK.out.below d3); clear hq d3)
  have hgw : w.heap.size ≤ w1.heap.size := by omega
  generalize w1.heap.size = g at *
  clear c0 c1
  have c1 := KK.out.cell (g := p) (o := pairO q0 q1) (by simp) (j := 1) (v := .int .i64 q1) rfl
  go_upto_region 8 with fail
  clear c1 KK
  obtain ⟨m0, hm0⟩ : ∃ m, newP me (1 + A) (1 + B) = m := ⟨_, rfl⟩
  rw [hm0] at TU
  clear hm0
  go_wp2_with fail
  go_loopw [12, 13, 14, 15] (fun t _ _ _ wr => ∃ (k : Nat) (m : PeM), 1 ≤ k ∧ (k : Int) ≤ C + 1 ∧ t = .int .i64 k ∧ TuI w g me (1 + A) (1 + B) k m wr ∧ StT m k) (fun t _ _ _ _ => 40 - (intOf t).toNat)
  case atStart => exact ⟨1, m0, by omega, by omega, rfl, TU.out.1, TU.out.2⟩
  case round =>
    obtain ⟨k, m, hk1, hkC, rfl, hT, hS⟩ := hrel
    have TI := Lib.hid hT
    have ST := Lib.hid hS
    have hde := due_turn hS ⟨by omega, by omega⟩ (by rw [hT.ev]; omega)
    rw [hT.ev] at hde
    have hol := oth_len m (by rw [hT.st]; omega)
    rw [hT.me, hT.st] at hol
    have hdm0 := Lib.hid (fun x hx => thoseK_mem m (dueP m (clockP k)) 8 (Nat.le_refl _) x hx)
    clear hT hS TU
    by_cases hlt : (k : Int) ≤ C
    · have t1 : decide ((k : Int) ≤ C) = true := decide_eq_true hlt
      have w1 : wrap64 ((k : Int) - 1) = (k : Int) - 1 := IntWalk.wrap64_in _ ⟨by omega, by omega⟩
      have z1 : (1 + B == 0) = false := beq_eq_false_iff_ne.2 (by omega)
      have m1 : ((k : Int) - 1).tmod (1 + B) = ((k : Int) - 1) % (1 + B) := Int.tmod_eq_emod_of_nonneg (by omega)
      have hnx := turn_next ST.out ⟨by omega, by omega⟩ (by rw [TI.out.ev]; omega)
      obtain ⟨ds, hds⟩ : ∃ ds, dueM m k = ds := ⟨_, rfl⟩
      rw [hds] at hnx
      have NX := Lib.hid hnx
      clear hnx
      have hdm : Hid (∀ x ∈ ds, ∃ i : Nat, x = (i : Int) ∧ i < 8 ∧ isO m (i : Int) = true) := by
        intro x hx
        rw [← hds] at hx
        obtain ⟨i, h1, h2, h3, _⟩ := hdm0.out x hx
        exact ⟨i, h1, h2, h3⟩
      have hwant : Hid ((ds.length : Int) = if ((k : Int) - 1) % (1 + B) = 0 then (if 0 ≤ me ∧ me < 1 + A then 1 + A - 1 else 1 + A) else 0) := by
        show (ds.length : Int) = _
        rw [← hds, hde]
        split
        · exact hol
        · rfl
      have hd8 : ds.length ≤ 8 := by rw [← hds]; exact thoseK_len _ _ _
      have DU := pdue_f [g] g m k wr TI.out.p.p
      rw [hds] at DU
      go_upto_if 46 with (go_at_call 10; refine DU.mono ?_; rintro e w4 ⟨o, rfl, ⟨hs, hf⟩, dn⟩; have HO := Lib.hid hs; have HF := Lib.hid (show farA [g] o from hf.imp_right fun h p hp hq => by have h1 := h p hp; have h2 := TI.out.p.p.lt; simp only [List.mem_singleton] at hq; omega); have TI := Lib.hid (show TuI w g me (1 + A) (1 + B) k m w4 from ⟨TI.out.p.below dn, TI.out.me, TI.out.st, TI.out.ev⟩); clear hs hf dn)
      obtain ⟨oa, on, oc⟩ := o
      have hon : ds.length = on := HO.out.r.1
      clear e1 e2 e3 hde hol DU hdm0 w1 hds
      rw [m1] at *
      go_cut [14] (fun x wx => x = .int .i64 on ∧ w4 = wx)
      case first =>
        by_cases hz : ((k : Int) - 1) % (1 + B) = 0
        · have t2 : (((k : Int) - 1) % (1 + B) == 0) = true := beq_iff_eq.2 hz
          by_cases hm0 : 0 ≤ me
          · have t3 : decide (me ≥ 0) = true := decide_eq_true hm0
            by_cases hm1 : me < 1 + A
            · have t4 : decide (me < 1 + A) = true := decide_eq_true hm1
              have hw := hwant.out
              rw [if_pos hz, if_pos ⟨hm0, hm1⟩, hon] at hw
              have w2 : wrap64 (1 + A - 1) = 1 + A - 1 := IntWalk.wrap64_in _ ⟨by omega, by omega⟩
              have HW := Lib.hid hw
              clear hw hz hm0 hm1 hlt
              go_wp2_with fail
              go_meet
              exact ⟨by rw [HW.out], rfl⟩
            · have t4 : decide (me < 1 + A) = false := decide_eq_false hm1
              have hw := hwant.out
              rw [if_pos hz, if_neg (fun h => hm1 h.2), hon] at hw
              have HW := Lib.hid hw
              clear hw hz hm0 hm1 hlt
              go_wp2_with fail
              go_meet
              exact ⟨by rw [HW.out], rfl⟩
          · have t3 : decide (me ≥ 0) = false := decide_eq_false hm0
            have hw := hwant.out
            rw [if_pos hz, if_neg (fun h => hm0 h.1), hon] at hw
            have HW := Lib.hid hw
            clear hw hz hm0 hlt
            go_wp2_with fail
            go_meet
            exact ⟨by rw [HW.out], rfl⟩
        · have t2 : (((k : Int) - 1) % (1 + B) == 0) = false := beq_eq_false_iff_ne.2 hz
          have hw := hwant.out
          rw [if_neg hz, hon] at hw
          have HW := Lib.hid hw
          clear hw hz hlt
          go_wp2_with fail
          go_meet
          exact ⟨by rw [HW.out], rfl⟩
      case rest =>
        obtain ⟨rfl, rfl⟩ := hcut
        clear hwant z1
        go_wp2_with fail
        go_loopw [15] (fun j wr => ∃ i : Nat, i ≤ on ∧ j = .int .i64 i ∧ TuI w g me (1 + A) (1 + B) k (sentL m (ds.take i) k) wr ∧ SlR wr ⟨oa, on, oc⟩ ds) (fun j _ => on - (intOf j).toNat)
        case atStart => exact ⟨0, by omega, rfl, TI.out, HO.out⟩
        case round =>
          obtain ⟨i, hi, rfl, hT, hO⟩ := hrel
          have TI := Lib.hid hT
          have HO := Lib.hid hO
          clear hT hO
          by_cases hlt2 : i < on
          · have t4 : decide ((i : Int) < (on : Int)) = true := decide_eq_true (by omega)
            obtain ⟨b, q, rfl, _, hq⟩ := HO.out.r.at (Below.refl _ _) i hlt2
            have hxi : ds[i]? = some (ds.getD i 0) := by rw [List.getD_eq_getElem?_getD, List.getElem?_eq_getElem (by omega)]; rfl
            have hnx := sentL_next m ds k i _ hxi
            obtain ⟨c, hc1, hc2, hc3⟩ := hdm.out _ (List.mem_of_getElem? hxi)
            rw [hc1] at hq hnx
            have hfx := sentL_fix (ds.take i) m k
            have hc4 : isO (sentL m (ds.take i) k) (c : Int) = true := by rw [isO_congr hfx.1 hfx.2.1]; exact hc3
            have hne : (c : Int) ≠ me := by rw [← TI.out.me, hfx.1]; exact (isO_true hc3).2.2
            have t5 : ((c : Int) == me) = false := beq_eq_false_iff_ne.2 hne
            have hsf := sentM_fix (sentL m (ds.take i) k) (c : Int) k
            have SE := psent_any [g] g (sentL m (ds.take i) k) (c : Int) k wr TI.out.p.p (by simp)
            rw [show (sentM (sentL m (ds.take i) k) (c : Int) k).2 = true by unfold sentM; rw [if_pos hc4], ← hnx] at SE
            rw [← hnx] at hsf
            have FX := Lib.hid hsf
            have i1 : (0 : Int) ≤ (i : Int) := by omega
            have i2 : (i : Int) < (on : Int) := by omega
            clear hc1 hc2 hc3 hc4 hfx hsf hnx hxi hne
            go_wp2_with (go_at_call 11; refine SE.mono ?_; rintro e w5 ⟨rfl, hp, dn⟩; have FIN := Lib.hid (And.intro (show TuI w g me (1 + A) (1 + B) k (sentL m (ds.take (i + 1)) k) w5 from ⟨TI.out.p.but hp dn hgw, FX.out.1.trans TI.out.me, FX.out.2.1.trans TI.out.st, FX.out.2.2.trans TI.out.ev⟩) (HO.out.keep HF.out dn.size (fun i hi hn => dn.block i hi (by simpa using hn)))); clear hp dn)
            go_roundw
            case rel => exact ⟨i + 1, by omega, by go_num, FIN.out.1, FIN.out.2⟩
            case measure => simp [intOf]; omega
          · obtain rfl : i = on := by omega
            have t4 : decide ((i : Int) < (i : Int)) = false := decide_eq_false (by omega)
            have TI := Lib.hid (show TuI w g me (1 + A) (1 + B) k (sentL m ds k) wr by have h1 := TI.out; rw [List.take_of_length_le (by omega)] at h1; exact h1)
            go_wp2_with fail
            go_roundw
            case rel => exact ⟨k + 1, sentL m ds k, by omega, by omega, by go_num, ⟨TI.out.p, TI.out.me, TI.out.st, TI.out.ev⟩, NX.out⟩
            case measure => simp [intOf]; omega
    · have t1 : decide ((k : Int) ≤ C) = false := decide_eq_false hlt
      go_wp2_with fail
      go_ret
      exact ⟨rfl, by rw [← hp]; exact TI.out.p.b⟩
theorem turns_row (sites me : Int) (v : Value) (q : Int × Int) (w : World) (h1 : -9223372036854775808 ≤ sites) (h2 : sites ≤ 9223372036854775807) (h3 : -9223372036854775808 ≤ me) (h4 : me ≤ 9223372036854775807) (hv : IsPair w v q) :
    Calls Try.prog 3 #[.int .i64 sites, .int .i64 me, v] w fun e w' => e = .returned (.bool true) ∧ Below w.heap.size w w' := by
  obtain ⟨rfl, h5, h6⟩ := hv
  exact turns_any sites me q.1 q.2 w ⟨h1, h2⟩ ⟨h3, h4⟩ h5 h6
end
end Go.Proofs.Ytglabahbklpocaa
