/- The reference's Read of values. -/
import Derived.Test.YtojnooagifhekaaGAggParts48
import Derived.Test.YtojnooagifhekaaGAggParts49
import Derived.Test.YtojnooagifhekaaGAggParts29
namespace Go.Proofs.Ytojnooagifhekaa
section
open Go.RowKit
set_option maxRecDepth 100000
set_option linter.unusedVariables false
set_option linter.unusedSimpArgs false
attribute [local go_sem ↓] Go.wp_at_zero Go.wp_at_succ
theorem rtake_wfA {r : Rdr} (hr : r.ok) : (rtakeV r).1.wf' := by
  have := take_wfA hr
  rw [← (take_same r).1] at this
  exact this
theorem Kr.rdc1 {T : TypeId} {g : Nat} {w0 w wd : World} {l : List (Nat × Obj)} {R : Rdr} {P : Int} (h : Kr T g w0 l R w) (hP : R.pos = P) (e : wd.heap = w.heap) : wd.cell? ⟨g, 1, none⟩ = some (.int .i64 P) := by
  have h1 := h.rd
  unfold RdrAt at h1
  rw [← hP]
  simp only [World.cell?, e, h1]
  rfl
set_option maxHeartbeats 16000000 in
theorem arread_any (s : ByteArray) (w : World) (hs : s.size ≤ 1000000000) : Calls Try.prog 27 #[.string s] w fun e w' => e = .returned (.tuple #[(rreadA s).1.val, .int .i64 (rreadA s).2]) ∧ Below w.heap.size w w' := by
  obtain ⟨V, HV⟩ : ∃ V, Hid (V = rreadA s) := ⟨_, rfl⟩
  rw [← HV.out]
  have HS := Lib.hid hs
  have hok := r0_ok hs
  have hC := C0_ok hs
  have hsr : 0 ≤ (C0 s).1 ∧ (C0 s).1 ≤ 1099511627776 := small_rangeA hok (by decide)
  go_enter Try.func27, Try.ntmps27
  go_upto_region 2 with fail
  generalize hw1 : World.alloc _ _ = w2
  obtain ⟨p, hp⟩ : ∃ p, w.heap.size = p := ⟨_, rfl⟩
  have K0 := Lib.hid (show Kn w.heap.size w [(p + 1, rdO 77 (r0 s)), (p, agO Ag0)] w2 by rw [← hw1]; exact ((Kn.start w).new' hp (agO Ag0)).new' (n := p + 1) (by simp [hp]) (rdO 77 (r0 s)))
  clear hw1
  rw [hp]
  have KK := Lib.hid (show Kr 77 (p + 1) w [(p, agO Ag0)] (r0 s) w2 from ⟨K0.out.hd, fun q hq => by
    have hq' : q = (p, agO Ag0) := by simpa using hq
    subst hq'
    exact ⟨by simp, K0.out.at_ (p, agO Ag0) (by simp)⟩, But.of_below K0.out.b⟩)
  clear K0
  have CS := fun wx hx => rrdr_small (p + 1) (r0 s) 1099511627776 wx hx hok (by decide) (by decide)
  change ∀ wx hx, Calls _ _ _ _ fun e w' => e = .returned (.int .i64 (C0 s).1) ∧ RdrAt 77 w' (p + 1) (C0 s).2 ∧ But (p + 1) wx w' at CS
  obtain ⟨c, hc⟩ : ∃ c, (C0 s).1 = c := ⟨_, rfl⟩
  obtain ⟨R, hR⟩ : ∃ R, (C0 s).2 = R := ⟨_, rfl⟩
  have HC := Lib.hid hc
  have HR := Lib.hid hR
  rw [hc, hR] at CS
  rw [hc] at hsr
  rw [hR] at hC
  clear hc hR
  go_upto_region 3 with (first
    | (go_at_call 52; refine (CS _ KK.out.rd).mono ?_; rintro e w3 ⟨rfl, hn, dn⟩; have KK := Lib.hid (KK.out.step hn dn); clear hn dn)
    | (refine wpList_store_row rfl 29 _ _ rfl _ (cntA c).cs.toArray rfl rfl 29 _ (heap_alloc_new _ _) (by kernel_rfl) rfl (by simp [Value.oneCell', cntA, Ag.cs]) ?_; rw [World.setRow_alloc_new]))
  obtain ⟨q, hq⟩ : ∃ q, w3.heap.size = q := ⟨_, rfl⟩
  have K2 := KK.out.new' hq (agO (cntA c))
  have hgq : p + 1 < q := by have := KK.out.rd.lt; omega
  rw [hq]
  have KK := Lib.hid (show Kr 77 (p + 1) w [(q, agO (cntA c)), (p, agO Ag0)] R (w3.alloc (.cells (cntA c).cs.toArray 29 (0, 0))) from K2)
  clear K2 CS hq
  generalize w3.alloc (.cells (cntA c).cs.toArray 29 (0, 0)) = w4 at *
  have q0 := KK.out.cell (k := q) (o := agO (cntA c)) (by simp) (j := 0) (v := .int .i64 c) rfl
  by_cases hcp : c > 0
  · have t1 : decide (c > 0) = true := decide_eq_true hcp
    have hbad : R.bad = false := by rw [← HR.out]; exact C0_good (by rw [HC.out]; exact hcp)
    obtain ⟨hRk, hRs⟩ := hC
    have hp0 := hRk.2.1
    have hp1 := hRk.2.2
    rw [hRs] at hp1
    have hlf : R.left = (s.size : Int) - R.pos := by unfold Rdr.left; rw [hbad, hRs]; simp
    obtain ⟨L, hL⟩ : ∃ L, R.left = L := ⟨_, rfl⟩
    have HLf := Lib.hid hL
    have CL := fun wx hx => rrdr_left (p + 1) R wx hx hRk
    rw [hL] at hlf CL
    clear hL
    by_cases h16 : L < 16
    · have t2 : decide (L < 16) = true := decide_eq_true h16
      have HV := Lib.hid (HV.out.trans (show rreadA s = (Ag0, 10) by unfold rreadA; rw [if_pos (by rw [HC.out]; exact hcp), if_pos (by rw [HR.out, HLf.out]; exact h16)]))
      clear h16 hcp hbad hlf hp0 hp1
      go_wp2_with (first
        | (go_at_call 53; refine (CL _ KK.out.rd).mono ?_; rintro e w5 ⟨rfl, dq⟩; have KK := Lib.hid (KK.out.step (dq.rdr KK.out.rd) dq.but); clear dq)
        | (refine wpList_store_row rfl 29 _ _ rfl p Ag0.cs.toArray rfl rfl 29 _ (KK.out.at_ (p, agO Ag0) (by simp)).2 (by kernel_rfl) rfl (by simp [Value.oneCell', Ag0, Ag.cs]) ?_))
      have KF := Kr.setRow (KK.out.sub (m := [(p, agO Ag0)]) (by simp)) trivial (by omega) (agO Ag0)
      refine bodyPost_ret (v := .tuple #[Ag0.val, .int .i64 10]) (results_cell_tmpA rfl _ _ p 29 Ag0.cs.toArray (0, 0) _ _ rfl rfl KF.hd Try.underlying29 rfl (by kernel_rfl)) rfl ⟨by rw [HV.out], by first | exact KF.belowA (by omega) | (rw [hp]; exact KF.belowA (by omega))⟩
    · have t2 : decide (L < 16) = false := decide_eq_false h16
      have HV := Lib.hid (HV.out.trans (show rreadA s = finA (fillA c (sumS s) (ragR (rtlS s)).1) (ragR (rtlS s)).2 by unfold rreadA; rw [if_pos (by rw [HC.out]; exact hcp), if_neg (by rw [HR.out, HLf.out]; exact h16), HC.out]))
      have ok1 : (rtlS s).ok := rtlS_ok HS.out (by rw [HC.out]; exact hcp) (by rw [HR.out, HLf.out]; exact h16)
      have e2 : wrap64 (R.pos + 16) = R.pos + 16 := wrap64_in _ ⟨by omega, by omega⟩
      have b1 : R.pos + 16 ≤ (s.size : Int) := by omega
      have b2 : R.pos ≤ R.pos + 16 := by omega
      have b3 : 0 ≤ R.pos + 16 := by omega
      obtain ⟨P, hP⟩ : ∃ P, R.pos = P := ⟨_, rfl⟩
      have HP := Lib.hid hP
      rw [hP] at e2 b1 b2 b3 hp0 hp1
      clear hP hlf hbad
      go_upto_region 6 with (first
        | (go_at_call 53; refine (CL _ KK.out.rd).mono ?_; rintro e w5 ⟨rfl, dq⟩; have KK := Lib.hid (KK.out.step (dq.rdr KK.out.rd) dq.but); clear dq))
      clear CL t1 t2 q0
      have SUB : Hid (sumS s = (readW (s.extract P.toNat (P + 16).toNat)).1) := by show _ = _; unfold sumS; rw [HR.out, HP.out]
      have hsub : (s.extract P.toNat (P + 16).toNat).size ≤ 9223372036854775807 := by rw [ByteArray.size_extract]; omega
      have RW := fun wx => rread_any (s.extract P.toNat (P + 16).toNat) wx hsub
      have hWok : (sumS s).ok := by rw [SUB.out]; unfold readW; split; exact wd_ok _; exact zero_wdok
      rw [← SUB.out] at RW
      obtain ⟨W, hW⟩ : ∃ W, sumS s = W := ⟨_, rfl⟩
      have HW := Lib.hid hW
      rw [hW] at RW hWok
      obtain ⟨N, hN⟩ : ∃ N, (readW (s.extract P.toNat (P + 16).toNat)).2 = N := ⟨_, rfl⟩
      rw [hN] at RW
      unfold Wd.val at RW
      clear hW hN hsub
      have hA : Apart q [(p, agO Ag0)] := by simp only [Apart, and_true]; omega
      have hq5 := KK.out.lt (q, agO (cntA c)) (by simp)
      simp only at hq5
      have e3 : IntKind.i64.wrap (P + 16) = P + 16 := by rw [IntKind.wrap_i64]; omega
      have hRP := HP.out
      have HRP := Lib.hid hRP
      clear hRP
      go_cut [6, 7] (fun m u wx => ∃ (m' : Nat) (N' : Int), m = .pointer (some ⟨m', 0, none⟩) ∧ q < m' ∧ u = .int .i64 N' ∧ Kr 77 (p + 1) w [(m', wdO W), (q, agO (cntA c)), (p, agO Ag0)] R wx)
      case first =>
        refine wp_region_held_drew (S := (fun wx => wx.cell? ⟨p + 1, 1, none⟩ = some (.int .i64 P))) (by kernel_rfl) ?_ (fun hHeld => ?_)
        focus ((try dsimp only); (try (first | exact Kr.rdc1 KK.out HRP.out rfl | exact Kr.rdc1 (KK.out.new (wdO ⟨0, 0⟩)) HRP.out rfl | exact Kr.rdc1 (KK.out.new (wdO W)) HRP.out rfl | exact Kr.rdc1 (Kr.setRow KK.out (by simp only [Apart, and_true]; omega) (by omega) (wdO W)) HRP.out rfl)); done)
        (refine wpAnyH_take (i := 0) (oi := { dst := some 23, op := Go.Op.move (Go.Operand.tmp 0), type := 9, pos := "ref.go:142", after := #[], guard := none }) (v := ?_) rfl (by kernel_rfl) (by kernel_rfl) (by kernel_rfl) (fun _ _ _ h => h) (Or.inl ⟨by rfl, ?_⟩) (by assumption) ?_; rotate_left; (focus (intro w hSw; ((try dsimp only at hSw); go_simp; try with_reducible rfl))); (try simp only [Act.put, List.setIfInBounds_toArray, List.set_cons_zero, List.set_cons_succ]))
        (refine wpAnyH_take (i := 1) (oi := { dst := some 24, op := Go.Op.move (Go.Operand.tmp 4), type := 75, pos := "ref.go:142", after := #[], guard := none }) (v := ?_) rfl (by kernel_rfl) (by kernel_rfl) (by kernel_rfl) (fun _ _ _ h => h) (Or.inl ⟨by rfl, ?_⟩) (by assumption) ?_; rotate_left; (focus (intro w hSw; ((try dsimp only at hSw); go_simp; try with_reducible rfl))); (try simp only [Act.put, List.setIfInBounds_toArray, List.set_cons_zero, List.set_cons_succ]))
        (refine wpAnyH_take (i := 2) (oi := { dst := some 25, op := Go.Op.nilCheck (Go.Operand.tmp 24), type := 0, pos := "ref.go:142", after := #[{ on := 1, ground := Go.Ground.data }], guard := none }) (v := ?_) rfl (by kernel_rfl) (by kernel_rfl) (by kernel_rfl) (fun _ _ _ h => h) (Or.inl ⟨by rfl, ?_⟩) (by assumption) ?_; rotate_left; (focus (intro w hSw; ((try dsimp only at hSw); go_simp; try with_reducible rfl))); (try simp only [Act.put, List.setIfInBounds_toArray, List.set_cons_zero, List.set_cons_succ]))
        (refine wpAnyH_take (i := 3) (oi := { dst := some 26, op := Go.Op.fieldAddr 77 (Go.Operand.tmp 25) 1, type := 0, pos := "ref.go:142", after := #[{ on := 2, ground := Go.Ground.data }], guard := none }) (v := ?_) rfl (by kernel_rfl) (by kernel_rfl) (by kernel_rfl) (fun _ _ _ h => h) (Or.inl ⟨by rfl, ?_⟩) (by assumption) ?_; rotate_left; (focus (intro w hSw; ((try dsimp only at hSw); go_simp; try with_reducible rfl))); (try simp only [Act.put, List.setIfInBounds_toArray, List.set_cons_zero, List.set_cons_succ]))
        (refine wpAnyH_take (i := 4) (oi := { dst := some 27, op := Go.Op.load 3 (Go.Operand.tmp 26), type := 3, pos := "ref.go:142", after := #[{ on := 3, ground := Go.Ground.data }], guard := none }) (v := ?_) rfl (by kernel_rfl) (by kernel_rfl) (by kernel_rfl) (fun _ _ _ h => h) (Or.inl ⟨by rfl, ?_⟩) (by assumption) ?_; rotate_left; (focus (intro w hSw; ((try dsimp only at hSw); go_simp; try with_reducible rfl))); (try simp only [Act.put, List.setIfInBounds_toArray, List.set_cons_zero, List.set_cons_succ]))
        (refine wpAnyH_take (i := 5) (oi := { dst := some 28, op := Go.Op.move (Go.Operand.tmp 4), type := 75, pos := "ref.go:142", after := #[], guard := none }) (v := ?_) rfl (by kernel_rfl) (by kernel_rfl) (by kernel_rfl) (fun _ _ _ h => h) (Or.inl ⟨by rfl, ?_⟩) (by assumption) ?_; rotate_left; (focus (intro w hSw; ((try dsimp only at hSw); go_simp; try with_reducible rfl))); (try simp only [Act.put, List.setIfInBounds_toArray, List.set_cons_zero, List.set_cons_succ]))
        (refine wpAnyH_take (i := 6) (oi := { dst := some 29, op := Go.Op.nilCheck (Go.Operand.tmp 28), type := 0, pos := "ref.go:142", after := #[{ on := 5, ground := Go.Ground.data }], guard := none }) (v := ?_) rfl (by kernel_rfl) (by kernel_rfl) (by kernel_rfl) (fun _ _ _ h => h) (Or.inl ⟨by rfl, ?_⟩) (by assumption) ?_; rotate_left; (focus (intro w hSw; ((try dsimp only at hSw); go_simp; try with_reducible rfl))); (try simp only [Act.put, List.setIfInBounds_toArray, List.set_cons_zero, List.set_cons_succ]))
        (refine wpAnyH_take (i := 7) (oi := { dst := some 30, op := Go.Op.fieldAddr 77 (Go.Operand.tmp 29) 1, type := 0, pos := "ref.go:142", after := #[{ on := 6, ground := Go.Ground.data }], guard := none }) (v := ?_) rfl (by kernel_rfl) (by kernel_rfl) (by kernel_rfl) (fun _ _ _ h => h) (Or.inl ⟨by rfl, ?_⟩) (by assumption) ?_; rotate_left; (focus (intro w hSw; ((try dsimp only at hSw); go_simp; try with_reducible rfl))); (try simp only [Act.put, List.setIfInBounds_toArray, List.set_cons_zero, List.set_cons_succ]))
        (refine wpAnyH_take (i := 8) (oi := { dst := some 31, op := Go.Op.load 3 (Go.Operand.tmp 30), type := 3, pos := "ref.go:142", after := #[{ on := 7, ground := Go.Ground.data }], guard := none }) (v := ?_) rfl (by kernel_rfl) (by kernel_rfl) (by kernel_rfl) (fun _ _ _ h => h) (Or.inl ⟨by rfl, ?_⟩) (by assumption) ?_; rotate_left; (focus (intro w hSw; ((try dsimp only at hSw); go_simp; try with_reducible rfl))); (try simp only [Act.put, List.setIfInBounds_toArray, List.set_cons_zero, List.set_cons_succ]))
        (refine wpAnyH_take (i := 9) (oi := { dst := some 32, op := Go.Op.binOp Go.BinOp.add 3 (Go.Operand.tmp 31) (Go.Operand.const (Go.Value.int Go.IntKind.i64 16)) 3, type := 3, pos := "ref.go:142", after := #[{ on := 8, ground := Go.Ground.data }], guard := none }) (v := ?_) rfl (by kernel_rfl) (by kernel_rfl) (by kernel_rfl) (fun _ _ _ h => h) (Or.inl ⟨by rfl, ?_⟩) (by assumption) ?_; rotate_left; (focus (intro w hSw; ((try dsimp only at hSw); go_simp; try with_reducible rfl))); (try simp only [Act.put, List.setIfInBounds_toArray, List.set_cons_zero, List.set_cons_succ]))
        (refine wpAnyH_take (i := 10) (oi := { dst := some 33, op := Go.Op.slice 9 (Go.Operand.tmp 23) (some (Go.Operand.tmp 27)) (some (Go.Operand.tmp 32)) none, type := 9, pos := "ref.go:142", after := #[{ on := 0, ground := Go.Ground.data }, { on := 4, ground := Go.Ground.data }, { on := 9, ground := Go.Ground.data }], guard := none }) (v := ?_) rfl (by kernel_rfl) (by kernel_rfl) (by kernel_rfl) (fun _ _ _ h => h) (Or.inl ⟨by rfl, ?_⟩) (by assumption) ?_; rotate_left; (focus (intro w hSw; ((try dsimp only at hSw); go_simp; try with_reducible rfl))); (try simp only [Act.put, List.setIfInBounds_toArray, List.set_cons_zero, List.set_cons_succ]))
        refine wpAnyH_ready (rs := [11, 15]) (by kernel_rfl) (by simp) ?_
        refine AllReadyH.cons (o := { dst := some 34, op := Go.Op.call { callee := Go.Callee.value (Go.Operand.func 54), args := #[Go.Operand.tmp 33], argTypes := #[9] }, type := 70, pos := "ref.go:142", after := #[{ on := 10, ground := Go.Ground.data }], guard := none }) rfl (fun K hK11 => ?_) (AllReadyH.cons (o := { dst := some 6, op := Go.Op.alloc 24, type := 0, pos := "ref.go:142", after := #[], guard := none }) rfl (fun K hK15 => ?_) AllReadyH.nil)
        · (go_simp; ((go_at_call 54; refine (RW _).mono ?_; rintro e wn ⟨rfl, dn⟩; first | have KK := Lib.hid (Kr.later KK.out dn rfl rfl rfl rfl) | have KK := Lib.hid (Kr.later (KK.out.new (wdO ⟨0, 0⟩)) dn rfl rfl rfl rfl))); go_wp2_with fail; refine hK11.out _ _ ?_ (fun hHeld => ?_); (focus ((try dsimp only); (try (first | exact Kr.rdc1 KK.out HRP.out rfl | exact Kr.rdc1 (KK.out.new (wdO ⟨0, 0⟩)) HRP.out rfl | exact Kr.rdc1 (KK.out.new (wdO W)) HRP.out rfl | exact Kr.rdc1 (Kr.setRow KK.out (by simp only [Apart, and_true]; omega) (by omega) (wdO W)) HRP.out rfl)); done)); clear hK11; (try simp only [Act.put, List.setIfInBounds_toArray, List.set_cons_zero, List.set_cons_succ]))
          (refine wpAnyH_take (i := 12) (oi := { dst := some 22, op := Go.Op.move (Go.Operand.tmp 34), type := 70, pos := "ref.go:142", after := #[{ on := 11, ground := Go.Ground.data }], guard := none }) (v := ?_) rfl (by kernel_rfl) (by kernel_rfl) (by kernel_rfl) (fun _ _ _ h => h) (Or.inl ⟨by rfl, ?_⟩) (by assumption) ?_; rotate_left; (focus (intro w hSw; ((try dsimp only at hSw); go_simp; try with_reducible rfl))); (try simp only [Act.put, List.setIfInBounds_toArray, List.set_cons_zero, List.set_cons_succ]))
          (refine wpAnyH_take (i := 13) (oi := { dst := some 35, op := Go.Op.extract (Go.Operand.tmp 22) 0, type := 24, pos := "ref.go:142", after := #[{ on := 12, ground := Go.Ground.data }], guard := none }) (v := ?_) rfl (by kernel_rfl) (by kernel_rfl) (by kernel_rfl) (fun _ _ _ h => h) (Or.inl ⟨by rfl, ?_⟩) (by assumption) ?_; rotate_left; (focus (intro w hSw; ((try dsimp only at hSw); go_simp; try with_reducible rfl))); (try simp only [Act.put, List.setIfInBounds_toArray, List.set_cons_zero, List.set_cons_succ]))
          (refine wpAnyH_take (i := 14) (oi := { dst := some 36, op := Go.Op.extract (Go.Operand.tmp 22) 1, type := 46, pos := "ref.go:142", after := #[{ on := 12, ground := Go.Ground.data }, { on := 16, ground := Go.Ground.gcOnly Go.Departure.lateStores }], guard := none }) (v := ?_) rfl (by kernel_rfl) (by kernel_rfl) (by kernel_rfl) (fun _ _ _ h => h) (Or.inl ⟨by rfl, ?_⟩) (by assumption) ?_; rotate_left; (focus (intro w hSw; ((try dsimp only at hSw); go_simp; try with_reducible rfl))); (try simp only [Act.put, List.setIfInBounds_toArray, List.set_cons_zero, List.set_cons_succ]))
          (refine wpAnyH_ready (rs := [15]) (by kernel_rfl) (by simp) ?_; refine AllReadyH.cons (o := { dst := some 6, op := Go.Op.alloc 24, type := 0, pos := "ref.go:142", after := #[], guard := none }) rfl (fun K hK => ?_) AllReadyH.nil; go_simp; refine hK.out _ _ ?_ (fun hHeld => ?_); (focus ((try dsimp only); (try (first | exact Kr.rdc1 KK.out HRP.out rfl | exact Kr.rdc1 (KK.out.new (wdO ⟨0, 0⟩)) HRP.out rfl | exact Kr.rdc1 (KK.out.new (wdO W)) HRP.out rfl | exact Kr.rdc1 (Kr.setRow KK.out (by simp only [Apart, and_true]; omega) (by omega) (wdO W)) HRP.out rfl)); done)); clear hK; (try simp only [Act.put, List.setIfInBounds_toArray, List.set_cons_zero, List.set_cons_succ]))
          (refine wpAnyH_ready (rs := [16]) (by kernel_rfl) (by simp) ?_; refine AllReadyH.cons (o := { dst := none, op := Go.Op.store 24 (Go.Operand.tmp 6) (Go.Operand.tmp 35), type := 0, pos := "ref.go:142", after := #[{ on := 15, ground := Go.Ground.data }, { on := 13, ground := Go.Ground.data }, { on := 11, ground := Go.Ground.chain }, { on := 0, ground := Go.Ground.phase }, { on := 1, ground := Go.Ground.phase }, { on := 2, ground := Go.Ground.phase }, { on := 3, ground := Go.Ground.phase }, { on := 4, ground := Go.Ground.phase }, { on := 5, ground := Go.Ground.phase }, { on := 6, ground := Go.Ground.phase }, { on := 7, ground := Go.Ground.phase }, { on := 8, ground := Go.Ground.phase }, { on := 9, ground := Go.Ground.phase }, { on := 10, ground := Go.Ground.phase }, { on := 11, ground := Go.Ground.phase }, { on := 12, ground := Go.Ground.phase }, { on := 13, ground := Go.Ground.phase }, { on := 14, ground := Go.Ground.textOnly Go.Departure.lateStores }, { on := 15, ground := Go.Ground.phase }], guard := none }) rfl (fun K hK => ?_) AllReadyH.nil; ((first | (refine wp_store_row 24 _ _ rfl _ #[.int .i64 W.hi, .int .u64 W.lo] rfl rfl 24 _ (heap_alloc_new _ _) (by kernel_rfl) rfl (by simp [Value.oneCell']) ?_; rw [World.setRow_alloc_new]) | (refine wp_store_row 24 _ _ rfl _ #[.int .i64 W.hi, .int .u64 W.lo] rfl rfl 24 _ KK.out.hd (by kernel_rfl) rfl (by simp [Value.oneCell']) ?_))); refine hK.out _ _ ?_ (fun hHeld => ?_); (focus ((try dsimp only); (try (first | exact Kr.rdc1 KK.out HRP.out rfl | exact Kr.rdc1 (KK.out.new (wdO ⟨0, 0⟩)) HRP.out rfl | exact Kr.rdc1 (KK.out.new (wdO W)) HRP.out rfl | exact Kr.rdc1 (Kr.setRow KK.out (by simp only [Apart, and_true]; omega) (by omega) (wdO W)) HRP.out rfl)); done)); clear hK; (try simp only [Act.put, List.setIfInBounds_toArray, List.set_cons_zero, List.set_cons_succ]))
          (refine wpAnyH_take (i := 17) (oi := { dst := some 7, op := Go.Op.assign (Go.Operand.tmp 36), type := 46, pos := "ref.go:142", after := #[{ on := 14, ground := Go.Ground.data }, { on := 16, ground := Go.Ground.chain }, { on := 0, ground := Go.Ground.phase }, { on := 1, ground := Go.Ground.phase }, { on := 2, ground := Go.Ground.phase }, { on := 3, ground := Go.Ground.phase }, { on := 4, ground := Go.Ground.phase }, { on := 5, ground := Go.Ground.phase }, { on := 6, ground := Go.Ground.phase }, { on := 7, ground := Go.Ground.phase }, { on := 8, ground := Go.Ground.phase }, { on := 9, ground := Go.Ground.phase }, { on := 10, ground := Go.Ground.phase }, { on := 11, ground := Go.Ground.phase }, { on := 12, ground := Go.Ground.phase }, { on := 13, ground := Go.Ground.phase }, { on := 14, ground := Go.Ground.phase }, { on := 15, ground := Go.Ground.phase }, { on := 16, ground := Go.Ground.phase }], guard := none }) (v := ?_) rfl (by kernel_rfl) (by kernel_rfl) (by kernel_rfl) (fun _ _ _ h => h) (Or.inl ⟨by rfl, ?_⟩) (by assumption) ?_; rotate_left; (focus (intro w hSw; ((try dsimp only at hSw); go_simp; try with_reducible rfl))); (try simp only [Act.put, List.setIfInBounds_toArray, List.set_cons_zero, List.set_cons_succ]))
          refine wpAnyH_done (by kernel_rfl) ?_ _
          go_wp2_with fail
          go_meet
          first | exact ⟨_, _, rfl, by have := KK.out.lt (q, agO (cntA c)) (by simp); simp only at this; omega, rfl, Kr.same (KK.out.new (wdO W)) rfl rfl rfl rfl⟩ | exact ⟨_, _, rfl, by omega, rfl, Kr.same (Kr.setRow KK.out (by simp only [Apart, and_true]; omega) (by omega) (wdO W)) rfl rfl rfl rfl⟩
        · (go_simp; refine hK15.out _ _ ?_ (fun hHeld => ?_); (focus ((try dsimp only); (try (first | exact Kr.rdc1 KK.out HRP.out rfl | exact Kr.rdc1 (KK.out.new (wdO ⟨0, 0⟩)) HRP.out rfl | exact Kr.rdc1 (KK.out.new (wdO W)) HRP.out rfl | exact Kr.rdc1 (Kr.setRow KK.out (by simp only [Apart, and_true]; omega) (by omega) (wdO W)) HRP.out rfl)); done)); clear hK15; (try simp only [Act.put, List.setIfInBounds_toArray, List.set_cons_zero, List.set_cons_succ]))
          (refine wpAnyH_ready (rs := [11]) (by kernel_rfl) (by simp) ?_; refine AllReadyH.cons (o := { dst := some 34, op := Go.Op.call { callee := Go.Callee.value (Go.Operand.func 54), args := #[Go.Operand.tmp 33], argTypes := #[9] }, type := 70, pos := "ref.go:142", after := #[{ on := 10, ground := Go.Ground.data }], guard := none }) rfl (fun K hK => ?_) AllReadyH.nil; go_simp; ((go_at_call 54; refine (RW _).mono ?_; rintro e wn ⟨rfl, dn⟩; first | have KK := Lib.hid (Kr.later KK.out dn rfl rfl rfl rfl) | have KK := Lib.hid (Kr.later (KK.out.new (wdO ⟨0, 0⟩)) dn rfl rfl rfl rfl))); go_wp2_with fail; refine hK.out _ _ ?_ (fun hHeld => ?_); (focus ((try dsimp only); (try (first | exact Kr.rdc1 KK.out HRP.out rfl | exact Kr.rdc1 (KK.out.new (wdO ⟨0, 0⟩)) HRP.out rfl | exact Kr.rdc1 (KK.out.new (wdO W)) HRP.out rfl | exact Kr.rdc1 (Kr.setRow KK.out (by simp only [Apart, and_true]; omega) (by omega) (wdO W)) HRP.out rfl)); done)); clear hK; (try simp only [Act.put, List.setIfInBounds_toArray, List.set_cons_zero, List.set_cons_succ]))
          (refine wpAnyH_take (i := 12) (oi := { dst := some 22, op := Go.Op.move (Go.Operand.tmp 34), type := 70, pos := "ref.go:142", after := #[{ on := 11, ground := Go.Ground.data }], guard := none }) (v := ?_) rfl (by kernel_rfl) (by kernel_rfl) (by kernel_rfl) (fun _ _ _ h => h) (Or.inl ⟨by rfl, ?_⟩) (by assumption) ?_; rotate_left; (focus (intro w hSw; ((try dsimp only at hSw); go_simp; try with_reducible rfl))); (try simp only [Act.put, List.setIfInBounds_toArray, List.set_cons_zero, List.set_cons_succ]))
          (refine wpAnyH_take (i := 13) (oi := { dst := some 35, op := Go.Op.extract (Go.Operand.tmp 22) 0, type := 24, pos := "ref.go:142", after := #[{ on := 12, ground := Go.Ground.data }], guard := none }) (v := ?_) rfl (by kernel_rfl) (by kernel_rfl) (by kernel_rfl) (fun _ _ _ h => h) (Or.inl ⟨by rfl, ?_⟩) (by assumption) ?_; rotate_left; (focus (intro w hSw; ((try dsimp only at hSw); go_simp; try with_reducible rfl))); (try simp only [Act.put, List.setIfInBounds_toArray, List.set_cons_zero, List.set_cons_succ]))
          (refine wpAnyH_take (i := 14) (oi := { dst := some 36, op := Go.Op.extract (Go.Operand.tmp 22) 1, type := 46, pos := "ref.go:142", after := #[{ on := 12, ground := Go.Ground.data }, { on := 16, ground := Go.Ground.gcOnly Go.Departure.lateStores }], guard := none }) (v := ?_) rfl (by kernel_rfl) (by kernel_rfl) (by kernel_rfl) (fun _ _ _ h => h) (Or.inl ⟨by rfl, ?_⟩) (by assumption) ?_; rotate_left; (focus (intro w hSw; ((try dsimp only at hSw); go_simp; try with_reducible rfl))); (try simp only [Act.put, List.setIfInBounds_toArray, List.set_cons_zero, List.set_cons_succ]))
          (refine wpAnyH_ready (rs := [16]) (by kernel_rfl) (by simp) ?_; refine AllReadyH.cons (o := { dst := none, op := Go.Op.store 24 (Go.Operand.tmp 6) (Go.Operand.tmp 35), type := 0, pos := "ref.go:142", after := #[{ on := 15, ground := Go.Ground.data }, { on := 13, ground := Go.Ground.data }, { on := 11, ground := Go.Ground.chain }, { on := 0, ground := Go.Ground.phase }, { on := 1, ground := Go.Ground.phase }, { on := 2, ground := Go.Ground.phase }, { on := 3, ground := Go.Ground.phase }, { on := 4, ground := Go.Ground.phase }, { on := 5, ground := Go.Ground.phase }, { on := 6, ground := Go.Ground.phase }, { on := 7, ground := Go.Ground.phase }, { on := 8, ground := Go.Ground.phase }, { on := 9, ground := Go.Ground.phase }, { on := 10, ground := Go.Ground.phase }, { on := 11, ground := Go.Ground.phase }, { on := 12, ground := Go.Ground.phase }, { on := 13, ground := Go.Ground.phase }, { on := 14, ground := Go.Ground.textOnly Go.Departure.lateStores }, { on := 15, ground := Go.Ground.phase }], guard := none }) rfl (fun K hK => ?_) AllReadyH.nil; ((first | (refine wp_store_row 24 _ _ rfl _ #[.int .i64 W.hi, .int .u64 W.lo] rfl rfl 24 _ (heap_alloc_new _ _) (by kernel_rfl) rfl (by simp [Value.oneCell']) ?_; rw [World.setRow_alloc_new]) | (refine wp_store_row 24 _ _ rfl _ #[.int .i64 W.hi, .int .u64 W.lo] rfl rfl 24 _ KK.out.hd (by kernel_rfl) rfl (by simp [Value.oneCell']) ?_))); refine hK.out _ _ ?_ (fun hHeld => ?_); (focus ((try dsimp only); (try (first | exact Kr.rdc1 KK.out HRP.out rfl | exact Kr.rdc1 (KK.out.new (wdO ⟨0, 0⟩)) HRP.out rfl | exact Kr.rdc1 (KK.out.new (wdO W)) HRP.out rfl | exact Kr.rdc1 (Kr.setRow KK.out (by simp only [Apart, and_true]; omega) (by omega) (wdO W)) HRP.out rfl)); done)); clear hK; (try simp only [Act.put, List.setIfInBounds_toArray, List.set_cons_zero, List.set_cons_succ]))
          (refine wpAnyH_take (i := 17) (oi := { dst := some 7, op := Go.Op.assign (Go.Operand.tmp 36), type := 46, pos := "ref.go:142", after := #[{ on := 14, ground := Go.Ground.data }, { on := 16, ground := Go.Ground.chain }, { on := 0, ground := Go.Ground.phase }, { on := 1, ground := Go.Ground.phase }, { on := 2, ground := Go.Ground.phase }, { on := 3, ground := Go.Ground.phase }, { on := 4, ground := Go.Ground.phase }, { on := 5, ground := Go.Ground.phase }, { on := 6, ground := Go.Ground.phase }, { on := 7, ground := Go.Ground.phase }, { on := 8, ground := Go.Ground.phase }, { on := 9, ground := Go.Ground.phase }, { on := 10, ground := Go.Ground.phase }, { on := 11, ground := Go.Ground.phase }, { on := 12, ground := Go.Ground.phase }, { on := 13, ground := Go.Ground.phase }, { on := 14, ground := Go.Ground.phase }, { on := 15, ground := Go.Ground.phase }, { on := 16, ground := Go.Ground.phase }], guard := none }) (v := ?_) rfl (by kernel_rfl) (by kernel_rfl) (by kernel_rfl) (fun _ _ _ h => h) (Or.inl ⟨by rfl, ?_⟩) (by assumption) ?_; rotate_left; (focus (intro w hSw; ((try dsimp only at hSw); go_simp; try with_reducible rfl))); (try simp only [Act.put, List.setIfInBounds_toArray, List.set_cons_zero, List.set_cons_succ]))
          refine wpAnyH_done (by kernel_rfl) ?_ _
          go_wp2_with fail
          go_meet
          first | exact ⟨_, _, rfl, by have := KK.out.lt (q, agO (cntA c)) (by simp); simp only at this; omega, rfl, Kr.same (KK.out.new (wdO W)) rfl rfl rfl rfl⟩ | exact ⟨_, _, rfl, by omega, rfl, Kr.same (Kr.setRow KK.out (by simp only [Apart, and_true]; omega) (by omega) (wdO W)) rfl rfl rfl rfl⟩
      case rest =>
      obtain ⟨m', N', rfl, hm', rfl, hKK⟩ := hcut
      have KK := Lib.hid hKK
      clear hKK RW hq5
      have r1 := KK.out.rdc1 HRP.out rfl
      have r2 := KK.out.rd.fz 1
      go_upto_region 8 with fail
      have KK := Lib.hid (KK.out.step (KK.out.rd.set1 (P + 16)) (But.set (p + 1) 1 _ _))
      generalize World.setCell _ _ _ = w7 at *
      clear r1 r2
      obtain ⟨T1, hT1⟩ : ∃ T1, rtlS s = T1 := ⟨_, rfl⟩
      have KK := Lib.hid (show Kr 77 (p + 1) w [(m', wdO W), (q, agO (cntA c)), (p, agO Ag0)] T1 w7 by rw [← hT1]; unfold rtlS; rw [HR.out, HP.out]; exact KK.out)
      have m0 := KK.out.cell (k := m') (o := wdO W) (by simp) (j := 0) (v := .int .i64 W.hi) rfl
      have m1 := KK.out.cell (k := m') (o := wdO W) (by simp) (j := 1) (v := .int .u64 W.lo) rfl
      have KK := Lib.hid (KK.out.sub (m := [(q, agO (cntA c)), (p, agO Ag0)]) (by simp))
      have ⟨q1, f1⟩ := KK.out.cfA (k := q) (o := agO (cntA c)) (by simp) 1 (v := .int .i64 0) rfl
      have ⟨q2, f2⟩ := KK.out.cfA (k := q) (o := agO (cntA c)) (by simp) 2 (v := .int .u64 0) rfl
      go_upto_region 9 with fail
      generalize hwx : World.setCell _ _ _ = wx
      have KK := Lib.hid (show Kr 77 (p + 1) w [(q, agO { cntA c with sum := W }), (p, agO Ag0)] T1 wx by rw [← hwx]; exact (KK.out.setCell hA (by omega) 1 _ (agO { cntA c with sum := ⟨W.hi, 0⟩ }) rfl).setCell hA (by omega) 2 _ _ rfl)
      clear hwx q1 f1 q2 f2 m0 m1
      rw [hT1] at ok1 HV
      clear hT1 e2 b1 b2 b3
      have ok2 := (Rdr.int_ok ok1).1
      have ok3 := (Rdr.int_ok ok2).1
      have ok4 := (Rdr.int_ok ok3).1
      have ok5 := (rtakeV_ok ok4).1
      have HAG : Hid ((ragR T1).1 = ⟨T1.int.1, T1.int.2.int.1, T1.int.2.int.2.int.1, (rtakeV T1.int.2.int.2.int.2).1, (takeN 9 (rtakeV T1.int.2.int.2.int.2).2).1⟩ ∧ (ragR T1).2 = (takeN 9 (rtakeV T1.int.2.int.2.int.2).2).2) := ⟨ragR_1 T1, ragR_2 T1⟩
      have HI1 := int_rangeA ok1
      have HI2 := int_rangeA ok2
      have HI3 := int_rangeA ok3
      have HST := rtake_wfA ok4
      have I1 : T1.int = (T1.int.1, T1.int.2) := rfl
      obtain ⟨x1, hx1⟩ : ∃ x1, T1.int.1 = x1 := ⟨_, rfl⟩
      obtain ⟨T2, hT2⟩ : ∃ T2, T1.int.2 = T2 := ⟨_, rfl⟩
      rw [hx1, hT2] at HAG
      rw [hT2] at ok2 ok3 ok4 ok5 HI2 HI3 HST
      rw [hx1] at HI1
      obtain ⟨x2, hx2⟩ : ∃ x2, T2.int.1 = x2 := ⟨_, rfl⟩
      obtain ⟨T3, hT3⟩ : ∃ T3, T2.int.2 = T3 := ⟨_, rfl⟩
      rw [hx2, hT3] at HAG
      rw [hT3] at ok3 ok4 ok5 HI3 HST
      rw [hx2] at HI2
      obtain ⟨x3, hx3⟩ : ∃ x3, T3.int.1 = x3 := ⟨_, rfl⟩
      obtain ⟨T4, hT4⟩ : ∃ T4, T3.int.2 = T4 := ⟨_, rfl⟩
      rw [hx3, hT4] at HAG
      rw [hT4] at ok4 ok5 HST
      rw [hx3] at HI3
      obtain ⟨S, hS⟩ : ∃ S, (rtakeV T4).1 = S := ⟨_, rfl⟩
      obtain ⟨T5, hT5⟩ : ∃ T5, (rtakeV T4).2 = T5 := ⟨_, rfl⟩
      rw [hS, hT5] at HAG
      rw [hT5] at ok5
      rw [hS] at HST
      have E1 := Lib.hid (And.intro hx1 hT2)
      have E2 := Lib.hid (And.intro hx2 hT3)
      have E3 := Lib.hid (And.intro hx3 hT4)
      have E4 := Lib.hid (And.intro hS hT5)
      clear hx1 hT2 hx2 hT3 hx3 hT4 hS hT5 I1
      go_upto_region 10 with (go_at_call 55; refine (rrdr_int (p + 1) T1 _ KK.out.rd ok1).mono ?_; rw [E1.out.1, E1.out.2]; rintro e wn ⟨rfl, hn, dn⟩; have KK := Lib.hid (KK.out.step hn dn); clear hn dn; have ⟨q1, f1⟩ := KK.out.cfA (k := q) (o := agO { cntA c with sum := W }) (by simp) 3 (v := .int .i64 0) rfl)
      generalize hwx : World.setCell _ _ _ = wx
      have KK := Lib.hid (show Kr 77 (p + 1) w [(q, agO { cntA c with sum := W, mn := x1 }), (p, agO Ag0)] T2 wx by rw [← hwx]; exact KK.out.setCell hA (by omega) 3 _ _ rfl)
      clear hwx q1 f1
      go_upto_region 11 with (go_at_call 55; refine (rrdr_int (p + 1) T2 _ KK.out.rd ok2).mono ?_; rw [E2.out.1, E2.out.2]; rintro e wn ⟨rfl, hn, dn⟩; have KK := Lib.hid (KK.out.step hn dn); clear hn dn; have ⟨q1, f1⟩ := KK.out.cfA (k := q) (o := agO { cntA c with sum := W, mn := x1 }) (by simp) 4 (v := .int .i64 0) rfl)
      generalize hwx : World.setCell _ _ _ = wx
      have KK := Lib.hid (show Kr 77 (p + 1) w [(q, agO { cntA c with sum := W, mn := x1, mx := x2 }), (p, agO Ag0)] T3 wx by rw [← hwx]; exact KK.out.setCell hA (by omega) 4 _ _ rfl)
      clear hwx q1 f1
      go_upto_region 12 with (go_at_call 55; refine (rrdr_int (p + 1) T3 _ KK.out.rd ok3).mono ?_; rw [E3.out.1, E3.out.2]; rintro e wn ⟨rfl, hn, dn⟩; have KK := Lib.hid (KK.out.step hn dn); clear hn dn; have ⟨q1, f1⟩ := KK.out.cfA (k := q) (o := agO { cntA c with sum := W, mn := x1, mx := x2 }) (by simp) 5 (v := .int .i64 0) rfl)
      generalize hwx : World.setCell _ _ _ = wx
      have KK := Lib.hid (show Kr 77 (p + 1) w [(q, agO { cntA c with sum := W, mn := x1, mx := x2, last := x3 }), (p, agO Ag0)] T4 wx by rw [← hwx]; exact KK.out.setCell hA (by omega) 5 _ _ rfl)
      clear hwx q1 f1
      have CT := fun wx hx => rtake_any (p + 1) T4 wx hx ok4
      rw [E4.out.1, E4.out.2] at CT
      unfold St.val at CT
      go_upto_region 13 with (go_at_call 56; refine (CT _ KK.out.rd).mono ?_; rintro e wn ⟨rfl, hn, dn⟩; have KK := Lib.hid (KK.out.step hn dn); clear hn dn; have ⟨q1, f1⟩ := KK.out.cfA (k := q) (o := agO { cntA c with sum := W, mn := x1, mx := x2, last := x3 }) (by simp) 6 (v := .int .i64 0) rfl; have ⟨q2, f2⟩ := KK.out.cfA (k := q) (o := agO { cntA c with sum := W, mn := x1, mx := x2, last := x3 }) (by simp) 7 (v := .int .i64 0) rfl; have ⟨q3, f3⟩ := KK.out.cfA (k := q) (o := agO { cntA c with sum := W, mn := x1, mx := x2, last := x3 }) (by simp) 8 (v := .int .i64 0) rfl)
      generalize hwx : World.setCell _ _ _ = wx
      have KK := Lib.hid (show Kr 77 (p + 1) w [(q, agO ⟨c, W, x1, x2, x3, S, List.replicate 9 0⟩), (p, agO Ag0)] T5 wx by rw [← hwx]; exact ((KK.out.setCell hA (by omega) 6 _ (agO ⟨c, W, x1, x2, x3, ⟨S.clock, 0, 0⟩, List.replicate 9 0⟩) rfl).setCell hA (by omega) 7 _ (agO ⟨c, W, x1, x2, x3, ⟨S.clock, S.site, 0⟩, List.replicate 9 0⟩) rfl).setCell hA (by omega) 8 _ _ rfl)
      clear hwx q1 f1 q2 f2 q3 f3 CT
      go_wp2_with fail
      go_loopw [8] (fun i wr => ∃ k : Nat, k ≤ 9 ∧ i = .int .i64 k ∧ Kr 77 (p + 1) w [(q, agO ⟨c, W, x1, x2, x3, S, bkL (takeN k T5).1 k⟩), (p, agO Ag0)] (takeN k T5).2 wr) (fun i _ => 10 - (intOf i).toNat)
      case atStart => exact ⟨0, by omega, rfl, KK.out⟩
      case round =>
        obtain ⟨k, hk, rfl, hKK⟩ := hrel
        have KK := Lib.hid hKK
        clear hKK
        have okk := (takeN_ok ok5 k).1
        have hlk := takeN_length k T5
        by_cases hlt : k < 9
        · have t1 : decide ((k : Int) < 9) = true := decide_eq_true (by omega)
          have i1 : (0 : Int) ≤ (k : Int) := by omega
          have i2 : (k : Int) < 9 := by omega
          have HTN : Hid ((takeN (k + 1) T5).1 = (takeN k T5).1 ++ [((takeN k T5).2.small 1099511627776).1] ∧ (takeN (k + 1) T5).2 = ((takeN k T5).2.small 1099511627776).2) := ⟨by simp only [takeN], by simp only [takeN]⟩
          have CS := fun wx hx => rrdr_small (p + 1) (takeN k T5).2 1099511627776 wx hx okk (by decide) (by decide)
          generalize ((takeN k T5).2.small 1099511627776).1 = y at *
          generalize ((takeN k T5).2.small 1099511627776).2 = R9 at *
          have HB0 := bkL_get (takeN k T5).1 k hlk hlt ⟨c, W, x1, x2, x3, S, bkL (takeN k T5).1 k⟩ rfl
          have HBS := Lib.hid (bkL_set (takeN k T5).1 k hlk hlt y)
          go_wp2_with (go_at_call 52; refine (CS _ KK.out.rd).mono ?_; rintro e wn ⟨rfl, hn, dn⟩; have KK := Lib.hid (KK.out.step hn dn); clear hn dn; have ⟨q1, f1⟩ := KK.out.cfA (k := q) (o := agO ⟨c, W, x1, x2, x3, S, bkL (takeN k T5).1 k⟩) (by simp) (9 + k) HB0)
          have KS := KK.out.setBk hA (by omega) k y
          simp only at KS
          rw [HBS.out, ← HTN.out.1, ← HTN.out.2] at KS
          have FIN := Lib.hid KS
          clear KS q1 f1
          go_roundw
          case rel => exact ⟨k + 1, by omega, by go_num, FIN.out⟩
          case measure => simp [intOf]; omega
        · obtain rfl : k = 9 := by omega
          have t1 : decide (((9 : Nat) : Int) < 9) = false := decide_eq_false (by omega)
          have e9 : bkL (takeN 9 T5).1 9 = (takeN 9 T5).1 := by unfold bkL; simp
          rw [e9] at KK
          rw [HAG.out.1, HAG.out.2, HW.out] at HV
          have HBK := takeN_range ok5 9
          have HAO : Hid (Ag.ok ⟨c, W, x1, x2, x3, S, (takeN 9 T5).1⟩) := ⟨⟨by show -9223372036854775808 ≤ c; omega, by show c ≤ 9223372036854775807; omega⟩, hWok, HI1, HI2, HI3, HST, hlk, fun z hz => by have := HBK z hz; exact ⟨by omega, by omega⟩⟩
          clear e9 HAG HI1 HI2 HI3 HST HBK hWok HW ok1 ok2 ok3 ok4 E1 E2 E3 E4
          obtain ⟨BK, hBK⟩ : ∃ BK, (takeN 9 T5).1 = BK := ⟨_, rfl⟩
          obtain ⟨T6, hT6⟩ : ∃ T6, (takeN 9 T5).2 = T6 := ⟨_, rfl⟩
          rw [hBK] at KK HV HAO hlk
          rw [hT6] at KK HV okk
          clear hBK hT6
          have HV := Lib.hid (show V = finA ⟨c, W, x1, x2, x3, S, BK⟩ T6 from HV.out)
          have CE := fun wx hx => rrdr_end (p + 1) T6 wx hx okk
          have CHK := fun wx => archeck_any ⟨c, W, x1, x2, x3, S, BK⟩ wx HAO.out
          have HLA : Hid ((⟨c, W, x1, x2, x3, S, BK⟩ : Ag).bk.length = 9) := HAO.out.2.2.2.2.2.2.1
          unfold Ag.val at CHK
          by_cases hf : (T6).fin = 0
          · rw [hf] at CE
            rcases chkA_cases ⟨c, W, x1, x2, x3, S, BK⟩ with ⟨ho, hch⟩ | ⟨ho, hch⟩
            · rw [hch] at CHK
              have HV := Lib.hid (HV.out.trans (finA_pos hf ho))
              clear hf ho hch
              go_wp2_with (first
                | (go_at_call 57; refine (CE _ KK.out.rd).mono ?_; rintro e w8 ⟨rfl, dq⟩; have KK := Lib.hid (KK.out.step (dq.rdr KK.out.rd) dq.but); clear dq)
                | refine wpList_load_row_w (by first | rfl | kernel_rfl) 29 _ rfl q rfl 29 (⟨c, W, x1, x2, x3, S, BK⟩ : Ag).cs.toArray (0, 0) _ KK.out.hd Try.underlying29 rfl (ag_size HLA.out) ?_
                | refine wpList_load_row rfl 29 _ rfl q rfl 29 (⟨c, W, x1, x2, x3, S, BK⟩ : Ag).cs.toArray (0, 0) _ KK.out.hd Try.underlying29 rfl (ag_size HLA.out) ?_
                | (go_at_call 31; refine (CHK _).mono ?_; rintro e w9 ⟨rfl, dn⟩; have KK := Lib.hid (KK.out.below dn); clear dn)
                | refine wpList_store_row rfl 29 _ _ rfl p (⟨c, W, x1, x2, x3, S, BK⟩ : Ag).cs.toArray rfl rfl 29 _ (KK.out.at_ (p, agO Ag0) (by simp)).2 (ag_size HLA.out) (ag_sz (by first | rfl | decide) HLA.out) (ag_one _) ?_)
              have KF := Kr.setRow (KK.out.sub (m := [(p, agO Ag0)]) (by simp)) trivial (by omega) (agO ⟨c, W, x1, x2, x3, S, BK⟩)
              refine bodyPost_ret (v := .tuple #[(⟨c, W, x1, x2, x3, S, BK⟩ : Ag).val, .int .i64 0]) (results_cell_tmpA rfl _ _ p 29 (⟨c, W, x1, x2, x3, S, BK⟩ : Ag).cs.toArray (0, 0) _ _ rfl rfl KF.hd Try.underlying29 rfl (ag_size HLA.out)) rfl ⟨by rw [HV.out], by first | exact KF.belowA (by omega) | (rw [hp]; exact KF.belowA (by omega))⟩
            · rw [hch] at CHK
              have HV := Lib.hid (HV.out.trans (finA_neg (fun h => ho h.2)))
              clear hf ho hch
              go_wp2_with (first
                | (go_at_call 57; refine (CE _ KK.out.rd).mono ?_; rintro e w8 ⟨rfl, dq⟩; have KK := Lib.hid (KK.out.step (dq.rdr KK.out.rd) dq.but); clear dq)
                | refine wpList_load_row_w (by first | rfl | kernel_rfl) 29 _ rfl q rfl 29 (⟨c, W, x1, x2, x3, S, BK⟩ : Ag).cs.toArray (0, 0) _ KK.out.hd Try.underlying29 rfl (ag_size HLA.out) ?_
                | (go_at_call 31; refine (CHK _).mono ?_; rintro e w9 ⟨rfl, dn⟩; have KK := Lib.hid (KK.out.below dn); clear dn)
                | (refine wpList_store_row rfl 29 _ _ rfl p Ag0.cs.toArray rfl rfl 29 _ (KK.out.at_ (p, agO Ag0) (by simp)).2 (by kernel_rfl) rfl (by simp [Value.oneCell', Ag0, Ag.cs]) ?_))
              have KF := Kr.setRow (KK.out.sub (m := [(p, agO Ag0)]) (by simp)) trivial (by omega) (agO Ag0)
              refine bodyPost_ret (v := .tuple #[Ag0.val, .int .i64 10]) (results_cell_tmpA rfl _ _ p 29 Ag0.cs.toArray (0, 0) _ _ rfl rfl KF.hd Try.underlying29 rfl (by kernel_rfl)) rfl ⟨by rw [HV.out], by first | exact KF.belowA (by omega) | (rw [hp]; exact KF.belowA (by omega))⟩
          · have hf10 : (T6).fin = 10 := by unfold Rdr.fin at hf ⊢; split <;> simp_all
            rw [hf10] at CE
            have HV := Lib.hid (HV.out.trans (finA_neg (fun h => hf h.1)))
            clear hf hf10
            go_wp2_with (first
              | (go_at_call 57; refine (CE _ KK.out.rd).mono ?_; rintro e w8 ⟨rfl, dq⟩; have KK := Lib.hid (KK.out.step (dq.rdr KK.out.rd) dq.but); clear dq)
              | (refine wpList_store_row rfl 29 _ _ rfl p Ag0.cs.toArray rfl rfl 29 _ (KK.out.at_ (p, agO Ag0) (by simp)).2 (by kernel_rfl) rfl (by simp [Value.oneCell', Ag0, Ag.cs]) ?_))
            have KF := Kr.setRow (KK.out.sub (m := [(p, agO Ag0)]) (by simp)) trivial (by omega) (agO Ag0)
            refine bodyPost_ret (v := .tuple #[Ag0.val, .int .i64 10]) (results_cell_tmpA rfl _ _ p 29 Ag0.cs.toArray (0, 0) _ _ rfl rfl KF.hd Try.underlying29 rfl (by kernel_rfl)) rfl ⟨by rw [HV.out], by first | exact KF.belowA (by omega) | (rw [hp]; exact KF.belowA (by omega))⟩
  · have t1 : decide (c > 0) = false := decide_eq_false hcp
    obtain rfl : c = 0 := by omega
    have HV := Lib.hid (HV.out.trans (show rreadA s = finA (cntA 0) R by unfold rreadA; rw [if_neg (by rw [HC.out]; omega), HC.out, HR.out]))
    have HAO : Hid (Ag.ok (cntA 0)) := Ag0_ok
    have hRk := hC.1
    clear hcp hC
    have CE := fun wx hx => rrdr_end (p + 1) R wx hx hRk
    have CHK := fun wx => archeck_any (cntA 0) wx HAO.out
    have HLA : Hid (((cntA 0) : Ag).bk.length = 9) := HAO.out.2.2.2.2.2.2.1
    unfold Ag.val at CHK
    by_cases hf : (R).fin = 0
    · rw [hf] at CE
      rcases chkA_cases (cntA 0) with ⟨ho, hch⟩ | ⟨ho, hch⟩
      · rw [hch] at CHK
        have HV := Lib.hid (HV.out.trans (finA_pos hf ho))
        clear hf ho hch
        go_wp2_with (first
          | (go_at_call 57; refine (CE _ KK.out.rd).mono ?_; rintro e w8 ⟨rfl, dq⟩; have KK := Lib.hid (KK.out.step (dq.rdr KK.out.rd) dq.but); clear dq)
          | refine wpList_load_row_w (by first | rfl | kernel_rfl) 29 _ rfl q rfl 29 ((cntA 0) : Ag).cs.toArray (0, 0) _ KK.out.hd Try.underlying29 rfl (ag_size HLA.out) ?_
          | refine wpList_load_row rfl 29 _ rfl q rfl 29 ((cntA 0) : Ag).cs.toArray (0, 0) _ KK.out.hd Try.underlying29 rfl (ag_size HLA.out) ?_
          | (go_at_call 31; refine (CHK _).mono ?_; rintro e w9 ⟨rfl, dn⟩; have KK := Lib.hid (KK.out.below dn); clear dn)
          | refine wpList_store_row rfl 29 _ _ rfl p ((cntA 0) : Ag).cs.toArray rfl rfl 29 _ (KK.out.at_ (p, agO Ag0) (by simp)).2 (ag_size HLA.out) (ag_sz (by first | rfl | decide) HLA.out) (ag_one _) ?_)
        have KF := Kr.setRow (KK.out.sub (m := [(p, agO Ag0)]) (by simp)) trivial (by omega) (agO (cntA 0))
        refine bodyPost_ret (v := .tuple #[((cntA 0) : Ag).val, .int .i64 0]) (results_cell_tmpA rfl _ _ p 29 ((cntA 0) : Ag).cs.toArray (0, 0) _ _ rfl rfl KF.hd Try.underlying29 rfl (ag_size HLA.out)) rfl ⟨by rw [HV.out], by first | exact KF.belowA (by omega) | (rw [hp]; exact KF.belowA (by omega))⟩
      · rw [hch] at CHK
        have HV := Lib.hid (HV.out.trans (finA_neg (fun h => ho h.2)))
        clear hf ho hch
        go_wp2_with (first
          | (go_at_call 57; refine (CE _ KK.out.rd).mono ?_; rintro e w8 ⟨rfl, dq⟩; have KK := Lib.hid (KK.out.step (dq.rdr KK.out.rd) dq.but); clear dq)
          | refine wpList_load_row_w (by first | rfl | kernel_rfl) 29 _ rfl q rfl 29 ((cntA 0) : Ag).cs.toArray (0, 0) _ KK.out.hd Try.underlying29 rfl (ag_size HLA.out) ?_
          | (go_at_call 31; refine (CHK _).mono ?_; rintro e w9 ⟨rfl, dn⟩; have KK := Lib.hid (KK.out.below dn); clear dn)
          | (refine wpList_store_row rfl 29 _ _ rfl p Ag0.cs.toArray rfl rfl 29 _ (KK.out.at_ (p, agO Ag0) (by simp)).2 (by kernel_rfl) rfl (by simp [Value.oneCell', Ag0, Ag.cs]) ?_))
        have KF := Kr.setRow (KK.out.sub (m := [(p, agO Ag0)]) (by simp)) trivial (by omega) (agO Ag0)
        refine bodyPost_ret (v := .tuple #[Ag0.val, .int .i64 10]) (results_cell_tmpA rfl _ _ p 29 Ag0.cs.toArray (0, 0) _ _ rfl rfl KF.hd Try.underlying29 rfl (by kernel_rfl)) rfl ⟨by rw [HV.out], by first | exact KF.belowA (by omega) | (rw [hp]; exact KF.belowA (by omega))⟩
    · have hf10 : (R).fin = 10 := by unfold Rdr.fin at hf ⊢; split <;> simp_all
      rw [hf10] at CE
      have HV := Lib.hid (HV.out.trans (finA_neg (fun h => hf h.1)))
      clear hf hf10
      go_wp2_with (first
        | (go_at_call 57; refine (CE _ KK.out.rd).mono ?_; rintro e w8 ⟨rfl, dq⟩; have KK := Lib.hid (KK.out.step (dq.rdr KK.out.rd) dq.but); clear dq)
        | (refine wpList_store_row rfl 29 _ _ rfl p Ag0.cs.toArray rfl rfl 29 _ (KK.out.at_ (p, agO Ag0) (by simp)).2 (by kernel_rfl) rfl (by simp [Value.oneCell', Ag0, Ag.cs]) ?_))
      have KF := Kr.setRow (KK.out.sub (m := [(p, agO Ag0)]) (by simp)) trivial (by omega) (agO Ag0)
      refine bodyPost_ret (v := .tuple #[Ag0.val, .int .i64 10]) (results_cell_tmpA rfl _ _ p 29 Ag0.cs.toArray (0, 0) _ _ rfl rfl KF.hd Try.underlying29 rfl (by kernel_rfl)) rfl ⟨by rw [HV.out], by first | exact KF.belowA (by omega) | (rw [hp]; exact KF.belowA (by omega))⟩
end
end Go.Proofs.Ytojnooagifhekaa
