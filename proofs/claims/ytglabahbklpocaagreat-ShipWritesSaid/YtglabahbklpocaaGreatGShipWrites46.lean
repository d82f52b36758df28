/- The reference's Bytes of messages that bear records, given what its Check says. -/
import Derived.Test.YtglabahbklpocaaGreatGShipWrites45
namespace Go.Proofs.YtglabahbklpocaaGreat
section
open Go.RowKit Go.Deep
set_option maxRecDepth 100000
set_option linter.unusedVariables false
set_option linter.unusedSimpArgs false
attribute [local go_sem ↓] Go.wp_at_zero Go.wp_at_succ
set_option maxHeartbeats 16000000 in
theorem rbytes7_any (x : Wi) (rs : List RecA) (vs : List Int) (w : World) (hk : x.kind = 7) (hv : SlR w x.vec vs) (hr : RecsV w x.nr rs) (hid : 0 ≤ x.id ∧ x.id ≤ 1099511627776) (hn : x.nr.n ≤ 16) (hok : okRecs rs) (CH : ∀ wx, Below w.heap.size w wx → Calls Tryz.prog 17 #[.agg x.arr] wx fun e w' => e = .returned (.int .i64 0) ∧ Below wx.heap.size wx w') :
    Calls Tryz.prog 15 #[.agg x.arr] w fun e w' => e = .returned (.tuple #[.string (recsB (vput 7 ++ vput x.id ++ (vecB vs ++ vput x.nr.n)) rs), .int .i64 0]) ∧ Below w.heap.size w w' := by
  have HVV := Lib.hid hv
  have HRR := Lib.hid hr
  have MT := fun wx (hb : Below w.heap.size w wx) => rmtext_any x.vec.a x.vec.n x.vec.c vs wx ((HVV.out.below hb).r) HVV.out.nc HVV.out.cb
  have hms := vecB_le vs
  unfold vecB at hms ⊢
  generalize (⟨(mtB (pl vs)).toArray⟩ : ByteArray) = M at *
  have hrn : rs.length = x.nr.n := hr.r.1
  have HOKR := Lib.hid hok
  clear hv HVV hr hok
  obtain ⟨kind, id, series, from_, to_, np, ⟨ra, rn, rc⟩, vec, time⟩ := x
  simp only at hk
  subst hk
  unfold Wi.arr at *
  simp only at *
  go_enter Tryz.func15, Tryz.ntmps15
  go_upto_region 1 with fail
  generalize hw1 : World.alloc _ _ = w1
  have KK := Lib.hid (show Kn w.heap.size w [(w.heap.size, wiO ⟨7, id, series, from_, to_, np, ⟨ra, rn, rc⟩, vec, time⟩)] w1 by rw [← hw1]; exact (Kn.start w).new' rfl (wiO ⟨7, id, series, from_, to_, np, ⟨ra, rn, rc⟩, vec, time⟩))
  clear hw1
  obtain ⟨g, hg⟩ : ∃ g, w.heap.size = g := ⟨_, rfl⟩
  rw [hg] at KK CH MT ⊢
  go_upto_region 4 with (first
    | refine wpList_load_row rfl 33 _ rfl g rfl 33 (Wi.arr ⟨7, id, series, from_, to_, np, ⟨ra, rn, rc⟩, vec, time⟩) (0, 0) _ KK.out.hd Tryz.underlying33 rfl (by kernel_rfl) ?_
    | (go_at_call 17; refine (CH _ KK.out.b).mono ?_; rintro e w2 ⟨rfl, dn⟩; have KK := Lib.hid (KK.out.below dn); clear dn))
  have z1 := vput_le 7
  have z2 := vput_le id
  have n1 : ¬ (9223372036854775807 < (vput 7).size + (vput id).size) := by omega
  have u1 : IntKind.u64.wrap id = id := by rw [wrap_u64]; omega
  have u0 : IntKind.u64.wrap 7 = 7 := by rw [wrap_u64]; rfl
  refine wp_region_held_drew (S := (fun wx => wx.cell? ⟨g, 0, none⟩ = some (.int .i64 7) ∧ wx.cell? ⟨g, 1, none⟩ = some (.int .i64 id))) (by kernel_rfl) ?_ (fun hHeld => ?_)
  focus ((try dsimp only); (try (exact wh_held KK.out rfl)); done)
  (refine wpAnyH_take (i := 0) (oi := { dst := some 16, op := Go.Op.fieldAddr 33 (Go.Operand.tmp 1) 0, type := 0, pos := _, after := _, guard := none }) (v := ?_) rfl (by kernel_rfl) (by kernel_rfl) (by kernel_rfl) (fun _ _ _ h => h) (Or.inl ⟨by rfl, ?_⟩) (by assumption) ?_; rotate_left; (focus (intro w hSw; ((try dsimp only at hSw); go_simp; try with_reducible rfl))); (try simp only [Act.put, sA, sZ, sS]))
  (refine wpAnyH_take (i := 1) (oi := { dst := some 17, op := Go.Op.load 3 (Go.Operand.tmp 16), type := 3, pos := _, after := _, guard := none }) (v := ?_) rfl (by kernel_rfl) (by kernel_rfl) (by kernel_rfl) (fun _ _ _ h => h) (Or.inl ⟨by rfl, ?_⟩) (by assumption) ?_; rotate_left; (focus (intro w hSw; ((try dsimp only at hSw); go_simp; try with_reducible rfl))); (try simp only [Act.put, sA, sZ, sS]))
  (refine wpAnyH_take (i := 2) (oi := { dst := some 18, op := Go.Op.convert 3 92 (Go.Operand.tmp 17), type := 92, pos := _, after := _, guard := none }) (v := ?_) rfl (by kernel_rfl) (by kernel_rfl) (by kernel_rfl) (fun _ _ _ h => h) (Or.inl ⟨by rfl, ?_⟩) (by assumption) ?_; rotate_left; (focus (intro w hSw; ((try dsimp only at hSw); go_simp; try with_reducible rfl))); (try simp only [Act.put, sA, sZ, sS]))
  (refine wpAnyH_take (i := 4) (oi := { dst := some 20, op := Go.Op.fieldAddr 33 (Go.Operand.tmp 1) 1, type := 0, pos := _, after := _, guard := none }) (v := ?_) rfl (by kernel_rfl) (by kernel_rfl) (by kernel_rfl) (fun _ _ _ h => h) (Or.inl ⟨by rfl, ?_⟩) (by assumption) ?_; rotate_left; (focus (intro w hSw; ((try dsimp only at hSw); go_simp; try with_reducible rfl))); (try simp only [Act.put, sA, sZ, sS]))
  (refine wpAnyH_take (i := 5) (oi := { dst := some 21, op := Go.Op.load 3 (Go.Operand.tmp 20), type := 3, pos := _, after := _, guard := none }) (v := ?_) rfl (by kernel_rfl) (by kernel_rfl) (by kernel_rfl) (fun _ _ _ h => h) (Or.inl ⟨by rfl, ?_⟩) (by assumption) ?_; rotate_left; (focus (intro w hSw; ((try dsimp only at hSw); go_simp; try with_reducible rfl))); (try simp only [Act.put, sA, sZ, sS]))
  (refine wpAnyH_take (i := 6) (oi := { dst := some 22, op := Go.Op.convert 3 92 (Go.Operand.tmp 21), type := 92, pos := _, after := _, guard := none }) (v := ?_) rfl (by kernel_rfl) (by kernel_rfl) (by kernel_rfl) (fun _ _ _ h => h) (Or.inl ⟨by rfl, ?_⟩) (by assumption) ?_; rotate_left; (focus (intro w hSw; ((try dsimp only at hSw); go_simp; try with_reducible rfl))); (try simp only [Act.put, sA, sZ, sS]))
  (refine wpAnyH_ready (rs := [3]) (by kernel_rfl) (by simp) ?_; refine AllReadyH.cons (o := { dst := some 19, op := Go.Op.call { callee := Go.Callee.value (Go.Operand.func 55), args := #[Go.Operand.tmp 18], argTypes := #[92] }, type := 9, pos := _, after := _, guard := none }) rfl (fun K hK => ?_) AllReadyH.nil; go_simp; ((go_at_call 55; refine (rput_any _ _ (by first | decide | omega) (by first | decide | omega)).mono ?_; rintro e wn ⟨rfl, dn⟩; have KK := Lib.hid (Kn.later KK.out dn rfl rfl rfl rfl))); go_wp2_with fail; refine hK.out _ _ ?_ (fun hHeld => ?_); (focus ((try dsimp only); (try (exact wh_held KK.out rfl)); done)); clear hK; (try simp only [Act.put, sA, sZ, sS]))
  (refine wpAnyH_ready (rs := [7]) (by kernel_rfl) (by simp) ?_; refine AllReadyH.cons (o := { dst := some 23, op := Go.Op.call { callee := Go.Callee.value (Go.Operand.func 55), args := #[Go.Operand.tmp 22], argTypes := #[92] }, type := 9, pos := _, after := _, guard := none }) rfl (fun K hK => ?_) AllReadyH.nil; go_simp; ((go_at_call 55; refine (rput_any _ _ (by first | decide | omega) (by first | decide | omega)).mono ?_; rintro e wn ⟨rfl, dn⟩; have KK := Lib.hid (Kn.later KK.out dn rfl rfl rfl rfl))); go_wp2_with fail; refine hK.out _ _ ?_ (fun hHeld => ?_); (focus ((try dsimp only); (try (exact wh_held KK.out rfl)); done)); clear hK; (try simp only [Act.put, sA, sZ, sS]))
  (refine wpAnyH_take (i := 8) (oi := { dst := some 24, op := Go.Op.binOp Go.BinOp.add 9 (Go.Operand.tmp 19) (Go.Operand.tmp 23) 9, type := 9, pos := _, after := _, guard := none }) (v := ?_) rfl (by kernel_rfl) (by kernel_rfl) (by kernel_rfl) (fun _ _ _ h => h) (Or.inl ⟨by rfl, ?_⟩) (by assumption) ?_; rotate_left; (focus (intro w hSw; ((try dsimp only at hSw); go_simp; try with_reducible rfl))); (try simp only [Act.put, sA, sZ, sS]))
  (refine wpAnyH_take (i := 9) (oi := { dst := some 5, op := Go.Op.assign (Go.Operand.tmp 24), type := 9, pos := _, after := _, guard := none }) (v := ?_) rfl (by kernel_rfl) (by kernel_rfl) (by kernel_rfl) (fun _ _ _ h => h) (Or.inl ⟨by rfl, ?_⟩) (by assumption) ?_; rotate_left; (focus (intro w hSw; ((try dsimp only at hSw); go_simp; try with_reducible rfl))); (try simp only [Act.put, sA, sZ, sS]))
  refine wpAnyH_done (by kernel_rfl) ?_ _
  clear hHeld
  have c0 := (wi_cells KK.out.hd rfl).c0
  simp only at c0
  have z6 := vput_le rn
  have u2 : IntKind.u64.wrap (rn : Int) = rn := by rw [wrap_u64]; omega
  go_upto_region 17 with fail
  have n4 : ¬ (9223372036854775807 < (vput 7 ++ vput id).size + M.size) := by rw [ByteArray.size_append]; omega
  have n4' : ¬ (9223372036854775807 < (vput 7).size + (vput id).size + M.size) := by omega
  have n5 : ¬ (9223372036854775807 < (vput 7 ++ vput id ++ M).size + (vput rn).size) := by rw [ByteArray.size_append, ByteArray.size_append]; omega
  have n5' : ¬ (9223372036854775807 < (vput 7).size + (vput id).size + M.size + (vput rn).size) := by omega
  refine wp_region_held_drew (S := (fun wx => wx.cell? ⟨g, 6, none⟩ = some (.slice ra rn rc) ∧ wx.cell? ⟨g, 7, none⟩ = some (.slice vec.a vec.n vec.c))) (by kernel_rfl) ?_ (fun hHeld => ?_)
  focus ((try dsimp only); (try (exact ⟨(wi_cells KK.out.hd rfl).c6, (wi_cells KK.out.hd rfl).c7⟩)); done)
  (refine wpAnyH_take (i := 0) (oi := { dst := some 76, op := Go.Op.move (Go.Operand.tmp 5), type := 9, pos := _, after := _, guard := none }) (v := ?_) rfl (by kernel_rfl) (by kernel_rfl) (by kernel_rfl) (fun _ _ _ h => h) (Or.inl ⟨by rfl, ?_⟩) (by assumption) ?_; rotate_left; (focus (intro w hSw; ((try dsimp only at hSw); go_simp; try with_reducible rfl))); (try simp only [Act.put, sA, sZ, sS]))
  (refine wpAnyH_take (i := 1) (oi := { dst := some 77, op := Go.Op.fieldAddr 33 (Go.Operand.tmp 1) 6, type := 0, pos := _, after := _, guard := none }) (v := ?_) rfl (by kernel_rfl) (by kernel_rfl) (by kernel_rfl) (fun _ _ _ h => h) (Or.inl ⟨by rfl, ?_⟩) (by assumption) ?_; rotate_left; (focus (intro w hSw; ((try dsimp only at hSw); go_simp; try with_reducible rfl))); (try simp only [Act.put, sA, sZ, sS]))
  (refine wpAnyH_take (i := 2) (oi := { dst := some 78, op := Go.Op.load 23 (Go.Operand.tmp 77), type := 23, pos := _, after := _, guard := none }) (v := ?_) rfl (by kernel_rfl) (by kernel_rfl) (by kernel_rfl) (fun _ _ _ h => h) (Or.inl ⟨by rfl, ?_⟩) (by assumption) ?_; rotate_left; (focus (intro w hSw; ((try dsimp only at hSw); go_simp; try with_reducible rfl))); (try simp only [Act.put, sA, sZ, sS]))
  (refine wpAnyH_take (i := 5) (oi := { dst := some 81, op := Go.Op.fieldAddr 33 (Go.Operand.tmp 1) 5, type := 0, pos := _, after := _, guard := none }) (v := ?_) rfl (by kernel_rfl) (by kernel_rfl) (by kernel_rfl) (fun _ _ _ h => h) (Or.inl ⟨by rfl, ?_⟩) (by assumption) ?_; rotate_left; (focus (intro w hSw; ((try dsimp only at hSw); go_simp; try with_reducible rfl))); (try simp only [Act.put, sA, sZ, sS]))
  (refine wpAnyH_take (i := 6) (oi := { dst := some 82, op := Go.Op.load 22 (Go.Operand.tmp 81), type := 22, pos := _, after := _, guard := none }) (v := ?_) rfl (by kernel_rfl) (by kernel_rfl) (by kernel_rfl) (fun _ _ _ h => h) (Or.inl ⟨by rfl, ?_⟩) (by assumption) ?_; rotate_left; (focus (intro w hSw; ((try dsimp only at hSw); go_simp; try with_reducible rfl))); (try simp only [Act.put, sA, sZ, sS]))
  (refine wpAnyH_take (i := 7) (oi := { dst := some 83, op := Go.Op.call { callee := Go.Callee.builtin Go.Builtin.len, args := #[Go.Operand.tmp 82], argTypes := #[22] }, type := 3, pos := _, after := _, guard := none }) (v := ?_) rfl (by kernel_rfl) (by kernel_rfl) (by kernel_rfl) (fun _ _ _ h => h) (Or.inl ⟨by rfl, ?_⟩) (by assumption) ?_; rotate_left; (focus (intro w hSw; ((try dsimp only at hSw); go_simp; try with_reducible rfl))); (try simp only [Act.put, sA, sZ, sS]))
  (refine wpAnyH_take (i := 8) (oi := { dst := some 84, op := Go.Op.convert 3 92 (Go.Operand.tmp 83), type := 92, pos := _, after := _, guard := none }) (v := ?_) rfl (by kernel_rfl) (by kernel_rfl) (by kernel_rfl) (fun _ _ _ h => h) (Or.inl ⟨by rfl, ?_⟩) (by assumption) ?_; rotate_left; (focus (intro w hSw; ((try dsimp only at hSw); go_simp; try with_reducible rfl))); (try simp only [Act.put, sA, sZ, sS]))
  (refine wpAnyH_ready (rs := [3]) (by kernel_rfl) (by simp) ?_; refine AllReadyH.cons (o := { dst := some 79, op := Go.Op.call { callee := Go.Callee.value (Go.Operand.func 58), args := #[Go.Operand.tmp 78], argTypes := #[23] }, type := 9, pos := _, after := _, guard := none }) rfl (fun K hK => ?_) AllReadyH.nil; go_simp; ((first | (go_at_call 58; refine (MT _ (Kn.same KK.out (by rfl) (by rfl) (by rfl) (by rfl)).b).mono ?_; rintro e wn ⟨rfl, dn⟩; have KK := Lib.hid (Kn.later KK.out dn rfl rfl rfl rfl)) | (go_at_call 55; refine (rput_any _ _ (by omega) (by omega)).mono ?_; rintro e wn ⟨rfl, dn⟩; have KK := Lib.hid (Kn.later KK.out dn rfl rfl rfl rfl)))); go_wp2_with fail; refine hK.out _ _ ?_ (fun hHeld => ?_); (focus ((try dsimp only); (try (exact ⟨(wi_cells KK.out.hd rfl).c6, (wi_cells KK.out.hd rfl).c7⟩)); done)); clear hK; (try simp only [Act.put, sA, sZ, sS]))
  (refine wpAnyH_take (i := 4) (oi := { dst := some 80, op := Go.Op.binOp Go.BinOp.add 9 (Go.Operand.tmp 76) (Go.Operand.tmp 79) 9, type := 9, pos := _, after := _, guard := none }) (v := ?_) rfl (by kernel_rfl) (by kernel_rfl) (by kernel_rfl) (fun _ _ _ h => h) (Or.inl ⟨by rfl, ?_⟩) (by assumption) ?_; rotate_left; (focus (intro w hSw; ((try dsimp only at hSw); go_simp; try with_reducible rfl))); (try simp only [Act.put, sA, sZ, sS]))
  (refine wpAnyH_ready (rs := [9]) (by kernel_rfl) (by simp) ?_; refine AllReadyH.cons (o := { dst := some 85, op := Go.Op.call { callee := Go.Callee.value (Go.Operand.func 55), args := #[Go.Operand.tmp 84], argTypes := #[92] }, type := 9, pos := _, after := _, guard := none }) rfl (fun K hK => ?_) AllReadyH.nil; go_simp; ((first | (go_at_call 58; refine (MT _ (Kn.same KK.out (by rfl) (by rfl) (by rfl) (by rfl)).b).mono ?_; rintro e wn ⟨rfl, dn⟩; have KK := Lib.hid (Kn.later KK.out dn rfl rfl rfl rfl)) | (go_at_call 55; refine (rput_any _ _ (by omega) (by omega)).mono ?_; rintro e wn ⟨rfl, dn⟩; have KK := Lib.hid (Kn.later KK.out dn rfl rfl rfl rfl)))); go_wp2_with fail; refine hK.out _ _ ?_ (fun hHeld => ?_); (focus ((try dsimp only); (try (exact ⟨(wi_cells KK.out.hd rfl).c6, (wi_cells KK.out.hd rfl).c7⟩)); done)); clear hK; (try simp only [Act.put, sA, sZ, sS]))
  (refine wpAnyH_take (i := 10) (oi := { dst := some 86, op := Go.Op.binOp Go.BinOp.add 9 (Go.Operand.tmp 80) (Go.Operand.tmp 85) 9, type := 9, pos := _, after := _, guard := none }) (v := ?_) rfl (by kernel_rfl) (by kernel_rfl) (by kernel_rfl) (fun _ _ _ h => h) (Or.inl ⟨by rfl, ?_⟩) (by assumption) ?_; rotate_left; (focus (intro w hSw; ((try dsimp only at hSw); go_simp; try with_reducible rfl))); (try simp only [Act.put, sA, sZ, sS]))
  (refine wpAnyH_take (i := 11) (oi := { dst := some 5, op := Go.Op.assign (Go.Operand.tmp 86), type := 9, pos := _, after := _, guard := none }) (v := ?_) rfl (by kernel_rfl) (by kernel_rfl) (by kernel_rfl) (fun _ _ _ h => h) (Or.inl ⟨by rfl, ?_⟩) (by assumption) ?_; rotate_left; (focus (intro w hSw; ((try dsimp only at hSw); go_simp; try with_reducible rfl))); (try simp only [Act.put, sA, sZ, sS]))
  refine wpAnyH_done (by kernel_rfl) ?_ _
  clear hHeld n4 n5 n4' n5'
  clear c0 MT CH
  have hP0 : (vput 7 ++ vput id ++ M ++ vput rn).size ≤ 2000 := by rw [ByteArray.size_append, ByteArray.size_append, ByteArray.size_append]; omega
  obtain ⟨P0, HPE⟩ : ∃ P, Hid (vput 7 ++ vput id ++ M ++ vput rn = P) := ⟨_, rfl⟩
  rw [HPE.out] at hP0
  try rw [HPE.out]
  go_wp2_with fail
  go_loopw [5, 8, 9, 10] (fun s i _ _ wr => ∃ k : Nat, k ≤ rn ∧ i = .int .i64 k ∧ s = .string (recsB P0 (rs.take k)) ∧ (recsB P0 (rs.take k)).size ≤ 2000 + 4000 * k ∧ Kn g w [(g, wiO ⟨7, id, series, from_, to_, np, ⟨ra, rn, rc⟩, vec, time⟩)] wr) (fun _ i _ _ _ => rn - (intOf i).toNat)
  case atStart => exact ⟨0, by omega, rfl, by rw [List.take_zero]; rfl, by rw [List.take_zero]; exact hP0, KK.out⟩
  case round =>
    obtain ⟨k, hk, rfl, rfl, hsz, hK⟩ := hrel
    clear KK
    have KK := Lib.hid hK
    clear hK
    have c6 := (wi_cells KK.out.hd rfl).c6
    simp only at c6
    by_cases hlt : k < rn
    · have t2 : decide ((k : Int) < (rn : Int)) = true := decide_eq_true (by omega)
      obtain ⟨b, o, xr, rfl, hbl, hxk, hC⟩ := HRR.out.r.at (by rw [hg]; exact KK.out.b) k hlt
      obtain ⟨a0, a1, a2, a3, a4, a5, a6, a7, a8⟩ := rec_cells9 hC
      have i1 : (0 : Int) ≤ (k : Int) := by omega
      have i2 : (k : Int) < (rn : Int) := by omega
      have hxm := List.mem_of_getElem? hxk
      have hxp := HOKR.out xr hxm
      have hxo := HRR.out.ok xr hxm
      have SB := fun wx (hb : Below w.heap.size w wx) => rsbytes_any xr.r xr.d xr.ds wx hxo.wf (hxo.below hb).sl
      rw [recB_pos hxp, chkR_0 hxp] at SB
      have hrl := recT_le hxp
      have TX := fun wx => rtext_any (recT xr.r xr.ds) wx (by omega)
      have htl := vtext_le3 (recT xr.r xr.ds) hrl
      have HT : Hid (recsB P0 (rs.take (k + 1)) = recsB P0 (rs.take k) ++ vtext (recT xr.r xr.ds)) := by
        show _ = _
        rw [List.take_add_one, hxk]
        exact recsB_snoc _ _ _
      generalize recT xr.r xr.ds = TT at *
      generalize vtext TT = VT at *
      generalize recsB P0 (rs.take k) = Sk at *
      unfold rcVal rcA at SB
      have n6 : ¬ (9223372036854775807 < Sk.size + VT.size) := by omega
      clear hC hxk hxm hxp hxo
      go_wp2_with (first
        | (go_at_call 59; refine (SB _ (by rw [hg]; exact KK.out.b)).mono ?_; rintro e w4 ⟨rfl, dn⟩; have KK := Lib.hid (KK.out.below dn); clear dn)
        | (go_at_call 57; refine (TX _).mono ?_; rintro e w5 ⟨rfl, dn⟩; have KK := Lib.hid (KK.out.below dn); clear dn))
      go_roundw
      case rel => exact ⟨k + 1, by omega, by go_num, by rw [HT.out], by rw [HT.out, ByteArray.size_append]; omega, KK.out⟩
      case measure => simp [intOf]; omega
    · obtain rfl : k = rn := by omega
      have t2 : decide ((k : Int) < (k : Int)) = false := decide_eq_false (by omega)
      have HF : Hid (recsB P0 (rs.take k) = recsB P0 rs) := by show _ = _; rw [List.take_of_length_le (by omega)]
      go_wp2_with fail
      refine bodyPost_ret (v := .tuple #[.string (recsB P0 (rs.take k)), .int .i64 0]) (by simp [results, Tryz.results15, go_sem, *]) rfl ⟨by rw [HF.out, ← HPE.out, ByteArray.append_assoc], by rw [hg]; exact KK.out.b⟩
end
end Go.Proofs.YtglabahbklpocaaGreat
