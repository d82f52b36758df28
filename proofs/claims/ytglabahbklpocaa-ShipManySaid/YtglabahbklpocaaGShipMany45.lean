/- ship.Bytes: what may not be, and messages that bear points; ship.Check of kinds that are none. -/
import Derived.Test.YtglabahbklpocaaGShipMany43
import Derived.Test.YtglabahbklpocaaGShipMany36
import Derived.Test.YtglabahbklpocaaGShipMany44
namespace Go.Proofs.Ytglabahbklpocaa
section
open Go.RowKit Go.Deep
set_option maxRecDepth 100000
set_option linter.unusedVariables false
set_option linter.unusedSimpArgs false
attribute [local go_sem ↓] Go.wp_at_zero Go.wp_at_succ
set_option maxHeartbeats 4000000 in
theorem check0_any (x : Wi) (w : World) (hk : x.kind = 0) : Calls Try.prog 46 #[.agg x.arr] w fun e w' => e = .returned (.int .i64 1) ∧ Below w.heap.size w w' := by
  obtain ⟨kind, id, series, from_, to_, np, nr, vec, time⟩ := x
  simp only at hk
  subst hk
  unfold Wi.arr at *
  simp only
  go_enter Try.func46, Try.ntmps46
  go_upto_region 2 with fail
  generalize hw1 : World.alloc _ _ = w1
  have KK := Lib.hid (show Kn w.heap.size w [(w.heap.size, wiO ⟨0, id, series, from_, to_, np, nr, vec, time⟩)] w1 by rw [← hw1]; exact (Kn.start w).new' rfl (wiO ⟨0, id, series, from_, to_, np, nr, vec, time⟩))
  clear hw1
  generalize hg : w.heap.size = g at *
  have c0 := (wi_cells KK.out.hd rfl).c0
  simp only at c0
  go_wp2_with fail
  go_step3
  go_wp2_with fail
  go_step3
  go_wp2_with fail
  first | rw [Exit.noGoto_ret] | skip
  go_ret
  exact ⟨rfl, by first | exact KK.out.b | (rw [hg]; exact KK.out.b)⟩
set_option maxHeartbeats 4000000 in
theorem bytesE_any (x : Wi) (w : World) (CH : ∀ wx, Below w.heap.size w wx → Calls Try.prog 46 #[.agg x.arr] wx fun e w' => e = .returned (.int .i64 1) ∧ Below wx.heap.size wx w') : Calls Try.prog 28 #[.agg x.arr] w fun e w' => e = .returned (.tuple #[.string ⟨#[]⟩, .int .i64 1]) ∧ Below w.heap.size w w' := by
  obtain ⟨kind, id, series, from_, to_, np, nr, vec, time⟩ := x
  unfold Wi.arr at *
  simp only at CH ⊢
  go_enter Try.func28, Try.ntmps28
  go_upto_region 1 with fail
  generalize hw1 : World.alloc _ _ = w1
  have KK := Lib.hid (show Kn w.heap.size w [(w.heap.size, wiO ⟨kind, id, series, from_, to_, np, nr, vec, time⟩)] w1 by rw [← hw1]; exact (Kn.start w).new' rfl (wiO ⟨kind, id, series, from_, to_, np, nr, vec, time⟩))
  clear hw1
  generalize hg : w.heap.size = g at *
  go_wp2_with (first
    | refine wpList_load_row rfl 53 _ rfl g rfl 53 (Wi.arr ⟨kind, id, series, from_, to_, np, nr, vec, time⟩) (0, 0) _ KK.out.hd Try.underlying53 rfl (by kernel_rfl) ?_
    | (go_at_call 46; refine (CH _ KK.out.b).mono ?_; rintro e w2 ⟨rfl, dn⟩; have KK := Lib.hid (KK.out.below dn); clear dn))
  refine bodyPost_ret (v := .tuple #[.string ⟨#[]⟩, .int .i64 1]) (by simp [results, Try.results28, go_sem, *]) rfl ⟨rfl, by first | exact KK.out.b | (rw [hg]; exact KK.out.b)⟩
set_option maxHeartbeats 8000000 in
theorem bytes1_any (x : Wi) (ps : List Pt) (w : World) (hk : x.kind = 1) (hf : i64' x.from_) (ht : i64' x.to_) (hp : SlP w x.np ps) (hid : idV x.id = true) (hno : x.none true false false false false = true) (hn : x.np.n ≤ 200) (hok : okPts ps) :
    Calls Try.prog 28 #[.agg x.arr] w fun e w' => e = .returned (.tuple #[.string (vput 1 ++ vput x.id ++ vtext ⟨(ptsL ps).toArray⟩), .int .i64 0]) ∧ Below w.heap.size w w' := by
  have HPP := Lib.hid hp
  have hlen : ps.length = x.np.n := hp.r.1
  have CH := fun wx (hb : Below w.heap.size w wx) => check1_any x ps wx hk hf ht (HPP.out.below hb)
  rw [if_pos ⟨hno, decide_eq_true (by omega), okB_true hok, hid⟩] at CH
  have MT := fun wx (hb : Below w.heap.size w wx) => points_any x.np.a x.np.n x.np.c ps wx ((HPP.out.below hb).r) HPP.out.wf HPP.out.nc HPP.out.cb
  have e0 : ptsV ps = (⟨(ptsL ps).toArray⟩, 0) := by unfold ptsV; rw [if_pos hok, if_pos (by omega)]
  rw [e0] at MT
  simp only at MT
  have hid : 0 ≤ x.id ∧ x.id ≤ 1099511627776 := by unfold idV at hid; simpa using hid
  have hms : (⟨(ptsL ps).toArray⟩ : ByteArray).size ≤ 100000 := by
    show (ptsL ps).length ≤ _
    have := ptsL_le hok
    omega
  have TX := fun wx => text_any (⟨(ptsL ps).toArray⟩ : ByteArray) wx (by omega)
  have htx : (vtext (⟨(ptsL ps).toArray⟩ : ByteArray)).size ≤ 200000 := by
    have h1 : (vtext (⟨(ptsL ps).toArray⟩ : ByteArray)).data.toList.length = (tb ⟨(ptsL ps).toArray⟩).length := by rw [vtext_data]
    have h2 : (tb (⟨(ptsL ps).toArray⟩ : ByteArray)).length ≤ 200000 := by
      unfold tb
      rw [List.length_append]
      have h3 := putB_le ((⟨(ptsL ps).toArray⟩ : ByteArray).size : Int)
      have h4 : (⟨(ptsL ps).toArray⟩ : ByteArray).data.toList.length = (⟨(ptsL ps).toArray⟩ : ByteArray).size := by simp; rfl
      omega
    have h5 : (vtext (⟨(ptsL ps).toArray⟩ : ByteArray)).data.toList.length = (vtext (⟨(ptsL ps).toArray⟩ : ByteArray)).size := by simp
    omega
  generalize (⟨(ptsL ps).toArray⟩ : ByteArray) = P at *
  generalize vtext P = M at *
  clear hf ht hno hp HPP e0 hok hlen
  obtain ⟨kind, id, series, from_, to_, np, nr, vec, time⟩ := x
  simp only at hk
  subst hk
  unfold Wi.arr at *
  simp only at CH MT hid ⊢
  go_enter Try.func28, Try.ntmps28
  go_upto_region 1 with fail
  generalize hw1 : World.alloc _ _ = w1
  have KK := Lib.hid (show Kn w.heap.size w [(w.heap.size, wiO ⟨1, id, series, from_, to_, np, nr, vec, time⟩)] w1 by rw [← hw1]; exact (Kn.start w).new' rfl (wiO ⟨1, id, series, from_, to_, np, nr, vec, time⟩))
  clear hw1
  generalize hg : w.heap.size = g at *
  go_upto_region 4 with (first
    | refine wpList_load_row rfl 53 _ rfl g rfl 53 (Wi.arr ⟨1, id, series, from_, to_, np, nr, vec, time⟩) (0, 0) _ KK.out.hd Try.underlying53 rfl (by kernel_rfl) ?_
    | (go_at_call 46; refine (CH _ KK.out.b).mono ?_; rintro e w2 ⟨rfl, dn⟩; have KK := Lib.hid (KK.out.below dn); clear dn))
  have z1 := vput_le 1
  have z2 := vput_le id
  have n1 : ¬ (9223372036854775807 < (vput 1).size + (vput id).size) := by omega
  refine wp_region_held_drew (S := (fun wx => wx.cell? ⟨g, 0, none⟩ = some (.int .i64 1) ∧ wx.cell? ⟨g, 1, none⟩ = some (.int .i64 id))) (by kernel_rfl) ?_ (fun hHeld => ?_)
  focus ((try dsimp only); (try (exact wh_held KK.out rfl)); done)
  (refine wpAnyH_take (i := 0) (oi := { dst := some 17, op := Go.Op.fieldAddr 53 (Go.Operand.tmp 1) 0, type := 0, pos := "ship.go:59", after := #[], guard := none }) (v := ?_) rfl (by kernel_rfl) (by kernel_rfl) (by kernel_rfl) (fun _ _ _ h => h) (Or.inl ⟨by rfl, ?_⟩) (by assumption) ?_; rotate_left; (focus (intro w hSw; ((try dsimp only at hSw); go_simp; try with_reducible rfl))); (try simp only [Act.put, List.setIfInBounds_toArray, List.set_cons_zero, List.set_cons_succ]))
  (refine wpAnyH_take (i := 1) (oi := { dst := some 18, op := Go.Op.load 3 (Go.Operand.tmp 17), type := 3, pos := "ship.go:59", after := #[{ on := 0, ground := Go.Ground.data }], guard := none }) (v := ?_) rfl (by kernel_rfl) (by kernel_rfl) (by kernel_rfl) (fun _ _ _ h => h) (Or.inl ⟨by rfl, ?_⟩) (by assumption) ?_; rotate_left; (focus (intro w hSw; ((try dsimp only at hSw); go_simp; try with_reducible rfl))); (try simp only [Act.put, List.setIfInBounds_toArray, List.set_cons_zero, List.set_cons_succ]))
  (refine wpAnyH_take (i := 3) (oi := { dst := some 20, op := Go.Op.fieldAddr 53 (Go.Operand.tmp 1) 1, type := 0, pos := "ship.go:59", after := #[], guard := none }) (v := ?_) rfl (by kernel_rfl) (by kernel_rfl) (by kernel_rfl) (fun _ _ _ h => h) (Or.inl ⟨by rfl, ?_⟩) (by assumption) ?_; rotate_left; (focus (intro w hSw; ((try dsimp only at hSw); go_simp; try with_reducible rfl))); (try simp only [Act.put, List.setIfInBounds_toArray, List.set_cons_zero, List.set_cons_succ]))
  (refine wpAnyH_take (i := 4) (oi := { dst := some 21, op := Go.Op.load 3 (Go.Operand.tmp 20), type := 3, pos := "ship.go:59", after := #[{ on := 3, ground := Go.Ground.data }], guard := none }) (v := ?_) rfl (by kernel_rfl) (by kernel_rfl) (by kernel_rfl) (fun _ _ _ h => h) (Or.inl ⟨by rfl, ?_⟩) (by assumption) ?_; rotate_left; (focus (intro w hSw; ((try dsimp only at hSw); go_simp; try with_reducible rfl))); (try simp only [Act.put, List.setIfInBounds_toArray, List.set_cons_zero, List.set_cons_succ]))
  (refine wpAnyH_ready (rs := [2]) (by kernel_rfl) (by simp) ?_; refine AllReadyH.cons (o := { dst := some 19, op := Go.Op.call { callee := Go.Callee.value (Go.Operand.func 47), args := #[Go.Operand.tmp 18], argTypes := #[3] }, type := 9, pos := "ship.go:59", after := #[{ on := 1, ground := Go.Ground.data }], guard := none }) rfl (fun K hK => ?_) AllReadyH.nil; go_simp; ((go_at_call 47; refine (hnum_any _ _ (by first | decide | omega) (by first | decide | omega)).mono ?_; rintro e wn ⟨rfl, dn⟩; have KK := Lib.hid (Kn.later KK.out dn rfl rfl rfl rfl))); go_wp2_with fail; refine hK.out _ _ ?_ (fun hHeld => ?_); (focus ((try dsimp only); (try (exact wh_held KK.out rfl)); done)); clear hK; (try simp only [Act.put, List.setIfInBounds_toArray, List.set_cons_zero, List.set_cons_succ]))
  (refine wpAnyH_ready (rs := [5]) (by kernel_rfl) (by simp) ?_; refine AllReadyH.cons (o := { dst := some 22, op := Go.Op.call { callee := Go.Callee.value (Go.Operand.func 47), args := #[Go.Operand.tmp 21], argTypes := #[3] }, type := 9, pos := "ship.go:59", after := #[{ on := 4, ground := Go.Ground.data }, { on := 2, ground := Go.Ground.chain }], guard := none }) rfl (fun K hK => ?_) AllReadyH.nil; go_simp; ((go_at_call 47; refine (hnum_any _ _ (by first | decide | omega) (by first | decide | omega)).mono ?_; rintro e wn ⟨rfl, dn⟩; have KK := Lib.hid (Kn.later KK.out dn rfl rfl rfl rfl))); go_wp2_with fail; refine hK.out _ _ ?_ (fun hHeld => ?_); (focus ((try dsimp only); (try (exact wh_held KK.out rfl)); done)); clear hK; (try simp only [Act.put, List.setIfInBounds_toArray, List.set_cons_zero, List.set_cons_succ]))
  (refine wpAnyH_take (i := 6) (oi := { dst := some 23, op := Go.Op.binOp Go.BinOp.add 9 (Go.Operand.tmp 19) (Go.Operand.tmp 22) 9, type := 9, pos := "ship.go:59", after := #[{ on := 2, ground := Go.Ground.data }, { on := 5, ground := Go.Ground.data }], guard := none }) (v := ?_) rfl (by kernel_rfl) (by kernel_rfl) (by kernel_rfl) (fun _ _ _ h => h) (Or.inl ⟨by rfl, ?_⟩) (by assumption) ?_; rotate_left; (focus (intro w hSw; ((try dsimp only at hSw); go_simp; try with_reducible rfl))); (try simp only [Act.put, List.setIfInBounds_toArray, List.set_cons_zero, List.set_cons_succ]))
  (refine wpAnyH_take (i := 7) (oi := { dst := some 5, op := Go.Op.assign (Go.Operand.tmp 23), type := 9, pos := "ship.go:59", after := #[{ on := 6, ground := Go.Ground.data }, { on := 5, ground := Go.Ground.chain }, { on := 0, ground := Go.Ground.phase }, { on := 1, ground := Go.Ground.phase }, { on := 2, ground := Go.Ground.phase }, { on := 3, ground := Go.Ground.phase }, { on := 4, ground := Go.Ground.phase }, { on := 5, ground := Go.Ground.phase }, { on := 6, ground := Go.Ground.phase }], guard := none }) (v := ?_) rfl (by kernel_rfl) (by kernel_rfl) (by kernel_rfl) (fun _ _ _ h => h) (Or.inl ⟨by rfl, ?_⟩) (by assumption) ?_; rotate_left; (focus (intro w hSw; ((try dsimp only at hSw); go_simp; try with_reducible rfl))); (try simp only [Act.put, List.setIfInBounds_toArray, List.set_cons_zero, List.set_cons_succ]))
  refine wpAnyH_done (by kernel_rfl) ?_ _
  clear hHeld
  have c0 := (wi_cells KK.out.hd rfl).c0
  have c5 := (wi_cells KK.out.hd rfl).c5
  simp only at c0 c5
  have n2 : ¬ (9223372036854775807 < (vput 1 ++ vput id).size + M.size) := by rw [ByteArray.size_append]; omega
  have n3 : ¬ (9223372036854775807 < (vput 1).size + (vput id).size + M.size) := by omega
  go_wp2_with (first
    | (go_at_call 48; refine (MT _ KK.out.b).mono ?_; rintro e w5 ⟨rfl, dn⟩; have KK := Lib.hid (KK.out.below dn); clear dn)
    | (go_at_call 49; refine (TX _).mono ?_; rintro e w6 ⟨rfl, dn⟩; have KK := Lib.hid (KK.out.below dn); clear dn))
  refine bodyPost_ret (v := .tuple #[.string (vput 1 ++ vput id ++ M), .int .i64 0]) (by simp [results, Try.results28, go_sem, *]) rfl ⟨rfl, by first | exact KK.out.b | (rw [hg]; exact KK.out.b)⟩
end
end Go.Proofs.Ytglabahbklpocaa
