/- ship.Bytes: messages that bear records. Plain law: a message's bytes that bear records, read again. ship.Read of messages that bear records. -/
import Derived.Test.YtglabahbklpocaaGreatGShipPacks40
import Derived.Test.YtglabahbklpocaaGreatGShipPacks22
import Derived.Test.YtglabahbklpocaaGreatGShipPacks45
namespace Go.Proofs.YtglabahbklpocaaGreat
section
open Go.RowKit Go.Deep
set_option maxRecDepth 100000
set_option linter.unusedVariables false
set_option linter.unusedSimpArgs false
attribute [local go_sem ↓] Go.wp_at_zero Go.wp_at_succ
/-- Records' texts, one behind the other. -/
def recsB (p : ByteArray) (rs : List RecA) : ByteArray := rs.foldl (fun s x => s ++ vtext (recT x.r x.ds)) p
theorem recsB_snoc (p : ByteArray) (rs : List RecA) (x : RecA) : recsB p (rs ++ [x]) = recsB p rs ++ vtext (recT x.r x.ds) := by unfold recsB; rw [List.foldl_append]; rfl
theorem vtext_le3 (s : ByteArray) (h : s.size ≤ 3000) : (vtext s).size ≤ 4000 := by
  have h1 : (vtext s).data.toList.length = (tb s).length := by rw [vtext_data]
  have h2 : (tb s).length ≤ 4000 := by
    unfold tb
    rw [List.length_append]
    have h3 := putB_le (s.size : Int)
    have h4 : s.data.toList.length = s.size := by simp
    omega
  have h5 : (vtext s).data.toList.length = (vtext s).size := by simp
  omega
set_option maxHeartbeats 16000000 in
theorem bytes7_any (x : Wi) (rs : List RecA) (vs : List Int) (w : World) (hk : x.kind = 7) (hf : i64' x.from_) (ht : i64' x.to_) (hv : SlR w x.vec vs) (hr : RecsV w x.nr rs) (hid : idV x.id = true) (hno : x.none false false false true true = true) (hp : vs = pl vs) (hn : x.nr.n ≤ 16) (hok : okRecs rs) :
    Calls Tryz.prog 12 #[.agg x.arr] w fun e w' => e = .returned (.tuple #[.string (recsB (vput 7 ++ vput x.id ++ (vecB vs ++ vput x.nr.n)) rs), .int .i64 0]) ∧ Below w.heap.size w w' := by
  have HVV := Lib.hid hv
  have HRR := Lib.hid hr
  have CH := fun wx (hb : Below w.heap.size w wx) => check7_any x rs vs wx hk hf ht (HVV.out.below hb) (HRR.out.below hb)
  rw [if_pos ⟨hno, decide_eq_true hp, decide_eq_true (by omega), okQ_true hok, hid⟩] at CH
  have MT := fun wx (hb : Below w.heap.size w wx) => mtext_any x.vec.a x.vec.n x.vec.c vs wx ((HVV.out.below hb).r) HVV.out.nc HVV.out.cb
  have hid : 0 ≤ x.id ∧ x.id ≤ 1099511627776 := by unfold idV at hid; simpa using hid
  have hms := vecB_le vs
  unfold vecB at hms ⊢
  generalize (⟨(mtB (pl vs)).toArray⟩ : ByteArray) = M at *
  have hrn : rs.length = x.nr.n := hr.r.1
  have HOKR := Lib.hid hok
  clear hf ht hno hv HVV hp hr hok
  obtain ⟨kind, id, series, from_, to_, np, ⟨ra, rn, rc⟩, vec, time⟩ := x
  simp only at hk
  subst hk
  unfold Wi.arr at *
  simp only at *
  go_enter Tryz.func12, Tryz.ntmps12
  go_upto_region 1 with fail
  generalize hw1 : World.alloc _ _ = w1
  have KK := Lib.hid (show Kn w.heap.size w [(w.heap.size, wiO ⟨7, id, series, from_, to_, np, ⟨ra, rn, rc⟩, vec, time⟩)] w1 by rw [← hw1]; exact (Kn.start w).new' rfl (wiO ⟨7, id, series, from_, to_, np, ⟨ra, rn, rc⟩, vec, time⟩))
  clear hw1
  obtain ⟨g, hg⟩ : ∃ g, w.heap.size = g := ⟨_, rfl⟩
  rw [hg] at KK CH MT ⊢
  go_upto_region 4 with (first
    | refine wpList_load_row rfl 33 _ rfl g rfl 33 (Wi.arr ⟨7, id, series, from_, to_, np, ⟨ra, rn, rc⟩, vec, time⟩) (0, 0) _ KK.out.hd Tryz.underlying33 rfl (by kernel_rfl) ?_
    | (go_at_call 16; refine (CH _ KK.out.b).mono ?_; rintro e w2 ⟨rfl, dn⟩; have KK := Lib.hid (KK.out.below dn); clear dn))
  have z1 := vput_le 7
  have z2 := vput_le id
  have n1 : ¬ (9223372036854775807 < (vput 7).size + (vput id).size) := by omega
  refine wp_region_held_drew (S := (fun wx => wx.cell? ⟨g, 0, none⟩ = some (.int .i64 7) ∧ wx.cell? ⟨g, 1, none⟩ = some (.int .i64 id))) (by kernel_rfl) ?_ (fun hHeld => ?_)
  focus ((try dsimp only); (try (exact wh_held KK.out rfl)); done)
  (refine wpAnyH_take (i := 0) (oi := ⟨some 17, Go.Op.fieldAddr 33 (.tmp 1) 0, 0, _, _, none⟩) (v := ?_) rfl (by kernel_rfl) (by kernel_rfl) (by kernel_rfl) (fun _ _ _ h => h) (Or.inl ⟨by rfl, ?_⟩) (by assumption) ?_; rotate_left; (focus (intro w hSw; ((try dsimp only at hSw); go_simp; try with_reducible rfl))); (try simp only [Act.put, sA, sZ, sS]))
  (refine wpAnyH_take (i := 1) (oi := ⟨some 18, Go.Op.load 3 (.tmp 17), 3, _, _, none⟩) (v := ?_) rfl (by kernel_rfl) (by kernel_rfl) (by kernel_rfl) (fun _ _ _ h => h) (Or.inl ⟨by rfl, ?_⟩) (by assumption) ?_; rotate_left; (focus (intro w hSw; ((try dsimp only at hSw); go_simp; try with_reducible rfl))); (try simp only [Act.put, sA, sZ, sS]))
  (refine wpAnyH_take (i := 3) (oi := ⟨some 20, Go.Op.fieldAddr 33 (.tmp 1) 1, 0, _, _, none⟩) (v := ?_) rfl (by kernel_rfl) (by kernel_rfl) (by kernel_rfl) (fun _ _ _ h => h) (Or.inl ⟨by rfl, ?_⟩) (by assumption) ?_; rotate_left; (focus (intro w hSw; ((try dsimp only at hSw); go_simp; try with_reducible rfl))); (try simp only [Act.put, sA, sZ, sS]))
  (refine wpAnyH_take (i := 4) (oi := ⟨some 21, Go.Op.load 3 (.tmp 20), 3, _, _, none⟩) (v := ?_) rfl (by kernel_rfl) (by kernel_rfl) (by kernel_rfl) (fun _ _ _ h => h) (Or.inl ⟨by rfl, ?_⟩) (by assumption) ?_; rotate_left; (focus (intro w hSw; ((try dsimp only at hSw); go_simp; try with_reducible rfl))); (try simp only [Act.put, sA, sZ, sS]))
  (refine wpAnyH_ready (rs := [2]) (by kernel_rfl) (by simp) ?_; refine AllReadyH.cons (o := ⟨some 19, Go.Op.call { callee := Go.Callee.value (.func 38), args := #[.tmp 18], argTypes := #[3] }, 9, _, _, none⟩) rfl (fun K hK => ?_) AllReadyH.nil; go_simp; ((go_at_call 38; refine (hnum_any _ _ (by first | decide | omega) (by first | decide | omega)).mono ?_; rintro e wn ⟨rfl, dn⟩; have KK := Lib.hid (Kn.later KK.out dn rfl rfl rfl rfl))); go_wp2_with fail; refine hK.out _ _ ?_ (fun hHeld => ?_); (focus ((try dsimp only); (try (exact wh_held KK.out rfl)); done)); clear hK; (try simp only [Act.put, sA, sZ, sS]))
  (refine wpAnyH_ready (rs := [5]) (by kernel_rfl) (by simp) ?_; refine AllReadyH.cons (o := ⟨some 22, Go.Op.call { callee := Go.Callee.value (.func 38), args := #[.tmp 21], argTypes := #[3] }, 9, _, _, none⟩) rfl (fun K hK => ?_) AllReadyH.nil; go_simp; ((go_at_call 38; refine (hnum_any _ _ (by first | decide | omega) (by first | decide | omega)).mono ?_; rintro e wn ⟨rfl, dn⟩; have KK := Lib.hid (Kn.later KK.out dn rfl rfl rfl rfl))); go_wp2_with fail; refine hK.out _ _ ?_ (fun hHeld => ?_); (focus ((try dsimp only); (try (exact wh_held KK.out rfl)); done)); clear hK; (try simp only [Act.put, sA, sZ, sS]))
  (refine wpAnyH_take (i := 6) (oi := ⟨some 23, Go.Op.binOp Go.BinOp.add 9 (.tmp 19) (.tmp 22) 9, 9, _, _, none⟩) (v := ?_) rfl (by kernel_rfl) (by kernel_rfl) (by kernel_rfl) (fun _ _ _ h => h) (Or.inl ⟨by rfl, ?_⟩) (by assumption) ?_; rotate_left; (focus (intro w hSw; ((try dsimp only at hSw); go_simp; try with_reducible rfl))); (try simp only [Act.put, sA, sZ, sS]))
  (refine wpAnyH_take (i := 7) (oi := ⟨some 5, Go.Op.assign (.tmp 23), 9, _, _, none⟩) (v := ?_) rfl (by kernel_rfl) (by kernel_rfl) (by kernel_rfl) (fun _ _ _ h => h) (Or.inl ⟨by rfl, ?_⟩) (by assumption) ?_; rotate_left; (focus (intro w hSw; ((try dsimp only at hSw); go_simp; try with_reducible rfl))); (try simp only [Act.put, sA, sZ, sS]))
  refine wpAnyH_done (by kernel_rfl) ?_ _
  clear hHeld
  have c0 := (wi_cells KK.out.hd rfl).c0
  simp only at c0
  have z6 := vput_le rn
  go_upto_region 17 with fail
  have n4 : ¬ (9223372036854775807 < M.size + (vput rn).size) := by omega
  have n5 : ¬ (9223372036854775807 < (vput 7 ++ vput id).size + (M ++ vput rn).size) := by rw [ByteArray.size_append, ByteArray.size_append]; omega
  have n5' : ¬ (9223372036854775807 < (vput 7).size + (vput id).size + (M.size + (vput rn).size)) := by omega
  refine wp_region_held_drew (S := (fun wx => wx.cell? ⟨g, 6, none⟩ = some (.slice ra rn rc) ∧ wx.cell? ⟨g, 7, none⟩ = some (.slice vec.a vec.n vec.c))) (by kernel_rfl) ?_ (fun hHeld => ?_)
  focus ((try dsimp only); (try (exact ⟨(wi_cells KK.out.hd rfl).c6, (wi_cells KK.out.hd rfl).c7⟩)); done)
  (refine wpAnyH_take (i := 0) (oi := ⟨some 72, Go.Op.move (.tmp 5), 9, _, _, none⟩) (v := ?_) rfl (by kernel_rfl) (by kernel_rfl) (by kernel_rfl) (fun _ _ _ h => h) (Or.inl ⟨by rfl, ?_⟩) (by assumption) ?_; rotate_left; (focus (intro w hSw; ((try dsimp only at hSw); go_simp; try with_reducible rfl))); (try simp only [Act.put, sA, sZ, sS]))
  (refine wpAnyH_take (i := 1) (oi := ⟨some 73, Go.Op.fieldAddr 33 (.tmp 1) 6, 0, _, _, none⟩) (v := ?_) rfl (by kernel_rfl) (by kernel_rfl) (by kernel_rfl) (fun _ _ _ h => h) (Or.inl ⟨by rfl, ?_⟩) (by assumption) ?_; rotate_left; (focus (intro w hSw; ((try dsimp only at hSw); go_simp; try with_reducible rfl))); (try simp only [Act.put, sA, sZ, sS]))
  (refine wpAnyH_take (i := 2) (oi := ⟨some 74, Go.Op.load 23 (.tmp 73), 23, _, _, none⟩) (v := ?_) rfl (by kernel_rfl) (by kernel_rfl) (by kernel_rfl) (fun _ _ _ h => h) (Or.inl ⟨by rfl, ?_⟩) (by assumption) ?_; rotate_left; (focus (intro w hSw; ((try dsimp only at hSw); go_simp; try with_reducible rfl))); (try simp only [Act.put, sA, sZ, sS]))
  (refine wpAnyH_take (i := 4) (oi := ⟨some 76, Go.Op.fieldAddr 33 (.tmp 1) 5, 0, _, _, none⟩) (v := ?_) rfl (by kernel_rfl) (by kernel_rfl) (by kernel_rfl) (fun _ _ _ h => h) (Or.inl ⟨by rfl, ?_⟩) (by assumption) ?_; rotate_left; (focus (intro w hSw; ((try dsimp only at hSw); go_simp; try with_reducible rfl))); (try simp only [Act.put, sA, sZ, sS]))
  (refine wpAnyH_take (i := 5) (oi := ⟨some 77, Go.Op.load 22 (.tmp 76), 22, _, _, none⟩) (v := ?_) rfl (by kernel_rfl) (by kernel_rfl) (by kernel_rfl) (fun _ _ _ h => h) (Or.inl ⟨by rfl, ?_⟩) (by assumption) ?_; rotate_left; (focus (intro w hSw; ((try dsimp only at hSw); go_simp; try with_reducible rfl))); (try simp only [Act.put, sA, sZ, sS]))
  (refine wpAnyH_take (i := 6) (oi := ⟨some 78, Go.Op.call { callee := Go.Callee.builtin Go.Builtin.len, args := #[.tmp 77], argTypes := #[22] }, 3, _, _, none⟩) (v := ?_) rfl (by kernel_rfl) (by kernel_rfl) (by kernel_rfl) (fun _ _ _ h => h) (Or.inl ⟨by rfl, ?_⟩) (by assumption) ?_; rotate_left; (focus (intro w hSw; ((try dsimp only at hSw); go_simp; try with_reducible rfl))); (try simp only [Act.put, sA, sZ, sS]))
  (refine wpAnyH_ready (rs := [3]) (by kernel_rfl) (by simp) ?_; refine AllReadyH.cons (o := ⟨some 75, Go.Op.call { callee := Go.Callee.value (.func 41), args := #[.tmp 74], argTypes := #[23] }, 9, _, _, none⟩) rfl (fun K hK => ?_) AllReadyH.nil; go_simp; ((first | (go_at_call 41; refine (MT _ (Kn.same KK.out (by rfl) (by rfl) (by rfl) (by rfl)).b).mono ?_; rintro e wn ⟨rfl, dn⟩; have KK := Lib.hid (Kn.later KK.out dn rfl rfl rfl rfl)) | (go_at_call 38; refine (hnum_any _ _ (by omega) (by omega)).mono ?_; rintro e wn ⟨rfl, dn⟩; have KK := Lib.hid (Kn.later KK.out dn rfl rfl rfl rfl)))); go_wp2_with fail; refine hK.out _ _ ?_ (fun hHeld => ?_); (focus ((try dsimp only); (try (exact ⟨(wi_cells KK.out.hd rfl).c6, (wi_cells KK.out.hd rfl).c7⟩)); done)); clear hK; (try simp only [Act.put, sA, sZ, sS]))
  (refine wpAnyH_ready (rs := [7]) (by kernel_rfl) (by simp) ?_; refine AllReadyH.cons (o := ⟨some 79, Go.Op.call { callee := Go.Callee.value (.func 38), args := #[.tmp 78], argTypes := #[3] }, 9, _, _, none⟩) rfl (fun K hK => ?_) AllReadyH.nil; go_simp; ((first | (go_at_call 41; refine (MT _ (Kn.same KK.out (by rfl) (by rfl) (by rfl) (by rfl)).b).mono ?_; rintro e wn ⟨rfl, dn⟩; have KK := Lib.hid (Kn.later KK.out dn rfl rfl rfl rfl)) | (go_at_call 38; refine (hnum_any _ _ (by omega) (by omega)).mono ?_; rintro e wn ⟨rfl, dn⟩; have KK := Lib.hid (Kn.later KK.out dn rfl rfl rfl rfl)))); go_wp2_with fail; refine hK.out _ _ ?_ (fun hHeld => ?_); (focus ((try dsimp only); (try (exact ⟨(wi_cells KK.out.hd rfl).c6, (wi_cells KK.out.hd rfl).c7⟩)); done)); clear hK; (try simp only [Act.put, sA, sZ, sS]))
  (refine wpAnyH_take (i := 8) (oi := ⟨some 80, Go.Op.binOp Go.BinOp.add 9 (.tmp 75) (.tmp 79) 9, 9, _, _, none⟩) (v := ?_) rfl (by kernel_rfl) (by kernel_rfl) (by kernel_rfl) (fun _ _ _ h => h) (Or.inl ⟨by rfl, ?_⟩) (by assumption) ?_; rotate_left; (focus (intro w hSw; ((try dsimp only at hSw); go_simp; try with_reducible rfl))); (try simp only [Act.put, sA, sZ, sS]))
  (refine wpAnyH_take (i := 9) (oi := ⟨some 81, Go.Op.binOp Go.BinOp.add 9 (.tmp 72) (.tmp 80) 9, 9, _, _, none⟩) (v := ?_) rfl (by kernel_rfl) (by kernel_rfl) (by kernel_rfl) (fun _ _ _ h => h) (Or.inl ⟨by rfl, ?_⟩) (by assumption) ?_; rotate_left; (focus (intro w hSw; ((try dsimp only at hSw); go_simp; try with_reducible rfl))); (try simp only [Act.put, sA, sZ, sS]))
  (refine wpAnyH_take (i := 10) (oi := ⟨some 5, Go.Op.assign (.tmp 81), 9, _, _, none⟩) (v := ?_) rfl (by kernel_rfl) (by kernel_rfl) (by kernel_rfl) (fun _ _ _ h => h) (Or.inl ⟨by rfl, ?_⟩) (by assumption) ?_; rotate_left; (focus (intro w hSw; ((try dsimp only at hSw); go_simp; try with_reducible rfl))); (try simp only [Act.put, sA, sZ, sS]))
  refine wpAnyH_done (by kernel_rfl) ?_ _
  clear hHeld n4 n5 n5'
  clear c0 MT CH
  have c6 := (wi_cells KK.out.hd rfl).c6
  simp only at c6
  have hP0 : (vput 7 ++ vput id ++ (M ++ vput rn)).size ≤ 2000 := by rw [ByteArray.size_append, ByteArray.size_append, ByteArray.size_append]; omega
  obtain ⟨P0, HPE⟩ : ∃ P, Hid (vput 7 ++ vput id ++ (M ++ vput rn) = P) := ⟨_, rfl⟩
  rw [HPE.out] at hP0 ⊢
  go_wp2_with fail
  go_loopw [5, 85, 9, 10, 11] (fun s i _ _ _ wr => ∃ k : Nat, k ≤ rn ∧ i = .int .i64 k ∧ s = .string (recsB P0 (rs.take k)) ∧ (recsB P0 (rs.take k)).size ≤ 2000 + 4000 * k ∧ Kn g w [(g, wiO ⟨7, id, series, from_, to_, np, ⟨ra, rn, rc⟩, vec, time⟩)] wr) (fun _ i _ _ _ _ => rn - (intOf i).toNat)
  case atStart => exact ⟨0, by omega, rfl, by rw [List.take_zero]; rfl, by rw [List.take_zero]; exact hP0, KK.out⟩
  case round =>
    obtain ⟨k, hk, rfl, rfl, hsz, hK⟩ := hrel
    clear KK c6
    have KK := Lib.hid hK
    clear hK
    by_cases hlt : k < rn
    · have t2 : decide ((k : Int) < (rn : Int)) = true := decide_eq_true (by omega)
      obtain ⟨b, o, xr, rfl, hbl, hxk, hC⟩ := HRR.out.r.at (by rw [hg]; exact KK.out.b) k hlt
      obtain ⟨a0, a1, a2, a3, a4, a5, a6, a7, a8⟩ := rec_cells9 hC
      have i1 : (0 : Int) ≤ (k : Int) := by omega
      have i2 : (k : Int) < (rn : Int) := by omega
      have hxm := List.mem_of_getElem? hxk
      have hxp := HOKR.out xr hxm
      have hxo := HRR.out.ok xr hxm
      have SB := fun wx (hb : Below w.heap.size w wx) => sbytes_any xr.r xr.d xr.ds wx hxo.wf (hxo.below hb).sl
      rw [recB_pos hxp, chkR_0 hxp] at SB
      have hrl := recT_le hxp
      have TX := fun wx => text_any (recT xr.r xr.ds) wx (by omega)
      have htl := vtext_le3 (recT xr.r xr.ds) hrl
      have HT : Hid (recsB P0 (rs.take (k + 1)) = recsB P0 (rs.take k) ++ vtext (recT xr.r xr.ds)) := by
        show _ = _
        rw [List.take_add_one, hxk]
        exact recsB_snoc _ _ _
      generalize recT xr.r xr.ds = TT at *
      generalize vtext TT = VT at *
      generalize recsB P0 (rs.take k) = Sk at *
      unfold rcVal at SB
      have n6 : ¬ (9223372036854775807 < Sk.size + VT.size) := by omega
      clear hC hxk hxm hxp hxo
      go_upto_region 21 with fail
      generalize hw3 : World.alloc _ _ = w3
      have KK := Lib.hid (show Kn g w [(wr.heap.size, rcO xr.r xr.d), (g, wiO ⟨7, id, series, from_, to_, np, ⟨some ⟨b, o, none⟩, rn, rc⟩, vec, time⟩)] w3 by rw [← hw3]; exact KK.out.new' rfl (rcO xr.r xr.d))
      clear hw3 a0 a1 a2 a3 a4 a5 a6 a7 a8
      go_wp2_with (first
        | refine wpList_load_row rfl 60 _ rfl wr.heap.size rfl 60 (rcA xr.r xr.d) (0, 0) _ KK.out.hd Tryz.underlying60 rfl (by kernel_rfl) ?_
        | (go_at_call 42; refine (SB _ (by rw [hg]; exact KK.out.b)).mono ?_; rintro e w4 ⟨rfl, dn⟩; have KK := Lib.hid (KK.out.below dn); clear dn)
        | (go_at_call 40; refine (TX _).mono ?_; rintro e w5 ⟨rfl, dn⟩; have KK := Lib.hid (KK.out.below dn); clear dn))
      go_roundw
      case rel => exact ⟨k + 1, by omega, by go_num, by rw [HT.out], by rw [HT.out, ByteArray.size_append]; omega, KK.out.tl⟩
      case measure => simp [intOf]; omega
    · obtain rfl : k = rn := by omega
      have t2 : decide ((k : Int) < (k : Int)) = false := decide_eq_false (by omega)
      have HF : Hid (recsB P0 (rs.take k) = recsB P0 rs) := by show _ = _; rw [List.take_of_length_le (by omega)]
      go_wp2_with fail
      refine bodyPost_ret (v := .tuple #[.string (recsB P0 (rs.take k)), .int .i64 0]) (by simp [results, Tryz.results12, go_sem, *]) rfl ⟨by rw [HF.out, ← HPE.out], by rw [hg]; exact KK.out.b⟩
end
end Go.Proofs.YtglabahbklpocaaGreat
namespace Go.Proofs.YtglabahbklpocaaGreat
section
open Go.RowKit Go.Deep
set_option maxRecDepth 100000
set_option linter.unusedVariables false
set_option linter.unusedSimpArgs false
/-- Records' bytes, one behind the other. -/
def catR (ms : List RcM) : List UInt8 := ms.flatMap fun m => tb (recT m.1 m.2)
def okM (ms : List RcM) : Prop := ∀ m ∈ ms, recP m.1 m.2 ∧ m.1.wf
theorem recsB_data (p : ByteArray) (rs : List RecA) : (recsB p rs).data.toList = p.data.toList ++ catR (rs.map RecA.m) := by
  induction rs generalizing p with
  | nil => simp [recsB, catR]
  | cons x r ih =>
    show (recsB (p ++ vtext (recT x.r x.ds)) r).data.toList = _
    rw [ih, ByteArray.data_append, Array.toList_append, vtext_data, List.append_assoc]
    simp only [catR, List.map_cons, List.flatMap_cons]
    rfl
theorem takeR_at {r : Rdr} (hr : r.ok) (hb : r.bad = false) (e : Int) (ms : List RcM) (t : List UInt8) (hok : okM ms) (h : r.rest = catR ms ++ t) (n : Nat) (hn : n ≤ ms.length) :
    (takeR n r e).1 = ms.take n ∧ (takeR n r e).2.1.bad = false ∧ (takeR n r e).2.1.rest = catR (ms.drop n) ++ t ∧ (takeR n r e).2.2 = e := by
  induction n with
  | zero => exact ⟨by simp [takeR], hb, by simpa [takeR] using h, rfl⟩
  | succ n ih =>
    obtain ⟨i1, i2, i3, i4⟩ := ih (by omega)
    have hlt : n < ms.length := by omega
    have hm := hok ms[n] (List.getElem_mem hlt)
    have hk := takeR_ok hr e n
    have hc : catR (ms.drop n) = tb (recT ms[n].1 ms[n].2) ++ catR (ms.drop (n + 1)) := by
      rw [List.drop_eq_getElem_cons hlt]
      simp only [catR, List.flatMap_cons]
    rw [hc, List.append_assoc] at i3
    obtain ⟨s1, s2, s3⟩ := text_at hk.1 i2 i3
    have hrd : readR (takeR n r e).2.1.text.1 = (ms[n].1, ms[n].2, 0) := by
      rw [s1]
      exact read_rec hm.1 hm.2 (by have := recT_le hm.1; omega)
    refine ⟨?_, s2, s3, ?_⟩
    · simp only [takeR]
      rw [hrd, i1, List.take_succ_eq_append_getElem hlt]
    · simp only [takeR, rdE]
      rw [hrd, if_pos rfl]
      exact i4
theorem catR_pos {ms : List RcM} {n : Nat} (hn : n < ms.length) (t : List UInt8) : catR (ms.drop n) ++ t ≠ [] := by
  rw [List.drop_eq_getElem_cons hn]
  simp only [catR, List.flatMap_cons, tb]
  intro h
  have := putB_ne ((recT ms[n].1 ms[n].2).size : Int)
  simp only [List.append_eq_nil_iff] at h
  exact this h.1.1.1
theorem mcat_pos {l : List Int} {n : Nat} (hn : n < l.length) (t : List UInt8) : mcat (l.drop n) ++ t ≠ [] := by
  rw [List.drop_eq_getElem_cons hn, show l[n] :: l.drop (n + 1) = [l[n]] ++ l.drop (n + 1) from rfl, mcat_append, mcat_one]
  intro h
  have := putB_ne l[n]
  simp only [List.append_eq_nil_iff] at h
  exact this h.1.1
/-- Bytes are those of a message that bears records. -/
def gd7 (s : ByteArray) : Prop := ∃ (vs : List Int) (ms : List RcM), vs = pl vs ∧ (∀ x ∈ vs, 0 ≤ x ∧ x ≤ 1099511627776) ∧ ms.length ≤ 16 ∧ okM ms ∧ s.data.toList = putB 9 7 ++ (putB 9 (id1 s).1 ++ (putB 9 (vs.length : Int) ++ (mcat vs ++ (putB 9 (ms.length : Int) ++ catR ms))))
/-- What the program reads of such bytes is what they tell, and nothing is left. -/
theorem gd7_reads {s : ByteArray} (hs : s.size ≤ 1000000000) {vs : List Int} {ms : List RcM} (h1 : vs = pl vs) (h2 : ∀ x ∈ vs, 0 ≤ x ∧ x ≤ 1099511627776) (h3 : ms.length ≤ 16) (h4 : okM ms)
    (h5 : s.data.toList = putB 9 7 ++ (putB 9 (id1 s).1 ++ (putB 9 (vs.length : Int) ++ (mcat vs ++ (putB 9 (ms.length : Int) ++ catR ms)))))
    (k : Nat) (hk : k ≤ ((id1 s).2.small 8).1.toNat) (hkn : k = ((id1 s).2.small 8).1.toNat ∨ (takeN k ((id1 s).2.small 8).2).2.left = 0)
    (j : Nat) (hj : j ≤ ((takeN k ((id1 s).2.small 8).2).2.small 16).1.toNat) (hjn : j = ((takeN k ((id1 s).2.small 8).2).2.small 16).1.toNat ∨ (takeR j ((takeN k ((id1 s).2.small 8).2).2.small 16).2 0).2.1.left = 0) :
    (takeN k ((id1 s).2.small 8).2).1 = vs ∧ (takeR j ((takeN k ((id1 s).2.small 8).2).2.small 16).2 0).1 = ms ∧ (takeR j ((takeN k ((id1 s).2.small 8).2).2.small 16).2 0).2.1.fin = 0 ∧ (takeR j ((takeN k ((id1 s).2.small 8).2).2.small 16).2 0).2.2 = 0 := by
  have hi := id1_ok hs
  obtain ⟨_, _, c3, c4⟩ := head_at hs 7 (id1 s).1 (by omega) (id1_range hs) _ h5
  have hv8 : vs.length ≤ 8 := by rw [h1]; exact pl_length vs
  obtain ⟨d1, d2, d3⟩ := small_at (most := 8) hi.1 c3 c4 (by omega) (by omega) (by decide)
  have k8 := Rdr.small_ok hi.1 8
  have hn : ((id1 s).2.small 8).1.toNat = vs.length := by rw [d1]; omega
  rw [hn] at hk hkn
  generalize ((id1 s).2.small 8).2 = R8 at *
  have hA := takeN_at k8.1 d2 vs _ h2 d3 k hk
  have hkl : k = vs.length := by
    rcases hkn with h | h
    · exact h
    · rcases Nat.lt_or_ge k vs.length with h' | h'
      · exfalso
        have := left_rest (takeN_ok k8.1 k).1 h hA.2.1
        rw [hA.2.2] at this
        exact mcat_pos h' _ this
      · omega
  subst hkl
  rw [List.take_length, List.drop_length] at hA
  obtain ⟨a1, a2, a3⟩ := hA
  have kN := takeN_ok k8.1 vs.length
  have a3' : (takeN vs.length R8).2.rest = putB 9 (ms.length : Int) ++ (catR ms ++ []) := by rw [a3, List.append_nil]; rfl
  generalize (takeN vs.length R8).2 = R9 at *
  obtain ⟨b1, b2, b3⟩ := small_at (most := 16) kN.1 a2 a3' (by omega) (by omega) (by decide)
  have k16 := Rdr.small_ok kN.1 16
  have hm : (R9.small 16).1.toNat = ms.length := by rw [b1]; omega
  rw [hm] at hj hjn
  generalize (R9.small 16).2 = R10 at *
  have hB := takeR_at k16.1 b2 0 ms [] h4 b3 j hj
  have hjl : j = ms.length := by
    rcases hjn with h | h
    · exact h
    · rcases Nat.lt_or_ge j ms.length with h' | h'
      · exfalso
        have := left_rest (takeR_ok k16.1 0 j).1 h hB.2.1
        rw [hB.2.2.1] at this
        exact catR_pos h' _ this
      · omega
  subst hjl
  rw [List.take_length, List.drop_length] at hB
  exact ⟨a1, hB.1, (fin_rest (takeR_ok k16.1 0 _).1).2 ⟨hB.2.1, by rw [hB.2.2.1]; rfl⟩, hB.2.2.2⟩
end
end Go.Proofs.YtglabahbklpocaaGreat
namespace Go.Proofs.YtglabahbklpocaaGreat
section
open Go.RowKit Go.Deep
set_option maxRecDepth 100000
set_option linter.unusedVariables false
set_option linter.unusedSimpArgs false
attribute [local go_sem ↓] Go.wp_at_zero Go.wp_at_succ
/-- What a message with records tells, in memory of its own from B on. -/
structure V7 (w : World) (B : Nat) (d : Sl) (vs : List Int) (d2 : Sl) (rs : List RecA) : Prop where
  sl : SlR w d vs
  hg : ∀ x, d.a = some x → B ≤ x.block
  ap : AppE RecA.cs 60 9 w B d2.a d2.n d2.c rs
  rs : RsI w B rs
section
variable {w w' : World} {B q : Nat} {d d2 : Sl} {vs : List Int} {rs : List RecA}
theorem V7.below (h : V7 w B d vs d2 rs) (hb : Below w.heap.size w w') : V7 w' B d vs d2 rs := ⟨h.sl.below hb, h.hg, h.ap.below hb, fun x hx => ⟨(h.rs x hx).1.below hb, (h.rs x hx).2⟩⟩
theorem V7.but (h : V7 w B d vs d2 rs) (k : But q w w') (hq : q < B) : V7 w' B d vs d2 rs :=
  ⟨h.sl.but2 (g := q) (b := q) (fun p hp => by have := h.hg p hp; omega) ((But2.refl q q w).one k), h.hg, h.ap.but k hq, fun x hx => ⟨(h.rs x hx).1.but2 (g := q) (b := q) (fun p hp => by have := (h.rs x hx).2 p hp; omega) ((But2.refl q q w).one k), (h.rs x hx).2⟩⟩
theorem V7.recs (h : V7 w B d vs d2 rs) : RecsV w d2 rs := ⟨(AppE.reads rec_len (by decide) h.ap).1, fun x hx => (h.rs x hx).1.ok, h.ap.le, maxLen_i h.ap.max⟩
end
theorem Kr.after {g cb : Nat} {w w1 w2 : World} {l m : List (Nat × Obj)} {R R' : Rdr} {e e' : Int} (h : Kr 140 g w ((cb, erO e) :: l) R w1) (hl : ∀ p ∈ l, p.1 ≠ cb) (hw : w.heap.size ≤ cb) (k : Kq g cb w1 m R' e' w2) : Kr 140 g w ((cb, erO e') :: l) R' w2 := by
  refine ⟨k.rd, fun p hp => ?_, ⟨k.b.os.trans h.b.os, k.b.tape.trans h.b.tape, k.b.output.trans h.b.output, Nat.le_trans h.b.size k.b.size, fun i hi hn => ?_⟩⟩
  · rcases List.mem_cons.1 hp with rfl | hp
    · exact ⟨(h.at_ (cb, erO e) (List.mem_cons_self ..)).1, k.er⟩
    · have h1 := h.at_ p (List.mem_cons_of_mem _ hp)
      exact ⟨h1.1, (k.b.block p.1 (heap_lt h1.2) h1.1 (hl p hp)).trans h1.2⟩
  · refine (k.b.block i (Nat.lt_of_lt_of_le hi h.b.size) (by simpa using hn) (by omega)).trans (h.b.block i hi hn)
theorem Kr.toq {g cb : Nat} {w w1 : World} {l m : List (Nat × Obj)} {R : Rdr} {e : Int} (h : Kr 140 g w l R w1) (hc : (cb, erO e) ∈ l) (hm : ∀ p ∈ m, p ∈ l ∧ p.1 ≠ cb) : Kq g cb w1 m R e w1 :=
  ⟨h.rd, (h.at_ _ hc).2, fun p hp => ⟨(h.at_ p (hm p hp).1).1, (hm p hp).2, (h.at_ p (hm p hp).1).2⟩, But2.refl _ _ _⟩
theorem wi7_none (id : Int) (d d2 : Sl) : Wi.none ⟨7, id, ⟨#[]⟩, 0, 0, Sl0, d2, d, 0⟩ false false false true true = true := by
  unfold Wi.none noneB
  simp only [se_empty]
  rfl
theorem bytes7_b (id : Int) (hid : 0 ≤ id ∧ id ≤ 1099511627776) (vs : List Int) (rs : List RecA) : ∃ (T : ByteArray) (E2 : Int), (((vs = pl vs ∧ rs.length ≤ 16 ∧ okRecs rs) ∧ T = recsB (vput 7 ++ vput id ++ (vecB vs ++ vput rs.length)) rs ∧ E2 = 0) ∨ (¬ (vs = pl vs ∧ rs.length ≤ 16 ∧ okRecs rs) ∧ E2 = 1)) ∧
    ∀ (d d2 : Sl) (w : World), SlR w d vs → RecsV w d2 rs → Calls Tryz.prog 12 #[.agg (Wi.arr ⟨7, id, ⟨#[]⟩, 0, 0, Sl0, d2, d, 0⟩)] w fun e w' => e = .returned (.tuple #[.string T, .int .i64 E2]) ∧ Below w.heap.size w w' := by
  by_cases h : vs = pl vs ∧ rs.length ≤ 16 ∧ okRecs rs
  · refine ⟨_, _, .inl ⟨h, rfl, rfl⟩, fun d d2 w hv hr => ?_⟩
    have hl : rs.length = d2.n := hr.r.1
    have C := bytes7_any ⟨7, id, ⟨#[]⟩, 0, 0, Sl0, d2, d, 0⟩ rs vs w rfl i64z i64z hv hr (idV_of hid) (wi7_none id d d2) h.1 (by simp only; omega) h.2.2
    simp only at C
    rw [← hl] at C
    exact C
  · refine ⟨⟨#[]⟩, 1, .inr ⟨h, rfl⟩, fun d d2 w hv hr => bytesE_any ⟨7, id, ⟨#[]⟩, 0, 0, Sl0, d2, d, 0⟩ w (fun wx hb => ?_)⟩
    have C := check7_any ⟨7, id, ⟨#[]⟩, 0, 0, Sl0, d2, d, 0⟩ rs vs wx rfl i64z i64z (hv.below hb) (hr.below hb)
    rw [if_neg (fun hh => h ⟨of_decide_eq_true hh.2.1, by have h1 := hh.2.2.1; have h2 := hr.r.1; simp only [decide_eq_true_eq] at h1; omega, by
      by_cases ho : okRecs rs
      · exact ho
      · have h1 := hh.2.2.2.1; rw [okQ_false ho] at h1; cases h1⟩)] at C
    exact C
theorem gd7_of {s : ByteArray} {id : Int} {vs : List Int} {rs : List RecA} (h : vs = pl vs) (hS : recsB (vput 7 ++ vput id ++ (vecB vs ++ vput rs.length)) rs = s) : s.data.toList = putB 9 7 ++ (putB 9 id ++ (putB 9 (vs.length : Int) ++ (mcat vs ++ (putB 9 ((rs.map RecA.m).length : Int) ++ catR (rs.map RecA.m))))) := by
  rw [← hS, recsB_data, List.length_map]
  unfold vecB
  rw [← h]
  simp only [ByteArray.data_append, Array.toList_append, vput_data, List.append_assoc]
  unfold mtB
  simp only [List.append_assoc]
end
end Go.Proofs.YtglabahbklpocaaGreat
