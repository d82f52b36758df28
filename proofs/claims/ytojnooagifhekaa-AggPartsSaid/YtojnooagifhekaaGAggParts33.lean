/- agg.Fold; the reference's. -/
import Derived.Test.YtojnooagifhekaaGAggParts32
import Derived.Test.YtojnooagifhekaaGAggParts6
namespace Go.Proofs.Ytojnooagifhekaa
section
open Go.RowKit
set_option maxRecDepth 100000
set_option linter.unusedVariables false
set_option linter.unusedSimpArgs false
attribute [local go_sem ↓] Go.wp_at_zero Go.wp_at_succ
set_option maxHeartbeats 4000000 in
set_option maxRecDepth 100000 in
theorem fold_any (a0 : Option Addr) (n c : Nat) (xs : List Pt) (w : World) (h : ReadsE Pt.cs 6 w a0 n xs) (hwf : ∀ x ∈ xs, x.wf) (hnc : n ≤ c) (hcb : c ≤ 9223372036854775807) : Calls Try.prog 19 #[.slice a0 n c] w fun e w' => e = .returned (foldV xs).val ∧ Below w.heap.size w w' := by
  obtain ⟨V, HV⟩ : ∃ V, Hid (V = foldV xs) := ⟨_, rfl⟩
  rw [← HV.out]
  have hlen := h.1
  have H := Lib.hid h
  unfold Ag.val
  clear h
  go_enter Try.func19, Try.ntmps19
  go_upto_region 1 with (fail)
  generalize hw1 : w.alloc (.cells _ 29) = w1
  have hK : Kn w.heap.size w [(w.heap.size, agO Ag0)] w1 := by rw [← hw1]; exact (Kn.start w).new' rfl (agO Ag0)
  clear hw1
  have hsz := hK.fresh
  go_upto_region 2 with (refine wpList_store_row rfl 29 _ _ rfl w1.heap.size Ag0.cs.toArray rfl rfl 29 Ag0.cs.toArray (heap_alloc_new _ _) (ag_size rfl) rfl (ag_one _) ?_)
  rw [World.setRow_alloc_new]
  have hk := hK.new (agO Ag0)
  unfold agO at hk
  generalize w1.alloc (.cells Ag0.cs.toArray 29) = w2 at *
  generalize hc : w1.heap.size = c3 at *
  have KK : Hid (Kn w.heap.size w [(c3, agO Ag0), (w.heap.size, agO Ag0)] w2) := hk
  clear hk hK
  generalize hg : w.heap.size = g at *
  go_wp2_with fail
  go_loopw [9, 5] (fun i p wr => ∃ k : Nat, k ≤ n ∧ i = .int .i64 k ∧ Kn g w [(c3, agO (foldV (xs.take k))), (g, agO Ag0)] wr) (fun i _ _ => n - (intOf i).toNat)
  case atStart => exact ⟨0, by omega, rfl, by rw [List.take_zero]; exact KK.out⟩
  case round =>
    obtain ⟨k, hkn, rfl, hk⟩ := hrel
    clear KK
    by_cases hlt : k < n
    · have t1 : decide ((k : Int) < (n : Int)) = true := decide_eq_true (by omega)
      have t1' : decide (k < n) = true := decide_eq_true hlt
      obtain ⟨b, o, x, rfl, hbl, hx, hC⟩ := H.out.at (by rw [hg]; exact hk.b) k hlt
      have hxw := hwf x (List.mem_of_getElem? hx)
      obtain ⟨c0, c1, c2, c3', c4, c5⟩ := pt_cells hC
      have i1 : (0 : Int) ≤ (k : Int) := by omega
      have i2 : (k : Int) < (n : Int) := by omega
      have HNX := Lib.hid (fold_take xs k x hx)
      have hA : (foldV (xs.take k)).ok := fold_ok _ fun p hp => hwf p (List.mem_of_mem_take hp)
      generalize foldV (xs.take k) = A at *
      have H1 := fun wx => one_any x wx hxw
      have H2 := fun wx => merge_any A x.one wx hA (one_ok _ _ hxw.2.2.1 hxw.2.2.2)
      have HM := merge_ok hA (one_ok x.value x.st hxw.2.2.1 hxw.2.2.2)
      rw [show oneV x.value x.st = x.one from rfl] at HM
      have HLA : Hid (A.bk.length = 9) := hA.2.2.2.2.2.2.1
      have HLM : Hid ((mergeV A x.one).bk.length = 9) := HM.2.2.2.2.2.2.1
      have H1 : ∀ wx, Calls Try.prog 14 #[.agg #[.string x.series, .int .i64 x.time, .int .i64 x.value, .int .i64 x.st.clock, .int .i64 x.st.site, .int .i64 x.st.seq]] wx fun e w' => e = .returned (.agg x.one.cs.toArray) ∧ Below wx.heap.size wx w' := H1
      have H2 : ∀ wx, Calls Try.prog 16 #[.agg A.cs.toArray, .agg x.one.cs.toArray] wx fun e w' => e = .returned (.agg (mergeV A x.one).cs.toArray) ∧ Below wx.heap.size wx w' := H2
      generalize mergeV A x.one = M at *
      generalize x.one = X at *
      have hz := hk.le
      clear hA HM
      go_upto_region 5 with (fail)
      have hk2 := hk.new (ptO x)
      unfold ptO at hk2
      generalize wr.alloc (.cells #[.string x.series, .int .i64 x.time, .int .i64 x.value, .int .i64 x.st.clock, .int .i64 x.st.site, .int .i64 x.st.seq] 31) = w3 at *
      have hfr := hk.fresh
      generalize hp : wr.heap.size = p at *
      have KK : Hid (Kn g w [(p, ptO x), (c3, agO A), (g, agO Ag0)] w3) := hk2
      clear hk2 hk c0 c1 c2 c3' c4 c5 hC hp
      refine wp_region_held_drew (S := (fun _ => True)) (by kernel_rfl) ?_ (fun hHeld => ?_)
      focus ((try dsimp only); (try trivial); done)
      refine wpAnyH_ready (rs := [0, 1]) (by kernel_rfl) (by simp) ?_
      refine AllReadyH.cons (o := { dst := some 13, op := Go.Op.load 29 (Go.Operand.tmp 3), type := 29, pos := "agg.go:61", after := #[], guard := none }) rfl (fun K hK0 => ?_) (AllReadyH.cons (o := { dst := some 14, op := Go.Op.load 31 (Go.Operand.tmp 5), type := 31, pos := "agg.go:61", after := #[], guard := none }) rfl (fun K hK1 => ?_) AllReadyH.nil)
      · ((first | (refine wp_load_row 29 _ rfl c3 rfl 29 A.cs.toArray (0, 0) _ (KK.out.at_ (c3, agO A) (by simp)) Try.underlying29 rfl (ag_size HLA.out) ?_) | (refine wp_load_row 31 _ rfl p rfl 31 _ (0, 0) _ (KK.out.at_ (p, ptO x) (by simp)) Try.underlying31 rfl pt_size ?_) | (refine wp_store_row 29 _ _ rfl c3 M.cs.toArray rfl rfl 29 A.cs.toArray (KK.out.at_ (c3, agO A) (by simp)) (ag_size HLM.out) (ag_sz HLA.out HLM.out) (ag_one _) ?_)); refine hK0.out _ _ ?_ (fun hHeld => ?_); (focus ((try dsimp only); (try trivial); done)); clear hK0; (try simp only [Act.put, List.setIfInBounds_toArray, List.set_cons_zero, List.set_cons_succ]))
        (refine wpAnyH_ready (rs := [1]) (by kernel_rfl) (by simp) ?_; refine AllReadyH.cons (o := { dst := some 14, op := Go.Op.load 31 (Go.Operand.tmp 5), type := 31, pos := "agg.go:61", after := #[], guard := none }) rfl (fun K hK => ?_) AllReadyH.nil; (first | (refine wp_load_row 29 _ rfl c3 rfl 29 A.cs.toArray (0, 0) _ (KK.out.at_ (c3, agO A) (by simp)) Try.underlying29 rfl (ag_size HLA.out) ?_) | (refine wp_load_row 31 _ rfl p rfl 31 _ (0, 0) _ (KK.out.at_ (p, ptO x) (by simp)) Try.underlying31 rfl pt_size ?_) | (refine wp_store_row 29 _ _ rfl c3 M.cs.toArray rfl rfl 29 A.cs.toArray (KK.out.at_ (c3, agO A) (by simp)) (ag_size HLM.out) (ag_sz HLA.out HLM.out) (ag_one _) ?_)); refine hK.out _ _ ?_ (fun hHeld => ?_); (focus ((try dsimp only); (try trivial); done)); clear hK; (try simp only [Act.put, List.setIfInBounds_toArray, List.set_cons_zero, List.set_cons_succ]))
        (refine wpAnyH_ready (rs := [2]) (by kernel_rfl) (by simp) ?_; refine AllReadyH.cons (o := { dst := some 15, op := Go.Op.call { callee := Go.Callee.value (Go.Operand.func 14), args := #[Go.Operand.tmp 14], argTypes := #[31] }, type := 29, pos := "agg.go:61", after := #[{ on := 1, ground := Go.Ground.data }], guard := none }) rfl (fun K hK => ?_) AllReadyH.nil; go_simp; ((first | (go_at_call 14; refine (H1 _).mono ?_; rintro e wn ⟨rfl, dn⟩; have KK := Lib.hid (Kn.later KK.out dn rfl rfl rfl rfl)) | (go_at_call 16; refine (H2 _).mono ?_; rintro e wn ⟨rfl, dn⟩; have KK := Lib.hid (Kn.later KK.out dn rfl rfl rfl rfl)))); go_wp2_with fail; refine hK.out _ _ ?_ (fun hHeld => ?_); (focus ((try dsimp only); (try trivial); done)); clear hK; (try simp only [Act.put, List.setIfInBounds_toArray, List.set_cons_zero, List.set_cons_succ]))
        (refine wpAnyH_ready (rs := [3]) (by kernel_rfl) (by simp) ?_; refine AllReadyH.cons (o := { dst := some 16, op := Go.Op.call { callee := Go.Callee.value (Go.Operand.func 16), args := #[Go.Operand.tmp 13, Go.Operand.tmp 15], argTypes := #[29, 29] }, type := 29, pos := "agg.go:61", after := #[{ on := 0, ground := Go.Ground.data }, { on := 2, ground := Go.Ground.data }, { on := 2, ground := Go.Ground.chain }], guard := none }) rfl (fun K hK => ?_) AllReadyH.nil; go_simp; ((first | (go_at_call 14; refine (H1 _).mono ?_; rintro e wn ⟨rfl, dn⟩; have KK := Lib.hid (Kn.later KK.out dn rfl rfl rfl rfl)) | (go_at_call 16; refine (H2 _).mono ?_; rintro e wn ⟨rfl, dn⟩; have KK := Lib.hid (Kn.later KK.out dn rfl rfl rfl rfl)))); go_wp2_with fail; refine hK.out _ _ ?_ (fun hHeld => ?_); (focus ((try dsimp only); (try trivial); done)); clear hK; (try simp only [Act.put, List.setIfInBounds_toArray, List.set_cons_zero, List.set_cons_succ]))
        (refine wpAnyH_ready (rs := [4]) (by kernel_rfl) (by simp) ?_; refine AllReadyH.cons (o := { dst := none, op := Go.Op.store 29 (Go.Operand.tmp 3) (Go.Operand.tmp 16), type := 0, pos := "agg.go:61", after := #[{ on := 3, ground := Go.Ground.data }, { on := 3, ground := Go.Ground.chain }, { on := 0, ground := Go.Ground.phase }, { on := 1, ground := Go.Ground.phase }, { on := 2, ground := Go.Ground.phase }, { on := 3, ground := Go.Ground.phase }], guard := none }) rfl (fun K hK => ?_) AllReadyH.nil; (first | (refine wp_load_row 29 _ rfl c3 rfl 29 A.cs.toArray (0, 0) _ (KK.out.at_ (c3, agO A) (by simp)) Try.underlying29 rfl (ag_size HLA.out) ?_) | (refine wp_load_row 31 _ rfl p rfl 31 _ (0, 0) _ (KK.out.at_ (p, ptO x) (by simp)) Try.underlying31 rfl pt_size ?_) | (refine wp_store_row 29 _ _ rfl c3 M.cs.toArray rfl rfl 29 A.cs.toArray (KK.out.at_ (c3, agO A) (by simp)) (ag_size HLM.out) (ag_sz HLA.out HLM.out) (ag_one _) ?_)); refine hK.out _ _ ?_ (fun hHeld => ?_); (focus ((try dsimp only); (try trivial); done)); clear hK; (try simp only [Act.put, List.setIfInBounds_toArray, List.set_cons_zero, List.set_cons_succ]))
        refine wpAnyH_done (by kernel_rfl) ?_ _
        have H3 := Lib.hid (Kn.setRow (KK.out.sub (m := [(c3, agO A), (g, agO Ag0)]) (by simp)) (by simp only [Apart, and_true]; omega) (by omega) (agO M))
        go_wp2_with fail
        go_roundw
        case rel => exact ⟨k + 1, by omega, by go_num, by rw [HNX.out]; exact Kn.same H3.out rfl rfl rfl rfl⟩
        case measure => simp [intOf]; omega
      · ((first | (refine wp_load_row 29 _ rfl c3 rfl 29 A.cs.toArray (0, 0) _ (KK.out.at_ (c3, agO A) (by simp)) Try.underlying29 rfl (ag_size HLA.out) ?_) | (refine wp_load_row 31 _ rfl p rfl 31 _ (0, 0) _ (KK.out.at_ (p, ptO x) (by simp)) Try.underlying31 rfl pt_size ?_) | (refine wp_store_row 29 _ _ rfl c3 M.cs.toArray rfl rfl 29 A.cs.toArray (KK.out.at_ (c3, agO A) (by simp)) (ag_size HLM.out) (ag_sz HLA.out HLM.out) (ag_one _) ?_)); refine hK1.out _ _ ?_ (fun hHeld => ?_); (focus ((try dsimp only); (try trivial); done)); clear hK1; (try simp only [Act.put, List.setIfInBounds_toArray, List.set_cons_zero, List.set_cons_succ]))
        refine wpAnyH_ready (rs := [0, 2]) (by kernel_rfl) (by simp) ?_
        refine AllReadyH.cons (o := { dst := some 13, op := Go.Op.load 29 (Go.Operand.tmp 3), type := 29, pos := "agg.go:61", after := #[], guard := none }) rfl (fun K hK0 => ?_) (AllReadyH.cons (o := { dst := some 15, op := Go.Op.call { callee := Go.Callee.value (Go.Operand.func 14), args := #[Go.Operand.tmp 14], argTypes := #[31] }, type := 29, pos := "agg.go:61", after := #[{ on := 1, ground := Go.Ground.data }], guard := none }) rfl (fun K hK2 => ?_) AllReadyH.nil)
        · ((first | (refine wp_load_row 29 _ rfl c3 rfl 29 A.cs.toArray (0, 0) _ (KK.out.at_ (c3, agO A) (by simp)) Try.underlying29 rfl (ag_size HLA.out) ?_) | (refine wp_load_row 31 _ rfl p rfl 31 _ (0, 0) _ (KK.out.at_ (p, ptO x) (by simp)) Try.underlying31 rfl pt_size ?_) | (refine wp_store_row 29 _ _ rfl c3 M.cs.toArray rfl rfl 29 A.cs.toArray (KK.out.at_ (c3, agO A) (by simp)) (ag_size HLM.out) (ag_sz HLA.out HLM.out) (ag_one _) ?_)); refine hK0.out _ _ ?_ (fun hHeld => ?_); (focus ((try dsimp only); (try trivial); done)); clear hK0; (try simp only [Act.put, List.setIfInBounds_toArray, List.set_cons_zero, List.set_cons_succ]))
          (refine wpAnyH_ready (rs := [2]) (by kernel_rfl) (by simp) ?_; refine AllReadyH.cons (o := { dst := some 15, op := Go.Op.call { callee := Go.Callee.value (Go.Operand.func 14), args := #[Go.Operand.tmp 14], argTypes := #[31] }, type := 29, pos := "agg.go:61", after := #[{ on := 1, ground := Go.Ground.data }], guard := none }) rfl (fun K hK => ?_) AllReadyH.nil; go_simp; ((first | (go_at_call 14; refine (H1 _).mono ?_; rintro e wn ⟨rfl, dn⟩; have KK := Lib.hid (Kn.later KK.out dn rfl rfl rfl rfl)) | (go_at_call 16; refine (H2 _).mono ?_; rintro e wn ⟨rfl, dn⟩; have KK := Lib.hid (Kn.later KK.out dn rfl rfl rfl rfl)))); go_wp2_with fail; refine hK.out _ _ ?_ (fun hHeld => ?_); (focus ((try dsimp only); (try trivial); done)); clear hK; (try simp only [Act.put, List.setIfInBounds_toArray, List.set_cons_zero, List.set_cons_succ]))
          (refine wpAnyH_ready (rs := [3]) (by kernel_rfl) (by simp) ?_; refine AllReadyH.cons (o := { dst := some 16, op := Go.Op.call { callee := Go.Callee.value (Go.Operand.func 16), args := #[Go.Operand.tmp 13, Go.Operand.tmp 15], argTypes := #[29, 29] }, type := 29, pos := "agg.go:61", after := #[{ on := 0, ground := Go.Ground.data }, { on := 2, ground := Go.Ground.data }, { on := 2, ground := Go.Ground.chain }], guard := none }) rfl (fun K hK => ?_) AllReadyH.nil; go_simp; ((first | (go_at_call 14; refine (H1 _).mono ?_; rintro e wn ⟨rfl, dn⟩; have KK := Lib.hid (Kn.later KK.out dn rfl rfl rfl rfl)) | (go_at_call 16; refine (H2 _).mono ?_; rintro e wn ⟨rfl, dn⟩; have KK := Lib.hid (Kn.later KK.out dn rfl rfl rfl rfl)))); go_wp2_with fail; refine hK.out _ _ ?_ (fun hHeld => ?_); (focus ((try dsimp only); (try trivial); done)); clear hK; (try simp only [Act.put, List.setIfInBounds_toArray, List.set_cons_zero, List.set_cons_succ]))
          (refine wpAnyH_ready (rs := [4]) (by kernel_rfl) (by simp) ?_; refine AllReadyH.cons (o := { dst := none, op := Go.Op.store 29 (Go.Operand.tmp 3) (Go.Operand.tmp 16), type := 0, pos := "agg.go:61", after := #[{ on := 3, ground := Go.Ground.data }, { on := 3, ground := Go.Ground.chain }, { on := 0, ground := Go.Ground.phase }, { on := 1, ground := Go.Ground.phase }, { on := 2, ground := Go.Ground.phase }, { on := 3, ground := Go.Ground.phase }], guard := none }) rfl (fun K hK => ?_) AllReadyH.nil; (first | (refine wp_load_row 29 _ rfl c3 rfl 29 A.cs.toArray (0, 0) _ (KK.out.at_ (c3, agO A) (by simp)) Try.underlying29 rfl (ag_size HLA.out) ?_) | (refine wp_load_row 31 _ rfl p rfl 31 _ (0, 0) _ (KK.out.at_ (p, ptO x) (by simp)) Try.underlying31 rfl pt_size ?_) | (refine wp_store_row 29 _ _ rfl c3 M.cs.toArray rfl rfl 29 A.cs.toArray (KK.out.at_ (c3, agO A) (by simp)) (ag_size HLM.out) (ag_sz HLA.out HLM.out) (ag_one _) ?_)); refine hK.out _ _ ?_ (fun hHeld => ?_); (focus ((try dsimp only); (try trivial); done)); clear hK; (try simp only [Act.put, List.setIfInBounds_toArray, List.set_cons_zero, List.set_cons_succ]))
          refine wpAnyH_done (by kernel_rfl) ?_ _
          have H3 := Lib.hid (Kn.setRow (KK.out.sub (m := [(c3, agO A), (g, agO Ag0)]) (by simp)) (by simp only [Apart, and_true]; omega) (by omega) (agO M))
          go_wp2_with fail
          go_roundw
          case rel => exact ⟨k + 1, by omega, by go_num, by rw [HNX.out]; exact Kn.same H3.out rfl rfl rfl rfl⟩
          case measure => simp [intOf]; omega
        · (go_simp; ((first | (go_at_call 14; refine (H1 _).mono ?_; rintro e wn ⟨rfl, dn⟩; have KK := Lib.hid (Kn.later KK.out dn rfl rfl rfl rfl)) | (go_at_call 16; refine (H2 _).mono ?_; rintro e wn ⟨rfl, dn⟩; have KK := Lib.hid (Kn.later KK.out dn rfl rfl rfl rfl)))); go_wp2_with fail; refine hK2.out _ _ ?_ (fun hHeld => ?_); (focus ((try dsimp only); (try trivial); done)); clear hK2; (try simp only [Act.put, List.setIfInBounds_toArray, List.set_cons_zero, List.set_cons_succ]))
          (refine wpAnyH_ready (rs := [0]) (by kernel_rfl) (by simp) ?_; refine AllReadyH.cons (o := { dst := some 13, op := Go.Op.load 29 (Go.Operand.tmp 3), type := 29, pos := "agg.go:61", after := #[], guard := none }) rfl (fun K hK => ?_) AllReadyH.nil; (first | (refine wp_load_row 29 _ rfl c3 rfl 29 A.cs.toArray (0, 0) _ (KK.out.at_ (c3, agO A) (by simp)) Try.underlying29 rfl (ag_size HLA.out) ?_) | (refine wp_load_row 31 _ rfl p rfl 31 _ (0, 0) _ (KK.out.at_ (p, ptO x) (by simp)) Try.underlying31 rfl pt_size ?_) | (refine wp_store_row 29 _ _ rfl c3 M.cs.toArray rfl rfl 29 A.cs.toArray (KK.out.at_ (c3, agO A) (by simp)) (ag_size HLM.out) (ag_sz HLA.out HLM.out) (ag_one _) ?_)); refine hK.out _ _ ?_ (fun hHeld => ?_); (focus ((try dsimp only); (try trivial); done)); clear hK; (try simp only [Act.put, List.setIfInBounds_toArray, List.set_cons_zero, List.set_cons_succ]))
          (refine wpAnyH_ready (rs := [3]) (by kernel_rfl) (by simp) ?_; refine AllReadyH.cons (o := { dst := some 16, op := Go.Op.call { callee := Go.Callee.value (Go.Operand.func 16), args := #[Go.Operand.tmp 13, Go.Operand.tmp 15], argTypes := #[29, 29] }, type := 29, pos := "agg.go:61", after := #[{ on := 0, ground := Go.Ground.data }, { on := 2, ground := Go.Ground.data }, { on := 2, ground := Go.Ground.chain }], guard := none }) rfl (fun K hK => ?_) AllReadyH.nil; go_simp; ((first | (go_at_call 14; refine (H1 _).mono ?_; rintro e wn ⟨rfl, dn⟩; have KK := Lib.hid (Kn.later KK.out dn rfl rfl rfl rfl)) | (go_at_call 16; refine (H2 _).mono ?_; rintro e wn ⟨rfl, dn⟩; have KK := Lib.hid (Kn.later KK.out dn rfl rfl rfl rfl)))); go_wp2_with fail; refine hK.out _ _ ?_ (fun hHeld => ?_); (focus ((try dsimp only); (try trivial); done)); clear hK; (try simp only [Act.put, List.setIfInBounds_toArray, List.set_cons_zero, List.set_cons_succ]))
          (refine wpAnyH_ready (rs := [4]) (by kernel_rfl) (by simp) ?_; refine AllReadyH.cons (o := { dst := none, op := Go.Op.store 29 (Go.Operand.tmp 3) (Go.Operand.tmp 16), type := 0, pos := "agg.go:61", after := #[{ on := 3, ground := Go.Ground.data }, { on := 3, ground := Go.Ground.chain }, { on := 0, ground := Go.Ground.phase }, { on := 1, ground := Go.Ground.phase }, { on := 2, ground := Go.Ground.phase }, { on := 3, ground := Go.Ground.phase }], guard := none }) rfl (fun K hK => ?_) AllReadyH.nil; (first | (refine wp_load_row 29 _ rfl c3 rfl 29 A.cs.toArray (0, 0) _ (KK.out.at_ (c3, agO A) (by simp)) Try.underlying29 rfl (ag_size HLA.out) ?_) | (refine wp_load_row 31 _ rfl p rfl 31 _ (0, 0) _ (KK.out.at_ (p, ptO x) (by simp)) Try.underlying31 rfl pt_size ?_) | (refine wp_store_row 29 _ _ rfl c3 M.cs.toArray rfl rfl 29 A.cs.toArray (KK.out.at_ (c3, agO A) (by simp)) (ag_size HLM.out) (ag_sz HLA.out HLM.out) (ag_one _) ?_)); refine hK.out _ _ ?_ (fun hHeld => ?_); (focus ((try dsimp only); (try trivial); done)); clear hK; (try simp only [Act.put, List.setIfInBounds_toArray, List.set_cons_zero, List.set_cons_succ]))
          refine wpAnyH_done (by kernel_rfl) ?_ _
          have H3 := Lib.hid (Kn.setRow (KK.out.sub (m := [(c3, agO A), (g, agO Ag0)]) (by simp)) (by simp only [Apart, and_true]; omega) (by omega) (agO M))
          go_wp2_with fail
          go_roundw
          case rel => exact ⟨k + 1, by omega, by go_num, by rw [HNX.out]; exact Kn.same H3.out rfl rfl rfl rfl⟩
          case measure => simp [intOf]; omega
    · have t1 : decide ((k : Int) < (n : Int)) = false := decide_eq_false (by omega)
      have t1' : decide (k < n) = false := decide_eq_false hlt
      obtain rfl : k = n := by omega
      rw [List.take_of_length_le (by omega)] at hk
      have hV : (foldV xs).ok := fold_ok xs hwf
      have HL : Hid ((foldV xs).bk.length = 9) := hV.2.2.2.2.2.2.1
      have HO : Hid (Ag0.bk.length = 9) := rfl
      have HA := Lib.hid hk.hd
      have h3 := hk.sub (m := [(g, agO Ag0)]) (by simp)
      have HR := Lib.hid h3.hd
      have HF := Lib.hid (Kn.setRow h3 trivial (by omega) (agO (foldV xs)))
      clear hk h3 hV
      go_wp2_with (first
        | refine wpList_load_row rfl 29 _ rfl (c3) rfl 29 (foldV xs : Ag).cs.toArray (0, 0) _ HA.out Try.underlying29 rfl (ag_size HL.out) ?_
        | refine wpList_store_row rfl 29 _ _ rfl (g) (foldV xs : Ag).cs.toArray rfl rfl 29 _ HR.out (ag_size HL.out) (ag_sz HO.out HL.out) (ag_one _) ?_)
      refine bodyPost_ret (v := .agg (foldV xs : Ag).cs.toArray) (results_cell_row rfl _ _ (g) 29 (foldV xs : Ag).cs.toArray (0, 0) _ rfl HF.out.hd Try.underlying29 rfl (ag_size HL.out)) rfl ⟨(congrArg (fun x : Ag => Ending.returned x.val) HV.out).symm, by first | exact HF.out.b | (rw [hg]; exact HF.out.b)⟩
end
end Go.Proofs.Ytojnooagifhekaa
