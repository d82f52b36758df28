/- The reference's log: After. -/
import Derived.Test.YtglabahbklpocaaGreatGShipPacks33
import Derived.Test.YtglabahbklpocaaGreatGShipPacks16
namespace Go.Proofs.YtglabahbklpocaaGreat
section
open Go.RowKit Go.Deep
set_option maxRecDepth 100000
set_option linter.unusedVariables false
set_option linter.unusedSimpArgs false
attribute [local go_sem ↓] Go.wp_at_zero Go.wp_at_succ
theorem take_snoc_lt {α : Type} (l : List α) (x : α) (k : Nat) (h : (l.take k).length < k) : (l ++ [x]).take k = l.take k ++ [x] := by
  rw [List.length_take] at h
  rw [List.take_of_length_le (by rw [List.length_append]; simp; omega), List.take_of_length_le (by omega)]
theorem take_snoc_ge {α : Type} (l : List α) (x : α) (k : Nat) (h : ¬ (l.take k).length < k) : (l ++ [x]).take k = l.take k := by
  rw [List.length_take] at h
  rw [List.take_append_of_le_length (by omega)]
set_option maxHeartbeats 8000000 in
theorem rlafter_any (F : List Nat) (g gL : Nat) (m : LogM) (d : Sl) (vs : List Int) (most : Int) (w : World) (hL : RLogAt w F g gL m) (hv : SlR w d vs) :
    Calls Tryz.prog 34 #[.pointer (some ⟨g, 0, none⟩), .slice d.a d.n d.c, .int .i64 most] w fun e w' => ∃ (o : Sl) (os : List RecA), e = .returned (.tuple #[.slice o.a o.n o.c, .bool (afterM m vs most).2]) ∧ AppE RecA.cs 60 9 w' w.heap.size o.a o.n o.c os ∧ os.map RecA.m = (afterM m vs most).1 ∧ (∀ x ∈ os, x.ok w ∧ x.d.n ≤ 8 ∧ farA F x.d) ∧ Below w.heap.size w w' := by
  obtain ⟨b, a, rs, hg, hc⟩ := hL
  obtain ⟨V, HV⟩ : ∃ V, Hid (V = afterM m vs most) := ⟨_, rfl⟩
  rw [← HV.out]
  have hlen : m.xs.length = a.n := by rw [hc.xs, List.length_map]; exact hc.ha.len
  have HC := Lib.hid hc
  have HX := Lib.hid hc.xs
  have HD := Lib.hid hv
  have ha400 := hc.sm
  have hgl := heap_lt hg
  have CV := rcovers_any d.a b.a d.n d.c b.n b.c vs m.bs w hv.r hc.hb.r hv.nc hv.cb hc.hb.nc hc.hb.cb
  have c1 := (rlog_cells hg rfl).2.1
  clear hc hv
  obtain ⟨B, hB⟩ : ∃ B, covV vs m.bs = B := ⟨_, rfl⟩
  rw [hB] at CV
  go_enter Tryz.func34, Tryz.ntmps34
  go_upto_region 2 with (first | (go_at_call 92; refine CV.mono ?_; rintro e w1 ⟨rfl, d1⟩; have HB1 := Lib.hid d1; clear d1))
  clear c1 CV
  cases B
  · have HV := Lib.hid (HV.out.trans (show afterM m vs most = ([], false) by unfold afterM; rw [if_neg (by rw [hB]; simp)]))
    clear hB
    go_wp2_with fail
    rw [HV.out]
    refine bodyPost_ret (v := .tuple #[.slice none 0 0, .bool false]) (by simp [results, Tryz.results34, go_sem, *]) rfl (by first | exact ⟨⟨none, 0, 0⟩, [], rfl, appE_nil _ _, rfl, by simp, HB1.out⟩ | exact ⟨⟨none, 0, 0⟩, rfl, [], appE_nil _ _, rfl, by simp, HB1.out⟩)
  · have HV := Lib.hid (HV.out.trans (show afterM m vs most = (thoseM m most (laterP vs), true) from if_pos hB))
    clear hB
    have hz1 := HB1.out.size
    go_wp2_with fail
    go_loopw [9, 10] (fun out i wr => ∃ (j n cap : Nat) (a2 : Option Addr) (os : List RecA), j ≤ a.n ∧ i = .int .i64 j ∧ out = .slice a2 n cap ∧ AppE RecA.cs 60 9 wr w.heap.size a2 n cap os ∧ (∀ x ∈ os, x ∈ rs) ∧ os.map RecA.m = ((m.xs.take j).filter (laterP vs)).take most.toNat ∧ Below w.heap.size w wr) (fun _ i _ => a.n - (intOf i).toNat)
    case atStart => exact ⟨0, 0, 0, none, [], by omega, rfl, rfl, appE_nil _ _, by simp, by simp, HB1.out⟩
    case round =>
      obtain ⟨j, n, cap, a2, os, hj, rfl, rfl, hA, hO, hmap, hbel⟩ := hrel
      have hg2 := (hbel.block g hgl).trans hg
      have hzz := hbel.size
      have HBT := Lib.hid hbel
      have HA := Lib.hid hA
      have HO := Lib.hid hO
      have HM := Lib.hid hmap
      have hos : os.length = n := hA.len
      have hnj : n ≤ j := by
        have h1 := congrArg List.length hmap
        rw [List.length_map, hos, List.length_take] at h1
        have h2 := List.length_filter_le (laterP vs) (m.xs.take j)
        rw [List.length_take] at h2
        omega
      have HC2 := Lib.hid (HC.out.below hbel)
      have KK := Lib.hid (show Kn wr.heap.size wr [(g, rlogO m.most b a m.clock)] wr from (Kn.start wr).put hg2)
      clear hA hO hmap hg2
      by_cases hlt : j < a.n
      · have t1 : decide ((j : Int) < (a.n : Int)) = true := decide_eq_true (by omega)
        obtain ⟨bb, oo, x, haa, hxk, hCE⟩ := recs_at (OffE.reads rec_len HC2.out.ha) j hlt
        have HCE := Lib.hid hCE
        have i1 : (0 : Int) ≤ (j : Int) := by omega
        have i2 : (j : Int) < (a.n : Int) := by omega
        have HXM := Lib.hid (List.mem_of_getElem? hxk)
        have HXK := Lib.hid (show m.xs[j]? = some x.m by rw [HX.out, List.getElem?_map, hxk]; rfl)
        have HDW := Lib.hid (HD.out.below hbel)
        have AT := fun wx hb => rat_any d.a d.n d.c vs x.r.st.site wx ((HDW.out.below (w' := wx) hb).r) HDW.out.nc HDW.out.cb
        have HS0 := Lib.hid (take_filter_snoc (laterP vs) m.xs j x.m HXK.out)
        have hLP : laterP vs x.m = decide (atV vs x.r.st.site < x.r.st.seq) := rfl
        clear hxk hCE
        have c2 := (rlog_cells (KK.out.at_ (g, rlogO m.most b a m.clock) (by simp)) rfl).2.2.1
        generalize hA : atV vs x.r.st.site = A at *
        clear hbel
        by_cases hP : A < x.r.st.seq
        · have t2 : decide (A < x.r.st.seq) = true := decide_eq_true hP
          have t2' : decide (x.r.st.seq > A) = true := decide_eq_true hP
          rw [t2] at hLP
          have HS1 := Lib.hid (show (m.xs.take (j + 1)).filter (laterP vs) = (m.xs.take j).filter (laterP vs) ++ [x.m] by rw [HS0.out, if_pos hLP])
          by_cases hr : (n : Int) < most
          · have t3 : decide ((n : Int) < most) = true := decide_eq_true hr
            have HS := Lib.hid (show ((m.xs.take (j + 1)).filter (laterP vs)).take most.toNat = ((m.xs.take j).filter (laterP vs)).take most.toNat ++ [x.m] by
              rw [HS1.out]
              exact take_snoc_lt _ _ _ (by rw [← HM.out, List.length_map, hos]; omega))
            clear hP hr hLP hA
            go_upto_region 8 with fail
            refine wp_region_held_drew (S := (fun wx => wx.cell? ⟨g, 2, none⟩ = some (.slice a.a a.n a.c) ∧ wx.cell? ⟨bb, oo + j * 9 + 5 + 1, none⟩ = some (.int .i64 x.r.st.site) ∧ wx.cell? ⟨bb, oo + j * 9 + 5 + 2, none⟩ = some (.int .i64 x.r.st.seq))) (by kernel_rfl) ?_ (fun hHeld => ?_)
            focus ((try dsimp only); (try (exact (have h := rlog_cells (KK.out.at_ (g, rlogO m.most b a m.clock) (by simp)) (by rfl); have h2 := HCE.out _ (Kn.same KK.out (by rfl) (by rfl) (by rfl) (by rfl)).b; ⟨h.2.2.1, rc_mid h2⟩))); done)
            (refine wpAnyH_take (i := 0) (oi := ⟨some 28, Go.Op.move (.tmp 0), 26, _, _, none⟩) (v := ?_) rfl (by kernel_rfl) (by kernel_rfl) (by kernel_rfl) (fun _ _ _ h => h) (Or.inl ⟨by rfl, ?_⟩) (by assumption) ?_; rotate_left; (focus (intro w hSw; ((try dsimp only at hSw); go_simp; try with_reducible rfl))); (try simp only [Act.put, sA, sZ, sS]))
            (refine wpAnyH_take (i := 1) (oi := ⟨some 29, Go.Op.nilCheck (.tmp 28), 0, _, _, none⟩) (v := ?_) rfl (by kernel_rfl) (by kernel_rfl) (by kernel_rfl) (fun _ _ _ h => h) (Or.inl ⟨by rfl, ?_⟩) (by assumption) ?_; rotate_left; (focus (intro w hSw; ((try dsimp only at hSw); go_simp; try with_reducible rfl))); (try simp only [Act.put, sA, sZ, sS]))
            (refine wpAnyH_take (i := 2) (oi := ⟨some 30, Go.Op.fieldAddr 119 (.tmp 29) 2, 0, _, _, none⟩) (v := ?_) rfl (by kernel_rfl) (by kernel_rfl) (by kernel_rfl) (fun _ _ _ h => h) (Or.inl ⟨by rfl, ?_⟩) (by assumption) ?_; rotate_left; (focus (intro w hSw; ((try dsimp only at hSw); go_simp; try with_reducible rfl))); (try simp only [Act.put, sA, sZ, sS]))
            (refine wpAnyH_take (i := 3) (oi := ⟨some 31, Go.Op.load 22 (.tmp 30), 22, _, _, none⟩) (v := ?_) rfl (by kernel_rfl) (by kernel_rfl) (by kernel_rfl) (fun _ _ _ h => h) (Or.inl ⟨by rfl, ?_⟩) (by assumption) ?_; rotate_left; (focus (intro w hSw; ((try dsimp only at hSw); go_simp; try with_reducible rfl))); (try simp only [Act.put, sA, sZ, sS]))
            (refine wpAnyH_take (i := 4) (oi := ⟨some 32, Go.Op.move (.tmp 10), 3, _, _, none⟩) (v := ?_) rfl (by kernel_rfl) (by kernel_rfl) (by kernel_rfl) (fun _ _ _ h => h) (Or.inl ⟨by rfl, ?_⟩) (by assumption) ?_; rotate_left; (focus (intro w hSw; ((try dsimp only at hSw); go_simp; try with_reducible rfl))); (try simp only [Act.put, sA, sZ, sS]))
            (refine wpAnyH_take (i := 5) (oi := ⟨some 33, Go.Op.indexAddr 22 (.tmp 31) (.tmp 32), 0, _, _, none⟩) (v := ?_) rfl (by kernel_rfl) (by kernel_rfl) (by kernel_rfl) (fun _ _ _ h => h) (Or.inl ⟨by rfl, ?_⟩) (by assumption) ?_; rotate_left; (focus (intro w hSw; ((try dsimp only at hSw); go_simp; try with_reducible rfl))); (try simp only [Act.put, sA, sZ, sS]))
            (refine wpAnyH_take (i := 6) (oi := ⟨some 34, Go.Op.fieldAddr 60 (.tmp 33) 5, 0, _, _, none⟩) (v := ?_) rfl (by kernel_rfl) (by kernel_rfl) (by kernel_rfl) (fun _ _ _ h => h) (Or.inl ⟨by rfl, ?_⟩) (by assumption) ?_; rotate_left; (focus (intro w hSw; ((try dsimp only at hSw); go_simp; try with_reducible rfl))); (try simp only [Act.put, sA, sZ, sS]))
            (refine wpAnyH_take (i := 7) (oi := ⟨some 35, Go.Op.fieldAddr 58 (.tmp 34) 2, 0, _, _, none⟩) (v := ?_) rfl (by kernel_rfl) (by kernel_rfl) (by kernel_rfl) (fun _ _ _ h => h) (Or.inl ⟨by rfl, ?_⟩) (by assumption) ?_; rotate_left; (focus (intro w hSw; ((try dsimp only at hSw); go_simp; try with_reducible rfl))); (try simp only [Act.put, sA, sZ, sS]))
            (refine wpAnyH_take (i := 8) (oi := ⟨some 36, Go.Op.load 3 (.tmp 35), 3, _, _, none⟩) (v := ?_) rfl (by kernel_rfl) (by kernel_rfl) (by kernel_rfl) (fun _ _ _ h => h) (Or.inl ⟨by rfl, ?_⟩) (by assumption) ?_; rotate_left; (focus (intro w hSw; ((try dsimp only at hSw); go_simp; try with_reducible rfl))); (try simp only [Act.put, sA, sZ, sS]))
            (refine wpAnyH_take (i := 9) (oi := ⟨some 37, Go.Op.move (.tmp 1), 23, _, _, none⟩) (v := ?_) rfl (by kernel_rfl) (by kernel_rfl) (by kernel_rfl) (fun _ _ _ h => h) (Or.inl ⟨by rfl, ?_⟩) (by assumption) ?_; rotate_left; (focus (intro w hSw; ((try dsimp only at hSw); go_simp; try with_reducible rfl))); (try simp only [Act.put, sA, sZ, sS]))
            (refine wpAnyH_take (i := 10) (oi := ⟨some 38, Go.Op.move (.tmp 0), 26, _, _, none⟩) (v := ?_) rfl (by kernel_rfl) (by kernel_rfl) (by kernel_rfl) (fun _ _ _ h => h) (Or.inl ⟨by rfl, ?_⟩) (by assumption) ?_; rotate_left; (focus (intro w hSw; ((try dsimp only at hSw); go_simp; try with_reducible rfl))); (try simp only [Act.put, sA, sZ, sS]))
            (refine wpAnyH_take (i := 11) (oi := ⟨some 39, Go.Op.nilCheck (.tmp 38), 0, _, _, none⟩) (v := ?_) rfl (by kernel_rfl) (by kernel_rfl) (by kernel_rfl) (fun _ _ _ h => h) (Or.inl ⟨by rfl, ?_⟩) (by assumption) ?_; rotate_left; (focus (intro w hSw; ((try dsimp only at hSw); go_simp; try with_reducible rfl))); (try simp only [Act.put, sA, sZ, sS]))
            (refine wpAnyH_take (i := 12) (oi := ⟨some 40, Go.Op.fieldAddr 119 (.tmp 39) 2, 0, _, _, none⟩) (v := ?_) rfl (by kernel_rfl) (by kernel_rfl) (by kernel_rfl) (fun _ _ _ h => h) (Or.inl ⟨by rfl, ?_⟩) (by assumption) ?_; rotate_left; (focus (intro w hSw; ((try dsimp only at hSw); go_simp; try with_reducible rfl))); (try simp only [Act.put, sA, sZ, sS]))
            (refine wpAnyH_take (i := 13) (oi := ⟨some 41, Go.Op.load 22 (.tmp 40), 22, _, _, none⟩) (v := ?_) rfl (by kernel_rfl) (by kernel_rfl) (by kernel_rfl) (fun _ _ _ h => h) (Or.inl ⟨by rfl, ?_⟩) (by assumption) ?_; rotate_left; (focus (intro w hSw; ((try dsimp only at hSw); go_simp; try with_reducible rfl))); (try simp only [Act.put, sA, sZ, sS]))
            (refine wpAnyH_take (i := 14) (oi := ⟨some 42, Go.Op.move (.tmp 10), 3, _, _, none⟩) (v := ?_) rfl (by kernel_rfl) (by kernel_rfl) (by kernel_rfl) (fun _ _ _ h => h) (Or.inl ⟨by rfl, ?_⟩) (by assumption) ?_; rotate_left; (focus (intro w hSw; ((try dsimp only at hSw); go_simp; try with_reducible rfl))); (try simp only [Act.put, sA, sZ, sS]))
            (refine wpAnyH_take (i := 15) (oi := ⟨some 43, Go.Op.indexAddr 22 (.tmp 41) (.tmp 42), 0, _, _, none⟩) (v := ?_) rfl (by kernel_rfl) (by kernel_rfl) (by kernel_rfl) (fun _ _ _ h => h) (Or.inl ⟨by rfl, ?_⟩) (by assumption) ?_; rotate_left; (focus (intro w hSw; ((try dsimp only at hSw); go_simp; try with_reducible rfl))); (try simp only [Act.put, sA, sZ, sS]))
            (refine wpAnyH_take (i := 16) (oi := ⟨some 44, Go.Op.fieldAddr 60 (.tmp 43) 5, 0, _, _, none⟩) (v := ?_) rfl (by kernel_rfl) (by kernel_rfl) (by kernel_rfl) (fun _ _ _ h => h) (Or.inl ⟨by rfl, ?_⟩) (by assumption) ?_; rotate_left; (focus (intro w hSw; ((try dsimp only at hSw); go_simp; try with_reducible rfl))); (try simp only [Act.put, sA, sZ, sS]))
            (refine wpAnyH_take (i := 17) (oi := ⟨some 45, Go.Op.fieldAddr 58 (.tmp 44) 1, 0, _, _, none⟩) (v := ?_) rfl (by kernel_rfl) (by kernel_rfl) (by kernel_rfl) (fun _ _ _ h => h) (Or.inl ⟨by rfl, ?_⟩) (by assumption) ?_; rotate_left; (focus (intro w hSw; ((try dsimp only at hSw); go_simp; try with_reducible rfl))); (try simp only [Act.put, sA, sZ, sS]))
            (refine wpAnyH_take (i := 18) (oi := ⟨some 46, Go.Op.load 3 (.tmp 45), 3, _, _, none⟩) (v := ?_) rfl (by kernel_rfl) (by kernel_rfl) (by kernel_rfl) (fun _ _ _ h => h) (Or.inl ⟨by rfl, ?_⟩) (by assumption) ?_; rotate_left; (focus (intro w hSw; ((try dsimp only at hSw); go_simp; try with_reducible rfl))); (try simp only [Act.put, sA, sZ, sS]))
            (refine wpAnyH_ready (rs := [19]) (by kernel_rfl) (by simp) ?_; refine AllReadyH.cons (o := ⟨some 47, Go.Op.call { callee := Go.Callee.value (.func 29), args := #[.tmp 37, .tmp 46], argTypes := #[23, 3] }, 3, _, _, none⟩) rfl (fun K hK => ?_) AllReadyH.nil; go_simp; ((first | (go_at_call 29; refine (AT _ (Kn.same KK.out (by rfl) (by rfl) (by rfl) (by rfl)).b).mono ?_; rintro e wn ⟨rfl, dn⟩; have KK := Lib.hid (Kn.later KK.out dn rfl rfl rfl rfl)))); go_wp2_with fail; refine hK.out _ _ ?_ (fun hHeld => ?_); (focus ((try dsimp only); (try (exact (have h := rlog_cells (KK.out.at_ (g, rlogO m.most b a m.clock) (by simp)) (by rfl); have h2 := HCE.out _ (Kn.same KK.out (by rfl) (by rfl) (by rfl) (by rfl)).b; ⟨h.2.2.1, rc_mid h2⟩))); done)); clear hK; (try simp only [Act.put, sA, sZ, sS]))
            (refine wpAnyH_take (i := 20) (oi := ⟨some 48, Go.Op.binOp Go.BinOp.gtr 3 (.tmp 36) (.tmp 47) 3, 4, _, _, none⟩) (v := ?_) rfl (by kernel_rfl) (by kernel_rfl) (by kernel_rfl) (fun _ _ _ h => h) (Or.inl ⟨by rfl, ?_⟩) (by assumption) ?_; rotate_left; (focus (intro w hSw; ((try dsimp only at hSw); go_simp; try with_reducible rfl))); (try simp only [Act.put, sA, sZ, sS]))
            (refine wpAnyH_take (i := 21) (oi := ⟨some 49, Go.Op.move (.tmp 48), 4, _, _, none⟩) (v := ?_) rfl (by kernel_rfl) (by kernel_rfl) (by kernel_rfl) (fun _ _ _ h => h) (Or.inl ⟨by rfl, ?_⟩) (by assumption) ?_; rotate_left; (focus (intro w hSw; ((try dsimp only at hSw); go_simp; try with_reducible rfl))); (try simp only [Act.put, sA, sZ, sS]))
            (first | (refine wpAnyH_take (i := 22) (oi := ⟨some 50, Go.Op.move (.tmp 9), 22, _, _, some (21, true)⟩) (v := undef) rfl (by kernel_rfl) (by kernel_rfl) (by kernel_rfl) (fun _ _ _ h => h) (Or.inr ⟨by rfl, rfl⟩) (by assumption) ?_; (try simp only [Act.put, sA, sZ, sS])) | (refine wpAnyH_take (i := 22) (oi := ⟨some 50, Go.Op.move (.tmp 9), 22, _, _, some (21, true)⟩) (v := ?_) rfl (by kernel_rfl) (by kernel_rfl) (by kernel_rfl) (fun _ _ _ h => h) (Or.inl ⟨by rfl, ?_⟩) (by assumption) ?_; rotate_left; (focus (intro w hSw; ((try dsimp only at hSw); go_simp; try with_reducible rfl))); (try simp only [Act.put, sA, sZ, sS])))
            (first | (refine wpAnyH_take (i := 23) (oi := ⟨some 51, Go.Op.call { callee := Go.Callee.builtin Go.Builtin.len, args := #[.tmp 50], argTypes := #[22] }, 3, _, _, some (21, true)⟩) (v := undef) rfl (by kernel_rfl) (by kernel_rfl) (by kernel_rfl) (fun _ _ _ h => h) (Or.inr ⟨by rfl, rfl⟩) (by assumption) ?_; (try simp only [Act.put, sA, sZ, sS])) | (refine wpAnyH_take (i := 23) (oi := ⟨some 51, Go.Op.call { callee := Go.Callee.builtin Go.Builtin.len, args := #[.tmp 50], argTypes := #[22] }, 3, _, _, some (21, true)⟩) (v := ?_) rfl (by kernel_rfl) (by kernel_rfl) (by kernel_rfl) (fun _ _ _ h => h) (Or.inl ⟨by rfl, ?_⟩) (by assumption) ?_; rotate_left; (focus (intro w hSw; ((try dsimp only at hSw); go_simp; try with_reducible rfl))); (try simp only [Act.put, sA, sZ, sS])))
            (first | (refine wpAnyH_take (i := 24) (oi := ⟨some 52, Go.Op.move (.tmp 2), 3, _, _, some (21, true)⟩) (v := undef) rfl (by kernel_rfl) (by kernel_rfl) (by kernel_rfl) (fun _ _ _ h => h) (Or.inr ⟨by rfl, rfl⟩) (by assumption) ?_; (try simp only [Act.put, sA, sZ, sS])) | (refine wpAnyH_take (i := 24) (oi := ⟨some 52, Go.Op.move (.tmp 2), 3, _, _, some (21, true)⟩) (v := ?_) rfl (by kernel_rfl) (by kernel_rfl) (by kernel_rfl) (fun _ _ _ h => h) (Or.inl ⟨by rfl, ?_⟩) (by assumption) ?_; rotate_left; (focus (intro w hSw; ((try dsimp only at hSw); go_simp; try with_reducible rfl))); (try simp only [Act.put, sA, sZ, sS])))
            (first | (refine wpAnyH_take (i := 25) (oi := ⟨some 53, Go.Op.binOp Go.BinOp.lss 3 (.tmp 51) (.tmp 52) 3, 4, _, _, some (21, true)⟩) (v := undef) rfl (by kernel_rfl) (by kernel_rfl) (by kernel_rfl) (fun _ _ _ h => h) (Or.inr ⟨by rfl, rfl⟩) (by assumption) ?_; (try simp only [Act.put, sA, sZ, sS])) | (refine wpAnyH_take (i := 25) (oi := ⟨some 53, Go.Op.binOp Go.BinOp.lss 3 (.tmp 51) (.tmp 52) 3, 4, _, _, some (21, true)⟩) (v := ?_) rfl (by kernel_rfl) (by kernel_rfl) (by kernel_rfl) (fun _ _ _ h => h) (Or.inl ⟨by rfl, ?_⟩) (by assumption) ?_; rotate_left; (focus (intro w hSw; ((try dsimp only at hSw); go_simp; try with_reducible rfl))); (try simp only [Act.put, sA, sZ, sS])))
            (refine wpAnyH_take (i := 26) (oi := ⟨some 54, Go.Op.pick (.tmp 49) (.tmp 53) (.const (Go.Value.bool false)), 4, _, _, none⟩) (v := ?_) rfl (by kernel_rfl) (by kernel_rfl) (by kernel_rfl) (fun _ _ _ h => h) (Or.inl ⟨by rfl, ?_⟩) (by assumption) ?_; rotate_left; (focus (intro w hSw; ((try dsimp only at hSw); go_simp; try with_reducible rfl))); (try simp only [Act.put, sA, sZ, sS]))
            refine wpAnyH_done (by kernel_rfl) ?_ _
            clear hHeld AT c2
            go_upto_region 9 with fail
            have c2 := (rlog_cells (KK.out.at_ (g, rlogO m.most b a m.clock) (by simp)) rfl).2.2.1
            have hCX : CellsAt wn bb (oo + j * 9) [.int .i64 x.r.kind, .string x.r.series, .int .i64 x.r.time, .int .i64 x.r.value, .int .i64 x.r.tier, .int .i64 x.r.st.clock, .int .i64 x.r.st.site, .int .i64 x.r.st.seq, .slice x.d.a x.d.n x.d.c] := HCE.out _ KK.out.b
            have hz9 := KK.out.le
            have HA9 := Lib.hid (HA.out.below KK.out.b)
            go_wp2_with (first
              | refine wpList_load_mid rfl 60 _ rfl bb (oo + j * 9) rfl [.int .i64 x.r.kind, .string x.r.series, .int .i64 x.r.time, .int .i64 x.r.value, .int .i64 x.r.tier, .int .i64 x.r.st.clock, .int .i64 x.r.st.site, .int .i64 x.r.st.seq, .slice x.d.a x.d.n x.d.c] _ hCX Tryz.underlying60 rfl (by kernel_rfl) ?_
              | (at_builtin; refine wpList_append_E (B := w.heap.size) (a := a2) (n := n) (cap := cap) (l := os) rec_ety rfl _ _ rfl _ rfl ?q1 ?q2 ?q3 wn.heap.size 1 x rfl ?q4 ?q5))
            case q1 => exact HA9.out.below ((Below.refl _ _).alloc (Nat.le_refl _) _)
            case q2 => first | omega | (simp; omega)
            case q3 => omega
            case q4 => exact rec_new1 wn x.r x.d x.ds
            case q5 =>
              intro a3 cap3 w5 hA5 hb5
              have HA5 := Lib.hid hA5
              have HB5 := Lib.hid ((below_then HBT.out hzz KK.out.b).trans (((Below.refl w.heap.size wn).alloc (by omega) _).trans hb5))
              have HO5 : Hid (∀ y ∈ os ++ [x], y ∈ rs) := fun y hy => by
                rcases List.mem_append.1 hy with hy | hy
                · exact HO.out y hy
                · simp only [List.mem_singleton] at hy
                  rw [hy]; exact HXM.out
              clear hA5 hb5 hCX c2
              go_wp2_with fail
              go_roundw
              case rel => exact ⟨j + 1, n + 1, cap3, a3, os ++ [x], by omega, by go_num, rfl, HA5.out, HO5.out, by rw [HS.out, List.map_append, HM.out]; rfl, HB5.out⟩
              case measure => simp [intOf]; omega
          · have t3 : decide ((n : Int) < most) = false := decide_eq_false hr
            have HS := Lib.hid (show ((m.xs.take (j + 1)).filter (laterP vs)).take most.toNat = ((m.xs.take j).filter (laterP vs)).take most.toNat by
              rw [HS1.out]
              exact take_snoc_ge _ _ _ (by rw [← HM.out, List.length_map, hos]; omega))
            clear hP hr hLP hA
            go_upto_region 8 with fail
            refine wp_region_held_drew (S := (fun wx => wx.cell? ⟨g, 2, none⟩ = some (.slice a.a a.n a.c) ∧ wx.cell? ⟨bb, oo + j * 9 + 5 + 1, none⟩ = some (.int .i64 x.r.st.site) ∧ wx.cell? ⟨bb, oo + j * 9 + 5 + 2, none⟩ = some (.int .i64 x.r.st.seq))) (by kernel_rfl) ?_ (fun hHeld => ?_)
            focus ((try dsimp only); (try (exact (have h := rlog_cells (KK.out.at_ (g, rlogO m.most b a m.clock) (by simp)) (by rfl); have h2 := HCE.out _ (Kn.same KK.out (by rfl) (by rfl) (by rfl) (by rfl)).b; ⟨h.2.2.1, rc_mid h2⟩))); done)
            (refine wpAnyH_take (i := 0) (oi := ⟨some 28, Go.Op.move (.tmp 0), 26, _, _, none⟩) (v := ?_) rfl (by kernel_rfl) (by kernel_rfl) (by kernel_rfl) (fun _ _ _ h => h) (Or.inl ⟨by rfl, ?_⟩) (by assumption) ?_; rotate_left; (focus (intro w hSw; ((try dsimp only at hSw); go_simp; try with_reducible rfl))); (try simp only [Act.put, sA, sZ, sS]))
            (refine wpAnyH_take (i := 1) (oi := ⟨some 29, Go.Op.nilCheck (.tmp 28), 0, _, _, none⟩) (v := ?_) rfl (by kernel_rfl) (by kernel_rfl) (by kernel_rfl) (fun _ _ _ h => h) (Or.inl ⟨by rfl, ?_⟩) (by assumption) ?_; rotate_left; (focus (intro w hSw; ((try dsimp only at hSw); go_simp; try with_reducible rfl))); (try simp only [Act.put, sA, sZ, sS]))
            (refine wpAnyH_take (i := 2) (oi := ⟨some 30, Go.Op.fieldAddr 119 (.tmp 29) 2, 0, _, _, none⟩) (v := ?_) rfl (by kernel_rfl) (by kernel_rfl) (by kernel_rfl) (fun _ _ _ h => h) (Or.inl ⟨by rfl, ?_⟩) (by assumption) ?_; rotate_left; (focus (intro w hSw; ((try dsimp only at hSw); go_simp; try with_reducible rfl))); (try simp only [Act.put, sA, sZ, sS]))
            (refine wpAnyH_take (i := 3) (oi := ⟨some 31, Go.Op.load 22 (.tmp 30), 22, _, _, none⟩) (v := ?_) rfl (by kernel_rfl) (by kernel_rfl) (by kernel_rfl) (fun _ _ _ h => h) (Or.inl ⟨by rfl, ?_⟩) (by assumption) ?_; rotate_left; (focus (intro w hSw; ((try dsimp only at hSw); go_simp; try with_reducible rfl))); (try simp only [Act.put, sA, sZ, sS]))
            (refine wpAnyH_take (i := 4) (oi := ⟨some 32, Go.Op.move (.tmp 10), 3, _, _, none⟩) (v := ?_) rfl (by kernel_rfl) (by kernel_rfl) (by kernel_rfl) (fun _ _ _ h => h) (Or.inl ⟨by rfl, ?_⟩) (by assumption) ?_; rotate_left; (focus (intro w hSw; ((try dsimp only at hSw); go_simp; try with_reducible rfl))); (try simp only [Act.put, sA, sZ, sS]))
            (refine wpAnyH_take (i := 5) (oi := ⟨some 33, Go.Op.indexAddr 22 (.tmp 31) (.tmp 32), 0, _, _, none⟩) (v := ?_) rfl (by kernel_rfl) (by kernel_rfl) (by kernel_rfl) (fun _ _ _ h => h) (Or.inl ⟨by rfl, ?_⟩) (by assumption) ?_; rotate_left; (focus (intro w hSw; ((try dsimp only at hSw); go_simp; try with_reducible rfl))); (try simp only [Act.put, sA, sZ, sS]))
            (refine wpAnyH_take (i := 6) (oi := ⟨some 34, Go.Op.fieldAddr 60 (.tmp 33) 5, 0, _, _, none⟩) (v := ?_) rfl (by kernel_rfl) (by kernel_rfl) (by kernel_rfl) (fun _ _ _ h => h) (Or.inl ⟨by rfl, ?_⟩) (by assumption) ?_; rotate_left; (focus (intro w hSw; ((try dsimp only at hSw); go_simp; try with_reducible rfl))); (try simp only [Act.put, sA, sZ, sS]))
            (refine wpAnyH_take (i := 7) (oi := ⟨some 35, Go.Op.fieldAddr 58 (.tmp 34) 2, 0, _, _, none⟩) (v := ?_) rfl (by kernel_rfl) (by kernel_rfl) (by kernel_rfl) (fun _ _ _ h => h) (Or.inl ⟨by rfl, ?_⟩) (by assumption) ?_; rotate_left; (focus (intro w hSw; ((try dsimp only at hSw); go_simp; try with_reducible rfl))); (try simp only [Act.put, sA, sZ, sS]))
            (refine wpAnyH_take (i := 8) (oi := ⟨some 36, Go.Op.load 3 (.tmp 35), 3, _, _, none⟩) (v := ?_) rfl (by kernel_rfl) (by kernel_rfl) (by kernel_rfl) (fun _ _ _ h => h) (Or.inl ⟨by rfl, ?_⟩) (by assumption) ?_; rotate_left; (focus (intro w hSw; ((try dsimp only at hSw); go_simp; try with_reducible rfl))); (try simp only [Act.put, sA, sZ, sS]))
            (refine wpAnyH_take (i := 9) (oi := ⟨some 37, Go.Op.move (.tmp 1), 23, _, _, none⟩) (v := ?_) rfl (by kernel_rfl) (by kernel_rfl) (by kernel_rfl) (fun _ _ _ h => h) (Or.inl ⟨by rfl, ?_⟩) (by assumption) ?_; rotate_left; (focus (intro w hSw; ((try dsimp only at hSw); go_simp; try with_reducible rfl))); (try simp only [Act.put, sA, sZ, sS]))
            (refine wpAnyH_take (i := 10) (oi := ⟨some 38, Go.Op.move (.tmp 0), 26, _, _, none⟩) (v := ?_) rfl (by kernel_rfl) (by kernel_rfl) (by kernel_rfl) (fun _ _ _ h => h) (Or.inl ⟨by rfl, ?_⟩) (by assumption) ?_; rotate_left; (focus (intro w hSw; ((try dsimp only at hSw); go_simp; try with_reducible rfl))); (try simp only [Act.put, sA, sZ, sS]))
            (refine wpAnyH_take (i := 11) (oi := ⟨some 39, Go.Op.nilCheck (.tmp 38), 0, _, _, none⟩) (v := ?_) rfl (by kernel_rfl) (by kernel_rfl) (by kernel_rfl) (fun _ _ _ h => h) (Or.inl ⟨by rfl, ?_⟩) (by assumption) ?_; rotate_left; (focus (intro w hSw; ((try dsimp only at hSw); go_simp; try with_reducible rfl))); (try simp only [Act.put, sA, sZ, sS]))
            (refine wpAnyH_take (i := 12) (oi := ⟨some 40, Go.Op.fieldAddr 119 (.tmp 39) 2, 0, _, _, none⟩) (v := ?_) rfl (by kernel_rfl) (by kernel_rfl) (by kernel_rfl) (fun _ _ _ h => h) (Or.inl ⟨by rfl, ?_⟩) (by assumption) ?_; rotate_left; (focus (intro w hSw; ((try dsimp only at hSw); go_simp; try with_reducible rfl))); (try simp only [Act.put, sA, sZ, sS]))
            (refine wpAnyH_take (i := 13) (oi := ⟨some 41, Go.Op.load 22 (.tmp 40), 22, _, _, none⟩) (v := ?_) rfl (by kernel_rfl) (by kernel_rfl) (by kernel_rfl) (fun _ _ _ h => h) (Or.inl ⟨by rfl, ?_⟩) (by assumption) ?_; rotate_left; (focus (intro w hSw; ((try dsimp only at hSw); go_simp; try with_reducible rfl))); (try simp only [Act.put, sA, sZ, sS]))
            (refine wpAnyH_take (i := 14) (oi := ⟨some 42, Go.Op.move (.tmp 10), 3, _, _, none⟩) (v := ?_) rfl (by kernel_rfl) (by kernel_rfl) (by kernel_rfl) (fun _ _ _ h => h) (Or.inl ⟨by rfl, ?_⟩) (by assumption) ?_; rotate_left; (focus (intro w hSw; ((try dsimp only at hSw); go_simp; try with_reducible rfl))); (try simp only [Act.put, sA, sZ, sS]))
            (refine wpAnyH_take (i := 15) (oi := ⟨some 43, Go.Op.indexAddr 22 (.tmp 41) (.tmp 42), 0, _, _, none⟩) (v := ?_) rfl (by kernel_rfl) (by kernel_rfl) (by kernel_rfl) (fun _ _ _ h => h) (Or.inl ⟨by rfl, ?_⟩) (by assumption) ?_; rotate_left; (focus (intro w hSw; ((try dsimp only at hSw); go_simp; try with_reducible rfl))); (try simp only [Act.put, sA, sZ, sS]))
            (refine wpAnyH_take (i := 16) (oi := ⟨some 44, Go.Op.fieldAddr 60 (.tmp 43) 5, 0, _, _, none⟩) (v := ?_) rfl (by kernel_rfl) (by kernel_rfl) (by kernel_rfl) (fun _ _ _ h => h) (Or.inl ⟨by rfl, ?_⟩) (by assumption) ?_; rotate_left; (focus (intro w hSw; ((try dsimp only at hSw); go_simp; try with_reducible rfl))); (try simp only [Act.put, sA, sZ, sS]))
            (refine wpAnyH_take (i := 17) (oi := ⟨some 45, Go.Op.fieldAddr 58 (.tmp 44) 1, 0, _, _, none⟩) (v := ?_) rfl (by kernel_rfl) (by kernel_rfl) (by kernel_rfl) (fun _ _ _ h => h) (Or.inl ⟨by rfl, ?_⟩) (by assumption) ?_; rotate_left; (focus (intro w hSw; ((try dsimp only at hSw); go_simp; try with_reducible rfl))); (try simp only [Act.put, sA, sZ, sS]))
            (refine wpAnyH_take (i := 18) (oi := ⟨some 46, Go.Op.load 3 (.tmp 45), 3, _, _, none⟩) (v := ?_) rfl (by kernel_rfl) (by kernel_rfl) (by kernel_rfl) (fun _ _ _ h => h) (Or.inl ⟨by rfl, ?_⟩) (by assumption) ?_; rotate_left; (focus (intro w hSw; ((try dsimp only at hSw); go_simp; try with_reducible rfl))); (try simp only [Act.put, sA, sZ, sS]))
            (refine wpAnyH_ready (rs := [19]) (by kernel_rfl) (by simp) ?_; refine AllReadyH.cons (o := ⟨some 47, Go.Op.call { callee := Go.Callee.value (.func 29), args := #[.tmp 37, .tmp 46], argTypes := #[23, 3] }, 3, _, _, none⟩) rfl (fun K hK => ?_) AllReadyH.nil; go_simp; ((first | (go_at_call 29; refine (AT _ (Kn.same KK.out (by rfl) (by rfl) (by rfl) (by rfl)).b).mono ?_; rintro e wn ⟨rfl, dn⟩; have KK := Lib.hid (Kn.later KK.out dn rfl rfl rfl rfl)))); go_wp2_with fail; refine hK.out _ _ ?_ (fun hHeld => ?_); (focus ((try dsimp only); (try (exact (have h := rlog_cells (KK.out.at_ (g, rlogO m.most b a m.clock) (by simp)) (by rfl); have h2 := HCE.out _ (Kn.same KK.out (by rfl) (by rfl) (by rfl) (by rfl)).b; ⟨h.2.2.1, rc_mid h2⟩))); done)); clear hK; (try simp only [Act.put, sA, sZ, sS]))
            (refine wpAnyH_take (i := 20) (oi := ⟨some 48, Go.Op.binOp Go.BinOp.gtr 3 (.tmp 36) (.tmp 47) 3, 4, _, _, none⟩) (v := ?_) rfl (by kernel_rfl) (by kernel_rfl) (by kernel_rfl) (fun _ _ _ h => h) (Or.inl ⟨by rfl, ?_⟩) (by assumption) ?_; rotate_left; (focus (intro w hSw; ((try dsimp only at hSw); go_simp; try with_reducible rfl))); (try simp only [Act.put, sA, sZ, sS]))
            (refine wpAnyH_take (i := 21) (oi := ⟨some 49, Go.Op.move (.tmp 48), 4, _, _, none⟩) (v := ?_) rfl (by kernel_rfl) (by kernel_rfl) (by kernel_rfl) (fun _ _ _ h => h) (Or.inl ⟨by rfl, ?_⟩) (by assumption) ?_; rotate_left; (focus (intro w hSw; ((try dsimp only at hSw); go_simp; try with_reducible rfl))); (try simp only [Act.put, sA, sZ, sS]))
            (first | (refine wpAnyH_take (i := 22) (oi := ⟨some 50, Go.Op.move (.tmp 9), 22, _, _, some (21, true)⟩) (v := undef) rfl (by kernel_rfl) (by kernel_rfl) (by kernel_rfl) (fun _ _ _ h => h) (Or.inr ⟨by rfl, rfl⟩) (by assumption) ?_; (try simp only [Act.put, sA, sZ, sS])) | (refine wpAnyH_take (i := 22) (oi := ⟨some 50, Go.Op.move (.tmp 9), 22, _, _, some (21, true)⟩) (v := ?_) rfl (by kernel_rfl) (by kernel_rfl) (by kernel_rfl) (fun _ _ _ h => h) (Or.inl ⟨by rfl, ?_⟩) (by assumption) ?_; rotate_left; (focus (intro w hSw; ((try dsimp only at hSw); go_simp; try with_reducible rfl))); (try simp only [Act.put, sA, sZ, sS])))
            (first | (refine wpAnyH_take (i := 23) (oi := ⟨some 51, Go.Op.call { callee := Go.Callee.builtin Go.Builtin.len, args := #[.tmp 50], argTypes := #[22] }, 3, _, _, some (21, true)⟩) (v := undef) rfl (by kernel_rfl) (by kernel_rfl) (by kernel_rfl) (fun _ _ _ h => h) (Or.inr ⟨by rfl, rfl⟩) (by assumption) ?_; (try simp only [Act.put, sA, sZ, sS])) | (refine wpAnyH_take (i := 23) (oi := ⟨some 51, Go.Op.call { callee := Go.Callee.builtin Go.Builtin.len, args := #[.tmp 50], argTypes := #[22] }, 3, _, _, some (21, true)⟩) (v := ?_) rfl (by kernel_rfl) (by kernel_rfl) (by kernel_rfl) (fun _ _ _ h => h) (Or.inl ⟨by rfl, ?_⟩) (by assumption) ?_; rotate_left; (focus (intro w hSw; ((try dsimp only at hSw); go_simp; try with_reducible rfl))); (try simp only [Act.put, sA, sZ, sS])))
            (first | (refine wpAnyH_take (i := 24) (oi := ⟨some 52, Go.Op.move (.tmp 2), 3, _, _, some (21, true)⟩) (v := undef) rfl (by kernel_rfl) (by kernel_rfl) (by kernel_rfl) (fun _ _ _ h => h) (Or.inr ⟨by rfl, rfl⟩) (by assumption) ?_; (try simp only [Act.put, sA, sZ, sS])) | (refine wpAnyH_take (i := 24) (oi := ⟨some 52, Go.Op.move (.tmp 2), 3, _, _, some (21, true)⟩) (v := ?_) rfl (by kernel_rfl) (by kernel_rfl) (by kernel_rfl) (fun _ _ _ h => h) (Or.inl ⟨by rfl, ?_⟩) (by assumption) ?_; rotate_left; (focus (intro w hSw; ((try dsimp only at hSw); go_simp; try with_reducible rfl))); (try simp only [Act.put, sA, sZ, sS])))
            (first | (refine wpAnyH_take (i := 25) (oi := ⟨some 53, Go.Op.binOp Go.BinOp.lss 3 (.tmp 51) (.tmp 52) 3, 4, _, _, some (21, true)⟩) (v := undef) rfl (by kernel_rfl) (by kernel_rfl) (by kernel_rfl) (fun _ _ _ h => h) (Or.inr ⟨by rfl, rfl⟩) (by assumption) ?_; (try simp only [Act.put, sA, sZ, sS])) | (refine wpAnyH_take (i := 25) (oi := ⟨some 53, Go.Op.binOp Go.BinOp.lss 3 (.tmp 51) (.tmp 52) 3, 4, _, _, some (21, true)⟩) (v := ?_) rfl (by kernel_rfl) (by kernel_rfl) (by kernel_rfl) (fun _ _ _ h => h) (Or.inl ⟨by rfl, ?_⟩) (by assumption) ?_; rotate_left; (focus (intro w hSw; ((try dsimp only at hSw); go_simp; try with_reducible rfl))); (try simp only [Act.put, sA, sZ, sS])))
            (refine wpAnyH_take (i := 26) (oi := ⟨some 54, Go.Op.pick (.tmp 49) (.tmp 53) (.const (Go.Value.bool false)), 4, _, _, none⟩) (v := ?_) rfl (by kernel_rfl) (by kernel_rfl) (by kernel_rfl) (fun _ _ _ h => h) (Or.inl ⟨by rfl, ?_⟩) (by assumption) ?_; rotate_left; (focus (intro w hSw; ((try dsimp only at hSw); go_simp; try with_reducible rfl))); (try simp only [Act.put, sA, sZ, sS]))
            refine wpAnyH_done (by kernel_rfl) ?_ _
            clear hHeld
            go_wp2_with fail
            go_roundw
            case rel => exact ⟨j + 1, n, cap, a2, os, by omega, by go_num, rfl, HA.out.below (Kn.same KK.out rfl rfl rfl rfl).b, HO.out, by rw [HS.out]; exact HM.out, below_then HBT.out hzz (Kn.same KK.out rfl rfl rfl rfl).b⟩
            case measure => simp [intOf]; omega
        · have t2 : decide (A < x.r.st.seq) = false := decide_eq_false hP
          have t2' : decide (x.r.st.seq > A) = false := decide_eq_false hP
          rw [t2] at hLP
          have HS := Lib.hid (show ((m.xs.take (j + 1)).filter (laterP vs)).take most.toNat = ((m.xs.take j).filter (laterP vs)).take most.toNat by rw [HS0.out, if_neg (by rw [hLP]; simp), List.append_nil])
          clear hP hLP hA
          go_upto_region 8 with fail
          refine wp_region_held_drew (S := (fun wx => wx.cell? ⟨g, 2, none⟩ = some (.slice a.a a.n a.c) ∧ wx.cell? ⟨bb, oo + j * 9 + 5 + 1, none⟩ = some (.int .i64 x.r.st.site) ∧ wx.cell? ⟨bb, oo + j * 9 + 5 + 2, none⟩ = some (.int .i64 x.r.st.seq))) (by kernel_rfl) ?_ (fun hHeld => ?_)
          focus ((try dsimp only); (try (exact (have h := rlog_cells (KK.out.at_ (g, rlogO m.most b a m.clock) (by simp)) (by rfl); have h2 := HCE.out _ (Kn.same KK.out (by rfl) (by rfl) (by rfl) (by rfl)).b; ⟨h.2.2.1, rc_mid h2⟩))); done)
          (refine wpAnyH_take (i := 0) (oi := ⟨some 28, Go.Op.move (.tmp 0), 26, _, _, none⟩) (v := ?_) rfl (by kernel_rfl) (by kernel_rfl) (by kernel_rfl) (fun _ _ _ h => h) (Or.inl ⟨by rfl, ?_⟩) (by assumption) ?_; rotate_left; (focus (intro w hSw; ((try dsimp only at hSw); go_simp; try with_reducible rfl))); (try simp only [Act.put, sA, sZ, sS]))
          (refine wpAnyH_take (i := 1) (oi := ⟨some 29, Go.Op.nilCheck (.tmp 28), 0, _, _, none⟩) (v := ?_) rfl (by kernel_rfl) (by kernel_rfl) (by kernel_rfl) (fun _ _ _ h => h) (Or.inl ⟨by rfl, ?_⟩) (by assumption) ?_; rotate_left; (focus (intro w hSw; ((try dsimp only at hSw); go_simp; try with_reducible rfl))); (try simp only [Act.put, sA, sZ, sS]))
          (refine wpAnyH_take (i := 2) (oi := ⟨some 30, Go.Op.fieldAddr 119 (.tmp 29) 2, 0, _, _, none⟩) (v := ?_) rfl (by kernel_rfl) (by kernel_rfl) (by kernel_rfl) (fun _ _ _ h => h) (Or.inl ⟨by rfl, ?_⟩) (by assumption) ?_; rotate_left; (focus (intro w hSw; ((try dsimp only at hSw); go_simp; try with_reducible rfl))); (try simp only [Act.put, sA, sZ, sS]))
          (refine wpAnyH_take (i := 3) (oi := ⟨some 31, Go.Op.load 22 (.tmp 30), 22, _, _, none⟩) (v := ?_) rfl (by kernel_rfl) (by kernel_rfl) (by kernel_rfl) (fun _ _ _ h => h) (Or.inl ⟨by rfl, ?_⟩) (by assumption) ?_; rotate_left; (focus (intro w hSw; ((try dsimp only at hSw); go_simp; try with_reducible rfl))); (try simp only [Act.put, sA, sZ, sS]))
          (refine wpAnyH_take (i := 4) (oi := ⟨some 32, Go.Op.move (.tmp 10), 3, _, _, none⟩) (v := ?_) rfl (by kernel_rfl) (by kernel_rfl) (by kernel_rfl) (fun _ _ _ h => h) (Or.inl ⟨by rfl, ?_⟩) (by assumption) ?_; rotate_left; (focus (intro w hSw; ((try dsimp only at hSw); go_simp; try with_reducible rfl))); (try simp only [Act.put, sA, sZ, sS]))
          (refine wpAnyH_take (i := 5) (oi := ⟨some 33, Go.Op.indexAddr 22 (.tmp 31) (.tmp 32), 0, _, _, none⟩) (v := ?_) rfl (by kernel_rfl) (by kernel_rfl) (by kernel_rfl) (fun _ _ _ h => h) (Or.inl ⟨by rfl, ?_⟩) (by assumption) ?_; rotate_left; (focus (intro w hSw; ((try dsimp only at hSw); go_simp; try with_reducible rfl))); (try simp only [Act.put, sA, sZ, sS]))
          (refine wpAnyH_take (i := 6) (oi := ⟨some 34, Go.Op.fieldAddr 60 (.tmp 33) 5, 0, _, _, none⟩) (v := ?_) rfl (by kernel_rfl) (by kernel_rfl) (by kernel_rfl) (fun _ _ _ h => h) (Or.inl ⟨by rfl, ?_⟩) (by assumption) ?_; rotate_left; (focus (intro w hSw; ((try dsimp only at hSw); go_simp; try with_reducible rfl))); (try simp only [Act.put, sA, sZ, sS]))
          (refine wpAnyH_take (i := 7) (oi := ⟨some 35, Go.Op.fieldAddr 58 (.tmp 34) 2, 0, _, _, none⟩) (v := ?_) rfl (by kernel_rfl) (by kernel_rfl) (by kernel_rfl) (fun _ _ _ h => h) (Or.inl ⟨by rfl, ?_⟩) (by assumption) ?_; rotate_left; (focus (intro w hSw; ((try dsimp only at hSw); go_simp; try with_reducible rfl))); (try simp only [Act.put, sA, sZ, sS]))
          (refine wpAnyH_take (i := 8) (oi := ⟨some 36, Go.Op.load 3 (.tmp 35), 3, _, _, none⟩) (v := ?_) rfl (by kernel_rfl) (by kernel_rfl) (by kernel_rfl) (fun _ _ _ h => h) (Or.inl ⟨by rfl, ?_⟩) (by assumption) ?_; rotate_left; (focus (intro w hSw; ((try dsimp only at hSw); go_simp; try with_reducible rfl))); (try simp only [Act.put, sA, sZ, sS]))
          (refine wpAnyH_take (i := 9) (oi := ⟨some 37, Go.Op.move (.tmp 1), 23, _, _, none⟩) (v := ?_) rfl (by kernel_rfl) (by kernel_rfl) (by kernel_rfl) (fun _ _ _ h => h) (Or.inl ⟨by rfl, ?_⟩) (by assumption) ?_; rotate_left; (focus (intro w hSw; ((try dsimp only at hSw); go_simp; try with_reducible rfl))); (try simp only [Act.put, sA, sZ, sS]))
          (refine wpAnyH_take (i := 10) (oi := ⟨some 38, Go.Op.move (.tmp 0), 26, _, _, none⟩) (v := ?_) rfl (by kernel_rfl) (by kernel_rfl) (by kernel_rfl) (fun _ _ _ h => h) (Or.inl ⟨by rfl, ?_⟩) (by assumption) ?_; rotate_left; (focus (intro w hSw; ((try dsimp only at hSw); go_simp; try with_reducible rfl))); (try simp only [Act.put, sA, sZ, sS]))
          (refine wpAnyH_take (i := 11) (oi := ⟨some 39, Go.Op.nilCheck (.tmp 38), 0, _, _, none⟩) (v := ?_) rfl (by kernel_rfl) (by kernel_rfl) (by kernel_rfl) (fun _ _ _ h => h) (Or.inl ⟨by rfl, ?_⟩) (by assumption) ?_; rotate_left; (focus (intro w hSw; ((try dsimp only at hSw); go_simp; try with_reducible rfl))); (try simp only [Act.put, sA, sZ, sS]))
          (refine wpAnyH_take (i := 12) (oi := ⟨some 40, Go.Op.fieldAddr 119 (.tmp 39) 2, 0, _, _, none⟩) (v := ?_) rfl (by kernel_rfl) (by kernel_rfl) (by kernel_rfl) (fun _ _ _ h => h) (Or.inl ⟨by rfl, ?_⟩) (by assumption) ?_; rotate_left; (focus (intro w hSw; ((try dsimp only at hSw); go_simp; try with_reducible rfl))); (try simp only [Act.put, sA, sZ, sS]))
          (refine wpAnyH_take (i := 13) (oi := ⟨some 41, Go.Op.load 22 (.tmp 40), 22, _, _, none⟩) (v := ?_) rfl (by kernel_rfl) (by kernel_rfl) (by kernel_rfl) (fun _ _ _ h => h) (Or.inl ⟨by rfl, ?_⟩) (by assumption) ?_; rotate_left; (focus (intro w hSw; ((try dsimp only at hSw); go_simp; try with_reducible rfl))); (try simp only [Act.put, sA, sZ, sS]))
          (refine wpAnyH_take (i := 14) (oi := ⟨some 42, Go.Op.move (.tmp 10), 3, _, _, none⟩) (v := ?_) rfl (by kernel_rfl) (by kernel_rfl) (by kernel_rfl) (fun _ _ _ h => h) (Or.inl ⟨by rfl, ?_⟩) (by assumption) ?_; rotate_left; (focus (intro w hSw; ((try dsimp only at hSw); go_simp; try with_reducible rfl))); (try simp only [Act.put, sA, sZ, sS]))
          (refine wpAnyH_take (i := 15) (oi := ⟨some 43, Go.Op.indexAddr 22 (.tmp 41) (.tmp 42), 0, _, _, none⟩) (v := ?_) rfl (by kernel_rfl) (by kernel_rfl) (by kernel_rfl) (fun _ _ _ h => h) (Or.inl ⟨by rfl, ?_⟩) (by assumption) ?_; rotate_left; (focus (intro w hSw; ((try dsimp only at hSw); go_simp; try with_reducible rfl))); (try simp only [Act.put, sA, sZ, sS]))
          (refine wpAnyH_take (i := 16) (oi := ⟨some 44, Go.Op.fieldAddr 60 (.tmp 43) 5, 0, _, _, none⟩) (v := ?_) rfl (by kernel_rfl) (by kernel_rfl) (by kernel_rfl) (fun _ _ _ h => h) (Or.inl ⟨by rfl, ?_⟩) (by assumption) ?_; rotate_left; (focus (intro w hSw; ((try dsimp only at hSw); go_simp; try with_reducible rfl))); (try simp only [Act.put, sA, sZ, sS]))
          (refine wpAnyH_take (i := 17) (oi := ⟨some 45, Go.Op.fieldAddr 58 (.tmp 44) 1, 0, _, _, none⟩) (v := ?_) rfl (by kernel_rfl) (by kernel_rfl) (by kernel_rfl) (fun _ _ _ h => h) (Or.inl ⟨by rfl, ?_⟩) (by assumption) ?_; rotate_left; (focus (intro w hSw; ((try dsimp only at hSw); go_simp; try with_reducible rfl))); (try simp only [Act.put, sA, sZ, sS]))
          (refine wpAnyH_take (i := 18) (oi := ⟨some 46, Go.Op.load 3 (.tmp 45), 3, _, _, none⟩) (v := ?_) rfl (by kernel_rfl) (by kernel_rfl) (by kernel_rfl) (fun _ _ _ h => h) (Or.inl ⟨by rfl, ?_⟩) (by assumption) ?_; rotate_left; (focus (intro w hSw; ((try dsimp only at hSw); go_simp; try with_reducible rfl))); (try simp only [Act.put, sA, sZ, sS]))
          (refine wpAnyH_ready (rs := [19]) (by kernel_rfl) (by simp) ?_; refine AllReadyH.cons (o := ⟨some 47, Go.Op.call { callee := Go.Callee.value (.func 29), args := #[.tmp 37, .tmp 46], argTypes := #[23, 3] }, 3, _, _, none⟩) rfl (fun K hK => ?_) AllReadyH.nil; go_simp; ((first | (go_at_call 29; refine (AT _ (Kn.same KK.out (by rfl) (by rfl) (by rfl) (by rfl)).b).mono ?_; rintro e wn ⟨rfl, dn⟩; have KK := Lib.hid (Kn.later KK.out dn rfl rfl rfl rfl)))); go_wp2_with fail; refine hK.out _ _ ?_ (fun hHeld => ?_); (focus ((try dsimp only); (try (exact (have h := rlog_cells (KK.out.at_ (g, rlogO m.most b a m.clock) (by simp)) (by rfl); have h2 := HCE.out _ (Kn.same KK.out (by rfl) (by rfl) (by rfl) (by rfl)).b; ⟨h.2.2.1, rc_mid h2⟩))); done)); clear hK; (try simp only [Act.put, sA, sZ, sS]))
          (refine wpAnyH_take (i := 20) (oi := ⟨some 48, Go.Op.binOp Go.BinOp.gtr 3 (.tmp 36) (.tmp 47) 3, 4, _, _, none⟩) (v := ?_) rfl (by kernel_rfl) (by kernel_rfl) (by kernel_rfl) (fun _ _ _ h => h) (Or.inl ⟨by rfl, ?_⟩) (by assumption) ?_; rotate_left; (focus (intro w hSw; ((try dsimp only at hSw); go_simp; try with_reducible rfl))); (try simp only [Act.put, sA, sZ, sS]))
          (refine wpAnyH_take (i := 21) (oi := ⟨some 49, Go.Op.move (.tmp 48), 4, _, _, none⟩) (v := ?_) rfl (by kernel_rfl) (by kernel_rfl) (by kernel_rfl) (fun _ _ _ h => h) (Or.inl ⟨by rfl, ?_⟩) (by assumption) ?_; rotate_left; (focus (intro w hSw; ((try dsimp only at hSw); go_simp; try with_reducible rfl))); (try simp only [Act.put, sA, sZ, sS]))
          (first | (refine wpAnyH_take (i := 22) (oi := ⟨some 50, Go.Op.move (.tmp 9), 22, _, _, some (21, true)⟩) (v := undef) rfl (by kernel_rfl) (by kernel_rfl) (by kernel_rfl) (fun _ _ _ h => h) (Or.inr ⟨by rfl, rfl⟩) (by assumption) ?_; (try simp only [Act.put, sA, sZ, sS])) | (refine wpAnyH_take (i := 22) (oi := ⟨some 50, Go.Op.move (.tmp 9), 22, _, _, some (21, true)⟩) (v := ?_) rfl (by kernel_rfl) (by kernel_rfl) (by kernel_rfl) (fun _ _ _ h => h) (Or.inl ⟨by rfl, ?_⟩) (by assumption) ?_; rotate_left; (focus (intro w hSw; ((try dsimp only at hSw); go_simp; try with_reducible rfl))); (try simp only [Act.put, sA, sZ, sS])))
          (first | (refine wpAnyH_take (i := 23) (oi := ⟨some 51, Go.Op.call { callee := Go.Callee.builtin Go.Builtin.len, args := #[.tmp 50], argTypes := #[22] }, 3, _, _, some (21, true)⟩) (v := undef) rfl (by kernel_rfl) (by kernel_rfl) (by kernel_rfl) (fun _ _ _ h => h) (Or.inr ⟨by rfl, rfl⟩) (by assumption) ?_; (try simp only [Act.put, sA, sZ, sS])) | (refine wpAnyH_take (i := 23) (oi := ⟨some 51, Go.Op.call { callee := Go.Callee.builtin Go.Builtin.len, args := #[.tmp 50], argTypes := #[22] }, 3, _, _, some (21, true)⟩) (v := ?_) rfl (by kernel_rfl) (by kernel_rfl) (by kernel_rfl) (fun _ _ _ h => h) (Or.inl ⟨by rfl, ?_⟩) (by assumption) ?_; rotate_left; (focus (intro w hSw; ((try dsimp only at hSw); go_simp; try with_reducible rfl))); (try simp only [Act.put, sA, sZ, sS])))
          (first | (refine wpAnyH_take (i := 24) (oi := ⟨some 52, Go.Op.move (.tmp 2), 3, _, _, some (21, true)⟩) (v := undef) rfl (by kernel_rfl) (by kernel_rfl) (by kernel_rfl) (fun _ _ _ h => h) (Or.inr ⟨by rfl, rfl⟩) (by assumption) ?_; (try simp only [Act.put, sA, sZ, sS])) | (refine wpAnyH_take (i := 24) (oi := ⟨some 52, Go.Op.move (.tmp 2), 3, _, _, some (21, true)⟩) (v := ?_) rfl (by kernel_rfl) (by kernel_rfl) (by kernel_rfl) (fun _ _ _ h => h) (Or.inl ⟨by rfl, ?_⟩) (by assumption) ?_; rotate_left; (focus (intro w hSw; ((try dsimp only at hSw); go_simp; try with_reducible rfl))); (try simp only [Act.put, sA, sZ, sS])))
          (first | (refine wpAnyH_take (i := 25) (oi := ⟨some 53, Go.Op.binOp Go.BinOp.lss 3 (.tmp 51) (.tmp 52) 3, 4, _, _, some (21, true)⟩) (v := undef) rfl (by kernel_rfl) (by kernel_rfl) (by kernel_rfl) (fun _ _ _ h => h) (Or.inr ⟨by rfl, rfl⟩) (by assumption) ?_; (try simp only [Act.put, sA, sZ, sS])) | (refine wpAnyH_take (i := 25) (oi := ⟨some 53, Go.Op.binOp Go.BinOp.lss 3 (.tmp 51) (.tmp 52) 3, 4, _, _, some (21, true)⟩) (v := ?_) rfl (by kernel_rfl) (by kernel_rfl) (by kernel_rfl) (fun _ _ _ h => h) (Or.inl ⟨by rfl, ?_⟩) (by assumption) ?_; rotate_left; (focus (intro w hSw; ((try dsimp only at hSw); go_simp; try with_reducible rfl))); (try simp only [Act.put, sA, sZ, sS])))
          (refine wpAnyH_take (i := 26) (oi := ⟨some 54, Go.Op.pick (.tmp 49) (.tmp 53) (.const (Go.Value.bool false)), 4, _, _, none⟩) (v := ?_) rfl (by kernel_rfl) (by kernel_rfl) (by kernel_rfl) (fun _ _ _ h => h) (Or.inl ⟨by rfl, ?_⟩) (by assumption) ?_; rotate_left; (focus (intro w hSw; ((try dsimp only at hSw); go_simp; try with_reducible rfl))); (try simp only [Act.put, sA, sZ, sS]))
          refine wpAnyH_done (by kernel_rfl) ?_ _
          clear hHeld
          go_wp2_with fail
          go_roundw
          case rel => exact ⟨j + 1, n, cap, a2, os, by omega, by go_num, rfl, HA.out.below (Kn.same KK.out rfl rfl rfl rfl).b, HO.out, by rw [HS.out]; exact HM.out, below_then HBT.out hzz (Kn.same KK.out rfl rfl rfl rfl).b⟩
          case measure => simp [intOf]; omega
      · obtain rfl : j = a.n := by omega
        have t1 : decide ((a.n : Int) < (a.n : Int)) = false := decide_eq_false (by omega)
        have c2 := (rlog_cells (KK.out.at_ (g, rlogO m.most b a m.clock) (by simp)) rfl).2.2.1
        have HM := Lib.hid (show os.map RecA.m = thoseM m most (laterP vs) by
          have := HM.out
          rw [show m.xs.take a.n = m.xs from List.take_of_length_le (by omega)] at this
          exact this)
        go_wp2_with fail
        rw [HV.out]
        refine bodyPost_ret (v := .tuple #[.slice a2 n cap, .bool true]) (by simp [results, Tryz.results34, go_sem, *]) rfl (by first | exact ⟨⟨a2, n, cap⟩, os, rfl, HA.out, HM.out, fun y hy => ⟨HC.out.ok y (HO.out y hy), (HC.out.fr y (HO.out y hy)).2, (HC.out.fr y (HO.out y hy)).1⟩, HBT.out⟩ | exact ⟨⟨a2, n, cap⟩, rfl, os, HA.out, HM.out, fun y hy => ⟨HC.out.ok y (HO.out y hy), (HC.out.fr y (HO.out y hy)).2, (HC.out.fr y (HO.out y hy)).1⟩, HBT.out⟩)
end
end Go.Proofs.YtglabahbklpocaaGreat
