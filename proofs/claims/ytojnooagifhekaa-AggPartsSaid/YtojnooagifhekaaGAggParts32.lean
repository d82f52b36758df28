/- The reference's Merge. -/
import Derived.Test.YtojnooagifhekaaGAggParts21
import Derived.Test.YtojnooagifhekaaGAggParts24
import Derived.Test.YtojnooagifhekaaGAggParts31
namespace Go.Proofs.Ytojnooagifhekaa
section
open Go.RowKit
set_option maxRecDepth 100000
set_option linter.unusedVariables false
set_option linter.unusedSimpArgs false
attribute [local go_sem ↓] Go.wp_at_zero Go.wp_at_succ
section
variable {B : Nat} {w0 w : World} {l : List (Nat × Obj)} {g : Nat} {a : Ag}
theorem Kn.setN (h : Kn B w0 ((g, agO a) :: l) w) (hl : Apart g l) (hg : B ≤ g) (v : Int) : Kn B w0 ((g, agO { a with cnt := v }) :: l) (w.setCell ⟨g, 0, none⟩ (.int .i64 v)) := by
  refine Kn.but h (But.set g 0 w _) hl.all hg ?_
  have := h.hd
  unfold agO at *
  simp [World.setCell, Array.getElem?_modify, this, Ag.cs]
theorem Kn.setSum (h : Kn B w0 ((g, agO a) :: l) w) (hl : Apart g l) (hg : B ≤ g) (v : Wd) : Kn B w0 ((g, agO { a with sum := v }) :: l) ((w.setCell ⟨g, 1, none⟩ (.int .i64 v.hi)).setCell ⟨g, 2, none⟩ (.int .u64 v.lo)) := by
  refine Kn.but h ((But.set g 1 w _).trans (But.set g 2 _ _)) hl.all hg ?_
  have := h.hd
  unfold agO at *
  simp [World.setCell, Array.getElem?_modify, this, Ag.cs]
theorem Kn.setMn (h : Kn B w0 ((g, agO a) :: l) w) (hl : Apart g l) (hg : B ≤ g) (v : Int) : Kn B w0 ((g, agO { a with mn := v }) :: l) (w.setCell ⟨g, 3, none⟩ (.int .i64 v)) := by
  refine Kn.but h (But.set g 3 w _) hl.all hg ?_
  have := h.hd
  unfold agO at *
  simp [World.setCell, Array.getElem?_modify, this, Ag.cs]
theorem Kn.setMx (h : Kn B w0 ((g, agO a) :: l) w) (hl : Apart g l) (hg : B ≤ g) (v : Int) : Kn B w0 ((g, agO { a with mx := v }) :: l) (w.setCell ⟨g, 4, none⟩ (.int .i64 v)) := by
  refine Kn.but h (But.set g 4 w _) hl.all hg ?_
  have := h.hd
  unfold agO at *
  simp [World.setCell, Array.getElem?_modify, this, Ag.cs]
theorem Kn.setLast (h : Kn B w0 ((g, agO a) :: l) w) (hl : Apart g l) (hg : B ≤ g) (v : Int) : Kn B w0 ((g, agO { a with last := v }) :: l) (w.setCell ⟨g, 5, none⟩ (.int .i64 v)) := by
  refine Kn.but h (But.set g 5 w _) hl.all hg ?_
  have := h.hd
  unfold agO at *
  simp [World.setCell, Array.getElem?_modify, this, Ag.cs]
theorem Kn.setAt (h : Kn B w0 ((g, agO a) :: l) w) (hl : Apart g l) (hg : B ≤ g) (s : St) : Kn B w0 ((g, agO { a with at_ := s }) :: l) (((w.setCell ⟨g, 6, none⟩ (.int .i64 s.clock)).setCell ⟨g, 7, none⟩ (.int .i64 s.site)).setCell ⟨g, 8, none⟩ (.int .i64 s.seq)) := by
  refine Kn.but h (((But.set g 6 w _).trans (But.set g 7 _ _)).trans (But.set g 8 _ _)) hl.all hg ?_
  have := h.hd
  unfold agO at *
  simp [World.setCell, Array.getElem?_modify, this, Ag.cs]
end
theorem addL_nextD (a b : List Int) (k : Nat) (ha : a.length = 9) (hb : b.length = 9) (hk : k < 9) : ((addL a b).take k ++ a.drop k).set k (wrap64 (a.getD k 0 + b.getD k 0)) = (addL a b).take (k + 1) ++ a.drop (k + 1) := by
  have hl := addL_len ha hb
  rw [List.take_succ_eq_append_getElem (by omega), List.set_append_right _ _ (by simp; omega)]
  have e1 : (List.take k (addL a b)).length = k := by simp; omega
  have e2 : (addL a b)[k]'(by omega) = wrap64 (a.getD k 0 + b.getD k 0) := by
    simp only [addL, List.getElem_zipWith, List.getD_eq_getElem?_getD]
    rw [List.getElem?_eq_getElem (by omega), List.getElem?_eq_getElem (by omega)]
    rfl
  rw [e1, Nat.sub_self, e2, List.drop_eq_getElem_cons (by omega), List.set_cons_zero, List.append_assoc]
  rfl
set_option maxHeartbeats 8000000 in
set_option maxRecDepth 100000 in
theorem rmerge_any (a b : Ag) (w : World) (ha : a.ok) (hb : b.ok) : Calls Try.prog 17 #[a.val, b.val] w fun e w' => e = .returned (mergeV a b).val ∧ Below w.heap.size w w' := by
  obtain ⟨V, HV⟩ : ∃ V, Hid (V = mergeV a b) := ⟨_, rfl⟩
  rw [← HV.out]
  unfold Ag.val
  go_enter Try.func17, Try.ntmps17
  go_upto_region 1 with (fail)
  generalize hw1 : ((w.alloc (.cells a.cs.toArray 29)).alloc (.cells b.cs.toArray 29)).alloc (.cells _ 29) = w1
  have hK : Kn w.heap.size w [(w.heap.size + 1 + 1, agO Ag0), (w.heap.size + 1, agO b), (w.heap.size, agO a)] w1 := by
    rw [← hw1]
    exact (((Kn.start w).new' rfl (agO a)).new' (n := w.heap.size + 1) (by simp [agO]) (agO b)).new' (n := w.heap.size + 1 + 1) (by simp [agO]) (agO Ag0)
  clear hw1
  have KK := Lib.hid hK
  have a0 := hK.cell (g := w.heap.size) (o := agO a) (by simp) (ag_c0 a)
  have b0 := hK.cell (g := w.heap.size + 1) (o := agO b) (by simp) (ag_c0 b)
  have HO : Hid (Ag0.bk.length = 9) := rfl
  have HR := Lib.hid hK.hd
  have hsz := hK.fresh
  generalize hg : w.heap.size = g at *
  clear hK
  by_cases ea : a.cnt = 0
  · have t1 : (a.cnt == 0) = true := beq_iff_eq.2 ea
    have HV : Hid (V = b) := HV.out.trans (merge_z1 ea)
    have HL : Hid (b.bk.length = 9) := Lib.hid hb.2.2.2.2.2.2.1
    have HA := Lib.hid (KK.out.at_ (g + 1, agO b) (by simp))
    have HF := Lib.hid (Kn.setRow (KK.out.sub (m := [(g + 1 + 1, agO Ag0)]) (by simp)) trivial (by omega) (agO b))
    clear ea
    go_wp2_with (first
      | refine wpList_load_row rfl 29 _ rfl (g + 1) rfl 29 (b : Ag).cs.toArray (0, 0) _ HA.out Try.underlying29 rfl (ag_size HL.out) ?_
      | refine wpList_store_row rfl 29 _ _ rfl (g + 1 + 1) (b : Ag).cs.toArray rfl rfl 29 _ HR.out (ag_size HL.out) (ag_sz HO.out HL.out) (ag_one _) ?_)
    refine bodyPost_ret (v := .agg (b : Ag).cs.toArray) (results_cell_row rfl _ _ (g + 1 + 1) 29 (b : Ag).cs.toArray (0, 0) _ rfl HF.out.hd Try.underlying29 rfl (ag_size HL.out)) rfl ⟨(congrArg (fun x : Ag => Ending.returned x.val) HV.out).symm, by first | exact HF.out.b | (rw [hg]; exact HF.out.b)⟩
  · have t1 : (a.cnt == 0) = false := beq_eq_false_iff_ne.2 ea
    by_cases eb : b.cnt = 0
    · have t2 : (b.cnt == 0) = true := beq_iff_eq.2 eb
      have HV : Hid (V = a) := HV.out.trans (merge_z2 ea eb)
      have HL : Hid (a.bk.length = 9) := Lib.hid ha.2.2.2.2.2.2.1
      have HA := Lib.hid (KK.out.at_ (g, agO a) (by simp))
      have HF := Lib.hid (Kn.setRow (KK.out.sub (m := [(g + 1 + 1, agO Ag0)]) (by simp)) trivial (by omega) (agO a))
      clear ea eb
      go_wp2_with (first
        | refine wpList_load_row rfl 29 _ rfl (g) rfl 29 (a : Ag).cs.toArray (0, 0) _ HA.out Try.underlying29 rfl (ag_size HL.out) ?_
        | refine wpList_store_row rfl 29 _ _ rfl (g + 1 + 1) (a : Ag).cs.toArray rfl rfl 29 _ HR.out (ag_size HL.out) (ag_sz HO.out HL.out) (ag_one _) ?_)
      refine bodyPost_ret (v := .agg (a : Ag).cs.toArray) (results_cell_row rfl _ _ (g + 1 + 1) 29 (a : Ag).cs.toArray (0, 0) _ rfl HF.out.hd Try.underlying29 rfl (ag_size HL.out)) rfl ⟨(congrArg (fun x : Ag => Ending.returned x.val) HV.out).symm, by first | exact HF.out.b | (rw [hg]; exact HF.out.b)⟩
    · have t2 : (b.cnt == 0) = false := beq_eq_false_iff_ne.2 eb
      have HV := Lib.hid (HV.out.trans (merge_ne ea eb))
      have HLa : Hid (a.bk.length = 9) := Lib.hid ha.2.2.2.2.2.2.1
      have HLb : Hid (b.bk.length = 9) := Lib.hid hb.2.2.2.2.2.2.1
      have HADD := fun wx => radd_any a.sum b.sum wx ha.2.1 hb.2.1
      have HLESS := fun wx => rless_any a.at_ b.at_ wx
      generalize wd (a.sum.v + b.sum.v) = W at *
      generalize hlss : lessV a.at_ b.at_ = lss at *
      unfold Wd.val at HADD
      unfold St.val at HLESS
      have HA := Lib.hid (KK.out.at_ (g, agO a) (by simp))
      clear ea eb
      go_upto_region 6 with (first
        | refine wpList_load_row rfl 29 _ rfl g rfl 29 a.cs.toArray (0, 0) _ HA.out Try.underlying29 rfl (ag_size HLa.out) ?_
        | refine wpList_store_row rfl 29 _ _ rfl w1.heap.size a.cs.toArray rfl rfl 29 Ag0.cs.toArray (heap_alloc_new _ _) (ag_size HLa.out) (ag_sz HO.out HLa.out) (ag_one _) ?_)
      rw [World.setRow_alloc_new]
      have hk := KK.out.new (agO a)
      unfold agO at hk
      generalize w1.alloc (.cells a.cs.toArray 29) = w2 at *
      generalize hc : w1.heap.size = c at *
      have KK : Hid (Kn g w [(c, agO a), (g + 1 + 1, agO Ag0), (g + 1, agO b), (g, agO a)] w2) := hk
      clear hk a0 b0 HA HR
      have ac0 := (KK.out).cell (g := g) (o := agO a) (by simp) (ag_c0 a)
      have ac1 := (KK.out).cell (g := g) (o := agO a) (by simp) (ag_c1 a)
      have ac2 := (KK.out).cell (g := g) (o := agO a) (by simp) (ag_c2 a)
      have ac3 := (KK.out).cell (g := g) (o := agO a) (by simp) (ag_c3 a)
      have ac4 := (KK.out).cell (g := g) (o := agO a) (by simp) (ag_c4 a)
      have ac5 := (KK.out).cell (g := g) (o := agO a) (by simp) (ag_c5 a)
      have ac6 := (KK.out).cell (g := g) (o := agO a) (by simp) (ag_c6 a)
      have ac7 := (KK.out).cell (g := g) (o := agO a) (by simp) (ag_c7 a)
      have ac8 := (KK.out).cell (g := g) (o := agO a) (by simp) (ag_c8 a)
      have bc0 := (KK.out).cell (g := g + 1) (o := agO b) (by simp) (ag_c0 b)
      have bc1 := (KK.out).cell (g := g + 1) (o := agO b) (by simp) (ag_c1 b)
      have bc2 := (KK.out).cell (g := g + 1) (o := agO b) (by simp) (ag_c2 b)
      have bc3 := (KK.out).cell (g := g + 1) (o := agO b) (by simp) (ag_c3 b)
      have bc4 := (KK.out).cell (g := g + 1) (o := agO b) (by simp) (ag_c4 b)
      have bc5 := (KK.out).cell (g := g + 1) (o := agO b) (by simp) (ag_c5 b)
      have bc6 := (KK.out).cell (g := g + 1) (o := agO b) (by simp) (ag_c6 b)
      have bc7 := (KK.out).cell (g := g + 1) (o := agO b) (by simp) (ag_c7 b)
      have bc8 := (KK.out).cell (g := g + 1) (o := agO b) (by simp) (ag_c8 b)
      have cc0 := (KK.out).cell (g := c) (o := agO a) (by simp) (ag_c0 a)
      have cc1 := (KK.out).cell (g := c) (o := agO a) (by simp) (ag_c1 a)
      have cc2 := (KK.out).cell (g := c) (o := agO a) (by simp) (ag_c2 a)
      have cc3 := (KK.out).cell (g := c) (o := agO a) (by simp) (ag_c3 a)
      have cc4 := (KK.out).cell (g := c) (o := agO a) (by simp) (ag_c4 a)
      have cc5 := (KK.out).cell (g := c) (o := agO a) (by simp) (ag_c5 a)
      have cc6 := (KK.out).cell (g := c) (o := agO a) (by simp) (ag_c6 a)
      have cc7 := (KK.out).cell (g := c) (o := agO a) (by simp) (ag_c7 a)
      have cc8 := (KK.out).cell (g := c) (o := agO a) (by simp) (ag_c8 a)
      have fz := fun j => KK.out.fz (g := c) (o := agO a) (by simp) j
      go_upto_region 7 with (fail)
      have hk := Kn.setN KK.out (by simp only [Apart, and_true]; omega) (by omega) (wrap64 (a.cnt + b.cnt))
      generalize w2.setCell ⟨c, 0, none⟩ _ = w3 at *
      generalize wrap64 (a.cnt + b.cnt) = N at *
      have KK := Lib.hid hk
      clear hk ac0 ac1 ac2 ac3 ac4 ac5 ac6 ac7 ac8 bc0 bc1 bc2 bc3 bc4 bc5 bc6 bc7 bc8 cc0 cc1 cc2 cc3 cc4 cc5 cc6 cc7 cc8 fz
      have ac0 := (KK.out).cell (g := g) (o := agO a) (by simp) (ag_c0 a)
      have ac1 := (KK.out).cell (g := g) (o := agO a) (by simp) (ag_c1 a)
      have ac2 := (KK.out).cell (g := g) (o := agO a) (by simp) (ag_c2 a)
      have ac3 := (KK.out).cell (g := g) (o := agO a) (by simp) (ag_c3 a)
      have ac4 := (KK.out).cell (g := g) (o := agO a) (by simp) (ag_c4 a)
      have ac5 := (KK.out).cell (g := g) (o := agO a) (by simp) (ag_c5 a)
      have ac6 := (KK.out).cell (g := g) (o := agO a) (by simp) (ag_c6 a)
      have ac7 := (KK.out).cell (g := g) (o := agO a) (by simp) (ag_c7 a)
      have ac8 := (KK.out).cell (g := g) (o := agO a) (by simp) (ag_c8 a)
      have bc0 := (KK.out).cell (g := g + 1) (o := agO b) (by simp) (ag_c0 b)
      have bc1 := (KK.out).cell (g := g + 1) (o := agO b) (by simp) (ag_c1 b)
      have bc2 := (KK.out).cell (g := g + 1) (o := agO b) (by simp) (ag_c2 b)
      have bc3 := (KK.out).cell (g := g + 1) (o := agO b) (by simp) (ag_c3 b)
      have bc4 := (KK.out).cell (g := g + 1) (o := agO b) (by simp) (ag_c4 b)
      have bc5 := (KK.out).cell (g := g + 1) (o := agO b) (by simp) (ag_c5 b)
      have bc6 := (KK.out).cell (g := g + 1) (o := agO b) (by simp) (ag_c6 b)
      have bc7 := (KK.out).cell (g := g + 1) (o := agO b) (by simp) (ag_c7 b)
      have bc8 := (KK.out).cell (g := g + 1) (o := agO b) (by simp) (ag_c8 b)
      go_wp2_with fail
      refine (HADD _).mono ?_
      rintro e w4 ⟨rfl, d4⟩
      have KK := Lib.hid (KK.out.below d4)
      clear d4 ac0 ac1 ac2 ac3 ac4 ac5 ac6 ac7 ac8 bc0 bc1 bc2 bc3 bc4 bc5 bc6 bc7 bc8 HADD
      have fz := fun j => KK.out.fz (g := c) (o := agO { a with cnt := N }) (by simp) j
      have cc0 := (KK.out).cell (g := c) (o := agO { a with cnt := N }) (by simp) (ag_c0 { a with cnt := N })
      have cc1 := (KK.out).cell (g := c) (o := agO { a with cnt := N }) (by simp) (ag_c1 { a with cnt := N })
      have cc2 := (KK.out).cell (g := c) (o := agO { a with cnt := N }) (by simp) (ag_c2 { a with cnt := N })
      have cc3 := (KK.out).cell (g := c) (o := agO { a with cnt := N }) (by simp) (ag_c3 { a with cnt := N })
      have cc4 := (KK.out).cell (g := c) (o := agO { a with cnt := N }) (by simp) (ag_c4 { a with cnt := N })
      have cc5 := (KK.out).cell (g := c) (o := agO { a with cnt := N }) (by simp) (ag_c5 { a with cnt := N })
      have cc6 := (KK.out).cell (g := c) (o := agO { a with cnt := N }) (by simp) (ag_c6 { a with cnt := N })
      have cc7 := (KK.out).cell (g := c) (o := agO { a with cnt := N }) (by simp) (ag_c7 { a with cnt := N })
      have cc8 := (KK.out).cell (g := c) (o := agO { a with cnt := N }) (by simp) (ag_c8 { a with cnt := N })
      go_upto_region 8 with (fail)
      have hk := Kn.setSum KK.out (by simp only [Apart, and_true]; omega) (by omega) W
      generalize (w4.setCell ⟨c, 1, none⟩ _).setCell ⟨c, 2, none⟩ _ = w5 at *
      have KK := Lib.hid hk
      clear hk cc0 cc1 cc2 cc3 cc4 cc5 cc6 cc7 cc8 fz
      have KK : Hid (Kn g w [(c, agO ⟨N, W, a.mn, a.mx, a.last, a.at_, a.bk⟩), (g + 1 + 1, agO Ag0), (g + 1, agO b), (g, agO a)] w5) := KK
      have bc0 := (KK.out).cell (g := g + 1) (o := agO b) (by simp) (ag_c0 b)
      have bc1 := (KK.out).cell (g := g + 1) (o := agO b) (by simp) (ag_c1 b)
      have bc2 := (KK.out).cell (g := g + 1) (o := agO b) (by simp) (ag_c2 b)
      have bc3 := (KK.out).cell (g := g + 1) (o := agO b) (by simp) (ag_c3 b)
      have bc4 := (KK.out).cell (g := g + 1) (o := agO b) (by simp) (ag_c4 b)
      have bc5 := (KK.out).cell (g := g + 1) (o := agO b) (by simp) (ag_c5 b)
      have bc6 := (KK.out).cell (g := g + 1) (o := agO b) (by simp) (ag_c6 b)
      have bc7 := (KK.out).cell (g := g + 1) (o := agO b) (by simp) (ag_c7 b)
      have bc8 := (KK.out).cell (g := g + 1) (o := agO b) (by simp) (ag_c8 b)
      have cc0 := (KK.out).cell (g := c) (o := agO ⟨N, W, a.mn, a.mx, a.last, a.at_, a.bk⟩) (by simp) (ag_c0 ⟨N, W, a.mn, a.mx, a.last, a.at_, a.bk⟩)
      have cc1 := (KK.out).cell (g := c) (o := agO ⟨N, W, a.mn, a.mx, a.last, a.at_, a.bk⟩) (by simp) (ag_c1 ⟨N, W, a.mn, a.mx, a.last, a.at_, a.bk⟩)
      have cc2 := (KK.out).cell (g := c) (o := agO ⟨N, W, a.mn, a.mx, a.last, a.at_, a.bk⟩) (by simp) (ag_c2 ⟨N, W, a.mn, a.mx, a.last, a.at_, a.bk⟩)
      have cc3 := (KK.out).cell (g := c) (o := agO ⟨N, W, a.mn, a.mx, a.last, a.at_, a.bk⟩) (by simp) (ag_c3 ⟨N, W, a.mn, a.mx, a.last, a.at_, a.bk⟩)
      have cc4 := (KK.out).cell (g := c) (o := agO ⟨N, W, a.mn, a.mx, a.last, a.at_, a.bk⟩) (by simp) (ag_c4 ⟨N, W, a.mn, a.mx, a.last, a.at_, a.bk⟩)
      have cc5 := (KK.out).cell (g := c) (o := agO ⟨N, W, a.mn, a.mx, a.last, a.at_, a.bk⟩) (by simp) (ag_c5 ⟨N, W, a.mn, a.mx, a.last, a.at_, a.bk⟩)
      have cc6 := (KK.out).cell (g := c) (o := agO ⟨N, W, a.mn, a.mx, a.last, a.at_, a.bk⟩) (by simp) (ag_c6 ⟨N, W, a.mn, a.mx, a.last, a.at_, a.bk⟩)
      have cc7 := (KK.out).cell (g := c) (o := agO ⟨N, W, a.mn, a.mx, a.last, a.at_, a.bk⟩) (by simp) (ag_c7 ⟨N, W, a.mn, a.mx, a.last, a.at_, a.bk⟩)
      have cc8 := (KK.out).cell (g := c) (o := agO ⟨N, W, a.mn, a.mx, a.last, a.at_, a.bk⟩) (by simp) (ag_c8 ⟨N, W, a.mn, a.mx, a.last, a.at_, a.bk⟩)
      have fz := fun j => KK.out.fz (g := c) (o := agO ⟨N, W, a.mn, a.mx, a.last, a.at_, a.bk⟩) (by simp) j
      go_upto_if 33 with (fail)
      go_cut [33] (fun x wx => Kn g w [(c, agO ⟨N, W, min a.mn b.mn, a.mx, a.last, a.at_, a.bk⟩), (g + 1 + 1, agO Ag0), (g + 1, agO b), (g, agO a)] wx)
      case first =>
        by_cases h : b.mn < a.mn
        · have u1 : decide (b.mn < a.mn) = true := decide_eq_true h
          have e1 : min a.mn b.mn = b.mn := by omega
          have E1 := Lib.hid e1
          have HF := Lib.hid (Kn.setMn KK.out (by simp only [Apart, and_true]; omega) (by omega) b.mn)
          rw [u1]
          clear h e1
          go_wp2_with fail
          go_meet
          rw [E1.out]
          exact HF.out
        · have u1 : decide (b.mn < a.mn) = false := decide_eq_false h
          have e1 : min a.mn b.mn = a.mn := by omega
          have E1 := Lib.hid e1
          rw [u1]
          clear h e1
          go_wp2_with fail
          go_meet
          rw [E1.out]
          exact KK.out
      case rest =>
        have KK := Lib.hid hcut
        generalize hw6 : wc = w6 at *
        clear hw6 hcut bc0 bc1 bc2 bc3 bc4 bc5 bc6 bc7 bc8 cc0 cc1 cc2 cc3 cc4 cc5 cc6 cc7 cc8 fz
        have bc0 := (KK.out).cell (g := g + 1) (o := agO b) (by simp) (ag_c0 b)
        have bc1 := (KK.out).cell (g := g + 1) (o := agO b) (by simp) (ag_c1 b)
        have bc2 := (KK.out).cell (g := g + 1) (o := agO b) (by simp) (ag_c2 b)
        have bc3 := (KK.out).cell (g := g + 1) (o := agO b) (by simp) (ag_c3 b)
        have bc4 := (KK.out).cell (g := g + 1) (o := agO b) (by simp) (ag_c4 b)
        have bc5 := (KK.out).cell (g := g + 1) (o := agO b) (by simp) (ag_c5 b)
        have bc6 := (KK.out).cell (g := g + 1) (o := agO b) (by simp) (ag_c6 b)
        have bc7 := (KK.out).cell (g := g + 1) (o := agO b) (by simp) (ag_c7 b)
        have bc8 := (KK.out).cell (g := g + 1) (o := agO b) (by simp) (ag_c8 b)
        have cc0 := (KK.out).cell (g := c) (o := agO ⟨N, W, min a.mn b.mn, a.mx, a.last, a.at_, a.bk⟩) (by simp) (ag_c0 ⟨N, W, min a.mn b.mn, a.mx, a.last, a.at_, a.bk⟩)
        have cc1 := (KK.out).cell (g := c) (o := agO ⟨N, W, min a.mn b.mn, a.mx, a.last, a.at_, a.bk⟩) (by simp) (ag_c1 ⟨N, W, min a.mn b.mn, a.mx, a.last, a.at_, a.bk⟩)
        have cc2 := (KK.out).cell (g := c) (o := agO ⟨N, W, min a.mn b.mn, a.mx, a.last, a.at_, a.bk⟩) (by simp) (ag_c2 ⟨N, W, min a.mn b.mn, a.mx, a.last, a.at_, a.bk⟩)
        have cc3 := (KK.out).cell (g := c) (o := agO ⟨N, W, min a.mn b.mn, a.mx, a.last, a.at_, a.bk⟩) (by simp) (ag_c3 ⟨N, W, min a.mn b.mn, a.mx, a.last, a.at_, a.bk⟩)
        have cc4 := (KK.out).cell (g := c) (o := agO ⟨N, W, min a.mn b.mn, a.mx, a.last, a.at_, a.bk⟩) (by simp) (ag_c4 ⟨N, W, min a.mn b.mn, a.mx, a.last, a.at_, a.bk⟩)
        have cc5 := (KK.out).cell (g := c) (o := agO ⟨N, W, min a.mn b.mn, a.mx, a.last, a.at_, a.bk⟩) (by simp) (ag_c5 ⟨N, W, min a.mn b.mn, a.mx, a.last, a.at_, a.bk⟩)
        have cc6 := (KK.out).cell (g := c) (o := agO ⟨N, W, min a.mn b.mn, a.mx, a.last, a.at_, a.bk⟩) (by simp) (ag_c6 ⟨N, W, min a.mn b.mn, a.mx, a.last, a.at_, a.bk⟩)
        have cc7 := (KK.out).cell (g := c) (o := agO ⟨N, W, min a.mn b.mn, a.mx, a.last, a.at_, a.bk⟩) (by simp) (ag_c7 ⟨N, W, min a.mn b.mn, a.mx, a.last, a.at_, a.bk⟩)
        have cc8 := (KK.out).cell (g := c) (o := agO ⟨N, W, min a.mn b.mn, a.mx, a.last, a.at_, a.bk⟩) (by simp) (ag_c8 ⟨N, W, min a.mn b.mn, a.mx, a.last, a.at_, a.bk⟩)
        have fz := fun j => KK.out.fz (g := c) (o := agO ⟨N, W, min a.mn b.mn, a.mx, a.last, a.at_, a.bk⟩) (by simp) j
        go_upto_if 41 with (fail)
        go_cut [41] (fun x wx => Kn g w [(c, agO ⟨N, W, min a.mn b.mn, max a.mx b.mx, a.last, a.at_, a.bk⟩), (g + 1 + 1, agO Ag0), (g + 1, agO b), (g, agO a)] wx)
        case first =>
          by_cases h : a.mx < b.mx
          · have u1 : decide (a.mx < b.mx) = true := decide_eq_true h
            have e1 : max a.mx b.mx = b.mx := by omega
            have E1 := Lib.hid e1
            have HF := Lib.hid (Kn.setMx KK.out (by simp only [Apart, and_true]; omega) (by omega) b.mx)
            rw [u1]
            clear h e1
            go_wp2_with fail
            go_meet
            rw [E1.out]
            exact HF.out
          · have u1 : decide (a.mx < b.mx) = false := decide_eq_false h
            have e1 : max a.mx b.mx = a.mx := by omega
            have E1 := Lib.hid e1
            rw [u1]
            clear h e1
            go_wp2_with fail
            go_meet
            rw [E1.out]
            exact KK.out
        case rest =>
          have KK := Lib.hid hcut
          generalize hw7 : wc = w7 at *
          clear hw7 hcut bc0 bc1 bc2 bc3 bc4 bc5 bc6 bc7 bc8 cc0 cc1 cc2 cc3 cc4 cc5 cc6 cc7 cc8 fz
          generalize min a.mn b.mn = mn at *
          generalize max a.mx b.mx = mx at *
          have ac0 := (KK.out).cell (g := g) (o := agO a) (by simp) (ag_c0 a)
          have ac1 := (KK.out).cell (g := g) (o := agO a) (by simp) (ag_c1 a)
          have ac2 := (KK.out).cell (g := g) (o := agO a) (by simp) (ag_c2 a)
          have ac3 := (KK.out).cell (g := g) (o := agO a) (by simp) (ag_c3 a)
          have ac4 := (KK.out).cell (g := g) (o := agO a) (by simp) (ag_c4 a)
          have ac5 := (KK.out).cell (g := g) (o := agO a) (by simp) (ag_c5 a)
          have ac6 := (KK.out).cell (g := g) (o := agO a) (by simp) (ag_c6 a)
          have ac7 := (KK.out).cell (g := g) (o := agO a) (by simp) (ag_c7 a)
          have ac8 := (KK.out).cell (g := g) (o := agO a) (by simp) (ag_c8 a)
          have bc0 := (KK.out).cell (g := g + 1) (o := agO b) (by simp) (ag_c0 b)
          have bc1 := (KK.out).cell (g := g + 1) (o := agO b) (by simp) (ag_c1 b)
          have bc2 := (KK.out).cell (g := g + 1) (o := agO b) (by simp) (ag_c2 b)
          have bc3 := (KK.out).cell (g := g + 1) (o := agO b) (by simp) (ag_c3 b)
          have bc4 := (KK.out).cell (g := g + 1) (o := agO b) (by simp) (ag_c4 b)
          have bc5 := (KK.out).cell (g := g + 1) (o := agO b) (by simp) (ag_c5 b)
          have bc6 := (KK.out).cell (g := g + 1) (o := agO b) (by simp) (ag_c6 b)
          have bc7 := (KK.out).cell (g := g + 1) (o := agO b) (by simp) (ag_c7 b)
          have bc8 := (KK.out).cell (g := g + 1) (o := agO b) (by simp) (ag_c8 b)
          go_upto_if 50 with (first | (go_at_call 37; refine (HLESS _).mono ?_; rintro e w8 ⟨rfl, d8⟩))
          have KK := Lib.hid (KK.out.below d8)
          clear d8 ac0 ac1 ac2 ac3 ac4 ac5 ac6 ac7 ac8 bc0 bc1 bc2 bc3 bc4 bc5 bc6 bc7 bc8
          go_cut [50] (fun x wx => Kn g w [(c, agO ⟨N, W, mn, mx, if lss = true then b.last else a.last, if lss = true then b.at_ else a.at_, a.bk⟩), (g + 1 + 1, agO Ag0), (g + 1, agO b), (g, agO a)] wx)
          case first =>
            cases lss
            · clear hlss
              go_wp2_with fail
              go_meet
              exact KK.out
            · clear hlss
              have bc0 := (KK.out).cell (g := g + 1) (o := agO b) (by simp) (ag_c0 b)
              have bc1 := (KK.out).cell (g := g + 1) (o := agO b) (by simp) (ag_c1 b)
              have bc2 := (KK.out).cell (g := g + 1) (o := agO b) (by simp) (ag_c2 b)
              have bc3 := (KK.out).cell (g := g + 1) (o := agO b) (by simp) (ag_c3 b)
              have bc4 := (KK.out).cell (g := g + 1) (o := agO b) (by simp) (ag_c4 b)
              have bc5 := (KK.out).cell (g := g + 1) (o := agO b) (by simp) (ag_c5 b)
              have bc6 := (KK.out).cell (g := g + 1) (o := agO b) (by simp) (ag_c6 b)
              have bc7 := (KK.out).cell (g := g + 1) (o := agO b) (by simp) (ag_c7 b)
              have bc8 := (KK.out).cell (g := g + 1) (o := agO b) (by simp) (ag_c8 b)
              have cc0 := (KK.out).cell (g := c) (o := agO ⟨N, W, mn, mx, a.last, a.at_, a.bk⟩) (by simp) (ag_c0 ⟨N, W, mn, mx, a.last, a.at_, a.bk⟩)
              have cc1 := (KK.out).cell (g := c) (o := agO ⟨N, W, mn, mx, a.last, a.at_, a.bk⟩) (by simp) (ag_c1 ⟨N, W, mn, mx, a.last, a.at_, a.bk⟩)
              have cc2 := (KK.out).cell (g := c) (o := agO ⟨N, W, mn, mx, a.last, a.at_, a.bk⟩) (by simp) (ag_c2 ⟨N, W, mn, mx, a.last, a.at_, a.bk⟩)
              have cc3 := (KK.out).cell (g := c) (o := agO ⟨N, W, mn, mx, a.last, a.at_, a.bk⟩) (by simp) (ag_c3 ⟨N, W, mn, mx, a.last, a.at_, a.bk⟩)
              have cc4 := (KK.out).cell (g := c) (o := agO ⟨N, W, mn, mx, a.last, a.at_, a.bk⟩) (by simp) (ag_c4 ⟨N, W, mn, mx, a.last, a.at_, a.bk⟩)
              have cc5 := (KK.out).cell (g := c) (o := agO ⟨N, W, mn, mx, a.last, a.at_, a.bk⟩) (by simp) (ag_c5 ⟨N, W, mn, mx, a.last, a.at_, a.bk⟩)
              have cc6 := (KK.out).cell (g := c) (o := agO ⟨N, W, mn, mx, a.last, a.at_, a.bk⟩) (by simp) (ag_c6 ⟨N, W, mn, mx, a.last, a.at_, a.bk⟩)
              have cc7 := (KK.out).cell (g := c) (o := agO ⟨N, W, mn, mx, a.last, a.at_, a.bk⟩) (by simp) (ag_c7 ⟨N, W, mn, mx, a.last, a.at_, a.bk⟩)
              have cc8 := (KK.out).cell (g := c) (o := agO ⟨N, W, mn, mx, a.last, a.at_, a.bk⟩) (by simp) (ag_c8 ⟨N, W, mn, mx, a.last, a.at_, a.bk⟩)
              have fz := fun j => KK.out.fz (g := c) (o := agO ⟨N, W, mn, mx, a.last, a.at_, a.bk⟩) (by simp) j
              have HF := Lib.hid (Kn.setLast (Kn.setAt KK.out (by simp only [Apart, and_true]; omega) (by omega) b.at_) (by simp only [Apart, and_true]; omega) (by omega) b.last)
              go_wp2_with fail
              go_meet
              exact HF.out
          case rest =>
            have KK := Lib.hid hcut
            clear hcut hlss HLESS
            generalize (if lss = true then b.last else a.last) = L at *
            generalize (if lss = true then b.at_ else a.at_) = T at *
            have HAL : Hid ((addL a.bk b.bk).length = 9) := Lib.hid (addL_len HLa.out HLb.out)
            go_wp2_with fail
            go_loopw [7] (fun i wr => ∃ k : Nat, k ≤ 9 ∧ i = .int .i64 k ∧ Kn g w [(c, agO ⟨N, W, mn, mx, L, T, (addL a.bk b.bk).take k ++ a.bk.drop k⟩), (g + 1 + 1, agO Ag0), (g + 1, agO b), (g, agO a)] wr) (fun i _ => 10 - (intOf i).toNat)
            case atStart => exact ⟨0, by omega, rfl, KK.out⟩
            case round =>
              obtain ⟨k, hk9, rfl, hk⟩ := hrel
              clear KK
              have KK := Lib.hid hk
              by_cases hlt : k < 9
              · have t3 : decide ((k : Int) < 9) = true := decide_eq_true (by omega)
                have i1 : (0 : Int) ≤ (k : Int) := by omega
                have i2 : (k : Int) < 9 := by omega
                have ha9 := AgAt.bk (show AgAt wr g a from hk.at_ (g, agO a) (by simp)) k (by rw [HLa.out]; exact hlt)
                have hb9 := AgAt.bk (show AgAt wr (g + 1) b from hk.at_ (g + 1, agO b) (by simp)) k (by rw [HLb.out]; exact hlt)
                have hc9 := AgAt.bk (show AgAt wr c ⟨N, W, mn, mx, L, T, (addL a.bk b.bk).take k ++ a.bk.drop k⟩ from hk.hd) k (by have := HAL.out; have := HLa.out; simp; omega)
                have fc9 := hk.fz (g := c) (o := agO ⟨N, W, mn, mx, L, T, (addL a.bk b.bk).take k ++ a.bk.drop k⟩) (by simp) (9 + k)
                have HNX : Hid (((addL a.bk b.bk).take k ++ a.bk.drop k).set k (wrap64 (a.bk.getD k 0 + b.bk.getD k 0)) = (addL a.bk b.bk).take (k + 1) ++ a.bk.drop (k + 1)) := Lib.hid (addL_nextD a.bk b.bk k HLa.out HLb.out hlt)
                generalize a.bk.getD k 0 = x at *
                generalize b.bk.getD k 0 = y at *
                clear hk
                go_upto_region 19 with (fail)
                go_region
                have h2 := Kn.setBk KK.out (by simp only [Apart, and_true]; omega) (by omega) k (wrap64 (x + y))
                simp only [HNX.out] at h2
                have H2 := Lib.hid h2
                clear h2
                go_wp2_with fail
                go_roundw
                case rel => exact ⟨k + 1, by omega, by go_num, Kn.same H2.out rfl rfl rfl rfl⟩
                case measure => simp [intOf]; omega
              · have t3 : decide ((k : Int) < 9) = false := decide_eq_false (by omega)
                obtain rfl : k = 9 := by omega
                have e9 : (addL a.bk b.bk).take 9 ++ a.bk.drop 9 = addL a.bk b.bk := by
                  rw [List.take_of_length_le (by have := HAL.out; omega), List.drop_of_length_le (by have := HLa.out; omega)]; simp
                rw [e9] at hk
                have HL := HAL
                have HA := Lib.hid hk.hd
                have h3 := hk.sub (m := [(g + 1 + 1, agO Ag0)]) (by simp)
                have HR := Lib.hid h3.hd
                have HF := Lib.hid (Kn.setRow h3 trivial (by omega) (agO ⟨N, W, mn, mx, L, T, addL a.bk b.bk⟩))
                clear hk h3 e9 KK
                go_wp2_with (first
                  | refine wpList_load_row rfl 29 _ rfl (c) rfl 29 (⟨N, W, mn, mx, L, T, addL a.bk b.bk⟩ : Ag).cs.toArray (0, 0) _ HA.out Try.underlying29 rfl (ag_size HL.out) ?_
                  | refine wpList_store_row rfl 29 _ _ rfl (g + 1 + 1) (⟨N, W, mn, mx, L, T, addL a.bk b.bk⟩ : Ag).cs.toArray rfl rfl 29 _ HR.out (ag_size HL.out) (ag_sz HO.out HL.out) (ag_one _) ?_)
                refine bodyPost_ret (v := .agg (⟨N, W, mn, mx, L, T, addL a.bk b.bk⟩ : Ag).cs.toArray) (results_cell_row rfl _ _ (g + 1 + 1) 29 (⟨N, W, mn, mx, L, T, addL a.bk b.bk⟩ : Ag).cs.toArray (0, 0) _ rfl HF.out.hd Try.underlying29 rfl (ag_size HL.out)) rfl ⟨(congrArg (fun x : Ag => Ending.returned x.val) HV.out).symm, by first | exact HF.out.b | (rw [hg]; exact HF.out.b)⟩
end
end Go.Proofs.Ytojnooagifhekaa
