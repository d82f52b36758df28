/- The point of a record, of both packages. -/
import Derived.Test.YtkonflbgkaflaaaRscheck
import Derived.Test.YtkonflbgkaflaaaSpt
namespace Go.Proofs.Ytkonflbgkaflaaa
open Go.RowKit
set_option maxRecDepth 100000
set_option linter.unusedVariables false
set_option linter.unusedSimpArgs false
attribute [local go_sem ↓] Go.wp_at_zero Go.wp_at_succ
theorem results_cell_tmp {P : Program} {fn : Func} {p q : Tmp} {ty : TypeId} (h : fn.results = #[.cell p ty, .tmp q]) (tmps : Array Value) (w : World) (g : Nat) (t : TypeId) (cs : Array Value) (fr : Nat × Nat) (d : TypeDesc) (v : Value)
    (hp : tmps.getD p undef = .pointer (some ⟨g, 0, none⟩)) (hv : tmps.getD q undef = v) (hg : w.heap[g]? = some (.cells cs t fr))
    (hu : P.underlying ty = some d) (hd : (match d with | .struct _ | .array _ _ => true | _ => false) = true) (hi : (P.info? ty).map (·.size) = some cs.size) :
    (results fn tmps).run P w = .ok (.tuple #[.agg cs, v]) w := by
  have hp' : tmps[p]?.getD undef = .pointer (some ⟨g, 0, none⟩) := by simpa using hp
  have hv' : tmps[q]?.getD undef = v := by simpa using hv
  simp [results, h, hp', hv', asAddr, run_loadVar_row w g t ty cs fr d hg hu hd hi]
def Pt0 : Pt := ⟨⟨#[]⟩, 0, 0, ⟨0, 0, 0⟩⟩
open Classical in
noncomputable def pofV (r : Rc) (ds : List Int) : Pt × Bool := if r.kind = 1 ∧ recP r ds then (⟨r.series, r.time, r.value, r.st⟩, true) else (Pt0, false)
set_option maxHeartbeats 8000000 in
theorem pof_any (r : Rc) (d : Sl) (ds : List Int) (w : World) (hr : r.wf) (hd : SlR w d ds) : Calls Try.prog 14 #[rcVal r d] w fun e w' => e = .returned (.tuple #[(pofV r ds).1.val, .bool (pofV r ds).2]) ∧ Below w.heap.size w w' := by
  obtain ⟨V, HV⟩ : ∃ V, Hid (V = pofV r ds) := ⟨_, rfl⟩
  rw [← HV.out]
  have HR := Lib.hid hr
  have HD := Lib.hid hd
  have C0 := fun wx hb => scheck_any r d ds wx hr (HD.out.below hb)
  clear hr hd
  unfold rcVal at C0 ⊢
  unfold rcA at C0 ⊢
  go_enter Try.func14, Try.ntmps14
  go_upto_region 1 with (fail)
  generalize hw1 : World.alloc _ _ = w1
  have hK : Kn w.heap.size w [(w.heap.size + 1, ptO Pt0), (w.heap.size, rcO r d)] w1 := by rw [← hw1]; exact ((Kn.start w).new' rfl (rcO r d)).new' (n := w.heap.size + 1) (by simp) (ptO Pt0)
  clear hw1
  generalize hg : w.heap.size = g at *
  have KK := Lib.hid hK
  clear hK
  obtain ⟨c0, c1, c2, c3, c4, c5, c6, c7, c8⟩ := rc_cells (KK.out.at_ (g, rcO r d) (by simp)) rfl
  by_cases hk1 : r.kind = 1
  · have t1 : (r.kind != 1) = false := by rw [hk1]; rfl
    by_cases hP : recP r ds
    · have HV : Hid (V = (⟨r.series, r.time, r.value, r.st⟩, true)) := HV.out.trans (if_pos ⟨hk1, hP⟩)
      have hE := chkR_0 hP
      simp only [hE] at C0
      clear hk1 hP hE
      go_upto_region 3 with (first | (go_at_call 16; refine (C0 _ KK.out.b).mono ?_; rintro e wn ⟨rfl, dn⟩; have KK := Lib.hid (KK.out.below dn)))
      clear c0 c1 c2 c3 c4 c5 c6 c7 c8
      obtain ⟨c0, c1, c2, c3, c4, c5, c6, c7, c8⟩ := rc_cells (KK.out.at_ (g, rcO r d) (by simp)) rfl
      go_wp2_with (refine wpList_store_row rfl 34 _ _ rfl (g + 1) (⟨r.series, r.time, r.value, r.st⟩ : Pt).cs.toArray rfl rfl 34 _ (KK.out.at_ (g + 1, ptO Pt0) (by simp)) (by kernel_rfl) rfl (by simp [Value.oneCell', Pt.cs]) ?_)
      have K2 := Kn.setRow KK.out (by simp only [Apart, and_true]; omega) (by omega) (ptO ⟨r.series, r.time, r.value, r.st⟩)
      refine bodyPost_ret (v := .tuple #[(⟨r.series, r.time, r.value, r.st⟩ : Pt).val, .bool true]) (results_cell_tmp rfl _ _ (g + 1) 34 (⟨r.series, r.time, r.value, r.st⟩ : Pt).cs.toArray (0, 0) _ _ rfl rfl K2.hd Try.underlying34 rfl (by kernel_rfl)) rfl ⟨by rw [HV.out], by first | exact K2.b | (rw [hg]; exact K2.b)⟩
    · have HV : Hid (V = (Pt0, false)) := HV.out.trans (if_neg (fun h => hP h.2))
      have hE := chkR_1 hP
      simp only [hE] at C0
      clear hk1 hP hE
      go_upto_region 2 with (first | (go_at_call 16; refine (C0 _ KK.out.b).mono ?_; rintro e wn ⟨rfl, dn⟩; have KK := Lib.hid (KK.out.below dn)))
      clear c0 c1 c2 c3 c4 c5 c6 c7 c8
      go_wp2_with (refine wpList_store_row rfl 34 _ _ rfl (g + 1) (Pt0 : Pt).cs.toArray rfl rfl 34 _ (KK.out.at_ (g + 1, ptO Pt0) (by simp)) (by kernel_rfl) rfl (by simp [Value.oneCell', Pt.cs]) ?_)
      have K2 := Kn.setRow KK.out (by simp only [Apart, and_true]; omega) (by omega) (ptO Pt0)
      refine bodyPost_ret (v := .tuple #[(Pt0 : Pt).val, .bool false]) (results_cell_tmp rfl _ _ (g + 1) 34 (Pt0 : Pt).cs.toArray (0, 0) _ _ rfl rfl K2.hd Try.underlying34 rfl (by kernel_rfl)) rfl ⟨by rw [HV.out], by first | exact K2.b | (rw [hg]; exact K2.b)⟩
  · have t1 : (r.kind != 1) = true := bne_iff_ne.2 hk1
    have HV : Hid (V = (Pt0, false)) := HV.out.trans (if_neg (fun h => hk1 h.1))
    clear hk1
    clear c1 c2 c3 c4 c5 c6 c7 c8
    go_upto_region 2 with fail
    go_wp2_with (refine wpList_store_row rfl 34 _ _ rfl (g + 1) (Pt0 : Pt).cs.toArray rfl rfl 34 _ (KK.out.at_ (g + 1, ptO Pt0) (by simp)) (by kernel_rfl) rfl (by simp [Value.oneCell', Pt.cs]) ?_)
    have K2 := Kn.setRow KK.out (by simp only [Apart, and_true]; omega) (by omega) (ptO Pt0)
    refine bodyPost_ret (v := .tuple #[(Pt0 : Pt).val, .bool false]) (results_cell_tmp rfl _ _ (g + 1) 34 (Pt0 : Pt).cs.toArray (0, 0) _ _ rfl rfl K2.hd Try.underlying34 rfl (by kernel_rfl)) rfl ⟨by rw [HV.out], by first | exact K2.b | (rw [hg]; exact K2.b)⟩
set_option maxHeartbeats 8000000 in
theorem rpof_any (r : Rc) (d : Sl) (ds : List Int) (w : World) (hr : r.wf) (hd : SlR w d ds) : Calls Try.prog 15 #[rcVal r d] w fun e w' => e = .returned (.tuple #[(pofV r ds).1.val, .bool (pofV r ds).2]) ∧ Below w.heap.size w w' := by
  obtain ⟨V, HV⟩ : ∃ V, Hid (V = pofV r ds) := ⟨_, rfl⟩
  rw [← HV.out]
  have HR := Lib.hid hr
  have HD := Lib.hid hd
  have C0 := fun wx hb => rscheck_any r d ds wx hr (HD.out.below hb)
  clear hr hd
  unfold rcVal at C0 ⊢
  unfold rcA at C0 ⊢
  go_enter Try.func15, Try.ntmps15
  go_upto_region 1 with (fail)
  generalize hw1 : World.alloc _ _ = w1
  have hK : Kn w.heap.size w [(w.heap.size + 1, ptO Pt0), (w.heap.size, rcO r d)] w1 := by rw [← hw1]; exact ((Kn.start w).new' rfl (rcO r d)).new' (n := w.heap.size + 1) (by simp) (ptO Pt0)
  clear hw1
  generalize hg : w.heap.size = g at *
  have KK := Lib.hid hK
  clear hK
  obtain ⟨c0, c1, c2, c3, c4, c5, c6, c7, c8⟩ := rc_cells (KK.out.at_ (g, rcO r d) (by simp)) rfl
  by_cases hk1 : r.kind = 1
  · have t1 : (r.kind != 1) = false := by rw [hk1]; rfl
    by_cases hP : recP r ds
    · have HV : Hid (V = (⟨r.series, r.time, r.value, r.st⟩, true)) := HV.out.trans (if_pos ⟨hk1, hP⟩)
      have hE := chkR_0 hP
      simp only [hE] at C0
      clear hk1 hP hE
      go_upto_region 3 with (first | (go_at_call 17; refine (C0 _ KK.out.b).mono ?_; rintro e wn ⟨rfl, dn⟩; have KK := Lib.hid (KK.out.below dn)))
      clear c0 c1 c2 c3 c4 c5 c6 c7 c8
      obtain ⟨c0, c1, c2, c3, c4, c5, c6, c7, c8⟩ := rc_cells (KK.out.at_ (g, rcO r d) (by simp)) rfl
      go_wp2_with (refine wpList_store_row rfl 34 _ _ rfl (g + 1) (⟨r.series, r.time, r.value, r.st⟩ : Pt).cs.toArray rfl rfl 34 _ (KK.out.at_ (g + 1, ptO Pt0) (by simp)) (by kernel_rfl) rfl (by simp [Value.oneCell', Pt.cs]) ?_)
      have K2 := Kn.setRow KK.out (by simp only [Apart, and_true]; omega) (by omega) (ptO ⟨r.series, r.time, r.value, r.st⟩)
      refine bodyPost_ret (v := .tuple #[(⟨r.series, r.time, r.value, r.st⟩ : Pt).val, .bool true]) (results_cell_tmp rfl _ _ (g + 1) 34 (⟨r.series, r.time, r.value, r.st⟩ : Pt).cs.toArray (0, 0) _ _ rfl rfl K2.hd Try.underlying34 rfl (by kernel_rfl)) rfl ⟨by rw [HV.out], by first | exact K2.b | (rw [hg]; exact K2.b)⟩
    · have HV : Hid (V = (Pt0, false)) := HV.out.trans (if_neg (fun h => hP h.2))
      have hE := chkR_1 hP
      simp only [hE] at C0
      clear hk1 hP hE
      go_upto_region 2 with (first | (go_at_call 17; refine (C0 _ KK.out.b).mono ?_; rintro e wn ⟨rfl, dn⟩; have KK := Lib.hid (KK.out.below dn)))
      clear c0 c1 c2 c3 c4 c5 c6 c7 c8
      go_wp2_with (refine wpList_store_row rfl 34 _ _ rfl (g + 1) (Pt0 : Pt).cs.toArray rfl rfl 34 _ (KK.out.at_ (g + 1, ptO Pt0) (by simp)) (by kernel_rfl) rfl (by simp [Value.oneCell', Pt.cs]) ?_)
      have K2 := Kn.setRow KK.out (by simp only [Apart, and_true]; omega) (by omega) (ptO Pt0)
      refine bodyPost_ret (v := .tuple #[(Pt0 : Pt).val, .bool false]) (results_cell_tmp rfl _ _ (g + 1) 34 (Pt0 : Pt).cs.toArray (0, 0) _ _ rfl rfl K2.hd Try.underlying34 rfl (by kernel_rfl)) rfl ⟨by rw [HV.out], by first | exact K2.b | (rw [hg]; exact K2.b)⟩
  · have t1 : (r.kind != 1) = true := bne_iff_ne.2 hk1
    have HV : Hid (V = (Pt0, false)) := HV.out.trans (if_neg (fun h => hk1 h.1))
    clear hk1
    clear c1 c2 c3 c4 c5 c6 c7 c8
    go_upto_region 2 with fail
    go_wp2_with (refine wpList_store_row rfl 34 _ _ rfl (g + 1) (Pt0 : Pt).cs.toArray rfl rfl 34 _ (KK.out.at_ (g + 1, ptO Pt0) (by simp)) (by kernel_rfl) rfl (by simp [Value.oneCell', Pt.cs]) ?_)
    have K2 := Kn.setRow KK.out (by simp only [Apart, and_true]; omega) (by omega) (ptO Pt0)
    refine bodyPost_ret (v := .tuple #[(Pt0 : Pt).val, .bool false]) (results_cell_tmp rfl _ _ (g + 1) 34 (Pt0 : Pt).cs.toArray (0, 0) _ _ rfl rfl K2.hd Try.underlying34 rfl (by kernel_rfl)) rfl ⟨by rw [HV.out], by first | exact K2.b | (rw [hg]; exact K2.b)⟩
end Go.Proofs.Ytkonflbgkaflaaa
