/- The reference's Same of messages that tell the same. ship.Pack. The reference's Pack. The reference's Check of messages. The reference's Check of messages: kind 1. The reference's Check of messages: kind 2, 3. The reference's Check of messages: kind 4. The reference's Check of messages: kind 5, 6. The reference's Check of messages: kind 7. -/
import Derived.Test.YtglabahbklpocaaGreatGShipPacks47
import Derived.Test.YtglabahbklpocaaGreatGShipPacks31
import Derived.Test.YtglabahbklpocaaGreatGShipPacks35
import Derived.Test.YtglabahbklpocaaGreatGShipPacks16
import Derived.Test.YtglabahbklpocaaGreatGShipPacks34
import Derived.Test.YtglabahbklpocaaGreatGShipPacks29
import Derived.Test.YtglabahbklpocaaGreatGShipPacks5
import Derived.Test.YtglabahbklpocaaGreatGShipPacks20
import Derived.Deep.CutBlock
namespace Go.Proofs.YtglabahbklpocaaGreat
section
open Go.RowKit Go.Deep
set_option maxRecDepth 100000
set_option linter.unusedVariables false
set_option linter.unusedSimpArgs false
attribute [local go_sem ↓] Go.wp_at_zero Go.wp_at_succ
theorem eq_span2 (f t : Int) (hf : i64' f) (ht : i64' t) (w : World) : (binOp .eql 30 (.agg #[.int .i64 f, .int .i64 t]) (.agg #[.int .i64 f, .int .i64 t])).run Tryz.prog w = .ok (.bool true) w := by
  have h := (eql_flat 5 (by decide) 30 _ span_leaves (by kernel_rfl) (by kernel_rfl) (by kernel_rfl) [.int .i64 f, .int .i64 t] [.int .i64 f, .int .i64 t] (span_flat f t hf ht) (span_flat f t hf ht) True (by simp) w).1
  rw [decide_eq_true trivial] at h
  exact h
set_option maxHeartbeats 8000000 in
theorem hsame_any (x y : Wi) (ps : List Pt) (ms : List RcM) (vs : List Int) (w : World) (hf : i64' x.from_) (ht : i64' x.to_) (e1 : y.kind = x.kind) (e2 : y.id = x.id) (e3 : y.series = x.series) (e4 : y.from_ = x.from_) (e5 : y.to_ = x.to_) (e6 : y.time = x.time)
    (hp : SlP w x.np ps) (hp2 : SlP w y.np ps) (hr : RecsW w x.nr ms) (hr2 : RecsW w y.nr ms) (hv : SlR w x.vec vs) (hv2 : SlR w y.vec vs) :
    Calls Tryz.prog 11 #[.agg x.arr, .agg y.arr] w fun e w' => e = .returned (.bool true) ∧ Below w.heap.size w w' := by
  obtain ⟨kind, id, series, from_, to_, np, nr, vec, time⟩ := x
  obtain ⟨kind2, id2, series2, from2, to2, np2, nr2, vec2, time2⟩ := y
  simp only at e1 e2 e3 e4 e5 e6 hf ht hp hp2 hr hr2 hv hv2
  subst e1 e2 e3 e4 e5 e6
  have H1 := Lib.hid hp
  have H2 := Lib.hid hp2
  have H3 := Lib.hid hr
  have H4 := Lib.hid hr2
  have H5 := Lib.hid hv
  have H6 := Lib.hid hv2
  have C1 := fun wx (hb : Below w.heap.size w wx) => samepts_any np.a np2.a np.n np.c np2.n np2.c ps ps wx (H1.out.below hb).r (H2.out.below hb).r H1.out.wf H2.out.wf H1.out.nc H1.out.cb H2.out.nc H2.out.cb
  rw [sameP_true rfl] at C1
  have C2 := fun wx (hb : Below w.heap.size w wx) => rsame17_w nr nr2 ms ms wx (H3.out.below hb) (H4.out.below hb)
  rw [sameX_true rfl] at C2
  have C3 := fun wx (hb : Below w.heap.size w wx) => same_any vec.a vec2.a vec.n vec.c vec2.n vec2.c vs vs wx (H5.out.below hb).r (H6.out.below hb).r H5.out.nc H5.out.cb H6.out.nc H6.out.cb
  rw [decide_eq_true rfl] at C3
  have E0 := fun wx => eq_span2 from2 to2 hf ht wx
  have s1 : (series2.toList == series2.toList) = true := beq_self_eq_true _
  have s2 : (kind2 == kind2) = true := beq_self_eq_true _
  have s3 : (id2 == id2) = true := beq_self_eq_true _
  have s4 : (time2 == time2) = true := beq_self_eq_true _
  clear hp hp2 hr hr2 hv hv2 hf ht
  unfold Wi.arr
  go_enter Tryz.func11, Tryz.ntmps11
  go_upto_region 1 with fail
  generalize hw1 : World.alloc _ _ = w1
  have KK := Lib.hid (show Kn w.heap.size w [(w.heap.size + 1, wiO ⟨kind2, id2, series2, from2, to2, np2, nr2, vec2, time2⟩), (w.heap.size, wiO ⟨kind2, id2, series2, from2, to2, np, nr, vec, time2⟩)] w1 by rw [← hw1]; exact ((Kn.start w).new' rfl (wiO ⟨kind2, id2, series2, from2, to2, np, nr, vec, time2⟩)).new' (by simp) (wiO ⟨kind2, id2, series2, from2, to2, np2, nr2, vec2, time2⟩))
  clear hw1
  obtain ⟨g2, hg2⟩ : ∃ g2, w.heap.size + 1 = g2 := ⟨_, rfl⟩
  rw [hg2] at KK ⊢
  obtain ⟨g, hg⟩ : ∃ g, w.heap.size = g := ⟨_, rfl⟩
  rw [hg] at KK C1 C2 C3 ⊢
  obtain ⟨y0, y1, y2, y3, y4, y5, y6, y7, y8⟩ := wi_cells (KK.out.at_ (g2, wiO ⟨kind2, id2, series2, from2, to2, np2, nr2, vec2, time2⟩) (by simp)) rfl
  obtain ⟨x0, x1, x2, x3, x4, x5, x6, x7, x8⟩ := wi_cells (KK.out.at_ (g, wiO ⟨kind2, id2, series2, from2, to2, np, nr, vec, time2⟩) (by simp)) rfl
  go_upto_region 2 with (go_at_call 36; refine (C1 _ KK.out.b).mono ?_; rintro e w2 ⟨rfl, dn⟩; have KK := Lib.hid (KK.out.below dn); clear dn)
  clear y0 y1 y2 y3 y4 y5 y6 y7 y8 x0 x1 x2 x3 x4 x5 x6 x7 x8
  obtain ⟨y0, y1, y2, y3, y4, y5, y6, y7, y8⟩ := wi_cells (KK.out.at_ (g2, wiO ⟨kind2, id2, series2, from2, to2, np2, nr2, vec2, time2⟩) (by simp)) rfl
  obtain ⟨x0, x1, x2, x3, x4, x5, x6, x7, x8⟩ := wi_cells (KK.out.at_ (g, wiO ⟨kind2, id2, series2, from2, to2, np, nr, vec, time2⟩) (by simp)) rfl
  go_upto_region 3 with (go_at_call 37; refine (C2 _ KK.out.b).mono ?_; rintro e w3 ⟨rfl, dn⟩; have KK := Lib.hid (KK.out.below dn); clear dn)
  clear y0 y1 y2 y3 y4 y5 y6 y7 y8 x0 x1 x2 x3 x4 x5 x6 x7 x8
  obtain ⟨y0, y1, y2, y3, y4, y5, y6, y7, y8⟩ := wi_cells (KK.out.at_ (g2, wiO ⟨kind2, id2, series2, from2, to2, np2, nr2, vec2, time2⟩) (by simp)) rfl
  obtain ⟨x0, x1, x2, x3, x4, x5, x6, x7, x8⟩ := wi_cells (KK.out.at_ (g, wiO ⟨kind2, id2, series2, from2, to2, np, nr, vec, time2⟩) (by simp)) rfl
  go_upto_region 4 with (go_at_call 22; refine (C3 _ KK.out.b).mono ?_; rintro e w4 ⟨rfl, dn⟩; have KK := Lib.hid (KK.out.below dn); clear dn)
  clear y0 y1 y2 y3 y4 y5 y6 y7 y8 x0 x1 x2 x3 x4 x5 x6 x7 x8
  obtain ⟨y0, y1, y2, y3, y4, y5, y6, y7, y8⟩ := wi_cells (KK.out.at_ (g2, wiO ⟨kind2, id2, series2, from2, to2, np2, nr2, vec2, time2⟩) (by simp)) rfl
  obtain ⟨x0, x1, x2, x3, x4, x5, x6, x7, x8⟩ := wi_cells (KK.out.at_ (g, wiO ⟨kind2, id2, series2, from2, to2, np, nr, vec, time2⟩) (by simp)) rfl
  simp only at x0 x1 x2 x8 y0 y1 y2 y8
  go_wp2_with (first
    | refine wpList_load_mid_w (by first | rfl | kernel_rfl) 30 _ rfl g 3 rfl [.int .i64 from2, .int .i64 to2] _ (span_range (KK.out.at_ (g, wiO ⟨kind2, id2, series2, from2, to2, np, nr, vec, time2⟩) (by simp)) rfl) Tryz.underlying30 rfl (by kernel_rfl) ?_
    | refine wpList_load_mid_w (by first | rfl | kernel_rfl) 30 _ rfl g2 3 rfl [.int .i64 from2, .int .i64 to2] _ (span_range (KK.out.at_ (g2, wiO ⟨kind2, id2, series2, from2, to2, np2, nr2, vec2, time2⟩) (by simp)) rfl) Tryz.underlying30 rfl (by kernel_rfl) ?_)
  go_ret
  exact ⟨rfl, by first | exact KK.out.b | (rw [hg]; exact KK.out.b)⟩
end
end Go.Proofs.YtglabahbklpocaaGreat
namespace Go.Proofs.YtglabahbklpocaaGreat
section
open Go.RowKit Go.Deep
set_option maxRecDepth 100000
set_option linter.unusedVariables false
set_option linter.unusedSimpArgs false
attribute [local go_sem ↓] Go.wp_at_zero Go.wp_at_succ
/-- A list that was handed out outlasts what a message's block does to itself. -/
theorem RecsAt.butW {w w' : World} {d : Sl} {xs : List RcM} {g : Nat} {x : Wi} (h : RecsAt w d xs) (hg : w.heap[g]? = some (wiO x)) (hb : But g w w') : RecsAt w' d xs := by
  obtain ⟨⟨rs, h1, h2, h3, h4, h5⟩, h6, h7⟩ := h
  have hti : ∀ y : Sl, TI w y → farA [g] y := fun y hy => hy.imp_right fun ⟨g', cur, e1, e2⟩ p hp hm => by
    rw [e1] at hp
    cases hp
    simp only [List.mem_singleton] at hm
    subst hm
    rw [hg] at e2
    simp only [wiO, Option.some.injEq, Obj.cells.injEq] at e2
    exact absurd e2.2.1 (by decide)
  have htr : farA [g] d := h5.imp_right fun ⟨g', cur, e1, e2⟩ p hp hm => by
    rw [e1] at hp
    cases hp
    simp only [List.mem_singleton] at hm
    subst hm
    rw [hg] at e2
    simp only [wiO, Option.some.injEq, Obj.cells.injEq] at e2
    exact absurd e2.2.1 (by decide)
  have hd : ∀ i, i < w.heap.size → i ∉ [g] → w'.heap[i]? = w.heap[i]? := fun i hi hn => hb.block i hi (by simp; exact fun e => hn (by simp [e]))
  have htr2 : TR w' d := by
    rcases h5 with h5 | ⟨g', cur, e1, e2⟩
    · exact .inl h5
    · rcases htr with h0 | h0
      · exact .inl h0
      · exact .inr ⟨g', cur, e1, (hd g' (heap_lt e2) (h0 _ e1)).trans e2⟩
  exact ⟨⟨rs, ReadsE.keep h1 htr hb.size hd, h2, fun x hx => ⟨⟨(h3 x hx).1.wf, (h3 x hx).1.sl.keep (hti _ (h4 x hx)) hb.size hd⟩, (h3 x hx).2⟩, fun x hx => (h4 x hx).keep (hti _ (h4 x hx)) hd, htr2⟩, h6, h7⟩
/-- What is sent: the records, and whether there are any. -/
def packM (m : LogM) (vs : List Int) : List RcM × Bool := ((afterM m vs 16).1, (afterM m vs 16).2 && decide ((afterM m vs 16).1 ≠ []))
set_option maxHeartbeats 8000000 in
theorem hpack_any (F : List Nat) (g : Nat) (m : LogM) (d1 d2 : Sl) (vs ys : List Int) (w : World) (hL : LogAt w F g m) (hv : SlR w d1 vs) (hy : SlR w d2 ys) :
    Calls Tryz.prog 8 #[.pointer (some ⟨g, 0, none⟩), .slice d1.a d1.n d1.c, .slice d2.a d2.n d2.c] w fun e w' => ∃ x : Wi, e = .returned (.tuple #[.agg x.arr, .bool (packM m vs).2]) ∧ Below w.heap.size w w' ∧
      (((packM m vs).2 = false ∧ x = Wi0) ∨ ((packM m vs).2 = true ∧ ∃ o v : Sl, x = ⟨7, 0, ⟨#[]⟩, 0, 0, Sl0, o, v, 0⟩ ∧ RecsAt w' o (packM m vs).1 ∧ SlR w' v (joinV ys []))) := by
  have HY := Lib.hid hy
  have HLT : g < w.heap.size := by obtain ⟨_, _, _, _, e, _⟩ := hL; exact heap_lt e
  have AF := fun wx (h1 : LogAt wx F g m) (h2 : SlR wx d1 vs) => oafter_any F g m d1 vs 16 wx h1 h2 ⟨by decide, by decide⟩
  unfold packM
  generalize afterM m vs 16 = A at *
  obtain ⟨L, b⟩ := A
  simp only at AF ⊢
  have HL := Lib.hid (hL.below ((Below.refl w.heap.size w).alloc (Nat.le_refl _) (wiO Wi0)))
  have HV := Lib.hid (hv.below ((Below.refl w.heap.size w).alloc (Nat.le_refl _) (wiO Wi0)))
  go_enter Tryz.func8, Tryz.ntmps8
  go_upto_region 1 with fail
  generalize hw1 : World.alloc _ _ = w1
  have KK := Lib.hid (show Kn w.heap.size w [(w.heap.size, wiO Wi0)] w1 by rw [← hw1]; exact (Kn.start w).new' rfl (wiO Wi0))
  have HL := Lib.hid (show LogAt w1 F g m by rw [← hw1]; exact HL.out)
  have HV := Lib.hid (show SlR w1 d1 vs by rw [← hw1]; exact HV.out)
  clear hw1
  obtain ⟨p, hp⟩ : ∃ p, w.heap.size = p := ⟨_, rfl⟩
  rw [hp] at KK HLT ⊢
  go_upto_region 2 with (go_at_call 32; refine (AF _ HL.out HV.out).mono ?_; rintro e w2 ⟨o, rfl, hr, dn⟩; have KK := Lib.hid (KK.out.below dn); have HR := Lib.hid hr; have hz2 := dn.size; clear dn hr)
  have hlen : L.length = o.n := by
    obtain ⟨⟨rs, h1, h2, _⟩, _, _⟩ := HR.out
    rw [← h2, List.length_map]; exact h1.1
  cases b
  · have HB : Hid ((false && decide (L ≠ [])) = false) := rfl
    go_wp2_with (refine wpList_store_row rfl 33 _ _ rfl p Wi0.arr rfl rfl 33 _ KK.out.hd (by kernel_rfl) rfl (wi_one _) ?_)
    have KF := Kn.setRow KK.out trivial (Nat.le_refl _) (wiO Wi0)
    refine bodyPost_ret (v := .tuple #[.agg Wi0.arr, .bool false]) (res_cell_tmp rfl _ _ p 33 Wi0.arr (0, 0) _ _ rfl rfl KF.hd Tryz.underlying33 rfl (by kernel_rfl)) rfl ⟨Wi0, by rw [HB.out], by first | exact KF.b | (rw [hp]; exact KF.b), .inl ⟨HB.out, rfl⟩⟩
  · by_cases h0 : o.n = 0
    · have t1 : ((o.n : Int) == 0) = true := by simp [h0]
      have HB : Hid ((true && decide (L ≠ [])) = false) := by
        have : L = [] := List.eq_nil_of_length_eq_zero (by omega)
        show _ = _
        rw [this]; rfl
      clear h0
      go_wp2_with (refine wpList_store_row rfl 33 _ _ rfl p Wi0.arr rfl rfl 33 _ KK.out.hd (by kernel_rfl) rfl (wi_one _) ?_)
      have KF := Kn.setRow KK.out trivial (Nat.le_refl _) (wiO Wi0)
      refine bodyPost_ret (v := .tuple #[.agg Wi0.arr, .bool false]) (res_cell_tmp rfl _ _ p 33 Wi0.arr (0, 0) _ _ rfl rfl KF.hd Tryz.underlying33 rfl (by kernel_rfl)) rfl ⟨Wi0, by rw [HB.out], by first | exact KF.b | (rw [hp]; exact KF.b), .inl ⟨HB.out, rfl⟩⟩
    · have t1 : ((o.n : Int) == 0) = false := by simp [h0]
      have HB : Hid ((true && decide (L ≠ [])) = true) := by
        have : L ≠ [] := fun e => h0 (by rw [← hlen, e]; rfl)
        show _ = _
        rw [decide_eq_true this]; rfl
      have JN := fun wx (hb : Below w.heap.size w wx) => join_any d2.a none d2.n d2.c 0 0 ys [] wx (HY.out.below hb).r ⟨rfl, .inl rfl⟩ HY.out.nc HY.out.cb (Nat.le_refl _) (by decide)
      rw [hp] at JN
      clear h0
      have hpw : p < w2.heap.size := KK.out.fresh
      go_wp2_with (first
        | (go_at_call 33; refine (JN _ KK.out.b).mono ?_; rintro e w3 ⟨a', rfl, hV, dn⟩; have KK := Lib.hid (KK.out.below dn); have HR := Lib.hid (HR.out.below dn); have HVV := Lib.hid hV; clear hV dn)
        | (refine wpList_store_row rfl 33 _ _ rfl p (Wi.arr ⟨7, 0, ⟨#[]⟩, 0, 0, Sl0, o, ⟨a', (joinV ys []).length, (joinV ys []).length⟩, 0⟩) rfl rfl 33 _ KK.out.hd (by kernel_rfl) rfl (wi_one _) ?_))
      have KF := Kn.setRow KK.out trivial (Nat.le_refl _) (wiO ⟨7, 0, ⟨#[]⟩, 0, 0, Sl0, o, ⟨a', (joinV ys []).length, (joinV ys []).length⟩, 0⟩)
      have HR := Lib.hid (HR.out.butW KK.out.hd (But.row p _ (Wi.arr ⟨7, 0, ⟨#[]⟩, 0, 0, Sl0, o, ⟨a', (joinV ys []).length, (joinV ys []).length⟩, 0⟩)))
      have hl8 := joinV_len ys []
      have HS := Lib.hid (show SlR _ ⟨a', (joinV ys []).length, (joinV ys []).length⟩ (joinV ys []) from ⟨HVV.out.reads, Nat.le_refl _, by show (joinV ys []).length ≤ _; omega⟩)
      have HS : Hid (SlR (w3.setRow p (Wi.arr ⟨7, 0, ⟨#[]⟩, 0, 0, Sl0, o, ⟨a', (joinV ys []).length, (joinV ys []).length⟩, 0⟩)) ⟨a', (joinV ys []).length, (joinV ys []).length⟩ (joinV ys [])) := by
        rcases HVV.out.own with h | ⟨q, e1, e2⟩
        · exact ⟨⟨rfl, .inl (by simp [h])⟩, Nat.le_refl _, by show (joinV ys []).length ≤ _; omega⟩
        · exact HS.out.but2 (g := p) (b := p) (fun x hx => by
            have hx' : a' = some x := hx
            rw [e1] at hx'
            obtain rfl := Option.some.inj hx'
            simp only
            omega) ((But2.refl p p _).one (But.row p _ _))
      refine bodyPost_ret (v := .tuple #[.agg (Wi.arr ⟨7, 0, ⟨#[]⟩, 0, 0, Sl0, o, ⟨a', (joinV ys []).length, (joinV ys []).length⟩, 0⟩), .bool true]) (res_cell_tmp rfl _ _ p 33 (Wi.arr ⟨7, 0, ⟨#[]⟩, 0, 0, Sl0, o, ⟨a', (joinV ys []).length, (joinV ys []).length⟩, 0⟩) (0, 0) _ _ rfl rfl KF.hd Tryz.underlying33 rfl (by kernel_rfl)) rfl ⟨_, by rw [HB.out], by first | exact KF.b | (rw [hp]; exact KF.b), .inr ⟨HB.out, o, _, rfl, HR.out, HS.out⟩⟩
end
end Go.Proofs.YtglabahbklpocaaGreat
namespace Go.Proofs.YtglabahbklpocaaGreat
section
open Go.RowKit Go.Deep
set_option maxRecDepth 100000
set_option linter.unusedVariables false
set_option linter.unusedSimpArgs false
attribute [local go_sem ↓] Go.wp_at_zero Go.wp_at_succ
set_option maxHeartbeats 8000000 in
theorem hrpack_any (F : List Nat) (g gL : Nat) (m : LogM) (d1 d2 : Sl) (vs ys : List Int) (w : World) (hL : RLogAt w F g gL m) (hv : SlR w d1 vs) (hy : SlR w d2 ys) :
    Calls Tryz.prog 10 #[.pointer (some ⟨g, 0, none⟩), .slice d1.a d1.n d1.c, .slice d2.a d2.n d2.c] w fun e w' => ∃ x : Wi, e = .returned (.tuple #[.agg x.arr, .bool (packM m vs).2]) ∧ Below w.heap.size w w' ∧
      (((packM m vs).2 = false ∧ x = Wi0) ∨ ((packM m vs).2 = true ∧ ∃ o v : Sl, x = ⟨7, 0, ⟨#[]⟩, 0, 0, Sl0, o, v, 0⟩ ∧ RecsW w' o (packM m vs).1 ∧ SlR w' v (pl ys))) := by
  have HY := Lib.hid hy
  have HLT : g < w.heap.size := by obtain ⟨_, _, _, e, _⟩ := hL; exact heap_lt e
  have AF := fun wx (h1 : RLogAt wx (w.heap.size :: F) g gL m) (h2 : SlR wx d1 vs) => rlafter_any (w.heap.size :: F) g gL m d1 vs 16 wx h1 h2
  unfold packM
  generalize afterM m vs 16 = A at *
  obtain ⟨L, b⟩ := A
  simp only at AF ⊢
  have HL := Lib.hid ((hL.grow (k := w.heap.size) (.inr (Nat.le_refl _))).below ((Below.refl w.heap.size w).alloc (Nat.le_refl _) (wiO Wi0)))
  have HV := Lib.hid (hv.below ((Below.refl w.heap.size w).alloc (Nat.le_refl _) (wiO Wi0)))
  go_enter Tryz.func10, Tryz.ntmps10
  go_upto_region 1 with fail
  generalize hw1 : World.alloc _ _ = w1
  have KK := Lib.hid (show Kn w.heap.size w [(w.heap.size, wiO Wi0)] w1 by rw [← hw1]; exact (Kn.start w).new' rfl (wiO Wi0))
  have HL := Lib.hid (show RLogAt w1 (w.heap.size :: F) g gL m by rw [← hw1]; exact HL.out)
  have HV := Lib.hid (show SlR w1 d1 vs by rw [← hw1]; exact HV.out)
  clear hw1
  obtain ⟨p, hp⟩ : ∃ p, w.heap.size = p := ⟨_, rfl⟩
  rw [hp] at KK HLT HL AF ⊢
  have hp1 : p < w1.heap.size := KK.out.fresh
  go_upto_region 2 with (go_at_call 34; refine (AF _ HL.out HV.out).mono ?_; rintro e w2 ⟨o, os, rfl, hr, hm2, ho2, dn⟩; have KK := Lib.hid (KK.out.below dn); have HR := Lib.hid hr; have HM := Lib.hid hm2; have HO : Hid (∀ x ∈ os, x.ok w2 ∧ x.d.n ≤ 8 ∧ farA (p :: F) x.d) := (fun x hx => ⟨(ho2 x hx).1.below dn, (ho2 x hx).2⟩); have hz2 := dn.size; clear dn hr hm2 ho2)
  have hlen : L.length = o.n := by
    have h1 := congrArg List.length HM.out
    rw [List.length_map, HR.out.len] at h1
    exact h1.symm
  cases b
  · have HB : Hid ((false && decide (L ≠ [])) = false) := rfl
    go_wp2_with (refine wpList_store_row rfl 33 _ _ rfl p Wi0.arr rfl rfl 33 _ KK.out.hd (by kernel_rfl) rfl (wi_one _) ?_)
    have KF := Kn.setRow KK.out trivial (Nat.le_refl _) (wiO Wi0)
    refine bodyPost_ret (v := .tuple #[.agg Wi0.arr, .bool false]) (res_cell_tmp rfl _ _ p 33 Wi0.arr (0, 0) _ _ rfl rfl KF.hd Tryz.underlying33 rfl (by kernel_rfl)) rfl ⟨Wi0, by rw [HB.out], by first | exact KF.b | (rw [hp]; exact KF.b), .inl ⟨HB.out, rfl⟩⟩
  · by_cases h0 : o.n = 0
    · have t1 : ((o.n : Int) == 0) = true := by simp [h0]
      have HB : Hid ((true && decide (L ≠ [])) = false) := by
        have : L = [] := List.eq_nil_of_length_eq_zero (by omega)
        show _ = _
        rw [this]; rfl
      clear h0
      go_wp2_with (refine wpList_store_row rfl 33 _ _ rfl p Wi0.arr rfl rfl 33 _ KK.out.hd (by kernel_rfl) rfl (wi_one _) ?_)
      have KF := Kn.setRow KK.out trivial (Nat.le_refl _) (wiO Wi0)
      refine bodyPost_ret (v := .tuple #[.agg Wi0.arr, .bool false]) (res_cell_tmp rfl _ _ p 33 Wi0.arr (0, 0) _ _ rfl rfl KF.hd Tryz.underlying33 rfl (by kernel_rfl)) rfl ⟨Wi0, by rw [HB.out], by first | exact KF.b | (rw [hp]; exact KF.b), .inl ⟨HB.out, rfl⟩⟩
    · have t1 : ((o.n : Int) == 0) = false := by simp [h0]
      have HB : Hid ((true && decide (L ≠ [])) = true) := by
        have : L ≠ [] := fun e => h0 (by rw [← hlen, e]; rfl)
        show _ = _
        rw [decide_eq_true this]; rfl
      have JN := fun wx (hb : Below w.heap.size w wx) => rplain_any d2.a d2.n d2.c ys wx (HY.out.below hb).r HY.out.nc HY.out.cb
      rw [hp] at JN
      clear h0
      have hpw : p < w2.heap.size := KK.out.fresh
      go_wp2_with (first
        | (go_at_call 35; refine (JN _ KK.out.b).mono ?_; rintro e w3 ⟨a', cp, rfl, hcp, hcm, hV, dn⟩; have KK := Lib.hid (KK.out.below dn); have HR := Lib.hid (HR.out.below dn); have HO : Hid (∀ x ∈ os, x.ok w3 ∧ x.d.n ≤ 8 ∧ farA (p :: F) x.d) := (fun x hx => ⟨(HO.out x hx).1.below dn, (HO.out x hx).2⟩); have HVV := Lib.hid hV; clear hV dn)
        | (refine wpList_store_row rfl 33 _ _ rfl p (Wi.arr ⟨7, 0, ⟨#[]⟩, 0, 0, Sl0, o, ⟨a', (pl ys).length, cp⟩, 0⟩) rfl rfl 33 _ KK.out.hd (by kernel_rfl) rfl (wi_one _) ?_))
      have KF := Kn.setRow KK.out trivial (Nat.le_refl _) (wiO ⟨7, 0, ⟨#[]⟩, 0, 0, Sl0, o, ⟨a', (pl ys).length, cp⟩, 0⟩)
      have kb := But.row p w3 (Wi.arr ⟨7, 0, ⟨#[]⟩, 0, 0, Sl0, o, ⟨a', (pl ys).length, cp⟩, 0⟩)
      have HR := Lib.hid (HR.out.but kb hp1)
      have HO : Hid (∀ x ∈ os, x.ok (w3.setRow p (Wi.arr ⟨7, 0, ⟨#[]⟩, 0, 0, Sl0, o, ⟨a', (pl ys).length, cp⟩, 0⟩)) ∧ x.d.n ≤ 8) := fun x hx => ⟨⟨(HO.out x hx).1.wf, (HO.out x hx).1.sl.butC (HO.out x hx).2.2 (ButC.of_but kb (List.mem_cons_self ..)) (fun q hq => hq)⟩, (HO.out x hx).2.1⟩
      have HS := Lib.hid (show SlR _ ⟨a', (pl ys).length, cp⟩ (pl ys) from ⟨HVV.out.reads, hcp, hcm⟩)
      have HS : Hid (SlR (w3.setRow p (Wi.arr ⟨7, 0, ⟨#[]⟩, 0, 0, Sl0, o, ⟨a', (pl ys).length, cp⟩, 0⟩)) ⟨a', (pl ys).length, cp⟩ (pl ys)) := by
        rcases HVV.out.own with h | ⟨q, e1, e2⟩
        · exact ⟨⟨rfl, .inl (by simp [h])⟩, hcp, hcm⟩
        · exact HS.out.but2 (g := p) (b := p) (fun x hx => by
            have hx' : a' = some x := hx
            rw [e1] at hx'
            obtain rfl := Option.some.inj hx'
            simp only
            omega) ((But2.refl p p _).one (But.row p _ _))
      have HW : Hid (RecsW (w3.setRow p (Wi.arr ⟨7, 0, ⟨#[]⟩, 0, 0, Sl0, o, ⟨a', (pl ys).length, cp⟩, 0⟩)) o L) := ⟨⟨os, (AppE.reads rec_len (by decide) HR.out).1, HM.out, HO.out⟩, HR.out.le, maxLen_i HR.out.max⟩
      refine bodyPost_ret (v := .tuple #[.agg (Wi.arr ⟨7, 0, ⟨#[]⟩, 0, 0, Sl0, o, ⟨a', (pl ys).length, cp⟩, 0⟩), .bool true]) (res_cell_tmp rfl _ _ p 33 (Wi.arr ⟨7, 0, ⟨#[]⟩, 0, 0, Sl0, o, ⟨a', (pl ys).length, cp⟩, 0⟩) (0, 0) _ _ rfl rfl KF.hd Tryz.underlying33 rfl (by kernel_rfl)) rfl ⟨_, by rw [HB.out], by first | exact KF.b | (rw [hp]; exact KF.b), .inr ⟨HB.out, o, _, rfl, HW.out, HS.out⟩⟩
end
end Go.Proofs.YtglabahbklpocaaGreat
namespace Go.Proofs.YtglabahbklpocaaGreat
section
open Go.RowKit Go.Deep
set_option maxRecDepth 100000
set_option linter.unusedVariables false
set_option linter.unusedSimpArgs false
attribute [local go_sem ↓] Go.wp_at_zero Go.wp_at_succ
/-- What may be of a message, but for its points, records, name, span and vector. -/
def okA (x : Wi) : Prop := (1 ≤ x.kind ∧ x.kind ≤ 7) ∧ (0 ≤ x.id ∧ x.id ≤ 1099511627776) ∧ (x.kind = 1 ∨ x.kind = 4 ∨ x.np.n = 0) ∧ (x.kind = 3 ∨ (x.series.size = 0 ∧ x.from_ = 0 ∧ x.to_ = 0)) ∧ (x.kind = 5 ∨ x.time = 0) ∧ (x.kind = 7 ∨ x.nr.n = 0) ∧ (6 ≤ x.kind ∨ x.vec.n = 0) ∧ x.np.n ≤ 200 ∧ x.nr.n ≤ 16 ∧ 0 ≤ x.time ∧ x.time ≤ 1099511627777
def okT (x : Wi) (ps : List Pt) (rs : List RecA) (vs : List Int) : Prop := okPts ps ∧ okRecs rs ∧ (x.kind = 3 → nameV x.series = true ∧ spanV x.from_ x.to_ = true) ∧ vs = pl vs
/-- A message in memory, with all that it bears. -/
structure WiAt (w : World) (x : Wi) (ps : List Pt) (rs : List RecA) (vs : List Int) : Prop where
  p : SlP w x.np ps
  r : RecsV w x.nr rs
  v : SlR w x.vec vs
  f : i64' x.from_
  t : i64' x.to_
  s : x.series.size ≤ 9223372036854775807
theorem WiAt.below {w w' : World} {x : Wi} {ps : List Pt} {rs : List RecA} {vs : List Int} (h : WiAt w x ps rs vs) (hb : Below w.heap.size w w') : WiAt w' x ps rs vs := ⟨h.p.below hb, h.r.below hb, h.v.below hb, h.f, h.t, h.s⟩
end
end Go.Proofs.YtglabahbklpocaaGreat
namespace Go.Proofs.YtglabahbklpocaaGreat
section
open Go.RowKit Go.Deep
set_option maxRecDepth 100000
set_option linter.unusedVariables false
set_option linter.unusedSimpArgs false
attribute [local go_sem ↓] Go.wp_at_zero Go.wp_at_succ
end
end Go.Proofs.YtglabahbklpocaaGreat
namespace Go.Proofs.YtglabahbklpocaaGreat
section
open Go.RowKit Go.Deep
set_option maxRecDepth 100000
set_option linter.unusedVariables false
set_option linter.unusedSimpArgs false
attribute [local go_sem ↓] Go.wp_at_zero Go.wp_at_succ
end
end Go.Proofs.YtglabahbklpocaaGreat
namespace Go.Proofs.YtglabahbklpocaaGreat
section
open Go.RowKit Go.Deep
set_option maxRecDepth 100000
set_option linter.unusedVariables false
set_option linter.unusedSimpArgs false
attribute [local go_sem ↓] Go.wp_at_zero Go.wp_at_succ
end
end Go.Proofs.YtglabahbklpocaaGreat
namespace Go.Proofs.YtglabahbklpocaaGreat
section
open Go.RowKit Go.Deep
set_option maxRecDepth 100000
set_option linter.unusedVariables false
set_option linter.unusedSimpArgs false
attribute [local go_sem ↓] Go.wp_at_zero Go.wp_at_succ
end
end Go.Proofs.YtglabahbklpocaaGreat
namespace Go.Proofs.YtglabahbklpocaaGreat
section
open Go.RowKit Go.Deep
set_option maxRecDepth 100000
set_option linter.unusedVariables false
set_option linter.unusedSimpArgs false
attribute [local go_sem ↓] Go.wp_at_zero Go.wp_at_succ
end
end Go.Proofs.YtglabahbklpocaaGreat
