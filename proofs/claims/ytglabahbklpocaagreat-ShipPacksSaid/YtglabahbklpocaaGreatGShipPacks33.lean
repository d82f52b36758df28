/- The reference's log: Add. -/
import Derived.Test.YtglabahbklpocaaGreatGShipPacks32
import Derived.Test.YtglabahbklpocaaGreatGShipPacks20
import Derived.Test.YtglabahbklpocaaGreatGShipPacks12
namespace Go.Proofs.YtglabahbklpocaaGreat
section
open Go.RowKit Go.Deep
set_option maxRecDepth 100000
set_option linter.unusedVariables false
set_option linter.unusedSimpArgs false
attribute [local go_sem ↓] Go.wp_at_zero Go.wp_at_succ
theorem farA.grow2 {F : List Nat} {d : Sl} (h : farA F d) {B : Nat} (hl : d.n = 0 ∨ ∀ p, d.a = some p → p.block < B) {k : Nat} (hk : k ∈ F ∨ B ≤ k) : farA (k :: F) d := by
  rcases h with h | h
  · exact .inl h
  · rcases hl with hl | hl
    · exact .inl hl
    · refine .inr fun p hp hm => ?_
      rcases List.mem_cons.1 hm with hm | hm
      · rcases hk with hk | hk
        · exact h p hp (hm ▸ hk)
        · have := hl p hp; omega
      · exact h p hp hm
theorem radd_held {B q g : Nat} {w0 w wd : World} {l : List (Nat × Obj)} {r : Rc} {d b a : Sl} {mo ck : Int} (h : Kn B w0 l w) (h1 : (q, rcO r d) ∈ l) (h2 : (g, rlogO mo b a ck) ∈ l) (e : wd.heap = w.heap) :
    wd.cell? ⟨q, 6, none⟩ = some (.int .i64 r.st.site) ∧ wd.cell? ⟨q, 7, none⟩ = some (.int .i64 r.st.seq) ∧ wd.cell? ⟨q, 5, none⟩ = some (.int .i64 r.st.clock) ∧ wd.cell? ⟨g, 3, none⟩ = some (.int .i64 ck) ∧ wd.cell? ⟨g, 2, none⟩ = some (.slice a.a a.n a.c) ∧ wd.cell? ⟨g, 0, none⟩ = some (.int .i64 mo) := by
  have q1 := rc_cells (h.at_ _ h1) e
  have q2 := rlog_cells (h.at_ _ h2) e
  exact ⟨q1.c6, q1.c7, q1.c5, q2.2.2.2, q2.2.2.1, q2.1⟩
/-- What an append to the log's row leaves. -/
theorem radd_app {w wA : World} {F : List Nat} {g gL q : Nat} {b a : Sl} {rs : List RecA} {m : LogM} {r : Rc} {d : Sl} (hC : RLogC w F gL b a rs m) (hg : w.heap[g]? = some (rlogO m.most b a m.clock)) (hq : w.heap[q]? = some (rcO r d)) (hlq : ∀ p, a.a = some p → p.block ≠ q)
    {g' o' : Nat} (hB : (a.a = some ⟨g', o', none⟩ ∧ But g' (w.drew.alloc (rcO r d)) wA) ∨ ((w.drew.alloc (rcO r d)).heap.size ≤ g' ∧ Below (w.drew.alloc (rcO r d)).heap.size (w.drew.alloc (rcO r d)) wA)) :
    ButC [gL] w wA ∧ wA.heap[g]? = some (rlogO m.most b a m.clock) ∧ wA.heap[q]? = some (rcO r d) ∧ (g' = gL ∨ w.heap.size ≤ g') ∧ g' ≠ g := by
  have hgl := heap_lt hg
  have hql := heap_lt hq
  have hz : (w.drew.alloc (rcO r d)).heap.size = w.heap.size + 1 := by simp
  have hold : ∀ i, i < w.heap.size → (w.drew.alloc (rcO r d)).heap[i]? = w.heap[i]? := fun i hi => Below.heap_alloc w.drew _ i hi
  rcases hB with ⟨e, hB⟩ | ⟨e, hB⟩
  · have hgL : g' = gL := hC.gl _ e
    have hne : g' ≠ g := fun hh => by
      rcases hC.ha.row with ⟨e1, _⟩ | ⟨g2, o2, cur, e1, e2, _⟩
      · rw [e1] at e; cases e
      · rw [e1] at e
        cases e
        rw [hh, hg] at e2
        simp only [rlogO, Option.some.injEq, Obj.cells.injEq] at e2
        exact absurd e2.2.1 (by decide)
    have hnq : g' ≠ q := fun hh => hlq _ e hh
    refine ⟨⟨hB.os, hB.tape, hB.output, by have := hB.size; omega, fun i hi hn => ?_⟩, ?_, ?_, .inl hgL, hne⟩
    · rw [hB.block i (by omega) (by simp only [List.mem_singleton] at hn; simp; omega)]
      exact hold i hi
    · rw [hB.block g (by omega) (by simp; omega), hold g hgl]; exact hg
    · rw [hB.block q (by omega) (by simp; omega), hold q hql]; exact hq
  · refine ⟨⟨hB.os, hB.tape, hB.output, by have := hB.size; omega, fun i hi hn => ?_⟩, ?_, ?_, .inr (by omega), by omega⟩
    · rw [hB.block i (by omega)]
      exact hold i hi
    · rw [hB.block g (by omega), hold g hgl]; exact hg
    · rw [hB.block q (by omega), hold q hql]; exact hq
theorem rec_new1 (w : World) (r : Rc) (d : Sl) (ds : List Int) : CellsAt (w.alloc (rcO r d)) w.heap.size 0 (RecA.cs ⟨r, d, ds⟩) := by
  intro i u hi
  rw [rcO, Nat.zero_add, World.cell?_alloc_new]
  simpa [RecA.cs] using hi
/-- What stands behind an addition. -/
theorem radd_fin {w w10 wf : World} {F : List Nat} {g gL : Nat} {b a : Sl} {rs : List RecA} {m : LogM} {r : Rc} {d : Sl} {ds : List Int} (hC : RLogC w F gL b a rs m) (hF : g ∈ F) (hFL : gL ∈ F) (hx : RecA.ok w ⟨r, d, ds⟩) (hd : farA F d) (hds8 : ds.length ≤ 8) (hn : a.n < 400)
    {g' o' cap' : Nat} (hBC : ButC [g, gL] w w10) (hO : OffE RecA.cs 60 9 w10 (some ⟨g', o', none⟩) (a.n + 1) cap' (rs ++ [⟨r, d, ds⟩])) (hgg : g' = gL ∨ w.heap.size ≤ g') (hne : g' ≠ g) (hbf : ButC [g] w10 wf)
    (hgf : wf.heap[g]? = some (rlogO m.most b ⟨some ⟨g', o', none⟩, a.n + 1, cap'⟩ (max m.clock r.st.clock))) :
    RLogAt wf (g' :: F) g g' { m with xs := m.xs ++ [(r, ds)], ks := withV m.ks r.st.site r.st.seq, clock := max m.clock r.st.clock } ∧ (g' = gL ∨ w.heap.size ≤ g') ∧ g' < wf.heap.size ∧ ButC [g, gL] w wf := by
  have hall : ButC [g, gL] w wf := hBC.trans (hbf.mono (by simp))
  have hsub : ∀ k ∈ [g, gL], k ∈ F := by
    intro k hk
    simp only [List.mem_cons, List.not_mem_nil, or_false] at hk
    rcases hk with rfl | rfl
    · exact hF
    · exact hFL
  have hgF : g' ∈ F ∨ w.heap.size ≤ g' := hgg.imp_left (fun e => by rw [e]; exact hFL)
  have hlt : g' < wf.heap.size := Nat.lt_of_lt_of_le (hO.lt _ rfl) hbf.size
  refine ⟨⟨b, ⟨some ⟨g', o', none⟩, a.n + 1, cap'⟩, rs ++ [⟨r, d, ds⟩], hgf, ?_⟩, hgg, hlt, hall⟩
  exact {
    hb := hC.hb.butC hC.fb hall hsub
    ha := hO.keep (fun p hp => by cases hp; exact hbf.block g' (hO.lt _ rfl) (by simpa using hne))
    gl := fun p hp => by cases hp; rfl
    ok := by
      intro x hx'
      rcases List.mem_append.1 hx' with hx' | hx'
      · exact ⟨(hC.ok x hx').wf, (hC.ok x hx').sl.butC (hC.fr x hx').1 hall hsub⟩
      · simp only [List.mem_singleton] at hx'
        subst hx'
        exact ⟨hx.wf, hx.sl.butC hd hall hsub⟩
    xs := by simp only [List.map_append, hC.xs]; rfl
    fb := hC.fb.grow2 hC.hb.lt hgF
    fr := by
      intro x hx'
      rcases List.mem_append.1 hx' with hx' | hx'
      · exact ⟨(hC.fr x hx').1.grow2 (hC.ok x hx').sl.lt hgF, (hC.fr x hx').2⟩
      · simp only [List.mem_singleton] at hx'
        subst hx'
        refine ⟨hd.grow2 hx.sl.lt hgF, ?_⟩
        have h1 := hx.sl.r.1
        simp only at h1 ⊢
        omega
    sm := by simp only; omega
    bn := hC.bn
    mo := hC.mo
    ck := by
      have h1 := hC.ck
      have h2 := hx.wf.2.2.2.2.2.1
      unfold i64' at *
      simp only at *
      omega
    ki := by
      show withV m.ks r.st.site r.st.seq = kAll m.bs (m.xs ++ [(r, ds)])
      rw [kAll_snoc, ← hC.ki]
      rfl }
set_option maxHeartbeats 8000000 in
theorem rladd_any (F : List Nat) (g gL : Nat) (m : LogM) (x : RecA) (w : World) (hL : RLogAt w F g gL m) (hF : g ∈ F) (hFL : gL ∈ F) (hFl : ∀ k ∈ F, k < w.heap.size) (hx : x.ok w) (hd : farA F x.d) :
    Calls Tryz.prog 31 #[.pointer (some ⟨g, 0, none⟩), x.val] w fun e w' => ∃ gL', e = .returned (.int .i64 (addM m x.m).2) ∧ RLogAt w' (gL' :: F) g gL' (addM m x.m).1 ∧ (gL' = gL ∨ w.heap.size ≤ gL') ∧ gL' < w'.heap.size ∧ ButC [g, gL] w w' := by
  have HKN := fun wx (h : RLogAt wx F g gL m) (hz : w.heap.size ≤ wx.heap.size) => rlknow_any F g gL m wx h (fun k hk => Nat.lt_of_lt_of_le (hFl k hk) hz)
  have hLG := Lib.hid hL
  obtain ⟨b, a, rs, hg, hc⟩ := hL
  obtain ⟨r, d, ds⟩ := x
  obtain ⟨V, HV⟩ : ∃ V, Hid (V = addM m (r, ds)) := ⟨_, rfl⟩
  show Calls _ _ _ _ fun e w' => ∃ gL', e = .returned (.int .i64 (addM m (r, ds)).2) ∧ RLogAt w' (gL' :: F) g gL' (addM m (r, ds)).1 ∧ (gL' = gL ∨ w.heap.size ≤ gL') ∧ gL' < w'.heap.size ∧ ButC [g, gL] w w'
  rw [← HV.out]
  have hgl := heap_lt hg
  have hgLl := hFl gL hFL
  have HX := Lib.hid hx
  have HD := Lib.hid hd
  have C0 := fun wx hb => rscheck_any r d ds wx hx.wf (HX.out.sl.below (w' := wx) hb)
  have HC := Lib.hid hc
  have hx1 := hx.wf.2.2.2.2.2
  have hck := hc.ck
  have hlen : m.xs.length = a.n := by rw [hc.xs, List.length_map]; exact hc.ha.len
  clear hx hc hd
  unfold RecA.val rcVal
  simp only [rcA] at C0 ⊢
  unfold rcVal at C0
  simp only [rcA] at C0
  go_enter Tryz.func31, Tryz.ntmps31
  go_upto_region 1 with fail
  generalize hw1 : World.alloc _ _ = w1
  obtain ⟨q, hq⟩ : ∃ q, w.heap.size = q := ⟨_, rfl⟩
  have KK := Lib.hid (show Kn q w [(q, rcO r d), (g, rlogO m.most b a m.clock)] w1 by rw [← hw1, ← hq]; exact Kn.new' ((Kn.start w).put hg) rfl (rcO r d))
  clear hw1
  rw [hq] at hgl hgLl HKN ⊢
  have GL : Hid (∀ wx, Below q w wx → RLogAt wx (gL :: F) g gL m ∧ gL < wx.heap.size ∧ ButC [g, gL] w wx) := fun wx h => ⟨(hLG.out.below (by rw [hq]; exact h)).grow (.inl hFL), by have := h.size; omega, ButC.of_below _ (by rw [hq]; exact h)⟩
  by_cases hP : recP r ds
  · have HP := Lib.hid hP
    have e0 : (chkR r ds != 0) = false := by rw [chkR_0 hP]; rfl
    obtain ⟨⟨s1, s2⟩, ⟨s3, s4⟩, s5, s6⟩ := okV_range hP.2.1
    have hds8 : ds.length ≤ 8 := by rw [hP.2.2.1]; exact pl_length _
    clear hP
    go_upto_region 3 with (first
      | refine wpList_load_row rfl 60 _ rfl q rfl 60 (rcA r d) (0, 0) _ KK.out.hd Tryz.underlying60 rfl (by kernel_rfl) ?_
      | (go_at_call 71; refine (C0 _ (by rw [hq]; exact KK.out.b)).mono ?_; rintro e w2 ⟨rfl, d2⟩; have KK := Lib.hid (KK.out.below d2); clear d2))
    clear e0 C0
    go_upto_region 4 with (first | (go_at_call 28; refine (HKN _ (hLG.out.below (by rw [hq]; exact KK.out.b)) KK.out.le).mono ?_; rintro e w3 ⟨dk, rfl, hS, hfk, hk8, dn⟩; have KK := Lib.hid (KK.out.below dn); have HS := Lib.hid hS; clear hS hfk dn))
    have HW3 := Lib.hid KK.out.b
    have hz3 := KK.out.le
    have KK : Hid (Kn w3.heap.size w3 [(q, rcO r d), (g, rlogO m.most b a m.clock)] w3) := ⟨KK.out.at_, Below.refl _ _, Nat.le_refl _⟩
    have HA1 := fun wx hb => rat_any dk.a dk.n dk.c m.ks r.st.site wx ((HS.out.below (w' := wx) hb).r) HS.out.nc HS.out.cb
    have HA2 := rcovers_any dk.a d.a dk.n dk.c d.n d.c m.ks ds w3 HS.out.r (HX.out.sl.below (by rw [hq]; exact HW3.out)).r HS.out.nc HS.out.cb HX.out.sl.nc HX.out.sl.cb
    have har := atV_range m.ks r.st.site
    generalize hAA : atV m.ks r.st.site = A at *
    have hwr : IntKind.i64.wrap (A + 1) = A + 1 := by rw [IntKind.wrap_i64]; omega
    generalize hBB : covV m.ks ds = B at *
    have c8 := (rc_cells KK.out.hd rfl).c8
    go_upto_region 5 with (first | (go_at_call 92; refine HA2.mono ?_; rintro e w4 ⟨rfl, dn⟩; have KK := Lib.hid (KK.out.below dn); clear dn))
    clear c8 HA2
    by_cases hs : r.st.seq = A + 1
    · have e1 : (r.st.seq != A + 1) = false := bne_eq_false_iff_eq.2 hs
      cases B
      · have HV := Lib.hid (HV.out.trans (show addM m (r, ds) = (m, 17) by unfold addM; rw [if_neg (by simpa using HP.out), if_pos (.inr hBB)]))
        clear hs
        refine wp_region_held_drew (S := (fun wx => wx.cell? ⟨q, 6, none⟩ = some (.int .i64 r.st.site) ∧ wx.cell? ⟨q, 7, none⟩ = some (.int .i64 r.st.seq))) (by kernel_rfl) ?_ (fun hHeld => ?_)
        focus ((try dsimp only); (try (exact (have h := radd_held (q := q) (g := g) (r := r) (d := d) (mo := m.most) (b := b) (a := a) (ck := m.clock) KK.out (by simp) (by simp) (by rfl); ⟨h.1, h.2.1⟩))); done)
        (refine wpAnyH_take (i := 0) (oi := ⟨some 16, Go.Op.move (.tmp 6), 4, _, _, none⟩) (v := ?_) rfl (by kernel_rfl) (by kernel_rfl) (by kernel_rfl) (fun _ _ _ h => h) (Or.inl ⟨by rfl, ?_⟩) (by assumption) ?_; rotate_left; (focus (intro w hSw; ((try dsimp only at hSw); go_simp; try with_reducible rfl))); (try simp only [Act.put, sA, sZ, sS]))
        (refine wpAnyH_take (i := 1) (oi := ⟨some 17, Go.Op.unOp Go.UnOp.not 4 (.tmp 16), 4, _, _, none⟩) (v := ?_) rfl (by kernel_rfl) (by kernel_rfl) (by kernel_rfl) (fun _ _ _ h => h) (Or.inl ⟨by rfl, ?_⟩) (by assumption) ?_; rotate_left; (focus (intro w hSw; ((try dsimp only at hSw); go_simp; try with_reducible rfl))); (try simp only [Act.put, sA, sZ, sS]))
        (refine wpAnyH_take (i := 2) (oi := ⟨some 18, Go.Op.move (.tmp 17), 4, _, _, none⟩) (v := ?_) rfl (by kernel_rfl) (by kernel_rfl) (by kernel_rfl) (fun _ _ _ h => h) (Or.inl ⟨by rfl, ?_⟩) (by assumption) ?_; rotate_left; (focus (intro w hSw; ((try dsimp only at hSw); go_simp; try with_reducible rfl))); (try simp only [Act.put, sA, sZ, sS]))
        (first | (refine wpAnyH_take (i := 3) (oi := ⟨some 19, Go.Op.fieldAddr 60 (.tmp 3) 5, 0, _, _, some (2, false)⟩) (v := undef) rfl (by kernel_rfl) (by kernel_rfl) (by kernel_rfl) (fun _ _ _ h => h) (Or.inr ⟨by rfl, rfl⟩) (by assumption) ?_; (try simp only [Act.put, sA, sZ, sS])) | (refine wpAnyH_take (i := 3) (oi := ⟨some 19, Go.Op.fieldAddr 60 (.tmp 3) 5, 0, _, _, some (2, false)⟩) (v := ?_) rfl (by kernel_rfl) (by kernel_rfl) (by kernel_rfl) (fun _ _ _ h => h) (Or.inl ⟨by rfl, ?_⟩) (by assumption) ?_; rotate_left; (focus (intro w hSw; ((try dsimp only at hSw); go_simp; try with_reducible rfl))); (try simp only [Act.put, sA, sZ, sS])))
        (first | (refine wpAnyH_take (i := 4) (oi := ⟨some 20, Go.Op.fieldAddr 58 (.tmp 19) 2, 0, _, _, some (2, false)⟩) (v := undef) rfl (by kernel_rfl) (by kernel_rfl) (by kernel_rfl) (fun _ _ _ h => h) (Or.inr ⟨by rfl, rfl⟩) (by assumption) ?_; (try simp only [Act.put, sA, sZ, sS])) | (refine wpAnyH_take (i := 4) (oi := ⟨some 20, Go.Op.fieldAddr 58 (.tmp 19) 2, 0, _, _, some (2, false)⟩) (v := ?_) rfl (by kernel_rfl) (by kernel_rfl) (by kernel_rfl) (fun _ _ _ h => h) (Or.inl ⟨by rfl, ?_⟩) (by assumption) ?_; rotate_left; (focus (intro w hSw; ((try dsimp only at hSw); go_simp; try with_reducible rfl))); (try simp only [Act.put, sA, sZ, sS])))
        (first | (refine wpAnyH_take (i := 5) (oi := ⟨some 21, Go.Op.load 3 (.tmp 20), 3, _, _, some (2, false)⟩) (v := undef) rfl (by kernel_rfl) (by kernel_rfl) (by kernel_rfl) (fun _ _ _ h => h) (Or.inr ⟨by rfl, rfl⟩) (by assumption) ?_; (try simp only [Act.put, sA, sZ, sS])) | (refine wpAnyH_take (i := 5) (oi := ⟨some 21, Go.Op.load 3 (.tmp 20), 3, _, _, some (2, false)⟩) (v := ?_) rfl (by kernel_rfl) (by kernel_rfl) (by kernel_rfl) (fun _ _ _ h => h) (Or.inl ⟨by rfl, ?_⟩) (by assumption) ?_; rotate_left; (focus (intro w hSw; ((try dsimp only at hSw); go_simp; try with_reducible rfl))); (try simp only [Act.put, sA, sZ, sS])))
        (first | (refine wpAnyH_take (i := 6) (oi := ⟨some 22, Go.Op.move (.tmp 5), 23, _, _, some (2, false)⟩) (v := undef) rfl (by kernel_rfl) (by kernel_rfl) (by kernel_rfl) (fun _ _ _ h => h) (Or.inr ⟨by rfl, rfl⟩) (by assumption) ?_; (try simp only [Act.put, sA, sZ, sS])) | (refine wpAnyH_take (i := 6) (oi := ⟨some 22, Go.Op.move (.tmp 5), 23, _, _, some (2, false)⟩) (v := ?_) rfl (by kernel_rfl) (by kernel_rfl) (by kernel_rfl) (fun _ _ _ h => h) (Or.inl ⟨by rfl, ?_⟩) (by assumption) ?_; rotate_left; (focus (intro w hSw; ((try dsimp only at hSw); go_simp; try with_reducible rfl))); (try simp only [Act.put, sA, sZ, sS])))
        (first | (refine wpAnyH_take (i := 7) (oi := ⟨some 23, Go.Op.fieldAddr 60 (.tmp 3) 5, 0, _, _, some (2, false)⟩) (v := undef) rfl (by kernel_rfl) (by kernel_rfl) (by kernel_rfl) (fun _ _ _ h => h) (Or.inr ⟨by rfl, rfl⟩) (by assumption) ?_; (try simp only [Act.put, sA, sZ, sS])) | (refine wpAnyH_take (i := 7) (oi := ⟨some 23, Go.Op.fieldAddr 60 (.tmp 3) 5, 0, _, _, some (2, false)⟩) (v := ?_) rfl (by kernel_rfl) (by kernel_rfl) (by kernel_rfl) (fun _ _ _ h => h) (Or.inl ⟨by rfl, ?_⟩) (by assumption) ?_; rotate_left; (focus (intro w hSw; ((try dsimp only at hSw); go_simp; try with_reducible rfl))); (try simp only [Act.put, sA, sZ, sS])))
        (first | (refine wpAnyH_take (i := 8) (oi := ⟨some 24, Go.Op.fieldAddr 58 (.tmp 23) 1, 0, _, _, some (2, false)⟩) (v := undef) rfl (by kernel_rfl) (by kernel_rfl) (by kernel_rfl) (fun _ _ _ h => h) (Or.inr ⟨by rfl, rfl⟩) (by assumption) ?_; (try simp only [Act.put, sA, sZ, sS])) | (refine wpAnyH_take (i := 8) (oi := ⟨some 24, Go.Op.fieldAddr 58 (.tmp 23) 1, 0, _, _, some (2, false)⟩) (v := ?_) rfl (by kernel_rfl) (by kernel_rfl) (by kernel_rfl) (fun _ _ _ h => h) (Or.inl ⟨by rfl, ?_⟩) (by assumption) ?_; rotate_left; (focus (intro w hSw; ((try dsimp only at hSw); go_simp; try with_reducible rfl))); (try simp only [Act.put, sA, sZ, sS])))
        (first | (refine wpAnyH_take (i := 9) (oi := ⟨some 25, Go.Op.load 3 (.tmp 24), 3, _, _, some (2, false)⟩) (v := undef) rfl (by kernel_rfl) (by kernel_rfl) (by kernel_rfl) (fun _ _ _ h => h) (Or.inr ⟨by rfl, rfl⟩) (by assumption) ?_; (try simp only [Act.put, sA, sZ, sS])) | (refine wpAnyH_take (i := 9) (oi := ⟨some 25, Go.Op.load 3 (.tmp 24), 3, _, _, some (2, false)⟩) (v := ?_) rfl (by kernel_rfl) (by kernel_rfl) (by kernel_rfl) (fun _ _ _ h => h) (Or.inl ⟨by rfl, ?_⟩) (by assumption) ?_; rotate_left; (focus (intro w hSw; ((try dsimp only at hSw); go_simp; try with_reducible rfl))); (try simp only [Act.put, sA, sZ, sS])))
        (first | (refine wpAnyH_take (i := 10) (oi := ⟨some 26, Go.Op.call { callee := Go.Callee.value (.func 29), args := #[.tmp 22, .tmp 25], argTypes := #[23, 3] }, 3, _, _, some (2, false)⟩) (v := undef) rfl (by kernel_rfl) (by kernel_rfl) (by kernel_rfl) (fun _ _ _ h => h) (Or.inr ⟨by rfl, rfl⟩) (by assumption) ?_; (try simp only [Act.put, sA, sZ, sS])) | (refine wpAnyH_ready (rs := [10]) (by kernel_rfl) (by simp) ?_; refine AllReadyH.cons (o := ⟨some 26, Go.Op.call { callee := Go.Callee.value (.func 29), args := #[.tmp 22, .tmp 25], argTypes := #[23, 3] }, 3, _, _, some (2, false)⟩) rfl (fun K hK => ?_) AllReadyH.nil; go_simp; ((first | (go_at_call 29; refine (HA1 _ (Kn.same KK.out (by rfl) (by rfl) (by rfl) (by rfl)).b).mono ?_; rintro e wn ⟨rfl, dn⟩; have KK := Lib.hid (Kn.later KK.out dn rfl rfl rfl rfl)))); go_wp2_with fail; refine hK.out _ _ ?_ (fun hHeld => ?_); (focus ((try dsimp only); (try (exact (have h := radd_held (q := q) (g := g) (r := r) (d := d) (mo := m.most) (b := b) (a := a) (ck := m.clock) KK.out (by simp) (by simp) (by rfl); ⟨h.1, h.2.1⟩))); done)); clear hK; (try simp only [Act.put, sA, sZ, sS])))
        (first | (refine wpAnyH_take (i := 11) (oi := ⟨some 27, Go.Op.binOp Go.BinOp.add 3 (.tmp 26) (.const (Go.Value.int Go.IntKind.i64 1)) 3, 3, _, _, some (2, false)⟩) (v := undef) rfl (by kernel_rfl) (by kernel_rfl) (by kernel_rfl) (fun _ _ _ h => h) (Or.inr ⟨by rfl, rfl⟩) (by assumption) ?_; (try simp only [Act.put, sA, sZ, sS])) | (refine wpAnyH_take (i := 11) (oi := ⟨some 27, Go.Op.binOp Go.BinOp.add 3 (.tmp 26) (.const (Go.Value.int Go.IntKind.i64 1)) 3, 3, _, _, some (2, false)⟩) (v := ?_) rfl (by kernel_rfl) (by kernel_rfl) (by kernel_rfl) (fun _ _ _ h => h) (Or.inl ⟨by rfl, ?_⟩) (by assumption) ?_; rotate_left; (focus (intro w hSw; ((try dsimp only at hSw); go_simp; try with_reducible rfl))); (try simp only [Act.put, sA, sZ, sS])))
        (first | (refine wpAnyH_take (i := 12) (oi := ⟨some 28, Go.Op.binOp Go.BinOp.neq 3 (.tmp 21) (.tmp 27) 3, 4, _, _, some (2, false)⟩) (v := undef) rfl (by kernel_rfl) (by kernel_rfl) (by kernel_rfl) (fun _ _ _ h => h) (Or.inr ⟨by rfl, rfl⟩) (by assumption) ?_; (try simp only [Act.put, sA, sZ, sS])) | (refine wpAnyH_take (i := 12) (oi := ⟨some 28, Go.Op.binOp Go.BinOp.neq 3 (.tmp 21) (.tmp 27) 3, 4, _, _, some (2, false)⟩) (v := ?_) rfl (by kernel_rfl) (by kernel_rfl) (by kernel_rfl) (fun _ _ _ h => h) (Or.inl ⟨by rfl, ?_⟩) (by assumption) ?_; rotate_left; (focus (intro w hSw; ((try dsimp only at hSw); go_simp; try with_reducible rfl))); (try simp only [Act.put, sA, sZ, sS])))
        (refine wpAnyH_take (i := 13) (oi := ⟨some 29, Go.Op.pick (.tmp 18) (.const (Go.Value.bool true)) (.tmp 28), 4, _, _, none⟩) (v := ?_) rfl (by kernel_rfl) (by kernel_rfl) (by kernel_rfl) (fun _ _ _ h => h) (Or.inl ⟨by rfl, ?_⟩) (by assumption) ?_; rotate_left; (focus (intro w hSw; ((try dsimp only at hSw); go_simp; try with_reducible rfl))); (try simp only [Act.put, sA, sZ, sS]))
        refine wpAnyH_done (by kernel_rfl) ?_ _
        go_wp2_with fail
        go_ret
        rw [HV.out]
        refine ⟨gL, rfl, (GL.out _ ?hb1).1, .inl rfl, (GL.out _ ?hb1).2.1, (GL.out _ ?hb1).2.2⟩
        all_goals exact below_then HW3.out hz3 (Kn.same KK.out (by rfl) (by rfl) (by rfl) (by rfl)).b
      · have HS := Lib.hid hs
        clear hs
        refine wp_region_held_drew (S := (fun wx => wx.cell? ⟨q, 6, none⟩ = some (.int .i64 r.st.site) ∧ wx.cell? ⟨q, 7, none⟩ = some (.int .i64 r.st.seq))) (by kernel_rfl) ?_ (fun hHeld => ?_)
        focus ((try dsimp only); (try (exact (have h := radd_held (q := q) (g := g) (r := r) (d := d) (mo := m.most) (b := b) (a := a) (ck := m.clock) KK.out (by simp) (by simp) (by rfl); ⟨h.1, h.2.1⟩))); done)
        (refine wpAnyH_take (i := 0) (oi := ⟨some 16, Go.Op.move (.tmp 6), 4, _, _, none⟩) (v := ?_) rfl (by kernel_rfl) (by kernel_rfl) (by kernel_rfl) (fun _ _ _ h => h) (Or.inl ⟨by rfl, ?_⟩) (by assumption) ?_; rotate_left; (focus (intro w hSw; ((try dsimp only at hSw); go_simp; try with_reducible rfl))); (try simp only [Act.put, sA, sZ, sS]))
        (refine wpAnyH_take (i := 1) (oi := ⟨some 17, Go.Op.unOp Go.UnOp.not 4 (.tmp 16), 4, _, _, none⟩) (v := ?_) rfl (by kernel_rfl) (by kernel_rfl) (by kernel_rfl) (fun _ _ _ h => h) (Or.inl ⟨by rfl, ?_⟩) (by assumption) ?_; rotate_left; (focus (intro w hSw; ((try dsimp only at hSw); go_simp; try with_reducible rfl))); (try simp only [Act.put, sA, sZ, sS]))
        (refine wpAnyH_take (i := 2) (oi := ⟨some 18, Go.Op.move (.tmp 17), 4, _, _, none⟩) (v := ?_) rfl (by kernel_rfl) (by kernel_rfl) (by kernel_rfl) (fun _ _ _ h => h) (Or.inl ⟨by rfl, ?_⟩) (by assumption) ?_; rotate_left; (focus (intro w hSw; ((try dsimp only at hSw); go_simp; try with_reducible rfl))); (try simp only [Act.put, sA, sZ, sS]))
        (first | (refine wpAnyH_take (i := 3) (oi := ⟨some 19, Go.Op.fieldAddr 60 (.tmp 3) 5, 0, _, _, some (2, false)⟩) (v := undef) rfl (by kernel_rfl) (by kernel_rfl) (by kernel_rfl) (fun _ _ _ h => h) (Or.inr ⟨by rfl, rfl⟩) (by assumption) ?_; (try simp only [Act.put, sA, sZ, sS])) | (refine wpAnyH_take (i := 3) (oi := ⟨some 19, Go.Op.fieldAddr 60 (.tmp 3) 5, 0, _, _, some (2, false)⟩) (v := ?_) rfl (by kernel_rfl) (by kernel_rfl) (by kernel_rfl) (fun _ _ _ h => h) (Or.inl ⟨by rfl, ?_⟩) (by assumption) ?_; rotate_left; (focus (intro w hSw; ((try dsimp only at hSw); go_simp; try with_reducible rfl))); (try simp only [Act.put, sA, sZ, sS])))
        (first | (refine wpAnyH_take (i := 4) (oi := ⟨some 20, Go.Op.fieldAddr 58 (.tmp 19) 2, 0, _, _, some (2, false)⟩) (v := undef) rfl (by kernel_rfl) (by kernel_rfl) (by kernel_rfl) (fun _ _ _ h => h) (Or.inr ⟨by rfl, rfl⟩) (by assumption) ?_; (try simp only [Act.put, sA, sZ, sS])) | (refine wpAnyH_take (i := 4) (oi := ⟨some 20, Go.Op.fieldAddr 58 (.tmp 19) 2, 0, _, _, some (2, false)⟩) (v := ?_) rfl (by kernel_rfl) (by kernel_rfl) (by kernel_rfl) (fun _ _ _ h => h) (Or.inl ⟨by rfl, ?_⟩) (by assumption) ?_; rotate_left; (focus (intro w hSw; ((try dsimp only at hSw); go_simp; try with_reducible rfl))); (try simp only [Act.put, sA, sZ, sS])))
        (first | (refine wpAnyH_take (i := 5) (oi := ⟨some 21, Go.Op.load 3 (.tmp 20), 3, _, _, some (2, false)⟩) (v := undef) rfl (by kernel_rfl) (by kernel_rfl) (by kernel_rfl) (fun _ _ _ h => h) (Or.inr ⟨by rfl, rfl⟩) (by assumption) ?_; (try simp only [Act.put, sA, sZ, sS])) | (refine wpAnyH_take (i := 5) (oi := ⟨some 21, Go.Op.load 3 (.tmp 20), 3, _, _, some (2, false)⟩) (v := ?_) rfl (by kernel_rfl) (by kernel_rfl) (by kernel_rfl) (fun _ _ _ h => h) (Or.inl ⟨by rfl, ?_⟩) (by assumption) ?_; rotate_left; (focus (intro w hSw; ((try dsimp only at hSw); go_simp; try with_reducible rfl))); (try simp only [Act.put, sA, sZ, sS])))
        (first | (refine wpAnyH_take (i := 6) (oi := ⟨some 22, Go.Op.move (.tmp 5), 23, _, _, some (2, false)⟩) (v := undef) rfl (by kernel_rfl) (by kernel_rfl) (by kernel_rfl) (fun _ _ _ h => h) (Or.inr ⟨by rfl, rfl⟩) (by assumption) ?_; (try simp only [Act.put, sA, sZ, sS])) | (refine wpAnyH_take (i := 6) (oi := ⟨some 22, Go.Op.move (.tmp 5), 23, _, _, some (2, false)⟩) (v := ?_) rfl (by kernel_rfl) (by kernel_rfl) (by kernel_rfl) (fun _ _ _ h => h) (Or.inl ⟨by rfl, ?_⟩) (by assumption) ?_; rotate_left; (focus (intro w hSw; ((try dsimp only at hSw); go_simp; try with_reducible rfl))); (try simp only [Act.put, sA, sZ, sS])))
        (first | (refine wpAnyH_take (i := 7) (oi := ⟨some 23, Go.Op.fieldAddr 60 (.tmp 3) 5, 0, _, _, some (2, false)⟩) (v := undef) rfl (by kernel_rfl) (by kernel_rfl) (by kernel_rfl) (fun _ _ _ h => h) (Or.inr ⟨by rfl, rfl⟩) (by assumption) ?_; (try simp only [Act.put, sA, sZ, sS])) | (refine wpAnyH_take (i := 7) (oi := ⟨some 23, Go.Op.fieldAddr 60 (.tmp 3) 5, 0, _, _, some (2, false)⟩) (v := ?_) rfl (by kernel_rfl) (by kernel_rfl) (by kernel_rfl) (fun _ _ _ h => h) (Or.inl ⟨by rfl, ?_⟩) (by assumption) ?_; rotate_left; (focus (intro w hSw; ((try dsimp only at hSw); go_simp; try with_reducible rfl))); (try simp only [Act.put, sA, sZ, sS])))
        (first | (refine wpAnyH_take (i := 8) (oi := ⟨some 24, Go.Op.fieldAddr 58 (.tmp 23) 1, 0, _, _, some (2, false)⟩) (v := undef) rfl (by kernel_rfl) (by kernel_rfl) (by kernel_rfl) (fun _ _ _ h => h) (Or.inr ⟨by rfl, rfl⟩) (by assumption) ?_; (try simp only [Act.put, sA, sZ, sS])) | (refine wpAnyH_take (i := 8) (oi := ⟨some 24, Go.Op.fieldAddr 58 (.tmp 23) 1, 0, _, _, some (2, false)⟩) (v := ?_) rfl (by kernel_rfl) (by kernel_rfl) (by kernel_rfl) (fun _ _ _ h => h) (Or.inl ⟨by rfl, ?_⟩) (by assumption) ?_; rotate_left; (focus (intro w hSw; ((try dsimp only at hSw); go_simp; try with_reducible rfl))); (try simp only [Act.put, sA, sZ, sS])))
        (first | (refine wpAnyH_take (i := 9) (oi := ⟨some 25, Go.Op.load 3 (.tmp 24), 3, _, _, some (2, false)⟩) (v := undef) rfl (by kernel_rfl) (by kernel_rfl) (by kernel_rfl) (fun _ _ _ h => h) (Or.inr ⟨by rfl, rfl⟩) (by assumption) ?_; (try simp only [Act.put, sA, sZ, sS])) | (refine wpAnyH_take (i := 9) (oi := ⟨some 25, Go.Op.load 3 (.tmp 24), 3, _, _, some (2, false)⟩) (v := ?_) rfl (by kernel_rfl) (by kernel_rfl) (by kernel_rfl) (fun _ _ _ h => h) (Or.inl ⟨by rfl, ?_⟩) (by assumption) ?_; rotate_left; (focus (intro w hSw; ((try dsimp only at hSw); go_simp; try with_reducible rfl))); (try simp only [Act.put, sA, sZ, sS])))
        (first | (refine wpAnyH_take (i := 10) (oi := ⟨some 26, Go.Op.call { callee := Go.Callee.value (.func 29), args := #[.tmp 22, .tmp 25], argTypes := #[23, 3] }, 3, _, _, some (2, false)⟩) (v := undef) rfl (by kernel_rfl) (by kernel_rfl) (by kernel_rfl) (fun _ _ _ h => h) (Or.inr ⟨by rfl, rfl⟩) (by assumption) ?_; (try simp only [Act.put, sA, sZ, sS])) | (refine wpAnyH_ready (rs := [10]) (by kernel_rfl) (by simp) ?_; refine AllReadyH.cons (o := ⟨some 26, Go.Op.call { callee := Go.Callee.value (.func 29), args := #[.tmp 22, .tmp 25], argTypes := #[23, 3] }, 3, _, _, some (2, false)⟩) rfl (fun K hK => ?_) AllReadyH.nil; go_simp; ((first | (go_at_call 29; refine (HA1 _ (Kn.same KK.out (by rfl) (by rfl) (by rfl) (by rfl)).b).mono ?_; rintro e wn ⟨rfl, dn⟩; have KK := Lib.hid (Kn.later KK.out dn rfl rfl rfl rfl)))); go_wp2_with fail; refine hK.out _ _ ?_ (fun hHeld => ?_); (focus ((try dsimp only); (try (exact (have h := radd_held (q := q) (g := g) (r := r) (d := d) (mo := m.most) (b := b) (a := a) (ck := m.clock) KK.out (by simp) (by simp) (by rfl); ⟨h.1, h.2.1⟩))); done)); clear hK; (try simp only [Act.put, sA, sZ, sS])))
        (first | (refine wpAnyH_take (i := 11) (oi := ⟨some 27, Go.Op.binOp Go.BinOp.add 3 (.tmp 26) (.const (Go.Value.int Go.IntKind.i64 1)) 3, 3, _, _, some (2, false)⟩) (v := undef) rfl (by kernel_rfl) (by kernel_rfl) (by kernel_rfl) (fun _ _ _ h => h) (Or.inr ⟨by rfl, rfl⟩) (by assumption) ?_; (try simp only [Act.put, sA, sZ, sS])) | (refine wpAnyH_take (i := 11) (oi := ⟨some 27, Go.Op.binOp Go.BinOp.add 3 (.tmp 26) (.const (Go.Value.int Go.IntKind.i64 1)) 3, 3, _, _, some (2, false)⟩) (v := ?_) rfl (by kernel_rfl) (by kernel_rfl) (by kernel_rfl) (fun _ _ _ h => h) (Or.inl ⟨by rfl, ?_⟩) (by assumption) ?_; rotate_left; (focus (intro w hSw; ((try dsimp only at hSw); go_simp; try with_reducible rfl))); (try simp only [Act.put, sA, sZ, sS])))
        (first | (refine wpAnyH_take (i := 12) (oi := ⟨some 28, Go.Op.binOp Go.BinOp.neq 3 (.tmp 21) (.tmp 27) 3, 4, _, _, some (2, false)⟩) (v := undef) rfl (by kernel_rfl) (by kernel_rfl) (by kernel_rfl) (fun _ _ _ h => h) (Or.inr ⟨by rfl, rfl⟩) (by assumption) ?_; (try simp only [Act.put, sA, sZ, sS])) | (refine wpAnyH_take (i := 12) (oi := ⟨some 28, Go.Op.binOp Go.BinOp.neq 3 (.tmp 21) (.tmp 27) 3, 4, _, _, some (2, false)⟩) (v := ?_) rfl (by kernel_rfl) (by kernel_rfl) (by kernel_rfl) (fun _ _ _ h => h) (Or.inl ⟨by rfl, ?_⟩) (by assumption) ?_; rotate_left; (focus (intro w hSw; ((try dsimp only at hSw); go_simp; try with_reducible rfl))); (try simp only [Act.put, sA, sZ, sS])))
        (refine wpAnyH_take (i := 13) (oi := ⟨some 29, Go.Op.pick (.tmp 18) (.const (Go.Value.bool true)) (.tmp 28), 4, _, _, none⟩) (v := ?_) rfl (by kernel_rfl) (by kernel_rfl) (by kernel_rfl) (fun _ _ _ h => h) (Or.inl ⟨by rfl, ?_⟩) (by assumption) ?_; rotate_left; (focus (intro w hSw; ((try dsimp only at hSw); go_simp; try with_reducible rfl))); (try simp only [Act.put, sA, sZ, sS]))
        refine wpAnyH_done (by kernel_rfl) ?_ _
        clear HA1 e1
        go_upto_region 7 with fail
        go_cut [39] (fun v wx => ∃ B, v = .bool B ∧ B = decide (m.most ≤ (a.n : Int)) ∧ Kn w3.heap.size w3 [(q, rcO r d), (g, rlogO m.most b a m.clock)] wx)
        case first =>
          obtain ⟨B7, e2⟩ : ∃ B, decide (m.most ≤ (a.n : Int)) = B := ⟨_, rfl⟩
          have e2' : decide ((a.n : Int) ≥ m.most) = B7 := e2
          refine wp_region_held_drew (S := (fun wx => wx.cell? ⟨g, 2, none⟩ = some (.slice a.a a.n a.c) ∧ wx.cell? ⟨g, 0, none⟩ = some (.int .i64 m.most))) (by kernel_rfl) ?_ (fun hHeld => ?_)
          focus ((try dsimp only); (try (exact (have h := radd_held (q := q) (g := g) (r := r) (d := d) (mo := m.most) (b := b) (a := a) (ck := m.clock) KK.out (by simp) (by simp) (by rfl); ⟨h.2.2.2.2.1, h.2.2.2.2.2⟩))); done)
          (refine wpAnyH_take (i := 0) (oi := ⟨some 30, Go.Op.move (.tmp 0), 26, _, _, none⟩) (v := ?_) rfl (by kernel_rfl) (by kernel_rfl) (by kernel_rfl) (fun _ _ _ h => h) (Or.inl ⟨by rfl, ?_⟩) (by assumption) ?_; rotate_left; (focus (intro w hSw; ((try dsimp only at hSw); go_simp; try with_reducible rfl))); (try simp only [Act.put, sA, sZ, sS]))
          (refine wpAnyH_take (i := 1) (oi := ⟨some 31, Go.Op.nilCheck (.tmp 30), 0, _, _, none⟩) (v := ?_) rfl (by kernel_rfl) (by kernel_rfl) (by kernel_rfl) (fun _ _ _ h => h) (Or.inl ⟨by rfl, ?_⟩) (by assumption) ?_; rotate_left; (focus (intro w hSw; ((try dsimp only at hSw); go_simp; try with_reducible rfl))); (try simp only [Act.put, sA, sZ, sS]))
          (refine wpAnyH_take (i := 2) (oi := ⟨some 32, Go.Op.fieldAddr 119 (.tmp 31) 2, 0, _, _, none⟩) (v := ?_) rfl (by kernel_rfl) (by kernel_rfl) (by kernel_rfl) (fun _ _ _ h => h) (Or.inl ⟨by rfl, ?_⟩) (by assumption) ?_; rotate_left; (focus (intro w hSw; ((try dsimp only at hSw); go_simp; try with_reducible rfl))); (try simp only [Act.put, sA, sZ, sS]))
          (refine wpAnyH_take (i := 3) (oi := ⟨some 33, Go.Op.load 22 (.tmp 32), 22, _, _, none⟩) (v := ?_) rfl (by kernel_rfl) (by kernel_rfl) (by kernel_rfl) (fun _ _ _ h => h) (Or.inl ⟨by rfl, ?_⟩) (by assumption) ?_; rotate_left; (focus (intro w hSw; ((try dsimp only at hSw); go_simp; try with_reducible rfl))); (try simp only [Act.put, sA, sZ, sS]))
          (refine wpAnyH_take (i := 4) (oi := ⟨some 34, Go.Op.call { callee := Go.Callee.builtin Go.Builtin.len, args := #[.tmp 33], argTypes := #[22] }, 3, _, _, none⟩) (v := ?_) rfl (by kernel_rfl) (by kernel_rfl) (by kernel_rfl) (fun _ _ _ h => h) (Or.inl ⟨by rfl, ?_⟩) (by assumption) ?_; rotate_left; (focus (intro w hSw; ((try dsimp only at hSw); go_simp; try with_reducible rfl))); (try simp only [Act.put, sA, sZ, sS]))
          (refine wpAnyH_take (i := 5) (oi := ⟨some 35, Go.Op.move (.tmp 0), 26, _, _, none⟩) (v := ?_) rfl (by kernel_rfl) (by kernel_rfl) (by kernel_rfl) (fun _ _ _ h => h) (Or.inl ⟨by rfl, ?_⟩) (by assumption) ?_; rotate_left; (focus (intro w hSw; ((try dsimp only at hSw); go_simp; try with_reducible rfl))); (try simp only [Act.put, sA, sZ, sS]))
          (refine wpAnyH_take (i := 6) (oi := ⟨some 36, Go.Op.nilCheck (.tmp 35), 0, _, _, none⟩) (v := ?_) rfl (by kernel_rfl) (by kernel_rfl) (by kernel_rfl) (fun _ _ _ h => h) (Or.inl ⟨by rfl, ?_⟩) (by assumption) ?_; rotate_left; (focus (intro w hSw; ((try dsimp only at hSw); go_simp; try with_reducible rfl))); (try simp only [Act.put, sA, sZ, sS]))
          (refine wpAnyH_take (i := 7) (oi := ⟨some 37, Go.Op.fieldAddr 119 (.tmp 36) 0, 0, _, _, none⟩) (v := ?_) rfl (by kernel_rfl) (by kernel_rfl) (by kernel_rfl) (fun _ _ _ h => h) (Or.inl ⟨by rfl, ?_⟩) (by assumption) ?_; rotate_left; (focus (intro w hSw; ((try dsimp only at hSw); go_simp; try with_reducible rfl))); (try simp only [Act.put, sA, sZ, sS]))
          (refine wpAnyH_take (i := 8) (oi := ⟨some 38, Go.Op.load 3 (.tmp 37), 3, _, _, none⟩) (v := ?_) rfl (by kernel_rfl) (by kernel_rfl) (by kernel_rfl) (fun _ _ _ h => h) (Or.inl ⟨by rfl, ?_⟩) (by assumption) ?_; rotate_left; (focus (intro w hSw; ((try dsimp only at hSw); go_simp; try with_reducible rfl))); (try simp only [Act.put, sA, sZ, sS]))
          (refine wpAnyH_take (i := 9) (oi := ⟨some 39, Go.Op.binOp Go.BinOp.geq 3 (.tmp 34) (.tmp 38) 3, 4, _, _, none⟩) (v := ?_) rfl (by kernel_rfl) (by kernel_rfl) (by kernel_rfl) (fun _ _ _ h => h) (Or.inl ⟨by rfl, ?_⟩) (by assumption) ?_; rotate_left; (focus (intro w hSw; ((try dsimp only at hSw); go_simp; try with_reducible rfl))); (try simp only [Act.put, sA, sZ, sS]))
          refine wpAnyH_done (by kernel_rfl) ?_ _
          go_wp2_with fail
          go_meet
          exact ⟨_, rfl, e2.symm, Kn.same KK.out rfl rfl rfl rfl⟩
        case rest =>
        obtain ⟨B7, rfl, hB7, hk⟩ := hcut
        clear KK
        have KK := Lib.hid hk
        clear hk
        cases B7
        case true =>
          have hfull := of_decide_eq_true hB7.symm
          have HV := Lib.hid (HV.out.trans (show addM m (r, ds) = (m, 15) by unfold addM; rw [if_neg (by simpa using HP.out), if_neg (by simp only; rw [hAA, hBB]; rintro (h | h); exact h HS.out; cases h), if_pos (by rw [hlen]; exact hfull)]))
          clear hfull hlen hB7
          go_wp2_with fail
          go_ret
          rw [HV.out]
          refine ⟨gL, rfl, (GL.out _ ?hb2).1, .inl rfl, (GL.out _ ?hb2).2.1, (GL.out _ ?hb2).2.2⟩
          all_goals exact below_then HW3.out hz3 KK.out.b
        case false =>
          have hfull := of_decide_eq_false hB7.symm
          have HV := Lib.hid (HV.out.trans (show addM m (r, ds) = ({ m with xs := m.xs ++ [(r, ds)], ks := withV m.ks r.st.site r.st.seq, clock := max m.clock r.st.clock }, 0) by unfold addM; rw [if_neg (by simpa using HP.out), if_neg (by simp only; rw [hAA, hBB]; rintro (h | h); exact h HS.out; cases h), if_neg (by rw [hlen]; exact hfull)]))
          have hn400 : a.n < 400 := by have := HC.out.mo.1; omega
          clear hfull hlen hB7
          go_upto_region 9 with fail
          have hC7 := HC.out.below (by rw [hq]; exact below_then HW3.out hz3 KK.out.b)
          have hg7 := KK.out.at_ (g, rlogO m.most b a m.clock) (by simp)
          have hq7 := KK.out.at_ (q, rcO r d) (by simp)
          have hlq : ∀ p, a.a = some p → p.block ≠ q := fun p hp => by have := HC.out.ha.lt p hp; omega
          have hal : ∀ i, i < wc.heap.size → (wc.drew.alloc (rcO r d)).heap[i]? = wc.heap[i]? := fun i hi => Below.heap_alloc wc.drew _ i hi
          obtain ⟨g', o', cap', wA, hrun, hA, hB⟩ := run_append_O rec_ety 22 (wc.drew.alloc (rcO r d)) (hC7.ha.keep (fun p hp => hal p.block (hC7.ha.lt p hp))) wc.heap.size 0 1 ⟨r, d, ds⟩ (by omega) (rec_new1 wc.drew r d ds)
          obtain ⟨hBC, hgA, hqA, hgg, hne⟩ := radd_app hC7 hg7 hq7 hlq hB
          have HS0 : Hid (wc.drew.cell? ⟨g, 2, none⟩ = some (.slice a.a a.n a.c) ∧ wc.drew.heap[q]? = some (.cells #[.int .i64 r.kind, .string r.series, .int .i64 r.time, .int .i64 r.value, .int .i64 r.tier, .int .i64 r.st.clock, .int .i64 r.st.site, .int .i64 r.st.seq, .slice d.a d.n d.c] 60 (0, 0))) := ⟨(rlog_cells (wd := wc.drew) hg7 rfl).2.2.1, hq7⟩
          have HS1 : Hid (∀ wx : World, wx.heap = (wc.drew.alloc (rcO r d)).heap → wx.cell? ⟨g, 2, none⟩ = some (.slice a.a a.n a.c) ∧ wx.heap[q]? = some (.cells #[.int .i64 r.kind, .string r.series, .int .i64 r.time, .int .i64 r.value, .int .i64 r.tier, .int .i64 r.st.clock, .int .i64 r.st.site, .int .i64 r.st.seq, .slice d.a d.n d.c] 60 (0, 0))) := fun wx e => ⟨(rlog_cells (wd := wx) ((hal g (heap_lt hg7)).trans hg7) e).2.2.1, by rw [e]; exact (hal q (heap_lt hq7)).trans hq7⟩
          have HS2 : Hid (wA.cell? ⟨g, 2, none⟩ = some (.slice a.a a.n a.c) ∧ wA.heap[q]? = some (.cells #[.int .i64 r.kind, .string r.series, .int .i64 r.time, .int .i64 r.value, .int .i64 r.tier, .int .i64 r.st.clock, .int .i64 r.st.site, .int .i64 r.st.seq, .slice d.a d.n d.c] 60 (0, 0))) := ⟨(rlog_cells hgA rfl).2.2.1, hqA⟩
          have f3 : wA.frozen? ⟨g, 2, none⟩ = false := by simp only [World.frozen?, hgA, rlogO]; rfl
          have z3 := (rlog_cells hgA rfl).2.2.1
          have HFIN : Hid (wA.heap[g]? = some (rlogO m.most b a m.clock) ∧ wA.heap[q]? = some (rcO r d) ∧ ButC [gL] wc wA ∧ OffE RecA.cs 60 9 wA (some ⟨g', o', none⟩) (a.n + 1) cap' (rs ++ [⟨r, d, ds⟩]) ∧ (g' = gL ∨ wc.heap.size ≤ g') ∧ g' ≠ g) := ⟨hgA, hqA, hBC, hA, hgg, hne⟩
          clear hC7 hg7 hq7 hal hA hB hBC hgA hqA hgg hne
          refine wp_region_T (t := 10) (S := (fun wx => wx.cell? ⟨g, 2, none⟩ = some (.slice a.a a.n a.c) ∧ wx.heap[q]? = some (.cells #[.int .i64 r.kind, .string r.series, .int .i64 r.time, .int .i64 r.value, .int .i64 r.tier, .int .i64 r.st.clock, .int .i64 r.st.site, .int .i64 r.st.seq, .slice d.a d.n d.c] 60 (0, 0)))) (by kernel_rfl) ?_ (fun hHeld => ?_)
          focus ((try dsimp only); (try (first | with_reducible exact HS0.out | with_reducible exact HS2.out | exact HS1.out _ (by rfl))); done)
          (refine wpAnyT_takeP (i := 0) (oi := ⟨some 40, Go.Op.move (.tmp 0), 26, _, _, none⟩) (v := ?_) rfl (by kernel_rfl) (by kernel_rfl) (by kernel_rfl) (by rfl) (fun _ _ _ h => h) (Or.inl ⟨by rfl, ?_⟩) (fun hl => by first | assumption | exact absurd hl (by decide)) ?_; rotate_left; (focus (intro w hSw; ((try dsimp only at hSw); go_simp; try with_reducible rfl))); (try simp only [Act.put, sA, sZ, sS]))
          (refine wpAnyT_takeP (i := 1) (oi := ⟨some 41, Go.Op.move (.tmp 0), 26, _, _, none⟩) (v := ?_) rfl (by kernel_rfl) (by kernel_rfl) (by kernel_rfl) (by rfl) (fun _ _ _ h => h) (Or.inl ⟨by rfl, ?_⟩) (fun hl => by first | assumption | exact absurd hl (by decide)) ?_; rotate_left; (focus (intro w hSw; ((try dsimp only at hSw); go_simp; try with_reducible rfl))); (try simp only [Act.put, sA, sZ, sS]))
          (refine wpAnyT_takeP (i := 2) (oi := ⟨some 42, Go.Op.nilCheck (.tmp 41), 0, _, _, none⟩) (v := ?_) rfl (by kernel_rfl) (by kernel_rfl) (by kernel_rfl) (by rfl) (fun _ _ _ h => h) (Or.inl ⟨by rfl, ?_⟩) (fun hl => by first | assumption | exact absurd hl (by decide)) ?_; rotate_left; (focus (intro w hSw; ((try dsimp only at hSw); go_simp; try with_reducible rfl))); (try simp only [Act.put, sA, sZ, sS]))
          (refine wpAnyT_takeP (i := 3) (oi := ⟨some 43, Go.Op.fieldAddr 119 (.tmp 42) 2, 0, _, _, none⟩) (v := ?_) rfl (by kernel_rfl) (by kernel_rfl) (by kernel_rfl) (by rfl) (fun _ _ _ h => h) (Or.inl ⟨by rfl, ?_⟩) (fun hl => by first | assumption | exact absurd hl (by decide)) ?_; rotate_left; (focus (intro w hSw; ((try dsimp only at hSw); go_simp; try with_reducible rfl))); (try simp only [Act.put, sA, sZ, sS]))
          (refine wpAnyT_take (i := 4) (oi := ⟨some 44, Go.Op.load 22 (.tmp 43), 22, _, _, none⟩) (v := ?_) rfl (by kernel_rfl) (by kernel_rfl) (by kernel_rfl) (by kernel_rfl) (fun _ _ _ h => h) (Or.inl ⟨by rfl, ?_⟩) (by assumption) ?_; rotate_left; (focus (intro w hSw; (first | ((refine Eq.trans (exec_load_row 60 _ (by rfl) q (by rfl) 60 _ (0, 0) _ hSw.2 Tryz.underlying60 rfl (by kernel_rfl)) ?_; with_reducible rfl); done) | ((try dsimp only at hSw); go_simp; try with_reducible rfl)))); (try simp only [Act.put, sA, sZ, sS]))
          (refine wpAnyT_take (i := 5) (oi := ⟨some 45, Go.Op.load 60 (.tmp 3), 60, _, _, none⟩) (v := ?_) rfl (by kernel_rfl) (by kernel_rfl) (by kernel_rfl) (by kernel_rfl) (fun _ _ _ h => h) (Or.inl ⟨by rfl, ?_⟩) (by assumption) ?_; rotate_left; (focus (intro w hSw; (first | ((refine Eq.trans (exec_load_row 60 _ (by rfl) q (by rfl) 60 _ (0, 0) _ hSw.2 Tryz.underlying60 rfl (by kernel_rfl)) ?_; with_reducible rfl); done) | ((try dsimp only at hSw); go_simp; try with_reducible rfl)))); (try simp only [Act.put, sA, sZ, sS]))
          (refine wpAnyT_ready (rs := [6]) (by kernel_rfl) (by simp) ?_; refine AllReadyT.cons (o := ⟨some 46, Go.Op.buildSlice 22 1 #[(0, .tmp 45)], 22, _, _, none⟩) rfl (fun K hK => ?_) AllReadyT.nil; go_simp; refine hK.out _ _ (fun _ _ => ?_) (fun hHeld => ?_); (focus ((try dsimp only); (try (first | with_reducible exact HS0.out | with_reducible exact HS2.out | exact HS1.out _ (by rfl))); done)); (replace hHeld := hHeld (by decide) (by rfl)); clear hK; (try simp only [Act.put, sA, sZ, sS]))
          (refine wpAnyT_ready (rs := [7]) (by kernel_rfl) (by simp) ?_; refine AllReadyT.cons (o := ⟨some 47, Go.Op.call { callee := Go.Callee.builtin Go.Builtin.append, args := #[.tmp 44, .tmp 46], argTypes := #[22, 22] }, 22, _, _, none⟩) rfl (fun K hK => ?_) AllReadyT.nil; (refine wp_append_run _ _ rfl rfl rfl hrun ?_); refine hK.out _ _ (fun _ _ => ?_) (fun hHeld => ?_); (focus ((try dsimp only); (try (first | with_reducible exact HS0.out | with_reducible exact HS2.out | exact HS1.out _ (by rfl))); done)); (replace hHeld := hHeld (by decide) (by rfl)); clear hK; (try simp only [Act.put, sA, sZ, sS]))
          (refine wpAnyT_takeP (i := 8) (oi := ⟨some 48, Go.Op.nilCheck (.tmp 40), 0, _, _, none⟩) (v := ?_) rfl (by kernel_rfl) (by kernel_rfl) (by kernel_rfl) (by rfl) (fun _ _ _ h => h) (Or.inl ⟨by rfl, ?_⟩) (fun hl => by first | assumption | exact absurd hl (by decide)) ?_; rotate_left; (focus (intro w hSw; ((try dsimp only at hSw); go_simp; try with_reducible rfl))); (try simp only [Act.put, sA, sZ, sS]))
          (refine wpAnyT_takeP (i := 9) (oi := ⟨some 49, Go.Op.fieldAddr 119 (.tmp 48) 2, 0, _, _, none⟩) (v := ?_) rfl (by kernel_rfl) (by kernel_rfl) (by kernel_rfl) (by rfl) (fun _ _ _ h => h) (Or.inl ⟨by rfl, ?_⟩) (fun hl => by first | assumption | exact absurd hl (by decide)) ?_; rotate_left; (focus (intro w hSw; ((try dsimp only at hSw); go_simp; try with_reducible rfl))); (try simp only [Act.put, sA, sZ, sS]))
          (refine wpAnyT_ready (rs := [10]) (by kernel_rfl) (by simp) ?_; refine AllReadyT.cons (o := ⟨none, Go.Op.store 22 (.tmp 49) (.tmp 47), 0, _, _, none⟩) rfl (fun K hK => ?_) AllReadyT.nil; go_simp; refine hK.out _ _ (fun hl => absurd rfl hl) (fun hHeld => ?_); clear hHeld; clear hK; (try simp only [Act.put, sA, sZ, sS]))
          refine wpAnyT_done (by kernel_rfl) ?_ _
          skip
          go_upto_region 10 with fail
          generalize hw10 : World.setCell _ _ _ = w10
          have H10 : Hid (w10.heap[g]? = some (rlogO m.most b ⟨some ⟨g', o', none⟩, a.n + 1, cap'⟩ m.clock) ∧ w10.heap[q]? = some (rcO r d) ∧ ButC [g, gL] w w10 ∧ OffE RecA.cs 60 9 w10 (some ⟨g', o', none⟩) (a.n + 1) cap' (rs ++ [⟨r, d, ds⟩]) ∧ (g' = gL ∨ w.heap.size ≤ g') ∧ g' ≠ g) := by
            obtain ⟨k1, k2, k3, k4, k5, k6⟩ := HFIN.out
            have hb1 : ButC [g, gL] w wc := ButC.of_below _ (by rw [hq]; exact below_then HW3.out hz3 KK.out.b)
            have hz1 := hb1.size
            refine ⟨?_, ?_, ?_, ?_, k5.imp_right (fun h => Nat.le_trans hz1 h), k6⟩
            · rw [← hw10]
              exact heap_setCell_same wA g 2 _ 119 _ k1
            · rw [← hw10, Below.heap_setCell _ _ _ _ (by simp only; omega)]
              exact k2
            · rw [← hw10]
              exact hb1.trans ((k3.mono (by simp)).trans (ButC.of_but (g := g) (But.set g 2 wA _) (by simp)))
            · rw [← hw10]
              exact k4.keep (fun p hp => by cases hp; exact Below.heap_setCell _ _ _ _ (by simpa using k6))
          clear hw10 HFIN KK f3 z3 hrun HS0 HS1 HS2
          have KK : Hid (Kn w10.heap.size w10 [(q, rcO r d), (g, rlogO m.most b ⟨some ⟨g', o', none⟩, a.n + 1, cap'⟩ m.clock)] w10) := ⟨by
            intro p hp
            simp only [List.mem_cons, List.not_mem_nil, or_false] at hp
            rcases hp with rfl | rfl
            · exact H10.out.2.1
            · exact H10.out.1, Below.refl _ _, Nat.le_refl _⟩
          go_cut [57] (fun v wx => ∃ B, v = .bool B ∧ B = decide (r.st.clock > m.clock) ∧ Kn w10.heap.size w10 [(q, rcO r d), (g, rlogO m.most b ⟨some ⟨g', o', none⟩, a.n + 1, cap'⟩ m.clock)] wx)
          case first =>
            obtain ⟨B8, e2⟩ : ∃ B, decide (r.st.clock > m.clock) = B := ⟨_, rfl⟩
            refine wp_region_held_drew (S := (fun wx => wx.cell? ⟨q, 5, none⟩ = some (.int .i64 r.st.clock) ∧ wx.cell? ⟨g, 3, none⟩ = some (.int .i64 m.clock))) (by kernel_rfl) ?_ (fun hHeld => ?_)
            focus ((try dsimp only); (try (exact (have h := radd_held (q := q) (g := g) (r := r) (d := d) (mo := m.most) (b := b) (a := ⟨some ⟨g', o', none⟩, a.n + 1, cap'⟩) (ck := m.clock) KK.out (by simp) (by simp) (by rfl); ⟨h.2.2.1, h.2.2.2.1⟩))); done)
            (refine wpAnyH_take (i := 0) (oi := ⟨some 50, Go.Op.fieldAddr 60 (.tmp 3) 5, 0, _, _, none⟩) (v := ?_) rfl (by kernel_rfl) (by kernel_rfl) (by kernel_rfl) (fun _ _ _ h => h) (Or.inl ⟨by rfl, ?_⟩) (by assumption) ?_; rotate_left; (focus (intro w hSw; ((try dsimp only at hSw); go_simp; try with_reducible rfl))); (try simp only [Act.put, sA, sZ, sS]))
            (refine wpAnyH_take (i := 1) (oi := ⟨some 51, Go.Op.fieldAddr 58 (.tmp 50) 0, 0, _, _, none⟩) (v := ?_) rfl (by kernel_rfl) (by kernel_rfl) (by kernel_rfl) (fun _ _ _ h => h) (Or.inl ⟨by rfl, ?_⟩) (by assumption) ?_; rotate_left; (focus (intro w hSw; ((try dsimp only at hSw); go_simp; try with_reducible rfl))); (try simp only [Act.put, sA, sZ, sS]))
            (refine wpAnyH_take (i := 2) (oi := ⟨some 52, Go.Op.load 3 (.tmp 51), 3, _, _, none⟩) (v := ?_) rfl (by kernel_rfl) (by kernel_rfl) (by kernel_rfl) (fun _ _ _ h => h) (Or.inl ⟨by rfl, ?_⟩) (by assumption) ?_; rotate_left; (focus (intro w hSw; ((try dsimp only at hSw); go_simp; try with_reducible rfl))); (try simp only [Act.put, sA, sZ, sS]))
            (refine wpAnyH_take (i := 3) (oi := ⟨some 53, Go.Op.move (.tmp 0), 26, _, _, none⟩) (v := ?_) rfl (by kernel_rfl) (by kernel_rfl) (by kernel_rfl) (fun _ _ _ h => h) (Or.inl ⟨by rfl, ?_⟩) (by assumption) ?_; rotate_left; (focus (intro w hSw; ((try dsimp only at hSw); go_simp; try with_reducible rfl))); (try simp only [Act.put, sA, sZ, sS]))
            (refine wpAnyH_take (i := 4) (oi := ⟨some 54, Go.Op.nilCheck (.tmp 53), 0, _, _, none⟩) (v := ?_) rfl (by kernel_rfl) (by kernel_rfl) (by kernel_rfl) (fun _ _ _ h => h) (Or.inl ⟨by rfl, ?_⟩) (by assumption) ?_; rotate_left; (focus (intro w hSw; ((try dsimp only at hSw); go_simp; try with_reducible rfl))); (try simp only [Act.put, sA, sZ, sS]))
            (refine wpAnyH_take (i := 5) (oi := ⟨some 55, Go.Op.fieldAddr 119 (.tmp 54) 3, 0, _, _, none⟩) (v := ?_) rfl (by kernel_rfl) (by kernel_rfl) (by kernel_rfl) (fun _ _ _ h => h) (Or.inl ⟨by rfl, ?_⟩) (by assumption) ?_; rotate_left; (focus (intro w hSw; ((try dsimp only at hSw); go_simp; try with_reducible rfl))); (try simp only [Act.put, sA, sZ, sS]))
            (refine wpAnyH_take (i := 6) (oi := ⟨some 56, Go.Op.load 3 (.tmp 55), 3, _, _, none⟩) (v := ?_) rfl (by kernel_rfl) (by kernel_rfl) (by kernel_rfl) (fun _ _ _ h => h) (Or.inl ⟨by rfl, ?_⟩) (by assumption) ?_; rotate_left; (focus (intro w hSw; ((try dsimp only at hSw); go_simp; try with_reducible rfl))); (try simp only [Act.put, sA, sZ, sS]))
            (refine wpAnyH_take (i := 7) (oi := ⟨some 57, Go.Op.binOp Go.BinOp.gtr 3 (.tmp 52) (.tmp 56) 3, 4, _, _, none⟩) (v := ?_) rfl (by kernel_rfl) (by kernel_rfl) (by kernel_rfl) (fun _ _ _ h => h) (Or.inl ⟨by rfl, ?_⟩) (by assumption) ?_; rotate_left; (focus (intro w hSw; ((try dsimp only at hSw); go_simp; try with_reducible rfl))); (try simp only [Act.put, sA, sZ, sS]))
            refine wpAnyH_done (by kernel_rfl) ?_ _
            go_wp2_with fail
            go_meet
            exact ⟨_, rfl, e2.symm, Kn.same KK.out rfl rfl rfl rfl⟩
          case rest =>
          obtain ⟨B8, rfl, hB8, hk⟩ := hcut
          clear KK
          have KK := Lib.hid hk
          clear hk
          have HFN : Hid (∀ wf, ButC [g] w10 wf → wf.heap[g]? = some (rlogO m.most b ⟨some ⟨g', o', none⟩, a.n + 1, cap'⟩ (max m.clock r.st.clock)) → RLogAt wf (g' :: F) g g' { m with xs := m.xs ++ [(r, ds)], ks := withV m.ks r.st.site r.st.seq, clock := max m.clock r.st.clock } ∧ (g' = gL ∨ w.heap.size ≤ g') ∧ g' < wf.heap.size ∧ ButC [g, gL] w wf) := fun wf h1 h2 => radd_fin HC.out hF hFL HX.out HD.out hds8 hn400 H10.out.2.2.1 H10.out.2.2.2.1 H10.out.2.2.2.2.1 H10.out.2.2.2.2.2 h1 h2
          clear H10
          have hgw := KK.out.at_ (g, rlogO m.most b ⟨some ⟨g', o', none⟩, a.n + 1, cap'⟩ m.clock) (by simp)
          cases B8
          case false =>
            have hcl : max m.clock r.st.clock = m.clock := by have := of_decide_eq_false hB8.symm; omega
            have HR := Lib.hid (HFN.out _ (ButC.of_below _ KK.out.b) (by rw [hcl]; exact hgw))
            clear hB8 hcl HFN hgw
            go_wp2_with fail
            go_ret
            rw [HV.out]
            have HR := HR.out
            rw [hq] at HR
            first | exact ⟨g', rfl, HR⟩ | exact ⟨rfl, g', HR⟩ | (rw [hq]; exact ⟨g', rfl, HR⟩)
          case true =>
            have hcl : max m.clock r.st.clock = r.st.clock := by have := of_decide_eq_true hB8.symm; omega
            have HR := Lib.hid (HFN.out (wc.setCell ⟨g, 3, none⟩ (.int .i64 r.st.clock)) ((ButC.of_below _ KK.out.b).trans (ButC.of_but (g := g) (But.set g 3 _ _) (by simp))) (by rw [hcl]; exact heap_setCell_same wc g 3 _ 119 _ hgw))
            have f3 : wc.frozen? ⟨g, 3, none⟩ = false := by simp only [World.frozen?, hgw, rlogO]; rfl
            have z3 := (rlog_cells hgw rfl).2.2.2
            have c5 := (rc_cells (KK.out.at_ (q, rcO r d) (by simp)) rfl).c5
            clear hB8 hcl HFN hgw
            go_wp2_with fail
            go_ret
            rw [HV.out]
            have HR := HR.out
            rw [hq] at HR
            first | exact ⟨g', rfl, HR⟩ | exact ⟨rfl, g', HR⟩ | (rw [hq]; exact ⟨g', rfl, HR⟩)
    · have e1 : (r.st.seq != A + 1) = true := bne_iff_ne.2 hs
      have HV := Lib.hid (HV.out.trans (show addM m (r, ds) = (m, 17) by unfold addM; rw [if_neg (by simpa using HP.out), if_pos (.inl (by simp only; rw [hAA]; exact hs))]))
      clear hs
      cases B
      · skip
        refine wp_region_held_drew (S := (fun wx => wx.cell? ⟨q, 6, none⟩ = some (.int .i64 r.st.site) ∧ wx.cell? ⟨q, 7, none⟩ = some (.int .i64 r.st.seq))) (by kernel_rfl) ?_ (fun hHeld => ?_)
        focus ((try dsimp only); (try (exact (have h := radd_held (q := q) (g := g) (r := r) (d := d) (mo := m.most) (b := b) (a := a) (ck := m.clock) KK.out (by simp) (by simp) (by rfl); ⟨h.1, h.2.1⟩))); done)
        (refine wpAnyH_take (i := 0) (oi := ⟨some 16, Go.Op.move (.tmp 6), 4, _, _, none⟩) (v := ?_) rfl (by kernel_rfl) (by kernel_rfl) (by kernel_rfl) (fun _ _ _ h => h) (Or.inl ⟨by rfl, ?_⟩) (by assumption) ?_; rotate_left; (focus (intro w hSw; ((try dsimp only at hSw); go_simp; try with_reducible rfl))); (try simp only [Act.put, sA, sZ, sS]))
        (refine wpAnyH_take (i := 1) (oi := ⟨some 17, Go.Op.unOp Go.UnOp.not 4 (.tmp 16), 4, _, _, none⟩) (v := ?_) rfl (by kernel_rfl) (by kernel_rfl) (by kernel_rfl) (fun _ _ _ h => h) (Or.inl ⟨by rfl, ?_⟩) (by assumption) ?_; rotate_left; (focus (intro w hSw; ((try dsimp only at hSw); go_simp; try with_reducible rfl))); (try simp only [Act.put, sA, sZ, sS]))
        (refine wpAnyH_take (i := 2) (oi := ⟨some 18, Go.Op.move (.tmp 17), 4, _, _, none⟩) (v := ?_) rfl (by kernel_rfl) (by kernel_rfl) (by kernel_rfl) (fun _ _ _ h => h) (Or.inl ⟨by rfl, ?_⟩) (by assumption) ?_; rotate_left; (focus (intro w hSw; ((try dsimp only at hSw); go_simp; try with_reducible rfl))); (try simp only [Act.put, sA, sZ, sS]))
        (first | (refine wpAnyH_take (i := 3) (oi := ⟨some 19, Go.Op.fieldAddr 60 (.tmp 3) 5, 0, _, _, some (2, false)⟩) (v := undef) rfl (by kernel_rfl) (by kernel_rfl) (by kernel_rfl) (fun _ _ _ h => h) (Or.inr ⟨by rfl, rfl⟩) (by assumption) ?_; (try simp only [Act.put, sA, sZ, sS])) | (refine wpAnyH_take (i := 3) (oi := ⟨some 19, Go.Op.fieldAddr 60 (.tmp 3) 5, 0, _, _, some (2, false)⟩) (v := ?_) rfl (by kernel_rfl) (by kernel_rfl) (by kernel_rfl) (fun _ _ _ h => h) (Or.inl ⟨by rfl, ?_⟩) (by assumption) ?_; rotate_left; (focus (intro w hSw; ((try dsimp only at hSw); go_simp; try with_reducible rfl))); (try simp only [Act.put, sA, sZ, sS])))
        (first | (refine wpAnyH_take (i := 4) (oi := ⟨some 20, Go.Op.fieldAddr 58 (.tmp 19) 2, 0, _, _, some (2, false)⟩) (v := undef) rfl (by kernel_rfl) (by kernel_rfl) (by kernel_rfl) (fun _ _ _ h => h) (Or.inr ⟨by rfl, rfl⟩) (by assumption) ?_; (try simp only [Act.put, sA, sZ, sS])) | (refine wpAnyH_take (i := 4) (oi := ⟨some 20, Go.Op.fieldAddr 58 (.tmp 19) 2, 0, _, _, some (2, false)⟩) (v := ?_) rfl (by kernel_rfl) (by kernel_rfl) (by kernel_rfl) (fun _ _ _ h => h) (Or.inl ⟨by rfl, ?_⟩) (by assumption) ?_; rotate_left; (focus (intro w hSw; ((try dsimp only at hSw); go_simp; try with_reducible rfl))); (try simp only [Act.put, sA, sZ, sS])))
        (first | (refine wpAnyH_take (i := 5) (oi := ⟨some 21, Go.Op.load 3 (.tmp 20), 3, _, _, some (2, false)⟩) (v := undef) rfl (by kernel_rfl) (by kernel_rfl) (by kernel_rfl) (fun _ _ _ h => h) (Or.inr ⟨by rfl, rfl⟩) (by assumption) ?_; (try simp only [Act.put, sA, sZ, sS])) | (refine wpAnyH_take (i := 5) (oi := ⟨some 21, Go.Op.load 3 (.tmp 20), 3, _, _, some (2, false)⟩) (v := ?_) rfl (by kernel_rfl) (by kernel_rfl) (by kernel_rfl) (fun _ _ _ h => h) (Or.inl ⟨by rfl, ?_⟩) (by assumption) ?_; rotate_left; (focus (intro w hSw; ((try dsimp only at hSw); go_simp; try with_reducible rfl))); (try simp only [Act.put, sA, sZ, sS])))
        (first | (refine wpAnyH_take (i := 6) (oi := ⟨some 22, Go.Op.move (.tmp 5), 23, _, _, some (2, false)⟩) (v := undef) rfl (by kernel_rfl) (by kernel_rfl) (by kernel_rfl) (fun _ _ _ h => h) (Or.inr ⟨by rfl, rfl⟩) (by assumption) ?_; (try simp only [Act.put, sA, sZ, sS])) | (refine wpAnyH_take (i := 6) (oi := ⟨some 22, Go.Op.move (.tmp 5), 23, _, _, some (2, false)⟩) (v := ?_) rfl (by kernel_rfl) (by kernel_rfl) (by kernel_rfl) (fun _ _ _ h => h) (Or.inl ⟨by rfl, ?_⟩) (by assumption) ?_; rotate_left; (focus (intro w hSw; ((try dsimp only at hSw); go_simp; try with_reducible rfl))); (try simp only [Act.put, sA, sZ, sS])))
        (first | (refine wpAnyH_take (i := 7) (oi := ⟨some 23, Go.Op.fieldAddr 60 (.tmp 3) 5, 0, _, _, some (2, false)⟩) (v := undef) rfl (by kernel_rfl) (by kernel_rfl) (by kernel_rfl) (fun _ _ _ h => h) (Or.inr ⟨by rfl, rfl⟩) (by assumption) ?_; (try simp only [Act.put, sA, sZ, sS])) | (refine wpAnyH_take (i := 7) (oi := ⟨some 23, Go.Op.fieldAddr 60 (.tmp 3) 5, 0, _, _, some (2, false)⟩) (v := ?_) rfl (by kernel_rfl) (by kernel_rfl) (by kernel_rfl) (fun _ _ _ h => h) (Or.inl ⟨by rfl, ?_⟩) (by assumption) ?_; rotate_left; (focus (intro w hSw; ((try dsimp only at hSw); go_simp; try with_reducible rfl))); (try simp only [Act.put, sA, sZ, sS])))
        (first | (refine wpAnyH_take (i := 8) (oi := ⟨some 24, Go.Op.fieldAddr 58 (.tmp 23) 1, 0, _, _, some (2, false)⟩) (v := undef) rfl (by kernel_rfl) (by kernel_rfl) (by kernel_rfl) (fun _ _ _ h => h) (Or.inr ⟨by rfl, rfl⟩) (by assumption) ?_; (try simp only [Act.put, sA, sZ, sS])) | (refine wpAnyH_take (i := 8) (oi := ⟨some 24, Go.Op.fieldAddr 58 (.tmp 23) 1, 0, _, _, some (2, false)⟩) (v := ?_) rfl (by kernel_rfl) (by kernel_rfl) (by kernel_rfl) (fun _ _ _ h => h) (Or.inl ⟨by rfl, ?_⟩) (by assumption) ?_; rotate_left; (focus (intro w hSw; ((try dsimp only at hSw); go_simp; try with_reducible rfl))); (try simp only [Act.put, sA, sZ, sS])))
        (first | (refine wpAnyH_take (i := 9) (oi := ⟨some 25, Go.Op.load 3 (.tmp 24), 3, _, _, some (2, false)⟩) (v := undef) rfl (by kernel_rfl) (by kernel_rfl) (by kernel_rfl) (fun _ _ _ h => h) (Or.inr ⟨by rfl, rfl⟩) (by assumption) ?_; (try simp only [Act.put, sA, sZ, sS])) | (refine wpAnyH_take (i := 9) (oi := ⟨some 25, Go.Op.load 3 (.tmp 24), 3, _, _, some (2, false)⟩) (v := ?_) rfl (by kernel_rfl) (by kernel_rfl) (by kernel_rfl) (fun _ _ _ h => h) (Or.inl ⟨by rfl, ?_⟩) (by assumption) ?_; rotate_left; (focus (intro w hSw; ((try dsimp only at hSw); go_simp; try with_reducible rfl))); (try simp only [Act.put, sA, sZ, sS])))
        (first | (refine wpAnyH_take (i := 10) (oi := ⟨some 26, Go.Op.call { callee := Go.Callee.value (.func 29), args := #[.tmp 22, .tmp 25], argTypes := #[23, 3] }, 3, _, _, some (2, false)⟩) (v := undef) rfl (by kernel_rfl) (by kernel_rfl) (by kernel_rfl) (fun _ _ _ h => h) (Or.inr ⟨by rfl, rfl⟩) (by assumption) ?_; (try simp only [Act.put, sA, sZ, sS])) | (refine wpAnyH_ready (rs := [10]) (by kernel_rfl) (by simp) ?_; refine AllReadyH.cons (o := ⟨some 26, Go.Op.call { callee := Go.Callee.value (.func 29), args := #[.tmp 22, .tmp 25], argTypes := #[23, 3] }, 3, _, _, some (2, false)⟩) rfl (fun K hK => ?_) AllReadyH.nil; go_simp; ((first | (go_at_call 29; refine (HA1 _ (Kn.same KK.out (by rfl) (by rfl) (by rfl) (by rfl)).b).mono ?_; rintro e wn ⟨rfl, dn⟩; have KK := Lib.hid (Kn.later KK.out dn rfl rfl rfl rfl)))); go_wp2_with fail; refine hK.out _ _ ?_ (fun hHeld => ?_); (focus ((try dsimp only); (try (exact (have h := radd_held (q := q) (g := g) (r := r) (d := d) (mo := m.most) (b := b) (a := a) (ck := m.clock) KK.out (by simp) (by simp) (by rfl); ⟨h.1, h.2.1⟩))); done)); clear hK; (try simp only [Act.put, sA, sZ, sS])))
        (first | (refine wpAnyH_take (i := 11) (oi := ⟨some 27, Go.Op.binOp Go.BinOp.add 3 (.tmp 26) (.const (Go.Value.int Go.IntKind.i64 1)) 3, 3, _, _, some (2, false)⟩) (v := undef) rfl (by kernel_rfl) (by kernel_rfl) (by kernel_rfl) (fun _ _ _ h => h) (Or.inr ⟨by rfl, rfl⟩) (by assumption) ?_; (try simp only [Act.put, sA, sZ, sS])) | (refine wpAnyH_take (i := 11) (oi := ⟨some 27, Go.Op.binOp Go.BinOp.add 3 (.tmp 26) (.const (Go.Value.int Go.IntKind.i64 1)) 3, 3, _, _, some (2, false)⟩) (v := ?_) rfl (by kernel_rfl) (by kernel_rfl) (by kernel_rfl) (fun _ _ _ h => h) (Or.inl ⟨by rfl, ?_⟩) (by assumption) ?_; rotate_left; (focus (intro w hSw; ((try dsimp only at hSw); go_simp; try with_reducible rfl))); (try simp only [Act.put, sA, sZ, sS])))
        (first | (refine wpAnyH_take (i := 12) (oi := ⟨some 28, Go.Op.binOp Go.BinOp.neq 3 (.tmp 21) (.tmp 27) 3, 4, _, _, some (2, false)⟩) (v := undef) rfl (by kernel_rfl) (by kernel_rfl) (by kernel_rfl) (fun _ _ _ h => h) (Or.inr ⟨by rfl, rfl⟩) (by assumption) ?_; (try simp only [Act.put, sA, sZ, sS])) | (refine wpAnyH_take (i := 12) (oi := ⟨some 28, Go.Op.binOp Go.BinOp.neq 3 (.tmp 21) (.tmp 27) 3, 4, _, _, some (2, false)⟩) (v := ?_) rfl (by kernel_rfl) (by kernel_rfl) (by kernel_rfl) (fun _ _ _ h => h) (Or.inl ⟨by rfl, ?_⟩) (by assumption) ?_; rotate_left; (focus (intro w hSw; ((try dsimp only at hSw); go_simp; try with_reducible rfl))); (try simp only [Act.put, sA, sZ, sS])))
        (refine wpAnyH_take (i := 13) (oi := ⟨some 29, Go.Op.pick (.tmp 18) (.const (Go.Value.bool true)) (.tmp 28), 4, _, _, none⟩) (v := ?_) rfl (by kernel_rfl) (by kernel_rfl) (by kernel_rfl) (fun _ _ _ h => h) (Or.inl ⟨by rfl, ?_⟩) (by assumption) ?_; rotate_left; (focus (intro w hSw; ((try dsimp only at hSw); go_simp; try with_reducible rfl))); (try simp only [Act.put, sA, sZ, sS]))
        refine wpAnyH_done (by kernel_rfl) ?_ _
        go_wp2_with fail
        go_ret
        rw [HV.out]
        refine ⟨gL, rfl, (GL.out _ ?hb3).1, .inl rfl, (GL.out _ ?hb3).2.1, (GL.out _ ?hb3).2.2⟩
        all_goals exact below_then HW3.out hz3 (Kn.same KK.out (by rfl) (by rfl) (by rfl) (by rfl)).b
      · skip
        refine wp_region_held_drew (S := (fun wx => wx.cell? ⟨q, 6, none⟩ = some (.int .i64 r.st.site) ∧ wx.cell? ⟨q, 7, none⟩ = some (.int .i64 r.st.seq))) (by kernel_rfl) ?_ (fun hHeld => ?_)
        focus ((try dsimp only); (try (exact (have h := radd_held (q := q) (g := g) (r := r) (d := d) (mo := m.most) (b := b) (a := a) (ck := m.clock) KK.out (by simp) (by simp) (by rfl); ⟨h.1, h.2.1⟩))); done)
        (refine wpAnyH_take (i := 0) (oi := ⟨some 16, Go.Op.move (.tmp 6), 4, _, _, none⟩) (v := ?_) rfl (by kernel_rfl) (by kernel_rfl) (by kernel_rfl) (fun _ _ _ h => h) (Or.inl ⟨by rfl, ?_⟩) (by assumption) ?_; rotate_left; (focus (intro w hSw; ((try dsimp only at hSw); go_simp; try with_reducible rfl))); (try simp only [Act.put, sA, sZ, sS]))
        (refine wpAnyH_take (i := 1) (oi := ⟨some 17, Go.Op.unOp Go.UnOp.not 4 (.tmp 16), 4, _, _, none⟩) (v := ?_) rfl (by kernel_rfl) (by kernel_rfl) (by kernel_rfl) (fun _ _ _ h => h) (Or.inl ⟨by rfl, ?_⟩) (by assumption) ?_; rotate_left; (focus (intro w hSw; ((try dsimp only at hSw); go_simp; try with_reducible rfl))); (try simp only [Act.put, sA, sZ, sS]))
        (refine wpAnyH_take (i := 2) (oi := ⟨some 18, Go.Op.move (.tmp 17), 4, _, _, none⟩) (v := ?_) rfl (by kernel_rfl) (by kernel_rfl) (by kernel_rfl) (fun _ _ _ h => h) (Or.inl ⟨by rfl, ?_⟩) (by assumption) ?_; rotate_left; (focus (intro w hSw; ((try dsimp only at hSw); go_simp; try with_reducible rfl))); (try simp only [Act.put, sA, sZ, sS]))
        (first | (refine wpAnyH_take (i := 3) (oi := ⟨some 19, Go.Op.fieldAddr 60 (.tmp 3) 5, 0, _, _, some (2, false)⟩) (v := undef) rfl (by kernel_rfl) (by kernel_rfl) (by kernel_rfl) (fun _ _ _ h => h) (Or.inr ⟨by rfl, rfl⟩) (by assumption) ?_; (try simp only [Act.put, sA, sZ, sS])) | (refine wpAnyH_take (i := 3) (oi := ⟨some 19, Go.Op.fieldAddr 60 (.tmp 3) 5, 0, _, _, some (2, false)⟩) (v := ?_) rfl (by kernel_rfl) (by kernel_rfl) (by kernel_rfl) (fun _ _ _ h => h) (Or.inl ⟨by rfl, ?_⟩) (by assumption) ?_; rotate_left; (focus (intro w hSw; ((try dsimp only at hSw); go_simp; try with_reducible rfl))); (try simp only [Act.put, sA, sZ, sS])))
        (first | (refine wpAnyH_take (i := 4) (oi := ⟨some 20, Go.Op.fieldAddr 58 (.tmp 19) 2, 0, _, _, some (2, false)⟩) (v := undef) rfl (by kernel_rfl) (by kernel_rfl) (by kernel_rfl) (fun _ _ _ h => h) (Or.inr ⟨by rfl, rfl⟩) (by assumption) ?_; (try simp only [Act.put, sA, sZ, sS])) | (refine wpAnyH_take (i := 4) (oi := ⟨some 20, Go.Op.fieldAddr 58 (.tmp 19) 2, 0, _, _, some (2, false)⟩) (v := ?_) rfl (by kernel_rfl) (by kernel_rfl) (by kernel_rfl) (fun _ _ _ h => h) (Or.inl ⟨by rfl, ?_⟩) (by assumption) ?_; rotate_left; (focus (intro w hSw; ((try dsimp only at hSw); go_simp; try with_reducible rfl))); (try simp only [Act.put, sA, sZ, sS])))
        (first | (refine wpAnyH_take (i := 5) (oi := ⟨some 21, Go.Op.load 3 (.tmp 20), 3, _, _, some (2, false)⟩) (v := undef) rfl (by kernel_rfl) (by kernel_rfl) (by kernel_rfl) (fun _ _ _ h => h) (Or.inr ⟨by rfl, rfl⟩) (by assumption) ?_; (try simp only [Act.put, sA, sZ, sS])) | (refine wpAnyH_take (i := 5) (oi := ⟨some 21, Go.Op.load 3 (.tmp 20), 3, _, _, some (2, false)⟩) (v := ?_) rfl (by kernel_rfl) (by kernel_rfl) (by kernel_rfl) (fun _ _ _ h => h) (Or.inl ⟨by rfl, ?_⟩) (by assumption) ?_; rotate_left; (focus (intro w hSw; ((try dsimp only at hSw); go_simp; try with_reducible rfl))); (try simp only [Act.put, sA, sZ, sS])))
        (first | (refine wpAnyH_take (i := 6) (oi := ⟨some 22, Go.Op.move (.tmp 5), 23, _, _, some (2, false)⟩) (v := undef) rfl (by kernel_rfl) (by kernel_rfl) (by kernel_rfl) (fun _ _ _ h => h) (Or.inr ⟨by rfl, rfl⟩) (by assumption) ?_; (try simp only [Act.put, sA, sZ, sS])) | (refine wpAnyH_take (i := 6) (oi := ⟨some 22, Go.Op.move (.tmp 5), 23, _, _, some (2, false)⟩) (v := ?_) rfl (by kernel_rfl) (by kernel_rfl) (by kernel_rfl) (fun _ _ _ h => h) (Or.inl ⟨by rfl, ?_⟩) (by assumption) ?_; rotate_left; (focus (intro w hSw; ((try dsimp only at hSw); go_simp; try with_reducible rfl))); (try simp only [Act.put, sA, sZ, sS])))
        (first | (refine wpAnyH_take (i := 7) (oi := ⟨some 23, Go.Op.fieldAddr 60 (.tmp 3) 5, 0, _, _, some (2, false)⟩) (v := undef) rfl (by kernel_rfl) (by kernel_rfl) (by kernel_rfl) (fun _ _ _ h => h) (Or.inr ⟨by rfl, rfl⟩) (by assumption) ?_; (try simp only [Act.put, sA, sZ, sS])) | (refine wpAnyH_take (i := 7) (oi := ⟨some 23, Go.Op.fieldAddr 60 (.tmp 3) 5, 0, _, _, some (2, false)⟩) (v := ?_) rfl (by kernel_rfl) (by kernel_rfl) (by kernel_rfl) (fun _ _ _ h => h) (Or.inl ⟨by rfl, ?_⟩) (by assumption) ?_; rotate_left; (focus (intro w hSw; ((try dsimp only at hSw); go_simp; try with_reducible rfl))); (try simp only [Act.put, sA, sZ, sS])))
        (first | (refine wpAnyH_take (i := 8) (oi := ⟨some 24, Go.Op.fieldAddr 58 (.tmp 23) 1, 0, _, _, some (2, false)⟩) (v := undef) rfl (by kernel_rfl) (by kernel_rfl) (by kernel_rfl) (fun _ _ _ h => h) (Or.inr ⟨by rfl, rfl⟩) (by assumption) ?_; (try simp only [Act.put, sA, sZ, sS])) | (refine wpAnyH_take (i := 8) (oi := ⟨some 24, Go.Op.fieldAddr 58 (.tmp 23) 1, 0, _, _, some (2, false)⟩) (v := ?_) rfl (by kernel_rfl) (by kernel_rfl) (by kernel_rfl) (fun _ _ _ h => h) (Or.inl ⟨by rfl, ?_⟩) (by assumption) ?_; rotate_left; (focus (intro w hSw; ((try dsimp only at hSw); go_simp; try with_reducible rfl))); (try simp only [Act.put, sA, sZ, sS])))
        (first | (refine wpAnyH_take (i := 9) (oi := ⟨some 25, Go.Op.load 3 (.tmp 24), 3, _, _, some (2, false)⟩) (v := undef) rfl (by kernel_rfl) (by kernel_rfl) (by kernel_rfl) (fun _ _ _ h => h) (Or.inr ⟨by rfl, rfl⟩) (by assumption) ?_; (try simp only [Act.put, sA, sZ, sS])) | (refine wpAnyH_take (i := 9) (oi := ⟨some 25, Go.Op.load 3 (.tmp 24), 3, _, _, some (2, false)⟩) (v := ?_) rfl (by kernel_rfl) (by kernel_rfl) (by kernel_rfl) (fun _ _ _ h => h) (Or.inl ⟨by rfl, ?_⟩) (by assumption) ?_; rotate_left; (focus (intro w hSw; ((try dsimp only at hSw); go_simp; try with_reducible rfl))); (try simp only [Act.put, sA, sZ, sS])))
        (first | (refine wpAnyH_take (i := 10) (oi := ⟨some 26, Go.Op.call { callee := Go.Callee.value (.func 29), args := #[.tmp 22, .tmp 25], argTypes := #[23, 3] }, 3, _, _, some (2, false)⟩) (v := undef) rfl (by kernel_rfl) (by kernel_rfl) (by kernel_rfl) (fun _ _ _ h => h) (Or.inr ⟨by rfl, rfl⟩) (by assumption) ?_; (try simp only [Act.put, sA, sZ, sS])) | (refine wpAnyH_ready (rs := [10]) (by kernel_rfl) (by simp) ?_; refine AllReadyH.cons (o := ⟨some 26, Go.Op.call { callee := Go.Callee.value (.func 29), args := #[.tmp 22, .tmp 25], argTypes := #[23, 3] }, 3, _, _, some (2, false)⟩) rfl (fun K hK => ?_) AllReadyH.nil; go_simp; ((first | (go_at_call 29; refine (HA1 _ (Kn.same KK.out (by rfl) (by rfl) (by rfl) (by rfl)).b).mono ?_; rintro e wn ⟨rfl, dn⟩; have KK := Lib.hid (Kn.later KK.out dn rfl rfl rfl rfl)))); go_wp2_with fail; refine hK.out _ _ ?_ (fun hHeld => ?_); (focus ((try dsimp only); (try (exact (have h := radd_held (q := q) (g := g) (r := r) (d := d) (mo := m.most) (b := b) (a := a) (ck := m.clock) KK.out (by simp) (by simp) (by rfl); ⟨h.1, h.2.1⟩))); done)); clear hK; (try simp only [Act.put, sA, sZ, sS])))
        (first | (refine wpAnyH_take (i := 11) (oi := ⟨some 27, Go.Op.binOp Go.BinOp.add 3 (.tmp 26) (.const (Go.Value.int Go.IntKind.i64 1)) 3, 3, _, _, some (2, false)⟩) (v := undef) rfl (by kernel_rfl) (by kernel_rfl) (by kernel_rfl) (fun _ _ _ h => h) (Or.inr ⟨by rfl, rfl⟩) (by assumption) ?_; (try simp only [Act.put, sA, sZ, sS])) | (refine wpAnyH_take (i := 11) (oi := ⟨some 27, Go.Op.binOp Go.BinOp.add 3 (.tmp 26) (.const (Go.Value.int Go.IntKind.i64 1)) 3, 3, _, _, some (2, false)⟩) (v := ?_) rfl (by kernel_rfl) (by kernel_rfl) (by kernel_rfl) (fun _ _ _ h => h) (Or.inl ⟨by rfl, ?_⟩) (by assumption) ?_; rotate_left; (focus (intro w hSw; ((try dsimp only at hSw); go_simp; try with_reducible rfl))); (try simp only [Act.put, sA, sZ, sS])))
        (first | (refine wpAnyH_take (i := 12) (oi := ⟨some 28, Go.Op.binOp Go.BinOp.neq 3 (.tmp 21) (.tmp 27) 3, 4, _, _, some (2, false)⟩) (v := undef) rfl (by kernel_rfl) (by kernel_rfl) (by kernel_rfl) (fun _ _ _ h => h) (Or.inr ⟨by rfl, rfl⟩) (by assumption) ?_; (try simp only [Act.put, sA, sZ, sS])) | (refine wpAnyH_take (i := 12) (oi := ⟨some 28, Go.Op.binOp Go.BinOp.neq 3 (.tmp 21) (.tmp 27) 3, 4, _, _, some (2, false)⟩) (v := ?_) rfl (by kernel_rfl) (by kernel_rfl) (by kernel_rfl) (fun _ _ _ h => h) (Or.inl ⟨by rfl, ?_⟩) (by assumption) ?_; rotate_left; (focus (intro w hSw; ((try dsimp only at hSw); go_simp; try with_reducible rfl))); (try simp only [Act.put, sA, sZ, sS])))
        (refine wpAnyH_take (i := 13) (oi := ⟨some 29, Go.Op.pick (.tmp 18) (.const (Go.Value.bool true)) (.tmp 28), 4, _, _, none⟩) (v := ?_) rfl (by kernel_rfl) (by kernel_rfl) (by kernel_rfl) (fun _ _ _ h => h) (Or.inl ⟨by rfl, ?_⟩) (by assumption) ?_; rotate_left; (focus (intro w hSw; ((try dsimp only at hSw); go_simp; try with_reducible rfl))); (try simp only [Act.put, sA, sZ, sS]))
        refine wpAnyH_done (by kernel_rfl) ?_ _
        go_wp2_with fail
        go_ret
        rw [HV.out]
        refine ⟨gL, rfl, (GL.out _ ?hb4).1, .inl rfl, (GL.out _ ?hb4).2.1, (GL.out _ ?hb4).2.2⟩
        all_goals exact below_then HW3.out hz3 (Kn.same KK.out (by rfl) (by rfl) (by rfl) (by rfl)).b
  · have e0 : (chkR r ds != 0) = true := by rw [chkR_1 hP]; rfl
    have HV := Lib.hid (HV.out.trans (show addM m (r, ds) = (m, 1) by unfold addM; rw [if_pos hP]))
    clear hP
    go_wp2_with (first
      | refine wpList_load_row rfl 60 _ rfl q rfl 60 (rcA r d) (0, 0) _ KK.out.hd Tryz.underlying60 rfl (by kernel_rfl) ?_
      | (go_at_call 71; refine (C0 _ (by rw [hq]; exact KK.out.b)).mono ?_; rintro e w2 ⟨rfl, d2⟩; have KK := Lib.hid (KK.out.below d2); clear d2))
    go_ret
    rw [HV.out]
    refine ⟨gL, rfl, (GL.out _ ?hb5).1, .inl rfl, (GL.out _ ?hb5).2.1, (GL.out _ ?hb5).2.2⟩
    all_goals exact KK.out.b
end
end Go.Proofs.YtglabahbklpocaaGreat
