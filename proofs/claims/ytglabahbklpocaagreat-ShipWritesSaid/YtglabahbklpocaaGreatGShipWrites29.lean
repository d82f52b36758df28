/- The law's small: a message cut down. -/
import Derived.Test.YtglabahbklpocaaGreatGShipWrites12
import Derived.Test.YtglabahbklpocaaGreatGShipWrites24
import Derived.Test.YtglabahbklpocaaGreatGShipWrites28
namespace Go.Proofs.YtglabahbklpocaaGreat
section
open Go.RowKit Go.Deep
set_option maxRecDepth 100000
set_option linter.unusedVariables false
set_option linter.unusedSimpArgs false
attribute [local go_sem ↓] Go.wp_at_zero Go.wp_at_succ
/-- Nothing that the message leads to lies in block G. -/
structure FarW (G : Nat) (x : Wi) (rs : List RecA) : Prop where
  p : farA [G] x.np
  r : farA [G] x.nr
  v : farA [G] x.vec
  d : ∀ y ∈ rs, farA [G] y.d
theorem farA.cut {F : List Nat} {d : Sl} (h : farA F d) : farA F d.cut := by
  unfold Sl.cut
  split
  · rcases h with h | h
    · omega
    · exact .inr h
  · exact h
theorem AppE.far1 {α : Type} {cs : α → List Value} {T : TypeId} {sz : Nat} {w : World} {B : Nat} {a : Option Addr} {n cap : Nat} {l : List α} (h : AppE cs T sz w B a n cap l) {G : Nat} (hG : G < B) : farA [G] ⟨a, n, cap⟩ := AppE.far h (by intro k hk; simp only [List.mem_singleton] at hk; omega)
theorem WiAt.far {w : World} {x : Wi} {ps : List Pt} {rs : List RecA} {vs : List Int} (h : WiAt w x ps rs vs) {G : Nat} (hG : w.heap.size ≤ G) : FarW G x rs := by
  have q : ∀ d : Sl, (d.n = 0 ∨ ∀ p, d.a = some p → p.block < w.heap.size) → farA [G] d := fun d hd => hd.imp_right fun k p hp hm => by have := k p hp; simp only [List.mem_singleton] at hm; omega
  exact ⟨q _ h.p.r.ltA, q _ h.r.r.ltA, q _ h.v.lt, fun y hy => q _ (h.r.ok y hy).sl.lt⟩
theorem WiAt.but {w w' : World} {x : Wi} {ps : List Pt} {rs : List RecA} {vs : List Int} {G : Nat} (h : WiAt w x ps rs vs) (hf : FarW G x rs) (hb : But G w w') : WiAt w' x ps rs vs := by
  have hd : ∀ i, i < w.heap.size → i ∉ [G] → w'.heap[i]? = w.heap[i]? := fun i hi hn => hb.block i hi (by simp; exact fun e => hn (by simp [e]))
  exact ⟨⟨ReadsE.keep h.p.r hf.p hb.size hd, h.p.wf, h.p.nc, h.p.cb⟩, ⟨ReadsE.keep h.r.r hf.r hb.size hd, fun y hy => ⟨(h.r.ok y hy).wf, (h.r.ok y hy).sl.keep (hf.d y hy) hb.size hd⟩, h.r.nc, h.r.cb⟩, h.v.keep hf.v hb.size hd, h.f, h.t, h.s⟩
theorem SlR.cut19 {w : World} {d : Sl} {xs : List Int} (h : SlR w d xs) : SlR w d.cut (xs.take 12) := h.cut
theorem rec_new19 (w : World) (r : Rc) (d : Sl) (ds : List Int) : CellsAt (w.alloc (rcO r d)) w.heap.size 0 (RecA.cs ⟨r, d, ds⟩) := by
  intro i u hi
  rw [rcO, Nat.zero_add, World.cell?_alloc_new]
  simpa [RecA.cs] using hi
set_option maxHeartbeats 8000000 in
theorem small19_any (x : Wi) (ps : List Pt) (rs : List RecA) (vs : List Int) (w : World) (h : WiAt w x ps rs vs) :
    Calls Tryz.prog 14 #[.agg x.arr] w fun e w' => ∃ (z : Wi) (qs : List Pt) (ts : List RecA) (us : List Int), e = .returned (.agg z.arr) ∧ WiAt w' z qs ts us ∧ (∀ G, G < w.heap.size → FarW G x rs → FarW G z ts) ∧ Below w.heap.size w w' := by
  have HPP := Lib.hid h.p
  have HRR := Lib.hid h.r
  have HVV := Lib.hid h.v
  have hf := h.f
  have ht := h.t
  have hs := h.s
  have hpm : x.np.n ≤ 9223372036854775807 := Nat.le_trans h.p.nc h.p.cb
  have hrm : x.nr.n ≤ 9223372036854775807 := Nat.le_trans h.r.nc h.r.cb
  have FW := fun wx (hb : Below w.heap.size w wx) => few19z_any x.vec vs wx (HVV.out.below hb)
  have HGV : Hid (∀ G, FarW G x rs → farA [G] x.vec.cut ∧ ∀ y ∈ rs, farA [G] y.small.d) := fun G hG => ⟨hG.v.cut, fun y hy => (hG.d y hy).cut⟩
  obtain ⟨FX, hFX⟩ : ∃ P : Nat → Prop, P = fun G => FarW G x rs := ⟨_, rfl⟩
  have hFX2 : ∀ G, FarW G x rs = FX G := fun G => by rw [hFX]
  have HGV : Hid (∀ G, FX G → farA [G] x.vec.cut ∧ ∀ y ∈ rs, farA [G] y.small.d) := fun G hG => HGV.out G (by rw [hFX2]; exact hG)
  simp only [hFX2]
  clear h hFX hFX2
  obtain ⟨kind, id, series, from_, to_, ⟨pa, pn, pc⟩, ⟨ra, rn, rc⟩, vec, time⟩ := x
  unfold Wi.arr
  simp only at *
  go_enter Tryz.func14, Tryz.ntmps14
  go_upto_region 1 with fail
  generalize hw1 : World.alloc _ _ = w1
  have KK := Lib.hid (show Kn w.heap.size w [(w.heap.size, wiO ⟨kind, id, series, from_, to_, ⟨pa, pn, pc⟩, ⟨ra, rn, rc⟩, vec, time⟩), (w.heap.size + 1, wiO Wi0)] w1 by rw [← hw1]; exact (((Kn.start w).new' rfl (wiO ⟨kind, id, series, from_, to_, ⟨pa, pn, pc⟩, ⟨ra, rn, rc⟩, vec, time⟩)).new' (n := w.heap.size + 1) (by simp) (wiO Wi0)).sub (by simp))
  clear hw1
  obtain ⟨g, hg⟩ : ∃ g, w.heap.size = g := ⟨_, rfl⟩
  rw [hg] at KK FW ⊢
  have c2 := (wi_cells KK.out.hd rfl).c2
  have f2 := KK.out.fz (g := g) (o := wiO ⟨kind, id, series, from_, to_, ⟨pa, pn, pc⟩, ⟨ra, rn, rc⟩, vec, time⟩) (by simp) 2
  simp only at c2
  go_upto_if 11 with fail
  go_cut [11] (fun v wx => ∃ s2 : ByteArray, s2.size ≤ 9223372036854775807 ∧ Kn g w [(g, wiO ⟨kind, id, s2, from_, to_, ⟨pa, pn, pc⟩, ⟨ra, rn, rc⟩, vec, time⟩), (g + 1, wiO Wi0)] wx)
  case first =>
    by_cases hl : (series.size : Int) > 60
    · have t1 : decide ((series.size : Int) > 60) = true := decide_eq_true hl
      have i1 : (60 : Int) ≤ (series.size : Int) := by omega
      go_wp2_with fail
      go_meet
      exact ⟨series.extract 0 60, by rw [ByteArray.size_extract]; omega, Kn.setCell KK.out (by simp only [Apart, and_true]; omega) (by omega) 2 _ (wiO ⟨kind, id, series.extract 0 60, from_, to_, ⟨pa, pn, pc⟩, ⟨ra, rn, rc⟩, vec, time⟩) rfl⟩
    · have t1 : decide ((series.size : Int) > 60) = false := decide_eq_false hl
      go_wp2_with fail
      go_meet
      exact ⟨series, hs, KK.out⟩
  case rest =>
  obtain ⟨s2, hs2, hk⟩ := hcut
  clear KK c2 f2 hs
  have KK := Lib.hid hk
  clear hk
  have c7 := (wi_cells KK.out.hd rfl).c7
  simp only at c7
  go_upto_region 4 with (first | (go_at_call 9; refine (FW _ KK.out.b).mono ?_; rintro e wn ⟨rfl, rfl⟩; have f7 := KK.out.fz (g := g) (o := wiO ⟨kind, id, s2, from_, to_, ⟨pa, pn, pc⟩, ⟨ra, rn, rc⟩, vec, time⟩) (by simp) 7))
  generalize hw2 : World.setCell _ _ _ = w2
  have KK := Lib.hid (show Kn g w [(g, wiO ⟨kind, id, s2, from_, to_, ⟨pa, pn, pc⟩, ⟨ra, rn, rc⟩, vec.cut, time⟩), (g + 1, wiO Wi0)] w2 by rw [← hw2]; exact Kn.setCell KK.out (by simp only [Apart, and_true]; omega) (by omega) 7 _ (wiO ⟨kind, id, s2, from_, to_, ⟨pa, pn, pc⟩, ⟨ra, rn, rc⟩, vec.cut, time⟩) rfl)
  clear hw2 c7 FW
  have hVC := Lib.hid HVV.out.cut19
  generalize vec.cut = vc at *
  have hz2 := KK.out.lt (g + 1, wiO Wi0) (by simp)
  simp only at hz2
  go_wp2_with fail
  go_loopw [3, 4] (fun out i wr => ∃ (k n cap : Nat) (a2 : Option Addr) (qs : List Pt), k ≤ 30 ∧ n ≤ k ∧ i = .int .i64 k ∧ out = .slice a2 n cap ∧ AppE Pt.cs 90 6 wr (g + 2) a2 n cap qs ∧ Hid (∀ p ∈ qs, p.wf) ∧ Kn g w [(g, wiO ⟨kind, id, s2, from_, to_, ⟨pa, pn, pc⟩, ⟨ra, rn, rc⟩, vc, time⟩), (g + 1, wiO Wi0)] wr) (fun _ i _ => 31 - (intOf i).toNat)
  case atStart => exact ⟨0, 0, 0, none, [], by omega, by omega, rfl, rfl, appE_nil _ _, by intro p hp; simp at hp, KK.out⟩
  case round =>
    obtain ⟨k, n, cap, a2, qs, hk, hnk, rfl, rfl, hA, hQ, hK⟩ := hrel
    clear KK
    have KK := Lib.hid hK
    have HA := Lib.hid hA
    clear hK hA
    have c5 := (wi_cells KK.out.hd rfl).c5
    simp only at c5
    have hzr := KK.out.lt (g + 1, wiO Wi0) (by simp)
    simp only at hzr
    by_cases hlt : k < pn
    · have t1 : decide ((k : Int) < (pn : Int)) = true := decide_eq_true (by omega)
      by_cases h30 : k < 30
      · have t2 : decide ((k : Int) < 30) = true := decide_eq_true (by omega)
        obtain ⟨b, o, x, rfl, hbl, hx, hC⟩ := HPP.out.r.at (by rw [hg]; exact KK.out.b) k hlt
        have hxw := HPP.out.wf x (List.mem_of_getElem? hx)
        have hxs := hxw.1
        have HXW := Lib.hid hxw
        obtain ⟨p0, p1, p2, p3, p4, p5⟩ := pt_cells hC
        have i1 : (0 : Int) ≤ (k : Int) := by omega
        have i2 : (k : Int) < (pn : Int) := by omega
        clear hC hxw hx
        go_upto_region 9 with fail
        generalize hwq : World.alloc _ _ = w4
        have KP := Lib.hid (show Kn g w [(wr.heap.size, ptO x), (g, wiO ⟨kind, id, s2, from_, to_, ⟨some ⟨b, o, none⟩, pn, pc⟩, ⟨ra, rn, rc⟩, vc, time⟩), (g + 1, wiO Wi0)] w4 by rw [← hwq]; exact KK.out.new' rfl (ptO x))
        have HA4 := Lib.hid (show AppE Pt.cs 90 6 w4 (g + 2) a2 n cap qs by rw [← hwq]; exact HA.out.below ((Below.refl _ _).alloc (Nat.le_refl _) _))
        have hz4 : w4.heap.size = wr.heap.size + 1 := by rw [← hwq]; simp
        have H4 : Hid (∀ b', b' < wr.heap.size → w4.heap[b']? = wr.heap[b']?) := fun b' hb' => by rw [← hwq]; exact Below.heap_alloc _ _ b' hb'
        clear hwq p0 p1 p2 p3 p4 p5
        obtain ⟨q, hq⟩ : ∃ q, wr.heap.size = q := ⟨_, rfl⟩
        rw [hq] at KP hz4 hzr ⊢
        clear KK c5
        have c0 := KP.out.cell (g := q) (o := ptO x) (by simp) (j := 0) (v := .string x.series) rfl
        have f0 := KP.out.fz (g := q) (o := ptO x) (by simp) 0
        go_upto_if 39 with fail
        go_cut [39] (fun v wx => ∃ y : Pt, y.wf ∧ AppE Pt.cs 90 6 wx (g + 2) a2 n cap qs ∧ wx.heap.size = q + 1 ∧ Kn g w [(q, ptO y), (g, wiO ⟨kind, id, s2, from_, to_, ⟨some ⟨b, o, none⟩, pn, pc⟩, ⟨ra, rn, rc⟩, vc, time⟩), (g + 1, wiO Wi0)] wx)
        case first =>
          by_cases hl : (x.series.size : Int) > 60
          · have t3 : decide ((x.series.size : Int) > 60) = true := decide_eq_true hl
            have i3 : (60 : Int) ≤ (x.series.size : Int) := by omega
            go_wp2_with fail
            go_meet
            exact ⟨fewP x, ⟨by show (x.series.extract 0 60).size ≤ maxLen; rw [ByteArray.size_extract]; unfold maxLen; omega, HXW.out.2⟩, appE_keep HA.out (fun b' h1 h2 => (Below.heap_setCell _ _ _ _ (by simp only; omega)).trans (H4.out b' h2)), by simpa [World.setCell] using hz4, Kn.setCell KP.out (by simp only [Apart, and_true]; omega) (by omega) 0 _ (ptO (fewP x)) rfl⟩
          · have t3 : decide ((x.series.size : Int) > 60) = false := decide_eq_false hl
            go_wp2_with fail
            go_meet
            exact ⟨x, HXW.out, HA4.out, hz4, KP.out⟩
        case rest =>
        obtain ⟨y, hyw, hA5, hz5, hk5⟩ := hcut
        clear KP HA4 HA H4 c0 f0 hz4 HXW hxs
        have KP := Lib.hid hk5
        have HA := Lib.hid hA5
        have HYW := Lib.hid hyw
        have hz6 : g + 2 ≤ wc.heap.size := by omega
        clear hk5 hA5 hyw hz5
        obtain ⟨ys, yt, yv, ⟨yc, yi, yq⟩⟩ := y
        have c0 := KP.out.cell (g := q) (o := ptO ⟨ys, yt, yv, ⟨yc, yi, yq⟩⟩) (by simp) (j := 0) (v := .string ys) rfl
        have c1 := KP.out.cell (g := q) (o := ptO ⟨ys, yt, yv, ⟨yc, yi, yq⟩⟩) (by simp) (j := 1) (v := .int .i64 yt) rfl
        have c2 := KP.out.cell (g := q) (o := ptO ⟨ys, yt, yv, ⟨yc, yi, yq⟩⟩) (by simp) (j := 2) (v := .int .i64 yv) rfl
        have c3 := KP.out.cell (g := q) (o := ptO ⟨ys, yt, yv, ⟨yc, yi, yq⟩⟩) (by simp) (j := 3) (v := .int .i64 yc) rfl
        have c4 := KP.out.cell (g := q) (o := ptO ⟨ys, yt, yv, ⟨yc, yi, yq⟩⟩) (by simp) (j := 4) (v := .int .i64 yi) rfl
        have c5 := KP.out.cell (g := q) (o := ptO ⟨ys, yt, yv, ⟨yc, yi, yq⟩⟩) (by simp) (j := 5) (v := .int .i64 yq) rfl
        go_wp2_with (at_builtin; refine wpList_append_E pt_ety rfl _ _ rfl _ (g + 2) a2 n cap qs rfl (HA.out.below ?q1) ?q2 ?q3 wc.heap.size 1 ⟨ys, yt, yv, ⟨yc, yi, yq⟩⟩ rfl ?q4 ?q5)
        case q1 => exact (Below.refl _ _).alloc (Nat.le_refl _) _
        case q2 => first | omega | (simp; omega)
        case q3 => omega
        case q4 =>
          intro j u hj
          rw [Nat.zero_add, World.cell?_alloc_new]
          show (Pt.cs ⟨ys, yt, yv, ⟨yc, yi, yq⟩⟩).toArray[j]? = some u
          simpa using hj
        case q5 =>
          intro a3 cap3 w5 hA5 hb5
          have HA := Lib.hid hA5
          have KK := Lib.hid (Kn.belowB ((KP.out.new (ptO ⟨ys, yt, yv, ⟨yc, yi, yq⟩⟩)).sub (m := [(g, wiO ⟨kind, id, s2, from_, to_, ⟨some ⟨b, o, none⟩, pn, pc⟩, ⟨ra, rn, rc⟩, vc, time⟩), (g + 1, wiO Wi0)]) (by simp)) hb5 (by omega) (by simp))
          have HQ2 : Hid (Hid (∀ p ∈ qs ++ [⟨ys, yt, yv, ⟨yc, yi, yq⟩⟩], p.wf)) := fun p hp => by
            rcases List.mem_append.1 hp with hp | hp
            · exact hQ.out p hp
            · simp only [List.mem_singleton] at hp
              subst hp
              exact HYW.out
          clear hA5 hb5 c0 c1 c2 c3 c4 c5 KP
          go_wp2_with fail
          go_roundw
          case rel => exact ⟨k + 1, n + 1, cap3, a3, qs ++ [⟨ys, yt, yv, ⟨yc, yi, yq⟩⟩], by omega, by omega, by go_num, rfl, HA.out, HQ2.out, KK.out⟩
          case measure => simp [intOf]; omega
      · have t2 : decide ((k : Int) < 30) = false := decide_eq_false (by omega)
        go_upto_region 12 with fail
        have f5 := KK.out.fz (g := g) (o := wiO ⟨kind, id, s2, from_, to_, ⟨pa, pn, pc⟩, ⟨ra, rn, rc⟩, vc, time⟩) (by simp) 5
        go_upto_region 13 with fail
        generalize hw6 : World.setCell _ _ _ = w6
        have KZ := Lib.hid (show Kn g w [(g, wiO ⟨kind, id, s2, from_, to_, ⟨a2, n, cap⟩, ⟨ra, rn, rc⟩, vc, time⟩), (g + 1, wiO Wi0)] w6 by rw [← hw6]; exact Kn.setCell KK.out (by simp only [Apart, and_true]; omega) (by omega) 5 _ (wiO ⟨kind, id, s2, from_, to_, ⟨a2, n, cap⟩, ⟨ra, rn, rc⟩, vc, time⟩) rfl)
        have HPT := Lib.hid (show AppE Pt.cs 90 6 w6 (g + 2) a2 n cap qs by rw [← hw6]; exact HA.out.but2 (But.set g 5 _ _) (by omega))
        clear hw6 f5 c5 KK HA t1
        obtain ⟨Z, hZ⟩ : ∃ Z, w6.heap.size = Z := ⟨_, rfl⟩
        have hgz : g + 2 ≤ Z := by have := KZ.out.lt (g + 1, wiO Wi0) (by simp); simp only at this; omega
        go_wp2_with fail
        go_loopw [6, 7] (fun out i wr => ∃ (k n2 cap2 : Nat) (a3 : Option Addr) (ts : List RecA), k ≤ 20 ∧ n2 ≤ k ∧ i = .int .i64 k ∧ out = .slice a3 n2 cap2 ∧ AppE RecA.cs 60 9 wr Z a3 n2 cap2 ts ∧ Hid (∀ y ∈ ts, ∃ x ∈ rs, y = x.small) ∧ Below Z w6 wr) (fun _ i _ => 21 - (intOf i).toNat)
        case atStart => exact ⟨0, 0, 0, none, [], by omega, by omega, rfl, rfl, appE_nil _ _, by intro p hp; simp at hp, Below.refl _ _⟩
        case round =>
          obtain ⟨k, n2, cap2, a3, ts, hk, hnk, rfl, rfl, hA, hT, hBZ⟩ := hrel
          have HA := Lib.hid hA
          have hzz : Z ≤ wr.heap.size := by have := hBZ.size; omega
          have c6 := (wi_cells (KZ.out.belowB hBZ (by omega) (by simp; omega)).hd rfl).c6
          simp only at c6
          clear hA
          by_cases hlt : k < rn
          · have t1 : decide ((k : Int) < (rn : Int)) = true := decide_eq_true (by omega)
            by_cases h20 : k < 20
            · have t2 : decide ((k : Int) < 20) = true := decide_eq_true (by omega)
              have hBW : Below g w wr := (KZ.out.belowB hBZ (by omega) (by simp; omega)).b
              obtain ⟨b, o, x, rfl, hbl, hx, hC⟩ := HRR.out.r.at (by rw [hg]; exact hBW) k hlt
              have HXO := Lib.hid (HRR.out.ok x (List.mem_of_getElem? hx))
              have HYX : Hid (∃ z ∈ rs, RecA.small x = z.small) := ⟨x, List.mem_of_getElem? hx, rfl⟩
              have hCX : CellsAt wr b (o + k * 9) [.int .i64 x.r.kind, .string x.r.series, .int .i64 x.r.time, .int .i64 x.r.value, .int .i64 x.r.tier, .int .i64 x.r.st.clock, .int .i64 x.r.st.site, .int .i64 x.r.st.seq, .slice x.d.a x.d.n x.d.c] := hC
              have i1 : (0 : Int) ≤ (k : Int) := by omega
              have i2 : (k : Int) < (rn : Int) := by omega
              have RC := record19_any x wr (HXO.out.below (by rw [hg]; exact hBW))
              generalize RecA.small x = Y at *
              unfold RecA.val rcVal rcA at RC
              clear hC hx hBW
              go_wp2_with (first
                | refine wpList_load_mid rfl 60 _ rfl b (o + k * 9) rfl [.int .i64 x.r.kind, .string x.r.series, .int .i64 x.r.time, .int .i64 x.r.value, .int .i64 x.r.tier, .int .i64 x.r.st.clock, .int .i64 x.r.st.site, .int .i64 x.r.st.seq, .slice x.d.a x.d.n x.d.c] _ hCX Tryz.underlying60 rfl (by kernel_rfl) ?_
                | (go_at_call 27; refine RC.mono ?_; rintro e w8 ⟨rfl, dn⟩; have hz8 := dn.size; have HA := Lib.hid (HA.out.below dn); have HB8 := Lib.hid (below_then hBZ hzz dn); clear dn)
                | (at_builtin; refine wpList_append_E rec_ety rfl _ _ rfl _ Z a3 n2 cap2 ts rfl (HA.out.below ?q1) ?q2 ?q3 w8.heap.size 1 Y rfl ?q4 ?q5))
              case q1 => exact (Below.refl _ _).alloc (Nat.le_refl _) _
              case q2 => first | omega | (simp; omega)
              case q3 => omega
              case q4 => exact rec_new19 w8 Y.r Y.d Y.ds
              case q5 =>
                intro a4 cap4 w5 hA5 hb5
                have HA := Lib.hid hA5
                have HB5 := Lib.hid (HB8.out.trans (((Below.refl Z w8).alloc (by omega) _).trans hb5))
                have HT2 : Hid (Hid (∀ y ∈ ts ++ [Y], ∃ x ∈ rs, y = x.small)) := fun y hy => by
                  rcases List.mem_append.1 hy with hy | hy
                  · exact hT.out y hy
                  · simp only [List.mem_singleton] at hy
                    rw [hy]; exact HYX.out
                clear hA5 hb5 hCX c6
                go_wp2_with fail
                go_roundw
                case rel => exact ⟨k + 1, n2 + 1, cap4, a4, ts ++ [Y], by omega, by omega, by go_num, rfl, HA.out, HT2.out, HB5.out⟩
                case measure => simp [intOf]; omega
            · have t2 : decide ((k : Int) < 20) = false := decide_eq_false (by omega)
              go_upto_region 18 with fail
              clear c6
              have KR := Lib.hid (show Kn g w [(g, wiO ⟨kind, id, s2, from_, to_, ⟨a2, n, cap⟩, ⟨ra, rn, rc⟩, vc, time⟩), (g + 1, wiO Wi0)] wr from KZ.out.belowB hBZ (by omega) (by simp; omega))
              have HPR := Lib.hid (HPT.out.below (by rw [hZ]; exact hBZ))
              have f6 := KR.out.fz (g := g) (o := wiO ⟨kind, id, s2, from_, to_, ⟨a2, n, cap⟩, ⟨ra, rn, rc⟩, vc, time⟩) (by simp) 6
              have c6 := (wi_cells KR.out.hd rfl).c6
              simp only at c6
              go_upto_region 19 with fail
              generalize hw9 : World.setCell _ _ _ = w9
              have KF := Lib.hid (show Kn g w [(g, wiO ⟨kind, id, s2, from_, to_, ⟨a2, n, cap⟩, ⟨a3, n2, cap2⟩, vc, time⟩), (g + 1, wiO Wi0)] w9 by rw [← hw9]; exact Kn.setCell KR.out (by simp only [Apart, and_true]; omega) (by omega) 6 _ (wiO ⟨kind, id, s2, from_, to_, ⟨a2, n, cap⟩, ⟨a3, n2, cap2⟩, vc, time⟩) rfl)
              have HP9 := Lib.hid (show AppE Pt.cs 90 6 w9 (g + 2) a2 n cap qs by rw [← hw9]; exact HPR.out.but2 (But.set g 6 _ _) (by omega))
              have HR9 := Lib.hid (show AppE RecA.cs 60 9 w9 (g + 2) a3 n2 cap2 ts by rw [← hw9]; exact (HA.out.mono hgz).but2 (But.set g 6 _ _) (by omega))
              clear hw9 f6 c6 KR HPR HA KZ
              go_wp2_with (first
                | refine wpList_load_row rfl 33 _ rfl g rfl 33 (Wi.arr ⟨kind, id, s2, from_, to_, ⟨a2, n, cap⟩, ⟨a3, n2, cap2⟩, vc, time⟩) (0, 0) _ KF.out.hd Tryz.underlying33 rfl (by kernel_rfl) ?_
                | refine wpList_store_row rfl 33 _ _ rfl (g + 1) (Wi.arr ⟨kind, id, s2, from_, to_, ⟨a2, n, cap⟩, ⟨a3, n2, cap2⟩, vc, time⟩) rfl rfl 33 _ (KF.out.at_ (g + 1, wiO Wi0) (by simp)) (by kernel_rfl) rfl (wi_one _) ?_)
              have KE := Kn.setRow (KF.out.sub (m := [(g + 1, wiO Wi0)]) (by simp)) trivial (by omega) (wiO ⟨kind, id, s2, from_, to_, ⟨a2, n, cap⟩, ⟨a3, n2, cap2⟩, vc, time⟩)
              have hPE := HP9.out.but2 (But.row (g + 1) w9 (Wi.arr ⟨kind, id, s2, from_, to_, ⟨a2, n, cap⟩, ⟨a3, n2, cap2⟩, vc, time⟩)) (by omega)
              have hRE := HR9.out.but2 (But.row (g + 1) w9 (Wi.arr ⟨kind, id, s2, from_, to_, ⟨a2, n, cap⟩, ⟨a3, n2, cap2⟩, vc, time⟩)) (by omega)
              refine bodyPost_ret (v := .agg (Wi.arr ⟨kind, id, s2, from_, to_, ⟨a2, n, cap⟩, ⟨a3, n2, cap2⟩, vc, time⟩)) (results_cell_row rfl _ _ (g + 1) 33 (Wi.arr ⟨kind, id, s2, from_, to_, ⟨a2, n, cap⟩, ⟨a3, n2, cap2⟩, vc, time⟩) (0, 0) _ rfl KE.hd Tryz.underlying33 rfl (by kernel_rfl)) rfl ⟨⟨kind, id, s2, from_, to_, ⟨a2, n, cap⟩, ⟨a3, n2, cap2⟩, vc, time⟩, qs, ts, vs.take 12, rfl, ⟨⟨(AppE.reads pt_len (by decide) hPE).1, hQ.out, hPE.le, maxLen_i hPE.max⟩, ⟨(AppE.reads rec_len (by decide) hRE).1, fun y hy => (by obtain ⟨x, hx, rfl⟩ := hT.out y hy; exact (RecA.small_ok (HRR.out.ok x hx)).below (by rw [hg]; exact KE.b)), hRE.le, maxLen_i hRE.max⟩, hVC.out.below (by rw [hg]; exact KE.b), hf, ht, hs2⟩, fun G hG hX => ⟨hPE.far1 (by omega), hRE.far1 (by omega), (HGV.out G hX).1, fun y hy => (by obtain ⟨x, hx, rfl⟩ := hT.out y hy; exact (HGV.out G hX).2 x hx)⟩, by first | exact KE.b | (rw [hg]; exact KE.b)⟩
          · have t1 : decide ((k : Int) < (rn : Int)) = false := decide_eq_false (by omega)
            go_upto_region 18 with fail
            clear c6
            have KR := Lib.hid (show Kn g w [(g, wiO ⟨kind, id, s2, from_, to_, ⟨a2, n, cap⟩, ⟨ra, rn, rc⟩, vc, time⟩), (g + 1, wiO Wi0)] wr from KZ.out.belowB hBZ (by omega) (by simp; omega))
            have HPR := Lib.hid (HPT.out.below (by rw [hZ]; exact hBZ))
            have f6 := KR.out.fz (g := g) (o := wiO ⟨kind, id, s2, from_, to_, ⟨a2, n, cap⟩, ⟨ra, rn, rc⟩, vc, time⟩) (by simp) 6
            have c6 := (wi_cells KR.out.hd rfl).c6
            simp only at c6
            go_upto_region 19 with fail
            generalize hw9 : World.setCell _ _ _ = w9
            have KF := Lib.hid (show Kn g w [(g, wiO ⟨kind, id, s2, from_, to_, ⟨a2, n, cap⟩, ⟨a3, n2, cap2⟩, vc, time⟩), (g + 1, wiO Wi0)] w9 by rw [← hw9]; exact Kn.setCell KR.out (by simp only [Apart, and_true]; omega) (by omega) 6 _ (wiO ⟨kind, id, s2, from_, to_, ⟨a2, n, cap⟩, ⟨a3, n2, cap2⟩, vc, time⟩) rfl)
            have HP9 := Lib.hid (show AppE Pt.cs 90 6 w9 (g + 2) a2 n cap qs by rw [← hw9]; exact HPR.out.but2 (But.set g 6 _ _) (by omega))
            have HR9 := Lib.hid (show AppE RecA.cs 60 9 w9 (g + 2) a3 n2 cap2 ts by rw [← hw9]; exact (HA.out.mono hgz).but2 (But.set g 6 _ _) (by omega))
            clear hw9 f6 c6 KR HPR HA KZ
            go_wp2_with (first
              | refine wpList_load_row rfl 33 _ rfl g rfl 33 (Wi.arr ⟨kind, id, s2, from_, to_, ⟨a2, n, cap⟩, ⟨a3, n2, cap2⟩, vc, time⟩) (0, 0) _ KF.out.hd Tryz.underlying33 rfl (by kernel_rfl) ?_
              | refine wpList_store_row rfl 33 _ _ rfl (g + 1) (Wi.arr ⟨kind, id, s2, from_, to_, ⟨a2, n, cap⟩, ⟨a3, n2, cap2⟩, vc, time⟩) rfl rfl 33 _ (KF.out.at_ (g + 1, wiO Wi0) (by simp)) (by kernel_rfl) rfl (wi_one _) ?_)
            have KE := Kn.setRow (KF.out.sub (m := [(g + 1, wiO Wi0)]) (by simp)) trivial (by omega) (wiO ⟨kind, id, s2, from_, to_, ⟨a2, n, cap⟩, ⟨a3, n2, cap2⟩, vc, time⟩)
            have hPE := HP9.out.but2 (But.row (g + 1) w9 (Wi.arr ⟨kind, id, s2, from_, to_, ⟨a2, n, cap⟩, ⟨a3, n2, cap2⟩, vc, time⟩)) (by omega)
            have hRE := HR9.out.but2 (But.row (g + 1) w9 (Wi.arr ⟨kind, id, s2, from_, to_, ⟨a2, n, cap⟩, ⟨a3, n2, cap2⟩, vc, time⟩)) (by omega)
            refine bodyPost_ret (v := .agg (Wi.arr ⟨kind, id, s2, from_, to_, ⟨a2, n, cap⟩, ⟨a3, n2, cap2⟩, vc, time⟩)) (results_cell_row rfl _ _ (g + 1) 33 (Wi.arr ⟨kind, id, s2, from_, to_, ⟨a2, n, cap⟩, ⟨a3, n2, cap2⟩, vc, time⟩) (0, 0) _ rfl KE.hd Tryz.underlying33 rfl (by kernel_rfl)) rfl ⟨⟨kind, id, s2, from_, to_, ⟨a2, n, cap⟩, ⟨a3, n2, cap2⟩, vc, time⟩, qs, ts, vs.take 12, rfl, ⟨⟨(AppE.reads pt_len (by decide) hPE).1, hQ.out, hPE.le, maxLen_i hPE.max⟩, ⟨(AppE.reads rec_len (by decide) hRE).1, fun y hy => (by obtain ⟨x, hx, rfl⟩ := hT.out y hy; exact (RecA.small_ok (HRR.out.ok x hx)).below (by rw [hg]; exact KE.b)), hRE.le, maxLen_i hRE.max⟩, hVC.out.below (by rw [hg]; exact KE.b), hf, ht, hs2⟩, fun G hG hX => ⟨hPE.far1 (by omega), hRE.far1 (by omega), (HGV.out G hX).1, fun y hy => (by obtain ⟨x, hx, rfl⟩ := hT.out y hy; exact (HGV.out G hX).2 x hx)⟩, by first | exact KE.b | (rw [hg]; exact KE.b)⟩
    · have t1 : decide ((k : Int) < (pn : Int)) = false := decide_eq_false (by omega)
      go_upto_region 12 with fail
      have f5 := KK.out.fz (g := g) (o := wiO ⟨kind, id, s2, from_, to_, ⟨pa, pn, pc⟩, ⟨ra, rn, rc⟩, vc, time⟩) (by simp) 5
      go_upto_region 13 with fail
      generalize hw6 : World.setCell _ _ _ = w6
      have KZ := Lib.hid (show Kn g w [(g, wiO ⟨kind, id, s2, from_, to_, ⟨a2, n, cap⟩, ⟨ra, rn, rc⟩, vc, time⟩), (g + 1, wiO Wi0)] w6 by rw [← hw6]; exact Kn.setCell KK.out (by simp only [Apart, and_true]; omega) (by omega) 5 _ (wiO ⟨kind, id, s2, from_, to_, ⟨a2, n, cap⟩, ⟨ra, rn, rc⟩, vc, time⟩) rfl)
      have HPT := Lib.hid (show AppE Pt.cs 90 6 w6 (g + 2) a2 n cap qs by rw [← hw6]; exact HA.out.but2 (But.set g 5 _ _) (by omega))
      clear hw6 f5 c5 KK HA t1
      obtain ⟨Z, hZ⟩ : ∃ Z, w6.heap.size = Z := ⟨_, rfl⟩
      have hgz : g + 2 ≤ Z := by have := KZ.out.lt (g + 1, wiO Wi0) (by simp); simp only at this; omega
      go_wp2_with fail
      go_loopw [6, 7] (fun out i wr => ∃ (k n2 cap2 : Nat) (a3 : Option Addr) (ts : List RecA), k ≤ 20 ∧ n2 ≤ k ∧ i = .int .i64 k ∧ out = .slice a3 n2 cap2 ∧ AppE RecA.cs 60 9 wr Z a3 n2 cap2 ts ∧ Hid (∀ y ∈ ts, ∃ x ∈ rs, y = x.small) ∧ Below Z w6 wr) (fun _ i _ => 21 - (intOf i).toNat)
      case atStart => exact ⟨0, 0, 0, none, [], by omega, by omega, rfl, rfl, appE_nil _ _, by intro p hp; simp at hp, Below.refl _ _⟩
      case round =>
        obtain ⟨k, n2, cap2, a3, ts, hk, hnk, rfl, rfl, hA, hT, hBZ⟩ := hrel
        have HA := Lib.hid hA
        have hzz : Z ≤ wr.heap.size := by have := hBZ.size; omega
        have c6 := (wi_cells (KZ.out.belowB hBZ (by omega) (by simp; omega)).hd rfl).c6
        simp only at c6
        clear hA
        by_cases hlt : k < rn
        · have t1 : decide ((k : Int) < (rn : Int)) = true := decide_eq_true (by omega)
          by_cases h20 : k < 20
          · have t2 : decide ((k : Int) < 20) = true := decide_eq_true (by omega)
            have hBW : Below g w wr := (KZ.out.belowB hBZ (by omega) (by simp; omega)).b
            obtain ⟨b, o, x, rfl, hbl, hx, hC⟩ := HRR.out.r.at (by rw [hg]; exact hBW) k hlt
            have HXO := Lib.hid (HRR.out.ok x (List.mem_of_getElem? hx))
            have HYX : Hid (∃ z ∈ rs, RecA.small x = z.small) := ⟨x, List.mem_of_getElem? hx, rfl⟩
            have hCX : CellsAt wr b (o + k * 9) [.int .i64 x.r.kind, .string x.r.series, .int .i64 x.r.time, .int .i64 x.r.value, .int .i64 x.r.tier, .int .i64 x.r.st.clock, .int .i64 x.r.st.site, .int .i64 x.r.st.seq, .slice x.d.a x.d.n x.d.c] := hC
            have i1 : (0 : Int) ≤ (k : Int) := by omega
            have i2 : (k : Int) < (rn : Int) := by omega
            have RC := record19_any x wr (HXO.out.below (by rw [hg]; exact hBW))
            generalize RecA.small x = Y at *
            unfold RecA.val rcVal rcA at RC
            clear hC hx hBW
            go_wp2_with (first
              | refine wpList_load_mid rfl 60 _ rfl b (o + k * 9) rfl [.int .i64 x.r.kind, .string x.r.series, .int .i64 x.r.time, .int .i64 x.r.value, .int .i64 x.r.tier, .int .i64 x.r.st.clock, .int .i64 x.r.st.site, .int .i64 x.r.st.seq, .slice x.d.a x.d.n x.d.c] _ hCX Tryz.underlying60 rfl (by kernel_rfl) ?_
              | (go_at_call 27; refine RC.mono ?_; rintro e w8 ⟨rfl, dn⟩; have hz8 := dn.size; have HA := Lib.hid (HA.out.below dn); have HB8 := Lib.hid (below_then hBZ hzz dn); clear dn)
              | (at_builtin; refine wpList_append_E rec_ety rfl _ _ rfl _ Z a3 n2 cap2 ts rfl (HA.out.below ?q1) ?q2 ?q3 w8.heap.size 1 Y rfl ?q4 ?q5))
            case q1 => exact (Below.refl _ _).alloc (Nat.le_refl _) _
            case q2 => first | omega | (simp; omega)
            case q3 => omega
            case q4 => exact rec_new19 w8 Y.r Y.d Y.ds
            case q5 =>
              intro a4 cap4 w5 hA5 hb5
              have HA := Lib.hid hA5
              have HB5 := Lib.hid (HB8.out.trans (((Below.refl Z w8).alloc (by omega) _).trans hb5))
              have HT2 : Hid (Hid (∀ y ∈ ts ++ [Y], ∃ x ∈ rs, y = x.small)) := fun y hy => by
                rcases List.mem_append.1 hy with hy | hy
                · exact hT.out y hy
                · simp only [List.mem_singleton] at hy
                  rw [hy]; exact HYX.out
              clear hA5 hb5 hCX c6
              go_wp2_with fail
              go_roundw
              case rel => exact ⟨k + 1, n2 + 1, cap4, a4, ts ++ [Y], by omega, by omega, by go_num, rfl, HA.out, HT2.out, HB5.out⟩
              case measure => simp [intOf]; omega
          · have t2 : decide ((k : Int) < 20) = false := decide_eq_false (by omega)
            go_upto_region 18 with fail
            clear c6
            have KR := Lib.hid (show Kn g w [(g, wiO ⟨kind, id, s2, from_, to_, ⟨a2, n, cap⟩, ⟨ra, rn, rc⟩, vc, time⟩), (g + 1, wiO Wi0)] wr from KZ.out.belowB hBZ (by omega) (by simp; omega))
            have HPR := Lib.hid (HPT.out.below (by rw [hZ]; exact hBZ))
            have f6 := KR.out.fz (g := g) (o := wiO ⟨kind, id, s2, from_, to_, ⟨a2, n, cap⟩, ⟨ra, rn, rc⟩, vc, time⟩) (by simp) 6
            have c6 := (wi_cells KR.out.hd rfl).c6
            simp only at c6
            go_upto_region 19 with fail
            generalize hw9 : World.setCell _ _ _ = w9
            have KF := Lib.hid (show Kn g w [(g, wiO ⟨kind, id, s2, from_, to_, ⟨a2, n, cap⟩, ⟨a3, n2, cap2⟩, vc, time⟩), (g + 1, wiO Wi0)] w9 by rw [← hw9]; exact Kn.setCell KR.out (by simp only [Apart, and_true]; omega) (by omega) 6 _ (wiO ⟨kind, id, s2, from_, to_, ⟨a2, n, cap⟩, ⟨a3, n2, cap2⟩, vc, time⟩) rfl)
            have HP9 := Lib.hid (show AppE Pt.cs 90 6 w9 (g + 2) a2 n cap qs by rw [← hw9]; exact HPR.out.but2 (But.set g 6 _ _) (by omega))
            have HR9 := Lib.hid (show AppE RecA.cs 60 9 w9 (g + 2) a3 n2 cap2 ts by rw [← hw9]; exact (HA.out.mono hgz).but2 (But.set g 6 _ _) (by omega))
            clear hw9 f6 c6 KR HPR HA KZ
            go_wp2_with (first
              | refine wpList_load_row rfl 33 _ rfl g rfl 33 (Wi.arr ⟨kind, id, s2, from_, to_, ⟨a2, n, cap⟩, ⟨a3, n2, cap2⟩, vc, time⟩) (0, 0) _ KF.out.hd Tryz.underlying33 rfl (by kernel_rfl) ?_
              | refine wpList_store_row rfl 33 _ _ rfl (g + 1) (Wi.arr ⟨kind, id, s2, from_, to_, ⟨a2, n, cap⟩, ⟨a3, n2, cap2⟩, vc, time⟩) rfl rfl 33 _ (KF.out.at_ (g + 1, wiO Wi0) (by simp)) (by kernel_rfl) rfl (wi_one _) ?_)
            have KE := Kn.setRow (KF.out.sub (m := [(g + 1, wiO Wi0)]) (by simp)) trivial (by omega) (wiO ⟨kind, id, s2, from_, to_, ⟨a2, n, cap⟩, ⟨a3, n2, cap2⟩, vc, time⟩)
            have hPE := HP9.out.but2 (But.row (g + 1) w9 (Wi.arr ⟨kind, id, s2, from_, to_, ⟨a2, n, cap⟩, ⟨a3, n2, cap2⟩, vc, time⟩)) (by omega)
            have hRE := HR9.out.but2 (But.row (g + 1) w9 (Wi.arr ⟨kind, id, s2, from_, to_, ⟨a2, n, cap⟩, ⟨a3, n2, cap2⟩, vc, time⟩)) (by omega)
            refine bodyPost_ret (v := .agg (Wi.arr ⟨kind, id, s2, from_, to_, ⟨a2, n, cap⟩, ⟨a3, n2, cap2⟩, vc, time⟩)) (results_cell_row rfl _ _ (g + 1) 33 (Wi.arr ⟨kind, id, s2, from_, to_, ⟨a2, n, cap⟩, ⟨a3, n2, cap2⟩, vc, time⟩) (0, 0) _ rfl KE.hd Tryz.underlying33 rfl (by kernel_rfl)) rfl ⟨⟨kind, id, s2, from_, to_, ⟨a2, n, cap⟩, ⟨a3, n2, cap2⟩, vc, time⟩, qs, ts, vs.take 12, rfl, ⟨⟨(AppE.reads pt_len (by decide) hPE).1, hQ.out, hPE.le, maxLen_i hPE.max⟩, ⟨(AppE.reads rec_len (by decide) hRE).1, fun y hy => (by obtain ⟨x, hx, rfl⟩ := hT.out y hy; exact (RecA.small_ok (HRR.out.ok x hx)).below (by rw [hg]; exact KE.b)), hRE.le, maxLen_i hRE.max⟩, hVC.out.below (by rw [hg]; exact KE.b), hf, ht, hs2⟩, fun G hG hX => ⟨hPE.far1 (by omega), hRE.far1 (by omega), (HGV.out G hX).1, fun y hy => (by obtain ⟨x, hx, rfl⟩ := hT.out y hy; exact (HGV.out G hX).2 x hx)⟩, by first | exact KE.b | (rw [hg]; exact KE.b)⟩
        · have t1 : decide ((k : Int) < (rn : Int)) = false := decide_eq_false (by omega)
          go_upto_region 18 with fail
          clear c6
          have KR := Lib.hid (show Kn g w [(g, wiO ⟨kind, id, s2, from_, to_, ⟨a2, n, cap⟩, ⟨ra, rn, rc⟩, vc, time⟩), (g + 1, wiO Wi0)] wr from KZ.out.belowB hBZ (by omega) (by simp; omega))
          have HPR := Lib.hid (HPT.out.below (by rw [hZ]; exact hBZ))
          have f6 := KR.out.fz (g := g) (o := wiO ⟨kind, id, s2, from_, to_, ⟨a2, n, cap⟩, ⟨ra, rn, rc⟩, vc, time⟩) (by simp) 6
          have c6 := (wi_cells KR.out.hd rfl).c6
          simp only at c6
          go_upto_region 19 with fail
          generalize hw9 : World.setCell _ _ _ = w9
          have KF := Lib.hid (show Kn g w [(g, wiO ⟨kind, id, s2, from_, to_, ⟨a2, n, cap⟩, ⟨a3, n2, cap2⟩, vc, time⟩), (g + 1, wiO Wi0)] w9 by rw [← hw9]; exact Kn.setCell KR.out (by simp only [Apart, and_true]; omega) (by omega) 6 _ (wiO ⟨kind, id, s2, from_, to_, ⟨a2, n, cap⟩, ⟨a3, n2, cap2⟩, vc, time⟩) rfl)
          have HP9 := Lib.hid (show AppE Pt.cs 90 6 w9 (g + 2) a2 n cap qs by rw [← hw9]; exact HPR.out.but2 (But.set g 6 _ _) (by omega))
          have HR9 := Lib.hid (show AppE RecA.cs 60 9 w9 (g + 2) a3 n2 cap2 ts by rw [← hw9]; exact (HA.out.mono hgz).but2 (But.set g 6 _ _) (by omega))
          clear hw9 f6 c6 KR HPR HA KZ
          go_wp2_with (first
            | refine wpList_load_row rfl 33 _ rfl g rfl 33 (Wi.arr ⟨kind, id, s2, from_, to_, ⟨a2, n, cap⟩, ⟨a3, n2, cap2⟩, vc, time⟩) (0, 0) _ KF.out.hd Tryz.underlying33 rfl (by kernel_rfl) ?_
            | refine wpList_store_row rfl 33 _ _ rfl (g + 1) (Wi.arr ⟨kind, id, s2, from_, to_, ⟨a2, n, cap⟩, ⟨a3, n2, cap2⟩, vc, time⟩) rfl rfl 33 _ (KF.out.at_ (g + 1, wiO Wi0) (by simp)) (by kernel_rfl) rfl (wi_one _) ?_)
          have KE := Kn.setRow (KF.out.sub (m := [(g + 1, wiO Wi0)]) (by simp)) trivial (by omega) (wiO ⟨kind, id, s2, from_, to_, ⟨a2, n, cap⟩, ⟨a3, n2, cap2⟩, vc, time⟩)
          have hPE := HP9.out.but2 (But.row (g + 1) w9 (Wi.arr ⟨kind, id, s2, from_, to_, ⟨a2, n, cap⟩, ⟨a3, n2, cap2⟩, vc, time⟩)) (by omega)
          have hRE := HR9.out.but2 (But.row (g + 1) w9 (Wi.arr ⟨kind, id, s2, from_, to_, ⟨a2, n, cap⟩, ⟨a3, n2, cap2⟩, vc, time⟩)) (by omega)
          refine bodyPost_ret (v := .agg (Wi.arr ⟨kind, id, s2, from_, to_, ⟨a2, n, cap⟩, ⟨a3, n2, cap2⟩, vc, time⟩)) (results_cell_row rfl _ _ (g + 1) 33 (Wi.arr ⟨kind, id, s2, from_, to_, ⟨a2, n, cap⟩, ⟨a3, n2, cap2⟩, vc, time⟩) (0, 0) _ rfl KE.hd Tryz.underlying33 rfl (by kernel_rfl)) rfl ⟨⟨kind, id, s2, from_, to_, ⟨a2, n, cap⟩, ⟨a3, n2, cap2⟩, vc, time⟩, qs, ts, vs.take 12, rfl, ⟨⟨(AppE.reads pt_len (by decide) hPE).1, hQ.out, hPE.le, maxLen_i hPE.max⟩, ⟨(AppE.reads rec_len (by decide) hRE).1, fun y hy => (by obtain ⟨x, hx, rfl⟩ := hT.out y hy; exact (RecA.small_ok (HRR.out.ok x hx)).below (by rw [hg]; exact KE.b)), hRE.le, maxLen_i hRE.max⟩, hVC.out.below (by rw [hg]; exact KE.b), hf, ht, hs2⟩, fun G hG hX => ⟨hPE.far1 (by omega), hRE.far1 (by omega), (HGV.out G hX).1, fun y hy => (by obtain ⟨x, hx, rfl⟩ := hT.out y hy; exact (HGV.out G hX).2 x hx)⟩, by first | exact KE.b | (rw [hg]; exact KE.b)⟩
end
end Go.Proofs.YtglabahbklpocaaGreat
