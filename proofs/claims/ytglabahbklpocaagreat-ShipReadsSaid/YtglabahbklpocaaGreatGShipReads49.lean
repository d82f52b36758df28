/- Both Reads of messages say the same: what the bytes tell, or nothing. ship.Peers: Note, Of, Least, Sent. -/
import Derived.Test.YtglabahbklpocaaGreatGShipReads47
import Derived.Test.YtglabahbklpocaaGreatGShipReads48
import Derived.Test.YtglabahbklpocaaGreatGShipReads35
import Derived.Test.YtglabahbklpocaaGreatGShipReads42
import Derived.Test.YtglabahbklpocaaGreatGShipReads13
import Derived.Test.YtglabahbklpocaaGreatGShipReads39
namespace Go.Proofs.YtglabahbklpocaaGreat
section
open Go.RowKit Go.Deep
set_option maxRecDepth 100000
set_option linter.unusedVariables false
set_option linter.unusedSimpArgs false
attribute [local go_sem ↓] Go.wp_at_zero Go.wp_at_succ
set_option maxHeartbeats 16000000 in
theorem rread0_any (s : ByteArray) (w : World) (hs : s.size ≤ 1000000000) (hk : ((r0 s).small 7).1 = 0) : Calls Tryz.prog 18 #[.string s] w fun e w' => ∃ (x : Wi) (E : Int), e = .returned (.tuple #[.agg x.arr, .int .i64 E]) ∧ Below w.heap.size w w' ∧ E = 10 ∧ x = Wi0 := by
  have hok := r0_ok hs
  obtain ⟨GD, HGD0⟩ : ∃ G, Hid (G = False) := ⟨_, rfl⟩
  obtain ⟨V, HV⟩ : ∃ G : Wi, Hid (G = Wi0) := ⟨_, rfl⟩
  suffices hh : Calls Tryz.prog 18 #[.string s] w fun e w' => ∃ (x : Wi) (E : Int), e = .returned (.tuple #[.agg x.arr, .int .i64 E]) ∧ Below w.heap.size w w' ∧ ((GD ∧ E = 0 ∧ x = x) ∨ (¬ GD ∧ E = 10 ∧ x = Wi0)) from hh.mono fun e w' ⟨x, E, h1, h2, h3⟩ => ⟨x, E, h1, h2, by
    rcases h3 with ⟨hg, _⟩ | ⟨_, h⟩
    · rw [HGD0.out] at hg; exact absurd hg id
    · exact h⟩
  have HGD1 : Hid (¬ GD) := by show ¬ _; rw [HGD0.out]; exact id
  have HI1 : Hid (id1 s = ((r0 s).small 7).2.small 1099511627776) := rfl
  clear HGD0 HV
  generalize id1 s = I1 at *
  go_enter Tryz.func18, Tryz.ntmps18
  go_upto_region 1 with fail
  generalize hw1 : World.alloc _ _ = w1
  have K1 : Kn w.heap.size w [(w.heap.size, wiO Wi0)] w1 := by rw [← hw1]; exact (Kn.start w).new' rfl (wiO Wi0)
  clear hw1
  obtain ⟨p, hp⟩ : ∃ p, w.heap.size = p := ⟨_, rfl⟩
  rw [hp] at K1 ⊢
  have hpl := K1.lt (p, wiO Wi0) (by simp)
  simp only at hpl
  go_upto_region 2 with fail
  generalize hw2 : World.alloc _ _ = w2
  have K2 : Kn p w [(w1.heap.size, rdO 105 (r0 s)), (p, wiO Wi0)] w2 := by rw [← hw2]; exact K1.new (rdO 105 (r0 s))
  have KK : Hid (Kr 105 w1.heap.size w [(p, wiO Wi0)] (r0 s) w2) := ⟨K2.hd, by intro x hx; simp only [List.mem_singleton] at hx; subst hx; exact ⟨by simp only; omega, K2.at_ (p, wiO Wi0) (by simp)⟩, But.of_below (by rw [hp]; exact K2.b)⟩
  clear hw2 K1 K2
  obtain ⟨g, hg⟩ : ∃ g, w1.heap.size = g := ⟨_, rfl⟩
  rw [hg] at KK hpl ⊢
  have k1 := Rdr.small_ok hok 7
  go_upto_region 3 with (first | (go_at_call 75; refine (rrdr_small g (r0 s) 7 _ KK.out.rd hok (by decide) (by decide)).mono ?_; rintro e w7 ⟨rfl, hn, dn⟩; have KK := Lib.hid (KK.out.step hn dn); clear hn dn) | (refine wpList_store_row rfl 33 _ _ rfl _ (Wi.arr ⟨((r0 s).small 7).1, 0, ⟨#[]⟩, 0, 0, Sl0, Sl0, Sl0, 0⟩) rfl rfl 33 _ (heap_alloc_new _ _) (by kernel_rfl) rfl (wi_one _) ?_; rw [World.setRow_alloc_new]))
  have hl7 : g < w7.heap.size := KK.out.rd.lt
  have hid := small_range k1.1 (m := 1099511627776) (by decide)
  have k2 := Rdr.small_ok k1.1 1099511627776
  obtain ⟨R1, hR1⟩ : ∃ R, ((r0 s).small 7).2 = R := ⟨_, rfl⟩
  rw [hR1] at KK k1 k2 hid
  clear hk
  generalize hw8 : World.alloc _ _ = w8
  have KK := Lib.hid (show Kr 105 g w [(w7.heap.size, wiO ⟨0, 0, ⟨#[]⟩, 0, 0, Sl0, Sl0, Sl0, 0⟩), (p, wiO Wi0)] R1 w8 by rw [← hw8]; exact KK.out.new' rfl (wiO ⟨0, 0, ⟨#[]⟩, 0, 0, Sl0, Sl0, Sl0, 0⟩))
  clear hw8
  obtain ⟨q, hq⟩ : ∃ q, w7.heap.size = q := ⟨_, rfl⟩
  rw [hq] at KK hl7 ⊢
  have hA : Apart q [(p, wiO Wi0)] := ⟨by simp only; omega, trivial⟩
  go_upto_region 4 with (first | (go_at_call 75; refine (rrdr_small g _ 1099511627776 _ KK.out.rd k1.1 (by decide) (by decide)).mono ?_; rintro e w9 ⟨rfl, hn, dn⟩; have KK := Lib.hid (KK.out.step hn dn); clear hn dn; have ⟨q1, f1⟩ := KK.out.cf (k := q) (o := wiO ⟨0, 0, ⟨#[]⟩, 0, 0, Sl0, Sl0, Sl0, 0⟩) (by simp) 1 (v := .int .i64 0) rfl))
  generalize hwx : World.setCell _ _ _ = w10
  have KK := Lib.hid (show Kr 105 g w [(q, wiO ⟨0, (R1.small 1099511627776).1, ⟨#[]⟩, 0, 0, Sl0, Sl0, Sl0, 0⟩), (p, wiO Wi0)] _ w10 by rw [← hwx]; exact KK.out.setCell hA (by omega) 1 _ _ rfl)
  clear hwx q1 f1
  obtain ⟨ID, hID⟩ : ∃ I, (R1.small 1099511627776).1 = I := ⟨_, rfl⟩
  obtain ⟨R2, hR2⟩ : ∃ R, (R1.small 1099511627776).2 = R := ⟨_, rfl⟩
  rw [hID, hR2] at KK
  rw [hID] at hid
  rw [hR2] at k2
  have c0 := KK.out.cell (k := q) (o := wiO ⟨0, ID, ⟨#[]⟩, 0, 0, Sl0, Sl0, Sl0, 0⟩) (by simp) (j := 0) (v := .int .i64 0) rfl
  rw [hR1] at HI1
  obtain ⟨I1a, I1b⟩ := I1
  have e1 : I1a = ID := (congrArg Prod.fst HI1.out).trans hID
  have e2 : I1b = R2 := (congrArg Prod.snd HI1.out).trans hR2
  subst e1 e2
  have hss : I1b.s.size ≤ 1000000000 := by rw [k2.2, k1.2]; exact hs
  clear HI1 hID hR2
  have HGD : Hid (GD ↔ I1b.fin = 0 ∧ okA ⟨0, I1a, ⟨#[]⟩, 0, 0, Sl0, Sl0, Sl0, 0⟩ ∧ okT ⟨0, I1a, ⟨#[]⟩, 0, 0, Sl0, Sl0, Sl0, 0⟩ [] [] []) := ⟨fun h => absurd h HGD1.out, fun h => by have := h.2.1.1.1; simp only at this; omega⟩
  have HWA := Lib.hid (wiAt_nil w10 ⟨0, I1a, ⟨#[]⟩, 0, 0, Sl0, Sl0, Sl0, 0⟩ rfl rfl rfl i00 i00 ba0)
  have HFAR : Hid (FarW p ⟨0, I1a, ⟨#[]⟩, 0, 0, Sl0, Sl0, Sl0, 0⟩ []) := ⟨far_sl0 _, far_sl0 _, far_sl0 _, by intro y hy; simp at hy⟩
  have kF := k2.1
  clear HGD1
  go_upto_region 29 with fail
  have F1 := fun wx h => rrdr_end g I1b wx h kF
  have hfin : Rdr.fin I1b = 0 ∨ Rdr.fin I1b = 10 := by unfold Rdr.fin; split <;> simp
  rcases hfin with hf | hf
  · rw [hf] at F1
    by_cases hok2 : okA ⟨0, I1a, ⟨#[]⟩, 0, 0, Sl0, Sl0, Sl0, 0⟩ ∧ okT ⟨0, I1a, ⟨#[]⟩, 0, 0, Sl0, Sl0, Sl0, 0⟩ [] [] []
    · have CW := fun wx (h : WiAt wx ⟨0, I1a, ⟨#[]⟩, 0, 0, Sl0, Sl0, Sl0, 0⟩ [] [] []) => rcheck_w h
      rw [chkW_0 hok2.1 hok2.2] at CW
      have HG := Lib.hid (HGD.out.2 ⟨hf, hok2⟩)
      clear hok2 hf
      go_wp2_with (first
        | (go_at_call 80; refine (F1 _ KK.out.rd).mono ?_; rintro e w20 ⟨rfl, dq⟩; have KK := Lib.hid (KK.out.step (dq.rdr KK.out.rd) dq.but); have HWA := Lib.hid (HWA.out.below dq.below))
        | (go_at_call 17; refine (CW _ HWA.out).mono ?_; rintro e w21 ⟨rfl, dn⟩; have KK := Lib.hid (KK.out.below dn); have HWA := Lib.hid (HWA.out.below dn); clear dn)
        | refine wpList_load_row_w (by rfl) 33 _ rfl q rfl 33 (Wi.arr ⟨0, I1a, ⟨#[]⟩, 0, 0, Sl0, Sl0, Sl0, 0⟩) (0, 0) _ (KK.out.at_ (q, wiO ⟨0, I1a, ⟨#[]⟩, 0, 0, Sl0, Sl0, Sl0, 0⟩) (by simp)).2 Tryz.underlying33 rfl (by kernel_rfl) ?_
        | refine wpList_load_row rfl 33 _ rfl q rfl 33 (Wi.arr ⟨0, I1a, ⟨#[]⟩, 0, 0, Sl0, Sl0, Sl0, 0⟩) (0, 0) _ (KK.out.at_ (q, wiO ⟨0, I1a, ⟨#[]⟩, 0, 0, Sl0, Sl0, Sl0, 0⟩) (by simp)).2 Tryz.underlying33 rfl (by kernel_rfl) ?_
        | refine wpList_store_row rfl 33 _ _ rfl p (Wi.arr ⟨0, I1a, ⟨#[]⟩, 0, 0, Sl0, Sl0, Sl0, 0⟩) rfl rfl 33 _ (KK.out.at_ (p, wiO Wi0) (by simp)).2 (by kernel_rfl) rfl (wi_one _) ?_)
      have KF := Kr.setRow (KK.out.sub (m := [(p, wiO Wi0)]) (by simp)) trivial (by omega) (wiO ⟨0, I1a, ⟨#[]⟩, 0, 0, Sl0, Sl0, Sl0, 0⟩)
      have HWF := Lib.hid (HWA.out.but HFAR.out (But.row p _ (Wi.arr ⟨0, I1a, ⟨#[]⟩, 0, 0, Sl0, Sl0, Sl0, 0⟩)))
      refine bodyPost_ret (v := .tuple #[.agg (Wi.arr ⟨0, I1a, ⟨#[]⟩, 0, 0, Sl0, Sl0, Sl0, 0⟩), .int .i64 0]) (res_cell_tmp rfl _ _ p 33 (Wi.arr ⟨0, I1a, ⟨#[]⟩, 0, 0, Sl0, Sl0, Sl0, 0⟩) (0, 0) _ _ rfl rfl KF.hd Tryz.underlying33 rfl (by kernel_rfl)) rfl ⟨_, 0, rfl, KF.belowB (by omega), .inl ⟨HG.out, rfl, by trivial⟩⟩
    · have CW := fun wx (h : WiAt wx ⟨0, I1a, ⟨#[]⟩, 0, 0, Sl0, Sl0, Sl0, 0⟩ [] [] []) => rcheck_w h
      rw [chkW_1 hok2] at CW
      have HNG : Hid (¬ GD) := fun h => hok2 (HGD.out.1 h).2
      clear hok2 hf
      go_wp2_with (first
        | (go_at_call 80; refine (F1 _ KK.out.rd).mono ?_; rintro e w20 ⟨rfl, dq⟩; have KK := Lib.hid (KK.out.step (dq.rdr KK.out.rd) dq.but); have HWA := Lib.hid (HWA.out.below dq.below))
        | (go_at_call 17; refine (CW _ HWA.out).mono ?_; rintro e w21 ⟨rfl, dn⟩; have KK := Lib.hid (KK.out.below dn); clear dn)
        | refine wpList_load_row_w (by rfl) 33 _ rfl q rfl 33 (Wi.arr ⟨0, I1a, ⟨#[]⟩, 0, 0, Sl0, Sl0, Sl0, 0⟩) (0, 0) _ (KK.out.at_ (q, wiO ⟨0, I1a, ⟨#[]⟩, 0, 0, Sl0, Sl0, Sl0, 0⟩) (by simp)).2 Tryz.underlying33 rfl (by kernel_rfl) ?_
        | refine wpList_store_row rfl 33 _ _ rfl p Wi0.arr rfl rfl 33 _ (KK.out.at_ (p, wiO Wi0) (by simp)).2 (by kernel_rfl) rfl (wi_one _) ?_)
      have KF := Kr.setRow (KK.out.sub (m := [(p, wiO Wi0)]) (by simp)) trivial (by omega) (wiO Wi0)
      refine bodyPost_ret (v := .tuple #[.agg Wi0.arr, .int .i64 10]) (res_cell_tmp rfl _ _ p 33 Wi0.arr (0, 0) _ _ rfl rfl KF.hd Tryz.underlying33 rfl (by kernel_rfl)) rfl ⟨Wi0, 10, rfl, KF.belowB (by omega), .inr ⟨HNG.out, rfl, rfl⟩⟩
  · have HNG : Hid (¬ GD) := fun h => by have := (HGD.out.1 h).1; rw [hf] at this; cases this
    have CW := fun wx (h : WiAt wx ⟨0, I1a, ⟨#[]⟩, 0, 0, Sl0, Sl0, Sl0, 0⟩ [] [] []) => rcheck_w h
    rw [hf] at F1
    clear hf
    go_wp2_with (first
      | (go_at_call 80; refine (F1 _ KK.out.rd).mono ?_; rintro e w20 ⟨rfl, dq⟩; have KK := Lib.hid (KK.out.step (dq.rdr KK.out.rd) dq.but); have HWA := Lib.hid (HWA.out.below dq.below))
      | (go_at_call 17; refine (CW _ HWA.out).mono ?_; rintro e w21 ⟨rfl, dn⟩; have KK := Lib.hid (KK.out.below dn); clear dn)
      | refine wpList_load_row_w (by rfl) 33 _ rfl q rfl 33 (Wi.arr ⟨0, I1a, ⟨#[]⟩, 0, 0, Sl0, Sl0, Sl0, 0⟩) (0, 0) _ (KK.out.at_ (q, wiO ⟨0, I1a, ⟨#[]⟩, 0, 0, Sl0, Sl0, Sl0, 0⟩) (by simp)).2 Tryz.underlying33 rfl (by kernel_rfl) ?_
      | refine wpList_store_row rfl 33 _ _ rfl p Wi0.arr rfl rfl 33 _ (KK.out.at_ (p, wiO Wi0) (by simp)).2 (by kernel_rfl) rfl (wi_one _) ?_)
    have KF := Kr.setRow (KK.out.sub (m := [(p, wiO Wi0)]) (by simp)) trivial (by omega) (wiO Wi0)
    refine bodyPost_ret (v := .tuple #[.agg Wi0.arr, .int .i64 10]) (res_cell_tmp rfl _ _ p 33 Wi0.arr (0, 0) _ _ rfl rfl KF.hd Tryz.underlying33 rfl (by kernel_rfl)) rfl ⟨Wi0, 10, rfl, KF.belowB (by omega), .inr ⟨HNG.out, rfl, rfl⟩⟩
/-- A call that answers with what X tells, and with E. -/
def RdT (f : Nat) (s : ByteArray) (E : Int) (X : Wi) (ps : List Pt) (ms : List RcM) (vs : List Int) : Prop :=
  ∀ w : World, Calls Tryz.prog f #[.string s] w fun e w' => ∃ z : Wi, e = .returned (.tuple #[.agg z.arr, .int .i64 E]) ∧ Below w.heap.size w w' ∧ TellsAs w' z X ps ms vs
theorem tells_nil (w : World) (X : Wi) (h1 : X.np = Sl0) (h2 : X.nr = Sl0) (h3 : X.vec = Sl0) : TellsAs w X X [] [] [] :=
  ⟨rfl, rfl, rfl, rfl, rfl, rfl, by rw [h1]; exact slP_nil w, by rw [h2]; exact recsW_nil w, by rw [h3]; exact slR_nil w⟩
theorem tells_0 (w : World) : TellsAs w Wi0 Wi0 [] [] [] := tells_nil w Wi0 rfl rfl rfl
theorem span_i {f t : Int} (h : spanV f t = true) : i64' f ∧ i64' t := by
  unfold spanV at h
  simp only [Bool.and_eq_true, decide_eq_true_eq] at h
  exact ⟨⟨by omega, by omega⟩, ⟨by omega, by omega⟩⟩
theorem dec7_w {s : ByteArray} {w : World} {B : Nat} {d d2 : Sl} {vs : List Int} {rs : List RecA} (hV : V7 w B d vs d2 rs) (hc : vs = pl vs ∧ rs.length ≤ 16 ∧ okRecs rs) (hS : recsB (vput 7 ++ vput (id1 s).1 ++ (vecB vs ++ vput rs.length)) rs = s) : dec7 s vs (rs.map RecA.m) :=
  ⟨hc.1, pl_bound hc.1, by rw [List.length_map]; exact hc.2.1, fun m hm => by
    obtain ⟨y, hy, rfl⟩ := List.mem_map.1 hm
    exact ⟨hc.2.2 y hy, (hV.rs y hy).1.ok.wf⟩, gd7_of hc.1 hS⟩
theorem reads_both (s : ByteArray) (hs : s.size ≤ 1000000000) : ∃ (E : Int) (X : Wi) (ps : List Pt) (ms : List RcM) (vs : List Int), i64' X.from_ ∧ i64' X.to_ ∧ RdT 13 s E X ps ms vs ∧ RdT 18 s E X ps ms vs := by
  have hr := small_range (r0_ok hs) (m := 7) (by decide)
  obtain hk | hk | hk | hk | hk | hk | hk | hk : ((r0 s).small 7).1 = 0 ∨ ((r0 s).small 7).1 = 1 ∨ ((r0 s).small 7).1 = 2 ∨ ((r0 s).small 7).1 = 3 ∨ ((r0 s).small 7).1 = 4 ∨ ((r0 s).small 7).1 = 5 ∨ ((r0 s).small 7).1 = 6 ∨ ((r0 s).small 7).1 = 7 := by omega
  · refine ⟨10, Wi0, [], [], [], i00, i00, fun w => ?_, fun w => ?_⟩
    · refine (hread0_any s w hs hk).mono ?_
      rintro e w' ⟨rfl, hb⟩
      exact ⟨_, rfl, hb, tells_0 _⟩
    · refine (rread0_any s w hs hk).mono ?_
      rintro e w' ⟨x, E, rfl, hb, rfl, rfl⟩
      exact ⟨_, rfl, hb, tells_0 _⟩
  · by_cases hg : gd1 s
    · refine ⟨0, ⟨1, (id1 s).1, ⟨#[]⟩, 0, 0, Sl0, Sl0, Sl0, 0⟩, (readP (tx1 s).1).1, [], [], i00, i00, fun w => ?_, fun w => ?_⟩
      · refine (hread1_any s w hs hk).mono ?_
        rintro e w' ⟨x, E, rfl, hb, ⟨_, rfl, d, rfl, hd⟩ | ⟨hn, _⟩⟩
        · exact ⟨_, rfl, hb, rfl, rfl, rfl, rfl, rfl, rfl, hd, recsW_nil _, slR_nil _⟩
        · exact absurd hg hn
      · refine (rread1_any s w hs hk).mono ?_
        rintro e w' ⟨x, E, rfl, hb, ⟨_, rfl, d, rfl, hd⟩ | ⟨hn, _⟩⟩
        · exact ⟨_, rfl, hb, rfl, rfl, rfl, rfl, rfl, rfl, hd, recsW_nil _, slR_nil _⟩
        · exact absurd hg hn
    · refine ⟨10, Wi0, [], [], [], i00, i00, fun w => ?_, fun w => ?_⟩
      · refine (hread1_any s w hs hk).mono ?_
        rintro e w' ⟨x, E, rfl, hb, ⟨hn, _⟩ | ⟨_, rfl, rfl⟩⟩
        · exact absurd hn hg
        · exact ⟨_, rfl, hb, tells_0 _⟩
      · refine (rread1_any s w hs hk).mono ?_
        rintro e w' ⟨x, E, rfl, hb, ⟨hn, _⟩ | ⟨_, rfl, rfl⟩⟩
        · exact absurd hn hg
        · exact ⟨_, rfl, hb, tells_0 _⟩
  · by_cases hg : gd2 s
    · refine ⟨0, wi2 s, [], [], [], i00, i00, fun w => ?_, fun w => ?_⟩
      · refine (hread2_any s w hs hk).mono ?_
        rintro e w' ⟨x, E, rfl, hb, ⟨_, rfl, rfl⟩ | ⟨hn, _⟩⟩
        · exact ⟨_, rfl, hb, tells_nil _ _ rfl rfl rfl⟩
        · exact absurd hg hn
      · refine (rread2_any s w hs hk).mono ?_
        rintro e w' ⟨x, E, rfl, hb, ⟨_, rfl, rfl⟩ | ⟨hn, _⟩⟩
        · exact ⟨_, rfl, hb, tells_nil _ _ rfl rfl rfl⟩
        · exact absurd hg hn
    · refine ⟨10, Wi0, [], [], [], i00, i00, fun w => ?_, fun w => ?_⟩
      · refine (hread2_any s w hs hk).mono ?_
        rintro e w' ⟨x, E, rfl, hb, ⟨hn, _⟩ | ⟨_, rfl, rfl⟩⟩
        · exact absurd hn hg
        · exact ⟨_, rfl, hb, tells_0 _⟩
      · refine (rread2_any s w hs hk).mono ?_
        rintro e w' ⟨x, E, rfl, hb, ⟨hn, _⟩ | ⟨_, rfl, rfl⟩⟩
        · exact absurd hn hg
        · exact ⟨_, rfl, hb, tells_0 _⟩
  · by_cases hg : gd3 s
    · refine ⟨0, wi3 s, [], [], [], (span_i hg.2.1.2).1, (span_i hg.2.1.2).2, fun w => ?_, fun w => ?_⟩
      · refine (hread3_any s w hs hk).mono ?_
        rintro e w' ⟨x, E, rfl, hb, ⟨_, rfl, rfl⟩ | ⟨hn, _⟩⟩
        · exact ⟨_, rfl, hb, tells_nil _ _ rfl rfl rfl⟩
        · exact absurd hg hn
      · refine (rread3_any s w hs hk).mono ?_
        rintro e w' ⟨x, E, rfl, hb, ⟨_, rfl, rfl⟩ | ⟨hn, _⟩⟩
        · exact ⟨_, rfl, hb, tells_nil _ _ rfl rfl rfl⟩
        · exact absurd hg hn
    · refine ⟨10, Wi0, [], [], [], i00, i00, fun w => ?_, fun w => ?_⟩
      · refine (hread3_any s w hs hk).mono ?_
        rintro e w' ⟨x, E, rfl, hb, ⟨hn, _⟩ | ⟨_, rfl, rfl⟩⟩
        · exact absurd hn hg
        · exact ⟨_, rfl, hb, tells_0 _⟩
      · refine (rread3_any s w hs hk).mono ?_
        rintro e w' ⟨x, E, rfl, hb, ⟨hn, _⟩ | ⟨_, rfl, rfl⟩⟩
        · exact absurd hn hg
        · exact ⟨_, rfl, hb, tells_0 _⟩
  · by_cases hg : gd4 s
    · refine ⟨0, ⟨4, (id1 s).1, ⟨#[]⟩, 0, 0, Sl0, Sl0, Sl0, 0⟩, (readP (tx1 s).1).1, [], [], i00, i00, fun w => ?_, fun w => ?_⟩
      · refine (hread4_any s w hs hk).mono ?_
        rintro e w' ⟨x, E, rfl, hb, ⟨_, rfl, d, rfl, hd⟩ | ⟨hn, _⟩⟩
        · exact ⟨_, rfl, hb, rfl, rfl, rfl, rfl, rfl, rfl, hd, recsW_nil _, slR_nil _⟩
        · exact absurd hg hn
      · refine (rread4_any s w hs hk).mono ?_
        rintro e w' ⟨x, E, rfl, hb, ⟨_, rfl, d, rfl, hd⟩ | ⟨hn, _⟩⟩
        · exact ⟨_, rfl, hb, rfl, rfl, rfl, rfl, rfl, rfl, hd, recsW_nil _, slR_nil _⟩
        · exact absurd hg hn
    · refine ⟨10, Wi0, [], [], [], i00, i00, fun w => ?_, fun w => ?_⟩
      · refine (hread4_any s w hs hk).mono ?_
        rintro e w' ⟨x, E, rfl, hb, ⟨hn, _⟩ | ⟨_, rfl, rfl⟩⟩
        · exact absurd hn hg
        · exact ⟨_, rfl, hb, tells_0 _⟩
      · refine (rread4_any s w hs hk).mono ?_
        rintro e w' ⟨x, E, rfl, hb, ⟨hn, _⟩ | ⟨_, rfl, rfl⟩⟩
        · exact absurd hn hg
        · exact ⟨_, rfl, hb, tells_0 _⟩
  · by_cases hg : gd5 s
    · refine ⟨0, wi5 s, [], [], [], i00, i00, fun w => ?_, fun w => ?_⟩
      · refine (hread5_any s w hs hk).mono ?_
        rintro e w' ⟨x, E, rfl, hb, ⟨_, rfl, rfl⟩ | ⟨hn, _⟩⟩
        · exact ⟨_, rfl, hb, tells_nil _ _ rfl rfl rfl⟩
        · exact absurd hg hn
      · refine (rread5_any s w hs hk).mono ?_
        rintro e w' ⟨x, E, rfl, hb, ⟨_, rfl, rfl⟩ | ⟨hn, _⟩⟩
        · exact ⟨_, rfl, hb, tells_nil _ _ rfl rfl rfl⟩
        · exact absurd hg hn
    · refine ⟨10, Wi0, [], [], [], i00, i00, fun w => ?_, fun w => ?_⟩
      · refine (hread5_any s w hs hk).mono ?_
        rintro e w' ⟨x, E, rfl, hb, ⟨hn, _⟩ | ⟨_, rfl, rfl⟩⟩
        · exact absurd hn hg
        · exact ⟨_, rfl, hb, tells_0 _⟩
      · refine (rread5_any s w hs hk).mono ?_
        rintro e w' ⟨x, E, rfl, hb, ⟨hn, _⟩ | ⟨_, rfl, rfl⟩⟩
        · exact absurd hn hg
        · exact ⟨_, rfl, hb, tells_0 _⟩
  · by_cases hg : gd6 s
    · refine ⟨0, ⟨6, (id1 s).1, ⟨#[]⟩, 0, 0, Sl0, Sl0, Sl0, 0⟩, [], [], (v6 s).1, i00, i00, fun w => ?_, fun w => ?_⟩
      · refine (hread6_any s w hs hk).mono ?_
        rintro e w' ⟨x, E, rfl, hb, ⟨_, rfl, d, rfl, hd⟩ | ⟨hn, _⟩⟩
        · exact ⟨_, rfl, hb, rfl, rfl, rfl, rfl, rfl, rfl, slP_nil _, recsW_nil _, hd⟩
        · exact absurd hg hn
      · refine (rread6_any s w hs hk).mono ?_
        rintro e w' ⟨x, E, rfl, hb, ⟨_, rfl, d, rfl, hd⟩ | ⟨hn, _⟩⟩
        · exact ⟨_, rfl, hb, rfl, rfl, rfl, rfl, rfl, rfl, slP_nil _, recsW_nil _, hd⟩
        · exact absurd hg hn
    · refine ⟨10, Wi0, [], [], [], i00, i00, fun w => ?_, fun w => ?_⟩
      · refine (hread6_any s w hs hk).mono ?_
        rintro e w' ⟨x, E, rfl, hb, ⟨hn, _⟩ | ⟨_, rfl, rfl⟩⟩
        · exact absurd hn hg
        · exact ⟨_, rfl, hb, tells_0 _⟩
      · refine (rread6_any s w hs hk).mono ?_
        rintro e w' ⟨x, E, rfl, hb, ⟨hn, _⟩ | ⟨_, rfl, rfl⟩⟩
        · exact absurd hn hg
        · exact ⟨_, rfl, hb, tells_0 _⟩
  · by_cases hg : gd7 s
    · obtain ⟨vs, ms, hD⟩ := (gd7_iff s).1 hg
      refine ⟨0, ⟨7, (id1 s).1, ⟨#[]⟩, 0, 0, Sl0, Sl0, Sl0, 0⟩, [], ms, vs, i00, i00, fun w => ?_, fun w => ?_⟩
      · refine (hread7_any s w hs hk).mono ?_
        rintro e w' ⟨x, E, rfl, hb, ⟨rfl, d, d2, vs2, rs2, rfl, hV, hc, hS⟩ | ⟨_, _, hn⟩⟩
        · obtain ⟨h1, h2⟩ := dec7_one hs hD (dec7_w hV hc hS)
          exact ⟨_, rfl, hb, rfl, rfl, rfl, rfl, rfl, rfl, slP_nil _, by rw [h2]; exact recsV_ti hV, by rw [h1]; exact hV.sl⟩
        · exact absurd hg hn
      · refine (rread7_any s w hs hk).mono ?_
        rintro e w' ⟨x, E, rfl, hb, ⟨_, rfl, d2, d, rs2, vs2, rfl, hW, hR, hD2⟩ | ⟨hn, _⟩⟩
        · obtain ⟨h1, h2⟩ := dec7_one hs hD hD2
          exact ⟨_, rfl, hb, rfl, rfl, rfl, rfl, rfl, rfl, slP_nil _, by rw [h2]; exact hW.r.w' hR, by rw [h1]; exact hW.v⟩
        · exact absurd hg hn
    · refine ⟨10, Wi0, [], [], [], i00, i00, fun w => ?_, fun w => ?_⟩
      · refine (hread7_any s w hs hk).mono ?_
        rintro e w' ⟨x, E, rfl, hb, ⟨rfl, d, d2, vs2, rs2, rfl, hV, hc, hS⟩ | ⟨rfl, rfl, _⟩⟩
        · exact absurd ((gd7_iff s).2 ⟨_, _, dec7_w hV hc hS⟩) hg
        · exact ⟨_, rfl, hb, tells_0 _⟩
      · refine (rread7_any s w hs hk).mono ?_
        rintro e w' ⟨x, E, rfl, hb, ⟨hn, _⟩ | ⟨_, rfl, rfl⟩⟩
        · exact absurd hn hg
        · exact ⟨_, rfl, hb, tells_0 _⟩
end
end Go.Proofs.YtglabahbklpocaaGreat
namespace Go.Proofs.YtglabahbklpocaaGreat
section
open Go.RowKit Go.Deep
set_option maxRecDepth 100000
set_option linter.unusedVariables false
set_option linter.unusedSimpArgs false
attribute [local go_sem ↓] Go.wp_at_zero Go.wp_at_succ
set_option maxHeartbeats 4000000 in
theorem psent_any (F : List Nat) (g : Nat) (m : PeM) (site now : Int) (w : World) (hP : PeAt w F g m) (hF : g ∈ F) :
    Calls Tryz.prog 24 #[.pointer (some ⟨g, 0, none⟩), .int .i64 site, .int .i64 now] w fun e w' => e = .returned (.bool (sentM m site now).2) ∧ PeAt w' F g (sentM m site now).1 ∧ But g w w' := by
  have G := fun wx (hx : PeAt wx F g m) => pget_any F g m site wx hx
  have CK := fun wx => pclock_any now wx
  unfold sentM
  by_cases h : isO m site = true
  · simp only [if_pos h] at G ⊢
    obtain ⟨h0, h1, h2⟩ := isO_true h
    obtain ⟨k, rfl⟩ := Int.eq_ofNat_of_zero_le h0
    have hst := hP.ex.2.1
    have hk : k < 8 := by omega
    simp only [Int.toNat_natCast] at G ⊢
    have HP := Lib.hid hP
    have hcr := clockP_range now
    obtain ⟨T, hT⟩ : ∃ T, clockP now = T := ⟨_, rfl⟩
    rw [hT] at CK hcr ⊢
    clear hT
    obtain ⟨d, hg, hc⟩ := hP
    have q1 := peCell hg rfl (peC_v m d k hk).2.1
    have q2 := peCell hg rfl (peC_v m d k hk).2.2
    have f1 := peFz hg (3 + k * 3 + 1)
    have f2 := peFz hg (3 + k * 3 + 2)
    have FIN : Hid (PeAt ((w.setCell ⟨g, 3 + k * 3 + 1, none⟩ (.bool true)).setCell ⟨g, 3 + k * 3 + 2, none⟩ (.int .i64 T)) F g { m with s := upd m.s k true, a := upd m.a k T }) := by
      refine ⟨d, ?_, ?_⟩
      · have e1 := heap_setCell_same w g (3 + k * 3 + 1) (peC m d) 111 (.bool true) hg
        have e2 := heap_setCell_same _ g (3 + k * 3 + 2) _ 111 (.int .i64 T) e1
        rw [e2, peC_sets m d k hk true T]
        rfl
      · have hk2 : PeC ((w.setCell ⟨g, 3 + k * 3 + 1, none⟩ (.bool true)).setCell ⟨g, 3 + k * 3 + 2, none⟩ (.int .i64 T)) F d m := hc.keep (by simp [World.setCell]) (fun i hi hn => by
          have hne : i ≠ g := fun e => hn (e ▸ hF)
          rw [Below.heap_setCell _ _ _ _ (by simpa using hne), Below.heap_setCell _ _ _ _ (by simpa using hne)])
        refine ⟨hk2.sl, hk2.me, hk2.st, hk2.ev, fun i hi => ?_⟩
        show 0 ≤ upd m.a k T i ∧ upd m.a k T i ≤ _
        unfold upd
        split
        · exact hcr
        · exact hc.a i hi
    have GG := G w HP.out
    clear hg hc h G
    go_enter Tryz.func24, Tryz.ntmps24
    go_wp2_with (first | (go_at_call 81; refine GG.mono ?_; rintro e w1 ⟨rfl, rfl⟩) | (go_at_call 84; refine (CK _).mono ?_; rintro e w1 ⟨rfl, rfl⟩))
    go_ret
    exact ⟨rfl, FIN.out, (But.set g _ w _).trans (But.set g _ _ _)⟩
  · simp only [if_neg h] at G ⊢
    have GG := G w hP
    have HP := Lib.hid hP
    clear h G hP
    go_enter Tryz.func24, Tryz.ntmps24
    go_wp2_with (first | (go_at_call 81; refine GG.mono ?_; rintro e w1 ⟨rfl, rfl⟩))
    go_ret
    exact ⟨rfl, HP.out, But.refl _ _⟩
set_option maxHeartbeats 4000000 in
theorem pnote_any (F : List Nat) (g : Nat) (m : PeM) (site : Int) (x : Sl) (xs : List Int) (w : World) (hP : PeAt w F g m) (hF : g ∈ F) (hFl : ∀ k ∈ F, k < w.heap.size) (hx : SlR w x xs) :
    Calls Tryz.prog 20 #[.pointer (some ⟨g, 0, none⟩), .int .i64 site, .slice x.a x.n x.c] w fun e w' => e = .returned (.bool (noteM m site xs).2) ∧ PeAt w' F g (noteM m site xs).1 ∧ But g w w' := by
  have G := fun wx (hx : PeAt wx F g m) => pget_any F g m site wx hx
  have HX := Lib.hid hx
  unfold noteM
  by_cases h : isO m site = true
  · simp only [if_pos h] at G
    obtain ⟨h0, h1, h2⟩ := isO_true h
    obtain ⟨k, rfl⟩ := Int.eq_ofNat_of_zero_le h0
    have hst := hP.ex.2.1
    have hk : k < 8 := by omega
    simp only [Int.toNat_natCast] at G ⊢
    have GG := G w hP
    have HP := Lib.hid hP
    obtain ⟨d, hg, hc⟩ := hP
    have q0 := peCell hg rfl (peC_v m d k hk).1
    unfold slV at q0
    have hsl := hc.sl k hk
    have CV := covers_any (d k).a x.a (d k).n (d k).c x.n x.c (m.v k) xs w hsl.1.r hx.r hsl.1.nc hsl.1.cb hx.nc hx.cb
    have HG := Lib.hid hg
    have HC := Lib.hid hc
    obtain ⟨B, hB⟩ : ∃ B, covV (m.v k) xs = B := ⟨_, rfl⟩
    rw [hB] at CV ⊢
    cases B
    · rw [if_pos ⟨h, rfl⟩]
      simp only
      have JN := fun wx (hb : Below w.heap.size w wx) => join_any (d k).a x.a (d k).n (d k).c x.n x.c (m.v k) xs wx (hsl.1.below hb).r (HX.out.below hb).r hsl.1.nc hsl.1.cb HX.out.nc HX.out.cb
      have hl8 : (joinV (m.v k) xs).length ≤ 8 := vec_length _
      obtain ⟨js, hjs⟩ : ∃ js, joinV (m.v k) xs = js := ⟨_, rfl⟩
      rw [hjs] at JN hl8 ⊢
      clear hx hg hc hsl h hB hjs G
      go_enter Tryz.func20, Tryz.ntmps20
      go_upto_region 4 with (first
        | (go_at_call 81; refine GG.mono ?_; rintro e w1 ⟨rfl, rfl⟩)
        | (go_at_call 82; refine CV.mono ?_; rintro e w2 ⟨rfl, dn⟩; have HB := Lib.hid dn; clear dn))
      have hg2 := (HB.out.block g (heap_lt HG.out)).trans HG.out
      clear q0
      have q0 := peCell hg2 rfl (peC_v m d k hk).1
      unfold slV at q0
      have HG2 := Lib.hid hg2
      clear hg2
      go_wp2_with (go_at_call 33; refine (JN _ HB.out).mono ?_; rintro e w3 ⟨a', rfl, hV, dn⟩; have HV := Lib.hid hV; have HB3 := Lib.hid dn; clear hV dn; have hg3 := (HB3.out.block g (heap_lt HG2.out)).trans HG2.out; have HG3 := Lib.hid hg3; have q3 := peCell hg3 rfl (peC_v m d k hk).1; have f3 := peFz hg3 (3 + k * 3); clear hg3)
      have hw := HB.out.size
      go_ret
      refine ⟨rfl, ⟨upd d k ⟨a', js.length, js.length⟩, ?_, ?_⟩, ((But.of_below HB.out).trans (But.of_below HB3.out)).trans (But.set g _ _ _)⟩
      · rw [heap_setCell_same _ g (3 + k * 3) _ 111 _ HG3.out]
        show some (Obj.cells ((peC m d).setIfInBounds (3 + k * 3) (slV ⟨a', js.length, js.length⟩)) _ _) = _
        rw [peC_setv m d k hk _ (upd m.v k js)]
        rfl
      · have hb3 : Below w.heap.size w w3 := below_then HB.out HB.out.size HB3.out
        have hd : ∀ i, i < w.heap.size → i ∉ F → (w3.setCell ⟨g, 3 + k * 3, none⟩ (.slice a' js.length js.length)).heap[i]? = w.heap[i]? := fun i hi hn => by
          have hne : i ≠ g := fun e => hn (e ▸ hF)
          rw [Below.heap_setCell _ _ _ _ (by simpa using hne)]
          exact hb3.block i hi
        have hk2 := HC.out.keep (w' := w3.setCell ⟨g, 3 + k * 3, none⟩ (.slice a' js.length js.length)) (by have := hb3.size; simp [World.setCell]; omega) hd
        have hF2 : ∀ q ∈ F, q < w2.heap.size := fun q hq => by have := hFl q hq; omega
        refine ⟨fun i hi => ?_, hk2.me, hk2.st, hk2.ev, hk2.a⟩
        show SlR _ (upd d k _ i) (upd m.v k js i) ∧ _
        unfold upd
        split
        · exact ⟨HV.out.keep hl8 (F := F) hF2 (by simp [World.setCell]) (fun j hj hn => Below.heap_setCell _ _ _ _ (by have hne : j ≠ g := fun e => hn (by rw [e]; exact hF); simpa using hne)), HV.out.far hF2, hl8⟩
        · exact hk2.sl i hi
    · rw [if_neg (fun hh => by simp at hh)]
      simp only
      clear hx hg hc hsl h hB G
      go_enter Tryz.func20, Tryz.ntmps20
      go_wp2_with (first
        | (go_at_call 81; refine GG.mono ?_; rintro e w1 ⟨rfl, rfl⟩)
        | (go_at_call 82; refine CV.mono ?_; rintro e w2 ⟨rfl, dn⟩; have HB := Lib.hid dn; clear dn))
      go_ret
      exact ⟨rfl, HP.out.below HB.out, But.of_below HB.out⟩
  · rw [if_neg (fun hh => h hh.1)]
    simp only [if_neg h] at G ⊢
    have GG := G w hP
    have HP := Lib.hid hP
    clear h G hP hx
    go_enter Tryz.func20, Tryz.ntmps20
    go_wp2_with (first | (go_at_call 81; refine GG.mono ?_; rintro e w1 ⟨rfl, rfl⟩))
    go_ret
    exact ⟨rfl, HP.out, But.refl _ _⟩
end
end Go.Proofs.YtglabahbklpocaaGreat
