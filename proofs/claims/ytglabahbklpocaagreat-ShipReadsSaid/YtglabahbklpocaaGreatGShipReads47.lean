/- The reference's Read of messages that bear records. -/
import Derived.Test.YtglabahbklpocaaGreatGShipReads45
import Derived.Test.YtglabahbklpocaaGreatGShipReads46
namespace Go.Proofs.YtglabahbklpocaaGreat
section
open Go.RowKit Go.Deep
set_option maxRecDepth 100000
set_option linter.unusedVariables false
set_option linter.unusedSimpArgs false
attribute [local go_sem ↓] Go.wp_at_zero Go.wp_at_succ
/-- A row of records, and what it and the record's own numbers tell, each in blocks apart, behind q. -/
structure RW7 (w : World) (q : Nat) (ra : Option Addr) (k cap : Nat) (rs : List RecA) (vc : Sl) (L : List Int) : Prop where
  off : OffE RecA.cs 60 9 w ra k cap rs
  rq : ∀ y, ra = some y → q < y.block
  vs : SlR w vc L
  vq : ∀ x, vc.a = some x → q < x.block
  vf : ∀ y, ra = some y → farA [y.block] vc
  ok : ∀ z ∈ rs, z.ok w
  zq : ∀ z ∈ rs, ∀ x, z.d.a = some x → q < x.block
  zf : ∀ z ∈ rs, ∀ y, ra = some y → farA [y.block] z.d
theorem alloc_size (w : World) (o : Obj) : (w.alloc o).heap.size = w.heap.size + 1 := by simp
theorem far_one {d : Sl} {q g : Nat} (h : ∀ x, d.a = some x → q < x.block) (hg : g ≤ q) : farA [g] d := .inr fun p hp hm => by have := h p hp; simp only [List.mem_singleton] at hm; omega
theorem SlR.butF {w w' : World} {g : Nat} {d : Sl} {xs : List Int} (h : SlR w d xs) (hf : farA [g] d) (k : But g w w') : SlR w' d xs :=
  h.keep hf k.size (fun i hi hn => k.block i hi (by simp; exact fun e => hn (by simp [e])))
section
variable {w w' : World} {q g : Nat} {ra : Option Addr} {k cap : Nat} {rs : List RecA} {vc : Sl} {L : List Int}
theorem RW7.but (h : RW7 w q ra k cap rs vc L) (hg : g ≤ q) (d : But g w w') : RW7 w' q ra k cap rs vc L :=
  ⟨h.off.keep (fun p hp => d.block _ (h.off.lt p hp) (by have := h.rq p hp; simp; omega)), h.rq, h.vs.butF (far_one h.vq hg) d, h.vq, h.vf, fun z hz => ⟨(h.ok z hz).wf, (h.ok z hz).sl.butF (far_one (h.zq z hz) hg) d⟩, h.zq, h.zf⟩
theorem RW7.below (h : RW7 w q ra k cap rs vc L) (d : Below w.heap.size w w') : RW7 w' q ra k cap rs vc L :=
  ⟨h.off.keep (fun p hp => d.block _ (h.off.lt p hp)), h.rq, h.vs.below d, h.vq, h.vf, fun z hz => ⟨(h.ok z hz).wf, (h.ok z hz).sl.below d⟩, h.zq, h.zf⟩
theorem RW7.app (h : RW7 w q ra k cap rs vc L) {g' o' cap' : Nat} {z : RecA} (hO : OffE RecA.cs 60 9 w' (some ⟨g', o', none⟩) (k + 1) cap' (rs ++ [z])) (hc : (ra = some ⟨g', o', none⟩ ∧ But g' w w') ∨ (w.heap.size ≤ g' ∧ Below w.heap.size w w')) (hq : q < w.heap.size)
    (hz : z.ok w) (hzq : ∀ x, z.d.a = some x → q < x.block) (hzf : ∀ y, ra = some y → farA [y.block] z.d) : RW7 w' q (some ⟨g', o', none⟩) (k + 1) cap' (rs ++ [z]) vc L := by
  have hall : ∀ y ∈ rs ++ [z], y.ok w ∧ (∀ x, y.d.a = some x → q < x.block) ∧ ∀ a, ra = some a → farA [a.block] y.d := fun y hy => by
    rcases List.mem_append.1 hy with hy | hy
    · exact ⟨h.ok y hy, h.zq y hy, h.zf y hy⟩
    · simp only [List.mem_singleton] at hy
      subst hy
      exact ⟨hz, hzq, hzf⟩
  rcases hc with ⟨e, d⟩ | ⟨hg, d⟩
  · exact ⟨hO, fun y hy => by cases hy; exact h.rq _ e, h.vs.butF (h.vf _ e) d, h.vq, fun y hy => by cases hy; exact h.vf _ e, fun y hy => ⟨(hall y hy).1.wf, (hall y hy).1.sl.butF ((hall y hy).2.2 _ e) d⟩, fun y hy => (hall y hy).2.1, fun y hy a ha => by cases ha; exact (hall y hy).2.2 _ e⟩
  · have hf : ∀ (s : Sl) (xs : List Int), SlR w s xs → farA [g'] s := fun s xs hs => hs.lt.imp_right fun hl p hp hm => by have := hl p hp; simp only [List.mem_singleton] at hm; omega
    exact ⟨hO, fun y hy => by cases hy; show q < g'; omega, h.vs.below d, h.vq, fun y hy => by cases hy; exact hf _ _ h.vs, fun y hy => ⟨(hall y hy).1.wf, (hall y hy).1.sl.below d⟩, fun y hy => (hall y hy).2.1, fun y hy a ha => by cases ha; exact hf _ _ (hall y hy).1.sl⟩
theorem RW7.wi (h : RW7 w q ra k cap rs vc L) (id : Int) : WiAt w ⟨7, id, ⟨#[]⟩, 0, 0, Sl0, ⟨ra, k, cap⟩, vc, 0⟩ [] rs L :=
  ⟨slP_nil _, ⟨h.off.reads rec_len, h.ok, h.off.le, maxLen_i h.off.max⟩, h.vs, i00, i00, ba0⟩
theorem RW7.far (h : RW7 w q ra k cap rs vc L) (id : Int) {p : Nat} (hp : p ≤ q) : FarW p ⟨7, id, ⟨#[]⟩, 0, 0, Sl0, ⟨ra, k, cap⟩, vc, 0⟩ rs :=
  ⟨far_sl0 _, far_one h.rq hp, far_one h.vq hp, fun y hy => far_one (h.zq y hy) hp⟩
theorem app_low {g' o' : Nat} (hr : ∀ y, ra = some y → q < y.block) (hc : (ra = some ⟨g', o', none⟩ ∧ But g' w w') ∨ (w.heap.size ≤ g' ∧ Below w.heap.size w w')) (hq : q < w.heap.size) : Below (q + 1) w w' := by
  rcases hc with ⟨e, d⟩ | ⟨_, d⟩
  · exact (Below.refl _ _).grown d (by omega) (fun k hk => by cases hk; have := hr _ e; simp only at this; omega)
  · exact ⟨d.os, d.tape, d.output, d.size, fun i hi => d.block i (by omega)⟩
end
theorem rec_new17 (w : World) (r : Rc) (d : Sl) (ds : List Int) : CellsAt (w.alloc (rcO r d)) w.heap.size 0 (RecA.cs ⟨r, d, ds⟩) := by
  intro i u hi
  rw [rcO, Nat.zero_add, World.cell?_alloc_new]
  simpa [RecA.cs] using hi
set_option maxHeartbeats 32000000 in
theorem rread7_any (s : ByteArray) (w : World) (hs : s.size ≤ 1000000000) (hk : ((r0 s).small 7).1 = 7) : Calls Tryz.prog 18 #[.string s] w fun e w' => ∃ (x : Wi) (E : Int), e = .returned (.tuple #[.agg x.arr, .int .i64 E]) ∧ Below w.heap.size w w' ∧
    ((gd7 s ∧ E = 0 ∧ ∃ (d2 d : Sl) (rs : List RecA) (vs : List Int), x = ⟨7, (id1 s).1, ⟨#[]⟩, 0, 0, Sl0, d2, d, 0⟩ ∧ WiAt w' x [] rs vs ∧ okRecs rs ∧ dec7 s vs (rs.map RecA.m)) ∨ (¬ gd7 s ∧ E = 10 ∧ x = Wi0)) := by
  have hok := r0_ok hs
  have hi1 := id1_ok hs
  obtain ⟨DC, HDC⟩ : ∃ D : List Int → List RcM → Prop, Hid (D = dec7 s) := ⟨_, rfl⟩
  obtain ⟨GD, HGD0⟩ : ∃ G, Hid (G = gd7 s) := ⟨_, rfl⟩
  obtain ⟨V1, HV1⟩ : ∃ G, Hid (G = (id1 s).1) := ⟨_, rfl⟩
  rw [← HGD0.out, ← HV1.out, ← HDC.out]
  have F1 : Hid (∀ ms R, TkG ((tvV (id1 s).2).2.small 16).2 ((tvV (id1 s).2).2.small 16).1.toNat ms R → R.fin = 0 → DC (tvV (id1 s).2).1 ms) := fun ms R h hf => by rw [HDC.out]; exact dec7_of hs hk h hf
  have F2 : Hid (∀ vs ms, DC vs ms → (tvV (id1 s).2).1 = vs ∧ ((tvV (id1 s).2).2.small 16).1.toNat = ms.length ∧ ((tvV (id1 s).2).2.small 16).2.bad = false ∧ (∀ j, j ≤ ms.length → (takeR j ((tvV (id1 s).2).2.small 16).2 0).1 = ms.take j ∧ (takeR j ((tvV (id1 s).2).2.small 16).2 0).2.1.bad = false ∧ (takeR j ((tvV (id1 s).2).2.small 16).2 0).2.2 = 0) ∧ (takeR ms.length ((tvV (id1 s).2).2.small 16).2 0).2.1.fin = 0) := fun vs ms h => by rw [HDC.out] at h; exact dec7_at hs h
  have F3 : Hid (∀ vs ms, DC vs ms → vs = pl vs ∧ okM ms) := fun vs ms h => by rw [HDC.out] at h; exact ⟨h.1, h.2.2.2.1⟩
  have HGD1 : Hid (GD ↔ ∃ vs ms, DC vs ms) := by show _ ↔ _; rw [HGD0.out, HDC.out]; exact gd7_iff s
  have HI1 : Hid (id1 s = ((r0 s).small 7).2.small 1099511627776) := rfl
  clear HGD0 HDC hi1
  generalize id1 s = I1 at *
  go_enter Tryz.func18, Tryz.ntmps18
  go_upto_region 1 with fail
  generalize hw1 : World.alloc _ _ = w1
  have K1 : Kn w.heap.size w [(w.heap.size, wiO Wi0)] w1 := by rw [← hw1]; exact (Kn.start w).new' rfl (wiO Wi0)
  clear hw1
  obtain ⟨p, hp⟩ : ∃ p, w.heap.size = p := ⟨_, rfl⟩
  rw [hp] at K1 ⊢
  have hpl := K1.lt (p, wiO Wi0) (by simp)
  simp only at hpl
  go_upto_region 2 with fail
  generalize hw2 : World.alloc _ _ = w2
  have K2 : Kn p w [(w1.heap.size, rdO 105 (r0 s)), (p, wiO Wi0)] w2 := by rw [← hw2]; exact K1.new (rdO 105 (r0 s))
  have KK : Hid (Kr 105 w1.heap.size w [(p, wiO Wi0)] (r0 s) w2) := ⟨K2.hd, by intro x hx; simp only [List.mem_singleton] at hx; subst hx; exact ⟨by simp only; omega, K2.at_ (p, wiO Wi0) (by simp)⟩, But.of_below (by rw [hp]; exact K2.b)⟩
  clear hw2 K1 K2
  obtain ⟨g, hg⟩ : ∃ g, w1.heap.size = g := ⟨_, rfl⟩
  rw [hg] at KK hpl ⊢
  have k1 := Rdr.small_ok hok 7
  go_upto_region 3 with (first | (go_at_call 75; refine (rrdr_small g (r0 s) 7 _ KK.out.rd hok (by decide) (by decide)).mono ?_; rintro e w7 ⟨rfl, hn, dn⟩; have KK := Lib.hid (KK.out.step hn dn); clear hn dn) | (refine wpList_store_row rfl 33 _ _ rfl _ (Wi.arr ⟨((r0 s).small 7).1, 0, ⟨#[]⟩, 0, 0, Sl0, Sl0, Sl0, 0⟩) rfl rfl 33 _ (heap_alloc_new _ _) (by kernel_rfl) rfl (wi_one _) ?_; rw [World.setRow_alloc_new]))
  have hl7 : g < w7.heap.size := KK.out.rd.lt
  have hid := small_range k1.1 (m := 1099511627776) (by decide)
  have k2 := Rdr.small_ok k1.1 1099511627776
  obtain ⟨R1, hR1⟩ : ∃ R, ((r0 s).small 7).2 = R := ⟨_, rfl⟩
  rw [hR1] at KK k1 k2 hid
  clear hk
  generalize hw8 : World.alloc _ _ = w8
  have KK := Lib.hid (show Kr 105 g w [(w7.heap.size, wiO ⟨7, 0, ⟨#[]⟩, 0, 0, Sl0, Sl0, Sl0, 0⟩), (p, wiO Wi0)] R1 w8 by rw [← hw8]; exact KK.out.new' rfl (wiO ⟨7, 0, ⟨#[]⟩, 0, 0, Sl0, Sl0, Sl0, 0⟩))
  clear hw8
  obtain ⟨q, hq⟩ : ∃ q, w7.heap.size = q := ⟨_, rfl⟩
  rw [hq] at KK hl7 ⊢
  have hA : Apart q [(p, wiO Wi0)] := ⟨by simp only; omega, trivial⟩
  go_upto_region 4 with (first | (go_at_call 75; refine (rrdr_small g _ 1099511627776 _ KK.out.rd k1.1 (by decide) (by decide)).mono ?_; rintro e w9 ⟨rfl, hn, dn⟩; have KK := Lib.hid (KK.out.step hn dn); clear hn dn; have ⟨q1, f1⟩ := KK.out.cf (k := q) (o := wiO ⟨7, 0, ⟨#[]⟩, 0, 0, Sl0, Sl0, Sl0, 0⟩) (by simp) 1 (v := .int .i64 0) rfl))
  generalize hwx : World.setCell _ _ _ = w10
  have KK := Lib.hid (show Kr 105 g w [(q, wiO ⟨7, (R1.small 1099511627776).1, ⟨#[]⟩, 0, 0, Sl0, Sl0, Sl0, 0⟩), (p, wiO Wi0)] _ w10 by rw [← hwx]; exact KK.out.setCell hA (by omega) 1 _ _ rfl)
  clear hwx q1 f1
  obtain ⟨ID, hID⟩ : ∃ I, (R1.small 1099511627776).1 = I := ⟨_, rfl⟩
  obtain ⟨R2, hR2⟩ : ∃ R, (R1.small 1099511627776).2 = R := ⟨_, rfl⟩
  rw [hID, hR2] at KK
  rw [hID] at hid
  rw [hR2] at k2
  have c0 := KK.out.cell (k := q) (o := wiO ⟨7, ID, ⟨#[]⟩, 0, 0, Sl0, Sl0, Sl0, 0⟩) (by simp) (j := 0) (v := .int .i64 7) rfl
  rw [hR1] at HI1
  obtain ⟨I1a, I1b⟩ := I1
  have e1 : I1a = ID := (congrArg Prod.fst HI1.out).trans hID
  have e2 : I1b = R2 := (congrArg Prod.snd HI1.out).trans hR2
  subst e1 e2
  have hss : I1b.s.size ≤ 1000000000 := by rw [k2.2, k1.2]; exact hs
  clear HI1 hID hR2
  simp only at HGD1 HV1 F1 F2
  have k3 := tvV_ok k2.1
  go_upto_region 21 with (first | (go_at_call 78; refine (rtv_any2 g I1b _ KK.out.rd k2.1).mono ?_; rintro e w11 ⟨a, n, c, rfl, hsl, hn, dn, hfr⟩; have HS := Lib.hid (show SlR w11 ⟨a, n, c⟩ (tvV I1b).1 from ⟨hsl.r, hsl.h1, hsl.h2⟩); have hqw : q < w10.heap.size := KK.out.lt (q, wiO ⟨7, I1a, ⟨#[]⟩, 0, 0, Sl0, Sl0, Sl0, 0⟩) (by simp); have KK := Lib.hid (KK.out.step hn dn); have HFR := Lib.hid hfr; clear hn dn hsl hfr; have ⟨q7, f7⟩ := KK.out.cf (k := q) (o := wiO ⟨7, I1a, ⟨#[]⟩, 0, 0, Sl0, Sl0, Sl0, 0⟩) (by simp) 7 (v := .slice none 0 0) rfl))
  generalize hwx : World.setCell _ _ _ = w12
  have HS := Lib.hid (show SlR w12 ⟨a, n, c⟩ (tvV I1b).1 by rw [← hwx]; exact HS.out.far (fun p hp => by have := HFR.out p hp; omega) _ _)
  have KK := Lib.hid (show Kr 105 g w [(q, wiO ⟨7, I1a, ⟨#[]⟩, 0, 0, Sl0, Sl0, ⟨a, n, c⟩, 0⟩), (p, wiO Wi0)] _ w12 by rw [← hwx]; exact KK.out.setCell hA (by omega) 7 _ _ rfl)
  have HFQ : Hid (∀ x, a = some x → q < x.block) := fun x hx => by have := HFR.out x hx; omega
  clear hwx q7 f7 c0 HFR
  generalize tvV I1b = TV at *
  obtain ⟨L, R9⟩ := TV
  simp only at KK F1 F2 k3 HS
  have k4 := Rdr.small_ok k3.1 16
  have hN := small_range k3.1 (m := 16) (by decide)
  have hgq : g < q := hl7
  go_upto_region 22 with (first | (go_at_call 75; refine (rrdr_small g _ 16 _ KK.out.rd k3.1 (by decide) (by decide)).mono ?_; rintro e w13 ⟨rfl, hn, dn⟩; have KK := Lib.hid (KK.out.step hn dn); have HS := Lib.hid (HS.out.butF (far_one HFQ.out (by omega)) dn); clear hn dn))
  generalize R9.small 16 = SN at *
  obtain ⟨NI, R10⟩ := SN
  simp only at KK F1 F2 k4 hN
  obtain ⟨N, rfl⟩ : ∃ N : Nat, NI = N := ⟨NI.toNat, by omega⟩
  simp only [Int.toNat_natCast] at F1 F2
  have hqw2 : q < w13.heap.size := KK.out.lt (q, wiO ⟨7, I1a, ⟨#[]⟩, 0, 0, Sl0, Sl0, ⟨a, n, c⟩, 0⟩) (by simp)
  go_wp2_with fail
  go_loopw [9, 10, 11] (fun i _ _ wr => ∃ (k : Nat) (rs : List RecA) (ra : Option Addr) (cap : Nat) (R : Rdr), k ≤ N ∧ i = .int .i64 k ∧ TkG R10 k (rs.map RecA.m) R ∧ R.ok ∧ RW7 wr q ra k cap rs ⟨a, n, c⟩ L ∧ Kr 105 g w [(q, wiO ⟨7, I1a, ⟨#[]⟩, 0, 0, Sl0, ⟨ra, k, cap⟩, ⟨a, n, c⟩, 0⟩), (p, wiO Wi0)] R wr) (fun i _ _ _ => 17 - (intOf i).toNat)
  case atStart => exact ⟨0, [], none, 0, R10, by omega, rfl, TkG.start R10, k4.1, ⟨offE_nil _, (by intro y hy; cases hy), HS.out, HFQ.out, (by intro y hy; cases hy), (by intro y hy; simp at hy), (by intro y hy; simp at hy), by intro y hy; simp at hy⟩, KK.out⟩
  case round =>
    obtain ⟨k, rs, ra, cap, R, hk, rfl, hT, hRok, hAp, hKr⟩ := hrel
    clear KK HS
    have KK := Lib.hid hKr
    have HT := Lib.hid hT
    have RW := Lib.hid hAp
    clear hKr hT hAp
    have c2 := KK.out.rd.c2
    have hqr : q < wr.heap.size := KK.out.lt (q, wiO ⟨7, I1a, ⟨#[]⟩, 0, 0, Sl0, ⟨ra, k, cap⟩, ⟨a, n, c⟩, 0⟩) (by simp)
    by_cases hlt : k < N
    · have t1 : decide ((k : Int) < (N : Int)) = true := decide_eq_true (by omega)
      rcases hbad : R.bad with _ | _
      · rw [hbad] at c2
        have hb10 : R10.bad = false := by
          cases hb : R10.bad
          · rfl
          · have h0 := HT.out.bad0 hb
            have h1 := HT.out.tk
            subst h0
            have h2 : R10 = R := congrArg (fun x => x.2.1) h1
            rw [h2, hbad] at hb
            cases hb
        have HSTEP : Hid ((readR R.text.1).2.2 = 0 → TkG R10 (k + 1) (rs.map RecA.m ++ [((readR R.text.1).1, (readR R.text.1).2.1)]) R.text.2) := fun he => HT.out.step k4.1 hbad hb10 he
        have HERR : Hid ((readR R.text.1).2.2 ≠ 0 → ¬ GD) := fun he hg => by
          obtain ⟨vs, ms, hd⟩ := HGD1.out.1 hg
          obtain ⟨_, hn, _, hj, _⟩ := F2.out vs ms hd
          have h1 := (hj (k + 1) (by omega)).2.2
          have h2 : (takeR (k + 1) R10 0).2.2 = rdE (takeR k R10 0).2.1 (takeR k R10 0).2.2 := rfl
          rw [h2, HT.out.tk] at h1
          simp only [rdE, if_neg he] at h1
          exact he h1
        have k5 := Rdr.text_ok hRok
        have hts := text_size hRok
        have HWF : Hid ((readR R.text.1).2.2 = 0 → (readR R.text.1).1.wf) := fun he => (rr_data (by have := hRok.1; omega) he).2.1
        have RT := fun wx h => rrdr_text g R wx h hRok
        have RD := fun wx => rsread_f R.text.1 wx (by have := hRok.1; omega)
        clear hbad hb10 HT
        generalize R.text = TX at *
        obtain ⟨T, RX⟩ := TX
        simp only at HSTEP HERR k5 hts HWF RT RD
        generalize readR T = RR at *
        obtain ⟨xr, xs, xe⟩ := RR
        simp only at HSTEP HERR HWF RD
        unfold rcVal at RD
        go_upto_region 26 with (first
          | (go_at_call 77; refine (RT _ KK.out.rd).mono ?_; rintro e w14 ⟨rfl, hn, dn⟩; have hz14 := dn.size; have KK := Lib.hid (KK.out.step hn dn); have RW := Lib.hid (RW.out.but (by omega) dn); clear hn dn)
          | (go_at_call 79; refine (RD _).mono ?_; rintro e w15 ⟨d, rfl, hs15, hfr, dn⟩; have hz15 := dn.size; have HZF : Hid (∀ y, ra = some y → farA [y.block] d) := (fun y hy => .inr fun x hx hm => by have h1 := RW.out.off.lt y hy; have h2 := hfr x hx; simp only [List.mem_singleton] at hm; omega); have KK := Lib.hid (KK.out.below dn); have RW := Lib.hid (RW.out.below dn); have HD := Lib.hid hs15; clear hs15 dn)
          | (refine wpList_store_row rfl 60 _ _ rfl _ (rcA xr d) rfl rfl 60 _ (heap_alloc_new _ _) (by kernel_rfl) rfl (by simp [Value.oneCell', rcA]) ?_; rw [World.setRow_alloc_new]))
        try simp only [Act.put, sA, sZ, sS]
        generalize hw16 : World.alloc _ _ = w16
        have hba : Below w15.heap.size w15 w16 := by rw [← hw16]; exact (Below.refl _ _).alloc (Nat.le_refl _) _
        have KK := Lib.hid (show Kr 105 g w [(w15.heap.size, rcO xr d), (q, wiO ⟨7, I1a, ⟨#[]⟩, 0, 0, Sl0, ⟨ra, k, cap⟩, ⟨a, n, c⟩, 0⟩), (p, wiO Wi0)] RX w16 by rw [← hw16]; exact KK.out.new' rfl (rcO xr d))
        have RW := Lib.hid (RW.out.below hba)
        have HD := Lib.hid (HD.out.below hba)
        have hqu : q < w15.heap.size := by omega
        have HDF : Hid (∀ x, d.a = some x → q < x.block) := fun x hx => by have := hfr x hx; omega
        clear hw16 hba RT RD c2 hfr
        obtain ⟨u, hu⟩ : ∃ u, w15.heap.size = u := ⟨_, rfl⟩
        rw [hu] at KK hqu ⊢
        by_cases he : xe = 0
        · have t2 : (xe != 0) = false := bne_eq_false_iff_eq.2 he
          have HG2 := Lib.hid (HSTEP.out he)
          have HW2 := Lib.hid (HWF.out he)
          clear he HSTEP HERR HWF
          have hcap : cap ≤ 9223372036854775807 := maxLen_i RW.out.off.max
          have c6 := KK.out.cell (k := q) (o := wiO ⟨7, I1a, ⟨#[]⟩, 0, 0, Sl0, ⟨ra, k, cap⟩, ⟨a, n, c⟩, 0⟩) (by simp) (j := 6) (v := .slice ra k cap) rfl
          have hz16 : q + 1 ≤ w16.heap.size := by have := KK.out.lt (u, rcO xr d) (by simp); simp only at this; omega
          go_wp2_with (first
            | refine wpList_load_row rfl 60 _ rfl u rfl 60 #[.int .i64 xr.kind, .string xr.series, .int .i64 xr.time, .int .i64 xr.value, .int .i64 xr.tier, .int .i64 xr.st.clock, .int .i64 xr.st.site, .int .i64 xr.st.seq, .slice d.a d.n d.c] (0, 0) _ (KK.out.at_ (u, rcO xr d) (by simp)).2 Tryz.underlying60 rfl (by kernel_rfl) ?_
            | (at_builtin; refine wpList_append_O rec_ety rfl _ _ rfl _ ra k cap rs rfl (RW.out.below ?q1).off ?q3 w16.heap.size 1 ⟨xr, d, xs⟩ rfl ?q4 ?q5))
          case q1 => exact (Below.refl _ _).alloc (Nat.le_refl _) _
          case q3 => omega
          case q4 => exact rec_new17 w16 xr d xs
          case q5 =>
            intro g' o' cap3 w17 hO17 hc17
            have hba2 := (Below.refl w16.heap.size w16).alloc (Nat.le_refl _) (.cells (rcA xr d) 60)
            have hqa : q < (w16.alloc (.cells (rcA xr d) 60)).heap.size := by simp; omega
            have hsz := alloc_size w16 (.cells (rcA xr d) 60)
            have hc17 : (ra = some ⟨g', o', none⟩ ∧ But g' (w16.alloc (.cells (rcA xr d) 60)) w17) ∨ ((w16.alloc (.cells (rcA xr d) 60)).heap.size ≤ g' ∧ Below (w16.alloc (.cells (rcA xr d) 60)).heap.size (w16.alloc (.cells (rcA xr d) 60)) w17) := by rw [hsz]; exact hc17
            have hlow := app_low (RW.out.below hba2).rq hc17 hqa
            have RW := Lib.hid ((RW.out.below hba2).app hO17 hc17 hqa ⟨HW2.out, HD.out.below hba2⟩ HDF.out HZF.out)
            have hbt : Below (q + 1) w16 w17 := ((Below.refl (q + 1) w16).alloc (by omega) _).trans hlow
            have KK := Lib.hid (Kr.ownB (KK.out.sub (m := [(q, wiO ⟨7, I1a, ⟨#[]⟩, 0, 0, Sl0, ⟨ra, k, cap⟩, ⟨a, n, c⟩, 0⟩), (p, wiO Wi0)]) (by simp)) hbt (by omega) (by omega) (by intro x hx; simp only [List.mem_cons, List.not_mem_nil, or_false] at hx; rcases hx with rfl | rfl <;> simp only <;> omega))
            clear hba2 hqa hlow hbt hO17 hc17 hsz HD HDF HZF HW2 c6
            have ⟨q6, f6⟩ := KK.out.cf (k := q) (o := wiO ⟨7, I1a, ⟨#[]⟩, 0, 0, Sl0, ⟨ra, k, cap⟩, ⟨a, n, c⟩, 0⟩) (by simp) 6 (v := .slice ra k cap) rfl
            go_wp2_with fail
            go_roundw
            case rel => exact ⟨k + 1, rs ++ [⟨xr, d, xs⟩], _, cap3, RX, by omega, by go_num, by rw [List.map_append]; exact HG2.out, k5.1, RW.out.but (Nat.le_refl q) (But.set q 6 _ _), KK.out.setCell hA (by omega) 6 _ _ rfl⟩
            case measure => simp [intOf]; omega
        · have t2 : (xe != 0) = true := bne_iff_ne.2 he
          have HNG := Lib.hid (HERR.out he)
          clear he HSTEP HERR HWF
          go_wp2_with (first | refine wpList_store_row rfl 33 _ _ rfl p Wi0.arr rfl rfl 33 _ (KK.out.at_ (p, wiO Wi0) (by simp)).2 (by kernel_rfl) rfl (wi_one _) ?_)
          have KF := Kr.setRow (KK.out.sub (m := [(p, wiO Wi0)]) (by simp)) trivial (by omega) (wiO Wi0)
          refine bodyPost_ret (v := .tuple #[.agg Wi0.arr, .int .i64 10]) (res_cell_tmp rfl _ _ p 33 Wi0.arr (0, 0) _ _ rfl rfl KF.hd Tryz.underlying33 rfl (by kernel_rfl)) rfl ⟨Wi0, 10, rfl, KF.belowB (by omega), .inr ⟨HNG.out, rfl, rfl⟩⟩
      · have HGD : Hid (GD ↔ R.fin = 0 ∧ okA ⟨7, I1a, ⟨#[]⟩, 0, 0, Sl0, ⟨ra, k, cap⟩, ⟨a, n, c⟩, 0⟩ ∧ okT ⟨7, I1a, ⟨#[]⟩, 0, 0, Sl0, ⟨ra, k, cap⟩, ⟨a, n, c⟩, 0⟩ [] rs L) := ⟨fun h => (by
            obtain ⟨vs, ms, hd⟩ := HGD1.out.1 h
            have h1 := HT.out.bad (F2.out vs ms hd).2.2.1
            rw [hbad] at h1
            cases h1), fun h => absurd h.1 (fin_ne hbad)⟩
        rw [hbad] at c2
        have HDEC : Hid (R.fin = 0 → DC L (rs.map RecA.m)) := fun h => absurd h (fin_ne hbad)
        clear hbad
        have HWA := Lib.hid (RW.out.wi I1a)
        have HFAR := Lib.hid (RW.out.far I1a (p := p) (by omega))
        have HOT : Hid (GD → okRecs rs ∧ DC L (rs.map RecA.m)) := fun h => ⟨(HGD.out.1 h).2.2.2.1, HDEC.out (HGD.out.1 h).1⟩
        have kF := hRok
        clear HT RW F1 F2 F3 HGD1 HDEC
        go_upto_region 29 with fail
        have F1 := fun wx h => rrdr_end g R wx h kF
        have hfin : Rdr.fin R = 0 ∨ Rdr.fin R = 10 := by unfold Rdr.fin; split <;> simp
        rcases hfin with hf | hf
        · rw [hf] at F1
          by_cases hok2 : okA ⟨7, I1a, ⟨#[]⟩, 0, 0, Sl0, ⟨ra, k, cap⟩, ⟨a, n, c⟩, 0⟩ ∧ okT ⟨7, I1a, ⟨#[]⟩, 0, 0, Sl0, ⟨ra, k, cap⟩, ⟨a, n, c⟩, 0⟩ [] rs L
          · have CW := fun wx (h : WiAt wx ⟨7, I1a, ⟨#[]⟩, 0, 0, Sl0, ⟨ra, k, cap⟩, ⟨a, n, c⟩, 0⟩ [] rs L) => rcheck_w h
            rw [chkW_0 hok2.1 hok2.2] at CW
            have HG := Lib.hid (HGD.out.2 ⟨hf, hok2⟩)
            clear hok2 hf
            go_wp2_with (first
              | (go_at_call 80; refine (F1 _ KK.out.rd).mono ?_; rintro e w20 ⟨rfl, dq⟩; have KK := Lib.hid (KK.out.step (dq.rdr KK.out.rd) dq.but); have HWA := Lib.hid (HWA.out.below dq.below))
              | (go_at_call 17; refine (CW _ HWA.out).mono ?_; rintro e w21 ⟨rfl, dn⟩; have KK := Lib.hid (KK.out.below dn); have HWA := Lib.hid (HWA.out.below dn); clear dn)
              | refine wpList_load_row_w (by rfl) 33 _ rfl q rfl 33 (Wi.arr ⟨7, I1a, ⟨#[]⟩, 0, 0, Sl0, ⟨ra, k, cap⟩, ⟨a, n, c⟩, 0⟩) (0, 0) _ (KK.out.at_ (q, wiO ⟨7, I1a, ⟨#[]⟩, 0, 0, Sl0, ⟨ra, k, cap⟩, ⟨a, n, c⟩, 0⟩) (by simp)).2 Tryz.underlying33 rfl (by kernel_rfl) ?_
              | refine wpList_load_row rfl 33 _ rfl q rfl 33 (Wi.arr ⟨7, I1a, ⟨#[]⟩, 0, 0, Sl0, ⟨ra, k, cap⟩, ⟨a, n, c⟩, 0⟩) (0, 0) _ (KK.out.at_ (q, wiO ⟨7, I1a, ⟨#[]⟩, 0, 0, Sl0, ⟨ra, k, cap⟩, ⟨a, n, c⟩, 0⟩) (by simp)).2 Tryz.underlying33 rfl (by kernel_rfl) ?_
              | refine wpList_store_row rfl 33 _ _ rfl p (Wi.arr ⟨7, I1a, ⟨#[]⟩, 0, 0, Sl0, ⟨ra, k, cap⟩, ⟨a, n, c⟩, 0⟩) rfl rfl 33 _ (KK.out.at_ (p, wiO Wi0) (by simp)).2 (by kernel_rfl) rfl (wi_one _) ?_)
            have KF := Kr.setRow (KK.out.sub (m := [(p, wiO Wi0)]) (by simp)) trivial (by omega) (wiO ⟨7, I1a, ⟨#[]⟩, 0, 0, Sl0, ⟨ra, k, cap⟩, ⟨a, n, c⟩, 0⟩)
            have HWF := Lib.hid (HWA.out.but HFAR.out (But.row p _ (Wi.arr ⟨7, I1a, ⟨#[]⟩, 0, 0, Sl0, ⟨ra, k, cap⟩, ⟨a, n, c⟩, 0⟩)))
            refine bodyPost_ret (v := .tuple #[.agg (Wi.arr ⟨7, I1a, ⟨#[]⟩, 0, 0, Sl0, ⟨ra, k, cap⟩, ⟨a, n, c⟩, 0⟩), .int .i64 0]) (res_cell_tmp rfl _ _ p 33 (Wi.arr ⟨7, I1a, ⟨#[]⟩, 0, 0, Sl0, ⟨ra, k, cap⟩, ⟨a, n, c⟩, 0⟩) (0, 0) _ _ rfl rfl KF.hd Tryz.underlying33 rfl (by kernel_rfl)) rfl ⟨_, 0, rfl, KF.belowB (by omega), .inl ⟨HG.out, rfl, ⟨ra, k, cap⟩, ⟨a, n, c⟩, rs, L, by rw [HV1.out], HWF.out, (HOT.out HG.out).1, (HOT.out HG.out).2⟩⟩
          · have CW := fun wx (h : WiAt wx ⟨7, I1a, ⟨#[]⟩, 0, 0, Sl0, ⟨ra, k, cap⟩, ⟨a, n, c⟩, 0⟩ [] rs L) => rcheck_w h
            rw [chkW_1 hok2] at CW
            have HNG : Hid (¬ GD) := fun h => hok2 (HGD.out.1 h).2
            clear hok2 hf
            go_wp2_with (first
              | (go_at_call 80; refine (F1 _ KK.out.rd).mono ?_; rintro e w20 ⟨rfl, dq⟩; have KK := Lib.hid (KK.out.step (dq.rdr KK.out.rd) dq.but); have HWA := Lib.hid (HWA.out.below dq.below))
              | (go_at_call 17; refine (CW _ HWA.out).mono ?_; rintro e w21 ⟨rfl, dn⟩; have KK := Lib.hid (KK.out.below dn); clear dn)
              | refine wpList_load_row_w (by rfl) 33 _ rfl q rfl 33 (Wi.arr ⟨7, I1a, ⟨#[]⟩, 0, 0, Sl0, ⟨ra, k, cap⟩, ⟨a, n, c⟩, 0⟩) (0, 0) _ (KK.out.at_ (q, wiO ⟨7, I1a, ⟨#[]⟩, 0, 0, Sl0, ⟨ra, k, cap⟩, ⟨a, n, c⟩, 0⟩) (by simp)).2 Tryz.underlying33 rfl (by kernel_rfl) ?_
              | refine wpList_store_row rfl 33 _ _ rfl p Wi0.arr rfl rfl 33 _ (KK.out.at_ (p, wiO Wi0) (by simp)).2 (by kernel_rfl) rfl (wi_one _) ?_)
            have KF := Kr.setRow (KK.out.sub (m := [(p, wiO Wi0)]) (by simp)) trivial (by omega) (wiO Wi0)
            refine bodyPost_ret (v := .tuple #[.agg Wi0.arr, .int .i64 10]) (res_cell_tmp rfl _ _ p 33 Wi0.arr (0, 0) _ _ rfl rfl KF.hd Tryz.underlying33 rfl (by kernel_rfl)) rfl ⟨Wi0, 10, rfl, KF.belowB (by omega), .inr ⟨HNG.out, rfl, rfl⟩⟩
        · have HNG : Hid (¬ GD) := fun h => by have := (HGD.out.1 h).1; rw [hf] at this; cases this
          have CW := fun wx (h : WiAt wx ⟨7, I1a, ⟨#[]⟩, 0, 0, Sl0, ⟨ra, k, cap⟩, ⟨a, n, c⟩, 0⟩ [] rs L) => rcheck_w h
          rw [hf] at F1
          clear hf
          go_wp2_with (first
            | (go_at_call 80; refine (F1 _ KK.out.rd).mono ?_; rintro e w20 ⟨rfl, dq⟩; have KK := Lib.hid (KK.out.step (dq.rdr KK.out.rd) dq.but); have HWA := Lib.hid (HWA.out.below dq.below))
            | (go_at_call 17; refine (CW _ HWA.out).mono ?_; rintro e w21 ⟨rfl, dn⟩; have KK := Lib.hid (KK.out.below dn); clear dn)
            | refine wpList_load_row_w (by rfl) 33 _ rfl q rfl 33 (Wi.arr ⟨7, I1a, ⟨#[]⟩, 0, 0, Sl0, ⟨ra, k, cap⟩, ⟨a, n, c⟩, 0⟩) (0, 0) _ (KK.out.at_ (q, wiO ⟨7, I1a, ⟨#[]⟩, 0, 0, Sl0, ⟨ra, k, cap⟩, ⟨a, n, c⟩, 0⟩) (by simp)).2 Tryz.underlying33 rfl (by kernel_rfl) ?_
            | refine wpList_store_row rfl 33 _ _ rfl p Wi0.arr rfl rfl 33 _ (KK.out.at_ (p, wiO Wi0) (by simp)).2 (by kernel_rfl) rfl (wi_one _) ?_)
          have KF := Kr.setRow (KK.out.sub (m := [(p, wiO Wi0)]) (by simp)) trivial (by omega) (wiO Wi0)
          refine bodyPost_ret (v := .tuple #[.agg Wi0.arr, .int .i64 10]) (res_cell_tmp rfl _ _ p 33 Wi0.arr (0, 0) _ _ rfl rfl KF.hd Tryz.underlying33 rfl (by kernel_rfl)) rfl ⟨Wi0, 10, rfl, KF.belowB (by omega), .inr ⟨HNG.out, rfl, rfl⟩⟩
    · have t1 : decide ((k : Int) < (N : Int)) = false := decide_eq_false (by omega)
      have hkN : k = N := by omega
      have HDEC : Hid (R.fin = 0 → DC L (rs.map RecA.m)) := fun h => F1.out _ R (by rw [← hkN]; exact HT.out) h
      have hoA : okA ⟨7, I1a, ⟨#[]⟩, 0, 0, Sl0, ⟨ra, k, cap⟩, ⟨a, n, c⟩, 0⟩ := okA_min (K := 7) (by decide) hid rfl rfl (.inl rfl) (.inr ⟨rfl, rfl, rfl⟩) ⟨.inr rfl, z40⟩ (.inr ⟨rfl, by show k ≤ 16; omega⟩) (.inl (by decide))
      have HGD : Hid (GD ↔ R.fin = 0 ∧ okA ⟨7, I1a, ⟨#[]⟩, 0, 0, Sl0, ⟨ra, k, cap⟩, ⟨a, n, c⟩, 0⟩ ∧ okT ⟨7, I1a, ⟨#[]⟩, 0, 0, Sl0, ⟨ra, k, cap⟩, ⟨a, n, c⟩, 0⟩ [] rs L) := ⟨fun h => by
          obtain ⟨vs, ms, hd⟩ := HGD1.out.1 h
          obtain ⟨e1, e2, _, e4, e5⟩ := F2.out vs ms hd
          obtain ⟨e6, e7⟩ := F3.out vs ms hd
          have h1 := HT.out.tk
          rw [hkN, e2] at h1
          have h2 := (e4 ms.length (Nat.le_refl _)).1
          rw [h1, List.take_length] at h2
          rw [h1] at e5
          exact ⟨e5, hoA, by intro p hp; simp at hp, fun y hy => (e7 y.m (by rw [← h2]; exact List.mem_map_of_mem hy)).1, fun e => absurd e (by simp), by rw [e1]; exact e6⟩, fun h => HGD1.out.2 ⟨_, _, HDEC.out h.1⟩⟩
      have tN : decide (k < N) = false := decide_eq_false hlt
      clear hoA hkN hlt
      have HWA := Lib.hid (RW.out.wi I1a)
      have HFAR := Lib.hid (RW.out.far I1a (p := p) (by omega))
      have HOT : Hid (GD → okRecs rs ∧ DC L (rs.map RecA.m)) := fun h => ⟨(HGD.out.1 h).2.2.2.1, HDEC.out (HGD.out.1 h).1⟩
      have kF := hRok
      clear HT RW F1 F2 F3 HGD1 HDEC
      go_upto_region 29 with fail
      have F1 := fun wx h => rrdr_end g R wx h kF
      have hfin : Rdr.fin R = 0 ∨ Rdr.fin R = 10 := by unfold Rdr.fin; split <;> simp
      rcases hfin with hf | hf
      · rw [hf] at F1
        by_cases hok2 : okA ⟨7, I1a, ⟨#[]⟩, 0, 0, Sl0, ⟨ra, k, cap⟩, ⟨a, n, c⟩, 0⟩ ∧ okT ⟨7, I1a, ⟨#[]⟩, 0, 0, Sl0, ⟨ra, k, cap⟩, ⟨a, n, c⟩, 0⟩ [] rs L
        · have CW := fun wx (h : WiAt wx ⟨7, I1a, ⟨#[]⟩, 0, 0, Sl0, ⟨ra, k, cap⟩, ⟨a, n, c⟩, 0⟩ [] rs L) => rcheck_w h
          rw [chkW_0 hok2.1 hok2.2] at CW
          have HG := Lib.hid (HGD.out.2 ⟨hf, hok2⟩)
          clear hok2 hf
          go_wp2_with (first
            | (go_at_call 80; refine (F1 _ KK.out.rd).mono ?_; rintro e w20 ⟨rfl, dq⟩; have KK := Lib.hid (KK.out.step (dq.rdr KK.out.rd) dq.but); have HWA := Lib.hid (HWA.out.below dq.below))
            | (go_at_call 17; refine (CW _ HWA.out).mono ?_; rintro e w21 ⟨rfl, dn⟩; have KK := Lib.hid (KK.out.below dn); have HWA := Lib.hid (HWA.out.below dn); clear dn)
            | refine wpList_load_row_w (by rfl) 33 _ rfl q rfl 33 (Wi.arr ⟨7, I1a, ⟨#[]⟩, 0, 0, Sl0, ⟨ra, k, cap⟩, ⟨a, n, c⟩, 0⟩) (0, 0) _ (KK.out.at_ (q, wiO ⟨7, I1a, ⟨#[]⟩, 0, 0, Sl0, ⟨ra, k, cap⟩, ⟨a, n, c⟩, 0⟩) (by simp)).2 Tryz.underlying33 rfl (by kernel_rfl) ?_
            | refine wpList_load_row rfl 33 _ rfl q rfl 33 (Wi.arr ⟨7, I1a, ⟨#[]⟩, 0, 0, Sl0, ⟨ra, k, cap⟩, ⟨a, n, c⟩, 0⟩) (0, 0) _ (KK.out.at_ (q, wiO ⟨7, I1a, ⟨#[]⟩, 0, 0, Sl0, ⟨ra, k, cap⟩, ⟨a, n, c⟩, 0⟩) (by simp)).2 Tryz.underlying33 rfl (by kernel_rfl) ?_
            | refine wpList_store_row rfl 33 _ _ rfl p (Wi.arr ⟨7, I1a, ⟨#[]⟩, 0, 0, Sl0, ⟨ra, k, cap⟩, ⟨a, n, c⟩, 0⟩) rfl rfl 33 _ (KK.out.at_ (p, wiO Wi0) (by simp)).2 (by kernel_rfl) rfl (wi_one _) ?_)
          have KF := Kr.setRow (KK.out.sub (m := [(p, wiO Wi0)]) (by simp)) trivial (by omega) (wiO ⟨7, I1a, ⟨#[]⟩, 0, 0, Sl0, ⟨ra, k, cap⟩, ⟨a, n, c⟩, 0⟩)
          have HWF := Lib.hid (HWA.out.but HFAR.out (But.row p _ (Wi.arr ⟨7, I1a, ⟨#[]⟩, 0, 0, Sl0, ⟨ra, k, cap⟩, ⟨a, n, c⟩, 0⟩)))
          refine bodyPost_ret (v := .tuple #[.agg (Wi.arr ⟨7, I1a, ⟨#[]⟩, 0, 0, Sl0, ⟨ra, k, cap⟩, ⟨a, n, c⟩, 0⟩), .int .i64 0]) (res_cell_tmp rfl _ _ p 33 (Wi.arr ⟨7, I1a, ⟨#[]⟩, 0, 0, Sl0, ⟨ra, k, cap⟩, ⟨a, n, c⟩, 0⟩) (0, 0) _ _ rfl rfl KF.hd Tryz.underlying33 rfl (by kernel_rfl)) rfl ⟨_, 0, rfl, KF.belowB (by omega), .inl ⟨HG.out, rfl, ⟨ra, k, cap⟩, ⟨a, n, c⟩, rs, L, by rw [HV1.out], HWF.out, (HOT.out HG.out).1, (HOT.out HG.out).2⟩⟩
        · have CW := fun wx (h : WiAt wx ⟨7, I1a, ⟨#[]⟩, 0, 0, Sl0, ⟨ra, k, cap⟩, ⟨a, n, c⟩, 0⟩ [] rs L) => rcheck_w h
          rw [chkW_1 hok2] at CW
          have HNG : Hid (¬ GD) := fun h => hok2 (HGD.out.1 h).2
          clear hok2 hf
          go_wp2_with (first
            | (go_at_call 80; refine (F1 _ KK.out.rd).mono ?_; rintro e w20 ⟨rfl, dq⟩; have KK := Lib.hid (KK.out.step (dq.rdr KK.out.rd) dq.but); have HWA := Lib.hid (HWA.out.below dq.below))
            | (go_at_call 17; refine (CW _ HWA.out).mono ?_; rintro e w21 ⟨rfl, dn⟩; have KK := Lib.hid (KK.out.below dn); clear dn)
            | refine wpList_load_row_w (by rfl) 33 _ rfl q rfl 33 (Wi.arr ⟨7, I1a, ⟨#[]⟩, 0, 0, Sl0, ⟨ra, k, cap⟩, ⟨a, n, c⟩, 0⟩) (0, 0) _ (KK.out.at_ (q, wiO ⟨7, I1a, ⟨#[]⟩, 0, 0, Sl0, ⟨ra, k, cap⟩, ⟨a, n, c⟩, 0⟩) (by simp)).2 Tryz.underlying33 rfl (by kernel_rfl) ?_
            | refine wpList_store_row rfl 33 _ _ rfl p Wi0.arr rfl rfl 33 _ (KK.out.at_ (p, wiO Wi0) (by simp)).2 (by kernel_rfl) rfl (wi_one _) ?_)
          have KF := Kr.setRow (KK.out.sub (m := [(p, wiO Wi0)]) (by simp)) trivial (by omega) (wiO Wi0)
          refine bodyPost_ret (v := .tuple #[.agg Wi0.arr, .int .i64 10]) (res_cell_tmp rfl _ _ p 33 Wi0.arr (0, 0) _ _ rfl rfl KF.hd Tryz.underlying33 rfl (by kernel_rfl)) rfl ⟨Wi0, 10, rfl, KF.belowB (by omega), .inr ⟨HNG.out, rfl, rfl⟩⟩
      · have HNG : Hid (¬ GD) := fun h => by have := (HGD.out.1 h).1; rw [hf] at this; cases this
        have CW := fun wx (h : WiAt wx ⟨7, I1a, ⟨#[]⟩, 0, 0, Sl0, ⟨ra, k, cap⟩, ⟨a, n, c⟩, 0⟩ [] rs L) => rcheck_w h
        rw [hf] at F1
        clear hf
        go_wp2_with (first
          | (go_at_call 80; refine (F1 _ KK.out.rd).mono ?_; rintro e w20 ⟨rfl, dq⟩; have KK := Lib.hid (KK.out.step (dq.rdr KK.out.rd) dq.but); have HWA := Lib.hid (HWA.out.below dq.below))
          | (go_at_call 17; refine (CW _ HWA.out).mono ?_; rintro e w21 ⟨rfl, dn⟩; have KK := Lib.hid (KK.out.below dn); clear dn)
          | refine wpList_load_row_w (by rfl) 33 _ rfl q rfl 33 (Wi.arr ⟨7, I1a, ⟨#[]⟩, 0, 0, Sl0, ⟨ra, k, cap⟩, ⟨a, n, c⟩, 0⟩) (0, 0) _ (KK.out.at_ (q, wiO ⟨7, I1a, ⟨#[]⟩, 0, 0, Sl0, ⟨ra, k, cap⟩, ⟨a, n, c⟩, 0⟩) (by simp)).2 Tryz.underlying33 rfl (by kernel_rfl) ?_
          | refine wpList_store_row rfl 33 _ _ rfl p Wi0.arr rfl rfl 33 _ (KK.out.at_ (p, wiO Wi0) (by simp)).2 (by kernel_rfl) rfl (wi_one _) ?_)
        have KF := Kr.setRow (KK.out.sub (m := [(p, wiO Wi0)]) (by simp)) trivial (by omega) (wiO Wi0)
        refine bodyPost_ret (v := .tuple #[.agg Wi0.arr, .int .i64 10]) (res_cell_tmp rfl _ _ p 33 Wi0.arr (0, 0) _ _ rfl rfl KF.hd Tryz.underlying33 rfl (by kernel_rfl)) rfl ⟨Wi0, 10, rfl, KF.belowB (by omega), .inr ⟨HNG.out, rfl, rfl⟩⟩
end
end Go.Proofs.YtglabahbklpocaaGreat
