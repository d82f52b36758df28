/- OriginTrims: for any script, and any vector, the law answers true. -/
import Derived.Test.YtdihbinbkneejaaGOriginTrims51
import Derived.Test.YtdihbinbkneejaaGOriginTrims44
import Derived.Test.YtdihbinbkneejaaGOriginTrims38
import Derived.Test.YtdihbinbkneejaaGOriginTrims45
import Derived.Deep.CutBlock
namespace Go.Proofs.Ytdihbinbkneejaa
section
open Go.RowKit Go.Deep
set_option maxRecDepth 100000
set_option linter.unusedVariables false
set_option linter.unusedSimpArgs false
attribute [local go_sem ↓] Go.wp_at_zero Go.wp_at_succ
set_option maxHeartbeats 16000000 in
theorem otrims_any (a0 : Option Addr) (n c : Nat) (xs : List OpA) (v : Sl) (vs : List Int) (w : World) (h : ReadsE OpA.cs 13 w a0 n xs) (hok : ∀ o ∈ xs, o.ok w) (hnc : n ≤ c) (hcb : c ≤ 9223372036854775807) (hv : SlR w v vs) :
    Calls Try.prog 5 #[.slice a0 n c, .slice v.a v.n v.c] w fun e w' => e = .returned (.bool true) ∧ Below w.heap.size w w' := by
  have H := Lib.hid h
  have HVV := Lib.hid hv
  have nilS : ∀ wx : World, SlR wx ⟨none, 0, 0⟩ [] := fun wx => ⟨⟨rfl, .inl rfl⟩, Nat.le_refl _, by decide⟩
  have b60 : i64' 60 := ⟨by decide, by decide⟩
  clear h hv
  go_enter Try.func5, Try.ntmps5
  go_wp2_with fail
  refine (oawake_any _).mono ?_
  rintro e w1 ⟨rfl, d1⟩
  go_wp2_with fail
  refine (onew_any [] 60 ⟨none, 0, 0⟩ [] w1 (nilS _) (by simp) b60).mono ?_
  rintro e w2 ⟨g1, rfl, hg1, hL1, d2⟩
  have hTW : One w [g1] g1 (newM 60 []) w2 := ⟨hL1, below_then d1 d1.size d2⟩
  have h01 : w.heap.size ≤ g1 := by have := d1.size; omega
  obtain ⟨F, HFE⟩ : ∃ F : List Nat, Hid ([g1] = F) := ⟨_, rfl⟩
  have hF1 : g1 ∈ F := by rw [← HFE.out]; simp
  have HF : Hid (∀ q ∈ F, q = g1) := fun q hq => by rw [← HFE.out] at hq; simpa using hq
  rw [HFE.out] at hTW
  clear hL1 d1 d2 hg1
  obtain ⟨m, hm⟩ : ∃ m, Hid (newM 60 [] = m) := ⟨_, rfl⟩
  rw [hm.out] at hTW
  have hLI0 : LInv m ∧ m.most = 60 ∧ m.bs = [] ∧ m.xs.length ≤ 0 ∧ m.clock = clk 0 m.xs := by
    rw [← hm.out]
    have e : joinV [] [] = [] := by decide +kernel
    unfold newM
    rw [e]
    exact ⟨⟨by intro k x hk; simp at hk, rfl⟩, rfl, rfl, by simp, rfl⟩
  go_upto_block 0 with fail
  go_cut [7] (fun i wx => ∃ l : LogM, One w F g1 l wx ∧ (LInv l ∧ l.most = 60 ∧ l.bs = [] ∧ l.xs.length ≤ 40 ∧ l.clock = clk 0 l.xs))
  case first =>
    go_wp2_with fail
    go_loopw [7, 8, 9] (fun i _ _ wr => ∃ (k : Nat) (l : LogM), k ≤ n ∧ k ≤ 40 ∧ i = .int .i64 k ∧ One w F g1 l wr ∧ (LInv l ∧ l.most = 60 ∧ l.bs = [] ∧ l.xs.length ≤ k ∧ l.clock = clk 0 l.xs)) (fun i _ _ _ => 41 - (intOf i).toNat)
    case atStart => exact ⟨0, m, by omega, by omega, rfl, hTW, hLI0⟩
    case round =>
      obtain ⟨k, l, hk, hk60, rfl, hTW, hLI⟩ := hrel
      by_cases hkl : k < n ∧ k < 40
      · have t1 : decide ((k : Int) < (n : Int)) = true := decide_eq_true (by omega)
        have t2 : decide ((k : Int) < 40) = true := decide_eq_true (by omega)
        obtain ⟨b, o, op, rfl, hxk, hC⟩ := ops_at H.out k hkl.1
        have hop := hok op (List.mem_of_getElem? hxk)
        have hC := hC wr (hTW.b)
        have HX := Lib.hid (hop.rec_.below hTW.b)
        have TW := Lib.hid hTW
        have LI := Lib.hid hLI
        clear hTW hLI hop hxk
        have SMA := small17_any op.x wr HX.out
        change Calls Try.prog _ #[.agg (rcA op.x.r op.x.d)] wr _ at SMA
        have HY := RecA.small_ok HX.out
        have i1 : (0 : Int) ≤ (k : Int) := by omega
        have i2 : (k : Int) < (n : Int) := by omega
        have HC := Lib.hid hC
        clear hC
        generalize op.x.r = rx at *
        generalize op.x.d = dx at *
        generalize RecA.small op.x = Y at *
        obtain ⟨r, d, ds⟩ := Y
        simp only [RecA.val, rcVal] at SMA
        go_upto_region 9 with (first
          | refine wpList_load_mid rfl 30 _ rfl b (o + k * 13 + 3) rfl (rcA rx dx).toList _ HC.out Try.underlying30 rfl (by kernel_rfl) ?_
          | (go_at_call 10; refine SMA.mono ?_; rintro e w4 ⟨rfl, d4⟩)
          | (refine wpList_store_row rfl 30 _ _ rfl _ (rcA r d) rfl rfl 30 _ (heap_alloc_new _ _) (by kernel_rfl) rfl (by simp [Value.oneCell', rcA]) ?_; rw [World.setRow_alloc_new]))
        have TW := Lib.hid (TW.out.below d4)
        have HY := Lib.hid (RecA.ok.below HY d4)
        clear d4 SMA HX HC
        have KK := Lib.hid (show Kn w4.heap.size w4 [(w4.heap.size, rcO r d)] (w4.alloc (.cells (rcA r d) 30 (0, 0))) from (Kn.start w4).new (rcO r d))
        obtain ⟨p, hp⟩ : ∃ p, w4.heap.size = p := ⟨_, rfl⟩
        rw [hp] at KK ⊢
        generalize w4.alloc (.cells (rcA r d) 30 (0, 0)) = w5 at *
        have TB : ∀ wx, Below p w4 wx → One w F g1 l wx := fun wx hb => TW.out.below (by rw [hp]; exact hb)
        have hFl : ∀ q ∈ F, q < p := fun q hq => by have h1 := TW.out.l1.lt; rw [hp] at h1; obtain rfl := HF.out q hq; exact h1
        obtain ⟨c0, c1, c2, c3, c4, c5, c6, c7, c8⟩ := rec_fields (p := p) (r := r) (d := d) KK.out (by simp)
        by_cases hsite : 0 ≤ r.st.site ∧ r.st.site < 8
        · have t5 : decide (0 ≤ r.st.site) = true := decide_eq_true hsite.1
          have t6 : decide (r.st.site < 8) = true := decide_eq_true hsite.2
          have har := atV_range l.ks r.st.site
          have hww : wrap64 (atV l.ks r.st.site + 1) = atV l.ks r.st.site + 1 := IntWalk.wrap64_in (atV l.ks r.st.site + 1) ⟨by omega, by omega⟩
          go_upto_region 11 with (first | (go_at_call 11; refine (oknow_any F g1 l _ (TB _ KK.out.b).l1).mono ?_; rintro e w6 ⟨dk, rfl, hdk, hdf, hd8, dn⟩; have hfk := Lib.hid (show fresh p dk from hdf.imp_right fun h p' hp' => Nat.le_trans KK.out.le (h p' hp')); have hfk2 := Lib.hid (show farA [p] dk from hdf.imp_right fun h p' hp' hm => by have h1 := h p' hp'; have h2 := KK.out.lt (p, rcO r d) (by simp); simp only [List.mem_singleton] at hm; simp only at h2; omega); have KK := Lib.hid (KK.out.below dn); have DK := Lib.hid hdk; clear hdf hd8 dn hdk))
          clear c0 c1 c2 c3 c4 c5 c6 c7 c8
          obtain ⟨c0, c1, c2, c3, c4, c5, c6, c7, c8⟩ := rec_fields (p := p) (r := r) (d := d) KK.out (by simp)
          obtain ⟨A, hA⟩ : ∃ A, atV l.ks r.st.site = A := ⟨_, rfl⟩
          rw [hA] at har hww
          go_upto_region 12 with (first | (go_at_call 12; refine (rat_any dk.a dk.n dk.c l.ks r.st.site _ DK.out.r DK.out.nc DK.out.cb).mono ?_; rintro e w7 ⟨rfl, dn⟩; rw [hA]; have KK := Lib.hid (KK.out.below dn); have DK := Lib.hid (DK.out.below dn); clear dn; have f7 := KK.out.fz (g := p) (o := rcO r d) (by simp) 7; have e7 := KK.out.cell (g := p) (o := rcO r d) (by simp) (j := 7) (v := .int .i64 r.st.seq) rfl))
          have KK := Lib.hid (Kn.setCell KK.out trivial (by omega) 7 (.int .i64 (A + 1)) (rcO { r with st := ⟨r.st.clock, r.st.site, A + 1⟩ } d) rfl)
          have DK := Lib.hid (show SlR (w7.setCell ⟨p, 7, none⟩ (.int .i64 (A + 1))) dk l.ks from SlR.keep (F := [p]) DK.out hfk2.out (by simp [World.setCell]) (fun i _ hi => Below.heap_setCell _ _ _ _ (by simpa using hi)))
          generalize w7.setCell ⟨p, 7, none⟩ (.int .i64 (A + 1)) = w8 at *
          clear c0 c1 c2 c3 c4 c5 c6 c7 c8 f7 e7
          generalize hrr : ({ r with st := ⟨r.st.clock, r.st.site, A + 1⟩ } : Rc) = r2 at *
          have f8 := KK.out.fz (g := p) (o := rcO r2 d) (by simp) 8
          have e8 := KK.out.cell (g := p) (o := rcO r2 d) (by simp) (j := 8) (v := .slice d.a d.n d.c) rfl
          go_upto_region 13 with fail
          have KK := Lib.hid (Kn.setCell KK.out trivial (by omega) 8 (.slice dk.a dk.n dk.c) (rcO r2 dk) rfl)
          have DK := Lib.hid (show SlR (w8.setCell ⟨p, 8, none⟩ (.slice dk.a dk.n dk.c)) dk l.ks from SlR.keep (F := [p]) DK.out hfk2.out (by simp [World.setCell]) (fun i _ hi => Below.heap_setCell _ _ _ _ (by simpa using hi)))
          generalize w8.setCell ⟨p, 8, none⟩ (.slice dk.a dk.n dk.c) = w9 at *
          clear f8 e8
          have hwf2 : r2.wf := by
            rw [← hrr]
            obtain ⟨a1, a2, a3, a4, a5, a6, a7, a8⟩ := HY.out.wf
            exact ⟨a1, a2, a3, a4, a5, a6, a7, by unfold i64'; simp only; omega⟩
          have hsz9 : p ≤ w9.heap.size := KK.out.le
          have AD : ∀ wx, Below p w4 wx → Calls Try.prog 13 #[.pointer (some ⟨g1, 0, none⟩), .agg (rcA r2 dk)] w9 fun e w' => e = .returned (.int .i64 (addM l (r2, l.ks)).2) ∧ LogAt w' F g1 (addM l (r2, l.ks)).1 ∧ But g1 w9 w' := fun _ _ => oadd_any F g1 l ⟨r2, dk, l.ks⟩ w9 (TB _ KK.out.b).l1 hF1 (fun q hq => by have := hFl q hq; omega) ⟨hwf2, DK.out⟩
          clear hww
          go_wp2_with (first
            | refine wpList_load_row rfl 30 _ rfl p rfl 30 (rcA r2 dk) (0, 0) _ KK.out.hd Try.underlying30 rfl (by kernel_rfl) ?_
            | (go_at_call 13; refine (AD _ KK.out.b).mono ?_; rintro e wz ⟨rfl, hz1, hz2⟩))
          have TW9 := (TB _ KK.out.b).one hz1 hz2 h01
          have FIN := Lib.hid (And.intro TW9 (And.intro (LI.out.1.add (r2, l.ks)) (add_len l (r2, l.ks))))
          have FC := Lib.hid (fun h => add_clk (m := l) h (r2, l.ks))
          generalize (addM l (r2, l.ks)).1 = l9 at *
          clear hz1 hz2 TW9
          go_wp2_with fail
          go_roundw
          case rel => exact ⟨k + 1, l9, by omega, by omega, by go_num, FIN.out.1, FIN.out.2.1, by rw [FIN.out.2.2.2.1]; exact LI.out.2.1, by rw [FIN.out.2.2.2.2]; exact LI.out.2.2.1, by have h1 := FIN.out.2.2.1; have h2 := LI.out.2.2.2.1; omega, FC.out LI.out.2.2.2.2⟩
          case measure => simp [intOf]; omega
        · have AD : ∀ wx, Below p w4 wx → Calls Try.prog 13 #[.pointer (some ⟨g1, 0, none⟩), .agg (rcA r d)] w5 fun e w' => e = .returned (.int .i64 (addM l (r, ds)).2) ∧ LogAt w' F g1 (addM l (r, ds)).1 ∧ But g1 w5 w' := fun _ _ => oadd_any F g1 l ⟨r, d, ds⟩ w5 (TB _ KK.out.b).l1 hF1 (fun q hq => by have := hFl q hq; have := KK.out.le; omega) ⟨HY.out.wf, HY.out.sl.below (by rw [hp]; exact KK.out.b)⟩
          by_cases hs0 : 0 ≤ r.st.site
          · have t5 : decide (0 ≤ r.st.site) = true := decide_eq_true hs0
            have t6 : decide (r.st.site < 8) = false := decide_eq_false (by omega)
            clear hsite
            go_wp2_with (first
              | refine wpList_load_row rfl 30 _ rfl p rfl 30 (rcA r d) (0, 0) _ KK.out.hd Try.underlying30 rfl (by kernel_rfl) ?_
              | (go_at_call 13; refine (AD _ KK.out.b).mono ?_; rintro e wz ⟨rfl, hz1, hz2⟩))
            have TW9 := (TB _ KK.out.b).one hz1 hz2 h01
            have FIN := Lib.hid (And.intro TW9 (And.intro (LI.out.1.add (r, ds)) (add_len l (r, ds))))
            have FC := Lib.hid (fun h => add_clk (m := l) h (r, ds))
            generalize (addM l (r, ds)).1 = l9 at *
            clear hz1 hz2 TW9
            go_wp2_with fail
            go_roundw
            case rel => exact ⟨k + 1, l9, by omega, by omega, by go_num, FIN.out.1, FIN.out.2.1, by rw [FIN.out.2.2.2.1]; exact LI.out.2.1, by rw [FIN.out.2.2.2.2]; exact LI.out.2.2.1, by have h1 := FIN.out.2.2.1; have h2 := LI.out.2.2.2.1; omega, FC.out LI.out.2.2.2.2⟩
            case measure => simp [intOf]; omega
          · have t5 : decide (0 ≤ r.st.site) = false := decide_eq_false hs0
            clear hsite
            go_wp2_with (first
              | refine wpList_load_row rfl 30 _ rfl p rfl 30 (rcA r d) (0, 0) _ KK.out.hd Try.underlying30 rfl (by kernel_rfl) ?_
              | (go_at_call 13; refine (AD _ KK.out.b).mono ?_; rintro e wz ⟨rfl, hz1, hz2⟩))
            have TW9 := (TB _ KK.out.b).one hz1 hz2 h01
            have FIN := Lib.hid (And.intro TW9 (And.intro (LI.out.1.add (r, ds)) (add_len l (r, ds))))
            have FC := Lib.hid (fun h => add_clk (m := l) h (r, ds))
            generalize (addM l (r, ds)).1 = l9 at *
            clear hz1 hz2 TW9
            go_wp2_with fail
            go_roundw
            case rel => exact ⟨k + 1, l9, by omega, by omega, by go_num, FIN.out.1, FIN.out.2.1, by rw [FIN.out.2.2.2.1]; exact LI.out.2.1, by rw [FIN.out.2.2.2.2]; exact LI.out.2.2.1, by have h1 := FIN.out.2.2.1; have h2 := LI.out.2.2.2.1; omega, FC.out LI.out.2.2.2.2⟩
            case measure => simp [intOf]; omega
      · have hlen : l.xs.length ≤ 40 := by have := hLI.2.2.2.1; omega
        have HFIN := Lib.hid (show ∃ l : LogM, One w F g1 l wr ∧ (LInv l ∧ l.most = 60 ∧ l.bs = [] ∧ l.xs.length ≤ 40 ∧ l.clock = clk 0 l.xs) from ⟨l, hTW, hLI.1, hLI.2.1, hLI.2.2.1, hlen, hLI.2.2.2.2⟩)
        clear hTW hLI hlen
        by_cases hkn : k < n
        · have t1 : decide ((k : Int) < (n : Int)) = true := decide_eq_true (by omega)
          have t2 : decide ((k : Int) < 40) = false := decide_eq_false (by omega)
          go_wp2_with fail
          go_meet
          exact HFIN.out
        · have t1 : decide ((k : Int) < (n : Int)) = false := decide_eq_false (by omega)
          go_wp2_with fail
          go_meet
          exact HFIN.out
  case rest =>
    obtain ⟨l, hTW, hI, hmo, hbs, hlen, hck⟩ := hcut
    have GD := Lib.hid (show Good [] l.xs by have := hI.good; rwa [hbs] at this)
    have BS := Lib.hid hbs
    have MO := Lib.hid hmo
    have TW := Lib.hid hTW
    have HCV := Lib.hid (show SlR w v.cut (vs.take 12) from HVV.out.cut)
    have hfv : farA F v.cut := HCV.out.lt.imp_right fun h p hp hq => by have h1 := h p hp; have h2 := HF.out _ hq; omega
    have hFs : ∀ wx : World, w.heap.size ≤ wx.heap.size → g1 < wx.heap.size → ∀ q ∈ F, q < wx.heap.size := fun wx _ h q hq => by rw [HF.out q hq]; exact h
    obtain ⟨zs, hzs⟩ : ∃ zs, vs.take 12 = zs := ⟨_, rfl⟩
    rw [hzs] at HCV
    obtain ⟨l2, hl2⟩ : ∃ l2, Hid (trimM l zs = l2) := ⟨_, rfl⟩
    obtain ⟨N, hN⟩ : ∃ N, Hid (trimN zs l.xs = N) := ⟨_, rfl⟩
    have hNl : N ≤ l.xs.length := by rw [← hN.out]; exact trimN_le _ _
    have E1 : Hid (l2.ks = l.ks ∧ l2.clock = l.clock ∧ l2.most = 60 ∧ l2.xs = l.xs.drop N ∧ l2.bs = kAll [] (l.xs.take N)) := by
      show _ ∧ _
      rw [← hl2.out, ← hN.out]
      exact ⟨rfl, rfl, hmo, rfl, by show kAll l.bs _ = _; rw [hbs]⟩
    have E2 : Hid (afterM l2 l2.bs 400 = (l.xs.drop N, true)) := by
      show _ = _
      rw [← hl2.out, ← hN.out]
      exact trim_tells GD.out hbs zs (by omega)
    have E3 : Hid ((afterM l2 [] 400).2 = decide (N = 0)) := by
      show _ = _
      rw [← hl2.out, ← hN.out]
      exact trim_none GD.out hbs zs
    have E4 : Hid (covV zs l2.bs = true) := by
      show _ = _
      rw [E1.out.2.2.2.2, ← hN.out]
      exact trim_cov GD.out _ (Nat.le_refl _)
    clear hTW hI hmo hbs hck hLI0 hm H hok hzs
    go_upto_region 18 with (first
      | (go_at_call 16; refine (oall_any F g1 l _ TW.out.l1).mono ?_; rintro e w6 ⟨da, rfl, hra, dn⟩; have TW := Lib.hid (TW.out.below dn); have RA := Lib.hid hra; clear hra dn)
      | (go_at_call 11; refine (oknow_any F g1 l _ TW.out.l1).mono ?_; rintro e w6 ⟨dk, rfl, hrk, hfk, _, dn⟩; have hfk2 := Lib.hid (show farA F dk from hfk.imp_right fun h p hp hq => by have h1 := h p hp; have h2 := HF.out _ hq; have h3 := TW.out.l1.lt; omega); have TW := Lib.hid (TW.out.below dn); have RA := Lib.hid (RA.out.below dn); have RK := Lib.hid hrk; clear hrk dn hfk)
      | (go_at_call 18; refine (oclock_any F g1 l _ TW.out.l1).mono ?_; rintro e w6 ⟨rfl, rfl⟩)
      | (go_at_call 20; refine (few17_any v vs _ (HVV.out.below TW.out.b)).mono ?_; rintro e w6 ⟨rfl, rfl⟩)
      | (go_at_call 19; refine (otrim_any F g1 l v.cut zs _ TW.out.l1 hF1 (hFs _ TW.out.b.size TW.out.l1.lt) (HCV.out.below TW.out.b) hfv).mono ?_; rintro e w7 ⟨rfl, hz1, hz2⟩; rw [hl2.out] at hz1; rw [hN.out]; have RA := Lib.hid (RA.out.but TW.out.l1 hz2); have RK := Lib.hid (RK.out.keep hfk2.out hz2.size (fun i hi hn => hz2.block i hi (by simp; exact fun e => hn (e ▸ hF1)))); have TW := Lib.hid (TW.out.one hz1 hz2 h01); clear hz1 hz2))
    obtain ⟨Z, hZ⟩ : ∃ Z, Hid (decide (N = 0) = Z) := ⟨_, rfl⟩
    have b400 : i64' 400 := ⟨by decide, by decide⟩
    have AF1 : ∀ wx db, LogAt wx F g1 l2 → SlR wx db l2.bs → Calls Try.prog 14 #[.pointer (some ⟨g1, 0, none⟩), .slice db.a db.n db.c, .int .i64 400] wx fun e w' => ∃ a k q, e = .returned (.tuple #[.slice a k q, .bool true]) ∧ RecsAt w' ⟨a, k, q⟩ (l.xs.drop N) ∧ Below wx.heap.size wx w' := fun wx db h1 h2 => by
      have C := oafter_any F g1 l2 db l2.bs 400 wx h1 h2 b400
      rw [E2.out] at C
      exact C.mono fun e w' ⟨o, h1, h2, h3⟩ => ⟨o.a, o.n, o.c, h1, h2, h3⟩
    have AF2 : ∀ wx, LogAt wx F g1 l2 → Calls Try.prog 14 #[.pointer (some ⟨g1, 0, none⟩), .slice none 0 0, .int .i64 400] wx fun e w' => ∃ a k q, e = .returned (.tuple #[.slice a k q, .bool Z]) ∧ Below wx.heap.size wx w' := fun wx h1 => by
      have C := oafter_any F g1 l2 ⟨none, 0, 0⟩ [] 400 wx h1 (nilS wx) b400
      rw [E3.out, hZ.out] at C
      exact C.mono fun e w' ⟨o, h1, h2, h3⟩ => ⟨o.a, o.n, o.c, h1, h3⟩
    obtain ⟨aa, an, ac⟩ := da
    have hda : l.xs.length = an := recs_len RA.out
    have hac : an ≤ ac ∧ ac ≤ 9223372036854775807 := ⟨RA.out.nc, RA.out.cm⟩
    have CK : ∀ wx, LogAt wx F g1 l2 → Calls Try.prog 18 #[.pointer (some ⟨g1, 0, none⟩)] wx fun e w' => e = .returned (.int .i64 l.clock) ∧ wx = w' := fun wx h1 => by
      have C := oclock_any F g1 l2 wx h1
      rw [E1.out.2.1] at C
      exact C
    have RM : ∀ wx, LogAt wx F g1 l2 → Calls Try.prog 24 #[.pointer (some ⟨g1, 0, none⟩)] wx fun e w' => e = .returned (.int .i64 (60 - (an : Int) + (N : Int))) ∧ Below wx.heap.size wx w' := fun wx h1 => by
      have C := oroom_any F g1 l2 wx h1
      rw [E1.out.2.2.1, E1.out.2.2.2.1, List.length_drop, hda, show (60 : Int) - ((an - N : Nat) : Int) = 60 - (an : Int) + (N : Int) by omega] at C
      exact C
    have CV : ∀ wx d1 d2, SlR wx d1 zs → SlR wx d2 l2.bs → Calls Try.prog 22 #[.slice d1.a d1.n d1.c, .slice d2.a d2.n d2.c] wx fun e w' => e = .returned (.bool true) ∧ Below wx.heap.size wx w' := fun wx d1 d2 h1 h2 => by
      have C := rcovers_any d1.a d2.a d1.n d1.c d2.n d2.c zs l2.bs wx h1.r h2.r h1.nc h1.cb h2.nc h2.cb
      rw [E4.out] at C
      exact C
    have t3 : decide ((N : Int) < 0) = false := decide_eq_false (by omega)
    have t4 : decide ((N : Int) > (an : Int)) = false := decide_eq_false (by omega)
    clear E2 E3 hN hl2 hfk2 hfv nilS b400 b60
    go_upto_region 23 with (first
      | (go_at_call 21; refine (obase_any F g1 l2 _ TW.out.l1).mono ?_; rintro e w8 ⟨db, rfl, hrb, _, _, dn⟩; have TW := Lib.hid (TW.out.below dn); have RA := Lib.hid (RA.out.below dn); have RK := Lib.hid (RK.out.below dn); have RB := Lib.hid hrb; clear hrb dn)
      | (go_at_call 14; first
        | (have RT := RT; refine (AF2 _ TW.out.l1).mono ?_; rintro e w9 ⟨ua, uk, uq, rfl, dn⟩; have TW := Lib.hid (TW.out.below dn); have RA := Lib.hid (RA.out.below dn); have RK := Lib.hid (RK.out.below dn); have RB := Lib.hid (RB.out.below dn); have RT := Lib.hid (RT.out.below dn); clear dn)
        | (refine (AF1 _ db TW.out.l1 RB.out).mono ?_; rintro e w9 ⟨ta, tk, tq, rfl, hrt, dn⟩; have TW := Lib.hid (TW.out.below dn); have RA := Lib.hid (RA.out.below dn); have RK := Lib.hid (RK.out.below dn); have RB := Lib.hid (RB.out.below dn); have RT := Lib.hid hrt; clear dn hrt)))
    clear AF1 AF2 t3 t4
    have t5 : ((N : Int) == 0) = Z := by
      rw [← hZ.out]
      by_cases h : N = 0
      · rw [decide_eq_true h, h]; rfl
      · rw [decide_eq_false h]; exact beq_eq_false_iff_ne.2 (by omega)
    have t6 : (Z == Z) = true := beq_self_eq_true _
    have t7 : (l.clock == l.clock) = true := beq_self_eq_true _
    have t8 : ((60 - (an : Int) + (N : Int)) == (60 - (an : Int) + (N : Int))) = true := beq_self_eq_true _
    have i1 : (0 : Int) ≤ (N : Int) := by omega
    have i2 : (N : Int) ≤ (an : Int) := by omega
    have w1 : wrap64 (60 - (an : Int)) = 60 - (an : Int) := IntWalk.wrap64_in _ ⟨by omega, by omega⟩
    have w2 : wrap64 (60 - (an : Int) + (N : Int)) = 60 - (an : Int) + (N : Int) := IntWalk.wrap64_in _ ⟨by omega, by omega⟩
    clear hZ
    by_cases hfull : an = N
    · have hle : an ≤ N := by omega
      clear hfull
      have hZR : ∀ {wx : World} (a : Option Addr) (q : Nat), q ≤ 9223372036854775807 → RecsW wx ⟨a, 0, q⟩ (l.xs.drop N) := fun a q hq => by
        rw [List.drop_eq_nil_of_le (by omega)]
        exact ⟨⟨[], ⟨rfl, .inl rfl⟩, rfl, by simp⟩, Nat.zero_le _, hq⟩
      rcases aa with _ | pp
      · skip
        go_wp2_with (first
          | (go_at_call 15; refine (rsame_w ⟨ta, tk, tq⟩ ⟨_, 0, _⟩ (l.xs.drop N) _ RT.out.w (by first | exact (by have h := RA.out.drop N (by omega); rwa [Nat.zero_add] at h) | exact (hZR _ _ (by omega)))).mono ?_; rintro e w10 ⟨rfl, dn⟩; have TW := Lib.hid (TW.out.below dn); have RK := Lib.hid (RK.out.below dn); have RB := Lib.hid (RB.out.below dn); clear dn)
          | (go_at_call 11; refine (oknow_any F g1 l2 _ TW.out.l1).mono ?_; rintro e w11 ⟨dk2, rfl, hrk, _, _, dn⟩; have TW := Lib.hid (TW.out.below dn); have RK := Lib.hid (RK.out.below dn); have RB := Lib.hid (RB.out.below dn); rw [E1.out.1] at hrk; have RK2 := Lib.hid hrk; clear hrk dn)
          | (go_at_call 17; refine (vsame_refl dk2 dk l.ks _ RK2.out RK.out).mono ?_; rintro e w12 ⟨rfl, dn⟩; have TW := Lib.hid (TW.out.below dn); have RB := Lib.hid (RB.out.below dn); clear dn)
          | (go_at_call 20; refine (few17_any v vs _ (HVV.out.below TW.out.b)).mono ?_; rintro e w13 ⟨rfl, rfl⟩)
          | (go_at_call 22; refine (CV _ v.cut db (HCV.out.below TW.out.b) RB.out).mono ?_; rintro e w14 ⟨rfl, dn⟩; have TW := Lib.hid (TW.out.below dn); clear dn)
          | (go_at_call 18; refine (CK _ TW.out.l1).mono ?_; rintro e w15 ⟨rfl, rfl⟩)
          | (go_at_call 24; refine (RM _ TW.out.l1).mono ?_; rintro e w16 ⟨rfl, dn⟩; have TW := Lib.hid (TW.out.below dn); clear dn))
        all_goals go_ret
        all_goals exact ⟨rfl, TW.out.b⟩
      · skip
        go_wp2_with (first
          | (go_at_call 15; refine (rsame_w ⟨ta, tk, tq⟩ ⟨_, 0, _⟩ (l.xs.drop N) _ RT.out.w (by first | exact (by have h := RA.out.drop N (by omega); rwa [Nat.zero_add] at h) | exact (hZR _ _ (by omega)))).mono ?_; rintro e w10 ⟨rfl, dn⟩; have TW := Lib.hid (TW.out.below dn); have RK := Lib.hid (RK.out.below dn); have RB := Lib.hid (RB.out.below dn); clear dn)
          | (go_at_call 11; refine (oknow_any F g1 l2 _ TW.out.l1).mono ?_; rintro e w11 ⟨dk2, rfl, hrk, _, _, dn⟩; have TW := Lib.hid (TW.out.below dn); have RK := Lib.hid (RK.out.below dn); have RB := Lib.hid (RB.out.below dn); rw [E1.out.1] at hrk; have RK2 := Lib.hid hrk; clear hrk dn)
          | (go_at_call 17; refine (vsame_refl dk2 dk l.ks _ RK2.out RK.out).mono ?_; rintro e w12 ⟨rfl, dn⟩; have TW := Lib.hid (TW.out.below dn); have RB := Lib.hid (RB.out.below dn); clear dn)
          | (go_at_call 20; refine (few17_any v vs _ (HVV.out.below TW.out.b)).mono ?_; rintro e w13 ⟨rfl, rfl⟩)
          | (go_at_call 22; refine (CV _ v.cut db (HCV.out.below TW.out.b) RB.out).mono ?_; rintro e w14 ⟨rfl, dn⟩; have TW := Lib.hid (TW.out.below dn); clear dn)
          | (go_at_call 18; refine (CK _ TW.out.l1).mono ?_; rintro e w15 ⟨rfl, rfl⟩)
          | (go_at_call 24; refine (RM _ TW.out.l1).mono ?_; rintro e w16 ⟨rfl, dn⟩; have TW := Lib.hid (TW.out.below dn); clear dn))
        all_goals go_ret
        all_goals exact ⟨rfl, TW.out.b⟩
    · have hcj : ¬ ac = N := by omega
      have hTR := RA.out.ex
      obtain ⟨_, _, _, _, _, hTR⟩ := hTR
      rcases hTR with h0 | ⟨gg, cur, h0, _⟩
      · exact absurd h0 (by show ¬ an = 0; omega)
      · simp only at h0
        subst h0
        go_wp2_with (first
          | (go_at_call 15; refine (rsame_w ⟨ta, tk, tq⟩ ⟨_, an - N, _⟩ (l.xs.drop N) _ RT.out.w (by first | exact (by have h := RA.out.drop N (by omega); rwa [Nat.zero_add] at h) | exact (hZR _ _ (by omega)))).mono ?_; rintro e w10 ⟨rfl, dn⟩; have TW := Lib.hid (TW.out.below dn); have RK := Lib.hid (RK.out.below dn); have RB := Lib.hid (RB.out.below dn); clear dn)
          | (go_at_call 11; refine (oknow_any F g1 l2 _ TW.out.l1).mono ?_; rintro e w11 ⟨dk2, rfl, hrk, _, _, dn⟩; have TW := Lib.hid (TW.out.below dn); have RK := Lib.hid (RK.out.below dn); have RB := Lib.hid (RB.out.below dn); rw [E1.out.1] at hrk; have RK2 := Lib.hid hrk; clear hrk dn)
          | (go_at_call 17; refine (vsame_refl dk2 dk l.ks _ RK2.out RK.out).mono ?_; rintro e w12 ⟨rfl, dn⟩; have TW := Lib.hid (TW.out.below dn); have RB := Lib.hid (RB.out.below dn); clear dn)
          | (go_at_call 20; refine (few17_any v vs _ (HVV.out.below TW.out.b)).mono ?_; rintro e w13 ⟨rfl, rfl⟩)
          | (go_at_call 22; refine (CV _ v.cut db (HCV.out.below TW.out.b) RB.out).mono ?_; rintro e w14 ⟨rfl, dn⟩; have TW := Lib.hid (TW.out.below dn); clear dn)
          | (go_at_call 18; refine (CK _ TW.out.l1).mono ?_; rintro e w15 ⟨rfl, rfl⟩)
          | (go_at_call 24; refine (RM _ TW.out.l1).mono ?_; rintro e w16 ⟨rfl, dn⟩; have TW := Lib.hid (TW.out.below dn); clear dn))
        all_goals go_ret
        all_goals exact ⟨rfl, TW.out.b⟩
theorem otrims_row (u : Value) (xs : List OpA) (v : Value) (vs : List Int) (w : World) (h : IsOps w u xs) (hv : IsInts .i64 w v vs) :
    Calls Try.prog 5 #[u, v] w fun e w' => e = .returned (.bool true) ∧ Below w.heap.size w w' := by
  obtain ⟨a, n, c, rfl, hnc, hcb, h, hok⟩ := h
  obtain ⟨a1, n1, c1, rfl, hnc1, hcb1, h1, _⟩ := hv
  exact otrims_any a n c xs ⟨a1, n1, c1⟩ vs w h hok hnc hcb ⟨h1, hnc1, hcb1⟩
end
end Go.Proofs.Ytdihbinbkneejaa
