/- The law's helper logs: both packages' logs of the same records. The reference's SamePoints. Plain law: what was written is read again, records and points. -/
import Derived.Test.YtglabahbklpocaaGreatGShipPacks16
import Derived.Test.YtglabahbklpocaaGreatGShipPacks29
import Derived.Test.YtglabahbklpocaaGreatGShipPacks34
import Derived.Test.YtglabahbklpocaaGreatGShipPacks23
import Derived.Test.YtglabahbklpocaaGreatGShipPacks26
import Derived.Test.YtglabahbklpocaaGreatGShipPacks30
namespace Go.Proofs.YtglabahbklpocaaGreat
section
open Go.RowKit Go.Deep
set_option maxRecDepth 100000
set_option linter.unusedVariables false
set_option linter.unusedSimpArgs false
attribute [local go_sem ↓] Go.wp_at_zero Go.wp_at_succ
/-- Two logs, the package's in block ga and the reference's in block gr, that hold the same. -/
structure Two (w : World) (F : List Nat) (ga gr gL : Nat) (m : LogM) (wr : World) : Prop where
  a : LogAt wr F ga m
  r : RLogAt wr F gr gL m
  li : LInv m
  fa : ga ∈ F
  fr : gr ∈ F
  fl : gL ∈ F
  ne : ga ≠ gr
  nl : ga ≠ gL
  fb : ∀ q ∈ F, w.heap.size ≤ q ∧ q < wr.heap.size
  b : Below w.heap.size w wr
section
variable {w wr wx wz w' : World} {F : List Nat} {ga gr gL gL' : Nat} {m m' : LogM}
theorem Two.below (h : Two w F ga gr gL m wr) (d : Below wr.heap.size wr wx) : Two w F ga gr gL m wx :=
  ⟨h.a.below d, h.r.below d, h.li, h.fa, h.fr, h.fl, h.ne, h.nl, fun q hq => ⟨(h.fb q hq).1, Nat.lt_of_lt_of_le (h.fb q hq).2 d.size⟩, below_then h.b h.b.size d⟩
theorem Two.add (h : Two w F ga gr gL m wr) (z1 : LogAt wz F ga m') (z2 : But ga wr wz) (hr : RLogAt w' (gL' :: F) gr gL' m') (hg : gL' = gL ∨ wz.heap.size ≤ gL') (hl : gL' < w'.heap.size) (hb : ButC [gr, gL] wz w') (hi : LInv m') : Two w (gL' :: F) ga gr gL' m' w' := by
  have hga := (h.fb ga h.fa)
  have hgr := (h.fb gr h.fr)
  have hgl := (h.fb gL h.fl)
  have hz := z2.size
  have hz2 := hb.size
  have hne2 : ga ≠ gL' := by
    rcases hg with e | e
    · rw [e]; exact h.nl
    · omega
  have hmem : gL' ∈ F ∨ wz.heap.size ≤ gL' := hg.imp_left (fun e => by rw [e]; exact h.fl)
  refine ⟨(z1.grow2 hmem).keepC hb (by intro k hk; simp only [List.mem_cons, List.not_mem_nil, or_false] at hk; rcases hk with rfl | rfl; exact List.mem_cons_of_mem _ h.fr; exact List.mem_cons_of_mem _ h.fl) (by simp only [List.mem_cons, List.not_mem_nil, or_false]; rintro (e | e); exact h.ne e; exact h.nl e), hr, hi, List.mem_cons_of_mem _ h.fa, List.mem_cons_of_mem _ h.fr, List.mem_cons_self .., h.ne, hne2, fun q hq => ?_, ?_⟩
  · rcases List.mem_cons.1 hq with rfl | hq
    · refine ⟨?_, hl⟩
      have := h.b.size
      rcases hg with e | e
      · rw [e]; exact hgl.1
      · omega
    · exact ⟨(h.fb q hq).1, by have := (h.fb q hq).2; omega⟩
  · have := h.b.size
    exact ButC.below (But.below h.b z2 h.b.size hga.1) hb (by omega) (by intro k hk; simp only [List.mem_cons, List.not_mem_nil, or_false] at hk; rcases hk with rfl | rfl; exact hgr.1; exact hgl.1)
end
set_option maxHeartbeats 16000000 in
theorem hlogs_any (l : Sl) (rs : List RecA) (w : World) (h : RecsV w l rs) : Calls Tryz.prog 7 #[.slice l.a l.n l.c] w fun e w' => ∃ (ga gr gL : Nat) (F : List Nat) (m : LogM), e = .returned (.tuple #[.pointer (some ⟨ga, 0, none⟩), .pointer (some ⟨gr, 0, none⟩)]) ∧ Two w F ga gr gL m w' := by
  obtain ⟨a, n, c⟩ := l
  have H := Lib.hid h
  have hnc : n ≤ c := h.nc
  have hcb : c ≤ 9223372036854775807 := h.cb
  have nilS : ∀ wx : World, SlR wx ⟨none, 0, 0⟩ [] := fun wx => ⟨⟨rfl, .inl rfl⟩, Nat.le_refl _, by decide⟩
  have b400 : i64' 400 := ⟨by decide, by decide⟩
  clear h
  go_enter Tryz.func7, Tryz.ntmps7
  go_wp2_with fail
  refine (onew_any [] 400 ⟨none, 0, 0⟩ [] w (nilS _) (by simp) b400).mono ?_
  rintro e w1 ⟨ga, rfl, hg1, hL1, d1⟩
  have hga1 : ga < w1.heap.size := by obtain ⟨_, _, _, _, h1, _⟩ := hL1; exact heap_lt h1
  go_wp2_with fail
  refine (rlnew_any [ga] 400 ⟨none, 0, 0⟩ [] w1 (nilS _) (by simpa using hga1) b400).mono ?_
  rintro e w2 ⟨gr, rfl, hg2, hR1, d2⟩
  have hgr2 : gr < w2.heap.size := by obtain ⟨_, _, _, h1, _⟩ := hR1; exact heap_lt h1
  have hz1 := d1.size
  have hz2 := d2.size
  have hLI0 : LInv (newM 400 []) := by
    have e : joinV [] [] = [] := by decide +kernel
    unfold newM
    rw [e]
    exact ⟨by intro k x hk; simp at hk, rfl⟩
  have hTW : Two w [gr, ga] ga gr gr (newM 400 []) w2 := ⟨(hL1.grow hg2).below d2, hR1, hLI0, by simp, by simp, by simp, by omega, by omega, by intro q hq; simp only [List.mem_cons, List.not_mem_nil, or_false] at hq; rcases hq with rfl | rfl <;> constructor <;> omega, below_then d1 d1.size d2⟩
  have INIT := Lib.hid hTW
  clear hTW hLI0 hR1 hL1 d1 d2 hga1 hgr2 hg1 hg2 hz1 hz2 nilS b400
  generalize newM 400 [] = m0 at *
  go_wp2_with fail
  go_loopw [6, 7, 8] (fun i _ _ wr => ∃ (k : Nat) (F : List Nat) (gL : Nat) (m : LogM), k ≤ n ∧ k ≤ 40 ∧ i = .int .i64 k ∧ Two w F ga gr gL m wr) (fun i _ _ _ => 41 - (intOf i).toNat)
  case atStart => exact ⟨0, _, _, m0, by omega, by omega, rfl, INIT.out⟩
  case round =>
    obtain ⟨k, F, gL, m, hk, hk40, rfl, hTW⟩ := hrel
    clear INIT
    by_cases hkl : k < n ∧ k < 40
    · have t1 : decide ((k : Int) < (n : Int)) = true := decide_eq_true (by omega)
      have t2 : decide ((k : Int) < 40) = true := decide_eq_true (by omega)
      have t1' : decide (k < n) = true := decide_eq_true hkl.1
      have t2' : decide (k < 40) = true := decide_eq_true hkl.2
      have HV := Lib.hid (H.out.below hTW.b)
      obtain ⟨b, o, x, rfl, hxk, hCE⟩ := recs_at HV.out.r k hkl.1
      have HX := Lib.hid (HV.out.ok x (List.mem_of_getElem? hxk))
      have HC := Lib.hid (hCE wr (Below.refl _ _))
      have TW := Lib.hid hTW
      clear hTW hxk hCE HV
      have SMA := record19_any x wr HX.out
      change Calls Tryz.prog _ #[.agg (rcA x.r x.d)] wr _ at SMA
      have HY := RecA.small_ok HX.out
      have i1 : (0 : Int) ≤ (k : Int) := by omega
      have i2 : (k : Int) < (n : Int) := by omega
      generalize x.r = rx at *
      generalize x.d = dx at *
      generalize RecA.small x = Y at *
      obtain ⟨r, d, ds⟩ := Y
      simp only [RecA.val, rcVal] at SMA
      have HC : Hid (CellsAt wr b (o + k * 9) [.int .i64 rx.kind, .string rx.series, .int .i64 rx.time, .int .i64 rx.value, .int .i64 rx.tier, .int .i64 rx.st.clock, .int .i64 rx.st.site, .int .i64 rx.st.seq, .slice dx.a dx.n dx.c]) := HC.out
      go_upto_region 7 with (first
        | refine wpList_load_mid rfl 60 _ rfl b (o + k * 9) rfl [.int .i64 rx.kind, .string rx.series, .int .i64 rx.time, .int .i64 rx.value, .int .i64 rx.tier, .int .i64 rx.st.clock, .int .i64 rx.st.site, .int .i64 rx.st.seq, .slice dx.a dx.n dx.c] _ HC.out Tryz.underlying60 rfl (by kernel_rfl) ?_
        | (go_at_call 27; refine SMA.mono ?_; rintro e w4 ⟨rfl, d4⟩)
        | (refine wpList_store_row rfl 60 _ _ rfl _ (rcA r d) rfl rfl 60 _ (heap_alloc_new _ _) (by kernel_rfl) rfl (by simp [Value.oneCell', rcA]) ?_; rw [World.setRow_alloc_new]))
      have TW := Lib.hid (TW.out.below d4)
      have HY := Lib.hid (RecA.ok.below HY d4)
      clear d4 SMA HX HC
      have KK := Lib.hid (show Kn w4.heap.size w4 [(w4.heap.size, rcO r d)] (w4.alloc (.cells (rcA r d) 60 (0, 0))) from (Kn.start w4).new (rcO r d))
      have R4 := Lib.hid (TW.out.r.grow (k := w4.heap.size) (.inr (Nat.le_refl _)))
      obtain ⟨p, hp⟩ : ∃ p, w4.heap.size = p := ⟨_, rfl⟩
      rw [hp] at KK R4 ⊢
      generalize w4.alloc (.cells (rcA r d) 60 (0, 0)) = w5 at *
      have TB : ∀ wx, Below p w4 wx → Two w F ga gr gL m wx := fun wx hb => TW.out.below (by rw [hp]; exact hb)
      have RB : ∀ wx, Below p w4 wx → RLogAt wx (p :: F) gr gL m := fun wx hb => R4.out.below (by rw [hp]; exact hb)
      have hFp : ∀ q ∈ F, q < p := fun q hq => by rw [← hp]; exact (TW.out.fb q hq).2
      obtain ⟨c0, c1, c2, c3, c4, c5, c6, c7, c8⟩ := rec_fields (p := p) (r := r) (d := d) KK.out (by simp)
      by_cases hsite : 0 ≤ r.st.site ∧ r.st.site ≤ 7
      · have t5 : decide (r.st.site < 0) = false := decide_eq_false (by omega)
        have t6 : decide (7 < r.st.site) = false := decide_eq_false (by omega)
        have t7 : decide (r.st.site > 7) = false := decide_eq_false (by omega)
        have har := atV_range m.ks r.st.site
        have hww : wrap64 (atV m.ks r.st.site + 1) = atV m.ks r.st.site + 1 := IntWalk.wrap64_in (atV m.ks r.st.site + 1) ⟨by omega, by omega⟩
        go_upto_region 9 with (first | (go_at_call 28; refine (rlknow_any (p :: F) gr gL m _ (RB _ KK.out.b) (by intro q hq; have h1 := KK.out.lt (p, rcO r d) (by simp); simp only at h1; rcases List.mem_cons.1 hq with rfl | hq; exact h1; have h2 := hFp q hq; omega)).mono ?_; rintro e w6 ⟨dk, rfl, hdk, hdf, hd8, dn⟩; have HFK := Lib.hid hdf; have KK := Lib.hid (KK.out.below dn); have DK := Lib.hid hdk; clear hdf hd8 dn hdk))
        clear c0 c1 c2 c3 c4 c5 c6 c7 c8
        obtain ⟨c0, c1, c2, c3, c4, c5, c6, c7, c8⟩ := rec_fields (p := p) (r := r) (d := d) KK.out (by simp)
        obtain ⟨A, hA⟩ : ∃ A, atV m.ks r.st.site = A := ⟨_, rfl⟩
        rw [hA] at har hww
        go_upto_region 10 with (first | (go_at_call 29; refine (rat_any dk.a dk.n dk.c m.ks r.st.site _ DK.out.r DK.out.nc DK.out.cb).mono ?_; rintro e w7 ⟨rfl, dn⟩; rw [hA]; have KK := Lib.hid (KK.out.below dn); have DK := Lib.hid (DK.out.below dn); clear dn; have f7 := KK.out.fz (g := p) (o := rcO r d) (by simp) 7; have e7 := KK.out.cell (g := p) (o := rcO r d) (by simp) (j := 7) (v := .int .i64 r.st.seq) rfl))
        have KK := Lib.hid (Kn.setCell KK.out trivial (by omega) 7 (.int .i64 (A + 1)) (rcO { r with st := ⟨r.st.clock, r.st.site, A + 1⟩ } d) rfl)
        have DK := Lib.hid (show SlR (w7.setCell ⟨p, 7, none⟩ (.int .i64 (A + 1))) dk m.ks from DK.out.butC HFK.out (ButC.of_but (But.set p 7 _ _) (List.mem_cons_self ..)) (by intro q hq; exact hq))
        generalize w7.setCell ⟨p, 7, none⟩ (.int .i64 (A + 1)) = w8 at *
        clear c0 c1 c2 c3 c4 c5 c6 c7 c8 f7 e7
        generalize hrr : ({ r with st := ⟨r.st.clock, r.st.site, A + 1⟩ } : Rc) = r2 at *
        have f8 := KK.out.fz (g := p) (o := rcO r2 d) (by simp) 8
        have e8 := KK.out.cell (g := p) (o := rcO r2 d) (by simp) (j := 8) (v := .slice d.a d.n d.c) rfl
        go_upto_region 11 with fail
        have KK := Lib.hid (Kn.setCell KK.out trivial (by omega) 8 (.slice dk.a dk.n dk.c) (rcO r2 dk) rfl)
        have DK := Lib.hid (show SlR (w8.setCell ⟨p, 8, none⟩ (.slice dk.a dk.n dk.c)) dk m.ks from DK.out.butC HFK.out (ButC.of_but (But.set p 8 _ _) (List.mem_cons_self ..)) (by intro q hq; exact hq))
        generalize w8.setCell ⟨p, 8, none⟩ (.slice dk.a dk.n dk.c) = w9 at *
        clear f8 e8 hww
        have hwf2 : r2.wf := by
          rw [← hrr]
          obtain ⟨a1, a2, a3, a4, a5, a6, a7, a8⟩ := HY.out.wf
          exact ⟨a1, a2, a3, a4, a5, a6, a7, by unfold i64'; simp only; omega⟩
        have hsz9 : p < w9.heap.size := by have h1 := KK.out.lt (p, rcO r2 dk) (by simp); exact h1
        have HFF : Hid (farA F dk) := HFK.out.sub (fun q hq => List.mem_cons_of_mem _ hq)
        have T9 := Lib.hid (TB _ KK.out.b)
        have AD := oadd_any F ga m ⟨r2, dk, m.ks⟩ w9 T9.out.a T9.out.fa (fun q hq => by have := hFp q hq; omega) ⟨hwf2, DK.out⟩
        change Calls Tryz.prog _ #[_, .agg (rcA r2 dk)] w9 _ at AD
        have hgap : ga < p := hFp ga T9.out.fa
        clear hrr har hA TB RB R4 HY TW
        go_upto_region 12 with (first
          | refine wpList_load_row rfl 60 _ rfl p rfl 60 (rcA r2 dk) (0, 0) _ KK.out.hd Tryz.underlying60 rfl (by kernel_rfl) ?_
          | (go_at_call 30; refine AD.mono ?_; rintro e wz ⟨rfl, hz1, hz2⟩))
        have hzz := hz2.size
        have KZ := Lib.hid (show Kn wz.heap.size wz [(p, rcO r2 dk)] wz from (Kn.start wz).put ((hz2.block p hsz9 (by simp; omega)).trans KK.out.hd))
        have RZ := T9.out.r.keep (C := [ga]) (ButC.of_but hz2 (by simp)) (by intro q hq; simp only [List.mem_singleton] at hq; rw [hq]; exact T9.out.fa) (by simp only [List.mem_singleton]; exact fun e => T9.out.ne e.symm) (by simp only [List.mem_singleton]; exact fun e => T9.out.nl e.symm)
        have DZ : SlR wz dk m.ks := DK.out.butC HFF.out (ButC.of_but (C := [ga]) hz2 (by simp)) (by intro q hq; simp only [List.mem_singleton] at hq; rw [hq]; exact T9.out.fa)
        have AR := rladd_any F gr gL m ⟨r2, dk, m.ks⟩ wz RZ T9.out.fr T9.out.fl (fun q hq => by have := hFp q hq; omega) ⟨hwf2, DZ⟩ HFF.out
        change Calls Tryz.prog _ #[_, .agg (rcA r2 dk)] wz _ at AR
        clear AD KK DK HFK
        have HZ1 := Lib.hid hz1
        have HZ2 := Lib.hid hz2
        have HLI := Lib.hid (T9.out.li.add (r2, m.ks))
        clear hz1 hz2 RZ DZ
        go_wp2_with (first
          | refine wpList_load_row rfl 60 _ rfl p rfl 60 (rcA r2 dk) (0, 0) _ KZ.out.hd Tryz.underlying60 rfl (by kernel_rfl) ?_
          | (go_at_call 31; refine AR.mono ?_; rintro e wv ⟨gL2, rfl, hv1, hv2, hv3, hv4⟩))
        have TN := Lib.hid (T9.out.add HZ1.out HZ2.out hv1 hv2 hv3 hv4 HLI.out)
        clear hv1 hv2 hv3 hv4 AR HLI
        go_wp2_with fail
        go_roundw
        case rel => exact ⟨k + 1, _, _, _, by omega, by omega, by go_num, TN.out⟩
        case measure => simp [intOf]; omega
      · have TN := Lib.hid (TB _ KK.out.b)
        by_cases hs0 : r.st.site < 0
        · have t5 : decide (r.st.site < 0) = true := decide_eq_true hs0
          clear hsite
          go_wp2_with fail
          go_roundw
          case rel => exact ⟨k + 1, _, _, _, by omega, by omega, by go_num, TN.out⟩
          case measure => simp [intOf]; omega
        · have t5 : decide (r.st.site < 0) = false := decide_eq_false hs0
          have t6 : decide (7 < r.st.site) = true := decide_eq_true (by omega)
          have t7 : decide (r.st.site > 7) = true := decide_eq_true (by omega)
          clear hsite
          go_wp2_with fail
          go_roundw
          case rel => exact ⟨k + 1, _, _, _, by omega, by omega, by go_num, TN.out⟩
          case measure => simp [intOf]; omega
    · have TN := Lib.hid hTW
      clear hTW
      by_cases hkn : k < n
      · have t1 : decide ((k : Int) < (n : Int)) = true := decide_eq_true (by omega)
        have t2 : decide ((k : Int) < 40) = false := decide_eq_false (by omega)
        have t1' : decide (k < n) = true := decide_eq_true hkn
        have t2' : decide (k < 40) = false := decide_eq_false (by omega)
        clear hkl
        go_wp2_with fail
        refine bodyPost_ret (v := .tuple #[.pointer (some ⟨ga, 0, none⟩), .pointer (some ⟨gr, 0, none⟩)]) (by simp [results, Tryz.results7, go_sem]) rfl ⟨ga, gr, gL, F, m, rfl, TN.out⟩
      · have t1 : decide ((k : Int) < (n : Int)) = false := decide_eq_false (by omega)
        have t1' : decide (k < n) = false := decide_eq_false hkn
        clear hkl
        go_wp2_with fail
        refine bodyPost_ret (v := .tuple #[.pointer (some ⟨ga, 0, none⟩), .pointer (some ⟨gr, 0, none⟩)]) (by simp [results, Tryz.results7, go_sem]) rfl ⟨ga, gr, gL, F, m, rfl, TN.out⟩
end
end Go.Proofs.YtglabahbklpocaaGreat
namespace Go.Proofs.YtglabahbklpocaaGreat
section
open Go.RowKit
set_option maxRecDepth 100000
set_option linter.unusedVariables false
set_option linter.unusedSimpArgs false
attribute [local go_sem ↓] Go.wp_at_zero Go.wp_at_succ
open Classical in
noncomputable def sameP (xs ys : List Pt) : Bool := decide (xs = ys)
theorem sameP_true {xs ys : List Pt} (h : xs = ys) : sameP xs ys = true := by unfold sameP; simp [h]
theorem sameP_false {xs ys : List Pt} (h : xs ≠ ys) : sameP xs ys = false := by unfold sameP; simp [h]
set_option maxHeartbeats 4000000 in
theorem samepts_any (a1 a2 : Option Addr) (n1 c1 n2 c2 : Nat) (xs ys : List Pt) (w : World) (h1 : ReadsE Pt.cs 6 w a1 n1 xs) (h2 : ReadsE Pt.cs 6 w a2 n2 ys) (hx : ∀ x ∈ xs, x.wf) (hy : ∀ x ∈ ys, x.wf) (hc1 : n1 ≤ c1) (hb1 : c1 ≤ 9223372036854775807) (hc2 : n2 ≤ c2) (hb2 : c2 ≤ 9223372036854775807) :
    Calls Tryz.prog 36 #[.slice a1 n1 c1, .slice a2 n2 c2] w fun e w' => e = .returned (.bool (sameP xs ys)) ∧ Below w.heap.size w w' := by
  obtain ⟨V, HV⟩ : ∃ V, Hid (V = sameP xs ys) := ⟨_, rfl⟩
  rw [← HV.out]
  have l1 := h1.1
  have l2 := h2.1
  have H1 := Lib.hid h1
  have H2 := Lib.hid h2
  clear h1 h2
  by_cases hn : n1 = n2
  · subst hn
    have t1 : ((n1 : Int) != (n1 : Int)) = false := by simp
    go_enter Tryz.func36, Tryz.ntmps36
    go_wp2_with fail
    go_loopw [5] (fun i wr => ∃ k : Nat, k ≤ n1 ∧ i = .int .i64 k ∧ xs.take k = ys.take k ∧ Below w.heap.size w wr) (fun i _ => n1 - (intOf i).toNat)
    case atStart => exact ⟨0, by omega, rfl, by simp, Below.refl _ _⟩
    case round =>
      obtain ⟨k, hk, rfl, he, hb⟩ := hrel
      have HE := Lib.hid he
      clear he
      by_cases hlt : k < n1
      · have t2 : decide ((k : Int) < (n1 : Int)) = true := decide_eq_true (by omega)
        obtain ⟨b, o, x, rfl, _, hxk, hC⟩ := H1.out.at hb k hlt
        obtain ⟨b', o', y, rfl, _, hyk, hD⟩ := H2.out.at hb k hlt
        have NE0 := fun wx => (eq_pt x y (hx x (List.mem_of_getElem? hxk)) (hy y (List.mem_of_getElem? hyk)) wx).2
        obtain ⟨a0, a1, a2, a3, a4, a5⟩ := pt_cells hC
        obtain ⟨b0, b1, b2, b3, b4, b5⟩ := pt_cells hD
        have i1 : (0 : Int) ≤ (k : Int) := by omega
        have i2 : (k : Int) < (n1 : Int) := by omega
        clear hC hD
        by_cases hxy : x = y
        · have hs : Hid (xs.take (k + 1) = ys.take (k + 1)) := by
            show _ = _
            rw [List.take_add_one, List.take_add_one, HE.out, hxk, hyk, hxy]
          have NE : ∀ wx : World, (binOp .neq 90 x.val y.val).run Tryz.prog wx = .ok (.bool false) wx := fun wx => (NE0 wx).trans (by simp [hxy])
          unfold Pt.val at NE
          clear NE0 hxy hxk hyk
          go_wp2_with (go_quiet (fail))
          go_roundw
          case rel => exact ⟨k + 1, by omega, by go_num, hs.out, below_same hb rfl rfl rfl rfl⟩
          case measure => simp [intOf]; omega
        · have HV := Lib.hid (HV.out.trans (sameP_false (fun e => hxy (by rw [e, hyk] at hxk; exact (Option.some.inj hxk).symm))))
          have NE : ∀ wx : World, (binOp .neq 90 x.val y.val).run Tryz.prog wx = .ok (.bool true) wx := fun wx => (NE0 wx).trans (by simp [hxy])
          unfold Pt.val at NE
          clear NE0 hxy hxk hyk
          go_wp2_with (go_quiet (fail))
          go_ret
          exact ⟨by rw [HV.out]; rfl, below_same hb rfl rfl rfl rfl⟩
      · obtain rfl : k = n1 := by omega
        have t2 : decide ((k : Int) < (k : Int)) = false := decide_eq_false (by omega)
        have HV := Lib.hid (HV.out.trans (sameP_true (by have := HE.out; rwa [List.take_of_length_le (by omega), List.take_of_length_le (by omega)] at this)))
        go_wp2_with fail
        go_ret
        exact ⟨by rw [HV.out]; rfl, hb⟩
  · have t1 : ((n1 : Int) != (n2 : Int)) = true := bne_iff_ne.2 (by omega)
    have HV := Lib.hid (HV.out.trans (sameP_false (fun e => hn (by rw [← l1, ← l2, e]))))
    go_enter Tryz.func36, Tryz.ntmps36
    go_wp2_with fail
    go_ret
    exact ⟨by rw [HV.out]; rfl, Below.refl _ _⟩
end
end Go.Proofs.YtglabahbklpocaaGreat
namespace Go.Proofs.YtglabahbklpocaaGreat
section
set_option maxRecDepth 100000
set_option linter.unusedVariables false
set_option linter.unusedSimpArgs false
theorem ptsL_le {L : List Pt} (hok : okPts L) : (ptsL L).length ≤ 10 + 150 * L.length := by
  have h1 := putB_le (L.length : Int)
  have h2 := ptsb_le hok
  unfold ptsL
  rw [List.length_append]
  omega
theorem read_pts {L : List Pt} (hok : okPts L) (hw : ∀ p ∈ L, p.wf) (hn : L.length ≤ 1000) : readP ⟨(ptsL L).toArray⟩ = (L, 0) := by
  have hs : (⟨(ptsL L).toArray⟩ : ByteArray).size ≤ 1000000000 := by
    rw [ba_size]
    have := ptsL_le hok
    omega
  have h0 := r0_ok hs
  have hr : (r0 ⟨(ptsL L).toArray⟩).rest = putB 9 (L.length : Int) ++ (ptsb L ++ []) := by rw [r0_rest, List.append_nil]; rfl
  obtain ⟨a1, a2, a3⟩ := small_at (most := 1000) h0 rfl hr (by omega) (by omega) (by decide)
  have hk := Rdr.small_ok h0 1000
  obtain ⟨b1, b2, b3⟩ := takeQ_at hk.1 a2 L [] (fun p hp => ⟨hok p hp, hw p hp⟩) a3 L.length (Nat.le_refl _)
  rw [List.take_length] at b1
  rw [List.drop_length] at b3
  have hfin : (takeQ L.length ((r0 ⟨(ptsL L).toArray⟩).small 1000).2).2.fin = 0 := (fin_rest (takeQ_ok hk.1 _).1).2 ⟨b2, by rw [b3]; simp [ptsb]⟩
  have hp : rpOk ⟨(ptsL L).toArray⟩ := by
    unfold rpOk
    rw [a1, Int.toNat_natCast, b1]
    exact ⟨hfin, hok⟩
  rw [readP_pos hp, a1, Int.toNat_natCast, b1]
theorem recT_le {r : Rc} {ds : List Int} (h : recP r ds) : (recT r ds).size ≤ 3000 := by
  have h1 := vput_le r.kind
  have h2 := stB_le r.st
  have h3 := vecB_le ds
  have h4 := vput_le r.time
  have h5 := vput_le (zig r.value)
  have h6 := vput_le r.tier
  unfold recT
  rw [ByteArray.size_append, ByteArray.size_append, ByteArray.size_append]
  have hm : (midB r).size ≤ 900 := by
    unfold midB
    split
    · have hn : nameV r.series = true := by
        rcases h.2.2.2.2 with h | h
        · exact h.2.1
        · omega
      have m7 := vtext_le r.series (nameV_size hn)
      rw [ByteArray.size_append, ByteArray.size_append]
      omega
    · rw [ByteArray.size_append]
      omega
  omega
theorem recB_pos {r : Rc} {ds : List Int} (h : recP r ds) : recB r ds = recT r ds := by unfold recB; rw [if_pos h]
end
end Go.Proofs.YtglabahbklpocaaGreat
