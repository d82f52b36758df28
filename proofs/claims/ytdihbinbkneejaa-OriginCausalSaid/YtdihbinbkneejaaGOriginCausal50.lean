/- OriginCausal: for any script the law answers true. -/
import Derived.Test.YtdihbinbkneejaaGOriginCausal48
import Derived.Test.YtdihbinbkneejaaGOriginCausal42
import Derived.Test.YtdihbinbkneejaaGOriginCausal36
import Derived.Test.YtdihbinbkneejaaGOriginCausal43
import Derived.Test.YtdihbinbkneejaaGOriginCausal49
import Derived.Deep.CutBlock
namespace Go.Proofs.Ytdihbinbkneejaa
section
open Go.RowKit Go.Deep
set_option maxRecDepth 100000
set_option linter.unusedVariables false
set_option linter.unusedSimpArgs false
theorem ops_at13 {w : World} {a : Option Addr} {n : Nat} {xs : List OpA} (h : ReadsE OpA.cs 13 w a n xs) (k : Nat) (hk : k < n) : ∃ b o x, a = some ⟨b, o, none⟩ ∧ xs[k]? = some x ∧ ∀ wx, Below w.heap.size w wx → CellsAt wx b (o + k * 13) x.cs := by
  obtain ⟨b, o, x, e, hl, hx, hC⟩ := h.at (Below.refl _ _) k hk
  exact ⟨b, o, x, e, hx, fun wx hb => hC.below hb hl⟩
def opV (k m : Int) (f : Bool) (r : Rc) (d v : Sl) : Array Value := #[.int .i64 k, .int .i64 m, .bool f, .int .i64 r.kind, .string r.series, .int .i64 r.time, .int .i64 r.value, .int .i64 r.tier, .int .i64 r.st.clock, .int .i64 r.st.site, .int .i64 r.st.seq, .slice d.a d.n d.c, .slice v.a v.n v.c]
def opO (k m : Int) (f : Bool) (r : Rc) (d v : Sl) : Obj := .cells (opV k m f r d v) 33 (0, 0)
theorem opV_cs (o : OpA) : o.cs = (opV o.kind o.most o.fits o.x.r o.x.d o.v).toList := rfl
theorem opO_rec {w : World} {g : Nat} {k m : Int} {f : Bool} {r : Rc} {d v : Sl} (h : w.heap[g]? = some (opO k m f r d v)) : CellsAt w g 3 (rcA r d).toList := by
  intro j u hj
  have hl : j < 9 := by have := (List.getElem?_eq_some_iff.1 hj).1; simpa [rcA] using this
  simp only [World.cell?, h, opO]
  match j, hl with
  | 0, _ | 1, _ | 2, _ | 3, _ | 4, _ | 5, _ | 6, _ | 7, _ | 8, _ => exact hj
theorem st2_held {B p : Nat} {w0 w wd : World} {l : List (Nat × Obj)} {c s q : Int} {d : Sl} {K : List Int} (h : Kn B w0 ((p, Obj.cells #[.int .i64 c, .int .i64 s, .int .i64 q] 27 (0, 0)) :: l) w) (e : wd.heap = w.heap) (hd : SlR w d K) : wd.cell? ⟨p, 1, none⟩ = some (.int .i64 s) ∧ wd.cell? ⟨p, 2, none⟩ = some (.int .i64 q) ∧ SlR wd d K := by
  have h1 := h.hd
  refine ⟨by simp only [World.cell?, e, h1]; rfl, by simp only [World.cell?, e, h1]; rfl, hd.keep (F := []) (.inr fun _ _ h => by cases h) (by rw [e]; exact Nat.le_refl _) (fun i _ _ => by rw [e])⟩
theorem st2_later {p : Nat} {w wn : World} {s q : Int} {d : Sl} {K : List Int} (h : w.cell? ⟨p, 1, none⟩ = some (.int .i64 s) ∧ w.cell? ⟨p, 2, none⟩ = some (.int .i64 q) ∧ SlR w d K) (dn : Below w.heap.size w wn) : wn.cell? ⟨p, 1, none⟩ = some (.int .i64 s) ∧ wn.cell? ⟨p, 2, none⟩ = some (.int .i64 q) ∧ SlR wn d K :=
  ⟨(dn.cell (p := ⟨p, 1, none⟩) (World.block_lt_of_cell? _ _ h.1)).trans h.1, (dn.cell (p := ⟨p, 2, none⟩) (World.block_lt_of_cell? _ _ h.2.1)).trans h.2.1, h.2.2.below dn⟩
theorem below_at {w wd w' : World} (d : Below wd.heap.size wd w') (e1 : wd.heap = w.heap) (e2 : wd.os = w.os) (e3 : wd.tape = w.tape) (e4 : wd.output = w.output) : Below w.heap.size w w' :=
  (Kn.later (Kn.start w) d e1 e2 e3 e4).b
set_option maxHeartbeats 16000000 in
theorem ocausal_any (a0 : Option Addr) (n c : Nat) (xs : List OpA) (w : World) (h : ReadsE OpA.cs 13 w a0 n xs) (hok : ∀ o ∈ xs, o.ok w) (hnc : n ≤ c) (hcb : c ≤ 9223372036854775807) :
    Calls Try.prog 4 #[.slice a0 n c] w fun e w' => e = .returned (.bool true) ∧ Below w.heap.size w w' := by
  have H := Lib.hid h
  have nilS : ∀ wx : World, SlR wx ⟨none, 0, 0⟩ [] := fun wx => ⟨⟨rfl, .inl rfl⟩, Nat.le_refl _, by decide⟩
  have b400 : i64' 400 := ⟨by decide, by decide⟩
  clear h
  go_enter Try.func4, Try.ntmps4
  go_wp2_with fail
  refine (oawake_any _).mono ?_
  rintro e w1 ⟨rfl, d1⟩
  go_wp2_with fail
  refine (onew_any [] 400 ⟨none, 0, 0⟩ [] w1 (nilS _) (by simp) b400).mono ?_
  rintro e w2 ⟨g1, rfl, hg1, hL1, d2⟩
  have hTW : One w [g1] g1 (newM 400 []) w2 := ⟨hL1, below_then d1 d1.size d2⟩
  have h01 : w.heap.size ≤ g1 := by have := d1.size; omega
  obtain ⟨F, HFE⟩ : ∃ F : List Nat, Hid ([g1] = F) := ⟨_, rfl⟩
  have hF1 : g1 ∈ F := by rw [← HFE.out]; simp
  have HF : Hid (∀ q ∈ F, q = g1) := fun q hq => by rw [← HFE.out] at hq; simpa using hq
  rw [HFE.out] at hTW
  clear hL1 d1 d2 hg1
  obtain ⟨m, hm⟩ : ∃ m, Hid (newM 400 [] = m) := ⟨_, rfl⟩
  rw [hm.out] at hTW
  have hLI0 : LInv m ∧ m.most = 400 := by
    rw [← hm.out]
    have e : joinV [] [] = [] := by decide +kernel
    unfold newM
    rw [e]
    exact ⟨⟨by intro k x hk; simp at hk, rfl⟩, rfl⟩
  have hFs : ∀ wx : World, g1 < wx.heap.size → ∀ q ∈ F, q < wx.heap.size := fun wx h q hq => by rw [HF.out q hq]; exact h
  go_upto_block 0 with fail
  go_cut [5] (fun i wx => ∃ l : LogM, One w F g1 l wx ∧ (LInv l ∧ l.most = 400))
  case first =>
    go_wp2_with fail
    go_loopw [5, 6, 7, 8] (fun i _ _ _ wr => ∃ (k : Nat) (l : LogM), k ≤ n ∧ k ≤ 60 ∧ i = .int .i64 k ∧ One w F g1 l wr ∧ (LInv l ∧ l.most = 400)) (fun i _ _ _ _ => 61 - (intOf i).toNat)
    case atStart => exact ⟨0, m, by omega, by omega, rfl, hTW, hLI0⟩
    case round =>
      obtain ⟨k, l, hk, hk60, rfl, hTW, hLI⟩ := hrel
      by_cases hkl : k < n ∧ k < 60
      · have t1 : decide ((k : Int) < (n : Int)) = true := decide_eq_true (by omega)
        have t2 : decide ((k : Int) < 60) = true := decide_eq_true (by omega)
        obtain ⟨b, o, op, rfl, hxk, hC⟩ := ops_at13 H.out k hkl.1
        have hop := hok op (List.mem_of_getElem? hxk)
        have hC := hC wr hTW.b
        rw [opV_cs] at hC
        have HX := Lib.hid (hop.rec_.below hTW.b)
        have HV := Lib.hid hop.v
        have TW := Lib.hid hTW
        have LI := Lib.hid hLI
        have HC := Lib.hid hC
        have i1 : (0 : Int) ≤ (k : Int) := by omega
        have i2 : (k : Int) < (n : Int) := by omega
        clear hTW hLI hop hxk hC
        obtain ⟨ki, mo, fi, ⟨rx, dx, xx⟩, v, vs⟩ := op
        simp only at HX HV HC
        go_upto_region 9 with (first
          | refine wpList_load_mid rfl 33 _ rfl b (o + k * 13) rfl (opV ki mo fi rx dx v).toList _ HC.out Try.underlying33 rfl (by kernel_rfl) ?_
          | (refine wpList_store_row rfl 33 _ _ rfl _ (opV ki mo fi rx dx v) rfl rfl 33 _ (heap_alloc_new _ _) (by kernel_rfl) rfl (by simp [Value.oneCell', opV]) ?_; rw [World.setRow_alloc_new]))
        have PO := Lib.hid (show Kn wr.heap.size wr [(wr.heap.size, opO ki mo fi rx dx v)] (wr.alloc (.cells (opV ki mo fi rx dx v) 33 (0, 0))) from (Kn.start wr).new (opO ki mo fi rx dx v))
        obtain ⟨p0, hp0⟩ : ∃ p0, wr.heap.size = p0 := ⟨_, rfl⟩
        have TW := Lib.hid (TW.out.below PO.out.b)
        have HX := Lib.hid (RecA.ok.below HX.out PO.out.b)
        rw [hp0] at PO ⊢
        generalize wr.alloc (.cells (opV ki mo fi rx dx v) 33 (0, 0)) = w3 at *
        have q0 := PO.out.cell (g := p0) (o := opO ki mo fi rx dx v) (by simp) (j := 0) (v := .int .i64 ki) rfl
        clear HC i1 i2
        by_cases hki : ki.tmod 5 = 3
        · have t3 : (ki.tmod 5 == 3) = true := beq_iff_eq.2 hki
          have q12 := PO.out.cell (g := p0) (o := opO ki mo fi rx dx v) (by simp) (j := 12) (v := .slice v.a v.n v.c) rfl
          clear hki
          have HCV := Lib.hid (show SlR w v.cut (vs.take 12) from HV.out.cut)
          have hfv : farA F v.cut := HCV.out.lt.imp_right fun h p hp hq => by have h1 := h p hp; have h2 := HF.out _ hq; omega
          go_wp2_with (first
            | (go_at_call 20; refine (few17_any v vs _ (HV.out.below TW.out.b)).mono ?_; rintro e w6 ⟨rfl, rfl⟩)
            | (go_at_call 19; refine (otrim_any F g1 l v.cut (vs.take 12) _ TW.out.l1 hF1 (hFs _ TW.out.l1.lt) (HCV.out.below TW.out.b) hfv).mono ?_; rintro e w7 ⟨rfl, hz1, hz2⟩))
          have FIN := Lib.hid (And.intro (TW.out.one hz1 hz2 h01) (LI.out.1.trim (vs.take 12)))
          clear hz1 hz2
          go_roundw
          case rel => exact ⟨k + 1, trimM l (vs.take 12), by omega, by omega, by go_num, FIN.out.1, FIN.out.2, LI.out.2⟩
          case measure => simp [intOf]; omega
        · have t3 : (ki.tmod 5 == 3) = false := beq_eq_false_iff_ne.2 hki
          clear hki
          have SMA := small17_any ⟨rx, dx, xx⟩ w3 HX.out
          have HY := RecA.small_ok HX.out
          generalize RecA.small ⟨rx, dx, xx⟩ = Y at *
          obtain ⟨r, d, ds⟩ := Y
          simp only [RecA.val, rcVal] at SMA
          have HC := Lib.hid (opO_rec (PO.out.hd))
          go_upto_region 12 with (first
            | refine wpList_load_mid rfl 30 _ rfl p0 3 rfl (rcA rx dx).toList _ HC.out Try.underlying30 rfl (by kernel_rfl) ?_
            | (go_at_call 10; refine SMA.mono ?_; rintro e w4 ⟨rfl, d4⟩)
            | (refine wpList_store_row rfl 30 _ _ rfl _ (rcA r d) rfl rfl 30 _ (heap_alloc_new _ _) (by kernel_rfl) rfl (by simp [Value.oneCell', rcA]) ?_; rw [World.setRow_alloc_new]))
          clear q0
          have TW := Lib.hid (TW.out.below d4)
          have PO := Lib.hid (PO.out.below d4)
          have cf := (PO.out.below ((Below.refl _ _).alloc (Nat.le_refl _) (.cells (rcA r d) 30 (0, 0)))).cell (g := p0) (o := opO ki mo fi rx dx v) (by simp) (j := 2) (v := .bool fi) rfl
          have HY := Lib.hid (RecA.ok.below HY d4)
          clear d4 SMA HX HC
          have KK := Lib.hid (show Kn w4.heap.size w4 [(w4.heap.size, rcO r d)] (w4.alloc (.cells (rcA r d) 30 (0, 0))) from (Kn.start w4).new (rcO r d))
          obtain ⟨p, hp⟩ : ∃ p, w4.heap.size = p := ⟨_, rfl⟩
          rw [hp] at KK ⊢
          generalize w4.alloc (.cells (rcA r d) 30 (0, 0)) = w5 at *
          have TB : ∀ wx, Below p w4 wx → One w F g1 l wx := fun wx hb => TW.out.below (by rw [hp]; exact hb)
          have hFl : ∀ q ∈ F, q < p := fun q hq => by have h1 := TW.out.l1.lt; rw [hp] at h1; obtain rfl := HF.out q hq; exact h1
          obtain ⟨c0, c1, c2, c3, c4, c5, c6, c7, c8⟩ := rec_fields (p := p) (r := r) (d := d) KK.out (by simp)
          by_cases hsite : fi = true ∧ 0 ≤ r.st.site ∧ r.st.site < 8
          · obtain rfl := hsite.1
            have t5 : decide (0 ≤ r.st.site) = true := decide_eq_true hsite.2.1
            have t6 : decide (r.st.site < 8) = true := decide_eq_true hsite.2.2
            have har := atV_range l.ks r.st.site
            have hww : wrap64 (atV l.ks r.st.site + 1) = atV l.ks r.st.site + 1 := IntWalk.wrap64_in (atV l.ks r.st.site + 1) ⟨by omega, by omega⟩
            go_upto_region 14 with (first | (go_at_call 11; refine (oknow_any F g1 l _ (TB _ KK.out.b).l1).mono ?_; rintro e w6 ⟨dk, rfl, hdk, hdf, hd8, dn⟩; have hfk := Lib.hid (show fresh p dk from hdf.imp_right fun h p' hp' => Nat.le_trans KK.out.le (h p' hp')); have hfk2 := Lib.hid (show farA [p] dk from hdf.imp_right fun h p' hp' hm => by have h1 := h p' hp'; have h2 := KK.out.lt (p, rcO r d) (by simp); simp only [List.mem_singleton] at hm; simp only at h2; omega); have KK := Lib.hid (KK.out.below dn); have DK := Lib.hid hdk; clear hdf hd8 dn hdk))
            clear c0 c1 c2 c3 c4 c5 c6 c7 c8
            obtain ⟨c0, c1, c2, c3, c4, c5, c6, c7, c8⟩ := rec_fields (p := p) (r := r) (d := d) KK.out (by simp)
            obtain ⟨A, hA⟩ : ∃ A, atV l.ks r.st.site = A := ⟨_, rfl⟩
            rw [hA] at har hww
            go_upto_region 15 with (first | (go_at_call 12; refine (rat_any dk.a dk.n dk.c l.ks r.st.site _ DK.out.r DK.out.nc DK.out.cb).mono ?_; rintro e w7 ⟨rfl, dn⟩; rw [hA]; have KK := Lib.hid (KK.out.below dn); have DK := Lib.hid (DK.out.below dn); clear dn; have f7 := KK.out.fz (g := p) (o := rcO r d) (by simp) 7; have e7 := KK.out.cell (g := p) (o := rcO r d) (by simp) (j := 7) (v := .int .i64 r.st.seq) rfl))
            have KK := Lib.hid (Kn.setCell KK.out trivial (by omega) 7 (.int .i64 (A + 1)) (rcO { r with st := ⟨r.st.clock, r.st.site, A + 1⟩ } d) rfl)
            have DK := Lib.hid (show SlR (w7.setCell ⟨p, 7, none⟩ (.int .i64 (A + 1))) dk l.ks from SlR.keep (F := [p]) DK.out hfk2.out (by simp [World.setCell]) (fun i _ hi => Below.heap_setCell _ _ _ _ (by simpa using hi)))
            generalize w7.setCell ⟨p, 7, none⟩ (.int .i64 (A + 1)) = w8 at *
            clear c0 c1 c2 c3 c4 c5 c6 c7 c8 f7 e7
            generalize hrr : ({ r with st := ⟨r.st.clock, r.st.site, A + 1⟩ } : Rc) = r2 at *
            have f8 := KK.out.fz (g := p) (o := rcO r2 d) (by simp) 8
            have e8 := KK.out.cell (g := p) (o := rcO r2 d) (by simp) (j := 8) (v := .slice d.a d.n d.c) rfl
            go_upto_region 16 with fail
            have KK := Lib.hid (Kn.setCell KK.out trivial (by omega) 8 (.slice dk.a dk.n dk.c) (rcO r2 dk) rfl)
            have DK := Lib.hid (show SlR (w8.setCell ⟨p, 8, none⟩ (.slice dk.a dk.n dk.c)) dk l.ks from SlR.keep (F := [p]) DK.out hfk2.out (by simp [World.setCell]) (fun i _ hi => Below.heap_setCell _ _ _ _ (by simpa using hi)))
            generalize w8.setCell ⟨p, 8, none⟩ (.slice dk.a dk.n dk.c) = w9 at *
            clear f8 e8
            have hwf2 : r2.wf := by
              rw [← hrr]
              obtain ⟨a1, a2, a3, a4, a5, a6, a7, a8⟩ := HY.out.wf
              exact ⟨a1, a2, a3, a4, a5, a6, a7, by unfold i64'; simp only; omega⟩
            have hsz9 : p ≤ w9.heap.size := KK.out.le
            have AD : ∀ wx, Below p w4 wx → Calls Try.prog 13 #[.pointer (some ⟨g1, 0, none⟩), .agg (rcA r2 dk)] w9 fun e w' => e = .returned (.int .i64 (addM l (r2, l.ks)).2) ∧ LogAt w' F g1 (addM l (r2, l.ks)).1 ∧ But g1 w9 w' := fun _ _ => oadd_any F g1 l ⟨r2, dk, l.ks⟩ w9 (TB _ KK.out.b).l1 hF1 (fun q hq => by have := hFl q hq; omega) ⟨hwf2, DK.out⟩
            clear hww
            go_wp2_with (first
              | refine wpList_load_row rfl 30 _ rfl p rfl 30 (rcA r2 dk) (0, 0) _ KK.out.hd Try.underlying30 rfl (by kernel_rfl) ?_
              | (go_at_call 13; refine (AD _ KK.out.b).mono ?_; rintro e wz ⟨rfl, hz1, hz2⟩))
            have TW9 := (TB _ KK.out.b).one hz1 hz2 h01
            have FIN := Lib.hid (And.intro TW9 (And.intro (LI.out.1.add (r2, l.ks)) (add_len l (r2, l.ks)).2.1))
            generalize (addM l (r2, l.ks)).1 = l9 at *
            clear hz1 hz2 TW9
            go_wp2_with fail
            go_roundw
            case rel => exact ⟨k + 1, l9, by omega, by omega, by go_num, FIN.out.1, FIN.out.2.1, by rw [FIN.out.2.2]; exact LI.out.2⟩
            case measure => simp [intOf]; omega
          · have AD : ∀ wx, Below p w4 wx → Calls Try.prog 13 #[.pointer (some ⟨g1, 0, none⟩), .agg (rcA r d)] w5 fun e w' => e = .returned (.int .i64 (addM l (r, ds)).2) ∧ LogAt w' F g1 (addM l (r, ds)).1 ∧ But g1 w5 w' := fun _ _ => oadd_any F g1 l ⟨r, d, ds⟩ w5 (TB _ KK.out.b).l1 hF1 (fun q hq => by have := hFl q hq; have := KK.out.le; omega) ⟨HY.out.wf, HY.out.sl.below (by rw [hp]; exact KK.out.b)⟩
            by_cases hfi : fi = true
            · subst hfi
              by_cases hs0 : 0 ≤ r.st.site
              · have t5 : decide (0 ≤ r.st.site) = true := decide_eq_true hs0
                have t6 : decide (r.st.site < 8) = false := decide_eq_false (fun h => hsite ⟨rfl, hs0, h⟩)
                clear hsite
                go_wp2_with (first
                  | refine wpList_load_row rfl 30 _ rfl p rfl 30 (rcA r d) (0, 0) _ KK.out.hd Try.underlying30 rfl (by kernel_rfl) ?_
                  | (go_at_call 13; refine (AD _ KK.out.b).mono ?_; rintro e wz ⟨rfl, hz1, hz2⟩))
                have TW9 := (TB _ KK.out.b).one hz1 hz2 h01
                have FIN := Lib.hid (And.intro TW9 (And.intro (LI.out.1.add (r, ds)) (add_len l (r, ds)).2.1))
                generalize (addM l (r, ds)).1 = l9 at *
                clear hz1 hz2 TW9
                go_wp2_with fail
                go_roundw
                case rel => exact ⟨k + 1, l9, by omega, by omega, by go_num, FIN.out.1, FIN.out.2.1, by rw [FIN.out.2.2]; exact LI.out.2⟩
                case measure => simp [intOf]; omega
              · have t5 : decide (0 ≤ r.st.site) = false := decide_eq_false hs0
                clear hsite
                go_wp2_with (first
                  | refine wpList_load_row rfl 30 _ rfl p rfl 30 (rcA r d) (0, 0) _ KK.out.hd Try.underlying30 rfl (by kernel_rfl) ?_
                  | (go_at_call 13; refine (AD _ KK.out.b).mono ?_; rintro e wz ⟨rfl, hz1, hz2⟩))
                have TW9 := (TB _ KK.out.b).one hz1 hz2 h01
                have FIN := Lib.hid (And.intro TW9 (And.intro (LI.out.1.add (r, ds)) (add_len l (r, ds)).2.1))
                generalize (addM l (r, ds)).1 = l9 at *
                clear hz1 hz2 TW9
                go_wp2_with fail
                go_roundw
                case rel => exact ⟨k + 1, l9, by omega, by omega, by go_num, FIN.out.1, FIN.out.2.1, by rw [FIN.out.2.2]; exact LI.out.2⟩
                case measure => simp [intOf]; omega
            · obtain rfl : fi = false := by simpa using hfi
              clear hfi
              clear hsite
              go_wp2_with (first
                | refine wpList_load_row rfl 30 _ rfl p rfl 30 (rcA r d) (0, 0) _ KK.out.hd Try.underlying30 rfl (by kernel_rfl) ?_
                | (go_at_call 13; refine (AD _ KK.out.b).mono ?_; rintro e wz ⟨rfl, hz1, hz2⟩))
              have TW9 := (TB _ KK.out.b).one hz1 hz2 h01
              have FIN := Lib.hid (And.intro TW9 (And.intro (LI.out.1.add (r, ds)) (add_len l (r, ds)).2.1))
              generalize (addM l (r, ds)).1 = l9 at *
              clear hz1 hz2 TW9
              go_wp2_with fail
              go_roundw
              case rel => exact ⟨k + 1, l9, by omega, by omega, by go_num, FIN.out.1, FIN.out.2.1, by rw [FIN.out.2.2]; exact LI.out.2⟩
              case measure => simp [intOf]; omega
      · have HFIN := Lib.hid (show ∃ l : LogM, One w F g1 l wr ∧ (LInv l ∧ l.most = 400) from ⟨l, hTW, hLI⟩)
        clear hTW hLI
        by_cases hkn : k < n
        · have t1 : decide ((k : Int) < (n : Int)) = true := decide_eq_true (by omega)
          have t2 : decide ((k : Int) < 60) = false := decide_eq_false (by omega)
          go_wp2_with fail
          go_meet
          exact HFIN.out
        · have t1 : decide ((k : Int) < (n : Int)) = false := decide_eq_false (by omega)
          go_wp2_with fail
          go_meet
          exact HFIN.out
  case rest =>
    obtain ⟨l, hTW, hI, hmo⟩ := hcut
    have TW := Lib.hid hTW
    have LI := Lib.hid hI
    clear hTW hI hmo hLI0 hm H hok nilS b400
    go_upto_region 19 with (first
      | (go_at_call 21; refine (obase_any F g1 l _ TW.out.l1).mono ?_; rintro e w8 ⟨db, rfl, hrb, _, _, dn⟩; have TW := Lib.hid (TW.out.below dn); have RB := Lib.hid hrb; clear hrb dn)
      | (go_at_call 16; refine (oall_any F g1 l _ TW.out.l1).mono ?_; rintro e w6 ⟨da, rfl, hra, dn⟩; have TW := Lib.hid (TW.out.below dn); have RB := Lib.hid (RB.out.below dn); have RA := Lib.hid hra; clear hra dn))
    obtain ⟨aa, an, ac⟩ := da
    have hda : l.xs.length = an := recs_len RA.out
    have hac : an ≤ ac ∧ ac ≤ 9223372036854775807 := ⟨RA.out.nc, RA.out.cm⟩
    go_wp2_with fail
    go_loopw [9, 11, 12, 13] (fun v i _ _ wr => ∃ (k : Nat) (d : Sl), k ≤ an ∧ i = .int .i64 k ∧ v = .slice d.a d.n d.c ∧ SlR wr d (kAll l.bs (l.xs.take k)) ∧ One w F g1 l wr ∧ RecsAt wr ⟨aa, an, ac⟩ l.xs) (fun _ i _ _ _ => an + 1 - (intOf i).toNat)
    case atStart => exact ⟨0, db, by omega, rfl, rfl, RB.out, TW.out, RA.out⟩
    case round =>
      obtain ⟨k, d, hk, rfl, rfl, hd, hTW, hRA⟩ := hrel
      have TW := Lib.hid hTW
      have RA := Lib.hid hRA
      have DK := Lib.hid hd
      clear hTW hd
      by_cases hlt : k < an
      · have t4 : decide ((k : Int) < (an : Int)) = true := decide_eq_true (by omega)
        obtain ⟨⟨rs, r1, r2, r3, r4, r5⟩, rc, rm⟩ := hRA
        obtain ⟨b, q, x, rfl, hxk, hC⟩ := recs_at r1 k hlt
        have hxo := (r3 x (List.mem_of_getElem? hxk)).1
        have hxT : l.xs[k]? = some x.m := by rw [← r2, List.getElem?_map, hxk]; rfl
        have hok := LI.out.good k x.m hxT
        have hnx := k_next (ks := l.bs) hxT
        have HC := Lib.hid (hC wr (Below.refl _ _))
        have HX := Lib.hid hxo
        have i1 : (0 : Int) ≤ (k : Int) := by omega
        have i2 : (k : Int) < (an : Int) := by omega
        obtain ⟨KV, hKV⟩ : ∃ KV, kAll l.bs (l.xs.take k) = KV := ⟨_, rfl⟩
        rw [hKV] at DK hok hnx
        have hat := hok.2.1
        have hcv := hok.2.2
        have HNX := Lib.hid hnx
        have hwf := hxo.wf
        clear hC hxT hxo hxk r1 r2 r3 r4 r5 rc rm hok hnx hKV
        obtain ⟨r, dx, ds⟩ := x
        have hst : CellsAt wr b (q + k * 9 + 5) [.int .i64 r.st.clock, .int .i64 r.st.site, .int .i64 r.st.seq] := fun j u hj => by
          have := HC.out (5 + j) u (by
            match j, (List.getElem?_eq_some_iff.1 hj).1 with
            | 0, _ | 1, _ | 2, _ => exact hj)
          rwa [← Nat.add_assoc] at this
        have HS := Lib.hid hst
        have q8 : wr.cell? ⟨b, q + k * 9 + 8, none⟩ = some (.slice dx.a dx.n dx.c) := HC.out 8 _ rfl
        have Q8 := Lib.hid q8
        clear hst q8
        change r.st.seq = atV KV r.st.site + 1 at hat
        have HAT := Lib.hid hat
        change covV KV ds = true at hcv
        change Hid (_ = withV KV r.st.site r.st.seq) at HNX
        have HHX := Lib.hid (show SlR wr dx ds from HX.out.sl)
        have hsr := atV_range KV r.st.site
        clear hat
        go_upto_region 23 with (first
          | refine wpList_load_mid rfl 27 _ rfl b (q + k * 9 + 5) rfl [.int .i64 r.st.clock, .int .i64 r.st.site, .int .i64 r.st.seq] _ HS.out Try.underlying27 rfl (by kernel_rfl) ?_
          | (refine wpList_store_row rfl 27 _ _ rfl _ #[.int .i64 r.st.clock, .int .i64 r.st.site, .int .i64 r.st.seq] rfl rfl 27 _ (heap_alloc_new _ _) (by kernel_rfl) rfl (by simp [Value.oneCell']) ?_; rw [World.setRow_alloc_new]))
        have PO := Lib.hid (show Kn wr.heap.size wr [(wr.heap.size, .cells #[.int .i64 r.st.clock, .int .i64 r.st.site, .int .i64 r.st.seq] 27 (0, 0))] (wr.alloc (.cells #[.int .i64 r.st.clock, .int .i64 r.st.site, .int .i64 r.st.seq] 27 (0, 0))) from (Kn.start wr).new _)
        obtain ⟨p0, hp0⟩ : ∃ p0, wr.heap.size = p0 := ⟨_, rfl⟩
        have TW := Lib.hid (TW.out.below PO.out.b)
        have RA := Lib.hid (RA.out.below PO.out.b)
        have DK := Lib.hid (DK.out.below PO.out.b)
        have HHX := Lib.hid (HHX.out.below PO.out.b)
        have q8 := PO.out.b.cell (p := ⟨b, q + k * 9 + 8, none⟩) (World.block_lt_of_cell? _ _ Q8.out) |>.trans Q8.out
        rw [hp0] at PO ⊢
        generalize wr.alloc (.cells #[.int .i64 r.st.clock, .int .i64 r.st.site, .int .i64 r.st.seq] 27 (0, 0)) = w3 at *
        have CV := rcovers_any d.a dx.a d.n d.c dx.n dx.c KV ds w3 DK.out.r HHX.out.r DK.out.nc DK.out.cb HHX.out.nc HHX.out.cb
        rw [hcv] at CV
        go_upto_region 24 with (first
          | (go_at_call 22; refine CV.mono ?_; rintro e w4 ⟨rfl, dn⟩))
        have PO := Lib.hid (PO.out.below dn)
        have TW := Lib.hid (TW.out.below dn)
        have RA := Lib.hid (RA.out.below dn)
        have DK := Lib.hid (DK.out.below dn)
        clear CV dn Q8 HC HS HX HHX q8
        have e1 : wrap64 (r.st.seq - 1) = r.st.seq - 1 := IntWalk.wrap64_in _ ⟨by have := HAT.out; omega, by have := HAT.out; omega⟩
        have t6 : (atV KV r.st.site != IntKind.i64.wrap (r.st.seq - 1)) = false := by rw [show IntKind.i64.wrap (r.st.seq - 1) = r.st.seq - 1 by rw [IntKind.wrap_i64]; have := HAT.out; omega, HAT.out]; simp
        refine wp_region_held_drew (S := (fun wx => wx.cell? ⟨p0, 1, none⟩ = some (.int .i64 r.st.site) ∧ wx.cell? ⟨p0, 2, none⟩ = some (.int .i64 r.st.seq) ∧ SlR wx d KV)) (by kernel_rfl) ?_ (fun hHeld => ?_)
        focus ((try dsimp only); (try (exact st2_held PO.out rfl DK.out)); done)
        (refine wpAnyH_take (i := 0) (oi := { dst := some 96, op := Go.Op.move (Go.Operand.tmp 13), type := 4, pos := "law.go:129", after := #[], guard := none }) (v := ?_) rfl (by kernel_rfl) (by kernel_rfl) (by kernel_rfl) (fun _ _ _ h => h) (Or.inl ⟨by rfl, ?_⟩) (by assumption) ?_; rotate_left; (focus (intro w hSw; ((try dsimp only at hSw); go_simp; try with_reducible rfl))); (try simp only [Act.put, List.setIfInBounds_toArray, List.set_cons_zero, List.set_cons_succ]))
        (refine wpAnyH_take (i := 1) (oi := { dst := some 97, op := Go.Op.unOp Go.UnOp.not 4 (Go.Operand.tmp 96), type := 4, pos := "law.go:129", after := #[{ on := 0, ground := Go.Ground.data }], guard := none }) (v := ?_) rfl (by kernel_rfl) (by kernel_rfl) (by kernel_rfl) (fun _ _ _ h => h) (Or.inl ⟨by rfl, ?_⟩) (by assumption) ?_; rotate_left; (focus (intro w hSw; ((try dsimp only at hSw); go_simp; try with_reducible rfl))); (try simp only [Act.put, List.setIfInBounds_toArray, List.set_cons_zero, List.set_cons_succ]))
        (refine wpAnyH_take (i := 2) (oi := { dst := some 98, op := Go.Op.move (Go.Operand.tmp 97), type := 4, pos := "law.go:129", after := #[{ on := 1, ground := Go.Ground.data }], guard := none }) (v := ?_) rfl (by kernel_rfl) (by kernel_rfl) (by kernel_rfl) (fun _ _ _ h => h) (Or.inl ⟨by rfl, ?_⟩) (by assumption) ?_; rotate_left; (focus (intro w hSw; ((try dsimp only at hSw); go_simp; try with_reducible rfl))); (try simp only [Act.put, List.setIfInBounds_toArray, List.set_cons_zero, List.set_cons_succ]))
        (first | (refine wpAnyH_take (i := 3) (oi := { dst := some 99, op := Go.Op.move (Go.Operand.tmp 9), type := 28, pos := "law.go:129", after := #[{ on := 2, ground := Go.Ground.guard }], guard := some (2, false) }) (v := undef) rfl (by kernel_rfl) (by kernel_rfl) (by kernel_rfl) (fun _ _ _ h => h) (Or.inr ⟨by rfl, rfl⟩) (by assumption) ?_; (try simp only [Act.put, List.setIfInBounds_toArray, List.set_cons_zero, List.set_cons_succ])) | (refine wpAnyH_take (i := 3) (oi := { dst := some 99, op := Go.Op.move (Go.Operand.tmp 9), type := 28, pos := "law.go:129", after := #[{ on := 2, ground := Go.Ground.guard }], guard := some (2, false) }) (v := ?_) rfl (by kernel_rfl) (by kernel_rfl) (by kernel_rfl) (fun _ _ _ h => h) (Or.inl ⟨by rfl, ?_⟩) (by assumption) ?_; rotate_left; (focus (intro w hSw; ((try dsimp only at hSw); go_simp; try with_reducible rfl))); (try simp only [Act.put, List.setIfInBounds_toArray, List.set_cons_zero, List.set_cons_succ])))
        (first | (refine wpAnyH_take (i := 4) (oi := { dst := some 100, op := Go.Op.fieldAddr 27 (Go.Operand.tmp 12) 1, type := 0, pos := "law.go:129", after := #[{ on := 2, ground := Go.Ground.guard }], guard := some (2, false) }) (v := undef) rfl (by kernel_rfl) (by kernel_rfl) (by kernel_rfl) (fun _ _ _ h => h) (Or.inr ⟨by rfl, rfl⟩) (by assumption) ?_; (try simp only [Act.put, List.setIfInBounds_toArray, List.set_cons_zero, List.set_cons_succ])) | (refine wpAnyH_take (i := 4) (oi := { dst := some 100, op := Go.Op.fieldAddr 27 (Go.Operand.tmp 12) 1, type := 0, pos := "law.go:129", after := #[{ on := 2, ground := Go.Ground.guard }], guard := some (2, false) }) (v := ?_) rfl (by kernel_rfl) (by kernel_rfl) (by kernel_rfl) (fun _ _ _ h => h) (Or.inl ⟨by rfl, ?_⟩) (by assumption) ?_; rotate_left; (focus (intro w hSw; ((try dsimp only at hSw); go_simp; try with_reducible rfl))); (try simp only [Act.put, List.setIfInBounds_toArray, List.set_cons_zero, List.set_cons_succ])))
        (first | (refine wpAnyH_take (i := 5) (oi := { dst := some 101, op := Go.Op.load 3 (Go.Operand.tmp 100), type := 3, pos := "law.go:129", after := #[{ on := 4, ground := Go.Ground.data }, { on := 2, ground := Go.Ground.guard }], guard := some (2, false) }) (v := undef) rfl (by kernel_rfl) (by kernel_rfl) (by kernel_rfl) (fun _ _ _ h => h) (Or.inr ⟨by rfl, rfl⟩) (by assumption) ?_; (try simp only [Act.put, List.setIfInBounds_toArray, List.set_cons_zero, List.set_cons_succ])) | (refine wpAnyH_take (i := 5) (oi := { dst := some 101, op := Go.Op.load 3 (Go.Operand.tmp 100), type := 3, pos := "law.go:129", after := #[{ on := 4, ground := Go.Ground.data }, { on := 2, ground := Go.Ground.guard }], guard := some (2, false) }) (v := ?_) rfl (by kernel_rfl) (by kernel_rfl) (by kernel_rfl) (fun _ _ _ h => h) (Or.inl ⟨by rfl, ?_⟩) (by assumption) ?_; rotate_left; (focus (intro w hSw; ((try dsimp only at hSw); go_simp; try with_reducible rfl))); (try simp only [Act.put, List.setIfInBounds_toArray, List.set_cons_zero, List.set_cons_succ])))
        (first | (refine wpAnyH_take (i := 7) (oi := { dst := some 103, op := Go.Op.fieldAddr 27 (Go.Operand.tmp 12) 2, type := 0, pos := "law.go:129", after := #[{ on := 2, ground := Go.Ground.guard }], guard := some (2, false) }) (v := undef) rfl (by kernel_rfl) (by kernel_rfl) (by kernel_rfl) (fun _ _ _ h => h) (Or.inr ⟨by rfl, rfl⟩) (by assumption) ?_; (try simp only [Act.put, List.setIfInBounds_toArray, List.set_cons_zero, List.set_cons_succ])) | (refine wpAnyH_take (i := 7) (oi := { dst := some 103, op := Go.Op.fieldAddr 27 (Go.Operand.tmp 12) 2, type := 0, pos := "law.go:129", after := #[{ on := 2, ground := Go.Ground.guard }], guard := some (2, false) }) (v := ?_) rfl (by kernel_rfl) (by kernel_rfl) (by kernel_rfl) (fun _ _ _ h => h) (Or.inl ⟨by rfl, ?_⟩) (by assumption) ?_; rotate_left; (focus (intro w hSw; ((try dsimp only at hSw); go_simp; try with_reducible rfl))); (try simp only [Act.put, List.setIfInBounds_toArray, List.set_cons_zero, List.set_cons_succ])))
        (first | (refine wpAnyH_take (i := 8) (oi := { dst := some 104, op := Go.Op.load 3 (Go.Operand.tmp 103), type := 3, pos := "law.go:129", after := #[{ on := 7, ground := Go.Ground.data }, { on := 2, ground := Go.Ground.guard }], guard := some (2, false) }) (v := undef) rfl (by kernel_rfl) (by kernel_rfl) (by kernel_rfl) (fun _ _ _ h => h) (Or.inr ⟨by rfl, rfl⟩) (by assumption) ?_; (try simp only [Act.put, List.setIfInBounds_toArray, List.set_cons_zero, List.set_cons_succ])) | (refine wpAnyH_take (i := 8) (oi := { dst := some 104, op := Go.Op.load 3 (Go.Operand.tmp 103), type := 3, pos := "law.go:129", after := #[{ on := 7, ground := Go.Ground.data }, { on := 2, ground := Go.Ground.guard }], guard := some (2, false) }) (v := ?_) rfl (by kernel_rfl) (by kernel_rfl) (by kernel_rfl) (fun _ _ _ h => h) (Or.inl ⟨by rfl, ?_⟩) (by assumption) ?_; rotate_left; (focus (intro w hSw; ((try dsimp only at hSw); go_simp; try with_reducible rfl))); (try simp only [Act.put, List.setIfInBounds_toArray, List.set_cons_zero, List.set_cons_succ])))
        (first | (refine wpAnyH_take (i := 9) (oi := { dst := some 105, op := Go.Op.binOp Go.BinOp.sub 3 (Go.Operand.tmp 104) (Go.Operand.const (Go.Value.int Go.IntKind.i64 1)) 3, type := 3, pos := "law.go:129", after := #[{ on := 8, ground := Go.Ground.data }, { on := 2, ground := Go.Ground.guard }], guard := some (2, false) }) (v := undef) rfl (by kernel_rfl) (by kernel_rfl) (by kernel_rfl) (fun _ _ _ h => h) (Or.inr ⟨by rfl, rfl⟩) (by assumption) ?_; (try simp only [Act.put, List.setIfInBounds_toArray, List.set_cons_zero, List.set_cons_succ])) | (refine wpAnyH_take (i := 9) (oi := { dst := some 105, op := Go.Op.binOp Go.BinOp.sub 3 (Go.Operand.tmp 104) (Go.Operand.const (Go.Value.int Go.IntKind.i64 1)) 3, type := 3, pos := "law.go:129", after := #[{ on := 8, ground := Go.Ground.data }, { on := 2, ground := Go.Ground.guard }], guard := some (2, false) }) (v := ?_) rfl (by kernel_rfl) (by kernel_rfl) (by kernel_rfl) (fun _ _ _ h => h) (Or.inl ⟨by rfl, ?_⟩) (by assumption) ?_; rotate_left; (focus (intro w hSw; ((try dsimp only at hSw); go_simp; try with_reducible rfl))); (try simp only [Act.put, List.setIfInBounds_toArray, List.set_cons_zero, List.set_cons_succ])))
        (first | (refine wpAnyH_take (i := 6) (oi := { dst := some 102, op := Go.Op.call { callee := Go.Callee.value (Go.Operand.func 12), args := #[Go.Operand.tmp 99, Go.Operand.tmp 101], argTypes := #[28, 3] }, type := 3, pos := "law.go:129", after := #[{ on := 3, ground := Go.Ground.data }, { on := 5, ground := Go.Ground.data }, { on := 2, ground := Go.Ground.chain }, { on := 2, ground := Go.Ground.guard }], guard := some (2, false) }) (v := undef) rfl (by kernel_rfl) (by kernel_rfl) (by kernel_rfl) (fun _ _ _ h => h) (Or.inr ⟨by rfl, rfl⟩) (by assumption) ?_; (try simp only [Act.put, List.setIfInBounds_toArray, List.set_cons_zero, List.set_cons_succ])) | (refine wpAnyH_ready (rs := [6]) (by kernel_rfl) (by simp) ?_; refine AllReadyH.cons (o := { dst := some 102, op := Go.Op.call { callee := Go.Callee.value (Go.Operand.func 12), args := #[Go.Operand.tmp 99, Go.Operand.tmp 101], argTypes := #[28, 3] }, type := 3, pos := "law.go:129", after := #[{ on := 3, ground := Go.Ground.data }, { on := 5, ground := Go.Ground.data }, { on := 2, ground := Go.Ground.chain }, { on := 2, ground := Go.Ground.guard }], guard := some (2, false) }) rfl (fun K hK => ?_) AllReadyH.nil; go_simp; ((first | (go_at_call 12; refine (rat_any d.a d.n d.c KV r.st.site _ hHeld.2.2.r hHeld.2.2.nc hHeld.2.2.cb).mono ?_; rintro e wn ⟨rfl, dn⟩; have PO := Lib.hid (Kn.later PO.out dn rfl rfl rfl rfl); have TW := Lib.hid (TW.out.below (below_at dn rfl rfl rfl rfl)); have RA := Lib.hid (RA.out.below (below_at dn rfl rfl rfl rfl)); have DK := Lib.hid (DK.out.below (below_at dn rfl rfl rfl rfl))))); go_wp2_with fail; refine hK.out _ _ ?_ (fun hHeld => ?_); (focus ((try dsimp only); (try (exact st2_held PO.out rfl DK.out)); done)); clear hK; (try simp only [Act.put, List.setIfInBounds_toArray, List.set_cons_zero, List.set_cons_succ])))
        (first | (refine wpAnyH_take (i := 10) (oi := { dst := some 106, op := Go.Op.binOp Go.BinOp.neq 3 (Go.Operand.tmp 102) (Go.Operand.tmp 105) 3, type := 4, pos := "law.go:129", after := #[{ on := 6, ground := Go.Ground.data }, { on := 9, ground := Go.Ground.data }, { on := 2, ground := Go.Ground.guard }], guard := some (2, false) }) (v := undef) rfl (by kernel_rfl) (by kernel_rfl) (by kernel_rfl) (fun _ _ _ h => h) (Or.inr ⟨by rfl, rfl⟩) (by assumption) ?_; (try simp only [Act.put, List.setIfInBounds_toArray, List.set_cons_zero, List.set_cons_succ])) | (refine wpAnyH_take (i := 10) (oi := { dst := some 106, op := Go.Op.binOp Go.BinOp.neq 3 (Go.Operand.tmp 102) (Go.Operand.tmp 105) 3, type := 4, pos := "law.go:129", after := #[{ on := 6, ground := Go.Ground.data }, { on := 9, ground := Go.Ground.data }, { on := 2, ground := Go.Ground.guard }], guard := some (2, false) }) (v := ?_) rfl (by kernel_rfl) (by kernel_rfl) (by kernel_rfl) (fun _ _ _ h => h) (Or.inl ⟨by rfl, ?_⟩) (by assumption) ?_; rotate_left; (focus (intro w hSw; ((try dsimp only at hSw); go_simp; try with_reducible rfl))); (try simp only [Act.put, List.setIfInBounds_toArray, List.set_cons_zero, List.set_cons_succ])))
        (refine wpAnyH_take (i := 11) (oi := { dst := some 107, op := Go.Op.pick (Go.Operand.tmp 98) (Go.Operand.const (Go.Value.bool true)) (Go.Operand.tmp 106), type := 4, pos := "law.go:129", after := #[{ on := 2, ground := Go.Ground.data }, { on := 10, ground := Go.Ground.data }], guard := none }) (v := ?_) rfl (by kernel_rfl) (by kernel_rfl) (by kernel_rfl) (fun _ _ _ h => h) (Or.inl ⟨by rfl, ?_⟩) (by assumption) ?_; rotate_left; (focus (intro w hSw; ((try dsimp only at hSw); go_simp; try with_reducible rfl))); (try simp only [Act.put, List.setIfInBounds_toArray, List.set_cons_zero, List.set_cons_succ]))
        refine wpAnyH_done (by kernel_rfl) ?_ _
        have s1 := hHeld.1
        have s2 := hHeld.2.1
        clear hHeld
        have WT := rwith_any d.a d.n d.c KV r.st.site r.st.seq wn DK.out.r DK.out.nc DK.out.cb
        have hl8 : (withV KV r.st.site r.st.seq).length ≤ 8 := vec_length _
        clear dn e1
        go_wp2_with (first
          | (go_at_call 23; refine WT.mono ?_; rintro e w5 ⟨a5, c5, rfl, hn5, hc5, hV5, dn⟩))
        have TW := Lib.hid (TW.out.below dn)
        have RA := Lib.hid (RA.out.below dn)
        have DN := Lib.hid (show SlR w5 ⟨a5, (withV KV r.st.site r.st.seq).length, c5⟩ (kAll l.bs (l.xs.take (k + 1))) by rw [HNX.out]; exact ⟨hV5.reads, hn5, hc5⟩)
        clear dn hV5 hn5 hc5 WT s1 s2
        go_roundw
        case rel => exact ⟨k + 1, ⟨a5, (withV KV r.st.site r.st.seq).length, c5⟩, by omega, by go_num, rfl, DN.out, TW.out, RA.out⟩
        case measure => simp [intOf]; omega
      · obtain rfl : k = an := by omega
        have t4 : decide ((k : Int) < (k : Int)) = false := decide_eq_false (by omega)
        have EK : kAll l.bs (l.xs.take k) = l.ks := by rw [List.take_of_length_le (by omega)]; exact LI.out.ks.symm
        rw [EK] at DK
        clear EK hRA
        go_wp2_with (first
          | (go_at_call 11; refine (oknow_any F g1 l _ TW.out.l1).mono ?_; rintro e w6 ⟨dk, rfl, hrk, _, _, dn⟩; have TW := Lib.hid (TW.out.below dn); have DK := Lib.hid (DK.out.below dn); have RK := Lib.hid hrk; clear hrk dn)
          | (go_at_call 17; refine (vsame_refl d dk l.ks _ DK.out RK.out).mono ?_; rintro e w8 ⟨rfl, dn⟩; have TW := Lib.hid (TW.out.below dn); clear dn))
        go_ret
        exact ⟨rfl, TW.out.b⟩
theorem ocausal_row (u : Value) (xs : List OpA) (w : World) (h : IsOps w u xs) :
    Calls Try.prog 4 #[u] w fun e w' => e = .returned (.bool true) ∧ Below w.heap.size w w' := by
  obtain ⟨a, n, c, rfl, hnc, hcb, h, hok⟩ := h
  exact ocausal_any a n c xs w h hok hnc hcb
end
end Go.Proofs.Ytdihbinbkneejaa
