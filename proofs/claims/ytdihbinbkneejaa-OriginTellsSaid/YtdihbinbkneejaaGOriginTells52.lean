/- OriginTells: for any script, and any number, the law answers true. -/
import Derived.Test.YtdihbinbkneejaaGOriginTells50
import Derived.Test.YtdihbinbkneejaaGOriginTells51
import Derived.Deep.CutBlock
namespace Go.Proofs.Ytdihbinbkneejaa
section
open Go.RowKit Go.Deep
set_option maxRecDepth 100000
set_option linter.unusedVariables false
set_option linter.unusedSimpArgs false
attribute [local go_sem ↓] Go.wp_at_zero Go.wp_at_succ
theorem and7' (x : Int) (h : i64' x) : bits .and .i64 x 7 = x % 8 := by
  unfold i64' at h
  have e1 : (BitVec.ofInt 64 x).toNat % 8 = (x % 8).toNat := by
    rw [BitVec.toNat_ofInt]
    omega
  show IntKind.i64.wrap ((BitVec.ofInt 64 x &&& BitVec.ofInt 64 7).toNat : Int) = _
  rw [BitVec.toNat_and, show (BitVec.ofInt 64 7).toNat = 2 ^ 3 - 1 from by decide, Nat.and_two_pow_sub_one_eq_mod, show 2 ^ 3 = 8 from rfl, e1, IntKind.wrap_i64]
  omega
theorem LogAt.lt {w : World} {F : List Nat} {g : Nat} {m : LogM} (h : LogAt w F g m) : g < w.heap.size := by
  obtain ⟨_, _, _, _, h1, _⟩ := h
  exact heap_lt h1
theorem ops_at {w : World} {a : Option Addr} {n : Nat} {xs : List OpA} (h : ReadsE OpA.cs 13 w a n xs) (k : Nat) (hk : k < n) : ∃ b o x, a = some ⟨b, o, none⟩ ∧ xs[k]? = some x ∧ ∀ wx, Below w.heap.size w wx → CellsAt wx b (o + k * 13 + 3) (rcA x.x.r x.x.d).toList := by
  obtain ⟨b, o, x, e, hl, hx, hC⟩ := h.at (Below.refl _ _) k hk
  refine ⟨b, o, x, e, hx, fun wx hb j u hj => ?_⟩
  have := (hC.below hb hl) (3 + j) u (by
    unfold OpA.cs
    rw [List.append_assoc, List.getElem?_append_right (by simp)]
    simp only [List.length_cons, List.length_nil, Nat.zero_add]
    rw [show 3 + j - (1 + 1 + 1) = j by omega, List.getElem?_append_left (List.getElem?_eq_some_iff.1 hj).1]
    exact hj)
  rwa [← Nat.add_assoc] at this
/-- Two logs, and what was there. -/
structure Two (w0 : World) (F : List Nat) (g1 g2 : Nat) (l m : LogM) (w : World) : Prop where
  l1 : LogAt w F g1 l
  l2 : LogAt w F g2 m
  b : Below w0.heap.size w0 w
section
variable {w0 w w' : World} {F : List Nat} {g1 g2 : Nat} {l m l' m' : LogM}
theorem Two.below (h : Two w0 F g1 g2 l m w) (d : Below w.heap.size w w') : Two w0 F g1 g2 l m w' := ⟨h.l1.below d, h.l2.below d, below_then h.b h.b.size d⟩
theorem Two.one (h : Two w0 F g1 g2 l m w) (h1 : LogAt w' F g1 l') (d : But g1 w w') (hg : g1 ∈ F) (hne : g2 ≠ g1) (h0 : w0.heap.size ≤ g1) : Two w0 F g1 g2 l' m w' := ⟨h1, h.l2.but hg hne d, But.below h.b d h.b.size h0⟩
theorem Two.two (h : Two w0 F g1 g2 l m w) (h1 : LogAt w' F g2 m') (d : But g2 w w') (hg : g2 ∈ F) (hne : g1 ≠ g2) (h0 : w0.heap.size ≤ g2) : Two w0 F g1 g2 l m' w' := ⟨h.l1.but hg hne d, h1, But.below h.b d h.b.size h0⟩
end
theorem recs_len {w : World} {d : Sl} {xs : List RcM} (h : RecsAt w d xs) : xs.length = d.n := by
  obtain ⟨⟨rs, h1, h2, _⟩, _⟩ := h
  rw [← h2, List.length_map]
  exact h1.1
theorem after_pre (F : List Nat) (g : Nat) (m : LogM) (d : Sl) (c : Nat) (n : Int) (w : World) (hL : LogAt w F g m) (hG : Good [] m.xs) (hc : c ≤ m.xs.length) (hb : m.bs = []) (hv : SlR w d (kAll [] (m.xs.take c))) (h0 : i64' n) :
    Calls Try.prog 14 #[.pointer (some ⟨g, 0, none⟩), .slice d.a d.n d.c, .int .i64 n] w fun e w' => ∃ a k q, e = .returned (.tuple #[.slice a k q, .bool true]) ∧ RecsAt w' ⟨a, k, q⟩ ((m.xs.drop c).take n.toNat) ∧ Below w.heap.size w w' := by
  have C := oafter_any F g m d _ n w hL hv h0
  rw [preM_after hG c hc n m rfl hb] at C
  exact C.mono fun e w' ⟨o, h1, h2, h3⟩ => ⟨o.a, o.n, o.c, h1, h2, h3⟩
theorem rsame_refl (d1 d2 : Sl) (xs : List RcM) (w : World) (h1 : RecsAt w d1 xs) (h2 : RecsAt w d2 xs) :
    Calls Try.prog 15 #[.slice d1.a d1.n d1.c, .slice d2.a d2.n d2.c] w fun e w' => e = .returned (.bool true) ∧ Below w.heap.size w w' := by
  have C := rsame17_any d1 d2 xs xs w h1 h2
  rw [sameX_true rfl] at C
  exact C
theorem vsame_refl (d1 d2 : Sl) (xs : List Int) (w : World) (h1 : SlR w d1 xs) (h2 : SlR w d2 xs) :
    Calls Try.prog 17 #[.slice d1.a d1.n d1.c, .slice d2.a d2.n d2.c] w fun e w' => e = .returned (.bool true) ∧ Below w.heap.size w w' := by
  have C := same_any d1.a d2.a d1.n d1.c d2.n d2.c xs xs w h1.r h2.r h1.nc h1.cb h2.nc h2.cb
  rw [decide_eq_true rfl] at C
  exact C
set_option maxHeartbeats 16000000 in
theorem otells_any (a0 : Option Addr) (n c : Nat) (xs : List OpA) (most : Int) (w : World) (h : ReadsE OpA.cs 13 w a0 n xs) (hok : ∀ o ∈ xs, o.ok w) (hnc : n ≤ c) (hcb : c ≤ 9223372036854775807) (h0 : i64' most) :
    Calls Try.prog 3 #[.slice a0 n c, .int .i64 most] w fun e w' => e = .returned (.bool true) ∧ Below w.heap.size w w' := by
  have H := Lib.hid h
  have nilS : ∀ wx : World, SlR wx ⟨none, 0, 0⟩ [] := fun wx => ⟨⟨rfl, .inl rfl⟩, Nat.le_refl _, by decide⟩
  have b400 : i64' 400 := ⟨by decide, by decide⟩
  have h7 := and7' most h0
  clear h
  go_enter Try.func3, Try.ntmps3
  go_wp2_with fail
  refine (oawake_any _).mono ?_
  rintro e w1 ⟨rfl, d1⟩
  go_wp2_with fail
  refine (onew_any [] 400 ⟨none, 0, 0⟩ [] w1 (nilS _) (by simp) b400).mono ?_
  rintro e w2 ⟨g1, rfl, hg1, hL1, d2⟩
  go_wp2_with fail
  refine (onew_any [g1] 400 ⟨none, 0, 0⟩ [] w2 (nilS _) (by intro k hk; simp only [List.mem_singleton] at hk; subst hk; exact hL1.lt) b400).mono ?_
  rintro e w3 ⟨g2, rfl, hg2, hL2, d3⟩
  have hTW : Two w [g2, g1] g1 g2 (newM 400 []) (newM 400 []) w3 := ⟨(hL1.grow hg2).below d3, hL2, below_then (below_then d1 d1.size d2) (by have := d1.size; have := d2.size; omega) d3⟩
  have hne : g2 ≠ g1 := by have := hL1.lt; omega
  have h01 : w.heap.size ≤ g1 := by have := d1.size; omega
  have h02 : w.heap.size ≤ g2 := by have := d1.size; have := d2.size; omega
  obtain ⟨F, HFE⟩ : ∃ F : List Nat, Hid ([g2, g1] = F) := ⟨_, rfl⟩
  have hF1 : g1 ∈ F := by rw [← HFE.out]; simp
  have hF2 : g2 ∈ F := by rw [← HFE.out]; simp
  have HF : Hid (∀ q ∈ F, q = g1 ∨ q = g2) := fun q hq => by rw [← HFE.out] at hq; simp at hq; omega
  rw [HFE.out] at hTW
  clear hL1 hL2 d1 d2 d3 hg1 hg2
  obtain ⟨m, hm⟩ : ∃ m, Hid (newM 400 [] = m) := ⟨_, rfl⟩
  rw [hm.out] at hTW
  have hLI0 : LInv m ∧ m.most = 400 ∧ m.bs = [] ∧ m.xs.length ≤ 0 ∧ m.clock = clk 0 m.xs := by
    rw [← hm.out, preM_zero []]
    exact ⟨⟨by intro k x hk; simp [preM] at hk, rfl⟩, rfl, rfl, by simp [preM], rfl⟩
  go_upto_block 0 with fail
  go_cut [8] (fun i wx => ∃ l : LogM, Two w F g1 g2 l m wx ∧ (LInv l ∧ l.most = 400 ∧ l.bs = [] ∧ l.xs.length ≤ 60 ∧ l.clock = clk 0 l.xs))
  case first =>
    go_wp2_with fail
    go_loopw [8, 9, 10] (fun i _ _ wr => ∃ (k : Nat) (l : LogM), k ≤ n ∧ k ≤ 60 ∧ i = .int .i64 k ∧ Two w F g1 g2 l m wr ∧ (LInv l ∧ l.most = 400 ∧ l.bs = [] ∧ l.xs.length ≤ k ∧ l.clock = clk 0 l.xs)) (fun i _ _ _ => 61 - (intOf i).toNat)
    case atStart => exact ⟨0, m, by omega, by omega, rfl, hTW, hLI0⟩
    case round =>
      obtain ⟨k, l, hk, hk60, rfl, hTW, hLI⟩ := hrel
      by_cases hkl : k < n ∧ k < 60
      · have t1 : decide ((k : Int) < (n : Int)) = true := decide_eq_true (by omega)
        have t2 : decide ((k : Int) < 60) = true := decide_eq_true (by omega)
        obtain ⟨b, o, op, rfl, hxk, hC⟩ := ops_at H.out k hkl.1
        have hop := hok op (List.mem_of_getElem? hxk)
        have hC := hC wr (hTW.b)
        have HX := Lib.hid (hop.rec_.below hTW.b)
        have TW := Lib.hid hTW
        have LI := Lib.hid hLI
        clear hTW hLI hop hxk
        have SMA := small17_any op.x wr HX.out
        change Calls Try.prog _ #[.agg (rcA op.x.r op.x.d)] wr _ at SMA
        have HY := RecA.small_ok HX.out
        have i1 : (0 : Int) ≤ (k : Int) := by omega
        have i2 : (k : Int) < (n : Int) := by omega
        have HC := Lib.hid hC
        clear hC
        generalize op.x.r = rx at *
        generalize op.x.d = dx at *
        generalize RecA.small op.x = Y at *
        obtain ⟨r, d, ds⟩ := Y
        simp only [RecA.val, rcVal] at SMA
        go_upto_region 10 with (first
          | refine wpList_load_mid rfl 30 _ rfl b (o + k * 13 + 3) rfl (rcA rx dx).toList _ HC.out Try.underlying30 rfl (by kernel_rfl) ?_
          | (go_at_call 10; refine SMA.mono ?_; rintro e w4 ⟨rfl, d4⟩)
          | (refine wpList_store_row rfl 30 _ _ rfl _ (rcA r d) rfl rfl 30 _ (heap_alloc_new _ _) (by kernel_rfl) rfl (by simp [Value.oneCell', rcA]) ?_; rw [World.setRow_alloc_new]))
        have TW := Lib.hid (TW.out.below d4)
        have HY := Lib.hid (RecA.ok.below HY d4)
        clear d4 SMA HX HC
        have KK := Lib.hid (show Kn w4.heap.size w4 [(w4.heap.size, rcO r d)] (w4.alloc (.cells (rcA r d) 30 (0, 0))) from (Kn.start w4).new (rcO r d))
        obtain ⟨p, hp⟩ : ∃ p, w4.heap.size = p := ⟨_, rfl⟩
        rw [hp] at KK ⊢
        generalize w4.alloc (.cells (rcA r d) 30 (0, 0)) = w5 at *
        have TB : ∀ wx, Below p w4 wx → Two w F g1 g2 l m wx := fun wx hb => TW.out.below (by rw [hp]; exact hb)
        have hFl : ∀ q ∈ F, q < p := fun q hq => by have h1 := TW.out.l1.lt; have h2 := TW.out.l2.lt; rw [hp] at h1 h2; rcases HF.out q hq with rfl | rfl; exact h1; exact h2
        obtain ⟨c0, c1, c2, c3, c4, c5, c6, c7, c8⟩ := rec_fields (p := p) (r := r) (d := d) KK.out (by simp)
        by_cases hsite : 0 ≤ r.st.site ∧ r.st.site < 8
        · have t5 : decide (0 ≤ r.st.site) = true := decide_eq_true hsite.1
          have t6 : decide (r.st.site < 8) = true := decide_eq_true hsite.2
          have har := atV_range l.ks r.st.site
          have hww : wrap64 (atV l.ks r.st.site + 1) = atV l.ks r.st.site + 1 := IntWalk.wrap64_in (atV l.ks r.st.site + 1) ⟨by omega, by omega⟩
          go_upto_region 12 with (first | (go_at_call 11; refine (oknow_any F g1 l _ (TB _ KK.out.b).l1).mono ?_; rintro e w6 ⟨dk, rfl, hdk, hdf, hd8, dn⟩; have hfk := Lib.hid (show fresh p dk from hdf.imp_right fun h p' hp' => Nat.le_trans KK.out.le (h p' hp')); have hfk2 := Lib.hid (show farA [p] dk from hdf.imp_right fun h p' hp' hm => by have h1 := h p' hp'; have h2 := KK.out.lt (p, rcO r d) (by simp); simp only [List.mem_singleton] at hm; simp only at h2; omega); have KK := Lib.hid (KK.out.below dn); have DK := Lib.hid hdk; clear hdf hd8 dn hdk))
          clear c0 c1 c2 c3 c4 c5 c6 c7 c8
          obtain ⟨c0, c1, c2, c3, c4, c5, c6, c7, c8⟩ := rec_fields (p := p) (r := r) (d := d) KK.out (by simp)
          obtain ⟨A, hA⟩ : ∃ A, atV l.ks r.st.site = A := ⟨_, rfl⟩
          rw [hA] at har hww
          go_upto_region 13 with (first | (go_at_call 12; refine (rat_any dk.a dk.n dk.c l.ks r.st.site _ DK.out.r DK.out.nc DK.out.cb).mono ?_; rintro e w7 ⟨rfl, dn⟩; rw [hA]; have KK := Lib.hid (KK.out.below dn); have DK := Lib.hid (DK.out.below dn); clear dn; have f7 := KK.out.fz (g := p) (o := rcO r d) (by simp) 7; have e7 := KK.out.cell (g := p) (o := rcO r d) (by simp) (j := 7) (v := .int .i64 r.st.seq) rfl))
          have KK := Lib.hid (Kn.setCell KK.out trivial (by omega) 7 (.int .i64 (A + 1)) (rcO { r with st := ⟨r.st.clock, r.st.site, A + 1⟩ } d) rfl)
          have DK := Lib.hid (show SlR (w7.setCell ⟨p, 7, none⟩ (.int .i64 (A + 1))) dk l.ks from SlR.keep (F := [p]) DK.out hfk2.out (by simp [World.setCell]) (fun i _ hi => Below.heap_setCell _ _ _ _ (by simpa using hi)))
          generalize w7.setCell ⟨p, 7, none⟩ (.int .i64 (A + 1)) = w8 at *
          clear c0 c1 c2 c3 c4 c5 c6 c7 c8 f7 e7
          generalize hrr : ({ r with st := ⟨r.st.clock, r.st.site, A + 1⟩ } : Rc) = r2 at *
          have f8 := KK.out.fz (g := p) (o := rcO r2 d) (by simp) 8
          have e8 := KK.out.cell (g := p) (o := rcO r2 d) (by simp) (j := 8) (v := .slice d.a d.n d.c) rfl
          go_upto_region 14 with fail
          have KK := Lib.hid (Kn.setCell KK.out trivial (by omega) 8 (.slice dk.a dk.n dk.c) (rcO r2 dk) rfl)
          have DK := Lib.hid (show SlR (w8.setCell ⟨p, 8, none⟩ (.slice dk.a dk.n dk.c)) dk l.ks from SlR.keep (F := [p]) DK.out hfk2.out (by simp [World.setCell]) (fun i _ hi => Below.heap_setCell _ _ _ _ (by simpa using hi)))
          generalize w8.setCell ⟨p, 8, none⟩ (.slice dk.a dk.n dk.c) = w9 at *
          clear f8 e8
          have hwf2 : r2.wf := by
            rw [← hrr]
            obtain ⟨a1, a2, a3, a4, a5, a6, a7, a8⟩ := HY.out.wf
            exact ⟨a1, a2, a3, a4, a5, a6, a7, by unfold i64'; simp only; omega⟩
          have hsz9 : p ≤ w9.heap.size := KK.out.le
          have AD : ∀ wx, Below p w4 wx → Calls Try.prog 13 #[.pointer (some ⟨g1, 0, none⟩), .agg (rcA r2 dk)] w9 fun e w' => e = .returned (.int .i64 (addM l (r2, l.ks)).2) ∧ LogAt w' F g1 (addM l (r2, l.ks)).1 ∧ But g1 w9 w' := fun _ _ => oadd_any F g1 l ⟨r2, dk, l.ks⟩ w9 (TB _ KK.out.b).l1 hF1 (fun q hq => by have := hFl q hq; omega) ⟨hwf2, DK.out⟩
          clear hww
          go_wp2_with (first
            | refine wpList_load_row rfl 30 _ rfl p rfl 30 (rcA r2 dk) (0, 0) _ KK.out.hd Try.underlying30 rfl (by kernel_rfl) ?_
            | (go_at_call 13; refine (AD _ KK.out.b).mono ?_; rintro e wz ⟨rfl, hz1, hz2⟩))
          have TW9 := (TB _ KK.out.b).one hz1 hz2 hF1 hne h01
          have FIN := Lib.hid (And.intro TW9 (And.intro (LI.out.1.add (r2, l.ks)) (add_len l (r2, l.ks))))
          have FC := Lib.hid (fun h => add_clk (m := l) h (r2, l.ks))
          generalize (addM l (r2, l.ks)).1 = l9 at *
          clear hz1 hz2 TW9
          go_wp2_with fail
          go_roundw
          case rel => exact ⟨k + 1, l9, by omega, by omega, by go_num, FIN.out.1, FIN.out.2.1, by rw [FIN.out.2.2.2.1]; exact LI.out.2.1, by rw [FIN.out.2.2.2.2]; exact LI.out.2.2.1, by have h1 := FIN.out.2.2.1; have h2 := LI.out.2.2.2.1; omega, FC.out LI.out.2.2.2.2⟩
          case measure => simp [intOf]; omega
        · have AD : ∀ wx, Below p w4 wx → Calls Try.prog 13 #[.pointer (some ⟨g1, 0, none⟩), .agg (rcA r d)] w5 fun e w' => e = .returned (.int .i64 (addM l (r, ds)).2) ∧ LogAt w' F g1 (addM l (r, ds)).1 ∧ But g1 w5 w' := fun _ _ => oadd_any F g1 l ⟨r, d, ds⟩ w5 (TB _ KK.out.b).l1 hF1 (fun q hq => by have := hFl q hq; have := KK.out.le; omega) ⟨HY.out.wf, HY.out.sl.below (by rw [hp]; exact KK.out.b)⟩
          by_cases hs0 : 0 ≤ r.st.site
          · have t5 : decide (0 ≤ r.st.site) = true := decide_eq_true hs0
            have t6 : decide (r.st.site < 8) = false := decide_eq_false (by omega)
            clear hsite
            go_wp2_with (first
              | refine wpList_load_row rfl 30 _ rfl p rfl 30 (rcA r d) (0, 0) _ KK.out.hd Try.underlying30 rfl (by kernel_rfl) ?_
              | (go_at_call 13; refine (AD _ KK.out.b).mono ?_; rintro e wz ⟨rfl, hz1, hz2⟩))
            have TW9 := (TB _ KK.out.b).one hz1 hz2 hF1 hne h01
            have FIN := Lib.hid (And.intro TW9 (And.intro (LI.out.1.add (r, ds)) (add_len l (r, ds))))
            have FC := Lib.hid (fun h => add_clk (m := l) h (r, ds))
            generalize (addM l (r, ds)).1 = l9 at *
            clear hz1 hz2 TW9
            go_wp2_with fail
            go_roundw
            case rel => exact ⟨k + 1, l9, by omega, by omega, by go_num, FIN.out.1, FIN.out.2.1, by rw [FIN.out.2.2.2.1]; exact LI.out.2.1, by rw [FIN.out.2.2.2.2]; exact LI.out.2.2.1, by have h1 := FIN.out.2.2.1; have h2 := LI.out.2.2.2.1; omega, FC.out LI.out.2.2.2.2⟩
            case measure => simp [intOf]; omega
          · have t5 : decide (0 ≤ r.st.site) = false := decide_eq_false hs0
            clear hsite
            go_wp2_with (first
              | refine wpList_load_row rfl 30 _ rfl p rfl 30 (rcA r d) (0, 0) _ KK.out.hd Try.underlying30 rfl (by kernel_rfl) ?_
              | (go_at_call 13; refine (AD _ KK.out.b).mono ?_; rintro e wz ⟨rfl, hz1, hz2⟩))
            have TW9 := (TB _ KK.out.b).one hz1 hz2 hF1 hne h01
            have FIN := Lib.hid (And.intro TW9 (And.intro (LI.out.1.add (r, ds)) (add_len l (r, ds))))
            have FC := Lib.hid (fun h => add_clk (m := l) h (r, ds))
            generalize (addM l (r, ds)).1 = l9 at *
            clear hz1 hz2 TW9
            go_wp2_with fail
            go_roundw
            case rel => exact ⟨k + 1, l9, by omega, by omega, by go_num, FIN.out.1, FIN.out.2.1, by rw [FIN.out.2.2.2.1]; exact LI.out.2.1, by rw [FIN.out.2.2.2.2]; exact LI.out.2.2.1, by have h1 := FIN.out.2.2.1; have h2 := LI.out.2.2.2.1; omega, FC.out LI.out.2.2.2.2⟩
            case measure => simp [intOf]; omega
      · have hlen : l.xs.length ≤ 60 := by have := hLI.2.2.2.1; omega
        have HFIN := Lib.hid (show ∃ l : LogM, Two w F g1 g2 l m wr ∧ (LInv l ∧ l.most = 400 ∧ l.bs = [] ∧ l.xs.length ≤ 60 ∧ l.clock = clk 0 l.xs) from ⟨l, hTW, hLI.1, hLI.2.1, hLI.2.2.1, hlen, hLI.2.2.2.2⟩)
        clear hTW hLI hlen
        by_cases hkn : k < n
        · have t1 : decide ((k : Int) < (n : Int)) = true := decide_eq_true (by omega)
          have t2 : decide ((k : Int) < 60) = false := decide_eq_false (by omega)
          go_wp2_with fail
          go_meet
          exact HFIN.out
        · have t1 : decide ((k : Int) < (n : Int)) = false := decide_eq_false (by omega)
          go_wp2_with fail
          go_meet
          exact HFIN.out
  case rest =>
    obtain ⟨l, hTW, hI, hmo, hbs, hlen, hck⟩ := hcut
    have LA := Lib.hid (preM_all hI hmo hbs hck)
    have GD := Lib.hid (show Good [] l.xs by have := hI.good; rwa [hbs] at this)
    have BS := Lib.hid hbs
    have TW := Lib.hid (show Two w F g1 g2 l (preM l.xs 0) wc by rw [← preM_zero, hm.out]; exact hTW)
    clear hTW hI hmo hbs hck hLI0 hm H nilS b400 hok
    have h8 : 0 ≤ most % 8 ∧ most % 8 < 8 := by omega
    go_upto_if 72 with fail
    go_cut [11] (fun x wx => (∃ N : Int, x = .int .i64 N ∧ 1 ≤ N ∧ N ≤ 7) ∧ wc = wx)
    case first =>
      by_cases hb : 1 + most % 8 > 7
      · have t3 : decide (1 + most % 8 > 7) = true := decide_eq_true hb
        go_wp2_with fail
        go_meet
        exact ⟨⟨7, rfl, by omega, by omega⟩, rfl⟩
      · have t3 : decide (1 + most % 8 > 7) = false := decide_eq_false hb
        go_wp2_with fail
        go_meet
        exact ⟨⟨1 + most % 8, rfl, by omega, by omega⟩, rfl⟩
    case rest =>
      obtain ⟨⟨N, rfl, hN1, hN7⟩, rfl⟩ := hcut
      have hN64 : i64' N := ⟨by omega, by omega⟩
      have hne2 : g1 ≠ g2 := fun e => hne e.symm
      clear h7 h8
      go_wp2_with fail
      go_loopw [12, 13, 14, 15] (fun i _ _ _ wr => ∃ t c : Nat, t ≤ c ∧ c ≤ l.xs.length ∧ i = .int .i64 t ∧ Two w F g1 g2 l (preM l.xs c) wr) (fun i _ _ _ _ => 71 - (intOf i).toNat)
      case atStart => exact ⟨0, 0, by omega, by omega, rfl, TW.out⟩
      case round =>
        obtain ⟨t, c, htc, hcl, rfl, hTW⟩ := hrel
        have t1 : decide ((t : Int) < 70) = true := decide_eq_true (by omega)
        have TW2 := Lib.hid hTW
        clear hTW
        go_upto_region 22 with (first
          | (go_at_call 11; refine (oknow_any F g2 (preM l.xs c) _ TW2.out.l2).mono ?_; rintro e w4 ⟨dk, rfl, hdk, hdf, hd8, dn⟩; have TW2 := Lib.hid (TW2.out.below dn); have DK := Lib.hid (show SlR w4 dk (kAll [] (l.xs.take c)) from hdk); clear hdk hdf hd8 dn)
          | (go_at_call 14; refine (after_pre F g1 l dk c N _ TW2.out.l1 GD.out hcl BS.out DK.out hN64).mono ?_; rintro e w5 ⟨oa, on, oc, rfl, hro, dn⟩; have TW2 := Lib.hid (TW2.out.below dn); have RO := Lib.hid hro; clear hro dn DK))
        have hon := recs_len RO.out
        rw [List.length_take, List.length_drop] at hon
        have hon2 : on ≤ N.toNat ∧ on ≤ l.xs.length - c ∧ (on = 0 → c = l.xs.length) := by simp only at hon; omega
        clear hon
        have t3 : decide ((on : Int) > N) = false := decide_eq_false (by omega)
        go_wp2_with fail
        go_loopw [15] (fun j wr => ∃ i : Nat, i ≤ on ∧ j = .int .i64 i ∧ Two w F g1 g2 l (preM l.xs (c + i)) wr ∧ RecsAt wr ⟨oa, on, oc⟩ ((l.xs.drop c).take N.toNat)) (fun j _ => on - (intOf j).toNat)
        case atStart => exact ⟨0, by omega, rfl, TW2.out, RO.out⟩
        case round =>
          obtain ⟨i, hi, rfl, hTW, hRO⟩ := hrel
          have RO := Lib.hid hRO
          have TW2 := Lib.hid hTW
          clear hTW
          by_cases hlt : i < on
          · have t4 : decide ((i : Int) < (on : Int)) = true := decide_eq_true (by omega)
            obtain ⟨⟨rs, r1, r2, r3, r4, r5⟩, rc, rm⟩ := hRO
            obtain ⟨b, q, x, rfl, hxk, hC⟩ := recs_at r1 i hlt
            have hxo := (r3 x (List.mem_of_getElem? hxk)).1
            have hxT : l.xs[c + i]? = some x.m := by
              have h1 : ((l.xs.drop c).take N.toNat)[i]? = some x.m := by rw [← r2, List.getElem?_map, hxk]; rfl
              rw [List.getElem?_take_of_lt (by omega), List.getElem?_drop] at h1
              exact h1
            have EA := preM_add GD.out (by omega) (c + i) x.m hxT
            have AD := oadd_any F g2 (preM l.xs (c + i)) x wr TW2.out.l2 hF2 (fun q hq => by have h1 := TW2.out.l1.lt; have h2 := TW2.out.l2.lt; rcases HF.out q hq with rfl | rfl; exact h1; exact h2) hxo
            rw [EA] at AD
            simp only at AD
            change Calls Try.prog _ #[_, .agg (rcA x.r x.d)] wr _ at AD
            have HC := Lib.hid (hC wr (Below.refl _ _))
            have i1 : (0 : Int) ≤ (i : Int) := by omega
            have i2 : (i : Int) < (on : Int) := by omega
            clear hC EA hxT hxo hxk r1 r2 r3 r4 r5
            go_wp2_with (first
              | refine wpList_load_mid rfl 30 _ rfl b (q + i * 9) rfl (rcA x.r x.d).toList _ HC.out Try.underlying30 rfl (by kernel_rfl) ?_
              | (go_at_call 13; refine AD.mono ?_; rintro e w6 ⟨rfl, hz1, hz2⟩))
            have FIN := Lib.hid (And.intro (TW2.out.two hz1 hz2 hF2 hne2 h02) (RO.out.but TW2.out.l2 hz2))
            clear hz1 hz2
            go_roundw
            case rel => exact ⟨i + 1, by omega, by go_num, FIN.out.1, FIN.out.2⟩
            case measure => simp [intOf]; omega
          · obtain rfl : i = on := by omega
            have t4 : decide ((i : Int) < (i : Int)) = false := decide_eq_false (by omega)
            clear hRO
            by_cases h0 : i = 0
            · have t5 : ((i : Int) == 0) = true := beq_iff_eq.2 (by omega)
              have hce : c + i = l.xs.length := by have := hon2.2.2 h0; omega
              have TW2 := Lib.hid (show Two w F g1 g2 l l wr by have h1 := TW2.out; rw [hce, ← LA.out] at h1; exact h1)
              have tq : (l.clock == l.clock) = true := beq_self_eq_true _
              clear hce h0 t3 hon2
              go_wp2_with (first
                | (go_at_call 16; first
                  | (refine (oall_any F g1 l _ TW2.out.l1).mono ?_; rintro e w6 ⟨da, rfl, hra, dn⟩; have TW2 := Lib.hid (TW2.out.below dn); have RA := Lib.hid hra; clear hra dn)
                  | (refine (oall_any F g2 l _ TW2.out.l2).mono ?_; rintro e w7 ⟨db, rfl, hra, dn⟩; have TW2 := Lib.hid (TW2.out.below dn); have RA := Lib.hid (RA.out.below dn); have RB := Lib.hid hra; clear hra dn))
                | (go_at_call 15; refine (rsame_refl da db l.xs _ RA.out RB.out).mono ?_; rintro e w8 ⟨rfl, dn⟩; have TW2 := Lib.hid (TW2.out.below dn); clear dn RA RB)
                | (go_at_call 11; first
                  | (refine (oknow_any F g1 l _ TW2.out.l1).mono ?_; rintro e w6 ⟨da, rfl, hra, _, _, dn⟩; have TW2 := Lib.hid (TW2.out.below dn); have RA := Lib.hid hra; clear hra dn)
                  | (refine (oknow_any F g2 l _ TW2.out.l2).mono ?_; rintro e w7 ⟨db, rfl, hra, _, _, dn⟩; have TW2 := Lib.hid (TW2.out.below dn); have RA := Lib.hid (RA.out.below dn); have RB := Lib.hid hra; clear hra dn))
                | (go_at_call 17; refine (vsame_refl da db l.ks _ RA.out RB.out).mono ?_; rintro e w8 ⟨rfl, dn⟩; have TW2 := Lib.hid (TW2.out.below dn); clear dn RA RB)
                | (go_at_call 18; first
                  | (refine (oclock_any F g1 l _ TW2.out.l1).mono ?_; rintro e w6 ⟨rfl, rfl⟩)
                  | (refine (oclock_any F g2 l _ TW2.out.l2).mono ?_; rintro e w6 ⟨rfl, rfl⟩)))
              go_ret
              exact ⟨rfl, TW2.out.b⟩
            · have t5 : ((i : Int) == 0) = false := beq_eq_false_iff_ne.2 (by omega)
              go_wp2_with fail
              go_roundw
              case rel => exact ⟨t + 1, c + i, by omega, by omega, by go_num, TW2.out⟩
              case measure => simp [intOf]; omega
theorem otells_row (v : Value) (xs : List OpA) (most : Int) (w : World) (h : IsOps w v xs) (h1 : -9223372036854775808 ≤ most) (h2 : most ≤ 9223372036854775807) :
    Calls Try.prog 3 #[v, .int .i64 most] w fun e w' => e = .returned (.bool true) ∧ Below w.heap.size w w' := by
  obtain ⟨a, n, c, rfl, hnc, hcb, h, hok⟩ := h
  exact otells_any a n c xs most w h hok hnc hcb ⟨h1, h2⟩
end
end Go.Proofs.Ytdihbinbkneejaa
