/- The reference's Same of lists of records; a script among the arguments. Trim of a log: what it leaves. The reference's With. -/
import Derived.Test.YtglabahbklpocaaGreatGShipPacks30
import Derived.Test.YtglabahbklpocaaGreatGShipPacks12
namespace Go.Proofs.YtglabahbklpocaaGreat
section
open Go.RowKit Go.Deep Go.ChangeShapes Go.WideShapes Go.Joins
set_option maxRecDepth 100000
set_option linter.unusedVariables false
set_option linter.unusedSimpArgs false
attribute [local go_sem ↓] Go.wp_at_zero Go.wp_at_succ
theorem recs_at {w : World} {a : Option Addr} {n : Nat} {rs : List RecA} (h : ReadsE RecA.cs 9 w a n rs) (k : Nat) (hk : k < n) : ∃ b o x, a = some ⟨b, o, none⟩ ∧ rs[k]? = some x ∧ ∀ wx, Below w.heap.size w wx → CellsAt wx b (o + k * 9) (rcA x.r x.d).toList := by
  obtain ⟨b, o, x, e, hl, hx, hC⟩ := h.at (Below.refl _ _) k hk
  exact ⟨b, o, x, e, hx, fun wx hb => hC.below hb hl⟩
theorem RecsAt.below {w w' : World} {d : Sl} {xs : List RcM} (h : RecsAt w d xs) (hb : Below w.heap.size w w') : RecsAt w' d xs := by
  obtain ⟨⟨rs, h1, h2, h3, h4, h5⟩, h6, h7⟩ := h
  exact ⟨⟨rs, h1.below hb, h2, fun x hx => ⟨⟨(h3 x hx).1.wf, (h3 x hx).1.sl.below hb⟩, (h3 x hx).2⟩, fun x hx => (h4 x hx).imp_right fun ⟨g, cur, e1, e2⟩ => ⟨g, cur, e1, (hb.block g (heap_lt e2)).trans e2⟩, h5.imp_right fun ⟨g, cur, e1, e2⟩ => ⟨g, cur, e1, (hb.block g (heap_lt e2)).trans e2⟩⟩, h6, h7⟩
/-- A list that was handed out outlasts what a log does to itself. -/
theorem RecsAt.but {w w' : World} {d : Sl} {xs : List RcM} {F : List Nat} {g : Nat} {m : LogM} (h : RecsAt w d xs) (hl : LogAt w F g m) (hb : But g w w') : RecsAt w' d xs := by
  obtain ⟨⟨rs, h1, h2, h3, h4, h5⟩, h6, h7⟩ := h
  obtain ⟨_, _, _, _, hg, _⟩ := hl
  have hti : ∀ y : Sl, TI w y → farA [g] y := fun y hy => hy.imp_right fun ⟨g', cur, e1, e2⟩ p hp hm => by
    rw [e1] at hp
    cases hp
    simp only [List.mem_singleton] at hm
    subst hm
    rw [hg] at e2
    simp only [logO, Option.some.injEq, Obj.cells.injEq] at e2
    exact absurd e2.2.1 (by decide)
  have htr : farA [g] d := h5.imp_right fun ⟨g', cur, e1, e2⟩ p hp hm => by
    rw [e1] at hp
    cases hp
    simp only [List.mem_singleton] at hm
    subst hm
    rw [hg] at e2
    simp only [logO, Option.some.injEq, Obj.cells.injEq] at e2
    exact absurd e2.2.1 (by decide)
  have hd : ∀ i, i < w.heap.size → i ∉ [g] → w'.heap[i]? = w.heap[i]? := fun i hi hn => hb.block i hi (by simp; exact fun e => hn (by simp [e]))
  have htr2 : TR w' d := by
    rcases h5 with h5 | ⟨g', cur, e1, e2⟩
    · exact .inl h5
    · rcases htr with h0 | h0
      · exact .inl h0
      · exact .inr ⟨g', cur, e1, (hd g' (heap_lt e2) (h0 _ e1)).trans e2⟩
  exact ⟨⟨rs, ReadsE.keep h1 htr hb.size hd, h2, fun x hx => ⟨⟨(h3 x hx).1.wf, (h3 x hx).1.sl.keep (hti _ (h4 x hx)) hb.size hd⟩, (h3 x hx).2⟩, fun x hx => (h4 x hx).keep (hti _ (h4 x hx)) hd, htr2⟩, h6, h7⟩
open Classical in
noncomputable def sameX (xs ys : List RcM) : Bool := decide (xs = ys)
theorem sameX_true {xs ys : List RcM} (h : xs = ys) : sameX xs ys = true := by unfold sameX; simp [h]
theorem sameX_false {xs ys : List RcM} (h : xs ≠ ys) : sameX xs ys = false := by unfold sameX; simp [h]
/-- A list of records, wherever it lies. -/
structure RecsW (w : World) (d : Sl) (xs : List RcM) : Prop where
  ex : ∃ rs : List RecA, ReadsE RecA.cs 9 w d.a d.n rs ∧ rs.map RecA.m = xs ∧ (∀ x ∈ rs, x.ok w ∧ x.d.n ≤ 8)
  nc : d.n ≤ d.c
  cm : d.c ≤ 9223372036854775807
theorem RecsAt.w {w : World} {d : Sl} {xs : List RcM} (h : RecsAt w d xs) : RecsW w d xs := by
  obtain ⟨⟨rs, h1, h2, h3, _⟩, h6, h7⟩ := h
  exact ⟨⟨rs, h1, h2, h3⟩, h6, h7⟩
theorem RecsW.below {w w' : World} {d : Sl} {xs : List RcM} (h : RecsW w d xs) (hb : Below w.heap.size w w') : RecsW w' d xs := by
  obtain ⟨⟨rs, h1, h2, h3⟩, h6, h7⟩ := h
  exact ⟨⟨rs, h1.below hb, h2, fun x hx => ⟨⟨(h3 x hx).1.wf, (h3 x hx).1.sl.below hb⟩, (h3 x hx).2⟩⟩, h6, h7⟩
set_option maxHeartbeats 4000000 in
theorem rsame17_w (d1 d2 : Sl) (xs ys : List RcM) (w : World) (h1 : RecsW w d1 xs) (h2 : RecsW w d2 ys) :
    Calls Tryz.prog 37 #[.slice d1.a d1.n d1.c, .slice d2.a d2.n d2.c] w fun e w' => e = .returned (.bool (sameX xs ys)) ∧ Below w.heap.size w w' := by
  obtain ⟨V, HV⟩ : ∃ V, Hid (V = sameX xs ys) := ⟨_, rfl⟩
  rw [← HV.out]
  obtain ⟨⟨rs, r1, r2, r3⟩, c1, m1⟩ := h1
  obtain ⟨⟨ts, t1, t2, t3⟩, c2, m2⟩ := h2
  obtain ⟨a1, n1, cc1⟩ := d1
  obtain ⟨a2, n2, cc2⟩ := d2
  simp only at r1 t1 c1 m1 c2 m2 ⊢
  have l1 : xs.length = n1 := by rw [← r2, List.length_map]; exact r1.1
  have l2 : ys.length = n2 := by rw [← t2, List.length_map]; exact t1.1
  have H1 := Lib.hid r1
  have H2 := Lib.hid t1
  have R2 := Lib.hid r2
  have T2 := Lib.hid t2
  clear r1 t1 r2 t2
  by_cases hn : n1 = n2
  · subst hn
    have t1 : ((n1 : Int) != (n1 : Int)) = false := by simp
    go_enter Tryz.func37, Tryz.ntmps37
    go_wp2_with fail
    go_loopw [5, 6] (fun i _ wr => ∃ k : Nat, k ≤ n1 ∧ i = .int .i64 k ∧ xs.take k = ys.take k ∧ Below w.heap.size w wr) (fun i _ _ => n1 - (intOf i).toNat)
    case atStart => exact ⟨0, by omega, rfl, by simp, Below.refl _ _⟩
    case round =>
      obtain ⟨k, hk, rfl, he, hb⟩ := hrel
      have HE := Lib.hid he
      clear he
      by_cases hlt : k < n1
      · have t2 : decide ((k : Int) < (n1 : Int)) = true := decide_eq_true (by omega)
        obtain ⟨b, o, x, rfl, hxk, hC⟩ := recs_at H1.out k hlt
        obtain ⟨b', o', y, rfl, hyk, hD⟩ := recs_at H2.out k hlt
        have hxo := (r3 x (List.mem_of_getElem? hxk)).1
        have hyo := (t3 y (List.mem_of_getElem? hyk)).1
        have hxx : xs[k]? = some x.m := by rw [← R2.out, List.getElem?_map, hxk]; rfl
        have hyy : ys[k]? = some y.m := by rw [← T2.out, List.getElem?_map, hyk]; rfl
        have SM := fun wx hb => samer_any x y wx (hxo.below (w' := wx) hb) (hyo.below hb)
        change ∀ wx, Below w.heap.size w wx → Calls Tryz.prog _ #[.agg (rcA x.r x.d), .agg (rcA y.r y.d)] wx _ at SM
        have i1 : (0 : Int) ≤ (k : Int) := by omega
        have i2 : (k : Int) < (n1 : Int) := by omega
        have KK : Hid (Kn w.heap.size w [] wr) := ⟨by simp, hb, hb.size⟩
        have HC := Lib.hid hC
        have HD := Lib.hid hD
        have hsm : sameR x y = true ↔ x.m = y.m := by unfold sameR RecA.m; simp only [decide_eq_true_eq, Prod.mk.injEq]
        obtain ⟨B, hB⟩ : ∃ B, sameR x y = B := ⟨_, rfl⟩
        rw [hB] at SM
        rw [hB] at hsm
        clear hC hD hB hxo hyo hb
        cases B
        · have hne : x.m ≠ y.m := fun e => by have := hsm.2 e; cases this
          have HV := Lib.hid (HV.out.trans (sameX_false (fun e => hne (by rw [e, hyy] at hxx; exact (Option.some.inj hxx).symm))))
          clear hne hsm hxx hyy
          go_upto_region 6 with fail
          refine wp_region_held_drew (S := (fun wx => CellsAt wx b (o + k * 9) (rcA x.r x.d).toList ∧ CellsAt wx b' (o' + k * 9) (rcA y.r y.d).toList)) (by kernel_rfl) ?_ (fun hHeld => ?_)
          focus ((try dsimp only); (try (exact ⟨HC.out _ (Kn.same KK.out (by rfl) (by rfl) (by rfl) (by rfl)).b, HD.out _ (Kn.same KK.out (by rfl) (by rfl) (by rfl) (by rfl)).b⟩)); done)
          (refine wpAnyH_take (i := 0) (oi := ⟨some 18, Go.Op.move (.tmp 0), 22, _, _, none⟩) (v := ?_) rfl (by kernel_rfl) (by kernel_rfl) (by kernel_rfl) (fun _ _ _ h => h) (Or.inl ⟨by rfl, ?_⟩) (by assumption) ?_; rotate_left; (focus (intro w hSw; ((try dsimp only at hSw); go_simp; try with_reducible rfl))); (try simp only [Act.put, sA, sZ, sS]))
          (refine wpAnyH_take (i := 1) (oi := ⟨some 19, Go.Op.move (.tmp 5), 3, _, _, none⟩) (v := ?_) rfl (by kernel_rfl) (by kernel_rfl) (by kernel_rfl) (fun _ _ _ h => h) (Or.inl ⟨by rfl, ?_⟩) (by assumption) ?_; rotate_left; (focus (intro w hSw; ((try dsimp only at hSw); go_simp; try with_reducible rfl))); (try simp only [Act.put, sA, sZ, sS]))
          (refine wpAnyH_take (i := 2) (oi := ⟨some 20, Go.Op.indexAddr 22 (.tmp 18) (.tmp 19), 0, _, _, none⟩) (v := ?_) rfl (by kernel_rfl) (by kernel_rfl) (by kernel_rfl) (fun _ _ _ h => h) (Or.inl ⟨by rfl, ?_⟩) (by assumption) ?_; rotate_left; (focus (intro w hSw; ((try dsimp only at hSw); go_simp; try with_reducible rfl))); (try simp only [Act.put, sA, sZ, sS]))
          (refine wpAnyH_take (i := 3) (oi := ⟨some 21, Go.Op.load 60 (.tmp 20), 60, _, _, none⟩) (v := ?_) rfl (by kernel_rfl) (by kernel_rfl) (by kernel_rfl) (fun _ _ _ h => h) (Or.inl ⟨by rfl, ?_⟩) (by assumption) ?_; rotate_left; (focus (intro w hSw; (first | (first | (refine Eq.trans (exec_load_mid 60 _ (by rfl) b (o + k * 9) (by rfl) (rcA x.r x.d).toList _ hSw.1 Tryz.underlying60 rfl (by kernel_rfl)) ?_; with_reducible rfl) | (refine Eq.trans (exec_load_mid 60 _ (by rfl) b' (o' + k * 9) (by rfl) (rcA y.r y.d).toList _ hSw.2 Tryz.underlying60 rfl (by kernel_rfl)) ?_; with_reducible rfl); done) | ((try dsimp only at hSw); go_simp; try with_reducible rfl)))); (try simp only [Act.put, sA, sZ, sS]))
          (refine wpAnyH_take (i := 4) (oi := ⟨some 22, Go.Op.move (.tmp 1), 22, _, _, none⟩) (v := ?_) rfl (by kernel_rfl) (by kernel_rfl) (by kernel_rfl) (fun _ _ _ h => h) (Or.inl ⟨by rfl, ?_⟩) (by assumption) ?_; rotate_left; (focus (intro w hSw; ((try dsimp only at hSw); go_simp; try with_reducible rfl))); (try simp only [Act.put, sA, sZ, sS]))
          (refine wpAnyH_take (i := 5) (oi := ⟨some 23, Go.Op.move (.tmp 5), 3, _, _, none⟩) (v := ?_) rfl (by kernel_rfl) (by kernel_rfl) (by kernel_rfl) (fun _ _ _ h => h) (Or.inl ⟨by rfl, ?_⟩) (by assumption) ?_; rotate_left; (focus (intro w hSw; ((try dsimp only at hSw); go_simp; try with_reducible rfl))); (try simp only [Act.put, sA, sZ, sS]))
          (refine wpAnyH_take (i := 6) (oi := ⟨some 24, Go.Op.indexAddr 22 (.tmp 22) (.tmp 23), 0, _, _, none⟩) (v := ?_) rfl (by kernel_rfl) (by kernel_rfl) (by kernel_rfl) (fun _ _ _ h => h) (Or.inl ⟨by rfl, ?_⟩) (by assumption) ?_; rotate_left; (focus (intro w hSw; ((try dsimp only at hSw); go_simp; try with_reducible rfl))); (try simp only [Act.put, sA, sZ, sS]))
          (refine wpAnyH_take (i := 7) (oi := ⟨some 25, Go.Op.load 60 (.tmp 24), 60, _, _, none⟩) (v := ?_) rfl (by kernel_rfl) (by kernel_rfl) (by kernel_rfl) (fun _ _ _ h => h) (Or.inl ⟨by rfl, ?_⟩) (by assumption) ?_; rotate_left; (focus (intro w hSw; (first | (first | (refine Eq.trans (exec_load_mid 60 _ (by rfl) b (o + k * 9) (by rfl) (rcA x.r x.d).toList _ hSw.1 Tryz.underlying60 rfl (by kernel_rfl)) ?_; with_reducible rfl) | (refine Eq.trans (exec_load_mid 60 _ (by rfl) b' (o' + k * 9) (by rfl) (rcA y.r y.d).toList _ hSw.2 Tryz.underlying60 rfl (by kernel_rfl)) ?_; with_reducible rfl); done) | ((try dsimp only at hSw); go_simp; try with_reducible rfl)))); (try simp only [Act.put, sA, sZ, sS]))
          (refine wpAnyH_ready (rs := [8]) (by kernel_rfl) (by simp) ?_; refine AllReadyH.cons (o := ⟨some 26, Go.Op.call { callee := Go.Callee.value (.func 98), args := #[.tmp 21, .tmp 25], argTypes := #[60, 60] }, 4, _, _, none⟩) rfl (fun K hK => ?_) AllReadyH.nil; go_simp; ((first | (go_at_call 98; refine (SM _ (Kn.same KK.out (by rfl) (by rfl) (by rfl) (by rfl)).b).mono ?_; rintro e wn ⟨rfl, dn⟩; have KK := Lib.hid (Kn.later KK.out dn rfl rfl rfl rfl)))); go_wp2_with fail; refine hK.out _ _ ?_ (fun hHeld => ?_); (focus ((try dsimp only); (try (exact ⟨HC.out _ (Kn.same KK.out (by rfl) (by rfl) (by rfl) (by rfl)).b, HD.out _ (Kn.same KK.out (by rfl) (by rfl) (by rfl) (by rfl)).b⟩)); done)); clear hK; (try simp only [Act.put, sA, sZ, sS]))
          (refine wpAnyH_take (i := 9) (oi := ⟨some 6, Go.Op.assign (.tmp 26), 4, _, _, none⟩) (v := ?_) rfl (by kernel_rfl) (by kernel_rfl) (by kernel_rfl) (fun _ _ _ h => h) (Or.inl ⟨by rfl, ?_⟩) (by assumption) ?_; rotate_left; (focus (intro w hSw; ((try dsimp only at hSw); go_simp; try with_reducible rfl))); (try simp only [Act.put, sA, sZ, sS]))
          refine wpAnyH_done (by kernel_rfl) ?_ _
          skip
          go_wp2_with fail
          go_ret
          exact ⟨by rw [HV.out]; rfl, (Kn.same KK.out rfl rfl rfl rfl).b⟩
        · have heq : x.m = y.m := hsm.1 rfl
          have hs : Hid (xs.take (k + 1) = ys.take (k + 1)) := by
            show _ = _
            rw [List.take_add_one, List.take_add_one, HE.out, hxx, hyy, heq]
          clear heq hsm hxx hyy
          go_upto_region 6 with fail
          refine wp_region_held_drew (S := (fun wx => CellsAt wx b (o + k * 9) (rcA x.r x.d).toList ∧ CellsAt wx b' (o' + k * 9) (rcA y.r y.d).toList)) (by kernel_rfl) ?_ (fun hHeld => ?_)
          focus ((try dsimp only); (try (exact ⟨HC.out _ (Kn.same KK.out (by rfl) (by rfl) (by rfl) (by rfl)).b, HD.out _ (Kn.same KK.out (by rfl) (by rfl) (by rfl) (by rfl)).b⟩)); done)
          (refine wpAnyH_take (i := 0) (oi := ⟨some 18, Go.Op.move (.tmp 0), 22, _, _, none⟩) (v := ?_) rfl (by kernel_rfl) (by kernel_rfl) (by kernel_rfl) (fun _ _ _ h => h) (Or.inl ⟨by rfl, ?_⟩) (by assumption) ?_; rotate_left; (focus (intro w hSw; ((try dsimp only at hSw); go_simp; try with_reducible rfl))); (try simp only [Act.put, sA, sZ, sS]))
          (refine wpAnyH_take (i := 1) (oi := ⟨some 19, Go.Op.move (.tmp 5), 3, _, _, none⟩) (v := ?_) rfl (by kernel_rfl) (by kernel_rfl) (by kernel_rfl) (fun _ _ _ h => h) (Or.inl ⟨by rfl, ?_⟩) (by assumption) ?_; rotate_left; (focus (intro w hSw; ((try dsimp only at hSw); go_simp; try with_reducible rfl))); (try simp only [Act.put, sA, sZ, sS]))
          (refine wpAnyH_take (i := 2) (oi := ⟨some 20, Go.Op.indexAddr 22 (.tmp 18) (.tmp 19), 0, _, _, none⟩) (v := ?_) rfl (by kernel_rfl) (by kernel_rfl) (by kernel_rfl) (fun _ _ _ h => h) (Or.inl ⟨by rfl, ?_⟩) (by assumption) ?_; rotate_left; (focus (intro w hSw; ((try dsimp only at hSw); go_simp; try with_reducible rfl))); (try simp only [Act.put, sA, sZ, sS]))
          (refine wpAnyH_take (i := 3) (oi := ⟨some 21, Go.Op.load 60 (.tmp 20), 60, _, _, none⟩) (v := ?_) rfl (by kernel_rfl) (by kernel_rfl) (by kernel_rfl) (fun _ _ _ h => h) (Or.inl ⟨by rfl, ?_⟩) (by assumption) ?_; rotate_left; (focus (intro w hSw; (first | (first | (refine Eq.trans (exec_load_mid 60 _ (by rfl) b (o + k * 9) (by rfl) (rcA x.r x.d).toList _ hSw.1 Tryz.underlying60 rfl (by kernel_rfl)) ?_; with_reducible rfl) | (refine Eq.trans (exec_load_mid 60 _ (by rfl) b' (o' + k * 9) (by rfl) (rcA y.r y.d).toList _ hSw.2 Tryz.underlying60 rfl (by kernel_rfl)) ?_; with_reducible rfl); done) | ((try dsimp only at hSw); go_simp; try with_reducible rfl)))); (try simp only [Act.put, sA, sZ, sS]))
          (refine wpAnyH_take (i := 4) (oi := ⟨some 22, Go.Op.move (.tmp 1), 22, _, _, none⟩) (v := ?_) rfl (by kernel_rfl) (by kernel_rfl) (by kernel_rfl) (fun _ _ _ h => h) (Or.inl ⟨by rfl, ?_⟩) (by assumption) ?_; rotate_left; (focus (intro w hSw; ((try dsimp only at hSw); go_simp; try with_reducible rfl))); (try simp only [Act.put, sA, sZ, sS]))
          (refine wpAnyH_take (i := 5) (oi := ⟨some 23, Go.Op.move (.tmp 5), 3, _, _, none⟩) (v := ?_) rfl (by kernel_rfl) (by kernel_rfl) (by kernel_rfl) (fun _ _ _ h => h) (Or.inl ⟨by rfl, ?_⟩) (by assumption) ?_; rotate_left; (focus (intro w hSw; ((try dsimp only at hSw); go_simp; try with_reducible rfl))); (try simp only [Act.put, sA, sZ, sS]))
          (refine wpAnyH_take (i := 6) (oi := ⟨some 24, Go.Op.indexAddr 22 (.tmp 22) (.tmp 23), 0, _, _, none⟩) (v := ?_) rfl (by kernel_rfl) (by kernel_rfl) (by kernel_rfl) (fun _ _ _ h => h) (Or.inl ⟨by rfl, ?_⟩) (by assumption) ?_; rotate_left; (focus (intro w hSw; ((try dsimp only at hSw); go_simp; try with_reducible rfl))); (try simp only [Act.put, sA, sZ, sS]))
          (refine wpAnyH_take (i := 7) (oi := ⟨some 25, Go.Op.load 60 (.tmp 24), 60, _, _, none⟩) (v := ?_) rfl (by kernel_rfl) (by kernel_rfl) (by kernel_rfl) (fun _ _ _ h => h) (Or.inl ⟨by rfl, ?_⟩) (by assumption) ?_; rotate_left; (focus (intro w hSw; (first | (first | (refine Eq.trans (exec_load_mid 60 _ (by rfl) b (o + k * 9) (by rfl) (rcA x.r x.d).toList _ hSw.1 Tryz.underlying60 rfl (by kernel_rfl)) ?_; with_reducible rfl) | (refine Eq.trans (exec_load_mid 60 _ (by rfl) b' (o' + k * 9) (by rfl) (rcA y.r y.d).toList _ hSw.2 Tryz.underlying60 rfl (by kernel_rfl)) ?_; with_reducible rfl); done) | ((try dsimp only at hSw); go_simp; try with_reducible rfl)))); (try simp only [Act.put, sA, sZ, sS]))
          (refine wpAnyH_ready (rs := [8]) (by kernel_rfl) (by simp) ?_; refine AllReadyH.cons (o := ⟨some 26, Go.Op.call { callee := Go.Callee.value (.func 98), args := #[.tmp 21, .tmp 25], argTypes := #[60, 60] }, 4, _, _, none⟩) rfl (fun K hK => ?_) AllReadyH.nil; go_simp; ((first | (go_at_call 98; refine (SM _ (Kn.same KK.out (by rfl) (by rfl) (by rfl) (by rfl)).b).mono ?_; rintro e wn ⟨rfl, dn⟩; have KK := Lib.hid (Kn.later KK.out dn rfl rfl rfl rfl)))); go_wp2_with fail; refine hK.out _ _ ?_ (fun hHeld => ?_); (focus ((try dsimp only); (try (exact ⟨HC.out _ (Kn.same KK.out (by rfl) (by rfl) (by rfl) (by rfl)).b, HD.out _ (Kn.same KK.out (by rfl) (by rfl) (by rfl) (by rfl)).b⟩)); done)); clear hK; (try simp only [Act.put, sA, sZ, sS]))
          (refine wpAnyH_take (i := 9) (oi := ⟨some 6, Go.Op.assign (.tmp 26), 4, _, _, none⟩) (v := ?_) rfl (by kernel_rfl) (by kernel_rfl) (by kernel_rfl) (fun _ _ _ h => h) (Or.inl ⟨by rfl, ?_⟩) (by assumption) ?_; rotate_left; (focus (intro w hSw; ((try dsimp only at hSw); go_simp; try with_reducible rfl))); (try simp only [Act.put, sA, sZ, sS]))
          refine wpAnyH_done (by kernel_rfl) ?_ _
          skip
          go_wp2_with fail
          go_roundw
          case rel => exact ⟨k + 1, by omega, by go_num, hs.out, (Kn.same KK.out rfl rfl rfl rfl).b⟩
          case measure => simp [intOf]; omega
      · obtain rfl : k = n1 := by omega
        have t2 : decide ((k : Int) < (k : Int)) = false := decide_eq_false (by omega)
        have HV := Lib.hid (HV.out.trans (sameX_true (by have := HE.out; rwa [List.take_of_length_le (by omega), List.take_of_length_le (by omega)] at this)))
        go_wp2_with fail
        go_ret
        exact ⟨by rw [HV.out]; rfl, hb⟩
  · have t1 : ((n1 : Int) != (n2 : Int)) = true := bne_iff_ne.2 (by omega)
    have HV := Lib.hid (HV.out.trans (sameX_false (fun e => hn (by rw [← l1, ← l2, e]))))
    go_enter Tryz.func37, Tryz.ntmps37
    go_wp2_with fail
    go_ret
    exact ⟨by rw [HV.out]; rfl, Below.refl _ _⟩
/-- A call of a script. -/
structure OpA where
  kind : Int
  most : Int
  fits : Bool
  x : RecA
  v : Sl
  vs : List Int
def OpA.cs (o : OpA) : List Value := [.int .i64 o.kind, .int .i64 o.most, .bool o.fits] ++ (rcA o.x.r o.x.d).toList ++ [.slice o.v.a o.v.n o.v.c]
structure OpA.ok (w : World) (o : OpA) : Prop where
  kind : i64' o.kind
  most : i64' o.most
  rec_ : o.x.ok w
  v : SlR w o.v o.vs
end
end Go.Proofs.YtglabahbklpocaaGreat
namespace Go.Proofs.YtglabahbklpocaaGreat
section
open Go.RowKit Go.Deep
set_option maxRecDepth 100000
set_option linter.unusedVariables false
set_option linter.unusedSimpArgs false
attribute [local go_sem ↓] Go.wp_at_zero Go.wp_at_succ
theorem kAll_len (ks : List Int) (h : ks.length ≤ 8) (xs : List RcM) : (kAll ks xs).length ≤ 8 := by
  unfold kAll
  induction xs generalizing ks with
  | nil => exact h
  | cons x r ih => exact ih _ (withV_len _ _ _)
theorem rc_mid {w : World} {b o : Nat} {r : Rc} {d : Sl} (h : CellsAt w b o (rcA r d).toList) : w.cell? ⟨b, o + 5 + 1, none⟩ = some (.int .i64 r.st.site) ∧ w.cell? ⟨b, o + 5 + 2, none⟩ = some (.int .i64 r.st.seq) :=
  ⟨h 6 _ rfl, h 7 _ rfl⟩
end
end Go.Proofs.YtglabahbklpocaaGreat
namespace Go.Proofs.YtglabahbklpocaaGreat
section
open Go.RowKit
set_option maxRecDepth 100000
set_option linter.unusedVariables false
set_option linter.unusedSimpArgs false
theorem upto_with (f : Nat → Int) (s : Nat) (hs : s < 8) (v : Int) : (upto f 8).set s v = upto (fun i => if (i : Int) = (s : Int) then v else f i) 8 := by
  rw [upto_eight, upto_eight]
  apply List.ext_getElem?
  intro i
  rw [List.getElem?_set]
  simp only [List.length_map, List.length_range, List.getElem?_map]
  by_cases hk : s = i
  · subst hk; simp [hs]
  · rw [if_neg hk]
    by_cases h8 : i < 8
    · simp [h8, show ¬ (i : Int) = (s : Int) by omega]
    · simp [h8]
set_option maxHeartbeats 4000000 in
theorem rwith_any (a : Option Addr) (n c : Nat) (xs : List Int) (site v : Int) (w : World) (h : ReadsI .i64 w a n xs) (hnc : n ≤ c) (hcb : c ≤ 9223372036854775807) :
    Calls Tryz.prog 87 #[.slice a n c, .int .i64 site, .int .i64 v] w fun e w' => ∃ a' cap', e = .returned (.slice a' (withV xs site v).length cap') ∧ (withV xs site v).length ≤ cap' ∧ cap' ≤ 9223372036854775807 ∧ VecAt w' w.heap.size a' (withV xs site v) ∧ Below w.heap.size w w' := by
  obtain ⟨V, HV⟩ : ∃ V, Hid (V = withV xs site v) := ⟨_, rfl⟩
  rw [← HV.out]
  go_enter Tryz.func87, Tryz.ntmps87
  go_wp2_with fail
  refine (rall_any a n c xs w h hnc hcb).mono ?_
  rintro e w1 ⟨rfl, hbw1⟩
  have hX1 : ArrAt (w1.alloc (.cells (arrI (upto (nm xs) 8)) 121)) 121 w1.heap.size (upto (nm xs) 8) := heap_alloc_new w1 _
  have hb1 : Below w.heap.size w (w1.alloc (.cells (arrI (upto (nm xs) 8)) 121)) := hbw1.alloc hbw1.size _
  have hg : w.heap.size ≤ w1.heap.size := hbw1.size
  by_cases hin : 0 ≤ site ∧ site ≤ 7
  · obtain ⟨s, rfl⟩ : ∃ s : Nat, site = s := ⟨site.toNat, by omega⟩
    have t1 : decide (0 ≤ (s : Int)) = true := decide_eq_true hin.1
    have t2 : decide ((s : Int) ≤ 7) = true := decide_eq_true hin.2
    have i1 : (0 : Int) ≤ (s : Int) := by omega
    have i2 : (s : Int) < 8 := by omega
    have HU := Lib.hid (upto_with (nm xs) s (by omega) (cl v))
    have hel : (arrI (upto (nm [v]) 8))[0]? = some (.int .i64 (cl v)) := by
      rw [arrI_get _ _ (by rw [upto_length]; omega), upto_eight]
      rfl
    have hix := run_index_arr (P := Tryz.prog) Tryz.underlying121 Tryz.sizeOf3 Tryz.isAgg3 _ 0 _ (by omega) hel
    have hix0 : ∀ w : World, (Instr.index 121 (.agg (arrI (upto (nm [v]) 8))) (.int .i64 0)).run Tryz.prog w = .ok (.int .i64 (cl v)) w := hix
    clear hix hel
    go_wp2_with (refine wpList_store_row rfl 121 _ _ rfl w1.heap.size (arrI (upto (nm xs) 8)) rfl rfl 121 _ (heap_alloc_new w1 _) (size8 _ _) (by rw [arrI_size, upto_length]; rfl) (arrI_one _) ?_)
    rw [World.setRow_alloc_new]
    have hsz2 : (w1.alloc (.cells (arrI (upto (nm xs) 8)) 121)).heap.size = w1.heap.size + 1 := by simp
    generalize w1.alloc (.cells (arrI (upto (nm xs) 8)) 121) = w2 at *
    have hrd : ReadsI .i64 (w2.alloc (.cells #[.int .i64 v] 3)) (some ⟨w1.heap.size + 1, 0, none⟩) 1 [v] := by
      rw [← hsz2]
      exact reads_new .i64 w2 [v] 3
    refine (rall_any (some ⟨w1.heap.size + 1, 0, none⟩) 1 1 [v] _ hrd (by omega) (by omega)).mono ?_
    rintro e w3 ⟨rfl, hbw3⟩
    have HA8 : Hid (arr8 (nm [v]) = .agg (arrI (upto (nm [v]) 8))) := rfl
    rw [HA8.out]
    have hb2 : Below w2.heap.size w2 w3 := below_then ((Below.refl _ _).alloc (Nat.le_refl _) _) (by simp) hbw3
    have hX3 := hX1.below hb2
    have hb3 := below_then hb1 hb1.size hb2
    have hcl := hX3.cell s (by rw [upto_length]; omega)
    have hfz := hX3.fz s
    have HX := Lib.hid (hX3.set s (cl v))
    have HB := Lib.hid hb3
    clear hX1 hb1 hbw3 hb2 hX3 hb3 hbw1 hrd hsz2
    generalize w1.heap.size = g at *
    generalize arrI (upto (nm [v]) 8) = c8 at *
    generalize (upto (nm xs) 8).getD s 0 = z at *
    rw [HU.out] at HX
    have hf : ∀ i : Nat, 0 ≤ (fun i : Nat => if (i : Int) = (s : Int) then cl v else nm xs i) i := fun i => by
      show 0 ≤ if (i : Int) = (s : Int) then cl v else nm xs i
      split
      · exact (cl_range v).1
      · exact (nm_range xs i).1
    have HF := Lib.hid hf
    have HV2 : Hid (V = vec fun i : Nat => if (i : Int) = (s : Int) then cl v else nm xs i) := HV.out
    clear HV hf
    generalize (fun i : Nat => if (i : Int) = (s : Int) then cl v else nm xs i) = F at *
    generalize cl v = y at *
    have HB2 : Hid (Below w.heap.size w (w3.setCell ⟨g, s, none⟩ (.int .i64 y))) := HB.out.setCell (p := ⟨g, s, none⟩) hg _
    go_wp2_with (refine wpList_load_row rfl 121 _ rfl g rfl 121 (arrI (upto F 8)) (0, 0) _ HX.out Tryz.underlying121 rfl (size8 _ _) ?_)
    refine (rvec_any F _ HF.out).mono ?_
    rintro e w5 ⟨a', cap', rfl, hl, hm, hv, hb5⟩
    rw [← HV2.out] at hl hv ⊢
    go_wp2
    go_ret
    exact ⟨a', cap', rfl, hl, hm, hv.mono HB2.out.size, below_then HB2.out HB2.out.size hb5⟩
  · have HV2 : Hid (V = vec (nm xs)) := by
      show _ = _
      rw [HV.out]
      exact withV_out xs site v (by omega)
    have HX := Lib.hid hX1
    have HB := Lib.hid hb1
    by_cases h0 : 0 ≤ site
    · have t1 : decide (0 ≤ site) = true := decide_eq_true h0
      have t2 : decide (site ≤ 7) = false := decide_eq_false (by omega)
      clear hX1 hb1 hin
      go_wp2_with (first
        | refine wpList_store_row rfl 121 _ _ rfl w1.heap.size (arrI (upto (nm xs) 8)) rfl rfl 121 _ (heap_alloc_new w1 _) (size8 _ _) (by rw [arrI_size, upto_length]; rfl) (arrI_one _) ?_
        | refine wpList_load_row rfl 121 _ rfl w1.heap.size rfl 121 (arrI (upto (nm xs) 8)) (0, 0) _ (by rw [World.setRow_alloc_new]; exact HX.out) Tryz.underlying121 rfl (size8 _ _) ?_)
      rw [World.setRow_alloc_new]
      refine (rvec_any (nm xs) _ (fun i => (nm_range xs i).1)).mono ?_
      rintro e w5 ⟨a', cap', rfl, hl, hm, hv, hb5⟩
      rw [← HV2.out] at hl hv ⊢
      go_wp2
      go_ret
      exact ⟨a', cap', rfl, hl, hm, hv.mono HB.out.size, below_then HB.out HB.out.size hb5⟩
    · have t1 : decide (0 ≤ site) = false := decide_eq_false h0
      clear hX1 hb1 hin
      go_wp2_with (first
        | refine wpList_store_row rfl 121 _ _ rfl w1.heap.size (arrI (upto (nm xs) 8)) rfl rfl 121 _ (heap_alloc_new w1 _) (size8 _ _) (by rw [arrI_size, upto_length]; rfl) (arrI_one _) ?_
        | refine wpList_load_row rfl 121 _ rfl w1.heap.size rfl 121 (arrI (upto (nm xs) 8)) (0, 0) _ (by rw [World.setRow_alloc_new]; exact HX.out) Tryz.underlying121 rfl (size8 _ _) ?_)
      rw [World.setRow_alloc_new]
      refine (rvec_any (nm xs) _ (fun i => (nm_range xs i).1)).mono ?_
      rintro e w5 ⟨a', cap', rfl, hl, hm, hv, hb5⟩
      rw [← HV2.out] at hl hv ⊢
      go_wp2
      go_ret
      exact ⟨a', cap', rfl, hl, hm, hv.mono HB.out.size, below_then HB.out HB.out.size hb5⟩
end
end Go.Proofs.YtglabahbklpocaaGreat
