/- The reference's Same of lists of records; a script among the arguments. The reference's Same of messages that tell the same. What is written is read again: messages of all kinds. -/
import Derived.Test.YtglabahbklpocaaGreatGShipReads41
import Derived.Test.YtglabahbklpocaaGreatGShipReads29
namespace Go.Proofs.YtglabahbklpocaaGreat
section
open Go.RowKit Go.Deep Go.ChangeShapes Go.WideShapes Go.Joins
set_option maxRecDepth 100000
set_option linter.unusedVariables false
set_option linter.unusedSimpArgs false
attribute [local go_sem ↓] Go.wp_at_zero Go.wp_at_succ
theorem recs_at {w : World} {a : Option Addr} {n : Nat} {rs : List RecA} (h : ReadsE RecA.cs 9 w a n rs) (k : Nat) (hk : k < n) : ∃ b o x, a = some ⟨b, o, none⟩ ∧ rs[k]? = some x ∧ ∀ wx, Below w.heap.size w wx → CellsAt wx b (o + k * 9) (rcA x.r x.d).toList := by
  obtain ⟨b, o, x, e, hl, hx, hC⟩ := h.at (Below.refl _ _) k hk
  exact ⟨b, o, x, e, hx, fun wx hb => hC.below hb hl⟩
theorem RecsAt.below {w w' : World} {d : Sl} {xs : List RcM} (h : RecsAt w d xs) (hb : Below w.heap.size w w') : RecsAt w' d xs := by
  obtain ⟨⟨rs, h1, h2, h3, h4, h5⟩, h6, h7⟩ := h
  exact ⟨⟨rs, h1.below hb, h2, fun x hx => ⟨⟨(h3 x hx).1.wf, (h3 x hx).1.sl.below hb⟩, (h3 x hx).2⟩, fun x hx => (h4 x hx).imp_right fun ⟨g, cur, e1, e2⟩ => ⟨g, cur, e1, (hb.block g (heap_lt e2)).trans e2⟩, h5.imp_right fun ⟨g, cur, e1, e2⟩ => ⟨g, cur, e1, (hb.block g (heap_lt e2)).trans e2⟩⟩, h6, h7⟩
/-- A list that was handed out outlasts what a log does to itself. -/
theorem RecsAt.but {w w' : World} {d : Sl} {xs : List RcM} {F : List Nat} {g : Nat} {m : LogM} (h : RecsAt w d xs) (hl : LogAt w F g m) (hb : But g w w') : RecsAt w' d xs := by
  obtain ⟨⟨rs, h1, h2, h3, h4, h5⟩, h6, h7⟩ := h
  obtain ⟨_, _, _, _, hg, _⟩ := hl
  have hti : ∀ y : Sl, TI w y → farA [g] y := fun y hy => hy.imp_right fun ⟨g', cur, e1, e2⟩ p hp hm => by
    rw [e1] at hp
    cases hp
    simp only [List.mem_singleton] at hm
    subst hm
    rw [hg] at e2
    simp only [logO, Option.some.injEq, Obj.cells.injEq] at e2
    exact absurd e2.2.1 (by decide)
  have htr : farA [g] d := h5.imp_right fun ⟨g', cur, e1, e2⟩ p hp hm => by
    rw [e1] at hp
    cases hp
    simp only [List.mem_singleton] at hm
    subst hm
    rw [hg] at e2
    simp only [logO, Option.some.injEq, Obj.cells.injEq] at e2
    exact absurd e2.2.1 (by decide)
  have hd : ∀ i, i < w.heap.size → i ∉ [g] → w'.heap[i]? = w.heap[i]? := fun i hi hn => hb.block i hi (by simp; exact fun e => hn (by simp [e]))
  have htr2 : TR w' d := by
    rcases h5 with h5 | ⟨g', cur, e1, e2⟩
    · exact .inl h5
    · rcases htr with h0 | h0
      · exact .inl h0
      · exact .inr ⟨g', cur, e1, (hd g' (heap_lt e2) (h0 _ e1)).trans e2⟩
  exact ⟨⟨rs, ReadsE.keep h1 htr hb.size hd, h2, fun x hx => ⟨⟨(h3 x hx).1.wf, (h3 x hx).1.sl.keep (hti _ (h4 x hx)) hb.size hd⟩, (h3 x hx).2⟩, fun x hx => (h4 x hx).keep (hti _ (h4 x hx)) hd, htr2⟩, h6, h7⟩
open Classical in
noncomputable def sameX (xs ys : List RcM) : Bool := decide (xs = ys)
theorem sameX_true {xs ys : List RcM} (h : xs = ys) : sameX xs ys = true := by unfold sameX; simp [h]
theorem sameX_false {xs ys : List RcM} (h : xs ≠ ys) : sameX xs ys = false := by unfold sameX; simp [h]
/-- A list of records, wherever it lies. -/
structure RecsW (w : World) (d : Sl) (xs : List RcM) : Prop where
  ex : ∃ rs : List RecA, ReadsE RecA.cs 9 w d.a d.n rs ∧ rs.map RecA.m = xs ∧ (∀ x ∈ rs, x.ok w ∧ x.d.n ≤ 8)
  nc : d.n ≤ d.c
  cm : d.c ≤ 9223372036854775807
theorem RecsAt.w {w : World} {d : Sl} {xs : List RcM} (h : RecsAt w d xs) : RecsW w d xs := by
  obtain ⟨⟨rs, h1, h2, h3, _⟩, h6, h7⟩ := h
  exact ⟨⟨rs, h1, h2, h3⟩, h6, h7⟩
theorem RecsW.below {w w' : World} {d : Sl} {xs : List RcM} (h : RecsW w d xs) (hb : Below w.heap.size w w') : RecsW w' d xs := by
  obtain ⟨⟨rs, h1, h2, h3⟩, h6, h7⟩ := h
  exact ⟨⟨rs, h1.below hb, h2, fun x hx => ⟨⟨(h3 x hx).1.wf, (h3 x hx).1.sl.below hb⟩, (h3 x hx).2⟩⟩, h6, h7⟩
set_option maxHeartbeats 4000000 in
theorem rsame17_w (d1 d2 : Sl) (xs ys : List RcM) (w : World) (h1 : RecsW w d1 xs) (h2 : RecsW w d2 ys) :
    Calls Tryz.prog 37 #[.slice d1.a d1.n d1.c, .slice d2.a d2.n d2.c] w fun e w' => e = .returned (.bool (sameX xs ys)) ∧ Below w.heap.size w w' := by
  obtain ⟨V, HV⟩ : ∃ V, Hid (V = sameX xs ys) := ⟨_, rfl⟩
  rw [← HV.out]
  obtain ⟨⟨rs, r1, r2, r3⟩, c1, m1⟩ := h1
  obtain ⟨⟨ts, t1, t2, t3⟩, c2, m2⟩ := h2
  obtain ⟨a1, n1, cc1⟩ := d1
  obtain ⟨a2, n2, cc2⟩ := d2
  simp only at r1 t1 c1 m1 c2 m2 ⊢
  have l1 : xs.length = n1 := by rw [← r2, List.length_map]; exact r1.1
  have l2 : ys.length = n2 := by rw [← t2, List.length_map]; exact t1.1
  have H1 := Lib.hid r1
  have H2 := Lib.hid t1
  have R2 := Lib.hid r2
  have T2 := Lib.hid t2
  clear r1 t1 r2 t2
  by_cases hn : n1 = n2
  · subst hn
    have t1 : ((n1 : Int) != (n1 : Int)) = false := by simp
    go_enter Tryz.func37, Tryz.ntmps37
    go_wp2_with fail
    go_loopw [5, 6] (fun i _ wr => ∃ k : Nat, k ≤ n1 ∧ i = .int .i64 k ∧ xs.take k = ys.take k ∧ Below w.heap.size w wr) (fun i _ _ => n1 - (intOf i).toNat)
    case atStart => exact ⟨0, by omega, rfl, by simp, Below.refl _ _⟩
    case round =>
      obtain ⟨k, hk, rfl, he, hb⟩ := hrel
      have HE := Lib.hid he
      clear he
      by_cases hlt : k < n1
      · have t2 : decide ((k : Int) < (n1 : Int)) = true := decide_eq_true (by omega)
        obtain ⟨b, o, x, rfl, hxk, hC⟩ := recs_at H1.out k hlt
        obtain ⟨b', o', y, rfl, hyk, hD⟩ := recs_at H2.out k hlt
        have hxo := (r3 x (List.mem_of_getElem? hxk)).1
        have hyo := (t3 y (List.mem_of_getElem? hyk)).1
        have hxx : xs[k]? = some x.m := by rw [← R2.out, List.getElem?_map, hxk]; rfl
        have hyy : ys[k]? = some y.m := by rw [← T2.out, List.getElem?_map, hyk]; rfl
        have SM := fun wx hb => samer_any x y wx (hxo.below (w' := wx) hb) (hyo.below hb)
        change ∀ wx, Below w.heap.size w wx → Calls Tryz.prog _ #[.agg (rcA x.r x.d), .agg (rcA y.r y.d)] wx _ at SM
        have i1 : (0 : Int) ≤ (k : Int) := by omega
        have i2 : (k : Int) < (n1 : Int) := by omega
        have KK : Hid (Kn w.heap.size w [] wr) := ⟨by simp, hb, hb.size⟩
        have HC := Lib.hid hC
        have HD := Lib.hid hD
        have hsm : sameR x y = true ↔ x.m = y.m := by unfold sameR RecA.m; simp only [decide_eq_true_eq, Prod.mk.injEq]
        obtain ⟨B, hB⟩ : ∃ B, sameR x y = B := ⟨_, rfl⟩
        rw [hB] at SM
        rw [hB] at hsm
        clear hC hD hB hxo hyo hb
        cases B
        · have hne : x.m ≠ y.m := fun e => by have := hsm.2 e; cases this
          have HV := Lib.hid (HV.out.trans (sameX_false (fun e => hne (by rw [e, hyy] at hxx; exact (Option.some.inj hxx).symm))))
          clear hne hsm hxx hyy
          go_upto_region 6 with fail
          refine wp_region_held_drew (S := (fun wx => CellsAt wx b (o + k * 9) (rcA x.r x.d).toList ∧ CellsAt wx b' (o' + k * 9) (rcA y.r y.d).toList)) (by kernel_rfl) ?_ (fun hHeld => ?_)
          focus ((try dsimp only); (try (exact ⟨HC.out _ (Kn.same KK.out (by rfl) (by rfl) (by rfl) (by rfl)).b, HD.out _ (Kn.same KK.out (by rfl) (by rfl) (by rfl) (by rfl)).b⟩)); done)
          (refine wpAnyH_take (i := 0) (oi := { dst := some 18, op := Go.Op.move (Go.Operand.tmp 0), type := 22, pos := _, after := _, guard := none }) (v := ?_) rfl (by kernel_rfl) (by kernel_rfl) (by kernel_rfl) (fun _ _ _ h => h) (Or.inl ⟨by rfl, ?_⟩) (by assumption) ?_; rotate_left; (focus (intro w hSw; ((try dsimp only at hSw); go_simp; try with_reducible rfl))); (try simp only [Act.put, sA, sZ, sS]))
          (refine wpAnyH_take (i := 1) (oi := { dst := some 19, op := Go.Op.move (Go.Operand.tmp 5), type := 3, pos := _, after := _, guard := none }) (v := ?_) rfl (by kernel_rfl) (by kernel_rfl) (by kernel_rfl) (fun _ _ _ h => h) (Or.inl ⟨by rfl, ?_⟩) (by assumption) ?_; rotate_left; (focus (intro w hSw; ((try dsimp only at hSw); go_simp; try with_reducible rfl))); (try simp only [Act.put, sA, sZ, sS]))
          (refine wpAnyH_take (i := 2) (oi := { dst := some 20, op := Go.Op.indexAddr 22 (Go.Operand.tmp 18) (Go.Operand.tmp 19), type := 0, pos := _, after := _, guard := none }) (v := ?_) rfl (by kernel_rfl) (by kernel_rfl) (by kernel_rfl) (fun _ _ _ h => h) (Or.inl ⟨by rfl, ?_⟩) (by assumption) ?_; rotate_left; (focus (intro w hSw; ((try dsimp only at hSw); go_simp; try with_reducible rfl))); (try simp only [Act.put, sA, sZ, sS]))
          (refine wpAnyH_take (i := 3) (oi := { dst := some 21, op := Go.Op.load 60 (Go.Operand.tmp 20), type := 60, pos := _, after := _, guard := none }) (v := ?_) rfl (by kernel_rfl) (by kernel_rfl) (by kernel_rfl) (fun _ _ _ h => h) (Or.inl ⟨by rfl, ?_⟩) (by assumption) ?_; rotate_left; (focus (intro w hSw; (first | (first | (refine Eq.trans (exec_load_mid 60 _ (by rfl) b (o + k * 9) (by rfl) (rcA x.r x.d).toList _ hSw.1 Tryz.underlying60 rfl (by kernel_rfl)) ?_; with_reducible rfl) | (refine Eq.trans (exec_load_mid 60 _ (by rfl) b' (o' + k * 9) (by rfl) (rcA y.r y.d).toList _ hSw.2 Tryz.underlying60 rfl (by kernel_rfl)) ?_; with_reducible rfl); done) | ((try dsimp only at hSw); go_simp; try with_reducible rfl)))); (try simp only [Act.put, sA, sZ, sS]))
          (refine wpAnyH_take (i := 4) (oi := { dst := some 22, op := Go.Op.move (Go.Operand.tmp 1), type := 22, pos := _, after := _, guard := none }) (v := ?_) rfl (by kernel_rfl) (by kernel_rfl) (by kernel_rfl) (fun _ _ _ h => h) (Or.inl ⟨by rfl, ?_⟩) (by assumption) ?_; rotate_left; (focus (intro w hSw; ((try dsimp only at hSw); go_simp; try with_reducible rfl))); (try simp only [Act.put, sA, sZ, sS]))
          (refine wpAnyH_take (i := 5) (oi := { dst := some 23, op := Go.Op.move (Go.Operand.tmp 5), type := 3, pos := _, after := _, guard := none }) (v := ?_) rfl (by kernel_rfl) (by kernel_rfl) (by kernel_rfl) (fun _ _ _ h => h) (Or.inl ⟨by rfl, ?_⟩) (by assumption) ?_; rotate_left; (focus (intro w hSw; ((try dsimp only at hSw); go_simp; try with_reducible rfl))); (try simp only [Act.put, sA, sZ, sS]))
          (refine wpAnyH_take (i := 6) (oi := { dst := some 24, op := Go.Op.indexAddr 22 (Go.Operand.tmp 22) (Go.Operand.tmp 23), type := 0, pos := _, after := _, guard := none }) (v := ?_) rfl (by kernel_rfl) (by kernel_rfl) (by kernel_rfl) (fun _ _ _ h => h) (Or.inl ⟨by rfl, ?_⟩) (by assumption) ?_; rotate_left; (focus (intro w hSw; ((try dsimp only at hSw); go_simp; try with_reducible rfl))); (try simp only [Act.put, sA, sZ, sS]))
          (refine wpAnyH_take (i := 7) (oi := { dst := some 25, op := Go.Op.load 60 (Go.Operand.tmp 24), type := 60, pos := _, after := _, guard := none }) (v := ?_) rfl (by kernel_rfl) (by kernel_rfl) (by kernel_rfl) (fun _ _ _ h => h) (Or.inl ⟨by rfl, ?_⟩) (by assumption) ?_; rotate_left; (focus (intro w hSw; (first | (first | (refine Eq.trans (exec_load_mid 60 _ (by rfl) b (o + k * 9) (by rfl) (rcA x.r x.d).toList _ hSw.1 Tryz.underlying60 rfl (by kernel_rfl)) ?_; with_reducible rfl) | (refine Eq.trans (exec_load_mid 60 _ (by rfl) b' (o' + k * 9) (by rfl) (rcA y.r y.d).toList _ hSw.2 Tryz.underlying60 rfl (by kernel_rfl)) ?_; with_reducible rfl); done) | ((try dsimp only at hSw); go_simp; try with_reducible rfl)))); (try simp only [Act.put, sA, sZ, sS]))
          (refine wpAnyH_ready (rs := [8]) (by kernel_rfl) (by simp) ?_; refine AllReadyH.cons (o := { dst := some 26, op := Go.Op.call { callee := Go.Callee.value (Go.Operand.func 98), args := #[Go.Operand.tmp 21, Go.Operand.tmp 25], argTypes := #[60, 60] }, type := 4, pos := _, after := _, guard := none }) rfl (fun K hK => ?_) AllReadyH.nil; go_simp; ((first | (go_at_call 98; refine (SM _ (Kn.same KK.out (by rfl) (by rfl) (by rfl) (by rfl)).b).mono ?_; rintro e wn ⟨rfl, dn⟩; have KK := Lib.hid (Kn.later KK.out dn rfl rfl rfl rfl)))); go_wp2_with fail; refine hK.out _ _ ?_ (fun hHeld => ?_); (focus ((try dsimp only); (try (exact ⟨HC.out _ (Kn.same KK.out (by rfl) (by rfl) (by rfl) (by rfl)).b, HD.out _ (Kn.same KK.out (by rfl) (by rfl) (by rfl) (by rfl)).b⟩)); done)); clear hK; (try simp only [Act.put, sA, sZ, sS]))
          (refine wpAnyH_take (i := 9) (oi := { dst := some 6, op := Go.Op.assign (Go.Operand.tmp 26), type := 4, pos := _, after := _, guard := none }) (v := ?_) rfl (by kernel_rfl) (by kernel_rfl) (by kernel_rfl) (fun _ _ _ h => h) (Or.inl ⟨by rfl, ?_⟩) (by assumption) ?_; rotate_left; (focus (intro w hSw; ((try dsimp only at hSw); go_simp; try with_reducible rfl))); (try simp only [Act.put, sA, sZ, sS]))
          refine wpAnyH_done (by kernel_rfl) ?_ _
          skip
          go_wp2_with fail
          go_ret
          exact ⟨by rw [HV.out]; rfl, (Kn.same KK.out rfl rfl rfl rfl).b⟩
        · have heq : x.m = y.m := hsm.1 rfl
          have hs : Hid (xs.take (k + 1) = ys.take (k + 1)) := by
            show _ = _
            rw [List.take_add_one, List.take_add_one, HE.out, hxx, hyy, heq]
          clear heq hsm hxx hyy
          go_upto_region 6 with fail
          refine wp_region_held_drew (S := (fun wx => CellsAt wx b (o + k * 9) (rcA x.r x.d).toList ∧ CellsAt wx b' (o' + k * 9) (rcA y.r y.d).toList)) (by kernel_rfl) ?_ (fun hHeld => ?_)
          focus ((try dsimp only); (try (exact ⟨HC.out _ (Kn.same KK.out (by rfl) (by rfl) (by rfl) (by rfl)).b, HD.out _ (Kn.same KK.out (by rfl) (by rfl) (by rfl) (by rfl)).b⟩)); done)
          (refine wpAnyH_take (i := 0) (oi := { dst := some 18, op := Go.Op.move (Go.Operand.tmp 0), type := 22, pos := _, after := _, guard := none }) (v := ?_) rfl (by kernel_rfl) (by kernel_rfl) (by kernel_rfl) (fun _ _ _ h => h) (Or.inl ⟨by rfl, ?_⟩) (by assumption) ?_; rotate_left; (focus (intro w hSw; ((try dsimp only at hSw); go_simp; try with_reducible rfl))); (try simp only [Act.put, sA, sZ, sS]))
          (refine wpAnyH_take (i := 1) (oi := { dst := some 19, op := Go.Op.move (Go.Operand.tmp 5), type := 3, pos := _, after := _, guard := none }) (v := ?_) rfl (by kernel_rfl) (by kernel_rfl) (by kernel_rfl) (fun _ _ _ h => h) (Or.inl ⟨by rfl, ?_⟩) (by assumption) ?_; rotate_left; (focus (intro w hSw; ((try dsimp only at hSw); go_simp; try with_reducible rfl))); (try simp only [Act.put, sA, sZ, sS]))
          (refine wpAnyH_take (i := 2) (oi := { dst := some 20, op := Go.Op.indexAddr 22 (Go.Operand.tmp 18) (Go.Operand.tmp 19), type := 0, pos := _, after := _, guard := none }) (v := ?_) rfl (by kernel_rfl) (by kernel_rfl) (by kernel_rfl) (fun _ _ _ h => h) (Or.inl ⟨by rfl, ?_⟩) (by assumption) ?_; rotate_left; (focus (intro w hSw; ((try dsimp only at hSw); go_simp; try with_reducible rfl))); (try simp only [Act.put, sA, sZ, sS]))
          (refine wpAnyH_take (i := 3) (oi := { dst := some 21, op := Go.Op.load 60 (Go.Operand.tmp 20), type := 60, pos := _, after := _, guard := none }) (v := ?_) rfl (by kernel_rfl) (by kernel_rfl) (by kernel_rfl) (fun _ _ _ h => h) (Or.inl ⟨by rfl, ?_⟩) (by assumption) ?_; rotate_left; (focus (intro w hSw; (first | (first | (refine Eq.trans (exec_load_mid 60 _ (by rfl) b (o + k * 9) (by rfl) (rcA x.r x.d).toList _ hSw.1 Tryz.underlying60 rfl (by kernel_rfl)) ?_; with_reducible rfl) | (refine Eq.trans (exec_load_mid 60 _ (by rfl) b' (o' + k * 9) (by rfl) (rcA y.r y.d).toList _ hSw.2 Tryz.underlying60 rfl (by kernel_rfl)) ?_; with_reducible rfl); done) | ((try dsimp only at hSw); go_simp; try with_reducible rfl)))); (try simp only [Act.put, sA, sZ, sS]))
          (refine wpAnyH_take (i := 4) (oi := { dst := some 22, op := Go.Op.move (Go.Operand.tmp 1), type := 22, pos := _, after := _, guard := none }) (v := ?_) rfl (by kernel_rfl) (by kernel_rfl) (by kernel_rfl) (fun _ _ _ h => h) (Or.inl ⟨by rfl, ?_⟩) (by assumption) ?_; rotate_left; (focus (intro w hSw; ((try dsimp only at hSw); go_simp; try with_reducible rfl))); (try simp only [Act.put, sA, sZ, sS]))
          (refine wpAnyH_take (i := 5) (oi := { dst := some 23, op := Go.Op.move (Go.Operand.tmp 5), type := 3, pos := _, after := _, guard := none }) (v := ?_) rfl (by kernel_rfl) (by kernel_rfl) (by kernel_rfl) (fun _ _ _ h => h) (Or.inl ⟨by rfl, ?_⟩) (by assumption) ?_; rotate_left; (focus (intro w hSw; ((try dsimp only at hSw); go_simp; try with_reducible rfl))); (try simp only [Act.put, sA, sZ, sS]))
          (refine wpAnyH_take (i := 6) (oi := { dst := some 24, op := Go.Op.indexAddr 22 (Go.Operand.tmp 22) (Go.Operand.tmp 23), type := 0, pos := _, after := _, guard := none }) (v := ?_) rfl (by kernel_rfl) (by kernel_rfl) (by kernel_rfl) (fun _ _ _ h => h) (Or.inl ⟨by rfl, ?_⟩) (by assumption) ?_; rotate_left; (focus (intro w hSw; ((try dsimp only at hSw); go_simp; try with_reducible rfl))); (try simp only [Act.put, sA, sZ, sS]))
          (refine wpAnyH_take (i := 7) (oi := { dst := some 25, op := Go.Op.load 60 (Go.Operand.tmp 24), type := 60, pos := _, after := _, guard := none }) (v := ?_) rfl (by kernel_rfl) (by kernel_rfl) (by kernel_rfl) (fun _ _ _ h => h) (Or.inl ⟨by rfl, ?_⟩) (by assumption) ?_; rotate_left; (focus (intro w hSw; (first | (first | (refine Eq.trans (exec_load_mid 60 _ (by rfl) b (o + k * 9) (by rfl) (rcA x.r x.d).toList _ hSw.1 Tryz.underlying60 rfl (by kernel_rfl)) ?_; with_reducible rfl) | (refine Eq.trans (exec_load_mid 60 _ (by rfl) b' (o' + k * 9) (by rfl) (rcA y.r y.d).toList _ hSw.2 Tryz.underlying60 rfl (by kernel_rfl)) ?_; with_reducible rfl); done) | ((try dsimp only at hSw); go_simp; try with_reducible rfl)))); (try simp only [Act.put, sA, sZ, sS]))
          (refine wpAnyH_ready (rs := [8]) (by kernel_rfl) (by simp) ?_; refine AllReadyH.cons (o := { dst := some 26, op := Go.Op.call { callee := Go.Callee.value (Go.Operand.func 98), args := #[Go.Operand.tmp 21, Go.Operand.tmp 25], argTypes := #[60, 60] }, type := 4, pos := _, after := _, guard := none }) rfl (fun K hK => ?_) AllReadyH.nil; go_simp; ((first | (go_at_call 98; refine (SM _ (Kn.same KK.out (by rfl) (by rfl) (by rfl) (by rfl)).b).mono ?_; rintro e wn ⟨rfl, dn⟩; have KK := Lib.hid (Kn.later KK.out dn rfl rfl rfl rfl)))); go_wp2_with fail; refine hK.out _ _ ?_ (fun hHeld => ?_); (focus ((try dsimp only); (try (exact ⟨HC.out _ (Kn.same KK.out (by rfl) (by rfl) (by rfl) (by rfl)).b, HD.out _ (Kn.same KK.out (by rfl) (by rfl) (by rfl) (by rfl)).b⟩)); done)); clear hK; (try simp only [Act.put, sA, sZ, sS]))
          (refine wpAnyH_take (i := 9) (oi := { dst := some 6, op := Go.Op.assign (Go.Operand.tmp 26), type := 4, pos := _, after := _, guard := none }) (v := ?_) rfl (by kernel_rfl) (by kernel_rfl) (by kernel_rfl) (fun _ _ _ h => h) (Or.inl ⟨by rfl, ?_⟩) (by assumption) ?_; rotate_left; (focus (intro w hSw; ((try dsimp only at hSw); go_simp; try with_reducible rfl))); (try simp only [Act.put, sA, sZ, sS]))
          refine wpAnyH_done (by kernel_rfl) ?_ _
          skip
          go_wp2_with fail
          go_roundw
          case rel => exact ⟨k + 1, by omega, by go_num, hs.out, (Kn.same KK.out rfl rfl rfl rfl).b⟩
          case measure => simp [intOf]; omega
      · obtain rfl : k = n1 := by omega
        have t2 : decide ((k : Int) < (k : Int)) = false := decide_eq_false (by omega)
        have HV := Lib.hid (HV.out.trans (sameX_true (by have := HE.out; rwa [List.take_of_length_le (by omega), List.take_of_length_le (by omega)] at this)))
        go_wp2_with fail
        go_ret
        exact ⟨by rw [HV.out]; rfl, hb⟩
  · have t1 : ((n1 : Int) != (n2 : Int)) = true := bne_iff_ne.2 (by omega)
    have HV := Lib.hid (HV.out.trans (sameX_false (fun e => hn (by rw [← l1, ← l2, e]))))
    go_enter Tryz.func37, Tryz.ntmps37
    go_wp2_with fail
    go_ret
    exact ⟨by rw [HV.out]; rfl, Below.refl _ _⟩
/-- A call of a script. -/
structure OpA where
  kind : Int
  most : Int
  fits : Bool
  x : RecA
  v : Sl
  vs : List Int
def OpA.cs (o : OpA) : List Value := [.int .i64 o.kind, .int .i64 o.most, .bool o.fits] ++ (rcA o.x.r o.x.d).toList ++ [.slice o.v.a o.v.n o.v.c]
structure OpA.ok (w : World) (o : OpA) : Prop where
  kind : i64' o.kind
  most : i64' o.most
  rec_ : o.x.ok w
  v : SlR w o.v o.vs
end
end Go.Proofs.YtglabahbklpocaaGreat
namespace Go.Proofs.YtglabahbklpocaaGreat
section
open Go.RowKit Go.Deep
set_option maxRecDepth 100000
set_option linter.unusedVariables false
set_option linter.unusedSimpArgs false
attribute [local go_sem ↓] Go.wp_at_zero Go.wp_at_succ
theorem eq_span2 (f t : Int) (hf : i64' f) (ht : i64' t) (w : World) : (binOp .eql 30 (.agg #[.int .i64 f, .int .i64 t]) (.agg #[.int .i64 f, .int .i64 t])).run Tryz.prog w = .ok (.bool true) w := by
  have h := (eql_flat 5 (by decide) 30 _ span_leaves (by kernel_rfl) (by kernel_rfl) (by kernel_rfl) [.int .i64 f, .int .i64 t] [.int .i64 f, .int .i64 t] (span_flat f t hf ht) (span_flat f t hf ht) True (by simp) w).1
  rw [decide_eq_true trivial] at h
  exact h
set_option maxHeartbeats 8000000 in
theorem hsame_any (x y : Wi) (ps : List Pt) (ms : List RcM) (vs : List Int) (w : World) (hf : i64' x.from_) (ht : i64' x.to_) (e1 : y.kind = x.kind) (e2 : y.id = x.id) (e3 : y.series = x.series) (e4 : y.from_ = x.from_) (e5 : y.to_ = x.to_) (e6 : y.time = x.time)
    (hp : SlP w x.np ps) (hp2 : SlP w y.np ps) (hr : RecsW w x.nr ms) (hr2 : RecsW w y.nr ms) (hv : SlR w x.vec vs) (hv2 : SlR w y.vec vs) :
    Calls Tryz.prog 11 #[.agg x.arr, .agg y.arr] w fun e w' => e = .returned (.bool true) ∧ Below w.heap.size w w' := by
  obtain ⟨kind, id, series, from_, to_, np, nr, vec, time⟩ := x
  obtain ⟨kind2, id2, series2, from2, to2, np2, nr2, vec2, time2⟩ := y
  simp only at e1 e2 e3 e4 e5 e6 hf ht hp hp2 hr hr2 hv hv2
  subst e1 e2 e3 e4 e5 e6
  have H1 := Lib.hid hp
  have H2 := Lib.hid hp2
  have H3 := Lib.hid hr
  have H4 := Lib.hid hr2
  have H5 := Lib.hid hv
  have H6 := Lib.hid hv2
  have C1 := fun wx (hb : Below w.heap.size w wx) => samepts_any np.a np2.a np.n np.c np2.n np2.c ps ps wx (H1.out.below hb).r (H2.out.below hb).r H1.out.wf H2.out.wf H1.out.nc H1.out.cb H2.out.nc H2.out.cb
  rw [sameP_true rfl] at C1
  have C2 := fun wx (hb : Below w.heap.size w wx) => rsame17_w nr nr2 ms ms wx (H3.out.below hb) (H4.out.below hb)
  rw [sameX_true rfl] at C2
  have C3 := fun wx (hb : Below w.heap.size w wx) => same_any vec.a vec2.a vec.n vec.c vec2.n vec2.c vs vs wx (H5.out.below hb).r (H6.out.below hb).r H5.out.nc H5.out.cb H6.out.nc H6.out.cb
  rw [decide_eq_true rfl] at C3
  have E0 := fun wx => eq_span2 from2 to2 hf ht wx
  have s1 : (series2.toList == series2.toList) = true := beq_self_eq_true _
  have s2 : (kind2 == kind2) = true := beq_self_eq_true _
  have s3 : (id2 == id2) = true := beq_self_eq_true _
  have s4 : (time2 == time2) = true := beq_self_eq_true _
  clear hp hp2 hr hr2 hv hv2 hf ht
  unfold Wi.arr
  go_enter Tryz.func11, Tryz.ntmps11
  go_upto_region 1 with fail
  generalize hw1 : World.alloc _ _ = w1
  have KK := Lib.hid (show Kn w.heap.size w [(w.heap.size + 1, wiO ⟨kind2, id2, series2, from2, to2, np2, nr2, vec2, time2⟩), (w.heap.size, wiO ⟨kind2, id2, series2, from2, to2, np, nr, vec, time2⟩)] w1 by rw [← hw1]; exact ((Kn.start w).new' rfl (wiO ⟨kind2, id2, series2, from2, to2, np, nr, vec, time2⟩)).new' (by simp) (wiO ⟨kind2, id2, series2, from2, to2, np2, nr2, vec2, time2⟩))
  clear hw1
  obtain ⟨g2, hg2⟩ : ∃ g2, w.heap.size + 1 = g2 := ⟨_, rfl⟩
  rw [hg2] at KK ⊢
  obtain ⟨g, hg⟩ : ∃ g, w.heap.size = g := ⟨_, rfl⟩
  rw [hg] at KK C1 C2 C3 ⊢
  obtain ⟨y0, y1, y2, y3, y4, y5, y6, y7, y8⟩ := wi_cells (KK.out.at_ (g2, wiO ⟨kind2, id2, series2, from2, to2, np2, nr2, vec2, time2⟩) (by simp)) rfl
  obtain ⟨x0, x1, x2, x3, x4, x5, x6, x7, x8⟩ := wi_cells (KK.out.at_ (g, wiO ⟨kind2, id2, series2, from2, to2, np, nr, vec, time2⟩) (by simp)) rfl
  go_upto_region 2 with (go_at_call 36; refine (C1 _ KK.out.b).mono ?_; rintro e w2 ⟨rfl, dn⟩; have KK := Lib.hid (KK.out.below dn); clear dn)
  clear y0 y1 y2 y3 y4 y5 y6 y7 y8 x0 x1 x2 x3 x4 x5 x6 x7 x8
  obtain ⟨y0, y1, y2, y3, y4, y5, y6, y7, y8⟩ := wi_cells (KK.out.at_ (g2, wiO ⟨kind2, id2, series2, from2, to2, np2, nr2, vec2, time2⟩) (by simp)) rfl
  obtain ⟨x0, x1, x2, x3, x4, x5, x6, x7, x8⟩ := wi_cells (KK.out.at_ (g, wiO ⟨kind2, id2, series2, from2, to2, np, nr, vec, time2⟩) (by simp)) rfl
  go_upto_region 3 with (go_at_call 37; refine (C2 _ KK.out.b).mono ?_; rintro e w3 ⟨rfl, dn⟩; have KK := Lib.hid (KK.out.below dn); clear dn)
  clear y0 y1 y2 y3 y4 y5 y6 y7 y8 x0 x1 x2 x3 x4 x5 x6 x7 x8
  obtain ⟨y0, y1, y2, y3, y4, y5, y6, y7, y8⟩ := wi_cells (KK.out.at_ (g2, wiO ⟨kind2, id2, series2, from2, to2, np2, nr2, vec2, time2⟩) (by simp)) rfl
  obtain ⟨x0, x1, x2, x3, x4, x5, x6, x7, x8⟩ := wi_cells (KK.out.at_ (g, wiO ⟨kind2, id2, series2, from2, to2, np, nr, vec, time2⟩) (by simp)) rfl
  go_upto_region 4 with (go_at_call 22; refine (C3 _ KK.out.b).mono ?_; rintro e w4 ⟨rfl, dn⟩; have KK := Lib.hid (KK.out.below dn); clear dn)
  clear y0 y1 y2 y3 y4 y5 y6 y7 y8 x0 x1 x2 x3 x4 x5 x6 x7 x8
  obtain ⟨y0, y1, y2, y3, y4, y5, y6, y7, y8⟩ := wi_cells (KK.out.at_ (g2, wiO ⟨kind2, id2, series2, from2, to2, np2, nr2, vec2, time2⟩) (by simp)) rfl
  obtain ⟨x0, x1, x2, x3, x4, x5, x6, x7, x8⟩ := wi_cells (KK.out.at_ (g, wiO ⟨kind2, id2, series2, from2, to2, np, nr, vec, time2⟩) (by simp)) rfl
  simp only at x0 x1 x2 x8 y0 y1 y2 y8
  go_wp2_with (first
    | refine wpList_load_mid_w (by first | rfl | kernel_rfl) 30 _ rfl g 3 rfl [.int .i64 from2, .int .i64 to2] _ (span_range (KK.out.at_ (g, wiO ⟨kind2, id2, series2, from2, to2, np, nr, vec, time2⟩) (by simp)) rfl) Tryz.underlying30 rfl (by kernel_rfl) ?_
    | refine wpList_load_mid_w (by first | rfl | kernel_rfl) 30 _ rfl g2 3 rfl [.int .i64 from2, .int .i64 to2] _ (span_range (KK.out.at_ (g2, wiO ⟨kind2, id2, series2, from2, to2, np2, nr2, vec2, time2⟩) (by simp)) rfl) Tryz.underlying30 rfl (by kernel_rfl) ?_)
  go_ret
  exact ⟨rfl, by first | exact KK.out.b | (rw [hg]; exact KK.out.b)⟩
end
end Go.Proofs.YtglabahbklpocaaGreat
namespace Go.Proofs.YtglabahbklpocaaGreat
section
open Go.RowKit Go.Deep
set_option maxRecDepth 100000
set_option linter.unusedVariables false
set_option linter.unusedSimpArgs false
attribute [local go_sem ↓] Go.wp_at_zero Go.wp_at_succ
/-- The message z tells what x does. -/
structure TellsAs (w : World) (z x : Wi) (ps : List Pt) (ms : List RcM) (vs : List Int) : Prop where
  k : z.kind = x.kind
  id : z.id = x.id
  s : z.series = x.series
  f : z.from_ = x.from_
  t : z.to_ = x.to_
  tm : z.time = x.time
  p : SlP w z.np ps
  r : RecsW w z.nr ms
  v : SlR w z.vec vs
theorem slP_nil (w : World) : SlP w Sl0 [] := ⟨⟨rfl, .inl rfl⟩, by simp, Nat.le_refl _, by decide⟩
theorem slR_nil (w : World) : SlR w Sl0 [] := ⟨⟨rfl, .inl rfl⟩, Nat.le_refl _, by decide⟩
theorem recsW_nil (w : World) : RecsW w Sl0 [] := ⟨⟨[], ⟨rfl, .inl rfl⟩, rfl, by simp⟩, Nat.le_refl _, by decide⟩
section
variable {w w0 : World} {x : Wi} {ps : List Pt} {rs : List RecA} {vs : List Int}
theorem WiAt.pn (h : WiAt w x ps rs vs) (h0 : x.np.n = 0) : ps = [] := List.eq_nil_of_length_eq_zero (by have := h.p.r.1; omega)
theorem WiAt.rn (h : WiAt w x ps rs vs) (h0 : x.nr.n = 0) : rs = [] := List.eq_nil_of_length_eq_zero (by have := h.r.r.1; omega)
theorem RecsV.w' (h : RecsV w x.nr rs) (hok : okRecs rs) : RecsW w x.nr (rs.map RecA.m) :=
  ⟨⟨rs, h.r, rfl, fun y hy => ⟨h.ok y hy, by
    have h1 := (h.ok y hy).sl.r.1
    have h2 : y.ds = pl y.ds := (hok y hy).2.2.1
    have h3 := pl_length y.ds
    rw [← h2] at h3
    omega⟩⟩, h.nc, h.cb⟩
theorem TellsAs.below {w' : World} {z : Wi} {ms : List RcM} (h : TellsAs w z x ps ms vs) (hb : Below w.heap.size w w') : TellsAs w' z x ps ms vs := ⟨h.k, h.id, h.s, h.f, h.t, h.tm, h.p.below hb, h.r.below hb, h.v.below hb⟩
theorem recsV_ti {w : World} {B : Nat} {d : Sl} {rs : List RecA} {vs : List Int} {d2 : Sl} (h : V7 w B d vs d2 rs) : RecsW w d2 (rs.map RecA.m) :=
  ⟨⟨rs, (AppE.reads rec_len (by decide) h.ap).1, rfl, fun y hy => ⟨(h.rs y hy).1.ok, (h.rs y hy).1.n8⟩⟩, h.ap.le, maxLen_i h.ap.max⟩
theorem same_w {z y : Wi} {ms : List RcM} (hf : i64' x.from_) (ht : i64' x.to_) (h1 : TellsAs w z x ps ms vs) (h2 : TellsAs w y x ps ms vs) : Calls Tryz.prog 11 #[.agg z.arr, .agg y.arr] w fun e w' => e = .returned (.bool true) ∧ Below w.heap.size w w' :=
  hsame_any z y ps ms vs w (by rw [h1.f]; exact hf) (by rw [h1.t]; exact ht) (h2.k.trans h1.k.symm) (h2.id.trans h1.id.symm) (h2.s.trans h1.s.symm) (h2.f.trans h1.f.symm) (h2.t.trans h1.t.symm) (h2.tm.trans h1.tm.symm) h1.p h2.p h1.r h2.r h1.v h2.v
end
end
end Go.Proofs.YtglabahbklpocaaGreat
