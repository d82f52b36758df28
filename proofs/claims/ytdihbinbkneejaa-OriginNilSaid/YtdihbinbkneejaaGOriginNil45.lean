/- The reference's Same of lists of records; a script among the arguments. -/
import Derived.Test.YtdihbinbkneejaaGOriginNil43
import Derived.Test.YtdihbinbkneejaaGOriginNil44
namespace Go.Proofs.Ytdihbinbkneejaa
section
open Go.RowKit Go.Deep Go.ChangeShapes Go.WideShapes Go.Joins
set_option maxRecDepth 100000
set_option linter.unusedVariables false
set_option linter.unusedSimpArgs false
attribute [local go_sem ↓] Go.wp_at_zero Go.wp_at_succ
theorem recs_at {w : World} {a : Option Addr} {n : Nat} {rs : List RecA} (h : ReadsE RecA.cs 9 w a n rs) (k : Nat) (hk : k < n) : ∃ b o x, a = some ⟨b, o, none⟩ ∧ rs[k]? = some x ∧ ∀ wx, Below w.heap.size w wx → CellsAt wx b (o + k * 9) (rcA x.r x.d).toList := by
  obtain ⟨b, o, x, e, hl, hx, hC⟩ := h.at (Below.refl _ _) k hk
  exact ⟨b, o, x, e, hx, fun wx hb => hC.below hb hl⟩
theorem RecsAt.below {w w' : World} {d : Sl} {xs : List RcM} (h : RecsAt w d xs) (hb : Below w.heap.size w w') : RecsAt w' d xs := by
  obtain ⟨⟨rs, h1, h2, h3, h4, h5⟩, h6, h7⟩ := h
  exact ⟨⟨rs, h1.below hb, h2, fun x hx => ⟨⟨(h3 x hx).1.wf, (h3 x hx).1.sl.below hb⟩, (h3 x hx).2⟩, fun x hx => (h4 x hx).imp_right fun ⟨g, cur, e1, e2⟩ => ⟨g, cur, e1, (hb.block g (heap_lt e2)).trans e2⟩, h5.imp_right fun ⟨g, cur, e1, e2⟩ => ⟨g, cur, e1, (hb.block g (heap_lt e2)).trans e2⟩⟩, h6, h7⟩
/-- A list that was handed out outlasts what a log does to itself. -/
theorem RecsAt.but {w w' : World} {d : Sl} {xs : List RcM} {F : List Nat} {g : Nat} {m : LogM} (h : RecsAt w d xs) (hl : LogAt w F g m) (hb : But g w w') : RecsAt w' d xs := by
  obtain ⟨⟨rs, h1, h2, h3, h4, h5⟩, h6, h7⟩ := h
  obtain ⟨_, _, _, _, hg, _⟩ := hl
  have hti : ∀ y : Sl, TI w y → farA [g] y := fun y hy => hy.imp_right fun ⟨g', cur, e1, e2⟩ p hp hm => by
    rw [e1] at hp
    cases hp
    simp only [List.mem_singleton] at hm
    subst hm
    rw [hg] at e2
    simp only [logO, Option.some.injEq, Obj.cells.injEq] at e2
    exact absurd e2.2.1 (by decide)
  have htr : farA [g] d := h5.imp_right fun ⟨g', cur, e1, e2⟩ p hp hm => by
    rw [e1] at hp
    cases hp
    simp only [List.mem_singleton] at hm
    subst hm
    rw [hg] at e2
    simp only [logO, Option.some.injEq, Obj.cells.injEq] at e2
    exact absurd e2.2.1 (by decide)
  have hd : ∀ i, i < w.heap.size → i ∉ [g] → w'.heap[i]? = w.heap[i]? := fun i hi hn => hb.block i hi (by simp; exact fun e => hn (by simp [e]))
  have htr2 : TR w' d := by
    rcases h5 with h5 | ⟨g', cur, e1, e2⟩
    · exact .inl h5
    · rcases htr with h0 | h0
      · exact .inl h0
      · exact .inr ⟨g', cur, e1, (hd g' (heap_lt e2) (h0 _ e1)).trans e2⟩
  exact ⟨⟨rs, ReadsE.keep h1 htr hb.size hd, h2, fun x hx => ⟨⟨(h3 x hx).1.wf, (h3 x hx).1.sl.keep (hti _ (h4 x hx)) hb.size hd⟩, (h3 x hx).2⟩, fun x hx => (h4 x hx).keep (hti _ (h4 x hx)) hd, htr2⟩, h6, h7⟩
open Classical in
noncomputable def sameX (xs ys : List RcM) : Bool := decide (xs = ys)
theorem sameX_true {xs ys : List RcM} (h : xs = ys) : sameX xs ys = true := by unfold sameX; simp [h]
theorem sameX_false {xs ys : List RcM} (h : xs ≠ ys) : sameX xs ys = false := by unfold sameX; simp [h]
/-- A list of records, wherever it lies. -/
structure RecsW (w : World) (d : Sl) (xs : List RcM) : Prop where
  ex : ∃ rs : List RecA, ReadsE RecA.cs 9 w d.a d.n rs ∧ rs.map RecA.m = xs ∧ (∀ x ∈ rs, x.ok w ∧ x.d.n ≤ 8)
  nc : d.n ≤ d.c
  cm : d.c ≤ 9223372036854775807
theorem RecsAt.w {w : World} {d : Sl} {xs : List RcM} (h : RecsAt w d xs) : RecsW w d xs := by
  obtain ⟨⟨rs, h1, h2, h3, _⟩, h6, h7⟩ := h
  exact ⟨⟨rs, h1, h2, h3⟩, h6, h7⟩
theorem RecsW.below {w w' : World} {d : Sl} {xs : List RcM} (h : RecsW w d xs) (hb : Below w.heap.size w w') : RecsW w' d xs := by
  obtain ⟨⟨rs, h1, h2, h3⟩, h6, h7⟩ := h
  exact ⟨⟨rs, h1.below hb, h2, fun x hx => ⟨⟨(h3 x hx).1.wf, (h3 x hx).1.sl.below hb⟩, (h3 x hx).2⟩⟩, h6, h7⟩
set_option maxHeartbeats 4000000 in
theorem rsame17_w (d1 d2 : Sl) (xs ys : List RcM) (w : World) (h1 : RecsW w d1 xs) (h2 : RecsW w d2 ys) :
    Calls Try.prog 15 #[.slice d1.a d1.n d1.c, .slice d2.a d2.n d2.c] w fun e w' => e = .returned (.bool (sameX xs ys)) ∧ Below w.heap.size w w' := by
  obtain ⟨V, HV⟩ : ∃ V, Hid (V = sameX xs ys) := ⟨_, rfl⟩
  rw [← HV.out]
  obtain ⟨⟨rs, r1, r2, r3⟩, c1, m1⟩ := h1
  obtain ⟨⟨ts, t1, t2, t3⟩, c2, m2⟩ := h2
  obtain ⟨a1, n1, cc1⟩ := d1
  obtain ⟨a2, n2, cc2⟩ := d2
  simp only at r1 t1 c1 m1 c2 m2 ⊢
  have l1 : xs.length = n1 := by rw [← r2, List.length_map]; exact r1.1
  have l2 : ys.length = n2 := by rw [← t2, List.length_map]; exact t1.1
  have H1 := Lib.hid r1
  have H2 := Lib.hid t1
  have R2 := Lib.hid r2
  have T2 := Lib.hid t2
  clear r1 t1 r2 t2
  by_cases hn : n1 = n2
  · subst hn
    have t1 : ((n1 : Int) != (n1 : Int)) = false := by simp
    go_enter Try.func15, Try.ntmps15
    go_wp2_with fail
    go_loopw [5, 6] (fun i _ wr => ∃ k : Nat, k ≤ n1 ∧ i = .int .i64 k ∧ xs.take k = ys.take k ∧ Below w.heap.size w wr) (fun i _ _ => n1 - (intOf i).toNat)
    case atStart => exact ⟨0, by omega, rfl, by simp, Below.refl _ _⟩
    case round =>
      obtain ⟨k, hk, rfl, he, hb⟩ := hrel
      have HE := Lib.hid he
      clear he
      by_cases hlt : k < n1
      · have t2 : decide ((k : Int) < (n1 : Int)) = true := decide_eq_true (by omega)
        obtain ⟨b, o, x, rfl, hxk, hC⟩ := recs_at H1.out k hlt
        obtain ⟨b', o', y, rfl, hyk, hD⟩ := recs_at H2.out k hlt
        have hxo := (r3 x (List.mem_of_getElem? hxk)).1
        have hyo := (t3 y (List.mem_of_getElem? hyk)).1
        have hxx : xs[k]? = some x.m := by rw [← R2.out, List.getElem?_map, hxk]; rfl
        have hyy : ys[k]? = some y.m := by rw [← T2.out, List.getElem?_map, hyk]; rfl
        have SM := fun wx hb => samer_any x y wx (hxo.below (w' := wx) hb) (hyo.below hb)
        change ∀ wx, Below w.heap.size w wx → Calls Try.prog _ #[.agg (rcA x.r x.d), .agg (rcA y.r y.d)] wx _ at SM
        have i1 : (0 : Int) ≤ (k : Int) := by omega
        have i2 : (k : Int) < (n1 : Int) := by omega
        have KK : Hid (Kn w.heap.size w [] wr) := ⟨by simp, hb, hb.size⟩
        have HC := Lib.hid hC
        have HD := Lib.hid hD
        have hsm : sameR x y = true ↔ x.m = y.m := by unfold sameR RecA.m; simp only [decide_eq_true_eq, Prod.mk.injEq]
        obtain ⟨B, hB⟩ : ∃ B, sameR x y = B := ⟨_, rfl⟩
        rw [hB] at SM
        rw [hB] at hsm
        clear hC hD hB hxo hyo hb
        cases B
        · have hne : x.m ≠ y.m := fun e => by have := hsm.2 e; cases this
          have HV := Lib.hid (HV.out.trans (sameX_false (fun e => hne (by rw [e, hyy] at hxx; exact (Option.some.inj hxx).symm))))
          clear hne hsm hxx hyy
          go_upto_region 6 with fail
          refine wp_region_held_drew (S := (fun wx => CellsAt wx b (o + k * 9) (rcA x.r x.d).toList ∧ CellsAt wx b' (o' + k * 9) (rcA y.r y.d).toList)) (by kernel_rfl) ?_ (fun hHeld => ?_)
          focus ((try dsimp only); (try (exact ⟨HC.out _ (Kn.same KK.out (by rfl) (by rfl) (by rfl) (by rfl)).b, HD.out _ (Kn.same KK.out (by rfl) (by rfl) (by rfl) (by rfl)).b⟩)); done)
          (refine wpAnyH_take (i := 0) (oi := { dst := some 18, op := Go.Op.move (Go.Operand.tmp 0), type := 38, pos := "ref.go:100", after := #[], guard := none }) (v := ?_) rfl (by kernel_rfl) (by kernel_rfl) (by kernel_rfl) (fun _ _ _ h => h) (Or.inl ⟨by rfl, ?_⟩) (by assumption) ?_; rotate_left; (focus (intro w hSw; ((try dsimp only at hSw); go_simp; try with_reducible rfl))); (try simp only [Act.put, List.setIfInBounds_toArray, List.set_cons_zero, List.set_cons_succ]))
          (refine wpAnyH_take (i := 1) (oi := { dst := some 19, op := Go.Op.move (Go.Operand.tmp 5), type := 3, pos := "ref.go:100", after := #[], guard := none }) (v := ?_) rfl (by kernel_rfl) (by kernel_rfl) (by kernel_rfl) (fun _ _ _ h => h) (Or.inl ⟨by rfl, ?_⟩) (by assumption) ?_; rotate_left; (focus (intro w hSw; ((try dsimp only at hSw); go_simp; try with_reducible rfl))); (try simp only [Act.put, List.setIfInBounds_toArray, List.set_cons_zero, List.set_cons_succ]))
          (refine wpAnyH_take (i := 2) (oi := { dst := some 20, op := Go.Op.indexAddr 38 (Go.Operand.tmp 18) (Go.Operand.tmp 19), type := 0, pos := "ref.go:100", after := #[{ on := 0, ground := Go.Ground.data }, { on := 1, ground := Go.Ground.data }], guard := none }) (v := ?_) rfl (by kernel_rfl) (by kernel_rfl) (by kernel_rfl) (fun _ _ _ h => h) (Or.inl ⟨by rfl, ?_⟩) (by assumption) ?_; rotate_left; (focus (intro w hSw; ((try dsimp only at hSw); go_simp; try with_reducible rfl))); (try simp only [Act.put, List.setIfInBounds_toArray, List.set_cons_zero, List.set_cons_succ]))
          (refine wpAnyH_take (i := 3) (oi := { dst := some 21, op := Go.Op.load 30 (Go.Operand.tmp 20), type := 30, pos := "ref.go:100", after := #[{ on := 2, ground := Go.Ground.data }], guard := none }) (v := ?_) rfl (by kernel_rfl) (by kernel_rfl) (by kernel_rfl) (fun _ _ _ h => h) (Or.inl ⟨by rfl, ?_⟩) (by assumption) ?_; rotate_left; (focus (intro w hSw; (first | (first | (refine Eq.trans (exec_load_mid 30 _ (by rfl) b (o + k * 9) (by rfl) (rcA x.r x.d).toList _ hSw.1 Try.underlying30 rfl (by kernel_rfl)) ?_; with_reducible rfl) | (refine Eq.trans (exec_load_mid 30 _ (by rfl) b' (o' + k * 9) (by rfl) (rcA y.r y.d).toList _ hSw.2 Try.underlying30 rfl (by kernel_rfl)) ?_; with_reducible rfl); done) | ((try dsimp only at hSw); go_simp; try with_reducible rfl)))); (try simp only [Act.put, List.setIfInBounds_toArray, List.set_cons_zero, List.set_cons_succ]))
          (refine wpAnyH_take (i := 4) (oi := { dst := some 22, op := Go.Op.move (Go.Operand.tmp 1), type := 38, pos := "ref.go:100", after := #[], guard := none }) (v := ?_) rfl (by kernel_rfl) (by kernel_rfl) (by kernel_rfl) (fun _ _ _ h => h) (Or.inl ⟨by rfl, ?_⟩) (by assumption) ?_; rotate_left; (focus (intro w hSw; ((try dsimp only at hSw); go_simp; try with_reducible rfl))); (try simp only [Act.put, List.setIfInBounds_toArray, List.set_cons_zero, List.set_cons_succ]))
          (refine wpAnyH_take (i := 5) (oi := { dst := some 23, op := Go.Op.move (Go.Operand.tmp 5), type := 3, pos := "ref.go:100", after := #[], guard := none }) (v := ?_) rfl (by kernel_rfl) (by kernel_rfl) (by kernel_rfl) (fun _ _ _ h => h) (Or.inl ⟨by rfl, ?_⟩) (by assumption) ?_; rotate_left; (focus (intro w hSw; ((try dsimp only at hSw); go_simp; try with_reducible rfl))); (try simp only [Act.put, List.setIfInBounds_toArray, List.set_cons_zero, List.set_cons_succ]))
          (refine wpAnyH_take (i := 6) (oi := { dst := some 24, op := Go.Op.indexAddr 38 (Go.Operand.tmp 22) (Go.Operand.tmp 23), type := 0, pos := "ref.go:100", after := #[{ on := 4, ground := Go.Ground.data }, { on := 5, ground := Go.Ground.data }], guard := none }) (v := ?_) rfl (by kernel_rfl) (by kernel_rfl) (by kernel_rfl) (fun _ _ _ h => h) (Or.inl ⟨by rfl, ?_⟩) (by assumption) ?_; rotate_left; (focus (intro w hSw; ((try dsimp only at hSw); go_simp; try with_reducible rfl))); (try simp only [Act.put, List.setIfInBounds_toArray, List.set_cons_zero, List.set_cons_succ]))
          (refine wpAnyH_take (i := 7) (oi := { dst := some 25, op := Go.Op.load 30 (Go.Operand.tmp 24), type := 30, pos := "ref.go:100", after := #[{ on := 6, ground := Go.Ground.data }], guard := none }) (v := ?_) rfl (by kernel_rfl) (by kernel_rfl) (by kernel_rfl) (fun _ _ _ h => h) (Or.inl ⟨by rfl, ?_⟩) (by assumption) ?_; rotate_left; (focus (intro w hSw; (first | (first | (refine Eq.trans (exec_load_mid 30 _ (by rfl) b (o + k * 9) (by rfl) (rcA x.r x.d).toList _ hSw.1 Try.underlying30 rfl (by kernel_rfl)) ?_; with_reducible rfl) | (refine Eq.trans (exec_load_mid 30 _ (by rfl) b' (o' + k * 9) (by rfl) (rcA y.r y.d).toList _ hSw.2 Try.underlying30 rfl (by kernel_rfl)) ?_; with_reducible rfl); done) | ((try dsimp only at hSw); go_simp; try with_reducible rfl)))); (try simp only [Act.put, List.setIfInBounds_toArray, List.set_cons_zero, List.set_cons_succ]))
          (refine wpAnyH_ready (rs := [8]) (by kernel_rfl) (by simp) ?_; refine AllReadyH.cons (o := { dst := some 26, op := Go.Op.call { callee := Go.Callee.value (Go.Operand.func 44), args := #[Go.Operand.tmp 21, Go.Operand.tmp 25], argTypes := #[30, 30] }, type := 4, pos := "ref.go:100", after := #[{ on := 3, ground := Go.Ground.data }, { on := 7, ground := Go.Ground.data }], guard := none }) rfl (fun K hK => ?_) AllReadyH.nil; go_simp; ((first | (go_at_call 44; refine (SM _ (Kn.same KK.out (by rfl) (by rfl) (by rfl) (by rfl)).b).mono ?_; rintro e wn ⟨rfl, dn⟩; have KK := Lib.hid (Kn.later KK.out dn rfl rfl rfl rfl)))); go_wp2_with fail; refine hK.out _ _ ?_ (fun hHeld => ?_); (focus ((try dsimp only); (try (exact ⟨HC.out _ (Kn.same KK.out (by rfl) (by rfl) (by rfl) (by rfl)).b, HD.out _ (Kn.same KK.out (by rfl) (by rfl) (by rfl) (by rfl)).b⟩)); done)); clear hK; (try simp only [Act.put, List.setIfInBounds_toArray, List.set_cons_zero, List.set_cons_succ]))
          (refine wpAnyH_take (i := 9) (oi := { dst := some 6, op := Go.Op.assign (Go.Operand.tmp 26), type := 4, pos := "ref.go:100", after := #[{ on := 8, ground := Go.Ground.data }, { on := 8, ground := Go.Ground.chain }, { on := 0, ground := Go.Ground.phase }, { on := 1, ground := Go.Ground.phase }, { on := 2, ground := Go.Ground.phase }, { on := 3, ground := Go.Ground.phase }, { on := 4, ground := Go.Ground.phase }, { on := 5, ground := Go.Ground.phase }, { on := 6, ground := Go.Ground.phase }, { on := 7, ground := Go.Ground.phase }, { on := 8, ground := Go.Ground.phase }], guard := none }) (v := ?_) rfl (by kernel_rfl) (by kernel_rfl) (by kernel_rfl) (fun _ _ _ h => h) (Or.inl ⟨by rfl, ?_⟩) (by assumption) ?_; rotate_left; (focus (intro w hSw; ((try dsimp only at hSw); go_simp; try with_reducible rfl))); (try simp only [Act.put, List.setIfInBounds_toArray, List.set_cons_zero, List.set_cons_succ]))
          refine wpAnyH_done (by kernel_rfl) ?_ _
          skip
          go_wp2_with fail
          go_ret
          exact ⟨by rw [HV.out]; rfl, (Kn.same KK.out rfl rfl rfl rfl).b⟩
        · have heq : x.m = y.m := hsm.1 rfl
          have hs : Hid (xs.take (k + 1) = ys.take (k + 1)) := by
            show _ = _
            rw [List.take_add_one, List.take_add_one, HE.out, hxx, hyy, heq]
          clear heq hsm hxx hyy
          go_upto_region 6 with fail
          refine wp_region_held_drew (S := (fun wx => CellsAt wx b (o + k * 9) (rcA x.r x.d).toList ∧ CellsAt wx b' (o' + k * 9) (rcA y.r y.d).toList)) (by kernel_rfl) ?_ (fun hHeld => ?_)
          focus ((try dsimp only); (try (exact ⟨HC.out _ (Kn.same KK.out (by rfl) (by rfl) (by rfl) (by rfl)).b, HD.out _ (Kn.same KK.out (by rfl) (by rfl) (by rfl) (by rfl)).b⟩)); done)
          (refine wpAnyH_take (i := 0) (oi := { dst := some 18, op := Go.Op.move (Go.Operand.tmp 0), type := 38, pos := "ref.go:100", after := #[], guard := none }) (v := ?_) rfl (by kernel_rfl) (by kernel_rfl) (by kernel_rfl) (fun _ _ _ h => h) (Or.inl ⟨by rfl, ?_⟩) (by assumption) ?_; rotate_left; (focus (intro w hSw; ((try dsimp only at hSw); go_simp; try with_reducible rfl))); (try simp only [Act.put, List.setIfInBounds_toArray, List.set_cons_zero, List.set_cons_succ]))
          (refine wpAnyH_take (i := 1) (oi := { dst := some 19, op := Go.Op.move (Go.Operand.tmp 5), type := 3, pos := "ref.go:100", after := #[], guard := none }) (v := ?_) rfl (by kernel_rfl) (by kernel_rfl) (by kernel_rfl) (fun _ _ _ h => h) (Or.inl ⟨by rfl, ?_⟩) (by assumption) ?_; rotate_left; (focus (intro w hSw; ((try dsimp only at hSw); go_simp; try with_reducible rfl))); (try simp only [Act.put, List.setIfInBounds_toArray, List.set_cons_zero, List.set_cons_succ]))
          (refine wpAnyH_take (i := 2) (oi := { dst := some 20, op := Go.Op.indexAddr 38 (Go.Operand.tmp 18) (Go.Operand.tmp 19), type := 0, pos := "ref.go:100", after := #[{ on := 0, ground := Go.Ground.data }, { on := 1, ground := Go.Ground.data }], guard := none }) (v := ?_) rfl (by kernel_rfl) (by kernel_rfl) (by kernel_rfl) (fun _ _ _ h => h) (Or.inl ⟨by rfl, ?_⟩) (by assumption) ?_; rotate_left; (focus (intro w hSw; ((try dsimp only at hSw); go_simp; try with_reducible rfl))); (try simp only [Act.put, List.setIfInBounds_toArray, List.set_cons_zero, List.set_cons_succ]))
          (refine wpAnyH_take (i := 3) (oi := { dst := some 21, op := Go.Op.load 30 (Go.Operand.tmp 20), type := 30, pos := "ref.go:100", after := #[{ on := 2, ground := Go.Ground.data }], guard := none }) (v := ?_) rfl (by kernel_rfl) (by kernel_rfl) (by kernel_rfl) (fun _ _ _ h => h) (Or.inl ⟨by rfl, ?_⟩) (by assumption) ?_; rotate_left; (focus (intro w hSw; (first | (first | (refine Eq.trans (exec_load_mid 30 _ (by rfl) b (o + k * 9) (by rfl) (rcA x.r x.d).toList _ hSw.1 Try.underlying30 rfl (by kernel_rfl)) ?_; with_reducible rfl) | (refine Eq.trans (exec_load_mid 30 _ (by rfl) b' (o' + k * 9) (by rfl) (rcA y.r y.d).toList _ hSw.2 Try.underlying30 rfl (by kernel_rfl)) ?_; with_reducible rfl); done) | ((try dsimp only at hSw); go_simp; try with_reducible rfl)))); (try simp only [Act.put, List.setIfInBounds_toArray, List.set_cons_zero, List.set_cons_succ]))
          (refine wpAnyH_take (i := 4) (oi := { dst := some 22, op := Go.Op.move (Go.Operand.tmp 1), type := 38, pos := "ref.go:100", after := #[], guard := none }) (v := ?_) rfl (by kernel_rfl) (by kernel_rfl) (by kernel_rfl) (fun _ _ _ h => h) (Or.inl ⟨by rfl, ?_⟩) (by assumption) ?_; rotate_left; (focus (intro w hSw; ((try dsimp only at hSw); go_simp; try with_reducible rfl))); (try simp only [Act.put, List.setIfInBounds_toArray, List.set_cons_zero, List.set_cons_succ]))
          (refine wpAnyH_take (i := 5) (oi := { dst := some 23, op := Go.Op.move (Go.Operand.tmp 5), type := 3, pos := "ref.go:100", after := #[], guard := none }) (v := ?_) rfl (by kernel_rfl) (by kernel_rfl) (by kernel_rfl) (fun _ _ _ h => h) (Or.inl ⟨by rfl, ?_⟩) (by assumption) ?_; rotate_left; (focus (intro w hSw; ((try dsimp only at hSw); go_simp; try with_reducible rfl))); (try simp only [Act.put, List.setIfInBounds_toArray, List.set_cons_zero, List.set_cons_succ]))
          (refine wpAnyH_take (i := 6) (oi := { dst := some 24, op := Go.Op.indexAddr 38 (Go.Operand.tmp 22) (Go.Operand.tmp 23), type := 0, pos := "ref.go:100", after := #[{ on := 4, ground := Go.Ground.data }, { on := 5, ground := Go.Ground.data }], guard := none }) (v := ?_) rfl (by kernel_rfl) (by kernel_rfl) (by kernel_rfl) (fun _ _ _ h => h) (Or.inl ⟨by rfl, ?_⟩) (by assumption) ?_; rotate_left; (focus (intro w hSw; ((try dsimp only at hSw); go_simp; try with_reducible rfl))); (try simp only [Act.put, List.setIfInBounds_toArray, List.set_cons_zero, List.set_cons_succ]))
          (refine wpAnyH_take (i := 7) (oi := { dst := some 25, op := Go.Op.load 30 (Go.Operand.tmp 24), type := 30, pos := "ref.go:100", after := #[{ on := 6, ground := Go.Ground.data }], guard := none }) (v := ?_) rfl (by kernel_rfl) (by kernel_rfl) (by kernel_rfl) (fun _ _ _ h => h) (Or.inl ⟨by rfl, ?_⟩) (by assumption) ?_; rotate_left; (focus (intro w hSw; (first | (first | (refine Eq.trans (exec_load_mid 30 _ (by rfl) b (o + k * 9) (by rfl) (rcA x.r x.d).toList _ hSw.1 Try.underlying30 rfl (by kernel_rfl)) ?_; with_reducible rfl) | (refine Eq.trans (exec_load_mid 30 _ (by rfl) b' (o' + k * 9) (by rfl) (rcA y.r y.d).toList _ hSw.2 Try.underlying30 rfl (by kernel_rfl)) ?_; with_reducible rfl); done) | ((try dsimp only at hSw); go_simp; try with_reducible rfl)))); (try simp only [Act.put, List.setIfInBounds_toArray, List.set_cons_zero, List.set_cons_succ]))
          (refine wpAnyH_ready (rs := [8]) (by kernel_rfl) (by simp) ?_; refine AllReadyH.cons (o := { dst := some 26, op := Go.Op.call { callee := Go.Callee.value (Go.Operand.func 44), args := #[Go.Operand.tmp 21, Go.Operand.tmp 25], argTypes := #[30, 30] }, type := 4, pos := "ref.go:100", after := #[{ on := 3, ground := Go.Ground.data }, { on := 7, ground := Go.Ground.data }], guard := none }) rfl (fun K hK => ?_) AllReadyH.nil; go_simp; ((first | (go_at_call 44; refine (SM _ (Kn.same KK.out (by rfl) (by rfl) (by rfl) (by rfl)).b).mono ?_; rintro e wn ⟨rfl, dn⟩; have KK := Lib.hid (Kn.later KK.out dn rfl rfl rfl rfl)))); go_wp2_with fail; refine hK.out _ _ ?_ (fun hHeld => ?_); (focus ((try dsimp only); (try (exact ⟨HC.out _ (Kn.same KK.out (by rfl) (by rfl) (by rfl) (by rfl)).b, HD.out _ (Kn.same KK.out (by rfl) (by rfl) (by rfl) (by rfl)).b⟩)); done)); clear hK; (try simp only [Act.put, List.setIfInBounds_toArray, List.set_cons_zero, List.set_cons_succ]))
          (refine wpAnyH_take (i := 9) (oi := { dst := some 6, op := Go.Op.assign (Go.Operand.tmp 26), type := 4, pos := "ref.go:100", after := #[{ on := 8, ground := Go.Ground.data }, { on := 8, ground := Go.Ground.chain }, { on := 0, ground := Go.Ground.phase }, { on := 1, ground := Go.Ground.phase }, { on := 2, ground := Go.Ground.phase }, { on := 3, ground := Go.Ground.phase }, { on := 4, ground := Go.Ground.phase }, { on := 5, ground := Go.Ground.phase }, { on := 6, ground := Go.Ground.phase }, { on := 7, ground := Go.Ground.phase }, { on := 8, ground := Go.Ground.phase }], guard := none }) (v := ?_) rfl (by kernel_rfl) (by kernel_rfl) (by kernel_rfl) (fun _ _ _ h => h) (Or.inl ⟨by rfl, ?_⟩) (by assumption) ?_; rotate_left; (focus (intro w hSw; ((try dsimp only at hSw); go_simp; try with_reducible rfl))); (try simp only [Act.put, List.setIfInBounds_toArray, List.set_cons_zero, List.set_cons_succ]))
          refine wpAnyH_done (by kernel_rfl) ?_ _
          skip
          go_wp2_with fail
          go_roundw
          case rel => exact ⟨k + 1, by omega, by go_num, hs.out, (Kn.same KK.out rfl rfl rfl rfl).b⟩
          case measure => simp [intOf]; omega
      · obtain rfl : k = n1 := by omega
        have t2 : decide ((k : Int) < (k : Int)) = false := decide_eq_false (by omega)
        have HV := Lib.hid (HV.out.trans (sameX_true (by have := HE.out; rwa [List.take_of_length_le (by omega), List.take_of_length_le (by omega)] at this)))
        go_wp2_with fail
        go_ret
        exact ⟨by rw [HV.out]; rfl, hb⟩
  · have t1 : ((n1 : Int) != (n2 : Int)) = true := bne_iff_ne.2 (by omega)
    have HV := Lib.hid (HV.out.trans (sameX_false (fun e => hn (by rw [← l1, ← l2, e]))))
    go_enter Try.func15, Try.ntmps15
    go_wp2_with fail
    go_ret
    exact ⟨by rw [HV.out]; rfl, Below.refl _ _⟩
theorem rsame17_any (d1 d2 : Sl) (xs ys : List RcM) (w : World) (h1 : RecsAt w d1 xs) (h2 : RecsAt w d2 ys) :
    Calls Try.prog 15 #[.slice d1.a d1.n d1.c, .slice d2.a d2.n d2.c] w fun e w' => e = .returned (.bool (sameX xs ys)) ∧ Below w.heap.size w w' := rsame17_w d1 d2 xs ys w h1.w h2.w
/-- A call of a script. -/
structure OpA where
  kind : Int
  most : Int
  fits : Bool
  x : RecA
  v : Sl
  vs : List Int
def OpA.cs (o : OpA) : List Value := [.int .i64 o.kind, .int .i64 o.most, .bool o.fits] ++ (rcA o.x.r o.x.d).toList ++ [.slice o.v.a o.v.n o.v.c]
structure OpA.ok (w : World) (o : OpA) : Prop where
  kind : i64' o.kind
  most : i64' o.most
  rec_ : o.x.ok w
  v : SlR w o.v o.vs
def opL : List Leaf := [.int .i64, .int .i64, .bool, .int .i64, .str, .int .i64, .int .i64, .int .i64, .int .i64, .int .i64, .int .i64, .sl 28 3, .sl 28 3]
theorem op_leaves : leaves Try.prog 6 33 = some opL := by kernel_rfl
def IsOps (w : World) (v : Value) (xs : List OpA) : Prop := IsEs OpA.cs 13 (OpA.ok w) w v xs
theorem open_isOps {H : Type} {enc : TypeId × Value → H} {W : World} {r : Reach} {b0 : Nat} {v : Value} {d : DataW H} {ps : List MemPlace}
    (hval : Value.okWide Try.prog W r b0 22 v) (hd : DataW.Trod enc Try.prog W 0 (fun _ => true) true 22 v d ps) : ∃ xs, IsOps W v xs := by
  refine open_isEs OpA.cs 13 (OpA.ok W) 6 opL (fun l hl => ?_) rfl (by decide) Try.underlying22 op_leaves (by kernel_rfl) hval hd
  have hln := fits_len hl
  match l, hln with
  | [v0, v1, v2, v3, v4, v5, v6, v7, v8, v9, v10, v11, v12], _ =>
    obtain ⟨⟨n0, rfl, w0⟩, ⟨n1, rfl, w1⟩, ⟨bb, rfl⟩, ⟨n3, rfl, w3⟩, ⟨s, rfl, w4⟩, ⟨n5, rfl, w5⟩, ⟨n6, rfl, w6⟩, ⟨n7, rfl, w7⟩, ⟨n8, rfl, w8⟩, ⟨n9, rfl, w9⟩, ⟨n10, rfl, w10⟩, hs, ht, _⟩ := hl
    obtain ⟨xs, a, n, c, rfl, h1, h2, h3, _⟩ := leaf_ints hs
    obtain ⟨ys, a', n', c', rfl, k1, k2, k3, _⟩ := leaf_ints ht
    exact ⟨⟨n0, n1, bb, ⟨⟨n3, s, n5, n6, n7, ⟨n8, n9, n10⟩⟩, ⟨a, n, c⟩, xs⟩, ⟨a', n', c'⟩, ys⟩, rfl, i64_of w0, i64_of w1, ⟨⟨i64_of w3, maxLen_i w4, i64_of w5, i64_of w6, i64_of w7, i64_of w8, i64_of w9, i64_of w10⟩, h3, h1, h2⟩, ⟨k3, k1, k2⟩⟩
end
end Go.Proofs.Ytdihbinbkneejaa
