/- origin.New; Know, Base, Clock, Len, Room. origin.Log.those with its three inner functions; After, All, Get. The inner functions of All and After. origin.Log.those for After -/
import Derived.Test.YtglabahbklpocaaGreatGShipPacks14
namespace Go.Proofs.YtglabahbklpocaaGreat
section
open Go.RowKit Go.Deep
set_option maxRecDepth 100000
set_option linter.unusedVariables false
set_option linter.unusedSimpArgs false
attribute [local go_sem ↓] Go.wp_at_zero Go.wp_at_succ
def newM (room : Int) (bs : List Int) : LogM := ⟨min (max room 0) 400, joinV bs [], joinV bs [], [], 0⟩
theorem joinV_len (xs ys : List Int) : (joinV xs ys).length ≤ 8 := vec_length _
set_option maxHeartbeats 2000000 in
theorem onew_any (F : List Nat) (room : Int) (d : Sl) (bs : List Int) (w : World) (hd : SlR w d bs) (hF : ∀ k ∈ F, k < w.heap.size) (h0 : i64' room) :
    Calls Tryz.prog 25 #[.int .i64 room, .slice d.a d.n d.c] w fun e w' => ∃ g, e = .returned (.pointer (some ⟨g, 0, none⟩)) ∧ w.heap.size ≤ g ∧ LogAt w' (g :: F) g (newM room bs) ∧ Below w.heap.size w w' := by
  have J := join_any d.a none d.n d.c 0 0 bs [] w hd.r ⟨rfl, .inl rfl⟩ hd.nc hd.cb (Nat.le_refl _) (by decide)
  have hl := joinV_len bs []
  obtain ⟨M, hM⟩ : ∃ M, Hid (newM room bs = M) := ⟨_, rfl⟩
  rw [hM.out]
  have hM2 : Hid (M = ⟨min (max room 0) 400, joinV bs [], joinV bs [], [], 0⟩) := hM.out.symm
  generalize joinV bs [] = js at *
  clear hM
  go_enter Tryz.func25, Tryz.ntmps25
  go_wp2_with fail
  refine J.mono ?_
  rintro e w1 ⟨a', rfl, hV, d1⟩
  have FIN := Lib.hid (And.intro hV d1)
  clear hV d1 J
  go_wp2_with fail
  go_ret
  obtain ⟨hV, d1⟩ := FIN.out
  have hz := d1.size
  have hB := d1.alloc hz (logO (min (max room 0) 400) ⟨a', js.length, js.length⟩ ⟨a', js.length, js.length⟩ ⟨none, 0, 0⟩ 0)
  have hS : SlR (w1.alloc (logO (min (max room 0) 400) ⟨a', js.length, js.length⟩ ⟨a', js.length, js.length⟩ ⟨none, 0, 0⟩ 0)) ⟨a', js.length, js.length⟩ js := hV.keep hl (F := []) (by simp) (by simp) (fun i hi _ => Below.heap_alloc _ _ i hi)
  have hf : farA (w1.heap.size :: F) ⟨a', js.length, js.length⟩ := by
    rcases hV.own with h1 | ⟨g, e, h2, h3, _⟩
    · exact .inl (by rw [h1]; rfl)
    · refine .inr fun p hp hm => ?_
      rw [e] at hp
      cases hp
      rcases List.mem_cons.1 hm with hm | hm
      · simp only at hm; omega
      · have := hF _ hm; simp only at this; omega
  refine ⟨w1.heap.size, rfl, hz, ⟨⟨a', js.length, js.length⟩, ⟨a', js.length, js.length⟩, ⟨none, 0, 0⟩, [], ?_, ?_⟩, hB⟩
  · rw [hM2.out]
    exact heap_alloc_new w1 _
  · rw [hM2.out]
    exact { hb := hS, hk := hS, ha := ⟨rfl, .inl rfl⟩, ac := Nat.le_refl _, am := by decide, ok := by simp, xs := rfl, fb := hf, fk := hf, fa := .inl rfl, fr := by simp, sm := by decide, bn := hl, kn := hl, mo := by simp only; omega, ck := (show i64' 0 from ⟨by decide, by decide⟩), fm := .inl rfl }
end
end Go.Proofs.YtglabahbklpocaaGreat
namespace Go.Proofs.YtglabahbklpocaaGreat
section
open Go.RowKit Go.Deep
set_option maxRecDepth 100000
set_option linter.unusedVariables false
set_option linter.unusedSimpArgs false
attribute [local go_sem ↓] Go.wp_at_zero Go.wp_at_succ
theorem wpList_append_G {α : Type} {cs : α → List Value} {S T : TypeId} {sz by_ : Nat} {z : Value} {B : Nat} {a : Option Addr} {n cap : Nat} {l : List α} (E : Ety cs S T sz by_ z) {ops : Array Oper} {rest : List Oper} {o : Oper} {act : Act} {Q : Exit → Act → World → Prop} (hgd : o.guard = none) (s x : Operand)
    (ho : o.op = .call { callee := .builtin .append, args := #[s, x], argTypes := #[S, S] }) (w : World) (hs : act.eval s = .slice a n cap) (h : AppE cs T sz w B a n cap l) (hB : B ≤ w.heap.size) (hn : n < 100000)
    (g : Nat) (c : Nat) (y : α) (hx : act.eval x = .slice (some ⟨g, 0, none⟩) 1 c) (hy : CellsAt w g 0 (cs y))
    (hK : ∀ a' cap' w', AppE cs T sz w' B a' (n + 1) cap' (l ++ [y]) → Below B w w' → w.grownBy w' (Value.slice a n cap).ownBlock → wpList Tryz.prog ops Q rest (act.put o.dst (.slice a' (n + 1) cap')) w') : wpList Tryz.prog ops Q (o :: rest) act w := by
  refine wpList_plain hgd fun K hK' => ?_
  obtain ⟨a', cap', w', hrun, h1, h2, h3, _⟩ := run_append_E E o.type w h hB g 0 1 c [y] (by omega) rfl (fun j x hj => by
    cases j with
    | zero => simp at hj; subst hj; simpa using hy
    | succ j => simp at hj)
  unfold Oper.wp
  simp [execOp, ho, resolve, invoke, builtin, hs, hx, hrun, Result.andThen]
  exact hK' _ _ (hK a' cap' w' h1 h2 h3)
/-- A record whose numbers lie in a block of their own. -/
structure RcT (w : World) (x : RecA) : Prop where
  ok : x.ok w
  ti : TI w x.d
  n8 : x.d.n ≤ 8
theorem RcT.below {w w' : World} {x : RecA} (h : RcT w x) (hb : Below w.heap.size w w') : RcT w' x :=
  ⟨⟨h.ok.wf, h.ok.sl.below hb⟩, h.ti.imp_right fun ⟨g, cur, e1, e2⟩ => ⟨g, cur, e1, (hb.block g (heap_lt e2)).trans e2⟩, h.n8⟩
theorem RcT.grown {w w' : World} {x : RecA} (h : RcT w x) {a : Option Addr} {n cap B : Nat} {l : List RecA} (hA : AppE RecA.cs 60 9 w B a n cap l) (hg : w.grownBy w' (Value.slice a n cap).ownBlock) : RcT w' x := by
  have hd : ∀ (i : Nat) (cur : Array Value), w.heap[i]? = some (Obj.cells cur 3 (0, 0)) → w'.heap[i]? = w.heap[i]? := fun i cur hi => by
    refine hg.block i (heap_lt hi) (fun e => ?_)
    rcases hA.row.2 with ⟨e1, _⟩ | ⟨g', c', cur', e1, _, e2, _⟩
    · rw [e1] at e; simp [Value.ownBlock] at e
    · rw [e1] at e
      simp only [Value.ownBlock, Option.some.injEq] at e
      subst e
      rw [hi] at e2
      simp only [Option.some.injEq, Obj.cells.injEq] at e2
      exact absurd e2.2.1 (by decide)
  refine ⟨⟨h.ok.wf, ?_⟩, ?_, h.n8⟩
  · rcases h.ti with h0 | ⟨g, cur, e1, e2⟩
    · obtain ⟨⟨h1, h2⟩, h3, h4⟩ := h.ok.sl
      exact ⟨⟨h1, .inl h0⟩, h3, h4⟩
    · exact h.ok.sl.keep (F := List.range w.heap.size |>.filter (· ≠ g)) (.inr fun p hp hm => by rw [e1] at hp; cases hp; simp at hm) hg.size (fun i hi hn => by
        have : i = g := by
          simp only [List.mem_filter, List.mem_range, not_and] at hn
          have := hn hi
          simpa using this
        subst this
        exact hd i cur e2)
  · exact h.ti.imp_right fun ⟨g, cur, e1, e2⟩ => ⟨g, cur, e1, (hd g cur e2).trans e2⟩
def thoseM (m : LogM) (most : Int) (P : RcM → Bool) : List RcM := (m.xs.filter P).take most.toNat
/-- The list lies in a block of records. -/
def TR (w : World) (d : Sl) : Prop := d.n = 0 ∨ ∃ g cur, d.a = some ⟨g, 0, none⟩ ∧ w.heap[g]? = some (.cells cur 60 (0, 0))
theorem AppE.tr {w : World} {B : Nat} {a : Option Addr} {n cap : Nat} {l : List RecA} (h : AppE RecA.cs 60 9 w B a n cap l) : TR w ⟨a, n, cap⟩ := by
  rcases h.row.2 with ⟨e, h0⟩ | ⟨g, c, cur, e, _, e3, _⟩
  · exact .inl h0
  · simp only [Value.slice.injEq] at e
    exact .inr ⟨g, cur, e.1, e3⟩
/-- What a list of records that was handed out is. -/
structure RecsAt (w : World) (d : Sl) (xs : List RcM) : Prop where
  ex : ∃ rs : List RecA, ReadsE RecA.cs 9 w d.a d.n rs ∧ rs.map RecA.m = xs ∧ (∀ x ∈ rs, x.ok w ∧ x.d.n ≤ 8) ∧ (∀ x ∈ rs, TI w x.d) ∧ TR w d
  nc : d.n ≤ d.c
  cm : d.c ≤ 9223372036854775807
theorem take_filter_snoc {α : Type} (P : α → Bool) (l : List α) (k : Nat) (x : α) (hx : l[k]? = some x) : (l.take (k + 1)).filter P = (l.take k).filter P ++ (if P x = true then [x] else []) := by
  rw [List.take_add_one, hx, List.filter_append]
  congr 1
  simp only [Option.toList_some, List.filter_cons, List.filter_nil]
theorem take_filter_pre {α : Type} (P : α → Bool) (l : List α) (k : Nat) (n : Nat) (h : ((l.take k).filter P).length = n) : (l.filter P).take n = (l.take k).filter P := by
  conv => lhs; rw [← List.take_append_drop k l, List.filter_append]
  rw [List.take_append_of_le_length (by omega), List.take_of_length_le (by omega)]
theorem rec_fields {w : World} {p : Nat} {r : Rc} {d : Sl} {B : Nat} {w0 : World} {l : List (Nat × Obj)} (h : Kn B w0 l w) (hm : (p, rcO r d) ∈ l) : RcC w p r d := rc_cells (h.at_ _ hm) rfl
end
end Go.Proofs.YtglabahbklpocaaGreat
namespace Go.Proofs.YtglabahbklpocaaGreat
section
open Go.RowKit Go.Deep
set_option maxRecDepth 100000
set_option linter.unusedVariables false
set_option linter.unusedSimpArgs false
attribute [local go_sem ↓] Go.wp_at_zero Go.wp_at_succ
/-- A captured slice of numbers. -/
def capS (d : Sl) : Obj := .cells #[.slice d.a d.n d.c] 23 (0, 0)
def laterP (vs : List Int) (x : RcM) : Bool := decide (atV vs x.1.st.site < x.1.st.seq)
theorem st_held {B p c : Nat} {w0 w wd : World} {l : List (Nat × Obj)} {s : St} {d : Sl} (h : Kn B w0 l w) (h1 : (p, Obj.cells #[.int .i64 s.clock, .int .i64 s.site, .int .i64 s.seq] 58 (0, 0)) ∈ l) (h2 : (c, capS d) ∈ l) (e : wd.heap = w.heap) :
    wd.cell? ⟨p, 1, none⟩ = some (.int .i64 s.site) ∧ wd.cell? ⟨p, 2, none⟩ = some (.int .i64 s.seq) ∧ wd.cell? ⟨c, 0, none⟩ = some (.slice d.a d.n d.c) := by
  have q1 := h.at_ _ h1
  have q2 := h.at_ _ h2
  simp only at q1 q2
  refine ⟨?_, ?_, ?_⟩
  · simp only [World.cell?, e, q1]; rfl
  · simp only [World.cell?, e, q1]; rfl
  · simp only [World.cell?, e, q2, capS]; rfl
set_option maxHeartbeats 2000000 in
theorem after1_any (c : Nat) (d : Sl) (vs : List Int) (x : RecA) (w : World) (hc : w.heap[c]? = some (capS d)) (hv : SlR w d vs) (hx : i64' x.r.st.site) :
    Calls Tryz.prog 94 #[.agg #[.int .i64 x.r.st.clock, .int .i64 x.r.st.site, .int .i64 x.r.st.seq], .pointer (some ⟨c, 0, none⟩)] w fun e w' => e = .returned (.bool (laterP vs x.m)) ∧ Below w.heap.size w w' := by
  have HVs := Lib.hid hv
  have A1 := fun wx hb => at_any d.a d.n d.c vs x.r.st.site wx ((HVs.out.below (w' := wx) hb).r) HVs.out.nc HVs.out.cb hx.1 hx.2
  have K0 : Kn w.heap.size w [(c, capS d)] w := (Kn.start w).put hc
  show Calls _ _ _ _ fun e w' => e = .returned (.bool (decide (atV vs x.r.st.site < x.r.st.seq))) ∧ Below w.heap.size w w'
  generalize hA : atV vs x.r.st.site = A at *
  generalize x.r.st = s at *
  clear hv hA hc
  go_enter Tryz.func94, Tryz.ntmps94
  go_upto_region 1 with fail
  generalize hw1 : World.alloc _ _ = w1
  have KK := Lib.hid (show Kn w.heap.size w [(w.heap.size, Obj.cells #[.int .i64 s.clock, .int .i64 s.site, .int .i64 s.seq] 58 (0, 0)), (c, capS d)] w1 by rw [← hw1]; exact K0.new' rfl _)
  clear hw1 K0
  obtain ⟨p, hp⟩ : ∃ p, w.heap.size = p := ⟨_, rfl⟩
  rw [hp] at KK A1 ⊢
  refine wp_region_held_drew (S := (fun wx => wx.cell? ⟨p, 1, none⟩ = some (.int .i64 s.site) ∧ wx.cell? ⟨p, 2, none⟩ = some (.int .i64 s.seq) ∧ wx.cell? ⟨c, 0, none⟩ = some (.slice d.a d.n d.c))) (by kernel_rfl) ?_ (fun hHeld => ?_)
  focus ((try dsimp only); (try (exact st_held (p := p) (c := c) (s := s) (d := d) KK.out (by simp) (by simp) (by rfl))); done)
  (refine wpAnyH_take (i := 0) (oi := ⟨some 4, Go.Op.fieldAddr 58 (.tmp 2) 2, 0, _, _, none⟩) (v := ?_) rfl (by kernel_rfl) (by kernel_rfl) (by kernel_rfl) (fun _ _ _ h => h) (Or.inl ⟨by rfl, ?_⟩) (by assumption) ?_; rotate_left; (focus (intro w hSw; ((try dsimp only at hSw); go_simp; try with_reducible rfl))); (try simp only [Act.put, sA, sZ, sS]))
  (refine wpAnyH_take (i := 1) (oi := ⟨some 5, Go.Op.load 3 (.tmp 4), 3, _, _, none⟩) (v := ?_) rfl (by kernel_rfl) (by kernel_rfl) (by kernel_rfl) (fun _ _ _ h => h) (Or.inl ⟨by rfl, ?_⟩) (by assumption) ?_; rotate_left; (focus (intro w hSw; ((try dsimp only at hSw); go_simp; try with_reducible rfl))); (try simp only [Act.put, sA, sZ, sS]))
  (refine wpAnyH_take (i := 2) (oi := ⟨some 6, Go.Op.load 23 (.tmp 1), 23, _, _, none⟩) (v := ?_) rfl (by kernel_rfl) (by kernel_rfl) (by kernel_rfl) (fun _ _ _ h => h) (Or.inl ⟨by rfl, ?_⟩) (by assumption) ?_; rotate_left; (focus (intro w hSw; ((try dsimp only at hSw); go_simp; try with_reducible rfl))); (try simp only [Act.put, sA, sZ, sS]))
  (refine wpAnyH_take (i := 3) (oi := ⟨some 7, Go.Op.fieldAddr 58 (.tmp 2) 1, 0, _, _, none⟩) (v := ?_) rfl (by kernel_rfl) (by kernel_rfl) (by kernel_rfl) (fun _ _ _ h => h) (Or.inl ⟨by rfl, ?_⟩) (by assumption) ?_; rotate_left; (focus (intro w hSw; ((try dsimp only at hSw); go_simp; try with_reducible rfl))); (try simp only [Act.put, sA, sZ, sS]))
  (refine wpAnyH_take (i := 4) (oi := ⟨some 8, Go.Op.load 3 (.tmp 7), 3, _, _, none⟩) (v := ?_) rfl (by kernel_rfl) (by kernel_rfl) (by kernel_rfl) (fun _ _ _ h => h) (Or.inl ⟨by rfl, ?_⟩) (by assumption) ?_; rotate_left; (focus (intro w hSw; ((try dsimp only at hSw); go_simp; try with_reducible rfl))); (try simp only [Act.put, sA, sZ, sS]))
  (refine wpAnyH_ready (rs := [5]) (by kernel_rfl) (by simp) ?_; refine AllReadyH.cons (o := ⟨some 9, Go.Op.call { callee := Go.Callee.value (.func 89), args := #[.tmp 6, .tmp 8], argTypes := #[23, 3] }, 3, _, _, none⟩) rfl (fun K hK => ?_) AllReadyH.nil; go_simp; ((first | (go_at_call 89; refine (A1 _ (Kn.same KK.out (by rfl) (by rfl) (by rfl) (by rfl)).b).mono ?_; rintro e wn ⟨rfl, dn⟩; have KK := Lib.hid (Kn.later KK.out dn rfl rfl rfl rfl)))); go_wp2_with fail; refine hK.out _ _ ?_ (fun hHeld => ?_); (focus ((try dsimp only); (try (exact st_held (p := p) (c := c) (s := s) (d := d) KK.out (by simp) (by simp) (by rfl))); done)); clear hK; (try simp only [Act.put, sA, sZ, sS]))
  (refine wpAnyH_take (i := 6) (oi := ⟨some 10, Go.Op.binOp Go.BinOp.gtr 3 (.tmp 5) (.tmp 9) 3, 4, _, _, none⟩) (v := ?_) rfl (by kernel_rfl) (by kernel_rfl) (by kernel_rfl) (fun _ _ _ h => h) (Or.inl ⟨by rfl, ?_⟩) (by assumption) ?_; rotate_left; (focus (intro w hSw; ((try dsimp only at hSw); go_simp; try with_reducible rfl))); (try simp only [Act.put, sA, sZ, sS]))
  (refine wpAnyH_take (i := 7) (oi := ⟨some 3, Go.Op.assign (.tmp 10), 4, _, _, none⟩) (v := ?_) rfl (by kernel_rfl) (by kernel_rfl) (by kernel_rfl) (fun _ _ _ h => h) (Or.inl ⟨by rfl, ?_⟩) (by assumption) ?_; rotate_left; (focus (intro w hSw; ((try dsimp only at hSw); go_simp; try with_reducible rfl))); (try simp only [Act.put, sA, sZ, sS]))
  refine wpAnyH_done (by kernel_rfl) ?_ _
  go_wp2_with fail
  go_ret
  exact ⟨rfl, by rw [hp]; exact (Kn.same KK.out rfl rfl rfl rfl).b⟩
end
end Go.Proofs.YtglabahbklpocaaGreat
namespace Go.Proofs.YtglabahbklpocaaGreat
section
open Go.RowKit Go.Deep
set_option maxRecDepth 100000
set_option linter.unusedVariables false
set_option linter.unusedSimpArgs false
attribute [local go_sem ↓] Go.wp_at_zero Go.wp_at_succ
set_option maxHeartbeats 8000000 in
theorem those_after (F : List Nat) (g : Nat) (m : LogM) (most : Int) (c : Nat) (P : RcM → Bool) (w : World) (hL : LogAt w F g m) (hm0 : i64' most)
    (HP : ∀ x : RecA, x.m ∈ m.xs → ∀ wx, Below w.heap.size w wx → Calls Tryz.prog 94 #[.agg #[.int .i64 x.r.st.clock, .int .i64 x.r.st.site, .int .i64 x.r.st.seq], .pointer (some ⟨c, 0, none⟩)] wx fun e w' => e = .returned (.bool (P x.m)) ∧ Below wx.heap.size wx w') :
    Calls Tryz.prog 93 #[.pointer (some ⟨g, 0, none⟩), .int .i64 most, .func (.func 94) #[] #[.pointer (some ⟨c, 0, none⟩)]] w fun e w' => ∃ d : Sl, e = .returned (.slice d.a d.n d.c) ∧ RecsAt w' d (thoseM m most P) ∧ Below w.heap.size w w' := by
  obtain ⟨b, k, a, rs, hg, hc⟩ := hL
  have c3 : w.cell? ⟨g, 3, none⟩ = some (.slice a.a a.n a.c) := by simp only [World.cell?, hg, logO]; rfl
  have HC := Lib.hid hc
  have hn := hc.sm
  have hlen := hc.ha.1
  have HX : Hid (m.xs = rs.map RecA.m) := hc.xs
  obtain ⟨V, HV⟩ : ∃ V, Hid (V = thoseM m most P) := ⟨_, rfl⟩
  rw [← HV.out]
  clear hg hc
  obtain ⟨aa, an, acp⟩ := a
  simp only at *
  go_enter Tryz.func93, Tryz.ntmps93
  go_wp2_with fail
  go_step3
  go_wp2_with fail
  go_step3
  go_wp2_with fail
  go_loopw [7, 17] (fun out i wr => ∃ (j n cap : Nat) (a2 : Option Addr) (os : List RecA), j ≤ an ∧ i = .int .i64 j ∧ out = .slice a2 n cap ∧ AppE RecA.cs 60 9 wr w.heap.size a2 n cap os ∧ (∀ x ∈ os, RcT wr x) ∧ os.map RecA.m = (m.xs.take j).filter P ∧ (n : Int) ≤ max most 0 ∧ n ≤ j ∧ Below w.heap.size w wr) (fun _ i _ => an + 1 - (intOf i).toNat)
  case atStart => exact ⟨0, 0, 0, none, [], by omega, rfl, rfl, appE_nil _ _, by simp, by simp, by omega, by omega, Below.refl _ _⟩
  case round =>
    obtain ⟨j, n, cap, a2, os, hj, rfl, rfl, hA, hO, hmap, hmx, hnj, hbel⟩ := hrel
    have HA := Lib.hid hA
    have HO := Lib.hid hO
    have HM := Lib.hid hmap
    have hos : os.length = n := hA.len
    have hzz := hbel.size
    clear hA hO hmap
    by_cases hlt : j < an
    · have t1 : decide ((j : Int) < (an : Int)) = true := decide_eq_true (by omega)
      obtain ⟨bb, oo, x, rfl, hbl, hxj, hCx⟩ := HC.out.ha.at hbel j hlt
      skip
      have hxm : m.xs[j]? = some x.m := by rw [HX.out, List.getElem?_map, hxj]; rfl
      have hxo := (HC.out.below hbel).ok x (List.mem_of_getElem? hxj)
      have hx8 := (HC.out.fr x (List.mem_of_getElem? hxj)).2
      have HPX := fun wx hb => HP x (List.mem_of_getElem? hxm) wx hb
      have HXO := Lib.hid hxo
      have HS := Lib.hid (take_filter_snoc P m.xs j x.m hxm)
      have i1 : (0 : Int) ≤ (j : Int) := by omega
      have i2 : (j : Int) < (an : Int) := by omega
      clear hxo hxm
      obtain ⟨r, d, ds⟩ := x
      have HCX := Lib.hid (show CellsAt wr bb (oo + j * 9) (rcA r d).toList from hCx)
      clear hCx
      go_upto_region 7 with (first
        | refine wpList_load_mid rfl 60 _ rfl bb (oo + j * 9) rfl (rcA r d).toList _ HCX.out Tryz.underlying60 rfl (by kernel_rfl) ?_
        | (refine wpList_store_row rfl 60 _ _ rfl _ (rcA r d) rfl rfl 60 _ (heap_alloc_new _ _) (by kernel_rfl) rfl (by simp [Value.oneCell', rcA]) ?_; rw [World.setRow_alloc_new]))
      have KK := Lib.hid (show Kn wr.heap.size wr [(wr.heap.size, rcO r d)] (wr.alloc (.cells (rcA r d) 60 (0, 0))) from (Kn.start wr).new (rcO r d))
      obtain ⟨p, hp⟩ : ∃ p, wr.heap.size = p := ⟨_, rfl⟩
      generalize wr.alloc (.cells (rcA r d) 60 (0, 0)) = w1 at *
      by_cases hfull : most ≤ (n : Int)
      · have t2 : decide (most ≤ (n : Int)) = true := decide_eq_true hfull
        have HV := Lib.hid (HV.out.trans (show thoseM m most P = os.map RecA.m by unfold thoseM; rw [HM.out]; exact take_filter_pre P m.xs j _ (by rw [← HM.out, List.length_map, hos]; omega)))
        have hA1 := HA.out.below KK.out.b
        have hle := hA1.le
        have hmax : cap ≤ 9223372036854775807 := maxLen_i hA1.max
        have hB1 := below_then hbel hzz KK.out.b
        have hO1 : ∀ x ∈ os, RcT w1 x := fun x hx => (HO.out x hx).below KK.out.b
        have FIN := Lib.hid (And.intro hA1 (And.intro hB1 hO1))
        clear hA1 hB1 hO1 hfull
        go_wp2_with fail
        first | rw [Exit.noGoto_ret] | skip
        go_ret
        rw [HV.out]
        exact ⟨⟨a2, n, cap⟩, rfl, ⟨⟨os, (AppE.reads rec_len (by decide) FIN.out.1).1, rfl, fun x hx => ⟨(FIN.out.2.2 x hx).ok, (FIN.out.2.2 x hx).n8⟩, fun x hx => (FIN.out.2.2 x hx).ti, FIN.out.1.tr⟩, hle, hmax⟩, FIN.out.2.1⟩
      · have t2 : decide (most ≤ (n : Int)) = false := decide_eq_false hfull
        have HPW := HPX w1 (below_then hbel hzz KK.out.b)
        simp only at HPW
        rw [hp] at KK ⊢
        obtain ⟨b0, b1, b2, b3, b4, b5, b6, b7, b8⟩ := rec_fields (p := p) (r := r) (d := d) KK.out (by simp)
        obtain ⟨PB, hPB⟩ : ∃ PB, P (RecA.m ⟨r, d, ds⟩) = PB := ⟨_, rfl⟩
        rw [hPB] at HPW
        have HS := HS.out
        simp only [hPB] at HS
        have HS := Lib.hid HS
        clear hPB HPX
        cases PB
        · have HS := Lib.hid (show (m.xs.take (j + 1)).filter P = (m.xs.take j).filter P by rw [HS.out]; simp)
          go_wp2_with (first | (go_at_call 94; refine (HPW).mono ?_; rintro e w2 ⟨rfl, d2⟩; have KK := Lib.hid (KK.out.below d2)))
          have hB2 : Below wr.heap.size wr w2 := by rw [hp]; exact KK.out.b
          go_roundw
          case rel => exact ⟨j + 1, n, cap, a2, os, by omega, by go_num, rfl, HA.out.below hB2, fun x hx => (HO.out x hx).below hB2, by rw [HS.out]; exact HM.out, hmx, by omega, below_then hbel hzz hB2⟩
          case measure => simp [intOf]; omega
        · have HS := Lib.hid (show (m.xs.take (j + 1)).filter P = (m.xs.take j).filter P ++ [RecA.m ⟨r, d, ds⟩] by rw [HS.out]; simp)
          have CP : ∀ wx, Below p wr wx → Calls Tryz.prog 90 #[.agg (rcA r d)] wx fun e w' => ∃ d' : Sl, e = .returned (.agg #[.int .i64 r.kind, .string r.series, .int .i64 r.time, .int .i64 r.value, .int .i64 r.tier, .int .i64 r.st.clock, .int .i64 r.st.site, .int .i64 r.st.seq, .slice d'.a d'.n d'.c]) ∧ SlR w' d' ds ∧ fresh wx.heap.size d' ∧ d'.n = d.n ∧ Below wx.heap.size wx w' ∧ TI w' d' := fun wx hb => copied_any2 ⟨r, d, ds⟩ wx ⟨HXO.out.wf, HXO.out.sl.below (by rw [hp]; exact hb)⟩ (by show d.n ≤ 1000; simp only at hx8; omega)
          go_wp2_with (first
            | (go_at_call 94; refine (HPW).mono ?_; rintro e w2 ⟨rfl, d2⟩; have KK := Lib.hid (KK.out.below d2))
            | refine wpList_load_row rfl 60 _ rfl p rfl 60 (rcA r d) (0, 0) _ KK.out.hd Tryz.underlying60 rfl (by kernel_rfl) ?_
            | (go_at_call 90; refine (CP _ KK.out.b).mono ?_; rintro e w3 ⟨d', rfl, hS, hfr, hdd, dn, hTI⟩; have HDD := Lib.hid hdd; clear hdd; have KK := Lib.hid (KK.out.below dn))
            | (at_builtin; refine wpList_append_G (B := w.heap.size) (a := a2) (n := n) (cap := cap) (l := os) rec_ety rfl _ _ rfl _ rfl ?q1 ?q2 ?q3 w3.heap.size 1 ⟨r, d', ds⟩ rfl ?q4 ?q5))
          case q1 => exact (HA.out.below (by rw [hp]; exact KK.out.b)).below ((Below.refl _ _).alloc (Nat.le_refl _) _)
          case q2 => have := KK.out.le; simp; omega
          case q3 => omega
          case q4 => exact (rec_new w3 r d' ds 0 _ rfl)
          case q5 =>
            intro a3 cap3 w5 hA5 hb5 hg5
            have hB3 : Below wr.heap.size wr w3 := by rw [hp]; exact KK.out.b
            have hA3 := (HA.out.below hB3).below ((Below.refl _ _).alloc (Nat.le_refl _) (.cells #[.int .i64 r.kind, .string r.series, .int .i64 r.time, .int .i64 r.value, .int .i64 r.tier, .int .i64 r.st.clock, .int .i64 r.st.site, .int .i64 r.st.seq, .slice d'.a d'.n d'.c] 60))
            have hn3 : RcT w3 ⟨r, d', ds⟩ := ⟨⟨HXO.out.wf, hS⟩, hTI, by show d'.n ≤ 8; rw [HDD.out]; exact hx8⟩
            have hO5 : ∀ x ∈ os ++ [⟨r, d', ds⟩], RcT w5 x := fun x hx => by
              refine RcT.grown (RcT.below ?_ ((Below.refl _ _).alloc (Nat.le_refl _) _)) hA3 hg5
              rcases List.mem_append.1 hx with hx | hx
              · exact (HO.out x hx).below hB3
              · simp only [List.mem_singleton] at hx
                rw [hx]; exact hn3
            have hsz3 : w.heap.size ≤ w3.heap.size := by have := hB3.size; omega
            have FIN := Lib.hid (And.intro hA5 (And.intro hO5 ((below_then hbel hzz hB3).trans (((Below.refl w.heap.size w3).alloc hsz3 _).trans hb5))))
            clear hA5 hb5 hg5 hA3 hn3 hO5
            go_wp2_with fail
            go_roundw
            case rel => exact ⟨j + 1, n + 1, cap3, a3, os ++ [⟨r, d', ds⟩], by omega, by go_num, rfl, FIN.out.1, FIN.out.2.1, by rw [HS.out, List.map_append, HM.out]; rfl, by omega, by omega, FIN.out.2.2⟩
            case measure => simp [intOf]; omega
    · obtain rfl : j = an := by omega
      have t1 : decide ((j : Int) < (j : Int)) = false := decide_eq_false (by omega)
      have hml : m.xs.length = j := by rw [HX.out, List.length_map]; exact hlen
      have HV := Lib.hid (HV.out.trans (show thoseM m most P = os.map RecA.m by
        unfold thoseM
        have h1 := HM.out
        rw [List.take_of_length_le (by omega)] at h1
        rw [← h1, List.take_of_length_le (by rw [List.length_map, hos]; omega)]))
      have hle := HA.out.le
      have hmax : cap ≤ 9223372036854775807 := maxLen_i HA.out.max
      have FIN := Lib.hid (And.intro HA.out (And.intro hbel HO.out))
      clear hml
      go_wp2_with fail
      first | rw [Exit.noGoto_ret] | skip
      go_ret
      rw [HV.out]
      exact ⟨⟨a2, n, cap⟩, rfl, ⟨⟨os, (AppE.reads rec_len (by decide) FIN.out.1).1, rfl, fun x hx => ⟨(FIN.out.2.2 x hx).ok, (FIN.out.2.2 x hx).n8⟩, fun x hx => (FIN.out.2.2 x hx).ti, FIN.out.1.tr⟩, hle, hmax⟩, FIN.out.2.1⟩
end
end Go.Proofs.YtglabahbklpocaaGreat
