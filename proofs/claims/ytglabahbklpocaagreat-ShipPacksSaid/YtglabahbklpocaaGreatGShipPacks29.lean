/- ship.Check: messages that ask, and those that bear records. -/
import Derived.Test.YtglabahbklpocaaGreatGShipPacks16
import Derived.Test.YtglabahbklpocaaGreatGShipPacks28
namespace Go.Proofs.YtglabahbklpocaaGreat
section
open Go.RowKit Go.Deep
set_option maxRecDepth 100000
set_option linter.unusedVariables false
set_option linter.unusedSimpArgs false
attribute [local go_sem ↓] Go.wp_at_zero Go.wp_at_succ
theorem wpList_load_mid_w {P : Program} {ops : Array Oper} {rest : List Oper} {o : Oper} {a : Act} {w : World} {Q : Exit → Act → World → Prop} (hw : Region.wanted o (yielded ops a.tmps) = true) (ty : TypeId) (x : Operand) (ho : o.op = .load ty x)
    (b off : Nat) (hx : a.eval x = .pointer (some ⟨b, off, none⟩)) (cs : List Value) (d : TypeDesc) (hc : w.rangeAt b off cs)
    (hu : P.underlying ty = some d) (hd : d.isRow = true) (hi : (P.info? ty).map (·.size) = some cs.length)
    (h : wpList P ops Q rest (a.put o.dst (.agg cs.toArray)) w) : wpList P ops Q (o :: rest) a w := by
  unfold wpList
  rw [if_pos hw]
  exact .inl (wp_load_mid ty x ho b off hx cs d hc hu hd hi h)
def spO (f t : Int) : Obj := .cells #[.int .i64 f, .int .i64 t] 30 (0, 0)
set_option maxHeartbeats 4000000 in
theorem wcheck_any (f t : Int) (w : World) : Calls Tryz.prog 65 #[.agg #[.int .i64 f, .int .i64 t]] w fun e w' => e = .returned (.int .i64 (if spanV f t = true then 0 else 1)) ∧ Below w.heap.size w w' := by
  obtain ⟨V, HV⟩ : ∃ V : Int, Hid (V = if spanV f t = true then 0 else 1) := ⟨_, rfl⟩
  rw [← HV.out]
  go_enter Tryz.func65, Tryz.ntmps65
  go_upto_region 1 with fail
  generalize hw1 : World.alloc _ _ = w1
  have KK := Lib.hid (show Kn w.heap.size w [(w.heap.size, spO f t)] w1 by rw [← hw1]; exact (Kn.start w).new' rfl (spO f t))
  clear hw1
  have c0 := KK.out.cell (g := w.heap.size) (o := spO f t) (by simp) (j := 0) (v := .int .i64 f) rfl
  have c1 := KK.out.cell (g := w.heap.size) (o := spO f t) (by simp) (j := 1) (v := .int .i64 t) rfl
  by_cases h1 : f < 0
  · have t1 : decide (f < 0) = true := decide_eq_true h1
    have t4 : spanV f t = false := by unfold spanV; rw [decide_eq_false (by omega)]; rfl
    go_wp2_with fail
    go_ret
    exact ⟨by rw [HV.out, t4]; rfl, KK.out.b⟩
  · have t1 : decide (f < 0) = false := decide_eq_false h1
    by_cases h2 : t < f
    · have t2 : decide (t < f) = true := decide_eq_true h2
      have t4 : spanV f t = false := by unfold spanV; rw [decide_eq_false (show ¬ f ≤ t by omega)]; simp
      go_wp2_with fail
      go_ret
      exact ⟨by rw [HV.out, t4]; rfl, KK.out.b⟩
    · have t2 : decide (t < f) = false := decide_eq_false h2
      by_cases h3 : t > 1099511627777
      · have t3 : decide (t > 1099511627777) = true := decide_eq_true h3
        have t4 : spanV f t = false := by unfold spanV; rw [decide_eq_false (show ¬ t ≤ 1099511627777 by omega)]; simp
        go_wp2_with fail
        go_ret
        exact ⟨by rw [HV.out, t4]; rfl, KK.out.b⟩
      · have t3 : decide (t > 1099511627777) = false := decide_eq_false h3
        have t4 : spanV f t = true := by unfold spanV; rw [decide_eq_true (show 0 ≤ f by omega), decide_eq_true (show f ≤ t by omega), decide_eq_true (show t ≤ 1099511627777 by omega)]; rfl
        go_wp2_with fail
        go_ret
        exact ⟨by rw [HV.out, t4]; rfl, KK.out.b⟩
theorem span_range {w wd : World} {g : Nat} {x : Wi} (h : w.heap[g]? = some (wiO x)) (e : wd.heap = w.heap) : wd.rangeAt g 3 [.int .i64 x.from_, .int .i64 x.to_] := by
  have c := wi_cells h e
  intro j v hj
  match j with
  | 0 => simp at hj; subst hj; exact c.c3
  | 1 => simp at hj; subst hj; exact c.c4
  | j + 2 => simp at hj
set_option maxHeartbeats 8000000 in
theorem check3_any (x : Wi) (w : World) (hk : x.kind = 3) (hf : i64' x.from_) (ht : i64' x.to_) (hs : x.series.size ≤ 9223372036854775807) : Calls Tryz.prog 16 #[.agg x.arr] w fun e w' => e = .returned (.int .i64 (if x.none false true false false false = true ∧ nameV x.series = true ∧ spanV x.from_ x.to_ = true ∧ idV x.id = true then 0 else 1)) ∧ Below w.heap.size w w' := by
  have NN := fun wx => none_ftfff x wx hf ht
  have NM := fun wx => name_any x.series wx hs
  have SC := fun wx => wcheck_any x.from_ x.to_ wx
  obtain ⟨B, hB⟩ : ∃ B, x.none false true false false false = B := ⟨_, rfl⟩
  obtain ⟨N, hN⟩ : ∃ N, nameV x.series = N := ⟨_, rfl⟩
  obtain ⟨S, hS⟩ : ∃ S, spanV x.from_ x.to_ = S := ⟨_, rfl⟩
  rw [hB] at NN ⊢
  rw [hN] at NM ⊢
  rw [hS] at SC ⊢
  clear hB hf ht hs hN hS
  obtain ⟨kind, id, series, from_, to_, np, nr, vec, time⟩ := x
  simp only at hk
  subst hk
  unfold Wi.arr at *
  simp only at NN ⊢
  go_enter Tryz.func16, Tryz.ntmps16
  go_upto_region 2 with fail
  generalize hw1 : World.alloc _ _ = w1
  have KK := Lib.hid (show Kn w.heap.size w [(w.heap.size, wiO ⟨3, id, series, from_, to_, np, nr, vec, time⟩)] w1 by rw [← hw1]; exact (Kn.start w).new' rfl (wiO ⟨3, id, series, from_, to_, np, nr, vec, time⟩))
  clear hw1
  generalize hg : w.heap.size = g at *
  have c0 := (wi_cells KK.out.hd rfl).c0
  simp only at c0
  cases B
  · skip
    go_wp2_with fail
    go_step3
    go_wp2_with fail
    go_step3
    go_wp2_with (first
      | refine wpList_load_row rfl 33 _ rfl g rfl 33 (Wi.arr ⟨3, id, series, from_, to_, np, nr, vec, time⟩) (0, 0) _ KK.out.hd Tryz.underlying33 rfl (by kernel_rfl) ?_
      | refine wpList_load_mid_w (by first | rfl | kernel_rfl) 30 _ rfl g 3 rfl [.int .i64 from_, .int .i64 to_] _ (span_range KK.out.hd rfl) Tryz.underlying30 rfl (by kernel_rfl) ?_
      | (go_at_call 63; refine (NN _).mono ?_; rintro e w2 ⟨rfl, dn⟩; have KK := Lib.hid (KK.out.below dn); clear dn; have c1 := (wi_cells KK.out.hd rfl).c1; have c2 := (wi_cells KK.out.hd rfl).c2; simp only at c1 c2)
      | (go_at_call 64; refine (NM _).mono ?_; rintro e w3 ⟨rfl, rfl⟩)
      | (go_at_call 65; refine (SC _).mono ?_; rintro e w3 ⟨rfl, dn⟩; have KK := Lib.hid (KK.out.below dn); clear dn c1 c2; have c1 := (wi_cells KK.out.hd rfl).c1; simp only at c1))
    first | rw [Exit.noGoto_ret] | skip
    go_ret
    exact ⟨by simp [*], by first | exact KK.out.b | (rw [hg]; exact KK.out.b)⟩
  · cases N
    · skip
      go_wp2_with fail
      go_step3
      go_wp2_with fail
      go_step3
      go_wp2_with (first
        | refine wpList_load_row rfl 33 _ rfl g rfl 33 (Wi.arr ⟨3, id, series, from_, to_, np, nr, vec, time⟩) (0, 0) _ KK.out.hd Tryz.underlying33 rfl (by kernel_rfl) ?_
        | refine wpList_load_mid_w (by first | rfl | kernel_rfl) 30 _ rfl g 3 rfl [.int .i64 from_, .int .i64 to_] _ (span_range KK.out.hd rfl) Tryz.underlying30 rfl (by kernel_rfl) ?_
        | (go_at_call 63; refine (NN _).mono ?_; rintro e w2 ⟨rfl, dn⟩; have KK := Lib.hid (KK.out.below dn); clear dn; have c1 := (wi_cells KK.out.hd rfl).c1; have c2 := (wi_cells KK.out.hd rfl).c2; simp only at c1 c2)
        | (go_at_call 64; refine (NM _).mono ?_; rintro e w3 ⟨rfl, rfl⟩)
        | (go_at_call 65; refine (SC _).mono ?_; rintro e w3 ⟨rfl, dn⟩; have KK := Lib.hid (KK.out.below dn); clear dn c1 c2; have c1 := (wi_cells KK.out.hd rfl).c1; simp only at c1))
      first | rw [Exit.noGoto_ret] | skip
      go_ret
      exact ⟨by simp [*], by first | exact KK.out.b | (rw [hg]; exact KK.out.b)⟩
    · cases S
      · skip
        go_wp2_with fail
        go_step3
        go_wp2_with fail
        go_step3
        go_wp2_with (first
          | refine wpList_load_row rfl 33 _ rfl g rfl 33 (Wi.arr ⟨3, id, series, from_, to_, np, nr, vec, time⟩) (0, 0) _ KK.out.hd Tryz.underlying33 rfl (by kernel_rfl) ?_
          | refine wpList_load_mid_w (by first | rfl | kernel_rfl) 30 _ rfl g 3 rfl [.int .i64 from_, .int .i64 to_] _ (span_range KK.out.hd rfl) Tryz.underlying30 rfl (by kernel_rfl) ?_
          | (go_at_call 63; refine (NN _).mono ?_; rintro e w2 ⟨rfl, dn⟩; have KK := Lib.hid (KK.out.below dn); clear dn; have c1 := (wi_cells KK.out.hd rfl).c1; have c2 := (wi_cells KK.out.hd rfl).c2; simp only at c1 c2)
          | (go_at_call 64; refine (NM _).mono ?_; rintro e w3 ⟨rfl, rfl⟩)
          | (go_at_call 65; refine (SC _).mono ?_; rintro e w3 ⟨rfl, dn⟩; have KK := Lib.hid (KK.out.below dn); clear dn c1 c2; have c1 := (wi_cells KK.out.hd rfl).c1; simp only at c1))
        first | rw [Exit.noGoto_ret] | skip
        go_ret
        exact ⟨by simp [*], by first | exact KK.out.b | (rw [hg]; exact KK.out.b)⟩
      · rcases idV_cases id with ⟨h1, h2, h3⟩ | ⟨h1, h2⟩ | ⟨h1, h2, h3⟩
        · skip
          go_wp2_with fail
          go_step3
          go_wp2_with fail
          go_step3
          go_wp2_with (first
            | refine wpList_load_row rfl 33 _ rfl g rfl 33 (Wi.arr ⟨3, id, series, from_, to_, np, nr, vec, time⟩) (0, 0) _ KK.out.hd Tryz.underlying33 rfl (by kernel_rfl) ?_
            | refine wpList_load_mid_w (by first | rfl | kernel_rfl) 30 _ rfl g 3 rfl [.int .i64 from_, .int .i64 to_] _ (span_range KK.out.hd rfl) Tryz.underlying30 rfl (by kernel_rfl) ?_
            | (go_at_call 63; refine (NN _).mono ?_; rintro e w2 ⟨rfl, dn⟩; have KK := Lib.hid (KK.out.below dn); clear dn; have c1 := (wi_cells KK.out.hd rfl).c1; have c2 := (wi_cells KK.out.hd rfl).c2; simp only at c1 c2)
            | (go_at_call 64; refine (NM _).mono ?_; rintro e w3 ⟨rfl, rfl⟩)
            | (go_at_call 65; refine (SC _).mono ?_; rintro e w3 ⟨rfl, dn⟩; have KK := Lib.hid (KK.out.below dn); clear dn c1 c2; have c1 := (wi_cells KK.out.hd rfl).c1; simp only at c1))
          first | rw [Exit.noGoto_ret] | skip
          go_ret
          exact ⟨by simp [*], by first | exact KK.out.b | (rw [hg]; exact KK.out.b)⟩
        · skip
          go_wp2_with fail
          go_step3
          go_wp2_with fail
          go_step3
          go_wp2_with (first
            | refine wpList_load_row rfl 33 _ rfl g rfl 33 (Wi.arr ⟨3, id, series, from_, to_, np, nr, vec, time⟩) (0, 0) _ KK.out.hd Tryz.underlying33 rfl (by kernel_rfl) ?_
            | refine wpList_load_mid_w (by first | rfl | kernel_rfl) 30 _ rfl g 3 rfl [.int .i64 from_, .int .i64 to_] _ (span_range KK.out.hd rfl) Tryz.underlying30 rfl (by kernel_rfl) ?_
            | (go_at_call 63; refine (NN _).mono ?_; rintro e w2 ⟨rfl, dn⟩; have KK := Lib.hid (KK.out.below dn); clear dn; have c1 := (wi_cells KK.out.hd rfl).c1; have c2 := (wi_cells KK.out.hd rfl).c2; simp only at c1 c2)
            | (go_at_call 64; refine (NM _).mono ?_; rintro e w3 ⟨rfl, rfl⟩)
            | (go_at_call 65; refine (SC _).mono ?_; rintro e w3 ⟨rfl, dn⟩; have KK := Lib.hid (KK.out.below dn); clear dn c1 c2; have c1 := (wi_cells KK.out.hd rfl).c1; simp only at c1))
          first | rw [Exit.noGoto_ret] | skip
          go_ret
          exact ⟨by simp [*], by first | exact KK.out.b | (rw [hg]; exact KK.out.b)⟩
        · skip
          go_wp2_with fail
          go_step3
          go_wp2_with fail
          go_step3
          go_wp2_with (first
            | refine wpList_load_row rfl 33 _ rfl g rfl 33 (Wi.arr ⟨3, id, series, from_, to_, np, nr, vec, time⟩) (0, 0) _ KK.out.hd Tryz.underlying33 rfl (by kernel_rfl) ?_
            | refine wpList_load_mid_w (by first | rfl | kernel_rfl) 30 _ rfl g 3 rfl [.int .i64 from_, .int .i64 to_] _ (span_range KK.out.hd rfl) Tryz.underlying30 rfl (by kernel_rfl) ?_
            | (go_at_call 63; refine (NN _).mono ?_; rintro e w2 ⟨rfl, dn⟩; have KK := Lib.hid (KK.out.below dn); clear dn; have c1 := (wi_cells KK.out.hd rfl).c1; have c2 := (wi_cells KK.out.hd rfl).c2; simp only at c1 c2)
            | (go_at_call 64; refine (NM _).mono ?_; rintro e w3 ⟨rfl, rfl⟩)
            | (go_at_call 65; refine (SC _).mono ?_; rintro e w3 ⟨rfl, dn⟩; have KK := Lib.hid (KK.out.below dn); clear dn c1 c2; have c1 := (wi_cells KK.out.hd rfl).c1; simp only at c1))
          first | rw [Exit.noGoto_ret] | skip
          go_ret
          exact ⟨by simp [*], by first | exact KK.out.b | (rw [hg]; exact KK.out.b)⟩
/-- A slice of records. -/
structure RecsV (w : World) (d : Sl) (rs : List RecA) : Prop where
  r : ReadsE RecA.cs 9 w d.a d.n rs
  ok : ∀ x ∈ rs, x.ok w
  nc : d.n ≤ d.c
  cb : d.c ≤ 9223372036854775807
theorem RecsV.below {w w' : World} {d : Sl} {rs : List RecA} (h : RecsV w d rs) (hb : Below w.heap.size w w') : RecsV w' d rs := ⟨h.r.below hb, fun x hx => (h.ok x hx).below hb, h.nc, h.cb⟩
def okRecs (rs : List RecA) : Prop := ∀ x ∈ rs, recP x.r x.ds
open Classical in
noncomputable def okQ (rs : List RecA) : Bool := decide (okRecs rs)
open Classical in
theorem okQ_true {rs : List RecA} (h : okRecs rs) : okQ rs = true := by unfold okQ; rw [decide_eq_true_iff]; exact h
open Classical in
theorem okQ_false {rs : List RecA} (h : ¬ okRecs rs) : okQ rs = false := by unfold okQ; rw [decide_eq_false_iff_not]; exact h
theorem hq1_any (x : RecA) (w : World) (hx : x.ok w) : Calls Tryz.prog 68 #[x.val] w fun e w' => e = .returned (.bool (chkR x.r x.ds != 0)) ∧ Below w.heap.size w w' := by
  obtain ⟨r, d, ds⟩ := x
  have HX := Lib.hid hx
  have C1 := fun wx (hb : Below w.heap.size w wx) => scheck_any r d ds wx hx.wf (HX.out.below hb).sl
  have KK := Lib.hid ((Kn.start w).new (rcO r d))
  unfold rcO at KK
  unfold RecA.val
  unfold rcVal at C1 ⊢
  unfold rcA at *
  clear hx
  go_enter Tryz.func68, Tryz.ntmps68
  go_wp2_with (first | (go_at_call 69; refine (C1 _ KK.out.b).mono ?_; rintro e wn ⟨rfl, dn⟩; have KK := Lib.hid (KK.out.below dn)))
  go_ret
  exact ⟨rfl, KK.out.b⟩
theorem rec_cells9 {w : World} {b o : Nat} {r : Rc} {d : Sl} (h : CellsAt w b o (rcA r d).toList) : w.cell? ⟨b, o, none⟩ = some (.int .i64 r.kind) ∧ w.cell? ⟨b, o + 1, none⟩ = some (.string r.series) ∧ w.cell? ⟨b, o + 2, none⟩ = some (.int .i64 r.time) ∧ w.cell? ⟨b, o + 3, none⟩ = some (.int .i64 r.value) ∧ w.cell? ⟨b, o + 4, none⟩ = some (.int .i64 r.tier) ∧ w.cell? ⟨b, o + 5, none⟩ = some (.int .i64 r.st.clock) ∧ w.cell? ⟨b, o + 6, none⟩ = some (.int .i64 r.st.site) ∧ w.cell? ⟨b, o + 7, none⟩ = some (.int .i64 r.st.seq) ∧ w.cell? ⟨b, o + 8, none⟩ = some (.slice d.a d.n d.c) :=
  ⟨h 0 _ rfl, h 1 _ rfl, h 2 _ rfl, h 3 _ rfl, h 4 _ rfl, h 5 _ rfl, h 6 _ rfl, h 7 _ rfl, h 8 _ rfl⟩
set_option maxHeartbeats 4000000 in
theorem hidxR_any (a : Option Addr) (n c : Nat) (xs : List RecA) (w : World) (h : RecsV w ⟨a, n, c⟩ xs) :
    Calls Tryz.prog 122 #[.slice a n c, .func (.func 68) #[] #[]] w fun e w' => ∃ i : Int, e = .returned (.int .i64 i) ∧ decide (0 ≤ i) = !(okQ xs) ∧ Below w.heap.size w w' := by
  have l1 : xs.length = n := h.r.1
  have hnc : n ≤ c := h.nc
  have hcb : c ≤ 9223372036854775807 := h.cb
  have H := Lib.hid h
  clear h
  go_enter Tryz.func122, Tryz.ntmps122
  go_wp2_with fail
  go_loopw [8] (fun i wr => ∃ k : Nat, k ≤ n ∧ i = .int .i64 k ∧ okRecs (xs.take k) ∧ Below w.heap.size w wr) (fun i _ => n - (intOf i).toNat)
  case atStart => exact ⟨0, by omega, rfl, by intro p hp; simp at hp, Below.refl _ _⟩
  case round =>
    obtain ⟨k, hk, rfl, he, hb⟩ := hrel
    have HE := Lib.hid he
    clear he
    by_cases hlt : k < n
    · have t2 : decide ((k : Int) < (n : Int)) = true := decide_eq_true (by omega)
      obtain ⟨b, o, x, rfl, _, hxk, hC⟩ := H.out.r.at hb k hlt
      obtain ⟨a0, a1, a2, a3, a4, a5, a6, a7, a8⟩ := rec_cells9 hC
      have i1 : (0 : Int) ≤ (k : Int) := by omega
      have i2 : (k : Int) < (n : Int) := by omega
      have C1 := hq1_any x wr ((H.out.ok x (List.mem_of_getElem? hxk)).below hb)
      have HT : Hid (xs.take (k + 1) = xs.take k ++ [x]) := by show _ = _; rw [List.take_add_one, hxk]; rfl
      have hzz := hb.size
      clear hC
      have h01 : chkR x.r x.ds = 0 ∨ chkR x.r x.ds = 1 := by unfold chkR; split <;> simp
      rcases h01 with h0 | h0
      · have HN : Hid (okRecs (xs.take (k + 1))) := by
          show okRecs _
          rw [HT.out]
          intro p hp
          rcases List.mem_append.1 hp with hp | hp
          · exact HE.out p hp
          · simp only [List.mem_singleton] at hp
            subst hp
            rcases Classical.em (recP p.r p.ds) with h1 | h1
            · exact h1
            · rw [chkR_1 h1] at h0; cases h0
        rw [h0, show ((0 : Int) != 0) = false from rfl] at C1
        clear h0
        unfold RecA.val rcVal rcA at C1
        go_wp2_with (first | (go_at_call 68; refine (C1).mono ?_; rintro e wn ⟨rfl, dn⟩; have hb := below_then hb hzz dn))
        go_roundw
        case rel => exact ⟨k + 1, by omega, by go_num, HN.out, hb⟩
        case measure => simp [intOf]; omega
      · have HN : Hid (okQ xs = false) := by
          show _ = _
          refine okQ_false (fun hh => ?_)
          have := hh x (List.mem_of_getElem? hxk)
          rw [chkR_0 this] at h0
          cases h0
        rw [h0, show ((1 : Int) != 0) = true from rfl] at C1
        clear h0
        unfold RecA.val rcVal rcA at C1
        go_wp2_with (first | (go_at_call 68; refine (C1).mono ?_; rintro e wn ⟨rfl, dn⟩; have hb := below_then hb hzz dn))
        go_ret
        exact ⟨k, rfl, by rw [HN.out]; simp, hb⟩
    · obtain rfl : k = n := by omega
      have t2 : decide ((k : Int) < (k : Int)) = false := decide_eq_false (by omega)
      have HN : Hid (okQ xs = true) := by
        show _ = _
        refine okQ_true ?_
        have := HE.out
        rwa [List.take_of_length_le (by omega)] at this
      go_wp2_with fail
      go_ret
      exact ⟨-1, rfl, by rw [HN.out]; rfl, hb⟩
theorem hcontR_any (a : Option Addr) (n c : Nat) (xs : List RecA) (w : World) (h : RecsV w ⟨a, n, c⟩ xs) :
    Calls Tryz.prog 67 #[.slice a n c, .func (.func 68) #[] #[]] w fun e w' => e = .returned (.bool (!(okQ xs))) ∧ Below w.heap.size w w' := by
  have C := hidxR_any a n c xs w h
  go_enter Tryz.func67, Tryz.ntmps67
  go_wp2_with fail
  refine C.mono ?_
  rintro e w1 ⟨i, rfl, hi, d1⟩
  go_wp2_with fail
  go_ret
  exact ⟨rfl, d1⟩
set_option maxHeartbeats 8000000 in
theorem check7_any (x : Wi) (rs : List RecA) (vs : List Int) (w : World) (hk : x.kind = 7) (hf : i64' x.from_) (ht : i64' x.to_) (hv : SlR w x.vec vs) (hr : RecsV w x.nr rs) : Calls Tryz.prog 16 #[.agg x.arr] w fun e w' => e = .returned (.int .i64 (if x.none false false false true true = true ∧ decide (vs = pl vs) = true ∧ decide ((x.nr.n : Int) ≤ 16) = true ∧ okQ rs = true ∧ idV x.id = true then 0 else 1)) ∧ Below w.heap.size w w' := by
  have NN := fun wx => none_ffftt x wx hf ht
  have HVV := Lib.hid hv
  have HRR := Lib.hid hr
  have RG := fun wx (hb : Below w.heap.size w wx) => right_any x.vec.a x.vec.n x.vec.c vs wx ((HVV.out.below hb).r) HVV.out.nc HVV.out.cb
  have CT := fun wx (hb : Below w.heap.size w wx) => hcontR_any x.nr.a x.nr.n x.nr.c rs wx (HRR.out.below hb)
  obtain ⟨B, hB⟩ : ∃ B, x.none false false false true true = B := ⟨_, rfl⟩
  obtain ⟨R, hR⟩ : ∃ R, decide (vs = pl vs) = R := ⟨_, rfl⟩
  obtain ⟨Q, hQ⟩ : ∃ Q, okQ rs = Q := ⟨_, rfl⟩
  rw [hB] at NN ⊢
  rw [hR] at RG ⊢
  rw [hQ] at CT ⊢
  clear hB hf ht hR hv HVV hQ hr HRR
  obtain ⟨kind, id, series, from_, to_, np, nr, vec, time⟩ := x
  simp only at hk
  subst hk
  unfold Wi.arr at *
  simp only at NN ⊢
  go_enter Tryz.func16, Tryz.ntmps16
  go_upto_region 2 with fail
  generalize hw1 : World.alloc _ _ = w1
  have KK := Lib.hid (show Kn w.heap.size w [(w.heap.size, wiO ⟨7, id, series, from_, to_, np, nr, vec, time⟩)] w1 by rw [← hw1]; exact (Kn.start w).new' rfl (wiO ⟨7, id, series, from_, to_, np, nr, vec, time⟩))
  clear hw1
  generalize hg : w.heap.size = g at *
  have c0 := (wi_cells KK.out.hd rfl).c0
  simp only at c0
  have c6 := (wi_cells KK.out.hd rfl).c6
  simp only at c6
  cases Q
  · skip
    go_wp2_with fail
    go_step3
    go_wp2_with fail
    go_step3
    go_wp2_with (first
      | refine wpList_load_row rfl 33 _ rfl g rfl 33 (Wi.arr ⟨7, id, series, from_, to_, np, nr, vec, time⟩) (0, 0) _ KK.out.hd Tryz.underlying33 rfl (by kernel_rfl) ?_
      | (go_at_call 63; refine (NN _).mono ?_; rintro e w2 ⟨rfl, dn⟩; have KK := Lib.hid (KK.out.below dn); clear dn c0 c6; have c1 := (wi_cells KK.out.hd rfl).c1; have c6 := (wi_cells KK.out.hd rfl).c6; have c7 := (wi_cells KK.out.hd rfl).c7; simp only at c1 c6 c7)
      | (go_at_call 66; refine (RG _ KK.out.b).mono ?_; rintro e w3 ⟨rfl, dn⟩; have KK := Lib.hid (KK.out.below dn); clear dn c1 c6 c7; have c1 := (wi_cells KK.out.hd rfl).c1; have c6 := (wi_cells KK.out.hd rfl).c6; simp only at c1 c6)
      | (go_at_call 67; refine (CT _ KK.out.b).mono ?_; rintro e w3 ⟨rfl, dn⟩; have KK := Lib.hid (KK.out.below dn); clear dn c0 c6; have c0 := (wi_cells KK.out.hd rfl).c0; have c6 := (wi_cells KK.out.hd rfl).c6; simp only at c0 c6))
    first | rw [Exit.noGoto_ret] | skip
    go_ret
    exact ⟨by simp [*], by first | exact KK.out.b | (rw [hg]; exact KK.out.b)⟩
  · cases B
    · skip
      go_wp2_with fail
      go_step3
      go_wp2_with fail
      go_step3
      go_wp2_with (first
        | refine wpList_load_row rfl 33 _ rfl g rfl 33 (Wi.arr ⟨7, id, series, from_, to_, np, nr, vec, time⟩) (0, 0) _ KK.out.hd Tryz.underlying33 rfl (by kernel_rfl) ?_
        | (go_at_call 63; refine (NN _).mono ?_; rintro e w2 ⟨rfl, dn⟩; have KK := Lib.hid (KK.out.below dn); clear dn c0 c6; have c1 := (wi_cells KK.out.hd rfl).c1; have c6 := (wi_cells KK.out.hd rfl).c6; have c7 := (wi_cells KK.out.hd rfl).c7; simp only at c1 c6 c7)
        | (go_at_call 66; refine (RG _ KK.out.b).mono ?_; rintro e w3 ⟨rfl, dn⟩; have KK := Lib.hid (KK.out.below dn); clear dn c1 c6 c7; have c1 := (wi_cells KK.out.hd rfl).c1; have c6 := (wi_cells KK.out.hd rfl).c6; simp only at c1 c6)
        | (go_at_call 67; refine (CT _ KK.out.b).mono ?_; rintro e w3 ⟨rfl, dn⟩; have KK := Lib.hid (KK.out.below dn); clear dn c0 c6; have c0 := (wi_cells KK.out.hd rfl).c0; have c6 := (wi_cells KK.out.hd rfl).c6; simp only at c0 c6))
      first | rw [Exit.noGoto_ret] | skip
      go_ret
      exact ⟨by simp [*], by first | exact KK.out.b | (rw [hg]; exact KK.out.b)⟩
    · cases R
      · skip
        go_wp2_with fail
        go_step3
        go_wp2_with fail
        go_step3
        go_wp2_with (first
          | refine wpList_load_row rfl 33 _ rfl g rfl 33 (Wi.arr ⟨7, id, series, from_, to_, np, nr, vec, time⟩) (0, 0) _ KK.out.hd Tryz.underlying33 rfl (by kernel_rfl) ?_
          | (go_at_call 63; refine (NN _).mono ?_; rintro e w2 ⟨rfl, dn⟩; have KK := Lib.hid (KK.out.below dn); clear dn c0 c6; have c1 := (wi_cells KK.out.hd rfl).c1; have c6 := (wi_cells KK.out.hd rfl).c6; have c7 := (wi_cells KK.out.hd rfl).c7; simp only at c1 c6 c7)
          | (go_at_call 66; refine (RG _ KK.out.b).mono ?_; rintro e w3 ⟨rfl, dn⟩; have KK := Lib.hid (KK.out.below dn); clear dn c1 c6 c7; have c1 := (wi_cells KK.out.hd rfl).c1; have c6 := (wi_cells KK.out.hd rfl).c6; simp only at c1 c6)
          | (go_at_call 67; refine (CT _ KK.out.b).mono ?_; rintro e w3 ⟨rfl, dn⟩; have KK := Lib.hid (KK.out.below dn); clear dn c0 c6; have c0 := (wi_cells KK.out.hd rfl).c0; have c6 := (wi_cells KK.out.hd rfl).c6; simp only at c0 c6))
        first | rw [Exit.noGoto_ret] | skip
        go_ret
        exact ⟨by simp [*], by first | exact KK.out.b | (rw [hg]; exact KK.out.b)⟩
      · by_cases hl : (nr.n : Int) ≤ 16
        · have t1 : decide ((nr.n : Int) ≤ 16) = true := decide_eq_true hl
          rcases idV_cases id with ⟨h1, h2, h3⟩ | ⟨h1, h2⟩ | ⟨h1, h2, h3⟩
          · skip
            go_wp2_with fail
            go_step3
            go_wp2_with fail
            go_step3
            go_wp2_with (first
              | refine wpList_load_row rfl 33 _ rfl g rfl 33 (Wi.arr ⟨7, id, series, from_, to_, np, nr, vec, time⟩) (0, 0) _ KK.out.hd Tryz.underlying33 rfl (by kernel_rfl) ?_
              | (go_at_call 63; refine (NN _).mono ?_; rintro e w2 ⟨rfl, dn⟩; have KK := Lib.hid (KK.out.below dn); clear dn c0 c6; have c1 := (wi_cells KK.out.hd rfl).c1; have c6 := (wi_cells KK.out.hd rfl).c6; have c7 := (wi_cells KK.out.hd rfl).c7; simp only at c1 c6 c7)
              | (go_at_call 66; refine (RG _ KK.out.b).mono ?_; rintro e w3 ⟨rfl, dn⟩; have KK := Lib.hid (KK.out.below dn); clear dn c1 c6 c7; have c1 := (wi_cells KK.out.hd rfl).c1; have c6 := (wi_cells KK.out.hd rfl).c6; simp only at c1 c6)
              | (go_at_call 67; refine (CT _ KK.out.b).mono ?_; rintro e w3 ⟨rfl, dn⟩; have KK := Lib.hid (KK.out.below dn); clear dn c0 c6; have c0 := (wi_cells KK.out.hd rfl).c0; have c6 := (wi_cells KK.out.hd rfl).c6; simp only at c0 c6))
            first | rw [Exit.noGoto_ret] | skip
            go_ret
            exact ⟨by simp [*], by first | exact KK.out.b | (rw [hg]; exact KK.out.b)⟩
          · skip
            go_wp2_with fail
            go_step3
            go_wp2_with fail
            go_step3
            go_wp2_with (first
              | refine wpList_load_row rfl 33 _ rfl g rfl 33 (Wi.arr ⟨7, id, series, from_, to_, np, nr, vec, time⟩) (0, 0) _ KK.out.hd Tryz.underlying33 rfl (by kernel_rfl) ?_
              | (go_at_call 63; refine (NN _).mono ?_; rintro e w2 ⟨rfl, dn⟩; have KK := Lib.hid (KK.out.below dn); clear dn c0 c6; have c1 := (wi_cells KK.out.hd rfl).c1; have c6 := (wi_cells KK.out.hd rfl).c6; have c7 := (wi_cells KK.out.hd rfl).c7; simp only at c1 c6 c7)
              | (go_at_call 66; refine (RG _ KK.out.b).mono ?_; rintro e w3 ⟨rfl, dn⟩; have KK := Lib.hid (KK.out.below dn); clear dn c1 c6 c7; have c1 := (wi_cells KK.out.hd rfl).c1; have c6 := (wi_cells KK.out.hd rfl).c6; simp only at c1 c6)
              | (go_at_call 67; refine (CT _ KK.out.b).mono ?_; rintro e w3 ⟨rfl, dn⟩; have KK := Lib.hid (KK.out.below dn); clear dn c0 c6; have c0 := (wi_cells KK.out.hd rfl).c0; have c6 := (wi_cells KK.out.hd rfl).c6; simp only at c0 c6))
            first | rw [Exit.noGoto_ret] | skip
            go_ret
            exact ⟨by simp [*], by first | exact KK.out.b | (rw [hg]; exact KK.out.b)⟩
          · skip
            go_wp2_with fail
            go_step3
            go_wp2_with fail
            go_step3
            go_wp2_with (first
              | refine wpList_load_row rfl 33 _ rfl g rfl 33 (Wi.arr ⟨7, id, series, from_, to_, np, nr, vec, time⟩) (0, 0) _ KK.out.hd Tryz.underlying33 rfl (by kernel_rfl) ?_
              | (go_at_call 63; refine (NN _).mono ?_; rintro e w2 ⟨rfl, dn⟩; have KK := Lib.hid (KK.out.below dn); clear dn c0 c6; have c1 := (wi_cells KK.out.hd rfl).c1; have c6 := (wi_cells KK.out.hd rfl).c6; have c7 := (wi_cells KK.out.hd rfl).c7; simp only at c1 c6 c7)
              | (go_at_call 66; refine (RG _ KK.out.b).mono ?_; rintro e w3 ⟨rfl, dn⟩; have KK := Lib.hid (KK.out.below dn); clear dn c1 c6 c7; have c1 := (wi_cells KK.out.hd rfl).c1; have c6 := (wi_cells KK.out.hd rfl).c6; simp only at c1 c6)
              | (go_at_call 67; refine (CT _ KK.out.b).mono ?_; rintro e w3 ⟨rfl, dn⟩; have KK := Lib.hid (KK.out.below dn); clear dn c0 c6; have c0 := (wi_cells KK.out.hd rfl).c0; have c6 := (wi_cells KK.out.hd rfl).c6; simp only at c0 c6))
            first | rw [Exit.noGoto_ret] | skip
            go_ret
            exact ⟨by simp [*], by first | exact KK.out.b | (rw [hg]; exact KK.out.b)⟩
        · have t1 : decide ((nr.n : Int) ≤ 16) = false := decide_eq_false hl
          go_wp2_with fail
          go_step3
          go_wp2_with fail
          go_step3
          go_wp2_with (first
            | refine wpList_load_row rfl 33 _ rfl g rfl 33 (Wi.arr ⟨7, id, series, from_, to_, np, nr, vec, time⟩) (0, 0) _ KK.out.hd Tryz.underlying33 rfl (by kernel_rfl) ?_
            | (go_at_call 63; refine (NN _).mono ?_; rintro e w2 ⟨rfl, dn⟩; have KK := Lib.hid (KK.out.below dn); clear dn c0 c6; have c1 := (wi_cells KK.out.hd rfl).c1; have c6 := (wi_cells KK.out.hd rfl).c6; have c7 := (wi_cells KK.out.hd rfl).c7; simp only at c1 c6 c7)
            | (go_at_call 66; refine (RG _ KK.out.b).mono ?_; rintro e w3 ⟨rfl, dn⟩; have KK := Lib.hid (KK.out.below dn); clear dn c1 c6 c7; have c1 := (wi_cells KK.out.hd rfl).c1; have c6 := (wi_cells KK.out.hd rfl).c6; simp only at c1 c6)
            | (go_at_call 67; refine (CT _ KK.out.b).mono ?_; rintro e w3 ⟨rfl, dn⟩; have KK := Lib.hid (KK.out.below dn); clear dn c0 c6; have c0 := (wi_cells KK.out.hd rfl).c0; have c6 := (wi_cells KK.out.hd rfl).c6; simp only at c0 c6))
          first | rw [Exit.noGoto_ret] | skip
          go_ret
          exact ⟨by simp [*], by first | exact KK.out.b | (rw [hg]; exact KK.out.b)⟩
end
end Go.Proofs.YtglabahbklpocaaGreat
