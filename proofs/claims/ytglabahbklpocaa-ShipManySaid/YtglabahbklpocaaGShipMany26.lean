/- A log in memory: what is held, and how it lasts; the small methods. -/
import Derived.Test.YtglabahbklpocaaGShipMany25
namespace Go.Proofs.Ytglabahbklpocaa
section
open Go.RowKit Go.Deep
set_option maxRecDepth 100000
set_option linter.unusedVariables false
set_option linter.unusedSimpArgs false
attribute [local go_sem ↓] Go.wp_at_zero Go.wp_at_succ
abbrev RcM := Rc × List Int
def RecA.m (x : RecA) : RcM := (x.r, x.ds)
/-- A log, plainly. -/
structure LogM where
  most : Int
  bs : List Int
  ks : List Int
  xs : List RcM
  clock : Int
def logO (m : Int) (b k a : Sl) (c : Int) : Obj := .cells #[.int .i64 m, .slice b.a b.n b.c, .slice k.a k.n k.c, .slice a.a a.n a.c, .int .i64 c] 105 (0, 0)
/-- No cell of the slice lies in a block of F. -/
def farA (F : List Nat) (d : Sl) : Prop := d.n = 0 ∨ ∀ p, d.a = some p → p.block ∉ F
theorem SlR.keep {w w' : World} {F : List Nat} {d : Sl} {xs : List Int} (h : SlR w d xs) (hf : farA F d) (hs : w.heap.size ≤ w'.heap.size) (hd : ∀ i, i < w.heap.size → i ∉ F → w'.heap[i]? = w.heap[i]?) : SlR w' d xs := by
  obtain ⟨⟨h1, h2⟩, h3, h4⟩ := h
  refine ⟨⟨h1, ?_⟩, h3, h4⟩
  rcases h2 with h2 | ⟨b, o, e1, e2, e3⟩
  · exact .inl h2
  · rcases hf with hf | hf
    · exact .inl hf
    · refine .inr ⟨b, o, e1, by omega, fun j hj => ?_⟩
      rw [← e3 j hj]
      simp only [World.cell?]
      rw [hd b e2 (hf _ e1)]
theorem ReadsE.keep {α : Type} {cs : α → List Value} {sz : Nat} {w w' : World} {F : List Nat} {d : Sl} {xs : List α} (h : ReadsE cs sz w d.a d.n xs) (hf : farA F d) (hs : w.heap.size ≤ w'.heap.size) (hd : ∀ i, i < w.heap.size → i ∉ F → w'.heap[i]? = w.heap[i]?) : ReadsE cs sz w' d.a d.n xs := by
  obtain ⟨h1, h2⟩ := h
  refine ⟨h1, ?_⟩
  rcases h2 with h2 | ⟨b, o, e1, e2, e3⟩
  · exact .inl h2
  · rcases hf with hf | hf
    · exact .inl hf
    · refine .inr ⟨b, o, e1, by omega, fun j x hj k u hk => ?_⟩
      rw [← e3 j x hj k u hk]
      simp only [World.cell?]
      rw [hd b e2 (hf _ e1)]
structure LogC (w : World) (F : List Nat) (b k a : Sl) (rs : List RecA) (m : LogM) : Prop where
  hb : SlR w b m.bs
  hk : SlR w k m.ks
  ha : ReadsE RecA.cs 9 w a.a a.n rs
  ac : a.n ≤ a.c
  am : a.c ≤ 9223372036854775807
  ok : ∀ x ∈ rs, x.ok w
  xs : m.xs = rs.map RecA.m
  fb : farA F b
  fk : farA F k
  fa : farA F a
  fr : ∀ x ∈ rs, farA F x.d ∧ x.d.n ≤ 8
  sm : a.n ≤ 400
  bn : b.n ≤ 8
  kn : k.n ≤ 8
  mo : m.most ≤ 400 ∧ 0 ≤ m.most
  ck : i64' m.clock
  fm : a.a = none ∨ ∃ b o, a.a = some ⟨b, o, none⟩
/-- Block g is a log that holds m; none of its data lies in a block of F. -/
def LogAt (w : World) (F : List Nat) (g : Nat) (m : LogM) : Prop := ∃ b k a rs, w.heap[g]? = some (logO m.most b k a m.clock) ∧ LogC w F b k a rs m
theorem LogC.keep {w w' : World} {F : List Nat} {b k a : Sl} {rs : List RecA} {m : LogM} (h : LogC w F b k a rs m) (hs : w.heap.size ≤ w'.heap.size) (hd : ∀ i, i < w.heap.size → i ∉ F → w'.heap[i]? = w.heap[i]?) : LogC w' F b k a rs m :=
  ⟨h.hb.keep h.fb hs hd, h.hk.keep h.fk hs hd, ReadsE.keep h.ha h.fa hs hd, h.ac, h.am, fun x hx => ⟨(h.ok x hx).wf, (h.ok x hx).sl.keep (h.fr x hx).1 hs hd⟩, h.xs, h.fb, h.fk, h.fa, h.fr, h.sm, h.bn, h.kn, h.mo, h.ck, h.fm⟩
theorem LogC.below {w w' : World} {F : List Nat} {b k a : Sl} {rs : List RecA} {m : LogM} (h : LogC w F b k a rs m) (hb : Below w.heap.size w w') : LogC w' F b k a rs m := h.keep hb.size (fun i hi _ => hb.block i hi)
theorem LogC.but {w w' : World} {F : List Nat} {b k a : Sl} {rs : List RecA} {m : LogM} {g : Nat} (h : LogC w F b k a rs m) (hg : g ∈ F) (d : But g w w') : LogC w' F b k a rs m :=
  h.keep d.size (fun i hi hn => d.block i hi (by simp; exact fun e => hn (e ▸ hg)))
theorem LogAt.below {w w' : World} {F : List Nat} {g : Nat} {m : LogM} (h : LogAt w F g m) (hb : Below w.heap.size w w') : LogAt w' F g m := by
  obtain ⟨b, k, a, rs, h1, h2⟩ := h
  exact ⟨b, k, a, rs, (hb.block g (heap_lt h1)).trans h1, h2.below hb⟩
theorem LogAt.but {w w' : World} {F : List Nat} {g g' : Nat} {m : LogM} (h : LogAt w F g m) (hg : g' ∈ F) (hne : g ≠ g') (d : But g' w w') : LogAt w' F g m := by
  obtain ⟨b, k, a, rs, h1, h2⟩ := h
  exact ⟨b, k, a, rs, (d.block g (heap_lt h1) (by simpa using fun e => hne e)).trans h1, h2.but hg d⟩
theorem farA.grow {w : World} {F : List Nat} {d : Sl} (h : farA F d) (hl : d.n = 0 ∨ ∀ p, d.a = some p → p.block < w.heap.size) {k : Nat} (hk : w.heap.size ≤ k) : farA (k :: F) d := by
  rcases hl with hl | hl
  · exact .inl hl
  · rcases h with h | h
    · exact .inl h
    · refine .inr fun p hp => ?_
      have h1 := hl p hp
      have h2 := h p hp
      simp only [List.mem_cons, not_or]
      exact ⟨by omega, h2⟩
theorem SlR.lt {w : World} {d : Sl} {xs : List Int} (h : SlR w d xs) : d.n = 0 ∨ ∀ p, d.a = some p → p.block < w.heap.size := by
  rcases h.r.2 with h1 | ⟨b, o, e1, e2, _⟩
  · exact .inl h1
  · exact .inr fun p hp => by rw [e1] at hp; cases hp; exact e2
theorem ReadsE.ltA {α : Type} {cs : α → List Value} {sz : Nat} {w : World} {d : Sl} {xs : List α} (h : ReadsE cs sz w d.a d.n xs) : d.n = 0 ∨ ∀ p, d.a = some p → p.block < w.heap.size := by
  rcases h.2 with h1 | ⟨b, o, e1, e2, _⟩
  · exact .inl h1
  · exact .inr fun p hp => by rw [e1] at hp; cases hp; exact e2
/-- A new block may be named among those in which no data lies. -/
theorem LogAt.grow {w : World} {F : List Nat} {g : Nat} {m : LogM} (h : LogAt w F g m) {k : Nat} (hk : w.heap.size ≤ k) : LogAt w (k :: F) g m := by
  obtain ⟨b, k', a, rs, h1, h2⟩ := h
  exact ⟨b, k', a, rs, h1, h2.hb, h2.hk, h2.ha, h2.ac, h2.am, h2.ok, h2.xs, h2.fb.grow h2.hb.lt hk, h2.fk.grow h2.hk.lt hk, h2.fa.grow h2.ha.ltA hk, fun x hx => ⟨(h2.fr x hx).1.grow (h2.ok x hx).sl.lt hk, (h2.fr x hx).2⟩, h2.sm, h2.bn, h2.kn, h2.mo, h2.ck, h2.fm⟩
theorem farA.ge {F : List Nat} {B : Nat} (hF : ∀ k ∈ F, k < B) {d : Sl} (h : d.n = 0 ∨ ∀ p, d.a = some p → B ≤ p.block) : farA F d :=
  h.imp_right fun h p hp hm => by have := h p hp; have := hF _ hm; omega
theorem VecAt.far {w : World} {F : List Nat} {B : Nat} {a : Option Addr} {l : List Int} (h : VecAt w B a l) (hF : ∀ k ∈ F, k < B) : farA F ⟨a, l.length, l.length⟩ := by
  rcases h.own with h1 | ⟨g, e, h2, _⟩
  · exact .inl (by rw [h1]; rfl)
  · exact .inr fun p hp hm => by rw [e] at hp; cases hp; have := hF _ hm; simp only at this; omega
theorem AppE.far {α : Type} {cs : α → List Value} {T : TypeId} {sz : Nat} {w : World} {B : Nat} {a : Option Addr} {n cap : Nat} {l : List α} (h : AppE cs T sz w B a n cap l) {F : List Nat} (hF : ∀ k ∈ F, k < B) : farA F ⟨a, n, cap⟩ := by
  refine .inr fun p hp hm => ?_
  subst hp
  have := (h.row.lt p.block rfl).1
  have := hF _ hm
  omega
/-- The slice's numbers lie in a block of numbers. -/
def TI (w : World) (d : Sl) : Prop := d.n = 0 ∨ ∃ g cur, d.a = some ⟨g, 0, none⟩ ∧ w.heap[g]? = some (.cells cur 3 (0, 0))
theorem TI.keep {w w' : World} {F : List Nat} {d : Sl} (h : TI w d) (hf : farA F d) (hd : ∀ i, i < w.heap.size → i ∉ F → w'.heap[i]? = w.heap[i]?) : TI w' d := by
  rcases h with h | ⟨g, cur, e1, e2⟩
  · exact .inl h
  · rcases hf with hf | hf
    · exact .inl hf
    · exact .inr ⟨g, cur, e1, (hd g (heap_lt e2) (hf _ e1)).trans e2⟩
/-- The clone of a list of numbers. -/
theorem clone_sl2 (d : Sl) (xs : List Int) (w : World) (h : SlR w d xs) (hn : d.n ≤ 1000) : Calls Try.prog 38 #[.slice d.a d.n d.c] w fun e w' => ∃ d' : Sl, e = .returned (.slice d'.a d'.n d'.c) ∧ SlR w' d' xs ∧ (d'.n = 0 ∨ ∀ p, d'.a = some p → w.heap.size ≤ p.block) ∧ d'.n = d.n ∧ Below w.heap.size w w' ∧ TI w' d' := by
  refine (clone_any d.a d.n d.c xs w h.r hn).mono ?_
  rintro e w' ⟨v', rfl, hown, hb⟩
  have hl := h.r.1
  rcases hown.2 with ⟨rfl, h0⟩ | ⟨g, cap, cur, rfl, hB, hg, h3, h4, h5, h6⟩
  · refine ⟨⟨none, 0, 0⟩, rfl, ⟨⟨?_, .inl rfl⟩, Nat.le_refl _, by decide⟩, .inl rfl, h0.symm, hb, .inl rfl⟩
    rw [hl, h0]
  · refine ⟨⟨some ⟨g, 0, none⟩, d.n, cap⟩, rfl, ⟨⟨hl, .inr ⟨g, 0, rfl, heap_lt hg, fun j hj => ?_⟩⟩, h3, maxLen_i h4⟩, .inr fun p hp => by cases hp; exact hB, rfl, hb, .inr ⟨g, cur, rfl, hg⟩⟩
    rw [Nat.zero_add, hown.cellAt j (by simp only at hj; omega), List.getElem?_map, List.getElem?_eq_getElem (by rw [hl]; exact hj)]
    simp [List.getD_eq_getElem?_getD, hl, show j < d.n from hj]
theorem clone_sl (d : Sl) (xs : List Int) (w : World) (h : SlR w d xs) (hn : d.n ≤ 1000) : Calls Try.prog 38 #[.slice d.a d.n d.c] w fun e w' => ∃ d' : Sl, e = .returned (.slice d'.a d'.n d'.c) ∧ SlR w' d' xs ∧ (d'.n = 0 ∨ ∀ p, d'.a = some p → w.heap.size ≤ p.block) ∧ d'.n = d.n ∧ Below w.heap.size w w' :=
  (clone_sl2 d xs w h hn).mono fun e w' ⟨d', h1, h2, h3, h4, h5, _⟩ => ⟨d', h1, h2, h3, h4, h5⟩
def fresh (B : Nat) (d : Sl) : Prop := d.n = 0 ∨ ∀ p, d.a = some p → B ≤ p.block
set_option maxHeartbeats 4000000 in
theorem copied_any2 (x : RecA) (w : World) (hx : x.ok w) (hn : x.d.n ≤ 1000) : Calls Try.prog 98 #[x.val] w fun e w' => ∃ d' : Sl, e = .returned (rcVal x.r d') ∧ SlR w' d' x.ds ∧ fresh w.heap.size d' ∧ d'.n = x.d.n ∧ Below w.heap.size w w' ∧ TI w' d' := by
  have HX := Lib.hid hx
  have C := fun wx hb => clone_sl2 x.d x.ds wx (HX.out.sl.below (w' := wx) hb) hn
  obtain ⟨r, d, ds⟩ := x
  unfold RecA.val rcVal
  simp only [rcA] at C ⊢
  clear hx
  go_enter Try.func98, Try.ntmps98
  go_upto_region 1 with fail
  generalize hw1 : World.alloc _ _ = w1
  have KK := Lib.hid (show Kn w.heap.size w [(w.heap.size, rcO r d), (w.heap.size + 1, rcO ⟨0, ⟨#[]⟩, 0, 0, 0, ⟨0, 0, 0⟩⟩ ⟨none, 0, 0⟩)] w1 by rw [← hw1]; exact (((Kn.start w).new' rfl (rcO r d)).new' (n := w.heap.size + 1) (by simp) (rcO ⟨0, ⟨#[]⟩, 0, 0, 0, ⟨0, 0, 0⟩⟩ ⟨none, 0, 0⟩)).sub (by simp))
  clear hw1
  generalize hg : w.heap.size = g at *
  have c8 := KK.out.cell (g := g) (o := rcO r d) (by simp) (j := 8) (v := .slice d.a d.n d.c) rfl
  have hlt := KK.out.lt (g + 1, _) (List.mem_cons_of_mem _ (List.mem_cons_self ..))
  simp only at hlt
  go_upto_region 2 with (first | (go_at_call 38; refine (C _ KK.out.b).mono ?_; rintro e wn ⟨d', rfl, hS, hF, hdn, dn, hTI⟩; have HDN := Lib.hid hdn; clear hdn; have KK := Lib.hid (KK.out.below dn); have f8 := KK.out.fz (g := g) (o := rcO r d) (by simp) 8; have e8 := KK.out.cell (g := g) (o := rcO r d) (by simp) (j := 8) (v := .slice d.a d.n d.c) rfl))
  have hF2 : Hid (d'.n = 0 ∨ ∀ p, d'.a = some p → g + 2 ≤ p.block) := hF.imp_right fun h p hp => by have := h p hp; omega
  generalize hwx : World.setCell _ _ _ = wx
  have HS : Hid (SlR wx d' ds) := by
    rw [← hwx]
    refine SlR.keep (F := [g]) hS ?_ (by simp [World.setCell]) (fun i _ hi => Below.heap_setCell _ _ _ _ (by simpa using hi))
    exact hF2.out.imp_right fun h p hp hm => by have := h p hp; simp only [List.mem_singleton] at hm; omega
  have HTI : Hid (TI wx d') := by
    rw [← hwx]
    exact hTI.keep (F := [g]) (hF2.out.imp_right fun h p hp hm => by have := h p hp; simp only [List.mem_singleton] at hm; omega) (fun i _ hi => Below.heap_setCell _ _ _ _ (by simpa using hi))
  clear hTI
  have KK := Lib.hid (show Kn g w [(g, rcO r d'), (g + 1, rcO ⟨0, ⟨#[]⟩, 0, 0, 0, ⟨0, 0, 0⟩⟩ ⟨none, 0, 0⟩)] wx by rw [← hwx]; exact Kn.setCell KK.out (by simp only [Apart, and_true]; omega) (by omega) 8 _ _ rfl)
  clear hwx c8 f8 e8 hS hF C
  go_wp2_with (first
    | refine wpList_load_row rfl 86 _ rfl g rfl 86 (rcA r d') (0, 0) _ KK.out.hd Try.underlying86 rfl (by kernel_rfl) ?_
    | refine wpList_store_row rfl 86 _ _ rfl (g + 1) (rcA r d') rfl rfl 86 _ (KK.out.tl.hd) (by kernel_rfl) rfl (by simp [Value.oneCell', rcA]) ?_)
  have KF := Kn.setRow (KK.out.sub (m := [(g + 1, rcO ⟨0, ⟨#[]⟩, 0, 0, 0, ⟨0, 0, 0⟩⟩ ⟨none, 0, 0⟩)]) (by simp)) trivial (by omega) (rcO r d')
  refine bodyPost_ret (v := rcVal r d') (results_cell_row rfl _ _ (g + 1) 86 (rcA r d') (0, 0) _ rfl KF.hd Try.underlying86 rfl (by kernel_rfl)) rfl ⟨d', rfl, ?_, ?_, HDN.out, by rw [hg]; exact KF.b, ?_⟩
  · refine SlR.keep (F := [g + 1]) HS.out ?_ (by simp [World.setRow]) (fun i _ hi => setRow_other _ _ _ _ (by simpa using hi))
    exact hF2.out.imp_right fun h p hp hm => by have := h p hp; simp only [List.mem_singleton] at hm; omega
  · rw [hg]
    exact hF2.out.imp_right fun h p hp => by have := h p hp; omega
  · exact HTI.out.keep (F := [g + 1]) (hF2.out.imp_right fun h p hp hm => by have := h p hp; simp only [List.mem_singleton] at hm; omega) (fun i _ hi => setRow_other _ _ _ _ (by simpa using hi))
theorem copied_any (x : RecA) (w : World) (hx : x.ok w) (hn : x.d.n ≤ 1000) : Calls Try.prog 98 #[x.val] w fun e w' => ∃ d' : Sl, e = .returned (rcVal x.r d') ∧ SlR w' d' x.ds ∧ fresh w.heap.size d' ∧ d'.n = x.d.n ∧ Below w.heap.size w w' :=
  (copied_any2 x w hx hn).mono fun e w' ⟨d', h1, h2, h3, h4, h5, _⟩ => ⟨d', h1, h2, h3, h4, h5⟩
end
end Go.Proofs.Ytglabahbklpocaa
