/- A log in memory: what is held, and how it lasts; the small methods. Regions whose order is drawn, with a last operation behind which nothing need be held: what is held may be what that operation overwrites. origin.Log.Add. origin.New; Know, Base, Clock, Len, Room. origin.Log.those with its three inner functions; After, All, Get. The inner functions of All and After. origin.Log.those for After origin.Log.All, After The law's short, small. The law's few, small, record. The law's few and record, of ship's chapter. Plain law of peers: what is known of other sites. No program is in sight. -/
import Derived.Test.YtglabahbklpocaaGreatGShipWrites11
import Derived.Test.YtglabahbklpocaaGreatGShipWrites1
import Derived.Deep.RegionHeld
import Derived.Test.YtglabahbklpocaaGreatGShipWrites10
import Derived.Test.YtglabahbklpocaaGreatGShipWrites5
import Derived.Test.YtglabahbklpocaaGreatGShipWrites2
namespace Go.Proofs.YtglabahbklpocaaGreat
section
open Go.RowKit Go.Deep
set_option maxRecDepth 100000
set_option linter.unusedVariables false
set_option linter.unusedSimpArgs false
attribute [local go_sem ↓] Go.wp_at_zero Go.wp_at_succ
abbrev RcM := Rc × List Int
def RecA.m (x : RecA) : RcM := (x.r, x.ds)
/-- A log, plainly. -/
structure LogM where
  most : Int
  bs : List Int
  ks : List Int
  xs : List RcM
  clock : Int
def logO (m : Int) (b k a : Sl) (c : Int) : Obj := .cells #[.int .i64 m, .slice b.a b.n b.c, .slice k.a k.n k.c, .slice a.a a.n a.c, .int .i64 c] 117 (0, 0)
/-- No cell of the slice lies in a block of F. -/
def farA (F : List Nat) (d : Sl) : Prop := d.n = 0 ∨ ∀ p, d.a = some p → p.block ∉ F
theorem SlR.keep {w w' : World} {F : List Nat} {d : Sl} {xs : List Int} (h : SlR w d xs) (hf : farA F d) (hs : w.heap.size ≤ w'.heap.size) (hd : ∀ i, i < w.heap.size → i ∉ F → w'.heap[i]? = w.heap[i]?) : SlR w' d xs := by
  obtain ⟨⟨h1, h2⟩, h3, h4⟩ := h
  refine ⟨⟨h1, ?_⟩, h3, h4⟩
  rcases h2 with h2 | ⟨b, o, e1, e2, e3⟩
  · exact .inl h2
  · rcases hf with hf | hf
    · exact .inl hf
    · refine .inr ⟨b, o, e1, by omega, fun j hj => ?_⟩
      rw [← e3 j hj]
      simp only [World.cell?]
      rw [hd b e2 (hf _ e1)]
theorem ReadsE.keep {α : Type} {cs : α → List Value} {sz : Nat} {w w' : World} {F : List Nat} {d : Sl} {xs : List α} (h : ReadsE cs sz w d.a d.n xs) (hf : farA F d) (hs : w.heap.size ≤ w'.heap.size) (hd : ∀ i, i < w.heap.size → i ∉ F → w'.heap[i]? = w.heap[i]?) : ReadsE cs sz w' d.a d.n xs := by
  obtain ⟨h1, h2⟩ := h
  refine ⟨h1, ?_⟩
  rcases h2 with h2 | ⟨b, o, e1, e2, e3⟩
  · exact .inl h2
  · rcases hf with hf | hf
    · exact .inl hf
    · refine .inr ⟨b, o, e1, by omega, fun j x hj k u hk => ?_⟩
      rw [← e3 j x hj k u hk]
      simp only [World.cell?]
      rw [hd b e2 (hf _ e1)]
structure LogC (w : World) (F : List Nat) (b k a : Sl) (rs : List RecA) (m : LogM) : Prop where
  hb : SlR w b m.bs
  hk : SlR w k m.ks
  ha : ReadsE RecA.cs 9 w a.a a.n rs
  ac : a.n ≤ a.c
  am : a.c ≤ 9223372036854775807
  ok : ∀ x ∈ rs, x.ok w
  xs : m.xs = rs.map RecA.m
  fb : farA F b
  fk : farA F k
  fa : farA F a
  fr : ∀ x ∈ rs, farA F x.d ∧ x.d.n ≤ 8
  sm : a.n ≤ 400
  bn : b.n ≤ 8
  kn : k.n ≤ 8
  mo : m.most ≤ 400 ∧ 0 ≤ m.most
  ck : i64' m.clock
  fm : a.a = none ∨ ∃ b o, a.a = some ⟨b, o, none⟩
/-- Block g is a log that holds m; none of its data lies in a block of F. -/
def LogAt (w : World) (F : List Nat) (g : Nat) (m : LogM) : Prop := ∃ b k a rs, w.heap[g]? = some (logO m.most b k a m.clock) ∧ LogC w F b k a rs m
theorem LogC.keep {w w' : World} {F : List Nat} {b k a : Sl} {rs : List RecA} {m : LogM} (h : LogC w F b k a rs m) (hs : w.heap.size ≤ w'.heap.size) (hd : ∀ i, i < w.heap.size → i ∉ F → w'.heap[i]? = w.heap[i]?) : LogC w' F b k a rs m :=
  ⟨h.hb.keep h.fb hs hd, h.hk.keep h.fk hs hd, ReadsE.keep h.ha h.fa hs hd, h.ac, h.am, fun x hx => ⟨(h.ok x hx).wf, (h.ok x hx).sl.keep (h.fr x hx).1 hs hd⟩, h.xs, h.fb, h.fk, h.fa, h.fr, h.sm, h.bn, h.kn, h.mo, h.ck, h.fm⟩
theorem LogC.below {w w' : World} {F : List Nat} {b k a : Sl} {rs : List RecA} {m : LogM} (h : LogC w F b k a rs m) (hb : Below w.heap.size w w') : LogC w' F b k a rs m := h.keep hb.size (fun i hi _ => hb.block i hi)
theorem LogC.but {w w' : World} {F : List Nat} {b k a : Sl} {rs : List RecA} {m : LogM} {g : Nat} (h : LogC w F b k a rs m) (hg : g ∈ F) (d : But g w w') : LogC w' F b k a rs m :=
  h.keep d.size (fun i hi hn => d.block i hi (by simp; exact fun e => hn (e ▸ hg)))
theorem LogAt.below {w w' : World} {F : List Nat} {g : Nat} {m : LogM} (h : LogAt w F g m) (hb : Below w.heap.size w w') : LogAt w' F g m := by
  obtain ⟨b, k, a, rs, h1, h2⟩ := h
  exact ⟨b, k, a, rs, (hb.block g (heap_lt h1)).trans h1, h2.below hb⟩
theorem LogAt.but {w w' : World} {F : List Nat} {g g' : Nat} {m : LogM} (h : LogAt w F g m) (hg : g' ∈ F) (hne : g ≠ g') (d : But g' w w') : LogAt w' F g m := by
  obtain ⟨b, k, a, rs, h1, h2⟩ := h
  exact ⟨b, k, a, rs, (d.block g (heap_lt h1) (by simpa using fun e => hne e)).trans h1, h2.but hg d⟩
theorem SlR.lt {w : World} {d : Sl} {xs : List Int} (h : SlR w d xs) : d.n = 0 ∨ ∀ p, d.a = some p → p.block < w.heap.size := by
  rcases h.r.2 with h1 | ⟨b, o, e1, e2, _⟩
  · exact .inl h1
  · exact .inr fun p hp => by rw [e1] at hp; cases hp; exact e2
theorem ReadsE.ltA {α : Type} {cs : α → List Value} {sz : Nat} {w : World} {d : Sl} {xs : List α} (h : ReadsE cs sz w d.a d.n xs) : d.n = 0 ∨ ∀ p, d.a = some p → p.block < w.heap.size := by
  rcases h.2 with h1 | ⟨b, o, e1, e2, _⟩
  · exact .inl h1
  · exact .inr fun p hp => by rw [e1] at hp; cases hp; exact e2
theorem farA.ge {F : List Nat} {B : Nat} (hF : ∀ k ∈ F, k < B) {d : Sl} (h : d.n = 0 ∨ ∀ p, d.a = some p → B ≤ p.block) : farA F d :=
  h.imp_right fun h p hp hm => by have := h p hp; have := hF _ hm; omega
theorem VecAt.far {w : World} {F : List Nat} {B : Nat} {a : Option Addr} {l : List Int} (h : VecAt w B a l) (hF : ∀ k ∈ F, k < B) : farA F ⟨a, l.length, l.length⟩ := by
  rcases h.own with h1 | ⟨g, e, h2, _⟩
  · exact .inl (by rw [h1]; rfl)
  · exact .inr fun p hp hm => by rw [e] at hp; cases hp; have := hF _ hm; simp only at this; omega
theorem AppE.far {α : Type} {cs : α → List Value} {T : TypeId} {sz : Nat} {w : World} {B : Nat} {a : Option Addr} {n cap : Nat} {l : List α} (h : AppE cs T sz w B a n cap l) {F : List Nat} (hF : ∀ k ∈ F, k < B) : farA F ⟨a, n, cap⟩ := by
  refine .inr fun p hp hm => ?_
  subst hp
  have := (h.row.lt p.block rfl).1
  have := hF _ hm
  omega
/-- The slice's numbers lie in a block of numbers. -/
def TI (w : World) (d : Sl) : Prop := d.n = 0 ∨ ∃ g cur, d.a = some ⟨g, 0, none⟩ ∧ w.heap[g]? = some (.cells cur 3 (0, 0))
theorem TI.keep {w w' : World} {F : List Nat} {d : Sl} (h : TI w d) (hf : farA F d) (hd : ∀ i, i < w.heap.size → i ∉ F → w'.heap[i]? = w.heap[i]?) : TI w' d := by
  rcases h with h | ⟨g, cur, e1, e2⟩
  · exact .inl h
  · rcases hf with hf | hf
    · exact .inl hf
    · exact .inr ⟨g, cur, e1, (hd g (heap_lt e2) (hf _ e1)).trans e2⟩
def fresh (B : Nat) (d : Sl) : Prop := d.n = 0 ∨ ∀ p, d.a = some p → B ≤ p.block
end
end Go.Proofs.YtglabahbklpocaaGreat
namespace Go.Proofs.YtglabahbklpocaaGreat
section
open Go
section
variable {P : Program} {ops : Array Oper} {Q : Exit → Act → World → Prop} {md : Region.Mode} {S : World → Prop} {t : Nat}
def wpAnyT (P : Program) (md : Region.Mode) (ops : Array Oper) (Q : Exit → Act → World → Prop) (S : World → Prop) (t : Nat) : Nat → Array Bool → Act → World → Prop
  | 0, listed, a, w => Region.ready md ops listed = [] ∧ Q .normal a w
  | fuel + 1, listed, a, w =>
    (Region.ready md ops listed = [] → Q .normal a w) ∧
    ∀ i ∈ Region.ready md ops listed, wpOp P ops Q i (fun a' w' => (i ≠ t → listed.getD t true = false → S w') ∧ wpAnyT P md ops Q S t fuel (listed.setIfInBounds i true) a' w') a w
def AllReadyT (P : Program) (md : Region.Mode) (ops : Array Oper) (Q : Exit → Act → World → Prop) (S : World → Prop) (t : Nat) (fuel : Nat) (listed : Array Bool) (a : Act) (w : World) (rs : List Nat) : Prop :=
  ∀ i ∈ rs, wpOp P ops Q i (fun a' w' => (i ≠ t → listed.getD t true = false → S w') ∧ wpAnyT P md ops Q S t fuel (listed.setIfInBounds i true) a' w') a w
theorem AllReadyT.nil {fuel : Nat} {listed : Array Bool} {a : Act} {w : World} : AllReadyT P md ops Q S t fuel listed a w [] := fun _ h => by cases h
theorem AllReadyT.cons {fuel : Nat} {listed : Array Bool} {a : Act} {w : World} {i : Nat} {o : Oper} {rs : List Nat} (ho : ops[i]? = some o)
    (h : ∀ K' : Act → World → Prop, Shut (∀ a w, (i ≠ t → listed.getD t true = false → S w) → ((i ≠ t → listed.getD t true = false → S w) → wpAnyT P md ops Q S t fuel (listed.setIfInBounds i true) a w) → K' a w) → if Region.wanted o (yielded ops a.tmps) = true then Oper.wp P o a w K' Q else K' (a.put o.dst undef) w)
    (hs : AllReadyT P md ops Q S t fuel listed a w rs) : AllReadyT P md ops Q S t fuel listed a w (i :: rs) := fun j hj => by
  rcases List.mem_cons.1 hj with rfl | hj
  · exact wpOp_step ho (fun K' hK => h K' (fun a w hS hW => hK a w ⟨hS, hW hS⟩))
  · exact hs j hj
end
end
end Go.Proofs.YtglabahbklpocaaGreat
namespace Go.Proofs.YtglabahbklpocaaGreat
section
open Go.RowKit Go.Deep
set_option maxRecDepth 100000
set_option linter.unusedVariables false
set_option linter.unusedSimpArgs false
attribute [local go_sem ↓] Go.wp_at_zero Go.wp_at_succ
theorem RecA.ok.keep {w w' : World} {x : RecA} (h : x.ok w) (hb : Below w.heap.size w w') : x.ok w' := ⟨h.wf, h.sl.below hb⟩
theorem appE_keep {α : Type} {cs : α → List Value} {T : TypeId} {sz : Nat} {w w' : World} {B : Nat} {a : Option Addr} {n cap : Nat} {l : List α} (h : AppE cs T sz w B a n cap l) (hk : ∀ b, B ≤ b → b < w.heap.size → w'.heap[b]? = w.heap[b]?) : AppE cs T sz w' B a n cap l := by
  refine ⟨h.len, h.le, h.max, h.row.1, ?_⟩
  rcases h.row.2 with h1 | ⟨g, c, cur, e1, e2, e3, rest⟩
  · exact .inl h1
  · exact .inr ⟨g, c, cur, e1, e2, (hk g e2 (heap_lt e3)).trans e3, rest⟩
theorem Kn.zero {B : Nat} {w0 w : World} {l : List (Nat × Obj)} (h : Kn B w0 l w) : Kn 0 w0 l w := ⟨h.at_, h.b.mono (Nat.zero_le _), Nat.zero_le _⟩
theorem VecAt.keep {w w' : World} {F : List Nat} {B : Nat} {a : Option Addr} {l : List Int} (h : VecAt w B a l) (hl : l.length ≤ 8) (hF : ∀ k ∈ F, k < B) (hs : w.heap.size ≤ w'.heap.size) (hd : ∀ i, i < w.heap.size → i ∉ F → w'.heap[i]? = w.heap[i]?) : SlR w' ⟨a, l.length, l.length⟩ l :=
  SlR.keep (w := w) (F := F) ⟨h.reads, Nat.le_refl _, (by show l.length ≤ 9223372036854775807; omega)⟩ (h.far hF) hs hd
end
end Go.Proofs.YtglabahbklpocaaGreat
namespace Go.Proofs.YtglabahbklpocaaGreat
section
open Go.RowKit Go.Deep
set_option maxRecDepth 100000
set_option linter.unusedVariables false
set_option linter.unusedSimpArgs false
attribute [local go_sem ↓] Go.wp_at_zero Go.wp_at_succ
end
end Go.Proofs.YtglabahbklpocaaGreat
namespace Go.Proofs.YtglabahbklpocaaGreat
section
open Go.RowKit Go.Deep
set_option maxRecDepth 100000
set_option linter.unusedVariables false
set_option linter.unusedSimpArgs false
attribute [local go_sem ↓] Go.wp_at_zero Go.wp_at_succ
theorem wpList_append_G {α : Type} {cs : α → List Value} {S T : TypeId} {sz by_ : Nat} {z : Value} {B : Nat} {a : Option Addr} {n cap : Nat} {l : List α} (E : Ety cs S T sz by_ z) {ops : Array Oper} {rest : List Oper} {o : Oper} {act : Act} {Q : Exit → Act → World → Prop} (hgd : o.guard = none) (s x : Operand)
    (ho : o.op = .call { callee := .builtin .append, args := #[s, x], argTypes := #[S, S] }) (w : World) (hs : act.eval s = .slice a n cap) (h : AppE cs T sz w B a n cap l) (hB : B ≤ w.heap.size) (hn : n < 100000)
    (g : Nat) (c : Nat) (y : α) (hx : act.eval x = .slice (some ⟨g, 0, none⟩) 1 c) (hy : CellsAt w g 0 (cs y))
    (hK : ∀ a' cap' w', AppE cs T sz w' B a' (n + 1) cap' (l ++ [y]) → Below B w w' → w.grownBy w' (Value.slice a n cap).ownBlock → wpList Tryz.prog ops Q rest (act.put o.dst (.slice a' (n + 1) cap')) w') : wpList Tryz.prog ops Q (o :: rest) act w := by
  refine wpList_plain hgd fun K hK' => ?_
  obtain ⟨a', cap', w', hrun, h1, h2, h3, _⟩ := run_append_E E o.type w h hB g 0 1 c [y] (by omega) rfl (fun j x hj => by
    cases j with
    | zero => simp at hj; subst hj; simpa using hy
    | succ j => simp at hj)
  unfold Oper.wp
  simp [execOp, ho, resolve, invoke, builtin, hs, hx, hrun, Result.andThen]
  exact hK' _ _ (hK a' cap' w' h1 h2 h3)
/-- A record whose numbers lie in a block of their own. -/
structure RcT (w : World) (x : RecA) : Prop where
  ok : x.ok w
  ti : TI w x.d
  n8 : x.d.n ≤ 8
theorem RcT.below {w w' : World} {x : RecA} (h : RcT w x) (hb : Below w.heap.size w w') : RcT w' x :=
  ⟨⟨h.ok.wf, h.ok.sl.below hb⟩, h.ti.imp_right fun ⟨g, cur, e1, e2⟩ => ⟨g, cur, e1, (hb.block g (heap_lt e2)).trans e2⟩, h.n8⟩
theorem RcT.grown {w w' : World} {x : RecA} (h : RcT w x) {a : Option Addr} {n cap B : Nat} {l : List RecA} (hA : AppE RecA.cs 60 9 w B a n cap l) (hg : w.grownBy w' (Value.slice a n cap).ownBlock) : RcT w' x := by
  have hd : ∀ (i : Nat) (cur : Array Value), w.heap[i]? = some (Obj.cells cur 3 (0, 0)) → w'.heap[i]? = w.heap[i]? := fun i cur hi => by
    refine hg.block i (heap_lt hi) (fun e => ?_)
    rcases hA.row.2 with ⟨e1, _⟩ | ⟨g', c', cur', e1, _, e2, _⟩
    · rw [e1] at e; simp [Value.ownBlock] at e
    · rw [e1] at e
      simp only [Value.ownBlock, Option.some.injEq] at e
      subst e
      rw [hi] at e2
      simp only [Option.some.injEq, Obj.cells.injEq] at e2
      exact absurd e2.2.1 (by decide)
  refine ⟨⟨h.ok.wf, ?_⟩, ?_, h.n8⟩
  · rcases h.ti with h0 | ⟨g, cur, e1, e2⟩
    · obtain ⟨⟨h1, h2⟩, h3, h4⟩ := h.ok.sl
      exact ⟨⟨h1, .inl h0⟩, h3, h4⟩
    · exact h.ok.sl.keep (F := List.range w.heap.size |>.filter (· ≠ g)) (.inr fun p hp hm => by rw [e1] at hp; cases hp; simp at hm) hg.size (fun i hi hn => by
        have : i = g := by
          simp only [List.mem_filter, List.mem_range, not_and] at hn
          have := hn hi
          simpa using this
        subst this
        exact hd i cur e2)
  · exact h.ti.imp_right fun ⟨g, cur, e1, e2⟩ => ⟨g, cur, e1, (hd g cur e2).trans e2⟩
/-- The list lies in a block of records. -/
def TR (w : World) (d : Sl) : Prop := d.n = 0 ∨ ∃ g cur, d.a = some ⟨g, 0, none⟩ ∧ w.heap[g]? = some (.cells cur 60 (0, 0))
theorem AppE.tr {w : World} {B : Nat} {a : Option Addr} {n cap : Nat} {l : List RecA} (h : AppE RecA.cs 60 9 w B a n cap l) : TR w ⟨a, n, cap⟩ := by
  rcases h.row.2 with ⟨e, h0⟩ | ⟨g, c, cur, e, _, e3, _⟩
  · exact .inl h0
  · simp only [Value.slice.injEq] at e
    exact .inr ⟨g, cur, e.1, e3⟩
/-- What a list of records that was handed out is. -/
structure RecsAt (w : World) (d : Sl) (xs : List RcM) : Prop where
  ex : ∃ rs : List RecA, ReadsE RecA.cs 9 w d.a d.n rs ∧ rs.map RecA.m = xs ∧ (∀ x ∈ rs, x.ok w ∧ x.d.n ≤ 8) ∧ (∀ x ∈ rs, TI w x.d) ∧ TR w d
  nc : d.n ≤ d.c
  cm : d.c ≤ 9223372036854775807
end
end Go.Proofs.YtglabahbklpocaaGreat
namespace Go.Proofs.YtglabahbklpocaaGreat
section
open Go.RowKit Go.Deep
set_option maxRecDepth 100000
set_option linter.unusedVariables false
set_option linter.unusedSimpArgs false
attribute [local go_sem ↓] Go.wp_at_zero Go.wp_at_succ
end
end Go.Proofs.YtglabahbklpocaaGreat
namespace Go.Proofs.YtglabahbklpocaaGreat
section
open Go.RowKit Go.Deep
set_option maxRecDepth 100000
set_option linter.unusedVariables false
set_option linter.unusedSimpArgs false
attribute [local go_sem ↓] Go.wp_at_zero Go.wp_at_succ
end
end Go.Proofs.YtglabahbklpocaaGreat
namespace Go.Proofs.YtglabahbklpocaaGreat
section
open Go.RowKit Go.Deep
set_option maxRecDepth 100000
set_option linter.unusedVariables false
set_option linter.unusedSimpArgs false
attribute [local go_sem ↓] Go.wp_at_zero Go.wp_at_succ
theorem LogAt.len {w : World} {F : List Nat} {g : Nat} {m : LogM} (h : LogAt w F g m) : m.xs.length ≤ 400 := by
  obtain ⟨b, k, a, rs, h1, h2⟩ := h
  rw [h2.xs, List.length_map]
  have := h2.ha.1
  have := h2.sm
  omega
theorem RecsAt.nil (w : World) : RecsAt w ⟨none, 0, 0⟩ [] := ⟨⟨[], ⟨rfl, .inl rfl⟩, rfl, by simp, by simp, .inl rfl⟩, Nat.le_refl _, by decide⟩
end
end Go.Proofs.YtglabahbklpocaaGreat
namespace Go.Proofs.YtglabahbklpocaaGreat
section
open Go.RowKit
set_option maxRecDepth 100000
set_option linter.unusedVariables false
set_option linter.unusedSimpArgs false
attribute [local go_sem ↓] Go.wp_at_zero Go.wp_at_succ
def Sl.cut (d : Sl) : Sl := if 12 < d.n then ⟨d.a, 12, d.c⟩ else d
def RecA.small (x : RecA) : RecA := ⟨{ x.r with series := x.r.series.extract 0 60 }, x.d.cut, x.ds.take 12⟩
def Sl0 : Sl := ⟨none, 0, 0⟩
theorem SlR.cut {w : World} {d : Sl} {ds : List Int} (h : SlR w d ds) : SlR w d.cut (ds.take 12) := by
  obtain ⟨⟨h1, h2⟩, h3, h4⟩ := h
  unfold Sl.cut
  split
  · refine ⟨⟨by simp; omega, ?_⟩, by simp; omega, h4⟩
    rcases h2 with h2 | ⟨b, o, e1, e2, e3⟩
    · omega
    · refine .inr ⟨b, o, e1, e2, fun j hj => ?_⟩
      simp only at hj
      rw [e3 j (by omega)]
      congr 2
      simp only [List.getD_eq_getElem?_getD, List.getElem?_take]
      rw [if_pos hj]
  · rw [List.take_of_length_le (by omega)]
    exact ⟨⟨h1, h2⟩, h3, h4⟩
theorem RecA.small_ok {w : World} {x : RecA} (h : x.ok w) : x.small.ok w := ⟨⟨h.wf.1, by
  have := h.wf.2.1
  simp only [RecA.small, ByteArray.size_extract]
  omega, h.wf.2.2⟩, h.sl.cut⟩
theorem RecA.ok.below {w w' : World} {x : RecA} (h : x.ok w) (hb : Below w.heap.size w w') : x.ok w' := ⟨h.wf, h.sl.below hb⟩
end
end Go.Proofs.YtglabahbklpocaaGreat
namespace Go.Proofs.YtglabahbklpocaaGreat
section
open Go.RowKit Go.Deep
set_option maxRecDepth 100000
set_option linter.unusedVariables false
set_option linter.unusedSimpArgs false
attribute [local go_sem ↓] Go.wp_at_zero Go.wp_at_succ
theorem SlR.held {w : World} {d : Sl} {xs : List Int} (h : SlR w d xs) (hn : 0 < d.n) : ∃ b o, d.a = some ⟨b, o, none⟩ := by
  rcases h.r.2 with h2 | ⟨b, o, e1, _⟩
  · omega
  · exact ⟨b, o, e1⟩
def mkR (site seq : Int) : Rc := ⟨1, ⟨#[97]⟩, seq, 0, 0, ⟨seq, site, seq⟩⟩
end
end Go.Proofs.YtglabahbklpocaaGreat
namespace Go.Proofs.YtglabahbklpocaaGreat
section
open Go.RowKit Go.Deep
set_option maxRecDepth 100000
set_option linter.unusedVariables false
set_option linter.unusedSimpArgs false
attribute [local go_sem ↓] Go.wp_at_zero Go.wp_at_succ
theorem few19z_any (d : Sl) (xs : List Int) (w : World) (h : SlR w d xs) : Calls Tryz.prog 9 #[.slice d.a d.n d.c] w fun e w' => e = .returned (.slice d.cut.a d.cut.n d.cut.c) ∧ w = w' := by
  have hnc := h.nc
  have hcb := h.cb
  by_cases h12 : 12 < d.n
  · obtain ⟨b, o, ha⟩ := h.held (by omega)
    have t1 : decide (12 < (d.n : Int)) = true := decide_eq_true (by omega)
    have i1 : (12 : Int) ≤ (d.c : Int) := by omega
    have i2 : (12 : Int) ≤ (d.n : Int) := by omega
    have hc : d.cut = ⟨d.a, 12, d.c⟩ := by unfold Sl.cut; rw [if_pos h12]
    rw [hc]
    simp only
    rw [ha]
    clear hc ha
    go_enter Tryz.func9, Tryz.ntmps9
    go_wp2_with fail
    go_ret
    exact ⟨rfl, rfl⟩
  · have t1 : decide (12 < (d.n : Int)) = false := decide_eq_false (by omega)
    have hc : d.cut = d := by unfold Sl.cut; rw [if_neg h12]
    rw [hc]
    clear hc
    go_enter Tryz.func9, Tryz.ntmps9
    go_wp2_with fail
    go_ret
    exact ⟨rfl, rfl⟩
set_option maxHeartbeats 4000000 in
theorem record19_any (x : RecA) (w : World) (h : x.ok w) : Calls Tryz.prog 27 #[x.val] w fun e w' => e = .returned x.small.val ∧ Below w.heap.size w w' := by
  have HX := Lib.hid h
  have HFW := fun wx hb => few19z_any x.d x.ds wx (HX.out.sl.below (w' := wx) hb)
  obtain ⟨V, HV⟩ : ∃ V, Hid (V = x.small) := ⟨_, rfl⟩
  rw [← HV.out]
  have hsz := h.wf.2.1
  obtain ⟨r, d, ds⟩ := x
  clear h
  unfold RecA.val rcVal
  simp only [rcA] at HFW ⊢
  go_enter Tryz.func27, Tryz.ntmps27
  go_upto_region 1 with fail
  generalize hw1 : World.alloc _ _ = w1
  obtain ⟨rz, hrz⟩ : ∃ rz : Rc, rz = ⟨0, ⟨#[]⟩, 0, 0, 0, ⟨0, 0, 0⟩⟩ := ⟨_, rfl⟩
  obtain ⟨sz, hszz⟩ : ∃ sz : Sl, sz = ⟨none, 0, 0⟩ := ⟨_, rfl⟩
  have KK := Lib.hid (show Kn w.heap.size w [(w.heap.size, rcO r d), (w.heap.size + 1, rcO rz sz)] w1 by rw [← hw1, hrz, hszz]; exact (((Kn.start w).new' rfl (rcO r d)).new' (n := w.heap.size + 1) (by simp) (rcO ⟨0, ⟨#[]⟩, 0, 0, 0, ⟨0, 0, 0⟩⟩ ⟨none, 0, 0⟩)).sub (by simp))
  clear hw1 hrz hszz
  generalize hg : w.heap.size = g at *
  have q1 := KK.out.cell (g := g) (o := rcO r d) (by simp) (j := 1) (v := .string r.series) rfl
  have f1 := KK.out.fz (g := g) (o := rcO r d) (by simp) 1
  by_cases hs : 60 < r.series.size
  · have t1 : decide (60 < (r.series.size : Int)) = true := decide_eq_true (by omega)
    have q0 : (60 : Int) ≤ (r.series.size : Int) := by omega
    go_upto_region 3 with fail
    have KK := Lib.hid (Kn.setCell KK.out (by simp only [Apart, and_true]; omega) (by omega) 1 (.string (r.series.extract 0 60)) (rcO { r with series := r.series.extract 0 60 } d) rfl)
    generalize World.setCell _ _ _ = w8 at *
    have HV := Lib.hid (HV.out.trans (show RecA.small ⟨r, d, ds⟩ = ⟨{ r with series := r.series.extract 0 60 }, d.cut, ds.take 12⟩ from rfl))
    clear q1 f1 q0
    have HS := KK.out.cell (g := g) (o := rcO { r with series := r.series.extract 0 60 } d) (by simp) (j := 8) (v := .slice d.a d.n d.c) rfl
    have HZ := KK.out.fz (g := g) (o := rcO { r with series := r.series.extract 0 60 } d) (by simp) 8
    go_upto_region 4 with (first | (go_at_call 9; refine (HFW _ KK.out.b).mono ?_; rintro e wn ⟨rfl, rfl⟩))
    have KK := Lib.hid (Kn.setCell (KK.out.sub (m := [(g, rcO { r with series := r.series.extract 0 60 } d), (g + 1, rcO rz sz)]) (by simp)) (by simp only [Apart, and_true]; omega) (by omega) 8 (.slice d.cut.a d.cut.n d.cut.c) (rcO { r with series := r.series.extract 0 60 } d.cut) rfl)
    generalize World.setCell _ _ _ = w9 at *
    clear HS HZ
    go_wp2_with (first
      | refine wpList_load_row rfl 60 _ rfl g rfl 60 (rcA { r with series := r.series.extract 0 60 } d.cut) (0, 0) _ KK.out.hd Tryz.underlying60 rfl (by kernel_rfl) ?_
      | refine wpList_store_row rfl 60 _ _ rfl (g + 1) (rcA { r with series := r.series.extract 0 60 } d.cut) rfl rfl 60 _ (KK.out.at_ (g + 1, rcO rz sz) (by simp)) (by kernel_rfl) rfl (by simp [Value.oneCell', rcA]) ?_)
    have KF := Kn.setRow (KK.out.sub (m := [(g + 1, rcO rz sz), (g, rcO { r with series := r.series.extract 0 60 } d.cut)]) (by simp)) (by simp only [Apart, and_true]; omega) (by omega) (rcO { r with series := r.series.extract 0 60 } d.cut)
    refine bodyPost_ret (v := rcVal { r with series := r.series.extract 0 60 } d.cut) (results_cell_row rfl _ _ (g + 1) 60 (rcA { r with series := r.series.extract 0 60 } d.cut) (0, 0) _ rfl KF.hd Tryz.underlying60 rfl (by kernel_rfl)) rfl ⟨by rw [HV.out]; rfl, by first | exact KF.b | (rw [hg]; exact KF.b)⟩
  · have t1 : decide (60 < (r.series.size : Int)) = false := decide_eq_false (by omega)
    have q0 : (0 : Int) ≤ 60 := by omega
    go_upto_region 3 with fail
    have HV := Lib.hid (HV.out.trans (show RecA.small ⟨r, d, ds⟩ = ⟨r, d.cut, ds.take 12⟩ by unfold RecA.small; simp only; rw [extract_all _ _ (by omega)]))
    clear q1 f1 q0
    have HS := KK.out.cell (g := g) (o := rcO r d) (by simp) (j := 8) (v := .slice d.a d.n d.c) rfl
    have HZ := KK.out.fz (g := g) (o := rcO r d) (by simp) 8
    go_upto_region 4 with (first | (go_at_call 9; refine (HFW _ KK.out.b).mono ?_; rintro e wn ⟨rfl, rfl⟩))
    have KK := Lib.hid (Kn.setCell (KK.out.sub (m := [(g, rcO r d), (g + 1, rcO rz sz)]) (by simp)) (by simp only [Apart, and_true]; omega) (by omega) 8 (.slice d.cut.a d.cut.n d.cut.c) (rcO r d.cut) rfl)
    generalize World.setCell _ _ _ = w9 at *
    clear HS HZ
    go_wp2_with (first
      | refine wpList_load_row rfl 60 _ rfl g rfl 60 (rcA r d.cut) (0, 0) _ KK.out.hd Tryz.underlying60 rfl (by kernel_rfl) ?_
      | refine wpList_store_row rfl 60 _ _ rfl (g + 1) (rcA r d.cut) rfl rfl 60 _ (KK.out.at_ (g + 1, rcO rz sz) (by simp)) (by kernel_rfl) rfl (by simp [Value.oneCell', rcA]) ?_)
    have KF := Kn.setRow (KK.out.sub (m := [(g + 1, rcO rz sz), (g, rcO r d.cut)]) (by simp)) (by simp only [Apart, and_true]; omega) (by omega) (rcO r d.cut)
    refine bodyPost_ret (v := rcVal r d.cut) (results_cell_row rfl _ _ (g + 1) 60 (rcA r d.cut) (0, 0) _ rfl KF.hd Tryz.underlying60 rfl (by kernel_rfl)) rfl ⟨by rw [HV.out]; rfl, by first | exact KF.b | (rw [hg]; exact KF.b)⟩
end
end Go.Proofs.YtglabahbklpocaaGreat
namespace Go.Proofs.YtglabahbklpocaaGreat
section
set_option maxRecDepth 100000
set_option linter.unusedVariables false
set_option linter.unusedSimpArgs false
def upd {α : Type} (f : Nat → α) (i : Nat) (x : α) : Nat → α := fun j => if j = i then x else f j
/-- Peers, plainly: of site i the vector v i; s i: was something sent; a i: when. -/
structure PeM where
  me : Int
  sites : Int
  every : Int
  v : Nat → List Int
  s : Nat → Bool
  a : Nat → Int
def isO (m : PeM) (i : Int) : Bool := decide (0 ≤ i) && (decide (i < m.sites) && !decide (i = m.me))
theorem isO_true {m : PeM} {i : Int} (h : isO m i = true) : 0 ≤ i ∧ i < m.sites ∧ i ≠ m.me := by
  unfold isO at h
  simp only [Bool.and_eq_true, decide_eq_true_eq, Bool.not_eq_true', decide_eq_false_iff_not] at h
  exact h
def clockP (n : Int) : Int := min (max n 0) 1125899906842624
def newP (me sites every : Int) : PeM := ⟨me, min (max sites 1) 8, max every 1, fun _ => [], fun _ => false, fun _ => 0⟩
def noteM (m : PeM) (site : Int) (v : List Int) : PeM × Bool := if isO m site = true ∧ covV (m.v site.toNat) v = false then ({ m with v := upd m.v site.toNat (joinV (m.v site.toNat) v) }, true) else (m, false)
def leastK (m : PeM) (mine : List Int) : Nat → List Int
  | 0 => joinV mine []
  | k + 1 => if isO m (k : Int) = true then meetV (leastK m mine k) (m.v k) else leastK m mine k
def leastM (m : PeM) (mine : List Int) : List Int := leastK m mine 8
def thoseK (m : PeM) (P : Nat → Bool) : Nat → List Int
  | 0 => []
  | k + 1 => if isO m (k : Int) = true ∧ P k = true then thoseK m P k ++ [(k : Int)] else thoseK m P k
def dueP (m : PeM) (t : Int) (i : Nat) : Bool := !m.s i || (decide (m.every ≤ t - m.a i) || decide (t < m.a i))
def dueM (m : PeM) (now : Int) : List Int := thoseK m (dueP m (clockP now)) 8
def sentM (m : PeM) (site now : Int) : PeM × Bool := if isO m site = true then ({ m with s := upd m.s site.toNat true, a := upd m.a site.toNat (clockP now) }, true) else (m, false)
theorem thoseK_len (m : PeM) (P : Nat → Bool) (k : Nat) : (thoseK m P k).length ≤ k := by
  induction k with
  | zero => exact Nat.le_refl _
  | succ k ih =>
    unfold thoseK
    split
    · rw [List.length_append]; simp; omega
    · omega
end
end Go.Proofs.YtglabahbklpocaaGreat
