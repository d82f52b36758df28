/- Records: which may be; their cells. A slice of whole numbers among the arguments, as a walk is told of it. -/
import Derived.Test.YtglabahbklpocaaGShipPeers5
import Derived.Test.YtglabahbklpocaaGShipPeers10
import Derived.Test.YtglabahbklpocaaGShipPeers13
import Derived.Test.YtglabahbklpocaaGShipPeers20
import Derived.Test.YtglabahbklpocaaGShipPeers8
import Derived.Test.YtglabahbklpocaaGShipPeers21
import Derived.Test.YtglabahbklpocaaGShipPeers1
import Derived.ProofKit
import Derived.OpenShut
namespace Go.Proofs.Ytglabahbklpocaa
section
open Go.RowKit
set_option maxRecDepth 100000
set_option linter.unusedVariables false
set_option linter.unusedSimpArgs false
attribute [local go_sem ↓] Go.wp_at_zero Go.wp_at_succ
/-- A record without its Deps. -/
structure Rc where
  kind : Int
  series : ByteArray
  time : Int
  value : Int
  tier : Int
  st : St

def i64' (x : Int) : Prop := -9223372036854775808 ≤ x ∧ x ≤ 9223372036854775807
structure Sl where
  a : Option Addr
  n : Nat
  c : Nat
def Sl.val (s : Sl) : Value := .slice s.a s.n s.c
def rcA (r : Rc) (d : Sl) : Array Value := #[.int .i64 r.kind, .string r.series, .int .i64 r.time, .int .i64 r.value, .int .i64 r.tier, .int .i64 r.st.clock, .int .i64 r.st.site, .int .i64 r.st.seq, .slice d.a d.n d.c]
def rcVal (r : Rc) (d : Sl) : Value := .agg (rcA r d)
def rcO (r : Rc) (d : Sl) : Obj := .cells (rcA r d) 86 (0, 0)
/-- The slice d reads as xs. -/
structure SlR (w : World) (d : Sl) (xs : List Int) : Prop where
  r : ReadsI .i64 w d.a d.n xs
  nc : d.n ≤ d.c
  cb : d.c ≤ 9223372036854775807
theorem SlR.below {w w' : World} {d : Sl} {xs : List Int} (h : SlR w d xs) (hb : Below w.heap.size w w') : SlR w' d xs := ⟨h.r.below hb, h.nc, h.cb⟩
theorem SlR.same {w wd : World} {d : Sl} {xs : List Int} (h : SlR w d xs) (e : wd.heap = w.heap) : SlR wd d xs := by
  obtain ⟨⟨h1, h2⟩, h3, h4⟩ := h
  refine ⟨⟨h1, h2.imp_right fun ⟨b, o, e1, e2, e3⟩ => ⟨b, o, e1, by rw [e]; exact e2, fun j hj => ?_⟩⟩, h3, h4⟩
  have := e3 j hj
  simp only [World.cell?] at this ⊢
  rw [e]; exact this
def Rc.wf (r : Rc) : Prop := i64' r.kind ∧ r.series.size ≤ 9223372036854775807 ∧ i64' r.time ∧ i64' r.value ∧ i64' r.tier ∧ i64' r.st.clock ∧ i64' r.st.site ∧ i64' r.st.seq
def recP (r : Rc) (ds : List Int) : Prop := clockV r.time = true ∧ okV r.st = true ∧ ds = pl ds ∧ atV ds r.st.site = r.st.seq - 1 ∧ ((r.kind = 1 ∧ nameV r.series = true ∧ r.tier = 0) ∨ (r.kind = 2 ∧ r.series.size = 0 ∧ r.value = 0 ∧ 0 ≤ r.tier ∧ r.tier ≤ 3))
open Classical in
noncomputable def chkR (r : Rc) (ds : List Int) : Int := if recP r ds then 0 else 1
theorem chkR_0 {r : Rc} {ds : List Int} (h : recP r ds) : chkR r ds = 0 := if_pos h
theorem chkR_1 {r : Rc} {ds : List Int} (h : ¬ recP r ds) : chkR r ds = 1 := if_neg h
structure RcC (w : World) (g : Nat) (r : Rc) (d : Sl) : Prop where
  c0 : w.cell? ⟨g, 0, none⟩ = some (.int .i64 r.kind)
  c1 : w.cell? ⟨g, 1, none⟩ = some (.string r.series)
  c2 : w.cell? ⟨g, 2, none⟩ = some (.int .i64 r.time)
  c3 : w.cell? ⟨g, 3, none⟩ = some (.int .i64 r.value)
  c4 : w.cell? ⟨g, 4, none⟩ = some (.int .i64 r.tier)
  c5 : w.cell? ⟨g, 5, none⟩ = some (.int .i64 r.st.clock)
  c6 : w.cell? ⟨g, 6, none⟩ = some (.int .i64 r.st.site)
  c7 : w.cell? ⟨g, 7, none⟩ = some (.int .i64 r.st.seq)
  c8 : w.cell? ⟨g, 8, none⟩ = some (.slice d.a d.n d.c)
theorem rc_cells {w wd : World} {g : Nat} {r : Rc} {d : Sl} (h : w.heap[g]? = some (rcO r d)) (e : wd.heap = w.heap) : RcC wd g r d := by
  have q : ∀ j v, (rcA r d)[j]? = some v → wd.cell? ⟨g, j, none⟩ = some v := fun j v hv => by
    simp only [World.cell?, e, h, rcO]
    exact hv
  exact ⟨q 0 _ rfl, q 1 _ rfl, q 2 _ rfl, q 3 _ rfl, q 4 _ rfl, q 5 _ rfl, q 6 _ rfl, q 7 _ rfl, q 8 _ rfl⟩
theorem RcC.conj {w : World} {g : Nat} {r : Rc} {d : Sl} (h : RcC w g r d) : w.cell? ⟨g, 2, none⟩ = some (.int .i64 r.time) ∧ w.cell? ⟨g, 5, none⟩ = some (.int .i64 r.st.clock) ∧ w.cell? ⟨g, 6, none⟩ = some (.int .i64 r.st.site) ∧ w.cell? ⟨g, 7, none⟩ = some (.int .i64 r.st.seq) ∧ w.cell? ⟨g, 8, none⟩ = some (.slice d.a d.n d.c) := ⟨h.c2, h.c5, h.c6, h.c7, h.c8⟩
end
end Go.Proofs.Ytglabahbklpocaa
namespace Go.Proofs.Ytglabahbklpocaa
section
open Go.ChangeShapes Go.WideShapes Go.ChangeAt Go.RowKit
set_option maxRecDepth 100000
set_option linter.unusedVariables false
set_option linter.unusedSimpArgs false
def IsInts (k : IntKind) (w : World) (v : Value) (xs : List Int) : Prop :=
  ∃ a n c, v = .slice a n c ∧ n ≤ c ∧ c ≤ 9223372036854775807 ∧ ReadsI k w a n xs ∧ ∀ x ∈ xs, (Lit.int k x).wf = true
theorem open_isInts {H : Type} {enc : TypeId × Value → H} {P : Program} {W : World} {r : Reach} {b0 : Nat} {t e : TypeId} {k : IntKind} {v : Value} {d : DataW H} {ps : List MemPlace}
    (ht : P.underlying t = some (.slice e)) (he : P.underlying e = some (.int k)) (hc : P.cellsOf e = 1) (hval : Value.okWide P W r b0 t v) (hd : DataW.Trod enc P W 0 (fun _ => true) true t v d ps) :
    ∃ xs, IsInts k W v xs := by
  obtain ⟨a, len, cap, rfl⟩ := okWide_slice ht hval
  obtain ⟨fuel, hf⟩ := hd
  rcases open_ints ht he hc hf with ⟨hcs, _⟩ | ⟨x, l, c, zs, hcs, _, hl, hm, hz, _, hcell, hwz⟩
  · simp [Value.cells] at hcs
    obtain ⟨rfl, rfl, rfl⟩ := hcs
    exact ⟨[], none, 0, 0, rfl, by omega, by omega, ⟨rfl, .inl rfl⟩, by simp⟩
  · simp [Value.cells] at hcs
    obtain ⟨rfl, rfl, rfl⟩ := hcs
    have hz' : zs.length = cap := by simpa using hz
    refine ⟨zs.take len, some x, len, cap, rfl, hl, by unfold maxLen at hm; omega, ⟨by rw [List.length_take]; omega, ?_⟩, fun y hy => hwz y (List.mem_of_mem_take hy)⟩
    rcases Nat.eq_zero_or_pos len with h0 | h0
    · exact .inl h0
    · right
      obtain ⟨b, off, spot⟩ := x
      have hc0 := hcell 0 (by omega)
      have hspot : spot = none := by simpa [Addr.add] using World.cell?_spot hc0
      subst hspot
      have hadd : ∀ j, (⟨b, off, none⟩ : Addr).add j = ⟨b, off + j, none⟩ := fun j => by unfold Addr.add; split <;> simp_all
      refine ⟨b, off, rfl, ?_, fun j hj => ?_⟩
      · have := World.block_lt_of_cell? _ _ hc0
        rw [hadd] at this
        exact this
      · have := hcell j (by omega)
        rw [hadd] at this
        rw [this]
        simp [List.getD_eq_getElem?_getD, hj]
end
end Go.Proofs.Ytglabahbklpocaa
