/- origin.Log.Add. -/
import Derived.Test.YtglabahbklpocaaGShipPeers30
import Derived.Test.YtglabahbklpocaaGShipPeers37
namespace Go.Proofs.Ytglabahbklpocaa
section
open Go.RowKit Go.Deep
set_option maxRecDepth 100000
set_option linter.unusedVariables false
set_option linter.unusedSimpArgs false
attribute [local go_sem ↓] Go.wp_at_zero Go.wp_at_succ
open Classical in
noncomputable def addM (m : LogM) (x : RcM) : LogM × Int :=
  if ¬ recP x.1 x.2 then (m, 1) else if x.1.st.seq ≠ atV m.ks x.1.st.site + 1 ∨ covV m.ks x.2 = false then (m, 17) else if m.most ≤ m.xs.length then (m, 15)
  else ({ m with xs := m.xs ++ [x], ks := withV m.ks x.1.st.site x.1.st.seq, clock := max m.clock x.1.st.clock }, 0)
theorem atV_range (xs : List Int) (i : Int) : 0 ≤ atV xs i ∧ atV xs i ≤ 1099511627776 := by
  unfold atV
  split
  · exact nm_range _ _
  · exact ⟨by decide, by decide⟩
theorem withV_len (xs : List Int) (s n : Int) : (withV xs s n).length ≤ 8 := vec_length _
theorem RecA.ok.keep {w w' : World} {x : RecA} (h : x.ok w) (hb : Below w.heap.size w w') : x.ok w' := ⟨h.wf, h.sl.below hb⟩
theorem add_held {B q g : Nat} {w0 w wd : World} {l : List (Nat × Obj)} {r : Rc} {d k b a : Sl} {mo ck : Int} (h : Kn B w0 l w) (h1 : (q, rcO r d) ∈ l) (h2 : (g, logO mo b k a ck) ∈ l) (e : wd.heap = w.heap) :
    wd.cell? ⟨q, 6, none⟩ = some (.int .i64 r.st.site) ∧ wd.cell? ⟨q, 7, none⟩ = some (.int .i64 r.st.seq) ∧ wd.cell? ⟨q, 8, none⟩ = some (.slice d.a d.n d.c) ∧ wd.cell? ⟨g, 2, none⟩ = some (.slice k.a k.n k.c) ∧ wd.cell? ⟨q, 5, none⟩ = some (.int .i64 r.st.clock) ∧ wd.cell? ⟨g, 4, none⟩ = some (.int .i64 ck) ∧ wd.cell? ⟨g, 3, none⟩ = some (.slice a.a a.n a.c) ∧ wd.heap[q]? = some (rcO r d) ∧ wd.cell? ⟨g, 0, none⟩ = some (.int .i64 mo) := by
  have q1 := rc_cells (h.at_ _ h1) e
  have q2 : ∀ j v, (#[.int .i64 mo, .slice b.a b.n b.c, .slice k.a k.n k.c, .slice a.a a.n a.c, .int .i64 ck] : Array Value)[j]? = some v → wd.cell? ⟨g, j, none⟩ = some v := fun j v hv => by
    have := h.at_ _ h2
    simp only [World.cell?, e, this, logO]
    exact hv
  exact ⟨q1.c6, q1.c7, q1.c8, q2 2 _ rfl, q1.c5, q2 4 _ rfl, q2 3 _ rfl, by rw [e]; exact h.at_ _ h1, q2 0 _ rfl⟩
theorem rec_new (w : World) (r : Rc) (d : Sl) (ds : List Int) : ∀ j y, ([⟨r, d, ds⟩] : List RecA)[j]? = some y → CellsAt (w.alloc (.cells #[.int .i64 r.kind, .string r.series, .int .i64 r.time, .int .i64 r.value, .int .i64 r.tier, .int .i64 r.st.clock, .int .i64 r.st.site, .int .i64 r.st.seq, .slice d.a d.n d.c] 86)) w.heap.size (0 + j * 9) y.cs := by
  intro j y hj i u hi
  cases j with
  | succ j => simp at hj
  | zero =>
    simp only [List.getElem?_cons_zero, Option.some.injEq] at hj
    subst hj
    rw [Nat.zero_mul, Nat.zero_add, World.cell?_alloc_new]
    show (rcA r d)[i]? = some u
    simpa [RecA.cs] using hi
theorem appE_keep {α : Type} {cs : α → List Value} {T : TypeId} {sz : Nat} {w w' : World} {B : Nat} {a : Option Addr} {n cap : Nat} {l : List α} (h : AppE cs T sz w B a n cap l) (hk : ∀ b, B ≤ b → b < w.heap.size → w'.heap[b]? = w.heap[b]?) : AppE cs T sz w' B a n cap l := by
  refine ⟨h.len, h.le, h.max, h.row.1, ?_⟩
  rcases h.row.2 with h1 | ⟨g, c, cur, e1, e2, e3, rest⟩
  · exact .inl h1
  · exact .inr ⟨g, c, cur, e1, e2, (hk g e2 (heap_lt e3)).trans e3, rest⟩
theorem Kn.zero {B : Nat} {w0 w : World} {l : List (Nat × Obj)} (h : Kn B w0 l w) : Kn 0 w0 l w := ⟨h.at_, h.b.mono (Nat.zero_le _), Nat.zero_le _⟩
theorem VecAt.keep {w w' : World} {F : List Nat} {B : Nat} {a : Option Addr} {l : List Int} (h : VecAt w B a l) (hl : l.length ≤ 8) (hF : ∀ k ∈ F, k < B) (hs : w.heap.size ≤ w'.heap.size) (hd : ∀ i, i < w.heap.size → i ∉ F → w'.heap[i]? = w.heap[i]?) : SlR w' ⟨a, l.length, l.length⟩ l :=
  SlR.keep (w := w) (F := F) ⟨h.reads, Nat.le_refl _, (by show l.length ≤ 9223372036854775807; omega)⟩ (h.far hF) hs hd
end
end Go.Proofs.Ytglabahbklpocaa
