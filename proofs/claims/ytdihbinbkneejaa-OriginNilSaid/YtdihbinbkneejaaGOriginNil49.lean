/- What the laws of logs have alike. -/
import Derived.Test.YtdihbinbkneejaaGOriginNil45
import Derived.Test.YtdihbinbkneejaaGOriginNil48
namespace Go.Proofs.Ytdihbinbkneejaa
section
open Go.RowKit Go.Deep
set_option maxRecDepth 100000
set_option linter.unusedVariables false
set_option linter.unusedSimpArgs false
theorem LogAt.lt {w : World} {F : List Nat} {g : Nat} {m : LogM} (h : LogAt w F g m) : g < w.heap.size := by
  obtain ⟨_, _, _, _, h1, _⟩ := h
  exact heap_lt h1
theorem ops_at {w : World} {a : Option Addr} {n : Nat} {xs : List OpA} (h : ReadsE OpA.cs 13 w a n xs) (k : Nat) (hk : k < n) : ∃ b o x, a = some ⟨b, o, none⟩ ∧ xs[k]? = some x ∧ ∀ wx, Below w.heap.size w wx → CellsAt wx b (o + k * 13 + 3) (rcA x.x.r x.x.d).toList := by
  obtain ⟨b, o, x, e, hl, hx, hC⟩ := h.at (Below.refl _ _) k hk
  refine ⟨b, o, x, e, hx, fun wx hb j u hj => ?_⟩
  have := (hC.below hb hl) (3 + j) u (by
    unfold OpA.cs
    rw [List.append_assoc, List.getElem?_append_right (by simp)]
    simp only [List.length_cons, List.length_nil, Nat.zero_add]
    rw [show 3 + j - (1 + 1 + 1) = j by omega, List.getElem?_append_left (List.getElem?_eq_some_iff.1 hj).1]
    exact hj)
  rwa [← Nat.add_assoc] at this
/-- A log, and what was there. -/
structure One (w0 : World) (F : List Nat) (g : Nat) (l : LogM) (w : World) : Prop where
  l1 : LogAt w F g l
  b : Below w0.heap.size w0 w
section
variable {w0 w w' : World} {F : List Nat} {g : Nat} {l l' : LogM}
theorem One.below (h : One w0 F g l w) (d : Below w.heap.size w w') : One w0 F g l w' := ⟨h.l1.below d, below_then h.b h.b.size d⟩
theorem One.one (h : One w0 F g l w) (h1 : LogAt w' F g l') (d : But g w w') (h0 : w0.heap.size ≤ g) : One w0 F g l' w' := ⟨h1, But.below h.b d h.b.size h0⟩
end
theorem RecsAt.drop {w : World} {b o n c : Nat} {xs : List RcM} (h : RecsAt w ⟨some ⟨b, o, none⟩, n, c⟩ xs) (m : Nat) (hm : m ≤ n) : RecsW w ⟨some ⟨b, o + m * 9, none⟩, n - m, c - m⟩ (xs.drop m) := by
  obtain ⟨⟨rs, h1, h2, h3, _⟩, h6, h7⟩ := h
  simp only at h6 h7
  exact ⟨⟨rs.drop m, ReadsE.drop h1 m hm, by rw [List.map_drop, h2], fun x hx => h3 x (List.mem_of_mem_drop hx)⟩, by simp only; omega, by simp only; omega⟩
theorem RecsAt.none_ {w : World} {d : Sl} {xs : List RcM} (h : RecsAt w d xs) (a : Option Addr) (m c : Nat) (hm : d.n ≤ m) (hc : d.n - m ≤ c ∧ c ≤ 9223372036854775807) : RecsW w ⟨a, d.n - m, c⟩ (xs.drop m) := by
  obtain ⟨⟨rs, h1, h2, h3, _⟩, h6, h7⟩ := h
  have h8 := h1.1
  have h0 : xs.drop m = [] := List.drop_eq_nil_of_le (by rw [← h2, List.length_map]; omega)
  rw [h0]
  exact ⟨⟨[], ⟨by show 0 = d.n - m; omega, .inl (by show d.n - m = 0; omega)⟩, rfl, by simp⟩, hc.1, hc.2⟩
theorem recs_len {w : World} {d : Sl} {xs : List RcM} (h : RecsAt w d xs) : xs.length = d.n := by
  obtain ⟨⟨rs, h1, h2, _⟩, _⟩ := h
  rw [← h2, List.length_map]
  exact h1.1
theorem rsame_refl (d1 d2 : Sl) (xs : List RcM) (w : World) (h1 : RecsAt w d1 xs) (h2 : RecsAt w d2 xs) :
    Calls Try.prog 15 #[.slice d1.a d1.n d1.c, .slice d2.a d2.n d2.c] w fun e w' => e = .returned (.bool true) ∧ Below w.heap.size w w' := by
  have C := rsame17_any d1 d2 xs xs w h1 h2
  rw [sameX_true rfl] at C
  exact C
theorem rsame_w (d1 d2 : Sl) (xs : List RcM) (w : World) (h1 : RecsW w d1 xs) (h2 : RecsW w d2 xs) :
    Calls Try.prog 15 #[.slice d1.a d1.n d1.c, .slice d2.a d2.n d2.c] w fun e w' => e = .returned (.bool true) ∧ Below w.heap.size w w' := by
  have C := rsame17_w d1 d2 xs xs w h1 h2
  rw [sameX_true rfl] at C
  exact C
theorem vsame_refl (d1 d2 : Sl) (xs : List Int) (w : World) (h1 : SlR w d1 xs) (h2 : SlR w d2 xs) :
    Calls Try.prog 17 #[.slice d1.a d1.n d1.c, .slice d2.a d2.n d2.c] w fun e w' => e = .returned (.bool true) ∧ Below w.heap.size w w' := by
  have C := same_any d1.a d2.a d1.n d1.c d2.n d2.c xs xs w h1.r h2.r h1.nc h1.cb h2.nc h2.cb
  rw [decide_eq_true rfl] at C
  exact C
end
end Go.Proofs.Ytdihbinbkneejaa
