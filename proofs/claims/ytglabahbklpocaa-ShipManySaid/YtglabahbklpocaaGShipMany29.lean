/- A list of numbers of one's own that grows by append, one by one. Peers in memory. -/
import Derived.Test.YtglabahbklpocaaGShipMany1
import Derived.Test.YtglabahbklpocaaGShipMany14
import Derived.Test.YtglabahbklpocaaGShipMany28
import Derived.Laws.AppendOwn
import Derived.Laws.OwnMore
import Derived.Deep.AppendLies
import Derived.Test.YtglabahbklpocaaGShipMany2
import Derived.Test.YtglabahbklpocaaGShipMany26
import Derived.Test.YtglabahbklpocaaGShipMany7
namespace Go.Proofs.Ytglabahbklpocaa
section
open Go.RowKit
set_option maxRecDepth 100000
set_option linter.unusedVariables false
set_option linter.unusedSimpArgs false
/-- The slice at a, n numbers long, is a row of its own, in memory from B on, and holds l. -/
structure AppJ (w : World) (B : Nat) (a : Option Addr) (n cap : Nat) (l : List Int) : Prop where
  len : l.length = n
  le : n ≤ cap
  max : cap ≤ maxLen
  row : w.ownsRow B 3 1 (.slice a n cap) n (l.map (Value.int .i64))
theorem appJ_nil (w : World) (B : Nat) : AppJ w B none 0 0 [] := ⟨rfl, Nat.le_refl _, by unfold maxLen; omega, World.ownsRow_nil _ _ _ _⟩
theorem AppJ.below {w w' : World} {B : Nat} {a : Option Addr} {n cap : Nat} {l : List Int} (h : AppJ w B a n cap l) (hb : Below w.heap.size w w') : AppJ w' B a n cap l :=
  ⟨h.len, h.le, h.max, h.row.kept (row := none) ⟨hb.os, hb.tape, hb.output, hb.size, fun i hi _ => hb.block i hi⟩ (by cases Value.ownBlock (.slice a n cap) <;> simp)⟩
theorem info_i64 : (Try.prog.info? 3).map (fun i => (i.zero, i.size, i.bytes)) = some (some (.int .i64 0), 1, 8) := by kernel_rfl
theorem run_append_i64 (ty : TypeId) (w : World) (B : Nat) (a : Option Addr) (n cap : Nat) (l : List Int) (h : AppJ w B a n cap l) (hB : B ≤ w.heap.size) (hn : n ≤ 100000) (ad : Addr) (c : Nat) (y : Int) (hy : w.cell? ad = some (.int .i64 y)) :
    ∃ a' cap' w', (Builtin.append_ #[26, 26] ty #[.slice a n cap, .slice (some ad) 1 c]).run Try.prog w = .ok (.slice a' (n + 1) cap') w' ∧ AppJ w' B a' (n + 1) cap' (l ++ [y]) ∧ Below B w w' := by
  obtain ⟨i, hi, hii⟩ := Option.map_eq_some_iff.1 info_i64
  simp only [Prod.mk.injEq] at hii
  obtain ⟨hz, hsize, hby⟩ := hii
  have hnews : ∀ j u, [Value.int .i64 y][j]? = some u → w.cell? (ad.add j) = some u := fun j u hj => by
    cases j with
    | zero => simp at hj; subst hj; simpa [Addr.add] using hy
    | succ j => simp at hj
  have h1 := h.row
  obtain ⟨v', w', hr, ho, hg, hnil⟩ := run_append_own (P := Try.prog) w B 26 ty 3 i (.int .i64 0) 1 8 Try.underlying26 hi hz hsize hby rfl (by decide) _ n _ h1 ad 1 c [.int .i64 y] rfl hnews (by intro u hu; simp at hu; subst hu; rfl) (by unfold maxLen; omega) (by omega) hB
  obtain ⟨g, cap', rfl, hgB, hgl⟩ := ho.form (by omega)
  have hcap : n + 1 ≤ cap' ∧ cap' ≤ maxLen := by
    rcases ho.2 with ⟨e, _⟩ | ⟨g', c', cur, e, _, _, h3, h4, _⟩
    · simp at e
    · simp only [Value.slice.injEq, Option.some.injEq, Addr.mk.injEq, and_true, true_and] at e
      obtain ⟨rfl, rfl⟩ := e
      exact ⟨h3, h4⟩
  exact ⟨_, cap', w', hr, ⟨by simp [h.len], hcap.1, hcap.2, by simpa using ho⟩, (Below.refl B w).grown hg hB fun k hk => (h1.lt k hk).1⟩
theorem wpList_append_i64 {ops : Array Oper} {rest : List Oper} {o : Oper} {act : Act} {Q : Exit → Act → World → Prop} (hgd : o.guard = none) (s x : Operand)
    (ho : o.op = .call { callee := .builtin .append, args := #[s, x], argTypes := #[26, 26] }) (w : World) (B : Nat) (a : Option Addr) (n cap : Nat) (l : List Int) (hs : act.eval s = .slice a n cap) (h : AppJ w B a n cap l) (hB : B ≤ w.heap.size) (hn : n ≤ 100000)
    (ad : Addr) (c : Nat) (y : Int) (hx : act.eval x = .slice (some ad) 1 c) (hy : w.cell? ad = some (.int .i64 y))
    (hK : ∀ a' cap' w', AppJ w' B a' (n + 1) cap' (l ++ [y]) → Below B w w' → wpList Try.prog ops Q rest (act.put o.dst (.slice a' (n + 1) cap')) w') : wpList Try.prog ops Q (o :: rest) act w := by
  refine wpList_plain hgd fun K hK' => ?_
  obtain ⟨a', cap', w', hrun, h1, h2⟩ := run_append_i64 o.type w B a n cap l h hB hn ad c y hy
  unfold Oper.wp
  simp [execOp, ho, resolve, invoke, builtin, hs, hx, hrun, Result.andThen]
  exact hK' _ _ (hK a' cap' w' h1 h2)
theorem AppJ.but {w w' : World} {B g : Nat} {a : Option Addr} {n cap : Nat} {l : List Int} (h : AppJ w B a n cap l) (k : But g w w') (hg : g < B) : AppJ w' B a n cap l := by
  refine ⟨h.len, h.le, h.max, h.row.kept (row := some g) k ?_⟩
  rcases h.row.2 with ⟨e, _⟩ | ⟨g', c', cur, e, h1, _⟩
  · rw [e]; exact .inl rfl
  · rw [e]
    right
    simp [Value.ownBlock]
    omega
theorem AppJ.sl {w : World} {B : Nat} {a : Option Addr} {n cap : Nat} {l : List Int} (h : AppJ w B a n cap l) : SlI w a n cap l := by
  refine ⟨⟨h.len, ?_⟩, h.le, by have := h.max; unfold maxLen at this; omega⟩
  rcases Nat.eq_zero_or_pos n with h0 | hp
  · exact .inl h0
  · right
    obtain ⟨g, cap', hv, hg, hlt⟩ := h.row.form hp
    obtain rfl : a = some ⟨g, 0, none⟩ := by simp only [Value.slice.injEq] at hv; exact hv.1
    refine ⟨g, 0, rfl, hlt, fun j hj => ?_⟩
    have hl := h.len
    rw [Nat.zero_add, h.row.cellAt j (by omega), List.getElem?_map, List.getD_eq_getElem?_getD, List.getElem?_eq_getElem (by omega)]
    rfl
theorem AppJ.ge {w : World} {B : Nat} {a : Option Addr} {n cap : Nat} {l : List Int} (h : AppJ w B a n cap l) : ∀ p, a = some p → B ≤ p.block := fun p hp => by
  subst hp
  exact (h.row.lt p.block rfl).1
end
end Go.Proofs.Ytglabahbklpocaa
namespace Go.Proofs.Ytglabahbklpocaa
section
open Go.RowKit Go.Deep
set_option maxRecDepth 100000
set_option linter.unusedVariables false
set_option linter.unusedSimpArgs false
attribute [local go_sem ↓] Go.wp_at_zero Go.wp_at_succ
def slV (d : Sl) : Value := .slice d.a d.n d.c
def peC (m : PeM) (d : Nat → Sl) : Array Value := #[.int .i64 m.me, .int .i64 m.sites, .int .i64 m.every,
  slV (d 0), .bool (m.s 0), .int .i64 (m.a 0), slV (d 1), .bool (m.s 1), .int .i64 (m.a 1), slV (d 2), .bool (m.s 2), .int .i64 (m.a 2), slV (d 3), .bool (m.s 3), .int .i64 (m.a 3),
  slV (d 4), .bool (m.s 4), .int .i64 (m.a 4), slV (d 5), .bool (m.s 5), .int .i64 (m.a 5), slV (d 6), .bool (m.s 6), .int .i64 (m.a 6), slV (d 7), .bool (m.s 7), .int .i64 (m.a 7)]
def peO (m : PeM) (d : Nat → Sl) : Obj := .cells (peC m d) 47 (0, 0)
theorem peC_v (m : PeM) (d : Nat → Sl) (i : Nat) (hi : i < 8) : (peC m d)[3 + i * 3]? = some (slV (d i)) ∧ (peC m d)[3 + i * 3 + 1]? = some (.bool (m.s i)) ∧ (peC m d)[3 + i * 3 + 2]? = some (.int .i64 (m.a i)) := by
  match i, hi with
  | 0, _ | 1, _ | 2, _ | 3, _ | 4, _ | 5, _ | 6, _ | 7, _ => exact ⟨rfl, rfl, rfl⟩
theorem peC_setv (m : PeM) (d : Nat → Sl) (i : Nat) (hi : i < 8) (x : Sl) (v : Nat → List Int) : (peC m d).setIfInBounds (3 + i * 3) (slV x) = peC { m with v := v } (upd d i x) := by
  match i, hi with
  | 0, _ | 1, _ | 2, _ | 3, _ | 4, _ | 5, _ | 6, _ | 7, _ => rfl
theorem peC_sets (m : PeM) (d : Nat → Sl) (i : Nat) (hi : i < 8) (b : Bool) (t : Int) : ((peC m d).setIfInBounds (3 + i * 3 + 1) (.bool b)).setIfInBounds (3 + i * 3 + 2) (.int .i64 t) = peC { m with s := upd m.s i b, a := upd m.a i t } d := by
  match i, hi with
  | 0, _ | 1, _ | 2, _ | 3, _ | 4, _ | 5, _ | 6, _ | 7, _ => rfl
structure PeC (w : World) (F : List Nat) (d : Nat → Sl) (m : PeM) : Prop where
  sl : ∀ i, i < 8 → SlR w (d i) (m.v i) ∧ farA F (d i) ∧ (d i).n ≤ 8
  me : i64' m.me
  st : 0 ≤ m.sites ∧ m.sites ≤ 8
  ev : i64' m.every
  a : ∀ i, i < 8 → 0 ≤ m.a i ∧ m.a i ≤ 1125899906842624
def PeAt (w : World) (F : List Nat) (g : Nat) (m : PeM) : Prop := ∃ d, w.heap[g]? = some (peO m d) ∧ PeC w F d m
theorem PeC.keep {w w' : World} {F : List Nat} {d : Nat → Sl} {m : PeM} (h : PeC w F d m) (hs : w.heap.size ≤ w'.heap.size) (hd : ∀ i, i < w.heap.size → i ∉ F → w'.heap[i]? = w.heap[i]?) : PeC w' F d m :=
  ⟨fun i hi => ⟨(h.sl i hi).1.keep (h.sl i hi).2.1 hs hd, (h.sl i hi).2⟩, h.me, h.st, h.ev, h.a⟩
theorem PeAt.lt {w : World} {F : List Nat} {g : Nat} {m : PeM} (h : PeAt w F g m) : g < w.heap.size := by
  obtain ⟨d, h1, _⟩ := h
  exact heap_lt h1
theorem PeAt.below {w w' : World} {F : List Nat} {g : Nat} {m : PeM} (h : PeAt w F g m) (hb : Below w.heap.size w w') : PeAt w' F g m := by
  obtain ⟨d, h1, h2⟩ := h
  exact ⟨d, (hb.block g (heap_lt h1)).trans h1, h2.keep hb.size (fun i hi _ => hb.block i hi)⟩
theorem PeAt.but {w w' : World} {F : List Nat} {g g' : Nat} {m : PeM} (h : PeAt w F g m) (hg : g' ∈ F) (hne : g ≠ g') (k : But g' w w') : PeAt w' F g m := by
  obtain ⟨d, h1, h2⟩ := h
  exact ⟨d, (k.block g (heap_lt h1) (by simpa using fun e => hne e)).trans h1, h2.keep k.size (fun i hi hn => k.block i hi (by simp; exact fun e => hn (e ▸ hg)))⟩
theorem PeAt.grow {w : World} {F : List Nat} {g : Nat} {m : PeM} (h : PeAt w F g m) {k : Nat} (hk : w.heap.size ≤ k) : PeAt w (k :: F) g m := by
  obtain ⟨d, h1, h2⟩ := h
  exact ⟨d, h1, fun i hi => ⟨(h2.sl i hi).1, (h2.sl i hi).2.1.grow (h2.sl i hi).1.lt hk, (h2.sl i hi).2.2⟩, h2.me, h2.st, h2.ev, h2.a⟩
theorem PeAt.ex {w : World} {F : List Nat} {g : Nat} {m : PeM} (h : PeAt w F g m) : i64' m.me ∧ (0 ≤ m.sites ∧ m.sites ≤ 8) ∧ i64' m.every ∧ ∀ i, i < 8 → 0 ≤ m.a i ∧ m.a i ≤ 1125899906842624 := by
  obtain ⟨d, h1, h2⟩ := h
  exact ⟨h2.me, h2.st, h2.ev, h2.a⟩
theorem peCell {w wd : World} {g : Nat} {m : PeM} {d : Nat → Sl} (h : w.heap[g]? = some (peO m d)) (e : wd.heap = w.heap) {j : Nat} {v : Value} (hv : (peC m d)[j]? = some v) : wd.cell? ⟨g, j, none⟩ = some v := by
  simp only [World.cell?, e, h, peO]
  exact hv
theorem peFz {w : World} {g : Nat} {m : PeM} {d : Nat → Sl} (h : w.heap[g]? = some (peO m d)) (j : Nat) : w.frozen? ⟨g, j, none⟩ = false := by
  simp [World.frozen?, h, peO]
set_option maxHeartbeats 2000000 in
theorem pnew_any (F : List Nat) (me sites every : Int) (w : World) (h1 : i64' me) (h2 : i64' sites) (h3 : i64' every) :
    Calls Try.prog 9 #[.int .i64 me, .int .i64 sites, .int .i64 every] w fun e w' => e = .returned (.pointer (some ⟨w.heap.size, 0, none⟩)) ∧ PeAt w' (w.heap.size :: F) w.heap.size (newP me sites every) ∧ Below w.heap.size w w' := by
  go_enter Try.func9, Try.ntmps9
  go_wp2_with fail
  go_ret
  have hn : ∀ wx : World, SlR wx ⟨none, 0, 0⟩ [] := fun wx => ⟨⟨rfl, .inl rfl⟩, Nat.le_refl _, by decide⟩
  refine ⟨rfl, ⟨fun _ => ⟨none, 0, 0⟩, heap_alloc_new w _, fun i hi => ⟨hn _, .inl rfl, by decide⟩, h1, ?_, ?_, fun i hi => ⟨Int.le_refl 0, by show (0 : Int) ≤ 1125899906842624; decide⟩⟩, (Below.refl _ _).alloc (Nat.le_refl _) _⟩
  · show 0 ≤ min (max sites 1) 8 ∧ min (max sites 1) 8 ≤ 8
    omega
  · show i64' (max every 1)
    unfold i64' at *
    omega
set_option maxHeartbeats 2000000 in
theorem pget_any (F : List Nat) (g : Nat) (m : PeM) (site : Int) (w : World) (hP : PeAt w F g m) :
    Calls Try.prog 33 #[.pointer (some ⟨g, 0, none⟩), .int .i64 site] w fun e w' => e = .returned (.pointer (if isO m site = true then some ⟨g, 3 + site.toNat * 3, none⟩ else none)) ∧ w = w' := by
  obtain ⟨d, hg, hc⟩ := hP
  have c0 := peCell hg rfl (j := 0) (v := .int .i64 m.me) rfl
  have c1 := peCell hg rfl (j := 1) (v := .int .i64 m.sites) rfl
  have hst := hc.st
  clear hg hc
  by_cases h0 : site < 0
  · have t1 : decide (site < 0) = true := decide_eq_true h0
    rw [if_neg (by unfold isO; simp; omega)]
    go_enter Try.func33, Try.ntmps33
    go_wp2_with fail
    go_ret
    exact ⟨rfl, rfl⟩
  · have t1 : decide (site < 0) = false := decide_eq_false h0
    by_cases hs : site ≥ m.sites
    · have t2 : decide (site ≥ m.sites) = true := decide_eq_true hs
      rw [if_neg (by unfold isO; simp; omega)]
      clear h0 hs
      go_enter Try.func33, Try.ntmps33
      go_wp2_with fail
      go_ret
      exact ⟨rfl, rfl⟩
    · have t2 : decide (site ≥ m.sites) = false := decide_eq_false hs
      by_cases hm : site = m.me
      · have t3 : (site == m.me) = true := beq_iff_eq.2 hm
        rw [if_neg (by unfold isO; simp; omega)]
        clear h0 hs hm
        go_enter Try.func33, Try.ntmps33
        go_wp2_with fail
        go_ret
        exact ⟨rfl, rfl⟩
      · have t3 : (site == m.me) = false := beq_eq_false_iff_ne.2 hm
        rw [if_pos (by unfold isO; simp; omega)]
        obtain ⟨k, rfl⟩ := Int.eq_ofNat_of_zero_le (show 0 ≤ site by omega)
        have i1 : (0 : Int) ≤ (k : Int) := by omega
        have i2 : (k : Int) < 8 := by omega
        rw [Int.toNat_natCast]
        clear h0 hs hm
        go_enter Try.func33, Try.ntmps33
        go_wp2_with fail
        go_ret
        exact ⟨rfl, rfl⟩
theorem clockP_range (n : Int) : 0 ≤ clockP n ∧ clockP n ≤ 1125899906842624 := by unfold clockP; omega
theorem pclock_any (n : Int) (w : World) : Calls Try.prog 30 #[.int .i64 n] w fun e w' => e = .returned (.int .i64 (clockP n)) ∧ w = w' := by
  go_enter Try.func30, Try.ntmps30
  go_wp2_with fail
  go_ret
  exact ⟨rfl, rfl⟩
end
end Go.Proofs.Ytglabahbklpocaa
