/- Stamps out of a reader: mark.Take, mark.Bytes; the reference's Check, Less, Bytes, Take. -/
import Derived.Test.YtglabahbklpocaaGreatGShipWrites5
import Derived.Test.YtglabahbklpocaaGreatGShipWrites6
import Derived.Test.YtglabahbklpocaaGreatGShipWrites1
import Derived.Deep.RegionHeld3
import Derived.Deep.DrawnRows
import Derived.Deep.DeepCutAuto
import Derived.Deep.CutBlock
namespace Go.Proofs.YtglabahbklpocaaGreat
section
open Go.RowKit
set_option maxRecDepth 100000
set_option linter.unusedVariables false
set_option linter.unusedSimpArgs false
attribute [local go_sem ↓] Go.wp_at_zero Go.wp_at_succ
/-- The block g is a stamp. -/
def StAt (w : World) (g : Nat) (a : St) : Prop := w.heap[g]? = some (.cells #[.int .i64 a.clock, .int .i64 a.site, .int .i64 a.seq] 58 (0, 0))
theorem StAt.lt {w : World} {g : Nat} {a : St} (h : StAt w g a) : g < w.heap.size := by
  unfold StAt at h
  rcases Nat.lt_or_ge g w.heap.size with h' | h'
  · exact h'
  · simp [Array.getElem?_eq_none h'] at h
theorem StAt.c0 {w : World} {g : Nat} {a : St} (h : StAt w g a) : w.cell? ⟨g, 0, none⟩ = some (.int .i64 a.clock) := by simp [World.cell?, show w.heap[g]? = _ from h]
theorem StAt.c1 {w : World} {g : Nat} {a : St} (h : StAt w g a) : w.cell? ⟨g, 1, none⟩ = some (.int .i64 a.site) := by simp [World.cell?, show w.heap[g]? = _ from h]
theorem StAt.c2 {w : World} {g : Nat} {a : St} (h : StAt w g a) : w.cell? ⟨g, 2, none⟩ = some (.int .i64 a.seq) := by simp [World.cell?, show w.heap[g]? = _ from h]
theorem StAt.fz {w : World} {g : Nat} {a : St} (h : StAt w g a) (j : Nat) : w.frozen? ⟨g, j, none⟩ = false := by simp [World.frozen?, show w.heap[g]? = _ from h]
theorem StAt.new (w : World) (a : St) : StAt (w.alloc (.cells #[.int .i64 a.clock, .int .i64 a.site, .int .i64 a.seq] 58)) w.heap.size a := heap_alloc_new w _
theorem StAt.alloc {w : World} {g : Nat} {a : St} (h : StAt w g a) (o : Obj) : StAt (w.alloc o) g a := (Below.heap_alloc w o g h.lt).trans h
theorem StAt.below {w w' : World} {g : Nat} {a : St} (h : StAt w g a) (hb : Below w.heap.size w w') : StAt w' g a := (hb.block g h.lt).trans h
theorem StAt.far {w : World} {g : Nat} {a : St} (h : StAt w g a) {p : Addr} (hp : g ≠ p.block) (v : Value) : StAt (w.setCell p v) g a := (Below.heap_setCell w p v g hp).trans h
theorem StAt.but {w w' : World} {g b : Nat} {a : St} (h : StAt w b a) (k : But g w w') (hne : b ≠ g) : StAt w' b a := (k.block b h.lt (by simp; exact fun e => hne e)).trans h
theorem StAt.set {w : World} {g : Nat} {a : St} (h : StAt w g a) (b : St) : StAt (((w.setCell ⟨g, 0, none⟩ (.int .i64 b.clock)).setCell ⟨g, 1, none⟩ (.int .i64 b.site)).setCell ⟨g, 2, none⟩ (.int .i64 b.seq)) g b := by
  unfold StAt at *
  simp [World.setCell, Array.getElem?_modify, h]
theorem RdrAt.alloc {T : TypeId} {w : World} {g : Nat} {r : Rdr} (h : RdrAt T w g r) (o : Obj) : RdrAt T (w.alloc o) g r := (Below.heap_alloc w o g h.lt).trans h
theorem RdrAt.far {T : TypeId} {w : World} {g : Nat} {r : Rdr} (h : RdrAt T w g r) {p : Addr} (hp : g ≠ p.block) (v : Value) : RdrAt T (w.setCell p v) g r := (Below.heap_setCell w p v g hp).trans h
theorem But.alloc {g : Nat} {w w' : World} (h : But g w w') (o : Obj) : But g w (w'.alloc o) :=
  ⟨h.os, h.tape, h.output, Nat.le_trans h.size (by simp), fun i hi hne => (Below.heap_alloc w' o i (Nat.lt_of_lt_of_le hi h.size)).trans (h.block i hi hne)⟩
theorem But.then_below {g : Nat} {w w1 w2 : World} (h : But g w w1) (k : Below w1.heap.size w1 w2) : But g w w2 := h.trans (But.of_below k)
theorem But.far {g : Nat} {w w' : World} (h : But g w w') {p : Addr} (hp : w.heap.size ≤ p.block) (v : Value) : But g w (w'.setCell p v) :=
  ⟨h.os, h.tape, h.output, by have := h.size; simpa [World.setCell] using this, fun i hi hne => (Below.heap_setCell w' p v i (by omega)).trans (h.block i hi hne)⟩
/-- What Take takes. -/
def takeP (r : Rdr) : St × Rdr := (⟨(r.small 1099511627776).1, ((r.small 1099511627776).2.small 7).1, (((r.small 1099511627776).2.small 7).2.small 1099511627776).1⟩, (((r.small 1099511627776).2.small 7).2.small 1099511627776).2)
def takeV (r : Rdr) : St × Rdr := if okV (takeP r).1 = true then takeP r else (⟨0, 0, 0⟩, ((takeP r).2.small (-1)).2)
theorem Rdr.small_bad {r : Rdr} (most : Int) (h : (r.small most).2.bad = true) : (r.small most).1 = 0 := by
  unfold Rdr.small at *
  split at h
  · rename_i hc; rw [if_pos hc]
  · rename_i hc
    exact absurd (.inl h) hc
theorem takeP_ok {r : Rdr} (h : r.ok) : (takeP r).2.ok ∧ (takeP r).2.s = r.s := by
  have h1 := Rdr.small_ok h 1099511627776
  have h2 := Rdr.small_ok h1.1 7
  have h3 := Rdr.small_ok h2.1 1099511627776
  exact ⟨h3.1, h3.2.trans (h2.2.trans h1.2)⟩
theorem takeV_ok {r : Rdr} (h : r.ok) : (takeV r).2.ok ∧ (takeV r).2.s = r.s := by
  have h1 := takeP_ok h
  unfold takeV
  split
  · exact h1
  · have h2 := Rdr.small_ok h1.1 (-1)
    exact ⟨h2.1, h2.2.trans h1.2⟩
set_option maxHeartbeats 2000000 in
theorem take_any (g : Nat) (r : Rdr) (w : World) (h : RdrAt 140 w g r) (hr : r.ok) :
    Calls Tryz.prog 113 #[.pointer (some ⟨g, 0, none⟩)] w fun e w' => e = .returned (takeV r).1.val ∧ RdrAt 140 w' g (takeV r).2 ∧ But g w w' := by
  have hlt := h.lt
  have HT : Hid (takeV r = if okV (takeP r).1 = true then takeP r else (⟨0, 0, 0⟩, ((takeP r).2.small (-1)).2)) := rfl
  have HP : Hid (takeP r = (⟨(r.small 1099511627776).1, ((r.small 1099511627776).2.small 7).1, (((r.small 1099511627776).2.small 7).2.small 1099511627776).1⟩, (((r.small 1099511627776).2.small 7).2.small 1099511627776).2)) := rfl
  have k1 := Rdr.small_ok hr 1099511627776
  have k2 := Rdr.small_ok k1.1 7
  have k3 := Rdr.small_ok k2.1 1099511627776
  have h0 := h.alloc (.cells #[.int .i64 0, .int .i64 0, .int .i64 0] 58)
  have z0 := StAt.new w ⟨0, 0, 0⟩
  simp only at z0
  have B0 := (But.refl g w).alloc (.cells #[.int .i64 0, .int .i64 0, .int .i64 0] 58)
  have hne : w.heap.size ≠ g := by omega
  generalize takeV r = V at *
  go_enter Tryz.func113, Tryz.ntmps113
  go_wp2_with fail
  refine (rdr_small g r 1099511627776 _ h0 hr (by decide) (by decide)).mono ?_
  rintro e w1 ⟨rfl, h1, b1⟩
  go_wp2_with fail
  refine (rdr_small g _ 7 _ h1 k1.1 (by decide) (by decide)).mono ?_
  rintro e w2 ⟨rfl, h2, b2⟩
  go_wp2_with fail
  refine (rdr_small g _ 1099511627776 _ h2 k2.1 (by decide) (by decide)).mono ?_
  rintro e w3 ⟨rfl, h3, b3⟩
  have z3 := ((z0.but b1 hne).but b2 hne).but b3 hne
  have B3 := ((B0.trans b1).trans b2).trans b3
  clear b1 b2 b3 h1 h2 z0 B0 h0 h
  generalize hP : takeP r = P at *
  obtain ⟨S, R⟩ := P
  have e1 : (r.small 1099511627776).1 = S.clock := congrArg (fun p : St × Rdr => p.1.clock) hP
  have e2 : ((r.small 1099511627776).2.small 7).1 = S.site := congrArg (fun p : St × Rdr => p.1.site) hP
  have e3 : (((r.small 1099511627776).2.small 7).2.small 1099511627776).1 = S.seq := congrArg (fun p : St × Rdr => p.1.seq) hP
  have e4 : (((r.small 1099511627776).2.small 7).2.small 1099511627776).2 = R := congrArg (fun p : St × Rdr => p.2) hP
  rw [e1, e2, e3]
  rw [e4] at h3 k3
  clear e1 e2 e3 e4 HP hP k1 k2
  have hS := StAt.new w3 S
  have B4 := B3.alloc (.cells #[.int .i64 S.clock, .int .i64 S.site, .int .i64 S.seq] 58)
  have h4 := h3.alloc (.cells #[.int .i64 S.clock, .int .i64 S.site, .int .i64 S.seq] 58)
  have z4 := z3.alloc (.cells #[.int .i64 S.clock, .int .i64 S.site, .int .i64 S.seq] 58)
  have hl3 := z3.lt
  have CK := fun wx => check_any S wx
  unfold St.val at CK
  go_upto_region 6 with (fail)
  clear h3 z3 B3
  generalize w3.alloc (.cells #[.int .i64 S.clock, .int .i64 S.site, .int .i64 S.seq] 58) = w4 at *
  generalize w3.heap.size = k at *
  have s0 := hS.c0
  have s1 := hS.c1
  have s2 := hS.c2
  go_wp2_with fail
  refine (CK _).mono ?_
  rintro e w5 ⟨rfl, d5⟩
  have h5 := h4.below d5
  have z5 := z4.below d5
  have S5 := hS.below d5
  have B5 := B4.then_below d5
  clear h4 z4 hS B4 d5 s0 s1 s2
  have s0 := S5.c0
  have s1 := S5.c1
  have s2 := S5.c2
  have q0 := z5.c0
  have q1 := z5.c1
  have q2 := z5.c2
  have f0 := z5.fz 0
  have f1 := z5.fz 1
  have f2 := z5.fz 2
  by_cases hok : okV S = true
  · have HV : Hid (V = (S, R)) := by show _ = _; rw [HT.out, if_pos hok]
    have e1 : chkV S = 0 := if_pos hok
    rw [e1]
    have HR := Lib.hid (((h5.far (p := ⟨w.heap.size, 0, none⟩) hne.symm (.int .i64 S.clock)).far (p := ⟨w.heap.size, 1, none⟩) hne.symm (.int .i64 S.site)).far (p := ⟨w.heap.size, 2, none⟩) hne.symm (.int .i64 S.seq))
    have HB := Lib.hid (((B5.far (p := ⟨w.heap.size, 0, none⟩) (Nat.le_refl _) (.int .i64 S.clock)).far (p := ⟨w.heap.size, 1, none⟩) (Nat.le_refl _) (.int .i64 S.site)).far (p := ⟨w.heap.size, 2, none⟩) (Nat.le_refl _) (.int .i64 S.seq))
    clear hok e1
    go_wp2_with fail
    refine bodyPost_ret (v := .agg #[.int .i64 S.clock, .int .i64 S.site, .int .i64 S.seq]) (by simp [results, Tryz.results113, go_sem, *]) rfl ⟨by rw [HV.out]; rfl, by rw [HV.out]; exact HR.out, HB.out⟩
  · have HV : Hid (V = (⟨0, 0, 0⟩, (R.small (-1)).2)) := by show _ = _; rw [HT.out, if_neg hok]
    have e1 : chkV S = 1 := if_neg hok
    rw [e1]
    clear hok e1
    go_wp2_with fail
    refine (rdr_small g R (-1) _ h5 k3.1 (by decide) (by decide)).mono ?_
    rintro e w6 ⟨rfl, h6, b6⟩
    have z6 := z5.but b6 hne
    have B6 := B5.trans b6
    clear z5 h5 b6 B5 q0 q1 q2 f0 f1 f2 s0 s1 s2
    have q0 := z6.c0
    have q1 := z6.c1
    have q2 := z6.c2
    have f0 := z6.fz 0
    have f1 := z6.fz 1
    have f2 := z6.fz 2
    have HR := Lib.hid (((h6.far (p := ⟨w.heap.size, 0, none⟩) hne.symm (.int .i64 0)).far (p := ⟨w.heap.size, 1, none⟩) hne.symm (.int .i64 0)).far (p := ⟨w.heap.size, 2, none⟩) hne.symm (.int .i64 0))
    have HB := Lib.hid (((B6.far (p := ⟨w.heap.size, 0, none⟩) (Nat.le_refl _) (.int .i64 0)).far (p := ⟨w.heap.size, 1, none⟩) (Nat.le_refl _) (.int .i64 0)).far (p := ⟨w.heap.size, 2, none⟩) (Nat.le_refl _) (.int .i64 0))
    go_wp2_with fail
    refine bodyPost_ret (v := .agg #[.int .i64 0, .int .i64 0, .int .i64 0]) (by simp [results, Tryz.results113, go_sem, *]) rfl ⟨by rw [HV.out]; rfl, by rw [HV.out]; exact HR.out, HB.out⟩
end
end Go.Proofs.YtglabahbklpocaaGreat
