/- Stamps out of a reader: mark.Take, mark.Bytes; the reference's Check, Less, Bytes, Take. Stamps' bytes of both packages; the reference's Check, Less. (Printed by wip/mbytes.py.) Known blocks: what is known of the heap, carried along. -/
import Derived.Test.YtglabahbklpocaaGreatGShipPacks5
import Derived.Test.YtglabahbklpocaaGreatGShipPacks6
import Derived.Test.YtglabahbklpocaaGreatGShipPacks1
import Derived.Deep.RegionHeld3
import Derived.Deep.DrawnRows
import Derived.Deep.DeepCutAuto
import Derived.Deep.CutBlock
namespace Go.Proofs.YtglabahbklpocaaGreat
section
open Go.RowKit
set_option maxRecDepth 100000
set_option linter.unusedVariables false
set_option linter.unusedSimpArgs false
attribute [local go_sem ↓] Go.wp_at_zero Go.wp_at_succ
/-- The block g is a stamp. -/
def StAt (w : World) (g : Nat) (a : St) : Prop := w.heap[g]? = some (.cells #[.int .i64 a.clock, .int .i64 a.site, .int .i64 a.seq] 58 (0, 0))
theorem StAt.lt {w : World} {g : Nat} {a : St} (h : StAt w g a) : g < w.heap.size := by
  unfold StAt at h
  rcases Nat.lt_or_ge g w.heap.size with h' | h'
  · exact h'
  · simp [Array.getElem?_eq_none h'] at h
theorem StAt.c0 {w : World} {g : Nat} {a : St} (h : StAt w g a) : w.cell? ⟨g, 0, none⟩ = some (.int .i64 a.clock) := by simp [World.cell?, show w.heap[g]? = _ from h]
theorem StAt.c1 {w : World} {g : Nat} {a : St} (h : StAt w g a) : w.cell? ⟨g, 1, none⟩ = some (.int .i64 a.site) := by simp [World.cell?, show w.heap[g]? = _ from h]
theorem StAt.c2 {w : World} {g : Nat} {a : St} (h : StAt w g a) : w.cell? ⟨g, 2, none⟩ = some (.int .i64 a.seq) := by simp [World.cell?, show w.heap[g]? = _ from h]
theorem StAt.fz {w : World} {g : Nat} {a : St} (h : StAt w g a) (j : Nat) : w.frozen? ⟨g, j, none⟩ = false := by simp [World.frozen?, show w.heap[g]? = _ from h]
theorem StAt.new (w : World) (a : St) : StAt (w.alloc (.cells #[.int .i64 a.clock, .int .i64 a.site, .int .i64 a.seq] 58)) w.heap.size a := heap_alloc_new w _
theorem StAt.alloc {w : World} {g : Nat} {a : St} (h : StAt w g a) (o : Obj) : StAt (w.alloc o) g a := (Below.heap_alloc w o g h.lt).trans h
theorem StAt.below {w w' : World} {g : Nat} {a : St} (h : StAt w g a) (hb : Below w.heap.size w w') : StAt w' g a := (hb.block g h.lt).trans h
theorem StAt.far {w : World} {g : Nat} {a : St} (h : StAt w g a) {p : Addr} (hp : g ≠ p.block) (v : Value) : StAt (w.setCell p v) g a := (Below.heap_setCell w p v g hp).trans h
theorem StAt.but {w w' : World} {g b : Nat} {a : St} (h : StAt w b a) (k : But g w w') (hne : b ≠ g) : StAt w' b a := (k.block b h.lt (by simp; exact fun e => hne e)).trans h
theorem StAt.set {w : World} {g : Nat} {a : St} (h : StAt w g a) (b : St) : StAt (((w.setCell ⟨g, 0, none⟩ (.int .i64 b.clock)).setCell ⟨g, 1, none⟩ (.int .i64 b.site)).setCell ⟨g, 2, none⟩ (.int .i64 b.seq)) g b := by
  unfold StAt at *
  simp [World.setCell, Array.getElem?_modify, h]
theorem RdrAt.alloc {T : TypeId} {w : World} {g : Nat} {r : Rdr} (h : RdrAt T w g r) (o : Obj) : RdrAt T (w.alloc o) g r := (Below.heap_alloc w o g h.lt).trans h
theorem RdrAt.far {T : TypeId} {w : World} {g : Nat} {r : Rdr} (h : RdrAt T w g r) {p : Addr} (hp : g ≠ p.block) (v : Value) : RdrAt T (w.setCell p v) g r := (Below.heap_setCell w p v g hp).trans h
theorem But.alloc {g : Nat} {w w' : World} (h : But g w w') (o : Obj) : But g w (w'.alloc o) :=
  ⟨h.os, h.tape, h.output, Nat.le_trans h.size (by simp), fun i hi hne => (Below.heap_alloc w' o i (Nat.lt_of_lt_of_le hi h.size)).trans (h.block i hi hne)⟩
theorem But.then_below {g : Nat} {w w1 w2 : World} (h : But g w w1) (k : Below w1.heap.size w1 w2) : But g w w2 := h.trans (But.of_below k)
theorem But.far {g : Nat} {w w' : World} (h : But g w w') {p : Addr} (hp : w.heap.size ≤ p.block) (v : Value) : But g w (w'.setCell p v) :=
  ⟨h.os, h.tape, h.output, by have := h.size; simpa [World.setCell] using this, fun i hi hne => (Below.heap_setCell w' p v i (by omega)).trans (h.block i hi hne)⟩
/-- What Take takes. -/
def takeP (r : Rdr) : St × Rdr := (⟨(r.small 1099511627776).1, ((r.small 1099511627776).2.small 7).1, (((r.small 1099511627776).2.small 7).2.small 1099511627776).1⟩, (((r.small 1099511627776).2.small 7).2.small 1099511627776).2)
def takeV (r : Rdr) : St × Rdr := if okV (takeP r).1 = true then takeP r else (⟨0, 0, 0⟩, ((takeP r).2.small (-1)).2)
theorem Rdr.small_bad {r : Rdr} (most : Int) (h : (r.small most).2.bad = true) : (r.small most).1 = 0 := by
  unfold Rdr.small at *
  split at h
  · rename_i hc; rw [if_pos hc]
  · rename_i hc
    exact absurd (.inl h) hc
theorem takeP_ok {r : Rdr} (h : r.ok) : (takeP r).2.ok ∧ (takeP r).2.s = r.s := by
  have h1 := Rdr.small_ok h 1099511627776
  have h2 := Rdr.small_ok h1.1 7
  have h3 := Rdr.small_ok h2.1 1099511627776
  exact ⟨h3.1, h3.2.trans (h2.2.trans h1.2)⟩
theorem takeV_ok {r : Rdr} (h : r.ok) : (takeV r).2.ok ∧ (takeV r).2.s = r.s := by
  have h1 := takeP_ok h
  unfold takeV
  split
  · exact h1
  · have h2 := Rdr.small_ok h1.1 (-1)
    exact ⟨h2.1, h2.2.trans h1.2⟩
set_option maxHeartbeats 2000000 in
theorem take_any (g : Nat) (r : Rdr) (w : World) (h : RdrAt 140 w g r) (hr : r.ok) :
    Calls Tryz.prog 113 #[.pointer (some ⟨g, 0, none⟩)] w fun e w' => e = .returned (takeV r).1.val ∧ RdrAt 140 w' g (takeV r).2 ∧ But g w w' := by
  have hlt := h.lt
  have HT : Hid (takeV r = if okV (takeP r).1 = true then takeP r else (⟨0, 0, 0⟩, ((takeP r).2.small (-1)).2)) := rfl
  have HP : Hid (takeP r = (⟨(r.small 1099511627776).1, ((r.small 1099511627776).2.small 7).1, (((r.small 1099511627776).2.small 7).2.small 1099511627776).1⟩, (((r.small 1099511627776).2.small 7).2.small 1099511627776).2)) := rfl
  have k1 := Rdr.small_ok hr 1099511627776
  have k2 := Rdr.small_ok k1.1 7
  have k3 := Rdr.small_ok k2.1 1099511627776
  have h0 := h.alloc (.cells #[.int .i64 0, .int .i64 0, .int .i64 0] 58)
  have z0 := StAt.new w ⟨0, 0, 0⟩
  simp only at z0
  have B0 := (But.refl g w).alloc (.cells #[.int .i64 0, .int .i64 0, .int .i64 0] 58)
  have hne : w.heap.size ≠ g := by omega
  generalize takeV r = V at *
  go_enter Tryz.func113, Tryz.ntmps113
  go_wp2_with fail
  refine (rdr_small g r 1099511627776 _ h0 hr (by decide) (by decide)).mono ?_
  rintro e w1 ⟨rfl, h1, b1⟩
  go_wp2_with fail
  refine (rdr_small g _ 7 _ h1 k1.1 (by decide) (by decide)).mono ?_
  rintro e w2 ⟨rfl, h2, b2⟩
  go_wp2_with fail
  refine (rdr_small g _ 1099511627776 _ h2 k2.1 (by decide) (by decide)).mono ?_
  rintro e w3 ⟨rfl, h3, b3⟩
  have z3 := ((z0.but b1 hne).but b2 hne).but b3 hne
  have B3 := ((B0.trans b1).trans b2).trans b3
  clear b1 b2 b3 h1 h2 z0 B0 h0 h
  generalize hP : takeP r = P at *
  obtain ⟨S, R⟩ := P
  have e1 : (r.small 1099511627776).1 = S.clock := congrArg (fun p : St × Rdr => p.1.clock) hP
  have e2 : ((r.small 1099511627776).2.small 7).1 = S.site := congrArg (fun p : St × Rdr => p.1.site) hP
  have e3 : (((r.small 1099511627776).2.small 7).2.small 1099511627776).1 = S.seq := congrArg (fun p : St × Rdr => p.1.seq) hP
  have e4 : (((r.small 1099511627776).2.small 7).2.small 1099511627776).2 = R := congrArg (fun p : St × Rdr => p.2) hP
  rw [e1, e2, e3]
  rw [e4] at h3 k3
  clear e1 e2 e3 e4 HP hP k1 k2
  have hS := StAt.new w3 S
  have B4 := B3.alloc (.cells #[.int .i64 S.clock, .int .i64 S.site, .int .i64 S.seq] 58)
  have h4 := h3.alloc (.cells #[.int .i64 S.clock, .int .i64 S.site, .int .i64 S.seq] 58)
  have z4 := z3.alloc (.cells #[.int .i64 S.clock, .int .i64 S.site, .int .i64 S.seq] 58)
  have hl3 := z3.lt
  have CK := fun wx => check_any S wx
  unfold St.val at CK
  go_upto_region 6 with (fail)
  clear h3 z3 B3
  generalize w3.alloc (.cells #[.int .i64 S.clock, .int .i64 S.site, .int .i64 S.seq] 58) = w4 at *
  generalize w3.heap.size = k at *
  have s0 := hS.c0
  have s1 := hS.c1
  have s2 := hS.c2
  go_wp2_with fail
  refine (CK _).mono ?_
  rintro e w5 ⟨rfl, d5⟩
  have h5 := h4.below d5
  have z5 := z4.below d5
  have S5 := hS.below d5
  have B5 := B4.then_below d5
  clear h4 z4 hS B4 d5 s0 s1 s2
  have s0 := S5.c0
  have s1 := S5.c1
  have s2 := S5.c2
  have q0 := z5.c0
  have q1 := z5.c1
  have q2 := z5.c2
  have f0 := z5.fz 0
  have f1 := z5.fz 1
  have f2 := z5.fz 2
  by_cases hok : okV S = true
  · have HV : Hid (V = (S, R)) := by show _ = _; rw [HT.out, if_pos hok]
    have e1 : chkV S = 0 := if_pos hok
    rw [e1]
    have HR := Lib.hid (((h5.far (p := ⟨w.heap.size, 0, none⟩) hne.symm (.int .i64 S.clock)).far (p := ⟨w.heap.size, 1, none⟩) hne.symm (.int .i64 S.site)).far (p := ⟨w.heap.size, 2, none⟩) hne.symm (.int .i64 S.seq))
    have HB := Lib.hid (((B5.far (p := ⟨w.heap.size, 0, none⟩) (Nat.le_refl _) (.int .i64 S.clock)).far (p := ⟨w.heap.size, 1, none⟩) (Nat.le_refl _) (.int .i64 S.site)).far (p := ⟨w.heap.size, 2, none⟩) (Nat.le_refl _) (.int .i64 S.seq))
    clear hok e1
    go_wp2_with fail
    refine bodyPost_ret (v := .agg #[.int .i64 S.clock, .int .i64 S.site, .int .i64 S.seq]) (by simp [results, Tryz.results113, go_sem, *]) rfl ⟨by rw [HV.out]; rfl, by rw [HV.out]; exact HR.out, HB.out⟩
  · have HV : Hid (V = (⟨0, 0, 0⟩, (R.small (-1)).2)) := by show _ = _; rw [HT.out, if_neg hok]
    have e1 : chkV S = 1 := if_neg hok
    rw [e1]
    clear hok e1
    go_wp2_with fail
    refine (rdr_small g R (-1) _ h5 k3.1 (by decide) (by decide)).mono ?_
    rintro e w6 ⟨rfl, h6, b6⟩
    have z6 := z5.but b6 hne
    have B6 := B5.trans b6
    clear z5 h5 b6 B5 q0 q1 q2 f0 f1 f2 s0 s1 s2
    have q0 := z6.c0
    have q1 := z6.c1
    have q2 := z6.c2
    have f0 := z6.fz 0
    have f1 := z6.fz 1
    have f2 := z6.fz 2
    have HR := Lib.hid (((h6.far (p := ⟨w.heap.size, 0, none⟩) hne.symm (.int .i64 0)).far (p := ⟨w.heap.size, 1, none⟩) hne.symm (.int .i64 0)).far (p := ⟨w.heap.size, 2, none⟩) hne.symm (.int .i64 0))
    have HB := Lib.hid (((B6.far (p := ⟨w.heap.size, 0, none⟩) (Nat.le_refl _) (.int .i64 0)).far (p := ⟨w.heap.size, 1, none⟩) (Nat.le_refl _) (.int .i64 0)).far (p := ⟨w.heap.size, 2, none⟩) (Nat.le_refl _) (.int .i64 0))
    go_wp2_with fail
    refine bodyPost_ret (v := .agg #[.int .i64 0, .int .i64 0, .int .i64 0]) (by simp [results, Tryz.results113, go_sem, *]) rfl ⟨by rw [HV.out]; rfl, by rw [HV.out]; exact HR.out, HB.out⟩
end
end Go.Proofs.YtglabahbklpocaaGreat
namespace Go.Proofs.YtglabahbklpocaaGreat
section
open Go.RowKit
set_option maxRecDepth 100000
set_option linter.unusedVariables false
set_option linter.unusedSimpArgs false
attribute [local go_sem ↓] Go.wp_at_zero Go.wp_at_succ
def stB (a : St) : ByteArray := if okV a = true then vput a.clock ++ vput a.site ++ vput a.seq else ⟨#[]⟩
theorem okV_iff (a : St) : okV a = true ↔ (1 ≤ a.clock ∧ a.clock ≤ 1099511627776) ∧ (1 ≤ a.seq ∧ a.seq ≤ 1099511627776) ∧ (0 ≤ a.site ∧ a.site ≤ 7) := by
  unfold okV inV
  simp only [Bool.and_eq_true, decide_eq_true_eq]
  omega
theorem okV_range {a : St} (h : okV a = true) : (1 ≤ a.clock ∧ a.clock ≤ 1099511627776) ∧ (1 ≤ a.seq ∧ a.seq ≤ 1099511627776) ∧ (0 ≤ a.site ∧ a.site ≤ 7) := (okV_iff a).1 h
/-- A boxed stamp, behind what was there at w. -/
structure StI (w : World) (g : Nat) (a : St) (wx : World) : Prop where
  a : StAt wx g a
  b : Below w.heap.size w wx
theorem StI.below {w wx w' : World} {g : Nat} {a : St} (h : StI w g a wx) (d : Below wx.heap.size wx w') : StI w g a w' := ⟨h.a.below d, below_then h.b h.b.size d⟩
theorem below_same {B : Nat} {w0 w wd : World} (h : Below B w0 w) (e1 : wd.heap = w.heap) (e2 : wd.os = w.os) (e3 : wd.tape = w.tape) (e4 : wd.output = w.output) : Below B w0 wd :=
  ⟨e2.trans h.os, e3.trans h.tape, e4.trans h.output, by rw [e1]; exact h.size, fun k hk => by rw [e1]; exact h.block k hk⟩
theorem StI.later {w wx wd w' : World} {g : Nat} {a : St} (h : StI w g a wx) (d : Below wd.heap.size wd w') (e1 : wd.heap = wx.heap) (e2 : wd.os = wx.os) (e3 : wd.tape = wx.tape) (e4 : wd.output = wx.output) : StI w g a w' :=
  StI.below (wx := wd) ⟨by unfold StAt; rw [e1]; exact h.a, below_same h.b e1 e2 e3 e4⟩ d
set_option maxHeartbeats 2000000 in
theorem rcheck_any (a : St) (w : World) : Calls Tryz.prog 124 #[a.val] w fun e w' => e = .returned (.int .i64 (chkV a)) ∧ Below w.heap.size w w' := by
  have hb := okV_iff a
  have H1 : Hid (okV a = true → chkV a = 0) := fun h => if_pos h
  have H2 : Hid (¬ okV a = true → chkV a = 1) := fun h => if_neg h
  generalize chkV a = V at *
  generalize okV a = O at *
  obtain ⟨c, s, q⟩ := a
  unfold St.val
  simp only at hb ⊢
  have hB : Below w.heap.size w (w.alloc (.cells #[.int .i64 c, .int .i64 s, .int .i64 q] 58)) := (Below.refl _ _).alloc (Nat.le_refl _) _
  by_cases h1 : c < 1
  · have th1 : decide (c < 1) = true := decide_eq_true h1
    have HV := Lib.hid (H2.out (by rw [hb]; omega))
    clear hb H1 H2
    go_enter Tryz.func124, Tryz.ntmps124
    go_wp2_with fail
    go_ret
    exact ⟨by rw [HV.out]; rfl, hB⟩
  · have th1 : decide (c < 1) = false := decide_eq_false h1
    by_cases h2 : 1099511627776 < c
    · have th2 : decide (1099511627776 < c) = true := decide_eq_true h2
      have HV := Lib.hid (H2.out (by rw [hb]; omega))
      clear hb H1 H2
      go_enter Tryz.func124, Tryz.ntmps124
      go_wp2_with fail
      go_ret
      exact ⟨by rw [HV.out]; rfl, hB⟩
    · have th2 : decide (1099511627776 < c) = false := decide_eq_false h2
      by_cases h3 : q < 1
      · have th3 : decide (q < 1) = true := decide_eq_true h3
        have HV := Lib.hid (H2.out (by rw [hb]; omega))
        clear hb H1 H2
        go_enter Tryz.func124, Tryz.ntmps124
        go_wp2_with fail
        go_ret
        exact ⟨by rw [HV.out]; rfl, hB⟩
      · have th3 : decide (q < 1) = false := decide_eq_false h3
        by_cases h4 : 1099511627776 < q
        · have th4 : decide (1099511627776 < q) = true := decide_eq_true h4
          have HV := Lib.hid (H2.out (by rw [hb]; omega))
          clear hb H1 H2
          go_enter Tryz.func124, Tryz.ntmps124
          go_wp2_with fail
          go_ret
          exact ⟨by rw [HV.out]; rfl, hB⟩
        · have th4 : decide (1099511627776 < q) = false := decide_eq_false h4
          by_cases h5 : s < 0
          · have th5 : decide (s < 0) = true := decide_eq_true h5
            have HV := Lib.hid (H2.out (by rw [hb]; omega))
            clear hb H1 H2
            go_enter Tryz.func124, Tryz.ntmps124
            go_wp2_with fail
            go_ret
            exact ⟨by rw [HV.out]; rfl, hB⟩
          · have th5 : decide (s < 0) = false := decide_eq_false h5
            by_cases h6 : 7 < s
            · have th6 : decide (7 < s) = true := decide_eq_true h6
              have HV := Lib.hid (H2.out (by rw [hb]; omega))
              clear hb H1 H2
              go_enter Tryz.func124, Tryz.ntmps124
              go_wp2_with fail
              go_ret
              exact ⟨by rw [HV.out]; rfl, hB⟩
            · have th6 : decide (7 < s) = false := decide_eq_false h6
              have HV := Lib.hid (H1.out (by rw [hb]; omega))
              clear hb H1 H2
              go_enter Tryz.func124, Tryz.ntmps124
              go_wp2_with fail
              go_ret
              exact ⟨by rw [HV.out]; rfl, hB⟩
set_option maxHeartbeats 2000000 in
theorem stbytes_any (a : St) (w : World) : Calls Tryz.prog 104 #[a.val] w fun e w' => e = .returned (.string (stB a)) ∧ Below w.heap.size w w' := by
  obtain ⟨V, HV⟩ : ∃ V, Hid (V = stB a) := ⟨_, rfl⟩
  rw [← HV.out]
  unfold stB at HV
  have CK := fun wx => check_any a wx
  have HC : Hid (chkV a = if okV a = true then 0 else 1) := rfl
  have hI : StI w w.heap.size a (w.alloc (.cells #[.int .i64 a.clock, .int .i64 a.site, .int .i64 a.seq] 58)) := ⟨StAt.new w a, (Below.refl _ _).alloc (Nat.le_refl _) _⟩
  by_cases hok : okV a = true
  · have hb := okV_range hok
    rw [if_pos hok] at HV HC
    rw [HC.out] at CK
    obtain ⟨c, s, q⟩ := a
    unfold St.val at *
    simp only at hb HV CK hI ⊢
    have P1 := fun wx => put_any c wx (by omega) (by omega)
    have P2 := fun wx => put_any s wx (by omega) (by omega)
    have P3 := fun wx => put_any q wx (by omega) (by omega)
    have z1 := vput_le c
    have z2 := vput_le s
    have z3 := vput_le q
    have y1 : IntKind.u64.wrap c = c := by rw [wrap_u64]; omega
    have y2 : IntKind.u64.wrap s = s := by rw [wrap_u64]; omega
    have y3 : IntKind.u64.wrap q = q := by rw [wrap_u64]; omega
    clear hok
    go_enter Tryz.func104, Tryz.ntmps104
    go_wp2_with fail
    generalize w.alloc _ = w0 at *
    generalize w.heap.size = g at *
    refine (CK _).mono ?_
    rintro e w1 ⟨rfl, d1⟩
    have I := Lib.hid (hI.below d1)
    clear hI d1
    have c0 := I.out.a.c0
    have c1 := I.out.a.c1
    have c2 := I.out.a.c2
    simp only at c0 c1 c2
    go_upto_region 3 with (fail)
    generalize vput c = B1 at *
    generalize vput s = B2 at *
    generalize vput q = B3 at *
    have n1 : ¬ (9223372036854775807 < B1.size + B2.size) := by omega
    have n2 : ¬ (9223372036854775807 < B1.size + B2.size + B3.size) := by omega
    have n3 : ¬ (9223372036854775807 < (B1 ++ B2).size + B3.size) := by rw [ByteArray.size_append]; omega
    refine wp_region_held_drew (S := (fun wx => wx.cell? ⟨g, 0, none⟩ = some (.int .i64 c) ∧ wx.cell? ⟨g, 1, none⟩ = some (.int .i64 s) ∧ wx.cell? ⟨g, 2, none⟩ = some (.int .i64 q))) (by kernel_rfl) ?_ (fun hHeld => ?_)
    focus ((try dsimp only); (try (first | go_keep | exact ⟨cell_later (by assumption) (by go_simp), cell_later (by assumption) (by go_simp), cell_later (by assumption) (by go_simp)⟩)); done)
    (refine wpAnyH_take (i := 0) (oi := ⟨some 6, Go.Op.fieldAddr 58 (.tmp 1) 0, 0, _, _, none⟩) (v := ?_) rfl (by kernel_rfl) (by kernel_rfl) (by kernel_rfl) (fun _ _ _ h => h) (Or.inl ⟨by rfl, ?_⟩) (by assumption) ?_; rotate_left; (focus (intro w hSw; ((try dsimp only at hSw); go_simp; try with_reducible rfl))); (try simp only [Act.put, sA, sZ, sS]))
    (refine wpAnyH_take (i := 1) (oi := ⟨some 7, Go.Op.load 3 (.tmp 6), 3, _, _, none⟩) (v := ?_) rfl (by kernel_rfl) (by kernel_rfl) (by kernel_rfl) (fun _ _ _ h => h) (Or.inl ⟨by rfl, ?_⟩) (by assumption) ?_; rotate_left; (focus (intro w hSw; ((try dsimp only at hSw); go_simp; try with_reducible rfl))); (try simp only [Act.put, sA, sZ, sS]))
    (refine wpAnyH_take (i := 2) (oi := ⟨some 8, Go.Op.convert 3 92 (.tmp 7), 92, _, _, none⟩) (v := ?_) rfl (by kernel_rfl) (by kernel_rfl) (by kernel_rfl) (fun _ _ _ h => h) (Or.inl ⟨by rfl, ?_⟩) (by assumption) ?_; rotate_left; (focus (intro w hSw; ((try dsimp only at hSw); go_simp; try with_reducible rfl))); (try simp only [Act.put, sA, sZ, sS]))
    (refine wpAnyH_take (i := 4) (oi := ⟨some 10, Go.Op.fieldAddr 58 (.tmp 1) 1, 0, _, _, none⟩) (v := ?_) rfl (by kernel_rfl) (by kernel_rfl) (by kernel_rfl) (fun _ _ _ h => h) (Or.inl ⟨by rfl, ?_⟩) (by assumption) ?_; rotate_left; (focus (intro w hSw; ((try dsimp only at hSw); go_simp; try with_reducible rfl))); (try simp only [Act.put, sA, sZ, sS]))
    (refine wpAnyH_take (i := 5) (oi := ⟨some 11, Go.Op.load 3 (.tmp 10), 3, _, _, none⟩) (v := ?_) rfl (by kernel_rfl) (by kernel_rfl) (by kernel_rfl) (fun _ _ _ h => h) (Or.inl ⟨by rfl, ?_⟩) (by assumption) ?_; rotate_left; (focus (intro w hSw; ((try dsimp only at hSw); go_simp; try with_reducible rfl))); (try simp only [Act.put, sA, sZ, sS]))
    (refine wpAnyH_take (i := 6) (oi := ⟨some 12, Go.Op.convert 3 92 (.tmp 11), 92, _, _, none⟩) (v := ?_) rfl (by kernel_rfl) (by kernel_rfl) (by kernel_rfl) (fun _ _ _ h => h) (Or.inl ⟨by rfl, ?_⟩) (by assumption) ?_; rotate_left; (focus (intro w hSw; ((try dsimp only at hSw); go_simp; try with_reducible rfl))); (try simp only [Act.put, sA, sZ, sS]))
    (refine wpAnyH_take (i := 9) (oi := ⟨some 15, Go.Op.fieldAddr 58 (.tmp 1) 2, 0, _, _, none⟩) (v := ?_) rfl (by kernel_rfl) (by kernel_rfl) (by kernel_rfl) (fun _ _ _ h => h) (Or.inl ⟨by rfl, ?_⟩) (by assumption) ?_; rotate_left; (focus (intro w hSw; ((try dsimp only at hSw); go_simp; try with_reducible rfl))); (try simp only [Act.put, sA, sZ, sS]))
    (refine wpAnyH_take (i := 10) (oi := ⟨some 16, Go.Op.load 3 (.tmp 15), 3, _, _, none⟩) (v := ?_) rfl (by kernel_rfl) (by kernel_rfl) (by kernel_rfl) (fun _ _ _ h => h) (Or.inl ⟨by rfl, ?_⟩) (by assumption) ?_; rotate_left; (focus (intro w hSw; ((try dsimp only at hSw); go_simp; try with_reducible rfl))); (try simp only [Act.put, sA, sZ, sS]))
    (refine wpAnyH_take (i := 11) (oi := ⟨some 17, Go.Op.convert 3 92 (.tmp 16), 92, _, _, none⟩) (v := ?_) rfl (by kernel_rfl) (by kernel_rfl) (by kernel_rfl) (fun _ _ _ h => h) (Or.inl ⟨by rfl, ?_⟩) (by assumption) ?_; rotate_left; (focus (intro w hSw; ((try dsimp only at hSw); go_simp; try with_reducible rfl))); (try simp only [Act.put, sA, sZ, sS]))
    (refine wpAnyH_ready (rs := [3]) (by kernel_rfl) (by simp) ?_; refine AllReadyH.cons (o := ⟨some 9, Go.Op.call { callee := Go.Callee.value (.func 99), args := #[.tmp 8], argTypes := #[92] }, 9, _, _, none⟩) rfl (fun K hK => ?_) AllReadyH.nil; go_simp; ((first | (go_at_call_of 99 (#[.int .u64 c] : Array Value); refine (P1 _).mono ?_; rintro e wn ⟨rfl, dn⟩; have I := Lib.hid (StI.later I.out dn rfl rfl rfl rfl)) | (go_at_call_of 99 (#[.int .u64 s] : Array Value); refine (P2 _).mono ?_; rintro e wn ⟨rfl, dn⟩; have I := Lib.hid (StI.later I.out dn rfl rfl rfl rfl)) | (go_at_call_of 99 (#[.int .u64 q] : Array Value); refine (P3 _).mono ?_; rintro e wn ⟨rfl, dn⟩; have I := Lib.hid (StI.later I.out dn rfl rfl rfl rfl)))); go_wp2_with fail; refine hK.out _ _ ?_ (fun hHeld => ?_); (focus ((try dsimp only); (try (first | go_keep | exact ⟨cell_later (by assumption) (by go_simp), cell_later (by assumption) (by go_simp), cell_later (by assumption) (by go_simp)⟩)); done)); clear hK; (try simp only [Act.put, sA, sZ, sS]))
    (refine wpAnyH_ready (rs := [7]) (by kernel_rfl) (by simp) ?_; refine AllReadyH.cons (o := ⟨some 13, Go.Op.call { callee := Go.Callee.value (.func 99), args := #[.tmp 12], argTypes := #[92] }, 9, _, _, none⟩) rfl (fun K hK => ?_) AllReadyH.nil; go_simp; ((first | (go_at_call_of 99 (#[.int .u64 c] : Array Value); refine (P1 _).mono ?_; rintro e wn ⟨rfl, dn⟩; have I := Lib.hid (StI.later I.out dn rfl rfl rfl rfl)) | (go_at_call_of 99 (#[.int .u64 s] : Array Value); refine (P2 _).mono ?_; rintro e wn ⟨rfl, dn⟩; have I := Lib.hid (StI.later I.out dn rfl rfl rfl rfl)) | (go_at_call_of 99 (#[.int .u64 q] : Array Value); refine (P3 _).mono ?_; rintro e wn ⟨rfl, dn⟩; have I := Lib.hid (StI.later I.out dn rfl rfl rfl rfl)))); go_wp2_with fail; refine hK.out _ _ ?_ (fun hHeld => ?_); (focus ((try dsimp only); (try (first | go_keep | exact ⟨cell_later (by assumption) (by go_simp), cell_later (by assumption) (by go_simp), cell_later (by assumption) (by go_simp)⟩)); done)); clear hK; (try simp only [Act.put, sA, sZ, sS]))
    (refine wpAnyH_take (i := 8) (oi := ⟨some 14, Go.Op.binOp Go.BinOp.add 9 (.tmp 9) (.tmp 13) 9, 9, _, _, none⟩) (v := ?_) rfl (by kernel_rfl) (by kernel_rfl) (by kernel_rfl) (fun _ _ _ h => h) (Or.inl ⟨by rfl, ?_⟩) (by assumption) ?_; rotate_left; (focus (intro w hSw; ((try dsimp only at hSw); go_simp; try with_reducible rfl))); (try simp only [Act.put, sA, sZ, sS]))
    (refine wpAnyH_ready (rs := [12]) (by kernel_rfl) (by simp) ?_; refine AllReadyH.cons (o := ⟨some 18, Go.Op.call { callee := Go.Callee.value (.func 99), args := #[.tmp 17], argTypes := #[92] }, 9, _, _, none⟩) rfl (fun K hK => ?_) AllReadyH.nil; go_simp; ((first | (go_at_call_of 99 (#[.int .u64 c] : Array Value); refine (P1 _).mono ?_; rintro e wn ⟨rfl, dn⟩; have I := Lib.hid (StI.later I.out dn rfl rfl rfl rfl)) | (go_at_call_of 99 (#[.int .u64 s] : Array Value); refine (P2 _).mono ?_; rintro e wn ⟨rfl, dn⟩; have I := Lib.hid (StI.later I.out dn rfl rfl rfl rfl)) | (go_at_call_of 99 (#[.int .u64 q] : Array Value); refine (P3 _).mono ?_; rintro e wn ⟨rfl, dn⟩; have I := Lib.hid (StI.later I.out dn rfl rfl rfl rfl)))); go_wp2_with fail; refine hK.out _ _ ?_ (fun hHeld => ?_); (focus ((try dsimp only); (try (first | go_keep | exact ⟨cell_later (by assumption) (by go_simp), cell_later (by assumption) (by go_simp), cell_later (by assumption) (by go_simp)⟩)); done)); clear hK; (try simp only [Act.put, sA, sZ, sS]))
    (refine wpAnyH_take (i := 13) (oi := ⟨some 19, Go.Op.binOp Go.BinOp.add 9 (.tmp 14) (.tmp 18) 9, 9, _, _, none⟩) (v := ?_) rfl (by kernel_rfl) (by kernel_rfl) (by kernel_rfl) (fun _ _ _ h => h) (Or.inl ⟨by rfl, ?_⟩) (by assumption) ?_; rotate_left; (focus (intro w hSw; ((try dsimp only at hSw); go_simp; try with_reducible rfl))); (try simp only [Act.put, sA, sZ, sS]))
    (refine wpAnyH_take (i := 14) (oi := ⟨some 2, Go.Op.assign (.tmp 19), 9, _, _, none⟩) (v := ?_) rfl (by kernel_rfl) (by kernel_rfl) (by kernel_rfl) (fun _ _ _ h => h) (Or.inl ⟨by rfl, ?_⟩) (by assumption) ?_; rotate_left; (focus (intro w hSw; ((try dsimp only at hSw); go_simp; try with_reducible rfl))); (try simp only [Act.put, sA, sZ, sS]))
    refine wpAnyH_done (by kernel_rfl) ?_ _
    go_wp2_with fail
    go_ret
    exact ⟨by rw [HV.out]; rfl, below_same I.out.b rfl rfl rfl rfl⟩
  · rw [if_neg hok] at HV HC
    rw [HC.out] at CK
    obtain ⟨c, s, q⟩ := a
    unfold St.val at *
    simp only at CK hI ⊢
    clear hok
    go_enter Tryz.func104, Tryz.ntmps104
    go_wp2_with fail
    refine (CK _).mono ?_
    rintro e w1 ⟨rfl, d1⟩
    have I := Lib.hid (hI.below d1)
    go_wp2_with fail
    go_ret
    exact ⟨by rw [HV.out]; rfl, I.out.b⟩
end
end Go.Proofs.YtglabahbklpocaaGreat
namespace Go.Proofs.YtglabahbklpocaaGreat
section
open Go.RowKit
set_option maxRecDepth 100000
set_option linter.unusedVariables false
set_option linter.unusedSimpArgs false
/-- Each listed block is as listed; all that was there at w0 (of size B) is as it was. -/
structure Kn (B : Nat) (w0 : World) (l : List (Nat × Obj)) (w : World) : Prop where
  at_ : ∀ p ∈ l, w.heap[p.1]? = some p.2
  b : Below B w0 w
  le : B ≤ w.heap.size
theorem Kn.start (w : World) : Kn w.heap.size w [] w := ⟨by simp, Below.refl _ _, Nat.le_refl _⟩
theorem heap_lt {w : World} {g : Nat} {o : Obj} (h : w.heap[g]? = some o) : g < w.heap.size := by
  rcases Nat.lt_or_ge g w.heap.size with h' | h'
  · exact h'
  · simp [Array.getElem?_eq_none h'] at h
theorem Kn.lt {B : Nat} {w0 w : World} {l : List (Nat × Obj)} (h : Kn B w0 l w) : ∀ p ∈ l, p.1 < w.heap.size := fun p hp => heap_lt (h.at_ p hp)
theorem Kn.hd {B : Nat} {w0 w : World} {l : List (Nat × Obj)} {g : Nat} {o : Obj} (h : Kn B w0 ((g, o) :: l) w) : w.heap[g]? = some o := h.at_ (g, o) (List.mem_cons_self ..)
theorem Kn.tl {B : Nat} {w0 w : World} {l : List (Nat × Obj)} {p : Nat × Obj} (h : Kn B w0 (p :: l) w) : Kn B w0 l w := ⟨fun q hq => h.at_ q (List.mem_cons_of_mem _ hq), h.b, h.le⟩
theorem Kn.below {B : Nat} {w0 w w' : World} {l : List (Nat × Obj)} (h : Kn B w0 l w) (d : Below w.heap.size w w') : Kn B w0 l w' :=
  ⟨fun p hp => (d.block p.1 (h.lt p hp)).trans (h.at_ p hp), below_then h.b h.le d, Nat.le_trans h.le d.size⟩
theorem Kn.same {B : Nat} {w0 w wd : World} {l : List (Nat × Obj)} (h : Kn B w0 l w) (e1 : wd.heap = w.heap) (e2 : wd.os = w.os) (e3 : wd.tape = w.tape) (e4 : wd.output = w.output) : Kn B w0 l wd :=
  ⟨fun p hp => by rw [e1]; exact h.at_ p hp, ⟨e2.trans h.b.os, e3.trans h.b.tape, e4.trans h.b.output, by rw [e1]; exact h.b.size, fun k hk => by rw [e1]; exact h.b.block k hk⟩, by rw [e1]; exact h.le⟩
theorem Kn.later {B : Nat} {w0 w wd w' : World} {l : List (Nat × Obj)} (h : Kn B w0 l w) (d : Below wd.heap.size wd w') (e1 : wd.heap = w.heap) (e2 : wd.os = w.os) (e3 : wd.tape = w.tape) (e4 : wd.output = w.output) : Kn B w0 l w' := (h.same e1 e2 e3 e4).below d
theorem Kn.new {B : Nat} {w0 w : World} {l : List (Nat × Obj)} (h : Kn B w0 l w) (o : Obj) : Kn B w0 ((w.heap.size, o) :: l) (w.alloc o) := by
  have k := h.below ((Below.refl w.heap.size w).alloc (Nat.le_refl _) o)
  refine ⟨fun p hp => ?_, k.b, k.le⟩
  rcases List.mem_cons.1 hp with rfl | hp
  · exact heap_alloc_new w o
  · exact k.at_ p hp
/-- A block that is known by now. -/
theorem Kn.put {B : Nat} {w0 w : World} {l : List (Nat × Obj)} (h : Kn B w0 l w) {g : Nat} {o : Obj} (e : w.heap[g]? = some o) : Kn B w0 ((g, o) :: l) w := ⟨fun p hp => by
  rcases List.mem_cons.1 hp with rfl | hp
  · exact e
  · exact h.at_ p hp, h.b, h.le⟩
/-- Block g alone, the first one, was changed. -/
theorem Kn.but {B : Nat} {w0 w w' : World} {l : List (Nat × Obj)} {g : Nat} {o o' : Obj} (h : Kn B w0 ((g, o) :: l) w) (k : But g w w') (hl : ∀ p ∈ l, p.1 ≠ g) (hg : B ≤ g) (e : w'.heap[g]? = some o') : Kn B w0 ((g, o') :: l) w' :=
  Kn.put ⟨fun p hp => (k.block p.1 (h.tl.lt p hp) (by simp; exact fun e => hl p hp e)).trans (h.tl.at_ p hp), But.below h.b k h.le hg, Nat.le_trans h.le k.size⟩ e
theorem Kn.sub {B : Nat} {w0 w : World} {l m : List (Nat × Obj)} (h : Kn B w0 l w) (hm : ∀ p ∈ m, p ∈ l) : Kn B w0 m w := ⟨fun p hp => h.at_ p (hm p hp), h.b, h.le⟩
def rdO (T : TypeId) (r : Rdr) : Obj := .cells #[.string r.s, .int .i64 r.pos, .bool r.bad] T (0, 0)
end
end Go.Proofs.YtglabahbklpocaaGreat
