/- The Reader of the package vint: what each method answers and leaves behind. The Reader of the package vint, more: Left, End, Text, Read. The reference Get: its plain law and its contract. The reference's Reader: each method answers and leaves behind what the program's does. Plain law: a number's bytes are read as it, wherever they stand; no two numbers have one text of bytes; a lesser number has no more. -/
import Derived.Test.YtglabahbklpocaaGreatGShipPacks1
import Derived.Test.YtglabahbklpocaaGreatGShipPacks5
import Derived.Deep.QuietTactic
import Derived.BigQuiet
import Derived.RegionCalls
import Derived.Deep.RegionWith
namespace Go.Proofs.YtglabahbklpocaaGreat
section
open Go.RowKit
set_option maxRecDepth 100000
set_option linter.unusedVariables false
set_option linter.unusedSimpArgs false
/-- A reader: its bytes, its place, is it broken. -/
structure Rdr where
  s : ByteArray
  pos : Int
  bad : Bool
def Rdr.ok (r : Rdr) : Prop := r.s.size ≤ 1000000000 ∧ 0 ≤ r.pos ∧ r.pos ≤ r.s.size
/-- The block g is a reader of type T. -/
def RdrAt (T : TypeId) (w : World) (g : Nat) (r : Rdr) : Prop := w.heap[g]? = some (.cells #[.string r.s, .int .i64 r.pos, .bool r.bad] T (0, 0))
theorem RdrAt.lt {T : TypeId} {w : World} {g : Nat} {r : Rdr} (h : RdrAt T w g r) : g < w.heap.size := by
  unfold RdrAt at h
  rcases Nat.lt_or_ge g w.heap.size with h' | h'
  · exact h'
  · simp [Array.getElem?_eq_none h'] at h
theorem RdrAt.c0 {T : TypeId} {w : World} {g : Nat} {r : Rdr} (h : RdrAt T w g r) : w.cell? ⟨g, 0, none⟩ = some (.string r.s) := by simp [World.cell?, show w.heap[g]? = _ from h]
theorem RdrAt.c1 {T : TypeId} {w : World} {g : Nat} {r : Rdr} (h : RdrAt T w g r) : w.cell? ⟨g, 1, none⟩ = some (.int .i64 r.pos) := by simp [World.cell?, show w.heap[g]? = _ from h]
theorem RdrAt.c2 {T : TypeId} {w : World} {g : Nat} {r : Rdr} (h : RdrAt T w g r) : w.cell? ⟨g, 2, none⟩ = some (.bool r.bad) := by simp [World.cell?, show w.heap[g]? = _ from h]
theorem RdrAt.fz {T : TypeId} {w : World} {g : Nat} {r : Rdr} (h : RdrAt T w g r) (j : Nat) : w.frozen? ⟨g, j, none⟩ = false := by simp [World.frozen?, show w.heap[g]? = _ from h]
theorem RdrAt.set2 {T : TypeId} {w : World} {g : Nat} {r : Rdr} (h : RdrAt T w g r) (b : Bool) : RdrAt T (w.setCell ⟨g, 2, none⟩ (.bool b)) g { r with bad := b } := by
  unfold RdrAt at *
  simp [World.setCell, Array.getElem?_modify, h]
theorem RdrAt.set1 {T : TypeId} {w : World} {g : Nat} {r : Rdr} (h : RdrAt T w g r) (p : Int) : RdrAt T (w.setCell ⟨g, 1, none⟩ (.int .i64 p)) g { r with pos := p } := by
  unfold RdrAt at *
  simp [World.setCell, Array.getElem?_modify, h]
/-- All but block g is as it was. -/
def But (g : Nat) (w w' : World) : Prop := w.grownBy w' (some g)
theorem But.refl (g : Nat) (w : World) : But g w w := ⟨rfl, rfl, rfl, Nat.le_refl _, fun _ _ _ => rfl⟩
theorem But.trans {g : Nat} {w w1 w2 : World} (h : But g w w1) (k : But g w1 w2) : But g w w2 :=
  ⟨k.os.trans h.os, k.tape.trans h.tape, k.output.trans h.output, Nat.le_trans h.size k.size, fun i hi hne => (k.block i (Nat.lt_of_lt_of_le hi h.size) hne).trans (h.block i hi hne)⟩
theorem But.set (g j : Nat) (w : World) (v : Value) : But g w (w.setCell ⟨g, j, none⟩ v) :=
  ⟨rfl, rfl, rfl, by simp [World.setCell], fun i hi hne => Below.heap_setCell _ _ _ _ (fun e => hne (by simp [e]))⟩
theorem But.drewN (g n : Nat) (w : World) : But g w (w.drewN n) := ⟨rfl, rfl, rfl, Nat.le_refl _, fun _ _ _ => rfl⟩
theorem But.of_below {g : Nat} {w w' : World} (h : Below w.heap.size w w') : But g w w' := ⟨h.os, h.tape, h.output, h.size, fun i hi _ => h.block i hi⟩
theorem But.below {B g : Nat} {w0 w w' : World} (h0 : Below B w0 w) (h : But g w w') (hB : B ≤ w.heap.size) (hg : B ≤ g) : Below B w0 w' := h0.grown h hB (fun k hk => by cases hk; exact hg)
theorem rdr_ok (g : Nat) (r : Rdr) (b : Bool) (w : World) (h : RdrAt 140 w g r) :
    Calls Tryz.prog 108 #[.pointer (some ⟨g, 0, none⟩), .bool b] w fun e w' => e = .returned (.bool (!(r.bad || !b))) ∧ w' = w.setCell ⟨g, 2, none⟩ (.bool (r.bad || !b)) := by
  obtain ⟨s, p, bad⟩ := r
  have c2 := h.c2
  have f2 := h.fz 2
  have hlt := h.lt
  have H := Lib.hid h
  clear h
  cases bad <;> cases b
  all_goals
    go_enter Tryz.func108, Tryz.ntmps108
    go_wp2
    go_ret
    exact ⟨rfl, rfl⟩
theorem Rdr.eta_bad (r : Rdr) (b : Bool) (h : r.bad = b) : { r with bad := b } = r := by cases r; subst h; rfl
def Rdr.num (r : Rdr) : Int × Rdr :=
  if r.bad = true then (0, r) else
  if (vget r.s r.pos).2.2 = 0 then ((vget r.s r.pos).1, { r with pos := (vget r.s r.pos).2.1 }) else (0, { r with bad := true })
def Rdr.int (r : Rdr) : Int × Rdr := (zag r.num.1, r.num.2)
def Rdr.small (r : Rdr) (most : Int) : Int × Rdr :=
  if r.num.2.bad = true ∨ most < 0 ∨ most < r.num.1 then (0, { r.num.2 with bad := true }) else (r.num.1, r.num.2)
def Rdr.left (r : Rdr) : Int := if r.bad = true then 0 else (r.s.size : Int) - r.pos
def Rdr.text (r : Rdr) : ByteArray × Rdr :=
  if r.num.2.bad = true ∨ r.num.2.left < r.num.1 then (⟨#[]⟩, { r.num.2 with bad := true }) else
  (r.s.extract r.num.2.pos.toNat (r.num.2.pos + r.num.1).toNat, { r.num.2 with pos := r.num.2.pos + r.num.1 })
def Rdr.fin (r : Rdr) : Int := if r.bad = true ∨ r.pos < (r.s.size : Int) then 10 else 0
theorem vget_range (s : ByteArray) (p : Int) : 0 ≤ (vget s p).1 ∧ (vget s p).1 < 18446744073709551616 ∧ ((vget s p).2.2 = 0 ∧ p < (vget s p).2.1 ∧ (vget s p).2.1 ≤ s.size ∧ 0 ≤ p ∨ (vget s p) = (0, 0, 10)) := by
  unfold vget
  split
  · exact ⟨by decide, by decide, .inr rfl⟩
  · rename_i h
    split
    · exact ⟨by decide, by decide, .inr rfl⟩
    · rename_i q hq
      split
      · rename_i hc
        obtain ⟨h1, h2, h3, _⟩ := getL_some 10 _ q.1 q.2 hq
        refine ⟨h1, hc.1, .inl ⟨rfl, ?_, ?_, by omega⟩⟩
        · simp only; omega
        · simp only
          rw [List.length_drop] at h3
          have : s.data.toList.length = s.size := by simp
          omega
      · exact ⟨by decide, by decide, .inr rfl⟩
theorem Rdr.num_ok {r : Rdr} (h : r.ok) : r.num.2.ok ∧ 0 ≤ r.num.1 ∧ r.num.1 < 18446744073709551616 ∧ r.num.2.s = r.s := by
  obtain ⟨h1, h2, h3⟩ := h
  have hv := vget_range r.s r.pos
  unfold Rdr.num
  split
  · exact ⟨⟨h1, h2, h3⟩, Int.le_refl _, (by decide : (0 : Int) < 18446744073709551616), rfl⟩
  · split
    · rename_i he
      rcases hv.2.2 with ⟨_, ha, hb, _⟩ | hb
      · exact ⟨⟨h1, by simp only; omega, hb⟩, hv.1, hv.2.1, rfl⟩
      · rw [hb] at he; simp at he
    · exact ⟨⟨h1, h2, h3⟩, Int.le_refl _, (by decide : (0 : Int) < 18446744073709551616), rfl⟩
theorem get_q (s : ByteArray) (at' : Int) (w : World) (hs : s.size ≤ 9223372036854775807) :
    Calls Tryz.prog 132 #[.string s, .int .i64 at'] w fun e w' => e = .returned (.tuple #[.int .u64 (vget s at').1, .int .i64 (vget s at').2.1, .int .i64 (vget s at').2.2]) ∧ w' = w :=
  (get_any s at' w hs).mono fun e w' ⟨h1, h2⟩ => ⟨h1, h2.symm⟩
set_option maxHeartbeats 1000000 in
theorem rdr_num (g : Nat) (r : Rdr) (w : World) (h : RdrAt 140 w g r) (hr : r.ok) :
    Calls Tryz.prog 107 #[.pointer (some ⟨g, 0, none⟩)] w fun e w' => e = .returned (.int .u64 r.num.1) ∧ RdrAt 140 w' g r.num.2 ∧ But g w w' := by
  cases hbad : r.bad
  · have c0 := (h.set2 false).c0
    have c1 := (h.set2 false).c1
    have hlt := h.lt
    have hsz : r.s.size ≤ 9223372036854775807 := by have := hr.1; omega
    have HB := Lib.hid hbad
    clear hbad
    go_enter Tryz.func107, Tryz.ntmps107
    go_wp2_with fail
    refine (rdr_ok g r true _ h).mono ?_
    rintro e w1 ⟨rfl, rfl⟩
    rw [HB.out, show (false || !true) = false from rfl]
    go_wp2_with fail
    have hv := vget_range r.s r.pos
    have HV := Lib.hid hv
    clear hv
    have HN : Hid (r.num = if (vget r.s r.pos).2.2 = 0 then ((vget r.s r.pos).1, { r with pos := (vget r.s r.pos).2.1 }) else (0, { r with bad := true })) := by
      show r.num = _
      unfold Rdr.num
      rw [if_neg (by rw [HB.out]; decide)]
    go_quiet ((go_at_call 132; exact Calls.quiet_of_same (get_q _ _ _ hsz)))
    have h1 : RdrAt 140 ((w.setCell ⟨g, 2, none⟩ (.bool false)).drewN nq) g r := by
      have := h.set2 false
      rw [Rdr.eta_bad r false HB.out] at this
      exact this
    have hb1 : But g w ((w.setCell ⟨g, 2, none⟩ (.bool false)).drewN nq) := (But.set g 2 w _).trans (But.drewN g nq _)
    generalize (w.setCell ⟨g, 2, none⟩ (.bool false)).drewN nq = w1 at *
    by_cases he : (vget r.s r.pos).2.2 = 0
    · have t1 : ((vget r.s r.pos).2.2 == 0) = true := by simpa using he
      have HN' : r.num = _ := HN.out
      rw [if_pos he] at HN'
      generalize vget r.s r.pos = q at *
      obtain ⟨v, nx, er⟩ := q
      simp only at he t1 HN'
      subst he
      have HN2 := Lib.hid HN'
      clear HN HN' t1
      go_wp2_with fail
      refine (rdr_ok g r true _ h1).mono ?_
      rintro e w2 ⟨rfl, rfl⟩
      rw [HB.out, show (false || !true) = false from rfl]
      have h2 : RdrAt 140 (w1.setCell ⟨g, 2, none⟩ (.bool false)) g r := by
        have := h1.set2 false
        rw [Rdr.eta_bad r false HB.out] at this
        exact this
      have c1 := h2.c1
      have f1 := h2.fz 1
      go_wp2
      go_ret
      rw [HN2.out]
      exact ⟨rfl, h2.set1 nx, (hb1.trans (But.set g 2 _ _)).trans (But.set g 1 _ _)⟩
    · have t1 : ((vget r.s r.pos).2.2 == 0) = false := by simpa using he
      have HN' : r.num = _ := HN.out
      rw [if_neg he] at HN'
      generalize vget r.s r.pos = q at *
      obtain ⟨v, nx, er⟩ := q
      simp only at he t1 HN'
      have HN2 := Lib.hid HN'
      clear HN HN' he
      go_wp2_with fail
      refine (rdr_ok g r false _ h1).mono ?_
      rintro e w2 ⟨rfl, rfl⟩
      rw [HB.out, show (false || !false) = true from rfl]
      go_wp2
      go_ret
      rw [HN2.out]
      exact ⟨rfl, h1.set2 true, hb1.trans (But.set g 2 _ _)⟩
  · have HB := Lib.hid hbad
    clear hbad
    have HN : Hid (r.num = (0, r)) := by
      show r.num = _
      unfold Rdr.num
      rw [if_pos HB.out]
    go_enter Tryz.func107, Tryz.ntmps107
    go_wp2_with fail
    refine (rdr_ok g r true _ h).mono ?_
    rintro e w1 ⟨rfl, rfl⟩
    rw [HB.out, show (true || !true) = true from rfl]
    go_wp2
    go_ret
    rw [HN.out]
    exact ⟨rfl, by have := h.set2 true; rw [Rdr.eta_bad r true HB.out] at this; exact this, But.set g 2 _ _⟩
theorem rdr_int (g : Nat) (r : Rdr) (w : World) (h : RdrAt 140 w g r) (hr : r.ok) :
    Calls Tryz.prog 112 #[.pointer (some ⟨g, 0, none⟩)] w fun e w' => e = .returned (.int .i64 r.int.1) ∧ RdrAt 140 w' g r.int.2 ∧ But g w w' := by
  have hk := Rdr.num_ok hr
  go_enter Tryz.func112, Tryz.ntmps112
  go_wp2_with fail
  refine (rdr_num g r _ h hr).mono ?_
  rintro e w1 ⟨rfl, h1, hb1⟩
  go_wp2_with fail
  refine (zag_any _ _ hk.2.1 hk.2.2.1).mono ?_
  rintro e w2 ⟨rfl, rfl⟩
  go_wp2
  go_ret
  exact ⟨rfl, h1, hb1⟩
set_option maxHeartbeats 1000000 in
theorem rdr_small (g : Nat) (r : Rdr) (most : Int) (w : World) (h : RdrAt 140 w g r) (hr : r.ok) (hm0 : -9223372036854775808 ≤ most) (hm1 : most ≤ 9223372036854775807) :
    Calls Tryz.prog 44 #[.pointer (some ⟨g, 0, none⟩), .int .i64 most] w fun e w' => e = .returned (.int .i64 (r.small most).1) ∧ RdrAt 140 w' g (r.small most).2 ∧ But g w w' := by
  have hk := Rdr.num_ok hr
  go_enter Tryz.func44, Tryz.ntmps44
  go_wp2_with fail
  refine (rdr_num g r _ h hr).mono ?_
  rintro e w1 ⟨rfl, h1, hb1⟩
  have HS : Hid (r.small most = if r.num.2.bad = true ∨ most < 0 ∨ most < r.num.1 then (0, { r.num.2 with bad := true }) else (r.num.1, r.num.2)) := rfl
  generalize r.num = q at *
  obtain ⟨v, r1⟩ := q
  simp only at h1 hk
  by_cases hneg : most < 0
  · have t1 : decide (0 ≤ most) = false := decide_eq_false (by omega)
    have HS2 := Lib.hid (HS.out.trans (if_pos (.inr (.inl hneg))))
    go_wp2_with fail
    refine (rdr_ok g r1 false _ h1).mono ?_
    rintro e w2 ⟨rfl, rfl⟩
    rw [show (r1.bad || !false) = true by simp]
    go_wp2
    go_ret
    rw [HS2.out]
    exact ⟨rfl, h1.set2 true, hb1.trans (But.set g 2 _ _)⟩
  · have t1 : decide (0 ≤ most) = true := decide_eq_true (by omega)
    have hw : IntKind.u64.wrap (max most 0) = most := by rw [wrap_u64]; omega
    by_cases hle : v ≤ most
    · have t2 : decide (v ≤ most) = true := decide_eq_true hle
      go_wp2_with fail
      refine (rdr_ok g r1 true _ h1).mono ?_
      rintro e w2 ⟨rfl, rfl⟩
      rw [show (r1.bad || !true) = r1.bad by simp]
      have h2 := h1.set2 r1.bad
      rw [Rdr.eta_bad r1 r1.bad rfl] at h2
      have hb2 := hb1.trans (But.set g 2 w1 (.bool r1.bad))
      cases hbd : r1.bad
      · have HS2 := Lib.hid (HS.out.trans (if_neg (show ¬ (r1.bad = true ∨ most < 0 ∨ most < v) by rw [hbd]; simp; omega)))
        rw [hbd] at h2 hb2
        have hiw : wrap64 v = v := IntWalk.wrap64_in v ⟨by omega, by omega⟩
        clear hbd
        go_wp2
        go_ret
        rw [HS2.out]
        exact ⟨rfl, h2, hb2⟩
      · have HS2 := Lib.hid (HS.out.trans (if_pos (show (r1.bad = true ∨ most < 0 ∨ most < v) by rw [hbd]; simp)))
        have h3 := h1.set2 true
        rw [hbd] at h2 hb2
        clear hbd
        go_wp2
        go_ret
        rw [HS2.out]
        exact ⟨rfl, h3, hb2⟩
    · have t2 : decide (v ≤ most) = false := decide_eq_false hle
      have HS2 := Lib.hid (HS.out.trans (if_pos (.inr (.inr (by omega)))))
      go_wp2_with fail
      refine (rdr_ok g r1 false _ h1).mono ?_
      rintro e w2 ⟨rfl, rfl⟩
      rw [show (r1.bad || !false) = true by simp]
      go_wp2
      go_ret
      rw [HS2.out]
      exact ⟨rfl, h1.set2 true, hb1.trans (But.set g 2 _ _)⟩
end
end Go.Proofs.YtglabahbklpocaaGreat
namespace Go.Proofs.YtglabahbklpocaaGreat
section
open Go.RowKit
set_option maxRecDepth 100000
set_option linter.unusedVariables false
set_option linter.unusedSimpArgs false
def QuietFrom (w w' : World) : Prop := ∃ n, w' = w.drewN n
theorem QuietFrom.but {g : Nat} {w w' : World} (h : QuietFrom w w') : But g w w' := by obtain ⟨n, rfl⟩ := h; exact But.drewN g n w
theorem QuietFrom.rdr {T : TypeId} {g : Nat} {r : Rdr} {w w' : World} (h : QuietFrom w w') (k : RdrAt T w g r) : RdrAt T w' g r := by obtain ⟨n, rfl⟩ := h; exact k
theorem QuietFrom.below {B : Nat} {w w' : World} (h : QuietFrom w w') : Below B w w' := by obtain ⟨n, rfl⟩ := h; exact ⟨rfl, rfl, rfl, Nat.le_refl _, fun _ _ => rfl⟩
set_option maxHeartbeats 1000000 in
theorem rdr_left (g : Nat) (r : Rdr) (w : World) (h : RdrAt 140 w g r) (hr : r.ok) :
    Calls Tryz.prog 109 #[.pointer (some ⟨g, 0, none⟩)] w fun e w' => e = .returned (.int .i64 r.left) ∧ QuietFrom w w' := by
  have c0 := h.c0
  have c1 := h.c1
  have c2 := h.c2
  obtain ⟨s, p, bad⟩ := r
  obtain ⟨h1, h2, h3⟩ := hr
  simp only at c0 c1 c2 h1 h2 h3
  clear h
  cases bad
  · have hw : IntKind.i64.wrap ((s.size : Int) - p) = (s.size : Int) - p := IntWalk.i64_in _ (by omega)
    go_enter Tryz.func109, Tryz.ntmps109
    go_wp2
    go_quiet (fail)
    go_wp2
    go_ret
    exact ⟨rfl, ⟨nq, rfl⟩⟩
  · go_enter Tryz.func109, Tryz.ntmps109
    go_wp2
    go_ret
    exact ⟨rfl, ⟨0, rfl⟩⟩
set_option maxHeartbeats 1000000 in
theorem rdr_end (g : Nat) (r : Rdr) (w : World) (h : RdrAt 140 w g r) (hr : r.ok) :
    Calls Tryz.prog 54 #[.pointer (some ⟨g, 0, none⟩)] w fun e w' => e = .returned (.int .i64 r.fin) ∧ QuietFrom w w' := by
  have c0 := h.c0
  have c1 := h.c1
  have c2 := h.c2
  obtain ⟨s, p, bad⟩ := r
  obtain ⟨h1, h2, h3⟩ := hr
  simp only at c0 c1 c2 h1 h2 h3
  clear h
  cases bad
  · by_cases hp : p < (s.size : Int)
    · have t1 : decide (p < (s.size : Int)) = true := decide_eq_true hp
      have HF : Hid ((⟨s, p, false⟩ : Rdr).fin = 10) := by show Rdr.fin _ = _; unfold Rdr.fin; rw [if_pos (.inr hp)]
      go_enter Tryz.func54, Tryz.ntmps54
      go_wp2
      go_quiet (fail)
      go_wp2
      go_ret
      exact ⟨ret_num HF.out.symm, ⟨nq, rfl⟩⟩
    · have t1 : decide (p < (s.size : Int)) = false := decide_eq_false hp
      have HF : Hid ((⟨s, p, false⟩ : Rdr).fin = 0) := by show Rdr.fin _ = _; unfold Rdr.fin; rw [if_neg (by simp; omega)]
      go_enter Tryz.func54, Tryz.ntmps54
      go_wp2
      go_quiet (fail)
      go_wp2
      go_ret
      exact ⟨ret_num HF.out.symm, ⟨nq, rfl⟩⟩
  · have HF : Hid ((⟨s, p, true⟩ : Rdr).fin = 10) := by show Rdr.fin _ = _; unfold Rdr.fin; rw [if_pos (.inl rfl)]
    go_enter Tryz.func54, Tryz.ntmps54
    go_wp2
    go_quiet (fail)
    go_wp2
    go_ret
    exact ⟨ret_num HF.out.symm, ⟨nq, rfl⟩⟩
theorem rdr_read (s : ByteArray) (w : World) :
    Calls Tryz.prog 43 #[.string s] w fun e w' => e = .returned (.pointer (some ⟨w.heap.size, 0, none⟩)) ∧ RdrAt 140 w' w.heap.size ⟨s, 0, false⟩ ∧ Below w.heap.size w w' := by
  go_enter Tryz.func43, Tryz.ntmps43
  go_wp2
  go_ret
  exact ⟨rfl, heap_alloc_new w _, (Below.refl _ _).alloc (Nat.le_refl _) _⟩
set_option maxHeartbeats 1000000 in
theorem rdr_text (g : Nat) (r : Rdr) (w : World) (h : RdrAt 140 w g r) (hr : r.ok) :
    Calls Tryz.prog 50 #[.pointer (some ⟨g, 0, none⟩)] w fun e w' => e = .returned (.string r.text.1) ∧ RdrAt 140 w' g r.text.2 ∧ But g w w' := by
  have hk := Rdr.num_ok hr
  go_enter Tryz.func50, Tryz.ntmps50
  go_wp2_with fail
  refine (rdr_num g r _ h hr).mono ?_
  rintro e w1 ⟨rfl, h1, hb1⟩
  have HS : Hid (r.text = if r.num.2.bad = true ∨ r.num.2.left < r.num.1 then (⟨#[]⟩, { r.num.2 with bad := true }) else
    (r.num.2.s.extract r.num.2.pos.toNat (r.num.2.pos + r.num.1).toNat, { r.num.2 with pos := r.num.2.pos + r.num.1 })) := by
    show r.text = _
    unfold Rdr.text
    rw [hk.2.2.2]
  generalize r.num = q at *
  obtain ⟨v, r1⟩ := q
  simp only at h1 hk
  have HK := Lib.hid hk
  clear hk
  go_wp2_with fail
  refine (rdr_left g r1 _ h1 HK.out.1).mono ?_
  rintro e w2 ⟨rfl, hq2⟩
  have h2 := hq2.rdr h1
  have hb2 := hb1.trans hq2.but
  have hleft : 0 ≤ r1.left ∧ r1.left ≤ 1000000000 := by
    unfold Rdr.left
    have := HK.out.1
    unfold Rdr.ok at this
    split <;> omega
  have hwl : IntKind.u64.wrap r1.left = r1.left := by rw [wrap_u64]; omega
  by_cases hle : v ≤ r1.left
  · have t1 : decide (v ≤ r1.left) = true := decide_eq_true hle
    cases hbd : r1.bad
    · have HL : Hid (r1.left = (r1.s.size : Int) - r1.pos) := by show r1.left = _; unfold Rdr.left; rw [if_neg (by rw [hbd]; decide)]
      have HS2 := Lib.hid (HS.out.trans (if_neg (show ¬ (r1.bad = true ∨ r1.left < v) by rw [hbd]; simp; omega)))
      have HB := Lib.hid hbd
      clear hbd
      go_wp2_with fail
      refine (rdr_ok g r1 true _ h2).mono ?_
      rintro e w3 ⟨rfl, rfl⟩
      rw [HB.out, show (false || !true) = false from rfl]
      have h3 := h2.set2 false
      rw [Rdr.eta_bad r1 false HB.out] at h3
      have hb3 := hb2.trans (But.set g 2 w2 (.bool false))
      generalize w2.setCell ⟨g, 2, none⟩ (.bool false) = w4 at *
      have c0 := h3.c0
      have c1 := h3.c1
      have hpos := HK.out.1.2.1
      have hpos2 := HK.out.1.2.2
      have hv0 := HK.out.2.1
      have hle2 : r1.pos + v ≤ (r1.s.size : Int) := by have := HL.out; omega
      have hbig := HK.out.1.1
      have hw1 : wrap64 v = v := IntWalk.wrap64_in v ⟨by omega, by omega⟩
      have hw2 : IntKind.i64.wrap v = v := IntWalk.i64_in v ⟨by omega, by omega⟩
      have hw3 : IntKind.i64.wrap (r1.pos + v) = r1.pos + v := IntWalk.i64_in _ ⟨by omega, by omega⟩
      have hn3 : 0 ≤ r1.pos + v := by omega
      have hsl := str_slice (P := Tryz.prog) (T := 9) Tryz.underlying9 r1.s r1.pos (r1.pos + v) r1.pos.toNat (r1.pos + v).toNat (by omega) (by omega) (by omega) (by omega)
      have H3 := Lib.hid h3
      clear h3 h h1 h2
      go_wp2_with fail
      go_quiet (fail)
      have h4 : RdrAt 140 (w4.drewN nq) g r1 := H3.out
      have hb4 : But g w (w4.drewN nq) := hb3.trans (But.drewN g nq _)
      generalize w4.drewN nq = w5 at *
      have d1 := h4.c1
      have f1 := h4.fz 1
      go_wp2
      go_ret
      rw [HS2.out]
      exact ⟨rfl, h4.set1 _, hb4.trans (But.set g 1 _ _)⟩
    · have HS2 := Lib.hid (HS.out.trans (if_pos (show (r1.bad = true ∨ r1.left < v) by rw [hbd]; simp)))
      have HB := Lib.hid hbd
      clear hbd
      go_wp2_with fail
      refine (rdr_ok g r1 true _ h2).mono ?_
      rintro e w3 ⟨rfl, rfl⟩
      rw [HB.out, show (true || !true) = true from rfl]
      go_wp2
      go_ret
      rw [HS2.out]
      exact ⟨rfl, h2.set2 true, hb2.trans (But.set g 2 _ _)⟩
  · have t1 : decide (v ≤ r1.left) = false := decide_eq_false hle
    have HS2 := Lib.hid (HS.out.trans (if_pos (show (r1.bad = true ∨ r1.left < v) from .inr (by omega))))
    go_wp2_with fail
    refine (rdr_ok g r1 false _ h2).mono ?_
    rintro e w3 ⟨rfl, rfl⟩
    rw [show (r1.bad || !false) = true by simp]
    go_wp2
    go_ret
    rw [HS2.out]
    exact ⟨rfl, h2.set2 true, hb2.trans (But.set g 2 _ _)⟩
theorem Rdr.small_ok {r : Rdr} (h : r.ok) (most : Int) : (r.small most).2.ok ∧ (r.small most).2.s = r.s := by
  have hk := Rdr.num_ok h
  unfold Rdr.small
  split
  · exact ⟨hk.1, hk.2.2.2⟩
  · exact ⟨hk.1, hk.2.2.2⟩
theorem Rdr.int_ok {r : Rdr} (h : r.ok) : r.int.2.ok ∧ r.int.2.s = r.s := ⟨(Rdr.num_ok h).1, (Rdr.num_ok h).2.2.2⟩
theorem Rdr.text_ok {r : Rdr} (h : r.ok) : r.text.2.ok ∧ r.text.2.s = r.s := by
  have hk := Rdr.num_ok h
  unfold Rdr.text
  split
  · exact ⟨hk.1, hk.2.2.2⟩
  · rename_i hc
    refine ⟨⟨hk.1.1, ?_, ?_⟩, hk.2.2.2⟩
    · have := hk.1.2.1; simp only; omega
    · have hb : ¬ r.num.2.bad = true := fun x => hc (.inl x)
      have : ¬ r.num.2.left < r.num.1 := fun x => hc (.inr x)
      unfold Rdr.left at this
      rw [if_neg hb] at this
      simp only; omega
end
end Go.Proofs.YtglabahbklpocaaGreat
namespace Go.Proofs.YtglabahbklpocaaGreat
section
open Go.RowKit
set_option maxRecDepth 100000
set_option linter.unusedVariables false
set_option linter.unusedSimpArgs false
end
end Go.Proofs.YtglabahbklpocaaGreat
namespace Go.Proofs.YtglabahbklpocaaGreat
section
open Go.RowKit
set_option maxRecDepth 100000
set_option linter.unusedVariables false
set_option linter.unusedSimpArgs false
theorem RdrAt.below {T : TypeId} {g : Nat} {r : Rdr} {w w' : World} (k : RdrAt T w g r) (h : Below w.heap.size w w') : RdrAt T w' g r := by
  unfold RdrAt
  rw [h.block g k.lt]
  exact k
end
end Go.Proofs.YtglabahbklpocaaGreat
namespace Go.Proofs.YtglabahbklpocaaGreat
section
open Go.RowKit
set_option maxRecDepth 100000
set_option linter.unusedVariables false
set_option linter.unusedSimpArgs false
theorem vput_size (n : Int) : (vput n).size = (putI 9 n).length := by simp [vput, strOfNums_size]
theorem vput_pos (n : Int) : 1 ≤ (vput n).size := by rw [vput_size]; exact putI_pos 9 n
theorem vput_le (n : Int) : (vput n).size ≤ 10 := by rw [vput_size]; exact putI_le 9 n
theorem vget_put (pre post : ByteArray) (n : Int) (h0 : 0 ≤ n) (h1 : n < 18446744073709551616) :
    vget (pre ++ vput n ++ post) (pre.size : Int) = (n, (pre.size : Int) + ((vput n).size : Int), 0) := by
  have hp := vput_pos n
  have hs : (pre ++ vput n ++ post).size = pre.size + (vput n).size + post.size := by simp [ByteArray.size_append]
  unfold vget
  rw [if_neg (by rw [hs]; omega), Int.toNat_natCast]
  have hd : (pre ++ vput n ++ post).data.toList.drop pre.size = putB 9 n ++ post.data.toList := by
    rw [ByteArray.data_append, ByteArray.data_append, Array.toList_append, Array.toList_append, vput_data, List.append_assoc]
    exact List.drop_left' (by rw [Array.length_toList]; rfl)
  rw [hd, getL_put 9 n _ h0 (by simp only [Int.reducePow]; omega)]
  simp only
  rw [if_pos ⟨h1, putI_canon 9 n h0⟩, vput_size]
theorem vget_put0 (post : ByteArray) (n : Int) (h0 : 0 ≤ n) (h1 : n < 18446744073709551616) : vget (vput n ++ post) 0 = (n, ((vput n).size : Int), 0) := by
  have h := vget_put ByteArray.empty post n h0 h1
  have e : ByteArray.empty ++ vput n = vput n := by apply ByteArray.ext; simp [ByteArray.data_append]
  rw [e] at h
  simpa using h
theorem vput_inj {a b : Int} (ha0 : 0 ≤ a) (ha1 : a < 18446744073709551616) (hb0 : 0 ≤ b) (hb1 : b < 18446744073709551616) (h : vput a = vput b) : a = b := by
  have x := vget_put0 ByteArray.empty a ha0 ha1
  have y := vget_put0 ByteArray.empty b hb0 hb1
  rw [h, y] at x
  simp only [Prod.mk.injEq] at x
  exact x.1.symm
end
end Go.Proofs.YtglabahbklpocaaGreat
