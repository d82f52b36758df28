/- Words for the laws of chapter 02: boxed numbers; the calls in the walk's own spelling. -/
import Derived.Test.YtafjpgkffgmokaaWawake
import Derived.Test.YtafjpgkffgmokaaWmul
import Derived.Test.YtafjpgkffgmokaaOpenW
import Derived.Deep.RegionHeld3
import Derived.Deep.DrawnRows
import Derived.Deep.DeepCutAuto
import Derived.Deep.CutBlock
namespace Go.Proofs.Ytafjpgkffgmokaa
open Go.RowKit
set_option linter.unusedVariables false
set_option linter.unusedSimpArgs false
theorem WdAt.same {w wd' : World} {g : Nat} {a : Wd} (h : WdAt w g a) (e : wd'.heap = w.heap) : WdAt wd' g a := by unfold WdAt; rw [e]; exact h
theorem below_eqs {w0 w wd' : World} (h : Below w0.heap.size w0 w) (e1 : wd'.heap = w.heap) (e2 : wd'.os = w.os) (e3 : wd'.tape = w.tape) (e4 : wd'.output = w.output) : Below w0.heap.size w0 wd' :=
  ⟨e2.trans h.os, e3.trans h.tape, e4.trans h.output, by rw [e1]; exact h.size, fun k hk => by rw [e1]; exact h.block k hk⟩
/-- Boxed numbers, behind what was there at w. -/
structure Bx (w : World) (bs : List (Nat × Wd)) (wx : World) : Prop where
  at_ : ∀ p ∈ bs, WdAt wx p.1 p.2
  b : Below w.heap.size w wx
theorem Bx.below {w wx w' : World} {bs : List (Nat × Wd)} (h : Bx w bs wx) (d : Below wx.heap.size wx w') : Bx w bs w' := ⟨fun p hp => (h.at_ p hp).below d, below_th h.b d⟩
theorem Bx.same {w wx wd' : World} {bs : List (Nat × Wd)} (h : Bx w bs wx) (e1 : wd'.heap = wx.heap) (e2 : wd'.os = wx.os) (e3 : wd'.tape = wx.tape) (e4 : wd'.output = wx.output) : Bx w bs wd' := ⟨fun p hp => (h.at_ p hp).same e1, below_eqs h.b e1 e2 e3 e4⟩
theorem Bx.later {w wx wd' w' : World} {bs : List (Nat × Wd)} (h : Bx w bs wx) (d : Below wd'.heap.size wd' w') (e1 : wd'.heap = wx.heap) (e2 : wd'.os = wx.os) (e3 : wd'.tape = wx.tape) (e4 : wd'.output = wx.output) : Bx w bs w' := (h.same e1 e2 e3 e4).below d
theorem Bx.new {w wx : World} {bs : List (Nat × Wd)} (h : Bx w bs wx) (a : Wd) : Bx w (bs ++ [(wx.heap.size, a)]) (wx.alloc (.cells #[.int .i64 a.hi, .int .u64 a.lo] 24)) :=
  ⟨fun p hp => by
    rcases List.mem_append.1 hp with hp | hp
    · exact (h.at_ p hp).alloc _
    · simp only [List.mem_singleton] at hp; subst hp; exact WdAt.new wx a, below_al h.b⟩
theorem Bx.newLater {w wx wd' w' : World} {bs : List (Nat × Wd)} (h : Bx w bs wx) (d : Below wd'.heap.size wd' w') (e1 : wd'.heap = (wx.alloc (.cells #[.int .i64 0, .int .u64 0] 24)).heap) (e2 : wd'.os = (wx.alloc (.cells #[.int .i64 0, .int .u64 0] 24)).os) (e3 : wd'.tape = (wx.alloc (.cells #[.int .i64 0, .int .u64 0] 24)).tape) (e4 : wd'.output = (wx.alloc (.cells #[.int .i64 0, .int .u64 0] 24)).output) : Bx w (bs ++ [(wx.heap.size, ⟨0, 0⟩)]) w' := ((h.new ⟨0, 0⟩).same e1 e2 e3 e4).below d
theorem Bx.nes {w wx : World} {bs : List (Nat × Wd)} (h : Bx w bs wx) : (∀ p ∈ bs, p.1 ≠ wx.heap.size) ∧ w.heap.size ≤ wx.heap.size := ⟨fun p hp => Nat.ne_of_lt (h.at_ p hp).lt, h.b.size⟩
theorem Bx.newHere {w wx wy : World} {bs : List (Nat × Wd)} (a : Wd) (h : Bx w bs wx) (e1 : wy.heap = wx.heap) (e2 : wy.os = wx.os) (e3 : wy.tape = wx.tape) (e4 : wy.output = wx.output) : Bx w (bs ++ [(wy.heap.size, a)]) (wy.alloc (.cells #[.int .i64 a.hi, .int .u64 a.lo] 24)) := (h.same e1 e2 e3 e4).new a
theorem Bx.setLast {w wx wy : World} {bs : List (Nat × Wd)} {g : Nat} {z : Wd} (a : Wd) (h : Bx w (bs ++ [(g, z)]) wx) (hbs : ∀ p ∈ bs, p.1 ≠ g) (hg : w.heap.size ≤ g) (e1 : wy.heap = wx.heap) (e2 : wy.os = wx.os) (e3 : wy.tape = wx.tape) (e4 : wy.output = wx.output) : Bx w (bs ++ [(g, a)]) ((wy.setCell ⟨g, 0, none⟩ (.int .i64 a.hi)).setCell ⟨g, 1, none⟩ (.int .u64 a.lo)) := by
  have k := h.same e1 e2 e3 e4
  refine ⟨fun p hp => ?_, below_st (below_st k.b hg _) hg _⟩
  rcases List.mem_append.1 hp with hp | hp
  · exact ((k.at_ p (List.mem_append_left _ hp)).far (p := ⟨g, 0, none⟩) (hbs p hp) _).far (p := ⟨g, 1, none⟩) (hbs p hp) _
  · simp only [List.mem_singleton] at hp
    subst hp
    exact (k.at_ (g, z) (List.mem_append_right _ (List.mem_singleton.2 rfl))).set a
theorem cmpA (p q : Wd) (hp : p.ok) (hq : q.ok) (w : World) : Calls Try.prog 17 #[.agg #[.int .i64 p.hi, .int .u64 p.lo], .agg #[.int .i64 q.hi, .int .u64 q.lo]] w fun e w' => e = .returned (.int .i64 (cmpW p q)) ∧ Below w.heap.size w w' := cmp_any p q w hp hq
theorem negA (p : Wd) (hp : p.ok) (w : World) : Calls Try.prog 19 #[.agg #[.int .i64 p.hi, .int .u64 p.lo]] w fun e w' => e = .returned (.agg #[.int .i64 (wd (-p.v)).hi, .int .u64 (wd (-p.v)).lo]) ∧ Below w.heap.size w w' := neg_any p w hp
theorem addA (p q : Wd) (hp : p.ok) (hq : q.ok) (w : World) : Calls Try.prog 18 #[.agg #[.int .i64 p.hi, .int .u64 p.lo], .agg #[.int .i64 q.hi, .int .u64 q.lo]] w fun e w' => e = .returned (.agg #[.int .i64 (wd (p.v + q.v)).hi, .int .u64 (wd (p.v + q.v)).lo]) ∧ Below w.heap.size w w' := add_any p q w hp hq
theorem subA (p q : Wd) (hp : p.ok) (hq : q.ok) (w : World) : Calls Try.prog 20 #[.agg #[.int .i64 p.hi, .int .u64 p.lo], .agg #[.int .i64 q.hi, .int .u64 q.lo]] w fun e w' => e = .returned (.agg #[.int .i64 (wd (p.v - q.v)).hi, .int .u64 (wd (p.v - q.v)).lo]) ∧ Below w.heap.size w w' := sub_any p q w hp hq
theorem timesA (p : Wd) (n : Int) (hp : p.ok) (hn : 0 ≤ n ∧ n ≤ 4294967295) (w : World) : Calls Try.prog 21 #[.agg #[.int .i64 p.hi, .int .u64 p.lo], .int .u32 n] w fun e w' => e = .returned (.agg #[.int .i64 (wd (p.v * n)).hi, .int .u64 (wd (p.v * n)).lo]) ∧ Below w.heap.size w w' := times_any p n w hp hn
theorem textA (p : Wd) (hp : p.ok) (w : World) : Calls Try.prog 13 #[.agg #[.int .i64 p.hi, .int .u64 p.lo]] w fun e w' => e = .returned (.string (textW p.v)) ∧ Below w.heap.size w w' := wtext_any p w hp
theorem eqA (p q : Wd) (w : World) : (binOp .eql 24 (.agg #[.int .i64 p.hi, .int .u64 p.lo]) (.agg #[.int .i64 q.hi, .int .u64 q.lo])).run Try.prog w = .ok (.bool (decide (p = q))) w := eq_wide p.hi p.lo q.hi q.lo w
theorem eqT {p q : Wd} (h : p = q) (w : World) : (binOp .eql 24 (.agg #[.int .i64 p.hi, .int .u64 p.lo]) (.agg #[.int .i64 q.hi, .int .u64 q.lo])).run Try.prog w = .ok (.bool true) w := by rw [eqA, decide_eq_true h]
theorem eqF {p q : Wd} (h : p ≠ q) (w : World) : (binOp .eql 24 (.agg #[.int .i64 p.hi, .int .u64 p.lo]) (.agg #[.int .i64 q.hi, .int .u64 q.lo])).run Try.prog w = .ok (.bool false) w := by rw [eqA, decide_eq_false h]
theorem cmp_lt {a b : Wd} (h : a.v < b.v) : cmpW a b = -1 := by unfold cmpW; rw [if_neg (by omega), if_pos h]
theorem cmp_gt {a b : Wd} (h : b.v < a.v) : cmpW a b = 1 := by unfold cmpW; rw [if_neg (by omega), if_neg (by omega)]
theorem cmp_eq {a b : Wd} (h : a.v = b.v) : cmpW a b = 0 := by unfold cmpW; rw [if_pos h]
theorem cmp_ge {a b : Wd} (h : ¬ a.v < b.v) : 0 ≤ cmpW a b := by
  unfold cmpW
  by_cases e : a.v = b.v
  · rw [if_pos e]; decide
  · rw [if_neg e, if_neg h]; decide
theorem neg_is {a b : Wd} : (decide (cmpW a b < 0)) = decide (a.v < b.v) := by
  by_cases h : a.v < b.v
  · rw [cmp_lt h, decide_eq_true h]; rfl
  · rw [decide_eq_false h, decide_eq_false (by have := cmp_ge h; omega)]
theorem pos_is {a b : Wd} : (decide (0 < cmpW a b)) = decide (b.v < a.v) := by
  rcases Int.lt_trichotomy a.v b.v with h | h | h
  · rw [cmp_lt h, decide_eq_false (show ¬ b.v < a.v by omega)]; rfl
  · rw [cmp_eq h, decide_eq_false (show ¬ b.v < a.v by omega)]; rfl
  · rw [cmp_gt h, decide_eq_true h]; rfl
theorem zero_is {a b : Wd} : (cmpW a b == 0) = decide (a.v = b.v) := by
  rcases Int.lt_trichotomy a.v b.v with h | h | h
  · rw [cmp_lt h, decide_eq_false (show ¬ a.v = b.v by omega)]; rfl
  · rw [cmp_eq h, decide_eq_true h]; rfl
  · rw [cmp_gt h, decide_eq_false (show ¬ a.v = b.v by omega)]; rfl
theorem ok_least : (⟨-9223372036854775808, 0⟩ : Wd).ok := ⟨by decide, by decide⟩
theorem v_least : (⟨-9223372036854775808, 0⟩ : Wd).v = -170141183460469231731687303715884105728 := by decide +kernel
theorem ne_least {a : Wd} (h : a.ok) (hn : a ≠ ⟨-9223372036854775808, 0⟩) : -170141183460469231731687303715884105727 ≤ a.v ∧ (wd (-a.v)).v = -a.v := by
  have hr := v_range a h
  have : a.v ≠ -170141183460469231731687303715884105728 := fun e => hn (v_inj h ok_least (by rw [e, v_least]))
  exact ⟨by omega, v_wd _ (by omega) (by omega)⟩
end Go.Proofs.Ytafjpgkffgmokaa
