/- Plain law: points, what is known of some of them; their cells. Numbers with a sign as numbers without: the contracts of Zig, Zag, of the reference's, and of the law's 'short'. -/
import Derived.Test.YtojnooagifhekaaGAggParts5
import Derived.Test.YtojnooagifhekaaGAggParts7
import Derived.Test.YtojnooagifhekaaGAggParts1
import Derived.Test.YtojnooagifhekaaGAggParts3
import Derived.Test.YtojnooagifhekaaGAggParts6
import Derived.Test.YtojnooagifhekaaGAggParts2
namespace Go.Proofs.Ytojnooagifhekaa
section
open Go.RowKit
set_option maxRecDepth 100000
set_option linter.unusedVariables false
set_option linter.unusedSimpArgs false
/-- What is known of some points. -/
structure Ag where
  cnt : Int
  sum : Wd
  mn : Int
  mx : Int
  last : Int
  at_ : St
  bk : List Int
deriving DecidableEq
def Ag.cs (a : Ag) : List Value := [.int .i64 a.cnt, .int .i64 a.sum.hi, .int .u64 a.sum.lo, .int .i64 a.mn, .int .i64 a.mx, .int .i64 a.last, .int .i64 a.at_.clock, .int .i64 a.at_.site, .int .i64 a.at_.seq] ++ a.bk.map (Value.int .i64)
def Ag.val (a : Ag) : Value := .agg a.cs.toArray
def Ag.ok (a : Ag) : Prop := i64 a.cnt ∧ a.sum.ok ∧ i64 a.mn ∧ i64 a.mx ∧ i64 a.last ∧ a.at_.wf' ∧ a.bk.length = 9 ∧ ∀ x ∈ a.bk, i64 x
def Ag0 : Ag := ⟨0, ⟨0, 0⟩, 0, 0, 0, ⟨0, 0, 0⟩, List.replicate 9 0⟩
def oneV (v : Int) (s : St) : Ag := ⟨1, wd v, v, v, v, s, (List.replicate 9 0).set (bucketV v).toNat 1⟩
def addL (a b : List Int) : List Int := List.zipWith (fun x y => wrap64 (x + y)) a b
def mergeV (a b : Ag) : Ag := if a.cnt = 0 then b else if b.cnt = 0 then a else
  ⟨wrap64 (a.cnt + b.cnt), wd (a.sum.v + b.sum.v), min a.mn b.mn, max a.mx b.mx, if lessV a.at_ b.at_ = true then b.last else a.last, if lessV a.at_ b.at_ = true then b.at_ else a.at_, addL a.bk b.bk⟩
def Pt.one (p : Pt) : Ag := oneV p.value p.st
def foldV (l : List Pt) : Ag := l.foldl (fun a p => mergeV a p.one) Ag0
theorem i64_0 : i64 0 := ⟨by decide, by decide⟩
theorem i64_wrap64 (x : Int) : i64 (wrap64 x) := by unfold wrap64 i64; omega
theorem zero_wdok : (⟨0, 0⟩ : Wd).ok := ⟨by decide, by decide⟩
theorem Ag0_ok : Ag0.ok := ⟨i64_0, zero_wdok, i64_0, i64_0, i64_0, ⟨i64_0, i64_0, i64_0⟩, rfl, fun x hx => by rw [List.eq_of_mem_replicate hx]; exact i64_0⟩
theorem one_ok (v : Int) (s : St) (hv : i64 v) (hs : s.wf') : (oneV v s).ok := ⟨(show i64 1 from ⟨by decide, by decide⟩), wd_ok _, hv, hv, hv, hs, by simp [oneV], fun x hx => by
  rcases List.mem_or_eq_of_mem_set hx with h | h
  · rw [List.eq_of_mem_replicate h]; exact i64_0
  · rw [h]; exact ⟨by decide, by decide⟩⟩
theorem addL_len {a b : List Int} (ha : a.length = 9) (hb : b.length = 9) : (addL a b).length = 9 := by simp [addL, ha, hb]
theorem addL_wf (a b : List Int) : ∀ x ∈ addL a b, i64 x := by
  intro x hx
  unfold addL at hx
  obtain ⟨i, hi, rfl⟩ := List.getElem_of_mem hx
  rw [List.getElem_zipWith]
  exact i64_wrap64 _
theorem merge_ok {a b : Ag} (ha : a.ok) (hb : b.ok) : (mergeV a b).ok := by
  unfold mergeV
  split
  · exact hb
  · split
    · exact ha
    · obtain ⟨a1, a2, a3, a4, a5, a6, a7, a8⟩ := ha
      obtain ⟨b1, b2, b3, b4, b5, b6, b7, b8⟩ := hb
      refine ⟨i64_wrap64 _, wd_ok _, ?_, ?_, ?_, ?_, addL_len a7 b7, addL_wf _ _⟩
      · show i64 (min a.mn b.mn); unfold i64 at *; omega
      · show i64 (max a.mx b.mx); unfold i64 at *; omega
      · show i64 (if _ then _ else _); split <;> assumption
      · show St.wf' (if _ then _ else _); split <;> assumption
theorem fold_ok (l : List Pt) (h : ∀ p ∈ l, p.wf) : (foldV l).ok := by
  have : ∀ (l : List Pt) (a : Ag), a.ok → (∀ p ∈ l, p.wf) → (l.foldl (fun a p => mergeV a p.one) a).ok := by
    intro l
    induction l with
    | nil => intro a ha _; exact ha
    | cons p r ih => intro a ha hl; exact ih _ (merge_ok ha (one_ok _ _ (hl p (List.mem_cons_self ..)).2.2.1 (hl p (List.mem_cons_self ..)).2.2.2)) (fun q hq => hl q (List.mem_cons_of_mem _ hq))
  exact this l Ag0 Ag0_ok h
theorem fold_take (l : List Pt) (k : Nat) (p : Pt) (h : l[k]? = some p) : foldV (l.take (k + 1)) = mergeV (foldV (l.take k)) p.one := by
  obtain ⟨hk, rfl⟩ := List.getElem?_eq_some_iff.1 h
  unfold foldV
  rw [List.take_succ_eq_append_getElem hk, List.foldl_append]
  rfl
theorem Ag.len {a : Ag} (h : a.ok) : a.cs.length = 18 := by simp [Ag.cs, h.2.2.2.2.2.2.1]
def agL : List Leaf := [.int .i64, .int .i64, .int .u64, .int .i64, .int .i64, .int .i64, .int .i64, .int .i64, .int .i64, .int .i64, .int .i64, .int .i64, .int .i64, .int .i64, .int .i64, .int .i64, .int .i64, .int .i64]
theorem ag_leaves : leaves Try.prog 5 29 = some agL := by kernel_rfl
theorem len9 {l : List Int} (h : l.length = 9) : ∃ x0 x1 x2 x3 x4 x5 x6 x7 x8, l = [x0, x1, x2, x3, x4, x5, x6, x7, x8] := by
  match l, h with
  | [x0, x1, x2, x3, x4, x5, x6, x7, x8], _ => exact ⟨_, _, _, _, _, _, _, _, _, rfl⟩
theorem ag_flat {a : Ag} (h : a.ok) : Flat agL a.cs := by
  obtain ⟨cnt, ⟨hi, lo⟩, mn, mx, last, ⟨c, s, q⟩, bk⟩ := a
  obtain ⟨a1, a2, a3, a4, a5, ⟨a6, a7, a8⟩, a9, a10⟩ := h
  obtain ⟨x0, x1, x2, x3, x4, x5, x6, x7, x8, hx⟩ := len9 a9
  simp only at hx
  subst hx
  have e := fun x hx => wf_i64 (a10 x hx)
  exact ⟨⟨_, rfl, wf_i64 a1⟩, ⟨_, rfl, wf_i64 a2.1⟩, ⟨_, rfl, wf_u64 a2.2⟩, ⟨_, rfl, wf_i64 a3⟩, ⟨_, rfl, wf_i64 a4⟩, ⟨_, rfl, wf_i64 a5⟩, ⟨_, rfl, wf_i64 a6⟩, ⟨_, rfl, wf_i64 a7⟩, ⟨_, rfl, wf_i64 a8⟩,
    ⟨_, rfl, e _ (by simp)⟩, ⟨_, rfl, e _ (by simp)⟩, ⟨_, rfl, e _ (by simp)⟩, ⟨_, rfl, e _ (by simp)⟩, ⟨_, rfl, e _ (by simp)⟩, ⟨_, rfl, e _ (by simp)⟩, ⟨_, rfl, e _ (by simp)⟩, ⟨_, rfl, e _ (by simp)⟩, ⟨_, rfl, e _ (by simp)⟩, trivial⟩
theorem Ag.cs_inj {a b : Ag} (h : a.cs = b.cs) : a = b := by
  obtain ⟨cnt, ⟨hi, lo⟩, mn, mx, last, ⟨c, s, q⟩, bk⟩ := a
  obtain ⟨cnt', ⟨hi', lo'⟩, mn', mx', last', ⟨c', s', q'⟩, bk'⟩ := b
  simp only [Ag.cs, List.cons_append, List.nil_append, List.cons.injEq, Value.int.injEq, true_and] at h
  obtain ⟨rfl, rfl, rfl, rfl, rfl, rfl, rfl, rfl, rfl, h⟩ := h
  have : bk = bk' := by
    have := congrArg (List.map fun v => match v with | Value.int _ n => n | _ => 0) h
    simpa [List.map_map, Function.comp_def] using this
  rw [this]
theorem eq_agg (a b : Ag) (ha : a.ok) (hb : b.ok) (w : World) : (binOp .eql 29 a.val b.val).run Try.prog w = .ok (.bool (decide (a = b))) w ∧ (binOp .neq 29 a.val b.val).run Try.prog w = .ok (.bool (!decide (a = b))) w :=
  eql_flat 5 (by decide) 29 agL ag_leaves (by kernel_rfl) (by kernel_rfl) (by kernel_rfl) a.cs b.cs (ag_flat ha) (ag_flat hb) (a = b) ⟨fun e => by rw [e], Ag.cs_inj⟩ w
/-- The block g is what is known of some points. -/
def AgAt (w : World) (g : Nat) (a : Ag) : Prop := w.heap[g]? = some (.cells a.cs.toArray 29 (0, 0))
theorem AgAt.lt {w : World} {g : Nat} {a : Ag} (h : AgAt w g a) : g < w.heap.size := by
  unfold AgAt at h
  rcases Nat.lt_or_ge g w.heap.size with h' | h'
  · exact h'
  · simp [Array.getElem?_eq_none h'] at h
theorem AgAt.cell {w : World} {g : Nat} {a : Ag} (h : AgAt w g a) (j : Nat) : w.cell? ⟨g, j, none⟩ = a.cs[j]? := by simp [World.cell?, show w.heap[g]? = _ from h]
theorem AgAt.fz {w : World} {g : Nat} {a : Ag} (h : AgAt w g a) (j : Nat) : w.frozen? ⟨g, j, none⟩ = false := by simp [World.frozen?, show w.heap[g]? = _ from h]
theorem AgAt.bk {w : World} {g : Nat} {a : Ag} (h : AgAt w g a) (j : Nat) (hj : j < a.bk.length) : w.cell? ⟨g, 9 + j, none⟩ = some (.int .i64 (a.bk.getD j 0)) := by
  rw [h.cell]
  unfold Ag.cs
  rw [List.getElem?_append_right (by simp)]
  simp [hj]
structure AgC (w : World) (g : Nat) (a : Ag) : Prop where
  c0 : w.cell? ⟨g, 0, none⟩ = some (.int .i64 a.cnt)
  c1 : w.cell? ⟨g, 1, none⟩ = some (.int .i64 a.sum.hi)
  c2 : w.cell? ⟨g, 2, none⟩ = some (.int .u64 a.sum.lo)
  c3 : w.cell? ⟨g, 3, none⟩ = some (.int .i64 a.mn)
  c4 : w.cell? ⟨g, 4, none⟩ = some (.int .i64 a.mx)
  c5 : w.cell? ⟨g, 5, none⟩ = some (.int .i64 a.last)
  c6 : w.cell? ⟨g, 6, none⟩ = some (.int .i64 a.at_.clock)
  c7 : w.cell? ⟨g, 7, none⟩ = some (.int .i64 a.at_.site)
  c8 : w.cell? ⟨g, 8, none⟩ = some (.int .i64 a.at_.seq)
theorem AgAt.c {w : World} {g : Nat} {a : Ag} (h : AgAt w g a) : AgC w g a := ⟨h.cell 0, h.cell 1, h.cell 2, h.cell 3, h.cell 4, h.cell 5, h.cell 6, h.cell 7, h.cell 8⟩
theorem AgAt.new (w : World) (a : Ag) : AgAt (w.alloc (.cells a.cs.toArray 29)) w.heap.size a := heap_alloc_new w _
theorem AgAt.alloc {w : World} {g : Nat} {a : Ag} (h : AgAt w g a) (o : Obj) : AgAt (w.alloc o) g a := (Below.heap_alloc w o g h.lt).trans h
theorem AgAt.below {w w' : World} {g : Nat} {a : Ag} (h : AgAt w g a) (hb : Below w.heap.size w w') : AgAt w' g a := (hb.block g h.lt).trans h
theorem AgAt.far {w : World} {g : Nat} {a : Ag} (h : AgAt w g a) {p : Addr} (hp : g ≠ p.block) (v : Value) : AgAt (w.setCell p v) g a := (Below.heap_setCell w p v g hp).trans h
theorem AgAt.same {w wd : World} {g : Nat} {a : Ag} (h : AgAt w g a) (e : wd.heap = w.heap) : AgAt wd g a := by unfold AgAt; rw [e]; exact h
theorem AgAt.setBk {w : World} {g : Nat} {a : Ag} (h : AgAt w g a) (j : Nat) (v : Int) : AgAt (w.setCell ⟨g, 9 + j, none⟩ (.int .i64 v)) g { a with bk := a.bk.set j v } := by
  unfold AgAt at *
  simp [World.setCell, Array.getElem?_modify, h, Ag.cs, List.map_set, Nat.add_comm 9 j]
end
end Go.Proofs.Ytojnooagifhekaa
namespace Go.Proofs.Ytojnooagifhekaa
section
open Go.RowKit
set_option maxRecDepth 100000
set_option linter.unusedVariables false
set_option linter.unusedSimpArgs false
def zig (n : Int) : Int := if 0 ≤ n then 2 * n else -2 * n - 1
def zag (u : Int) : Int := if u % 2 = 0 then u / 2 else -(u / 2) - 1
theorem zig_range (n : Int) (h0 : -9223372036854775808 ≤ n) (h1 : n ≤ 9223372036854775807) : 0 ≤ zig n ∧ zig n < 18446744073709551616 := by unfold zig; split <;> omega
theorem zag_range (u : Int) (h0 : 0 ≤ u) (h1 : u < 18446744073709551616) : -9223372036854775808 ≤ zag u ∧ zag u ≤ 9223372036854775807 := by unfold zag; split <;> omega
theorem zag_zig (n : Int) : zag (zig n) = n := by unfold zig zag; split <;> split <;> omega
theorem zig_zag (u : Int) (h : 0 ≤ u) : zig (zag u) = u := by unfold zig zag; split <;> split <;> omega
theorem xor_u64_zero (x : Int) (h0 : 0 ≤ x) (h1 : x < 18446744073709551616) : bits .xor .u64 x 0 = x := by
  obtain ⟨a, rfl⟩ := Int.eq_ofNat_of_zero_le h0
  have ha : a < 2 ^ 64 := by omega
  show IntKind.u64.wrap (((BitVec.ofInt 64 (a : Int) ^^^ BitVec.ofInt 64 0 : BitVec 64).toNat : Nat) : Int) = _
  rw [show BitVec.ofInt 64 0 = 0#64 from rfl, BitVec.xor_zero, BitVec.ofInt_natCast, BitVec.toNat_ofNat, Nat.mod_eq_of_lt ha]
  exact wraps_u64 _ (by omega) (by omega)
theorem xor_u64_ones (x : Int) (h0 : 0 ≤ x) (h1 : x < 18446744073709551616) : bits .xor .u64 x 18446744073709551615 = 18446744073709551615 - x := by
  obtain ⟨a, rfl⟩ := Int.eq_ofNat_of_zero_le h0
  have ha : a < 2 ^ 64 := by omega
  show IntKind.u64.wrap (((BitVec.ofInt 64 (a : Int) ^^^ BitVec.ofInt 64 18446744073709551615 : BitVec 64).toNat : Nat) : Int) = _
  rw [show BitVec.ofInt 64 18446744073709551615 = BitVec.allOnes 64 from by decide, BitVec.xor_allOnes, BitVec.toNat_not, BitVec.ofInt_natCast, BitVec.toNat_ofNat, Nat.mod_eq_of_lt ha]
  rw [wraps_u64 _ (by omega) (by omega)]
  omega
theorem xor_i64_zero (x : Int) (h0 : 0 ≤ x) (h1 : x < 9223372036854775808) : bits .xor .i64 x 0 = x := by
  obtain ⟨a, rfl⟩ := Int.eq_ofNat_of_zero_le h0
  have ha : a < 2 ^ 64 := by omega
  show IntKind.i64.wrap (((BitVec.ofInt 64 (a : Int) ^^^ BitVec.ofInt 64 0 : BitVec 64).toNat : Nat) : Int) = _
  rw [show BitVec.ofInt 64 0 = 0#64 from rfl, BitVec.xor_zero, BitVec.ofInt_natCast, BitVec.toNat_ofNat, Nat.mod_eq_of_lt ha, IntKind.wrap_i64]
  omega
theorem xor_i64_ones (x : Int) (h0 : 0 ≤ x) (h1 : x < 9223372036854775808) : bits .xor .i64 x (-1) = -x - 1 := by
  obtain ⟨a, rfl⟩ := Int.eq_ofNat_of_zero_le h0
  have ha : a < 2 ^ 64 := by omega
  show IntKind.i64.wrap (((BitVec.ofInt 64 (a : Int) ^^^ BitVec.ofInt 64 (-1) : BitVec 64).toNat : Nat) : Int) = _
  rw [show BitVec.ofInt 64 (-1) = BitVec.allOnes 64 from by decide, BitVec.xor_allOnes, BitVec.toNat_not, BitVec.ofInt_natCast, BitVec.toNat_ofNat, Nat.mod_eq_of_lt ha, IntKind.wrap_i64]
  omega
theorem and_u64_one (x : Int) (h0 : 0 ≤ x) (h1 : x < 18446744073709551616) : bits .and .u64 x 1 = x % 2 := bits_mask .u64 64 (by decide) wraps_u64 1 (by decide) x h0 (by omega)
theorem ret_num {k : IntKind} {a b : Int} (h : a = b) : Ending.returned (.int k a) = .returned (.int k b) := by rw [h]
theorem zig_any (n : Int) (w : World) (h0 : -9223372036854775808 ≤ n) (h1 : n ≤ 9223372036854775807) :
    Calls Try.prog 83 #[.int .i64 n] w fun e w' => e = .returned (.int .u64 (zig n)) ∧ w = w' := by
  go_enter Try.func83, Try.ntmps83
  go_wp2
  go_ret
  refine ⟨ret_num ?_, rfl⟩
  unfold zig
  split
  · rw [show n / 9223372036854775808 = 0 by omega, wrap_u64, wrap_u64, wrap_u64, show (0 : Int) % 18446744073709551616 = 0 from rfl, xor_u64_zero _ (by omega) (by omega)]
    omega
  · rw [show n / 9223372036854775808 = -1 by omega, wrap_u64, wrap_u64, wrap_u64, show (-1 : Int) % 18446744073709551616 = 18446744073709551615 from rfl, xor_u64_ones _ (by omega) (by omega)]
    omega
theorem zag_any (u : Int) (w : World) (h0 : 0 ≤ u) (h1 : u < 18446744073709551616) :
    Calls Try.prog 79 #[.int .u64 u] w fun e w' => e = .returned (.int .i64 (zag u)) ∧ w = w' := by
  go_enter Try.func79, Try.ntmps79
  go_wp2
  go_ret
  refine ⟨ret_num ?_, rfl⟩
  rw [and_u64_one u h0 h1]
  unfold zag
  split
  · rename_i h
    rw [h, show wrap64 (-wrap64 0) = 0 from by unfold wrap64; omega, xor_i64_zero _ (by omega) (by omega)]
  · rename_i h
    rw [show u % 2 = 1 by omega, show wrap64 (-wrap64 1) = -1 from by unfold wrap64; omega, xor_i64_ones _ (by omega) (by omega)]
theorem rzig_any (n : Int) (w : World) (h0 : -9223372036854775808 ≤ n) (h1 : n ≤ 9223372036854775807) :
    Calls Try.prog 85 #[.int .i64 n] w fun e w' => e = .returned (.int .u64 (zig n)) ∧ w = w' := by
  go_enter Try.func85, Try.ntmps85
  go_wp2
  all_goals
    go_ret
    refine ⟨ret_num ?_, rfl⟩
    first
      | (unfold zig; rw [if_pos (by assumption)])
      | (unfold zig; rw [if_neg (by omega)]; omega)
theorem rzag_any (u : Int) (w : World) (h0 : 0 ≤ u) (h1 : u < 18446744073709551616) :
    Calls Try.prog 81 #[.int .u64 u] w fun e w' => e = .returned (.int .i64 (zag u)) ∧ w = w' := by
  go_enter Try.func81, Try.ntmps81
  go_wp2
  all_goals
    go_ret
    refine ⟨ret_num ?_, rfl⟩
    first
      | (unfold zag; rw [if_pos (by simpa using ‹(u % 2 == 0) = true›)])
      | (unfold zag; rw [if_neg (by simpa using ‹(u % 2 == 0) = false›)])
theorem extract_all (s : ByteArray) (n : Nat) (h : s.size ≤ n) : s.extract 0 n = s := by
  apply ByteArray.ext
  rw [ByteArray.data_extract]
  have : s.data.size ≤ n := h
  exact Array.extract_eq_self_of_le this
end
end Go.Proofs.Ytojnooagifhekaa
