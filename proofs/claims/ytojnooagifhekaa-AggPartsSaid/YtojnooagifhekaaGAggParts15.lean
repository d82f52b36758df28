/- Plain law: which texts are numbers, and which number a text is. wide.Parse. -/
import Derived.Test.YtojnooagifhekaaGAggParts1
import Derived.Test.YtojnooagifhekaaGAggParts14
import Derived.Test.YtojnooagifhekaaGAggParts3
import Derived.RegionTactic
import Derived.Deep.RegionWith
namespace Go.Proofs.Ytojnooagifhekaa
section
set_option maxRecDepth 100000
set_option linter.unusedVariables false
set_option linter.unusedSimpArgs false
/-- A text's bytes as numbers. -/
def bl (s : ByteArray) : List Int := s.data.toList.map fun b => (b.toNat : Int)
theorem bl_length (s : ByteArray) : (bl s).length = s.size := by simp [bl]
theorem bl_get (s : ByteArray) (i : Nat) (h : i < s.size) : (bl s).getD i 0 = ((s[i]'h).toNat : Int) := by
  have : i < s.data.size := h
  simp only [bl, List.getD_eq_getElem?_getD, List.getElem?_map, Array.getElem?_toList]
  rw [Array.getElem?_eq_getElem this]
  rfl
theorem bl_inj {s t : ByteArray} (h : bl s = bl t) : s = t := by
  apply ByteArray.ext
  apply Array.ext'
  unfold bl at h
  have : Function.Injective fun b : UInt8 => (b.toNat : Int) := fun a b e => by
    have e : (a.toNat : Int) = (b.toNat : Int) := e
    exact UInt8.toNat_inj.1 (by omega)
  exact (List.map_inj_right (fun a b e => this e)).1 h
theorem bl_strOfNums (l : List Int) (h : ∀ x ∈ l, 0 ≤ x ∧ x < 256) : bl (strOfNums l) = l := by
  unfold bl strOfNums
  simp only [List.map_map]
  conv => rhs; rw [← List.map_id l]
  apply List.map_congr_left
  intro x hx
  obtain ⟨h0, h1⟩ := h x hx
  simp
  omega
/-- No zero ahead. -/
def noZero (t : List Int) : Prop := t ≠ [] ∧ (t.getD 0 0 ≠ 48 ∨ t.length = 1)
theorem isND_val (t : List Int) (hd : ∀ d ∈ t, isDig d) (hz : noZero t) : isND (valD t) t.length := by
  obtain ⟨h1, h2⟩ := hz
  obtain ⟨r1, r2⟩ := valD_range t hd
  have hl : 1 ≤ t.length := List.length_pos_iff.2 h1
  refine ⟨hl, r2, ?_⟩
  rcases h2 with h2 | h2
  · right
    match t, h1 with
    | d :: l, _ =>
      obtain ⟨k1, k2⟩ := hd d (by simp)
      simp only [List.getD_cons_zero] at h2
      obtain ⟨q1, q2⟩ := valD_range l fun x hx => hd x (by simp [hx])
      rw [valD_cons, List.length_cons, Nat.add_sub_cancel]
      have hp := p10_pos l.length
      have : 1 * 10 ^ l.length ≤ (d - 48) * 10 ^ l.length := Int.mul_le_mul_of_nonneg_right (by omega) (by omega)
      omega
  · exact .inl h2
theorem p39 : (10 : Int) ^ 39 = 1000000000000000000000000000000000000000 := by decide +kernel
theorem val_39 (t : List Int) (hd : ∀ d ∈ t, isDig d) (hl : t.length ≤ 39) : 0 ≤ valD t ∧ valD t < 1000000000000000000000000000000000000000 := by
  obtain ⟨r1, r2⟩ := valD_range t hd
  have := p10_mono hl
  rw [p39] at this
  omega
theorem numD_val (t : List Int) (hd : ∀ d ∈ t, isDig d) (hz : noZero t) (hl : t.length ≤ 39) : numD (valD t) = t := by
  obtain ⟨r1, r2⟩ := val_39 t hd hl
  rw [numD_of r1 r2 (isND_val t hd hz)]
  exact low_val t hd
theorem numD_dig (n : Int) : ∀ d ∈ numD n, isDig d := lowD_dig _ _
theorem valD_num (n : Int) (h0 : 0 ≤ n) (h : n < 1000000000000000000000000000000000000000) : valD (numD n) = n := by
  unfold numD
  rw [valD_low]
  exact Int.emod_eq_of_lt h0 (nd_39 n h0 h).1.2.1
theorem numD_len (n : Int) (h0 : 0 ≤ n) (h : n < 1000000000000000000000000000000000000000) : 1 ≤ (numD n).length ∧ (numD n).length ≤ 39 := by
  unfold numD
  rw [lowD_length]
  exact ⟨(nd_39 n h0 h).1.1, (nd_39 n h0 h).2⟩
theorem numD_ne (n : Int) (h0 : 0 ≤ n) (h : n < 1000000000000000000000000000000000000000) : numD n ≠ [] := by
  intro e
  have := (numD_len n h0 h).1
  rw [e] at this
  simp at this
theorem numD_noZero (n : Int) (h0 : 0 ≤ n) (h : n < 1000000000000000000000000000000000000000) : noZero (numD n) := by
  refine ⟨numD_ne n h0 h, ?_⟩
  obtain ⟨⟨i1, i2, i3⟩, i4⟩ := nd_39 n h0 h
  unfold numD
  rcases i3 with i3 | i3
  · right; rw [i3, lowD_length]
  · left
    generalize nd 38 n = k at *
    match k, i1 with
    | k + 1, _ =>
      simp only [lowD, List.getD_cons_zero]
      simp only [Nat.add_sub_cancel] at i3
      rw [p10_succ] at i2
      have hp := p10_pos k
      have h1 : 1 ≤ n / 10 ^ k := (Int.le_ediv_iff_mul_le hp).2 (by omega)
      have h2 : n / 10 ^ k < 10 := (Int.ediv_lt_iff_lt_mul hp).2 (by rw [Int.mul_comm]; exact i2)
      omega
theorem textL_bytes (v : Int) : ∀ x ∈ textL v, 0 ≤ x ∧ x < 256 := by
  intro x hx
  unfold textL at hx
  split at hx
  · rcases List.mem_cons.1 hx with rfl | hx
    · exact ⟨by decide, by decide⟩
    · have := numD_dig _ x hx; unfold isDig at this; omega
  · have := numD_dig _ x hx; unfold isDig at this; omega
theorem bl_textW (v : Int) : bl (textW v) = textL v := bl_strOfNums _ (textL_bytes v)
def inR (v : Int) : Prop := -1000000000000000000000000000000000000000 < v ∧ v < 1000000000000000000000000000000000000000
theorem textL_inj {a b : Int} (ha : inR a) (hb : inR b) (h : textL a = textL b) : a = b := by
  obtain ⟨ha1, ha2⟩ := ha
  obtain ⟨hb1, hb2⟩ := hb
  have key : ∀ n m : Int, 0 ≤ n → n < 1000000000000000000000000000000000000000 → numD n = 45 :: m :: [] → False := by
    intro n m h0 h1 e
    have := numD_dig n 45 (by rw [e]; simp)
    unfold isDig at this
    omega
  have key2 : ∀ (n : Int) (l : List Int), 0 ≤ n → n < 1000000000000000000000000000000000000000 → numD n = 45 :: l → False := by
    intro n l h0 h1 e
    have := numD_dig n 45 (by rw [e]; simp)
    unfold isDig at this
    omega
  unfold textL at h
  by_cases ca : a < 0 <;> by_cases cb : b < 0
  · rw [if_pos ca, if_pos cb] at h
    have h : numD (-a) = numD (-b) := by injection h
    have := congrArg valD h
    rw [valD_num _ (by omega) (by omega), valD_num _ (by omega) (by omega)] at this
    omega
  · rw [if_pos ca, if_neg cb] at h
    exact (key2 b _ (by omega) hb2 h.symm).elim
  · rw [if_neg ca, if_pos cb] at h
    exact (key2 a _ (by omega) ha2 h).elim
  · rw [if_neg ca, if_neg cb] at h
    have := congrArg valD h
    rw [valD_num _ (by omega) (by omega), valD_num _ (by omega) (by omega)] at this
    exact this
theorem textW_inj {a b : Int} (ha : inR a) (hb : inR b) (h : textW a = textW b) : a = b := textL_inj ha hb (by rw [← bl_textW, h, bl_textW])
/-- What Parse answers: the sign and the digits being cut apart. -/
def isNeg (b : List Int) : Bool := b.getD 0 0 == 45
def digsOf (b : List Int) : List Int := if isNeg b = true then b.drop 1 else b
def valOf (b : List Int) : Int := if isNeg b = true then -valD (digsOf b) else valD (digsOf b)
def badForm (b : List Int) : Prop := digsOf b = [] ∨ (digsOf b).getD 0 0 = 48 ∧ 1 < b.length
instance (d : Int) : Decidable (isDig d) := by unfold isDig; infer_instance
instance (b : List Int) : Decidable (badForm b) := by unfold badForm; infer_instance
def fits (v : Int) : Prop := -170141183460469231731687303715884105728 ≤ v ∧ v ≤ 170141183460469231731687303715884105727
instance (v : Int) : Decidable (fits v) := by unfold fits; infer_instance
def parseL (b : List Int) : Wd × Int :=
  if badForm b then (⟨0, 0⟩, 10) else
  if ¬ (∀ d ∈ digsOf b, isDig d) then (⟨0, 0⟩, 10) else
  if 39 < (digsOf b).length then (⟨0, 0⟩, 11) else
  if fits (valOf b) then (wd (valOf b), 0) else (⟨0, 0⟩, 11)
theorem noZero_of {b : List Int} (h : ¬ badForm b) : noZero (digsOf b) := by
  unfold badForm at h
  refine ⟨fun e => h (.inl e), ?_⟩
  by_cases h48 : (digsOf b).getD 0 0 = 48
  · right
    have h1 : ¬ 1 < b.length := fun h1 => h (.inr ⟨h48, h1⟩)
    have h2 : digsOf b ≠ [] := fun e => h (.inl e)
    have h3 : (digsOf b).length ≤ b.length := by unfold digsOf; split <;> simp
    have h4 : 1 ≤ (digsOf b).length := List.length_pos_iff.2 h2
    omega
  · exact .inl h48
theorem text_valOf {b : List Int} (h1 : ¬ badForm b) (h2 : ∀ d ∈ digsOf b, isDig d) (h3 : (digsOf b).length ≤ 39) : textL (valOf b) = b := by
  have hz := noZero_of h1
  have hn := numD_val _ h2 hz h3
  obtain ⟨r1, r2⟩ := val_39 _ h2 h3
  have i := isND_val _ h2 hz
  unfold valOf textL
  by_cases hneg : isNeg b = true
  · rw [if_pos hneg]
    have hb : b = 45 :: digsOf b := by
      unfold digsOf
      rw [if_pos hneg]
      unfold isNeg at hneg
      match b with
      | [] => simp at hneg
      | x :: l => simp at hneg; simp [hneg]
    have hpos : 0 < valD (digsOf b) := by
      rcases i.2.2 with h | h
      · rcases Int.lt_or_le 0 (valD (digsOf b)) with h0 | h0
        · exact h0
        · exfalso
          have e : valD (digsOf b) = 0 := by omega
          apply h1
          right
          rw [← hn, e]
          refine ⟨by decide +kernel, ?_⟩
          rw [hb]
          simp only [List.length_cons]
          omega
      · have := p10_pos ((digsOf b).length - 1); omega
    rw [if_pos (by omega), Int.neg_neg, hn]
    exact hb.symm
  · rw [if_neg hneg, if_neg (by omega), hn]
    unfold digsOf
    rw [if_neg hneg]
theorem inR_valOf {b : List Int} (h2 : ∀ d ∈ digsOf b, isDig d) (h3 : (digsOf b).length ≤ 39) : inR (valOf b) := by
  obtain ⟨r1, r2⟩ := val_39 _ h2 h3
  unfold inR valOf
  split <;> omega
theorem inR_fits {v : Int} (h : fits v) : inR v := by unfold fits at h; unfold inR; omega
/-- The number read is written again as the text just where it fits. -/
theorem parse_last {b : List Int} (h1 : ¬ badForm b) (h2 : ∀ d ∈ digsOf b, isDig d) (h3 : (digsOf b).length ≤ 39) (s : ByteArray) (hs : bl s = b) :
    (textW (wd (valOf b)).v = s) ↔ fits (valOf b) := by
  have ht := text_valOf h1 h2 h3
  constructor
  · intro e
    have e2 : textL (wd (valOf b)).v = textL (valOf b) := by
      have k := congrArg bl e
      rw [bl_textW, hs] at k
      rw [ht]
      exact k
    have hv := v_range _ (wd_ok (valOf b))
    have := textL_inj (inR_fits hv) (inR_valOf h2 h3) e2
    rw [this] at hv
    exact hv
  · intro hf
    apply bl_inj
    rw [bl_textW, hs, v_wd _ hf.1 hf.2, ht]
end
end Go.Proofs.Ytojnooagifhekaa
namespace Go.Proofs.Ytojnooagifhekaa
section
open Go.RowKit
set_option maxRecDepth 100000
set_option linter.unusedVariables false
set_option linter.unusedSimpArgs false
/-- The block g is a number of 128 bits. -/
def WdAt (w : World) (g : Nat) (a : Wd) : Prop := w.heap[g]? = some (.cells #[.int .i64 a.hi, .int .u64 a.lo] 24 (0, 0))
theorem WdAt.lt {w : World} {g : Nat} {a : Wd} (h : WdAt w g a) : g < w.heap.size := by
  unfold WdAt at h
  rcases Nat.lt_or_ge g w.heap.size with h' | h'
  · exact h'
  · simp [Array.getElem?_eq_none h'] at h
theorem WdAt.c0 {w : World} {g : Nat} {a : Wd} (h : WdAt w g a) : w.cell? ⟨g, 0, none⟩ = some (.int .i64 a.hi) := by simp [World.cell?, show w.heap[g]? = _ from h]
theorem WdAt.c1 {w : World} {g : Nat} {a : Wd} (h : WdAt w g a) : w.cell? ⟨g, 1, none⟩ = some (.int .u64 a.lo) := by simp [World.cell?, show w.heap[g]? = _ from h]
theorem WdAt.fz {w : World} {g : Nat} {a : Wd} (h : WdAt w g a) (j : Nat) : w.frozen? ⟨g, j, none⟩ = false := by simp [World.frozen?, show w.heap[g]? = _ from h]
theorem WdAt.set {w : World} {g : Nat} {a : Wd} (h : WdAt w g a) (b : Wd) : WdAt ((w.setCell ⟨g, 0, none⟩ (.int .i64 b.hi)).setCell ⟨g, 1, none⟩ (.int .u64 b.lo)) g b := by
  unfold WdAt at *
  simp [World.setCell, Array.getElem?_modify, h]
theorem WdAt.far {w : World} {g : Nat} {a : Wd} (h : WdAt w g a) {p : Addr} (hp : g ≠ p.block) (v : Value) : WdAt (w.setCell p v) g a := (Below.heap_setCell w p v g hp).trans h
theorem WdAt.below {w w' : World} {g : Nat} {a : Wd} (h : WdAt w g a) (hb : Below w.heap.size w w') : WdAt w' g a := (hb.block g h.lt).trans h
theorem WdAt.alloc {w : World} {g : Nat} {a : Wd} (h : WdAt w g a) (o : Obj) : WdAt (w.alloc o) g a := (Below.heap_alloc w o g h.lt).trans h
theorem WdAt.new (w : World) (a : Wd) : WdAt (w.alloc (.cells #[.int .i64 a.hi, .int .u64 a.lo] 24)) w.heap.size a := heap_alloc_new w _
/-- While the digits are read: the number at ga, the result's place at g2. -/
structure PInv (w : World) (ga g2 : Nat) (A : Wd) (wx : World) : Prop where
  a : WdAt wx ga A
  r : WdAt wx g2 ⟨0, 0⟩
  b : Below w.heap.size w wx
theorem PInv.below {w wx w' : World} {ga g2 : Nat} {A : Wd} (h : PInv w ga g2 A wx) (d : Below wx.heap.size wx w') : PInv w ga g2 A w' := ⟨h.a.below d, h.r.below d, below_th h.b d⟩
theorem PInv.later {w wx wd' w' : World} {ga g2 : Nat} {A : Wd} (h : PInv w ga g2 A wx) (d : Below wd'.heap.size wd' w') (e1 : wd'.heap = wx.heap) (e2 : wd'.os = wx.os) (e3 : wd'.tape = wx.tape) (e4 : wd'.output = wx.output) : PInv w ga g2 A w' :=
  PInv.below (wx := wd') ⟨by unfold WdAt; rw [e1]; exact h.a, by unfold WdAt; rw [e1]; exact h.r, ⟨e2.trans h.b.os, e3.trans h.b.tape, e4.trans h.b.output, by rw [e1]; exact h.b.size, fun k hk => by rw [e1]; exact h.b.block k hk⟩⟩ d
theorem PInv.set {w wx : World} {ga g2 : Nat} {A : Wd} (h : PInv w ga g2 A wx) (hne : g2 ≠ ga) (hga : w.heap.size ≤ ga) (B : Wd) : PInv w ga g2 B ((wx.setCell ⟨ga, 0, none⟩ (.int .i64 B.hi)).setCell ⟨ga, 1, none⟩ (.int .u64 B.lo)) :=
  ⟨h.a.set B, (h.r.far hne _).far hne _, below_st (below_st h.b hga _) hga _⟩
theorem take_snoc_getDW (xs : List Int) (k : Nat) (h : k < xs.length) : xs.take (k + 1) = xs.take k ++ [xs.getD k 0] := by
  rw [List.take_succ_eq_append_getElem h]; simp [List.getD_eq_getElem?_getD, h]
theorem bl_extract1 (s : ByteArray) : bl (s.extract 1 s.size) = (bl s).drop 1 := by
  unfold bl
  rw [← List.map_drop]
  congr 1
  rw [ByteArray.data_extract, Array.toList_extract, List.extract_eq_take_drop]
  rw [List.take_of_length_le (by simp)]
theorem toList_nil (s : ByteArray) (h : s.size = 0) : s.toList = [] := by
  rw [ByteArray.toList_eq]
  exact List.eq_nil_of_length_eq_zero (by simpa using h)
theorem toList_some (s : ByteArray) (h : 0 < s.size) : ¬ s.toList = [] ∧ (!s.toList.isEmpty) = true ∧ s.toList.isEmpty = false := by
  have h1 : ¬ s.toList = [] := by
    rw [ByteArray.toList_eq]
    intro e
    have h2 : s.data.toList.length = s.size := by simp
    rw [e] at h2
    simp at h2
    omega
  refine ⟨h1, ?_, ?_⟩ <;> simp [h1]
theorem bl_digit (t : ByteArray) (i : Nat) (h : i < t.size) : 0 ≤ ((t[i]'h).toNat : Int) ∧ ((t[i]'h).toNat : Int) < 256 := by
  have := (t[i]'h).toNat_lt
  omega
theorem head_isNeg (s : ByteArray) (h : 0 < s.size) : isNeg (bl s) = (((s[0]'h).toNat : Int) == 45) := by
  unfold isNeg
  rw [bl_get s 0 h]
end
end Go.Proofs.Ytojnooagifhekaa
