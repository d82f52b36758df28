/- Plain law: a row of numbers and texts is read as it was put, and cut short anywhere it is not whole. -/
import Derived.Test.YtgkidcpcgceabaaRdr2
import Derived.Test.YtgkidcpcgceabaaVtext
namespace Go.Proofs.Ytgkidcpcgceabaa
open Go.RowKit
set_option linter.unusedVariables false
set_option linter.unusedSimpArgs false
def rowB (xs : List Int) (ts : List ByteArray) : Nat → ByteArray
  | 0 => ⟨#[]⟩
  | k + 1 => rowB xs ts k ++ vput (zig (xs.getD k 0)) ++ vtext ((ts.getD k ⟨#[]⟩).extract 0 60)
theorem vtext_size (t : ByteArray) : (vtext t).size = (vput (t.size : Int)).size + t.size := by simp [vtext, ByteArray.size_append]
theorem rowB_size (xs : List Int) (ts : List ByteArray) (k : Nat) : (rowB xs ts k).size ≤ 80 * k := by
  induction k with
  | zero => simp [rowB, ByteArray.size]
  | succ k ih =>
    have h1 := vput_le (zig (xs.getD k 0))
    have h2 := vput_le ((((ts.getD k ⟨#[]⟩).extract 0 60).size : Nat) : Int)
    have h3 : ((ts.getD k ⟨#[]⟩).extract 0 60).size ≤ 60 := by rw [ByteArray.size_extract]; omega
    simp only [rowB, ByteArray.size_append, vtext_size]
    omega
theorem ba_assoc (a b c : ByteArray) : a ++ b ++ c = a ++ (b ++ c) := by
  apply ByteArray.ext; simp [ByteArray.data_append]
theorem rowB_split (xs : List Int) (ts : List ByteArray) (k n : Nat) (h : k ≤ n) : ∃ C, rowB xs ts n = rowB xs ts k ++ C := by
  induction n with
  | zero =>
    have : k = 0 := by omega
    subst this
    exact ⟨⟨#[]⟩, (append_empty_r _).symm⟩
  | succ n ih =>
    rcases Nat.lt_or_ge n k with h1 | h1
    · have : k = n + 1 := by omega
      subst this
      exact ⟨⟨#[]⟩, (append_empty_r _).symm⟩
    · obtain ⟨C, hC⟩ := ih h1
      refine ⟨C ++ (vput (zig (xs.getD n 0)) ++ vtext ((ts.getD n ⟨#[]⟩).extract 0 60)), ?_⟩
      rw [rowB, hC, ba_assoc, ba_assoc]
theorem extract_mid (a b c : ByteArray) : (a ++ b ++ c).extract a.size (a.size + b.size) = b := by
  apply ByteArray.ext
  apply Array.ext'
  rw [ByteArray.data_extract, ByteArray.data_append, ByteArray.data_append]
  have h1 : a.data.toList.length = a.size := by simp
  have h2 : b.data.toList.length = b.size := by simp
  simp only [Array.toList_extract, Array.toList_append, List.extract_eq_take_drop, List.append_assoc]
  rw [List.drop_left' h1, Nat.add_sub_cancel_left, List.take_left' h2]
/-- A number where it stands. -/
theorem num_at (A C : ByteArray) (n : Int) (h0 : 0 ≤ n) (h1 : n < 18446744073709551616) :
    (⟨A ++ vput n ++ C, A.size, false⟩ : Rdr).num = (n, ⟨A ++ vput n ++ C, (A.size : Int) + ((vput n).size : Nat), false⟩) := by
  unfold Rdr.num
  simp only
  rw [if_neg (by decide), vget_put A C n h0 h1]
  simp
theorem int_at (A C : ByteArray) (x : Int) (h0 : -9223372036854775808 ≤ x) (h1 : x ≤ 9223372036854775807) :
    (⟨A ++ vput (zig x) ++ C, A.size, false⟩ : Rdr).int = (x, ⟨A ++ vput (zig x) ++ C, (A.size : Int) + ((vput (zig x)).size : Nat), false⟩) := by
  unfold Rdr.int
  rw [num_at A C _ (zig_range x h0 h1).1 (zig_range x h0 h1).2]
  simp only [zag_zig]
theorem text_at (A C t : ByteArray) (ht : t.size ≤ 1000000000) :
    (⟨A ++ vtext t ++ C, A.size, false⟩ : Rdr).text = (t, ⟨A ++ vtext t ++ C, (A.size : Int) + ((vtext t).size : Nat), false⟩) := by
  have hn : (⟨A ++ vtext t ++ C, A.size, false⟩ : Rdr).num = ((t.size : Int), ⟨A ++ vtext t ++ C, (A.size : Int) + ((vput (t.size : Int)).size : Nat), false⟩) := by
    have h := num_at A (t ++ C) (t.size : Int) (by omega) (by omega)
    have e : A ++ vput (t.size : Int) ++ (t ++ C) = A ++ vtext t ++ C := by unfold vtext; rw [ba_assoc, ba_assoc, ba_assoc]
    rw [e] at h
    exact h
  unfold Rdr.text
  rw [hn]
  simp only
  have hs : (A ++ vtext t ++ C).size = A.size + ((vput (t.size : Int)).size + t.size) + C.size := by simp only [ByteArray.size_append, vtext_size]
  rw [if_neg (by
    unfold Rdr.left
    simp only [hs]
    simp
    omega)]
  have e2 : (A ++ vtext t ++ C).extract ((A.size : Int) + ((vput (t.size : Int)).size : Nat)).toNat ((A.size : Int) + ((vput (t.size : Int)).size : Nat) + (t.size : Int)).toNat = t := by
    have h := extract_mid (A ++ vput (t.size : Int)) t C
    have e : A ++ vput (t.size : Int) ++ t ++ C = A ++ vtext t ++ C := by unfold vtext; rw [ba_assoc, ba_assoc, ba_assoc, ba_assoc]
    rw [e, ByteArray.size_append] at h
    rw [show ((A.size : Int) + ((vput (t.size : Int)).size : Nat)).toNat = A.size + (vput (t.size : Int)).size by omega, show ((A.size : Int) + ((vput (t.size : Int)).size : Nat) + (t.size : Int)).toNat = A.size + (vput (t.size : Int)).size + t.size by omega]
    exact h
  rw [e2, vtext_size]
  simp only [Prod.mk.injEq, Rdr.mk.injEq, true_and, and_true]
  omega
/-- Pair k of a row. -/
theorem row_pair (xs : List Int) (ts : List ByteArray) (k n : Nat) (h : k < n) (hx : -9223372036854775808 ≤ xs.getD k 0 ∧ xs.getD k 0 ≤ 9223372036854775807) :
    (⟨rowB xs ts n, (rowB xs ts k).size, false⟩ : Rdr).int = (xs.getD k 0, ⟨rowB xs ts n, ((rowB xs ts k).size : Int) + ((vput (zig (xs.getD k 0))).size : Nat), false⟩) ∧
    (⟨rowB xs ts n, ((rowB xs ts k).size : Int) + ((vput (zig (xs.getD k 0))).size : Nat), false⟩ : Rdr).text = ((ts.getD k ⟨#[]⟩).extract 0 60, ⟨rowB xs ts n, ((rowB xs ts (k + 1)).size : Nat), false⟩) := by
  obtain ⟨C, hC⟩ := rowB_split xs ts (k + 1) n h
  have hz : ((ts.getD k ⟨#[]⟩).extract 0 60).size ≤ 1000000000 := by rw [ByteArray.size_extract]; omega
  constructor
  · have h1 := int_at (rowB xs ts k) (vtext ((ts.getD k ⟨#[]⟩).extract 0 60) ++ C) (xs.getD k 0) hx.1 hx.2
    have e : rowB xs ts k ++ vput (zig (xs.getD k 0)) ++ (vtext ((ts.getD k ⟨#[]⟩).extract 0 60) ++ C) = rowB xs ts n := by rw [hC, rowB, ba_assoc, ba_assoc, ba_assoc]
    rw [e] at h1
    exact h1
  · have h1 := text_at (rowB xs ts k ++ vput (zig (xs.getD k 0))) C ((ts.getD k ⟨#[]⟩).extract 0 60) hz
    have e : rowB xs ts k ++ vput (zig (xs.getD k 0)) ++ vtext ((ts.getD k ⟨#[]⟩).extract 0 60) ++ C = rowB xs ts n := by rw [hC, rowB]
    rw [e, ByteArray.size_append] at h1
    have e2 : ((rowB xs ts k).size : Int) + ((vput (zig (xs.getD k 0))).size : Nat) = (((rowB xs ts k).size + (vput (zig (xs.getD k 0))).size : Nat) : Int) := by omega
    rw [e2, h1]
    simp only [rowB, ByteArray.size_append, Prod.mk.injEq, Rdr.mk.injEq, true_and, and_true]
    omega
/-- What is read of a piece is read of the whole. -/
theorem vget_prefix (S : ByteArray) (q : Nat) (p v nx : Int) (h : vget (S.extract 0 q) p = (v, nx, 0)) : vget S p = (v, nx, 0) := by
  unfold vget at h
  split at h
  · simp at h
  · rename_i h1
    have hsz : (S.extract 0 q).size = min q S.size := by rw [ByteArray.size_extract]; omega
    split at h
    · simp at h
    · rename_i x hx
      obtain ⟨_, _, _, _, _, h6⟩ := getL_some 10 _ x.1 x.2 hx
      have hd : ∃ r, S.data.toList.drop p.toNat = (((S.extract 0 q).data.toList.drop p.toNat).take x.2) ++ r := by
        have e : (S.extract 0 q).data.toList = S.data.toList.take q := by simp [ByteArray.data_extract, List.extract_eq_take_drop]
        refine ⟨(S.data.toList.drop p.toNat).drop x.2, ?_⟩
        obtain ⟨_, _, h3, _, _, _⟩ := getL_some 10 _ x.1 x.2 hx
        have : ((S.extract 0 q).data.toList.drop p.toNat).take x.2 = (S.data.toList.drop p.toNat).take x.2 := by
          rw [e] at h3 ⊢
          rw [List.drop_take, List.take_take]
          congr 1
          rw [List.drop_take, List.length_take] at h3
          omega
        rw [this, List.take_append_drop]
      obtain ⟨r, hr⟩ := hd
      have hg : getL 10 (S.data.toList.drop p.toNat) = some x := by rw [hr]; exact h6 r
      unfold vget
      rw [if_neg (by omega), hg]
      exact h
theorem bad_num {r : Rdr} (h : r.bad = true) : r.num = (0, r) := by unfold Rdr.num; rw [if_pos h]
theorem bad_int {r : Rdr} (h : r.bad = true) : r.int.2.bad = true := by unfold Rdr.int; rw [bad_num h]; exact h
theorem bad_text {r : Rdr} (h : r.bad = true) : r.text.2.bad = true := by
  unfold Rdr.text
  rw [bad_num h]
  rw [if_pos (.inl h)]
theorem num_nb (S : ByteArray) (p : Int) : (⟨S, p, false⟩ : Rdr).num = if (vget S p).2.2 = 0 then ((vget S p).1, ⟨S, (vget S p).2.1, false⟩) else (0, ⟨S, p, true⟩) := rfl
/-- A number of a piece: the whole's, or the reader breaks. -/
theorem num_prefix (S : ByteArray) (q : Nat) (p : Int) : (⟨S.extract 0 q, p, false⟩ : Rdr).num.2.bad = true ∨
    ((⟨S.extract 0 q, p, false⟩ : Rdr).num.1 = (⟨S, p, false⟩ : Rdr).num.1 ∧ (⟨S.extract 0 q, p, false⟩ : Rdr).num.2 = ⟨S.extract 0 q, (⟨S, p, false⟩ : Rdr).num.2.pos, false⟩ ∧ (⟨S, p, false⟩ : Rdr).num.2.bad = false) := by
  have hp := vget_prefix S q p
  rw [num_nb, num_nb]
  generalize hx : vget (S.extract 0 q) p = x at *
  obtain ⟨v, nx, e⟩ := x
  by_cases he : e = 0
  · subst he
    right
    rw [hp v nx rfl]
    exact ⟨rfl, rfl, rfl⟩
  · left
    rw [if_neg (show ¬ (v, nx, e).2.2 = 0 from he)]
theorem int_prefix (S : ByteArray) (q : Nat) (p : Int) : (⟨S.extract 0 q, p, false⟩ : Rdr).int.2.bad = true ∨ (⟨S.extract 0 q, p, false⟩ : Rdr).int.2 = ⟨S.extract 0 q, (⟨S, p, false⟩ : Rdr).int.2.pos, false⟩ := by
  rcases num_prefix S q p with h | ⟨_, h, _⟩
  · exact .inl h
  · exact .inr h
theorem text_prefix (S : ByteArray) (q : Nat) (p : Int) : (⟨S.extract 0 q, p, false⟩ : Rdr).text.2.bad = true ∨ (⟨S, p, false⟩ : Rdr).text.2.bad = true ∨ (⟨S.extract 0 q, p, false⟩ : Rdr).text.2 = ⟨S.extract 0 q, (⟨S, p, false⟩ : Rdr).text.2.pos, false⟩ := by
  rcases num_prefix S q p with h | ⟨h1, h2, h3⟩
  · left
    unfold Rdr.text
    rw [if_pos (.inl h)]
  · unfold Rdr.text
    rw [h1, h2]
    simp only
    by_cases hc : false = true ∨ (⟨S.extract 0 q, (⟨S, p, false⟩ : Rdr).num.2.pos, false⟩ : Rdr).left < (⟨S, p, false⟩ : Rdr).num.1
    · left; rw [if_pos hc]
    · rw [if_neg hc]
      by_cases hd : (⟨S, p, false⟩ : Rdr).num.2.bad = true ∨ (⟨S, p, false⟩ : Rdr).num.2.left < (⟨S, p, false⟩ : Rdr).num.1
      · right; left; rw [if_pos hd]
      · right; right; rw [if_neg hd]
/-- A piece of a row, k pairs on: the reader is broken, or it is where the whole's is. -/
def pieceAt (xs : List Int) (ts : List ByteArray) (n q k : Nat) (r : Rdr) : Prop := r.bad = true ∨ r = ⟨(rowB xs ts n).extract 0 q, ((rowB xs ts k).size : Nat), false⟩
theorem piece_step {xs : List Int} {ts : List ByteArray} {n q k : Nat} {r : Rdr} (h : pieceAt xs ts n q k r) (hk : k < n) (hx : -9223372036854775808 ≤ xs.getD k 0 ∧ xs.getD k 0 ≤ 9223372036854775807) :
    pieceAt xs ts n q (k + 1) r.int.2.text.2 := by
  obtain ⟨p1, p2⟩ := row_pair xs ts k n hk hx
  rcases h with h | rfl
  · exact .inl (bad_text (bad_int h))
  · rcases int_prefix (rowB xs ts n) q ((rowB xs ts k).size : Nat) with h | h
    · exact .inl (bad_text h)
    · rw [h, p1]
      simp only
      rcases text_prefix (rowB xs ts n) q (((rowB xs ts k).size : Int) + ((vput (zig (xs.getD k 0))).size : Nat)) with h2 | h2 | h2
      · exact .inl h2
      · rw [p2] at h2; simp at h2
      · rw [h2, p2]; exact .inr rfl
theorem piece_end {xs : List Int} {ts : List ByteArray} {n q : Nat} {r : Rdr} (h : pieceAt xs ts n q n r) (hr : r.ok) (hq : q < (rowB xs ts n).size) : r.fin = 10 := by
  unfold Rdr.fin
  rcases h with h | rfl
  · rw [if_pos (.inl h)]
  · have := hr.2.2
    simp only [ByteArray.size_extract] at this
    omega
end Go.Proofs.Ytgkidcpcgceabaa
