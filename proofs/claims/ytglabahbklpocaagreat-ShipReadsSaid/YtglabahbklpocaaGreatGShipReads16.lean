/- vint.All: some numbers with signs, one behind the other. Texts as bytes; the reference's All. Plain law: vectors out of a reader, and back. Vectors read: mark.Read; the reference's Text, TakeVector, Read. The reference's Text, TakeVector, Read. -/
import Derived.Test.YtglabahbklpocaaGreatGShipReads12
import Derived.Test.YtglabahbklpocaaGreatGShipReads1
import Derived.Test.YtglabahbklpocaaGreatGShipReads5
import Derived.Test.YtglabahbklpocaaGreatGShipReads6
import Derived.Test.YtglabahbklpocaaGreatGShipReads7
import Derived.Test.YtglabahbklpocaaGreatGShipReads2
import Derived.Test.YtglabahbklpocaaGreatGShipReads8
namespace Go.Proofs.YtglabahbklpocaaGreat
section
open Go.RowKit
set_option maxRecDepth 100000
set_option linter.unusedVariables false
set_option linter.unusedSimpArgs false
def vall (xs : List Int) : List UInt8 := xs.flatMap fun x => putB 9 (zig x)
theorem vall_append (xs ys : List Int) : vall (xs ++ ys) = vall xs ++ vall ys := by simp [vall]
theorem vall_one (x : Int) : vall [x] = putB 9 (zig x) := by simp [vall]
theorem vputB_le (n : Int) : (putB 9 n).length ≤ 10 := by simp only [putB, List.length_map]; exact putI_le 9 n
theorem vall_length (xs : List Int) : (vall xs).length ≤ 10 * xs.length := by
  induction xs with
  | nil => simp [vall]
  | cons x r ih =>
    rw [show x :: r = [x] ++ r from rfl, vall_append, vall_one, List.length_append, List.length_append]
    have := vputB_le (zig x)
    simp; omega
theorem vtake_snoc (xs : List Int) (k : Nat) (h : k < xs.length) : xs.take (k + 1) = xs.take k ++ [xs.getD k 0] := by
  rw [List.take_succ_eq_append_getElem h]; simp [List.getD_eq_getElem?_getD, h]
set_option maxHeartbeats 1000000 in
theorem all_any (a : Option Addr) (n c : Nat) (xs : List Int) (w : World) (h : ReadsI .i64 w a n xs) (hn : n ≤ 1000) (hr : ∀ x ∈ xs, -9223372036854775808 ≤ x ∧ x ≤ 9223372036854775807) :
    Calls Tryz.prog 103 #[.slice a n c] w fun e w' => e = .returned (.string ⟨(vall xs).toArray⟩) ∧ Below w.heap.size w w' := by
  obtain ⟨hl, hc⟩ := h
  have HL := Lib.hid hl
  clear hl
  have HC := Lib.hid hc
  clear hc
  have HR := Lib.hid hr
  clear hr
  go_enter Tryz.func103, Tryz.ntmps103
  go_wp2
  go_loopw [8] (fun i wr => ∃ k : Nat, k ≤ n ∧ i = .int .i64 k ∧ BldAt w.heap.size w.heap.size (vall (xs.take k)) wr ∧ Below w.heap.size w wr ∧ w.heap.size < wr.heap.size) (fun i _ => n - (intOf i).toNat)
  case atStart => exact ⟨0, by omega, rfl, bld_fresh w, (Below.refl _ _).alloc (Nat.le_refl _) _, by simp⟩
  case round =>
    obtain ⟨k, hk, rfl, hbld, hbel, hsz⟩ := hrel
    have HB := Lib.hid hbld
    clear hbld
    by_cases hlt : k < n
    · have t1 : decide (k < n) = true := decide_eq_true hlt
      obtain ⟨b, o, rfl, hblt, hcell⟩ := HC.out.resolve_left (by omega)
      have hx := HR.out (xs.getD k 0) (by
        rw [List.getD_eq_getElem?_getD, List.getElem?_eq_getElem (by rw [HL.out]; exact hlt)]
        exact List.getElem_mem _)
      have HT := Lib.hid (vtake_snoc xs k (by rw [HL.out]; exact hlt))
      have hc1 : wr.cell? ⟨b, o + k, none⟩ = some (.int .i64 (xs.getD k 0)) := (hbel.cell (p := ⟨b, o + k, none⟩) hblt).trans (hcell k hlt)
      have HL2 : (vall (xs.take k)).length ≤ 10000 := by
        have := vall_length (xs.take k)
        rw [List.length_take] at this
        omega
      generalize xs.getD k 0 = x at *
      clear hcell
      go_wp2_with fail
      refine (zig_any x _ hx.1 hx.2).mono ?_
      rintro e w1 ⟨rfl, rfl⟩
      go_wp2_with fail
      refine (put_any _ _ (zig_range x hx.1 hx.2).1 (zig_range x hx.1 hx.2).2).mono ?_
      rintro e w1 ⟨rfl, hb1⟩
      go_wp2_with fail
      refine (bld_write _ _ _ _ _ (bld_below HB.out hb1) (by have := vputB_le (zig x); have e : (vput (zig x)).size = (putB 9 (zig x)).length := rfl; omega) (Nat.le_trans hbel.size hb1.size)).mono ?_
      rintro e w2 ⟨rfl, hbld2, hb2⟩
      go_wp2
      go_roundw
      case rel =>
        refine ⟨k + 1, by omega, by go_num, ?_, (below_then hbel hbel.size hb1).trans hb2, by have := hb1.size; have := hb2.size; omega⟩
        rw [HT.out, vall_append, vall_one]
        exact hbld2
      case measure => simp [intOf]; omega
    · have t1 : decide (k < n) = false := decide_eq_false hlt
      go_wp2_with fail
      refine (bld_string _ _ _ _ HB.out hbel.size).mono ?_
      rintro e w1 ⟨rfl, hb1⟩
      go_wp2
      go_ret
      exact ⟨ret_str (by rw [List.take_of_length_le (by rw [HL.out]; omega)]), hbel.trans hb1⟩
end
end Go.Proofs.YtglabahbklpocaaGreat
namespace Go.Proofs.YtglabahbklpocaaGreat
section
open Go.RowKit
set_option maxRecDepth 100000
set_option linter.unusedVariables false
set_option linter.unusedSimpArgs false
def vtext (s : ByteArray) : ByteArray := vput (s.size : Int) ++ s
set_option maxHeartbeats 400000 in
theorem text_any (s : ByteArray) (w : World) (hs : s.size ≤ 1000000000) :
    Calls Tryz.prog 40 #[.string s] w fun e w' => e = .returned (.string (vtext s)) ∧ Below w.heap.size w w' := by
  have hz := vput_le (s.size : Int)
  go_enter Tryz.func40, Tryz.ntmps40
  go_wp2_with fail
  refine (put_any _ _ (by omega) (by omega)).mono ?_
  rintro e w1 ⟨rfl, hb1⟩
  go_wp2
  go_ret
  exact ⟨rfl, hb1⟩
end
end Go.Proofs.YtglabahbklpocaaGreat
namespace Go.Proofs.YtglabahbklpocaaGreat
section
set_option maxRecDepth 100000
set_option linter.unusedVariables false
set_option linter.unusedSimpArgs false
/-- What is still to be read. -/
def Rdr.rest (r : Rdr) : List UInt8 := r.s.data.toList.drop r.pos.toNat
theorem vget_some {s : ByteArray} {p v p' : Int} (h : vget s p = (v, p', 0)) : 0 ≤ p ∧ 0 ≤ v ∧ s.data.toList.drop p.toNat = putB 9 v ++ s.data.toList.drop p'.toNat ∧ p ≤ p' ∧ p' ≤ s.size := by
  unfold vget at h
  split at h
  · simp at h
  · rename_i hp
    cases hg : getL 10 (s.data.toList.drop p.toNat) with
    | none => rw [hg] at h; simp at h
    | some q =>
      obtain ⟨V, c⟩ := q
      rw [hg] at h
      simp only at h
      split at h
      · rename_i hc
        simp only [Prod.mk.injEq, and_true] at h
        obtain ⟨rfl, rfl⟩ := h
        obtain ⟨h1, h2, h3, h4, h5, h6⟩ := getL_some 10 _ V c hg
        have ht := put_getL 10 _ V c 9 hg hc.2 (by omega)
        have hl : (s.data.toList.drop p.toNat).length = s.size - p.toNat := by simp
        refine ⟨by omega, h1, ?_, by omega, by omega⟩
        rw [← ht, show (p + (c : Int)).toNat = p.toNat + c by omega, ← List.drop_drop, List.take_append_drop]
      · simp at h
theorem vget_at {s : ByteArray} {p v : Int} {t : List UInt8} (hp0 : 0 ≤ p) (hp : p ≤ s.size) (h : s.data.toList.drop p.toNat = putB 9 v ++ t) (h0 : 0 ≤ v) (h1 : v < 18446744073709551616) :
    vget s p = (v, p + ((putI 9 v).length : Int), 0) ∧ s.data.toList.drop (p + ((putI 9 v).length : Int)).toNat = t ∧ p + ((putI 9 v).length : Int) ≤ s.size := by
  have hl : (s.data.toList.drop p.toNat).length = s.size - p.toNat := by simp
  have hz := putI_pos 9 v
  have hb : (putB 9 v).length = (putI 9 v).length := by simp [putB]
  rw [h, List.length_append, hb] at hl
  refine ⟨?_, ?_, by omega⟩
  · unfold vget
    rw [if_neg (by omega), h, getL_put 9 v _ h0 (by simp only [Int.reducePow]; omega)]
    exact if_pos ⟨h1, putI_canon 9 v h0⟩
  · rw [show (p + ((putI 9 v).length : Int)).toNat = p.toNat + (putB 9 v).length by rw [hb]; omega, ← List.drop_drop, h]
    exact List.drop_left' rfl
theorem small_good {r : Rdr} {most : Int} (hr : r.ok) (h : (r.small most).2.bad = false) :
    r.bad = false ∧ 0 ≤ (r.small most).1 ∧ (r.small most).1 ≤ most ∧ r.rest = putB 9 (r.small most).1 ++ (r.small most).2.rest := by
  have hk := Rdr.num_ok hr
  unfold Rdr.small at *
  split at h
  · simp at h
  · rename_i hc
    rw [if_neg hc]
    have hb : r.num.2.bad = false := by
      rcases hh : r.num.2.bad with _ | _
      · rfl
      · exact absurd (.inl hh) hc
    have hv : ¬ most < r.num.1 := fun x => hc (.inr (.inr x))
    unfold Rdr.num at hb hv hk ⊢
    split at hb
    · rename_i h1; rw [h1] at hb; cases hb
    · rename_i h1
      rw [if_neg h1] at hv hk ⊢
      split at hb
      · rename_i h2
        rw [if_pos h2] at hv hk ⊢
        have hg : vget r.s r.pos = ((vget r.s r.pos).1, (vget r.s r.pos).2.1, 0) := by rw [← h2]
        obtain ⟨g1, g2, g3, g4, g5⟩ := vget_some hg
        refine ⟨by simpa using h1, g2, by simp only at hv ⊢; omega, ?_⟩
        exact g3
      · simp at hb
theorem small_at {r : Rdr} {most v : Int} {t : List UInt8} (hr : r.ok) (hb : r.bad = false) (h : r.rest = putB 9 v ++ t) (h0 : 0 ≤ v) (h1 : v ≤ most) (hm : most ≤ 9223372036854775807) :
    (r.small most).1 = v ∧ (r.small most).2.bad = false ∧ (r.small most).2.rest = t := by
  obtain ⟨a1, a2, a3⟩ := hr
  obtain ⟨g1, g2, g3⟩ := vget_at a2 a3 h h0 (by omega)
  have hn : r.num = (v, { r with pos := r.pos + ((putI 9 v).length : Int) }) := by
    unfold Rdr.num
    rw [if_neg (by rw [hb]; decide), g1]
    simp
  unfold Rdr.small
  rw [hn]
  simp only
  rw [if_neg (by rw [hb]; simp; omega)]
  exact ⟨rfl, hb, g2⟩
def takeN : Nat → Rdr → List Int × Rdr
  | 0, r => ([], r)
  | n + 1, r => ((takeN n r).1 ++ [((takeN n r).2.small 1099511627776).1], ((takeN n r).2.small 1099511627776).2)
theorem takeN_length (n : Nat) (r : Rdr) : (takeN n r).1.length = n := by
  induction n with
  | zero => rfl
  | succ n ih => simp [takeN, ih]
theorem takeN_ok {r : Rdr} (hr : r.ok) (n : Nat) : (takeN n r).2.ok ∧ (takeN n r).2.s = r.s := by
  induction n with
  | zero => exact ⟨hr, rfl⟩
  | succ n ih =>
    have := Rdr.small_ok ih.1 1099511627776
    exact ⟨this.1, this.2.trans ih.2⟩
theorem takeN_good {r : Rdr} (hr : r.ok) (n : Nat) (h : (takeN n r).2.bad = false) : r.bad = false ∧ (∀ x ∈ (takeN n r).1, 0 ≤ x ∧ x ≤ 1099511627776) ∧ r.rest = mcat (takeN n r).1 ++ (takeN n r).2.rest := by
  induction n with
  | zero => exact ⟨h, by simp [takeN], by simp [takeN, mcat]⟩
  | succ n ih =>
    obtain ⟨g1, g2, g3, g4⟩ := small_good (takeN_ok hr n).1 h
    obtain ⟨i1, i2, i3⟩ := ih g1
    refine ⟨i1, ?_, ?_⟩
    · intro x hx
      simp only [takeN, List.mem_append, List.mem_singleton] at hx
      rcases hx with hx | rfl
      · exact i2 x hx
      · exact ⟨g2, g3⟩
    · simp only [takeN]
      rw [mcat_append, mcat_one, List.append_assoc, ← g4, ← i3]
theorem takeN_at {r : Rdr} (hr : r.ok) (hb : r.bad = false) (l : List Int) (t : List UInt8) (hl : ∀ x ∈ l, 0 ≤ x ∧ x ≤ 1099511627776) (h : r.rest = mcat l ++ t) (n : Nat) (hn : n ≤ l.length) :
    (takeN n r).1 = l.take n ∧ (takeN n r).2.bad = false ∧ (takeN n r).2.rest = mcat (l.drop n) ++ t := by
  induction n with
  | zero => exact ⟨by simp [takeN], hb, by simpa [takeN] using h⟩
  | succ n ih =>
    obtain ⟨i1, i2, i3⟩ := ih (by omega)
    have hlt : n < l.length := by omega
    have hx := hl l[n] (List.getElem_mem hlt)
    rw [List.drop_eq_getElem_cons hlt, show l[n] :: l.drop (n + 1) = [l[n]] ++ l.drop (n + 1) from rfl, mcat_append, mcat_one, List.append_assoc] at i3
    obtain ⟨s1, s2, s3⟩ := small_at (takeN_ok hr n).1 i2 i3 hx.1 hx.2 (by decide)
    refine ⟨?_, s2, s3⟩
    simp only [takeN]
    rw [i1, s1, List.take_succ_eq_append_getElem hlt]
def r0 (s : ByteArray) : Rdr := ⟨s, 0, false⟩
def tkV (r : Rdr) : List Int × Rdr := takeN (r.small 8).1.toNat (r.small 8).2
theorem r0_ok {s : ByteArray} (hs : s.size ≤ 1000000000) : (r0 s).ok := ⟨hs, Int.le_refl _, by show (0 : Int) ≤ _; omega⟩
theorem r0_rest (s : ByteArray) : (r0 s).rest = s.data.toList := rfl
theorem fin_rest {r : Rdr} (hr : r.ok) : r.fin = 0 ↔ r.bad = false ∧ r.rest = [] := by
  obtain ⟨a1, a2, a3⟩ := hr
  have hl : r.rest.length = r.s.size - r.pos.toNat := by simp [Rdr.rest]
  unfold Rdr.fin
  constructor
  · intro h
    split at h
    · cases h
    · rename_i hc
      have hb : r.bad = false := by
        rcases hh : r.bad with _ | _
        · rfl
        · exact absurd (.inl hh) hc
      have : ¬ r.pos < (r.s.size : Int) := fun x => hc (.inr x)
      exact ⟨hb, List.eq_nil_of_length_eq_zero (by omega)⟩
  · rintro ⟨h1, h2⟩
    rw [h2] at hl
    simp at hl
    rw [if_neg (by rw [h1]; simp; omega)]
end
end Go.Proofs.YtglabahbklpocaaGreat
namespace Go.Proofs.YtglabahbklpocaaGreat
section
open Go.RowKit
set_option maxRecDepth 100000
set_option linter.unusedVariables false
set_option linter.unusedSimpArgs false
theorem small8 {r : Rdr} (hr : r.ok) : 0 ≤ (r.small 8).1 ∧ (r.small 8).1 ≤ 8 := by
  rcases hb : (r.small 8).2.bad with _ | _
  · have := small_good hr hb
    omega
  · have := Rdr.small_bad 8 hb
    omega
end
end Go.Proofs.YtglabahbklpocaaGreat
namespace Go.Proofs.YtglabahbklpocaaGreat
section
open Go.RowKit
set_option maxRecDepth 100000
set_option linter.unusedVariables false
set_option linter.unusedSimpArgs false
theorem ba_size (l : List UInt8) : (⟨l.toArray⟩ : ByteArray).size = l.length := by simp [ByteArray.size]
theorem vput_ba (x : Int) : vput x = ⟨(putB 9 x).toArray⟩ := by
  apply ByteArray.ext
  apply Array.ext'
  rw [vput_data]
/-- What TakeVector takes. -/
def tvV (r : Rdr) : List Int × Rdr := if (tkV r).2.bad = false ∧ (tkV r).1 = pl (tkV r).1 then tkV r else ([], { (tkV r).2 with bad := true })
theorem tkV_ok {r : Rdr} (h : r.ok) : (tkV r).2.ok ∧ (tkV r).2.s = r.s := by
  have h1 := Rdr.small_ok h 8
  have h2 := takeN_ok h1.1 (r.small 8).1.toNat
  exact ⟨h2.1, h2.2.trans h1.2⟩
theorem tvV_ok {r : Rdr} (h : r.ok) : (tvV r).2.ok ∧ (tvV r).2.s = r.s := by
  have h1 := tkV_ok h
  unfold tvV
  split
  · exact h1
  · exact ⟨h1.1, h1.2⟩
set_option maxHeartbeats 2000000 in
theorem rtv_any2 (g : Nat) (r : Rdr) (w : World) (hr : RdrAt 105 w g r) (hok : r.ok) : Calls Tryz.prog 78 #[.pointer (some ⟨g, 0, none⟩)] w fun e w' => ∃ a n c, e = .returned (.slice a n c) ∧ SlI w' a n c (tvV r).1 ∧ RdrAt 105 w' g (tvV r).2 ∧ But g w w' ∧ (∀ x, a = some x → w.heap.size ≤ x.block) := by
  have h1 := Rdr.small_ok hok 8
  have h8 := small8 hok
  have HM : Hid (tvV r = if (tkV r).2.bad = false ∧ (tkV r).1 = pl (tkV r).1 then tkV r else ([], { (tkV r).2 with bad := true })) := rfl
  have HTK : Hid (tkV r = takeN (r.small 8).1.toNat (r.small 8).2) := rfl
  generalize tvV r = M at *
  generalize tkV r = TK at *
  have hgl := hr.lt
  go_enter Tryz.func78, Tryz.ntmps78
  go_wp2_with fail
  refine (rrdr_small g r 8 _ hr hok (by decide) (by decide)).mono ?_
  rintro e w2 ⟨rfl, h2, b2⟩
  have hgl2 := h2.lt
  have hz := b2.size
  generalize (r.small 8).2 = R1 at *
  obtain ⟨n, hn⟩ : ∃ n : Nat, (r.small 8).1 = n := ⟨(r.small 8).1.toNat, by omega⟩
  rw [hn] at h8 HTK ⊢
  rw [Int.toNat_natCast] at HTK
  have INIT := Lib.hid (And.intro h2 b2)
  clear h2 b2 hn hr
  go_wp2_with fail
  go_loopw [4, 5] (fun p i wr => ∃ (k : Nat) (a : Option Addr) (cap : Nat), k ≤ n ∧ i = .int .i64 k ∧ p = .slice a k cap ∧ RdrAt 105 wr g (takeN k R1).2 ∧ AppJ wr w.heap.size a k cap (takeN k R1).1 ∧ But g w wr) (fun _ i _ => 9 - (intOf i).toNat)
  case atStart => exact ⟨0, none, 0, by omega, rfl, rfl, INIT.out.1, appJ_nil _ _, INIT.out.2⟩
  case round =>
    obtain ⟨k, a, cap, hk, rfl, rfl, hR, hA, hB⟩ := hrel
    have hRok := takeN_ok h1.1 k
    have hle := hA.le
    have hmax : cap ≤ 9223372036854775807 := hA.max
    have hlt0 := hR.lt
    have hz2 := hB.size
    have HT : Hid (takeN (k + 1) R1 = ((takeN k R1).1 ++ [((takeN k R1).2.small 1099511627776).1], ((takeN k R1).2.small 1099511627776).2)) := rfl
    by_cases hlt : k < n
    · have t1 : decide (k < n) = true := decide_eq_true hlt
      have t2 : decide ((k : Int) < (n : Int)) = true := decide_eq_true (by omega)
      generalize takeN k R1 = TK1 at *
      obtain ⟨L, R⟩ := TK1
      simp only at hR hA hRok HT
      go_wp2_with fail
      refine (rrdr_small g R 1099511627776 _ hR hRok.1 (by decide) (by decide)).mono ?_
      rintro e w3 ⟨rfl, h3, b3⟩
      have hA3 := Lib.hid (hA.but b3 (by omega))
      have hB3 := hB.trans b3
      have hl3 := h3.lt
      have hz3 := hB3.size
      have H3 := Lib.hid h3
      clear h3 b3 hA hR hB
      generalize (R.small 1099511627776).1 = y at *
      go_wp2_with (at_builtin; refine wpList_append_i64 rfl _ _ rfl _ w.heap.size a k cap L rfl (hA3.out.below ?q1) ?q2 ?q3 ⟨w3.heap.size, 0, none⟩ 1 y rfl ?q4 ?q5)
      case q1 => exact (Below.refl _ _).alloc (Nat.le_refl _) _
      case q2 => simp; omega
      case q3 => omega
      case q4 => rw [World.cell?_alloc_new]; rfl
      case q5 =>
        intro a3 cap3 w5 hg3 hb3
        have HG3 := Lib.hid hg3
        clear hg3
        have hb4 : Below w.heap.size w3 w5 := ((Below.refl _ _).alloc (by omega) _).trans hb3
        have hR5 : RdrAt 105 w5 g (R.small 1099511627776).2 := (hb4.block g (by omega)).trans H3.out
        have hB5 : But g w w5 := ⟨hb4.os.trans hB3.os, hb4.tape.trans hB3.tape, hb4.output.trans hB3.output, Nat.le_trans hz3 hb4.size, fun i hi hne => (hb4.block i hi).trans (hB3.block i hi hne)⟩
        go_wp2
        go_roundw
        case rel => exact ⟨k + 1, a3, cap3, by omega, by go_num, rfl, by rw [HT.out]; exact hR5, by rw [HT.out]; exact HG3.out, hB5⟩
        case measure => simp [intOf]; omega
    · have t1 : decide (k < n) = false := decide_eq_false hlt
      have t2 : decide ((k : Int) < (n : Int)) = false := decide_eq_false (by omega)
      obtain rfl : k = n := by omega
      rw [← HTK.out] at hR hA hRok
      obtain ⟨L, R⟩ := TK
      simp only at hR hA hRok HM
      clear HTK HT
      have hS := hA.sl
      have HG : Hid (∀ x, a = some x → w.heap.size ≤ x.block) := hA.ge
      have NG : ∀ x : Addr, (none : Option Addr) = some x → w.heap.size ≤ x.block := fun x hx => by cases hx
      go_wp2_with fail
      refine (rright_any _ _ _ _ _ hS.r hS.h1 hS.h2).mono ?_
      rintro e w3 ⟨rfl, d3⟩
      have hS3 := Lib.hid (hS.below d3)
      have hR3 := hR.below d3
      have hB3 := Lib.hid (hB.then_below d3)
      have c2 := hR3.c2
      have f2 := hR3.fz 2
      have HR3 := Lib.hid hR3
      have HRB := Lib.hid (And.intro (hR3.set2 true) ((hB.then_below d3).trans (But.set g 2 _ (.bool true))))
      clear hS d3 hR3 hA hR hB
      have nilS : ∀ wx : World, SlI wx none 0 0 [] := fun wx => ⟨⟨rfl, .inl rfl⟩, Nat.le_refl _, by decide⟩
      rcases hbad : R.bad with _ | _
      · rw [hbad] at c2
        by_cases hp : L = pl L
        · have hd : decide (L = pl L) = true := decide_eq_true hp
          have HV : Hid (M = (L, R)) := by show _ = _; rw [HM.out, if_pos ⟨hbad, hp⟩]
          rw [hd]
          clear hd hp hbad
          go_wp2_with fail
          go_ret
          exact ⟨a, k, cap, rfl, by rw [HV.out]; exact hS3.out, by rw [HV.out]; exact HR3.out, hB3.out, HG.out⟩
        · have hd : decide (L = pl L) = false := decide_eq_false hp
          have HV : Hid (M = ([], { R with bad := true })) := by show _ = _; rw [HM.out, if_neg (fun h => hp h.2)]
          rw [hd]
          clear hd hp hbad
          go_wp2_with fail
          go_ret
          exact ⟨none, 0, 0, rfl, by rw [HV.out]; exact nilS _, by rw [HV.out]; exact HRB.out.1, HRB.out.2, NG⟩
      · rw [hbad] at c2
        have HV : Hid (M = ([], { R with bad := true })) := by show _ = _; rw [HM.out, if_neg (fun h => by rw [hbad] at h; cases h.1)]
        clear hbad
        go_wp2_with fail
        go_ret
        exact ⟨none, 0, 0, rfl, by rw [HV.out]; exact nilS _, by rw [HV.out]; exact HRB.out.1, HRB.out.2, NG⟩
end
end Go.Proofs.YtglabahbklpocaaGreat
