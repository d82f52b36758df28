/- Plain law: records and points out of a reader, and back. No program is in sight. -/
import Derived.Test.YtglabahbklpocaaGreatGShipPacks22
import Derived.Test.YtglabahbklpocaaGreatGShipPacks23
namespace Go.Proofs.YtglabahbklpocaaGreat
section
set_option maxRecDepth 100000
set_option linter.unusedVariables false
set_option linter.unusedSimpArgs false
def tb (s : ByteArray) : List UInt8 := putB 9 (s.size : Int) ++ s.data.toList
theorem vtext_data (s : ByteArray) : (vtext s).data.toList = tb s := by
  unfold vtext tb
  rw [ByteArray.data_append, Array.toList_append, vput_data]
theorem num_good {r : Rdr} (hr : r.ok) (h : r.num.2.bad = false) : r.bad = false ∧ 0 ≤ r.num.1 ∧ r.num.1 < 18446744073709551616 ∧ r.rest = putB 9 r.num.1 ++ r.num.2.rest := by
  have hk := Rdr.num_ok hr
  unfold Rdr.num at *
  split at h
  · rename_i h1; rw [h1] at h; cases h
  · rename_i h1
    rw [if_neg h1] at hk ⊢
    split at h
    · rename_i h2
      rw [if_pos h2] at hk ⊢
      have hg : vget r.s r.pos = ((vget r.s r.pos).1, (vget r.s r.pos).2.1, 0) := by rw [← h2]
      obtain ⟨g1, g2, g3, g4, g5⟩ := vget_some hg
      exact ⟨by simpa using h1, g2, hk.2.2.1, g3⟩
    · simp at h
theorem num_at {r : Rdr} {v : Int} {t : List UInt8} (hr : r.ok) (hb : r.bad = false) (h : r.rest = putB 9 v ++ t) (h0 : 0 ≤ v) (h1 : v < 18446744073709551616) :
    r.num.1 = v ∧ r.num.2.bad = false ∧ r.num.2.rest = t := by
  obtain ⟨a1, a2, a3⟩ := hr
  obtain ⟨g1, g2, g3⟩ := vget_at a2 a3 h h0 h1
  have hn : r.num = (v, { r with pos := r.pos + ((putI 9 v).length : Int) }) := by
    unfold Rdr.num
    rw [if_neg (by rw [hb]; decide), g1]
    simp
  rw [hn]
  exact ⟨rfl, hb, g2⟩
theorem num_bad {r : Rdr} (h : r.bad = true) : r.num = (0, r) := by
  unfold Rdr.num
  rw [if_pos h]
theorem int_good {r : Rdr} (hr : r.ok) (h : r.int.2.bad = false) : r.bad = false ∧ i64' r.int.1 ∧ r.rest = putB 9 (zig r.int.1) ++ r.int.2.rest := by
  obtain ⟨g1, g2, g3, g4⟩ := num_good hr h
  refine ⟨g1, zag_range _ g2 g3, ?_⟩
  show r.rest = putB 9 (zig (zag r.num.1)) ++ r.num.2.rest
  rw [zig_zag _ g2, ← g4]
theorem int_at {r : Rdr} {v : Int} {t : List UInt8} (hr : r.ok) (hb : r.bad = false) (h : r.rest = putB 9 (zig v) ++ t) (h0 : i64' v) : r.int.1 = v ∧ r.int.2.bad = false ∧ r.int.2.rest = t := by
  have hz := zig_range v h0.1 h0.2
  obtain ⟨g1, g2, g3⟩ := num_at hr hb h hz.1 hz.2
  refine ⟨?_, g2, g3⟩
  show zag r.num.1 = v
  rw [g1, zag_zig]
theorem text_good {r : Rdr} (hr : r.ok) (h : r.text.2.bad = false) : r.bad = false ∧ r.rest = tb r.text.1 ++ r.text.2.rest ∧ r.text.1.size ≤ r.s.size := by
  have hk := Rdr.num_ok hr
  unfold Rdr.text at *
  split at h
  · simp at h
  · rename_i hc
    rw [if_neg hc]
    have hb : r.num.2.bad = false := by
      rcases hh : r.num.2.bad with _ | _
      · rfl
      · exact absurd (.inl hh) hc
    have hv : r.num.1 ≤ r.num.2.left := by
      rcases Int.lt_or_le r.num.2.left r.num.1 with h' | h'
      · exact absurd (.inr h') hc
      · exact h'
    obtain ⟨g1, g2, g3, g4⟩ := num_good hr hb
    have hl : r.num.2.left = (r.s.size : Int) - r.num.2.pos := by
      unfold Rdr.left
      rw [if_neg (by rw [hb]; decide), hk.2.2.2]
    obtain ⟨⟨k1, k2, k3⟩, _, _, k4⟩ := hk
    rw [k4] at k3
    rw [hl] at hv
    generalize r.num.1 = n at *
    generalize r.num.2 = q at *
    simp only
    have hsz : (r.s.extract q.pos.toNat (q.pos + n).toNat).size = n.toNat := by rw [ByteArray.size_extract]; omega
    refine ⟨g1, ?_, by rw [hsz]; omega⟩
    rw [g4]
    unfold tb Rdr.rest
    rw [hsz, show ((n.toNat : Nat) : Int) = n by omega, List.append_assoc]
    congr 1
    simp only
    rw [k4, ByteArray.data_extract, Array.toList_extract, List.extract_eq_take_drop, show (q.pos + n).toNat = q.pos.toNat + n.toNat by omega, Nat.add_sub_cancel_left, ← List.drop_drop, List.take_append_drop]
theorem text_at {r : Rdr} {s : ByteArray} {t : List UInt8} (hr : r.ok) (hb : r.bad = false) (h : r.rest = tb s ++ t) : r.text.1 = s ∧ r.text.2.bad = false ∧ r.text.2.rest = t := by
  have hk := Rdr.num_ok hr
  unfold tb at h
  rw [List.append_assoc] at h
  have hle : s.size ≤ r.s.size := by
    have h2 := congrArg List.length h
    simp only [Rdr.rest, List.length_drop, List.length_append] at h2
    have e1 : r.s.data.toList.length = r.s.size := by simp
    have e2 : s.data.toList.length = s.size := by simp
    omega
  have hs := hr.1
  obtain ⟨g1, g2, g3⟩ := num_at hr hb h (by omega) (by omega)
  obtain ⟨⟨k1, k2, k3⟩, _, _, k4⟩ := hk
  rw [k4] at k3
  have hlen : (s.size : Int) ≤ (r.s.size : Int) - r.num.2.pos := by
    have h2 := congrArg List.length g3
    simp only [Rdr.rest, List.length_drop, List.length_append] at h2
    rw [k4] at h2
    have e1 : r.s.data.toList.length = r.s.size := by simp
    have e2 : s.data.toList.length = s.size := by simp
    omega
  have hl : r.num.2.left = (r.s.size : Int) - r.num.2.pos := by
    unfold Rdr.left
    rw [if_neg (by rw [g2]; decide), k4]
  unfold Rdr.text
  rw [if_neg (by rw [g1, g2, hl]; simp; omega)]
  generalize r.num.2 = q at *
  rw [g1]
  unfold Rdr.rest at g3
  rw [k4] at g3
  simp only
  have e2 : s.data.toList.length = s.size := by simp
  refine ⟨?_, g2, ?_⟩
  · apply ByteArray.ext
    apply Array.ext'
    rw [ByteArray.data_extract, Array.toList_extract, List.extract_eq_take_drop, show (q.pos + (s.size : Int)).toNat - q.pos.toNat = s.size by omega, g3]
    exact List.take_left' e2
  · unfold Rdr.rest
    simp only
    rw [k4, show (q.pos + (s.size : Int)).toNat = q.pos.toNat + s.size by omega, ← List.drop_drop, g3]
    exact List.drop_left' e2
theorem small_min {r : Rdr} {m : Int} (h : m < 0) : (r.small m).2.bad = true := by
  unfold Rdr.small
  rw [if_pos (.inr (.inl h))]
theorem takeV_good {r : Rdr} (hr : r.ok) (h : (takeV r).2.bad = false) : r.bad = false ∧ okV (takeV r).1 = true ∧ r.rest = stL (takeV r).1 ++ (takeV r).2.rest := by
  by_cases hok : okV (takeP r).1 = true
  · have e : takeV r = takeP r := by unfold takeV; rw [if_pos hok]
    rw [e] at h ⊢
    have k1 := Rdr.small_ok hr 1099511627776
    have k2 := Rdr.small_ok k1.1 7
    obtain ⟨a1, a2, a3, a4⟩ := small_good k2.1 h
    obtain ⟨b1, b2, b3, b4⟩ := small_good k1.1 a1
    obtain ⟨c1, c2, c3, c4⟩ := small_good hr b1
    refine ⟨c1, hok, ?_⟩
    rw [c4, b4, a4]
    simp only [stL, takeP, List.append_assoc]
  · have e : takeV r = (⟨0, 0, 0⟩, ((takeP r).2.small (-1)).2) := by unfold takeV; rw [if_neg hok]
    rw [e] at h
    rw [small_min (by decide)] at h
    cases h
theorem small_keep {r : Rdr} (m : Int) (h : r.bad = true) : (r.small m).2.bad = true := by
  unfold Rdr.small
  rw [num_bad h, if_pos (.inl h)]
theorem putB_ne (n : Int) : putB 9 n ≠ [] := by
  intro h
  have h1 := congrArg List.length h
  have h2 := putI_pos 9 n
  have h3 : (putB 9 n).length = (putI 9 n).length := by simp [putB]
  rw [List.length_nil] at h1
  omega
theorem small_nil {r : Rdr} (hr : r.ok) (m : Int) (h : r.rest = []) : (r.small m).2.bad = true := by
  rcases hh : (r.small m).2.bad with _ | _
  · have := (small_good hr hh).2.2.2
    rw [h] at this
    exact absurd (List.append_eq_nil_iff.1 this.symm).1 (putB_ne _)
  · rfl
theorem takeN_keep (r : Rdr) (k n : Nat) (hk : k ≤ n) (h : (takeN k r).2.bad = true) : (takeN n r).2.bad = true := by
  induction n with
  | zero => obtain rfl : k = 0 := by omega
            exact h
  | succ n ih =>
    rcases Nat.lt_or_ge n k with h' | h'
    · obtain rfl : k = n + 1 := by omega
      exact h
    · exact small_keep _ (ih h')
theorem left_rest {r : Rdr} (hr : r.ok) (h : r.left = 0) (hb : r.bad = false) : r.rest = [] := by
  unfold Rdr.left at h
  rw [if_neg (by rw [hb]; decide)] at h
  unfold Rdr.rest
  apply List.drop_eq_nil_of_le
  have e1 : r.s.data.toList.length = r.s.size := by simp
  obtain ⟨h1, h2, h3⟩ := hr
  omega
theorem fin_ne {r : Rdr} (h : r.bad = true) : r.fin ≠ 0 := by
  unfold Rdr.fin
  rw [if_pos (.inl h)]
  decide
/-- What is read of a record ahead of its Deps. -/
def hdA (r : Rdr) : Rdr := ((r.small 2).2.text.2.small 1099511627776).2.int.2
def hdB (r : Rdr) : Rdr := (((r.small 2).2.small 3).2.small 1099511627776).2
def hdR (r : Rdr) : Rc × Rdr :=
  if (r.small 2).1 = 1 then (⟨(r.small 2).1, (r.small 2).2.text.1, ((r.small 2).2.text.2.small 1099511627776).1, ((r.small 2).2.text.2.small 1099511627776).2.int.1, 0, (takeV (hdA r)).1⟩, (takeV (hdA r)).2)
  else (⟨(r.small 2).1, ⟨#[]⟩, (((r.small 2).2.small 3).2.small 1099511627776).1, 0, ((r.small 2).2.small 3).1, (takeV (hdB r)).1⟩, (takeV (hdB r)).2)
theorem hdR_ok {r : Rdr} (hr : r.ok) : (hdR r).2.ok ∧ (hdR r).2.s = r.s := by
  have k1 := Rdr.small_ok hr 2
  unfold hdR
  split
  · have k2 := Rdr.text_ok k1.1
    have k3 := Rdr.small_ok k2.1 1099511627776
    have k4 := Rdr.int_ok k3.1
    have k5 := takeV_ok k4.1
    exact ⟨k5.1, k5.2.trans (k4.2.trans (k3.2.trans (k2.2.trans k1.2)))⟩
  · have k2 := Rdr.small_ok k1.1 3
    have k3 := Rdr.small_ok k2.1 1099511627776
    have k5 := takeV_ok k3.1
    exact ⟨k5.1, k5.2.trans (k3.2.trans (k2.2.trans k1.2))⟩
def midL (r : Rc) : List UInt8 := if r.kind = 1 then tb r.series ++ (putB 9 r.time ++ putB 9 (zig r.value)) else putB 9 r.tier ++ putB 9 r.time
def hdL (r : Rc) : List UInt8 := putB 9 r.kind ++ (midL r ++ stL r.st)
theorem hd_good {r : Rdr} (hr : r.ok) (h : (hdR r).2.bad = false) : r.bad = false ∧ r.rest = hdL (hdR r).1 ++ (hdR r).2.rest ∧ okV (hdR r).1.st = true := by
  have k1 := Rdr.small_ok hr 2
  unfold hdR at h ⊢
  split
  · rename_i hc
    rw [if_pos hc] at h
    have k2 := Rdr.text_ok k1.1
    have k3 := Rdr.small_ok k2.1 1099511627776
    have k4 := Rdr.int_ok k3.1
    obtain ⟨a1, a2, a3⟩ := takeV_good k4.1 h
    obtain ⟨b1, b2, b3⟩ := int_good k3.1 a1
    obtain ⟨c1, c2, c3, c4⟩ := small_good k2.1 b1
    obtain ⟨d1, d2, d3⟩ := text_good k1.1 c1
    obtain ⟨e1, e2, e3, e4⟩ := small_good hr d1
    refine ⟨e1, ?_, a2⟩
    rw [e4, d2, c4, b3]
    change _ ++ (_ ++ (_ ++ (_ ++ Rdr.rest (hdA r)))) = _
    rw [show (hdA r).rest = _ from a3]
    simp only [hdL, midL, if_pos hc, List.append_assoc]
    rfl
  · rename_i hc
    rw [if_neg hc] at h
    have k2 := Rdr.small_ok k1.1 3
    have k3 := Rdr.small_ok k2.1 1099511627776
    obtain ⟨a1, a2, a3⟩ := takeV_good k3.1 h
    obtain ⟨c1, c2, c3, c4⟩ := small_good k2.1 a1
    obtain ⟨d1, d2, d3, d4⟩ := small_good k1.1 c1
    obtain ⟨e1, e2, e3, e4⟩ := small_good hr d1
    refine ⟨e1, ?_, a2⟩
    rw [e4, d4, c4]
    change _ ++ (_ ++ (_ ++ Rdr.rest (hdB r))) = _
    rw [show (hdB r).rest = _ from a3]
    simp only [hdL, midL, if_neg hc, List.append_assoc]
    rfl
theorem recT_data (r : Rc) (ds : List Int) (h : okV r.st = true) : (recT r ds).data.toList = hdL r ++ mtB (pl ds) := by
  unfold recT midB vecB hdL midL
  rw [stB_data _ h]
  simp only [ByteArray.data_append, Array.toList_append, vput_data]
  split
  · simp only [ByteArray.data_append, Array.toList_append, vput_data, vtext_data, List.append_assoc]
  · simp only [ByteArray.data_append, Array.toList_append, vput_data, List.append_assoc]
theorem ba_data {a b : ByteArray} : a = b ↔ a.data.toList = b.data.toList := ⟨fun h => by rw [h], fun h => ByteArray.ext (Array.ext' h)⟩
def rrOk (s : ByteArray) : Prop := (tkV (hdR (r0 s)).2).2.fin = 0 ∧ recP (hdR (r0 s)).1 (tkV (hdR (r0 s)).2).1
open Classical in
noncomputable def readR (s : ByteArray) : Rc × List Int × Int := if rrOk s then ((hdR (r0 s)).1, (tkV (hdR (r0 s)).2).1, 0) else (Rc0', [], 10)
where Rc0' : Rc := ⟨0, ⟨#[]⟩, 0, 0, 0, ⟨0, 0, 0⟩⟩
theorem readR_pos {s : ByteArray} (h : rrOk s) : readR s = ((hdR (r0 s)).1, (tkV (hdR (r0 s)).2).1, 0) := if_pos h
theorem readR_neg {s : ByteArray} (h : ¬ rrOk s) : readR s = (⟨0, ⟨#[]⟩, 0, 0, 0, ⟨0, 0, 0⟩⟩, [], 10) := if_neg h
theorem putB_small1 {n : Nat} (h : n ≤ 8) : putB 9 (n : Int) = [UInt8.ofNat n] := by
  rw [putB_small 9 _ (by omega), Int.toNat_natCast]
theorem u8_inj {a b : Nat} (ha : a ≤ 8) (hb : b ≤ 8) (h : UInt8.ofNat a = UInt8.ofNat b) : a = b := by
  have h1 := congrArg UInt8.toNat h
  rw [UInt8.toNat_ofNat_of_lt' (by simp [UInt8.size]; omega), UInt8.toNat_ofNat_of_lt' (by simp [UInt8.size]; omega)] at h1
  exact h1
/-- The list that breaks off where nothing is left. -/
theorem list_read {s : ByteArray} (hs : s.size ≤ 1000000000) {R : Rdr} {n k : Nat} (hR : R = ((hdR (r0 s)).2.small 8).2) (hn : n = ((hdR (r0 s)).2.small 8).1.toNat) (hk : k ≤ n) (hkn : k = n ∨ (takeN k R).2.left = 0) :
    (((takeN k R).2.fin = 0 ∧ recP (hdR (r0 s)).1 (takeN k R).1 ∧ recT (hdR (r0 s)).1 (takeN k R).1 = s) ↔ rrOk s) ∧ (rrOk s → (takeN k R).1 = (tkV (hdR (r0 s)).2).1) := by
  have hok := hdR_ok (r0_ok hs)
  have h8 := small8 hok.1
  have hsm := Rdr.small_ok hok.1 8
  rw [← hR] at hsm
  have hT : tkV (hdR (r0 s)).2 = takeN n R := by unfold tkV; rw [hR, hn]
  unfold rrOk
  rw [hT]
  have hn8 : n ≤ 8 := by omega
  by_cases hb : (takeN k R).2.bad = true
  · have hb2 := takeN_keep R k n hk hb
    have f1 := fin_ne hb
    have f2 := fin_ne hb2
    exact ⟨⟨fun h => absurd h.1 f1, fun h => absurd h.1 f2⟩, fun h => absurd h.1 f2⟩
  · have hb' : (takeN k R).2.bad = false := by simpa using hb
    obtain ⟨g1, g2, g3⟩ := takeN_good hsm.1 k hb'
    rw [hR] at g1
    obtain ⟨s1, s2, s3, s4⟩ := small_good hok.1 g1
    obtain ⟨d1, d2, d3⟩ := hd_good (r0_ok hs) s1
    rw [r0_rest, s4, ← hR, g3] at d2
    have hcn : ((hdR (r0 s)).2.small 8).1 = (n : Int) := by omega
    rw [hcn] at d2
    have hlen := takeN_length k R
    rcases Nat.lt_or_ge k n with hlt | hge
    · have hleft : (takeN k R).2.left = 0 := by rcases hkn with h | h; omega; exact h
      have hrest := left_rest (takeN_ok hsm.1 k).1 hleft hb'
      have hbad : (takeN n R).2.bad = true := takeN_keep R (k + 1) n (by omega) (small_nil (takeN_ok hsm.1 k).1 _ hrest)
      have f2 := fin_ne hbad
      refine ⟨⟨fun h => ?_, fun h => absurd h.1 f2⟩, fun h => absurd h.1 f2⟩
      exfalso
      obtain ⟨h1, h2, h3⟩ := h
      have hp : (takeN k R).1 = pl (takeN k R).1 := h2.2.2.1
      rw [ba_data, recT_data _ _ d3, d2, hrest, List.append_nil, ← hp] at h3
      unfold mtB at h3
      rw [hlen] at h3
      have h4 := List.append_cancel_right (List.append_cancel_left h3)
      rw [putB_small1 (by omega), putB_small1 hn8] at h4
      simp only [List.cons.injEq, and_true] at h4
      have := u8_inj (by omega) hn8 h4
      omega
    · obtain rfl : k = n := by omega
      refine ⟨⟨fun h => ⟨h.1, h.2.1⟩, fun h => ⟨h.1, h.2, ?_⟩⟩, fun _ => rfl⟩
      have hp : (takeN k R).1 = pl (takeN k R).1 := h.2.2.2.1
      have hrest := ((fin_rest (takeN_ok hsm.1 k).1).1 h.1).2
      rw [ba_data, recT_data _ _ d3, d2, hrest, List.append_nil, ← hp]
      unfold mtB
      rw [hlen]
/-- A point. -/
def rdPt (r : Rdr) : Pt × Rdr := (⟨r.text.1, (r.text.2.small 1099511627776).1, (r.text.2.small 1099511627776).2.int.1, (takeV (r.text.2.small 1099511627776).2.int.2).1⟩, (takeV (r.text.2.small 1099511627776).2.int.2).2)
def ptb (p : Pt) : List UInt8 := tb p.series ++ (putB 9 p.time ++ (putB 9 (zig p.value) ++ stL p.st))
theorem rdPt_ok {r : Rdr} (hr : r.ok) : (rdPt r).2.ok ∧ (rdPt r).2.s = r.s := by
  have k2 := Rdr.text_ok hr
  have k3 := Rdr.small_ok k2.1 1099511627776
  have k4 := Rdr.int_ok k3.1
  have k5 := takeV_ok k4.1
  exact ⟨k5.1, k5.2.trans (k4.2.trans (k3.2.trans k2.2))⟩
theorem rdPt_good {r : Rdr} (hr : r.ok) (h : (rdPt r).2.bad = false) : r.bad = false ∧ r.rest = ptb (rdPt r).1 ++ (rdPt r).2.rest ∧ okV (rdPt r).1.st = true := by
  have k2 := Rdr.text_ok hr
  have k3 := Rdr.small_ok k2.1 1099511627776
  have k4 := Rdr.int_ok k3.1
  obtain ⟨a1, a2, a3⟩ := takeV_good k4.1 h
  obtain ⟨b1, b2, b3⟩ := int_good k3.1 a1
  obtain ⟨c1, c2, c3, c4⟩ := small_good k2.1 b1
  obtain ⟨d1, d2, d3⟩ := text_good hr c1
  refine ⟨d1, ?_, a2⟩
  rw [d2, c4, b3, a3]
  simp only [ptb, rdPt, List.append_assoc]
theorem clockV_range {t : Int} (h : clockV t = true) : 0 ≤ t ∧ t ≤ 1099511627776 := by
  unfold clockV at h
  simpa using h
theorem chkP_0 {p : Pt} (h : chkP p = 0) : nameV p.series = true ∧ (0 ≤ p.time ∧ p.time ≤ 1099511627776) ∧ okV p.st = true := by
  unfold chkP at h
  split at h
  · rename_i hc
    refine ⟨hc.1, clockV_range hc.2, ?_⟩
    unfold chkV at h
    split at h
    · assumption
    · cases h
  · cases h
theorem rdPt_at {r : Rdr} {p : Pt} {t : List UInt8} (hr : r.ok) (hb : r.bad = false) (hp : chkP p = 0) (hw : p.wf) (h : r.rest = ptb p ++ t) : (rdPt r).1 = p ∧ (rdPt r).2.bad = false ∧ (rdPt r).2.rest = t := by
  obtain ⟨h1, h2, h3⟩ := chkP_0 hp
  unfold ptb at h
  simp only [List.append_assoc] at h
  have k2 := Rdr.text_ok hr
  have k3 := Rdr.small_ok k2.1 1099511627776
  have k4 := Rdr.int_ok k3.1
  obtain ⟨a1, a2, a3⟩ := text_at hr hb h
  obtain ⟨b1, b2, b3⟩ := small_at (most := 1099511627776) k2.1 a2 a3 h2.1 h2.2 (by decide)
  obtain ⟨c1, c2, c3⟩ := int_at k3.1 b2 b3 hw.2.2.1
  obtain ⟨d1, d2, d3⟩ := take_at k4.1 c2 h3 c3
  refine ⟨?_, d2, d3⟩
  unfold rdPt
  rw [a1, b1, c1, d1]
def takeQ : Nat → Rdr → List Pt × Rdr
  | 0, r => ([], r)
  | n + 1, r => ((takeQ n r).1 ++ [(rdPt (takeQ n r).2).1], (rdPt (takeQ n r).2).2)
theorem takeQ_length (n : Nat) (r : Rdr) : (takeQ n r).1.length = n := by
  induction n with
  | zero => rfl
  | succ n ih => simp [takeQ, ih]
theorem takeQ_ok {r : Rdr} (hr : r.ok) (n : Nat) : (takeQ n r).2.ok ∧ (takeQ n r).2.s = r.s := by
  induction n with
  | zero => exact ⟨hr, rfl⟩
  | succ n ih =>
    have := rdPt_ok ih.1
    exact ⟨this.1, this.2.trans ih.2⟩
theorem rdPt_keep {r : Rdr} (hr : r.ok) (h : r.bad = true) : (rdPt r).2.bad = true := by
  rcases hh : (rdPt r).2.bad with _ | _
  · rw [(rdPt_good hr hh).1] at h
    cases h
  · rfl
theorem takeQ_keep {r : Rdr} (hr : r.ok) (k n : Nat) (hk : k ≤ n) (h : (takeQ k r).2.bad = true) : (takeQ n r).2.bad = true := by
  induction n with
  | zero => obtain rfl : k = 0 := by omega
            exact h
  | succ n ih =>
    rcases Nat.lt_or_ge n k with h' | h'
    · obtain rfl : k = n + 1 := by omega
      exact h
    · exact rdPt_keep (takeQ_ok hr n).1 (ih h')
def ptsb (l : List Pt) : List UInt8 := l.flatMap ptb
theorem ptsb_append (l m : List Pt) : ptsb (l ++ m) = ptsb l ++ ptsb m := by simp [ptsb]
theorem ptsb_one (p : Pt) : ptsb [p] = ptb p := by simp [ptsb]
theorem takeQ_good {r : Rdr} (hr : r.ok) (n : Nat) (h : (takeQ n r).2.bad = false) : r.bad = false ∧ (∀ p ∈ (takeQ n r).1, okV p.st = true) ∧ r.rest = ptsb (takeQ n r).1 ++ (takeQ n r).2.rest := by
  induction n with
  | zero => exact ⟨h, by simp [takeQ], by simp [takeQ, ptsb]⟩
  | succ n ih =>
    obtain ⟨g1, g2, g3⟩ := rdPt_good (takeQ_ok hr n).1 h
    obtain ⟨i1, i2, i3⟩ := ih g1
    refine ⟨i1, ?_, ?_⟩
    · intro x hx
      simp only [takeQ, List.mem_append, List.mem_singleton] at hx
      rcases hx with hx | rfl
      · exact i2 x hx
      · exact g3
    · simp only [takeQ]
      rw [ptsb_append, ptsb_one, List.append_assoc, ← g2, ← i3]
theorem takeQ_at {r : Rdr} (hr : r.ok) (hb : r.bad = false) (l : List Pt) (t : List UInt8) (hl : ∀ p ∈ l, chkP p = 0 ∧ p.wf) (h : r.rest = ptsb l ++ t) (n : Nat) (hn : n ≤ l.length) :
    (takeQ n r).1 = l.take n ∧ (takeQ n r).2.bad = false ∧ (takeQ n r).2.rest = ptsb (l.drop n) ++ t := by
  induction n with
  | zero => exact ⟨by simp [takeQ], hb, by simpa [takeQ] using h⟩
  | succ n ih =>
    obtain ⟨i1, i2, i3⟩ := ih (by omega)
    have hlt : n < l.length := by omega
    have hx := hl l[n] (List.getElem_mem hlt)
    rw [List.drop_eq_getElem_cons hlt, show l[n] :: l.drop (n + 1) = [l[n]] ++ l.drop (n + 1) from rfl, ptsb_append, ptsb_one, List.append_assoc] at i3
    obtain ⟨s1, s2, s3⟩ := rdPt_at (takeQ_ok hr n).1 i2 hx.1 hx.2 i3
    refine ⟨?_, s2, s3⟩
    simp only [takeQ]
    rw [i1, s1, List.take_succ_eq_append_getElem hlt]
def okPts (l : List Pt) : Prop := ∀ p ∈ l, chkP p = 0
def ptsL (l : List Pt) : List UInt8 := putB 9 (l.length : Int) ++ ptsb l
open Classical in
noncomputable def ptsV (l : List Pt) : ByteArray × Int := if okPts l then (if l.length ≤ 1000 then (⟨(ptsL l).toArray⟩, 0) else (⟨#[]⟩, 11)) else (⟨#[]⟩, 1)
def rpOk (s : ByteArray) : Prop := (takeQ ((r0 s).small 1000).1.toNat ((r0 s).small 1000).2).2.fin = 0 ∧ okPts (takeQ ((r0 s).small 1000).1.toNat ((r0 s).small 1000).2).1
open Classical in
noncomputable def readP (s : ByteArray) : List Pt × Int := if rpOk s then ((takeQ ((r0 s).small 1000).1.toNat ((r0 s).small 1000).2).1, 0) else ([], 10)
theorem readP_pos {s : ByteArray} (h : rpOk s) : readP s = ((takeQ ((r0 s).small 1000).1.toNat ((r0 s).small 1000).2).1, 0) := if_pos h
theorem readP_neg {s : ByteArray} (h : ¬ rpOk s) : readP s = ([], 10) := if_neg h
theorem small_range {r : Rdr} (hr : r.ok) {m : Int} (hm : 0 ≤ m) : 0 ≤ (r.small m).1 ∧ (r.small m).1 ≤ m := by
  rcases hb : (r.small m).2.bad with _ | _
  · have := small_good hr hb
    omega
  · have := Rdr.small_bad m hb
    omega
theorem putB_inj {a b : Int} (ha0 : 0 ≤ a) (ha1 : a < 18446744073709551616) (hb0 : 0 ≤ b) (hb1 : b < 18446744073709551616) (h : putB 9 a = putB 9 b) : a = b := by
  refine vput_inj ha0 ha1 hb0 hb1 ?_
  rw [vput_ba, vput_ba, h]
theorem okPts_take {l : List Pt} (h : okPts l) (k : Nat) : okPts (l.take k) := fun p hp => h p (List.mem_of_mem_take hp)
theorem list_readP {s : ByteArray} (hs : s.size ≤ 1000000000) {R : Rdr} {n k : Nat} (hR : R = ((r0 s).small 1000).2) (hn : n = ((r0 s).small 1000).1.toNat) (hk : k ≤ n) (hkn : k = n ∨ (takeQ k R).2.left = 0) :
    (((takeQ k R).2.fin = 0 ∧ (ptsV (takeQ k R).1).2 = 0 ∧ (ptsV (takeQ k R).1).1 = s) ↔ rpOk s) ∧ (rpOk s → (takeQ k R).1 = (takeQ ((r0 s).small 1000).1.toNat ((r0 s).small 1000).2).1) := by
  have hok := r0_ok hs
  have h8 := small_range hok (m := 1000) (by decide)
  have hsm := Rdr.small_ok hok 1000
  rw [← hR] at hsm
  unfold rpOk
  rw [← hR, ← hn]
  have hn8 : n ≤ 1000 := by omega
  have hlen := takeQ_length k R
  have hpv : (ptsV (takeQ k R).1).2 = 0 ↔ okPts (takeQ k R).1 := by
    unfold ptsV
    split
    · rename_i h1
      rw [if_pos (by omega)]
      exact ⟨fun _ => h1, fun _ => rfl⟩
    · rename_i h1
      exact ⟨fun h => absurd h (by decide), fun h => absurd h h1⟩
  have hpw : okPts (takeQ k R).1 → (ptsV (takeQ k R).1).1 = ⟨(ptsL (takeQ k R).1).toArray⟩ := fun h => by
    unfold ptsV
    rw [if_pos h, if_pos (by omega)]
  by_cases hb : (takeQ k R).2.bad = true
  · have hb2 := takeQ_keep hsm.1 k n hk hb
    have f1 := fin_ne hb
    have f2 := fin_ne hb2
    exact ⟨⟨fun h => absurd h.1 f1, fun h => absurd h.1 f2⟩, fun h => absurd h.1 f2⟩
  · have hb' : (takeQ k R).2.bad = false := by simpa using hb
    obtain ⟨g1, g2, g3⟩ := takeQ_good hsm.1 k hb'
    rw [hR] at g1
    obtain ⟨s1, s2, s3, s4⟩ := small_good hok g1
    rw [r0_rest, ← hR, g3] at s4
    have hcn : ((r0 s).small 1000).1 = (n : Int) := by omega
    rw [hcn] at s4
    rcases Nat.lt_or_ge k n with hlt | hge
    · have hleft : (takeQ k R).2.left = 0 := by rcases hkn with h | h; omega; exact h
      have hrest := left_rest (takeQ_ok hsm.1 k).1 hleft hb'
      have hbad : (takeQ n R).2.bad = true := by
        refine takeQ_keep hsm.1 (k + 1) n (by omega) ?_
        rcases hh : (takeQ (k + 1) R).2.bad with _ | _
        · have h5 := (rdPt_good (takeQ_ok hsm.1 k).1 hh).2.1
          rw [hrest] at h5
          have h6 := (List.append_eq_nil_iff.1 h5.symm).1
          unfold ptb tb at h6
          exact absurd (List.append_eq_nil_iff.1 (List.append_eq_nil_iff.1 h6).1).1 (putB_ne _)
        · rfl
      have f2 := fin_ne hbad
      refine ⟨⟨fun h => ?_, fun h => absurd h.1 f2⟩, fun h => absurd h.1 f2⟩
      exfalso
      obtain ⟨h1, h2, h3⟩ := h
      rw [hpw (hpv.1 h2), ba_data] at h3
      simp only at h3
      rw [s4, hrest, List.append_nil] at h3
      unfold ptsL at h3
      rw [hlen] at h3
      have h4 := putB_inj (by omega) (by omega) (by omega) (by omega) (List.append_cancel_right h3)
      omega
    · obtain rfl : k = n := by omega
      refine ⟨⟨fun h => ⟨h.1, hpv.1 h.2.1⟩, fun h => ⟨h.1, hpv.2 h.2, ?_⟩⟩, fun _ => rfl⟩
      have hrest := ((fin_rest (takeQ_ok hsm.1 k).1).1 h.1).2
      rw [hpw h.2, ba_data]
      simp only
      rw [s4, hrest, List.append_nil]
      unfold ptsL
      rw [hlen]
/-- What was written is read. -/
theorem hd_at {r : Rdr} {a : Rc} {ds : List Int} {t : List UInt8} (hr : r.ok) (hb : r.bad = false) (hp : recP a ds) (hw : a.wf) (h : r.rest = hdL a ++ t) : (hdR r).1 = a ∧ (hdR r).2.bad = false ∧ (hdR r).2.rest = t := by
  obtain ⟨p1, p2, p3, p4, p5⟩ := hp
  have hc := clockV_range p1
  unfold hdL at h
  simp only [List.append_assoc] at h
  have k1 := Rdr.small_ok hr 2
  obtain ⟨a1, a2, a3⟩ := small_at (most := 2) hr hb h (by omega) (by omega) (by decide)
  unfold midL at a3
  unfold hdR
  rw [a1]
  rcases p5 with ⟨q1, q2, q3⟩ | ⟨q1, q2, q3, q4, q5⟩
  · rw [if_pos q1] at a3 ⊢
    simp only [List.append_assoc] at a3
    have k2 := Rdr.text_ok k1.1
    have k3 := Rdr.small_ok k2.1 1099511627776
    have k4 := Rdr.int_ok k3.1
    obtain ⟨b1, b2, b3⟩ := text_at k1.1 a2 a3
    obtain ⟨c1, c2, c3⟩ := small_at (most := 1099511627776) k2.1 b2 b3 hc.1 hc.2 (by decide)
    obtain ⟨d1, d2, d3⟩ := int_at k3.1 c2 c3 hw.2.2.2.1
    obtain ⟨e1, e2, e3⟩ := take_at k4.1 d2 p2 d3
    refine ⟨?_, e2, e3⟩
    simp only
    rw [b1, c1, d1, show (takeV (hdA r)).1 = _ from e1, ← q3]
  · rw [if_neg (by omega)] at a3 ⊢
    simp only [List.append_assoc] at a3
    have k2 := Rdr.small_ok k1.1 3
    have k3 := Rdr.small_ok k2.1 1099511627776
    obtain ⟨b1, b2, b3⟩ := small_at (most := 3) k1.1 a2 a3 q4 q5 (by decide)
    obtain ⟨c1, c2, c3⟩ := small_at (most := 1099511627776) k2.1 b2 b3 hc.1 hc.2 (by decide)
    obtain ⟨e1, e2, e3⟩ := take_at k3.1 c2 p2 c3
    refine ⟨?_, e2, e3⟩
    have hs : (⟨#[]⟩ : ByteArray) = a.series := by
      have : a.series.data.toList = [] := List.eq_nil_of_length_eq_zero (by simpa using q2)
      rw [ba_data]; exact this.symm
    simp only
    rw [b1, c1, show (takeV (hdB r)).1 = _ from e1, hs, ← q3]
theorem pl_bound {ds : List Int} (h : ds = pl ds) : ∀ x ∈ ds, 0 ≤ x ∧ x ≤ 1099511627776 := by
  intro x hx
  obtain ⟨k, hk, rfl⟩ := List.mem_iff_getElem.1 hx
  have := pl_range ds k
  rw [← h, List.getD_eq_getElem?_getD, List.getElem?_eq_getElem hk] at this
  exact this
theorem read_rec_at {s : ByteArray} (hs : s.size ≤ 1000000000) {a : Rc} {ds : List Int} {t : List UInt8} (hp : recP a ds) (hw : a.wf) (h : s.data.toList = hdL a ++ (mtB (pl ds) ++ t)) :
    (hdR (r0 s)).1 = a ∧ (tkV (hdR (r0 s)).2).1 = ds ∧ (tkV (hdR (r0 s)).2).2.bad = false ∧ (tkV (hdR (r0 s)).2).2.rest = t := by
  obtain ⟨a1, a2, a3⟩ := hd_at (r0_ok hs) rfl hp hw (by rw [r0_rest]; exact h)
  have hok := hdR_ok (r0_ok hs)
  have hds : ds = pl ds := hp.2.2.1
  have hl := pl_length ds
  rw [← hds] at a3 hl
  unfold mtB at a3
  rw [List.append_assoc] at a3
  obtain ⟨b1, b2, b3⟩ := small_at (most := 8) hok.1 a2 a3 (by omega) (by omega) (by decide)
  have hsm := Rdr.small_ok hok.1 8
  obtain ⟨c1, c2, c3⟩ := takeN_at hsm.1 b2 ds t (pl_bound hds) b3 ds.length (Nat.le_refl _)
  unfold tkV
  rw [b1, Int.toNat_natCast]
  refine ⟨a1, by rw [c1, List.take_length], c2, by rw [c3, List.drop_length]; simp [mcat]⟩
theorem read_rec {a : Rc} {ds : List Int} (hp : recP a ds) (hw : a.wf) (hs : (recT a ds).size ≤ 1000000000) : readR (recT a ds) = (a, ds, 0) := by
  obtain ⟨h1, h2, h3, h4⟩ := read_rec_at (t := []) hs hp hw (by rw [recT_data _ _ hp.2.1, List.append_nil])
  have hok := (tkV_ok (hdR_ok (r0_ok hs)).1).1
  rw [readR_pos ⟨(fin_rest hok).2 ⟨h3, h4⟩, by rw [h1, h2]; exact hp⟩, h1, h2]
theorem hd_wf {r : Rdr} (hr : r.ok) : (hdR r).1.wf := by
  have z : i64' 0 := ⟨by decide, by decide⟩
  have k1 := Rdr.small_ok hr 2
  have g1 := small_range hr (m := 2) (by decide)
  have sb : ∀ (x : Rdr), x.ok → i64' (x.small 1099511627776).1 := fun x hx => by have := small_range hx (m := 1099511627776) (by decide); unfold i64'; omega
  have tk : ∀ (x : Rdr), x.ok → i64' (takeV x).1.clock ∧ i64' (takeV x).1.site ∧ i64' (takeV x).1.seq := fun x hx => by
    unfold takeV
    split
    · rename_i h
      obtain ⟨⟨a1, a2⟩, ⟨a3, a4⟩, a5, a6⟩ := okV_range h
      unfold i64'
      omega
    · exact ⟨z, z, z⟩
  have it : ∀ (x : Rdr), x.ok → i64' x.int.1 := fun x hx => by
    have := Rdr.num_ok hx
    exact zag_range _ this.2.1 this.2.2.1
  unfold hdR
  split
  · have k2 := Rdr.text_ok k1.1
    have k3 := Rdr.small_ok k2.1 1099511627776
    have k4 := Rdr.int_ok k3.1
    refine ⟨by unfold i64'; simp only; omega, ?_, sb _ k2.1, it _ k3.1, z, (tk _ k4.1).1, (tk _ k4.1).2.1, (tk _ k4.1).2.2⟩
    simp only
    have hs := k1.1.1
    unfold Rdr.text
    split
    · simp [ByteArray.size]
    · simp only [ByteArray.size_extract]
      omega
  · have k2 := Rdr.small_ok k1.1 3
    have k3 := Rdr.small_ok k2.1 1099511627776
    have g3 := small_range k1.1 (m := 3) (by decide)
    exact ⟨by unfold i64'; simp only; omega, by simp [ByteArray.size], sb _ k2.1, z, by unfold i64'; simp only; omega, (tk _ k3.1).1, (tk _ k3.1).2.1, (tk _ k3.1).2.2⟩
end
end Go.Proofs.YtglabahbklpocaaGreat
