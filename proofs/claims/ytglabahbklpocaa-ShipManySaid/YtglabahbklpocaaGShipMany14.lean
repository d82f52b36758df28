/- The Reader of the package vint, more: Left, End, Text, Read. The reference Get: its plain law and its contract. The reference's Reader: each method answers and leaves behind what the program's does. -/
import Derived.Test.YtglabahbklpocaaGShipMany13
import Derived.Test.YtglabahbklpocaaGShipMany12
import Derived.Test.YtglabahbklpocaaGShipMany4
import Derived.RegionCalls
import Derived.Deep.RegionWith
namespace Go.Proofs.Ytglabahbklpocaa
section
open Go.RowKit
set_option maxRecDepth 100000
set_option linter.unusedVariables false
set_option linter.unusedSimpArgs false
def QuietFrom (w w' : World) : Prop := ∃ n, w' = w.drewN n
theorem QuietFrom.but {g : Nat} {w w' : World} (h : QuietFrom w w') : But g w w' := by obtain ⟨n, rfl⟩ := h; exact But.drewN g n w
theorem QuietFrom.rdr {T : TypeId} {g : Nat} {r : Rdr} {w w' : World} (h : QuietFrom w w') (k : RdrAt T w g r) : RdrAt T w' g r := by obtain ⟨n, rfl⟩ := h; exact k
theorem QuietFrom.below {B : Nat} {w w' : World} (h : QuietFrom w w') : Below B w w' := by obtain ⟨n, rfl⟩ := h; exact ⟨rfl, rfl, rfl, Nat.le_refl _, fun _ _ => rfl⟩
set_option maxHeartbeats 1000000 in
theorem rdr_left (g : Nat) (r : Rdr) (w : World) (h : RdrAt 132 w g r) (hr : r.ok) :
    Calls Try.prog 91 #[.pointer (some ⟨g, 0, none⟩)] w fun e w' => e = .returned (.int .i64 r.left) ∧ QuietFrom w w' := by
  have c0 := h.c0
  have c1 := h.c1
  have c2 := h.c2
  obtain ⟨s, p, bad⟩ := r
  obtain ⟨h1, h2, h3⟩ := hr
  simp only at c0 c1 c2 h1 h2 h3
  clear h
  cases bad
  · have hw : IntKind.i64.wrap ((s.size : Int) - p) = (s.size : Int) - p := IntWalk.i64_in _ (by omega)
    go_enter Try.func91, Try.ntmps91
    go_wp2
    go_quiet (fail)
    go_wp2
    go_ret
    exact ⟨rfl, ⟨nq, rfl⟩⟩
  · go_enter Try.func91, Try.ntmps91
    go_wp2
    go_ret
    exact ⟨rfl, ⟨0, rfl⟩⟩
set_option maxHeartbeats 1000000 in
theorem rdr_end (g : Nat) (r : Rdr) (w : World) (h : RdrAt 132 w g r) (hr : r.ok) :
    Calls Try.prog 63 #[.pointer (some ⟨g, 0, none⟩)] w fun e w' => e = .returned (.int .i64 r.fin) ∧ QuietFrom w w' := by
  have c0 := h.c0
  have c1 := h.c1
  have c2 := h.c2
  obtain ⟨s, p, bad⟩ := r
  obtain ⟨h1, h2, h3⟩ := hr
  simp only at c0 c1 c2 h1 h2 h3
  clear h
  cases bad
  · by_cases hp : p < (s.size : Int)
    · have t1 : decide (p < (s.size : Int)) = true := decide_eq_true hp
      have HF : Hid ((⟨s, p, false⟩ : Rdr).fin = 10) := by show Rdr.fin _ = _; unfold Rdr.fin; rw [if_pos (.inr hp)]
      go_enter Try.func63, Try.ntmps63
      go_wp2
      go_quiet (fail)
      go_wp2
      go_ret
      exact ⟨ret_num HF.out.symm, ⟨nq, rfl⟩⟩
    · have t1 : decide (p < (s.size : Int)) = false := decide_eq_false hp
      have HF : Hid ((⟨s, p, false⟩ : Rdr).fin = 0) := by show Rdr.fin _ = _; unfold Rdr.fin; rw [if_neg (by simp; omega)]
      go_enter Try.func63, Try.ntmps63
      go_wp2
      go_quiet (fail)
      go_wp2
      go_ret
      exact ⟨ret_num HF.out.symm, ⟨nq, rfl⟩⟩
  · have HF : Hid ((⟨s, p, true⟩ : Rdr).fin = 10) := by show Rdr.fin _ = _; unfold Rdr.fin; rw [if_pos (.inl rfl)]
    go_enter Try.func63, Try.ntmps63
    go_wp2
    go_quiet (fail)
    go_wp2
    go_ret
    exact ⟨ret_num HF.out.symm, ⟨nq, rfl⟩⟩
theorem rdr_read (s : ByteArray) (w : World) :
    Calls Try.prog 52 #[.string s] w fun e w' => e = .returned (.pointer (some ⟨w.heap.size, 0, none⟩)) ∧ RdrAt 132 w' w.heap.size ⟨s, 0, false⟩ ∧ Below w.heap.size w w' := by
  go_enter Try.func52, Try.ntmps52
  go_wp2
  go_ret
  exact ⟨rfl, heap_alloc_new w _, (Below.refl _ _).alloc (Nat.le_refl _) _⟩
set_option maxHeartbeats 1000000 in
theorem rdr_text (g : Nat) (r : Rdr) (w : World) (h : RdrAt 132 w g r) (hr : r.ok) :
    Calls Try.prog 59 #[.pointer (some ⟨g, 0, none⟩)] w fun e w' => e = .returned (.string r.text.1) ∧ RdrAt 132 w' g r.text.2 ∧ But g w w' := by
  have hk := Rdr.num_ok hr
  go_enter Try.func59, Try.ntmps59
  go_wp2_with fail
  refine (rdr_num g r _ h hr).mono ?_
  rintro e w1 ⟨rfl, h1, hb1⟩
  have HS : Hid (r.text = if r.num.2.bad = true ∨ r.num.2.left < r.num.1 then (⟨#[]⟩, { r.num.2 with bad := true }) else
    (r.num.2.s.extract r.num.2.pos.toNat (r.num.2.pos + r.num.1).toNat, { r.num.2 with pos := r.num.2.pos + r.num.1 })) := by
    show r.text = _
    unfold Rdr.text
    rw [hk.2.2.2]
  generalize r.num = q at *
  obtain ⟨v, r1⟩ := q
  simp only at h1 hk
  have HK := Lib.hid hk
  clear hk
  go_wp2_with fail
  refine (rdr_left g r1 _ h1 HK.out.1).mono ?_
  rintro e w2 ⟨rfl, hq2⟩
  have h2 := hq2.rdr h1
  have hb2 := hb1.trans hq2.but
  have hleft : 0 ≤ r1.left ∧ r1.left ≤ 1000000000 := by
    unfold Rdr.left
    have := HK.out.1
    unfold Rdr.ok at this
    split <;> omega
  have hwl : IntKind.u64.wrap r1.left = r1.left := by rw [wrap_u64]; omega
  by_cases hle : v ≤ r1.left
  · have t1 : decide (v ≤ r1.left) = true := decide_eq_true hle
    cases hbd : r1.bad
    · have HL : Hid (r1.left = (r1.s.size : Int) - r1.pos) := by show r1.left = _; unfold Rdr.left; rw [if_neg (by rw [hbd]; decide)]
      have HS2 := Lib.hid (HS.out.trans (if_neg (show ¬ (r1.bad = true ∨ r1.left < v) by rw [hbd]; simp; omega)))
      have HB := Lib.hid hbd
      clear hbd
      go_wp2_with fail
      refine (rdr_ok g r1 true _ h2).mono ?_
      rintro e w3 ⟨rfl, rfl⟩
      rw [HB.out, show (false || !true) = false from rfl]
      have h3 := h2.set2 false
      rw [Rdr.eta_bad r1 false HB.out] at h3
      have hb3 := hb2.trans (But.set g 2 w2 (.bool false))
      generalize w2.setCell ⟨g, 2, none⟩ (.bool false) = w4 at *
      have c0 := h3.c0
      have c1 := h3.c1
      have hpos := HK.out.1.2.1
      have hpos2 := HK.out.1.2.2
      have hv0 := HK.out.2.1
      have hle2 : r1.pos + v ≤ (r1.s.size : Int) := by have := HL.out; omega
      have hbig := HK.out.1.1
      have hw1 : wrap64 v = v := IntWalk.wrap64_in v ⟨by omega, by omega⟩
      have hw2 : IntKind.i64.wrap v = v := IntWalk.i64_in v ⟨by omega, by omega⟩
      have hw3 : IntKind.i64.wrap (r1.pos + v) = r1.pos + v := IntWalk.i64_in _ ⟨by omega, by omega⟩
      have hn3 : 0 ≤ r1.pos + v := by omega
      have hsl := str_slice (P := Try.prog) (T := 9) Try.underlying9 r1.s r1.pos (r1.pos + v) r1.pos.toNat (r1.pos + v).toNat (by omega) (by omega) (by omega) (by omega)
      have H3 := Lib.hid h3
      clear h3 h h1 h2
      go_wp2_with fail
      go_quiet (fail)
      have h4 : RdrAt 132 (w4.drewN nq) g r1 := H3.out
      have hb4 : But g w (w4.drewN nq) := hb3.trans (But.drewN g nq _)
      generalize w4.drewN nq = w5 at *
      have d1 := h4.c1
      have f1 := h4.fz 1
      go_wp2
      go_ret
      rw [HS2.out]
      exact ⟨rfl, h4.set1 _, hb4.trans (But.set g 1 _ _)⟩
    · have HS2 := Lib.hid (HS.out.trans (if_pos (show (r1.bad = true ∨ r1.left < v) by rw [hbd]; simp)))
      have HB := Lib.hid hbd
      clear hbd
      go_wp2_with fail
      refine (rdr_ok g r1 true _ h2).mono ?_
      rintro e w3 ⟨rfl, rfl⟩
      rw [HB.out, show (true || !true) = true from rfl]
      go_wp2
      go_ret
      rw [HS2.out]
      exact ⟨rfl, h2.set2 true, hb2.trans (But.set g 2 _ _)⟩
  · have t1 : decide (v ≤ r1.left) = false := decide_eq_false hle
    have HS2 := Lib.hid (HS.out.trans (if_pos (show (r1.bad = true ∨ r1.left < v) from .inr (by omega))))
    go_wp2_with fail
    refine (rdr_ok g r1 false _ h2).mono ?_
    rintro e w3 ⟨rfl, rfl⟩
    rw [show (r1.bad || !false) = true by simp]
    go_wp2
    go_ret
    rw [HS2.out]
    exact ⟨rfl, h2.set2 true, hb2.trans (But.set g 2 _ _)⟩
theorem Rdr.small_ok {r : Rdr} (h : r.ok) (most : Int) : (r.small most).2.ok ∧ (r.small most).2.s = r.s := by
  have hk := Rdr.num_ok h
  unfold Rdr.small
  split
  · exact ⟨hk.1, hk.2.2.2⟩
  · exact ⟨hk.1, hk.2.2.2⟩
theorem Rdr.int_ok {r : Rdr} (h : r.ok) : r.int.2.ok ∧ r.int.2.s = r.s := ⟨(Rdr.num_ok h).1, (Rdr.num_ok h).2.2.2⟩
theorem Rdr.text_ok {r : Rdr} (h : r.ok) : r.text.2.ok ∧ r.text.2.s = r.s := by
  have hk := Rdr.num_ok h
  unfold Rdr.text
  split
  · exact ⟨hk.1, hk.2.2.2⟩
  · rename_i hc
    refine ⟨⟨hk.1.1, ?_, ?_⟩, hk.2.2.2⟩
    · have := hk.1.2.1; simp only; omega
    · have hb : ¬ r.num.2.bad = true := fun x => hc (.inl x)
      have : ¬ r.num.2.left < r.num.1 := fun x => hc (.inr x)
      unfold Rdr.left at this
      rw [if_neg hb] at this
      simp only; omega
end
end Go.Proofs.Ytglabahbklpocaa
namespace Go.Proofs.Ytglabahbklpocaa
section
open Go.RowKit
set_option maxRecDepth 100000
set_option linter.unusedVariables false
set_option linter.unusedSimpArgs false
theorem getL_all (f i : Nat) (l : List UInt8) (h : ∀ j b, j < i → l[j]? = some b → 128 ≤ b.toNat) :
    (f ≤ i ∨ l.length ≤ i → getL f l = none) ∧ (∀ b, i < f → l[i]? = some b → b.toNat < 128 → ∃ V, getL f l = some (V, i + 1)) := by
  induction f generalizing i l with
  | zero => exact ⟨fun _ => rfl, fun b hb => by omega⟩
  | succ f ih =>
    cases l with
    | nil => exact ⟨fun _ => rfl, fun b _ hb => by simp at hb⟩
    | cons x r =>
      cases i with
      | zero =>
        refine ⟨fun hc => by simp at hc, fun b _ hb h1 => ?_⟩
        simp at hb
        subst hb
        exact ⟨(x.toNat : Int), by rw [getL_cons, if_pos (by omega)]⟩
      | succ i =>
        have hx := h 0 x (by omega) rfl
        obtain ⟨g1, g2⟩ := ih i r (fun j b hj hb => h (j + 1) b (by omega) (by simpa using hb))
        refine ⟨fun hc => ?_, fun b hi hb h1 => ?_⟩
        · rw [getL_cons, if_neg (by omega), g1 (by simp at hc; omega)]; rfl
        · obtain ⟨V, hV⟩ := g2 b (by omega) (by simpa using hb) h1
          rw [getL_cons, if_neg (by omega), hV]
          exact ⟨_, rfl⟩
/-- The bytes ahead of place a + i go on. -/
def goOn (s : ByteArray) (a i : Nat) : Prop := ∀ j b, j < i → (s.data.toList.drop a)[j]? = some b → 128 ≤ b.toNat
theorem goOn_zero (s : ByteArray) (a : Nat) : goOn s a 0 := fun j b hj => by omega
theorem at_drop (s : ByteArray) (a i : Nat) (h : a + i < s.size) : (s.data.toList.drop a)[i]? = some s[a + i] := by
  rw [List.getElem?_drop, List.getElem?_eq_getElem (by simpa using h)]; rfl
theorem goOn_succ {s : ByteArray} {a i : Nat} (h : goOn s a i) (hlt : a + i < s.size) (hb : 128 ≤ s[a + i].toNat) : goOn s a (i + 1) := by
  intro j b hj hg
  rcases Nat.lt_or_ge j i with h1 | h1
  · exact h j b h1 hg
  · have : j = i := by omega
    subst this
    rw [at_drop s a j hlt] at hg
    cases hg
    exact hb
theorem goOn_end {s : ByteArray} {a i : Nat} (h : goOn s a i) (he : s.size ≤ a + i ∨ 10 ≤ i) : vget s a = (0, 0, 10) := by
  apply vget_fail
  refine (getL_all 10 i _ h).1 ?_
  rcases he with he | he
  · right; simp; omega
  · left; exact he
theorem goOn_last {s : ByteArray} {a i : Nat} (h : goOn s a i) (hi : i ≤ 9) (hlt : a + i < s.size) (hb : s[a + i].toNat < 128) :
    getL 10 (s.data.toList.drop a) = some (digV ((s.data.toList.drop a).take (i + 1)), i + 1) := by
  obtain ⟨V, hV⟩ := (getL_all 10 i _ h).2 _ (by omega) (at_drop s a i hlt) hb
  rw [hV, ← getL_digV _ _ _ _ hV]
theorem take_extract (s : ByteArray) (a n : Nat) : (s.data.toList.drop a).take n = (s.extract a (a + n)).data.toList := by
  simp [ByteArray.data_extract, List.extract_eq_take_drop]
/-- What the reference's last look tells. -/
theorem rget_good {s : ByteArray} {a i : Nat} {v : Int} (h : goOn s a i) (hi : i ≤ 9) (hlt : a + i < s.size) (hb : s[a + i].toNat < 128)
    (hv : v = digV ((s.data.toList.drop a).take (i + 1)) % 18446744073709551616) (he : (vput v).toList = (s.extract a (a + (i + 1))).toList) : vget s a = (v, (a : Int) + (i + 1), 0) := by
  have hl := goOn_last h hi hlt hb
  rw [ByteArray.toList_eq, ByteArray.toList_eq, vput_data, ← take_extract, hv] at he
  have hc := (put_iff _ _ _ hl).1 he
  unfold vget
  rw [if_neg (by omega)]
  simp only [Int.toNat_natCast, hl]
  rw [if_pos hc, hv, Int.emod_eq_of_lt (digV_nn _) hc.1]
  simp
theorem rget_bad {s : ByteArray} {a i : Nat} {v : Int} (h : goOn s a i) (hi : i ≤ 9) (hlt : a + i < s.size) (hb : s[a + i].toNat < 128)
    (hv : v = digV ((s.data.toList.drop a).take (i + 1)) % 18446744073709551616) (he : ¬ (vput v).toList = (s.extract a (a + (i + 1))).toList) : vget s a = (0, 0, 10) := by
  have hl := goOn_last h hi hlt hb
  rw [ByteArray.toList_eq, ByteArray.toList_eq, vput_data, ← take_extract, hv] at he
  have hc : ¬ _ := fun x => he ((put_iff _ _ _ hl).2 x)
  unfold vget
  rw [if_neg (by omega)]
  simp only [Int.toNat_natCast, hl]
  rw [if_neg hc]

theorem digV_step (s : ByteArray) (a i j : Nat) (hj : j ≤ i) (hi : a + i < s.size) :
    digV (((s.data.toList.drop a).take (i + 1)).drop j) = (s[a + j].toNat : Int) % 128 + 128 * digV (((s.data.toList.drop a).take (i + 1)).drop (j + 1)) := by
  have hl : j < ((s.data.toList.drop a).take (i + 1)).length := by
    have : s.data.toList.length = s.size := by simp
    rw [List.length_take, List.length_drop]; omega
  rw [List.drop_eq_getElem_cons hl, digV]
  have e : ((s.data.toList.drop a).take (i + 1))[j] = s[a + j] := by
    rw [List.getElem_take, List.getElem_drop]; rfl
  rw [e]
theorem digV_end (s : ByteArray) (a i : Nat) : digV (((s.data.toList.drop a).take (i + 1)).drop (i + 1)) = 0 := by
  rw [List.drop_of_length_le (by simp; omega)]; rfl
end
end Go.Proofs.Ytglabahbklpocaa
namespace Go.Proofs.Ytglabahbklpocaa
section
open Go.RowKit
set_option maxRecDepth 100000
set_option linter.unusedVariables false
set_option linter.unusedSimpArgs false
theorem RdrAt.below {T : TypeId} {g : Nat} {r : Rdr} {w w' : World} (k : RdrAt T w g r) (h : Below w.heap.size w w') : RdrAt T w' g r := by
  unfold RdrAt
  rw [h.block g k.lt]
  exact k
end
end Go.Proofs.Ytglabahbklpocaa
