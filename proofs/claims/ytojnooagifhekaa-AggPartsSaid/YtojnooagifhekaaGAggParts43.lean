/- Plain law: what is known of points, as bytes, and read. No program is in sight. -/
import Derived.Test.YtojnooagifhekaaGAggParts40
import Derived.Test.YtojnooagifhekaaGAggParts41
import Derived.Test.YtojnooagifhekaaGAggParts27
import Derived.Test.YtojnooagifhekaaGAggParts42
import Derived.Test.YtojnooagifhekaaGAggParts8
namespace Go.Proofs.Ytojnooagifhekaa
section
set_option maxRecDepth 100000
set_option linter.unusedVariables false
set_option linter.unusedSimpArgs false
theorem num_goodA {r : Rdr} (hr : r.ok) (h : r.num.2.bad = false) : r.bad = false ∧ 0 ≤ r.num.1 ∧ r.num.1 < 18446744073709551616 ∧ r.rest = putB 9 r.num.1 ++ r.num.2.rest := by
  have hk := Rdr.num_ok hr
  unfold Rdr.num at *
  split at h
  · rename_i h1; rw [h1] at h; cases h
  · rename_i h1
    rw [if_neg h1] at hk ⊢
    split at h
    · rename_i h2
      rw [if_pos h2] at hk ⊢
      have hg : vget r.s r.pos = ((vget r.s r.pos).1, (vget r.s r.pos).2.1, 0) := by rw [← h2]
      obtain ⟨g1, g2, g3, g4, g5⟩ := vget_some hg
      exact ⟨by simpa using h1, g2, hk.2.2.1, g3⟩
    · simp at h
theorem num_atA {r : Rdr} {v : Int} {t : List UInt8} (hr : r.ok) (hb : r.bad = false) (h : r.rest = putB 9 v ++ t) (h0 : 0 ≤ v) (h1 : v < 18446744073709551616) :
    r.num.1 = v ∧ r.num.2.bad = false ∧ r.num.2.rest = t := by
  obtain ⟨a1, a2, a3⟩ := hr
  obtain ⟨g1, g2, g3⟩ := vget_at a2 a3 h h0 h1
  have hn : r.num = (v, { r with pos := r.pos + ((putI 9 v).length : Int) }) := by
    unfold Rdr.num
    rw [if_neg (by rw [hb]; decide), g1]
    simp
  rw [hn]
  exact ⟨rfl, hb, g2⟩
theorem num_badA {r : Rdr} (h : r.bad = true) : r.num = (0, r) := by
  unfold Rdr.num
  rw [if_pos h]
theorem num_fail {r : Rdr} (h : r.num.2.bad = true) : r.num.1 = 0 := by
  unfold Rdr.num at *
  split at h
  · rename_i h1; rw [if_pos h1]
  · rename_i h1
    rw [if_neg h1]
    split at h
    · rename_i h2; exact absurd h (by simpa using h1)
    · rename_i h2; rw [if_neg h2]
theorem int_atA {r : Rdr} {v : Int} {t : List UInt8} (hr : r.ok) (hb : r.bad = false) (h : r.rest = putB 9 (zig v) ++ t) (h0 : -9223372036854775808 ≤ v ∧ v ≤ 9223372036854775807) : r.int.1 = v ∧ r.int.2.bad = false ∧ r.int.2.rest = t := by
  have hz := zig_range v h0.1 h0.2
  obtain ⟨g1, g2, g3⟩ := num_atA hr hb h hz.1 hz.2
  refine ⟨?_, g2, g3⟩
  show zag r.num.1 = v
  rw [g1, zag_zig]
/-- Two readers that have the same before them. -/
structure Eqv (r r' : Rdr) : Prop where
  bad : r.bad = r'.bad
  rest : r.bad = false → r.rest = r'.rest
theorem Eqv.symm {r r' : Rdr} (h : Eqv r r') : Eqv r' r := ⟨h.bad.symm, fun k => (h.rest (by rw [h.bad]; exact k)).symm⟩
theorem num_eqv {r r' : Rdr} (hr : r.ok) (hr' : r'.ok) (h : Eqv r r') : r.num.1 = r'.num.1 ∧ Eqv r.num.2 r'.num.2 := by
  have key : ∀ {x y : Rdr}, x.ok → y.ok → Eqv x y → x.num.2.bad = false → y.num.1 = x.num.1 ∧ y.num.2.bad = false ∧ y.num.2.rest = x.num.2.rest := fun hx hy he hb => by
    obtain ⟨g1, g2, g3, g4⟩ := num_goodA hx hb
    exact num_atA hy (by rw [← he.bad]; exact g1) (by rw [← he.rest g1]; exact g4) g2 g3
  cases hb : r.num.2.bad with
  | false =>
    obtain ⟨k1, k2, k3⟩ := key hr hr' h hb
    exact ⟨k1.symm, by rw [hb, k2], fun _ => k3.symm⟩
  | true =>
    have hb' : r'.num.2.bad = true := by
      cases hb' : r'.num.2.bad with
      | true => rfl
      | false =>
        obtain ⟨_, k2, _⟩ := key hr' hr h.symm hb'
        rw [k2] at hb
        cases hb
    exact ⟨by rw [num_fail hb, num_fail hb'], by rw [hb, hb'], fun k => by rw [hb] at k; cases k⟩
theorem int_eqv {r r' : Rdr} (hr : r.ok) (hr' : r'.ok) (h : Eqv r r') : r.int.1 = r'.int.1 ∧ Eqv r.int.2 r'.int.2 := by
  obtain ⟨k1, k2⟩ := num_eqv hr hr' h
  exact ⟨by show zag _ = zag _; rw [k1], k2⟩
theorem small_eqv {r r' : Rdr} (hr : r.ok) (hr' : r'.ok) (h : Eqv r r') (m : Int) : (r.small m).1 = (r'.small m).1 ∧ Eqv (r.small m).2 (r'.small m).2 := by
  obtain ⟨k1, k2⟩ := num_eqv hr hr' h
  unfold Rdr.small
  rw [← k2.bad, ← k1]
  split
  · exact ⟨rfl, rfl, fun k => by cases k⟩
  · exact ⟨rfl, k2⟩
theorem takeP_eqv {r r' : Rdr} (hr : r.ok) (hr' : r'.ok) (h : Eqv r r') : (takeP r).1 = (takeP r').1 ∧ Eqv (takeP r).2 (takeP r').2 := by
  obtain ⟨a1, a2⟩ := small_eqv hr hr' h 1099511627776
  obtain ⟨b1, b2⟩ := small_eqv (Rdr.small_ok hr _).1 (Rdr.small_ok hr' _).1 a2 7
  obtain ⟨c1, c2⟩ := small_eqv (Rdr.small_ok (Rdr.small_ok hr _).1 _).1 (Rdr.small_ok (Rdr.small_ok hr' _).1 _).1 b2 1099511627776
  unfold takeP
  exact ⟨by rw [a1, b1, c1], c2⟩
theorem take_eqv {r r' : Rdr} (hr : r.ok) (hr' : r'.ok) (h : Eqv r r') : (takeV r).1 = (rtakeV r').1 ∧ Eqv (takeV r).2 (rtakeV r').2 := by
  obtain ⟨a1, a2⟩ := takeP_eqv hr hr' h
  unfold takeV rtakeV
  rw [← a1]
  split
  · exact ⟨a1, a2⟩
  · exact ⟨rfl, by rw [small_neg], fun k => by rw [small_neg] at k; cases k⟩
theorem takeN_eqv {r r' : Rdr} (hr : r.ok) (hr' : r'.ok) (h : Eqv r r') (n : Nat) : (takeN n r).1 = (takeN n r').1 ∧ Eqv (takeN n r).2 (takeN n r').2 := by
  induction n with
  | zero => exact ⟨rfl, h⟩
  | succ n ih =>
    obtain ⟨i1, i2⟩ := ih
    obtain ⟨k1, k2⟩ := small_eqv (takeN_ok hr n).1 (takeN_ok hr' n).1 i2 1099511627776
    simp only [takeN]
    exact ⟨by rw [i1, k1], k2⟩
theorem fin_eqv {r r' : Rdr} (hr : r.ok) (hr' : r'.ok) (h : Eqv r r') : r.fin = 0 ↔ r'.fin = 0 := by
  rw [fin_rest hr, fin_rest hr', ← h.bad]
  constructor
  · rintro ⟨h1, h2⟩; exact ⟨h1, by rw [← h.rest h1]; exact h2⟩
  · rintro ⟨h1, h2⟩; exact ⟨h1, by rw [h.rest h1]; exact h2⟩
theorem small_rangeA {r : Rdr} (hr : r.ok) {m : Int} (hm : 0 ≤ m) : 0 ≤ (r.small m).1 ∧ (r.small m).1 ≤ m := by
  have hk := Rdr.num_ok hr
  unfold Rdr.small
  split
  · exact ⟨Int.le_refl _, hm⟩
  · rename_i h
    exact ⟨hk.2.1, by show r.num.1 ≤ m; rcases Int.lt_or_le m r.num.1 with h' | h'; exact absurd (.inr (.inr h')) h; exact h'⟩
theorem int_rangeA {r : Rdr} (hr : r.ok) : -9223372036854775808 ≤ r.int.1 ∧ r.int.1 ≤ 9223372036854775807 := zag_range _ (Rdr.num_ok hr).2.1 (Rdr.num_ok hr).2.2.1
theorem take_wfA {r : Rdr} (hr : r.ok) : (takeV r).1.wf' := by
  have a1 := small_rangeA hr (m := 1099511627776) (by decide)
  have a2 := small_rangeA (Rdr.small_ok hr 1099511627776).1 (m := 7) (by decide)
  have a3 := small_rangeA (Rdr.small_ok (Rdr.small_ok hr 1099511627776).1 7).1 (m := 1099511627776) (by decide)
  unfold takeV takeP
  split
  · exact ⟨⟨by show -9223372036854775808 ≤ (r.small _).1; omega, by show (r.small _).1 ≤ _; omega⟩, ⟨by show -9223372036854775808 ≤ ((r.small _).2.small _).1; omega, by show ((r.small _).2.small _).1 ≤ _; omega⟩, ⟨by show -9223372036854775808 ≤ (((r.small _).2.small _).2.small _).1; omega, by show (((r.small _).2.small _).2.small _).1 ≤ _; omega⟩⟩
  · show (⟨0, 0, 0⟩ : St).wf'
    exact ⟨i64_0, i64_0, i64_0⟩
structure Rest5 where
  mn : Int
  mx : Int
  last : Int
  at_ : St
  bk : List Int
def i3 (r : Rdr) : Rdr := r.int.2.int.2.int.2
theorem i3_ok {r : Rdr} (h : r.ok) : (i3 r).ok ∧ (i3 r).s = r.s := by
  have h1 := Rdr.int_ok h
  have h2 := Rdr.int_ok h1.1
  have h3 := Rdr.int_ok h2.1
  exact ⟨h3.1, by show r.int.2.int.2.int.2.s = _; rw [h3.2, h2.2, h1.2]⟩
def agR (r : Rdr) : Rest5 × Rdr := (⟨r.int.1, r.int.2.int.1, r.int.2.int.2.int.1, (takeV (i3 r)).1, (takeN 9 (takeV (i3 r)).2).1⟩, (takeN 9 (takeV (i3 r)).2).2)
def ragR (r : Rdr) : Rest5 × Rdr := (⟨r.int.1, r.int.2.int.1, r.int.2.int.2.int.1, (rtakeV (i3 r)).1, (takeN 9 (rtakeV (i3 r)).2).1⟩, (takeN 9 (rtakeV (i3 r)).2).2)
theorem agR_2 (r : Rdr) : (agR r).2 = (takeN 9 (takeV (i3 r)).2).2 := by simp only [agR]
theorem agR_1 (r : Rdr) : (agR r).1 = ⟨r.int.1, r.int.2.int.1, r.int.2.int.2.int.1, (takeV (i3 r)).1, (takeN 9 (takeV (i3 r)).2).1⟩ := by simp only [agR]
theorem ragR_1 (r : Rdr) : (ragR r).1 = ⟨r.int.1, r.int.2.int.1, r.int.2.int.2.int.1, (rtakeV (i3 r)).1, (takeN 9 (rtakeV (i3 r)).2).1⟩ := by simp only [ragR]
theorem ragR_2 (r : Rdr) : (ragR r).2 = (takeN 9 (rtakeV (i3 r)).2).2 := by simp only [ragR]
theorem agR_eqv {r r' : Rdr} (hr : r.ok) (hr' : r'.ok) (h : Eqv r r') : (agR r).1 = (ragR r').1 ∧ Eqv (agR r).2 (ragR r').2 := by
  obtain ⟨a1, a2⟩ := int_eqv hr hr' h
  obtain ⟨b1, b2⟩ := int_eqv (Rdr.int_ok hr).1 (Rdr.int_ok hr').1 a2
  obtain ⟨c1, c2⟩ := int_eqv (Rdr.int_ok (Rdr.int_ok hr).1).1 (Rdr.int_ok (Rdr.int_ok hr').1).1 b2
  obtain ⟨d1, d2⟩ := take_eqv (i3_ok hr).1 (i3_ok hr').1 c2
  obtain ⟨e1, e2⟩ := takeN_eqv (takeV_ok (i3_ok hr).1).1 (rtakeV_ok (i3_ok hr').1).1 d2 9
  unfold agR ragR
  exact ⟨by rw [a1, b1, c1, d1, e1], e2⟩
def fillA (c : Int) (w : Wd) (q : Rest5) : Ag := ⟨c, w, q.mn, q.mx, q.last, q.at_, q.bk⟩
def cntA (c : Int) : Ag := ⟨c, ⟨0, 0⟩, 0, 0, 0, ⟨0, 0, 0⟩, List.replicate 9 0⟩
open Classical in
noncomputable def finA (a : Ag) (r : Rdr) : Ag × Int := if r.fin = 0 ∧ okA a then (a, 0) else (Ag0, 10)
theorem finA_pos {a : Ag} {r : Rdr} (h1 : r.fin = 0) (h2 : okA a) : finA a r = (a, 0) := if_pos ⟨h1, h2⟩
theorem finA_neg {a : Ag} {r : Rdr} (h : ¬ (r.fin = 0 ∧ okA a)) : finA a r = (Ag0, 10) := if_neg h
theorem finA_eq {a : Ag} {r r' : Rdr} (h : r.fin = 0 ↔ r'.fin = 0) : finA a r = finA a r' := by
  by_cases h1 : r.fin = 0 ∧ okA a
  · rw [finA_pos h1.1 h1.2, finA_pos (h.1 h1.1) h1.2]
  · rw [finA_neg h1, finA_neg (fun h2 => h1 ⟨h.2 h2.1, h2.2⟩)]
def C0 (s : ByteArray) : Int × Rdr := (r0 s).small 1099511627776
def sumS (s : ByteArray) : Wd := (readW (s.extract (C0 s).2.pos.toNat ((C0 s).2.pos + 16).toNat)).1
def tlS (s : ByteArray) : Rdr := r0 (s.extract ((C0 s).2.pos + 16).toNat s.size)
def rtlS (s : ByteArray) : Rdr := { (C0 s).2 with pos := (C0 s).2.pos + 16 }
noncomputable def readA (s : ByteArray) : Ag × Int :=
  if 0 < (C0 s).1 then (if (C0 s).2.left < 16 then (Ag0, 10) else finA (fillA (C0 s).1 (sumS s) (agR (tlS s)).1) (agR (tlS s)).2) else finA (cntA (C0 s).1) (C0 s).2
noncomputable def rreadA (s : ByteArray) : Ag × Int :=
  if 0 < (C0 s).1 then (if (C0 s).2.left < 16 then (Ag0, 10) else finA (fillA (C0 s).1 (sumS s) (ragR (rtlS s)).1) (ragR (rtlS s)).2) else finA (cntA (C0 s).1) (C0 s).2
theorem C0_ok {s : ByteArray} (hs : s.size ≤ 1000000000) : (C0 s).2.ok ∧ (C0 s).2.s = s := by
  have h := Rdr.small_ok (r0_ok hs) 1099511627776
  exact ⟨h.1, h.2⟩
theorem C0_good {s : ByteArray} (h : 0 < (C0 s).1) : (C0 s).2.bad = false := by
  cases hb : (C0 s).2.bad with
  | false => rfl
  | true =>
    have := Rdr.small_bad (r := r0 s) 1099511627776 hb
    unfold C0 at h
    omega
theorem C0_room {s : ByteArray} (hs : s.size ≤ 1000000000) (h : 0 < (C0 s).1) (h16 : ¬ (C0 s).2.left < 16) : 0 ≤ (C0 s).2.pos ∧ (C0 s).2.pos + 16 ≤ s.size := by
  have h1 := C0_ok hs
  have h2 := C0_good h
  unfold Rdr.left at h16
  rw [h2, h1.2] at h16
  obtain ⟨_, h3, _⟩ := h1.1
  simp at h16
  omega
theorem tlS_ok {s : ByteArray} (hs : s.size ≤ 1000000000) : (tlS s).ok := r0_ok (by rw [ByteArray.size_extract]; omega)
theorem rtlS_ok {s : ByteArray} (hs : s.size ≤ 1000000000) (h : 0 < (C0 s).1) (h16 : ¬ (C0 s).2.left < 16) : (rtlS s).ok := by
  have h1 := C0_ok hs
  have h2 := C0_room hs h h16
  refine ⟨by show (C0 s).2.s.size ≤ _; rw [h1.2]; exact hs, by show 0 ≤ (C0 s).2.pos + 16; omega, by show (C0 s).2.pos + 16 ≤ ((C0 s).2.s.size : Int); rw [h1.2]; exact h2.2⟩
theorem tl_eqv {s : ByteArray} (hs : s.size ≤ 1000000000) (h : 0 < (C0 s).1) (h16 : ¬ (C0 s).2.left < 16) : Eqv (tlS s) (rtlS s) := by
  have h1 := C0_ok hs
  have h2 := C0_room hs h h16
  refine ⟨(C0_good h).symm, fun _ => ?_⟩
  show (tlS s).s.data.toList.drop 0 = (C0 s).2.s.data.toList.drop ((C0 s).2.pos + 16).toNat
  rw [h1.2, List.drop_zero]
  show (s.extract _ _).data.toList = _
  rw [ByteArray.data_extract, Array.toList_extract]
  simp only [List.extract]
  exact List.take_of_length_le (by simp)
theorem read_same {s : ByteArray} (hs : s.size ≤ 1000000000) : readA s = rreadA s := by
  unfold readA rreadA
  split
  · rename_i h
    split
    · rfl
    · rename_i h16
      obtain ⟨e1, e2⟩ := agR_eqv (tlS_ok hs) (rtlS_ok hs h h16) (tl_eqv hs h h16)
      rw [← e1]
      have hk : (agR (tlS s)).2.ok := by rw [agR_2]; exact (takeN_ok (takeV_ok (i3_ok (tlS_ok hs)).1).1 9).1
      have hk' : (ragR (rtlS s)).2.ok := by rw [ragR_2]; exact (takeN_ok (rtakeV_ok (i3_ok (rtlS_ok hs h h16)).1).1 9).1
      exact finA_eq (fin_eqv hk hk' e2)
  · rfl
/-- The bytes. -/
def agL8 (a : Ag) : List UInt8 := if a.cnt = 0 then putB 9 0 else putB 9 a.cnt ++ ((bytesW a.sum.v).data.toList ++ (vall [a.mn, a.mx, a.last] ++ (stL a.at_ ++ mcat a.bk)))
def agB (a : Ag) : ByteArray := ⟨(agL8 a).toArray⟩
open Classical in
noncomputable def bytesA (a : Ag) : ByteArray × Int := if okA a then (agB a, 0) else (⟨#[]⟩, 1)
theorem bytesA_0 {a : Ag} (h : okA a) : bytesA a = (agB a, 0) := if_pos h
theorem bytesA_1 {a : Ag} (h : ¬ okA a) : bytesA a = (⟨#[]⟩, 1) := if_neg h
theorem mcat_len (l : List Int) : (mcat l).length ≤ 10 * l.length := by
  induction l with
  | nil => simp [mcat]
  | cons x r ih =>
    rw [show mcat (x :: r) = putB 9 x ++ mcat r from rfl, List.length_append, List.length_cons]
    have := vputB_le x
    omega
theorem agB_size (a : Ag) (hl : a.bk.length = 9) : (agB a).size ≤ 1000 := by
  have h1 : (agB a).size = (agL8 a).length := rfl
  rw [h1]
  unfold agL8
  split
  · have := vputB_le 0; omega
  · have := vputB_le a.cnt
    have h2 : (bytesW a.sum.v).data.toList.length = 16 := bytesW_size _
    have h3 := vall_length [a.mn, a.mx, a.last]
    have h4 := (stL_len a.at_).2
    have h5 := mcat_len a.bk
    simp only [List.length_append, h2, List.length_cons, List.length_nil] at *
    omega
set_option maxHeartbeats 1000000 in
theorem read_back {a : Ag} (ha : a.ok) (h : okA a) : readA (agB a) = (a, 0) := by
  have hl : a.bk.length = 9 := ha.2.2.2.2.2.2.1
  have hs : (agB a).size ≤ 1000000000 := by have := agB_size a hl; omega
  have h0 := r0_ok hs
  have hr : (r0 (agB a)).rest = agL8 a := by rw [r0_rest]; rfl
  by_cases hc : a.cnt = 0
  · have e : agL8 a = putB 9 0 ++ [] := by unfold agL8; rw [if_pos hc, List.append_nil]
    obtain ⟨k1, k2, k3⟩ := small_at (most := 1099511627776) h0 rfl (hr.trans e) (by decide) (by decide) (by decide)
    have hf : (C0 (agB a)).2.fin = 0 := (fin_rest (C0_ok hs).1).2 ⟨k2, k3⟩
    have h1 : (C0 (agB a)).1 = 0 := k1
    unfold readA
    rw [if_neg (by omega), h1, show cntA 0 = a from (h.zero hc).symm]
    exact finA_pos hf h
  · have hpos : 0 < a.cnt := by have := h.c0; omega
    have e : agL8 a = putB 9 a.cnt ++ ((bytesW a.sum.v).data.toList ++ (vall [a.mn, a.mx, a.last] ++ (stL a.at_ ++ mcat a.bk))) := by unfold agL8; rw [if_neg hc]
    obtain ⟨k1, k2, k3⟩ := small_at (most := 1099511627776) h0 rfl (hr.trans e) h.c0 h.c1 (by decide)
    have h1 : (C0 (agB a)).1 = a.cnt := k1
    have hk := C0_ok hs
    have h16 : (bytesW a.sum.v).data.toList.length = 16 := bytesW_size _
    have hrest : (agB a).data.toList.drop (C0 (agB a)).2.pos.toNat = (bytesW a.sum.v).data.toList ++ (vall [a.mn, a.mx, a.last] ++ (stL a.at_ ++ mcat a.bk)) := by
      have : (C0 (agB a)).2.rest = _ := k3
      unfold Rdr.rest at this
      rw [hk.2] at this
      exact this
    have hlen := congrArg List.length hrest
    rw [List.length_drop, List.length_append, h16] at hlen
    have hsz : (agB a).data.toList.length = (agB a).size := rfl
    obtain ⟨_, p0, p1⟩ := hk.1
    rw [hk.2] at p1
    have hlf : ¬ (C0 (agB a)).2.left < 16 := by
      unfold Rdr.left
      rw [show (C0 (agB a)).2.bad = false from k2, hk.2]
      simp
      omega
    have hsum : sumS (agB a) = a.sum := by
      have e2 : (agB a).extract (C0 (agB a)).2.pos.toNat ((C0 (agB a)).2.pos + 16).toNat = bytesW a.sum.v := by
        apply ByteArray.ext
        apply Array.ext'
        rw [ByteArray.data_extract, Array.toList_extract]
        simp only [List.extract]
        rw [hrest, show ((C0 (agB a)).2.pos + 16).toNat - (C0 (agB a)).2.pos.toNat = 16 by omega, List.take_append_of_le_length (by omega), List.take_of_length_le (by omega)]
      unfold sumS
      rw [e2, read_bytes _ ha.2.1]
    have htl : (tlS (agB a)).rest = vall [a.mn, a.mx, a.last] ++ (stL a.at_ ++ mcat a.bk) := by
      have e3 : (tlS (agB a)).rest = (agB a).data.toList.drop ((C0 (agB a)).2.pos + 16).toNat := by
        show (tlS (agB a)).s.data.toList.drop 0 = _
        rw [List.drop_zero]
        show ((agB a).extract _ _).data.toList = _
        rw [ByteArray.data_extract, Array.toList_extract]
        simp only [List.extract]
        exact List.take_of_length_le (by simp)
      rw [e3, show ((C0 (agB a)).2.pos + 16).toNat = (C0 (agB a)).2.pos.toNat + 16 by omega, ← List.drop_drop, hrest]
      exact List.drop_left' h16
    have ht0 := tlS_ok hs
    rw [show vall [a.mn, a.mx, a.last] = putB 9 (zig a.mn) ++ (putB 9 (zig a.mx) ++ putB 9 (zig a.last)) by simp [vall], List.append_assoc, List.append_assoc] at htl
    obtain ⟨m1, m2, m3⟩ := int_atA ht0 rfl htl ha.2.2.1
    obtain ⟨n1, n2, n3⟩ := int_atA (Rdr.int_ok ht0).1 m2 m3 ha.2.2.2.1
    obtain ⟨o1, o2, o3⟩ := int_atA (Rdr.int_ok (Rdr.int_ok ht0).1).1 n2 n3 ha.2.2.2.2.1
    obtain ⟨q1, q2, q3⟩ := take_at (i3_ok ht0).1 o2 (h.at_ hpos) o3
    have hbk : ∀ x ∈ a.bk, 0 ≤ x ∧ x ≤ 1099511627776 := by
      intro x hx
      obtain ⟨i, hi, rfl⟩ := List.getElem_of_mem hx
      have g1 := h.nn i (by omega)
      have g2 := (h.pre hl i (by omega)).2
      have g3 := preS_le a.bk (fun j hj => h.nn j (by omega)) 0 i (by omega) (by omega)
      rw [List.getD_eq_getElem?_getD, List.getElem?_eq_getElem hi] at g1 g2
      simp only [Option.getD_some] at g1 g2
      have : preS a.bk 0 = 0 := by simp [preS]
      have := h.c1
      omega
    obtain ⟨r1, r2, r3⟩ := takeN_at (takeV_ok (i3_ok ht0).1).1 q2 a.bk [] hbk (by rw [List.append_nil]; exact q3) 9 (by omega)
    have hag : (agR (tlS (agB a))).1 = ⟨a.mn, a.mx, a.last, a.at_, a.bk⟩ := by
      rw [agR_1, m1, n1, o1, q1, r1, List.take_of_length_le (by omega)]
    have hfin : (agR (tlS (agB a))).2.fin = 0 := by
      have hr4 : (takeN 9 (takeV (i3 (tlS (agB a)))).2).2.rest = [] := by rw [r3, List.drop_of_length_le (by omega)]; rfl
      rw [agR_2]
      exact (fin_rest (takeN_ok (takeV_ok (i3_ok ht0).1).1 9).1).2 ⟨r2, hr4⟩
    have hfill : fillA a.cnt a.sum ⟨a.mn, a.mx, a.last, a.at_, a.bk⟩ = a := by unfold fillA; rfl
    unfold readA
    rw [if_pos (by omega), if_neg hlf, h1, hsum, hag, hfill]
    exact finA_pos hfin h
end
end Go.Proofs.Ytojnooagifhekaa
