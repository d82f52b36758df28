/- Messages of all kinds: Check and Bytes of both packages. Plain law: two hundred points as a message's bytes, read again. Plain law: two hundred points as a message's bytes, of the other kind. Printed by hread4.py. What is written is read again: messages of all kinds. -/
import Derived.Test.YtglabahbklpocaaGreatGShipPacks48
import Derived.Test.YtglabahbklpocaaGreatGShipPacks47
import Derived.Test.YtglabahbklpocaaGreatGShipPacks39
import Derived.Test.YtglabahbklpocaaGreatGShipPacks41
namespace Go.Proofs.YtglabahbklpocaaGreat
section
open Go.RowKit Go.Deep
set_option maxRecDepth 100000
set_option linter.unusedVariables false
set_option linter.unusedSimpArgs false
attribute [local go_sem ↓] Go.wp_at_zero Go.wp_at_succ
theorem none_iff (x : Wi) (p a c v r : Bool) : x.none p a c v r = true ↔ (p = true ∨ x.np.n = 0) ∧ (a = true ∨ (x.series.size = 0 ∧ x.from_ = 0 ∧ x.to_ = 0)) ∧ (c = true ∨ x.time = 0) ∧ (v = true ∨ x.vec.n = 0) ∧ (r = true ∨ x.nr.n = 0) := by
  have hs : x.series.toList.isEmpty = decide (x.series.size = 0) := by
    by_cases h : x.series.size = 0
    · rw [tl_nil _ h, decide_eq_true h]; rfl
    · rw [(tl_some _ (by omega)).2.2, decide_eq_false h]
  unfold Wi.none noneB
  rw [hs]
  simp only [Bool.and_eq_true, Bool.or_eq_true, decide_eq_true_eq, beq_iff_eq]
theorem idV_iff (n : Int) : idV n = true ↔ 0 ≤ n ∧ n ≤ 1099511627776 := by unfold idV; simp
theorem endV_iff (n : Int) : endV n = true ↔ 0 ≤ n ∧ n ≤ 1099511627777 := by unfold endV; simp
theorem okB_iff (l : List Pt) : okB l = true ↔ okPts l := by
  by_cases h : okPts l
  · exact ⟨fun _ => h, fun _ => okB_true h⟩
  · exact ⟨fun e => (by rw [okB_false h] at e; cases e), fun e => absurd e h⟩
theorem okQ_iff (l : List RecA) : okQ l = true ↔ okRecs l := by
  by_cases h : okRecs l
  · exact ⟨fun _ => h, fun _ => okQ_true h⟩
  · exact ⟨fun e => (by rw [okQ_false h] at e; cases e), fun e => absurd e h⟩
theorem kinds {k : Int} (h : 1 ≤ k ∧ k ≤ 7) : k = 1 ∨ k = 2 ∨ k = 3 ∨ k = 4 ∨ k = 5 ∨ k = 6 ∨ k = 7 := by omega
section
variable {w : World} {x : Wi} {ps : List Pt} {rs : List RecA} {vs : List Int}
theorem WiAt.v0 (h : WiAt w x ps rs vs) (h0 : x.vec.n = 0) : vs = pl vs := by
  obtain rfl : vs = [] := List.eq_nil_of_length_eq_zero (by have := h.v.r.1; omega)
  decide +kernel
theorem WiAt.r0 (h : WiAt w x ps rs vs) (h0 : x.nr.n = 0) : okRecs rs := by
  obtain rfl : rs = [] := List.eq_nil_of_length_eq_zero (by have := h.r.r.1; omega)
  intro y hy; simp at hy
theorem WiAt.p0 (h : WiAt w x ps rs vs) (h0 : x.np.n = 0) : okPts ps := by
  obtain rfl : ps = [] := List.eq_nil_of_length_eq_zero (by have := h.p.r.1; omega)
  intro y hy; simp at hy
theorem cond1 (h : WiAt w x ps rs vs) (hk : x.kind = 1) : (x.none true false false false false = true ∧ decide ((x.np.n : Int) ≤ 200) = true ∧ okB ps = true ∧ idV x.id = true) ↔ okA x ∧ okT x ps rs vs := by
  rw [none_iff, idV_iff, decide_eq_true_eq, okB_iff]
  unfold okA okT
  rw [hk]
  constructor
  · rintro ⟨⟨n1, n2, n3, n4, n5⟩, e1, e2, hid⟩
    have n2 := n2.resolve_left (by simp)
    have n3 := n3.resolve_left (by simp)
    have n4 := n4.resolve_left (by simp)
    have n5 := n5.resolve_left (by simp)
    exact ⟨⟨by omega, hid, .inl rfl, .inr n2, .inr n3, .inr n5, .inr n4, by omega, by omega, by omega, by omega⟩, e2, h.r0 n5, fun e => absurd e (by decide), h.v0 n4⟩
  · rintro ⟨⟨a1, a2, a3, a4, a5, a6, a7, a8, a9, a10, a11⟩, b1, b2, b3, b4⟩
    exact ⟨⟨.inl rfl, .inr (a4.resolve_left (by decide)), .inr (a5.resolve_left (by decide)), .inr (a7.resolve_left (by decide)), .inr (a6.resolve_left (by decide))⟩, by omega, b1, a2⟩
theorem cond2 (h : WiAt w x ps rs vs) (hk : x.kind = 2) : (x.none false false false false false = true ∧ idV x.id = true) ↔ okA x ∧ okT x ps rs vs := by
  rw [none_iff, idV_iff]
  unfold okA okT
  rw [hk]
  constructor
  · rintro ⟨⟨n1, n2, n3, n4, n5⟩, hid⟩
    have n1 := n1.resolve_left (by simp)
    have n2 := n2.resolve_left (by simp)
    have n3 := n3.resolve_left (by simp)
    have n4 := n4.resolve_left (by simp)
    have n5 := n5.resolve_left (by simp)
    exact ⟨⟨by omega, hid, .inr (.inr n1), .inr n2, .inr n3, .inr n5, .inr n4, by omega, by omega, by omega, by omega⟩, h.p0 n1, h.r0 n5, fun e => absurd e (by decide), h.v0 n4⟩
  · rintro ⟨⟨a1, a2, a3, a4, a5, a6, a7, a8, a9, a10, a11⟩, b1, b2, b3, b4⟩
    exact ⟨⟨.inr ((a3.resolve_left (by decide)).resolve_left (by decide)), .inr (a4.resolve_left (by decide)), .inr (a5.resolve_left (by decide)), .inr (a7.resolve_left (by decide)), .inr (a6.resolve_left (by decide))⟩, a2⟩
theorem cond3 (h : WiAt w x ps rs vs) (hk : x.kind = 3) : (x.none false true false false false = true ∧ nameV x.series = true ∧ spanV x.from_ x.to_ = true ∧ idV x.id = true) ↔ okA x ∧ okT x ps rs vs := by
  rw [none_iff, idV_iff]
  unfold okA okT
  rw [hk]
  constructor
  · rintro ⟨⟨n1, n2, n3, n4, n5⟩, e1, e2, hid⟩
    have n1 := n1.resolve_left (by simp)
    have n3 := n3.resolve_left (by simp)
    have n4 := n4.resolve_left (by simp)
    have n5 := n5.resolve_left (by simp)
    exact ⟨⟨by omega, hid, .inr (.inr n1), .inl rfl, .inr n3, .inr n5, .inr n4, by omega, by omega, by omega, by omega⟩, h.p0 n1, h.r0 n5, fun _ => ⟨e1, e2⟩, h.v0 n4⟩
  · rintro ⟨⟨a1, a2, a3, a4, a5, a6, a7, a8, a9, a10, a11⟩, b1, b2, b3, b4⟩
    exact ⟨⟨.inr ((a3.resolve_left (by decide)).resolve_left (by decide)), .inl rfl, .inr (a5.resolve_left (by decide)), .inr (a7.resolve_left (by decide)), .inr (a6.resolve_left (by decide))⟩, (b3 rfl).1, (b3 rfl).2, a2⟩
theorem cond4 (h : WiAt w x ps rs vs) (hk : x.kind = 4) : (x.none true false false false false = true ∧ decide ((x.np.n : Int) ≤ 200) = true ∧ okB ps = true ∧ idV x.id = true) ↔ okA x ∧ okT x ps rs vs := by
  rw [none_iff, idV_iff, decide_eq_true_eq, okB_iff]
  unfold okA okT
  rw [hk]
  constructor
  · rintro ⟨⟨n1, n2, n3, n4, n5⟩, e1, e2, hid⟩
    have n2 := n2.resolve_left (by simp)
    have n3 := n3.resolve_left (by simp)
    have n4 := n4.resolve_left (by simp)
    have n5 := n5.resolve_left (by simp)
    exact ⟨⟨by omega, hid, .inr (.inl rfl), .inr n2, .inr n3, .inr n5, .inr n4, by omega, by omega, by omega, by omega⟩, e2, h.r0 n5, fun e => absurd e (by decide), h.v0 n4⟩
  · rintro ⟨⟨a1, a2, a3, a4, a5, a6, a7, a8, a9, a10, a11⟩, b1, b2, b3, b4⟩
    exact ⟨⟨.inl rfl, .inr (a4.resolve_left (by decide)), .inr (a5.resolve_left (by decide)), .inr (a7.resolve_left (by decide)), .inr (a6.resolve_left (by decide))⟩, by omega, b1, a2⟩
theorem cond5 (h : WiAt w x ps rs vs) (hk : x.kind = 5) : (x.none false false true false false = true ∧ endV x.time = true ∧ idV x.id = true) ↔ okA x ∧ okT x ps rs vs := by
  rw [none_iff, idV_iff, endV_iff]
  unfold okA okT
  rw [hk]
  constructor
  · rintro ⟨⟨n1, n2, n3, n4, n5⟩, e1, hid⟩
    have n1 := n1.resolve_left (by simp)
    have n2 := n2.resolve_left (by simp)
    have n4 := n4.resolve_left (by simp)
    have n5 := n5.resolve_left (by simp)
    exact ⟨⟨by omega, hid, .inr (.inr n1), .inr n2, .inl rfl, .inr n5, .inr n4, by omega, by omega, by omega, by omega⟩, h.p0 n1, h.r0 n5, fun e => absurd e (by decide), h.v0 n4⟩
  · rintro ⟨⟨a1, a2, a3, a4, a5, a6, a7, a8, a9, a10, a11⟩, b1, b2, b3, b4⟩
    exact ⟨⟨.inr ((a3.resolve_left (by decide)).resolve_left (by decide)), .inr (a4.resolve_left (by decide)), .inl rfl, .inr (a7.resolve_left (by decide)), .inr (a6.resolve_left (by decide))⟩, ⟨a10, a11⟩, a2⟩
theorem cond6 (h : WiAt w x ps rs vs) (hk : x.kind = 6) : (x.none false false false true false = true ∧ decide (vs = pl vs) = true ∧ idV x.id = true) ↔ okA x ∧ okT x ps rs vs := by
  rw [none_iff, idV_iff, decide_eq_true_eq]
  unfold okA okT
  rw [hk]
  constructor
  · rintro ⟨⟨n1, n2, n3, n4, n5⟩, e1, hid⟩
    have n1 := n1.resolve_left (by simp)
    have n2 := n2.resolve_left (by simp)
    have n3 := n3.resolve_left (by simp)
    have n5 := n5.resolve_left (by simp)
    exact ⟨⟨by omega, hid, .inr (.inr n1), .inr n2, .inr n3, .inr n5, .inl (by decide), by omega, by omega, by omega, by omega⟩, h.p0 n1, h.r0 n5, fun e => absurd e (by decide), e1⟩
  · rintro ⟨⟨a1, a2, a3, a4, a5, a6, a7, a8, a9, a10, a11⟩, b1, b2, b3, b4⟩
    exact ⟨⟨.inr ((a3.resolve_left (by decide)).resolve_left (by decide)), .inr (a4.resolve_left (by decide)), .inr (a5.resolve_left (by decide)), .inl rfl, .inr (a6.resolve_left (by decide))⟩, b4, a2⟩
theorem cond7 (h : WiAt w x ps rs vs) (hk : x.kind = 7) : (x.none false false false true true = true ∧ decide (vs = pl vs) = true ∧ decide ((x.nr.n : Int) ≤ 16) = true ∧ okQ rs = true ∧ idV x.id = true) ↔ okA x ∧ okT x ps rs vs := by
  rw [none_iff, idV_iff, decide_eq_true_eq, decide_eq_true_eq, okQ_iff]
  unfold okA okT
  rw [hk]
  constructor
  · rintro ⟨⟨n1, n2, n3, n4, n5⟩, e1, e2, e3, hid⟩
    have n1 := n1.resolve_left (by simp)
    have n2 := n2.resolve_left (by simp)
    have n3 := n3.resolve_left (by simp)
    exact ⟨⟨by omega, hid, .inr (.inr n1), .inr n2, .inr n3, .inl rfl, .inl (by decide), by omega, by omega, by omega, by omega⟩, h.p0 n1, e3, fun e => absurd e (by decide), e1⟩
  · rintro ⟨⟨a1, a2, a3, a4, a5, a6, a7, a8, a9, a10, a11⟩, b1, b2, b3, b4⟩
    exact ⟨⟨.inr ((a3.resolve_left (by decide)).resolve_left (by decide)), .inr (a4.resolve_left (by decide)), .inr (a5.resolve_left (by decide)), .inl rfl, .inl rfl⟩, b4, by omega, b2, a2⟩
/-- The bytes of a message that may be. -/
def wireB (x : Wi) (ps : List Pt) (rs : List RecA) (vs : List Int) : ByteArray :=
  if x.kind = 1 ∨ x.kind = 4 then vput x.kind ++ vput x.id ++ vtext ⟨(ptsL ps).toArray⟩
  else if x.kind = 2 then vput x.kind ++ vput x.id
  else if x.kind = 3 then vput x.kind ++ vput x.id ++ (vtext x.series ++ vput x.from_ ++ vput x.to_)
  else if x.kind = 5 then vput x.kind ++ vput x.id ++ vput x.time
  else if x.kind = 6 then vput x.kind ++ vput x.id ++ vecB vs
  else recsB (vput x.kind ++ vput x.id ++ (vecB vs ++ vput x.nr.n)) rs
theorem wireB1 (hk : x.kind = 1) : wireB x ps rs vs = vput 1 ++ vput x.id ++ vtext ⟨(ptsL ps).toArray⟩ := by unfold wireB; rw [hk]; rfl
theorem wireB2 (hk : x.kind = 2) : wireB x ps rs vs = vput 2 ++ vput x.id := by unfold wireB; rw [hk]; rfl
theorem wireB3 (hk : x.kind = 3) : wireB x ps rs vs = vput 3 ++ vput x.id ++ (vtext x.series ++ vput x.from_ ++ vput x.to_) := by unfold wireB; rw [hk]; rfl
theorem wireB4 (hk : x.kind = 4) : wireB x ps rs vs = vput 4 ++ vput x.id ++ vtext ⟨(ptsL ps).toArray⟩ := by unfold wireB; rw [hk]; rfl
theorem wireB5 (hk : x.kind = 5) : wireB x ps rs vs = vput 5 ++ vput x.id ++ vput x.time := by unfold wireB; rw [hk]; rfl
theorem wireB6 (hk : x.kind = 6) : wireB x ps rs vs = vput 6 ++ vput x.id ++ vecB vs := by unfold wireB; rw [hk]; rfl
theorem wireB7 (hk : x.kind = 7) : wireB x ps rs vs = recsB (vput 7 ++ vput x.id ++ (vecB vs ++ vput x.nr.n)) rs := by unfold wireB; rw [hk]; rfl
theorem bytes_w (h : WiAt w x ps rs vs) (h1 : okA x) (h2 : okT x ps rs vs) : Calls Tryz.prog 12 #[.agg x.arr] w fun e w' => e = .returned (.tuple #[.string (wireB x ps rs vs), .int .i64 0]) ∧ Below w.heap.size w w' := by
  rcases kinds h1.1 with hk | hk | hk | hk | hk | hk | hk
  · have c := (cond1 h hk).2 ⟨h1, h2⟩
    rw [wireB1 hk]
    exact bytes1_any x ps w hk h.f h.t h.p c.2.2.2 c.1 h1.2.2.2.2.2.2.2.1 h2.1
  · have c := (cond2 h hk).2 ⟨h1, h2⟩
    rw [wireB2 hk]
    exact bytes2_any x w hk h.f h.t c.2 c.1
  · have c := (cond3 h hk).2 ⟨h1, h2⟩
    rw [wireB3 hk]
    exact bytes3_any x w hk h.f h.t c.2.2.2 c.1 c.2.1 c.2.2.1
  · have c := (cond4 h hk).2 ⟨h1, h2⟩
    rw [wireB4 hk]
    exact bytes4_any x ps w hk h.f h.t h.p c.2.2.2 c.1 h1.2.2.2.2.2.2.2.1 h2.1
  · have c := (cond5 h hk).2 ⟨h1, h2⟩
    rw [wireB5 hk]
    exact bytes5_any x w hk h.f h.t c.2.2 c.1 c.2.1
  · have c := (cond6 h hk).2 ⟨h1, h2⟩
    rw [wireB6 hk]
    exact bytes6_any x vs w hk h.f h.t c.2.2 c.1 h.v h2.2.2.2
  · have c := (cond7 h hk).2 ⟨h1, h2⟩
    rw [wireB7 hk]
    exact bytes7_any x rs vs w hk h.f h.t h.v h.r c.2.2.2.2 c.1 h2.2.2.2 h1.2.2.2.2.2.2.2.2.1 h2.2.1
end
end
end Go.Proofs.YtglabahbklpocaaGreat
namespace Go.Proofs.YtglabahbklpocaaGreat
section
open Go.RowKit Go.Deep
set_option maxRecDepth 100000
set_option linter.unusedVariables false
set_option linter.unusedSimpArgs false
/-- A message's bytes that bear points, read again. -/
theorem gd1_bytes {L : List Pt} (id : Int) (hid : 0 ≤ id ∧ id ≤ 1099511627776) (hok : okPts L) (hw : ∀ p ∈ L, p.wf) (hn : L.length ≤ 200) :
    (vput 1 ++ vput id ++ vtext ⟨(ptsL L).toArray⟩).size ≤ 200000 ∧ ((r0 (vput 1 ++ vput id ++ vtext ⟨(ptsL L).toArray⟩)).small 7).1 = 1 ∧ gd1 (vput 1 ++ vput id ++ vtext ⟨(ptsL L).toArray⟩) ∧ (readP (tx1 (vput 1 ++ vput id ++ vtext ⟨(ptsL L).toArray⟩)).1).1 = L ∧ (id1 (vput 1 ++ vput id ++ vtext ⟨(ptsL L).toArray⟩)).1 = id := by
  have hP : (ptsL L).length ≤ 100000 := by
    have := ptsL_le hok
    omega
  have hd : (vput 1 ++ vput id ++ vtext ⟨(ptsL L).toArray⟩).data.toList = putB 9 1 ++ (putB 9 id ++ (tb ⟨(ptsL L).toArray⟩ ++ [])) := by
    simp only [ByteArray.data_append, Array.toList_append, vput_data, vtext_data, List.append_assoc, List.append_nil]
  obtain ⟨S, hS⟩ : ∃ S, vput 1 ++ vput id ++ vtext ⟨(ptsL L).toArray⟩ = S := ⟨_, rfl⟩
  have hsz : S.size ≤ 200000 := by
    have h1 : S.data.toList.length = S.size := by simp
    rw [← hS, hd] at h1
    simp only [List.length_append, List.length_nil, tb] at h1
    have z1 := putB_le (1 : Int)
    have z2 := putB_le id
    have z3 := putB_le ((⟨(ptsL L).toArray⟩ : ByteArray).size : Int)
    have z4 : (⟨(ptsL L).toArray⟩ : ByteArray).data.toList.length = (ptsL L).length := by simp
    rw [hS] at h1
    omega
  rw [hS] at hd ⊢
  have h0 := r0_ok (s := S) (by omega)
  have k1 := Rdr.small_ok h0 7
  have k2 := Rdr.small_ok k1.1 1099511627776
  have k3 := Rdr.text_ok k2.1
  obtain ⟨a1, a2, a3⟩ := small_at (most := 7) h0 rfl ((r0_rest S).trans hd) (by omega) (by omega) (by decide)
  obtain ⟨b1, b2, b3⟩ := small_at (most := 1099511627776) k1.1 a2 a3 hid.1 hid.2 (by decide)
  obtain ⟨c1, c2, c3⟩ := text_at k2.1 b2 b3
  have hfin : (tx1 S).2.fin = 0 := (fin_rest k3.1).2 ⟨c2, c3⟩
  have htx : (tx1 S).1 = ⟨(ptsL L).toArray⟩ := c1
  have hrp : readP (tx1 S).1 = (L, 0) := by rw [htx]; exact read_pts hok hw (by omega)
  refine ⟨hsz, a1, ⟨hfin, by rw [hrp], by rw [hrp]; exact hn, by rw [hrp]; exact hok, ?_⟩, by rw [hrp], b1⟩
  rw [hrp, show (id1 S).1 = id from b1]
  exact hS
theorem Kn.belowB {B C : Nat} {w0 w w' : World} {l : List (Nat × Obj)} (h : Kn B w0 l w) (d : Below C w w') (hC : B ≤ C) (hl : ∀ p ∈ l, p.1 < C) : Kn B w0 l w' :=
  ⟨fun p hp => (d.block p.1 (hl p hp)).trans (h.at_ p hp), h.b.trans (d.mono hC), Nat.le_trans h.le d.size⟩
theorem AppE.but2 {α : Type} {cs : α → List Value} {T : TypeId} {sz : Nat} {w w' : World} {B g : Nat} {a : Option Addr} {n cap : Nat} {l : List α} (h : AppE cs T sz w B a n cap l) (k : But g w w') (hg : g < B) : AppE cs T sz w' B a n cap l := h.but k hg
end
end Go.Proofs.YtglabahbklpocaaGreat
namespace Go.Proofs.YtglabahbklpocaaGreat
section
open Go.RowKit Go.Deep
set_option maxRecDepth 100000
set_option linter.unusedVariables false
set_option linter.unusedSimpArgs false
/-- A message's bytes that bear points, read again. -/
theorem gd4_bytes {L : List Pt} (id : Int) (hid : 0 ≤ id ∧ id ≤ 1099511627776) (hok : okPts L) (hw : ∀ p ∈ L, p.wf) (hn : L.length ≤ 200) :
    (vput 4 ++ vput id ++ vtext ⟨(ptsL L).toArray⟩).size ≤ 200000 ∧ ((r0 (vput 4 ++ vput id ++ vtext ⟨(ptsL L).toArray⟩)).small 7).1 = 4 ∧ gd4 (vput 4 ++ vput id ++ vtext ⟨(ptsL L).toArray⟩) ∧ (readP (tx1 (vput 4 ++ vput id ++ vtext ⟨(ptsL L).toArray⟩)).1).1 = L ∧ (id1 (vput 4 ++ vput id ++ vtext ⟨(ptsL L).toArray⟩)).1 = id := by
  have hP : (ptsL L).length ≤ 100000 := by
    have := ptsL_le hok
    omega
  have hd : (vput 4 ++ vput id ++ vtext ⟨(ptsL L).toArray⟩).data.toList = putB 9 4 ++ (putB 9 id ++ (tb ⟨(ptsL L).toArray⟩ ++ [])) := by
    simp only [ByteArray.data_append, Array.toList_append, vput_data, vtext_data, List.append_assoc, List.append_nil]
  obtain ⟨S, hS⟩ : ∃ S, vput 4 ++ vput id ++ vtext ⟨(ptsL L).toArray⟩ = S := ⟨_, rfl⟩
  have hsz : S.size ≤ 200000 := by
    have h1 : S.data.toList.length = S.size := by simp
    rw [← hS, hd] at h1
    simp only [List.length_append, List.length_nil, tb] at h1
    have z1 := putB_le (4 : Int)
    have z2 := putB_le id
    have z3 := putB_le ((⟨(ptsL L).toArray⟩ : ByteArray).size : Int)
    have z4 : (⟨(ptsL L).toArray⟩ : ByteArray).data.toList.length = (ptsL L).length := by simp
    rw [hS] at h1
    omega
  rw [hS] at hd ⊢
  have h0 := r0_ok (s := S) (by omega)
  have k1 := Rdr.small_ok h0 7
  have k2 := Rdr.small_ok k1.1 1099511627776
  have k3 := Rdr.text_ok k2.1
  obtain ⟨a1, a2, a3⟩ := small_at (most := 7) h0 rfl ((r0_rest S).trans hd) (by omega) (by omega) (by decide)
  obtain ⟨b1, b2, b3⟩ := small_at (most := 1099511627776) k1.1 a2 a3 hid.1 hid.2 (by decide)
  obtain ⟨c1, c2, c3⟩ := text_at k2.1 b2 b3
  have hfin : (tx1 S).2.fin = 0 := (fin_rest k3.1).2 ⟨c2, c3⟩
  have htx : (tx1 S).1 = ⟨(ptsL L).toArray⟩ := c1
  have hrp : readP (tx1 S).1 = (L, 0) := by rw [htx]; exact read_pts hok hw (by omega)
  refine ⟨hsz, a1, ⟨hfin, by rw [hrp], by rw [hrp]; exact hn, by rw [hrp]; exact hok, ?_⟩, by rw [hrp], b1⟩
  rw [hrp, show (id1 S).1 = id from b1]
  exact hS
end
end Go.Proofs.YtglabahbklpocaaGreat
namespace Go.Proofs.YtglabahbklpocaaGreat
section
open Go.RowKit Go.Deep
set_option maxRecDepth 100000
set_option linter.unusedVariables false
set_option linter.unusedSimpArgs false
attribute [local go_sem ↓] Go.wp_at_zero Go.wp_at_succ
theorem ba_nil {s : ByteArray} (h : s.size = 0) : s = ⟨#[]⟩ := by
  apply ByteArray.ext
  exact Array.eq_empty_of_size_eq_zero h
theorem recsB_le (P : ByteArray) (rs : List RecA) (h : okRecs rs) : (recsB P rs).size ≤ P.size + 4000 * rs.length := by
  induction rs generalizing P with
  | nil => exact Nat.le_refl _
  | cons x r ih =>
    have h1 := ih (P ++ vtext (recT x.r x.ds)) (fun y hy => h y (List.mem_cons_of_mem _ hy))
    have h2 := vtext_le3 (recT x.r x.ds) (recT_le (h x (List.mem_cons_self ..)))
    rw [ByteArray.size_append] at h1
    show (recsB (P ++ vtext (recT x.r x.ds)) r).size ≤ _
    rw [List.length_cons]
    omega
/-- The message z tells what x does. -/
structure TellsAs (w : World) (z x : Wi) (ps : List Pt) (ms : List RcM) (vs : List Int) : Prop where
  k : z.kind = x.kind
  id : z.id = x.id
  s : z.series = x.series
  f : z.from_ = x.from_
  t : z.to_ = x.to_
  tm : z.time = x.time
  p : SlP w z.np ps
  r : RecsW w z.nr ms
  v : SlR w z.vec vs
theorem slP_nil (w : World) : SlP w Sl0 [] := ⟨⟨rfl, .inl rfl⟩, by simp, Nat.le_refl _, by decide⟩
theorem slR_nil (w : World) : SlR w Sl0 [] := ⟨⟨rfl, .inl rfl⟩, Nat.le_refl _, by decide⟩
theorem recsW_nil (w : World) : RecsW w Sl0 [] := ⟨⟨[], ⟨rfl, .inl rfl⟩, rfl, by simp⟩, Nat.le_refl _, by decide⟩
section
variable {w w0 : World} {x : Wi} {ps : List Pt} {rs : List RecA} {vs : List Int}
theorem WiAt.pn (h : WiAt w x ps rs vs) (h0 : x.np.n = 0) : ps = [] := List.eq_nil_of_length_eq_zero (by have := h.p.r.1; omega)
theorem WiAt.rn (h : WiAt w x ps rs vs) (h0 : x.nr.n = 0) : rs = [] := List.eq_nil_of_length_eq_zero (by have := h.r.r.1; omega)
theorem WiAt.vn (h : WiAt w x ps rs vs) (h0 : x.vec.n = 0) : vs = [] := List.eq_nil_of_length_eq_zero (by have := h.v.r.1; omega)
theorem RecsV.w' (h : RecsV w x.nr rs) (hok : okRecs rs) : RecsW w x.nr (rs.map RecA.m) :=
  ⟨⟨rs, h.r, rfl, fun y hy => ⟨h.ok y hy, by
    have h1 := (h.ok y hy).sl.r.1
    have h2 : y.ds = pl y.ds := (hok y hy).2.2.1
    have h3 := pl_length y.ds
    rw [← h2] at h3
    omega⟩⟩, h.nc, h.cb⟩
theorem tells_self (h : WiAt w x ps rs vs) (h2 : okT x ps rs vs) : TellsAs w x x ps (rs.map RecA.m) vs := ⟨rfl, rfl, rfl, rfl, rfl, rfl, h.p, h.r.w' h2.2.1, h.v⟩
theorem TellsAs.below {w' : World} {z : Wi} {ms : List RcM} (h : TellsAs w z x ps ms vs) (hb : Below w.heap.size w w') : TellsAs w' z x ps ms vs := ⟨h.k, h.id, h.s, h.f, h.t, h.tm, h.p.below hb, h.r.below hb, h.v.below hb⟩
theorem recsV_ti {w : World} {B : Nat} {d : Sl} {rs : List RecA} {vs : List Int} {d2 : Sl} (h : V7 w B d vs d2 rs) : RecsW w d2 (rs.map RecA.m) :=
  ⟨⟨rs, (AppE.reads rec_len (by decide) h.ap).1, rfl, fun y hy => ⟨(h.rs y hy).1.ok, (h.rs y hy).1.n8⟩⟩, h.ap.le, maxLen_i h.ap.max⟩
theorem read_w (h : WiAt w0 x ps rs vs) (h1 : okA x) (h2 : okT x ps rs vs) (w : World) : Calls Tryz.prog 13 #[.string (wireB x ps rs vs)] w fun e w' => ∃ z : Wi, e = .returned (.tuple #[.agg z.arr, .int .i64 0]) ∧ Below w.heap.size w w' ∧ TellsAs w' z x ps (rs.map RecA.m) vs := by
  have hpn : ps.length = x.np.n := h.p.r.1
  have hrn : rs.length = x.nr.n := h.r.r.1
  have hid := h1.2.1
  have hkr := h1.1
  obtain ⟨_, _, q3, q4, q5, q6, q7, q8, q9, q10, q11⟩ := h1
  rcases kinds hkr with hk | hk | hk | hk | hk | hk | hk
  · obtain ⟨z1, z2, z3, z4, z5⟩ := gd1_bytes x.id hid h2.1 h.p.wf (by omega)
    rw [hk] at q4 q5 q6 q7
    have s4 := q4.resolve_left (by decide)
    rw [wireB1 hk]
    refine (hread1_any _ w (by omega) z2).mono ?_
    rintro e w' ⟨z, E, rfl, hb, ⟨_, rfl, d, rfl, hd⟩ | ⟨hn, _⟩⟩
    · rw [z4] at hd
      rw [z5]
      refine ⟨_, rfl, hb, ⟨hk.symm, rfl, (ba_nil s4.1).symm, s4.2.1.symm, s4.2.2.symm, (q5.resolve_left (by decide)).symm, hd, ?_, ?_⟩⟩
      · rw [h.rn (q6.resolve_left (by decide))]; exact recsW_nil _
      · rw [h.vn (q7.resolve_left (by decide))]; exact slR_nil _
    · exact absurd z3 hn
  · rw [hk] at q3 q4 q5 q6 q7
    have s4 := q4.resolve_left (by decide)
    have b1 := vput_le 2
    have b2 := vput_le x.id
    obtain ⟨z2, z3, z4⟩ := gd2_bytes (s := vput 2 ++ vput x.id) (by rw [ByteArray.size_append]; omega) x.id hid rfl
    rw [wireB2 hk]
    refine (hread2_any _ w (by rw [ByteArray.size_append]; omega) z2).mono ?_
    rintro e w' ⟨z, E, rfl, hb, ⟨_, rfl, rfl⟩ | ⟨hn, _⟩⟩
    · rw [z4]
      refine ⟨_, rfl, hb, ⟨hk.symm, rfl, (ba_nil s4.1).symm, s4.2.1.symm, s4.2.2.symm, (q5.resolve_left (by decide)).symm, ?_, ?_, ?_⟩⟩
      · rw [h.pn ((q3.resolve_left (by decide)).resolve_left (by decide))]; exact slP_nil _
      · rw [h.rn (q6.resolve_left (by decide))]; exact recsW_nil _
      · rw [h.vn (q7.resolve_left (by decide))]; exact slR_nil _
    · exact absurd z3 hn
  · rw [hk] at q3 q5 q6 q7
    have b1 := vput_le 3
    have b2 := vput_le x.id
    have b3 := vtext_le x.series (nameV_size (h2.2.2.1 hk).1)
    have b4 := vput_le x.from_
    have b5 := vput_le x.to_
    have hsz : (vput 3 ++ vput x.id ++ (vtext x.series ++ vput x.from_ ++ vput x.to_)).size ≤ 1000000000 := by simp only [ByteArray.size_append]; omega
    obtain ⟨z2, z3, z4⟩ := gd3_bytes hsz x.id x.series x.from_ x.to_ hid (h2.2.2.1 hk).1 (h2.2.2.1 hk).2 rfl
    rw [wireB3 hk]
    refine (hread3_any _ w hsz z2).mono ?_
    rintro e w' ⟨z, E, rfl, hb, ⟨_, rfl, rfl⟩ | ⟨hn, _⟩⟩
    · rw [z4]
      refine ⟨_, rfl, hb, ⟨hk.symm, rfl, rfl, rfl, rfl, (q5.resolve_left (by decide)).symm, ?_, ?_, ?_⟩⟩
      · rw [h.pn ((q3.resolve_left (by decide)).resolve_left (by decide))]; exact slP_nil _
      · rw [h.rn (q6.resolve_left (by decide))]; exact recsW_nil _
      · rw [h.vn (q7.resolve_left (by decide))]; exact slR_nil _
    · exact absurd z3 hn
  · obtain ⟨z1, z2, z3, z4, z5⟩ := gd4_bytes x.id hid h2.1 h.p.wf (by omega)
    rw [hk] at q4 q5 q6 q7
    have s4 := q4.resolve_left (by decide)
    rw [wireB4 hk]
    refine (hread4_any _ w (by omega) z2).mono ?_
    rintro e w' ⟨z, E, rfl, hb, ⟨_, rfl, d, rfl, hd⟩ | ⟨hn, _⟩⟩
    · rw [z4] at hd
      rw [z5]
      refine ⟨_, rfl, hb, ⟨hk.symm, rfl, (ba_nil s4.1).symm, s4.2.1.symm, s4.2.2.symm, (q5.resolve_left (by decide)).symm, hd, ?_, ?_⟩⟩
      · rw [h.rn (q6.resolve_left (by decide))]; exact recsW_nil _
      · rw [h.vn (q7.resolve_left (by decide))]; exact slR_nil _
    · exact absurd z3 hn
  · rw [hk] at q3 q4 q6 q7
    have s4 := q4.resolve_left (by decide)
    have b1 := vput_le 5
    have b2 := vput_le x.id
    have b4 := vput_le x.time
    have hsz : (vput 5 ++ vput x.id ++ vput x.time).size ≤ 1000000000 := by simp only [ByteArray.size_append]; omega
    obtain ⟨z2, z3, z4⟩ := gd5_bytes hsz x.id x.time hid ⟨q10, q11⟩ rfl
    rw [wireB5 hk]
    refine (hread5_any _ w hsz z2).mono ?_
    rintro e w' ⟨z, E, rfl, hb, ⟨_, rfl, rfl⟩ | ⟨hn, _⟩⟩
    · rw [z4]
      refine ⟨_, rfl, hb, ⟨hk.symm, rfl, (ba_nil s4.1).symm, s4.2.1.symm, s4.2.2.symm, rfl, ?_, ?_, ?_⟩⟩
      · rw [h.pn ((q3.resolve_left (by decide)).resolve_left (by decide))]; exact slP_nil _
      · rw [h.rn (q6.resolve_left (by decide))]; exact recsW_nil _
      · rw [h.vn (q7.resolve_left (by decide))]; exact slR_nil _
    · exact absurd z3 hn
  · rw [hk] at q3 q4 q5 q6
    have s4 := q4.resolve_left (by decide)
    have b1 := vput_le 6
    have b2 := vput_le x.id
    have b3 := vecB_le vs
    have hsz : (vput 6 ++ vput x.id ++ vecB vs).size ≤ 1000000000 := by simp only [ByteArray.size_append]; omega
    obtain ⟨z2, z3, z4, z5⟩ := gd6_bytes hsz x.id vs hid h2.2.2.2 (pl_bound h2.2.2.2) rfl
    rw [wireB6 hk]
    refine (hread6_any _ w hsz z2).mono ?_
    rintro e w' ⟨z, E, rfl, hb, ⟨_, rfl, d, rfl, hd⟩ | ⟨hn, _⟩⟩
    · rw [z5] at hd
      rw [z4]
      refine ⟨_, rfl, hb, ⟨hk.symm, rfl, (ba_nil s4.1).symm, s4.2.1.symm, s4.2.2.symm, (q5.resolve_left (by decide)).symm, ?_, ?_, hd⟩⟩
      · rw [h.pn ((q3.resolve_left (by decide)).resolve_left (by decide))]; exact slP_nil _
      · rw [h.rn (q6.resolve_left (by decide))]; exact recsW_nil _
    · exact absurd z3 hn
  · rw [hk] at q3 q4 q5
    have s4 := q4.resolve_left (by decide)
    have b1 := vput_le 7
    have b2 := vput_le x.id
    have b3 := vecB_le vs
    have b4 := vput_le rs.length
    have hsz : (recsB (vput 7 ++ vput x.id ++ (vecB vs ++ vput rs.length)) rs).size ≤ 1000000000 := by
      have := recsB_le (vput 7 ++ vput x.id ++ (vecB vs ++ vput rs.length)) rs h2.2.1
      simp only [ByteArray.size_append] at this
      omega
    have hoM : okM (rs.map RecA.m) := fun m hm => by
      obtain ⟨y, hy, rfl⟩ := List.mem_map.1 hm
      exact ⟨h2.2.1 y hy, (h.r.ok y hy).wf⟩
    obtain ⟨z2, z3, z4⟩ := gd7_bytes hsz x.id vs rs hid h2.2.2.2 (pl_bound h2.2.2.2) (by omega) hoM rfl
    have hd1 := gd7_of h2.2.2.2 (rfl : recsB (vput 7 ++ vput x.id ++ (vecB vs ++ vput rs.length)) rs = recsB (vput 7 ++ vput x.id ++ (vecB vs ++ vput rs.length)) rs)
    rw [wireB7 hk, ← hrn]
    generalize hS : recsB (vput 7 ++ vput x.id ++ (vecB vs ++ vput rs.length)) rs = S at *
    refine (hread7_any _ w hsz z2).mono ?_
    rintro e w' ⟨z, E, rfl, hb, ⟨rfl, d, d2, vs2, rs2, rfl, hV, ⟨c1, c2, c3⟩, hS2⟩ | ⟨_, _, hn⟩⟩
    · have hd2 := gd7_of c1 hS2
      have hoM2 : okM (rs2.map RecA.m) := fun m hm => by
        obtain ⟨y, hy, rfl⟩ := List.mem_map.1 hm
        exact ⟨c3 y hy, (hV.rs y hy).1.ok.wf⟩
      rw [← z4] at hd1
      have r1 := gd7_reads hsz h2.2.2.2 (pl_bound h2.2.2.2) (by rw [List.length_map]; omega) hoM hd1 _ (Nat.le_refl _) (.inl rfl) _ (Nat.le_refl _) (.inl rfl)
      have r2 := gd7_reads hsz c1 (pl_bound c1) (by rw [List.length_map]; omega) hoM2 hd2 _ (Nat.le_refl _) (.inl rfl) _ (Nat.le_refl _) (.inl rfl)
      have hvs : vs2 = vs := r2.1.symm.trans r1.1
      have hms : rs2.map RecA.m = rs.map RecA.m := r2.2.1.symm.trans r1.2.1
      refine ⟨_, rfl, hb, ⟨hk.symm, z4, (ba_nil s4.1).symm, s4.2.1.symm, s4.2.2.symm, (q5.resolve_left (by decide)).symm, ?_, ?_, ?_⟩⟩
      · rw [h.pn ((q3.resolve_left (by decide)).resolve_left (by decide))]; exact slP_nil _
      · rw [← hms]; exact recsV_ti hV
      · rw [← hvs]; exact hV.sl
    · exact absurd z3 hn
theorem same_w {z y : Wi} {ms : List RcM} (hf : i64' x.from_) (ht : i64' x.to_) (h1 : TellsAs w z x ps ms vs) (h2 : TellsAs w y x ps ms vs) : Calls Tryz.prog 11 #[.agg z.arr, .agg y.arr] w fun e w' => e = .returned (.bool true) ∧ Below w.heap.size w w' :=
  hsame_any z y ps ms vs w (by rw [h1.f]; exact hf) (by rw [h1.t]; exact ht) (h2.k.trans h1.k.symm) (h2.id.trans h1.id.symm) (h2.s.trans h1.s.symm) (h2.f.trans h1.f.symm) (h2.t.trans h1.t.symm) (h2.tm.trans h1.tm.symm) h1.p h2.p h1.r h2.r h1.v h2.v
end
end
end Go.Proofs.YtglabahbklpocaaGreat
