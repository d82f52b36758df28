/- Plain law: what the reference reads of bytes is a message just if the bytes are its own. The law's few and record, of ship's chapter. The law's small: a message cut down. The reference's Take. -/
import Derived.Test.YtglabahbklpocaaGreatGShipReads42
import Derived.Test.YtglabahbklpocaaGreatGShipReads16
import Derived.Test.YtglabahbklpocaaGreatGShipReads41
import Derived.Test.YtglabahbklpocaaGreatGShipReads25
import Derived.Test.YtglabahbklpocaaGreatGShipReads33
import Derived.Test.YtglabahbklpocaaGreatGShipReads8
namespace Go.Proofs.YtglabahbklpocaaGreat
section
open Go.RowKit Go.Deep
set_option maxRecDepth 100000
set_option linter.unusedVariables false
set_option linter.unusedSimpArgs false
theorem hd_data {s : ByteArray} (hs : s.size ≤ 1000000000) (h : (id1 s).2.bad = false) : s.data.toList = putB 9 ((r0 s).small 7).1 ++ (putB 9 (id1 s).1 ++ (id1 s).2.rest) := by
  have h0 := r0_ok hs
  have k1 := Rdr.small_ok h0 7
  obtain ⟨a1, _, _, a4⟩ := small_good (r := rd1 s) k1.1 h
  obtain ⟨_, _, _, b4⟩ := small_good h0 a1
  rw [← r0_rest, b4]
  congr 1
theorem fin0 {r : Rdr} (hr : r.ok) (h : r.fin = 0) : r.bad = false ∧ r.rest = [] := (fin_rest hr).1 h
theorem gd2_iff {s : ByteArray} (hs : s.size ≤ 1000000000) (hk : ((r0 s).small 7).1 = 2) : gd2 s ↔ (id1 s).2.fin = 0 := by
  refine ⟨fun h => h.1, fun h => ⟨h, ba_data.2 ?_⟩⟩
  obtain ⟨h1, h2⟩ := fin0 (id1_ok hs).1 h
  rw [hd_data hs h1, hk, h2]
  simp only [ByteArray.data_append, Array.toList_append, vput_data, List.append_assoc, List.append_nil]
theorem gd5_iff {s : ByteArray} (hs : s.size ≤ 1000000000) (hk : ((r0 s).small 7).1 = 5) : gd5 s ↔ (t5 s).2.fin = 0 := by
  refine ⟨fun h => h.1, fun h => ⟨h, ba_data.2 ?_⟩⟩
  have k := Rdr.small_ok (id1_ok hs).1 1099511627777
  obtain ⟨h1, h2⟩ := fin0 k.1 h
  obtain ⟨a1, _, _, a4⟩ := small_good (id1_ok hs).1 h1
  rw [hd_data hs a1, hk, a4]
  rw [show ((id1 s).2.small 1099511627777).2.rest = [] from h2]
  simp only [ByteArray.data_append, Array.toList_append, vput_data, List.append_assoc, List.append_nil]
  rfl
theorem gd3_iff {s : ByteArray} (hs : s.size ≤ 1000000000) (hk : ((r0 s).small 7).1 = 3) : gd3 s ↔ (t3 s).2.fin = 0 ∧ (nameV (tx1 s).1 = true ∧ spanV (f3 s).1 (t3 s).1 = true) := by
  refine ⟨fun h => ⟨h.1, h.2.1⟩, fun ⟨h, hn⟩ => ⟨h, hn, ba_data.2 ?_⟩⟩
  have k1 := Rdr.text_ok (id1_ok hs).1
  have k2 := Rdr.small_ok k1.1 1099511627777
  have k3 := Rdr.small_ok k2.1 1099511627777
  obtain ⟨h1, h2⟩ := fin0 k3.1 h
  obtain ⟨a1, _, _, a4⟩ := small_good k2.1 h1
  obtain ⟨b1, _, _, b4⟩ := small_good k1.1 a1
  obtain ⟨c1, c4, _⟩ := text_good (id1_ok hs).1 b1
  have h2' : (((id1 s).2.text.2.small 1099511627777).2.small 1099511627777).2.rest = [] := h2
  rw [hd_data hs c1, hk, c4, b4, a4, h2']
  simp only [ByteArray.data_append, Array.toList_append, vput_data, vtext_data, List.append_assoc, List.append_nil]
  rfl
theorem tv_fin (r : Rdr) : (tvV r).2.fin = 0 ↔ (tkV r).2.fin = 0 ∧ (tkV r).1 = pl (tkV r).1 := by
  unfold tvV
  split
  · rename_i h
    exact ⟨fun k => ⟨k, h.2⟩, fun k => k.1⟩
  · rename_i h
    refine ⟨fun k => absurd k (fin_ne rfl), fun k => absurd ⟨?_, k.2⟩ h⟩
    cases hb : (tkV r).2.bad
    · rfl
    · exact absurd k.1 (fin_ne hb)
theorem tv_eq {r : Rdr} (h : (tvV r).2.bad = false) : tvV r = tkV r ∧ (tkV r).1 = pl (tkV r).1 := by
  unfold tvV at h ⊢
  split
  · rename_i k
    exact ⟨rfl, k.2⟩
  · rename_i k
    rw [if_neg k] at h
    cases h
theorem tk_data {r : Rdr} (hr : r.ok) (h : (tkV r).2.bad = false) : r.bad = false ∧ r.rest = putB 9 ((tkV r).1.length : Int) ++ (mcat (tkV r).1 ++ (tkV r).2.rest) ∧ ∀ x ∈ (tkV r).1, 0 ≤ x ∧ x ≤ 1099511627776 := by
  have k8 := Rdr.small_ok hr 8
  obtain ⟨a1, a2, a3⟩ := takeN_good k8.1 _ h
  obtain ⟨b1, b2, b3, b4⟩ := small_good hr a1
  have hl : ((tkV r).1.length : Int) = (r.small 8).1 := by
    show ((takeN _ _).1.length : Int) = _
    rw [takeN_length]; omega
  refine ⟨b1, ?_, a2⟩
  rw [hl, b4, a3]
  rfl
theorem gd6_iff {s : ByteArray} (hs : s.size ≤ 1000000000) (hk : ((r0 s).small 7).1 = 6) : gd6 s ↔ (tvV (id1 s).2).2.fin = 0 := by
  rw [tv_fin]
  refine ⟨fun h => ⟨h.1, h.2.1⟩, fun ⟨h, hp⟩ => ⟨h, hp, ba_data.2 ?_⟩⟩
  obtain ⟨h1, h2⟩ := fin0 (tkV_ok (id1_ok hs).1).1 h
  obtain ⟨a1, a2, _⟩ := tk_data (id1_ok hs).1 h1
  have hp' : (v6 s).1 = pl (v6 s).1 := hp
  unfold vecB
  rw [← hp', hd_data hs a1, hk, a2, h2]
  simp only [ByteArray.data_append, Array.toList_append, vput_data, List.append_assoc, List.append_nil]
  rfl
theorem readP_data {P : ByteArray} (hs : P.size ≤ 1000000000) (h : (readP P).2 = 0) : P.data.toList = ptsL (readP P).1 := by
  by_cases hr : rpOk P
  · rw [readP_pos hr]
    have k := Rdr.small_ok (r0_ok hs) 1000
    obtain ⟨h1, h2⟩ := fin0 (takeQ_ok k.1 _).1 hr.1
    obtain ⟨a1, _, a3⟩ := takeQ_good k.1 _ h1
    obtain ⟨b1, b2, b3, b4⟩ := small_good (r0_ok hs) a1
    rw [← r0_rest, b4, a3, h2, List.append_nil]
    unfold ptsL
    rw [takeQ_length]
    congr 2
    omega
  · rw [readP_neg hr] at h
    cases h
theorem gdP {s : ByteArray} (hs : s.size ≤ 1000000000) {K : Int} (hk : ((r0 s).small 7).1 = K) (h : (tx1 s).2.fin = 0) (he : (readP (tx1 s).1).2 = 0) : vput K ++ vput (id1 s).1 ++ vtext ⟨(ptsL (readP (tx1 s).1).1).toArray⟩ = s := by
  have k1 := Rdr.text_ok (id1_ok hs).1
  obtain ⟨h1, h2⟩ := fin0 k1.1 h
  obtain ⟨c1, c4, c5⟩ := text_good (id1_ok hs).1 h1
  have hsz : (tx1 s).1.size ≤ 1000000000 := by
    have h3 : (id1 s).2.s = s := (id1_ok hs).2
    rw [h3] at c5
    exact Nat.le_trans c5 hs
  have hd := readP_data hsz he
  have e : (⟨(ptsL (readP (tx1 s).1).1).toArray⟩ : ByteArray) = (tx1 s).1 := ba_data.2 hd.symm
  rw [e]
  refine ba_data.2 ?_
  have h2' : (id1 s).2.text.2.rest = [] := h2
  rw [hd_data hs c1, hk, c4, h2']
  simp only [ByteArray.data_append, Array.toList_append, vput_data, vtext_data, List.append_assoc, List.append_nil]
  rfl
theorem gd1_iff {s : ByteArray} (hs : s.size ≤ 1000000000) (hk : ((r0 s).small 7).1 = 1) : gd1 s ↔ (tx1 s).2.fin = 0 ∧ (readP (tx1 s).1).2 = 0 ∧ (readP (tx1 s).1).1.length ≤ 200 ∧ okPts (readP (tx1 s).1).1 :=
  ⟨fun h => ⟨h.1, h.2.1, h.2.2.1, h.2.2.2.1⟩, fun ⟨h1, h2, h3, h4⟩ => ⟨h1, h2, h3, h4, gdP hs hk h1 h2⟩⟩
theorem gd4_iff {s : ByteArray} (hs : s.size ≤ 1000000000) (hk : ((r0 s).small 7).1 = 4) : gd4 s ↔ (tx1 s).2.fin = 0 ∧ (readP (tx1 s).1).2 = 0 ∧ (readP (tx1 s).1).1.length ≤ 200 ∧ okPts (readP (tx1 s).1).1 :=
  ⟨fun h => ⟨h.1, h.2.1, h.2.2.1, h.2.2.2.1⟩, fun ⟨h1, h2, h3, h4⟩ => ⟨h1, h2, h3, h4, gdP hs hk h1 h2⟩⟩
theorem rr_data {T : ByteArray} (hs : T.size ≤ 1000000000) (h : (readR T).2.2 = 0) : recP (readR T).1 (readR T).2.1 ∧ (readR T).1.wf ∧ recT (readR T).1 (readR T).2.1 = T := by
  by_cases hr : rrOk T
  · rw [readR_pos hr]
    exact ⟨hr.2, hd_wf (r0_ok hs), rr_inv hs hr⟩
  · rw [readR_neg hr] at h
    cases h
theorem rr_empty : (readR ⟨#[]⟩).2.2 = 10 := by
  have hs : (⟨#[]⟩ : ByteArray).size ≤ 1000000000 := by decide
  rw [readR_neg]
  intro hr
  have h1 := rr_inv hs hr
  have h2 := recT_pos (hdR (r0 ⟨#[]⟩)).1 (tkV (hdR (r0 ⟨#[]⟩)).2).1
  rw [h1] at h2
  exact absurd h2 (by decide)
theorem text_err {r : Rdr} (h : r.text.2.bad = true) : r.text.1 = ⟨#[]⟩ := by
  unfold Rdr.text at h ⊢
  split
  · rfl
  · rename_i k
    rw [if_neg k] at h
    exact absurd (.inl h) k
/-- What is read so far, all of it records. -/
structure TkG (R0 : Rdr) (k : Nat) (ms : List RcM) (R : Rdr) : Prop where
  tk : takeR k R0 0 = (ms, R, 0)
  len : ms.length = k
  bad : R0.bad = false → R.bad = false
  bad0 : R0.bad = true → k = 0
  data : R0.bad = false → R0.rest = catR ms ++ R.rest
  ok : okM ms
theorem TkG.start (R0 : Rdr) : TkG R0 0 [] R0 := ⟨rfl, rfl, id, fun _ => rfl, fun _ => rfl, by intro m hm; simp at hm⟩
theorem TkG.step {R0 : Rdr} (hR0 : R0.ok) {k : Nat} {ms : List RcM} {R : Rdr} (h : TkG R0 k ms R) (hb : R.bad = false) (hb0 : R0.bad = false) (he : (readR R.text.1).2.2 = 0) : TkG R0 (k + 1) (ms ++ [((readR R.text.1).1, (readR R.text.1).2.1)]) R.text.2 := by
  have hok : R.ok ∧ R.s = R0.s := by have := takeR_ok hR0 0 k; rw [h.tk] at this; exact this
  have hs : R.text.1.size ≤ 1000000000 := by
    by_cases h1 : R.text.2.bad = false
    · have := (text_good hok.1 h1).2.2; have := hok.1.1; omega
    · rw [text_err (by simpa using h1)]; decide
  have hb2 : R.text.2.bad = false := by
    cases h1 : R.text.2.bad
    · rfl
    · rw [text_err h1, rr_empty] at he; cases he
  obtain ⟨c1, c2, c3⟩ := rr_data hs he
  obtain ⟨_, d2, _⟩ := text_good hok.1 hb2
  refine ⟨?_, by rw [List.length_append, h.len]; rfl, fun _ => hb2, fun e => (by rw [hb0] at e; cases e), fun _ => ?_, ?_⟩
  · show ((takeR k R0 0).1 ++ [_], (takeR k R0 0).2.1.text.2, rdE (takeR k R0 0).2.1 (takeR k R0 0).2.2) = _
    rw [h.tk]
    simp only [Prod.mk.injEq, true_and]
    unfold rdE
    rw [if_pos he]
  · rw [h.data hb0, d2]
    unfold catR
    rw [List.flatMap_append, List.flatMap_cons, List.flatMap_nil, List.append_nil, List.append_assoc, c3]
  · intro m hm
    rcases List.mem_append.1 hm with hm | hm
    · exact h.ok m hm
    · simp only [List.mem_singleton] at hm
      subst hm
      exact ⟨c1, c2⟩
/-- The bytes tell these numbers and records. -/
def dec7 (s : ByteArray) (vs : List Int) (ms : List RcM) : Prop := vs = pl vs ∧ (∀ x ∈ vs, 0 ≤ x ∧ x ≤ 1099511627776) ∧ ms.length ≤ 16 ∧ okM ms ∧ s.data.toList = putB 9 7 ++ (putB 9 (id1 s).1 ++ (putB 9 (vs.length : Int) ++ (mcat vs ++ (putB 9 (ms.length : Int) ++ catR ms))))
theorem gd7_iff (s : ByteArray) : gd7 s ↔ ∃ vs ms, dec7 s vs ms := Iff.rfl
theorem dec7_one {s : ByteArray} (hs : s.size ≤ 1000000000) {vs vs' : List Int} {ms ms' : List RcM} (h : dec7 s vs ms) (h' : dec7 s vs' ms') : vs = vs' ∧ ms = ms' := by
  have r1 := gd7_reads hs h.1 h.2.1 h.2.2.1 h.2.2.2.1 h.2.2.2.2 _ (Nat.le_refl _) (.inl rfl) _ (Nat.le_refl _) (.inl rfl)
  have r2 := gd7_reads hs h'.1 h'.2.1 h'.2.2.1 h'.2.2.2.1 h'.2.2.2.2 _ (Nat.le_refl _) (.inl rfl) _ (Nat.le_refl _) (.inl rfl)
  exact ⟨r1.1.symm.trans r2.1, r1.2.1.symm.trans r2.2.1⟩
/-- The reader behind the numbers, and behind how many records there are. -/
def R9 (s : ByteArray) : Rdr := (tvV (id1 s).2).2
def R10 (s : ByteArray) : Rdr := ((R9 s).small 16).2
def N7 (s : ByteArray) : Nat := ((R9 s).small 16).1.toNat
theorem R9_ok {s : ByteArray} (hs : s.size ≤ 1000000000) : (R9 s).ok ∧ (R9 s).s = (id1 s).2.s := tvV_ok (id1_ok hs).1
theorem R10_ok {s : ByteArray} (hs : s.size ≤ 1000000000) : (R10 s).ok ∧ (R10 s).s = (R9 s).s := Rdr.small_ok (R9_ok hs).1 16
/-- All was read, and nothing is left: the bytes are a message's. -/
theorem dec7_of {s : ByteArray} (hs : s.size ≤ 1000000000) (hk : ((r0 s).small 7).1 = 7) {ms : List RcM} {R : Rdr} (h : TkG (R10 s) (N7 s) ms R) (hf : R.fin = 0) : dec7 s (tvV (id1 s).2).1 ms := by
  have hRok : R.ok := by have := (takeR_ok (R10_ok hs).1 0 (N7 s)).1; rw [h.tk] at this; exact this
  obtain ⟨f1, f2⟩ := fin0 hRok hf
  have hb10 : (R10 s).bad = false := by
    cases hb : (R10 s).bad
    · rfl
    · have h0 := h.bad0 hb
      have h1 := h.tk
      rw [h0] at h1
      have h2 : R10 s = R := congrArg (fun x => x.2.1) h1
      rw [← h2, hb] at f1
      cases f1
  obtain ⟨a1, a2, a3, a4⟩ := small_good (R9_ok hs).1 hb10
  obtain ⟨t1, t2⟩ := tv_eq (r := (id1 s).2) a1
  have hb9 : (tkV (id1 s).2).2.bad = false := by rw [← t1]; exact a1
  obtain ⟨c1, c2, c3⟩ := tk_data (id1_ok hs).1 hb9
  have hn : ((ms.length : Nat) : Int) = ((R9 s).small 16).1 := by rw [h.len]; unfold N7; omega
  refine ⟨by rw [t1]; exact t2, by rw [t1]; exact c3, by have := hn; omega, h.ok, ?_⟩
  rw [t1, hd_data hs c1, hk, c2, hn]
  have e9 : (tkV (id1 s).2).2.rest = (R9 s).rest := by unfold R9; rw [t1]
  rw [e9, a4]
  have := h.data hb10
  rw [f2, List.append_nil] at this
  rw [← this]
  rfl
/-- Where the bytes are a message's, what is read of them is that. -/
theorem dec7_at {s : ByteArray} (hs : s.size ≤ 1000000000) {vs : List Int} {ms : List RcM} (h : dec7 s vs ms) : (tvV (id1 s).2).1 = vs ∧ N7 s = ms.length ∧ (R10 s).bad = false ∧ (∀ j, j ≤ ms.length → (takeR j (R10 s) 0).1 = ms.take j ∧ (takeR j (R10 s) 0).2.1.bad = false ∧ (takeR j (R10 s) 0).2.2 = 0) ∧ (takeR ms.length (R10 s) 0).2.1.fin = 0 := by
  obtain ⟨h1, h2, h3, h4, h5⟩ := h
  have hi := id1_ok hs
  obtain ⟨_, _, c3, c4⟩ := head_at hs 7 (id1 s).1 (by omega) (id1_range hs) _ h5
  have hv8 : vs.length ≤ 8 := by rw [h1]; exact pl_length vs
  obtain ⟨d1, d2, d3⟩ := small_at (most := 8) hi.1 c3 c4 (by omega) (by omega) (by decide)
  have k8 := Rdr.small_ok hi.1 8
  have hn : ((id1 s).2.small 8).1.toNat = vs.length := by rw [d1]; omega
  have hA := takeN_at k8.1 d2 vs _ h2 d3 vs.length (Nat.le_refl _)
  rw [List.take_length, List.drop_length] at hA
  have hT : tkV (id1 s).2 = takeN vs.length ((id1 s).2.small 8).2 := by unfold tkV; rw [hn]
  have hV : tvV (id1 s).2 = tkV (id1 s).2 := by
    unfold tvV
    rw [if_pos ⟨by rw [hT]; exact hA.2.1, by rw [hT, hA.1]; exact h1⟩]
  have h9 : R9 s = (takeN vs.length ((id1 s).2.small 8).2).2 := by unfold R9; rw [hV, hT]
  have k9 := R9_ok hs
  obtain ⟨b1, b2, b3⟩ := small_at (r := R9 s) (most := 16) (v := ms.length) (t := catR ms) k9.1 (by rw [h9]; exact hA.2.1) (by rw [h9, hA.2.2]; rfl) (by omega) (by omega) (by decide)
  have k10 := R10_ok hs
  have hB := fun j hj => takeR_at (r := R10 s) k10.1 b2 0 ms [] h4 (by rw [List.append_nil]; exact b3) j hj
  refine ⟨by rw [hV, hT]; exact hA.1, by unfold N7; rw [b1]; omega, b2, fun j hj => ⟨(hB j hj).1, (hB j hj).2.1, (hB j hj).2.2.2⟩, ?_⟩
  have := hB ms.length (Nat.le_refl _)
  rw [List.drop_length] at this
  exact (fin_rest (takeR_ok k10.1 0 _).1).2 ⟨this.2.1, by rw [this.2.2.1]; rfl⟩
end
end Go.Proofs.YtglabahbklpocaaGreat
namespace Go.Proofs.YtglabahbklpocaaGreat
section
open Go.RowKit Go.Deep
set_option maxRecDepth 100000
set_option linter.unusedVariables false
set_option linter.unusedSimpArgs false
attribute [local go_sem ↓] Go.wp_at_zero Go.wp_at_succ
end
end Go.Proofs.YtglabahbklpocaaGreat
namespace Go.Proofs.YtglabahbklpocaaGreat
section
open Go.RowKit Go.Deep
set_option maxRecDepth 100000
set_option linter.unusedVariables false
set_option linter.unusedSimpArgs false
attribute [local go_sem ↓] Go.wp_at_zero Go.wp_at_succ
/-- Nothing that the message leads to lies in block G. -/
structure FarW (G : Nat) (x : Wi) (rs : List RecA) : Prop where
  p : farA [G] x.np
  r : farA [G] x.nr
  v : farA [G] x.vec
  d : ∀ y ∈ rs, farA [G] y.d
theorem farA.cut {F : List Nat} {d : Sl} (h : farA F d) : farA F d.cut := by
  unfold Sl.cut
  split
  · rcases h with h | h
    · omega
    · exact .inr h
  · exact h
theorem WiAt.far {w : World} {x : Wi} {ps : List Pt} {rs : List RecA} {vs : List Int} (h : WiAt w x ps rs vs) {G : Nat} (hG : w.heap.size ≤ G) : FarW G x rs := by
  have q : ∀ d : Sl, (d.n = 0 ∨ ∀ p, d.a = some p → p.block < w.heap.size) → farA [G] d := fun d hd => hd.imp_right fun k p hp hm => by have := k p hp; simp only [List.mem_singleton] at hm; omega
  exact ⟨q _ h.p.r.ltA, q _ h.r.r.ltA, q _ h.v.lt, fun y hy => q _ (h.r.ok y hy).sl.lt⟩
theorem WiAt.but {w w' : World} {x : Wi} {ps : List Pt} {rs : List RecA} {vs : List Int} {G : Nat} (h : WiAt w x ps rs vs) (hf : FarW G x rs) (hb : But G w w') : WiAt w' x ps rs vs := by
  have hd : ∀ i, i < w.heap.size → i ∉ [G] → w'.heap[i]? = w.heap[i]? := fun i hi hn => hb.block i hi (by simp; exact fun e => hn (by simp [e]))
  exact ⟨⟨ReadsE.keep h.p.r hf.p hb.size hd, h.p.wf, h.p.nc, h.p.cb⟩, ⟨ReadsE.keep h.r.r hf.r hb.size hd, fun y hy => ⟨(h.r.ok y hy).wf, (h.r.ok y hy).sl.keep (hf.d y hy) hb.size hd⟩, h.r.nc, h.r.cb⟩, h.v.keep hf.v hb.size hd, h.f, h.t, h.s⟩
end
end Go.Proofs.YtglabahbklpocaaGreat
namespace Go.Proofs.YtglabahbklpocaaGreat
section
open Go.RowKit
set_option maxRecDepth 100000
set_option linter.unusedVariables false
set_option linter.unusedSimpArgs false
def rtakeV (r : Rdr) : St × Rdr := if okV (takeP r).1 = true then takeP r else (⟨0, 0, 0⟩, { (takeP r).2 with bad := true })
theorem rtakeV_ok {r : Rdr} (h : r.ok) : (rtakeV r).2.ok ∧ (rtakeV r).2.s = r.s := by
  have h1 := takeP_ok h
  unfold rtakeV
  split
  · exact h1
  · exact ⟨h1.1, h1.2⟩
theorem small_neg (r : Rdr) : (r.small (-1)).2.bad = true := by
  unfold Rdr.small
  rw [if_pos (.inr (.inl (by decide)))]
theorem take_same (r : Rdr) : (rtakeV r).1 = (takeV r).1 ∧ (rtakeV r).2.left = (takeV r).2.left := by
  unfold rtakeV takeV
  by_cases h : okV (takeP r).1 = true
  · rw [if_pos h, if_pos h]; exact ⟨rfl, rfl⟩
  · rw [if_neg h, if_neg h]
    refine ⟨rfl, ?_⟩
    unfold Rdr.left
    rw [if_pos rfl, if_pos (small_neg _)]
set_option maxHeartbeats 2000000 in
theorem rtake_any (g : Nat) (r : Rdr) (w : World) (h : RdrAt 105 w g r) (hr : r.ok) :
    Calls Tryz.prog 127 #[.pointer (some ⟨g, 0, none⟩)] w fun e w' => e = .returned (rtakeV r).1.val ∧ RdrAt 105 w' g (rtakeV r).2 ∧ But g w w' := by
  have hlt := h.lt
  have HT : Hid (rtakeV r = if okV (takeP r).1 = true then takeP r else (⟨0, 0, 0⟩, { (takeP r).2 with bad := true })) := rfl
  have HG := Lib.hid (@take_good r)
  have k1 := Rdr.small_ok hr 1099511627776
  have k2 := Rdr.small_ok k1.1 7
  have k3 := Rdr.small_ok k2.1 1099511627776
  have h0 := h.alloc (.cells #[.int .i64 0, .int .i64 0, .int .i64 0] 58)
  have z0 := StAt.new w ⟨0, 0, 0⟩
  simp only at z0
  have B0 := (But.refl g w).alloc (.cells #[.int .i64 0, .int .i64 0, .int .i64 0] 58)
  have hne : w.heap.size ≠ g := by omega
  generalize rtakeV r = V at *
  go_enter Tryz.func127, Tryz.ntmps127
  go_wp2_with fail
  refine (rrdr_small g r 1099511627776 _ h0 hr (by decide) (by decide)).mono ?_
  rintro e w1 ⟨rfl, h1, b1⟩
  go_wp2_with fail
  refine (rrdr_small g _ 7 _ h1 k1.1 (by decide) (by decide)).mono ?_
  rintro e w2 ⟨rfl, h2, b2⟩
  go_wp2_with fail
  refine (rrdr_small g _ 1099511627776 _ h2 k2.1 (by decide) (by decide)).mono ?_
  rintro e w3 ⟨rfl, h3, b3⟩
  have z3 := ((z0.but b1 hne).but b2 hne).but b3 hne
  have B3 := ((B0.trans b1).trans b2).trans b3
  clear b1 b2 b3 h1 h2 z0 B0 h0 h
  generalize hP : takeP r = P at *
  obtain ⟨S, R⟩ := P
  have e1 : (r.small 1099511627776).1 = S.clock := congrArg (fun p : St × Rdr => p.1.clock) hP
  have e2 : ((r.small 1099511627776).2.small 7).1 = S.site := congrArg (fun p : St × Rdr => p.1.site) hP
  have e3 : (((r.small 1099511627776).2.small 7).2.small 1099511627776).1 = S.seq := congrArg (fun p : St × Rdr => p.1.seq) hP
  have e4 : (((r.small 1099511627776).2.small 7).2.small 1099511627776).2 = R := congrArg (fun p : St × Rdr => p.2) hP
  rw [e1, e2, e3]
  rw [e4] at h3 k3
  clear e1 e2 e3 e4 hP k1 k2
  have hS := StAt.new w3 S
  have B4 := B3.alloc (.cells #[.int .i64 S.clock, .int .i64 S.site, .int .i64 S.seq] 58)
  have h4 := h3.alloc (.cells #[.int .i64 S.clock, .int .i64 S.site, .int .i64 S.seq] 58)
  have z4 := z3.alloc (.cells #[.int .i64 S.clock, .int .i64 S.site, .int .i64 S.seq] 58)
  have hl3 := z3.lt
  have hl4 := h3.lt
  have CK := fun wx => rcheck_any S wx
  unfold St.val at CK
  go_upto_region 5 with (fail)
  clear h3 z3 B3
  generalize w3.alloc (.cells #[.int .i64 S.clock, .int .i64 S.site, .int .i64 S.seq] 58) = w4 at *
  generalize w3.heap.size = k at *
  have s0 := hS.c0
  have s1 := hS.c1
  have s2 := hS.c2
  have x2 := h4.c2
  have y2 := h4.fz 2
  have q0 := z4.c0
  have q1 := z4.c1
  have q2 := z4.c2
  have f0 := z4.fz 0
  have f1 := z4.fz 1
  have f2 := z4.fz 2
  rcases hbad : R.bad with _ | _
  · rw [hbad] at x2
    have RB := Lib.hid hbad
    clear hbad
    go_wp2_with fail
    refine (CK _).mono ?_
    rintro e w5 ⟨rfl, d5⟩
    have h5 := h4.below d5
    have z5 := z4.below d5
    have S5 := hS.below d5
    have B5 := B4.then_below d5
    clear h4 z4 hS B4 d5 s0 s1 s2 x2 y2 q0 q1 q2 f0 f1 f2
    have s0 := S5.c0
    have s1 := S5.c1
    have s2 := S5.c2
    have x2 := h5.c2
    have y2 := h5.fz 2
    have q0 := z5.c0
    have q1 := z5.c1
    have q2 := z5.c2
    have f0 := z5.fz 0
    have f1 := z5.fz 1
    have f2 := z5.fz 2
    by_cases hok : okV S = true
    · have HV : Hid (V = (S, R)) := by show _ = _; rw [HT.out, if_pos hok]
      have e1 : chkV S = 0 := if_pos hok
      rw [e1]
      have HR := Lib.hid (((h5.far (p := ⟨w.heap.size, 0, none⟩) hne.symm (.int .i64 S.clock)).far (p := ⟨w.heap.size, 1, none⟩) hne.symm (.int .i64 S.site)).far (p := ⟨w.heap.size, 2, none⟩) hne.symm (.int .i64 S.seq))
      have HB := Lib.hid (((B5.far (p := ⟨w.heap.size, 0, none⟩) (Nat.le_refl _) (.int .i64 S.clock)).far (p := ⟨w.heap.size, 1, none⟩) (Nat.le_refl _) (.int .i64 S.site)).far (p := ⟨w.heap.size, 2, none⟩) (Nat.le_refl _) (.int .i64 S.seq))
      clear hok e1
      go_wp2_with fail
      refine bodyPost_ret (v := .agg #[.int .i64 S.clock, .int .i64 S.site, .int .i64 S.seq]) (by simp [results, Tryz.results127, go_sem, *]) rfl ⟨by rw [HV.out]; rfl, by rw [HV.out]; exact HR.out, HB.out⟩
    · have HV : Hid (V = (⟨0, 0, 0⟩, { R with bad := true })) := by show _ = _; rw [HT.out, if_neg hok]
      have e1 : chkV S = 1 := if_neg hok
      rw [e1]
      clear hok e1
      have HR := Lib.hid ((((h5.set2 true).far (p := ⟨w.heap.size, 0, none⟩) hne.symm (.int .i64 0)).far (p := ⟨w.heap.size, 1, none⟩) hne.symm (.int .i64 0)).far (p := ⟨w.heap.size, 2, none⟩) hne.symm (.int .i64 0))
      have HB := Lib.hid ((((B5.trans (But.set g 2 _ (.bool true))).far (p := ⟨w.heap.size, 0, none⟩) (Nat.le_refl _) (.int .i64 0)).far (p := ⟨w.heap.size, 1, none⟩) (Nat.le_refl _) (.int .i64 0)).far (p := ⟨w.heap.size, 2, none⟩) (Nat.le_refl _) (.int .i64 0))
      go_wp2_with fail
      refine bodyPost_ret (v := .agg #[.int .i64 0, .int .i64 0, .int .i64 0]) (by simp [results, Tryz.results127, go_sem, *]) rfl ⟨by rw [HV.out]; rfl, by rw [HV.out]; exact HR.out, HB.out⟩
  · rw [hbad] at x2
    have hok : ¬ okV S = true := fun h => by have := HG.out h; rw [hbad] at this; cases this
    have HV : Hid (V = (⟨0, 0, 0⟩, { R with bad := true })) := by show _ = _; rw [HT.out, if_neg hok]
    have HR := Lib.hid ((((h4.set2 true).far (p := ⟨w.heap.size, 0, none⟩) hne.symm (.int .i64 0)).far (p := ⟨w.heap.size, 1, none⟩) hne.symm (.int .i64 0)).far (p := ⟨w.heap.size, 2, none⟩) hne.symm (.int .i64 0))
    have HB := Lib.hid ((((B4.trans (But.set g 2 _ (.bool true))).far (p := ⟨w.heap.size, 0, none⟩) (Nat.le_refl _) (.int .i64 0)).far (p := ⟨w.heap.size, 1, none⟩) (Nat.le_refl _) (.int .i64 0)).far (p := ⟨w.heap.size, 2, none⟩) (Nat.le_refl _) (.int .i64 0))
    clear hok hbad
    go_wp2_with fail
    refine bodyPost_ret (v := .agg #[.int .i64 0, .int .i64 0, .int .i64 0]) (by simp [results, Tryz.results127, go_sem, *]) rfl ⟨by rw [HV.out]; rfl, by rw [HV.out]; exact HR.out, HB.out⟩
end
end Go.Proofs.YtglabahbklpocaaGreat
