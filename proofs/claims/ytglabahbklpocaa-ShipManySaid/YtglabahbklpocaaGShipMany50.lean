/- Plain law: two hundred points as a message's bytes, read again. -/
import Derived.Test.YtglabahbklpocaaGShipMany49
namespace Go.Proofs.Ytglabahbklpocaa
section
open Go.RowKit Go.Deep
set_option maxRecDepth 100000
set_option linter.unusedVariables false
set_option linter.unusedSimpArgs false
def mkP (i : Nat) : Pt := ⟨⟨#[97]⟩, i, 0, ⟨1, 0, 1⟩⟩
def mkL (n : Nat) : List Pt := (List.range n).map mkP
theorem mkL_len (n : Nat) : (mkL n).length = n := by simp [mkL]
theorem mkL_succ (n : Nat) : mkL (n + 1) = mkL n ++ [mkP n] := by simp [mkL, List.range_succ]
theorem mkP_name : nameV ⟨#[97]⟩ = true := nameV_true (by unfold nameP okC; decide)
theorem mkL_ok {n : Nat} (hn : n ≤ 2000) : okPts (mkL n) := by
  intro p hp
  simp only [mkL, List.mem_map, List.mem_range] at hp
  obtain ⟨i, hi, rfl⟩ := hp
  unfold chkP
  have hc : clockV (mkP i).time = true := by
    unfold clockV mkP
    simp
    omega
  rw [if_pos ⟨mkP_name, hc⟩]
  show chkV ⟨1, 0, 1⟩ = 0
  decide +kernel
theorem mkL_wf {n : Nat} (hn : n ≤ 2000) : ∀ p ∈ mkL n, p.wf := by
  intro p hp
  simp only [mkL, List.mem_map, List.mem_range] at hp
  obtain ⟨i, hi, rfl⟩ := hp
  have c0 : i64 0 := ⟨by decide, by decide⟩
  have c1 : i64 1 := ⟨by decide, by decide⟩
  refine ⟨by simp [mkP, maxLen, ByteArray.size], ?_, c0, c1, c0, c1⟩
  unfold i64 mkP
  simp only
  omega
/-- A message's bytes that bear points, read again. -/
theorem gd1_bytes {L : List Pt} (id : Int) (hid : 0 ≤ id ∧ id ≤ 1099511627776) (hok : okPts L) (hw : ∀ p ∈ L, p.wf) (hn : L.length ≤ 200) :
    (vput 1 ++ vput id ++ vtext ⟨(ptsL L).toArray⟩).size ≤ 200000 ∧ ((r0 (vput 1 ++ vput id ++ vtext ⟨(ptsL L).toArray⟩)).small 7).1 = 1 ∧ gd1 (vput 1 ++ vput id ++ vtext ⟨(ptsL L).toArray⟩) ∧ (readP (tx1 (vput 1 ++ vput id ++ vtext ⟨(ptsL L).toArray⟩)).1).1 = L ∧ (id1 (vput 1 ++ vput id ++ vtext ⟨(ptsL L).toArray⟩)).1 = id := by
  have hP : (ptsL L).length ≤ 100000 := by
    have := ptsL_le hok
    omega
  have hd : (vput 1 ++ vput id ++ vtext ⟨(ptsL L).toArray⟩).data.toList = putB 9 1 ++ (putB 9 id ++ (tb ⟨(ptsL L).toArray⟩ ++ [])) := by
    simp only [ByteArray.data_append, Array.toList_append, vput_data, vtext_data, List.append_assoc, List.append_nil]
  obtain ⟨S, hS⟩ : ∃ S, vput 1 ++ vput id ++ vtext ⟨(ptsL L).toArray⟩ = S := ⟨_, rfl⟩
  have hsz : S.size ≤ 200000 := by
    have h1 : S.data.toList.length = S.size := by simp
    rw [← hS, hd] at h1
    simp only [List.length_append, List.length_nil, tb] at h1
    have z1 := putB_le (1 : Int)
    have z2 := putB_le id
    have z3 := putB_le ((⟨(ptsL L).toArray⟩ : ByteArray).size : Int)
    have z4 : (⟨(ptsL L).toArray⟩ : ByteArray).data.toList.length = (ptsL L).length := by simp
    rw [hS] at h1
    omega
  rw [hS] at hd ⊢
  have h0 := r0_ok (s := S) (by omega)
  have k1 := Rdr.small_ok h0 7
  have k2 := Rdr.small_ok k1.1 1099511627776
  have k3 := Rdr.text_ok k2.1
  obtain ⟨a1, a2, a3⟩ := small_at (most := 7) h0 rfl ((r0_rest S).trans hd) (by omega) (by omega) (by decide)
  obtain ⟨b1, b2, b3⟩ := small_at (most := 1099511627776) k1.1 a2 a3 hid.1 hid.2 (by decide)
  obtain ⟨c1, c2, c3⟩ := text_at k2.1 b2 b3
  have hfin : (tx1 S).2.fin = 0 := (fin_rest k3.1).2 ⟨c2, c3⟩
  have htx : (tx1 S).1 = ⟨(ptsL L).toArray⟩ := c1
  have hrp : readP (tx1 S).1 = (L, 0) := by rw [htx]; exact read_pts hok hw (by omega)
  refine ⟨hsz, a1, ⟨hfin, by rw [hrp], by rw [hrp]; exact hn, by rw [hrp]; exact hok, ?_⟩, by rw [hrp], b1⟩
  rw [hrp, show (id1 S).1 = id from b1]
  exact hS
theorem small_empty : ((r0 ⟨#[]⟩).small 7).1 = 0 := by decide +kernel
theorem Kn.belowB {B C : Nat} {w0 w w' : World} {l : List (Nat × Obj)} (h : Kn B w0 l w) (d : Below C w w') (hC : B ≤ C) (hl : ∀ p ∈ l, p.1 < C) : Kn B w0 l w' :=
  ⟨fun p hp => (d.block p.1 (hl p hp)).trans (h.at_ p hp), h.b.trans (d.mono hC), Nat.le_trans h.le d.size⟩
theorem AppE.but2 {α : Type} {cs : α → List Value} {T : TypeId} {sz : Nat} {w w' : World} {B g : Nat} {a : Option Addr} {n cap : Nat} {l : List α} (h : AppE cs T sz w B a n cap l) (k : But g w w') (hg : g < B) : AppE cs T sz w' B a n cap l := h.but k hg
end
end Go.Proofs.Ytglabahbklpocaa
