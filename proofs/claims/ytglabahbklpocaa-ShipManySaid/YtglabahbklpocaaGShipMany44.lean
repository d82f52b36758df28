/- The reference's SamePoints. The law's short, small. The reference's Same of records. Plain law: what was written is read again, records and points. -/
import Derived.Test.YtglabahbklpocaaGShipMany39
import Derived.Test.YtglabahbklpocaaGShipMany22
import Derived.Test.YtglabahbklpocaaGShipMany11
import Derived.Test.YtglabahbklpocaaGShipMany17
import Derived.Test.YtglabahbklpocaaGShipMany7
import Derived.Test.YtglabahbklpocaaGShipMany42
namespace Go.Proofs.Ytglabahbklpocaa
section
open Go.RowKit
set_option maxRecDepth 100000
set_option linter.unusedVariables false
set_option linter.unusedSimpArgs false
attribute [local go_sem ↓] Go.wp_at_zero Go.wp_at_succ
open Classical in
noncomputable def sameP (xs ys : List Pt) : Bool := decide (xs = ys)
theorem sameP_true {xs ys : List Pt} (h : xs = ys) : sameP xs ys = true := by unfold sameP; simp [h]
theorem sameP_false {xs ys : List Pt} (h : xs ≠ ys) : sameP xs ys = false := by unfold sameP; simp [h]
end
end Go.Proofs.Ytglabahbklpocaa
namespace Go.Proofs.Ytglabahbklpocaa
section
open Go.RowKit
set_option maxRecDepth 100000
set_option linter.unusedVariables false
set_option linter.unusedSimpArgs false
attribute [local go_sem ↓] Go.wp_at_zero Go.wp_at_succ
def Sl.cut (d : Sl) : Sl := if 12 < d.n then ⟨d.a, 12, d.c⟩ else d
def RecA.small (x : RecA) : RecA := ⟨{ x.r with series := x.r.series.extract 0 60 }, x.d.cut, x.ds.take 12⟩
def Sl0 : Sl := ⟨none, 0, 0⟩
def Rc0 : Rc := ⟨0, ⟨#[]⟩, 0, 0, 0, ⟨0, 0, 0⟩⟩
theorem SlR.cut {w : World} {d : Sl} {ds : List Int} (h : SlR w d ds) : SlR w d.cut (ds.take 12) := by
  obtain ⟨⟨h1, h2⟩, h3, h4⟩ := h
  unfold Sl.cut
  split
  · refine ⟨⟨by simp; omega, ?_⟩, by simp; omega, h4⟩
    rcases h2 with h2 | ⟨b, o, e1, e2, e3⟩
    · omega
    · refine .inr ⟨b, o, e1, e2, fun j hj => ?_⟩
      simp only at hj
      rw [e3 j (by omega)]
      congr 2
      simp only [List.getD_eq_getElem?_getD, List.getElem?_take]
      rw [if_pos hj]
  · rw [List.take_of_length_le (by omega)]
    exact ⟨⟨h1, h2⟩, h3, h4⟩
theorem RecA.small_ok {w : World} {x : RecA} (h : x.ok w) : x.small.ok w := ⟨⟨h.wf.1, by
  have := h.wf.2.1
  simp only [RecA.small, ByteArray.size_extract]
  omega, h.wf.2.2⟩, h.sl.cut⟩
theorem RecA.ok.below {w w' : World} {x : RecA} (h : x.ok w) (hb : Below w.heap.size w w') : x.ok w' := ⟨h.wf, h.sl.below hb⟩
end
end Go.Proofs.Ytglabahbklpocaa
namespace Go.Proofs.Ytglabahbklpocaa
section
open Go.RowKit
set_option maxRecDepth 100000
set_option linter.unusedVariables false
set_option linter.unusedSimpArgs false
attribute [local go_sem ↓] Go.wp_at_zero Go.wp_at_succ
open Classical in
noncomputable def sameR (a b : RecA) : Bool := decide (a.r = b.r ∧ a.ds = b.ds)
end
end Go.Proofs.Ytglabahbklpocaa
namespace Go.Proofs.Ytglabahbklpocaa
section
set_option maxRecDepth 100000
set_option linter.unusedVariables false
set_option linter.unusedSimpArgs false
theorem ptsL_le {L : List Pt} (hok : okPts L) : (ptsL L).length ≤ 10 + 150 * L.length := by
  have h1 := putB_le (L.length : Int)
  have h2 := ptsb_le hok
  unfold ptsL
  rw [List.length_append]
  omega
theorem read_pts {L : List Pt} (hok : okPts L) (hw : ∀ p ∈ L, p.wf) (hn : L.length ≤ 1000) : readP ⟨(ptsL L).toArray⟩ = (L, 0) := by
  have hs : (⟨(ptsL L).toArray⟩ : ByteArray).size ≤ 1000000000 := by
    rw [ba_size]
    have := ptsL_le hok
    omega
  have h0 := r0_ok hs
  have hr : (r0 ⟨(ptsL L).toArray⟩).rest = putB 9 (L.length : Int) ++ (ptsb L ++ []) := by rw [r0_rest, List.append_nil]; rfl
  obtain ⟨a1, a2, a3⟩ := small_at (most := 1000) h0 rfl hr (by omega) (by omega) (by decide)
  have hk := Rdr.small_ok h0 1000
  obtain ⟨b1, b2, b3⟩ := takeQ_at hk.1 a2 L [] (fun p hp => ⟨hok p hp, hw p hp⟩) a3 L.length (Nat.le_refl _)
  rw [List.take_length] at b1
  rw [List.drop_length] at b3
  have hfin : (takeQ L.length ((r0 ⟨(ptsL L).toArray⟩).small 1000).2).2.fin = 0 := (fin_rest (takeQ_ok hk.1 _).1).2 ⟨b2, by rw [b3]; simp [ptsb]⟩
  have hp : rpOk ⟨(ptsL L).toArray⟩ := by
    unfold rpOk
    rw [a1, Int.toNat_natCast, b1]
    exact ⟨hfin, hok⟩
  rw [readP_pos hp, a1, Int.toNat_natCast, b1]
theorem recT_le {r : Rc} {ds : List Int} (h : recP r ds) : (recT r ds).size ≤ 3000 := by
  have h1 := vput_le r.kind
  have h2 := stB_le r.st
  have h3 := vecB_le ds
  have h4 := vput_le r.time
  have h5 := vput_le (zig r.value)
  have h6 := vput_le r.tier
  unfold recT
  rw [ByteArray.size_append, ByteArray.size_append, ByteArray.size_append]
  have hm : (midB r).size ≤ 900 := by
    unfold midB
    split
    · have hn : nameV r.series = true := by
        rcases h.2.2.2.2 with h | h
        · exact h.2.1
        · omega
      have m7 := vtext_le r.series (nameV_size hn)
      rw [ByteArray.size_append, ByteArray.size_append]
      omega
    · rw [ByteArray.size_append]
      omega
  omega
theorem recT_pos (r : Rc) (ds : List Int) : 1 ≤ (recT r ds).size := by
  have h1 := vput_pos r.kind
  unfold recT
  rw [ByteArray.size_append, ByteArray.size_append, ByteArray.size_append]
  omega
theorem recB_pos {r : Rc} {ds : List Int} (h : recP r ds) : recB r ds = recT r ds := by unfold recB; rw [if_pos h]
theorem recT_inj {a b : Rc} {ds ds' : List Int} (h1 : recP a ds) (h2 : recP b ds') (w1 : a.wf) (w2 : b.wf) (h : recT a ds = recT b ds') : a = b ∧ ds = ds' := by
  have e1 := read_rec h1 w1 (by have := recT_le h1; omega)
  have e2 := read_rec h2 w2 (by have := recT_le h2; omega)
  rw [h, e2] at e1
  simp only [Prod.mk.injEq, and_true] at e1
  exact ⟨e1.1.symm, e1.2.symm⟩
theorem read_cut2 {a : Rc} {ds : List Int} (hp : recP a ds) (hw : a.wf) : readR ((recT a ds).extract 0 ((recT a ds).size - 1)) = (⟨0, ⟨#[]⟩, 0, 0, 0, ⟨0, 0, 0⟩⟩, [], 10) := by
  have h1 := recT_le hp
  have h2 := recT_pos a ds
  generalize hS : recT a ds = S at *
  have hne : S.data.toList ≠ [] := by
    intro h
    have : S.data.toList.length = S.size := by simp
    rw [h] at this
    simp at this
    omega
  have hl : S.data.toList.length = S.size := by simp
  have hd : (S.extract 0 (S.size - 1)).data.toList = S.data.toList.dropLast := by
    rw [ByteArray.data_extract, Array.toList_extract, List.extract_eq_take_drop, List.drop_zero, List.dropLast_eq_take, hl]
    congr 1
  have hn : ¬ rrOk (S.extract 0 (S.size - 1)) := by
    refine read_cut (b := S.data.toList.getLast hne) hp hw (by rw [hS]; omega) ?_
    rw [hS, hd, List.dropLast_concat_getLast]
  rw [readR_neg hn]
open Classical in
theorem same_eq {a b : RecA} (h1 : recP a.r a.ds) (h2 : recP b.r b.ds) (w1 : a.r.wf) (w2 : b.r.wf) : ((recT a.r a.ds).toList == (recT b.r b.ds).toList) = sameR a b := by
  unfold sameR
  rw [Bool.eq_iff_iff]
  simp only [beq_iff_eq, decide_eq_true_eq]
  constructor
  · intro h
    refine recT_inj h1 h2 w1 w2 ?_
    rw [ba_data, ← Lib.toList_data, ← Lib.toList_data]
    exact h
  · rintro ⟨e1, e2⟩
    rw [e1, e2]
end
end Go.Proofs.Ytglabahbklpocaa
