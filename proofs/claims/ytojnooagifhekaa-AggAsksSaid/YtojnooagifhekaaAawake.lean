/- awake of chapter 08's laws: it answers true. -/
import Derived.Test.YtojnooagifhekaaAund
import Derived.Test.YtojnooagifhekaaAmean
namespace Go.Proofs.Ytojnooagifhekaa
open Go.RowKit
set_option maxRecDepth 100000
set_option linter.unusedVariables false
set_option linter.unusedSimpArgs false
attribute [local go_sem ↓] Go.wp_at_zero Go.wp_at_succ
def awP : List Pt := [⟨⟨#[]⟩, 0, 3, ⟨1, 0, 1⟩⟩, ⟨⟨#[]⟩, 0, 5, ⟨2, 0, 2⟩⟩]
def awF : Ag := ⟨2, ⟨0, 8⟩, 3, 5, 5, ⟨2, 0, 2⟩, [0, 0, 2, 0, 0, 0, 0, 0, 0]⟩
theorem aw_fold : foldV awP = awF := by decide +kernel
theorem aw_wf : ∀ p ∈ awP, p.wf := by
  intro p hp
  have e1 : ∀ x : Int, -100 ≤ x → x ≤ 100 → i64 x := fun x h1 h2 => by unfold i64; omega
  simp only [awP, List.mem_cons, List.not_mem_nil, or_false] at hp
  rcases hp with rfl | rfl
  · exact ⟨by unfold maxLen; decide, e1 _ (by decide) (by decide), e1 _ (by decide) (by decide), e1 _ (by decide) (by decide), e1 _ (by decide) (by decide), e1 _ (by decide) (by decide)⟩
  · exact ⟨by unfold maxLen; decide, e1 _ (by decide) (by decide), e1 _ (by decide) (by decide), e1 _ (by decide) (by decide), e1 _ (by decide) (by decide), e1 _ (by decide) (by decide)⟩
theorem aw_ok : awF.ok := by rw [← aw_fold]; exact fold_ok awP aw_wf
set_option maxHeartbeats 4000000 in
set_option maxRecDepth 100000 in
theorem awake_any (w : World) : Calls Try.prog 11 #[] w fun e w' => e = .returned (.bool true) ∧ Below w.heap.size w w' := by
  have HF := fun (a0 : Option Addr) wx (h : ReadsE Pt.cs 6 wx a0 2 awP) => fold_any a0 2 2 awP wx h aw_wf (Nat.le_refl _) (by decide)
  rw [aw_fold] at HF
  have HM := fun wx => mean_any awF wx aw_ok
  rw [show meanV awF = (4, true) from by decide +kernel] at HM
  have HG := fun wx => merge_any Ag0 awF wx Ag0_ok aw_ok
  rw [show mergeV Ag0 awF = awF from rfl] at HG
  have HE := fun wx => (eq_agg awF awF aw_ok aw_ok wx).1
  rw [decide_eq_true rfl] at HE
  have b1 : (bucketV (-5) == 0) = true := by decide
  have b2 : (bucketV 0 == 1) = true := by decide
  have b3 : (bucketV 7 == 2) = true := by decide
  have b4 : (bucketV 10 == 3) = true := by decide
  have b5 : (bucketV 1000000000 == 8) = true := by decide
  unfold Ag.val at HF HM HG HE
  have HL : Hid (awF.bk.length = 9) := rfl
  go_enter Try.func11, Try.ntmps11
  go_wp2_with fail
  refine (HF _ _ (readsE_new Pt.cs 6 pt_len w awP 31)).mono ?_
  rintro e w1 ⟨rfl, d1⟩
  have hb1 : Below w.heap.size w w1 := below_then ((Below.refl _ _).alloc (Nat.le_refl _) _) (by simp) d1
  have hK : Kn w.heap.size w [] w1 := ⟨by simp, hb1, hb1.size⟩
  clear d1 hb1 HF
  go_upto_region 2 with (refine wpList_store_row rfl 29 _ _ rfl w1.heap.size awF.cs.toArray rfl rfl 29 Ag0.cs.toArray (heap_alloc_new _ _) (ag_size HL.out) rfl (ag_one _) ?_)
  rw [World.setRow_alloc_new]
  have hk := hK.new (agO awF)
  unfold agO at hk
  generalize w1.alloc (.cells awF.cs.toArray 29) = w2 at *
  generalize w1.heap.size = g at *
  have KK : Hid (Kn w.heap.size w [(g, agO awF)] w2) := hk
  clear hk hK
  go_upto_region 3 with (first
    | refine wpList_load_row rfl 29 _ rfl g rfl 29 awF.cs.toArray (0, 0) _ KK.out.hd Try.underlying29 rfl (ag_size HL.out) ?_
    | (go_at_call 21; refine (HM _).mono ?_; rintro e w3 ⟨rfl, d3⟩))
  have KK := Lib.hid (KK.out.below d3)
  clear d3 HM
  go_upto_region 4 with (first
    | refine wpList_load_row rfl 29 _ rfl g rfl 29 awF.cs.toArray (0, 0) _ KK.out.hd Try.underlying29 rfl (ag_size HL.out) ?_
    | (go_at_call 16; refine (HG _).mono ?_; rintro e w4 ⟨rfl, d4⟩)
    | refine wpList_store_row rfl 29 _ _ rfl w4.heap.size awF.cs.toArray rfl rfl 29 Ag0.cs.toArray (heap_alloc_new _ _) (ag_size HL.out) rfl (ag_one _) ?_)
  rw [World.setRow_alloc_new]
  have hk := (KK.out.below d4).new (agO awF)
  unfold agO at hk
  generalize w4.alloc (.cells awF.cs.toArray 29) = w5 at *
  generalize w4.heap.size = g2 at *
  have KK : Hid (Kn w.heap.size w [(g2, agO awF), (g, agO awF)] w5) := hk
  clear hk d4 HG
  have c0 : w5.cell? ⟨g, 0, none⟩ = some (.int .i64 2) := KK.out.cell (g := g) (o := agO awF) (by simp) (ag_c0 awF)
  have c2 : w5.cell? ⟨g, 2, none⟩ = some (.int .u64 8) := KK.out.cell (g := g) (o := agO awF) (by simp) (ag_c2 awF)
  have c3 : w5.cell? ⟨g, 3, none⟩ = some (.int .i64 3) := KK.out.cell (g := g) (o := agO awF) (by simp) (ag_c3 awF)
  have c4 : w5.cell? ⟨g, 4, none⟩ = some (.int .i64 5) := KK.out.cell (g := g) (o := agO awF) (by simp) (ag_c4 awF)
  have c5 : w5.cell? ⟨g, 5, none⟩ = some (.int .i64 5) := KK.out.cell (g := g) (o := agO awF) (by simp) (ag_c5 awF)
  have HB := fun v wx (h : v ≤ 9223372036854775807) => bucket_any v wx h
  go_wp2_with (first
    | (go_at_call 12; refine (HB _ _ (by decide)).mono ?_; rintro e w' ⟨rfl, rfl⟩)
    | refine wpList_load_row_w rfl 29 _ rfl g2 rfl 29 awF.cs.toArray (0, 0) _ KK.out.hd Try.underlying29 rfl (ag_size HL.out) ?_
    | refine wpList_load_row_w rfl 29 _ rfl g rfl 29 awF.cs.toArray (0, 0) _ (KK.out.at_ (g, agO awF) (by simp)) Try.underlying29 rfl (ag_size HL.out) ?_)
  go_ret
  exact ⟨rfl, KK.out.b⟩
end Go.Proofs.Ytojnooagifhekaa
