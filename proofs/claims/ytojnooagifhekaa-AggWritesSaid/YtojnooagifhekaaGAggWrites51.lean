/- awake of chapter 08's laws: it answers true. Points, lists of points, and what is known of points among the arguments. What is read may lie in a block of its own. -/
import Derived.Test.YtojnooagifhekaaGAggWrites34
import Derived.Test.YtojnooagifhekaaGAggWrites26
import Derived.Test.YtojnooagifhekaaGAggWrites33
import Derived.OpenShut
import Derived.ProofKit
import Derived.Lib.SmallJoins
import Derived.Test.YtojnooagifhekaaGAggWrites50
namespace Go.Proofs.Ytojnooagifhekaa
section
open Go.RowKit
set_option maxRecDepth 100000
set_option linter.unusedVariables false
set_option linter.unusedSimpArgs false
attribute [local go_sem ↓] Go.wp_at_zero Go.wp_at_succ
def awP : List Pt := [⟨⟨#[]⟩, 0, 3, ⟨1, 0, 1⟩⟩, ⟨⟨#[]⟩, 0, 5, ⟨2, 0, 2⟩⟩]
def awF : Ag := ⟨2, ⟨0, 8⟩, 3, 5, 5, ⟨2, 0, 2⟩, [0, 0, 2, 0, 0, 0, 0, 0, 0]⟩
theorem aw_fold : foldV awP = awF := by decide +kernel
theorem aw_wf : ∀ p ∈ awP, p.wf := by
  intro p hp
  have e1 : ∀ x : Int, -100 ≤ x → x ≤ 100 → i64 x := fun x h1 h2 => by unfold i64; omega
  simp only [awP, List.mem_cons, List.not_mem_nil, or_false] at hp
  rcases hp with rfl | rfl
  · exact ⟨by unfold maxLen; decide, e1 _ (by decide) (by decide), e1 _ (by decide) (by decide), e1 _ (by decide) (by decide), e1 _ (by decide) (by decide), e1 _ (by decide) (by decide)⟩
  · exact ⟨by unfold maxLen; decide, e1 _ (by decide) (by decide), e1 _ (by decide) (by decide), e1 _ (by decide) (by decide), e1 _ (by decide) (by decide), e1 _ (by decide) (by decide)⟩
theorem aw_ok : awF.ok := by rw [← aw_fold]; exact fold_ok awP aw_wf
set_option maxHeartbeats 4000000 in
set_option maxRecDepth 100000 in
theorem awake_any (w : World) : Calls Try.prog 11 #[] w fun e w' => e = .returned (.bool true) ∧ Below w.heap.size w w' := by
  have HF := fun (a0 : Option Addr) wx (h : ReadsE Pt.cs 6 wx a0 2 awP) => fold_any a0 2 2 awP wx h aw_wf (Nat.le_refl _) (by decide)
  rw [aw_fold] at HF
  have HM := fun wx => mean_any awF wx aw_ok
  rw [show meanV awF = (4, true) from by decide +kernel] at HM
  have HG := fun wx => merge_any Ag0 awF wx Ag0_ok aw_ok
  rw [show mergeV Ag0 awF = awF from rfl] at HG
  have HE := fun wx => (eq_agg awF awF aw_ok aw_ok wx).1
  rw [decide_eq_true rfl] at HE
  have b1 : (bucketV (-5) == 0) = true := by decide
  have b2 : (bucketV 0 == 1) = true := by decide
  have b3 : (bucketV 7 == 2) = true := by decide
  have b4 : (bucketV 10 == 3) = true := by decide
  have b5 : (bucketV 1000000000 == 8) = true := by decide
  unfold Ag.val at HF HM HG HE
  have HL : Hid (awF.bk.length = 9) := rfl
  go_enter Try.func11, Try.ntmps11
  go_wp2_with fail
  refine (HF _ _ (readsE_new Pt.cs 6 pt_len w awP 31)).mono ?_
  rintro e w1 ⟨rfl, d1⟩
  have hb1 : Below w.heap.size w w1 := below_then ((Below.refl _ _).alloc (Nat.le_refl _) _) (by simp) d1
  have hK : Kn w.heap.size w [] w1 := ⟨by simp, hb1, hb1.size⟩
  clear d1 hb1 HF
  go_upto_region 2 with (refine wpList_store_row rfl 29 _ _ rfl w1.heap.size awF.cs.toArray rfl rfl 29 Ag0.cs.toArray (heap_alloc_new _ _) (ag_size HL.out) rfl (ag_one _) ?_)
  rw [World.setRow_alloc_new]
  have hk := hK.new (agO awF)
  unfold agO at hk
  generalize w1.alloc (.cells awF.cs.toArray 29) = w2 at *
  generalize w1.heap.size = g at *
  have KK : Hid (Kn w.heap.size w [(g, agO awF)] w2) := hk
  clear hk hK
  go_upto_region 3 with (first
    | refine wpList_load_row rfl 29 _ rfl g rfl 29 awF.cs.toArray (0, 0) _ KK.out.hd Try.underlying29 rfl (ag_size HL.out) ?_
    | (go_at_call 21; refine (HM _).mono ?_; rintro e w3 ⟨rfl, d3⟩))
  have KK := Lib.hid (KK.out.below d3)
  clear d3 HM
  go_upto_region 4 with (first
    | refine wpList_load_row rfl 29 _ rfl g rfl 29 awF.cs.toArray (0, 0) _ KK.out.hd Try.underlying29 rfl (ag_size HL.out) ?_
    | (go_at_call 16; refine (HG _).mono ?_; rintro e w4 ⟨rfl, d4⟩)
    | refine wpList_store_row rfl 29 _ _ rfl w4.heap.size awF.cs.toArray rfl rfl 29 Ag0.cs.toArray (heap_alloc_new _ _) (ag_size HL.out) rfl (ag_one _) ?_)
  rw [World.setRow_alloc_new]
  have hk := (KK.out.below d4).new (agO awF)
  unfold agO at hk
  generalize w4.alloc (.cells awF.cs.toArray 29) = w5 at *
  generalize w4.heap.size = g2 at *
  have KK : Hid (Kn w.heap.size w [(g2, agO awF), (g, agO awF)] w5) := hk
  clear hk d4 HG
  have c0 : w5.cell? ⟨g, 0, none⟩ = some (.int .i64 2) := KK.out.cell (g := g) (o := agO awF) (by simp) (ag_c0 awF)
  have c2 : w5.cell? ⟨g, 2, none⟩ = some (.int .u64 8) := KK.out.cell (g := g) (o := agO awF) (by simp) (ag_c2 awF)
  have c3 : w5.cell? ⟨g, 3, none⟩ = some (.int .i64 3) := KK.out.cell (g := g) (o := agO awF) (by simp) (ag_c3 awF)
  have c4 : w5.cell? ⟨g, 4, none⟩ = some (.int .i64 5) := KK.out.cell (g := g) (o := agO awF) (by simp) (ag_c4 awF)
  have c5 : w5.cell? ⟨g, 5, none⟩ = some (.int .i64 5) := KK.out.cell (g := g) (o := agO awF) (by simp) (ag_c5 awF)
  have HB := fun v wx (h : v ≤ 9223372036854775807) => bucket_any v wx h
  go_wp2_with (first
    | (go_at_call 12; refine (HB _ _ (by decide)).mono ?_; rintro e w' ⟨rfl, rfl⟩)
    | refine wpList_load_row_w rfl 29 _ rfl g2 rfl 29 awF.cs.toArray (0, 0) _ KK.out.hd Try.underlying29 rfl (ag_size HL.out) ?_
    | refine wpList_load_row_w rfl 29 _ rfl g rfl 29 awF.cs.toArray (0, 0) _ (KK.out.at_ (g, agO awF) (by simp)) Try.underlying29 rfl (ag_size HL.out) ?_)
  go_ret
  exact ⟨rfl, KK.out.b⟩
end
end Go.Proofs.Ytojnooagifhekaa
namespace Go.Proofs.Ytojnooagifhekaa
section
open Go.RowKit Go.ChangeShapes Go.WideShapes Go.Joins Go.Deep
set_option maxRecDepth 100000
set_option linter.unusedVariables false
set_option linter.unusedSimpArgs false
theorem ag_dec {cs : List Value} (h : Flat agL cs) : ∃ a : Ag, a.cs = cs ∧ a.ok := by
  have hl := h.len
  match cs, hl with
  | [v0, v1, v2, v3, v4, v5, v6, v7, v8, v9, v10, v11, v12, v13, v14, v15, v16, v17], _ =>
    obtain ⟨⟨n0, rfl, w0⟩, ⟨n1, rfl, w1⟩, ⟨n2, rfl, w2⟩, ⟨n3, rfl, w3⟩, ⟨n4, rfl, w4⟩, ⟨n5, rfl, w5⟩, ⟨n6, rfl, w6⟩, ⟨n7, rfl, w7⟩, ⟨n8, rfl, w8⟩, ⟨n9, rfl, w9⟩, ⟨n10, rfl, w10⟩, ⟨n11, rfl, w11⟩, ⟨n12, rfl, w12⟩, ⟨n13, rfl, w13⟩, ⟨n14, rfl, w14⟩, ⟨n15, rfl, w15⟩, ⟨n16, rfl, w16⟩, ⟨n17, rfl, w17⟩, _⟩ := h
    refine ⟨⟨n0, ⟨n1, n2⟩, n3, n4, n5, ⟨n6, n7, n8⟩, [n9, n10, n11, n12, n13, n14, n15, n16, n17]⟩, rfl, i64_of w0, ⟨i64_of w1, u64_of w2⟩, i64_of w3, i64_of w4, i64_of w5, ⟨i64_of w6, i64_of w7, i64_of w8⟩, rfl, ?_⟩
    intro x hx
    simp only [List.mem_cons, List.not_mem_nil, or_false] at hx
    rcases hx with rfl | rfl | rfl | rfl | rfl | rfl | rfl | rfl | rfl
    · exact i64_of w9
    · exact i64_of w10
    · exact i64_of w11
    · exact i64_of w12
    · exact i64_of w13
    · exact i64_of w14
    · exact i64_of w15
    · exact i64_of w16
    · exact i64_of w17
def IsAg (w : World) (v : Value) (a : Ag) : Prop := v = a.val ∧ a.ok
section
variable {H : Type} {enc : TypeId × Value → H} {W : World} {r : Reach} {b0 : Nat} {v : Value} {d : DataW H} {ps : List MemPlace}
theorem open_isAg (hval : Value.okWide Try.prog W r b0 29 v) (hd : DataW.Trod enc Try.prog W 0 (fun _ => true) true 29 v d ps) : ∃ a, IsAg W v a := by
  obtain ⟨cs, rfl, hf⟩ := open_fits 5 agL ag_leaves (by kernel_rfl) hval hd
  obtain ⟨a, rfl, hok⟩ := ag_dec (fits_flat hf rfl)
  exact ⟨a, rfl, hok⟩
end
end
end Go.Proofs.Ytojnooagifhekaa
namespace Go.Proofs.Ytojnooagifhekaa
section
open Go.RowKit
set_option maxRecDepth 100000
set_option linter.unusedVariables false
set_option linter.unusedSimpArgs false
theorem agR_ok {c : Int} {W : Wd} {T1 : Rdr} (hc : 0 ≤ c ∧ c ≤ 1099511627776) (hW : W.ok) (ok1 : T1.ok) : Ag.ok (fillA c W (agR T1).1) := by
  have ok2 := (Rdr.int_ok ok1).1
  have ok3 := (Rdr.int_ok ok2).1
  have ok4 := (Rdr.int_ok ok3).1
  have ok5 := (takeV_ok ok4).1
  rw [agR_1]
  refine ⟨⟨by show -9223372036854775808 ≤ c; omega, by show c ≤ 9223372036854775807; omega⟩, hW, int_rangeA ok1, int_rangeA ok2, int_rangeA ok3, take_wfA ok4, takeN_length 9 _, fun z hz => ?_⟩
  have := takeN_range ok5 9 z hz
  exact ⟨by omega, by omega⟩
theorem readA_ok {s : ByteArray} (hs : s.size ≤ 1000000000) : (readA s).1.ok := by
  have hsr : 0 ≤ (C0 s).1 ∧ (C0 s).1 ≤ 1099511627776 := small_rangeA (r0_ok hs) (by decide)
  have hWok : (sumS s).ok := by unfold sumS readW; split; exact wd_ok _; exact zero_wdok
  have h1 := agR_ok hsr hWok (tlS_ok hs)
  have fin : ∀ {a : Ag} {r : Rdr}, a.ok → (finA a r).1.ok := fun {a r} ha => by
    unfold finA
    split
    · exact ha
    · exact Ag0_ok
  unfold readA
  split
  · split
    · exact Ag0_ok
    · exact fin h1
  · refine fin ⟨⟨by show -9223372036854775808 ≤ (C0 s).1; omega, by show (C0 s).1 ≤ _; omega⟩, zero_wdok, i64_0, i64_0, i64_0, ⟨i64_0, i64_0, i64_0⟩, rfl, fun x hx => by rw [List.eq_of_mem_replicate hx]; exact i64_0⟩
end
end Go.Proofs.Ytojnooagifhekaa
