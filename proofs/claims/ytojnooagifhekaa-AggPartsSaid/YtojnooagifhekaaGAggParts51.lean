/- awake of chapter 08's laws: it answers true. Points, lists of points, and what is known of points among the arguments. What is read may lie in a block of its own. Plain law: what is known of points with stamps that may be, may be. No program is in sight. An array of two numbers among the arguments, as a walk is told of it. -/
import Derived.Test.YtojnooagifhekaaGAggParts34
import Derived.Test.YtojnooagifhekaaGAggParts26
import Derived.Test.YtojnooagifhekaaGAggParts33
import Derived.OpenShut
import Derived.ProofKit
import Derived.Lib.SmallJoins
import Derived.Test.YtojnooagifhekaaGAggParts50
import Derived.Test.YtojnooagifhekaaGAggParts23
import Derived.Test.YtojnooagifhekaaGAggParts27
import Derived.Test.YtojnooagifhekaaGAggParts1
namespace Go.Proofs.Ytojnooagifhekaa
section
open Go.RowKit
set_option maxRecDepth 100000
set_option linter.unusedVariables false
set_option linter.unusedSimpArgs false
attribute [local go_sem ↓] Go.wp_at_zero Go.wp_at_succ
def awP : List Pt := [⟨⟨#[]⟩, 0, 3, ⟨1, 0, 1⟩⟩, ⟨⟨#[]⟩, 0, 5, ⟨2, 0, 2⟩⟩]
def awF : Ag := ⟨2, ⟨0, 8⟩, 3, 5, 5, ⟨2, 0, 2⟩, [0, 0, 2, 0, 0, 0, 0, 0, 0]⟩
theorem aw_fold : foldV awP = awF := by decide +kernel
theorem aw_wf : ∀ p ∈ awP, p.wf := by
  intro p hp
  have e1 : ∀ x : Int, -100 ≤ x → x ≤ 100 → i64 x := fun x h1 h2 => by unfold i64; omega
  simp only [awP, List.mem_cons, List.not_mem_nil, or_false] at hp
  rcases hp with rfl | rfl
  · exact ⟨by unfold maxLen; decide, e1 _ (by decide) (by decide), e1 _ (by decide) (by decide), e1 _ (by decide) (by decide), e1 _ (by decide) (by decide), e1 _ (by decide) (by decide)⟩
  · exact ⟨by unfold maxLen; decide, e1 _ (by decide) (by decide), e1 _ (by decide) (by decide), e1 _ (by decide) (by decide), e1 _ (by decide) (by decide), e1 _ (by decide) (by decide)⟩
theorem aw_ok : awF.ok := by rw [← aw_fold]; exact fold_ok awP aw_wf
set_option maxHeartbeats 4000000 in
set_option maxRecDepth 100000 in
theorem awake_any (w : World) : Calls Try.prog 11 #[] w fun e w' => e = .returned (.bool true) ∧ Below w.heap.size w w' := by
  have HF := fun (a0 : Option Addr) wx (h : ReadsE Pt.cs 6 wx a0 2 awP) => fold_any a0 2 2 awP wx h aw_wf (Nat.le_refl _) (by decide)
  rw [aw_fold] at HF
  have HM := fun wx => mean_any awF wx aw_ok
  rw [show meanV awF = (4, true) from by decide +kernel] at HM
  have HG := fun wx => merge_any Ag0 awF wx Ag0_ok aw_ok
  rw [show mergeV Ag0 awF = awF from rfl] at HG
  have HE := fun wx => (eq_agg awF awF aw_ok aw_ok wx).1
  rw [decide_eq_true rfl] at HE
  have b1 : (bucketV (-5) == 0) = true := by decide
  have b2 : (bucketV 0 == 1) = true := by decide
  have b3 : (bucketV 7 == 2) = true := by decide
  have b4 : (bucketV 10 == 3) = true := by decide
  have b5 : (bucketV 1000000000 == 8) = true := by decide
  unfold Ag.val at HF HM HG HE
  have HL : Hid (awF.bk.length = 9) := rfl
  go_enter Try.func11, Try.ntmps11
  go_wp2_with fail
  refine (HF _ _ (readsE_new Pt.cs 6 pt_len w awP 31)).mono ?_
  rintro e w1 ⟨rfl, d1⟩
  have hb1 : Below w.heap.size w w1 := below_then ((Below.refl _ _).alloc (Nat.le_refl _) _) (by simp) d1
  have hK : Kn w.heap.size w [] w1 := ⟨by simp, hb1, hb1.size⟩
  clear d1 hb1 HF
  go_upto_region 2 with (refine wpList_store_row rfl 29 _ _ rfl w1.heap.size awF.cs.toArray rfl rfl 29 Ag0.cs.toArray (heap_alloc_new _ _) (ag_size HL.out) rfl (ag_one _) ?_)
  rw [World.setRow_alloc_new]
  have hk := hK.new (agO awF)
  unfold agO at hk
  generalize w1.alloc (.cells awF.cs.toArray 29) = w2 at *
  generalize w1.heap.size = g at *
  have KK : Hid (Kn w.heap.size w [(g, agO awF)] w2) := hk
  clear hk hK
  go_upto_region 3 with (first
    | refine wpList_load_row rfl 29 _ rfl g rfl 29 awF.cs.toArray (0, 0) _ KK.out.hd Try.underlying29 rfl (ag_size HL.out) ?_
    | (go_at_call 21; refine (HM _).mono ?_; rintro e w3 ⟨rfl, d3⟩))
  have KK := Lib.hid (KK.out.below d3)
  clear d3 HM
  go_upto_region 4 with (first
    | refine wpList_load_row rfl 29 _ rfl g rfl 29 awF.cs.toArray (0, 0) _ KK.out.hd Try.underlying29 rfl (ag_size HL.out) ?_
    | (go_at_call 16; refine (HG _).mono ?_; rintro e w4 ⟨rfl, d4⟩)
    | refine wpList_store_row rfl 29 _ _ rfl w4.heap.size awF.cs.toArray rfl rfl 29 Ag0.cs.toArray (heap_alloc_new _ _) (ag_size HL.out) rfl (ag_one _) ?_)
  rw [World.setRow_alloc_new]
  have hk := (KK.out.below d4).new (agO awF)
  unfold agO at hk
  generalize w4.alloc (.cells awF.cs.toArray 29) = w5 at *
  generalize w4.heap.size = g2 at *
  have KK : Hid (Kn w.heap.size w [(g2, agO awF), (g, agO awF)] w5) := hk
  clear hk d4 HG
  have c0 : w5.cell? ⟨g, 0, none⟩ = some (.int .i64 2) := KK.out.cell (g := g) (o := agO awF) (by simp) (ag_c0 awF)
  have c2 : w5.cell? ⟨g, 2, none⟩ = some (.int .u64 8) := KK.out.cell (g := g) (o := agO awF) (by simp) (ag_c2 awF)
  have c3 : w5.cell? ⟨g, 3, none⟩ = some (.int .i64 3) := KK.out.cell (g := g) (o := agO awF) (by simp) (ag_c3 awF)
  have c4 : w5.cell? ⟨g, 4, none⟩ = some (.int .i64 5) := KK.out.cell (g := g) (o := agO awF) (by simp) (ag_c4 awF)
  have c5 : w5.cell? ⟨g, 5, none⟩ = some (.int .i64 5) := KK.out.cell (g := g) (o := agO awF) (by simp) (ag_c5 awF)
  have HB := fun v wx (h : v ≤ 9223372036854775807) => bucket_any v wx h
  go_wp2_with (first
    | (go_at_call 12; refine (HB _ _ (by decide)).mono ?_; rintro e w' ⟨rfl, rfl⟩)
    | refine wpList_load_row_w rfl 29 _ rfl g2 rfl 29 awF.cs.toArray (0, 0) _ KK.out.hd Try.underlying29 rfl (ag_size HL.out) ?_
    | refine wpList_load_row_w rfl 29 _ rfl g rfl 29 awF.cs.toArray (0, 0) _ (KK.out.at_ (g, agO awF) (by simp)) Try.underlying29 rfl (ag_size HL.out) ?_)
  go_ret
  exact ⟨rfl, KK.out.b⟩
end
end Go.Proofs.Ytojnooagifhekaa
namespace Go.Proofs.Ytojnooagifhekaa
section
open Go.RowKit Go.ChangeShapes Go.WideShapes Go.Joins Go.Deep
set_option maxRecDepth 100000
set_option linter.unusedVariables false
set_option linter.unusedSimpArgs false
theorem ag_dec {cs : List Value} (h : Flat agL cs) : ∃ a : Ag, a.cs = cs ∧ a.ok := by
  have hl := h.len
  match cs, hl with
  | [v0, v1, v2, v3, v4, v5, v6, v7, v8, v9, v10, v11, v12, v13, v14, v15, v16, v17], _ =>
    obtain ⟨⟨n0, rfl, w0⟩, ⟨n1, rfl, w1⟩, ⟨n2, rfl, w2⟩, ⟨n3, rfl, w3⟩, ⟨n4, rfl, w4⟩, ⟨n5, rfl, w5⟩, ⟨n6, rfl, w6⟩, ⟨n7, rfl, w7⟩, ⟨n8, rfl, w8⟩, ⟨n9, rfl, w9⟩, ⟨n10, rfl, w10⟩, ⟨n11, rfl, w11⟩, ⟨n12, rfl, w12⟩, ⟨n13, rfl, w13⟩, ⟨n14, rfl, w14⟩, ⟨n15, rfl, w15⟩, ⟨n16, rfl, w16⟩, ⟨n17, rfl, w17⟩, _⟩ := h
    refine ⟨⟨n0, ⟨n1, n2⟩, n3, n4, n5, ⟨n6, n7, n8⟩, [n9, n10, n11, n12, n13, n14, n15, n16, n17]⟩, rfl, i64_of w0, ⟨i64_of w1, u64_of w2⟩, i64_of w3, i64_of w4, i64_of w5, ⟨i64_of w6, i64_of w7, i64_of w8⟩, rfl, ?_⟩
    intro x hx
    simp only [List.mem_cons, List.not_mem_nil, or_false] at hx
    rcases hx with rfl | rfl | rfl | rfl | rfl | rfl | rfl | rfl | rfl
    · exact i64_of w9
    · exact i64_of w10
    · exact i64_of w11
    · exact i64_of w12
    · exact i64_of w13
    · exact i64_of w14
    · exact i64_of w15
    · exact i64_of w16
    · exact i64_of w17
def IsAg (w : World) (v : Value) (a : Ag) : Prop := v = a.val ∧ a.ok
section
variable {H : Type} {enc : TypeId × Value → H} {W : World} {r : Reach} {b0 : Nat} {v : Value} {d : DataW H} {ps : List MemPlace}
theorem open_isAg (hval : Value.okWide Try.prog W r b0 29 v) (hd : DataW.Trod enc Try.prog W 0 (fun _ => true) true 29 v d ps) : ∃ a, IsAg W v a := by
  obtain ⟨cs, rfl, hf⟩ := open_fits 5 agL ag_leaves (by kernel_rfl) hval hd
  obtain ⟨a, rfl, hok⟩ := ag_dec (fits_flat hf rfl)
  exact ⟨a, rfl, hok⟩
end
end
end Go.Proofs.Ytojnooagifhekaa
namespace Go.Proofs.Ytojnooagifhekaa
section
open Go.RowKit
set_option maxRecDepth 100000
set_option linter.unusedVariables false
set_option linter.unusedSimpArgs false
theorem agR_ok {c : Int} {W : Wd} {T1 : Rdr} (hc : 0 ≤ c ∧ c ≤ 1099511627776) (hW : W.ok) (ok1 : T1.ok) : Ag.ok (fillA c W (agR T1).1) := by
  have ok2 := (Rdr.int_ok ok1).1
  have ok3 := (Rdr.int_ok ok2).1
  have ok4 := (Rdr.int_ok ok3).1
  have ok5 := (takeV_ok ok4).1
  rw [agR_1]
  refine ⟨⟨by show -9223372036854775808 ≤ c; omega, by show c ≤ 9223372036854775807; omega⟩, hW, int_rangeA ok1, int_rangeA ok2, int_rangeA ok3, take_wfA ok4, takeN_length 9 _, fun z hz => ?_⟩
  have := takeN_range ok5 9 z hz
  exact ⟨by omega, by omega⟩
theorem readA_ok {s : ByteArray} (hs : s.size ≤ 1000000000) : (readA s).1.ok := by
  have hsr : 0 ≤ (C0 s).1 ∧ (C0 s).1 ≤ 1099511627776 := small_rangeA (r0_ok hs) (by decide)
  have hWok : (sumS s).ok := by unfold sumS readW; split; exact wd_ok _; exact zero_wdok
  have h1 := agR_ok hsr hWok (tlS_ok hs)
  have fin : ∀ {a : Ag} {r : Rdr}, a.ok → (finA a r).1.ok := fun {a r} ha => by
    unfold finA
    split
    · exact ha
    · exact Ag0_ok
  unfold readA
  split
  · split
    · exact Ag0_ok
    · exact fin h1
  · refine fin ⟨⟨by show -9223372036854775808 ≤ (C0 s).1; omega, by show (C0 s).1 ≤ _; omega⟩, zero_wdok, i64_0, i64_0, i64_0, ⟨i64_0, i64_0, i64_0⟩, rfl, fun x hx => by rw [List.eq_of_mem_replicate hx]; exact i64_0⟩
end
end Go.Proofs.Ytojnooagifhekaa
namespace Go.Proofs.Ytojnooagifhekaa
section
open Go.RowKit
set_option maxRecDepth 100000
set_option linter.unusedVariables false
set_option linter.unusedSimpArgs false
theorem bkR_mono (f : Nat) (x y : Int) (h : x ≤ y) : bkR f x ≤ bkR f y := by
  induction f generalizing x y with
  | zero => exact Nat.le_refl _
  | succ f ih =>
    by_cases hx : 0 < x
    · rw [bkR_succ f x hx, bkR_succ f y (by omega)]
      have := ih (x / 10) (y / 10) (by omega)
      omega
    · rw [bkR_zero _ x (by omega)]
      omega
theorem bucket_mono (x y : Int) (h : x ≤ y) : bucketV x ≤ bucketV y := by
  unfold bucketV
  have := bkR_mono 7 x y h
  split <;> split <;> omega
theorem upB_get (l : List Int) (k i : Nat) (hk : k < l.length) : (upB l k).getD i 0 = l.getD i 0 + if k = i then 1 else 0 := by
  unfold upB
  by_cases h : k = i
  · subst h
    rw [if_pos rfl, List.getD_eq_getElem?_getD, List.getElem?_set_self hk]
    rfl
  · rw [if_neg h, List.getD_eq_getElem?_getD, List.getElem?_set_ne h, ← List.getD_eq_getElem?_getD]
    omega
theorem cntB_in (l : List Pt) (i : Nat) : (cntB l).getD i 0 ≠ 0 → ∃ p ∈ l, (bucketV p.value).toNat = i := by
  induction l using snoc_ind with
  | h0 =>
    intro h
    exfalso; apply h
    show (List.replicate 9 (0 : Int)).getD i 0 = 0
    rw [List.getD_eq_getElem?_getD, List.getElem?_replicate]
    split <;> rfl
  | h1 r p ih =>
    have hb := bucketV_range p.value
    rw [cntB_snoc, upB_get _ _ _ (by rw [cntB_len]; omega)]
    intro h
    by_cases e : (bucketV p.value).toNat = i
    · exact ⟨p, by simp, e⟩
    · rw [if_neg e, Int.add_zero] at h
      obtain ⟨q, hq, e⟩ := ih h
      exact ⟨q, by simp [hq], e⟩
theorem cntB_nn (l : List Pt) (i : Nat) : 0 ≤ (cntB l).getD i 0 := by
  rw [List.getD_eq_getElem?_getD]
  rcases e : (cntB l)[i]? with _ | x
  · exact Int.le_refl _
  · exact ((cntB_sum l).2 x (List.mem_of_getElem? e)).1
theorem cntB_of (l : List Pt) (p : Pt) (h : p ∈ l) : 0 < (cntB l).getD (bucketV p.value).toNat 0 := by
  induction l using snoc_ind with
  | h0 => simp at h
  | h1 r q ih =>
    have hb := bucketV_range q.value
    rw [cntB_snoc, upB_get _ _ _ (by rw [cntB_len]; omega)]
    have hn := cntB_nn r (bucketV p.value).toNat
    rcases List.mem_append.1 h with h | h
    · have := ih h
      split <;> omega
    · simp at h; subst h
      rw [if_pos rfl]; omega
theorem fold_sumW (l : List Pt) (h : ∀ p ∈ l, p.wf) (hl : l.length ≤ 40) : (foldV l).sum.v = sumP l ∧ -9223372036854775808 * (l.length : Int) ≤ sumP l ∧ sumP l ≤ 9223372036854775807 * (l.length : Int) := by
  have hB := sumP_le l (-9223372036854775808) 9223372036854775807 (fun p hp => (h p hp).2.2.1)
  refine ⟨?_, by omega, by omega⟩
  clear hB
  induction l using snoc_ind with
  | h0 => decide
  | h1 r p ih =>
  simp only [List.length_append, List.length_cons, List.length_nil] at hl
  have hr : ∀ q ∈ r, q.wf := fun q hq => h q (List.mem_append_left _ hq)
  have ih := ih hr (by omega)
  have hp := (h p (by simp)).2.2.1
  unfold i64 at hp
  have hB := sumP_le r (-9223372036854775808) 9223372036854775807 (fun p hp => (hr p hp).2.2.1)
  rw [fold_snoc, sumP_snoc]
  by_cases h0 : r = []
  · subst h0
    have e : mergeV (foldV []) p.one = p.one := rfl
    rw [e]
    show (wd p.value).v = sumP [] + p.value
    rw [v_wd _ (by omega) (by omega)]
    simp [sumP]
  · rw [merge_one (fold_ne (by omega) h0)]
    simp only
    rw [ih, v_wd p.value (by omega) (by omega), v_wd _ (by omega) (by omega)]
theorem fold_okA (l : List Pt) (h : ∀ p ∈ l, p.wf) (hs : ∀ p ∈ l, okV p.st = true) (hl : l.length ≤ 40) : okA (foldV l) := by
  have hg := fold_good l (by omega)
  have hbk := fold_bk l (by omega)
  have hmn := fold_min l (by omega)
  have hsum := cntB_sum l
  have hne : 0 < (foldV l).cnt → l ≠ [] := by
    rintro h0 rfl
    exact absurd h0 (by decide)
  have hS := (fold_sumW l h hl).1
  have hSP := sumP_le l _ _ hmn.1
  refine ⟨hg.1.c0, by have := hg.1.c1; omega, fun i _ => by rw [hbk]; exact cntB_nn l i, by rw [hbk, hg.2]; exact hsum.1, fun h0 i hi => ?_, hg.1.z, fun h0 => ?_, fun h0 => ?_, fun h0 => ?_, fun h0 => ?_, fun h0 => ?_, fun h0 => ?_⟩
  · obtain ⟨⟨q1, hq1, e1⟩, ⟨q2, hq2, e2⟩⟩ := hmn.2 (hne h0)
    rw [hbk]
    refine ⟨fun ho => ?_, fun ho => ?_⟩
    · by_cases hz : (cntB l).getD i 0 ≠ 0
      · obtain ⟨q, hq, e⟩ := cntB_in l i hz
        have hq' := hmn.1 q hq
        have b1 := bucket_mono _ _ hq'.1
        have b2 := bucket_mono _ _ hq'.2
        have := bucketV_range q.value
        omega
      · omega
    · have c1 := cntB_of l q1 hq1
      have c2 := cntB_of l q2 hq2
      rw [e1] at c1
      rw [e2] at c2
      rcases ho with ho | ho
      · rw [← ho] at c1
        have : ((i : Int)).toNat = i := by omega
        rw [this] at c1
        omega
      · rw [← ho] at c2
        have : ((i : Int)).toNat = i := by omega
        rw [this] at c2
        omega
  · obtain ⟨⟨q1, hq1, e1⟩, _⟩ := hmn.2 (hne h0)
    have := hmn.1 q1 hq1
    omega
  · obtain ⟨p, hp, _, e, _⟩ := fold_at l (by omega) (hne h0)
    rw [e]; exact (hmn.1 p hp).1
  · obtain ⟨p, hp, _, e, _⟩ := fold_at l (by omega) (hne h0)
    rw [e]; exact (hmn.1 p hp).2
  · obtain ⟨p, hp, e, _, _⟩ := fold_at l (by omega) (hne h0)
    rw [e]; exact hs p hp
  · rw [hS, hg.2, Int.mul_comm]; exact hSP.1
  · rw [hS, hg.2, Int.mul_comm]; exact hSP.2
theorem right_okV (l : List Pt) : ∀ p ∈ rightV l, okV p.st = true := by
  intro p hp
  obtain ⟨i, hi, rfl⟩ := List.getElem_of_mem hp
  exact (right_st l i _ (List.getElem?_eq_getElem hi)).1
end
end Go.Proofs.Ytojnooagifhekaa
namespace Go.Proofs.Ytojnooagifhekaa
section
open Go.ChangeShapes Go.WideShapes Go.ChangeAt Go.RowKit
set_option maxRecDepth 100000
set_option linter.unusedVariables false
set_option linter.unusedSimpArgs false
def IsPair (w : World) (v : Value) (q : Int × Int) : Prop := v = .agg #[.int .i64 q.1, .int .i64 q.2] ∧ (-9223372036854775808 ≤ q.1 ∧ q.1 ≤ 9223372036854775807) ∧ (-9223372036854775808 ≤ q.2 ∧ q.2 ≤ 9223372036854775807)
theorem open_isPair {H : Type} {enc : TypeId × Value → H} {P : Program} {W : World} {r : Reach} {b0 : Nat} {t e : TypeId} {v : Value} {d : DataW H} {ps : List MemPlace}
    (ht : P.underlying t = some (.array 2 e)) (he : P.underlying e = some (.int .i64)) (hc : P.cellsOf e = 1) (hC : P.cellsOf t = 2) (hval : Value.okWide P W r b0 t v) (hd : DataW.Trod enc P W 0 (fun _ => true) true t v d ps) :
    ∃ q, IsPair W v q := by
  simp only [Value.okWide, ht] at hval
  obtain ⟨cs, rfl, hsz, _⟩ := hval
  obtain ⟨fuel, hf⟩ := hd
  obtain ⟨xs, m, _, _, hl, hx, hi⟩ := DataW.trod_array ht hf
  obtain ⟨l⟩ := cs
  match l, hsz.trans hC with
  | [c0, c1], _ =>
    have h0 := hi 0 (by omega)
    have h1 := hi 1 (by omega)
    rw [hc] at h0 h1
    simp [Value.cells] at h0 h1
    match xs, hx with
    | [y0, y1], _ =>
      simp at h0 h1
      obtain ⟨x0, e0, _, w0⟩ := DataW.trod_int he h0
      obtain ⟨x1, e1, _, w1⟩ := DataW.trod_int he h1
      simp only [List.cons.injEq, and_true] at e0 e1
      subst e0 e1
      exact ⟨(x0, x1), rfl, bounds_i64 w0, bounds_i64 w1⟩
end
end Go.Proofs.Ytojnooagifhekaa
