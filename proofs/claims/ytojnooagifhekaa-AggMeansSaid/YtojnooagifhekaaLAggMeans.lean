/- AggMeans: for any points the law answers true. -/
import Derived.Test.YtojnooagifhekaaAawake
import Derived.Test.YtojnooagifhekaaOpenA
namespace Go.Proofs.Ytojnooagifhekaa
open Go.RowKit
set_option maxRecDepth 100000
set_option linter.unusedVariables false
set_option linter.unusedSimpArgs false
attribute [local go_sem ↓] Go.wp_at_zero Go.wp_at_succ
def cutP (p : Pt) : Pt := { p with value := p.value.tmod 1125899906842624 }
def cutV (l : List Pt) : List Pt := (l.take 40).map cutP
theorem cut_len (l : List Pt) : (cutV l).length = min 40 l.length := by simp [cutV]
theorem cut_next (l : List Pt) (k : Nat) (p : Pt) (hk : k < 40) (h : l[k]? = some p) : (cutV l).take (k + 1) = (cutV l).take k ++ [cutP p] := by
  have h1 : (cutV l)[k]? = some (cutP p) := by
    unfold cutV
    rw [List.getElem?_map, List.getElem?_take_of_lt hk, h]
    rfl
  obtain ⟨h2, h3⟩ := List.getElem?_eq_some_iff.1 h1
  rw [List.take_succ_eq_append_getElem h2, h3]
theorem cut_val (p : Pt) : -1125899906842624 < (cutP p).value ∧ (cutP p).value < 1125899906842624 := by
  unfold cutP
  simp only
  have h1 := Int.tmod_lt_of_pos p.value (show (0 : Int) < 1125899906842624 by decide)
  have h2 := Int.lt_tmod_of_pos p.value (show (0 : Int) < 1125899906842624 by decide)
  omega
theorem cut_all (l : List Pt) : ∀ p ∈ cutV l, -1125899906842624 < p.value ∧ p.value < 1125899906842624 := by
  intro p hp
  obtain ⟨q, _, rfl⟩ := List.mem_map.1 hp
  exact cut_val q
theorem cut_wf (l : List Pt) (h : ∀ p ∈ l, p.wf) : ∀ p ∈ cutV l, p.wf := by
  intro p hp
  obtain ⟨q, hq, rfl⟩ := List.mem_map.1 hp
  obtain ⟨h1, h2, h3, h4⟩ := h q (List.mem_of_mem_take hq)
  have := cut_val q
  exact ⟨h1, h2, by unfold i64; omega, h4⟩
set_option maxHeartbeats 8000000 in
set_option maxRecDepth 100000 in
theorem means_any (a0 : Option Addr) (n c : Nat) (xs : List Pt) (w : World) (h : ReadsE Pt.cs 6 w a0 n xs) (hwf : ∀ x ∈ xs, x.wf) (hnc : n ≤ c) (hcb : c ≤ 9223372036854775807) : Calls Try.prog 5 #[.slice a0 n c] w fun e w' => e = .returned (.bool true) ∧ Below w.heap.size w w' := by
  have hlen := h.1
  have H := Lib.hid h
  obtain ⟨m, HM⟩ : ∃ m, Hid (min 40 n = m) := ⟨_, rfl⟩
  have hR : (cutV xs).length = m := by rw [cut_len, hlen]; exact HM.out
  have HR := Lib.hid hR
  have hmn : m ≤ n ∧ m ≤ 40 := by have := HM.out; omega
  have HN := fun k p hk hp => cut_next xs k p hk hp
  have hwf2 := cut_wf xs hwf
  have hall := cut_all xs
  have HCP : Hid (∀ p, cutP p = { p with value := p.value.tmod 1125899906842624 }) := fun _ => rfl
  have HTL : Hid ((cutV xs).take m = cutV xs) := List.take_of_length_le (by omega)
  have HT0 : Hid ((cutV xs).take 0 = []) := List.take_zero
  generalize cutV xs = L at *
  clear h hR
  go_enter Try.func5, Try.ntmps5
  go_wp2_with fail
  refine (awake_any _).mono ?_
  rintro e w1 ⟨rfl, d1⟩
  go_wp2_with fail
  go_loopw [6, 5, 4, 7] (fun i sm out p wr => ∃ (k cap : Nat) (a2 : Option Addr), k ≤ m ∧ i = .int .i64 k ∧ sm = .int .i64 (sumP (L.take k)) ∧ out = .slice a2 k cap ∧ AppE Pt.cs 31 6 wr w.heap.size a2 k cap (L.take k) ∧ Below w.heap.size w wr) (fun i _ _ _ _ => 41 - (intOf i).toNat)
  case atStart => exact ⟨0, 0, none, by omega, rfl, by rw [HT0.out]; rfl, rfl, by rw [HT0.out]; exact appE_nil _ _, d1⟩
  case round =>
    obtain ⟨k, cap, a2, hkm, rfl, rfl, rfl, hA, hbel⟩ := hrel
    have A := Lib.hid hA
    have hcap := hA.max
    unfold maxLen at hcap
    have hle := hA.le
    clear hA
    have hz := hbel.size
    have hsb := sumP_bd (L.take k) (fun p hp => hall p (List.mem_of_mem_take hp)) (by rw [List.length_take]; omega)
    by_cases hlt : k < m
    · have t1 : decide (k < n) = true := decide_eq_true (by omega)
      have t2 : decide ((k : Int) < 40) = true := decide_eq_true (by omega)
      have t3 : decide (k < 40) = true := decide_eq_true (by omega)
      have t4 : decide ((k : Int) < (n : Int)) = true := decide_eq_true (by omega)
      obtain ⟨b, o, x, rfl, hbl, hx, hC⟩ := H.out.at hbel k (by omega)
      obtain ⟨c0, c1, c2, c3, c4, c5⟩ := pt_cells hC
      have i1 : (0 : Int) ≤ (k : Int) := by omega
      have i2 : (k : Int) < (n : Int) := by omega
      have hnx := HN k x (by omega) hx
      have HNX := Lib.hid hnx
      have hv := cut_val x
      have HS : Hid (sumP (L.take (k + 1)) = sumP (L.take k) + x.value.tmod 1125899906842624) := by
        show _ = _
        rw [hnx, sumP_snoc]; rfl
      generalize sumP (L.take k) = S at *
      have hv : -1125899906842624 < x.value.tmod 1125899906842624 ∧ x.value.tmod 1125899906842624 < 1125899906842624 := hv
      clear hC hnx
      go_upto_region 9 with (fail)
      have A1 := Lib.hid (A.out.below ((Below.refl wr.heap.size wr).alloc (Nat.le_refl _) (ptO (cutP x))))
      have hB1 : Below w.heap.size w (wr.alloc (ptO (cutP x))) := hbel.alloc hz _
      have hp1 : (wr.alloc (ptO (cutP x))).heap[wr.heap.size]? = some (ptO (cutP x)) := heap_alloc_new _ _
      unfold ptO cutP at A1 hB1 hp1
      simp only at A1 hB1 hp1
      generalize wr.alloc (.cells #[.string x.series, .int .i64 x.time, .int .i64 (x.value.tmod 1125899906842624), .int .i64 x.st.clock, .int .i64 x.st.site, .int .i64 x.st.seq] 31) = w3 at *
      clear c0 c1 c2 c3 c4 c5 A
      have q : ∀ j v, (#[.string x.series, .int .i64 x.time, .int .i64 (x.value.tmod 1125899906842624), .int .i64 x.st.clock, .int .i64 x.st.site, .int .i64 x.st.seq] : Array Value)[j]? = some v → w3.cell? ⟨wr.heap.size, j, none⟩ = some v := fun j v hv => by simp only [World.cell?, hp1]; exact hv
      have c0 := q 0 _ rfl
      have c1 := q 1 _ rfl
      have c2 := q 2 _ rfl
      have c3 := q 3 _ rfl
      have c4 := q 4 _ rfl
      have c5 := q 5 _ rfl
      clear q hp1
      generalize hgp : wr.heap.size = p at *
      have hs2 : w.heap.size ≤ w3.heap.size := hB1.size
      go_wp2_with (at_builtin; refine wpList_append_E pt_ety rfl _ _ rfl _ w.heap.size a2 k cap (L.take k) rfl (A1.out.below ?q1) ?q2 ?q3 w3.heap.size 1 (cutP x) rfl ?q4 ?q5)
      case q1 => exact (Below.refl _ _).alloc (Nat.le_refl _) _
      case q2 => simp; omega
      case q3 => omega
      case q4 =>
        intro j u hj
        rw [Nat.zero_add, World.cell?_alloc_new]
        show (cutP x).cs.toArray[j]? = some u
        simpa using hj
      case q5 =>
        intro a3 cap3 w5 hA5 hb5
        have FIN := Lib.hid (And.intro hA5 (hB1.trans (((Below.refl w.heap.size w3).alloc (by omega) _).trans hb5)))
        clear hA5 hb5
        go_wp2_with fail
        go_roundw
        case rel => exact ⟨k + 1, cap3, a3, by omega, by go_num, by rw [HS.out], rfl, by rw [HNX.out]; exact FIN.out.1, FIN.out.2⟩
        case measure => simp [intOf]; omega
    · obtain rfl : k = m := by omega
      rw [HTL.out] at hsb
      have A : Hid (AppE Pt.cs 31 6 wr w.heap.size a2 k cap L) := by have := A.out; rw [HTL.out] at this; exact this
      rw [HTL.out]
      have HF := fun wx hb => fold_any a2 k cap L wx (((A.out.below hb).reads pt_len (by decide)).1) hwf2 hle hcap
      have HO := fold_ok L hwf2
      have HMN := fun wx => mean_any (foldV L) wx HO
      have HL : Hid ((foldV L).bk.length = 9) := HO.2.2.2.2.2.2.1
      have hsz : L.length = k := HR.out
      have HFACT : Hid (k ≠ 0 → meanV (foldV L) = ((sumP L).tdiv k, true) ∧ (foldV L).mn ≤ (sumP L).tdiv k ∧ (sumP L).tdiv k ≤ (foldV L).mx ∧ sumP L - (sumP L).tdiv k * k < k ∧ -(k : Int) < sumP L - (sumP L).tdiv k * k ∧ (0 ≤ sumP L → 0 ≤ sumP L - (sumP L).tdiv k * k) ∧ (sumP L ≤ 0 → sumP L - (sumP L).tdiv k * k ≤ 0)) := by
        intro h0
        have := mean_fold L hall (by omega) (by rintro rfl; exact h0 hsz.symm)
        rw [hsz] at this
        exact this
      have HZERO : Hid (k = 0 → meanV (foldV L) = (0, false)) := by
        intro h0
        have : L = [] := List.eq_nil_of_length_eq_zero (by omega)
        rw [this]
        exact mean_nil
      unfold Ag.val at HF HMN
      generalize hF : foldV L = F at *
      generalize hMV : meanV F = MV at *
      obtain ⟨N, B⟩ := MV
      simp only at HMN
      generalize sumP L = S at *
      have hmn' := F.mn
      clear hmn' hall hwf2 HN HCP HTL HT0 hMV
      by_cases u1 : k < n
      have t1 : decide (k < n) = true := decide_eq_true u1
      have t4 : decide ((k : Int) < (n : Int)) = true := decide_eq_true (by omega)
      have t2 : decide ((k : Int) < 40) = false := decide_eq_false (by have := HM.out; omega)
      have t3 : decide (k < 40) = false := decide_eq_false (by have := HM.out; omega)
      clear u1
      go_upto_region 11 with (fail)
      rotate_left
      have t1 : decide (k < n) = false := decide_eq_false u1
      have t4 : decide ((k : Int) < (n : Int)) = false := decide_eq_false (by omega)
      clear u1
      go_upto_region 11 with (fail)
      all_goals
        clear t1 t4
        go_wp2_with fail
        refine (HF _ (Below.refl _ _)).mono ?_
        rintro e w3 ⟨rfl, d3⟩
        have hb3 := below_then hbel hz d3
        have hK : Kn w.heap.size w [] w3 := ⟨by simp, hb3, hb3.size⟩
        clear d3 hb3 HF
        go_upto_region 12 with (refine wpList_store_row rfl 29 _ _ rfl w3.heap.size F.cs.toArray rfl rfl 29 Ag0.cs.toArray (heap_alloc_new _ _) (ag_size HL.out) (ag_sz (a := Ag0) rfl HL.out) (ag_one _) ?_)
        rw [World.setRow_alloc_new]
        have hk := hK.new (agO F)
        unfold agO at hk
        generalize w3.alloc (.cells F.cs.toArray 29) = w4 at *
        generalize w3.heap.size = g at *
        have KK : Hid (Kn w.heap.size w [(g, agO F)] w4) := hk
        clear hk hK
        go_upto_region 13 with (first
          | refine wpList_load_row rfl 29 _ rfl g rfl 29 F.cs.toArray (0, 0) _ KK.out.hd Try.underlying29 rfl (ag_size HL.out) ?_
          | (go_at_call 21; refine (HMN _).mono ?_; rintro e w5 ⟨rfl, d5⟩))
        have KK := Lib.hid (KK.out.below d5)
        clear d5 HMN
        by_cases h0 : k = 0
        · have e := HZERO.out h0
          simp only [Prod.mk.injEq] at e
          obtain ⟨rfl, rfl⟩ := e
          subst h0
          clear HZERO HFACT
          go_wp2_with fail
          go_ret
          exact ⟨rfl, KK.out.b⟩
        · have e := HFACT.out h0
          clear HZERO HFACT
          obtain ⟨e1, e2, e3, e4, e5, e6, e7⟩ := e
          simp only [Prod.mk.injEq] at e1
          obtain ⟨e1, rfl⟩ := e1
          rw [← e1] at e2 e3 e4 e5 e6 e7
          clear e1
          obtain ⟨R, hR⟩ : ∃ R, N * (k : Int) = R := ⟨_, rfl⟩
          rw [hR] at e4 e5 e6 e7
          have w1 : wrap64 (N * (k : Int)) = R := by rw [hR]; exact wrap64_in R (by unfold i64; omega)
          have c2 : w5.cell? ⟨g, 3, none⟩ = some (.int .i64 F.mn) := KK.out.cell (g := g) (o := agO F) (by simp) (ag_c3 F)
          have c3 : w5.cell? ⟨g, 4, none⟩ = some (.int .i64 F.mx) := KK.out.cell (g := g) (o := agO F) (by simp) (ag_c4 F)
          have t0 : ((k : Int) == 0) = false := beq_eq_false_iff_ne.2 (by omega)
          have t0' : (k == 0) = false := beq_eq_false_iff_ne.2 h0
          have q1 : decide (F.mn ≤ N) = true := decide_eq_true e2
          have q2 : decide (N ≤ F.mx) = true := decide_eq_true e3
          have q3 : decide (S - R < (k : Int)) = true := decide_eq_true e4
          have q4 : decide (-(k : Int) < S - R) = true := decide_eq_true e5
          have hk40 : k ≤ 40 := hmn.2
          by_cases hS : 0 ≤ S
          · have q5 : decide (0 ≤ S) = true := decide_eq_true hS
            have q6 : decide (0 ≤ S - R) = true := decide_eq_true (e6 hS)
            have q7 : decide (R ≤ S) = true := decide_eq_true (by have := e6 hS; omega)
            clear e2 e3 hR e6 e7
            go_wp2_with fail
            go_ret
            exact ⟨rfl, KK.out.b⟩
          · have q5 : decide (0 ≤ S) = false := decide_eq_false hS
            have q6 : decide (S ≤ 0) = true := decide_eq_true (by omega)
            have q7 : decide (S - R ≤ 0) = true := decide_eq_true (e7 (by omega))
            have q8 : decide (S ≤ R) = true := decide_eq_true (by have := e7 (by omega); omega)
            clear e2 e3 hR e6 e7 hS
            go_wp2_with fail
            go_ret
            exact ⟨rfl, KK.out.b⟩
theorem means_row (v1 : Value) (xs : List Pt) (w : World) (h1 : IsEs Pt.cs 6 Pt.wf w v1 xs) :
    Calls Try.prog 5 #[v1] w fun e w' => e = .returned (.bool true) ∧ Below w.heap.size w w' := by
  obtain ⟨a, n, c, rfl, h1, h2, hr, hw⟩ := h1
  exact means_any a n c xs w hr hw h1 h2
end Go.Proofs.Ytojnooagifhekaa
