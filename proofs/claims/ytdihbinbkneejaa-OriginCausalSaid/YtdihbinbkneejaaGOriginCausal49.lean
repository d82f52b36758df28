/- Plain law of logs: what a log is stays when it is trimmed. No program is in sight. The reference's With. -/
import Derived.Test.YtdihbinbkneejaaGOriginCausal48
import Derived.Test.YtdihbinbkneejaaGOriginCausal31
namespace Go.Proofs.Ytdihbinbkneejaa
section
set_option maxRecDepth 100000
set_option linter.unusedVariables false
set_option linter.unusedSimpArgs false
theorem kAll_append (ks : List Int) (xs ys : List RcM) : kAll ks (xs ++ ys) = kAll (kAll ks xs) ys := by unfold kAll; exact List.foldl_append
theorem kAll_drop (ks : List Int) (xs : List RcM) (n k : Nat) (h : n ≤ xs.length) : kAll (kAll ks (xs.take n)) ((xs.drop n).take k) = kAll ks (xs.take (n + k)) := by
  rw [← kAll_append, List.take_add]
theorem Good.drop {ks : List Int} {xs : List RcM} (h : Good ks xs) (n : Nat) (hn : n ≤ xs.length) : Good (kAll ks (xs.take n)) (xs.drop n) := by
  intro k x hk
  rw [kAll_drop _ _ _ _ hn]
  exact h (n + k) x (by rw [List.getElem?_drop] at hk; exact hk)
theorem LInv.trim {m : LogM} (h : LInv m) (vs : List Int) : LInv (trimM m vs) := by
  have hle := trimN_le vs m.xs
  refine ⟨h.good.drop _ hle, ?_⟩
  show m.ks = kAll (kAll m.bs (m.xs.take _)) (m.xs.drop _)
  rw [← kAll_append, List.take_append_drop]
  exact h.ks
end
end Go.Proofs.Ytdihbinbkneejaa
namespace Go.Proofs.Ytdihbinbkneejaa
section
open Go.RowKit
set_option maxRecDepth 100000
set_option linter.unusedVariables false
set_option linter.unusedSimpArgs false
theorem upto_with (f : Nat → Int) (s : Nat) (hs : s < 8) (v : Int) : (upto f 8).set s v = upto (fun i => if (i : Int) = (s : Int) then v else f i) 8 := by
  rw [upto_eight, upto_eight]
  apply List.ext_getElem?
  intro i
  rw [List.getElem?_set]
  simp only [List.length_map, List.length_range, List.getElem?_map]
  by_cases hk : s = i
  · subst hk; simp [hs]
  · rw [if_neg hk]
    by_cases h8 : i < 8
    · simp [h8, show ¬ (i : Int) = (s : Int) by omega]
    · simp [h8]
set_option maxHeartbeats 4000000 in
theorem rwith_any (a : Option Addr) (n c : Nat) (xs : List Int) (site v : Int) (w : World) (h : ReadsI .i64 w a n xs) (hnc : n ≤ c) (hcb : c ≤ 9223372036854775807) :
    Calls Try.prog 23 #[.slice a n c, .int .i64 site, .int .i64 v] w fun e w' => ∃ a' cap', e = .returned (.slice a' (withV xs site v).length cap') ∧ (withV xs site v).length ≤ cap' ∧ cap' ≤ 9223372036854775807 ∧ VecAt w' w.heap.size a' (withV xs site v) ∧ Below w.heap.size w w' := by
  obtain ⟨V, HV⟩ : ∃ V, Hid (V = withV xs site v) := ⟨_, rfl⟩
  rw [← HV.out]
  go_enter Try.func23, Try.ntmps23
  go_wp2_with fail
  refine (rall_any a n c xs w h hnc hcb).mono ?_
  rintro e w1 ⟨rfl, hbw1⟩
  have hX1 : ArrAt (w1.alloc (.cells (arrI (upto (nm xs) 8)) 63)) 63 w1.heap.size (upto (nm xs) 8) := heap_alloc_new w1 _
  have hb1 : Below w.heap.size w (w1.alloc (.cells (arrI (upto (nm xs) 8)) 63)) := hbw1.alloc hbw1.size _
  have hg : w.heap.size ≤ w1.heap.size := hbw1.size
  by_cases hin : 0 ≤ site ∧ site ≤ 7
  · obtain ⟨s, rfl⟩ : ∃ s : Nat, site = s := ⟨site.toNat, by omega⟩
    have t1 : decide (0 ≤ (s : Int)) = true := decide_eq_true hin.1
    have t2 : decide ((s : Int) ≤ 7) = true := decide_eq_true hin.2
    have i1 : (0 : Int) ≤ (s : Int) := by omega
    have i2 : (s : Int) < 8 := by omega
    have HU := Lib.hid (upto_with (nm xs) s (by omega) (cl v))
    have hel : (arrI (upto (nm [v]) 8))[0]? = some (.int .i64 (cl v)) := by
      rw [arrI_get _ _ (by rw [upto_length]; omega), upto_eight]
      rfl
    have hix := run_index_arr (P := Try.prog) Try.underlying63 Try.sizeOf3 Try.isAgg3 _ 0 _ (by omega) hel
    have hix0 : ∀ w : World, (Instr.index 63 (.agg (arrI (upto (nm [v]) 8))) (.int .i64 0)).run Try.prog w = .ok (.int .i64 (cl v)) w := hix
    clear hix hel
    go_wp2_with (refine wpList_store_row rfl 63 _ _ rfl w1.heap.size (arrI (upto (nm xs) 8)) rfl rfl 63 _ (heap_alloc_new w1 _) (size8 _ _) (by rw [arrI_size, upto_length]; rfl) (arrI_one _) ?_)
    rw [World.setRow_alloc_new]
    have hsz2 : (w1.alloc (.cells (arrI (upto (nm xs) 8)) 63)).heap.size = w1.heap.size + 1 := by simp
    generalize w1.alloc (.cells (arrI (upto (nm xs) 8)) 63) = w2 at *
    have hrd : ReadsI .i64 (w2.alloc (.cells #[.int .i64 v] 3)) (some ⟨w1.heap.size + 1, 0, none⟩) 1 [v] := by
      rw [← hsz2]
      exact reads_new .i64 w2 [v] 3
    refine (rall_any (some ⟨w1.heap.size + 1, 0, none⟩) 1 1 [v] _ hrd (by omega) (by omega)).mono ?_
    rintro e w3 ⟨rfl, hbw3⟩
    have HA8 : Hid (arr8 (nm [v]) = .agg (arrI (upto (nm [v]) 8))) := rfl
    rw [HA8.out]
    have hb2 : Below w2.heap.size w2 w3 := below_then ((Below.refl _ _).alloc (Nat.le_refl _) _) (by simp) hbw3
    have hX3 := hX1.below hb2
    have hb3 := below_then hb1 hb1.size hb2
    have hcl := hX3.cell s (by rw [upto_length]; omega)
    have hfz := hX3.fz s
    have HX := Lib.hid (hX3.set s (cl v))
    have HB := Lib.hid hb3
    clear hX1 hb1 hbw3 hb2 hX3 hb3 hbw1 hrd hsz2
    generalize w1.heap.size = g at *
    generalize arrI (upto (nm [v]) 8) = c8 at *
    generalize (upto (nm xs) 8).getD s 0 = z at *
    rw [HU.out] at HX
    have hf : ∀ i : Nat, 0 ≤ (fun i : Nat => if (i : Int) = (s : Int) then cl v else nm xs i) i := fun i => by
      show 0 ≤ if (i : Int) = (s : Int) then cl v else nm xs i
      split
      · exact (cl_range v).1
      · exact (nm_range xs i).1
    have HF := Lib.hid hf
    have HV2 : Hid (V = vec fun i : Nat => if (i : Int) = (s : Int) then cl v else nm xs i) := HV.out
    clear HV hf
    generalize (fun i : Nat => if (i : Int) = (s : Int) then cl v else nm xs i) = F at *
    generalize cl v = y at *
    have HB2 : Hid (Below w.heap.size w (w3.setCell ⟨g, s, none⟩ (.int .i64 y))) := HB.out.setCell (p := ⟨g, s, none⟩) hg _
    go_wp2_with (refine wpList_load_row rfl 63 _ rfl g rfl 63 (arrI (upto F 8)) (0, 0) _ HX.out Try.underlying63 rfl (size8 _ _) ?_)
    refine (rvec_any F _ HF.out).mono ?_
    rintro e w5 ⟨a', cap', rfl, hl, hm, hv, hb5⟩
    rw [← HV2.out] at hl hv ⊢
    go_wp2
    go_ret
    exact ⟨a', cap', rfl, hl, hm, hv.mono HB2.out.size, below_then HB2.out HB2.out.size hb5⟩
  · have HV2 : Hid (V = vec (nm xs)) := by
      show _ = _
      rw [HV.out]
      exact withV_out xs site v (by omega)
    have HX := Lib.hid hX1
    have HB := Lib.hid hb1
    by_cases h0 : 0 ≤ site
    · have t1 : decide (0 ≤ site) = true := decide_eq_true h0
      have t2 : decide (site ≤ 7) = false := decide_eq_false (by omega)
      clear hX1 hb1 hin
      go_wp2_with (first
        | refine wpList_store_row rfl 63 _ _ rfl w1.heap.size (arrI (upto (nm xs) 8)) rfl rfl 63 _ (heap_alloc_new w1 _) (size8 _ _) (by rw [arrI_size, upto_length]; rfl) (arrI_one _) ?_
        | refine wpList_load_row rfl 63 _ rfl w1.heap.size rfl 63 (arrI (upto (nm xs) 8)) (0, 0) _ (by rw [World.setRow_alloc_new]; exact HX.out) Try.underlying63 rfl (size8 _ _) ?_)
      rw [World.setRow_alloc_new]
      refine (rvec_any (nm xs) _ (fun i => (nm_range xs i).1)).mono ?_
      rintro e w5 ⟨a', cap', rfl, hl, hm, hv, hb5⟩
      rw [← HV2.out] at hl hv ⊢
      go_wp2
      go_ret
      exact ⟨a', cap', rfl, hl, hm, hv.mono HB.out.size, below_then HB.out HB.out.size hb5⟩
    · have t1 : decide (0 ≤ site) = false := decide_eq_false h0
      clear hX1 hb1 hin
      go_wp2_with (first
        | refine wpList_store_row rfl 63 _ _ rfl w1.heap.size (arrI (upto (nm xs) 8)) rfl rfl 63 _ (heap_alloc_new w1 _) (size8 _ _) (by rw [arrI_size, upto_length]; rfl) (arrI_one _) ?_
        | refine wpList_load_row rfl 63 _ rfl w1.heap.size rfl 63 (arrI (upto (nm xs) 8)) (0, 0) _ (by rw [World.setRow_alloc_new]; exact HX.out) Try.underlying63 rfl (size8 _ _) ?_)
      rw [World.setRow_alloc_new]
      refine (rvec_any (nm xs) _ (fun i => (nm_range xs i).1)).mono ?_
      rintro e w5 ⟨a', cap', rfl, hl, hm, hv, hb5⟩
      rw [← HV2.out] at hl hv ⊢
      go_wp2
      go_ret
      exact ⟨a', cap', rfl, hl, hm, hv.mono HB.out.size, below_then HB.out HB.out.size hb5⟩
end
end Go.Proofs.Ytdihbinbkneejaa
