/- Chapter 17's examples hold: the contract of 'awake'. -/
import Derived.Test.YtdihbinbkneejaaGOriginNil42
namespace Go.Proofs.Ytdihbinbkneejaa
section
open Go.RowKit Go.Deep
set_option maxRecDepth 100000
set_option linter.unusedVariables false
set_option linter.unusedSimpArgs false
attribute [local go_sem ↓] Go.wp_at_zero Go.wp_at_succ
def x1 : RcM := (mkR 0 1, [])
def x2 : RcM := (mkR 1 1, [1])
def x3 : RcM := (mkR 0 3, [2, 1])
def m1 : LogM := ⟨9, [], [1], [x1], 1⟩
def m2 : LogM := ⟨9, [], [1, 1], [x1, x2], 1⟩
theorem aw_new : newM 9 [] = ⟨9, [], [], [], 0⟩ := by
  unfold newM
  have : joinV [] [] = [] := by decide +kernel
  rw [this]
  rfl
theorem aw_name : nameV ⟨#[97]⟩ = true := nameV_true (by unfold nameP okC; decide)
theorem aw_p1 : recP x1.1 x1.2 := ⟨by decide +kernel, by decide +kernel, by decide +kernel, by decide +kernel, .inl ⟨rfl, aw_name, rfl⟩⟩
theorem aw_p2 : recP x2.1 x2.2 := ⟨by decide +kernel, by decide +kernel, by decide +kernel, by decide +kernel, .inl ⟨rfl, aw_name, rfl⟩⟩
theorem aw_p3 : recP x3.1 x3.2 := ⟨by decide +kernel, by decide +kernel, by decide +kernel, by decide +kernel, .inl ⟨rfl, aw_name, rfl⟩⟩
theorem aw_a1 : addM ⟨9, [], [], [], 0⟩ x1 = (m1, 0) := by
  unfold addM
  rw [if_neg (by simpa using aw_p1), if_neg (by decide +kernel), if_neg (by decide +kernel)]
  have : withV [] x1.1.st.site x1.1.st.seq = [1] := by decide +kernel
  rw [this]
  rfl
theorem aw_a2 : addM m1 x2 = (m2, 0) := by
  unfold addM
  rw [if_neg (by simpa using aw_p2), if_neg (by decide +kernel), if_neg (by decide +kernel)]
  have : withV m1.ks x2.1.st.site x2.1.st.seq = [1, 1] := by decide +kernel
  rw [this]
  rfl
theorem aw_a3 : addM m2 x3 = (m2, 17) := by
  unfold addM
  rw [if_neg (by simpa using aw_p3), if_pos (by decide +kernel)]
theorem aw_after : afterM m2 [1] 9 = ([x2], true) := by
  unfold afterM
  rw [if_pos (by decide +kernel)]
  have : thoseM m2 9 (laterP [1]) = [x2] := by
    have h1 : laterP [1] x1 = false := by decide +kernel
    have h2 : laterP [1] x2 = true := by decide +kernel
    unfold thoseM m2
    simp only [List.filter_cons, h1, h2]
    rfl
  rw [this]
theorem mkR_wf {s q : Int} (h1 : i64' s) (h2 : i64' q) : (mkR s q).wf := by
  have z : i64' 0 := ⟨by decide, by decide⟩
  have o : i64' 1 := ⟨by decide, by decide⟩
  exact ⟨o, (by show (⟨#[97]⟩ : ByteArray).size ≤ _; decide), h2, z, z, h2, h1, h2⟩
theorem sl_new (w : World) (xs : List Int) (h : xs.length ≤ 1000) : SlR (w.alloc (.cells (xs.map (Value.int .i64)).toArray 3)) ⟨some ⟨w.heap.size, 0, none⟩, xs.length, xs.length⟩ xs := by
  refine ⟨⟨rfl, .inr ⟨w.heap.size, 0, rfl, by simp, fun j hj => ?_⟩⟩, Nat.le_refl _, by show xs.length ≤ _; omega⟩
  rw [Nat.zero_add, World.cell?_alloc_new]
  simp only at hj
  simp [List.getD_eq_getElem?_getD, hj]
set_option maxHeartbeats 4000000 in
theorem oawake_any (w : World) : Calls Try.prog 8 #[] w fun e w' => e = .returned (.bool true) ∧ Below w.heap.size w w' := by
  have b0 : i64' 0 := ⟨by decide, by decide⟩
  have b1 : i64' 1 := ⟨by decide, by decide⟩
  have b3 : i64' 3 := ⟨by decide, by decide⟩
  have b9 : i64' 9 := ⟨by decide, by decide⟩
  have nilS : ∀ wx : World, SlR wx ⟨none, 0, 0⟩ [] := fun wx => ⟨⟨rfl, .inl rfl⟩, Nat.le_refl _, by decide⟩
  have N0 := onew_any [] 9 ⟨none, 0, 0⟩ [] w (nilS w) (by simp) b9
  rw [aw_new] at N0
  go_enter Try.func8, Try.ntmps8
  go_wp2_with fail
  refine N0.mono ?_
  rintro e w1 ⟨g, rfl, hg, hL, d1⟩
  have HL := Lib.hid hL
  have HB := Lib.hid d1
  clear hL d1 N0
  go_wp2_with fail
  refine (record_any 0 1 ⟨none, 0, 0⟩ _).mono ?_
  rintro e w2 ⟨rfl, d2⟩
  have HL := Lib.hid (HL.out.below d2)
  have HB := Lib.hid (below_then HB.out HB.out.size d2)
  clear d2
  have A1 := oadd_any [g] g _ ⟨mkR 0 1, ⟨none, 0, 0⟩, []⟩ w2 HL.out (by simp) (by obtain ⟨_, _, _, _, h, _⟩ := HL.out; intro k hk; simp only [List.mem_singleton] at hk; subst hk; exact heap_lt h) ⟨mkR_wf b0 b1, nilS _⟩
  rw [show addM ⟨9, [], [], [], 0⟩ (RecA.m ⟨mkR 0 1, ⟨none, 0, 0⟩, []⟩) = (m1, 0) from aw_a1] at A1
  unfold RecA.val at A1
  go_wp2_with fail
  refine A1.mono ?_
  rintro e w3 ⟨rfl, h3, d3⟩
  have HL := Lib.hid h3
  have HB := Lib.hid (But.below HB.out d3 HB.out.size hg)
  clear h3 d3 A1
  go_wp2_with fail
  refine (record_any 1 1 ⟨some ⟨w3.heap.size, 0, none⟩, 1, 1⟩ _).mono ?_
  rintro e w4 ⟨rfl, d4⟩
  have hS4 : SlR w4 ⟨some ⟨w3.heap.size, 0, none⟩, 1, 1⟩ [1] := (sl_new w3 [1] (by decide)).below d4
  have hb : Below w3.heap.size w3 (w3.alloc (.cells #[.int .i64 1] 3)) := (Below.refl _ _).alloc (Nat.le_refl _) _
  have HL := Lib.hid ((HL.out.below hb).below d4)
  have HB := Lib.hid (below_then (below_then HB.out HB.out.size hb) (Nat.le_trans HB.out.size (by simp)) d4)
  clear d4 hb
  have A1 := oadd_any [g] g _ ⟨mkR 1 1, ⟨some ⟨w3.heap.size, 0, none⟩, 1, 1⟩, [1]⟩ w4 HL.out (by simp) (by obtain ⟨_, _, _, _, h, _⟩ := HL.out; intro k hk; simp only [List.mem_singleton] at hk; subst hk; exact heap_lt h) ⟨mkR_wf b1 b1, hS4⟩
  rw [show addM m1 (RecA.m ⟨mkR 1 1, ⟨some ⟨w3.heap.size, 0, none⟩, 1, 1⟩, [1]⟩) = (m2, 0) from aw_a2] at A1
  unfold RecA.val at A1
  go_wp2_with fail
  refine A1.mono ?_
  rintro e w5 ⟨rfl, h5, d5⟩
  have HL := Lib.hid h5
  have HB := Lib.hid (But.below HB.out d5 HB.out.size hg)
  clear h5 d5 A1 hS4
  go_wp2_with fail
  refine (record_any 0 3 ⟨some ⟨w5.heap.size, 0, none⟩, 2, 2⟩ _).mono ?_
  rintro e w6 ⟨rfl, d6⟩
  have hS6 : SlR w6 ⟨some ⟨w5.heap.size, 0, none⟩, 2, 2⟩ [2, 1] := (sl_new w5 [2, 1] (by decide)).below d6
  have hb : Below w5.heap.size w5 (w5.alloc (.cells #[.int .i64 2, .int .i64 1] 3)) := (Below.refl _ _).alloc (Nat.le_refl _) _
  have HL := Lib.hid ((HL.out.below hb).below d6)
  have HB := Lib.hid (below_then (below_then HB.out HB.out.size hb) (Nat.le_trans HB.out.size (by simp)) d6)
  clear d6 hb
  have A1 := oadd_any [g] g _ ⟨mkR 0 3, ⟨some ⟨w5.heap.size, 0, none⟩, 2, 2⟩, [2, 1]⟩ w6 HL.out (by simp) (by obtain ⟨_, _, _, _, h, _⟩ := HL.out; intro k hk; simp only [List.mem_singleton] at hk; subst hk; exact heap_lt h) ⟨mkR_wf b0 b3, hS6⟩
  rw [show addM m2 (RecA.m ⟨mkR 0 3, ⟨some ⟨w5.heap.size, 0, none⟩, 2, 2⟩, [2, 1]⟩) = (m2, 17) from aw_a3] at A1
  unfold RecA.val at A1
  go_wp2_with fail
  refine A1.mono ?_
  rintro e w7 ⟨rfl, h7, d7⟩
  have HL := Lib.hid h7
  have HB := Lib.hid (But.below HB.out d7 HB.out.size hg)
  clear h7 d7 A1 hS6
  have hb : Below w7.heap.size w7 (w7.alloc (.cells #[.int .i64 1] 3)) := (Below.refl _ _).alloc (Nat.le_refl _) _
  have AF := oafter_any [g] g m2 ⟨some ⟨w7.heap.size, 0, none⟩, 1, 1⟩ [1] 9 _ (HL.out.below hb) (sl_new w7 [1] (by decide)) b9
  rw [aw_after] at AF
  have HL := Lib.hid (HL.out.below hb)
  have HB := Lib.hid (below_then HB.out HB.out.size hb)
  clear hb
  simp only at AF
  go_wp2_with fail
  refine AF.mono ?_
  rintro e w8 ⟨o, rfl, hR, d8⟩
  have HL := Lib.hid (HL.out.below d8)
  have HB := Lib.hid (below_then HB.out HB.out.size d8)
  obtain ⟨⟨rs, hr1, hr2, hr3⟩, hr4, hr5⟩ := hR
  obtain ⟨oa, on, oc⟩ := o
  simp only at hr1 hr4 hr5
  obtain ⟨y, rfl⟩ : ∃ y, rs = [y] := by
    have hl : rs.length = 1 := by simpa using congrArg List.length hr2
    exact List.length_eq_one_iff.1 hl
  have hon : on = 1 := hr1.1.symm
  subst hon
  have hy : y.r = mkR 1 1 := by
    have : RecA.m y = x2 := by simpa using hr2
    exact congrArg Prod.fst this
  have HRR := Lib.hid hr1
  clear AF d8 hr1 hr2 hr3
  go_wp2_with fail
  refine (oknow_any [g] g m2 _ HL.out).mono ?_
  rintro e w9 ⟨dk, rfl, hS9, hf9, h89, d9⟩
  have HRR := Lib.hid (HRR.out.below d9)
  have HB := Lib.hid (below_then HB.out HB.out.size d9)
  have hb : Below w9.heap.size w9 (w9.alloc (.cells #[.int .i64 1, .int .i64 1] 3)) := (Below.refl _ _).alloc (Nat.le_refl _) _
  have HRR := Lib.hid (HRR.out.below hb)
  have HB := Lib.hid (below_then HB.out HB.out.size hb)
  have S9 := same_any dk.a (some ⟨w9.heap.size, 0, none⟩) dk.n dk.c 2 2 [1, 1] [1, 1] _ ((hS9.below hb).r) ((sl_new w9 [1, 1] (by decide)).r) hS9.nc hS9.cb (by decide) (by decide)
  have hdk : dk.n = 2 := hS9.r.1.symm
  have HDK := Lib.hid (And.intro hdk hS9.nc)
  clear hb d9 hf9 h89 hS9 hdk
  go_wp2_with fail
  refine S9.mono ?_
  rintro e w10 ⟨rfl, d10⟩
  have HRR := Lib.hid (HRR.out.below d10)
  have HB := Lib.hid (below_then HB.out HB.out.size d10)
  obtain ⟨b, of, y', rfl, _, hy', hC⟩ := HRR.out.at (Below.refl _ _) 0 (by omega)
  obtain rfl : y = y' := by simpa using hy'
  have c6 : w10.cell? ⟨b, of + 6, none⟩ = some (.int .i64 1) := by
    have := hC 6 (.int .i64 y.r.st.site) rfl
    rw [hy] at this
    simpa [mkR] using this
  clear d10 S9 hC hy'
  simp only [decide_true]
  go_wp2_with fail
  go_ret
  exact ⟨rfl, HB.out⟩
end
end Go.Proofs.Ytdihbinbkneejaa
