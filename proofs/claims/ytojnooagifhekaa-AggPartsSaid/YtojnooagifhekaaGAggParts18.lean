/- The reference's Of, Add, Neg, Sub, Times. -/
import Derived.Test.YtojnooagifhekaaGAggParts17
import Derived.Deep.RegionHeld3
import Derived.Deep.DrawnRows
namespace Go.Proofs.Ytojnooagifhekaa
section
open Go.RowKit
set_option maxRecDepth 100000
set_option linter.unusedVariables false
set_option linter.unusedSimpArgs false
theorem heap_row (w : World) (T : TypeId) (cs ds : Array Value) : ((w.alloc (.cells cs T)).setRow w.heap.size ds).heap[w.heap.size]? = some (.cells ds T (0, 0)) := setRow_heap _ _ _ _ _ _ (heap_alloc_new w _)
theorem below_row (w : World) (T : TypeId) (cs ds : Array Value) : Below w.heap.size w ((w.alloc (.cells cs T)).setRow w.heap.size ds) := below_setRow (below_al (Below.refl _ _)) (Nat.le_refl _) _
/-- Boxed numbers, rows of digits, behind what was there at w. -/
structure Rx (w : World) (bs : List (Nat × Wd)) (fs : List (Nat × (Nat → Int))) (wx : World) : Prop where
  n : ∀ p ∈ bs, WdAt wx p.1 p.2
  a : ∀ p ∈ fs, BlkK .i64 88 wx p.1 (arrF p.2)
  b : Below w.heap.size w wx
theorem Rx.lt {w wx : World} {bs : List (Nat × Wd)} {fs : List (Nat × (Nat → Int))} (h : Rx w bs fs wx) : (∀ p ∈ bs, p.1 < wx.heap.size) ∧ (∀ p ∈ fs, p.1 < wx.heap.size) ∧ w.heap.size ≤ wx.heap.size := ⟨fun p hp => (h.n p hp).lt, fun p hp => (h.a p hp).lt, h.b.size⟩
theorem Rx.below {w wx w' : World} {bs : List (Nat × Wd)} {fs : List (Nat × (Nat → Int))} (h : Rx w bs fs wx) (d : Below wx.heap.size wx w') : Rx w bs fs w' := ⟨fun p hp => (h.n p hp).below d, fun p hp => (h.a p hp).below d, below_th h.b d⟩
theorem Rx.row {w wx : World} {bs : List (Nat × Wd)} {fs : List (Nat × (Nat → Int))} (h : Rx w bs fs wx) (f : Nat → Int) (cs : Array Value) : Rx w bs ((wx.heap.size, f) :: fs) ((wx.alloc (.cells cs 88)).setRow wx.heap.size (cellsK .i64 (arrF f))) := by
  have k := h.below (below_row wx 88 cs (cellsK .i64 (arrF f)))
  refine ⟨k.n, fun p hp => ?_, k.b⟩
  rcases List.mem_cons.1 hp with rfl | hp
  · exact heap_row wx _ _ _
  · exact k.a p hp
theorem Rx.set {w wx : World} {bs : List (Nat × Wd)} {fs : List (Nat × (Nat → Int))} {g : Nat} {f : Nat → Int} (h : Rx w bs ((g, f) :: fs) wx) (h1 : ∀ p ∈ bs, p.1 ≠ g) (h2 : ∀ p ∈ fs, p.1 ≠ g) (hg : w.heap.size ≤ g) (i : Nat) (v : Int) : Rx w bs ((g, fun j => if j = i then v else f j) :: fs) (wx.setCell ⟨g, i, none⟩ (.int .i64 v)) := by
  refine ⟨fun p hp => (h.n p hp).far (p := ⟨g, i, none⟩) (h1 p hp) _, fun p hp => ?_, below_st h.b (p := ⟨g, i, none⟩) hg _⟩
  rcases List.mem_cons.1 hp with rfl | hp
  · have := (h.a (g, f) (List.mem_cons_self ..)).set i v
    rw [arrF_set] at this
    exact this
  · exact (h.a p (List.mem_cons_of_mem _ hp)).far (p := ⟨g, i, none⟩) (h2 p hp) _
theorem Rx.hd {w wx : World} {bs : List (Nat × Wd)} {fs : List (Nat × (Nat → Int))} {g : Nat} {f : Nat → Int} (h : Rx w bs ((g, f) :: fs) wx) : BlkK .i64 88 wx g (arrF f) := h.a (g, f) (List.mem_cons_self ..)
theorem Rx.snd {w wx : World} {bs : List (Nat × Wd)} {fs : List (Nat × (Nat → Int))} {g g' : Nat} {f f' : Nat → Int} (h : Rx w bs ((g', f') :: (g, f) :: fs) wx) : BlkK .i64 88 wx g (arrF f) := h.a (g, f) (List.mem_cons_of_mem _ (List.mem_cons_self ..))
theorem Rx.hdW {w wx : World} {bs : List (Nat × Wd)} {fs : List (Nat × (Nat → Int))} {g : Nat} {z : Wd} (h : Rx w ((g, z) :: bs) fs wx) : WdAt wx g z := h.n (g, z) (List.mem_cons_self ..)
theorem Rx.congr {w wx : World} {bs : List (Nat × Wd)} {fs : List (Nat × (Nat → Int))} {g : Nat} {f f' : Nat → Int} (h : Rx w bs ((g, f) :: fs) wx) (e : ∀ j, j < 16 → f j = f' j) : Rx w bs ((g, f') :: fs) wx := by
  refine ⟨h.n, fun p hp => ?_, h.b⟩
  rcases List.mem_cons.1 hp with rfl | hp
  · have := h.a (g, f) (List.mem_cons_self ..)
    rw [arrF_ext e] at this
    exact this
  · exact h.a p (List.mem_cons_of_mem _ hp)
theorem Rx.same {w wx wy : World} {bs : List (Nat × Wd)} {fs : List (Nat × (Nat → Int))} (h : Rx w bs fs wx) (e1 : wy.heap = wx.heap) (e2 : wy.os = wx.os) (e3 : wy.tape = wx.tape) (e4 : wy.output = wx.output) : Rx w bs fs wy :=
  ⟨fun p hp => by unfold WdAt; rw [e1]; exact h.n p hp, fun p hp => by unfold BlkK; rw [e1]; exact h.a p hp, ⟨e2.trans h.b.os, e3.trans h.b.tape, e4.trans h.b.output, by rw [e1]; exact h.b.size, fun k hk => by rw [e1]; exact h.b.block k hk⟩⟩
theorem Rx.later {w wx wd' w' : World} {bs : List (Nat × Wd)} {fs : List (Nat × (Nat → Int))} (h : Rx w bs fs wx) (d : Below wd'.heap.size wd' w') (e1 : wd'.heap = wx.heap) (e2 : wd'.os = wx.os) (e3 : wd'.tape = wx.tape) (e4 : wd'.output = wx.output) : Rx w bs fs w' := (h.same e1 e2 e3 e4).below d
theorem rof_any (n : Int) (w : World) (h0 : -9223372036854775808 ≤ n) (h1 : n ≤ 9223372036854775807) : Calls Try.prog 33 #[.int .i64 n] w fun e w' => e = .returned (wd n).val ∧ Below w.heap.size w w' := by
  have HF : Hid (wd n = ⟨n / 9223372036854775808, IntKind.u64.wrap n⟩) := by
    show _ = _
    rw [wrap_u64]
    unfold wd sg64
    simp only [Wd.mk.injEq]
    constructor
    · omega
    · trivial
  obtain ⟨Q, HQ⟩ : ∃ Q, Hid (n / 9223372036854775808 = Q) := ⟨_, rfl⟩
  rw [HQ.out] at HF
  by_cases hn : n < 0
  · have t1 : decide (n < 0) = true := decide_eq_true hn
    have q : Q = -1 := by rw [← HQ.out]; omega
    go_enter Try.func33, Try.ntmps33
    go_wp2_with fail
    refine bodyPost_ret (v := .agg #[.int .i64 (-1), .int .u64 (IntKind.u64.wrap n)]) (by simp [results, Try.results33, go_sem]) rfl ⟨by rw [HF.out, q]; rfl, ?_⟩
    exact below_al (Below.refl _ _)
  · have t1 : decide (n < 0) = false := decide_eq_false hn
    have q : Q = 0 := by rw [← HQ.out]; omega
    go_enter Try.func33, Try.ntmps33
    go_wp2_with fail
    refine bodyPost_ret (v := .agg #[.int .i64 0, .int .u64 n]) (by simp [results, Try.results33, go_sem]) rfl ⟨by rw [HF.out, q, wrap_u64, Int.emod_eq_of_lt (by omega) (by omega)]; rfl, ?_⟩
    exact below_al (Below.refl _ _)
set_option maxHeartbeats 2000000 in
theorem rtimes_any (a : Wd) (n : Int) (w : World) (ha : a.ok) (hn : 0 ≤ n ∧ n ≤ 4294967295) : Calls Try.prog 43 #[a.val, .int .u32 n] w fun e w' => e = .returned (wd (a.v * n)).val ∧ Below w.heap.size w w' := by
  obtain ⟨V, HV⟩ : ∃ V, Hid (wd (a.v * n) = V) := ⟨_, rfl⟩
  rw [HV.out]
  have C1 := fun wx => digits_any a wx ha
  have C2 := fun wx => carry_any (fun j => dg a.v j * n) wx (fun j => by
    have := dg_range a.v j
    have h1 : 0 ≤ dg a.v j * n := Int.mul_nonneg this.1 hn.1
    have h2 : dg a.v j * n ≤ 255 * n := Int.mul_le_mul_of_nonneg_right this.2 hn.1
    omega)
  have C3 := fun wx => number_any (dg (lowS (fun j => dg a.v j * n) 16)) wx (dg_range _)
  have HW : wd (lowS (dg (lowS (fun j => dg a.v j * n) 16)) 16) = V := by rw [lowS_16, wd_mod16, lowS_mul, lowS_16, ← HV.out]; exact wd_mod _ _ (by rw [Int.mul_emod, Int.emod_emod, ← Int.mul_emod])
  rw [HW] at C3
  clear HW
  have hF := fun j => dg_range a.v j
  generalize dg a.v = F at *
  generalize dg (lowS (fun j => F j * n) 16) = G at *
  obtain ⟨h, l⟩ := a
  obtain ⟨v0, v1⟩ := V
  unfold Wd.val at *
  simp only at C1 C3 ⊢
  go_enter Try.func43, Try.ntmps43
  go_wp2_with fail
  refine (C1 _).mono ?_
  rintro e w1 ⟨rfl, d1⟩
  have I1 : Rx w [(w.heap.size + 1, ⟨0, 0⟩)] [] w1 := Rx.below (wx := (w.alloc (.cells #[.int .i64 h, .int .u64 l] 24)).alloc (.cells #[.int .i64 0, .int .u64 0] 24)) ⟨by simp; have := WdAt.new (w.alloc (.cells #[.int .i64 h, .int .u64 l] 24)) ⟨0, 0⟩; simpa using this, by simp, below_al (below_al (Below.refl _ _))⟩ d1
  have I2 := I1.row F (cellsK .i64 (arrF zerosF))
  have hg := I1.lt
  simp at hg
  obtain ⟨g0, g1⟩ := hg
  rw [arrF_zero] at I2
  unfold rowF
  go_upto_region 2 with (refine wpList_store_row rfl 88 _ _ rfl w1.heap.size (cellsK .i64 (arrF F)) rfl rfl 88 (cellsK .i64 (arrF zerosF)) (BlkK.new .i64 88 w1 (arrF zerosF)) (size_16 _) (by rw [cellsK_size, cellsK_size, arrF_length, arrF_length]) (cellsK_one _ _) ?_)
  generalize (w1.alloc _).setRow _ _ = w2 at *
  generalize w1.heap.size = gx at *
  have INIT := Lib.hid I2
  clear I1 I2 d1
  go_wp2_with fail
  go_loopw [6] (fun i wr => ∃ k : Nat, k ≤ 16 ∧ i = .int .i64 k ∧ Rx w [(w.heap.size + 1, ⟨0, 0⟩)] [(gx, fun j => if j < k then F j * n else F j)] wr) (fun i _ => 17 - (intOf i).toNat)
  case atStart => exact ⟨0, by omega, rfl, INIT.out.congr fun j hj => by rw [if_neg (by omega)]⟩
  case round =>
    obtain ⟨k, hk, rfl, hI⟩ := hrel
    have I := Lib.hid hI
    clear hI
    by_cases hlt : k < 16
    · have t1 : decide ((k : Int) < 16) = true := decide_eq_true (by omega)
      have i1 : (0 : Int) ≤ (k : Int) := by omega
      have i2 : (k : Int) < 16 := by omega
      have f1 := I.out.hd.fz k
      have d1 := I.out.hd.cell k (by rw [arrF_length]; omega)
      rw [arrF_get _ _ (by omega), if_neg (by omega)] at d1
      have r1 := hF k
      have I2 := Lib.hid ((I.out.set (by simp; omega) (by simp) (by omega) k (F k * n)).congr (f' := fun j => if j < k + 1 then F j * n else F j) (fun j hj => by
        by_cases q1 : j = k
        · subst q1; rw [if_pos rfl, if_pos (by omega)]
        · rw [if_neg q1]
          by_cases q3 : j < k
          · rw [if_pos q3, if_pos (by omega)]
          · rw [if_neg q3, if_neg (by omega)]))
      have h1 : 0 ≤ F k * n := Int.mul_nonneg r1.1 hn.1
      have h2 : F k * n ≤ 255 * n := Int.mul_le_mul_of_nonneg_right r1.2 hn.1
      have e1 : wrap64 (F k * n) = F k * n := by unfold wrap64; omega
      have e2 : IntKind.i64.wrap (F k * n) = F k * n := by rw [i64_of_wrap64]; exact e1
      generalize F k = x at *
      clear h1 h2
      go_wp2_with fail
      go_round
      case rel => exact ⟨k + 1, by omega, by go_num, by first | exact I2.out | (rw [e1]; exact I2.out)⟩
      case measure => simp [intOf]; omega
    · have t1 : decide ((k : Int) < 16) = false := decide_eq_false (by omega)
      obtain rfl : k = 16 := by omega
      have J := Lib.hid (I.out.congr (f' := fun j => F j * n) (fun j hj => by rw [if_pos (by omega)]))
      clear I
      go_wp2_with (refine wpList_load_row rfl 88 _ rfl gx rfl 88 (cellsK .i64 (arrF fun j => F j * n)) (0, 0) _ J.out.hd Try.underlying88 rfl (size_16 _) ?_)
      refine (C2 _).mono ?_
      rintro e w5 ⟨rfl, d5⟩
      go_wp2_with fail
      refine (C3 _).mono ?_
      rintro e w6 ⟨rfl, d6⟩
      have K := (J.out.below d5).below d6
      have z := K.hdW
      have c0 := z.c0
      have c1 := z.c1
      have z0 := z.fz 0
      have z1 := z.fz 1
      have HB := Lib.hid (below_st (below_st K.b (p := ⟨w.heap.size + 1, 0, none⟩) (by show w.heap.size ≤ w.heap.size + 1; omega) (.int .i64 v0)) (p := ⟨w.heap.size + 1, 1, none⟩) (by show w.heap.size ≤ w.heap.size + 1; omega) (.int .u64 v1))
      clear K z
      go_wp2_with fail
      refine bodyPost_ret (v := .agg #[.int .i64 v0, .int .u64 v1]) (by simp [results, Try.results43, go_sem, *]) rfl ⟨rfl, HB.out⟩
end
end Go.Proofs.Ytojnooagifhekaa
