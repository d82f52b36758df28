/- sample.Points; the reference's. -/
import Derived.Test.YtglabahbklpocaaGreatGShipPacks24
import Derived.Test.YtglabahbklpocaaGreatGShipPacks25
import Derived.Test.YtglabahbklpocaaGreatGShipPacks17
namespace Go.Proofs.YtglabahbklpocaaGreat
section
open Go.RowKit Go.Deep
set_option maxRecDepth 100000
set_option linter.unusedVariables false
set_option linter.unusedSimpArgs false
attribute [local go_sem ↓] Go.wp_at_zero Go.wp_at_succ
theorem chkP_01 (p : Pt) : chkP p = 0 ∨ chkP p = 1 := by
  unfold chkP chkV
  split
  · split <;> simp
  · simp
theorem p1_any (p : Pt) (w : World) (hp : p.wf) : Calls Tryz.prog 100 #[p.val] w fun e w' => e = .returned (.bool (chkP p != 0)) ∧ Below w.heap.size w w' := by
  have C1 := fun wx => chkpt_any p wx hp
  have hB : Below w.heap.size w (w.alloc (ptO p)) := (Below.refl _ _).alloc (Nat.le_refl _) _
  unfold ptO at hB
  unfold Pt.val at C1 ⊢
  go_enter Tryz.func100, Tryz.ntmps100
  go_wp2_with (first | (go_at_call 62; refine (C1 _).mono ?_; rintro e wn ⟨rfl, dn⟩; have hB := below_then hB (by simp) dn))
  go_ret
  exact ⟨rfl, hB⟩
open Classical in
noncomputable def okB (l : List Pt) : Bool := decide (okPts l)
open Classical in
theorem okB_true {l : List Pt} (h : okPts l) : okB l = true := by unfold okB; rw [decide_eq_true_iff]; exact h
open Classical in
theorem okB_false {l : List Pt} (h : ¬ okPts l) : okB l = false := by unfold okB; rw [decide_eq_false_iff_not]; exact h
set_option maxHeartbeats 2000000 in
theorem idx_any (a : Option Addr) (n c : Nat) (xs : List Pt) (w : World) (h : ReadsE Pt.cs 6 w a n xs) (hwf : ∀ x ∈ xs, x.wf) (hnc : n ≤ c) (hcb : c ≤ 9223372036854775807) :
    Calls Tryz.prog 118 #[.slice a n c, .func (.func 100) #[] #[]] w fun e w' => ∃ i : Int, e = .returned (.int .i64 i) ∧ decide (0 ≤ i) = !(okB xs) ∧ Below w.heap.size w w' := by
  have l1 := h.1
  have H := Lib.hid h
  clear h
  go_enter Tryz.func118, Tryz.ntmps118
  go_wp2_with fail
  go_loopw [8] (fun i wr => ∃ k : Nat, k ≤ n ∧ i = .int .i64 k ∧ okPts (xs.take k) ∧ Below w.heap.size w wr) (fun i _ => n - (intOf i).toNat)
  case atStart => exact ⟨0, by omega, rfl, by intro p hp; simp at hp, Below.refl _ _⟩
  case round =>
    obtain ⟨k, hk, rfl, he, hb⟩ := hrel
    have HE := Lib.hid he
    clear he
    by_cases hlt : k < n
    · have t2 : decide ((k : Int) < (n : Int)) = true := decide_eq_true (by omega)
      obtain ⟨b, o, x, rfl, _, hxk, hC⟩ := H.out.at hb k hlt
      obtain ⟨a0, a1, a2, a3, a4, a5⟩ := pt_cells hC
      have i1 : (0 : Int) ≤ (k : Int) := by omega
      have i2 : (k : Int) < (n : Int) := by omega
      have C1 := fun wx => p1_any x wx (hwf x (List.mem_of_getElem? hxk))
      have hT : xs.take (k + 1) = xs.take k ++ [x] := by rw [List.take_add_one, hxk]; rfl
      have HT := Lib.hid hT
      have hzz := hb.size
      clear hC hT
      rcases chkP_01 x with h0 | h0
      · have HN : Hid (okPts (xs.take (k + 1))) := by
          show okPts _
          rw [HT.out]
          intro p hp
          rcases List.mem_append.1 hp with hp | hp
          · exact HE.out p hp
          · simp only [List.mem_singleton] at hp
            subst hp
            exact h0
        rw [h0, show ((0 : Int) != 0) = false from rfl] at C1
        clear h0
        unfold Pt.val at C1
        go_wp2_with (first | (go_at_call 100; refine (C1 _).mono ?_; rintro e wn ⟨rfl, dn⟩; have hb := below_then hb hzz dn))
        go_roundw
        case rel => exact ⟨k + 1, by omega, by go_num, HN.out, hb⟩
        case measure => simp [intOf]; omega
      · have HN : Hid (okB xs = false) := by
          show _ = _
          refine okB_false (fun hh => ?_)
          have := hh x (List.mem_of_getElem? hxk)
          rw [h0] at this
          cases this
        rw [h0, show ((1 : Int) != 0) = true from rfl] at C1
        clear h0
        unfold Pt.val at C1
        go_wp2_with (first | (go_at_call 100; refine (C1 _).mono ?_; rintro e wn ⟨rfl, dn⟩; have hb := below_then hb hzz dn))
        go_ret
        exact ⟨k, rfl, by rw [HN.out]; simp, hb⟩
    · obtain rfl : k = n := by omega
      have t2 : decide ((k : Int) < (k : Int)) = false := decide_eq_false (by omega)
      have HN : Hid (okB xs = true) := by
        show _ = _
        refine okB_true ?_
        have := HE.out
        rwa [List.take_of_length_le (by omega)] at this
      go_wp2_with fail
      go_ret
      exact ⟨-1, rfl, by rw [HN.out]; rfl, hb⟩
theorem contains_any (a : Option Addr) (n c : Nat) (xs : List Pt) (w : World) (h : ReadsE Pt.cs 6 w a n xs) (hwf : ∀ x ∈ xs, x.wf) (hnc : n ≤ c) (hcb : c ≤ 9223372036854775807) :
    Calls Tryz.prog 60 #[.slice a n c, .func (.func 100) #[] #[]] w fun e w' => e = .returned (.bool (!(okB xs))) ∧ Below w.heap.size w w' := by
  have C := fun wx hb => idx_any a n c xs wx (h.below (w' := wx) hb) hwf hnc hcb
  go_enter Tryz.func60, Tryz.ntmps60
  go_wp2_with fail
  refine (C _ (Below.refl _ _)).mono ?_
  rintro e w1 ⟨i, rfl, hi, d1⟩
  go_wp2_with fail
  go_ret
  exact ⟨rfl, d1⟩
theorem ptb_le {p : Pt} (h : chkP p = 0) : (ptb p).length ≤ 150 := by
  obtain ⟨h1, h2, h3⟩ := chkP_0 h
  have k1 := nameV_size h1
  have k2 := putB_le (p.series.size : Int)
  have k3 := putB_le p.time
  have k4 := putB_le (zig p.value)
  have k5 := (stL_len p.st).2
  have e2 : p.series.data.toList.length = p.series.size := by simp
  unfold ptb tb
  simp only [List.length_append]
  omega
theorem ptsb_le {l : List Pt} (h : okPts l) : (ptsb l).length ≤ 150 * l.length := by
  induction l with
  | nil => simp [ptsb]
  | cons x r ih =>
    rw [show x :: r = [x] ++ r from rfl, ptsb_append, ptsb_one, List.length_append, List.length_append]
    have := ptb_le (h x (by simp))
    have := ih (fun p hp => h p (List.mem_cons_of_mem _ hp))
    simp; omega
/-- A point's text as the program puts it together. -/
theorem ptb_text {p : Pt} (h : okV p.st = true) : (((vtext p.series ++ vput p.time) ++ vput (zig p.value)) ++ stB p.st).data.toList = ptb p := by
  rw [stB_data _ h]
  simp only [ByteArray.data_append, Array.toList_append, vput_data, vtext_data, List.append_assoc, ptb]
theorem ptC_kn {B g : Nat} {w0 w wd : World} {l : List (Nat × Obj)} {p : Pt} (h : Kn B w0 l w) (hm : (g, ptO p) ∈ l) (e : wd.heap = w.heap) : PtC wd g 0 p := PtC.of (h.at_ _ hm) e
/-- All listed blocks are from g on. -/
def geAll (g : Nat) : List (Nat × Obj) → Prop
  | [] => True
  | p :: r => g ≤ p.1 ∧ geAll g r
theorem geAll.all {g : Nat} {l : List (Nat × Obj)} (h : geAll g l) : ∀ p ∈ l, g ≤ p.1 := by
  induction l with
  | nil => simp
  | cons q r ih =>
    intro p hp
    rcases List.mem_cons.1 hp with rfl | hp
    · exact h.1
    · exact ih h.2 p hp
/-- A builder was written: what was made since is as it was (what the builder has itself is not). -/
structure Kw (l : List (Nat × Obj)) (w : World) : Prop where
  at_ : ∀ p ∈ l, w.heap[p.1]? = some p.2
theorem Kn.wrote {B g : Nat} {w0 w w' : World} {l : List (Nat × Obj)} (h : Kn B w0 l w) (hk : ∀ k, g ≤ k → k < w.heap.size → w'.heap[k]? = w.heap[k]?) (hl : geAll g l) : Kw l w' :=
  ⟨fun p hp => (hk p.1 (hl.all p hp) (h.lt p hp)).trans (h.at_ p hp)⟩
theorem PtC.all6 {w : World} {g : Nat} {p : Pt} (h : PtC w g 0 p) : w.cell? ⟨g, 0, none⟩ = some (.string p.series) ∧ w.cell? ⟨g, 1, none⟩ = some (.int .i64 p.time) ∧ w.cell? ⟨g, 2, none⟩ = some (.int .i64 p.value) ∧ w.cell? ⟨g, 3, none⟩ = some (.int .i64 p.st.clock) ∧ w.cell? ⟨g, 4, none⟩ = some (.int .i64 p.st.site) ∧ w.cell? ⟨g, 5, none⟩ = some (.int .i64 p.st.seq) := by
  obtain ⟨h0, h1, h2, h3, h4, h5⟩ := h
  simp only [Nat.zero_add] at h1 h2 h3 h4 h5
  exact ⟨h0, h1, h2, h3, h4, h5⟩
set_option maxHeartbeats 8000000 in
theorem points_any (a : Option Addr) (n c : Nat) (xs : List Pt) (w : World) (h : ReadsE Pt.cs 6 w a n xs) (hwf : ∀ x ∈ xs, x.wf) (hnc : n ≤ c) (hcb : c ≤ 9223372036854775807) :
    Calls Tryz.prog 39 #[.slice a n c] w fun e w' => e = .returned (.tuple #[.string (ptsV xs).1, .int .i64 (ptsV xs).2]) ∧ Below w.heap.size w w' := by
  have hlen := h.1
  have C0 := contains_any a n c xs w h hwf hnc hcb
  obtain ⟨V, HV⟩ : ∃ V, Hid (V = ptsV xs) := ⟨_, rfl⟩
  rw [← HV.out]
  have H := Lib.hid h
  clear h
  by_cases hok : okPts xs
  · have hB : okB xs = true := okB_true hok
    rw [hB] at C0
    go_enter Tryz.func39, Tryz.ntmps39
    go_wp2_with fail
    refine C0.mono ?_
    rintro e w1 ⟨rfl, d1⟩
    clear hB
    by_cases hn : n ≤ 1000
    · have t1 : decide (1000 < (n : Int)) = false := decide_eq_false (by omega)
      have HV : Hid (V = (⟨(ptsL xs).toArray⟩, 0)) := HV.out.trans (by unfold ptsV; rw [if_pos hok, if_pos (by omega)])
      have hwr : IntKind.u64.wrap (n : Int) = n := by rw [wrap_u64]; omega
      have N0 := fun wx => num_any (n : Int) wx (by omega) (by omega)
      go_wp2_with (first | (go_at_call 102; refine (N0 _).mono ?_; rintro e w2 ⟨rfl, hb2⟩))
      have HB1 : BldAt w1.heap.size w1.heap.size [] w2 := bld_below (bld_fresh w1) hb2
      have hbl : Below w.heap.size w w2 := below_then (d1.alloc d1.size _) (Nat.le_trans d1.size (by simp)) hb2
      have hbl1 : Below w1.heap.size w1 w2 := below_then ((Below.refl _ _).alloc (Nat.le_refl _) _) (by simp) hb2
      have hgl0 : w1.heap.size < w2.heap.size := by
        have := hb2.size
        simp at this
        omega
      clear hb2
      have hvz := vput_putB (n : Int)
      have hvz2 := putB_le (n : Int)
      go_wp2_with fail
      refine (bld_write _ _ _ _ _ HB1 (by rw [hvz]; simp; omega) hbl1.size).mono ?_
      rintro e w3 ⟨rfl, hbld2, hb3⟩
      have hbl2 := hbl1.trans hb3
      have hbl3 : Below w.heap.size w w3 := hbl.trans (hb3.mono d1.size)
      have HB2 : Hid (BldAt w1.heap.size w1.heap.size (putB 9 n ++ ptsb (xs.take 0)) w3) := by
        have e : ptsb (xs.take 0) = [] := by simp [ptsb]
        rw [e, List.append_nil]
        rw [vput_data, List.nil_append] at hbld2
        exact hbld2
      have hgl : w1.heap.size < w3.heap.size := by have := hb3.size; omega
      clear hbld2 hb3 HB1 hbl1 hbl hgl0 N0 C0
      have HOK := Lib.hid hok
      clear hok
      go_wp2_with fail
      go_loopw [18] (fun i wr => ∃ k : Nat, k ≤ n ∧ i = .int .i64 k ∧ BldAt w1.heap.size w1.heap.size (putB 9 n ++ ptsb (xs.take k)) wr ∧ Below w1.heap.size w1 wr ∧ Below w.heap.size w wr ∧ w1.heap.size < wr.heap.size) (fun i _ => n - (intOf i).toNat)
      case atStart => exact ⟨0, by omega, rfl, HB2.out, hbl2, hbl3, hgl⟩
      case round =>
        obtain ⟨k, hk, rfl, hbld, hbel, hbw, hsz2⟩ := hrel
        have HB := Lib.hid hbld
        clear hbld
        by_cases hlt : k < n
        · have t2 : decide ((k : Int) < (n : Int)) = true := decide_eq_true (by omega)
          obtain ⟨b, o, x, rfl, _, hxk, hC⟩ := H.out.at hbw k hlt
          obtain ⟨a0, a1, a2, a3, a4, a5⟩ := pt_cells hC
          have i1 : (0 : Int) ≤ (k : Int) := by omega
          have i2 : (k : Int) < (n : Int) := by omega
          have hx0 := HOK.out x (List.mem_of_getElem? hxk)
          have hxw := hwf x (List.mem_of_getElem? hxk)
          obtain ⟨q1, q2, q3⟩ := chkP_0 hx0
          have q4 := nameV_size q1
          have q5 := zig_range x.value hxw.2.2.1.1 hxw.2.2.1.2
          have HT : Hid (xs.take (k + 1) = xs.take k ++ [x]) := by show _ = _; rw [List.take_add_one, hxk]; rfl
          have HL2 : (putB 9 (n : Int) ++ ptsb (xs.take k)).length ≤ 160000 := by
            have := ptsb_le (okPts_take HOK.out k)
            rw [List.length_take] at this
            rw [List.length_append]
            omega
          have HP := Lib.hid (ptb_text q3)
          have D2 := fun wx => text_any x.series wx (by omega)
          have D1 := fun wx => num_any x.time wx (by omega) (by omega)
          have D3 := fun wx => stbytes_any x.st wx
          unfold St.val at D3
          have m1 := vtext_le x.series q4
          have m2 := vput_le x.time
          have m3 := vput_le (zig x.value)
          have m4 := stB_le x.st
          obtain ⟨S3, HS3⟩ : ∃ S3, Hid (vput (zig x.value) = S3) := ⟨_, rfl⟩
          rw [HS3.out] at m3 HP
          have HV3 := Lib.hid hxw.2.2.1
          have hu : IntKind.u64.wrap x.time = x.time := by rw [wrap_u64]; omega
          clear hC hxw q1 q2 q3 q5 hx0
          go_upto_region 10 with fail
          have KK := Lib.hid ((Kn.start wr).new (ptO x))
          change Hid (Kn wr.heap.size wr [(wr.heap.size, ptO x)] (wr.alloc (.cells #[.string x.series, .int .i64 x.time, .int .i64 x.value, .int .i64 x.st.clock, .int .i64 x.st.site, .int .i64 x.st.seq] 90))) at KK
          obtain ⟨g, hg⟩ : ∃ g, wr.heap.size = g := ⟨_, rfl⟩
          have hgw : w1.heap.size ≤ g := by omega
          generalize hw4 : wr.alloc (.cells #[.string x.series, .int .i64 x.time, .int .i64 x.value, .int .i64 x.st.clock, .int .i64 x.st.site, .int .i64 x.st.seq] 90) = w4 at *
          clear hw4 a0 a1 a2 a3 a4 a5
          have HBW := Lib.hid (And.intro hbel hbw)
          clear hbel hbw
          generalize vtext x.series = S1 at *
          generalize vput x.time = S2 at *
          generalize stB x.st = S4 at *
          have n1 : ¬ (9223372036854775807 < S1.size + S2.size) := by omega
          have n2 : ¬ (9223372036854775807 < S1.size + S2.size + S3.size) := by omega
          have n2' : ¬ (9223372036854775807 < (S1 ++ S2).size + S3.size) := by rw [ByteArray.size_append]; omega
          have n3 : ¬ (9223372036854775807 < S1.size + S2.size + S3.size + S4.size) := by omega
          have n3' : ¬ (9223372036854775807 < (S1 ++ S2 ++ S3).size + S4.size) := by rw [ByteArray.size_append, ByteArray.size_append]; omega
          have n4 : (S1 ++ S2 ++ S3 ++ S4).size ≤ 2000 := by rw [ByteArray.size_append, ByteArray.size_append, ByteArray.size_append]; omega
          rw [hg] at KK ⊢
          refine wp_region_held_drew (S := (fun wx => wx.cell? ⟨g, 0, none⟩ = some (.string x.series) ∧ wx.cell? ⟨g, 1, none⟩ = some (.int .i64 x.time) ∧ wx.cell? ⟨g, 2, none⟩ = some (.int .i64 x.value) ∧ wx.cell? ⟨g, 3, none⟩ = some (.int .i64 x.st.clock) ∧ wx.cell? ⟨g, 4, none⟩ = some (.int .i64 x.st.site) ∧ wx.cell? ⟨g, 5, none⟩ = some (.int .i64 x.st.seq))) (by kernel_rfl) ?_ (fun hHeld => ?_)
          focus ((try dsimp only); (try (first | exact PtC.all6 (ptC_kn (p := x) KK.out (by simp) rfl) | exact PtC.all6 (ptC_kn (p := x) (KK.out.new (oneO x.value)) (by simp) rfl) | exact PtC.all6 (PtC.of (KK.out.at_ (g, ptO x) (by simp)) rfl))); done)
          (refine wpAnyH_take (i := 0) (oi := ⟨some 22, Go.Op.fieldAddr 90 (.tmp 6) 0, 0, _, _, none⟩) (v := ?_) rfl (by kernel_rfl) (by kernel_rfl) (by kernel_rfl) (fun _ _ _ h => h) (Or.inl ⟨by rfl, ?_⟩) (by assumption) ?_; rotate_left; (focus (intro w hSw; ((try dsimp only at hSw); go_simp; try with_reducible rfl))); (try simp only [Act.put, sA, sZ, sS]))
          (refine wpAnyH_take (i := 1) (oi := ⟨some 23, Go.Op.load 9 (.tmp 22), 9, _, _, none⟩) (v := ?_) rfl (by kernel_rfl) (by kernel_rfl) (by kernel_rfl) (fun _ _ _ h => h) (Or.inl ⟨by rfl, ?_⟩) (by assumption) ?_; rotate_left; (focus (intro w hSw; ((try dsimp only at hSw); go_simp; try with_reducible rfl))); (try simp only [Act.put, sA, sZ, sS]))
          (refine wpAnyH_take (i := 3) (oi := ⟨some 25, Go.Op.fieldAddr 90 (.tmp 6) 1, 0, _, _, none⟩) (v := ?_) rfl (by kernel_rfl) (by kernel_rfl) (by kernel_rfl) (fun _ _ _ h => h) (Or.inl ⟨by rfl, ?_⟩) (by assumption) ?_; rotate_left; (focus (intro w hSw; ((try dsimp only at hSw); go_simp; try with_reducible rfl))); (try simp only [Act.put, sA, sZ, sS]))
          (refine wpAnyH_take (i := 4) (oi := ⟨some 26, Go.Op.load 3 (.tmp 25), 3, _, _, none⟩) (v := ?_) rfl (by kernel_rfl) (by kernel_rfl) (by kernel_rfl) (fun _ _ _ h => h) (Or.inl ⟨by rfl, ?_⟩) (by assumption) ?_; rotate_left; (focus (intro w hSw; ((try dsimp only at hSw); go_simp; try with_reducible rfl))); (try simp only [Act.put, sA, sZ, sS]))
          (refine wpAnyH_take (i := 7) (oi := ⟨some 29, Go.Op.fieldAddr 90 (.tmp 6) 2, 0, _, _, none⟩) (v := ?_) rfl (by kernel_rfl) (by kernel_rfl) (by kernel_rfl) (fun _ _ _ h => h) (Or.inl ⟨by rfl, ?_⟩) (by assumption) ?_; rotate_left; (focus (intro w hSw; ((try dsimp only at hSw); go_simp; try with_reducible rfl))); (try simp only [Act.put, sA, sZ, sS]))
          (refine wpAnyH_take (i := 8) (oi := ⟨some 30, Go.Op.load 2 (.tmp 29), 2, _, _, none⟩) (v := ?_) rfl (by kernel_rfl) (by kernel_rfl) (by kernel_rfl) (fun _ _ _ h => h) (Or.inl ⟨by rfl, ?_⟩) (by assumption) ?_; rotate_left; (focus (intro w hSw; ((try dsimp only at hSw); go_simp; try with_reducible rfl))); (try simp only [Act.put, sA, sZ, sS]))
          (refine wpAnyH_take (i := 12) (oi := ⟨some 34, Go.Op.fieldAddr 90 (.tmp 6) 3, 0, _, _, none⟩) (v := ?_) rfl (by kernel_rfl) (by kernel_rfl) (by kernel_rfl) (fun _ _ _ h => h) (Or.inl ⟨by rfl, ?_⟩) (by assumption) ?_; rotate_left; (focus (intro w hSw; ((try dsimp only at hSw); go_simp; try with_reducible rfl))); (try simp only [Act.put, sA, sZ, sS]))
          (refine wpAnyH_take (i := 13) (oi := ⟨some 35, Go.Op.load 58 (.tmp 34), 58, _, _, none⟩) (v := ?_) rfl (by kernel_rfl) (by kernel_rfl) (by kernel_rfl) (fun _ _ _ h => h) (Or.inl ⟨by rfl, ?_⟩) (by assumption) ?_; rotate_left; (focus (intro w hSw; ((try dsimp only at hSw); go_simp; try with_reducible rfl))); (try simp only [Act.put, sA, sZ, sS]))
          refine wpAnyH_ready (rs := [2, 9]) (by kernel_rfl) (by simp) ?_
          refine AllReadyH.cons (o := ⟨some 24, Go.Op.call { callee := Go.Callee.value (.func 40), args := #[.tmp 23], argTypes := #[9] }, 9, _, _, none⟩) rfl (fun K hK2 => ?_) (AllReadyH.cons (o := ⟨some 31, Go.Op.buildSlice 155 1 #[(0, .tmp 30)], 155, _, _, none⟩) rfl (fun K hK9 => ?_) AllReadyH.nil)
          · (go_simp; ((first | (go_at_call 40; refine (D2 _).mono ?_; rintro e wn ⟨rfl, dn⟩; first | have KK := Lib.hid (Kn.later KK.out dn rfl rfl rfl rfl) | have KK := Lib.hid (Kn.later (KK.out.new (oneO x.value)) dn rfl rfl rfl rfl)) | (go_at_call 102; refine (D1 _).mono ?_; rintro e wn ⟨rfl, dn⟩; first | have KK := Lib.hid (Kn.later KK.out dn rfl rfl rfl rfl) | have KK := Lib.hid (Kn.later (KK.out.new (oneO x.value)) dn rfl rfl rfl rfl)) | (go_at_call 104; refine (D3 _).mono ?_; rintro e wn ⟨rfl, dn⟩; first | have KK := Lib.hid (Kn.later KK.out dn rfl rfl rfl rfl) | have KK := Lib.hid (Kn.later (KK.out.new (oneO x.value)) dn rfl rfl rfl rfl)) | (go_at_call 103; (first | refine (all_kn' HS3.out KK.out rfl HV3.out).mono ?_ | refine (all_kn' HS3.out (KK.out.new (oneO x.value)) rfl HV3.out).mono ?_); rintro e wn ⟨rfl, dn⟩; first | have KK := Lib.hid (Kn.later KK.out dn rfl rfl rfl rfl) | have KK := Lib.hid (Kn.later (KK.out.new (oneO x.value)) dn rfl rfl rfl rfl)) | (go_at_call 101; refine (bld_write2 _ _ _ _ wr _ HB.out (by rw [hg]; exact (Kn.same KK.out rfl rfl rfl rfl).b) (by omega) (Nat.le_of_lt hsz2)).mono ?_; rintro e wn ⟨rfl, ⟨hbd, hbn⟩, hkp⟩; have FIN := Lib.hid (And.intro hbd (((Kn.same KK.out rfl rfl rfl rfl).b.mono hgw).trans hbn)); rw [hg] at hkp; have KK := Lib.hid (Kn.wrote ((Kn.same KK.out rfl rfl rfl rfl).sub (m := [(g, ptO x)]) (by simp)) hkp ⟨Nat.le_refl _, trivial⟩)))); go_wp2_with fail; refine hK2.out _ _ ?_ (fun hHeld => ?_); (focus ((try dsimp only); (try (first | exact PtC.all6 (ptC_kn (p := x) KK.out (by simp) rfl) | exact PtC.all6 (ptC_kn (p := x) (KK.out.new (oneO x.value)) (by simp) rfl) | exact PtC.all6 (PtC.of (KK.out.at_ (g, ptO x) (by simp)) rfl))); done)); clear hK2; (try simp only [Act.put, sA, sZ, sS]))
            refine wpAnyH_ready (rs := [5, 9]) (by kernel_rfl) (by simp) ?_
            refine AllReadyH.cons (o := ⟨some 27, Go.Op.call { callee := Go.Callee.value (.func 102), args := #[.tmp 26], argTypes := #[3] }, 9, _, _, none⟩) rfl (fun K hK5 => ?_) (AllReadyH.cons (o := ⟨some 31, Go.Op.buildSlice 155 1 #[(0, .tmp 30)], 155, _, _, none⟩) rfl (fun K hK9 => ?_) AllReadyH.nil)
            · (go_simp; ((first | (go_at_call 40; refine (D2 _).mono ?_; rintro e wn ⟨rfl, dn⟩; first | have KK := Lib.hid (Kn.later KK.out dn rfl rfl rfl rfl) | have KK := Lib.hid (Kn.later (KK.out.new (oneO x.value)) dn rfl rfl rfl rfl)) | (go_at_call 102; refine (D1 _).mono ?_; rintro e wn ⟨rfl, dn⟩; first | have KK := Lib.hid (Kn.later KK.out dn rfl rfl rfl rfl) | have KK := Lib.hid (Kn.later (KK.out.new (oneO x.value)) dn rfl rfl rfl rfl)) | (go_at_call 104; refine (D3 _).mono ?_; rintro e wn ⟨rfl, dn⟩; first | have KK := Lib.hid (Kn.later KK.out dn rfl rfl rfl rfl) | have KK := Lib.hid (Kn.later (KK.out.new (oneO x.value)) dn rfl rfl rfl rfl)) | (go_at_call 103; (first | refine (all_kn' HS3.out KK.out rfl HV3.out).mono ?_ | refine (all_kn' HS3.out (KK.out.new (oneO x.value)) rfl HV3.out).mono ?_); rintro e wn ⟨rfl, dn⟩; first | have KK := Lib.hid (Kn.later KK.out dn rfl rfl rfl rfl) | have KK := Lib.hid (Kn.later (KK.out.new (oneO x.value)) dn rfl rfl rfl rfl)) | (go_at_call 101; refine (bld_write2 _ _ _ _ wr _ HB.out (by rw [hg]; exact (Kn.same KK.out rfl rfl rfl rfl).b) (by omega) (Nat.le_of_lt hsz2)).mono ?_; rintro e wn ⟨rfl, ⟨hbd, hbn⟩, hkp⟩; have FIN := Lib.hid (And.intro hbd (((Kn.same KK.out rfl rfl rfl rfl).b.mono hgw).trans hbn)); rw [hg] at hkp; have KK := Lib.hid (Kn.wrote ((Kn.same KK.out rfl rfl rfl rfl).sub (m := [(g, ptO x)]) (by simp)) hkp ⟨Nat.le_refl _, trivial⟩)))); go_wp2_with fail; refine hK5.out _ _ ?_ (fun hHeld => ?_); (focus ((try dsimp only); (try (first | exact PtC.all6 (ptC_kn (p := x) KK.out (by simp) rfl) | exact PtC.all6 (ptC_kn (p := x) (KK.out.new (oneO x.value)) (by simp) rfl) | exact PtC.all6 (PtC.of (KK.out.at_ (g, ptO x) (by simp)) rfl))); done)); clear hK5; (try simp only [Act.put, sA, sZ, sS]))
              (refine wpAnyH_take (i := 6) (oi := ⟨some 28, Go.Op.binOp Go.BinOp.add 9 (.tmp 24) (.tmp 27) 9, 9, _, _, none⟩) (v := ?_) rfl (by kernel_rfl) (by kernel_rfl) (by kernel_rfl) (fun _ _ _ h => h) (Or.inl ⟨by rfl, ?_⟩) (by assumption) ?_; rotate_left; (focus (intro w hSw; ((try dsimp only at hSw); go_simp; try with_reducible rfl))); (try simp only [Act.put, sA, sZ, sS]))
              (refine wpAnyH_ready (rs := [9]) (by kernel_rfl) (by simp) ?_; refine AllReadyH.cons (o := ⟨some 31, Go.Op.buildSlice 155 1 #[(0, .tmp 30)], 155, _, _, none⟩) rfl (fun K hK => ?_) AllReadyH.nil; go_simp; refine hK.out _ _ ?_ (fun hHeld => ?_); (focus ((try dsimp only); (try (first | exact PtC.all6 (ptC_kn (p := x) KK.out (by simp) rfl) | exact PtC.all6 (ptC_kn (p := x) (KK.out.new (oneO x.value)) (by simp) rfl) | exact PtC.all6 (PtC.of (KK.out.at_ (g, ptO x) (by simp)) rfl))); done)); clear hK; (try simp only [Act.put, sA, sZ, sS]))
              (refine wpAnyH_ready (rs := [10]) (by kernel_rfl) (by simp) ?_; refine AllReadyH.cons (o := ⟨some 32, Go.Op.call { callee := Go.Callee.value (.func 103), args := #[.tmp 31], argTypes := #[155] }, 9, _, _, none⟩) rfl (fun K hK => ?_) AllReadyH.nil; go_simp; ((first | (go_at_call 40; refine (D2 _).mono ?_; rintro e wn ⟨rfl, dn⟩; first | have KK := Lib.hid (Kn.later KK.out dn rfl rfl rfl rfl) | have KK := Lib.hid (Kn.later (KK.out.new (oneO x.value)) dn rfl rfl rfl rfl)) | (go_at_call 102; refine (D1 _).mono ?_; rintro e wn ⟨rfl, dn⟩; first | have KK := Lib.hid (Kn.later KK.out dn rfl rfl rfl rfl) | have KK := Lib.hid (Kn.later (KK.out.new (oneO x.value)) dn rfl rfl rfl rfl)) | (go_at_call 104; refine (D3 _).mono ?_; rintro e wn ⟨rfl, dn⟩; first | have KK := Lib.hid (Kn.later KK.out dn rfl rfl rfl rfl) | have KK := Lib.hid (Kn.later (KK.out.new (oneO x.value)) dn rfl rfl rfl rfl)) | (go_at_call 103; (first | refine (all_kn' HS3.out KK.out rfl HV3.out).mono ?_ | refine (all_kn' HS3.out (KK.out.new (oneO x.value)) rfl HV3.out).mono ?_); rintro e wn ⟨rfl, dn⟩; first | have KK := Lib.hid (Kn.later KK.out dn rfl rfl rfl rfl) | have KK := Lib.hid (Kn.later (KK.out.new (oneO x.value)) dn rfl rfl rfl rfl)) | (go_at_call 101; refine (bld_write2 _ _ _ _ wr _ HB.out (by rw [hg]; exact (Kn.same KK.out rfl rfl rfl rfl).b) (by omega) (Nat.le_of_lt hsz2)).mono ?_; rintro e wn ⟨rfl, ⟨hbd, hbn⟩, hkp⟩; have FIN := Lib.hid (And.intro hbd (((Kn.same KK.out rfl rfl rfl rfl).b.mono hgw).trans hbn)); rw [hg] at hkp; have KK := Lib.hid (Kn.wrote ((Kn.same KK.out rfl rfl rfl rfl).sub (m := [(g, ptO x)]) (by simp)) hkp ⟨Nat.le_refl _, trivial⟩)))); go_wp2_with fail; refine hK.out _ _ ?_ (fun hHeld => ?_); (focus ((try dsimp only); (try (first | exact PtC.all6 (ptC_kn (p := x) KK.out (by simp) rfl) | exact PtC.all6 (ptC_kn (p := x) (KK.out.new (oneO x.value)) (by simp) rfl) | exact PtC.all6 (PtC.of (KK.out.at_ (g, ptO x) (by simp)) rfl))); done)); clear hK; (try simp only [Act.put, sA, sZ, sS]))
              (refine wpAnyH_take (i := 11) (oi := ⟨some 33, Go.Op.binOp Go.BinOp.add 9 (.tmp 28) (.tmp 32) 9, 9, _, _, none⟩) (v := ?_) rfl (by kernel_rfl) (by kernel_rfl) (by kernel_rfl) (fun _ _ _ h => h) (Or.inl ⟨by rfl, ?_⟩) (by assumption) ?_; rotate_left; (focus (intro w hSw; ((try dsimp only at hSw); go_simp; try with_reducible rfl))); (try simp only [Act.put, sA, sZ, sS]))
              (refine wpAnyH_ready (rs := [14]) (by kernel_rfl) (by simp) ?_; refine AllReadyH.cons (o := ⟨some 36, Go.Op.call { callee := Go.Callee.value (.func 104), args := #[.tmp 35], argTypes := #[58] }, 9, _, _, none⟩) rfl (fun K hK => ?_) AllReadyH.nil; go_simp; ((first | (go_at_call 40; refine (D2 _).mono ?_; rintro e wn ⟨rfl, dn⟩; first | have KK := Lib.hid (Kn.later KK.out dn rfl rfl rfl rfl) | have KK := Lib.hid (Kn.later (KK.out.new (oneO x.value)) dn rfl rfl rfl rfl)) | (go_at_call 102; refine (D1 _).mono ?_; rintro e wn ⟨rfl, dn⟩; first | have KK := Lib.hid (Kn.later KK.out dn rfl rfl rfl rfl) | have KK := Lib.hid (Kn.later (KK.out.new (oneO x.value)) dn rfl rfl rfl rfl)) | (go_at_call 104; refine (D3 _).mono ?_; rintro e wn ⟨rfl, dn⟩; first | have KK := Lib.hid (Kn.later KK.out dn rfl rfl rfl rfl) | have KK := Lib.hid (Kn.later (KK.out.new (oneO x.value)) dn rfl rfl rfl rfl)) | (go_at_call 103; (first | refine (all_kn' HS3.out KK.out rfl HV3.out).mono ?_ | refine (all_kn' HS3.out (KK.out.new (oneO x.value)) rfl HV3.out).mono ?_); rintro e wn ⟨rfl, dn⟩; first | have KK := Lib.hid (Kn.later KK.out dn rfl rfl rfl rfl) | have KK := Lib.hid (Kn.later (KK.out.new (oneO x.value)) dn rfl rfl rfl rfl)) | (go_at_call 101; refine (bld_write2 _ _ _ _ wr _ HB.out (by rw [hg]; exact (Kn.same KK.out rfl rfl rfl rfl).b) (by omega) (Nat.le_of_lt hsz2)).mono ?_; rintro e wn ⟨rfl, ⟨hbd, hbn⟩, hkp⟩; have FIN := Lib.hid (And.intro hbd (((Kn.same KK.out rfl rfl rfl rfl).b.mono hgw).trans hbn)); rw [hg] at hkp; have KK := Lib.hid (Kn.wrote ((Kn.same KK.out rfl rfl rfl rfl).sub (m := [(g, ptO x)]) (by simp)) hkp ⟨Nat.le_refl _, trivial⟩)))); go_wp2_with fail; refine hK.out _ _ ?_ (fun hHeld => ?_); (focus ((try dsimp only); (try (first | exact PtC.all6 (ptC_kn (p := x) KK.out (by simp) rfl) | exact PtC.all6 (ptC_kn (p := x) (KK.out.new (oneO x.value)) (by simp) rfl) | exact PtC.all6 (PtC.of (KK.out.at_ (g, ptO x) (by simp)) rfl))); done)); clear hK; (try simp only [Act.put, sA, sZ, sS]))
              (refine wpAnyH_take (i := 15) (oi := ⟨some 37, Go.Op.binOp Go.BinOp.add 9 (.tmp 33) (.tmp 36) 9, 9, _, _, none⟩) (v := ?_) rfl (by kernel_rfl) (by kernel_rfl) (by kernel_rfl) (fun _ _ _ h => h) (Or.inl ⟨by rfl, ?_⟩) (by assumption) ?_; rotate_left; (focus (intro w hSw; ((try dsimp only at hSw); go_simp; try with_reducible rfl))); (try simp only [Act.put, sA, sZ, sS]))
              (refine wpAnyH_ready (rs := [16]) (by kernel_rfl) (by simp) ?_; refine AllReadyH.cons (o := ⟨some 38, Go.Op.call { callee := Go.Callee.value (.func 101), args := #[.tmp 4, .tmp 37], argTypes := #[132, 9] }, 135, _, _, none⟩) rfl (fun K hK => ?_) AllReadyH.nil; go_simp; ((first | (go_at_call 40; refine (D2 _).mono ?_; rintro e wn ⟨rfl, dn⟩; first | have KK := Lib.hid (Kn.later KK.out dn rfl rfl rfl rfl) | have KK := Lib.hid (Kn.later (KK.out.new (oneO x.value)) dn rfl rfl rfl rfl)) | (go_at_call 102; refine (D1 _).mono ?_; rintro e wn ⟨rfl, dn⟩; first | have KK := Lib.hid (Kn.later KK.out dn rfl rfl rfl rfl) | have KK := Lib.hid (Kn.later (KK.out.new (oneO x.value)) dn rfl rfl rfl rfl)) | (go_at_call 104; refine (D3 _).mono ?_; rintro e wn ⟨rfl, dn⟩; first | have KK := Lib.hid (Kn.later KK.out dn rfl rfl rfl rfl) | have KK := Lib.hid (Kn.later (KK.out.new (oneO x.value)) dn rfl rfl rfl rfl)) | (go_at_call 103; (first | refine (all_kn' HS3.out KK.out rfl HV3.out).mono ?_ | refine (all_kn' HS3.out (KK.out.new (oneO x.value)) rfl HV3.out).mono ?_); rintro e wn ⟨rfl, dn⟩; first | have KK := Lib.hid (Kn.later KK.out dn rfl rfl rfl rfl) | have KK := Lib.hid (Kn.later (KK.out.new (oneO x.value)) dn rfl rfl rfl rfl)) | (go_at_call 101; refine (bld_write2 _ _ _ _ wr _ HB.out (by rw [hg]; exact (Kn.same KK.out rfl rfl rfl rfl).b) (by omega) (Nat.le_of_lt hsz2)).mono ?_; rintro e wn ⟨rfl, ⟨hbd, hbn⟩, hkp⟩; have FIN := Lib.hid (And.intro hbd (((Kn.same KK.out rfl rfl rfl rfl).b.mono hgw).trans hbn)); rw [hg] at hkp; have KK := Lib.hid (Kn.wrote ((Kn.same KK.out rfl rfl rfl rfl).sub (m := [(g, ptO x)]) (by simp)) hkp ⟨Nat.le_refl _, trivial⟩)))); go_wp2_with fail; refine hK.out _ _ ?_ (fun hHeld => ?_); (focus ((try dsimp only); (try (first | exact PtC.all6 (ptC_kn (p := x) KK.out (by simp) rfl) | exact PtC.all6 (ptC_kn (p := x) (KK.out.new (oneO x.value)) (by simp) rfl) | exact PtC.all6 (PtC.of (KK.out.at_ (g, ptO x) (by simp)) rfl))); done)); clear hK; (try simp only [Act.put, sA, sZ, sS]))
              refine wpAnyH_done (by kernel_rfl) ?_ _
              go_wp2_with fail
              go_roundw
              case rel => exact ⟨k + 1, by omega, by go_num, by rw [HT.out, ptsb_append, ptsb_one, ← HP.out, ← List.append_assoc]; exact FIN.out.1, HBW.out.1.trans FIN.out.2, HBW.out.2.trans (FIN.out.2.mono d1.size), Nat.lt_of_lt_of_le hsz2 FIN.out.2.size⟩
              case measure => simp [intOf]; omega
            · (go_simp; refine hK9.out _ _ ?_ (fun hHeld => ?_); (focus ((try dsimp only); (try (first | exact PtC.all6 (ptC_kn (p := x) KK.out (by simp) rfl) | exact PtC.all6 (ptC_kn (p := x) (KK.out.new (oneO x.value)) (by simp) rfl) | exact PtC.all6 (PtC.of (KK.out.at_ (g, ptO x) (by simp)) rfl))); done)); clear hK9; (try simp only [Act.put, sA, sZ, sS]))
              (refine wpAnyH_ready (rs := [5]) (by kernel_rfl) (by simp) ?_; refine AllReadyH.cons (o := ⟨some 27, Go.Op.call { callee := Go.Callee.value (.func 102), args := #[.tmp 26], argTypes := #[3] }, 9, _, _, none⟩) rfl (fun K hK => ?_) AllReadyH.nil; go_simp; ((first | (go_at_call 40; refine (D2 _).mono ?_; rintro e wn ⟨rfl, dn⟩; first | have KK := Lib.hid (Kn.later KK.out dn rfl rfl rfl rfl) | have KK := Lib.hid (Kn.later (KK.out.new (oneO x.value)) dn rfl rfl rfl rfl)) | (go_at_call 102; refine (D1 _).mono ?_; rintro e wn ⟨rfl, dn⟩; first | have KK := Lib.hid (Kn.later KK.out dn rfl rfl rfl rfl) | have KK := Lib.hid (Kn.later (KK.out.new (oneO x.value)) dn rfl rfl rfl rfl)) | (go_at_call 104; refine (D3 _).mono ?_; rintro e wn ⟨rfl, dn⟩; first | have KK := Lib.hid (Kn.later KK.out dn rfl rfl rfl rfl) | have KK := Lib.hid (Kn.later (KK.out.new (oneO x.value)) dn rfl rfl rfl rfl)) | (go_at_call 103; (first | refine (all_kn' HS3.out KK.out rfl HV3.out).mono ?_ | refine (all_kn' HS3.out (KK.out.new (oneO x.value)) rfl HV3.out).mono ?_); rintro e wn ⟨rfl, dn⟩; first | have KK := Lib.hid (Kn.later KK.out dn rfl rfl rfl rfl) | have KK := Lib.hid (Kn.later (KK.out.new (oneO x.value)) dn rfl rfl rfl rfl)) | (go_at_call 101; refine (bld_write2 _ _ _ _ wr _ HB.out (by rw [hg]; exact (Kn.same KK.out rfl rfl rfl rfl).b) (by omega) (Nat.le_of_lt hsz2)).mono ?_; rintro e wn ⟨rfl, ⟨hbd, hbn⟩, hkp⟩; have FIN := Lib.hid (And.intro hbd (((Kn.same KK.out rfl rfl rfl rfl).b.mono hgw).trans hbn)); rw [hg] at hkp; have KK := Lib.hid (Kn.wrote ((Kn.same KK.out rfl rfl rfl rfl).sub (m := [(g, ptO x)]) (by simp)) hkp ⟨Nat.le_refl _, trivial⟩)))); go_wp2_with fail; refine hK.out _ _ ?_ (fun hHeld => ?_); (focus ((try dsimp only); (try (first | exact PtC.all6 (ptC_kn (p := x) KK.out (by simp) rfl) | exact PtC.all6 (ptC_kn (p := x) (KK.out.new (oneO x.value)) (by simp) rfl) | exact PtC.all6 (PtC.of (KK.out.at_ (g, ptO x) (by simp)) rfl))); done)); clear hK; (try simp only [Act.put, sA, sZ, sS]))
              (refine wpAnyH_take (i := 6) (oi := ⟨some 28, Go.Op.binOp Go.BinOp.add 9 (.tmp 24) (.tmp 27) 9, 9, _, _, none⟩) (v := ?_) rfl (by kernel_rfl) (by kernel_rfl) (by kernel_rfl) (fun _ _ _ h => h) (Or.inl ⟨by rfl, ?_⟩) (by assumption) ?_; rotate_left; (focus (intro w hSw; ((try dsimp only at hSw); go_simp; try with_reducible rfl))); (try simp only [Act.put, sA, sZ, sS]))
              (refine wpAnyH_ready (rs := [10]) (by kernel_rfl) (by simp) ?_; refine AllReadyH.cons (o := ⟨some 32, Go.Op.call { callee := Go.Callee.value (.func 103), args := #[.tmp 31], argTypes := #[155] }, 9, _, _, none⟩) rfl (fun K hK => ?_) AllReadyH.nil; go_simp; ((first | (go_at_call 40; refine (D2 _).mono ?_; rintro e wn ⟨rfl, dn⟩; first | have KK := Lib.hid (Kn.later KK.out dn rfl rfl rfl rfl) | have KK := Lib.hid (Kn.later (KK.out.new (oneO x.value)) dn rfl rfl rfl rfl)) | (go_at_call 102; refine (D1 _).mono ?_; rintro e wn ⟨rfl, dn⟩; first | have KK := Lib.hid (Kn.later KK.out dn rfl rfl rfl rfl) | have KK := Lib.hid (Kn.later (KK.out.new (oneO x.value)) dn rfl rfl rfl rfl)) | (go_at_call 104; refine (D3 _).mono ?_; rintro e wn ⟨rfl, dn⟩; first | have KK := Lib.hid (Kn.later KK.out dn rfl rfl rfl rfl) | have KK := Lib.hid (Kn.later (KK.out.new (oneO x.value)) dn rfl rfl rfl rfl)) | (go_at_call 103; (first | refine (all_kn' HS3.out KK.out rfl HV3.out).mono ?_ | refine (all_kn' HS3.out (KK.out.new (oneO x.value)) rfl HV3.out).mono ?_); rintro e wn ⟨rfl, dn⟩; first | have KK := Lib.hid (Kn.later KK.out dn rfl rfl rfl rfl) | have KK := Lib.hid (Kn.later (KK.out.new (oneO x.value)) dn rfl rfl rfl rfl)) | (go_at_call 101; refine (bld_write2 _ _ _ _ wr _ HB.out (by rw [hg]; exact (Kn.same KK.out rfl rfl rfl rfl).b) (by omega) (Nat.le_of_lt hsz2)).mono ?_; rintro e wn ⟨rfl, ⟨hbd, hbn⟩, hkp⟩; have FIN := Lib.hid (And.intro hbd (((Kn.same KK.out rfl rfl rfl rfl).b.mono hgw).trans hbn)); rw [hg] at hkp; have KK := Lib.hid (Kn.wrote ((Kn.same KK.out rfl rfl rfl rfl).sub (m := [(g, ptO x)]) (by simp)) hkp ⟨Nat.le_refl _, trivial⟩)))); go_wp2_with fail; refine hK.out _ _ ?_ (fun hHeld => ?_); (focus ((try dsimp only); (try (first | exact PtC.all6 (ptC_kn (p := x) KK.out (by simp) rfl) | exact PtC.all6 (ptC_kn (p := x) (KK.out.new (oneO x.value)) (by simp) rfl) | exact PtC.all6 (PtC.of (KK.out.at_ (g, ptO x) (by simp)) rfl))); done)); clear hK; (try simp only [Act.put, sA, sZ, sS]))
              (refine wpAnyH_take (i := 11) (oi := ⟨some 33, Go.Op.binOp Go.BinOp.add 9 (.tmp 28) (.tmp 32) 9, 9, _, _, none⟩) (v := ?_) rfl (by kernel_rfl) (by kernel_rfl) (by kernel_rfl) (fun _ _ _ h => h) (Or.inl ⟨by rfl, ?_⟩) (by assumption) ?_; rotate_left; (focus (intro w hSw; ((try dsimp only at hSw); go_simp; try with_reducible rfl))); (try simp only [Act.put, sA, sZ, sS]))
              (refine wpAnyH_ready (rs := [14]) (by kernel_rfl) (by simp) ?_; refine AllReadyH.cons (o := ⟨some 36, Go.Op.call { callee := Go.Callee.value (.func 104), args := #[.tmp 35], argTypes := #[58] }, 9, _, _, none⟩) rfl (fun K hK => ?_) AllReadyH.nil; go_simp; ((first | (go_at_call 40; refine (D2 _).mono ?_; rintro e wn ⟨rfl, dn⟩; first | have KK := Lib.hid (Kn.later KK.out dn rfl rfl rfl rfl) | have KK := Lib.hid (Kn.later (KK.out.new (oneO x.value)) dn rfl rfl rfl rfl)) | (go_at_call 102; refine (D1 _).mono ?_; rintro e wn ⟨rfl, dn⟩; first | have KK := Lib.hid (Kn.later KK.out dn rfl rfl rfl rfl) | have KK := Lib.hid (Kn.later (KK.out.new (oneO x.value)) dn rfl rfl rfl rfl)) | (go_at_call 104; refine (D3 _).mono ?_; rintro e wn ⟨rfl, dn⟩; first | have KK := Lib.hid (Kn.later KK.out dn rfl rfl rfl rfl) | have KK := Lib.hid (Kn.later (KK.out.new (oneO x.value)) dn rfl rfl rfl rfl)) | (go_at_call 103; (first | refine (all_kn' HS3.out KK.out rfl HV3.out).mono ?_ | refine (all_kn' HS3.out (KK.out.new (oneO x.value)) rfl HV3.out).mono ?_); rintro e wn ⟨rfl, dn⟩; first | have KK := Lib.hid (Kn.later KK.out dn rfl rfl rfl rfl) | have KK := Lib.hid (Kn.later (KK.out.new (oneO x.value)) dn rfl rfl rfl rfl)) | (go_at_call 101; refine (bld_write2 _ _ _ _ wr _ HB.out (by rw [hg]; exact (Kn.same KK.out rfl rfl rfl rfl).b) (by omega) (Nat.le_of_lt hsz2)).mono ?_; rintro e wn ⟨rfl, ⟨hbd, hbn⟩, hkp⟩; have FIN := Lib.hid (And.intro hbd (((Kn.same KK.out rfl rfl rfl rfl).b.mono hgw).trans hbn)); rw [hg] at hkp; have KK := Lib.hid (Kn.wrote ((Kn.same KK.out rfl rfl rfl rfl).sub (m := [(g, ptO x)]) (by simp)) hkp ⟨Nat.le_refl _, trivial⟩)))); go_wp2_with fail; refine hK.out _ _ ?_ (fun hHeld => ?_); (focus ((try dsimp only); (try (first | exact PtC.all6 (ptC_kn (p := x) KK.out (by simp) rfl) | exact PtC.all6 (ptC_kn (p := x) (KK.out.new (oneO x.value)) (by simp) rfl) | exact PtC.all6 (PtC.of (KK.out.at_ (g, ptO x) (by simp)) rfl))); done)); clear hK; (try simp only [Act.put, sA, sZ, sS]))
              (refine wpAnyH_take (i := 15) (oi := ⟨some 37, Go.Op.binOp Go.BinOp.add 9 (.tmp 33) (.tmp 36) 9, 9, _, _, none⟩) (v := ?_) rfl (by kernel_rfl) (by kernel_rfl) (by kernel_rfl) (fun _ _ _ h => h) (Or.inl ⟨by rfl, ?_⟩) (by assumption) ?_; rotate_left; (focus (intro w hSw; ((try dsimp only at hSw); go_simp; try with_reducible rfl))); (try simp only [Act.put, sA, sZ, sS]))
              (refine wpAnyH_ready (rs := [16]) (by kernel_rfl) (by simp) ?_; refine AllReadyH.cons (o := ⟨some 38, Go.Op.call { callee := Go.Callee.value (.func 101), args := #[.tmp 4, .tmp 37], argTypes := #[132, 9] }, 135, _, _, none⟩) rfl (fun K hK => ?_) AllReadyH.nil; go_simp; ((first | (go_at_call 40; refine (D2 _).mono ?_; rintro e wn ⟨rfl, dn⟩; first | have KK := Lib.hid (Kn.later KK.out dn rfl rfl rfl rfl) | have KK := Lib.hid (Kn.later (KK.out.new (oneO x.value)) dn rfl rfl rfl rfl)) | (go_at_call 102; refine (D1 _).mono ?_; rintro e wn ⟨rfl, dn⟩; first | have KK := Lib.hid (Kn.later KK.out dn rfl rfl rfl rfl) | have KK := Lib.hid (Kn.later (KK.out.new (oneO x.value)) dn rfl rfl rfl rfl)) | (go_at_call 104; refine (D3 _).mono ?_; rintro e wn ⟨rfl, dn⟩; first | have KK := Lib.hid (Kn.later KK.out dn rfl rfl rfl rfl) | have KK := Lib.hid (Kn.later (KK.out.new (oneO x.value)) dn rfl rfl rfl rfl)) | (go_at_call 103; (first | refine (all_kn' HS3.out KK.out rfl HV3.out).mono ?_ | refine (all_kn' HS3.out (KK.out.new (oneO x.value)) rfl HV3.out).mono ?_); rintro e wn ⟨rfl, dn⟩; first | have KK := Lib.hid (Kn.later KK.out dn rfl rfl rfl rfl) | have KK := Lib.hid (Kn.later (KK.out.new (oneO x.value)) dn rfl rfl rfl rfl)) | (go_at_call 101; refine (bld_write2 _ _ _ _ wr _ HB.out (by rw [hg]; exact (Kn.same KK.out rfl rfl rfl rfl).b) (by omega) (Nat.le_of_lt hsz2)).mono ?_; rintro e wn ⟨rfl, ⟨hbd, hbn⟩, hkp⟩; have FIN := Lib.hid (And.intro hbd (((Kn.same KK.out rfl rfl rfl rfl).b.mono hgw).trans hbn)); rw [hg] at hkp; have KK := Lib.hid (Kn.wrote ((Kn.same KK.out rfl rfl rfl rfl).sub (m := [(g, ptO x)]) (by simp)) hkp ⟨Nat.le_refl _, trivial⟩)))); go_wp2_with fail; refine hK.out _ _ ?_ (fun hHeld => ?_); (focus ((try dsimp only); (try (first | exact PtC.all6 (ptC_kn (p := x) KK.out (by simp) rfl) | exact PtC.all6 (ptC_kn (p := x) (KK.out.new (oneO x.value)) (by simp) rfl) | exact PtC.all6 (PtC.of (KK.out.at_ (g, ptO x) (by simp)) rfl))); done)); clear hK; (try simp only [Act.put, sA, sZ, sS]))
              refine wpAnyH_done (by kernel_rfl) ?_ _
              go_wp2_with fail
              go_roundw
              case rel => exact ⟨k + 1, by omega, by go_num, by rw [HT.out, ptsb_append, ptsb_one, ← HP.out, ← List.append_assoc]; exact FIN.out.1, HBW.out.1.trans FIN.out.2, HBW.out.2.trans (FIN.out.2.mono d1.size), Nat.lt_of_lt_of_le hsz2 FIN.out.2.size⟩
              case measure => simp [intOf]; omega
          · (go_simp; refine hK9.out _ _ ?_ (fun hHeld => ?_); (focus ((try dsimp only); (try (first | exact PtC.all6 (ptC_kn (p := x) KK.out (by simp) rfl) | exact PtC.all6 (ptC_kn (p := x) (KK.out.new (oneO x.value)) (by simp) rfl) | exact PtC.all6 (PtC.of (KK.out.at_ (g, ptO x) (by simp)) rfl))); done)); clear hK9; (try simp only [Act.put, sA, sZ, sS]))
            (refine wpAnyH_ready (rs := [2]) (by kernel_rfl) (by simp) ?_; refine AllReadyH.cons (o := ⟨some 24, Go.Op.call { callee := Go.Callee.value (.func 40), args := #[.tmp 23], argTypes := #[9] }, 9, _, _, none⟩) rfl (fun K hK => ?_) AllReadyH.nil; go_simp; ((first | (go_at_call 40; refine (D2 _).mono ?_; rintro e wn ⟨rfl, dn⟩; first | have KK := Lib.hid (Kn.later KK.out dn rfl rfl rfl rfl) | have KK := Lib.hid (Kn.later (KK.out.new (oneO x.value)) dn rfl rfl rfl rfl)) | (go_at_call 102; refine (D1 _).mono ?_; rintro e wn ⟨rfl, dn⟩; first | have KK := Lib.hid (Kn.later KK.out dn rfl rfl rfl rfl) | have KK := Lib.hid (Kn.later (KK.out.new (oneO x.value)) dn rfl rfl rfl rfl)) | (go_at_call 104; refine (D3 _).mono ?_; rintro e wn ⟨rfl, dn⟩; first | have KK := Lib.hid (Kn.later KK.out dn rfl rfl rfl rfl) | have KK := Lib.hid (Kn.later (KK.out.new (oneO x.value)) dn rfl rfl rfl rfl)) | (go_at_call 103; (first | refine (all_kn' HS3.out KK.out rfl HV3.out).mono ?_ | refine (all_kn' HS3.out (KK.out.new (oneO x.value)) rfl HV3.out).mono ?_); rintro e wn ⟨rfl, dn⟩; first | have KK := Lib.hid (Kn.later KK.out dn rfl rfl rfl rfl) | have KK := Lib.hid (Kn.later (KK.out.new (oneO x.value)) dn rfl rfl rfl rfl)) | (go_at_call 101; refine (bld_write2 _ _ _ _ wr _ HB.out (by rw [hg]; exact (Kn.same KK.out rfl rfl rfl rfl).b) (by omega) (Nat.le_of_lt hsz2)).mono ?_; rintro e wn ⟨rfl, ⟨hbd, hbn⟩, hkp⟩; have FIN := Lib.hid (And.intro hbd (((Kn.same KK.out rfl rfl rfl rfl).b.mono hgw).trans hbn)); rw [hg] at hkp; have KK := Lib.hid (Kn.wrote ((Kn.same KK.out rfl rfl rfl rfl).sub (m := [(g, ptO x)]) (by simp)) hkp ⟨Nat.le_refl _, trivial⟩)))); go_wp2_with fail; refine hK.out _ _ ?_ (fun hHeld => ?_); (focus ((try dsimp only); (try (first | exact PtC.all6 (ptC_kn (p := x) KK.out (by simp) rfl) | exact PtC.all6 (ptC_kn (p := x) (KK.out.new (oneO x.value)) (by simp) rfl) | exact PtC.all6 (PtC.of (KK.out.at_ (g, ptO x) (by simp)) rfl))); done)); clear hK; (try simp only [Act.put, sA, sZ, sS]))
            (refine wpAnyH_ready (rs := [5]) (by kernel_rfl) (by simp) ?_; refine AllReadyH.cons (o := ⟨some 27, Go.Op.call { callee := Go.Callee.value (.func 102), args := #[.tmp 26], argTypes := #[3] }, 9, _, _, none⟩) rfl (fun K hK => ?_) AllReadyH.nil; go_simp; ((first | (go_at_call 40; refine (D2 _).mono ?_; rintro e wn ⟨rfl, dn⟩; first | have KK := Lib.hid (Kn.later KK.out dn rfl rfl rfl rfl) | have KK := Lib.hid (Kn.later (KK.out.new (oneO x.value)) dn rfl rfl rfl rfl)) | (go_at_call 102; refine (D1 _).mono ?_; rintro e wn ⟨rfl, dn⟩; first | have KK := Lib.hid (Kn.later KK.out dn rfl rfl rfl rfl) | have KK := Lib.hid (Kn.later (KK.out.new (oneO x.value)) dn rfl rfl rfl rfl)) | (go_at_call 104; refine (D3 _).mono ?_; rintro e wn ⟨rfl, dn⟩; first | have KK := Lib.hid (Kn.later KK.out dn rfl rfl rfl rfl) | have KK := Lib.hid (Kn.later (KK.out.new (oneO x.value)) dn rfl rfl rfl rfl)) | (go_at_call 103; (first | refine (all_kn' HS3.out KK.out rfl HV3.out).mono ?_ | refine (all_kn' HS3.out (KK.out.new (oneO x.value)) rfl HV3.out).mono ?_); rintro e wn ⟨rfl, dn⟩; first | have KK := Lib.hid (Kn.later KK.out dn rfl rfl rfl rfl) | have KK := Lib.hid (Kn.later (KK.out.new (oneO x.value)) dn rfl rfl rfl rfl)) | (go_at_call 101; refine (bld_write2 _ _ _ _ wr _ HB.out (by rw [hg]; exact (Kn.same KK.out rfl rfl rfl rfl).b) (by omega) (Nat.le_of_lt hsz2)).mono ?_; rintro e wn ⟨rfl, ⟨hbd, hbn⟩, hkp⟩; have FIN := Lib.hid (And.intro hbd (((Kn.same KK.out rfl rfl rfl rfl).b.mono hgw).trans hbn)); rw [hg] at hkp; have KK := Lib.hid (Kn.wrote ((Kn.same KK.out rfl rfl rfl rfl).sub (m := [(g, ptO x)]) (by simp)) hkp ⟨Nat.le_refl _, trivial⟩)))); go_wp2_with fail; refine hK.out _ _ ?_ (fun hHeld => ?_); (focus ((try dsimp only); (try (first | exact PtC.all6 (ptC_kn (p := x) KK.out (by simp) rfl) | exact PtC.all6 (ptC_kn (p := x) (KK.out.new (oneO x.value)) (by simp) rfl) | exact PtC.all6 (PtC.of (KK.out.at_ (g, ptO x) (by simp)) rfl))); done)); clear hK; (try simp only [Act.put, sA, sZ, sS]))
            (refine wpAnyH_take (i := 6) (oi := ⟨some 28, Go.Op.binOp Go.BinOp.add 9 (.tmp 24) (.tmp 27) 9, 9, _, _, none⟩) (v := ?_) rfl (by kernel_rfl) (by kernel_rfl) (by kernel_rfl) (fun _ _ _ h => h) (Or.inl ⟨by rfl, ?_⟩) (by assumption) ?_; rotate_left; (focus (intro w hSw; ((try dsimp only at hSw); go_simp; try with_reducible rfl))); (try simp only [Act.put, sA, sZ, sS]))
            (refine wpAnyH_ready (rs := [10]) (by kernel_rfl) (by simp) ?_; refine AllReadyH.cons (o := ⟨some 32, Go.Op.call { callee := Go.Callee.value (.func 103), args := #[.tmp 31], argTypes := #[155] }, 9, _, _, none⟩) rfl (fun K hK => ?_) AllReadyH.nil; go_simp; ((first | (go_at_call 40; refine (D2 _).mono ?_; rintro e wn ⟨rfl, dn⟩; first | have KK := Lib.hid (Kn.later KK.out dn rfl rfl rfl rfl) | have KK := Lib.hid (Kn.later (KK.out.new (oneO x.value)) dn rfl rfl rfl rfl)) | (go_at_call 102; refine (D1 _).mono ?_; rintro e wn ⟨rfl, dn⟩; first | have KK := Lib.hid (Kn.later KK.out dn rfl rfl rfl rfl) | have KK := Lib.hid (Kn.later (KK.out.new (oneO x.value)) dn rfl rfl rfl rfl)) | (go_at_call 104; refine (D3 _).mono ?_; rintro e wn ⟨rfl, dn⟩; first | have KK := Lib.hid (Kn.later KK.out dn rfl rfl rfl rfl) | have KK := Lib.hid (Kn.later (KK.out.new (oneO x.value)) dn rfl rfl rfl rfl)) | (go_at_call 103; (first | refine (all_kn' HS3.out KK.out rfl HV3.out).mono ?_ | refine (all_kn' HS3.out (KK.out.new (oneO x.value)) rfl HV3.out).mono ?_); rintro e wn ⟨rfl, dn⟩; first | have KK := Lib.hid (Kn.later KK.out dn rfl rfl rfl rfl) | have KK := Lib.hid (Kn.later (KK.out.new (oneO x.value)) dn rfl rfl rfl rfl)) | (go_at_call 101; refine (bld_write2 _ _ _ _ wr _ HB.out (by rw [hg]; exact (Kn.same KK.out rfl rfl rfl rfl).b) (by omega) (Nat.le_of_lt hsz2)).mono ?_; rintro e wn ⟨rfl, ⟨hbd, hbn⟩, hkp⟩; have FIN := Lib.hid (And.intro hbd (((Kn.same KK.out rfl rfl rfl rfl).b.mono hgw).trans hbn)); rw [hg] at hkp; have KK := Lib.hid (Kn.wrote ((Kn.same KK.out rfl rfl rfl rfl).sub (m := [(g, ptO x)]) (by simp)) hkp ⟨Nat.le_refl _, trivial⟩)))); go_wp2_with fail; refine hK.out _ _ ?_ (fun hHeld => ?_); (focus ((try dsimp only); (try (first | exact PtC.all6 (ptC_kn (p := x) KK.out (by simp) rfl) | exact PtC.all6 (ptC_kn (p := x) (KK.out.new (oneO x.value)) (by simp) rfl) | exact PtC.all6 (PtC.of (KK.out.at_ (g, ptO x) (by simp)) rfl))); done)); clear hK; (try simp only [Act.put, sA, sZ, sS]))
            (refine wpAnyH_take (i := 11) (oi := ⟨some 33, Go.Op.binOp Go.BinOp.add 9 (.tmp 28) (.tmp 32) 9, 9, _, _, none⟩) (v := ?_) rfl (by kernel_rfl) (by kernel_rfl) (by kernel_rfl) (fun _ _ _ h => h) (Or.inl ⟨by rfl, ?_⟩) (by assumption) ?_; rotate_left; (focus (intro w hSw; ((try dsimp only at hSw); go_simp; try with_reducible rfl))); (try simp only [Act.put, sA, sZ, sS]))
            (refine wpAnyH_ready (rs := [14]) (by kernel_rfl) (by simp) ?_; refine AllReadyH.cons (o := ⟨some 36, Go.Op.call { callee := Go.Callee.value (.func 104), args := #[.tmp 35], argTypes := #[58] }, 9, _, _, none⟩) rfl (fun K hK => ?_) AllReadyH.nil; go_simp; ((first | (go_at_call 40; refine (D2 _).mono ?_; rintro e wn ⟨rfl, dn⟩; first | have KK := Lib.hid (Kn.later KK.out dn rfl rfl rfl rfl) | have KK := Lib.hid (Kn.later (KK.out.new (oneO x.value)) dn rfl rfl rfl rfl)) | (go_at_call 102; refine (D1 _).mono ?_; rintro e wn ⟨rfl, dn⟩; first | have KK := Lib.hid (Kn.later KK.out dn rfl rfl rfl rfl) | have KK := Lib.hid (Kn.later (KK.out.new (oneO x.value)) dn rfl rfl rfl rfl)) | (go_at_call 104; refine (D3 _).mono ?_; rintro e wn ⟨rfl, dn⟩; first | have KK := Lib.hid (Kn.later KK.out dn rfl rfl rfl rfl) | have KK := Lib.hid (Kn.later (KK.out.new (oneO x.value)) dn rfl rfl rfl rfl)) | (go_at_call 103; (first | refine (all_kn' HS3.out KK.out rfl HV3.out).mono ?_ | refine (all_kn' HS3.out (KK.out.new (oneO x.value)) rfl HV3.out).mono ?_); rintro e wn ⟨rfl, dn⟩; first | have KK := Lib.hid (Kn.later KK.out dn rfl rfl rfl rfl) | have KK := Lib.hid (Kn.later (KK.out.new (oneO x.value)) dn rfl rfl rfl rfl)) | (go_at_call 101; refine (bld_write2 _ _ _ _ wr _ HB.out (by rw [hg]; exact (Kn.same KK.out rfl rfl rfl rfl).b) (by omega) (Nat.le_of_lt hsz2)).mono ?_; rintro e wn ⟨rfl, ⟨hbd, hbn⟩, hkp⟩; have FIN := Lib.hid (And.intro hbd (((Kn.same KK.out rfl rfl rfl rfl).b.mono hgw).trans hbn)); rw [hg] at hkp; have KK := Lib.hid (Kn.wrote ((Kn.same KK.out rfl rfl rfl rfl).sub (m := [(g, ptO x)]) (by simp)) hkp ⟨Nat.le_refl _, trivial⟩)))); go_wp2_with fail; refine hK.out _ _ ?_ (fun hHeld => ?_); (focus ((try dsimp only); (try (first | exact PtC.all6 (ptC_kn (p := x) KK.out (by simp) rfl) | exact PtC.all6 (ptC_kn (p := x) (KK.out.new (oneO x.value)) (by simp) rfl) | exact PtC.all6 (PtC.of (KK.out.at_ (g, ptO x) (by simp)) rfl))); done)); clear hK; (try simp only [Act.put, sA, sZ, sS]))
            (refine wpAnyH_take (i := 15) (oi := ⟨some 37, Go.Op.binOp Go.BinOp.add 9 (.tmp 33) (.tmp 36) 9, 9, _, _, none⟩) (v := ?_) rfl (by kernel_rfl) (by kernel_rfl) (by kernel_rfl) (fun _ _ _ h => h) (Or.inl ⟨by rfl, ?_⟩) (by assumption) ?_; rotate_left; (focus (intro w hSw; ((try dsimp only at hSw); go_simp; try with_reducible rfl))); (try simp only [Act.put, sA, sZ, sS]))
            (refine wpAnyH_ready (rs := [16]) (by kernel_rfl) (by simp) ?_; refine AllReadyH.cons (o := ⟨some 38, Go.Op.call { callee := Go.Callee.value (.func 101), args := #[.tmp 4, .tmp 37], argTypes := #[132, 9] }, 135, _, _, none⟩) rfl (fun K hK => ?_) AllReadyH.nil; go_simp; ((first | (go_at_call 40; refine (D2 _).mono ?_; rintro e wn ⟨rfl, dn⟩; first | have KK := Lib.hid (Kn.later KK.out dn rfl rfl rfl rfl) | have KK := Lib.hid (Kn.later (KK.out.new (oneO x.value)) dn rfl rfl rfl rfl)) | (go_at_call 102; refine (D1 _).mono ?_; rintro e wn ⟨rfl, dn⟩; first | have KK := Lib.hid (Kn.later KK.out dn rfl rfl rfl rfl) | have KK := Lib.hid (Kn.later (KK.out.new (oneO x.value)) dn rfl rfl rfl rfl)) | (go_at_call 104; refine (D3 _).mono ?_; rintro e wn ⟨rfl, dn⟩; first | have KK := Lib.hid (Kn.later KK.out dn rfl rfl rfl rfl) | have KK := Lib.hid (Kn.later (KK.out.new (oneO x.value)) dn rfl rfl rfl rfl)) | (go_at_call 103; (first | refine (all_kn' HS3.out KK.out rfl HV3.out).mono ?_ | refine (all_kn' HS3.out (KK.out.new (oneO x.value)) rfl HV3.out).mono ?_); rintro e wn ⟨rfl, dn⟩; first | have KK := Lib.hid (Kn.later KK.out dn rfl rfl rfl rfl) | have KK := Lib.hid (Kn.later (KK.out.new (oneO x.value)) dn rfl rfl rfl rfl)) | (go_at_call 101; refine (bld_write2 _ _ _ _ wr _ HB.out (by rw [hg]; exact (Kn.same KK.out rfl rfl rfl rfl).b) (by omega) (Nat.le_of_lt hsz2)).mono ?_; rintro e wn ⟨rfl, ⟨hbd, hbn⟩, hkp⟩; have FIN := Lib.hid (And.intro hbd (((Kn.same KK.out rfl rfl rfl rfl).b.mono hgw).trans hbn)); rw [hg] at hkp; have KK := Lib.hid (Kn.wrote ((Kn.same KK.out rfl rfl rfl rfl).sub (m := [(g, ptO x)]) (by simp)) hkp ⟨Nat.le_refl _, trivial⟩)))); go_wp2_with fail; refine hK.out _ _ ?_ (fun hHeld => ?_); (focus ((try dsimp only); (try (first | exact PtC.all6 (ptC_kn (p := x) KK.out (by simp) rfl) | exact PtC.all6 (ptC_kn (p := x) (KK.out.new (oneO x.value)) (by simp) rfl) | exact PtC.all6 (PtC.of (KK.out.at_ (g, ptO x) (by simp)) rfl))); done)); clear hK; (try simp only [Act.put, sA, sZ, sS]))
            refine wpAnyH_done (by kernel_rfl) ?_ _
            go_wp2_with fail
            go_roundw
            case rel => exact ⟨k + 1, by omega, by go_num, by rw [HT.out, ptsb_append, ptsb_one, ← HP.out, ← List.append_assoc]; exact FIN.out.1, HBW.out.1.trans FIN.out.2, HBW.out.2.trans (FIN.out.2.mono d1.size), Nat.lt_of_lt_of_le hsz2 FIN.out.2.size⟩
            case measure => simp [intOf]; omega
        · obtain rfl : k = n := by omega
          have t2 : decide ((k : Int) < (k : Int)) = false := decide_eq_false (by omega)
          have HF : Hid (putB 9 (k : Int) ++ ptsb (xs.take k) = ptsL xs) := by
            show _ = _
            rw [List.take_of_length_le (by omega)]; unfold ptsL; rw [hlen]
          go_wp2_with fail
          refine (bld_string _ _ _ _ HB.out hbel.size).mono ?_
          rintro e w4 ⟨rfl, hb1⟩
          rw [HF.out]
          go_wp2
          refine bodyPost_ret (v := .tuple #[.string ⟨(ptsL xs).toArray⟩, .int .i64 0]) (by simp [results, Tryz.results39, go_sem, *]) rfl ⟨by rw [HV.out], hbw.trans (hb1.mono d1.size)⟩
    · have t1 : decide (1000 < (n : Int)) = true := decide_eq_true (by omega)
      have HV : Hid (V = (⟨#[]⟩, 11)) := HV.out.trans (by unfold ptsV; rw [if_pos hok, if_neg (by omega)])
      go_wp2_with fail
      refine bodyPost_ret (v := .tuple #[.string ⟨#[]⟩, .int .i64 11]) (by simp [results, Tryz.results39, go_sem, *]) rfl ⟨by rw [HV.out], d1⟩
  · have hB : okB xs = false := okB_false hok
    rw [hB] at C0
    have HV : Hid (V = (⟨#[]⟩, 1)) := HV.out.trans (by unfold ptsV; rw [if_neg hok])
    go_enter Tryz.func39, Tryz.ntmps39
    go_wp2_with fail
    refine C0.mono ?_
    rintro e w1 ⟨rfl, d1⟩
    go_wp2_with fail
    refine bodyPost_ret (v := .tuple #[.string ⟨#[]⟩, .int .i64 1]) (by simp [results, Tryz.results39, go_sem, *]) rfl ⟨by rw [HV.out], d1⟩
end
end Go.Proofs.YtglabahbklpocaaGreat
