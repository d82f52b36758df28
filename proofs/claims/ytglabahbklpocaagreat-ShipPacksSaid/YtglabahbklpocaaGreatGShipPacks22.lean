/- Records' bytes, of both packages. -/
import Derived.Test.YtglabahbklpocaaGreatGShipPacks20
import Derived.Test.YtglabahbklpocaaGreatGShipPacks21
namespace Go.Proofs.YtglabahbklpocaaGreat
section
open Go.RowKit
set_option maxRecDepth 100000
set_option linter.unusedVariables false
set_option linter.unusedSimpArgs false
attribute [local go_sem ↓] Go.wp_at_zero Go.wp_at_succ
/-- A block of one int64. -/
def oneO (v : Int) : Obj := .cells #[.int .i64 v] 2 (0, 0)
theorem all_kn (v : Int) {B g : Nat} {w0 w1 wx : World} {l : List (Nat × Obj)} (h : Kn B w0 ((g, oneO v) :: l) w1) (e : wx.heap = w1.heap) (hv : i64' v) :
    Calls Tryz.prog 103 #[.slice (some ⟨g, 0, none⟩) 1 1] wx fun e w' => e = .returned (.string (vput (zig v))) ∧ Below wx.heap.size wx w' :=
  (all_any _ 1 1 [v] wx ⟨rfl, .inr ⟨_, _, rfl, by rw [e]; exact heap_lt h.hd, fun j hj => by
    have : j = 0 := by simp at hj; omega
    subst this
    simp only [World.cell?, e, h.hd, oneO]
    rfl⟩⟩ (by omega) (fun y hy => by simp at hy; subst hy; exact hv)).mono fun e w' ⟨h1, h2⟩ => ⟨by rw [h1, vall_one]; rfl, h2⟩
theorem all_kn' {v : Int} {S : ByteArray} (hs : vput (zig v) = S) {B g : Nat} {w0 w1 wx : World} {l : List (Nat × Obj)} (h : Kn B w0 ((g, oneO v) :: l) w1) (e : wx.heap = w1.heap) (hv : i64' v) :
    Calls Tryz.prog 103 #[.slice (some ⟨g, 0, none⟩) 1 1] wx fun e w' => e = .returned (.string S) ∧ Below wx.heap.size wx w' := hs ▸ all_kn v h e hv
theorem rc_kn {B g : Nat} {w0 w wd : World} {l : List (Nat × Obj)} {r : Rc} {d : Sl} (h : Kn B w0 l w) (hm : (g, rcO r d) ∈ l) (e : wd.heap = w.heap) : RcC wd g r d := rc_cells (h.at_ _ hm) e
theorem RcC.c123 {w : World} {g : Nat} {r : Rc} {d : Sl} (h : RcC w g r d) : w.cell? ⟨g, 1, none⟩ = some (.string r.series) ∧ w.cell? ⟨g, 2, none⟩ = some (.int .i64 r.time) ∧ w.cell? ⟨g, 3, none⟩ = some (.int .i64 r.value) := ⟨h.c1, h.c2, h.c3⟩
/-- The text of a record's bytes. -/
def vecB (ds : List Int) : ByteArray := ⟨(mtB (pl ds)).toArray⟩
def midB (r : Rc) : ByteArray := if r.kind = 1 then (vtext r.series ++ vput r.time) ++ vput (zig r.value) else vput r.tier ++ vput r.time
def recT (r : Rc) (ds : List Int) : ByteArray := ((vput r.kind ++ midB r) ++ stB r.st) ++ vecB ds
open Classical in
noncomputable def recB (r : Rc) (ds : List Int) : ByteArray := if recP r ds then recT r ds else ⟨#[]⟩
theorem vecB_le (ds : List Int) : (vecB ds).size ≤ 1000 := by
  have h1 := mcat_length (pl ds)
  have h2 := pl_length ds
  have h3 := putB_le ((pl ds).length : Int)
  simp only [vecB, ba_size, mtB, List.length_append]
  omega
theorem stB_le (a : St) : (stB a).size ≤ 1000 := by
  unfold stB
  have h1 := vput_le a.clock
  have h2 := vput_le a.site
  have h3 := vput_le a.seq
  split
  · rw [ByteArray.size_append, ByteArray.size_append]; omega
  · exact Nat.zero_le _
theorem nameV_size {s : ByteArray} (h : nameV s = true) : s.size ≤ 40 := by
  unfold nameV nameP at h
  simp only [decide_eq_true_eq] at h
  exact h.2.1
theorem vtext_le (s : ByteArray) (h : s.size ≤ 40) : (vtext s).size ≤ 100 := by
  unfold vtext
  rw [ByteArray.size_append]
  have := vput_le (s.size : Int)
  omega
theorem clock_range {t : Int} (h : clockV t = true) : 0 ≤ t ∧ t ≤ 1099511627776 := by
  unfold clockV at h
  simpa using h
set_option maxHeartbeats 8000000 in
theorem sbytes_any (r : Rc) (d : Sl) (ds : List Int) (w : World) (hr : r.wf) (hd : SlR w d ds) : Calls Tryz.prog 42 #[rcVal r d] w fun e w' => e = .returned (.tuple #[.string (recB r ds), .int .i64 (chkR r ds)]) ∧ Below w.heap.size w w' := by
  obtain ⟨V, HV⟩ : ∃ V, Hid (V = recB r ds) := ⟨_, rfl⟩
  obtain ⟨E, HE⟩ : ∃ E, Hid (E = chkR r ds) := ⟨_, rfl⟩
  rw [← HV.out, ← HE.out]
  have HR := Lib.hid hr
  have HD := Lib.hid hd
  have C0 := fun wx hb => scheck_any r d ds wx hr (HD.out.below hb)
  rw [← HE.out] at C0
  clear hr hd
  unfold rcVal at C0 ⊢
  unfold rcA at C0 ⊢
  go_enter Tryz.func42, Tryz.ntmps42
  go_upto_region 1 with (fail)
  generalize hw1 : w.alloc (.cells _ 60) = w1
  have hK : Kn w.heap.size w [(w.heap.size, rcO r d)] w1 := by rw [← hw1]; exact (Kn.start w).new' rfl (rcO r d)
  clear hw1
  generalize hg : w.heap.size = g at *
  have hC := rc_cells hK.hd rfl
  obtain ⟨c0, c1, c2, c3, c4, c5, c6, c7, c8⟩ := hC
  go_wp2_with fail
  refine (C0 _ hK.b).mono ?_
  rintro e w2 ⟨rfl, d2⟩
  have KK := Lib.hid (hK.below d2)
  clear hK d2 C0 c0 c1 c2 c3 c4 c5 c6 c7 c8
  by_cases hP : recP r ds
  · have HP := Lib.hid hP
    have HE := Lib.hid (HE.out.trans (chkR_0 hP))
    have HV := Lib.hid (HV.out.trans (if_pos hP))
    have e0 : (E != 0) = false := by rw [HE.out]; rfl
    obtain ⟨P1, P2, P3, P4, P5⟩ := hP
    have hc := clock_range P1
    have hz := zig_range r.value HR.out.2.2.2.1.1 HR.out.2.2.2.1.2
    have hk : 1 ≤ r.kind ∧ r.kind ≤ 2 := by omega
    have D0 := fun wx => num_any r.kind wx (by omega) (by omega)
    have D1 := fun wx => num_any r.time wx (by omega) (by omega)
    have D3 := fun wx => stbytes_any r.st wx
    have D4 := fun wx hb => mtext_any d.a d.n d.c ds wx ((HD.out.below hb).r) HD.out.nc HD.out.cb
    have u0 : IntKind.u64.wrap r.kind = r.kind := by rw [wrap_u64]; omega
    have u1 : IntKind.u64.wrap r.time = r.time := by rw [wrap_u64]; omega
    have m1 : (vecB ds).size ≤ 1000 := vecB_le ds
    change ∀ wx, Below w.heap.size w wx → Calls _ _ _ _ (fun e w' => e = .returned (.string (vecB ds)) ∧ _) at D4
    rw [hg] at D4
    have m2 := stB_le r.st
    have m3 := vput_le r.kind
    have m4 := vput_le r.time
    have m5 := vput_le (zig r.value)
    have m6 := vput_le r.tier
    unfold St.val at D3
    obtain ⟨MM, HM⟩ : ∃ MM, Hid (midB r = MM) := ⟨_, rfl⟩
    have HMS : Hid (MM.size ≤ 900) := by
      show _ ≤ _
      rw [← HM.out, midB]
      split
      · have hn : nameV r.series = true := by
          rcases P5 with h | h
          · exact h.2.1
          · omega
        have m7 := vtext_le r.series (nameV_size hn)
        rw [ByteArray.size_append, ByteArray.size_append]
        omega
      · rw [ByteArray.size_append]
        omega
    obtain ⟨S0, HS0⟩ : ∃ S0, Hid (vput r.kind = S0) := ⟨_, rfl⟩
    rw [HS0.out] at m3
    simp only [HS0.out] at D0
    obtain ⟨S4, HS4⟩ : ∃ S4, Hid (vecB ds = S4) := ⟨_, rfl⟩
    rw [HS4.out] at m1
    simp only [HS4.out] at D4
    have HV : Hid (V = ((S0 ++ MM) ++ stB r.st) ++ S4) := HV.out.trans (by rw [recT, HS4.out, HM.out, HS0.out])
    clear HS4
    clear P1 P2 P3 P4
    obtain ⟨a0, a1, a2, a3, a4, a5, a6, a7, a8⟩ := rc_cells KK.out.hd rfl
    clear a8 a7 a6 a5
    go_upto_region 5 with (first | (go_at_call 102; refine (D0 _).mono ?_; rintro e wn ⟨rfl, dn⟩; have KK := Lib.hid (Kn.later KK.out dn rfl rfl rfl rfl)))
    clear a0 a1 a2 a3 a4
    obtain ⟨a0, a1, a2, a3, a4, a5, a6, a7, a8⟩ := rc_cells KK.out.hd rfl
    clear a8 a7 a6 a5
    go_upto_if 16 with fail
    go_cut [5, 16] (fun v _ wx => v = .string (S0 ++ MM) ∧ Kn g w [(g, rcO r d)] wx)
    case first =>
      by_cases hk1 : r.kind = 1
      · have t1 : (r.kind == 1) = true := beq_iff_eq.2 hk1
        have hn : nameV r.series = true := by
          rcases P5 with h | h
          · exact h.2.1
          · omega
        have m7 := vtext_le r.series (nameV_size hn)
        have D2 := fun wx => text_any r.series wx (by have := nameV_size hn; omega)
        have HM : Hid ((vtext r.series ++ vput r.time) ++ vput (zig r.value) = MM) := by
          show _ = _
          rw [← HM.out, midB, if_pos hk1]
        clear P5 hn a4 hk1
        go_upto_region 6 with fail
        generalize vtext r.series = S1 at *
        generalize vput r.time = S2 at *
        obtain ⟨S3, HS3⟩ : ∃ S3, Hid (vput (zig r.value) = S3) := ⟨_, rfl⟩
        rw [HS3.out] at m5 HM
        have n1 : ¬ (9223372036854775807 < S1.size + S2.size) := by omega
        have n2 : ¬ (9223372036854775807 < S1.size + S2.size + S3.size) := by omega
        have n2' : ¬ (9223372036854775807 < (S1 ++ S2).size + S3.size) := by rw [ByteArray.size_append]; omega
        have n3 : ¬ (9223372036854775807 < S0.size + (S1.size + S2.size + S3.size)) := by omega
        have n3' : ¬ (9223372036854775807 < S0.size + (S1 ++ S2 ++ S3).size) := by rw [ByteArray.size_append, ByteArray.size_append]; omega
        refine wp_region_held_drew (S := (fun wx => wx.cell? ⟨g, 1, none⟩ = some (.string r.series) ∧ wx.cell? ⟨g, 2, none⟩ = some (.int .i64 r.time) ∧ wx.cell? ⟨g, 3, none⟩ = some (.int .i64 r.value))) (by kernel_rfl) ?_ (fun hHeld => ?_)
        focus ((try dsimp only); (try (first | exact RcC.c123 (rc_kn (r := r) (d := d) KK.out (by simp) rfl) | exact RcC.c123 (rc_kn (r := r) (d := d) (KK.out.new (oneO r.value)) (by simp) rfl))); done)
        (refine wpAnyH_take (i := 0) (oi := ⟨some 17, Go.Op.move (.tmp 5), 9, _, _, none⟩) (v := ?_) rfl (by kernel_rfl) (by kernel_rfl) (by kernel_rfl) (fun _ _ _ h => h) (Or.inl ⟨by rfl, ?_⟩) (by assumption) ?_; rotate_left; (focus (intro w hSw; ((try dsimp only at hSw); go_simp; try with_reducible rfl))); (try simp only [Act.put, sA, sZ, sS]))
        (refine wpAnyH_take (i := 1) (oi := ⟨some 18, Go.Op.fieldAddr 60 (.tmp 1) 1, 0, _, _, none⟩) (v := ?_) rfl (by kernel_rfl) (by kernel_rfl) (by kernel_rfl) (fun _ _ _ h => h) (Or.inl ⟨by rfl, ?_⟩) (by assumption) ?_; rotate_left; (focus (intro w hSw; ((try dsimp only at hSw); go_simp; try with_reducible rfl))); (try simp only [Act.put, sA, sZ, sS]))
        (refine wpAnyH_take (i := 2) (oi := ⟨some 19, Go.Op.load 9 (.tmp 18), 9, _, _, none⟩) (v := ?_) rfl (by kernel_rfl) (by kernel_rfl) (by kernel_rfl) (fun _ _ _ h => h) (Or.inl ⟨by rfl, ?_⟩) (by assumption) ?_; rotate_left; (focus (intro w hSw; ((try dsimp only at hSw); go_simp; try with_reducible rfl))); (try simp only [Act.put, sA, sZ, sS]))
        (refine wpAnyH_take (i := 4) (oi := ⟨some 21, Go.Op.fieldAddr 60 (.tmp 1) 2, 0, _, _, none⟩) (v := ?_) rfl (by kernel_rfl) (by kernel_rfl) (by kernel_rfl) (fun _ _ _ h => h) (Or.inl ⟨by rfl, ?_⟩) (by assumption) ?_; rotate_left; (focus (intro w hSw; ((try dsimp only at hSw); go_simp; try with_reducible rfl))); (try simp only [Act.put, sA, sZ, sS]))
        (refine wpAnyH_take (i := 5) (oi := ⟨some 22, Go.Op.load 3 (.tmp 21), 3, _, _, none⟩) (v := ?_) rfl (by kernel_rfl) (by kernel_rfl) (by kernel_rfl) (fun _ _ _ h => h) (Or.inl ⟨by rfl, ?_⟩) (by assumption) ?_; rotate_left; (focus (intro w hSw; ((try dsimp only at hSw); go_simp; try with_reducible rfl))); (try simp only [Act.put, sA, sZ, sS]))
        (refine wpAnyH_take (i := 8) (oi := ⟨some 25, Go.Op.fieldAddr 60 (.tmp 1) 3, 0, _, _, none⟩) (v := ?_) rfl (by kernel_rfl) (by kernel_rfl) (by kernel_rfl) (fun _ _ _ h => h) (Or.inl ⟨by rfl, ?_⟩) (by assumption) ?_; rotate_left; (focus (intro w hSw; ((try dsimp only at hSw); go_simp; try with_reducible rfl))); (try simp only [Act.put, sA, sZ, sS]))
        (refine wpAnyH_take (i := 9) (oi := ⟨some 26, Go.Op.load 2 (.tmp 25), 2, _, _, none⟩) (v := ?_) rfl (by kernel_rfl) (by kernel_rfl) (by kernel_rfl) (fun _ _ _ h => h) (Or.inl ⟨by rfl, ?_⟩) (by assumption) ?_; rotate_left; (focus (intro w hSw; ((try dsimp only at hSw); go_simp; try with_reducible rfl))); (try simp only [Act.put, sA, sZ, sS]))
        refine wpAnyH_ready (rs := [3, 10]) (by kernel_rfl) (by simp) ?_
        refine AllReadyH.cons (o := ⟨some 20, Go.Op.call { callee := Go.Callee.value (.func 40), args := #[.tmp 19], argTypes := #[9] }, 9, _, _, none⟩) rfl (fun K hK3 => ?_) (AllReadyH.cons (o := ⟨some 27, Go.Op.buildSlice 155 1 #[(0, .tmp 26)], 155, _, _, none⟩) rfl (fun K hK10 => ?_) AllReadyH.nil)
        · (go_simp; ((first | (go_at_call 40; refine (D2 _).mono ?_; rintro e wn ⟨rfl, dn⟩; first | have KK := Lib.hid (Kn.later KK.out dn rfl rfl rfl rfl) | have KK := Lib.hid (Kn.later (KK.out.new (oneO r.value)) dn rfl rfl rfl rfl)) | (go_at_call 102; refine (D1 _).mono ?_; rintro e wn ⟨rfl, dn⟩; first | have KK := Lib.hid (Kn.later KK.out dn rfl rfl rfl rfl) | have KK := Lib.hid (Kn.later (KK.out.new (oneO r.value)) dn rfl rfl rfl rfl)) | (go_at_call 103; (first | refine (all_kn' HS3.out KK.out rfl HR.out.2.2.2.1).mono ?_ | refine (all_kn' HS3.out (KK.out.new (oneO r.value)) rfl HR.out.2.2.2.1).mono ?_); rintro e wn ⟨rfl, dn⟩; first | have KK := Lib.hid (Kn.later KK.out dn rfl rfl rfl rfl) | have KK := Lib.hid (Kn.later (KK.out.new (oneO r.value)) dn rfl rfl rfl rfl)))); go_wp2_with fail; refine hK3.out _ _ ?_ (fun hHeld => ?_); (focus ((try dsimp only); (try (first | exact RcC.c123 (rc_kn (r := r) (d := d) KK.out (by simp) rfl) | exact RcC.c123 (rc_kn (r := r) (d := d) (KK.out.new (oneO r.value)) (by simp) rfl))); done)); clear hK3; (try simp only [Act.put, sA, sZ, sS]))
          refine wpAnyH_ready (rs := [6, 10]) (by kernel_rfl) (by simp) ?_
          refine AllReadyH.cons (o := ⟨some 23, Go.Op.call { callee := Go.Callee.value (.func 102), args := #[.tmp 22], argTypes := #[3] }, 9, _, _, none⟩) rfl (fun K hK6 => ?_) (AllReadyH.cons (o := ⟨some 27, Go.Op.buildSlice 155 1 #[(0, .tmp 26)], 155, _, _, none⟩) rfl (fun K hK10 => ?_) AllReadyH.nil)
          · (go_simp; ((first | (go_at_call 40; refine (D2 _).mono ?_; rintro e wn ⟨rfl, dn⟩; first | have KK := Lib.hid (Kn.later KK.out dn rfl rfl rfl rfl) | have KK := Lib.hid (Kn.later (KK.out.new (oneO r.value)) dn rfl rfl rfl rfl)) | (go_at_call 102; refine (D1 _).mono ?_; rintro e wn ⟨rfl, dn⟩; first | have KK := Lib.hid (Kn.later KK.out dn rfl rfl rfl rfl) | have KK := Lib.hid (Kn.later (KK.out.new (oneO r.value)) dn rfl rfl rfl rfl)) | (go_at_call 103; (first | refine (all_kn' HS3.out KK.out rfl HR.out.2.2.2.1).mono ?_ | refine (all_kn' HS3.out (KK.out.new (oneO r.value)) rfl HR.out.2.2.2.1).mono ?_); rintro e wn ⟨rfl, dn⟩; first | have KK := Lib.hid (Kn.later KK.out dn rfl rfl rfl rfl) | have KK := Lib.hid (Kn.later (KK.out.new (oneO r.value)) dn rfl rfl rfl rfl)))); go_wp2_with fail; refine hK6.out _ _ ?_ (fun hHeld => ?_); (focus ((try dsimp only); (try (first | exact RcC.c123 (rc_kn (r := r) (d := d) KK.out (by simp) rfl) | exact RcC.c123 (rc_kn (r := r) (d := d) (KK.out.new (oneO r.value)) (by simp) rfl))); done)); clear hK6; (try simp only [Act.put, sA, sZ, sS]))
            (refine wpAnyH_take (i := 7) (oi := ⟨some 24, Go.Op.binOp Go.BinOp.add 9 (.tmp 20) (.tmp 23) 9, 9, _, _, none⟩) (v := ?_) rfl (by kernel_rfl) (by kernel_rfl) (by kernel_rfl) (fun _ _ _ h => h) (Or.inl ⟨by rfl, ?_⟩) (by assumption) ?_; rotate_left; (focus (intro w hSw; ((try dsimp only at hSw); go_simp; try with_reducible rfl))); (try simp only [Act.put, sA, sZ, sS]))
            (refine wpAnyH_ready (rs := [10]) (by kernel_rfl) (by simp) ?_; refine AllReadyH.cons (o := ⟨some 27, Go.Op.buildSlice 155 1 #[(0, .tmp 26)], 155, _, _, none⟩) rfl (fun K hK => ?_) AllReadyH.nil; go_simp; refine hK.out _ _ ?_ (fun hHeld => ?_); (focus ((try dsimp only); (try (first | exact RcC.c123 (rc_kn (r := r) (d := d) KK.out (by simp) rfl) | exact RcC.c123 (rc_kn (r := r) (d := d) (KK.out.new (oneO r.value)) (by simp) rfl))); done)); clear hK; (try simp only [Act.put, sA, sZ, sS]))
            (refine wpAnyH_ready (rs := [11]) (by kernel_rfl) (by simp) ?_; refine AllReadyH.cons (o := ⟨some 28, Go.Op.call { callee := Go.Callee.value (.func 103), args := #[.tmp 27], argTypes := #[155] }, 9, _, _, none⟩) rfl (fun K hK => ?_) AllReadyH.nil; go_simp; ((first | (go_at_call 40; refine (D2 _).mono ?_; rintro e wn ⟨rfl, dn⟩; first | have KK := Lib.hid (Kn.later KK.out dn rfl rfl rfl rfl) | have KK := Lib.hid (Kn.later (KK.out.new (oneO r.value)) dn rfl rfl rfl rfl)) | (go_at_call 102; refine (D1 _).mono ?_; rintro e wn ⟨rfl, dn⟩; first | have KK := Lib.hid (Kn.later KK.out dn rfl rfl rfl rfl) | have KK := Lib.hid (Kn.later (KK.out.new (oneO r.value)) dn rfl rfl rfl rfl)) | (go_at_call 103; (first | refine (all_kn' HS3.out KK.out rfl HR.out.2.2.2.1).mono ?_ | refine (all_kn' HS3.out (KK.out.new (oneO r.value)) rfl HR.out.2.2.2.1).mono ?_); rintro e wn ⟨rfl, dn⟩; first | have KK := Lib.hid (Kn.later KK.out dn rfl rfl rfl rfl) | have KK := Lib.hid (Kn.later (KK.out.new (oneO r.value)) dn rfl rfl rfl rfl)))); go_wp2_with fail; refine hK.out _ _ ?_ (fun hHeld => ?_); (focus ((try dsimp only); (try (first | exact RcC.c123 (rc_kn (r := r) (d := d) KK.out (by simp) rfl) | exact RcC.c123 (rc_kn (r := r) (d := d) (KK.out.new (oneO r.value)) (by simp) rfl))); done)); clear hK; (try simp only [Act.put, sA, sZ, sS]))
            (refine wpAnyH_take (i := 12) (oi := ⟨some 29, Go.Op.binOp Go.BinOp.add 9 (.tmp 24) (.tmp 28) 9, 9, _, _, none⟩) (v := ?_) rfl (by kernel_rfl) (by kernel_rfl) (by kernel_rfl) (fun _ _ _ h => h) (Or.inl ⟨by rfl, ?_⟩) (by assumption) ?_; rotate_left; (focus (intro w hSw; ((try dsimp only at hSw); go_simp; try with_reducible rfl))); (try simp only [Act.put, sA, sZ, sS]))
            (refine wpAnyH_take (i := 13) (oi := ⟨some 30, Go.Op.binOp Go.BinOp.add 9 (.tmp 17) (.tmp 29) 9, 9, _, _, none⟩) (v := ?_) rfl (by kernel_rfl) (by kernel_rfl) (by kernel_rfl) (fun _ _ _ h => h) (Or.inl ⟨by rfl, ?_⟩) (by assumption) ?_; rotate_left; (focus (intro w hSw; ((try dsimp only at hSw); go_simp; try with_reducible rfl))); (try simp only [Act.put, sA, sZ, sS]))
            (refine wpAnyH_take (i := 14) (oi := ⟨some 5, Go.Op.assign (.tmp 30), 9, _, _, none⟩) (v := ?_) rfl (by kernel_rfl) (by kernel_rfl) (by kernel_rfl) (fun _ _ _ h => h) (Or.inl ⟨by rfl, ?_⟩) (by assumption) ?_; rotate_left; (focus (intro w hSw; ((try dsimp only at hSw); go_simp; try with_reducible rfl))); (try simp only [Act.put, sA, sZ, sS]))
            refine wpAnyH_done (by kernel_rfl) ?_ _
            go_wp2_with fail
            go_meet
            exact ⟨by rw [← HM.out], Kn.same (KK.out.sub (by simp)) rfl rfl rfl rfl⟩
          · (go_simp; refine hK10.out _ _ ?_ (fun hHeld => ?_); (focus ((try dsimp only); (try (first | exact RcC.c123 (rc_kn (r := r) (d := d) KK.out (by simp) rfl) | exact RcC.c123 (rc_kn (r := r) (d := d) (KK.out.new (oneO r.value)) (by simp) rfl))); done)); clear hK10; (try simp only [Act.put, sA, sZ, sS]))
            (refine wpAnyH_ready (rs := [6]) (by kernel_rfl) (by simp) ?_; refine AllReadyH.cons (o := ⟨some 23, Go.Op.call { callee := Go.Callee.value (.func 102), args := #[.tmp 22], argTypes := #[3] }, 9, _, _, none⟩) rfl (fun K hK => ?_) AllReadyH.nil; go_simp; ((first | (go_at_call 40; refine (D2 _).mono ?_; rintro e wn ⟨rfl, dn⟩; first | have KK := Lib.hid (Kn.later KK.out dn rfl rfl rfl rfl) | have KK := Lib.hid (Kn.later (KK.out.new (oneO r.value)) dn rfl rfl rfl rfl)) | (go_at_call 102; refine (D1 _).mono ?_; rintro e wn ⟨rfl, dn⟩; first | have KK := Lib.hid (Kn.later KK.out dn rfl rfl rfl rfl) | have KK := Lib.hid (Kn.later (KK.out.new (oneO r.value)) dn rfl rfl rfl rfl)) | (go_at_call 103; (first | refine (all_kn' HS3.out KK.out rfl HR.out.2.2.2.1).mono ?_ | refine (all_kn' HS3.out (KK.out.new (oneO r.value)) rfl HR.out.2.2.2.1).mono ?_); rintro e wn ⟨rfl, dn⟩; first | have KK := Lib.hid (Kn.later KK.out dn rfl rfl rfl rfl) | have KK := Lib.hid (Kn.later (KK.out.new (oneO r.value)) dn rfl rfl rfl rfl)))); go_wp2_with fail; refine hK.out _ _ ?_ (fun hHeld => ?_); (focus ((try dsimp only); (try (first | exact RcC.c123 (rc_kn (r := r) (d := d) KK.out (by simp) rfl) | exact RcC.c123 (rc_kn (r := r) (d := d) (KK.out.new (oneO r.value)) (by simp) rfl))); done)); clear hK; (try simp only [Act.put, sA, sZ, sS]))
            (refine wpAnyH_take (i := 7) (oi := ⟨some 24, Go.Op.binOp Go.BinOp.add 9 (.tmp 20) (.tmp 23) 9, 9, _, _, none⟩) (v := ?_) rfl (by kernel_rfl) (by kernel_rfl) (by kernel_rfl) (fun _ _ _ h => h) (Or.inl ⟨by rfl, ?_⟩) (by assumption) ?_; rotate_left; (focus (intro w hSw; ((try dsimp only at hSw); go_simp; try with_reducible rfl))); (try simp only [Act.put, sA, sZ, sS]))
            (refine wpAnyH_ready (rs := [11]) (by kernel_rfl) (by simp) ?_; refine AllReadyH.cons (o := ⟨some 28, Go.Op.call { callee := Go.Callee.value (.func 103), args := #[.tmp 27], argTypes := #[155] }, 9, _, _, none⟩) rfl (fun K hK => ?_) AllReadyH.nil; go_simp; ((first | (go_at_call 40; refine (D2 _).mono ?_; rintro e wn ⟨rfl, dn⟩; first | have KK := Lib.hid (Kn.later KK.out dn rfl rfl rfl rfl) | have KK := Lib.hid (Kn.later (KK.out.new (oneO r.value)) dn rfl rfl rfl rfl)) | (go_at_call 102; refine (D1 _).mono ?_; rintro e wn ⟨rfl, dn⟩; first | have KK := Lib.hid (Kn.later KK.out dn rfl rfl rfl rfl) | have KK := Lib.hid (Kn.later (KK.out.new (oneO r.value)) dn rfl rfl rfl rfl)) | (go_at_call 103; (first | refine (all_kn' HS3.out KK.out rfl HR.out.2.2.2.1).mono ?_ | refine (all_kn' HS3.out (KK.out.new (oneO r.value)) rfl HR.out.2.2.2.1).mono ?_); rintro e wn ⟨rfl, dn⟩; first | have KK := Lib.hid (Kn.later KK.out dn rfl rfl rfl rfl) | have KK := Lib.hid (Kn.later (KK.out.new (oneO r.value)) dn rfl rfl rfl rfl)))); go_wp2_with fail; refine hK.out _ _ ?_ (fun hHeld => ?_); (focus ((try dsimp only); (try (first | exact RcC.c123 (rc_kn (r := r) (d := d) KK.out (by simp) rfl) | exact RcC.c123 (rc_kn (r := r) (d := d) (KK.out.new (oneO r.value)) (by simp) rfl))); done)); clear hK; (try simp only [Act.put, sA, sZ, sS]))
            (refine wpAnyH_take (i := 12) (oi := ⟨some 29, Go.Op.binOp Go.BinOp.add 9 (.tmp 24) (.tmp 28) 9, 9, _, _, none⟩) (v := ?_) rfl (by kernel_rfl) (by kernel_rfl) (by kernel_rfl) (fun _ _ _ h => h) (Or.inl ⟨by rfl, ?_⟩) (by assumption) ?_; rotate_left; (focus (intro w hSw; ((try dsimp only at hSw); go_simp; try with_reducible rfl))); (try simp only [Act.put, sA, sZ, sS]))
            (refine wpAnyH_take (i := 13) (oi := ⟨some 30, Go.Op.binOp Go.BinOp.add 9 (.tmp 17) (.tmp 29) 9, 9, _, _, none⟩) (v := ?_) rfl (by kernel_rfl) (by kernel_rfl) (by kernel_rfl) (fun _ _ _ h => h) (Or.inl ⟨by rfl, ?_⟩) (by assumption) ?_; rotate_left; (focus (intro w hSw; ((try dsimp only at hSw); go_simp; try with_reducible rfl))); (try simp only [Act.put, sA, sZ, sS]))
            (refine wpAnyH_take (i := 14) (oi := ⟨some 5, Go.Op.assign (.tmp 30), 9, _, _, none⟩) (v := ?_) rfl (by kernel_rfl) (by kernel_rfl) (by kernel_rfl) (fun _ _ _ h => h) (Or.inl ⟨by rfl, ?_⟩) (by assumption) ?_; rotate_left; (focus (intro w hSw; ((try dsimp only at hSw); go_simp; try with_reducible rfl))); (try simp only [Act.put, sA, sZ, sS]))
            refine wpAnyH_done (by kernel_rfl) ?_ _
            go_wp2_with fail
            go_meet
            exact ⟨by rw [← HM.out], Kn.same (KK.out.sub (by simp)) rfl rfl rfl rfl⟩
        · (go_simp; refine hK10.out _ _ ?_ (fun hHeld => ?_); (focus ((try dsimp only); (try (first | exact RcC.c123 (rc_kn (r := r) (d := d) KK.out (by simp) rfl) | exact RcC.c123 (rc_kn (r := r) (d := d) (KK.out.new (oneO r.value)) (by simp) rfl))); done)); clear hK10; (try simp only [Act.put, sA, sZ, sS]))
          (refine wpAnyH_ready (rs := [3]) (by kernel_rfl) (by simp) ?_; refine AllReadyH.cons (o := ⟨some 20, Go.Op.call { callee := Go.Callee.value (.func 40), args := #[.tmp 19], argTypes := #[9] }, 9, _, _, none⟩) rfl (fun K hK => ?_) AllReadyH.nil; go_simp; ((first | (go_at_call 40; refine (D2 _).mono ?_; rintro e wn ⟨rfl, dn⟩; first | have KK := Lib.hid (Kn.later KK.out dn rfl rfl rfl rfl) | have KK := Lib.hid (Kn.later (KK.out.new (oneO r.value)) dn rfl rfl rfl rfl)) | (go_at_call 102; refine (D1 _).mono ?_; rintro e wn ⟨rfl, dn⟩; first | have KK := Lib.hid (Kn.later KK.out dn rfl rfl rfl rfl) | have KK := Lib.hid (Kn.later (KK.out.new (oneO r.value)) dn rfl rfl rfl rfl)) | (go_at_call 103; (first | refine (all_kn' HS3.out KK.out rfl HR.out.2.2.2.1).mono ?_ | refine (all_kn' HS3.out (KK.out.new (oneO r.value)) rfl HR.out.2.2.2.1).mono ?_); rintro e wn ⟨rfl, dn⟩; first | have KK := Lib.hid (Kn.later KK.out dn rfl rfl rfl rfl) | have KK := Lib.hid (Kn.later (KK.out.new (oneO r.value)) dn rfl rfl rfl rfl)))); go_wp2_with fail; refine hK.out _ _ ?_ (fun hHeld => ?_); (focus ((try dsimp only); (try (first | exact RcC.c123 (rc_kn (r := r) (d := d) KK.out (by simp) rfl) | exact RcC.c123 (rc_kn (r := r) (d := d) (KK.out.new (oneO r.value)) (by simp) rfl))); done)); clear hK; (try simp only [Act.put, sA, sZ, sS]))
          (refine wpAnyH_ready (rs := [6]) (by kernel_rfl) (by simp) ?_; refine AllReadyH.cons (o := ⟨some 23, Go.Op.call { callee := Go.Callee.value (.func 102), args := #[.tmp 22], argTypes := #[3] }, 9, _, _, none⟩) rfl (fun K hK => ?_) AllReadyH.nil; go_simp; ((first | (go_at_call 40; refine (D2 _).mono ?_; rintro e wn ⟨rfl, dn⟩; first | have KK := Lib.hid (Kn.later KK.out dn rfl rfl rfl rfl) | have KK := Lib.hid (Kn.later (KK.out.new (oneO r.value)) dn rfl rfl rfl rfl)) | (go_at_call 102; refine (D1 _).mono ?_; rintro e wn ⟨rfl, dn⟩; first | have KK := Lib.hid (Kn.later KK.out dn rfl rfl rfl rfl) | have KK := Lib.hid (Kn.later (KK.out.new (oneO r.value)) dn rfl rfl rfl rfl)) | (go_at_call 103; (first | refine (all_kn' HS3.out KK.out rfl HR.out.2.2.2.1).mono ?_ | refine (all_kn' HS3.out (KK.out.new (oneO r.value)) rfl HR.out.2.2.2.1).mono ?_); rintro e wn ⟨rfl, dn⟩; first | have KK := Lib.hid (Kn.later KK.out dn rfl rfl rfl rfl) | have KK := Lib.hid (Kn.later (KK.out.new (oneO r.value)) dn rfl rfl rfl rfl)))); go_wp2_with fail; refine hK.out _ _ ?_ (fun hHeld => ?_); (focus ((try dsimp only); (try (first | exact RcC.c123 (rc_kn (r := r) (d := d) KK.out (by simp) rfl) | exact RcC.c123 (rc_kn (r := r) (d := d) (KK.out.new (oneO r.value)) (by simp) rfl))); done)); clear hK; (try simp only [Act.put, sA, sZ, sS]))
          (refine wpAnyH_take (i := 7) (oi := ⟨some 24, Go.Op.binOp Go.BinOp.add 9 (.tmp 20) (.tmp 23) 9, 9, _, _, none⟩) (v := ?_) rfl (by kernel_rfl) (by kernel_rfl) (by kernel_rfl) (fun _ _ _ h => h) (Or.inl ⟨by rfl, ?_⟩) (by assumption) ?_; rotate_left; (focus (intro w hSw; ((try dsimp only at hSw); go_simp; try with_reducible rfl))); (try simp only [Act.put, sA, sZ, sS]))
          (refine wpAnyH_ready (rs := [11]) (by kernel_rfl) (by simp) ?_; refine AllReadyH.cons (o := ⟨some 28, Go.Op.call { callee := Go.Callee.value (.func 103), args := #[.tmp 27], argTypes := #[155] }, 9, _, _, none⟩) rfl (fun K hK => ?_) AllReadyH.nil; go_simp; ((first | (go_at_call 40; refine (D2 _).mono ?_; rintro e wn ⟨rfl, dn⟩; first | have KK := Lib.hid (Kn.later KK.out dn rfl rfl rfl rfl) | have KK := Lib.hid (Kn.later (KK.out.new (oneO r.value)) dn rfl rfl rfl rfl)) | (go_at_call 102; refine (D1 _).mono ?_; rintro e wn ⟨rfl, dn⟩; first | have KK := Lib.hid (Kn.later KK.out dn rfl rfl rfl rfl) | have KK := Lib.hid (Kn.later (KK.out.new (oneO r.value)) dn rfl rfl rfl rfl)) | (go_at_call 103; (first | refine (all_kn' HS3.out KK.out rfl HR.out.2.2.2.1).mono ?_ | refine (all_kn' HS3.out (KK.out.new (oneO r.value)) rfl HR.out.2.2.2.1).mono ?_); rintro e wn ⟨rfl, dn⟩; first | have KK := Lib.hid (Kn.later KK.out dn rfl rfl rfl rfl) | have KK := Lib.hid (Kn.later (KK.out.new (oneO r.value)) dn rfl rfl rfl rfl)))); go_wp2_with fail; refine hK.out _ _ ?_ (fun hHeld => ?_); (focus ((try dsimp only); (try (first | exact RcC.c123 (rc_kn (r := r) (d := d) KK.out (by simp) rfl) | exact RcC.c123 (rc_kn (r := r) (d := d) (KK.out.new (oneO r.value)) (by simp) rfl))); done)); clear hK; (try simp only [Act.put, sA, sZ, sS]))
          (refine wpAnyH_take (i := 12) (oi := ⟨some 29, Go.Op.binOp Go.BinOp.add 9 (.tmp 24) (.tmp 28) 9, 9, _, _, none⟩) (v := ?_) rfl (by kernel_rfl) (by kernel_rfl) (by kernel_rfl) (fun _ _ _ h => h) (Or.inl ⟨by rfl, ?_⟩) (by assumption) ?_; rotate_left; (focus (intro w hSw; ((try dsimp only at hSw); go_simp; try with_reducible rfl))); (try simp only [Act.put, sA, sZ, sS]))
          (refine wpAnyH_take (i := 13) (oi := ⟨some 30, Go.Op.binOp Go.BinOp.add 9 (.tmp 17) (.tmp 29) 9, 9, _, _, none⟩) (v := ?_) rfl (by kernel_rfl) (by kernel_rfl) (by kernel_rfl) (fun _ _ _ h => h) (Or.inl ⟨by rfl, ?_⟩) (by assumption) ?_; rotate_left; (focus (intro w hSw; ((try dsimp only at hSw); go_simp; try with_reducible rfl))); (try simp only [Act.put, sA, sZ, sS]))
          (refine wpAnyH_take (i := 14) (oi := ⟨some 5, Go.Op.assign (.tmp 30), 9, _, _, none⟩) (v := ?_) rfl (by kernel_rfl) (by kernel_rfl) (by kernel_rfl) (fun _ _ _ h => h) (Or.inl ⟨by rfl, ?_⟩) (by assumption) ?_; rotate_left; (focus (intro w hSw; ((try dsimp only at hSw); go_simp; try with_reducible rfl))); (try simp only [Act.put, sA, sZ, sS]))
          refine wpAnyH_done (by kernel_rfl) ?_ _
          go_wp2_with fail
          go_meet
          exact ⟨by rw [← HM.out], Kn.same (KK.out.sub (by simp)) rfl rfl rfl rfl⟩
      · have t1 : (r.kind == 1) = false := beq_eq_false_iff_ne.2 hk1
        have ht : 0 ≤ r.tier ∧ r.tier ≤ 3 := by
          rcases P5 with h | h
          · omega
          · exact h.2.2.2
        have D5 := fun wx => num_any r.tier wx (by omega) (by omega)
        have u2 : IntKind.u64.wrap r.tier = r.tier := by rw [wrap_u64]; omega
        have HM : Hid (vput r.tier ++ vput r.time = MM) := by
          show _ = _
          rw [← HM.out, midB, if_neg hk1]
        clear P5 a1 a3
        go_upto_region 7 with fail
        generalize vput r.tier = S1 at *
        generalize vput r.time = S2 at *
        have n1 : ¬ (9223372036854775807 < S1.size + S2.size) := by omega
        have n3 : ¬ (9223372036854775807 < S0.size + (S1.size + S2.size)) := by omega
        have n3' : ¬ (9223372036854775807 < S0.size + (S1 ++ S2).size) := by rw [ByteArray.size_append]; omega
        have n4 : ¬ (9223372036854775807 < S0.size + S1.size) := by omega
        have n5 : ¬ (9223372036854775807 < S0.size + S1.size + S2.size) := by omega
        have n5' : ¬ (9223372036854775807 < (S0 ++ S1).size + S2.size) := by rw [ByteArray.size_append]; omega
        refine wp_region_held_drew (S := (fun wx => wx.cell? ⟨g, 2, none⟩ = some (.int .i64 r.time) ∧ wx.cell? ⟨g, 4, none⟩ = some (.int .i64 r.tier))) (by kernel_rfl) ?_ (fun hHeld => ?_)
        focus ((try dsimp only); (try (exact ⟨(rc_cells KK.out.hd rfl).c2, (rc_cells KK.out.hd rfl).c4⟩)); done)
        (refine wpAnyH_take (i := 0) (oi := ⟨some 31, Go.Op.move (.tmp 5), 9, _, _, none⟩) (v := ?_) rfl (by kernel_rfl) (by kernel_rfl) (by kernel_rfl) (fun _ _ _ h => h) (Or.inl ⟨by rfl, ?_⟩) (by assumption) ?_; rotate_left; (focus (intro w hSw; ((try dsimp only at hSw); go_simp; try with_reducible rfl))); (try simp only [Act.put, sA, sZ, sS]))
        (refine wpAnyH_take (i := 1) (oi := ⟨some 32, Go.Op.fieldAddr 60 (.tmp 1) 4, 0, _, _, none⟩) (v := ?_) rfl (by kernel_rfl) (by kernel_rfl) (by kernel_rfl) (fun _ _ _ h => h) (Or.inl ⟨by rfl, ?_⟩) (by assumption) ?_; rotate_left; (focus (intro w hSw; ((try dsimp only at hSw); go_simp; try with_reducible rfl))); (try simp only [Act.put, sA, sZ, sS]))
        (refine wpAnyH_take (i := 2) (oi := ⟨some 33, Go.Op.load 3 (.tmp 32), 3, _, _, none⟩) (v := ?_) rfl (by kernel_rfl) (by kernel_rfl) (by kernel_rfl) (fun _ _ _ h => h) (Or.inl ⟨by rfl, ?_⟩) (by assumption) ?_; rotate_left; (focus (intro w hSw; ((try dsimp only at hSw); go_simp; try with_reducible rfl))); (try simp only [Act.put, sA, sZ, sS]))
        (refine wpAnyH_take (i := 4) (oi := ⟨some 35, Go.Op.fieldAddr 60 (.tmp 1) 2, 0, _, _, none⟩) (v := ?_) rfl (by kernel_rfl) (by kernel_rfl) (by kernel_rfl) (fun _ _ _ h => h) (Or.inl ⟨by rfl, ?_⟩) (by assumption) ?_; rotate_left; (focus (intro w hSw; ((try dsimp only at hSw); go_simp; try with_reducible rfl))); (try simp only [Act.put, sA, sZ, sS]))
        (refine wpAnyH_take (i := 5) (oi := ⟨some 36, Go.Op.load 3 (.tmp 35), 3, _, _, none⟩) (v := ?_) rfl (by kernel_rfl) (by kernel_rfl) (by kernel_rfl) (fun _ _ _ h => h) (Or.inl ⟨by rfl, ?_⟩) (by assumption) ?_; rotate_left; (focus (intro w hSw; ((try dsimp only at hSw); go_simp; try with_reducible rfl))); (try simp only [Act.put, sA, sZ, sS]))
        (refine wpAnyH_ready (rs := [3]) (by kernel_rfl) (by simp) ?_; refine AllReadyH.cons (o := ⟨some 34, Go.Op.call { callee := Go.Callee.value (.func 102), args := #[.tmp 33], argTypes := #[3] }, 9, _, _, none⟩) rfl (fun K hK => ?_) AllReadyH.nil; go_simp; ((first | (go_at_call_of 102 (#[.int .i64 r.tier] : Array Value); refine (D5 _).mono ?_; rintro e wn ⟨rfl, dn⟩; have KK := Lib.hid (Kn.later KK.out dn rfl rfl rfl rfl)) | (go_at_call_of 102 (#[.int .i64 r.time] : Array Value); refine (D1 _).mono ?_; rintro e wn ⟨rfl, dn⟩; have KK := Lib.hid (Kn.later KK.out dn rfl rfl rfl rfl)))); go_wp2_with fail; refine hK.out _ _ ?_ (fun hHeld => ?_); (focus ((try dsimp only); (try (exact ⟨(rc_cells KK.out.hd rfl).c2, (rc_cells KK.out.hd rfl).c4⟩)); done)); clear hK; (try simp only [Act.put, sA, sZ, sS]))
        (refine wpAnyH_ready (rs := [6]) (by kernel_rfl) (by simp) ?_; refine AllReadyH.cons (o := ⟨some 37, Go.Op.call { callee := Go.Callee.value (.func 102), args := #[.tmp 36], argTypes := #[3] }, 9, _, _, none⟩) rfl (fun K hK => ?_) AllReadyH.nil; go_simp; ((first | (go_at_call_of 102 (#[.int .i64 r.tier] : Array Value); refine (D5 _).mono ?_; rintro e wn ⟨rfl, dn⟩; have KK := Lib.hid (Kn.later KK.out dn rfl rfl rfl rfl)) | (go_at_call_of 102 (#[.int .i64 r.time] : Array Value); refine (D1 _).mono ?_; rintro e wn ⟨rfl, dn⟩; have KK := Lib.hid (Kn.later KK.out dn rfl rfl rfl rfl)))); go_wp2_with fail; refine hK.out _ _ ?_ (fun hHeld => ?_); (focus ((try dsimp only); (try (exact ⟨(rc_cells KK.out.hd rfl).c2, (rc_cells KK.out.hd rfl).c4⟩)); done)); clear hK; (try simp only [Act.put, sA, sZ, sS]))
        (refine wpAnyH_take (i := 7) (oi := ⟨some 38, Go.Op.binOp Go.BinOp.add 9 (.tmp 34) (.tmp 37) 9, 9, _, _, none⟩) (v := ?_) rfl (by kernel_rfl) (by kernel_rfl) (by kernel_rfl) (fun _ _ _ h => h) (Or.inl ⟨by rfl, ?_⟩) (by assumption) ?_; rotate_left; (focus (intro w hSw; ((try dsimp only at hSw); go_simp; try with_reducible rfl))); (try simp only [Act.put, sA, sZ, sS]))
        (refine wpAnyH_take (i := 8) (oi := ⟨some 39, Go.Op.binOp Go.BinOp.add 9 (.tmp 31) (.tmp 38) 9, 9, _, _, none⟩) (v := ?_) rfl (by kernel_rfl) (by kernel_rfl) (by kernel_rfl) (fun _ _ _ h => h) (Or.inl ⟨by rfl, ?_⟩) (by assumption) ?_; rotate_left; (focus (intro w hSw; ((try dsimp only at hSw); go_simp; try with_reducible rfl))); (try simp only [Act.put, sA, sZ, sS]))
        (refine wpAnyH_take (i := 9) (oi := ⟨some 5, Go.Op.assign (.tmp 39), 9, _, _, none⟩) (v := ?_) rfl (by kernel_rfl) (by kernel_rfl) (by kernel_rfl) (fun _ _ _ h => h) (Or.inl ⟨by rfl, ?_⟩) (by assumption) ?_; rotate_left; (focus (intro w hSw; ((try dsimp only at hSw); go_simp; try with_reducible rfl))); (try simp only [Act.put, sA, sZ, sS]))
        refine wpAnyH_done (by kernel_rfl) ?_ _
        go_wp2_with fail
        go_meet
        exact ⟨by first | (rw [← HM.out]; done) | (rw [← HM.out]; simp only [ByteArray.append_assoc]), Kn.same KK.out rfl rfl rfl rfl⟩
    case rest =>
      obtain ⟨rfl, hk2⟩ := hcut
      have KK := Lib.hid hk2
      clear hk2
      have hm : (S0 ++ MM).size ≤ 1000 := by
        rw [ByteArray.size_append]
        have := HMS.out
        omega
      clear P5 HM HS0 HMS
      go_upto_region 8 with fail
      generalize S0 ++ MM = S5 at *
      generalize stB r.st = S6 at *
      have n1 : ¬ (9223372036854775807 < S5.size + S6.size) := by omega
      have n2 : ¬ (9223372036854775807 < S5.size + S6.size + S4.size) := by omega
      have n2' : ¬ (9223372036854775807 < (S5 ++ S6).size + S4.size) := by rw [ByteArray.size_append]; omega
      refine wp_region_held_drew (S := (fun wx => wx.cell? ⟨g, 5, none⟩ = some (.int .i64 r.st.clock) ∧ wx.cell? ⟨g, 6, none⟩ = some (.int .i64 r.st.site) ∧ wx.cell? ⟨g, 7, none⟩ = some (.int .i64 r.st.seq) ∧ wx.cell? ⟨g, 8, none⟩ = some (.slice d.a d.n d.c))) (by kernel_rfl) ?_ (fun hHeld => ?_)
      focus ((try dsimp only); (try (exact ⟨(rc_cells KK.out.hd rfl).c5, (rc_cells KK.out.hd rfl).c6, (rc_cells KK.out.hd rfl).c7, (rc_cells KK.out.hd rfl).c8⟩)); done)
      (refine wpAnyH_take (i := 0) (oi := ⟨some 40, Go.Op.move (.tmp 5), 9, _, _, none⟩) (v := ?_) rfl (by kernel_rfl) (by kernel_rfl) (by kernel_rfl) (fun _ _ _ h => h) (Or.inl ⟨by rfl, ?_⟩) (by assumption) ?_; rotate_left; (focus (intro w hSw; ((try dsimp only at hSw); go_simp; try with_reducible rfl))); (try simp only [Act.put, sA, sZ, sS]))
      (refine wpAnyH_take (i := 1) (oi := ⟨some 41, Go.Op.fieldAddr 60 (.tmp 1) 5, 0, _, _, none⟩) (v := ?_) rfl (by kernel_rfl) (by kernel_rfl) (by kernel_rfl) (fun _ _ _ h => h) (Or.inl ⟨by rfl, ?_⟩) (by assumption) ?_; rotate_left; (focus (intro w hSw; ((try dsimp only at hSw); go_simp; try with_reducible rfl))); (try simp only [Act.put, sA, sZ, sS]))
      (refine wpAnyH_take (i := 2) (oi := ⟨some 42, Go.Op.load 58 (.tmp 41), 58, _, _, none⟩) (v := ?_) rfl (by kernel_rfl) (by kernel_rfl) (by kernel_rfl) (fun _ _ _ h => h) (Or.inl ⟨by rfl, ?_⟩) (by assumption) ?_; rotate_left; (focus (intro w hSw; ((try dsimp only at hSw); go_simp; try with_reducible rfl))); (try simp only [Act.put, sA, sZ, sS]))
      (refine wpAnyH_take (i := 5) (oi := ⟨some 45, Go.Op.fieldAddr 60 (.tmp 1) 6, 0, _, _, none⟩) (v := ?_) rfl (by kernel_rfl) (by kernel_rfl) (by kernel_rfl) (fun _ _ _ h => h) (Or.inl ⟨by rfl, ?_⟩) (by assumption) ?_; rotate_left; (focus (intro w hSw; ((try dsimp only at hSw); go_simp; try with_reducible rfl))); (try simp only [Act.put, sA, sZ, sS]))
      (refine wpAnyH_take (i := 6) (oi := ⟨some 46, Go.Op.load 23 (.tmp 45), 23, _, _, none⟩) (v := ?_) rfl (by kernel_rfl) (by kernel_rfl) (by kernel_rfl) (fun _ _ _ h => h) (Or.inl ⟨by rfl, ?_⟩) (by assumption) ?_; rotate_left; (focus (intro w hSw; ((try dsimp only at hSw); go_simp; try with_reducible rfl))); (try simp only [Act.put, sA, sZ, sS]))
      (refine wpAnyH_ready (rs := [3]) (by kernel_rfl) (by simp) ?_; refine AllReadyH.cons (o := ⟨some 43, Go.Op.call { callee := Go.Callee.value (.func 104), args := #[.tmp 42], argTypes := #[58] }, 9, _, _, none⟩) rfl (fun K hK => ?_) AllReadyH.nil; go_simp; ((first | (go_at_call 104; refine (D3 _).mono ?_; rintro e wn ⟨rfl, dn⟩; have KK := Lib.hid (Kn.later KK.out dn rfl rfl rfl rfl)) | (go_at_call 41; refine (D4 _ (Kn.same KK.out rfl rfl rfl rfl).b).mono ?_; rintro e wn ⟨rfl, dn⟩; have KK := Lib.hid (Kn.later KK.out dn rfl rfl rfl rfl)))); go_wp2_with fail; refine hK.out _ _ ?_ (fun hHeld => ?_); (focus ((try dsimp only); (try (exact ⟨(rc_cells KK.out.hd rfl).c5, (rc_cells KK.out.hd rfl).c6, (rc_cells KK.out.hd rfl).c7, (rc_cells KK.out.hd rfl).c8⟩)); done)); clear hK; (try simp only [Act.put, sA, sZ, sS]))
      (refine wpAnyH_take (i := 4) (oi := ⟨some 44, Go.Op.binOp Go.BinOp.add 9 (.tmp 40) (.tmp 43) 9, 9, _, _, none⟩) (v := ?_) rfl (by kernel_rfl) (by kernel_rfl) (by kernel_rfl) (fun _ _ _ h => h) (Or.inl ⟨by rfl, ?_⟩) (by assumption) ?_; rotate_left; (focus (intro w hSw; ((try dsimp only at hSw); go_simp; try with_reducible rfl))); (try simp only [Act.put, sA, sZ, sS]))
      (refine wpAnyH_ready (rs := [7]) (by kernel_rfl) (by simp) ?_; refine AllReadyH.cons (o := ⟨some 47, Go.Op.call { callee := Go.Callee.value (.func 41), args := #[.tmp 46], argTypes := #[23] }, 9, _, _, none⟩) rfl (fun K hK => ?_) AllReadyH.nil; go_simp; ((first | (go_at_call 104; refine (D3 _).mono ?_; rintro e wn ⟨rfl, dn⟩; have KK := Lib.hid (Kn.later KK.out dn rfl rfl rfl rfl)) | (go_at_call 41; refine (D4 _ (Kn.same KK.out rfl rfl rfl rfl).b).mono ?_; rintro e wn ⟨rfl, dn⟩; have KK := Lib.hid (Kn.later KK.out dn rfl rfl rfl rfl)))); go_wp2_with fail; refine hK.out _ _ ?_ (fun hHeld => ?_); (focus ((try dsimp only); (try (exact ⟨(rc_cells KK.out.hd rfl).c5, (rc_cells KK.out.hd rfl).c6, (rc_cells KK.out.hd rfl).c7, (rc_cells KK.out.hd rfl).c8⟩)); done)); clear hK; (try simp only [Act.put, sA, sZ, sS]))
      (refine wpAnyH_take (i := 8) (oi := ⟨some 48, Go.Op.binOp Go.BinOp.add 9 (.tmp 44) (.tmp 47) 9, 9, _, _, none⟩) (v := ?_) rfl (by kernel_rfl) (by kernel_rfl) (by kernel_rfl) (fun _ _ _ h => h) (Or.inl ⟨by rfl, ?_⟩) (by assumption) ?_; rotate_left; (focus (intro w hSw; ((try dsimp only at hSw); go_simp; try with_reducible rfl))); (try simp only [Act.put, sA, sZ, sS]))
      (refine wpAnyH_take (i := 9) (oi := ⟨some 2, Go.Op.assign (.tmp 48), 9, _, _, none⟩) (v := ?_) rfl (by kernel_rfl) (by kernel_rfl) (by kernel_rfl) (fun _ _ _ h => h) (Or.inl ⟨by rfl, ?_⟩) (by assumption) ?_; rotate_left; (focus (intro w hSw; ((try dsimp only at hSw); go_simp; try with_reducible rfl))); (try simp only [Act.put, sA, sZ, sS]))
      (refine wpAnyH_take (i := 10) (oi := ⟨some 3, Go.Op.assign (.const (Go.Value.int Go.IntKind.i64 0)), 39, _, _, none⟩) (v := ?_) rfl (by kernel_rfl) (by kernel_rfl) (by kernel_rfl) (fun _ _ _ h => h) (Or.inl ⟨by rfl, ?_⟩) (by assumption) ?_; rotate_left; (focus (intro w hSw; ((try dsimp only at hSw); go_simp; try with_reducible rfl))); (try simp only [Act.put, sA, sZ, sS]))
      refine wpAnyH_done (by kernel_rfl) ?_ _
      go_wp2_with fail
      refine bodyPost_ret (v := .tuple #[.string ((S5 ++ S6) ++ S4), .int .i64 0]) (by simp [results, Tryz.results42, go_sem, *]) rfl ⟨by rw [HV.out, HE.out], by first | exact KK.out.b | (rw [hg]; exact KK.out.b) | exact (Kn.same KK.out rfl rfl rfl rfl).b | (rw [hg]; exact (Kn.same KK.out rfl rfl rfl rfl).b)⟩
  · have HE := Lib.hid (HE.out.trans (chkR_1 hP))
    have HV := Lib.hid (HV.out.trans (if_neg hP))
    have e0 : (E != 0) = true := by rw [HE.out]; rfl
    clear hP
    go_wp2_with fail
    refine bodyPost_ret (v := .tuple #[.string ⟨#[]⟩, .int .i64 E]) (by simp [results, Tryz.results42, go_sem, *]) rfl ⟨by rw [HV.out], by first | exact KK.out.b | (rw [hg]; exact KK.out.b)⟩
end
end Go.Proofs.YtglabahbklpocaaGreat
