/- agg.One; the reference's. -/
import Derived.Test.YtojnooagifhekaaGAggParts8
import Derived.Test.YtojnooagifhekaaGAggParts11
import Derived.Test.YtojnooagifhekaaGAggParts18
namespace Go.Proofs.Ytojnooagifhekaa
section
open Go.RowKit
set_option maxRecDepth 100000
set_option linter.unusedVariables false
set_option linter.unusedSimpArgs false
attribute [local go_sem ↓] Go.wp_at_zero Go.wp_at_succ
def agO (a : Ag) : Obj := .cells a.cs.toArray 29 (0, 0)
theorem ag_size {a : Ag} (h : a.bk.length = 9) : (Try.prog.info? 29).map (·.size) = some a.cs.toArray.size := by
  have : a.cs.toArray.size = 18 := by simp [Ag.cs, h]
  exact (show (Try.prog.info? 29).map (·.size) = some 18 by kernel_rfl).trans (by rw [this])
theorem ag_one (a : Ag) : a.cs.toArray.all (·.oneCell') = true := by
  simp [Ag.cs, Value.oneCell']
theorem Kn.setBk {B : Nat} {w0 w : World} {l : List (Nat × Obj)} {g : Nat} {a : Ag} (h : Kn B w0 ((g, agO a) :: l) w) (hl : Apart g l) (hg : B ≤ g) (j : Nat) (v : Int) : Kn B w0 ((g, agO { a with bk := a.bk.set j v }) :: l) (w.setCell ⟨g, 9 + j, none⟩ (.int .i64 v)) :=
  Kn.but h (But.set g (9 + j) w _) hl.all hg (AgAt.setBk (show AgAt w g a from h.hd) j v)
theorem Kn.setLA {B : Nat} {w0 w : World} {l : List (Nat × Obj)} {g : Nat} {a : Ag} (h : Kn B w0 ((g, agO a) :: l) w) (hl : Apart g l) (hg : B ≤ g) (v : Int) (s : St) : Kn B w0 ((g, agO { a with last := v, at_ := s }) :: l) ((((w.setCell ⟨g, 5, none⟩ (.int .i64 v)).setCell ⟨g, 6, none⟩ (.int .i64 s.clock)).setCell ⟨g, 7, none⟩ (.int .i64 s.site)).setCell ⟨g, 8, none⟩ (.int .i64 s.seq)) := by
  refine Kn.but h ((((But.set g 5 w _).trans (But.set g 6 _ _)).trans (But.set g 7 _ _)).trans (But.set g 8 _ _)) hl.all hg ?_
  have := h.hd
  unfold agO at *
  simp [World.setCell, Array.getElem?_modify, this, Ag.cs]
theorem ag_sz {a b : Ag} (h : a.bk.length = 9) (k : b.bk.length = 9) : a.cs.toArray.size = b.cs.toArray.size := by simp [Ag.cs, h, k]
set_option maxHeartbeats 4000000 in
set_option maxRecDepth 100000 in
theorem one_any (p : Pt) (w : World) (hp : p.wf) : Calls Try.prog 14 #[p.val] w fun e w' => e = .returned (oneV p.value p.st).val ∧ Below w.heap.size w w' := by
  obtain ⟨s, t, v, c, si, q⟩ := p
  obtain ⟨_, _, hv, _⟩ := hp
  unfold Pt.val
  simp only at hv ⊢
  have HO := fun wx => of_any v wx hv.1 hv.2
  have HB := fun wx => bucket_any v wx hv.2
  have hbk := bucketV_range v
  obtain ⟨V, HV⟩ : ∃ V, Hid (V = oneV v ⟨c, si, q⟩) := ⟨_, rfl⟩
  rw [← HV.out]
  generalize hW : wd v = W at *
  obtain ⟨hi, lo⟩ := W
  unfold Wd.val at HO
  simp only at HO
  have KK := Lib.hid (((Kn.start w).new' rfl (ptO ⟨s, t, v, c, si, q⟩)).new' (n := w.heap.size + 1) (by simp) (agO Ag0))
  go_enter Try.func14, Try.ntmps14
  go_upto_region 1 with (fail)
  go_cut [3] (fun x wx => ∃ g, x = .pointer (some ⟨g, 0, none⟩) ∧ w.heap.size + 1 < g ∧ Kn w.heap.size w [(g, agO ⟨1, ⟨hi, lo⟩, v, v, v, ⟨c, si, q⟩, List.replicate 9 0⟩), (w.heap.size + 1, agO Ag0), (w.heap.size, ptO ⟨s, t, v, c, si, q⟩)] wx)
  case first =>
    refine wp_region_held_drew (S := (fun wx => wx.cell? ⟨w.heap.size, 2, none⟩ = some (.int .i64 v) ∧ wx.cell? ⟨w.heap.size, 3, none⟩ = some (.int .i64 c) ∧ wx.cell? ⟨w.heap.size, 4, none⟩ = some (.int .i64 si) ∧ wx.cell? ⟨w.heap.size, 5, none⟩ = some (.int .i64 q))) (by kernel_rfl) ?_ (fun hHeld => ?_)
    focus ((try dsimp only); (try (first | go_keep | ((repeat' apply And.intro) <;> (first | exact cell_later (by assumption) (by go_simp) | exact cell_row_far (by go_simp) (by omega))))); done)
    (refine wpAnyH_take (i := 0) (oi := { dst := some 4, op := Go.Op.fieldAddr 31 (Go.Operand.tmp 1) 2, type := 0, pos := "agg.go:34", after := #[], guard := none }) (v := ?_) rfl (by kernel_rfl) (by kernel_rfl) (by kernel_rfl) (fun _ _ _ h => h) (Or.inl ⟨by rfl, ?_⟩) (by assumption) ?_; rotate_left; (focus (intro w hSw; ((try dsimp only at hSw); go_simp; try with_reducible rfl))); (try simp only [Act.put, List.setIfInBounds_toArray, List.set_cons_zero, List.set_cons_succ]))
    (refine wpAnyH_take (i := 1) (oi := { dst := some 5, op := Go.Op.load 2 (Go.Operand.tmp 4), type := 2, pos := "agg.go:34", after := #[{ on := 0, ground := Go.Ground.data }], guard := none }) (v := ?_) rfl (by kernel_rfl) (by kernel_rfl) (by kernel_rfl) (fun _ _ _ h => h) (Or.inl ⟨by rfl, ?_⟩) (by assumption) ?_; rotate_left; (focus (intro w hSw; ((try dsimp only at hSw); go_simp; try with_reducible rfl))); (try simp only [Act.put, List.setIfInBounds_toArray, List.set_cons_zero, List.set_cons_succ]))
    (refine wpAnyH_take (i := 3) (oi := { dst := some 7, op := Go.Op.fieldAddr 31 (Go.Operand.tmp 1) 2, type := 0, pos := "agg.go:34", after := #[], guard := none }) (v := ?_) rfl (by kernel_rfl) (by kernel_rfl) (by kernel_rfl) (fun _ _ _ h => h) (Or.inl ⟨by rfl, ?_⟩) (by assumption) ?_; rotate_left; (focus (intro w hSw; ((try dsimp only at hSw); go_simp; try with_reducible rfl))); (try simp only [Act.put, List.setIfInBounds_toArray, List.set_cons_zero, List.set_cons_succ]))
    (refine wpAnyH_take (i := 4) (oi := { dst := some 8, op := Go.Op.load 2 (Go.Operand.tmp 7), type := 2, pos := "agg.go:34", after := #[{ on := 3, ground := Go.Ground.data }], guard := none }) (v := ?_) rfl (by kernel_rfl) (by kernel_rfl) (by kernel_rfl) (fun _ _ _ h => h) (Or.inl ⟨by rfl, ?_⟩) (by assumption) ?_; rotate_left; (focus (intro w hSw; ((try dsimp only at hSw); go_simp; try with_reducible rfl))); (try simp only [Act.put, List.setIfInBounds_toArray, List.set_cons_zero, List.set_cons_succ]))
    (refine wpAnyH_take (i := 5) (oi := { dst := some 9, op := Go.Op.fieldAddr 31 (Go.Operand.tmp 1) 2, type := 0, pos := "agg.go:34", after := #[], guard := none }) (v := ?_) rfl (by kernel_rfl) (by kernel_rfl) (by kernel_rfl) (fun _ _ _ h => h) (Or.inl ⟨by rfl, ?_⟩) (by assumption) ?_; rotate_left; (focus (intro w hSw; ((try dsimp only at hSw); go_simp; try with_reducible rfl))); (try simp only [Act.put, List.setIfInBounds_toArray, List.set_cons_zero, List.set_cons_succ]))
    (refine wpAnyH_take (i := 6) (oi := { dst := some 10, op := Go.Op.load 2 (Go.Operand.tmp 9), type := 2, pos := "agg.go:34", after := #[{ on := 5, ground := Go.Ground.data }], guard := none }) (v := ?_) rfl (by kernel_rfl) (by kernel_rfl) (by kernel_rfl) (fun _ _ _ h => h) (Or.inl ⟨by rfl, ?_⟩) (by assumption) ?_; rotate_left; (focus (intro w hSw; ((try dsimp only at hSw); go_simp; try with_reducible rfl))); (try simp only [Act.put, List.setIfInBounds_toArray, List.set_cons_zero, List.set_cons_succ]))
    (refine wpAnyH_take (i := 7) (oi := { dst := some 11, op := Go.Op.fieldAddr 31 (Go.Operand.tmp 1) 2, type := 0, pos := "agg.go:34", after := #[], guard := none }) (v := ?_) rfl (by kernel_rfl) (by kernel_rfl) (by kernel_rfl) (fun _ _ _ h => h) (Or.inl ⟨by rfl, ?_⟩) (by assumption) ?_; rotate_left; (focus (intro w hSw; ((try dsimp only at hSw); go_simp; try with_reducible rfl))); (try simp only [Act.put, List.setIfInBounds_toArray, List.set_cons_zero, List.set_cons_succ]))
    (refine wpAnyH_take (i := 8) (oi := { dst := some 12, op := Go.Op.load 2 (Go.Operand.tmp 11), type := 2, pos := "agg.go:34", after := #[{ on := 7, ground := Go.Ground.data }], guard := none }) (v := ?_) rfl (by kernel_rfl) (by kernel_rfl) (by kernel_rfl) (fun _ _ _ h => h) (Or.inl ⟨by rfl, ?_⟩) (by assumption) ?_; rotate_left; (focus (intro w hSw; ((try dsimp only at hSw); go_simp; try with_reducible rfl))); (try simp only [Act.put, List.setIfInBounds_toArray, List.set_cons_zero, List.set_cons_succ]))
    (refine wpAnyH_take (i := 9) (oi := { dst := some 13, op := Go.Op.fieldAddr 31 (Go.Operand.tmp 1) 3, type := 0, pos := "agg.go:34", after := #[], guard := none }) (v := ?_) rfl (by kernel_rfl) (by kernel_rfl) (by kernel_rfl) (fun _ _ _ h => h) (Or.inl ⟨by rfl, ?_⟩) (by assumption) ?_; rotate_left; (focus (intro w hSw; ((try dsimp only at hSw); go_simp; try with_reducible rfl))); (try simp only [Act.put, List.setIfInBounds_toArray, List.set_cons_zero, List.set_cons_succ]))
    (refine wpAnyH_take (i := 10) (oi := { dst := some 14, op := Go.Op.load 26 (Go.Operand.tmp 13), type := 26, pos := "agg.go:34", after := #[{ on := 9, ground := Go.Ground.data }], guard := none }) (v := ?_) rfl (by kernel_rfl) (by kernel_rfl) (by kernel_rfl) (fun _ _ _ h => h) (Or.inl ⟨by rfl, ?_⟩) (by assumption) ?_; rotate_left; (focus (intro w hSw; ((try dsimp only at hSw); go_simp; try with_reducible rfl))); (try simp only [Act.put, List.setIfInBounds_toArray, List.set_cons_zero, List.set_cons_succ]))
    refine wpAnyH_ready (rs := [2, 12]) (by kernel_rfl) (by simp) ?_
    refine AllReadyH.cons (o := { dst := some 6, op := Go.Op.call { callee := Go.Callee.value (Go.Operand.func 32), args := #[Go.Operand.tmp 5], argTypes := #[2] }, type := 24, pos := "agg.go:34", after := #[{ on := 1, ground := Go.Ground.data }], guard := none }) rfl (fun K hK2 => ?_) (AllReadyH.cons (o := { dst := some 3, op := Go.Op.alloc 29, type := 0, pos := "agg.go:34", after := #[], guard := none }) rfl (fun K hK12 => ?_) AllReadyH.nil)
    · (go_simp; ((first | (go_at_call 32; refine (HO _).mono ?_; rintro e wn ⟨rfl, dn⟩; first | have KK := Lib.hid (Kn.later KK.out dn rfl rfl rfl rfl) | have KK := Lib.hid (Kn.later (KK.out.new' (n := w.heap.size + 1 + 1) (by simp) (agO Ag0)) dn rfl rfl rfl rfl)))); go_wp2_with fail; refine hK2.out _ _ ?_ (fun hHeld => ?_); (focus ((try dsimp only); (try (first | go_keep | ((repeat' apply And.intro) <;> (first | exact cell_later (by assumption) (by go_simp) | exact cell_row_far (by go_simp) (by omega))))); done)); clear hK2; (try simp only [Act.put, List.setIfInBounds_toArray, List.set_cons_zero, List.set_cons_succ]))
      (refine wpAnyH_take (i := 11) (oi := { dst := some 15, op := Go.Op.build 29 #[(0, Go.Operand.const (Go.Value.int Go.IntKind.i64 1)), (1, Go.Operand.tmp 6), (2, Go.Operand.tmp 8), (3, Go.Operand.tmp 10), (4, Go.Operand.tmp 12), (5, Go.Operand.tmp 14)], type := 29, pos := "agg.go:34", after := #[{ on := 2, ground := Go.Ground.data }, { on := 4, ground := Go.Ground.data }, { on := 6, ground := Go.Ground.data }, { on := 8, ground := Go.Ground.data }, { on := 10, ground := Go.Ground.data }], guard := none }) (v := ?_) rfl (by kernel_rfl) (by kernel_rfl) (by kernel_rfl) (fun _ _ _ h => h) (Or.inl ⟨by rfl, ?_⟩) (by assumption) ?_; rotate_left; (focus (intro w hSw; ((try dsimp only at hSw); go_simp; try with_reducible rfl))); (try simp only [Act.put, List.setIfInBounds_toArray, List.set_cons_zero, List.set_cons_succ]))
      (refine wpAnyH_ready (rs := [12]) (by kernel_rfl) (by simp) ?_; refine AllReadyH.cons (o := { dst := some 3, op := Go.Op.alloc 29, type := 0, pos := "agg.go:34", after := #[], guard := none }) rfl (fun K hK => ?_) AllReadyH.nil; go_simp; refine hK.out _ _ ?_ (fun hHeld => ?_); (focus ((try dsimp only); (try (first | go_keep | ((repeat' apply And.intro) <;> (first | exact cell_later (by assumption) (by go_simp) | exact cell_row_far (by go_simp) (by omega))))); done)); clear hK; (try simp only [Act.put, List.setIfInBounds_toArray, List.set_cons_zero, List.set_cons_succ]))
      (refine wpAnyH_ready (rs := [13]) (by kernel_rfl) (by simp) ?_; refine AllReadyH.cons (o := { dst := none, op := Go.Op.store 29 (Go.Operand.tmp 3) (Go.Operand.tmp 15), type := 0, pos := "agg.go:34", after := #[{ on := 12, ground := Go.Ground.data }, { on := 11, ground := Go.Ground.data }, { on := 2, ground := Go.Ground.chain }, { on := 0, ground := Go.Ground.phase }, { on := 1, ground := Go.Ground.phase }, { on := 2, ground := Go.Ground.phase }, { on := 3, ground := Go.Ground.phase }, { on := 4, ground := Go.Ground.phase }, { on := 5, ground := Go.Ground.phase }, { on := 6, ground := Go.Ground.phase }, { on := 7, ground := Go.Ground.phase }, { on := 8, ground := Go.Ground.phase }, { on := 9, ground := Go.Ground.phase }, { on := 10, ground := Go.Ground.phase }, { on := 11, ground := Go.Ground.phase }, { on := 12, ground := Go.Ground.phase }], guard := none }) rfl (fun K hK => ?_) AllReadyH.nil; (first | (refine wp_store_row 29 _ _ rfl _ _ rfl rfl 29 _ (heap_alloc_new _ _) (by kernel_rfl) rfl (by simp [Value.oneCell']) ?_; rw [World.setRow_alloc_new]) | (refine wp_store_row 29 _ _ rfl _ _ rfl rfl 29 _ KK.out.hd (by kernel_rfl) rfl (by simp [Value.oneCell']) ?_)); refine hK.out _ _ ?_ (fun hHeld => ?_); (focus ((try dsimp only); (try (first | go_keep | ((repeat' apply And.intro) <;> (first | exact cell_later (by assumption) (by go_simp) | exact cell_row_far (by go_simp) (by omega))))); done)); clear hK; (try simp only [Act.put, List.setIfInBounds_toArray, List.set_cons_zero, List.set_cons_succ]))
      refine wpAnyH_done (by kernel_rfl) ?_ _
      go_wp2_with fail
      go_meet
      first | exact ⟨_, rfl, by have := KK.out.lt (w.heap.size + 1, agO Ag0) (by simp); simp only at this; omega, Kn.same (KK.out.new (agO ⟨1, ⟨hi, lo⟩, v, v, v, ⟨c, si, q⟩, List.replicate 9 0⟩)) rfl rfl rfl rfl⟩ | exact ⟨_, rfl, by omega, Kn.same (Kn.setRow KK.out (by simp only [Apart, and_true]; omega) (by omega) (agO ⟨1, ⟨hi, lo⟩, v, v, v, ⟨c, si, q⟩, List.replicate 9 0⟩)) rfl rfl rfl rfl⟩
    · (go_simp; refine hK12.out _ _ ?_ (fun hHeld => ?_); (focus ((try dsimp only); (try (first | go_keep | ((repeat' apply And.intro) <;> (first | exact cell_later (by assumption) (by go_simp) | exact cell_row_far (by go_simp) (by omega))))); done)); clear hK12; (try simp only [Act.put, List.setIfInBounds_toArray, List.set_cons_zero, List.set_cons_succ]))
      (refine wpAnyH_ready (rs := [2]) (by kernel_rfl) (by simp) ?_; refine AllReadyH.cons (o := { dst := some 6, op := Go.Op.call { callee := Go.Callee.value (Go.Operand.func 32), args := #[Go.Operand.tmp 5], argTypes := #[2] }, type := 24, pos := "agg.go:34", after := #[{ on := 1, ground := Go.Ground.data }], guard := none }) rfl (fun K hK => ?_) AllReadyH.nil; go_simp; ((first | (go_at_call 32; refine (HO _).mono ?_; rintro e wn ⟨rfl, dn⟩; first | have KK := Lib.hid (Kn.later KK.out dn rfl rfl rfl rfl) | have KK := Lib.hid (Kn.later (KK.out.new' (n := w.heap.size + 1 + 1) (by simp) (agO Ag0)) dn rfl rfl rfl rfl)))); go_wp2_with fail; refine hK.out _ _ ?_ (fun hHeld => ?_); (focus ((try dsimp only); (try (first | go_keep | ((repeat' apply And.intro) <;> (first | exact cell_later (by assumption) (by go_simp) | exact cell_row_far (by go_simp) (by omega))))); done)); clear hK; (try simp only [Act.put, List.setIfInBounds_toArray, List.set_cons_zero, List.set_cons_succ]))
      (refine wpAnyH_take (i := 11) (oi := { dst := some 15, op := Go.Op.build 29 #[(0, Go.Operand.const (Go.Value.int Go.IntKind.i64 1)), (1, Go.Operand.tmp 6), (2, Go.Operand.tmp 8), (3, Go.Operand.tmp 10), (4, Go.Operand.tmp 12), (5, Go.Operand.tmp 14)], type := 29, pos := "agg.go:34", after := #[{ on := 2, ground := Go.Ground.data }, { on := 4, ground := Go.Ground.data }, { on := 6, ground := Go.Ground.data }, { on := 8, ground := Go.Ground.data }, { on := 10, ground := Go.Ground.data }], guard := none }) (v := ?_) rfl (by kernel_rfl) (by kernel_rfl) (by kernel_rfl) (fun _ _ _ h => h) (Or.inl ⟨by rfl, ?_⟩) (by assumption) ?_; rotate_left; (focus (intro w hSw; ((try dsimp only at hSw); go_simp; try with_reducible rfl))); (try simp only [Act.put, List.setIfInBounds_toArray, List.set_cons_zero, List.set_cons_succ]))
      (refine wpAnyH_ready (rs := [13]) (by kernel_rfl) (by simp) ?_; refine AllReadyH.cons (o := { dst := none, op := Go.Op.store 29 (Go.Operand.tmp 3) (Go.Operand.tmp 15), type := 0, pos := "agg.go:34", after := #[{ on := 12, ground := Go.Ground.data }, { on := 11, ground := Go.Ground.data }, { on := 2, ground := Go.Ground.chain }, { on := 0, ground := Go.Ground.phase }, { on := 1, ground := Go.Ground.phase }, { on := 2, ground := Go.Ground.phase }, { on := 3, ground := Go.Ground.phase }, { on := 4, ground := Go.Ground.phase }, { on := 5, ground := Go.Ground.phase }, { on := 6, ground := Go.Ground.phase }, { on := 7, ground := Go.Ground.phase }, { on := 8, ground := Go.Ground.phase }, { on := 9, ground := Go.Ground.phase }, { on := 10, ground := Go.Ground.phase }, { on := 11, ground := Go.Ground.phase }, { on := 12, ground := Go.Ground.phase }], guard := none }) rfl (fun K hK => ?_) AllReadyH.nil; (first | (refine wp_store_row 29 _ _ rfl _ _ rfl rfl 29 _ (heap_alloc_new _ _) (by kernel_rfl) rfl (by simp [Value.oneCell']) ?_; rw [World.setRow_alloc_new]) | (refine wp_store_row 29 _ _ rfl _ _ rfl rfl 29 _ KK.out.hd (by kernel_rfl) rfl (by simp [Value.oneCell']) ?_)); refine hK.out _ _ ?_ (fun hHeld => ?_); (focus ((try dsimp only); (try (first | go_keep | ((repeat' apply And.intro) <;> (first | exact cell_later (by assumption) (by go_simp) | exact cell_row_far (by go_simp) (by omega))))); done)); clear hK; (try simp only [Act.put, List.setIfInBounds_toArray, List.set_cons_zero, List.set_cons_succ]))
      refine wpAnyH_done (by kernel_rfl) ?_ _
      go_wp2_with fail
      go_meet
      first | exact ⟨_, rfl, by have := KK.out.lt (w.heap.size + 1, agO Ag0) (by simp); simp only at this; omega, Kn.same (KK.out.new (agO ⟨1, ⟨hi, lo⟩, v, v, v, ⟨c, si, q⟩, List.replicate 9 0⟩)) rfl rfl rfl rfl⟩ | exact ⟨_, rfl, by omega, Kn.same (Kn.setRow KK.out (by simp only [Apart, and_true]; omega) (by omega) (agO ⟨1, ⟨hi, lo⟩, v, v, v, ⟨c, si, q⟩, List.replicate 9 0⟩)) rfl rfl rfl rfl⟩
  case rest =>
    obtain ⟨g, rfl, hg, hk⟩ := hcut
    have KK := Lib.hid hk
    have hA : AgAt wc g ⟨1, ⟨hi, lo⟩, v, v, v, ⟨c, si, q⟩, List.replicate 9 0⟩ := hk.hd
    have c2 : wc.cell? ⟨w.heap.size, 2, none⟩ = some (.int .i64 v) := Kn.cell hk (o := ptO ⟨s, t, v, c, si, q⟩) (by simp) rfl
    obtain ⟨k, hkk⟩ : ∃ k : Nat, Hid (bucketV v = (k : Int)) := ⟨(bucketV v).toNat, by show _ = _; omega⟩
    have hk9 : k < 9 := by have := hkk.out; omega
    rw [hkk.out] at HB
    have i1 : (0 : Int) ≤ (k : Int) := by omega
    have i2 : (k : Int) < 9 := by omega
    have ck := hA.bk k (by simpa using hk9)
    have hz : (List.replicate 9 (0 : Int)).getD k 0 = 0 := by rw [List.getD_eq_getElem?_getD, List.getElem?_replicate, if_pos hk9]; rfl
    simp only [hz] at ck
    have fk := hA.fz (9 + k)
    clear hk hbk hz
    go_upto_region 3 with (first | (go_at_call 12; refine (HB _).mono ?_; rintro e w' ⟨rfl, rfl⟩))
    have h2 := Kn.setBk KK.out (by simp only [Apart, and_true]; omega) (by omega) k 1
    generalize wc.setCell ⟨g, 9 + k, none⟩ (.int .i64 1) = w2 at *
    have HV : Hid (V = ⟨1, ⟨hi, lo⟩, v, v, v, ⟨c, si, q⟩, (List.replicate 9 0).set k 1⟩) := by
      show _ = _
      rw [HV.out]
      unfold oneV
      rw [hW, hkk.out]
      rfl
    have HL : Hid (((List.replicate 9 (0 : Int)).set k 1).length = 9) := by show _ = _; simp
    have HO : Hid (Ag0.bk.length = 9) := rfl
    have HA := Lib.hid h2.hd
    have h3 := h2.sub (m := [(w.heap.size + 1, agO Ag0)]) (by simp)
    have HR := Lib.hid h3.hd
    have HF := Lib.hid (Kn.setRow h3 trivial (by omega) (agO ⟨1, ⟨hi, lo⟩, v, v, v, ⟨c, si, q⟩, (List.replicate 9 0).set k 1⟩))
    clear ck fk c2 hA h2 h3 hW KK
    go_wp2_with (first
      | refine wpList_load_row rfl 29 _ rfl (g) rfl 29 (⟨1, ⟨hi, lo⟩, v, v, v, ⟨c, si, q⟩, (List.replicate 9 0).set k 1⟩ : Ag).cs.toArray (0, 0) _ HA.out Try.underlying29 rfl (ag_size HL.out) ?_
      | refine wpList_store_row rfl 29 _ _ rfl (w.heap.size + 1) (⟨1, ⟨hi, lo⟩, v, v, v, ⟨c, si, q⟩, (List.replicate 9 0).set k 1⟩ : Ag).cs.toArray rfl rfl 29 _ HR.out (ag_size HL.out) (ag_sz HO.out HL.out) (ag_one _) ?_)
    refine bodyPost_ret (v := .agg (⟨1, ⟨hi, lo⟩, v, v, v, ⟨c, si, q⟩, (List.replicate 9 0).set k 1⟩ : Ag).cs.toArray) (results_cell_row rfl _ _ (w.heap.size + 1) 29 (⟨1, ⟨hi, lo⟩, v, v, v, ⟨c, si, q⟩, (List.replicate 9 0).set k 1⟩ : Ag).cs.toArray (0, 0) _ rfl HF.out.hd Try.underlying29 rfl (ag_size HL.out)) rfl ⟨(congrArg (fun x : Ag => Ending.returned x.val) HV.out).symm, by first | exact HF.out.b | (rw [hg]; exact HF.out.b)⟩
set_option maxHeartbeats 4000000 in
set_option maxRecDepth 100000 in
theorem rone_any (p : Pt) (w : World) (hp : p.wf) : Calls Try.prog 15 #[p.val] w fun e w' => e = .returned (oneV p.value p.st).val ∧ Below w.heap.size w w' := by
  obtain ⟨s, t, v, c, si, q⟩ := p
  obtain ⟨_, _, hv, _⟩ := hp
  unfold Pt.val
  simp only at hv ⊢
  have HO := fun wx => rof_any v wx hv.1 hv.2
  have HB := fun wx => rbucket_any v wx hv.2
  have hbk := bucketV_range v
  obtain ⟨V, HV⟩ : ∃ V, Hid (V = oneV v ⟨c, si, q⟩) := ⟨_, rfl⟩
  rw [← HV.out]
  generalize hW : wd v = W at *
  obtain ⟨hi, lo⟩ := W
  unfold Wd.val at HO
  simp only at HO
  have KK := Lib.hid (((Kn.start w).new' rfl (ptO ⟨s, t, v, c, si, q⟩)).new' (n := w.heap.size + 1) (by simp) (agO Ag0))
  go_enter Try.func15, Try.ntmps15
  go_upto_region 1 with (fail)
  go_cut [3] (fun x wx => ∃ g, x = .pointer (some ⟨g, 0, none⟩) ∧ w.heap.size + 1 < g ∧ Kn w.heap.size w [(g, agO ⟨1, ⟨hi, lo⟩, v, v, v, ⟨c, si, q⟩, List.replicate 9 0⟩), (w.heap.size + 1, agO Ag0), (w.heap.size, ptO ⟨s, t, v, c, si, q⟩)] wx)
  case first =>
    refine wp_region_held_drew (S := (fun wx => wx.cell? ⟨w.heap.size, 2, none⟩ = some (.int .i64 v) ∧ wx.cell? ⟨w.heap.size, 3, none⟩ = some (.int .i64 c) ∧ wx.cell? ⟨w.heap.size, 4, none⟩ = some (.int .i64 si) ∧ wx.cell? ⟨w.heap.size, 5, none⟩ = some (.int .i64 q))) (by kernel_rfl) ?_ (fun hHeld => ?_)
    focus ((try dsimp only); (try (first | go_keep | ((repeat' apply And.intro) <;> (first | exact cell_later (by assumption) (by go_simp) | exact cell_row_far (by go_simp) (by omega))))); done)
    (refine wpAnyH_take (i := 0) (oi := { dst := some 4, op := Go.Op.fieldAddr 31 (Go.Operand.tmp 1) 2, type := 0, pos := "ref.go:29", after := #[], guard := none }) (v := ?_) rfl (by kernel_rfl) (by kernel_rfl) (by kernel_rfl) (fun _ _ _ h => h) (Or.inl ⟨by rfl, ?_⟩) (by assumption) ?_; rotate_left; (focus (intro w hSw; ((try dsimp only at hSw); go_simp; try with_reducible rfl))); (try simp only [Act.put, List.setIfInBounds_toArray, List.set_cons_zero, List.set_cons_succ]))
    (refine wpAnyH_take (i := 1) (oi := { dst := some 5, op := Go.Op.load 2 (Go.Operand.tmp 4), type := 2, pos := "ref.go:29", after := #[{ on := 0, ground := Go.Ground.data }], guard := none }) (v := ?_) rfl (by kernel_rfl) (by kernel_rfl) (by kernel_rfl) (fun _ _ _ h => h) (Or.inl ⟨by rfl, ?_⟩) (by assumption) ?_; rotate_left; (focus (intro w hSw; ((try dsimp only at hSw); go_simp; try with_reducible rfl))); (try simp only [Act.put, List.setIfInBounds_toArray, List.set_cons_zero, List.set_cons_succ]))
    (refine wpAnyH_take (i := 3) (oi := { dst := some 7, op := Go.Op.fieldAddr 31 (Go.Operand.tmp 1) 2, type := 0, pos := "ref.go:29", after := #[], guard := none }) (v := ?_) rfl (by kernel_rfl) (by kernel_rfl) (by kernel_rfl) (fun _ _ _ h => h) (Or.inl ⟨by rfl, ?_⟩) (by assumption) ?_; rotate_left; (focus (intro w hSw; ((try dsimp only at hSw); go_simp; try with_reducible rfl))); (try simp only [Act.put, List.setIfInBounds_toArray, List.set_cons_zero, List.set_cons_succ]))
    (refine wpAnyH_take (i := 4) (oi := { dst := some 8, op := Go.Op.load 2 (Go.Operand.tmp 7), type := 2, pos := "ref.go:29", after := #[{ on := 3, ground := Go.Ground.data }], guard := none }) (v := ?_) rfl (by kernel_rfl) (by kernel_rfl) (by kernel_rfl) (fun _ _ _ h => h) (Or.inl ⟨by rfl, ?_⟩) (by assumption) ?_; rotate_left; (focus (intro w hSw; ((try dsimp only at hSw); go_simp; try with_reducible rfl))); (try simp only [Act.put, List.setIfInBounds_toArray, List.set_cons_zero, List.set_cons_succ]))
    (refine wpAnyH_take (i := 5) (oi := { dst := some 9, op := Go.Op.fieldAddr 31 (Go.Operand.tmp 1) 2, type := 0, pos := "ref.go:29", after := #[], guard := none }) (v := ?_) rfl (by kernel_rfl) (by kernel_rfl) (by kernel_rfl) (fun _ _ _ h => h) (Or.inl ⟨by rfl, ?_⟩) (by assumption) ?_; rotate_left; (focus (intro w hSw; ((try dsimp only at hSw); go_simp; try with_reducible rfl))); (try simp only [Act.put, List.setIfInBounds_toArray, List.set_cons_zero, List.set_cons_succ]))
    (refine wpAnyH_take (i := 6) (oi := { dst := some 10, op := Go.Op.load 2 (Go.Operand.tmp 9), type := 2, pos := "ref.go:29", after := #[{ on := 5, ground := Go.Ground.data }], guard := none }) (v := ?_) rfl (by kernel_rfl) (by kernel_rfl) (by kernel_rfl) (fun _ _ _ h => h) (Or.inl ⟨by rfl, ?_⟩) (by assumption) ?_; rotate_left; (focus (intro w hSw; ((try dsimp only at hSw); go_simp; try with_reducible rfl))); (try simp only [Act.put, List.setIfInBounds_toArray, List.set_cons_zero, List.set_cons_succ]))
    (refine wpAnyH_take (i := 7) (oi := { dst := some 11, op := Go.Op.fieldAddr 31 (Go.Operand.tmp 1) 2, type := 0, pos := "ref.go:29", after := #[], guard := none }) (v := ?_) rfl (by kernel_rfl) (by kernel_rfl) (by kernel_rfl) (fun _ _ _ h => h) (Or.inl ⟨by rfl, ?_⟩) (by assumption) ?_; rotate_left; (focus (intro w hSw; ((try dsimp only at hSw); go_simp; try with_reducible rfl))); (try simp only [Act.put, List.setIfInBounds_toArray, List.set_cons_zero, List.set_cons_succ]))
    (refine wpAnyH_take (i := 8) (oi := { dst := some 12, op := Go.Op.load 2 (Go.Operand.tmp 11), type := 2, pos := "ref.go:29", after := #[{ on := 7, ground := Go.Ground.data }], guard := none }) (v := ?_) rfl (by kernel_rfl) (by kernel_rfl) (by kernel_rfl) (fun _ _ _ h => h) (Or.inl ⟨by rfl, ?_⟩) (by assumption) ?_; rotate_left; (focus (intro w hSw; ((try dsimp only at hSw); go_simp; try with_reducible rfl))); (try simp only [Act.put, List.setIfInBounds_toArray, List.set_cons_zero, List.set_cons_succ]))
    (refine wpAnyH_take (i := 9) (oi := { dst := some 13, op := Go.Op.fieldAddr 31 (Go.Operand.tmp 1) 3, type := 0, pos := "ref.go:29", after := #[], guard := none }) (v := ?_) rfl (by kernel_rfl) (by kernel_rfl) (by kernel_rfl) (fun _ _ _ h => h) (Or.inl ⟨by rfl, ?_⟩) (by assumption) ?_; rotate_left; (focus (intro w hSw; ((try dsimp only at hSw); go_simp; try with_reducible rfl))); (try simp only [Act.put, List.setIfInBounds_toArray, List.set_cons_zero, List.set_cons_succ]))
    (refine wpAnyH_take (i := 10) (oi := { dst := some 14, op := Go.Op.load 26 (Go.Operand.tmp 13), type := 26, pos := "ref.go:29", after := #[{ on := 9, ground := Go.Ground.data }], guard := none }) (v := ?_) rfl (by kernel_rfl) (by kernel_rfl) (by kernel_rfl) (fun _ _ _ h => h) (Or.inl ⟨by rfl, ?_⟩) (by assumption) ?_; rotate_left; (focus (intro w hSw; ((try dsimp only at hSw); go_simp; try with_reducible rfl))); (try simp only [Act.put, List.setIfInBounds_toArray, List.set_cons_zero, List.set_cons_succ]))
    refine wpAnyH_ready (rs := [2, 12]) (by kernel_rfl) (by simp) ?_
    refine AllReadyH.cons (o := { dst := some 6, op := Go.Op.call { callee := Go.Callee.value (Go.Operand.func 33), args := #[Go.Operand.tmp 5], argTypes := #[2] }, type := 24, pos := "ref.go:29", after := #[{ on := 1, ground := Go.Ground.data }], guard := none }) rfl (fun K hK2 => ?_) (AllReadyH.cons (o := { dst := some 3, op := Go.Op.alloc 29, type := 0, pos := "ref.go:29", after := #[], guard := none }) rfl (fun K hK12 => ?_) AllReadyH.nil)
    · (go_simp; ((first | (go_at_call 33; refine (HO _).mono ?_; rintro e wn ⟨rfl, dn⟩; first | have KK := Lib.hid (Kn.later KK.out dn rfl rfl rfl rfl) | have KK := Lib.hid (Kn.later (KK.out.new' (n := w.heap.size + 1 + 1) (by simp) (agO Ag0)) dn rfl rfl rfl rfl)))); go_wp2_with fail; refine hK2.out _ _ ?_ (fun hHeld => ?_); (focus ((try dsimp only); (try (first | go_keep | ((repeat' apply And.intro) <;> (first | exact cell_later (by assumption) (by go_simp) | exact cell_row_far (by go_simp) (by omega))))); done)); clear hK2; (try simp only [Act.put, List.setIfInBounds_toArray, List.set_cons_zero, List.set_cons_succ]))
      (refine wpAnyH_take (i := 11) (oi := { dst := some 15, op := Go.Op.build 29 #[(0, Go.Operand.const (Go.Value.int Go.IntKind.i64 1)), (1, Go.Operand.tmp 6), (2, Go.Operand.tmp 8), (3, Go.Operand.tmp 10), (4, Go.Operand.tmp 12), (5, Go.Operand.tmp 14)], type := 29, pos := "ref.go:29", after := #[{ on := 2, ground := Go.Ground.data }, { on := 4, ground := Go.Ground.data }, { on := 6, ground := Go.Ground.data }, { on := 8, ground := Go.Ground.data }, { on := 10, ground := Go.Ground.data }], guard := none }) (v := ?_) rfl (by kernel_rfl) (by kernel_rfl) (by kernel_rfl) (fun _ _ _ h => h) (Or.inl ⟨by rfl, ?_⟩) (by assumption) ?_; rotate_left; (focus (intro w hSw; ((try dsimp only at hSw); go_simp; try with_reducible rfl))); (try simp only [Act.put, List.setIfInBounds_toArray, List.set_cons_zero, List.set_cons_succ]))
      (refine wpAnyH_ready (rs := [12]) (by kernel_rfl) (by simp) ?_; refine AllReadyH.cons (o := { dst := some 3, op := Go.Op.alloc 29, type := 0, pos := "ref.go:29", after := #[], guard := none }) rfl (fun K hK => ?_) AllReadyH.nil; go_simp; refine hK.out _ _ ?_ (fun hHeld => ?_); (focus ((try dsimp only); (try (first | go_keep | ((repeat' apply And.intro) <;> (first | exact cell_later (by assumption) (by go_simp) | exact cell_row_far (by go_simp) (by omega))))); done)); clear hK; (try simp only [Act.put, List.setIfInBounds_toArray, List.set_cons_zero, List.set_cons_succ]))
      (refine wpAnyH_ready (rs := [13]) (by kernel_rfl) (by simp) ?_; refine AllReadyH.cons (o := { dst := none, op := Go.Op.store 29 (Go.Operand.tmp 3) (Go.Operand.tmp 15), type := 0, pos := "ref.go:29", after := #[{ on := 12, ground := Go.Ground.data }, { on := 11, ground := Go.Ground.data }, { on := 2, ground := Go.Ground.chain }, { on := 0, ground := Go.Ground.phase }, { on := 1, ground := Go.Ground.phase }, { on := 2, ground := Go.Ground.phase }, { on := 3, ground := Go.Ground.phase }, { on := 4, ground := Go.Ground.phase }, { on := 5, ground := Go.Ground.phase }, { on := 6, ground := Go.Ground.phase }, { on := 7, ground := Go.Ground.phase }, { on := 8, ground := Go.Ground.phase }, { on := 9, ground := Go.Ground.phase }, { on := 10, ground := Go.Ground.phase }, { on := 11, ground := Go.Ground.phase }, { on := 12, ground := Go.Ground.phase }], guard := none }) rfl (fun K hK => ?_) AllReadyH.nil; (first | (refine wp_store_row 29 _ _ rfl _ _ rfl rfl 29 _ (heap_alloc_new _ _) (by kernel_rfl) rfl (by simp [Value.oneCell']) ?_; rw [World.setRow_alloc_new]) | (refine wp_store_row 29 _ _ rfl _ _ rfl rfl 29 _ KK.out.hd (by kernel_rfl) rfl (by simp [Value.oneCell']) ?_)); refine hK.out _ _ ?_ (fun hHeld => ?_); (focus ((try dsimp only); (try (first | go_keep | ((repeat' apply And.intro) <;> (first | exact cell_later (by assumption) (by go_simp) | exact cell_row_far (by go_simp) (by omega))))); done)); clear hK; (try simp only [Act.put, List.setIfInBounds_toArray, List.set_cons_zero, List.set_cons_succ]))
      refine wpAnyH_done (by kernel_rfl) ?_ _
      go_wp2_with fail
      go_meet
      first | exact ⟨_, rfl, by have := KK.out.lt (w.heap.size + 1, agO Ag0) (by simp); simp only at this; omega, Kn.same (KK.out.new (agO ⟨1, ⟨hi, lo⟩, v, v, v, ⟨c, si, q⟩, List.replicate 9 0⟩)) rfl rfl rfl rfl⟩ | exact ⟨_, rfl, by omega, Kn.same (Kn.setRow KK.out (by simp only [Apart, and_true]; omega) (by omega) (agO ⟨1, ⟨hi, lo⟩, v, v, v, ⟨c, si, q⟩, List.replicate 9 0⟩)) rfl rfl rfl rfl⟩
    · (go_simp; refine hK12.out _ _ ?_ (fun hHeld => ?_); (focus ((try dsimp only); (try (first | go_keep | ((repeat' apply And.intro) <;> (first | exact cell_later (by assumption) (by go_simp) | exact cell_row_far (by go_simp) (by omega))))); done)); clear hK12; (try simp only [Act.put, List.setIfInBounds_toArray, List.set_cons_zero, List.set_cons_succ]))
      (refine wpAnyH_ready (rs := [2]) (by kernel_rfl) (by simp) ?_; refine AllReadyH.cons (o := { dst := some 6, op := Go.Op.call { callee := Go.Callee.value (Go.Operand.func 33), args := #[Go.Operand.tmp 5], argTypes := #[2] }, type := 24, pos := "ref.go:29", after := #[{ on := 1, ground := Go.Ground.data }], guard := none }) rfl (fun K hK => ?_) AllReadyH.nil; go_simp; ((first | (go_at_call 33; refine (HO _).mono ?_; rintro e wn ⟨rfl, dn⟩; first | have KK := Lib.hid (Kn.later KK.out dn rfl rfl rfl rfl) | have KK := Lib.hid (Kn.later (KK.out.new' (n := w.heap.size + 1 + 1) (by simp) (agO Ag0)) dn rfl rfl rfl rfl)))); go_wp2_with fail; refine hK.out _ _ ?_ (fun hHeld => ?_); (focus ((try dsimp only); (try (first | go_keep | ((repeat' apply And.intro) <;> (first | exact cell_later (by assumption) (by go_simp) | exact cell_row_far (by go_simp) (by omega))))); done)); clear hK; (try simp only [Act.put, List.setIfInBounds_toArray, List.set_cons_zero, List.set_cons_succ]))
      (refine wpAnyH_take (i := 11) (oi := { dst := some 15, op := Go.Op.build 29 #[(0, Go.Operand.const (Go.Value.int Go.IntKind.i64 1)), (1, Go.Operand.tmp 6), (2, Go.Operand.tmp 8), (3, Go.Operand.tmp 10), (4, Go.Operand.tmp 12), (5, Go.Operand.tmp 14)], type := 29, pos := "ref.go:29", after := #[{ on := 2, ground := Go.Ground.data }, { on := 4, ground := Go.Ground.data }, { on := 6, ground := Go.Ground.data }, { on := 8, ground := Go.Ground.data }, { on := 10, ground := Go.Ground.data }], guard := none }) (v := ?_) rfl (by kernel_rfl) (by kernel_rfl) (by kernel_rfl) (fun _ _ _ h => h) (Or.inl ⟨by rfl, ?_⟩) (by assumption) ?_; rotate_left; (focus (intro w hSw; ((try dsimp only at hSw); go_simp; try with_reducible rfl))); (try simp only [Act.put, List.setIfInBounds_toArray, List.set_cons_zero, List.set_cons_succ]))
      (refine wpAnyH_ready (rs := [13]) (by kernel_rfl) (by simp) ?_; refine AllReadyH.cons (o := { dst := none, op := Go.Op.store 29 (Go.Operand.tmp 3) (Go.Operand.tmp 15), type := 0, pos := "ref.go:29", after := #[{ on := 12, ground := Go.Ground.data }, { on := 11, ground := Go.Ground.data }, { on := 2, ground := Go.Ground.chain }, { on := 0, ground := Go.Ground.phase }, { on := 1, ground := Go.Ground.phase }, { on := 2, ground := Go.Ground.phase }, { on := 3, ground := Go.Ground.phase }, { on := 4, ground := Go.Ground.phase }, { on := 5, ground := Go.Ground.phase }, { on := 6, ground := Go.Ground.phase }, { on := 7, ground := Go.Ground.phase }, { on := 8, ground := Go.Ground.phase }, { on := 9, ground := Go.Ground.phase }, { on := 10, ground := Go.Ground.phase }, { on := 11, ground := Go.Ground.phase }, { on := 12, ground := Go.Ground.phase }], guard := none }) rfl (fun K hK => ?_) AllReadyH.nil; (first | (refine wp_store_row 29 _ _ rfl _ _ rfl rfl 29 _ (heap_alloc_new _ _) (by kernel_rfl) rfl (by simp [Value.oneCell']) ?_; rw [World.setRow_alloc_new]) | (refine wp_store_row 29 _ _ rfl _ _ rfl rfl 29 _ KK.out.hd (by kernel_rfl) rfl (by simp [Value.oneCell']) ?_)); refine hK.out _ _ ?_ (fun hHeld => ?_); (focus ((try dsimp only); (try (first | go_keep | ((repeat' apply And.intro) <;> (first | exact cell_later (by assumption) (by go_simp) | exact cell_row_far (by go_simp) (by omega))))); done)); clear hK; (try simp only [Act.put, List.setIfInBounds_toArray, List.set_cons_zero, List.set_cons_succ]))
      refine wpAnyH_done (by kernel_rfl) ?_ _
      go_wp2_with fail
      go_meet
      first | exact ⟨_, rfl, by have := KK.out.lt (w.heap.size + 1, agO Ag0) (by simp); simp only at this; omega, Kn.same (KK.out.new (agO ⟨1, ⟨hi, lo⟩, v, v, v, ⟨c, si, q⟩, List.replicate 9 0⟩)) rfl rfl rfl rfl⟩ | exact ⟨_, rfl, by omega, Kn.same (Kn.setRow KK.out (by simp only [Apart, and_true]; omega) (by omega) (agO ⟨1, ⟨hi, lo⟩, v, v, v, ⟨c, si, q⟩, List.replicate 9 0⟩)) rfl rfl rfl rfl⟩
  case rest =>
    obtain ⟨g, rfl, hg, hk⟩ := hcut
    have KK := Lib.hid hk
    have hA : AgAt wc g ⟨1, ⟨hi, lo⟩, v, v, v, ⟨c, si, q⟩, List.replicate 9 0⟩ := hk.hd
    have c2 : wc.cell? ⟨w.heap.size, 2, none⟩ = some (.int .i64 v) := Kn.cell hk (o := ptO ⟨s, t, v, c, si, q⟩) (by simp) rfl
    obtain ⟨k, hkk⟩ : ∃ k : Nat, Hid (bucketV v = (k : Int)) := ⟨(bucketV v).toNat, by show _ = _; omega⟩
    have hk9 : k < 9 := by have := hkk.out; omega
    rw [hkk.out] at HB
    have i1 : (0 : Int) ≤ (k : Int) := by omega
    have i2 : (k : Int) < 9 := by omega
    have ck := hA.bk k (by simpa using hk9)
    have hz : (List.replicate 9 (0 : Int)).getD k 0 = 0 := by rw [List.getD_eq_getElem?_getD, List.getElem?_replicate, if_pos hk9]; rfl
    simp only [hz] at ck
    have fk := hA.fz (9 + k)
    clear hk hbk hz
    go_upto_region 3 with (first | (go_at_call 13; refine (HB _).mono ?_; rintro e w' ⟨rfl, rfl⟩))
    have h2 := Kn.setBk KK.out (by simp only [Apart, and_true]; omega) (by omega) k 1
    generalize wc.setCell ⟨g, 9 + k, none⟩ (.int .i64 1) = w2 at *
    have HV : Hid (V = ⟨1, ⟨hi, lo⟩, v, v, v, ⟨c, si, q⟩, (List.replicate 9 0).set k 1⟩) := by
      show _ = _
      rw [HV.out]
      unfold oneV
      rw [hW, hkk.out]
      rfl
    have HL : Hid (((List.replicate 9 (0 : Int)).set k 1).length = 9) := by show _ = _; simp
    have HO : Hid (Ag0.bk.length = 9) := rfl
    have HA := Lib.hid h2.hd
    have h3 := h2.sub (m := [(w.heap.size + 1, agO Ag0)]) (by simp)
    have HR := Lib.hid h3.hd
    have HF := Lib.hid (Kn.setRow h3 trivial (by omega) (agO ⟨1, ⟨hi, lo⟩, v, v, v, ⟨c, si, q⟩, (List.replicate 9 0).set k 1⟩))
    clear ck fk c2 hA h2 h3 hW KK
    go_wp2_with (first
      | refine wpList_load_row rfl 29 _ rfl (g) rfl 29 (⟨1, ⟨hi, lo⟩, v, v, v, ⟨c, si, q⟩, (List.replicate 9 0).set k 1⟩ : Ag).cs.toArray (0, 0) _ HA.out Try.underlying29 rfl (ag_size HL.out) ?_
      | refine wpList_store_row rfl 29 _ _ rfl (w.heap.size + 1) (⟨1, ⟨hi, lo⟩, v, v, v, ⟨c, si, q⟩, (List.replicate 9 0).set k 1⟩ : Ag).cs.toArray rfl rfl 29 _ HR.out (ag_size HL.out) (ag_sz HO.out HL.out) (ag_one _) ?_)
    refine bodyPost_ret (v := .agg (⟨1, ⟨hi, lo⟩, v, v, v, ⟨c, si, q⟩, (List.replicate 9 0).set k 1⟩ : Ag).cs.toArray) (results_cell_row rfl _ _ (w.heap.size + 1) 29 (⟨1, ⟨hi, lo⟩, v, v, v, ⟨c, si, q⟩, (List.replicate 9 0).set k 1⟩ : Ag).cs.toArray (0, 0) _ rfl HF.out.hd Try.underlying29 rfl (ag_size HL.out)) rfl ⟨(congrArg (fun x : Ag => Ending.returned x.val) HV.out).symm, by first | exact HF.out.b | (rw [hg]; exact HF.out.b)⟩
end
end Go.Proofs.Ytojnooagifhekaa
