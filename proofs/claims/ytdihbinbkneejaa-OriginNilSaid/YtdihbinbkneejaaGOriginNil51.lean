/- Methods of no log; a zero log. -/
import Derived.Test.YtdihbinbkneejaaGOriginNil50
import Derived.Test.YtdihbinbkneejaaGOriginNil47
import Derived.Test.YtdihbinbkneejaaGOriginNil43
namespace Go.Proofs.Ytdihbinbkneejaa
section
open Go.RowKit Go.Deep
set_option maxRecDepth 100000
set_option linter.unusedVariables false
set_option linter.unusedSimpArgs false
attribute [local go_sem ↓] Go.wp_at_zero Go.wp_at_succ
theorem nknow (w : World) : Calls Try.prog 11 #[.pointer none] w fun e w' => e = .returned (.slice none 0 0) ∧ w = w' := by
  go_enter Try.func11, Try.ntmps11
  go_wp2_with fail
  go_ret
  exact ⟨rfl, rfl⟩
theorem nbase (w : World) : Calls Try.prog 21 #[.pointer none] w fun e w' => e = .returned (.slice none 0 0) ∧ w = w' := by
  go_enter Try.func21, Try.ntmps21
  go_wp2_with fail
  go_ret
  exact ⟨rfl, rfl⟩
theorem nclock (w : World) : Calls Try.prog 18 #[.pointer none] w fun e w' => e = .returned (.int .i64 0) ∧ w = w' := by
  go_enter Try.func18, Try.ntmps18
  go_wp2_with fail
  go_ret
  exact ⟨rfl, rfl⟩
theorem nlen (w : World) : Calls Try.prog 32 #[.pointer none] w fun e w' => e = .returned (.int .i64 0) ∧ w = w' := by
  go_enter Try.func32, Try.ntmps32
  go_wp2_with fail
  go_ret
  exact ⟨rfl, rfl⟩
theorem nroom (w : World) : Calls Try.prog 24 #[.pointer none] w fun e w' => e = .returned (.int .i64 0) ∧ w = w' := by
  go_enter Try.func24, Try.ntmps24
  go_wp2_with fail
  go_ret
  exact ⟨rfl, rfl⟩
theorem ntrim (v : Value) (w : World) : Calls Try.prog 19 #[.pointer none, v] w fun e w' => e = .returned (.int .i64 0) ∧ w = w' := by
  go_enter Try.func19, Try.ntmps19
  go_wp2_with fail
  go_ret
  exact ⟨rfl, rfl⟩
theorem nthose (n : Int) (f : Value) (w : World) : Calls Try.prog 42 #[.pointer none, .int .i64 n, f] w fun e w' => e = .returned (.slice none 0 0) ∧ w = w' := by
  go_enter Try.func42, Try.ntmps42
  go_wp2_with fail
  go_step3
  go_wp2_with fail
  first | rw [Exit.noGoto_ret] | skip
  go_ret
  exact ⟨rfl, rfl⟩
theorem nall (w : World) : Calls Try.prog 16 #[.pointer none] w fun e w' => e = .returned (.slice none 0 0) ∧ w = w' := by
  have C := nthose 400 (.func (.func 45) #[] #[])
  go_enter Try.func16, Try.ntmps16
  go_wp2_with (first | (go_at_call 42; refine (C _).mono ?_; rintro e wn ⟨rfl, rfl⟩))
  go_ret
  exact ⟨rfl, rfl⟩
theorem nafter (a : Option Addr) (k c : Nat) (n : Int) (w : World) : Calls Try.prog 14 #[.pointer none, .slice a k c, .int .i64 n] w fun e w' => e = .returned (.tuple #[.slice none 0 0, .bool false]) ∧ Below w.heap.size w w' := by
  go_enter Try.func14, Try.ntmps14
  go_upto_region 1 with fail
  generalize hw1 : World.alloc _ _ = w1
  have KK := Lib.hid (show Below w.heap.size w w1 by rw [← hw1]; exact (Below.refl _ _).alloc (Nat.le_refl _) _)
  clear hw1
  refine wp_region_held_drew (S := (fun _ => True)) (by kernel_rfl) ?_ (fun hHeld => ?_)
  focus ((try dsimp only); (try trivial); done)
  (refine wpAnyH_take (i := 0) (oi := { dst := some 8, op := Go.Op.move (Go.Operand.tmp 0), type := 24, pos := "origin.go:94", after := #[], guard := none }) (v := ?_) rfl (by kernel_rfl) (by kernel_rfl) (by kernel_rfl) (fun _ _ _ h => h) (Or.inl ⟨by rfl, ?_⟩) (by assumption) ?_; rotate_left; (focus (intro w hSw; ((try dsimp only at hSw); go_simp; try with_reducible rfl))); (try simp only [Act.put, List.setIfInBounds_toArray, List.set_cons_zero, List.set_cons_succ]))
  (refine wpAnyH_take (i := 1) (oi := { dst := some 9, op := Go.Op.binOp Go.BinOp.eql 24 (Go.Operand.tmp 8) (Go.Operand.const (Go.Value.pointer none)) 24, type := 4, pos := "origin.go:94", after := #[{ on := 0, ground := Go.Ground.data }], guard := none }) (v := ?_) rfl (by kernel_rfl) (by kernel_rfl) (by kernel_rfl) (fun _ _ _ h => h) (Or.inl ⟨by rfl, ?_⟩) (by assumption) ?_; rotate_left; (focus (intro w hSw; ((try dsimp only at hSw); go_simp; try with_reducible rfl))); (try simp only [Act.put, List.setIfInBounds_toArray, List.set_cons_zero, List.set_cons_succ]))
  (refine wpAnyH_take (i := 2) (oi := { dst := some 10, op := Go.Op.move (Go.Operand.tmp 9), type := 4, pos := "origin.go:94", after := #[{ on := 1, ground := Go.Ground.data }], guard := none }) (v := ?_) rfl (by kernel_rfl) (by kernel_rfl) (by kernel_rfl) (fun _ _ _ h => h) (Or.inl ⟨by rfl, ?_⟩) (by assumption) ?_; rotate_left; (focus (intro w hSw; ((try dsimp only at hSw); go_simp; try with_reducible rfl))); (try simp only [Act.put, List.setIfInBounds_toArray, List.set_cons_zero, List.set_cons_succ]))
  (first | (refine wpAnyH_take (i := 3) (oi := { dst := some 11, op := Go.Op.load 28 (Go.Operand.tmp 4), type := 28, pos := "origin.go:94", after := #[{ on := 2, ground := Go.Ground.guard }], guard := some (2, false) }) (v := undef) rfl (by kernel_rfl) (by kernel_rfl) (by kernel_rfl) (fun _ _ _ h => h) (Or.inr ⟨by rfl, rfl⟩) (by assumption) ?_; (try simp only [Act.put, List.setIfInBounds_toArray, List.set_cons_zero, List.set_cons_succ])) | (refine wpAnyH_take (i := 3) (oi := { dst := some 11, op := Go.Op.load 28 (Go.Operand.tmp 4), type := 28, pos := "origin.go:94", after := #[{ on := 2, ground := Go.Ground.guard }], guard := some (2, false) }) (v := ?_) rfl (by kernel_rfl) (by kernel_rfl) (by kernel_rfl) (fun _ _ _ h => h) (Or.inl ⟨by rfl, ?_⟩) (by assumption) ?_; rotate_left; (focus (intro w hSw; ((try dsimp only at hSw); go_simp; try with_reducible rfl))); (try simp only [Act.put, List.setIfInBounds_toArray, List.set_cons_zero, List.set_cons_succ])))
  (first | (refine wpAnyH_take (i := 4) (oi := { dst := some 12, op := Go.Op.move (Go.Operand.tmp 0), type := 24, pos := "origin.go:94", after := #[{ on := 2, ground := Go.Ground.guard }], guard := some (2, false) }) (v := undef) rfl (by kernel_rfl) (by kernel_rfl) (by kernel_rfl) (fun _ _ _ h => h) (Or.inr ⟨by rfl, rfl⟩) (by assumption) ?_; (try simp only [Act.put, List.setIfInBounds_toArray, List.set_cons_zero, List.set_cons_succ])) | (refine wpAnyH_take (i := 4) (oi := { dst := some 12, op := Go.Op.move (Go.Operand.tmp 0), type := 24, pos := "origin.go:94", after := #[{ on := 2, ground := Go.Ground.guard }], guard := some (2, false) }) (v := ?_) rfl (by kernel_rfl) (by kernel_rfl) (by kernel_rfl) (fun _ _ _ h => h) (Or.inl ⟨by rfl, ?_⟩) (by assumption) ?_; rotate_left; (focus (intro w hSw; ((try dsimp only at hSw); go_simp; try with_reducible rfl))); (try simp only [Act.put, List.setIfInBounds_toArray, List.set_cons_zero, List.set_cons_succ])))
  (first | (refine wpAnyH_take (i := 5) (oi := { dst := some 13, op := Go.Op.nilCheck (Go.Operand.tmp 12), type := 0, pos := "origin.go:94", after := #[{ on := 4, ground := Go.Ground.data }, { on := 2, ground := Go.Ground.guard }], guard := some (2, false) }) (v := undef) rfl (by kernel_rfl) (by kernel_rfl) (by kernel_rfl) (fun _ _ _ h => h) (Or.inr ⟨by rfl, rfl⟩) (by assumption) ?_; (try simp only [Act.put, List.setIfInBounds_toArray, List.set_cons_zero, List.set_cons_succ])) | (refine wpAnyH_take (i := 5) (oi := { dst := some 13, op := Go.Op.nilCheck (Go.Operand.tmp 12), type := 0, pos := "origin.go:94", after := #[{ on := 4, ground := Go.Ground.data }, { on := 2, ground := Go.Ground.guard }], guard := some (2, false) }) (v := ?_) rfl (by kernel_rfl) (by kernel_rfl) (by kernel_rfl) (fun _ _ _ h => h) (Or.inl ⟨by rfl, ?_⟩) (by assumption) ?_; rotate_left; (focus (intro w hSw; ((try dsimp only at hSw); go_simp; try with_reducible rfl))); (try simp only [Act.put, List.setIfInBounds_toArray, List.set_cons_zero, List.set_cons_succ])))
  (first | (refine wpAnyH_take (i := 6) (oi := { dst := some 14, op := Go.Op.fieldAddr 59 (Go.Operand.tmp 13) 1, type := 0, pos := "origin.go:94", after := #[{ on := 5, ground := Go.Ground.data }, { on := 2, ground := Go.Ground.guard }], guard := some (2, false) }) (v := undef) rfl (by kernel_rfl) (by kernel_rfl) (by kernel_rfl) (fun _ _ _ h => h) (Or.inr ⟨by rfl, rfl⟩) (by assumption) ?_; (try simp only [Act.put, List.setIfInBounds_toArray, List.set_cons_zero, List.set_cons_succ])) | (refine wpAnyH_take (i := 6) (oi := { dst := some 14, op := Go.Op.fieldAddr 59 (Go.Operand.tmp 13) 1, type := 0, pos := "origin.go:94", after := #[{ on := 5, ground := Go.Ground.data }, { on := 2, ground := Go.Ground.guard }], guard := some (2, false) }) (v := ?_) rfl (by kernel_rfl) (by kernel_rfl) (by kernel_rfl) (fun _ _ _ h => h) (Or.inl ⟨by rfl, ?_⟩) (by assumption) ?_; rotate_left; (focus (intro w hSw; ((try dsimp only at hSw); go_simp; try with_reducible rfl))); (try simp only [Act.put, List.setIfInBounds_toArray, List.set_cons_zero, List.set_cons_succ])))
  (first | (refine wpAnyH_take (i := 7) (oi := { dst := some 15, op := Go.Op.load 28 (Go.Operand.tmp 14), type := 28, pos := "origin.go:94", after := #[{ on := 6, ground := Go.Ground.data }, { on := 2, ground := Go.Ground.guard }], guard := some (2, false) }) (v := undef) rfl (by kernel_rfl) (by kernel_rfl) (by kernel_rfl) (fun _ _ _ h => h) (Or.inr ⟨by rfl, rfl⟩) (by assumption) ?_; (try simp only [Act.put, List.setIfInBounds_toArray, List.set_cons_zero, List.set_cons_succ])) | (refine wpAnyH_take (i := 7) (oi := { dst := some 15, op := Go.Op.load 28 (Go.Operand.tmp 14), type := 28, pos := "origin.go:94", after := #[{ on := 6, ground := Go.Ground.data }, { on := 2, ground := Go.Ground.guard }], guard := some (2, false) }) (v := ?_) rfl (by kernel_rfl) (by kernel_rfl) (by kernel_rfl) (fun _ _ _ h => h) (Or.inl ⟨by rfl, ?_⟩) (by assumption) ?_; rotate_left; (focus (intro w hSw; ((try dsimp only at hSw); go_simp; try with_reducible rfl))); (try simp only [Act.put, List.setIfInBounds_toArray, List.set_cons_zero, List.set_cons_succ])))
  (first | (refine wpAnyH_take (i := 8) (oi := { dst := some 16, op := Go.Op.call { callee := Go.Callee.value (Go.Operand.func 39), args := #[Go.Operand.tmp 11, Go.Operand.tmp 15], argTypes := #[28, 28] }, type := 4, pos := "origin.go:94", after := #[{ on := 3, ground := Go.Ground.data }, { on := 7, ground := Go.Ground.data }, { on := 2, ground := Go.Ground.chain }, { on := 2, ground := Go.Ground.guard }], guard := some (2, false) }) (v := undef) rfl (by kernel_rfl) (by kernel_rfl) (by kernel_rfl) (fun _ _ _ h => h) (Or.inr ⟨by rfl, rfl⟩) (by assumption) ?_; (try simp only [Act.put, List.setIfInBounds_toArray, List.set_cons_zero, List.set_cons_succ])) | (refine wpAnyH_ready (rs := [8]) (by kernel_rfl) (by simp) ?_; refine AllReadyH.cons (o := { dst := some 16, op := Go.Op.call { callee := Go.Callee.value (Go.Operand.func 39), args := #[Go.Operand.tmp 11, Go.Operand.tmp 15], argTypes := #[28, 28] }, type := 4, pos := "origin.go:94", after := #[{ on := 3, ground := Go.Ground.data }, { on := 7, ground := Go.Ground.data }, { on := 2, ground := Go.Ground.chain }, { on := 2, ground := Go.Ground.guard }], guard := some (2, false) }) rfl (fun K hK => ?_) AllReadyH.nil; go_simp; ((fail)); go_wp2_with fail; refine hK.out _ _ ?_ (fun hHeld => ?_); (focus ((try dsimp only); (try trivial); done)); clear hK; (try simp only [Act.put, List.setIfInBounds_toArray, List.set_cons_zero, List.set_cons_succ])))
  (first | (refine wpAnyH_take (i := 9) (oi := { dst := some 17, op := Go.Op.unOp Go.UnOp.not 4 (Go.Operand.tmp 16), type := 4, pos := "origin.go:94", after := #[{ on := 8, ground := Go.Ground.data }, { on := 2, ground := Go.Ground.guard }], guard := some (2, false) }) (v := undef) rfl (by kernel_rfl) (by kernel_rfl) (by kernel_rfl) (fun _ _ _ h => h) (Or.inr ⟨by rfl, rfl⟩) (by assumption) ?_; (try simp only [Act.put, List.setIfInBounds_toArray, List.set_cons_zero, List.set_cons_succ])) | (refine wpAnyH_take (i := 9) (oi := { dst := some 17, op := Go.Op.unOp Go.UnOp.not 4 (Go.Operand.tmp 16), type := 4, pos := "origin.go:94", after := #[{ on := 8, ground := Go.Ground.data }, { on := 2, ground := Go.Ground.guard }], guard := some (2, false) }) (v := ?_) rfl (by kernel_rfl) (by kernel_rfl) (by kernel_rfl) (fun _ _ _ h => h) (Or.inl ⟨by rfl, ?_⟩) (by assumption) ?_; rotate_left; (focus (intro w hSw; ((try dsimp only at hSw); go_simp; try with_reducible rfl))); (try simp only [Act.put, List.setIfInBounds_toArray, List.set_cons_zero, List.set_cons_succ])))
  (refine wpAnyH_take (i := 10) (oi := { dst := some 18, op := Go.Op.pick (Go.Operand.tmp 10) (Go.Operand.const (Go.Value.bool true)) (Go.Operand.tmp 17), type := 4, pos := "origin.go:94", after := #[{ on := 2, ground := Go.Ground.data }, { on := 9, ground := Go.Ground.data }], guard := none }) (v := ?_) rfl (by kernel_rfl) (by kernel_rfl) (by kernel_rfl) (fun _ _ _ h => h) (Or.inl ⟨by rfl, ?_⟩) (by assumption) ?_; rotate_left; (focus (intro w hSw; ((try dsimp only at hSw); go_simp; try with_reducible rfl))); (try simp only [Act.put, List.setIfInBounds_toArray, List.set_cons_zero, List.set_cons_succ]))
  refine wpAnyH_done (by kernel_rfl) ?_ _
  go_wp2_with fail
  refine bodyPost_ret (v := .tuple #[.slice none 0 0, .bool false]) (by simp [results, Try.results14, go_sem, *]) rfl ⟨rfl, ⟨KK.out.os, KK.out.tape, KK.out.output, KK.out.size, KK.out.block⟩⟩
theorem nget (s q : Int) (w : World) : Calls Try.prog 30 #[.pointer none, .int .i64 s, .int .i64 q] w fun e w' => e = .returned (.tuple #[.agg (rcA rz0 dz0), .bool false]) ∧ Below w.heap.size w w' := by
  go_enter Try.func30, Try.ntmps30
  go_upto_region 1 with fail
  generalize hw1 : World.alloc _ _ = w1
  have KK := Lib.hid (show Kn w.heap.size w [(w.heap.size + 2, rcO rz0 dz0), (w.heap.size + 1, capI q), (w.heap.size, capI s)] w1 by rw [← hw1]; exact ((((Kn.start w).new' rfl (capI s)).new' (n := w.heap.size + 1) (by simp) (capI q)).new' (n := w.heap.size + 2) (by simp) (rcO rz0 dz0)))
  clear hw1
  generalize hg : w.heap.size = p at *
  have C := fun f => nthose 1 f
  go_wp2_with (first
    | (go_at_call 42; refine (C _ _).mono ?_; rintro e wn ⟨rfl, rfl⟩)
    | refine wpList_store_row rfl 30 _ _ rfl (p + 2) (rcA rz0 dz0) rfl rfl 30 _ KK.out.hd (by kernel_rfl) rfl (by simp [Value.oneCell', rcA]) ?_)
  have KF := Kn.setRow (KK.out.sub (m := [(p + 2, rcO rz0 dz0)]) (by simp)) trivial (by omega) (rcO rz0 dz0)
  refine bodyPost_ret (v := .tuple #[.agg (rcA rz0 dz0), .bool false]) (results_cell_tmpO rfl _ _ (p + 2) 30 (rcA rz0 dz0) (0, 0) _ _ rfl rfl KF.hd Try.underlying30 rfl (by kernel_rfl)) rfl ⟨rfl, by first | exact KF.b | (rw [hg]; exact KF.b)⟩
theorem nadd (r : Rc) (d : Sl) (w : World) : Calls Try.prog 13 #[.pointer none, .agg (rcA r d)] w fun e w' => e = .returned (.int .i64 1) ∧ Below w.heap.size w w' := by
  unfold rcA
  go_enter Try.func13, Try.ntmps13
  go_wp2_with fail
  go_ret
  exact ⟨rfl, (Below.refl _ _).alloc (Nat.le_refl _) _⟩
def zM : LogM := ⟨0, [], [], [], 0⟩
theorem log_zero {w : World} {g : Nat} (h : w.heap[g]? = some (logO 0 dz0 dz0 dz0 0)) : LogAt w [g] g zM := by
  have hs : SlR w dz0 [] := ⟨⟨rfl, .inl rfl⟩, Nat.le_refl _, by decide⟩
  exact ⟨dz0, dz0, dz0, [], h, { hb := hs, hk := hs, ha := ⟨rfl, .inl rfl⟩, ac := Nat.le_refl _, am := by decide, ok := by simp, xs := rfl, fb := .inl rfl, fk := .inl rfl, fa := .inl rfl, fr := by simp, sm := by decide, bn := by decide, kn := by decide, mo := ⟨by decide, by decide⟩, ck := (show i64' 0 from ⟨by decide, by decide⟩), fm := .inl rfl }⟩
end
end Go.Proofs.Ytdihbinbkneejaa
