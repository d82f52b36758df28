/- Methods of no peers; zero peers; Pack of no log. -/
import Derived.Test.YtglabahbklpocaaGShipNil48
namespace Go.Proofs.Ytglabahbklpocaa
section
open Go.RowKit Go.Deep
set_option maxRecDepth 100000
set_option linter.unusedVariables false
set_option linter.unusedSimpArgs false
attribute [local go_sem ↓] Go.wp_at_zero Go.wp_at_succ
theorem ngetP (site : Int) (w : World) : Calls Try.prog 33 #[.pointer none, .int .i64 site] w fun e w' => e = .returned (.pointer none) ∧ w = w' := by
  go_enter Try.func33, Try.ntmps33
  go_wp2_with fail
  go_ret
  exact ⟨rfl, rfl⟩
theorem nnoteP (site : Int) (v : Value) (w : World) : Calls Try.prog 14 #[.pointer none, .int .i64 site, v] w fun e w' => e = .returned (.bool false) ∧ w = w' := by
  go_enter Try.func14, Try.ntmps14
  go_wp2_with (go_at_call 33; refine (ngetP _ _).mono ?_; rintro e w1 ⟨rfl, rfl⟩)
  go_ret
  exact ⟨rfl, rfl⟩
theorem nsentP (site n : Int) (w : World) : Calls Try.prog 11 #[.pointer none, .int .i64 site, .int .i64 n] w fun e w' => e = .returned (.bool false) ∧ w = w' := by
  go_enter Try.func11, Try.ntmps11
  go_wp2_with (go_at_call 33; refine (ngetP _ _).mono ?_; rintro e w1 ⟨rfl, rfl⟩)
  go_ret
  exact ⟨rfl, rfl⟩
theorem nofP (site : Int) (w : World) : Calls Try.prog 18 #[.pointer none, .int .i64 site] w fun e w' => e = .returned (.slice none 0 0) ∧ w = w' := by
  go_enter Try.func18, Try.ntmps18
  go_wp2_with (go_at_call 33; refine (ngetP _ _).mono ?_; rintro e w1 ⟨rfl, rfl⟩)
  go_ret
  exact ⟨rfl, rfl⟩
theorem nleastP (v : Value) (w : World) : Calls Try.prog 20 #[.pointer none, v] w fun e w' => e = .returned (.slice none 0 0) ∧ w = w' := by
  go_enter Try.func20, Try.ntmps20
  go_wp2_with fail
  go_ret
  exact ⟨rfl, rfl⟩
set_option maxHeartbeats 2000000 in
theorem nthoseP (f : Value) (w : World) : Calls Try.prog 31 #[.pointer none, f] w fun e w' => e = .returned (.slice none 0 0) ∧ w = w' := by
  go_enter Try.func31, Try.ntmps31
  go_wp2_with fail
  go_loopw [5, 6, 7, 8] (fun out _ _ i wr => ∃ k : Nat, k ≤ 8 ∧ i = .int .i64 k ∧ out = .slice none 0 0 ∧ w = wr) (fun _ _ _ i _ => 9 - (intOf i).toNat)
  case atStart => exact ⟨0, by omega, rfl, rfl, rfl⟩
  case round =>
    obtain ⟨k, hk, rfl, rfl, rfl⟩ := hrel
    by_cases hlt : k < 8
    · have t1 : decide ((k : Int) < 8) = true := decide_eq_true (by omega)
      go_wp2_with (go_at_call 33; refine (ngetP _ _).mono ?_; rintro e w1 ⟨rfl, rfl⟩)
      go_roundw
      case rel => exact ⟨k + 1, by omega, by go_num, rfl, by first | rfl | trivial⟩
      case measure => simp [intOf]; omega
    · obtain rfl : k = 8 := by omega
      have t1 : decide (((8 : Nat) : Int) < 8) = false := decide_eq_false (by omega)
      go_wp2_with fail
      go_ret
      exact ⟨rfl, rfl⟩
theorem nbehP (a : Option Addr) (n c : Nat) (w : World) : Calls Try.prog 22 #[.pointer none, .slice a n c] w fun e w' => e = .returned (.slice none 0 0) ∧ Below w.heap.size w w' := by
  go_enter Try.func22, Try.ntmps22
  go_wp2_with (go_at_call 31; refine (nthoseP _ _).mono ?_; rintro e w1 ⟨rfl, rfl⟩)
  go_ret
  exact ⟨rfl, (Below.refl _ _).alloc (Nat.le_refl _) _⟩
theorem ndueP (n : Int) (w : World) : Calls Try.prog 10 #[.pointer none, .int .i64 n] w fun e w' => e = .returned (.slice none 0 0) ∧ Below w.heap.size w w' := by
  have CK := fun wx => pclock_any n wx
  generalize clockP n = T at *
  go_enter Try.func10, Try.ntmps10
  go_upto_region 2 with (go_at_call 30; refine (CK _).mono ?_; rintro e w1 ⟨rfl, rfl⟩)
  generalize hw1 : World.alloc _ _ = w1
  have KK := Lib.hid (show Kn w.heap.size w [(w.heap.size + 1, capT T), (w.heap.size, .cells #[.pointer none] 24 (0, 0))] w1 by rw [← hw1]; exact ((Kn.start w).new' rfl (.cells #[.pointer none] 24 (0, 0))).new' (n := w.heap.size + 1) (by simp) (capT T))
  clear hw1
  have q0 := KK.out.cell (g := w.heap.size) (o := .cells #[.pointer none] 24 (0, 0)) (by simp) (j := 0) (v := .pointer none) rfl
  go_wp2_with (go_at_call 31; refine (nthoseP _ _).mono ?_; rintro e w1 ⟨rfl, rfl⟩)
  go_ret
  exact ⟨rfl, KK.out.b⟩
theorem nafterP (a : Option Addr) (k c : Nat) (n : Int) (w : World) : Calls Try.prog 45 #[.pointer none, .slice a k c, .int .i64 n] w fun e w' => e = .returned (.tuple #[.slice none 0 0, .bool false]) ∧ Below w.heap.size w w' := by
  go_enter Try.func45, Try.ntmps45
  go_upto_region 1 with fail
  generalize hw1 : World.alloc _ _ = w1
  have KK := Lib.hid (show Below w.heap.size w w1 by rw [← hw1]; exact (Below.refl _ _).alloc (Nat.le_refl _) _)
  clear hw1
  refine wp_region_held_drew (S := (fun _ => True)) (by kernel_rfl) ?_ (fun hHeld => ?_)
  focus ((try dsimp only); (try trivial); done)
  (refine wpAnyH_take (i := 0) (oi := { dst := some 8, op := Go.Op.move (Go.Operand.tmp 0), type := 77, pos := "origin.go:94", after := #[], guard := none }) (v := ?_) rfl (by kernel_rfl) (by kernel_rfl) (by kernel_rfl) (fun _ _ _ h => h) (Or.inl ⟨by rfl, ?_⟩) (by assumption) ?_; rotate_left; (focus (intro w hSw; ((try dsimp only at hSw); go_simp; try with_reducible rfl))); (try simp only [Act.put, List.setIfInBounds_toArray, List.set_cons_zero, List.set_cons_succ]))
  (refine wpAnyH_take (i := 1) (oi := { dst := some 9, op := Go.Op.binOp Go.BinOp.eql 77 (Go.Operand.tmp 8) (Go.Operand.const (Go.Value.pointer none)) 77, type := 4, pos := "origin.go:94", after := #[{ on := 0, ground := Go.Ground.data }], guard := none }) (v := ?_) rfl (by kernel_rfl) (by kernel_rfl) (by kernel_rfl) (fun _ _ _ h => h) (Or.inl ⟨by rfl, ?_⟩) (by assumption) ?_; rotate_left; (focus (intro w hSw; ((try dsimp only at hSw); go_simp; try with_reducible rfl))); (try simp only [Act.put, List.setIfInBounds_toArray, List.set_cons_zero, List.set_cons_succ]))
  (refine wpAnyH_take (i := 2) (oi := { dst := some 10, op := Go.Op.move (Go.Operand.tmp 9), type := 4, pos := "origin.go:94", after := #[{ on := 1, ground := Go.Ground.data }], guard := none }) (v := ?_) rfl (by kernel_rfl) (by kernel_rfl) (by kernel_rfl) (fun _ _ _ h => h) (Or.inl ⟨by rfl, ?_⟩) (by assumption) ?_; rotate_left; (focus (intro w hSw; ((try dsimp only at hSw); go_simp; try with_reducible rfl))); (try simp only [Act.put, List.setIfInBounds_toArray, List.set_cons_zero, List.set_cons_succ]))
  (first | (refine wpAnyH_take (i := 3) (oi := { dst := some 11, op := Go.Op.load 26 (Go.Operand.tmp 4), type := 26, pos := "origin.go:94", after := #[{ on := 2, ground := Go.Ground.guard }], guard := some (2, false) }) (v := undef) rfl (by kernel_rfl) (by kernel_rfl) (by kernel_rfl) (fun _ _ _ h => h) (Or.inr ⟨by rfl, rfl⟩) (by assumption) ?_; (try simp only [Act.put, List.setIfInBounds_toArray, List.set_cons_zero, List.set_cons_succ])) | (refine wpAnyH_take (i := 3) (oi := { dst := some 11, op := Go.Op.load 26 (Go.Operand.tmp 4), type := 26, pos := "origin.go:94", after := #[{ on := 2, ground := Go.Ground.guard }], guard := some (2, false) }) (v := ?_) rfl (by kernel_rfl) (by kernel_rfl) (by kernel_rfl) (fun _ _ _ h => h) (Or.inl ⟨by rfl, ?_⟩) (by assumption) ?_; rotate_left; (focus (intro w hSw; ((try dsimp only at hSw); go_simp; try with_reducible rfl))); (try simp only [Act.put, List.setIfInBounds_toArray, List.set_cons_zero, List.set_cons_succ])))
  (first | (refine wpAnyH_take (i := 4) (oi := { dst := some 12, op := Go.Op.move (Go.Operand.tmp 0), type := 77, pos := "origin.go:94", after := #[{ on := 2, ground := Go.Ground.guard }], guard := some (2, false) }) (v := undef) rfl (by kernel_rfl) (by kernel_rfl) (by kernel_rfl) (fun _ _ _ h => h) (Or.inr ⟨by rfl, rfl⟩) (by assumption) ?_; (try simp only [Act.put, List.setIfInBounds_toArray, List.set_cons_zero, List.set_cons_succ])) | (refine wpAnyH_take (i := 4) (oi := { dst := some 12, op := Go.Op.move (Go.Operand.tmp 0), type := 77, pos := "origin.go:94", after := #[{ on := 2, ground := Go.Ground.guard }], guard := some (2, false) }) (v := ?_) rfl (by kernel_rfl) (by kernel_rfl) (by kernel_rfl) (fun _ _ _ h => h) (Or.inl ⟨by rfl, ?_⟩) (by assumption) ?_; rotate_left; (focus (intro w hSw; ((try dsimp only at hSw); go_simp; try with_reducible rfl))); (try simp only [Act.put, List.setIfInBounds_toArray, List.set_cons_zero, List.set_cons_succ])))
  (first | (refine wpAnyH_take (i := 5) (oi := { dst := some 13, op := Go.Op.nilCheck (Go.Operand.tmp 12), type := 0, pos := "origin.go:94", after := #[{ on := 4, ground := Go.Ground.data }, { on := 2, ground := Go.Ground.guard }], guard := some (2, false) }) (v := undef) rfl (by kernel_rfl) (by kernel_rfl) (by kernel_rfl) (fun _ _ _ h => h) (Or.inr ⟨by rfl, rfl⟩) (by assumption) ?_; (try simp only [Act.put, List.setIfInBounds_toArray, List.set_cons_zero, List.set_cons_succ])) | (refine wpAnyH_take (i := 5) (oi := { dst := some 13, op := Go.Op.nilCheck (Go.Operand.tmp 12), type := 0, pos := "origin.go:94", after := #[{ on := 4, ground := Go.Ground.data }, { on := 2, ground := Go.Ground.guard }], guard := some (2, false) }) (v := ?_) rfl (by kernel_rfl) (by kernel_rfl) (by kernel_rfl) (fun _ _ _ h => h) (Or.inl ⟨by rfl, ?_⟩) (by assumption) ?_; rotate_left; (focus (intro w hSw; ((try dsimp only at hSw); go_simp; try with_reducible rfl))); (try simp only [Act.put, List.setIfInBounds_toArray, List.set_cons_zero, List.set_cons_succ])))
  (first | (refine wpAnyH_take (i := 6) (oi := { dst := some 14, op := Go.Op.fieldAddr 105 (Go.Operand.tmp 13) 1, type := 0, pos := "origin.go:94", after := #[{ on := 5, ground := Go.Ground.data }, { on := 2, ground := Go.Ground.guard }], guard := some (2, false) }) (v := undef) rfl (by kernel_rfl) (by kernel_rfl) (by kernel_rfl) (fun _ _ _ h => h) (Or.inr ⟨by rfl, rfl⟩) (by assumption) ?_; (try simp only [Act.put, List.setIfInBounds_toArray, List.set_cons_zero, List.set_cons_succ])) | (refine wpAnyH_take (i := 6) (oi := { dst := some 14, op := Go.Op.fieldAddr 105 (Go.Operand.tmp 13) 1, type := 0, pos := "origin.go:94", after := #[{ on := 5, ground := Go.Ground.data }, { on := 2, ground := Go.Ground.guard }], guard := some (2, false) }) (v := ?_) rfl (by kernel_rfl) (by kernel_rfl) (by kernel_rfl) (fun _ _ _ h => h) (Or.inl ⟨by rfl, ?_⟩) (by assumption) ?_; rotate_left; (focus (intro w hSw; ((try dsimp only at hSw); go_simp; try with_reducible rfl))); (try simp only [Act.put, List.setIfInBounds_toArray, List.set_cons_zero, List.set_cons_succ])))
  (first | (refine wpAnyH_take (i := 7) (oi := { dst := some 15, op := Go.Op.load 26 (Go.Operand.tmp 14), type := 26, pos := "origin.go:94", after := #[{ on := 6, ground := Go.Ground.data }, { on := 2, ground := Go.Ground.guard }], guard := some (2, false) }) (v := undef) rfl (by kernel_rfl) (by kernel_rfl) (by kernel_rfl) (fun _ _ _ h => h) (Or.inr ⟨by rfl, rfl⟩) (by assumption) ?_; (try simp only [Act.put, List.setIfInBounds_toArray, List.set_cons_zero, List.set_cons_succ])) | (refine wpAnyH_take (i := 7) (oi := { dst := some 15, op := Go.Op.load 26 (Go.Operand.tmp 14), type := 26, pos := "origin.go:94", after := #[{ on := 6, ground := Go.Ground.data }, { on := 2, ground := Go.Ground.guard }], guard := some (2, false) }) (v := ?_) rfl (by kernel_rfl) (by kernel_rfl) (by kernel_rfl) (fun _ _ _ h => h) (Or.inl ⟨by rfl, ?_⟩) (by assumption) ?_; rotate_left; (focus (intro w hSw; ((try dsimp only at hSw); go_simp; try with_reducible rfl))); (try simp only [Act.put, List.setIfInBounds_toArray, List.set_cons_zero, List.set_cons_succ])))
  (first | (refine wpAnyH_take (i := 8) (oi := { dst := some 16, op := Go.Op.call { callee := Go.Callee.value (Go.Operand.func 34), args := #[Go.Operand.tmp 11, Go.Operand.tmp 15], argTypes := #[26, 26] }, type := 4, pos := "origin.go:94", after := #[{ on := 3, ground := Go.Ground.data }, { on := 7, ground := Go.Ground.data }, { on := 2, ground := Go.Ground.chain }, { on := 2, ground := Go.Ground.guard }], guard := some (2, false) }) (v := undef) rfl (by kernel_rfl) (by kernel_rfl) (by kernel_rfl) (fun _ _ _ h => h) (Or.inr ⟨by rfl, rfl⟩) (by assumption) ?_; (try simp only [Act.put, List.setIfInBounds_toArray, List.set_cons_zero, List.set_cons_succ])) | (refine wpAnyH_ready (rs := [8]) (by kernel_rfl) (by simp) ?_; refine AllReadyH.cons (o := { dst := some 16, op := Go.Op.call { callee := Go.Callee.value (Go.Operand.func 34), args := #[Go.Operand.tmp 11, Go.Operand.tmp 15], argTypes := #[26, 26] }, type := 4, pos := "origin.go:94", after := #[{ on := 3, ground := Go.Ground.data }, { on := 7, ground := Go.Ground.data }, { on := 2, ground := Go.Ground.chain }, { on := 2, ground := Go.Ground.guard }], guard := some (2, false) }) rfl (fun K hK => ?_) AllReadyH.nil; go_simp; ((fail)); go_wp2_with fail; refine hK.out _ _ ?_ (fun hHeld => ?_); (focus ((try dsimp only); (try trivial); done)); clear hK; (try simp only [Act.put, List.setIfInBounds_toArray, List.set_cons_zero, List.set_cons_succ])))
  (first | (refine wpAnyH_take (i := 9) (oi := { dst := some 17, op := Go.Op.unOp Go.UnOp.not 4 (Go.Operand.tmp 16), type := 4, pos := "origin.go:94", after := #[{ on := 8, ground := Go.Ground.data }, { on := 2, ground := Go.Ground.guard }], guard := some (2, false) }) (v := undef) rfl (by kernel_rfl) (by kernel_rfl) (by kernel_rfl) (fun _ _ _ h => h) (Or.inr ⟨by rfl, rfl⟩) (by assumption) ?_; (try simp only [Act.put, List.setIfInBounds_toArray, List.set_cons_zero, List.set_cons_succ])) | (refine wpAnyH_take (i := 9) (oi := { dst := some 17, op := Go.Op.unOp Go.UnOp.not 4 (Go.Operand.tmp 16), type := 4, pos := "origin.go:94", after := #[{ on := 8, ground := Go.Ground.data }, { on := 2, ground := Go.Ground.guard }], guard := some (2, false) }) (v := ?_) rfl (by kernel_rfl) (by kernel_rfl) (by kernel_rfl) (fun _ _ _ h => h) (Or.inl ⟨by rfl, ?_⟩) (by assumption) ?_; rotate_left; (focus (intro w hSw; ((try dsimp only at hSw); go_simp; try with_reducible rfl))); (try simp only [Act.put, List.setIfInBounds_toArray, List.set_cons_zero, List.set_cons_succ])))
  (refine wpAnyH_take (i := 10) (oi := { dst := some 18, op := Go.Op.pick (Go.Operand.tmp 10) (Go.Operand.const (Go.Value.bool true)) (Go.Operand.tmp 17), type := 4, pos := "origin.go:94", after := #[{ on := 2, ground := Go.Ground.data }, { on := 9, ground := Go.Ground.data }], guard := none }) (v := ?_) rfl (by kernel_rfl) (by kernel_rfl) (by kernel_rfl) (fun _ _ _ h => h) (Or.inl ⟨by rfl, ?_⟩) (by assumption) ?_; rotate_left; (focus (intro w hSw; ((try dsimp only at hSw); go_simp; try with_reducible rfl))); (try simp only [Act.put, List.setIfInBounds_toArray, List.set_cons_zero, List.set_cons_succ]))
  refine wpAnyH_done (by kernel_rfl) ?_ _
  go_wp2_with fail
  refine bodyPost_ret (v := .tuple #[.slice none 0 0, .bool false]) (by simp [results, Try.results45, go_sem, *]) rfl ⟨rfl, ⟨KK.out.os, KK.out.tape, KK.out.output, KK.out.size, KK.out.block⟩⟩
def zWi : Wi := ⟨0, 0, ⟨#[]⟩, 0, 0, ⟨none, 0, 0⟩, ⟨none, 0, 0⟩, ⟨none, 0, 0⟩, 0⟩
theorem results_cell_tmpH {P : Program} {fn : Func} {p q : Tmp} {ty : TypeId} (h : fn.results = #[.cell p ty, .tmp q]) (tmps : Array Value) (w : World) (g : Nat) (t : TypeId) (cs : Array Value) (fr : Nat × Nat) (d : TypeDesc) (v : Value)
    (hp : tmps.getD p undef = .pointer (some ⟨g, 0, none⟩)) (hv : tmps.getD q undef = v) (hg : w.heap[g]? = some (.cells cs t fr))
    (hu : P.underlying ty = some d) (hd : (match d with | .struct _ | .array _ _ => true | _ => false) = true) (hi : (P.info? ty).map (·.size) = some cs.size) :
    (results fn tmps).run P w = .ok (.tuple #[.agg cs, v]) w := by
  have hp' : tmps[p]?.getD undef = .pointer (some ⟨g, 0, none⟩) := by simpa using hp
  have hv' : tmps[q]?.getD undef = v := by simpa using hv
  simp [results, h, hp', hv', asAddr, run_loadVar_row w g t ty cs fr d hg hu hd hi]
set_option maxHeartbeats 2000000 in
theorem npackP (w : World) : Calls Try.prog 27 #[.pointer none, .slice none 0 0, .slice none 0 0] w fun e w' => e = .returned (.tuple #[.agg zWi.arr, .bool false]) ∧ Below w.heap.size w w' := by
  go_enter Try.func27, Try.ntmps27
  go_upto_region 1 with fail
  generalize hw1 : World.alloc _ _ = w1
  have KK := Lib.hid (show Kn w.heap.size w [(w.heap.size, wiO zWi)] w1 by rw [← hw1]; exact (Kn.start w).new' rfl (wiO zWi))
  clear hw1
  generalize hg : w.heap.size = g at *
  go_wp2_with (first
    | (go_at_call 45; refine (nafterP _ _ _ _ _).mono ?_; rintro e w2 ⟨rfl, dn⟩; have KK := Lib.hid (KK.out.below dn); clear dn)
    | refine wpList_store_row rfl 53 _ _ rfl g zWi.arr rfl rfl 53 _ KK.out.hd (by kernel_rfl) rfl (wi_one _) ?_)
  have KF := Kn.setRow KK.out trivial (by omega) (wiO zWi)
  refine bodyPost_ret (v := .tuple #[.agg zWi.arr, .bool false]) (results_cell_tmpH rfl _ _ g 53 zWi.arr (0, 0) _ _ rfl rfl KF.hd Try.underlying53 rfl (by kernel_rfl)) rfl ⟨rfl, by first | exact KF.b | (rw [hg]; exact KF.b)⟩
def zPe : PeM := ⟨0, 0, 0, fun _ => [], fun _ => false, fun _ => 0⟩
theorem pe_zero {w : World} {g : Nat} (h : w.heap[g]? = some (peO zPe (fun _ => ⟨none, 0, 0⟩))) : PeAt w [g] g zPe := by
  have hn : SlR w ⟨none, 0, 0⟩ [] := ⟨⟨rfl, .inl rfl⟩, Nat.le_refl _, by decide⟩
  have z0 : i64' 0 := ⟨by decide, by decide⟩
  exact ⟨fun _ => ⟨none, 0, 0⟩, h, fun i hi => ⟨hn, .inl rfl, Nat.zero_le _⟩, z0, ⟨Int.le_refl 0, by show (0 : Int) ≤ 8; decide⟩, z0, fun i hi => ⟨Int.le_refl 0, by show (0 : Int) ≤ 1125899906842624; decide⟩⟩
theorem zn_note : noteM zPe 1 [1] = (zPe, false) := by
  have h : isO zPe 1 = false := by decide +kernel
  unfold noteM
  rw [if_neg (by rw [h]; simp)]
theorem zn_due (n : Int) : dueM zPe n = [] := by
  have h : ∀ k : Nat, k < 8 → isO zPe (k : Int) = false := fun k hk => by
    match k, hk with
    | 0, _ | 1, _ | 2, _ | 3, _ | 4, _ | 5, _ | 6, _ | 7, _ => decide +kernel
  have : ∀ k : Nat, k ≤ 8 → thoseK zPe (dueP zPe (clockP n)) k = [] := by
    intro k
    induction k with
    | zero => intro _; rfl
    | succ k ih =>
      intro hk
      unfold thoseK
      rw [if_neg (by rw [h k (by omega)]; simp)]
      exact ih (by omega)
  exact this 8 (Nat.le_refl _)
theorem zn_least : leastM zPe [2] = [2] := by decide +kernel
end
end Go.Proofs.Ytglabahbklpocaa
