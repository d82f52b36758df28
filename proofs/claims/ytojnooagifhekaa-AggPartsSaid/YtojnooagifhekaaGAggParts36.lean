/- The reference's times: a number so many times. -/
import Derived.Test.YtojnooagifhekaaGAggParts27
import Derived.Test.YtojnooagifhekaaGAggParts24
namespace Go.Proofs.Ytojnooagifhekaa
section
open Go.RowKit
set_option maxRecDepth 100000
set_option linter.unusedVariables false
set_option linter.unusedSimpArgs false
theorem wd_held {B k : Nat} {w0 w wd : World} {l : List (Nat × Obj)} {a : Wd} (h : Kn B w0 l w) (hm : (k, wdO a) ∈ l) (e : wd.heap = w.heap) : wd.cell? ⟨k, 0, none⟩ = some (.int .i64 a.hi) ∧ wd.cell? ⟨k, 1, none⟩ = some (.int .u64 a.lo) := by
  have h1 := h.at_ _ hm
  refine ⟨?_, ?_⟩ <;> (simp only [World.cell?, e, h1, wdO]; rfl)
theorem and20 (x : Int) (h : i64 x) : bits .and .i64 x 1048575 = x % 1048576 := by
  unfold i64 at h
  have e1 : (BitVec.ofInt 64 x).toNat % 1048576 = (x % 1048576).toNat := by
    rw [BitVec.toNat_ofInt]
    omega
  show IntKind.i64.wrap ((BitVec.ofInt 64 x &&& BitVec.ofInt 64 1048575).toNat : Int) = _
  rw [BitVec.toNat_and, show (BitVec.ofInt 64 1048575).toNat = 2 ^ 20 - 1 from by decide, Nat.and_two_pow_sub_one_eq_mod, show 2 ^ 20 = 1048576 from rfl, e1, IntKind.wrap_i64]
  omega
theorem times_is (v n : Int) (hv : -9223372036854775808 ≤ v ∧ v ≤ 9223372036854775807) (hn : 0 ≤ n ∧ n ≤ 1099511627776) :
    wd ((wd ((wd ((wd v).v * (n / 1048576))).v * 1048576)).v + (wd ((wd v).v * (n % 1048576))).v) = wd (v * n) := by
  have e0 : (wd v).v = v := v_wd _ (by omega) (by omega)
  rw [e0]
  have e1 := wdv_mul v (n / 1048576) hv ⟨by omega, by omega⟩
  have e2 := wdv_mul v (n % 1048576) hv ⟨by omega, by omega⟩
  rw [e1, e2]
  have e3 : v * (n / 1048576) * 1048576 = v * (n / 1048576 * 1048576) := Int.mul_assoc _ _ _
  have e4 := wdv_mul v (n / 1048576 * 1048576) hv ⟨by omega, by omega⟩
  rw [e3, e4, ← Int.mul_add]
  congr 2
  omega
set_option maxHeartbeats 4000000 in
theorem rtms_any (v n : Int) (w : World) (hv : i64 v) (hn : 0 ≤ n ∧ n ≤ 1099511627776) : Calls Try.prog 70 #[.int .i64 v, .int .i64 n] w fun e w' => e = .returned (wd (v * n)).val ∧ Below w.heap.size w w' := by
  have hT := times_is v n hv hn
  obtain ⟨W, hW⟩ : ∃ W, wd (v * n) = W := ⟨_, rfl⟩
  rw [hW] at hT ⊢
  clear hW
  have ha := and20 n ⟨by omega, by omega⟩
  have hh : n / 2 ^ 20 = n / 1048576 := rfl
  go_enter Try.func70, Try.ntmps70
  have w1 : IntKind.u32.wrap (n / 1048576) = n / 1048576 := by simp [IntKind.wrap, IntKind.bits, IntKind.signed]; omega
  have w2 : IntKind.u32.wrap (n % 1048576) = n % 1048576 := by simp [IntKind.wrap, IntKind.bits, IntKind.signed]; omega
  have r1 : 0 ≤ n / 1048576 ∧ n / 1048576 ≤ 4294967295 := by omega
  have r2 : 0 ≤ n % 1048576 ∧ n % 1048576 ≤ 4294967295 := by omega
  have r3 : (0 : Int) ≤ 1048576 ∧ (1048576 : Int) ≤ 4294967295 := by omega
  have k0 := wd_ok v
  have C0 := fun wx => rof_any v wx hv.1 hv.2
  generalize wd v = A at *
  have C1 := fun wx => rtimes_any A (n / 1048576) wx k0 r1
  have k1 := wd_ok (A.v * (n / 1048576))
  generalize wd (A.v * (n / 1048576)) = B at *
  have C2 := fun wx => rtimes_any B 1048576 wx k1 r3
  have k2 := wd_ok (B.v * 1048576)
  generalize wd (B.v * 1048576) = D at *
  have C3 := fun wx => rtimes_any A (n % 1048576) wx k0 r2
  have k3 := wd_ok (A.v * (n % 1048576))
  generalize wd (A.v * (n % 1048576)) = E at *
  have C4 := fun wx => radd_any D E wx k2 k3
  rw [hT] at C4
  obtain ⟨ah, al⟩ := A
  obtain ⟨bh, bl⟩ := B
  obtain ⟨dh, dl⟩ := D
  obtain ⟨eh, el⟩ := E
  unfold Wd.val at *
  simp only at C0 C1 C2 C3 C4
  clear hT r1 r2 r3 k0 k1 k2 k3
  go_upto_region 3 with fail
  generalize hw1 : World.alloc _ _ = wq
  have KK := Lib.hid (show Kn w.heap.size w [(w.heap.size, wdO ⟨0, 0⟩)] wq by rw [← hw1]; exact ((Kn.start w).new' rfl (wdO ⟨0, 0⟩)))
  clear hw1
  obtain ⟨g, hg⟩ : ∃ g, w.heap.size = g := ⟨_, rfl⟩
  rw [hg] at KK ⊢
  go_upto_region 4 with (first
    | (go_at_call 33; refine (C0 _).mono ?_; rintro e wn ⟨rfl, dn⟩; have KK := Lib.hid (KK.out.below dn); clear dn)
    | (go_at_call 43; refine (C1 _).mono ?_; rintro e wn ⟨rfl, dn⟩; have KK := Lib.hid (KK.out.below dn); clear dn))
  obtain ⟨k, hk⟩ : ∃ k, wn.heap.size = k := ⟨_, rfl⟩
  have K2 := KK.out.new (wdO ⟨bh, bl⟩)
  have hgk : g < k := by have := KK.out.lt (g, wdO ⟨0, 0⟩) (by simp); simp only at this; omega
  rw [hk] at K2
  rw [hk]
  change Kn g w _ (wn.alloc (.cells #[.int .i64 bh, .int .u64 bl] 24 (0, 0))) at K2
  have KK := Lib.hid K2
  clear K2 hk
  generalize World.alloc _ _ = w3 at *
  have q0 := KK.out.cell (g := k) (o := wdO ⟨bh, bl⟩) (by simp) (j := 0) (v := .int .i64 bh) rfl
  have q1 := KK.out.cell (g := k) (o := wdO ⟨bh, bl⟩) (by simp) (j := 1) (v := .int .u64 bl) rfl
  go_upto_region 5 with (first
    | (go_at_call 43; refine (C2 _).mono ?_; rintro e w4 ⟨rfl, dn⟩; have KK := Lib.hid (KK.out.below dn); clear dn)
    | (refine wpList_store_row rfl 24 _ _ rfl k #[.int .i64 dh, .int .u64 dl] rfl rfl 24 _ (KK.out.at_ (k, wdO ⟨bh, bl⟩) (by simp)) (by kernel_rfl) rfl (by simp [Value.oneCell']) ?_))
  have K2 := Kn.setRow KK.out (by simp only [Apart, and_true]; omega) (by omega) (wdO ⟨dh, dl⟩)
  have KK := Lib.hid (K2.sub (m := [(g, wdO ⟨0, 0⟩), (k, wdO ⟨dh, dl⟩)]) (by simp))
  clear K2 q0 q1 C1 C2
  generalize w4.setRow k _ = w5 at *
  refine wp_region_held_drew (S := (fun wx => wx.cell? ⟨k, 0, none⟩ = some (.int .i64 dh) ∧ wx.cell? ⟨k, 1, none⟩ = some (.int .u64 dl))) (by kernel_rfl) ?_ (fun hHeld => ?_)
  focus ((try dsimp only); (try (first | exact wd_held (a := ⟨dh, dl⟩) KK.out (by simp) rfl | exact wd_held (a := ⟨dh, dl⟩) (Kn.setRow (Kn.same KK.out rfl rfl rfl rfl) (by simp only [Apart, and_true]; omega) (by omega) (wdO W)) (by simp) rfl)); done)
  (refine wpAnyH_take (i := 0) (oi := { dst := some 19, op := Go.Op.load 24 (Go.Operand.tmp 7), type := 24, pos := "ref.go:77", after := #[], guard := none }) (v := ?_) rfl (by kernel_rfl) (by kernel_rfl) (by kernel_rfl) (fun _ _ _ h => h) (Or.inl ⟨by rfl, ?_⟩) (by assumption) ?_; rotate_left; (focus (intro w hSw; ((try dsimp only at hSw); go_simp; try with_reducible rfl))); (try simp only [Act.put, List.setIfInBounds_toArray, List.set_cons_zero, List.set_cons_succ]))
  (refine wpAnyH_take (i := 1) (oi := { dst := some 20, op := Go.Op.move (Go.Operand.tmp 0), type := 2, pos := "ref.go:77", after := #[], guard := none }) (v := ?_) rfl (by kernel_rfl) (by kernel_rfl) (by kernel_rfl) (fun _ _ _ h => h) (Or.inl ⟨by rfl, ?_⟩) (by assumption) ?_; rotate_left; (focus (intro w hSw; ((try dsimp only at hSw); go_simp; try with_reducible rfl))); (try simp only [Act.put, List.setIfInBounds_toArray, List.set_cons_zero, List.set_cons_succ]))
  (refine wpAnyH_take (i := 3) (oi := { dst := some 22, op := Go.Op.move (Go.Operand.tmp 6), type := 3, pos := "ref.go:77", after := #[], guard := none }) (v := ?_) rfl (by kernel_rfl) (by kernel_rfl) (by kernel_rfl) (fun _ _ _ h => h) (Or.inl ⟨by rfl, ?_⟩) (by assumption) ?_; rotate_left; (focus (intro w hSw; ((try dsimp only at hSw); go_simp; try with_reducible rfl))); (try simp only [Act.put, List.setIfInBounds_toArray, List.set_cons_zero, List.set_cons_succ]))
  (refine wpAnyH_take (i := 4) (oi := { dst := some 23, op := Go.Op.convert 3 65 (Go.Operand.tmp 22), type := 65, pos := "ref.go:77", after := #[{ on := 3, ground := Go.Ground.data }], guard := none }) (v := ?_) rfl (by kernel_rfl) (by kernel_rfl) (by kernel_rfl) (fun _ _ _ h => h) (Or.inl ⟨by rfl, ?_⟩) (by assumption) ?_; rotate_left; (focus (intro w hSw; ((try dsimp only at hSw); go_simp; try with_reducible rfl))); (try simp only [Act.put, List.setIfInBounds_toArray, List.set_cons_zero, List.set_cons_succ]))
  (refine wpAnyH_ready (rs := [2]) (by kernel_rfl) (by simp) ?_; refine AllReadyH.cons (o := { dst := some 21, op := Go.Op.call { callee := Go.Callee.value (Go.Operand.func 33), args := #[Go.Operand.tmp 20], argTypes := #[2] }, type := 24, pos := "ref.go:77", after := #[{ on := 1, ground := Go.Ground.data }], guard := none }) rfl (fun K hK => ?_) AllReadyH.nil; go_simp; ((first | (go_at_call 33; refine (C0 _).mono ?_; rintro e wn ⟨rfl, dn⟩; have KK := Lib.hid (Kn.later KK.out dn rfl rfl rfl rfl)) | (go_at_call 43; refine (C3 _).mono ?_; rintro e wn ⟨rfl, dn⟩; have KK := Lib.hid (Kn.later KK.out dn rfl rfl rfl rfl)) | (go_at_call 36; refine (C4 _).mono ?_; rintro e wn ⟨rfl, dn⟩; have KK := Lib.hid (Kn.later KK.out dn rfl rfl rfl rfl)))); go_wp2_with fail; refine hK.out _ _ ?_ (fun hHeld => ?_); (focus ((try dsimp only); (try (first | exact wd_held (a := ⟨dh, dl⟩) KK.out (by simp) rfl | exact wd_held (a := ⟨dh, dl⟩) (Kn.setRow (Kn.same KK.out rfl rfl rfl rfl) (by simp only [Apart, and_true]; omega) (by omega) (wdO W)) (by simp) rfl)); done)); clear hK; (try simp only [Act.put, List.setIfInBounds_toArray, List.set_cons_zero, List.set_cons_succ]))
  (refine wpAnyH_ready (rs := [5]) (by kernel_rfl) (by simp) ?_; refine AllReadyH.cons (o := { dst := some 24, op := Go.Op.call { callee := Go.Callee.value (Go.Operand.func 43), args := #[Go.Operand.tmp 21, Go.Operand.tmp 23], argTypes := #[24, 65] }, type := 24, pos := "ref.go:77", after := #[{ on := 2, ground := Go.Ground.data }, { on := 4, ground := Go.Ground.data }, { on := 2, ground := Go.Ground.chain }], guard := none }) rfl (fun K hK => ?_) AllReadyH.nil; go_simp; ((first | (go_at_call 33; refine (C0 _).mono ?_; rintro e wn ⟨rfl, dn⟩; have KK := Lib.hid (Kn.later KK.out dn rfl rfl rfl rfl)) | (go_at_call 43; refine (C3 _).mono ?_; rintro e wn ⟨rfl, dn⟩; have KK := Lib.hid (Kn.later KK.out dn rfl rfl rfl rfl)) | (go_at_call 36; refine (C4 _).mono ?_; rintro e wn ⟨rfl, dn⟩; have KK := Lib.hid (Kn.later KK.out dn rfl rfl rfl rfl)))); go_wp2_with fail; refine hK.out _ _ ?_ (fun hHeld => ?_); (focus ((try dsimp only); (try (first | exact wd_held (a := ⟨dh, dl⟩) KK.out (by simp) rfl | exact wd_held (a := ⟨dh, dl⟩) (Kn.setRow (Kn.same KK.out rfl rfl rfl rfl) (by simp only [Apart, and_true]; omega) (by omega) (wdO W)) (by simp) rfl)); done)); clear hK; (try simp only [Act.put, List.setIfInBounds_toArray, List.set_cons_zero, List.set_cons_succ]))
  (refine wpAnyH_ready (rs := [6]) (by kernel_rfl) (by simp) ?_; refine AllReadyH.cons (o := { dst := some 25, op := Go.Op.call { callee := Go.Callee.value (Go.Operand.func 36), args := #[Go.Operand.tmp 19, Go.Operand.tmp 24], argTypes := #[24, 24] }, type := 24, pos := "ref.go:77", after := #[{ on := 0, ground := Go.Ground.data }, { on := 5, ground := Go.Ground.data }, { on := 5, ground := Go.Ground.chain }], guard := none }) rfl (fun K hK => ?_) AllReadyH.nil; go_simp; ((first | (go_at_call 33; refine (C0 _).mono ?_; rintro e wn ⟨rfl, dn⟩; have KK := Lib.hid (Kn.later KK.out dn rfl rfl rfl rfl)) | (go_at_call 43; refine (C3 _).mono ?_; rintro e wn ⟨rfl, dn⟩; have KK := Lib.hid (Kn.later KK.out dn rfl rfl rfl rfl)) | (go_at_call 36; refine (C4 _).mono ?_; rintro e wn ⟨rfl, dn⟩; have KK := Lib.hid (Kn.later KK.out dn rfl rfl rfl rfl)))); go_wp2_with fail; refine hK.out _ _ ?_ (fun hHeld => ?_); (focus ((try dsimp only); (try (first | exact wd_held (a := ⟨dh, dl⟩) KK.out (by simp) rfl | exact wd_held (a := ⟨dh, dl⟩) (Kn.setRow (Kn.same KK.out rfl rfl rfl rfl) (by simp only [Apart, and_true]; omega) (by omega) (wdO W)) (by simp) rfl)); done)); clear hK; (try simp only [Act.put, List.setIfInBounds_toArray, List.set_cons_zero, List.set_cons_succ]))
  (refine wpAnyH_ready (rs := [7]) (by kernel_rfl) (by simp) ?_; refine AllReadyH.cons (o := { dst := none, op := Go.Op.store 24 (Go.Operand.tmp 4) (Go.Operand.tmp 25), type := 0, pos := "ref.go:77", after := #[{ on := 6, ground := Go.Ground.data }, { on := 6, ground := Go.Ground.chain }, { on := 0, ground := Go.Ground.phase }, { on := 1, ground := Go.Ground.phase }, { on := 2, ground := Go.Ground.phase }, { on := 3, ground := Go.Ground.phase }, { on := 4, ground := Go.Ground.phase }, { on := 5, ground := Go.Ground.phase }, { on := 6, ground := Go.Ground.phase }], guard := none }) rfl (fun K hK => ?_) AllReadyH.nil; ((refine wp_store_row 24 _ _ rfl g #[.int .i64 W.hi, .int .u64 W.lo] rfl rfl 24 _ ((Kn.same KK.out rfl rfl rfl rfl).at_ (g, wdO ⟨0, 0⟩) (by simp)) (by kernel_rfl) rfl (by simp [Value.oneCell']) ?_)); refine hK.out _ _ ?_ (fun hHeld => ?_); (focus ((try dsimp only); (try (first | exact wd_held (a := ⟨dh, dl⟩) KK.out (by simp) rfl | exact wd_held (a := ⟨dh, dl⟩) (Kn.setRow (Kn.same KK.out rfl rfl rfl rfl) (by simp only [Apart, and_true]; omega) (by omega) (wdO W)) (by simp) rfl)); done)); clear hK; (try simp only [Act.put, List.setIfInBounds_toArray, List.set_cons_zero, List.set_cons_succ]))
  refine wpAnyH_done (by kernel_rfl) ?_ _
  skip
  have KF := Kn.setRow (Kn.same KK.out rfl rfl rfl rfl) (by simp only [Apart, and_true]; omega) (by omega) (wdO W)
  go_wp2_with fail
  refine bodyPost_ret (v := W.val) (results_cell_row rfl _ _ g 24 #[.int .i64 W.hi, .int .u64 W.lo] (0, 0) _ rfl KF.hd Try.underlying24 rfl (by kernel_rfl)) rfl ⟨rfl, by rw [hg]; exact KF.b⟩
end
end Go.Proofs.Ytojnooagifhekaa
