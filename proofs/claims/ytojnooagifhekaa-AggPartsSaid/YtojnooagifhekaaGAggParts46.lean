/- agg.Bytes; the reference's. -/
import Derived.Test.YtojnooagifhekaaGAggParts37
import Derived.Test.YtojnooagifhekaaGAggParts43
import Derived.Test.YtojnooagifhekaaGAggParts44
import Derived.Test.YtojnooagifhekaaGAggParts45
namespace Go.Proofs.Ytojnooagifhekaa
section
open Go.RowKit
set_option maxRecDepth 100000
set_option linter.unusedVariables false
set_option linter.unusedSimpArgs false
attribute [local go_sem ↓] Go.wp_at_zero Go.wp_at_succ
theorem reads3 (w : World) (T : TypeId) (x y z : Int) : ReadsI .i64 (w.alloc (.cells #[.int .i64 x, .int .i64 y, .int .i64 z] T)) (some ⟨w.heap.size, 0, none⟩) 3 [x, y, z] := by
  refine ⟨rfl, .inr ⟨w.heap.size, 0, rfl, by simp, fun j hj => ?_⟩⟩
  rw [Nat.zero_add, World.cell?_alloc_new]
  match j, hj with
  | 0, _ | 1, _ | 2, _ => rfl
theorem agh {B g : Nat} {w0 w wd : World} {l : List (Nat × Obj)} {a : Ag} (h : Kn B w0 l w) (hm : (g, agO a) ∈ l) (e : wd.heap = w.heap) :
    wd.cell? ⟨g, 1, none⟩ = some (.int .i64 a.sum.hi) ∧ wd.cell? ⟨g, 2, none⟩ = some (.int .u64 a.sum.lo) ∧ wd.cell? ⟨g, 3, none⟩ = some (.int .i64 a.mn) ∧ wd.cell? ⟨g, 4, none⟩ = some (.int .i64 a.mx) ∧ wd.cell? ⟨g, 5, none⟩ = some (.int .i64 a.last) ∧ wd.cell? ⟨g, 6, none⟩ = some (.int .i64 a.at_.clock) ∧ wd.cell? ⟨g, 7, none⟩ = some (.int .i64 a.at_.site) ∧ wd.cell? ⟨g, 8, none⟩ = some (.int .i64 a.at_.seq) := by
  have h1 := h.at_ _ hm
  refine ⟨?_, ?_, ?_, ?_, ?_, ?_, ?_, ?_⟩ <;> (simp only [World.cell?, e, h1, agO]; rfl)
theorem reads_kn {B k : Nat} {w0 w wd : World} {l : List (Nat × Obj)} {T : TypeId} {x y z : Int} (h : Kn B w0 l w) (hm : (k, Obj.cells #[.int .i64 x, .int .i64 y, .int .i64 z] T (0, 0)) ∈ l) (e : wd.heap = w.heap) : ReadsI .i64 wd (some ⟨k, 0, none⟩) 3 [x, y, z] := by
  have h1 := h.at_ _ hm
  simp only at h1
  refine ⟨rfl, .inr ⟨k, 0, rfl, by rw [e]; exact heap_lt h1, fun j hj => ?_⟩⟩
  rw [Nat.zero_add]
  simp only [World.cell?, e, h1]
  match j, hj with
  | 0, _ | 1, _ | 2, _ => rfl
theorem bytes_pre {a : Ag} (h : okV a.at_ = true) (hc : a.cnt ≠ 0) (V1 : ByteArray) (hV : V1.data.toList = vall [a.mn, a.mx, a.last]) :
    (vput a.cnt ++ (bytesW a.sum.v ++ V1 ++ stB a.at_) ++ ⟨(mcat a.bk).toArray⟩) = agB a ∧ (vput a.cnt ++ bytesW a.sum.v ++ V1 ++ stB a.at_ ++ ⟨(mcat a.bk).toArray⟩) = agB a := by
  have e : agL8 a = putB 9 a.cnt ++ ((bytesW a.sum.v).data.toList ++ (vall [a.mn, a.mx, a.last] ++ (stL a.at_ ++ mcat a.bk))) := by unfold agL8; rw [if_neg hc]
  constructor
  all_goals
    apply ByteArray.ext
    apply Array.ext'
    show _ = agL8 a
    rw [e, stB_data _ h]
    simp only [ByteArray.data_append, Array.toList_append, vput_data, hV, List.append_assoc]
theorem mcat_next (l : List Int) (k : Nat) (hk : k < l.length) : (⟨(mcat (l.take (k + 1))).toArray⟩ : ByteArray) = ⟨(mcat (l.take k)).toArray⟩ ++ vput (l.getD k 0) := by
  apply ByteArray.ext
  apply Array.ext'
  rw [ByteArray.data_append, Array.toList_append, vput_data, List.take_succ_eq_append_getElem hk, List.getD_eq_getElem?_getD, List.getElem?_eq_getElem hk]
  show mcat (_ ++ _) = mcat _ ++ _
  rw [mcat_append, mcat_one]
  rfl
theorem mcatB_size (l : List Int) (k : Nat) (hl : l.length = 9) : (⟨(mcat (l.take k)).toArray⟩ : ByteArray).size ≤ 90 := by
  have h := mcat_len (l.take k)
  show (mcat (l.take k)).length ≤ 90
  rw [List.length_take] at h
  omega
set_option maxHeartbeats 8000000 in
theorem abytes_any (a : Ag) (w : World) (ha : a.ok) : Calls Try.prog 28 #[a.val] w fun e w' => e = .returned (.tuple #[.string (bytesA a).1, .int .i64 (bytesA a).2]) ∧ Below w.heap.size w w' := by
  obtain ⟨V, HV⟩ : ∃ V, Hid (V = bytesA a) := ⟨_, rfl⟩
  rw [← HV.out]
  have HL : Hid (a.bk.length = 9) := ha.2.2.2.2.2.2.1
  have CH := fun wx => acheck_any a wx ha
  have HOK := Lib.hid ha
  unfold Ag.val at CH ⊢
  rcases chkA_cases a with ⟨ho, hc⟩ | ⟨ho, hc⟩
  · rw [hc] at CH
    clear hc
    have HV := Lib.hid (HV.out.trans (bytesA_0 ho))
    have HO := Lib.hid ho
    clear ho
    go_enter Try.func28, Try.ntmps28
    go_upto_region 1 with (fail)
    generalize hw1 : w.alloc (.cells a.cs.toArray 29) = w1
    have KK := Lib.hid (show Kn w.heap.size w [(w.heap.size, agO a)] w1 by rw [← hw1]; exact (Kn.start w).new (agO a))
    clear hw1
    generalize hg : w.heap.size = g at *
    have hcr : 0 ≤ a.cnt ∧ a.cnt < 18446744073709551616 := by have h1 := HO.out.c0; have h2 := HO.out.c1; omega
    have hwu : IntKind.u64.wrap a.cnt = a.cnt := by rw [wrap_u64]; omega
    have PC := fun wx => put_any a.cnt wx hcr.1 hcr.2
    go_upto_region 4 with (first
      | refine wpList_load_row rfl 29 _ rfl g rfl 29 a.cs.toArray (0, 0) _ KK.out.hd Try.underlying29 rfl (ag_size HL.out) ?_
      | (go_at_call 30; refine (CH _).mono ?_; rintro e w2 ⟨rfl, dn⟩; have KK := Lib.hid (KK.out.below dn); clear dn))
    have c0 := KK.out.cell (g := g) (o := agO a) (by simp) (ag_c0 a)
    go_upto_region 5 with (first
      | (go_at_call 58; refine (PC _).mono ?_; rintro e w3 ⟨rfl, dn⟩; have KK := Lib.hid (KK.out.below dn); clear dn))
    clear c0
    have c0 := KK.out.cell (g := g) (o := agO a) (by simp) (ag_c0 a)
    by_cases hz : a.cnt = 0
    · have u2 : (a.cnt == 0) = true := beq_iff_eq.2 hz
      have HE : Hid (vput a.cnt = agB a) := by
        apply ByteArray.ext
        apply Array.ext'
        rw [vput_data]
        show _ = agL8 a
        unfold agL8
        rw [if_pos hz, hz]
      clear hz
      go_wp2_with fail
      refine bodyPost_ret (v := .tuple #[.string (vput a.cnt), .int .i64 0]) (by simp [results, Try.results28, go_sem, *]) rfl ⟨by rw [HV.out, HE.out], by first | exact KK.out.b | (rw [hg]; exact KK.out.b)⟩
    · have u2 : (a.cnt == 0) = false := beq_eq_false_iff_ne.2 hz
      have hs1 := vput_le a.cnt
      have HP := Lib.hid (fun V1 hV => (bytes_pre (HO.out.at_ (by have := HO.out.c0; omega)) hz V1 hV).1)
      clear hz
      go_upto_region 7 with fail
      clear c0 u2 PC CH
      have hmn := HOK.out.2.2.1
      have hmx := HOK.out.2.2.2.1
      have hla := HOK.out.2.2.2.2.1
      have BW := fun wx => bytes_any a.sum wx HOK.out.2.1
      have ST := fun wx => stbytes_any a.at_ wx
      have HRG : Hid (∀ x ∈ [a.mn, a.mx, a.last], -9223372036854775808 ≤ x ∧ x ≤ 9223372036854775807) := (by intro x hx; simp only [List.mem_cons, List.mem_nil_iff, or_false] at hx; rcases hx with rfl | rfl | rfl; exact hmn; exact hmx; exact hla)
      have AL := fun wx => all_any (some ⟨wx.heap.size, 0, none⟩) 3 3 [a.mn, a.mx, a.last] _ (reads3 wx 2 a.mn a.mx a.last) (by decide) HRG.out
      have z1 : (bytesW a.sum.v).size ≤ 16 := by rw [bytesW_size]; exact Nat.le_refl _
      have z2 : (stB a.at_).size ≤ 30 := by
        unfold stB
        split
        · have h1 := vput_le a.at_.clock; have h2 := vput_le a.at_.site; have h3 := vput_le a.at_.seq
          rw [ByteArray.size_append, ByteArray.size_append]; omega
        · decide
      obtain ⟨V1, hV1⟩ : ∃ V1 : ByteArray, (⟨(vall [a.mn, a.mx, a.last]).toArray⟩ : ByteArray) = V1 := ⟨_, rfl⟩
      have HE := Lib.hid (HP.out V1 (by rw [← hV1]))
      have z3 : V1.size ≤ 30 := by
        rw [← hV1]
        have h3 := vall_length [a.mn, a.mx, a.last]
        exact h3
      rw [hV1] at AL
      clear HP
      generalize vput a.cnt = S0 at *
      generalize bytesW a.sum.v = S1 at *
      generalize stB a.at_ = S2 at *
      unfold Wd.val at BW
      unfold St.val at ST
      have n1 : ¬ (9223372036854775807 < S1.size + V1.size) := by omega
      have n2 : ¬ (9223372036854775807 < S1.size + V1.size + S2.size) := by omega
      have n3 : ¬ (9223372036854775807 < (S1 ++ V1).size + S2.size) := by rw [ByteArray.size_append]; omega
      have n4 : ¬ (9223372036854775807 < S0.size + (S1 ++ V1 ++ S2).size) := by rw [ByteArray.size_append, ByteArray.size_append]; omega
      have n5 : ¬ (9223372036854775807 < S0.size + (S1.size + V1.size + S2.size)) := by omega
      refine wp_region_held_drew (S := (fun wx => wx.cell? ⟨g, 1, none⟩ = some (.int .i64 a.sum.hi) ∧ wx.cell? ⟨g, 2, none⟩ = some (.int .u64 a.sum.lo) ∧ wx.cell? ⟨g, 3, none⟩ = some (.int .i64 a.mn) ∧ wx.cell? ⟨g, 4, none⟩ = some (.int .i64 a.mx) ∧ wx.cell? ⟨g, 5, none⟩ = some (.int .i64 a.last) ∧ wx.cell? ⟨g, 6, none⟩ = some (.int .i64 a.at_.clock) ∧ wx.cell? ⟨g, 7, none⟩ = some (.int .i64 a.at_.site) ∧ wx.cell? ⟨g, 8, none⟩ = some (.int .i64 a.at_.seq))) (by kernel_rfl) ?_ (fun hHeld => ?_)
      focus ((try dsimp only); (try (first | exact agh (a := a) KK.out (by simp) rfl | exact agh (a := a) (KK.out.new (.cells #[.int .i64 a.mn, .int .i64 a.mx, .int .i64 a.last] 2 (0, 0))) (by simp) rfl)); done)
      (refine wpAnyH_take (i := 0) (oi := { dst := some 21, op := Go.Op.move (Go.Operand.tmp 5), type := 9, pos := "agg.go:117", after := #[], guard := none }) (v := ?_) rfl (by kernel_rfl) (by kernel_rfl) (by kernel_rfl) (fun _ _ _ h => h) (Or.inl ⟨by rfl, ?_⟩) (by assumption) ?_; rotate_left; (focus (intro w hSw; ((try dsimp only at hSw); go_simp; try with_reducible rfl))); (try simp only [Act.put, List.setIfInBounds_toArray, List.set_cons_zero, List.set_cons_succ]))
      (refine wpAnyH_take (i := 1) (oi := { dst := some 22, op := Go.Op.fieldAddr 29 (Go.Operand.tmp 1) 1, type := 0, pos := "agg.go:117", after := #[], guard := none }) (v := ?_) rfl (by kernel_rfl) (by kernel_rfl) (by kernel_rfl) (fun _ _ _ h => h) (Or.inl ⟨by rfl, ?_⟩) (by assumption) ?_; rotate_left; (focus (intro w hSw; ((try dsimp only at hSw); go_simp; try with_reducible rfl))); (try simp only [Act.put, List.setIfInBounds_toArray, List.set_cons_zero, List.set_cons_succ]))
      (refine wpAnyH_take (i := 2) (oi := { dst := some 23, op := Go.Op.load 24 (Go.Operand.tmp 22), type := 24, pos := "agg.go:117", after := #[{ on := 1, ground := Go.Ground.data }], guard := none }) (v := ?_) rfl (by kernel_rfl) (by kernel_rfl) (by kernel_rfl) (fun _ _ _ h => h) (Or.inl ⟨by rfl, ?_⟩) (by assumption) ?_; rotate_left; (focus (intro w hSw; ((try dsimp only at hSw); go_simp; try with_reducible rfl))); (try simp only [Act.put, List.setIfInBounds_toArray, List.set_cons_zero, List.set_cons_succ]))
      (refine wpAnyH_take (i := 4) (oi := { dst := some 25, op := Go.Op.fieldAddr 29 (Go.Operand.tmp 1) 2, type := 0, pos := "agg.go:117", after := #[], guard := none }) (v := ?_) rfl (by kernel_rfl) (by kernel_rfl) (by kernel_rfl) (fun _ _ _ h => h) (Or.inl ⟨by rfl, ?_⟩) (by assumption) ?_; rotate_left; (focus (intro w hSw; ((try dsimp only at hSw); go_simp; try with_reducible rfl))); (try simp only [Act.put, List.setIfInBounds_toArray, List.set_cons_zero, List.set_cons_succ]))
      (refine wpAnyH_take (i := 5) (oi := { dst := some 26, op := Go.Op.load 2 (Go.Operand.tmp 25), type := 2, pos := "agg.go:117", after := #[{ on := 4, ground := Go.Ground.data }], guard := none }) (v := ?_) rfl (by kernel_rfl) (by kernel_rfl) (by kernel_rfl) (fun _ _ _ h => h) (Or.inl ⟨by rfl, ?_⟩) (by assumption) ?_; rotate_left; (focus (intro w hSw; ((try dsimp only at hSw); go_simp; try with_reducible rfl))); (try simp only [Act.put, List.setIfInBounds_toArray, List.set_cons_zero, List.set_cons_succ]))
      (refine wpAnyH_take (i := 6) (oi := { dst := some 27, op := Go.Op.fieldAddr 29 (Go.Operand.tmp 1) 3, type := 0, pos := "agg.go:117", after := #[], guard := none }) (v := ?_) rfl (by kernel_rfl) (by kernel_rfl) (by kernel_rfl) (fun _ _ _ h => h) (Or.inl ⟨by rfl, ?_⟩) (by assumption) ?_; rotate_left; (focus (intro w hSw; ((try dsimp only at hSw); go_simp; try with_reducible rfl))); (try simp only [Act.put, List.setIfInBounds_toArray, List.set_cons_zero, List.set_cons_succ]))
      (refine wpAnyH_take (i := 7) (oi := { dst := some 28, op := Go.Op.load 2 (Go.Operand.tmp 27), type := 2, pos := "agg.go:117", after := #[{ on := 6, ground := Go.Ground.data }], guard := none }) (v := ?_) rfl (by kernel_rfl) (by kernel_rfl) (by kernel_rfl) (fun _ _ _ h => h) (Or.inl ⟨by rfl, ?_⟩) (by assumption) ?_; rotate_left; (focus (intro w hSw; ((try dsimp only at hSw); go_simp; try with_reducible rfl))); (try simp only [Act.put, List.setIfInBounds_toArray, List.set_cons_zero, List.set_cons_succ]))
      (refine wpAnyH_take (i := 8) (oi := { dst := some 29, op := Go.Op.fieldAddr 29 (Go.Operand.tmp 1) 4, type := 0, pos := "agg.go:117", after := #[], guard := none }) (v := ?_) rfl (by kernel_rfl) (by kernel_rfl) (by kernel_rfl) (fun _ _ _ h => h) (Or.inl ⟨by rfl, ?_⟩) (by assumption) ?_; rotate_left; (focus (intro w hSw; ((try dsimp only at hSw); go_simp; try with_reducible rfl))); (try simp only [Act.put, List.setIfInBounds_toArray, List.set_cons_zero, List.set_cons_succ]))
      (refine wpAnyH_take (i := 9) (oi := { dst := some 30, op := Go.Op.load 2 (Go.Operand.tmp 29), type := 2, pos := "agg.go:117", after := #[{ on := 8, ground := Go.Ground.data }], guard := none }) (v := ?_) rfl (by kernel_rfl) (by kernel_rfl) (by kernel_rfl) (fun _ _ _ h => h) (Or.inl ⟨by rfl, ?_⟩) (by assumption) ?_; rotate_left; (focus (intro w hSw; ((try dsimp only at hSw); go_simp; try with_reducible rfl))); (try simp only [Act.put, List.setIfInBounds_toArray, List.set_cons_zero, List.set_cons_succ]))
      (refine wpAnyH_take (i := 13) (oi := { dst := some 34, op := Go.Op.fieldAddr 29 (Go.Operand.tmp 1) 5, type := 0, pos := "agg.go:117", after := #[], guard := none }) (v := ?_) rfl (by kernel_rfl) (by kernel_rfl) (by kernel_rfl) (fun _ _ _ h => h) (Or.inl ⟨by rfl, ?_⟩) (by assumption) ?_; rotate_left; (focus (intro w hSw; ((try dsimp only at hSw); go_simp; try with_reducible rfl))); (try simp only [Act.put, List.setIfInBounds_toArray, List.set_cons_zero, List.set_cons_succ]))
      (refine wpAnyH_take (i := 14) (oi := { dst := some 35, op := Go.Op.load 26 (Go.Operand.tmp 34), type := 26, pos := "agg.go:117", after := #[{ on := 13, ground := Go.Ground.data }], guard := none }) (v := ?_) rfl (by kernel_rfl) (by kernel_rfl) (by kernel_rfl) (fun _ _ _ h => h) (Or.inl ⟨by rfl, ?_⟩) (by assumption) ?_; rotate_left; (focus (intro w hSw; ((try dsimp only at hSw); go_simp; try with_reducible rfl))); (try simp only [Act.put, List.setIfInBounds_toArray, List.set_cons_zero, List.set_cons_succ]))
      (first
        | (refine wpAnyH_ready (rs := [3, 10]) (by kernel_rfl) (by simp) ?_
           refine AllReadyH.cons (o := { dst := some 24, op := Go.Op.call { callee := Go.Callee.value (Go.Operand.func 59), args := #[Go.Operand.tmp 23], argTypes := #[24] }, type := 9, pos := "agg.go:117", after := #[{ on := 2, ground := Go.Ground.data }], guard := none }) rfl (fun K hK3 => ?_) (AllReadyH.cons (o := { dst := some 31, op := Go.Op.buildSlice 84 3 #[(0, Go.Operand.tmp 26), (1, Go.Operand.tmp 28), (2, Go.Operand.tmp 30)], type := 84, pos := "agg.go:117", after := #[{ on := 5, ground := Go.Ground.data }, { on := 7, ground := Go.Ground.data }, { on := 9, ground := Go.Ground.data }], guard := none }) rfl (fun K hK10 => ?_) AllReadyH.nil)
           all_goals (first
             | (have _tok := hK3
                clear _tok
                (go_simp; ((first | (go_at_call 59; refine (BW _).mono ?_; rintro e wn ⟨rfl, dn⟩; first | have KK := Lib.hid (Kn.later KK.out dn rfl rfl rfl rfl) | have KK := Lib.hid (Kn.later (KK.out.new (.cells #[.int .i64 a.mn, .int .i64 a.mx, .int .i64 a.last] 2 (0, 0))) dn rfl rfl rfl rfl)) | (go_at_call 60; first | (refine (all_any (some ⟨_, 0, none⟩) 3 3 [a.mn, a.mx, a.last] _ (reads_kn (T := 2) KK.out (List.mem_cons_self ..) rfl) (by decide) HRG.out).mono ?_; rw [hV1]; rintro e wn ⟨rfl, dn⟩; have KK := Lib.hid (Kn.later KK.out dn rfl rfl rfl rfl)) | (refine (AL _).mono ?_; rintro e wn ⟨rfl, dn⟩; have KK := Lib.hid ((Kn.later (KK.out.new (.cells #[.int .i64 a.mn, .int .i64 a.mx, .int .i64 a.last] 2 (0, 0))) dn rfl rfl rfl rfl).tl))) | (go_at_call 61; refine (ST _).mono ?_; rintro e wn ⟨rfl, dn⟩; have KK := Lib.hid (Kn.later KK.out dn rfl rfl rfl rfl)))); go_wp2_with fail; refine hK3.out _ _ ?_ (fun hHeld => ?_); (focus ((try dsimp only); (try (first | exact agh (a := a) KK.out (by simp) rfl | exact agh (a := a) (KK.out.new (.cells #[.int .i64 a.mn, .int .i64 a.mx, .int .i64 a.last] 2 (0, 0))) (by simp) rfl)); done)); clear hK3; (try simp only [Act.put, List.setIfInBounds_toArray, List.set_cons_zero, List.set_cons_succ]))
                (refine wpAnyH_ready (rs := [10]) (by kernel_rfl) (by simp) ?_; refine AllReadyH.cons (o := { dst := some 31, op := Go.Op.buildSlice 84 3 #[(0, Go.Operand.tmp 26), (1, Go.Operand.tmp 28), (2, Go.Operand.tmp 30)], type := 84, pos := "agg.go:117", after := #[{ on := 5, ground := Go.Ground.data }, { on := 7, ground := Go.Ground.data }, { on := 9, ground := Go.Ground.data }], guard := none }) rfl (fun K hK => ?_) AllReadyH.nil; go_simp; refine hK.out _ _ ?_ (fun hHeld => ?_); (focus ((try dsimp only); (try (first | exact agh (a := a) KK.out (by simp) rfl | exact agh (a := a) (KK.out.new (.cells #[.int .i64 a.mn, .int .i64 a.mx, .int .i64 a.last] 2 (0, 0))) (by simp) rfl)); done)); clear hK; (try simp only [Act.put, List.setIfInBounds_toArray, List.set_cons_zero, List.set_cons_succ]))
                (refine wpAnyH_ready (rs := [11]) (by kernel_rfl) (by simp) ?_; refine AllReadyH.cons (o := { dst := some 32, op := Go.Op.call { callee := Go.Callee.value (Go.Operand.func 60), args := #[Go.Operand.tmp 31], argTypes := #[84] }, type := 9, pos := "agg.go:117", after := #[{ on := 10, ground := Go.Ground.data }, { on := 3, ground := Go.Ground.chain }], guard := none }) rfl (fun K hK => ?_) AllReadyH.nil; go_simp; ((first | (go_at_call 59; refine (BW _).mono ?_; rintro e wn ⟨rfl, dn⟩; first | have KK := Lib.hid (Kn.later KK.out dn rfl rfl rfl rfl) | have KK := Lib.hid (Kn.later (KK.out.new (.cells #[.int .i64 a.mn, .int .i64 a.mx, .int .i64 a.last] 2 (0, 0))) dn rfl rfl rfl rfl)) | (go_at_call 60; first | (refine (all_any (some ⟨_, 0, none⟩) 3 3 [a.mn, a.mx, a.last] _ (reads_kn (T := 2) KK.out (List.mem_cons_self ..) rfl) (by decide) HRG.out).mono ?_; rw [hV1]; rintro e wn ⟨rfl, dn⟩; have KK := Lib.hid (Kn.later KK.out dn rfl rfl rfl rfl)) | (refine (AL _).mono ?_; rintro e wn ⟨rfl, dn⟩; have KK := Lib.hid ((Kn.later (KK.out.new (.cells #[.int .i64 a.mn, .int .i64 a.mx, .int .i64 a.last] 2 (0, 0))) dn rfl rfl rfl rfl).tl))) | (go_at_call 61; refine (ST _).mono ?_; rintro e wn ⟨rfl, dn⟩; have KK := Lib.hid (Kn.later KK.out dn rfl rfl rfl rfl)))); go_wp2_with fail; refine hK.out _ _ ?_ (fun hHeld => ?_); (focus ((try dsimp only); (try (first | exact agh (a := a) KK.out (by simp) rfl | exact agh (a := a) (KK.out.new (.cells #[.int .i64 a.mn, .int .i64 a.mx, .int .i64 a.last] 2 (0, 0))) (by simp) rfl)); done)); clear hK; (try simp only [Act.put, List.setIfInBounds_toArray, List.set_cons_zero, List.set_cons_succ]))
                (refine wpAnyH_take (i := 12) (oi := { dst := some 33, op := Go.Op.binOp Go.BinOp.add 9 (Go.Operand.tmp 24) (Go.Operand.tmp 32) 9, type := 9, pos := "agg.go:117", after := #[{ on := 3, ground := Go.Ground.data }, { on := 11, ground := Go.Ground.data }], guard := none }) (v := ?_) rfl (by kernel_rfl) (by kernel_rfl) (by kernel_rfl) (fun _ _ _ h => h) (Or.inl ⟨by rfl, ?_⟩) (by assumption) ?_; rotate_left; (focus (intro w hSw; ((try dsimp only at hSw); go_simp; try with_reducible rfl))); (try simp only [Act.put, List.setIfInBounds_toArray, List.set_cons_zero, List.set_cons_succ]))
                (refine wpAnyH_ready (rs := [15]) (by kernel_rfl) (by simp) ?_; refine AllReadyH.cons (o := { dst := some 36, op := Go.Op.call { callee := Go.Callee.value (Go.Operand.func 61), args := #[Go.Operand.tmp 35], argTypes := #[26] }, type := 9, pos := "agg.go:117", after := #[{ on := 14, ground := Go.Ground.data }, { on := 11, ground := Go.Ground.chain }], guard := none }) rfl (fun K hK => ?_) AllReadyH.nil; go_simp; ((first | (go_at_call 59; refine (BW _).mono ?_; rintro e wn ⟨rfl, dn⟩; first | have KK := Lib.hid (Kn.later KK.out dn rfl rfl rfl rfl) | have KK := Lib.hid (Kn.later (KK.out.new (.cells #[.int .i64 a.mn, .int .i64 a.mx, .int .i64 a.last] 2 (0, 0))) dn rfl rfl rfl rfl)) | (go_at_call 60; first | (refine (all_any (some ⟨_, 0, none⟩) 3 3 [a.mn, a.mx, a.last] _ (reads_kn (T := 2) KK.out (List.mem_cons_self ..) rfl) (by decide) HRG.out).mono ?_; rw [hV1]; rintro e wn ⟨rfl, dn⟩; have KK := Lib.hid (Kn.later KK.out dn rfl rfl rfl rfl)) | (refine (AL _).mono ?_; rintro e wn ⟨rfl, dn⟩; have KK := Lib.hid ((Kn.later (KK.out.new (.cells #[.int .i64 a.mn, .int .i64 a.mx, .int .i64 a.last] 2 (0, 0))) dn rfl rfl rfl rfl).tl))) | (go_at_call 61; refine (ST _).mono ?_; rintro e wn ⟨rfl, dn⟩; have KK := Lib.hid (Kn.later KK.out dn rfl rfl rfl rfl)))); go_wp2_with fail; refine hK.out _ _ ?_ (fun hHeld => ?_); (focus ((try dsimp only); (try (first | exact agh (a := a) KK.out (by simp) rfl | exact agh (a := a) (KK.out.new (.cells #[.int .i64 a.mn, .int .i64 a.mx, .int .i64 a.last] 2 (0, 0))) (by simp) rfl)); done)); clear hK; (try simp only [Act.put, List.setIfInBounds_toArray, List.set_cons_zero, List.set_cons_succ]))
                (refine wpAnyH_take (i := 16) (oi := { dst := some 37, op := Go.Op.binOp Go.BinOp.add 9 (Go.Operand.tmp 33) (Go.Operand.tmp 36) 9, type := 9, pos := "agg.go:117", after := #[{ on := 12, ground := Go.Ground.data }, { on := 15, ground := Go.Ground.data }], guard := none }) (v := ?_) rfl (by kernel_rfl) (by kernel_rfl) (by kernel_rfl) (fun _ _ _ h => h) (Or.inl ⟨by rfl, ?_⟩) (by assumption) ?_; rotate_left; (focus (intro w hSw; ((try dsimp only at hSw); go_simp; try with_reducible rfl))); (try simp only [Act.put, List.setIfInBounds_toArray, List.set_cons_zero, List.set_cons_succ]))
                (refine wpAnyH_take (i := 17) (oi := { dst := some 38, op := Go.Op.binOp Go.BinOp.add 9 (Go.Operand.tmp 21) (Go.Operand.tmp 37) 9, type := 9, pos := "agg.go:117", after := #[{ on := 0, ground := Go.Ground.data }, { on := 16, ground := Go.Ground.data }], guard := none }) (v := ?_) rfl (by kernel_rfl) (by kernel_rfl) (by kernel_rfl) (fun _ _ _ h => h) (Or.inl ⟨by rfl, ?_⟩) (by assumption) ?_; rotate_left; (focus (intro w hSw; ((try dsimp only at hSw); go_simp; try with_reducible rfl))); (try simp only [Act.put, List.setIfInBounds_toArray, List.set_cons_zero, List.set_cons_succ]))
                (refine wpAnyH_take (i := 18) (oi := { dst := some 5, op := Go.Op.assign (Go.Operand.tmp 38), type := 9, pos := "agg.go:117", after := #[{ on := 17, ground := Go.Ground.data }, { on := 15, ground := Go.Ground.chain }, { on := 0, ground := Go.Ground.phase }, { on := 1, ground := Go.Ground.phase }, { on := 2, ground := Go.Ground.phase }, { on := 3, ground := Go.Ground.phase }, { on := 4, ground := Go.Ground.phase }, { on := 5, ground := Go.Ground.phase }, { on := 6, ground := Go.Ground.phase }, { on := 7, ground := Go.Ground.phase }, { on := 8, ground := Go.Ground.phase }, { on := 9, ground := Go.Ground.phase }, { on := 10, ground := Go.Ground.phase }, { on := 11, ground := Go.Ground.phase }, { on := 12, ground := Go.Ground.phase }, { on := 13, ground := Go.Ground.phase }, { on := 14, ground := Go.Ground.phase }, { on := 15, ground := Go.Ground.phase }, { on := 16, ground := Go.Ground.phase }, { on := 17, ground := Go.Ground.phase }], guard := none }) (v := ?_) rfl (by kernel_rfl) (by kernel_rfl) (by kernel_rfl) (fun _ _ _ h => h) (Or.inl ⟨by rfl, ?_⟩) (by assumption) ?_; rotate_left; (focus (intro w hSw; ((try dsimp only at hSw); go_simp; try with_reducible rfl))); (try simp only [Act.put, List.setIfInBounds_toArray, List.set_cons_zero, List.set_cons_succ]))
                refine wpAnyH_done (by kernel_rfl) ?_ _)
             | (have _tok := hK10
                clear _tok
                (go_simp; refine hK10.out _ _ ?_ (fun hHeld => ?_); (focus ((try dsimp only); (try (first | exact agh (a := a) KK.out (by simp) rfl | exact agh (a := a) (KK.out.new (.cells #[.int .i64 a.mn, .int .i64 a.mx, .int .i64 a.last] 2 (0, 0))) (by simp) rfl)); done)); clear hK10; (try simp only [Act.put, List.setIfInBounds_toArray, List.set_cons_zero, List.set_cons_succ]))
                (refine wpAnyH_ready (rs := [3]) (by kernel_rfl) (by simp) ?_; refine AllReadyH.cons (o := { dst := some 24, op := Go.Op.call { callee := Go.Callee.value (Go.Operand.func 59), args := #[Go.Operand.tmp 23], argTypes := #[24] }, type := 9, pos := "agg.go:117", after := #[{ on := 2, ground := Go.Ground.data }], guard := none }) rfl (fun K hK => ?_) AllReadyH.nil; go_simp; ((first | (go_at_call 59; refine (BW _).mono ?_; rintro e wn ⟨rfl, dn⟩; first | have KK := Lib.hid (Kn.later KK.out dn rfl rfl rfl rfl) | have KK := Lib.hid (Kn.later (KK.out.new (.cells #[.int .i64 a.mn, .int .i64 a.mx, .int .i64 a.last] 2 (0, 0))) dn rfl rfl rfl rfl)) | (go_at_call 60; first | (refine (all_any (some ⟨_, 0, none⟩) 3 3 [a.mn, a.mx, a.last] _ (reads_kn (T := 2) KK.out (List.mem_cons_self ..) rfl) (by decide) HRG.out).mono ?_; rw [hV1]; rintro e wn ⟨rfl, dn⟩; have KK := Lib.hid (Kn.later KK.out dn rfl rfl rfl rfl)) | (refine (AL _).mono ?_; rintro e wn ⟨rfl, dn⟩; have KK := Lib.hid ((Kn.later (KK.out.new (.cells #[.int .i64 a.mn, .int .i64 a.mx, .int .i64 a.last] 2 (0, 0))) dn rfl rfl rfl rfl).tl))) | (go_at_call 61; refine (ST _).mono ?_; rintro e wn ⟨rfl, dn⟩; have KK := Lib.hid (Kn.later KK.out dn rfl rfl rfl rfl)))); go_wp2_with fail; refine hK.out _ _ ?_ (fun hHeld => ?_); (focus ((try dsimp only); (try (first | exact agh (a := a) KK.out (by simp) rfl | exact agh (a := a) (KK.out.new (.cells #[.int .i64 a.mn, .int .i64 a.mx, .int .i64 a.last] 2 (0, 0))) (by simp) rfl)); done)); clear hK; (try simp only [Act.put, List.setIfInBounds_toArray, List.set_cons_zero, List.set_cons_succ]))
                (refine wpAnyH_ready (rs := [11]) (by kernel_rfl) (by simp) ?_; refine AllReadyH.cons (o := { dst := some 32, op := Go.Op.call { callee := Go.Callee.value (Go.Operand.func 60), args := #[Go.Operand.tmp 31], argTypes := #[84] }, type := 9, pos := "agg.go:117", after := #[{ on := 10, ground := Go.Ground.data }, { on := 3, ground := Go.Ground.chain }], guard := none }) rfl (fun K hK => ?_) AllReadyH.nil; go_simp; ((first | (go_at_call 59; refine (BW _).mono ?_; rintro e wn ⟨rfl, dn⟩; first | have KK := Lib.hid (Kn.later KK.out dn rfl rfl rfl rfl) | have KK := Lib.hid (Kn.later (KK.out.new (.cells #[.int .i64 a.mn, .int .i64 a.mx, .int .i64 a.last] 2 (0, 0))) dn rfl rfl rfl rfl)) | (go_at_call 60; first | (refine (all_any (some ⟨_, 0, none⟩) 3 3 [a.mn, a.mx, a.last] _ (reads_kn (T := 2) KK.out (List.mem_cons_self ..) rfl) (by decide) HRG.out).mono ?_; rw [hV1]; rintro e wn ⟨rfl, dn⟩; have KK := Lib.hid (Kn.later KK.out dn rfl rfl rfl rfl)) | (refine (AL _).mono ?_; rintro e wn ⟨rfl, dn⟩; have KK := Lib.hid ((Kn.later (KK.out.new (.cells #[.int .i64 a.mn, .int .i64 a.mx, .int .i64 a.last] 2 (0, 0))) dn rfl rfl rfl rfl).tl))) | (go_at_call 61; refine (ST _).mono ?_; rintro e wn ⟨rfl, dn⟩; have KK := Lib.hid (Kn.later KK.out dn rfl rfl rfl rfl)))); go_wp2_with fail; refine hK.out _ _ ?_ (fun hHeld => ?_); (focus ((try dsimp only); (try (first | exact agh (a := a) KK.out (by simp) rfl | exact agh (a := a) (KK.out.new (.cells #[.int .i64 a.mn, .int .i64 a.mx, .int .i64 a.last] 2 (0, 0))) (by simp) rfl)); done)); clear hK; (try simp only [Act.put, List.setIfInBounds_toArray, List.set_cons_zero, List.set_cons_succ]))
                (refine wpAnyH_take (i := 12) (oi := { dst := some 33, op := Go.Op.binOp Go.BinOp.add 9 (Go.Operand.tmp 24) (Go.Operand.tmp 32) 9, type := 9, pos := "agg.go:117", after := #[{ on := 3, ground := Go.Ground.data }, { on := 11, ground := Go.Ground.data }], guard := none }) (v := ?_) rfl (by kernel_rfl) (by kernel_rfl) (by kernel_rfl) (fun _ _ _ h => h) (Or.inl ⟨by rfl, ?_⟩) (by assumption) ?_; rotate_left; (focus (intro w hSw; ((try dsimp only at hSw); go_simp; try with_reducible rfl))); (try simp only [Act.put, List.setIfInBounds_toArray, List.set_cons_zero, List.set_cons_succ]))
                (refine wpAnyH_ready (rs := [15]) (by kernel_rfl) (by simp) ?_; refine AllReadyH.cons (o := { dst := some 36, op := Go.Op.call { callee := Go.Callee.value (Go.Operand.func 61), args := #[Go.Operand.tmp 35], argTypes := #[26] }, type := 9, pos := "agg.go:117", after := #[{ on := 14, ground := Go.Ground.data }, { on := 11, ground := Go.Ground.chain }], guard := none }) rfl (fun K hK => ?_) AllReadyH.nil; go_simp; ((first | (go_at_call 59; refine (BW _).mono ?_; rintro e wn ⟨rfl, dn⟩; first | have KK := Lib.hid (Kn.later KK.out dn rfl rfl rfl rfl) | have KK := Lib.hid (Kn.later (KK.out.new (.cells #[.int .i64 a.mn, .int .i64 a.mx, .int .i64 a.last] 2 (0, 0))) dn rfl rfl rfl rfl)) | (go_at_call 60; first | (refine (all_any (some ⟨_, 0, none⟩) 3 3 [a.mn, a.mx, a.last] _ (reads_kn (T := 2) KK.out (List.mem_cons_self ..) rfl) (by decide) HRG.out).mono ?_; rw [hV1]; rintro e wn ⟨rfl, dn⟩; have KK := Lib.hid (Kn.later KK.out dn rfl rfl rfl rfl)) | (refine (AL _).mono ?_; rintro e wn ⟨rfl, dn⟩; have KK := Lib.hid ((Kn.later (KK.out.new (.cells #[.int .i64 a.mn, .int .i64 a.mx, .int .i64 a.last] 2 (0, 0))) dn rfl rfl rfl rfl).tl))) | (go_at_call 61; refine (ST _).mono ?_; rintro e wn ⟨rfl, dn⟩; have KK := Lib.hid (Kn.later KK.out dn rfl rfl rfl rfl)))); go_wp2_with fail; refine hK.out _ _ ?_ (fun hHeld => ?_); (focus ((try dsimp only); (try (first | exact agh (a := a) KK.out (by simp) rfl | exact agh (a := a) (KK.out.new (.cells #[.int .i64 a.mn, .int .i64 a.mx, .int .i64 a.last] 2 (0, 0))) (by simp) rfl)); done)); clear hK; (try simp only [Act.put, List.setIfInBounds_toArray, List.set_cons_zero, List.set_cons_succ]))
                (refine wpAnyH_take (i := 16) (oi := { dst := some 37, op := Go.Op.binOp Go.BinOp.add 9 (Go.Operand.tmp 33) (Go.Operand.tmp 36) 9, type := 9, pos := "agg.go:117", after := #[{ on := 12, ground := Go.Ground.data }, { on := 15, ground := Go.Ground.data }], guard := none }) (v := ?_) rfl (by kernel_rfl) (by kernel_rfl) (by kernel_rfl) (fun _ _ _ h => h) (Or.inl ⟨by rfl, ?_⟩) (by assumption) ?_; rotate_left; (focus (intro w hSw; ((try dsimp only at hSw); go_simp; try with_reducible rfl))); (try simp only [Act.put, List.setIfInBounds_toArray, List.set_cons_zero, List.set_cons_succ]))
                (refine wpAnyH_take (i := 17) (oi := { dst := some 38, op := Go.Op.binOp Go.BinOp.add 9 (Go.Operand.tmp 21) (Go.Operand.tmp 37) 9, type := 9, pos := "agg.go:117", after := #[{ on := 0, ground := Go.Ground.data }, { on := 16, ground := Go.Ground.data }], guard := none }) (v := ?_) rfl (by kernel_rfl) (by kernel_rfl) (by kernel_rfl) (fun _ _ _ h => h) (Or.inl ⟨by rfl, ?_⟩) (by assumption) ?_; rotate_left; (focus (intro w hSw; ((try dsimp only at hSw); go_simp; try with_reducible rfl))); (try simp only [Act.put, List.setIfInBounds_toArray, List.set_cons_zero, List.set_cons_succ]))
                (refine wpAnyH_take (i := 18) (oi := { dst := some 5, op := Go.Op.assign (Go.Operand.tmp 38), type := 9, pos := "agg.go:117", after := #[{ on := 17, ground := Go.Ground.data }, { on := 15, ground := Go.Ground.chain }, { on := 0, ground := Go.Ground.phase }, { on := 1, ground := Go.Ground.phase }, { on := 2, ground := Go.Ground.phase }, { on := 3, ground := Go.Ground.phase }, { on := 4, ground := Go.Ground.phase }, { on := 5, ground := Go.Ground.phase }, { on := 6, ground := Go.Ground.phase }, { on := 7, ground := Go.Ground.phase }, { on := 8, ground := Go.Ground.phase }, { on := 9, ground := Go.Ground.phase }, { on := 10, ground := Go.Ground.phase }, { on := 11, ground := Go.Ground.phase }, { on := 12, ground := Go.Ground.phase }, { on := 13, ground := Go.Ground.phase }, { on := 14, ground := Go.Ground.phase }, { on := 15, ground := Go.Ground.phase }, { on := 16, ground := Go.Ground.phase }, { on := 17, ground := Go.Ground.phase }], guard := none }) (v := ?_) rfl (by kernel_rfl) (by kernel_rfl) (by kernel_rfl) (fun _ _ _ h => h) (Or.inl ⟨by rfl, ?_⟩) (by assumption) ?_; rotate_left; (focus (intro w hSw; ((try dsimp only at hSw); go_simp; try with_reducible rfl))); (try simp only [Act.put, List.setIfInBounds_toArray, List.set_cons_zero, List.set_cons_succ]))
                refine wpAnyH_done (by kernel_rfl) ?_ _))))
      all_goals
        have KK := Lib.hid (KK.out.sub (m := [(g, agO a)]) (by simp))
        clear hHeld BW ST AL n1 n2 n3 n4 n5
        generalize hPP : S0 ++ (S1 ++ V1 ++ S2) = PP at *
        have zP : PP.size ≤ 100 := by
          rw [← hPP]
          simp only [ByteArray.size_append]
          omega
        clear hPP
        have HCA := Lib.hid (ag_bk a g wn KK.out.hd)
        go_wp2_with (refine wpList_load_mid rfl 27 _ rfl g 9 rfl (a.bk.map (Value.int .i64)) _ HCA.out Try.underlying27 rfl (by simp only [List.length_map, HL.out]; kernel_rfl) ?_)
        clear HCA
        go_loopw [5, 7, 41] (fun s _ i wr => ∃ k : Nat, k ≤ 9 ∧ i = .int .i64 k ∧ s = .string (PP ++ ⟨(mcat (a.bk.take k)).toArray⟩) ∧ Kn g w [(g, agO a)] wr) (fun _ _ i _ => 10 - (intOf i).toNat)
        case atStart => exact ⟨0, by omega, rfl, by rw [show (⟨(mcat (a.bk.take 0)).toArray⟩ : ByteArray) = ByteArray.empty from rfl, append_empty_r], KK.out⟩
        case round =>
          obtain ⟨k, hk, rfl, rfl, hKK⟩ := hrel
          have KK := Lib.hid hKK
          clear hKK
          by_cases hlt : k < 9
          · have t1 : decide ((k : Int) < 9) = true := decide_eq_true (by omega)
            have hix := run_index_arr (P := Try.prog) Try.underlying27 Try.sizeOf3 Try.isAgg3 (a.bk.map (Value.int .i64)).toArray k (.int .i64 (a.bk.getD k 0)) hlt (by rw [List.getElem?_toArray, List.getElem?_map, List.getElem?_eq_getElem (by rw [HL.out]; exact hlt), List.getD_eq_getElem?_getD, List.getElem?_eq_getElem (by rw [HL.out]; exact hlt)]; rfl)
            have HN := Lib.hid (mcat_next a.bk k (by rw [HL.out]; exact hlt))
            have hx0 := HO.out.nn k hlt
            have hx1 : a.bk.getD k 0 < 18446744073709551616 := by
              have h1 := (HO.out.pre HL.out k hlt).2
              have h2 := preS_le a.bk (fun j hj => HO.out.nn j (by rw [HL.out] at hj; exact hj)) 0 k (by omega) (by rw [HL.out]; omega)
              have h3 : preS a.bk 0 = 0 := by simp [preS]
              have h4 := HO.out.c1
              omega
            have zM := mcatB_size a.bk k HL.out
            generalize a.bk.getD k 0 = x at *
            have hxu : IntKind.u64.wrap x = x := by rw [wrap_u64]; omega
            have PX := fun wx => put_any x wx hx0 hx1
            have zX := vput_le x
            generalize (⟨(mcat (a.bk.take k)).toArray⟩ : ByteArray) = M at *
            generalize vput x = VX at *
            have m1 : ¬ (9223372036854775807 < (PP ++ M).size + VX.size) := by rw [ByteArray.size_append]; omega
            have m2 : ¬ (9223372036854775807 < PP.size + M.size + VX.size) := by omega
            go_wp2_with (first | (go_at_call 58; refine (PX _).mono ?_; rintro e w9 ⟨rfl, dn⟩; have KK := Lib.hid (KK.out.below dn); clear dn))
            go_roundw
            case rel => exact ⟨k + 1, by omega, by go_num, by rw [HN.out, ByteArray.append_assoc], KK.out⟩
            case measure => simp [intOf]; omega
          · obtain rfl : k = 9 := by omega
            have t1 : decide (((9 : Nat) : Int) < 9) = false := decide_eq_false (by omega)
            have HE2 : Hid (PP ++ ⟨(mcat (a.bk.take 9)).toArray⟩ = agB a) := by
              show _ = _
              rw [List.take_of_length_le (by rw [HL.out]; exact Nat.le_refl _)]
              exact HE.out
            go_wp2_with fail
            refine bodyPost_ret (v := .tuple #[.string (PP ++ ⟨(mcat (a.bk.take 9)).toArray⟩), .int .i64 0]) (by simp [results, Try.results28, go_sem, *]) rfl ⟨by rw [HV.out, HE2.out], by first | exact KK.out.b | (rw [hg]; exact KK.out.b)⟩
  · rw [hc] at CH
    clear hc
    have HV := Lib.hid (HV.out.trans (bytesA_1 ho))
    clear ho
    go_enter Try.func28, Try.ntmps28
    go_upto_region 1 with (fail)
    generalize hw1 : w.alloc (.cells a.cs.toArray 29) = w1
    have KK := Lib.hid (show Kn w.heap.size w [(w.heap.size, agO a)] w1 by rw [← hw1]; exact (Kn.start w).new (agO a))
    clear hw1
    generalize hg : w.heap.size = g at *
    go_wp2_with (first
      | refine wpList_load_row rfl 29 _ rfl g rfl 29 a.cs.toArray (0, 0) _ KK.out.hd Try.underlying29 rfl (ag_size HL.out) ?_
      | (go_at_call 30; refine (CH _).mono ?_; rintro e w2 ⟨rfl, dn⟩; have KK := Lib.hid (KK.out.below dn); clear dn))
    refine bodyPost_ret (v := .tuple #[.string ⟨#[]⟩, .int .i64 1]) (by simp [results, Try.results28, go_sem, *]) rfl ⟨by rw [HV.out], by first | exact KK.out.b | (rw [hg]; exact KK.out.b)⟩
end
end Go.Proofs.Ytojnooagifhekaa
