/- The reference's digits, number, carry. -/
import Derived.Test.YtojnooagifhekaaGAggParts12
import Derived.Test.YtojnooagifhekaaGAggParts15
import Derived.Laws.BitsLemmas
import Derived.Deep.DeepCutAuto
import Derived.Deep.CutBlock
namespace Go.Proofs.Ytojnooagifhekaa
section
open Go.RowKit
set_option maxRecDepth 100000
set_option linter.unusedVariables false
set_option linter.unusedSimpArgs false
/-- An array of 16 numbers, by value. -/
def rowF (f : Nat → Int) : Value := .agg (cellsK .i64 (arrF f))
theorem info_16 : (Try.prog.info? 88).map (·.size) = some 16 := by kernel_rfl
theorem size_16 (f : Nat → Int) : (Try.prog.info? 88).map (·.size) = some (cellsK .i64 (arrF f)).size := by rw [info_16, cellsK_size, arrF_length]
theorem bits_255 (x : Int) (h0 : 0 ≤ x) (h1 : x < 18446744073709551616) : bits .and .u64 x 255 = x % 256 :=
  bits_mask .u64 64 (by decide) (fun n a b => by rw [wrap_u64]; omega) 8 (by decide) x h0 (by omega)
/-- What a call of digits has made: the number, the result, the digits so far. -/
structure DgI (w : World) (a : Wd) (f : Nat → Int) (wx : World) : Prop where
  a : WdAt wx w.heap.size a
  r : BlkK .i64 88 wx (w.heap.size + 1) (arrF zerosF)
  d : BlkK .i64 88 wx (w.heap.size + 1 + 1) (arrF f)
  b : Below w.heap.size w wx
theorem DgI.set {w wx : World} {a : Wd} {f : Nat → Int} (h : DgI w a f wx) (i : Nat) (v : Int) : DgI w a (fun j => if j = i then v else f j) (wx.setCell ⟨w.heap.size + 1 + 1, i, none⟩ (.int .i64 v)) :=
  ⟨h.a.far (p := ⟨w.heap.size + 1 + 1, i, none⟩) (by show w.heap.size ≠ w.heap.size + 1 + 1; omega) _, h.r.far (p := ⟨w.heap.size + 1 + 1, i, none⟩) (by show w.heap.size + 1 ≠ w.heap.size + 1 + 1; omega) _, by have := h.d.set i v; rw [arrF_set] at this; exact this, below_st h.b (p := ⟨w.heap.size + 1 + 1, i, none⟩) (by show w.heap.size ≤ w.heap.size + 1 + 1; omega) _⟩
theorem DgI.congr {w wx : World} {a : Wd} {f g : Nat → Int} (h : DgI w a f wx) (e : ∀ j, j < 16 → f j = g j) : DgI w a g wx := ⟨h.a, h.r, by rw [← arrF_ext e]; exact h.d, h.b⟩
theorem below_setRow {B : Nat} {a w : World} (h : Below B a w) {g : Nat} (hg : B ≤ g) (cs : Array Value) : Below B a (w.setRow g cs) :=
  ⟨h.os, h.tape, h.output, by have := h.size; simpa [World.setRow] using this, fun k hk => (setRow_other w g k cs (by omega)).trans (h.block k hk)⟩
set_option maxHeartbeats 2000000 in
theorem digits_any (a : Wd) (w : World) (ha : a.ok) : Calls Try.prog 72 #[a.val] w fun e w' => e = .returned (rowF (dg a.v)) ∧ Below w.heap.size w w' := by
  obtain ⟨V, HV⟩ : ∃ V, Hid (V = rowF (dg a.v)) := ⟨_, rfl⟩
  rw [← HV.out]
  obtain ⟨h, l⟩ := a
  obtain ⟨⟨ha1, ha2⟩, ha3, ha4⟩ := ha
  unfold Wd.val
  simp only at ha1 ha2 ha3 ha4 ⊢
  go_enter Try.func72, Try.ntmps72
  go_wp2_with fail
  have hB : DgI w ⟨h, l⟩ zerosF (((w.alloc (.cells #[.int .i64 h, .int .u64 l] 24)).alloc (.cells (cellsK .i64 (arrF zerosF)) 88)).alloc (.cells (cellsK .i64 (arrF zerosF)) 88)) :=
    ⟨((WdAt.new w ⟨h, l⟩).alloc _).alloc _, by have := (BlkK.new .i64 88 (w.alloc (.cells #[.int .i64 h, .int .u64 l] 24)) (arrF zerosF)).alloc (.cells (cellsK .i64 (arrF zerosF)) 88); simpa using this, by have := (BlkK.new .i64 88 ((w.alloc (.cells #[.int .i64 h, .int .u64 l] 24)).alloc (.cells (cellsK .i64 (arrF zerosF)) 88)) (arrF zerosF)); simpa using this, below_al (below_al (below_al (Below.refl _ _)))⟩
  rw [arrF_zero] at hB
  generalize ((w.alloc _).alloc _).alloc _ = w0 at *
  have INIT := Lib.hid hB
  clear hB
  go_loopw [4] (fun i wr => ∃ k : Nat, k ≤ 8 ∧ i = .int .i64 k ∧ DgI w ⟨h, l⟩ (fun j => if j % 8 < k then dg (⟨h, l⟩ : Wd).v j else 0) wr) (fun i _ => 9 - (intOf i).toNat)
  case atStart => exact ⟨0, by omega, rfl, INIT.out.congr fun j hj => by simp [zerosF]⟩
  case round =>
    obtain ⟨k, hk8, rfl, hI⟩ := hrel
    have I := Lib.hid hI
    clear hI
    have c0 := I.out.a.c0
    have c1 := I.out.a.c1
    by_cases hlt : k < 8
    · have t1 : decide ((k : Int) < 8) = true := decide_eq_true (by omega)
      have i1 : (0 : Int) ≤ (k : Int) := by omega
      have i2 : (k : Int) < 8 := by omega
      have f1 := I.out.d.fz k
      have f2 := I.out.d.fz (8 + k)
      have d1 := I.out.d.cell k (by rw [arrF_length]; omega)
      have d2 := I.out.d.cell (8 + k) (by rw [arrF_length]; omega)
      have e1 : wrap64 (bits .and .u64 (IntKind.u64.wrap h / 2 ^ (56 - 8 * k)) 255) = dg (⟨h, l⟩ : Wd).v k := by
        have hw : (0 : Int) ≤ h % 18446744073709551616 ∧ h % 18446744073709551616 < 18446744073709551616 := by omega
        have hq : h % 18446744073709551616 / 256 ^ (7 - k) ≤ h % 18446744073709551616 := Int.ediv_le_self _ hw.1
        have hq0 : 0 ≤ h % 18446744073709551616 / 256 ^ (7 - k) := Int.ediv_nonneg hw.1 (Int.le_of_lt (p256 _))
        have hv : (⟨h, l⟩ : Wd).v % 340282366920938463463374607431768211456 = (h % 18446744073709551616 * 18446744073709551616 + l) % 340282366920938463463374607431768211456 := by unfold Wd.v; simp only; omega
        rw [wrap_u64, shr_byte _ k hlt, bits_255 _ hq0 (by omega), dg_congr hv, dg_hi _ _ ha3 (by omega) k hlt]
        unfold wrap64
        generalize h % 18446744073709551616 / 256 ^ (7 - k) = q at *
        omega
      have e2 : wrap64 (bits .and .u64 (l / 2 ^ (56 - 8 * k)) 255) = dg (⟨h, l⟩ : Wd).v (8 + k) := by
        have hq : l / 256 ^ (7 - k) ≤ l := Int.ediv_le_self _ ha3
        have hq0 : 0 ≤ l / 256 ^ (7 - k) := Int.ediv_nonneg ha3 (Int.le_of_lt (p256 _))
        unfold Wd.v
        simp only
        rw [shr_byte _ k hlt, bits_255 _ hq0 (by omega), dg_lo _ _ k hlt]
        unfold wrap64
        generalize l / 256 ^ (7 - k) = q at *
        omega
      have I2 := Lib.hid (((I.out.set k (dg (⟨h, l⟩ : Wd).v k)).set (8 + k) (dg (⟨h, l⟩ : Wd).v (8 + k))).congr (g := fun j => if j % 8 < k + 1 then dg (⟨h, l⟩ : Wd).v j else 0) (fun j hj => by
        by_cases q1 : j = 8 + k
        · subst q1; simp; omega
        · rw [if_neg q1]
          by_cases q2 : j = k
          · subst q2; simp; omega
          · rw [if_neg q2]
            by_cases q3 : j % 8 < k
            · rw [if_pos q3, if_pos (by omega)]
            · rw [if_neg q3, if_neg (by omega)]))
      generalize dg (⟨h, l⟩ : Wd).v k = D1 at *
      generalize dg (⟨h, l⟩ : Wd).v (8 + k) = D2 at *
      generalize (arrF fun j => if j % 8 < k then dg (⟨h, l⟩ : Wd).v j else 0).getD k 0 = x1 at *
      generalize (arrF fun j => if j % 8 < k then dg (⟨h, l⟩ : Wd).v j else 0).getD (8 + k) 0 = x2 at *
      go_wp2_with fail
      go_round
      case rel => exact ⟨k + 1, by omega, by go_num, I2.out⟩
      case measure => simp [intOf]; omega
    · have t1 : decide ((k : Int) < 8) = false := decide_eq_false (by omega)
      obtain rfl : k = 8 := by omega
      have J := Lib.hid (I.out.congr (g := dg (⟨h, l⟩ : Wd).v) (fun j hj => by rw [if_pos (by omega)]))
      clear I
      go_upto_region 7 with (fail)
      go_wp2_with (first
        | refine wpList_load_row rfl 88 _ rfl (w.heap.size + 1 + 1) rfl 88 (cellsK .i64 (arrF (dg (⟨h, l⟩ : Wd).v))) (0, 0) _ J.out.d Try.underlying88 rfl (size_16 _) ?_
        | refine wpList_store_row rfl 88 _ _ rfl (w.heap.size + 1) (cellsK .i64 (arrF (dg (⟨h, l⟩ : Wd).v))) rfl rfl 88 (cellsK .i64 (arrF zerosF)) J.out.r (size_16 _) (by rw [cellsK_size, cellsK_size, arrF_length, arrF_length]) (cellsK_one _ _) ?_)
      refine bodyPost_ret (v := rowF (dg (⟨h, l⟩ : Wd).v)) (results_cell_row rfl _ _ (w.heap.size + 1) 88 (cellsK .i64 (arrF (dg (⟨h, l⟩ : Wd).v))) (0, 0) _ rfl J.out.r.setRow Try.underlying88 rfl (size_16 _)) rfl ⟨by rw [HV.out], below_setRow J.out.b (by omega) _⟩
end
end Go.Proofs.Ytojnooagifhekaa
