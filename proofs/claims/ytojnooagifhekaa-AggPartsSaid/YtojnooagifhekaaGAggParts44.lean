/- wide.Bytes, wide.Read, the reference's Read, short. -/
import Derived.Test.YtojnooagifhekaaGAggParts42
namespace Go.Proofs.Ytojnooagifhekaa
section
open Go.RowKit
set_option maxRecDepth 100000
set_option linter.unusedVariables false
set_option linter.unusedSimpArgs false
theorem zeros16 : cellsK .u8 (arrF zerosF) = #[.int .u8 0, .int .u8 0, .int .u8 0, .int .u8 0, .int .u8 0, .int .u8 0, .int .u8 0, .int .u8 0, .int .u8 0, .int .u8 0, .int .u8 0, .int .u8 0, .int .u8 0, .int .u8 0, .int .u8 0, .int .u8 0] := rfl
theorem slice16 (g : Nat) : ∀ w : World, (Instr.sliceAt 102 (.pointer (some ⟨g, 0, none⟩)) none none none).run Try.prog w = .ok (.slice (some ⟨g, 0, none⟩) 16 16) w := by
  intro w
  have hl : Try.prog.arrayLen 102 = 16 := by simp [Program.arrayLen, Try.underlying102]
  have he : Try.prog.elem 102 = 5 := by simp [Program.elem, Try.underlying102]
  have ht : Try.prog.underlying 102 = some (.array (Try.prog.arrayLen 102) (Try.prog.elem 102)) := by rw [hl, he]; exact Try.underlying102
  rw [run_sliceAt_array_all w 102 ⟨g, 0, none⟩ ht, he, hl, show (sizeOf 5).run Try.prog w = .ok 1 w by kernel_rfl]
  simp only [Result.andThen, slicedAt]
  have ha : (⟨g, 0, none⟩ : Addr).add (0 * 1) = ⟨g, 0, none⟩ := rfl
  rw [if_neg (by omega), ha]
theorem conv16 (g : Nat) (f : Nat → Int) (w : World) (h : BlkK .u8 102 w g (arrF f)) :
    (convert 101 9 (.slice (some ⟨g, 0, none⟩) 16 16)).run Try.prog w = .ok (.string (strOfNums (arrF f))) w :=
  run_convert_bytes_arg (P := Try.prog) w 101 5 Try.underlying101 Try.underlying5 g 0 16 16 (arrF f) (arrF_length f) (fun j hj => by
    rw [Nat.zero_add]
    exact h.cell j (by rw [arrF_length]; exact hj)) 9 Try.underlying9
/-- What a call of Bytes has made: the number, the bytes so far. -/
structure ByI (w : World) (a : Wd) (f : Nat → Int) (wx : World) : Prop where
  a : WdAt wx w.heap.size a
  d : BlkK .u8 102 wx (w.heap.size + 1) (arrF f)
  b : Below w.heap.size w wx
theorem ByI.set {w wx : World} {a : Wd} {f : Nat → Int} (h : ByI w a f wx) (i : Nat) (v : Int) : ByI w a (fun j => if j = i then v else f j) (wx.setCell ⟨w.heap.size + 1, i, none⟩ (.int .u8 v)) :=
  ⟨h.a.far (p := ⟨w.heap.size + 1, i, none⟩) (by show w.heap.size ≠ w.heap.size + 1; omega) _, by have := h.d.set i v; rw [arrF_set] at this; exact this, below_st h.b (p := ⟨w.heap.size + 1, i, none⟩) (by show w.heap.size ≤ w.heap.size + 1; omega) _⟩
theorem ByI.congr {w wx : World} {a : Wd} {f g : Nat → Int} (h : ByI w a f wx) (e : ∀ j, j < 16 → f j = g j) : ByI w a g wx := ⟨h.a, by rw [← arrF_ext e]; exact h.d, h.b⟩
set_option maxHeartbeats 2000000 in
theorem bytes_any (a : Wd) (w : World) (ha : a.ok) : Calls Try.prog 59 #[a.val] w fun e w' => e = .returned (.string (bytesW a.v)) ∧ Below w.heap.size w w' := by
  obtain ⟨V, HV⟩ : ∃ V, Hid (V = bytesW a.v) := ⟨_, rfl⟩
  rw [← HV.out]
  unfold bytesW at HV
  obtain ⟨h, l⟩ := a
  obtain ⟨⟨ha1, ha2⟩, ha3, ha4⟩ := ha
  unfold Wd.val
  simp only at ha1 ha2 ha3 ha4 ⊢
  go_enter Try.func59, Try.ntmps59
  go_wp2_with fail
  have hB : ByI w ⟨h, l⟩ zerosF ((w.alloc (.cells #[.int .i64 h, .int .u64 l] 24)).alloc (.cells (cellsK .u8 (arrF zerosF)) 102)) :=
    ⟨(WdAt.new w ⟨h, l⟩).alloc _, by have := (BlkK.new .u8 102 (w.alloc (.cells #[.int .i64 h, .int .u64 l] 24)) (arrF zerosF)); simpa using this, below_al (below_al (Below.refl _ _))⟩
  rw [zeros16] at hB
  generalize (w.alloc _).alloc _ = w0 at *
  have INIT := Lib.hid hB
  clear hB
  go_loopw [5] (fun i wr => ∃ k : Nat, k ≤ 8 ∧ i = .int .i64 k ∧ ByI w ⟨h, l⟩ (fun j => if j % 8 < k then dg (⟨h, l⟩ : Wd).v j else 0) wr) (fun i _ => 9 - (intOf i).toNat)
  case atStart => exact ⟨0, by omega, rfl, INIT.out.congr fun j hj => by simp [zerosF]⟩
  case round =>
    obtain ⟨k, hk8, rfl, hI⟩ := hrel
    have I := Lib.hid hI
    clear hI
    have c0 := I.out.a.c0
    have c1 := I.out.a.c1
    by_cases hlt : k < 8
    · have t1 : decide ((k : Int) < 8) = true := decide_eq_true (by omega)
      have i1 : (0 : Int) ≤ (k : Int) := by omega
      have i2 : (k : Int) < 8 := by omega
      have f1 := I.out.d.fz k
      have f2 := I.out.d.fz (8 + k)
      have d1 := I.out.d.cell k (by rw [arrF_length]; omega)
      have d2 := I.out.d.cell (8 + k) (by rw [arrF_length]; omega)
      have f3 := I.out.d.fz (k + 8)
      have d3 := I.out.d.cell (k + 8) (by rw [arrF_length]; omega)
      have e1 : IntKind.u8.wrap (IntKind.u64.wrap h / 2 ^ (56 - 8 * k)) = dg (⟨h, l⟩ : Wd).v k := by
        have hw : (0 : Int) ≤ h % 18446744073709551616 ∧ h % 18446744073709551616 < 18446744073709551616 := by omega
        have hv : (⟨h, l⟩ : Wd).v % 340282366920938463463374607431768211456 = (h % 18446744073709551616 * 18446744073709551616 + l) % 340282366920938463463374607431768211456 := by unfold Wd.v; simp only; omega
        rw [wrap_u64, shr_byte _ k hlt, IntKind.wrap_u8, dg_congr hv, dg_hi _ _ ha3 (by omega) k hlt]
      have e2 : IntKind.u8.wrap (l / 2 ^ (56 - 8 * k)) = dg (⟨h, l⟩ : Wd).v (8 + k) := by
        unfold Wd.v
        simp only
        rw [shr_byte _ k hlt, IntKind.wrap_u8, dg_lo _ _ k hlt]
      have I2 := Lib.hid (((I.out.set k (dg (⟨h, l⟩ : Wd).v k)).set (8 + k) (dg (⟨h, l⟩ : Wd).v (8 + k))).congr (g := fun j => if j % 8 < k + 1 then dg (⟨h, l⟩ : Wd).v j else 0) (fun j hj => by
        by_cases q1 : j = 8 + k
        · subst q1; simp; omega
        · rw [if_neg q1]
          by_cases q2 : j = k
          · subst q2; simp; omega
          · rw [if_neg q2]
            by_cases q3 : j % 8 < k
            · rw [if_pos q3, if_pos (by omega)]
            · rw [if_neg q3, if_neg (by omega)]))
      rw [Nat.add_comm k 8] at f3 d3
      generalize dg (⟨h, l⟩ : Wd).v k = D1 at *
      generalize dg (⟨h, l⟩ : Wd).v (8 + k) = D2 at *
      generalize (arrF fun j => if j % 8 < k then dg (⟨h, l⟩ : Wd).v j else 0).getD k 0 = x1 at *
      generalize (arrF fun j => if j % 8 < k then dg (⟨h, l⟩ : Wd).v j else 0).getD (8 + k) 0 = x2 at *
      have ix : (k : Int) + 8 = ((8 + k : Nat) : Int) := by omega
      go_wp2_with fail
      go_round
      case rel => exact ⟨k + 1, by omega, by go_num, by first | exact I2.out | (rw [Nat.add_comm k 8]; exact I2.out)⟩
      case measure => simp [intOf]; omega
    · have t1 : decide ((k : Int) < 8) = false := decide_eq_false (by omega)
      obtain rfl : k = 8 := by omega
      have J := I.out.congr (g := dg (⟨h, l⟩ : Wd).v) (fun j hj => by rw [if_pos (by omega)])
      have D := conv16 (w.heap.size + 1) (dg (⟨h, l⟩ : Wd).v) wr J.d
      have hsl := slice16 (w.heap.size + 1)
      have J := Lib.hid J
      clear I c0 c1
      go_wp2
      go_ret
      exact ⟨ret_str (by rw [HV.out]), J.out.b⟩
set_option maxHeartbeats 2000000 in
theorem rread_any (s : ByteArray) (w : World) (hs : s.size ≤ 9223372036854775807) : Calls Try.prog 54 #[.string s] w fun e w' => e = .returned (.tuple #[(readW s).1.val, .int .i64 (readW s).2]) ∧ Below w.heap.size w w' := by
  by_cases h16 : s.size = 16
  · have t1 : ((s.size : Int) == 16) = true := by rw [beq_iff_eq]; omega
    have t2 : (s.size == 16) = true := by rw [beq_iff_eq]; omega
    unfold readW
    rw [if_pos h16]
    obtain ⟨V, HV⟩ : ∃ V, Hid (wd (lowS (byF s) 16) = V) := ⟨_, rfl⟩
    rw [HV.out]
    have C1 := fun wx => number_any (byF s) wx (byF_range s)
    rw [HV.out] at C1
    have hF := byF_range s
    obtain ⟨v0, v1⟩ := V
    unfold Wd.val at *
    simp only at C1 ⊢
    go_enter Try.func54, Try.ntmps54
    go_wp2_with fail
    have hB : Rx w [(w.heap.size, ⟨0, 0⟩)] [(w.heap.size + 1, zerosF)] ((w.alloc (.cells #[.int .i64 0, .int .u64 0] 24)).alloc (.cells (cellsK .i64 (arrF zerosF)) 88)) :=
      ⟨by simp; exact (WdAt.new w ⟨0, 0⟩).alloc _, by simp; have := (BlkK.new .i64 88 (w.alloc (.cells #[.int .i64 0, .int .u64 0] 24)) (arrF zerosF)); simpa using this, below_al (below_al (Below.refl _ _))⟩
    rw [arrF_zero] at hB
    generalize (w.alloc _).alloc _ = w0 at *
    have INIT := Lib.hid hB
    clear hB
    go_loopw [5] (fun i wr => ∃ k : Nat, k ≤ 16 ∧ i = .int .i64 k ∧ Rx w [(w.heap.size, ⟨0, 0⟩)] [(w.heap.size + 1, fun j => if j < k then byF s j else 0)] wr) (fun i _ => 17 - (intOf i).toNat)
    case atStart => exact ⟨0, by omega, rfl, INIT.out.congr fun j hj => by rw [if_neg (by omega)]; rfl⟩
    case round =>
      obtain ⟨k, hk, rfl, hI⟩ := hrel
      have I := Lib.hid hI
      clear hI
      by_cases hlt : k < 16
      · have t3 : decide ((k : Int) < 16) = true := decide_eq_true (by omega)
        have i1 : (0 : Int) ≤ (k : Int) := by omega
        have i2 : (k : Int) < 16 := by omega
        have i3 : (k : Int) < (s.size : Int) := by omega
        have hks : k < s.size := by omega
        have f1 := I.out.hd.fz k
        have d1 := I.out.hd.cell k (by rw [arrF_length]; omega)
        rw [arrF_get _ _ (by omega), if_neg (by omega)] at d1
        have HG : Hid (byF s k = ((s[k]'hks).toNat : Int)) := bl_get s k hks
        have I2 := Lib.hid ((I.out.set (by simp) (by simp) (by omega) k (byF s k)).congr (f' := fun j => if j < k + 1 then byF s j else 0) (fun j hj => by
          by_cases q1 : j = k
          · subst q1; rw [if_pos rfl, if_pos (by omega)]
          · rw [if_neg q1]
            by_cases q3 : j < k
            · rw [if_pos q3, if_pos (by omega)]
            · rw [if_neg q3, if_neg (by omega)]))
        rw [HG.out] at I2
        have e1 : wrap64 ((s[k]'hks).toNat : Int) = ((s[k]'hks).toNat : Int) := by have := (s[k]'hks).toNat_lt; unfold wrap64; omega
        go_wp2_with fail
        go_round
        case rel => exact ⟨k + 1, by omega, by go_num, I2.out⟩
        case measure => simp [intOf]; omega
      · have t3 : decide ((k : Int) < 16) = false := decide_eq_false (by omega)
        obtain rfl : k = 16 := by omega
        have J := Lib.hid (I.out.congr (f' := byF s) (fun j hj => by rw [if_pos (by omega)]))
        clear I
        go_wp2_with (refine wpList_load_row rfl 88 _ rfl (w.heap.size + 1) rfl 88 (cellsK .i64 (arrF (byF s))) (0, 0) _ J.out.hd Try.underlying88 rfl (size_16 _) ?_)
        refine (C1 _).mono ?_
        rintro e w6 ⟨rfl, d6⟩
        have K := J.out.below d6
        have z := K.hdW
        have c0 := z.c0
        have c1 := z.c1
        have z0 := z.fz 0
        have z1 := z.fz 1
        have HB := Lib.hid (below_st (below_st K.b (p := ⟨w.heap.size, 0, none⟩) (Nat.le_refl _) (.int .i64 v0)) (p := ⟨w.heap.size, 1, none⟩) (Nat.le_refl _) (.int .u64 v1))
        clear K z
        go_wp2_with fail
        refine bodyPost_ret (v := .tuple #[.agg #[.int .i64 v0, .int .u64 v1], .int .i64 0]) (by simp [results, Try.results54, go_sem, *]) rfl ⟨rfl, HB.out⟩
  · have t1 : ((s.size : Int) == 16) = false := by rw [beq_eq_false_iff_ne]; omega
    have t2 : (s.size == 16) = false := by rw [beq_eq_false_iff_ne]; omega
    unfold readW
    rw [if_neg h16]
    unfold Wd.val
    simp only
    go_enter Try.func54, Try.ntmps54
    go_wp2_with fail
    refine bodyPost_ret (v := .tuple #[.agg #[.int .i64 0, .int .u64 0], .int .i64 10]) (by simp [results, Try.results54, go_sem, *]) rfl ⟨rfl, ?_⟩
    exact below_al (Below.refl _ _)
set_option maxHeartbeats 2000000 in
theorem read_any (s : ByteArray) (w : World) (hs : s.size ≤ 9223372036854775807) : Calls Try.prog 48 #[.string s] w fun e w' => e = .returned (.tuple #[(readW s).1.val, .int .i64 (readW s).2]) ∧ Below w.heap.size w w' := by
  by_cases h16 : s.size = 16
  · have t1 : ((s.size : Int) == 16) = true := by rw [beq_iff_eq]; omega
    have t2 : (s.size == 16) = true := by rw [beq_iff_eq]; omega
    unfold readW
    rw [if_pos h16, wd_hor (byF s) (byF_range s)]
    have hF := byF_range s
    unfold Wd.val
    simp only
    obtain ⟨X, HX⟩ : ∃ X, Hid (sg64 (hor (byF s) 0 8) = X) := ⟨_, rfl⟩
    obtain ⟨Z, HZ⟩ : ∃ Z, Hid (hor (byF s) 8 8 = Z) := ⟨_, rfl⟩
    rw [HX.out, HZ.out]
    go_enter Try.func48, Try.ntmps48
    go_wp2_with fail
    generalize hw0 : w.alloc _ = w0 at *
    have hB : WdAt w0 w.heap.size ⟨0, 0⟩ ∧ Below w.heap.size w w0 := by subst hw0; exact ⟨WdAt.new w ⟨0, 0⟩, below_al (Below.refl _ _)⟩
    have INIT := Lib.hid hB
    clear hB hw0
    go_loopw [4, 5, 11] (fun p q i wr => ∃ k : Nat, k ≤ 8 ∧ i = .int .i64 k ∧ p = .int .u64 (hor (byF s) 0 k) ∧ q = .int .u64 (hor (byF s) 8 k) ∧ w0 = wr) (fun _ _ i _ => 9 - (intOf i).toNat)
    case atStart => exact ⟨0, by omega, rfl, rfl, rfl, rfl⟩
    case round =>
      obtain ⟨k, hk8, rfl, rfl, rfl, rfl⟩ := hrel
      by_cases hlt : k < 8
      · have t3 : decide ((k : Int) < 8) = true := decide_eq_true (by omega)
        have i1 : (0 : Int) ≤ (k : Int) := by omega
        have i2 : (k : Int) < (s.size : Int) := by omega
        have i3 : (k : Int) + 8 < (s.size : Int) := by omega
        have hks : k < s.size := by omega
        have hks8 : k + 8 < s.size := by omega
        have HG1 : Hid (byF s k = ((s[k]'hks).toNat : Int)) := bl_get s k hks
        have HG2 : Hid (byF s (8 + k) = ((s[k + 8]'hks8).toNat : Int)) := by show _ = _; rw [Nat.add_comm 8 k]; exact bl_get s (k + 8) hks8
        have r1 := hF k
        have r2 := hF (8 + k)
        have HN1 : Hid (hor (byF s) 0 (k + 1) = hor (byF s) 0 k * 256 + byF s k) := by show _ = _; simp only [hor, Nat.zero_add]
        have HN2 : Hid (hor (byF s) 8 (k + 1) = hor (byF s) 8 k * 256 + byF s (8 + k)) := rfl
        have s1 : 0 ≤ hor (byF s) 0 k ∧ hor (byF s) 0 k * 256 ≤ 18446744073709551360 := by
          have := hor_range (byF s) 0 hF k
          have h7 : (256 : Int) ^ k ≤ 256 ^ 7 := pow_le7 k (by omega)
          rw [show (256 : Int) ^ 7 = 72057594037927936 by decide] at h7
          omega
        have s2 : 0 ≤ hor (byF s) 8 k ∧ hor (byF s) 8 k * 256 ≤ 18446744073709551360 := by
          have := hor_range (byF s) 8 hF k
          have h7 : (256 : Int) ^ k ≤ 256 ^ 7 := pow_le7 k (by omega)
          rw [show (256 : Int) ^ 7 = 72057594037927936 by decide] at h7
          omega
        have b1 : bits .or .u64 (hor (byF s) 0 k * 256) (byF s k) = hor (byF s) 0 (k + 1) := by
          rw [HN1.out]
          exact bits_join .u64 64 (by decide) (fun n a b => by rw [wrap_u64]; omega) 8 _ _ (by omega) (by omega) (by omega) (by omega) (by omega) (by omega)
        have b2 : bits .or .u64 (hor (byF s) 8 k * 256) (byF s (8 + k)) = hor (byF s) 8 (k + 1) := by
          rw [HN2.out]
          exact bits_join .u64 64 (by decide) (fun n a b => by rw [wrap_u64]; omega) 8 _ _ (by omega) (by omega) (by omega) (by omega) (by omega) (by omega)
        rw [HG1.out] at b1 r1
        rw [HG2.out] at b2 r2
        clear HN1 HN2
        generalize hH1 : hor (byF s) 0 (k + 1) = N1 at *
        generalize hH2 : hor (byF s) 8 (k + 1) = N2 at *
        have HH1 := Lib.hid hH1
        have HH2 := Lib.hid hH2
        clear hH1 hH2
        generalize hor (byF s) 0 k = H1 at *
        generalize hor (byF s) 8 k = H2 at *
        go_wp2_with fail
        go_round
        case rel => exact ⟨k + 1, by omega, by go_num, by rw [HH1.out], by rw [HH2.out], by first | trivial | rfl⟩
        case measure => simp [intOf]; omega
      · have t3 : decide ((k : Int) < 8) = false := decide_eq_false (by omega)
        obtain rfl : k = 8 := by omega
        have r0 := INIT.out.1.c0
        have r1 := INIT.out.1.c1
        have z0 := INIT.out.1.fz 0
        have z1 := INIT.out.1.fz 1
        have HB := Lib.hid (below_st (below_st INIT.out.2 (p := ⟨w.heap.size, 0, none⟩) (Nat.le_refl _) (.int .i64 X)) (p := ⟨w.heap.size, 1, none⟩) (Nat.le_refl _) (.int .u64 Z))
        have e2 : wrap64 (hor (byF s) 0 8) = X := by rw [← i64_of_wrap64, i64_wrap, HX.out]
        rw [HZ.out]
        clear HX HZ
        generalize hor (byF s) 0 8 = Y at *
        go_wp2_with fail
        refine bodyPost_ret (v := .tuple #[.agg #[.int .i64 X, .int .u64 Z], .int .i64 0]) (by simp [results, Try.results48, go_sem, *]) rfl ⟨rfl, HB.out⟩
  · have t1 : ((s.size : Int) == 16) = false := by rw [beq_eq_false_iff_ne]; omega
    have t2 : (s.size == 16) = false := by rw [beq_eq_false_iff_ne]; omega
    unfold readW
    rw [if_neg h16]
    unfold Wd.val
    simp only
    go_enter Try.func48, Try.ntmps48
    go_wp2_with fail
    refine bodyPost_ret (v := .tuple #[.agg #[.int .i64 0, .int .u64 0], .int .i64 10]) (by simp [results, Try.results48, go_sem, *]) rfl ⟨rfl, ?_⟩
    exact below_al (Below.refl _ _)
end
end Go.Proofs.Ytojnooagifhekaa
