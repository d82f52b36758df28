/- wide.Text: a number as digits. -/
import Derived.Test.YtafjpgkffgmokaaWadd
import Derived.Test.YtafjpgkffgmokaaDiv
import Derived.Test.YtafjpgkffgmokaaTpure
namespace Go.Proofs.Ytafjpgkffgmokaa
open Go.RowKit
set_option linter.unusedVariables false
set_option linter.unusedSimpArgs false
theorem wput_any (c : Int) (ga go : Nat) (p : Nat) (l : List Int) (w : World) (hc : 0 ≤ c ∧ c < 256) (hp : 1 ≤ p) (hp2 : p ≤ 40) (hl : l.length = 40) (ha : BlkK .i64 3 w ga [(p : Int)]) (ho : BlkK .u8 46 w go l) (hne : ga ≠ go) :
    Calls Try.prog 34 #[.int .u8 c, .pointer (some ⟨ga, 0, none⟩), .pointer (some ⟨go, 0, none⟩)] w fun e w' => e = .returned (.tuple #[]) ∧ w' = (w.setCell ⟨ga, 0, none⟩ (.int .i64 ((p - 1 : Nat) : Int))).setCell ⟨go, p - 1, none⟩ (.int .u8 c) := by
  have c0 : w.cell? ⟨ga, 0, none⟩ = some (.int .i64 (p : Int)) := ha.cell 0 (by simp)
  have f0 := ha.fz 0
  have e1 : (p : Int) - 1 = ((p - 1 : Nat) : Int) := by omega
  have c1 : (w.setCell ⟨ga, 0, none⟩ (.int .i64 ((p - 1 : Nat) : Int))).cell? ⟨ga, 0, none⟩ = some (.int .i64 ((p - 1 : Nat) : Int)) := (ha.set 0 ((p - 1 : Nat) : Int)).cell 0 (by simp)
  have ho2 := ho.far (p := ⟨ga, 0, none⟩) (by simpa using fun h => hne h.symm) (.int .i64 ((p - 1 : Nat) : Int))
  have c2 := ho2.cell (p - 1) (by omega)
  have f2 := ho2.fz (p - 1)
  have i1 : (0 : Int) ≤ ((p - 1 : Nat) : Int) := by omega
  have i2 : ((p - 1 : Nat) : Int) < 40 := by omega
  generalize l.getD (p - 1) 0 = z at *
  clear ho2 ha ho
  go_enter Try.func34, Try.ntmps34
  go_wp2
  go_end0
  exact ⟨rfl, rfl⟩
theorem rep_set (p : Nat) (D : List Int) (x : Int) : (List.replicate (p + 1) (0 : Int) ++ D).set p x = List.replicate p 0 ++ x :: D := by
  rw [List.replicate_succ', List.append_assoc, List.set_append_right _ _ (by simp)]
  simp
theorem zeros40 : cellsK .u8 (List.replicate 40 0) = #[.int .u8 0, .int .u8 0, .int .u8 0, .int .u8 0, .int .u8 0, .int .u8 0, .int .u8 0, .int .u8 0, .int .u8 0, .int .u8 0, .int .u8 0, .int .u8 0, .int .u8 0, .int .u8 0, .int .u8 0, .int .u8 0, .int .u8 0, .int .u8 0, .int .u8 0, .int .u8 0, .int .u8 0, .int .u8 0, .int .u8 0, .int .u8 0, .int .u8 0, .int .u8 0, .int .u8 0, .int .u8 0, .int .u8 0, .int .u8 0, .int .u8 0, .int .u8 0, .int .u8 0, .int .u8 0, .int .u8 0, .int .u8 0, .int .u8 0, .int .u8 0, .int .u8 0, .int .u8 0] := rfl
theorem forty : cellsK .i64 [40] = #[.int .i64 40] := rfl
theorem n39 (N : Int) (h0 : 0 ≤ N) (h1 : N ≤ 170141183460469231731687303715884105728) : N / 10 ^ 39 = 0 := Int.ediv_eq_zero_of_lt h0 (by simp; omega)
theorem slice40 (go p : Nat) (hp : p < 40) : ∀ w : World, (Instr.sliceAt 46 (.pointer (some ⟨go, 0, none⟩)) (some (.int .i64 (p : Int))) none none).run Try.prog w = .ok (.slice (some ⟨go, p, none⟩) (40 - p) (40 - p)) w := by
  intro w
  have hl : Try.prog.arrayLen 46 = 40 := by simp [Program.arrayLen, Try.underlying46]
  have he : Try.prog.elem 46 = 5 := by simp [Program.elem, Try.underlying46]
  have ht : Try.prog.underlying 46 = some (.array (Try.prog.arrayLen 46) (Try.prog.elem 46)) := by rw [hl, he]; exact Try.underlying46
  rw [run_sliceAt_array_l w 46 ⟨go, 0, none⟩ ht .i64 p (by omega) (by omega), he, hl, show (sizeOf 5).run Try.prog w = .ok 1 w by kernel_rfl]
  simp only [Result.andThen, slicedAt]
  have ha : (⟨go, 0, none⟩ : Addr).add (p * 1) = ⟨go, p, none⟩ := by unfold Addr.add; split <;> simp_all
  rw [Int.toNat_natCast, if_neg (by omega), ha]
theorem text_conv (go p : Nat) (D : List Int) (w : World) (hl : p + D.length = 40) (h : BlkK .u8 46 w go (List.replicate p 0 ++ D)) :
    (convert 50 9 (.slice (some ⟨go, p, none⟩) (40 - p) (40 - p))).run Try.prog w = .ok (.string (strOfNums D)) w :=
  run_convert_bytes_arg (P := Try.prog) w 50 5 Try.underlying50 Try.underlying5 go p (40 - p) (40 - p) D (by omega) (fun j hj => by
    rw [h.cell (p + j) (by simp; omega)]
    congr 2
    rw [List.getD_eq_getElem?_getD, List.getD_eq_getElem?_getD, List.getElem?_append_right (by simp)]
    simp) 9 Try.underlying9
set_option maxHeartbeats 4000000 in
set_option maxRecDepth 100000 in
theorem wtext_any (a : Wd) (w : World) (ha : a.ok) : Calls Try.prog 13 #[a.val] w fun e w' => e = .returned (.string (textW a.v)) ∧ Below w.heap.size w w' := by
  have HR := v_range a ha
  have hneg := fun w => neg_any a w ha
  obtain ⟨h1, l1⟩ := a
  obtain ⟨⟨ha1, ha2⟩, ha3, ha4⟩ := ha
  unfold Wd.val at *
  simp only at ha1 ha2 ha3 ha4 hneg ⊢
  obtain ⟨V, HV⟩ : ∃ V, Hid (V = (⟨h1, l1⟩ : Wd).v) := ⟨_, rfl⟩
  rw [← HV.out] at HR hneg ⊢
  have HVL : Hid (V = h1 * 18446744073709551616 + l1) := HV.out
  by_cases hs : h1 < 0
  · have t1 : decide (h1 < 0) = true := decide_eq_true hs
    have hV0 : V < 0 := by have := HVL.out; omega
    obtain ⟨N, HNV⟩ : ∃ N, Hid (N = -V) := ⟨_, rfl⟩
    have hN0 : 0 ≤ N := by have := HNV.out; omega
    have hN1 : N ≤ 170141183460469231731687303715884105728 := by have := HNV.out; omega
    have hN39 := Lib.hid (n39 N hN0 hN1)
    obtain ⟨H0, hH0⟩ : ∃ H0, IntKind.u64.wrap (wd (-V)).hi = H0 := ⟨_, rfl⟩
    have HN : Hid (H0 * 18446744073709551616 + (wd (-V)).lo = N) := by
      have := HNV.out
      show _ = _
      rw [← hH0, wu64]
      unfold wd sg64
      simp only
      omega
    have hH01 : 0 ≤ H0 ∧ H0 < 18446744073709551616 := by rw [← hH0, wu64]; omega
    have hL01 : 0 ≤ (wd (-V)).lo ∧ (wd (-V)).lo < 18446744073709551616 := by have := (wd_ok (-V)).2; omega
    generalize (wd (-V)).hi = h2 at *
    generalize (wd (-V)).lo = L0 at *
    go_enter Try.func13, Try.ntmps13
    go_wp2_with fail
    go_quiet (fail)
    go_wp2_with fail
    refine (hneg _).mono ?_
    rintro e w1 ⟨rfl, hb1⟩
    have hlt1 : w.heap.size < w1.heap.size := by have := hb1.size; simp at this; omega
    have hbW : Below w.heap.size w ((w1.alloc (.cells #[.int .i64 h2, .int .u64 L0] 24))) := by
      have k0 : Below w.heap.size w ((w.alloc (.cells #[.int .i64 h1, .int .u64 l1] 24)).drewN nq) := below_dN (below_al (Below.refl _ _)) _
      exact below_al (below_th k0 hb1)
    have hbox : (w1.alloc (.cells #[.int .i64 h2, .int .u64 L0] 24)).cell? ⟨w.heap.size, 0, none⟩ = some (.int .i64 h1) := by
      have hz := hb1.size
      simp at hz
      rw [World.cell?_alloc_lt _ _ _ (by show w.heap.size < _; omega), hb1.cell (by simp)]
      go_simp
    clear hb1
    have hltW : w.heap.size < (w1.alloc (.cells #[.int .i64 h2, .int .u64 L0] 24)).heap.size := by
      have := hbW.size
      have := hlt1
      simp
      omega
    replace hbW := fun n => below_dN hbW n
    replace hltW : ∀ n, w.heap.size < ((w1.alloc (.cells #[.int .i64 h2, .int .u64 L0] 24)).drewN n).heap.size := fun n => hltW
    replace hbox : ∀ n, ((w1.alloc (.cells #[.int .i64 h2, .int .u64 L0] 24)).drewN n).cell? ⟨w.heap.size, 0, none⟩ = some (.int .i64 h1) := fun n => hbox
    go_wp2_with fail
    go_quiet (fail)
    replace hbW := hbW nq
    replace hbox := hbox nq
    replace hltW := hltW nq
    go_upto_region 5 with (fail)
    generalize hgw : World.drewN _ nq = wx at *
    clear hgw
    have hne : wx.heap.size + 1 ≠ wx.heap.size := by omega
    have hsz := hltW
    go_wp2_with fail
    have hA0 : BlkK .i64 3 ((wx.alloc (.cells (cellsK .u8 (List.replicate 40 0)) 46)).alloc (.cells (cellsK .i64 [40]) 3)) (wx.heap.size + 1) [40] := by
      have := BlkK.new .i64 3 (wx.alloc (.cells (cellsK .u8 (List.replicate 40 0)) 46)) [40]
      simpa using this
    have hO0 : BlkK .u8 46 ((wx.alloc (.cells (cellsK .u8 (List.replicate 40 0)) 46)).alloc (.cells (cellsK .i64 [40]) 3)) wx.heap.size (List.replicate 40 0) := (BlkK.new .u8 46 wx (List.replicate 40 0)).alloc _
    have hb0 : Below w.heap.size w ((wx.alloc (.cells (cellsK .u8 (List.replicate 40 0)) 46)).alloc (.cells (cellsK .i64 [40]) 3)) := below_al (below_al hbW)
    have hx0 : ((wx.alloc (.cells (cellsK .u8 (List.replicate 40 0)) 46)).alloc (.cells (cellsK .i64 [40]) 3)).cell? ⟨w.heap.size, 0, none⟩ = some (.int .i64 h1) := by
      rw [World.cell?_alloc_lt _ _ _ (by show w.heap.size < _; simp; omega), World.cell?_alloc_lt _ _ _ (by show w.heap.size < _; omega)]
      exact hbox
    rw [zeros40, forty] at hA0 hO0 hb0 hx0
    generalize hga : wx.heap.size + 1 = ga at *
    generalize hgo : wx.heap.size = go at *
    generalize (wx.alloc _).alloc _ = wy at *
    have hg1 : w.heap.size < ga := by omega
    have hg2 : w.heap.size < go := by omega
    have INIT := Lib.hid (And.intro hA0 (And.intro hO0 (And.intro hx0 hb0)))
    clear hltW hga hgo hA0 hO0 hx0 hb0 hbW hbox hsz hneg
    go_loopg [3, 4, 9] 40 (fun g hi lo rest wr => ∃ (k : Nat) (H L : Int), g + k = 40 ∧ k ≤ 39 ∧ hi = .int .u64 H ∧ lo = .int .u64 L ∧ (0 ≤ H ∧ H < 18446744073709551616) ∧ (0 ≤ L ∧ L < 18446744073709551616) ∧ (H * 18446744073709551616 + L = N / 10 ^ k) ∧ (k ≤ 1 ∨ (10 : Int) ^ (k - 1) ≤ N) ∧ BlkK .i64 3 wr ga [((40 - k : Nat) : Int)] ∧ BlkK .u8 46 wr go (List.replicate (40 - k) 0 ++ lowD k N) ∧ wr.cell? ⟨w.heap.size, 0, none⟩ = some (.int .i64 h1) ∧ Below w.heap.size w wr)
    case atStart => exact ⟨0, H0, L0, by omega, by omega, rfl, rfl, by omega, by omega, by simpa using HN.out, .inl (by omega), by simpa using INIT.out.1, by simpa [lowD] using INIT.out.2.1, INIT.out.2.2.1, INIT.out.2.2.2⟩
    case round =>
      obtain ⟨k, H, L, hg, hk, rfl, rfl, hH, hL, hV', hlast', hA', hO', hbx', hbel⟩ := hrel
      have hV := Lib.hid hV'
      have hlast := Lib.hid hlast'
      have hA := Lib.hid hA'
      have hO := Lib.hid hO'
      have hbx := Lib.hid hbx'
      clear hV' hlast' hA' hO' hbx'
      have hH1 := hH.1
      have hH2 := hH.2
      have hL1 := hL.1
      have hL2 := hL.2
      have cK := hA.out.cell 0 (by simp)
      simp only [List.getD_cons_zero] at cK
      by_cases hp : 0 < H
      · have t2 : decide (0 < H) = true := decide_eq_true hp
        have hgo : 0 < H ∨ 0 < L ∨ k = 0 := .inl hp
        clear hp
        have hk39 : k < 39 := by
          rcases Nat.lt_or_ge k 39 with h | h
          · exact h
          · exfalso
            obtain rfl : k = 39 := by omega
            have := hV.out
            rw [hN39.out] at this
            omega
        have e2 : IntKind.i64.wrap ((40 - k : Nat) : Int) = ((40 - k : Nat) : Int) := by rw [IntKind.wrap_i64]; omega
        go_wp2_with fail
        refine (div64_any (H % 10) L 10 _ (by omega) (by omega) (by omega) (by omega) (by omega)).mono ?_
        rintro e w1 ⟨q, r, rfl, HD, nd1, rfl⟩
        have hqr : 0 ≤ r ∧ r ≤ 9 := by have := HD.out.2; omega
        have hq0 : 0 ≤ q ∧ q < 18446744073709551616 := by have := HD.out.1; omega
        have hr1 := hqr.1
        have hr2 := hqr.2
        have e3 : IntKind.u8.wrap r = r := by rw [IntKind.wrap_u8]; omega
        have e4 : IntKind.u8.wrap (48 + r) = 48 + r := by rw [IntKind.wrap_u8]; omega
        have HV2 : Hid (H / 10 * 18446744073709551616 + q = N / 10 ^ (k + 1) ∧ r = N / 10 ^ k % 10) := by
          have h1 := hV.out
          have h2 := HD.out
          show _ ∧ _
          rw [div_p10, ← h1]
          omega
        have HL2 : Hid (k + 1 ≤ 1 ∨ (10 : Int) ^ (k + 1 - 1) ≤ N) := by
          show _ ∨ _
          rcases Nat.eq_zero_or_pos k with h | h
          · left; omega
          · right
            have h1 := hV.out
            have h2 : 1 ≤ N / 10 ^ k := by omega
            have h3 := p10_pos k
            have := (Int.le_ediv_iff_mul_le h3).1 h2
            simpa using this
        clear hqr hgo
        have hA1 := hA.out.drewN nd1
        have hO1 := hO.out.drewN nd1
        have hW : (wr.drewN nd1).cell? ⟨w.heap.size, 0, none⟩ = some (.int .i64 h1) := hbx.out
        have hBel := below_dN hbel nd1
        generalize wr.drewN nd1 = w2 at *
        go_wp2_with fail
        refine (wput_any (48 + r) ga go (40 - k) _ _ (by omega) (by omega) (by omega) (by simp [lowD_length]; omega) hA1 hO1 hne).mono ?_
        rintro e w3 ⟨rfl, rfl⟩
        go_wp2
        go_roundg (39 - k)
        case measure => omega
        case rel =>
          refine ⟨k + 1, H / 10, q, by omega, by omega, rfl, rfl, by omega, hq0, HV2.out.1, HL2.out, ?_, ?_, ?_, ?_⟩
          · have := (hA1.set 0 ((40 - k - 1 : Nat) : Int)).far (p := ⟨go, 40 - k - 1, none⟩) (by simpa using hne) (.int .u8 (48 + r))
            rw [show (40 - k - 1 : Nat) = 40 - (k + 1) by omega] at this ⊢
            exact this
          · have := (hO1.far (p := ⟨ga, 0, none⟩) (by simpa using fun h => hne h.symm) (.int .i64 ((40 - k - 1 : Nat) : Int))).set (40 - k - 1) (48 + r)
            rw [show (40 - k : Nat) = (39 - k) + 1 by omega, show 39 - k + 1 - 1 = 39 - k by omega, rep_set, show 39 - k = 40 - (k + 1) by omega] at this
            rw [show (40 - k - 1 : Nat) = 40 - (k + 1) by omega]
            have hr := HV2.out.2
            unfold lowD
            rw [← hr]
            exact this
          · rw [World.cell?_setCell_other _ _ _ _ (by simp <;> omega), World.cell?_setCell_other _ _ _ _ (by simp <;> omega)]
            exact hW
          · exact below_st (below_st hBel (by show w.heap.size ≤ ga; omega) _) (by show w.heap.size ≤ go; omega) _
      · have t2 : decide (0 < H) = false := decide_eq_false hp
        by_cases hp2 : 0 < L
        · have t3 : decide (0 < L) = true := decide_eq_true hp2
          have hgo : 0 < H ∨ 0 < L ∨ k = 0 := .inr (.inl hp2)
          clear hp hp2
          have hk39 : k < 39 := by
            rcases Nat.lt_or_ge k 39 with h | h
            · exact h
            · exfalso
              obtain rfl : k = 39 := by omega
              have := hV.out
              rw [hN39.out] at this
              omega
          have e2 : IntKind.i64.wrap ((40 - k : Nat) : Int) = ((40 - k : Nat) : Int) := by rw [IntKind.wrap_i64]; omega
          go_wp2_with fail
          refine (div64_any (H % 10) L 10 _ (by omega) (by omega) (by omega) (by omega) (by omega)).mono ?_
          rintro e w1 ⟨q, r, rfl, HD, nd1, rfl⟩
          have hqr : 0 ≤ r ∧ r ≤ 9 := by have := HD.out.2; omega
          have hq0 : 0 ≤ q ∧ q < 18446744073709551616 := by have := HD.out.1; omega
          have hr1 := hqr.1
          have hr2 := hqr.2
          have e3 : IntKind.u8.wrap r = r := by rw [IntKind.wrap_u8]; omega
          have e4 : IntKind.u8.wrap (48 + r) = 48 + r := by rw [IntKind.wrap_u8]; omega
          have HV2 : Hid (H / 10 * 18446744073709551616 + q = N / 10 ^ (k + 1) ∧ r = N / 10 ^ k % 10) := by
            have h1 := hV.out
            have h2 := HD.out
            show _ ∧ _
            rw [div_p10, ← h1]
            omega
          have HL2 : Hid (k + 1 ≤ 1 ∨ (10 : Int) ^ (k + 1 - 1) ≤ N) := by
            show _ ∨ _
            rcases Nat.eq_zero_or_pos k with h | h
            · left; omega
            · right
              have h1 := hV.out
              have h2 : 1 ≤ N / 10 ^ k := by omega
              have h3 := p10_pos k
              have := (Int.le_ediv_iff_mul_le h3).1 h2
              simpa using this
          clear hqr hgo
          have hA1 := hA.out.drewN nd1
          have hO1 := hO.out.drewN nd1
          have hW : (wr.drewN nd1).cell? ⟨w.heap.size, 0, none⟩ = some (.int .i64 h1) := hbx.out
          have hBel := below_dN hbel nd1
          generalize wr.drewN nd1 = w2 at *
          go_wp2_with fail
          refine (wput_any (48 + r) ga go (40 - k) _ _ (by omega) (by omega) (by omega) (by simp [lowD_length]; omega) hA1 hO1 hne).mono ?_
          rintro e w3 ⟨rfl, rfl⟩
          go_wp2
          go_roundg (39 - k)
          case measure => omega
          case rel =>
            refine ⟨k + 1, H / 10, q, by omega, by omega, rfl, rfl, by omega, hq0, HV2.out.1, HL2.out, ?_, ?_, ?_, ?_⟩
            · have := (hA1.set 0 ((40 - k - 1 : Nat) : Int)).far (p := ⟨go, 40 - k - 1, none⟩) (by simpa using hne) (.int .u8 (48 + r))
              rw [show (40 - k - 1 : Nat) = 40 - (k + 1) by omega] at this ⊢
              exact this
            · have := (hO1.far (p := ⟨ga, 0, none⟩) (by simpa using fun h => hne h.symm) (.int .i64 ((40 - k - 1 : Nat) : Int))).set (40 - k - 1) (48 + r)
              rw [show (40 - k : Nat) = (39 - k) + 1 by omega, show 39 - k + 1 - 1 = 39 - k by omega, rep_set, show 39 - k = 40 - (k + 1) by omega] at this
              rw [show (40 - k - 1 : Nat) = 40 - (k + 1) by omega]
              have hr := HV2.out.2
              unfold lowD
              rw [← hr]
              exact this
            · rw [World.cell?_setCell_other _ _ _ _ (by simp <;> omega), World.cell?_setCell_other _ _ _ _ (by simp <;> omega)]
              exact hW
            · exact below_st (below_st hBel (by show w.heap.size ≤ ga; omega) _) (by show w.heap.size ≤ go; omega) _
        · have t3 : decide (0 < L) = false := decide_eq_false hp2
          by_cases hp3 : k = 0
          · have t4 : (((40 - k : Nat) : Int) == 40) = true := by rw [beq_iff_eq]; omega
            have hgo : 0 < H ∨ 0 < L ∨ k = 0 := .inr (.inr hp3)
            clear hp hp2 hp3
            have hk39 : k < 39 := by
              rcases Nat.lt_or_ge k 39 with h | h
              · exact h
              · exfalso
                obtain rfl : k = 39 := by omega
                have := hV.out
                rw [hN39.out] at this
                omega
            have e2 : IntKind.i64.wrap ((40 - k : Nat) : Int) = ((40 - k : Nat) : Int) := by rw [IntKind.wrap_i64]; omega
            go_wp2_with fail
            refine (div64_any (H % 10) L 10 _ (by omega) (by omega) (by omega) (by omega) (by omega)).mono ?_
            rintro e w1 ⟨q, r, rfl, HD, nd1, rfl⟩
            have hqr : 0 ≤ r ∧ r ≤ 9 := by have := HD.out.2; omega
            have hq0 : 0 ≤ q ∧ q < 18446744073709551616 := by have := HD.out.1; omega
            have hr1 := hqr.1
            have hr2 := hqr.2
            have e3 : IntKind.u8.wrap r = r := by rw [IntKind.wrap_u8]; omega
            have e4 : IntKind.u8.wrap (48 + r) = 48 + r := by rw [IntKind.wrap_u8]; omega
            have HV2 : Hid (H / 10 * 18446744073709551616 + q = N / 10 ^ (k + 1) ∧ r = N / 10 ^ k % 10) := by
              have h1 := hV.out
              have h2 := HD.out
              show _ ∧ _
              rw [div_p10, ← h1]
              omega
            have HL2 : Hid (k + 1 ≤ 1 ∨ (10 : Int) ^ (k + 1 - 1) ≤ N) := by
              show _ ∨ _
              rcases Nat.eq_zero_or_pos k with h | h
              · left; omega
              · right
                have h1 := hV.out
                have h2 : 1 ≤ N / 10 ^ k := by omega
                have h3 := p10_pos k
                have := (Int.le_ediv_iff_mul_le h3).1 h2
                simpa using this
            clear hqr hgo
            have hA1 := hA.out.drewN nd1
            have hO1 := hO.out.drewN nd1
            have hW : (wr.drewN nd1).cell? ⟨w.heap.size, 0, none⟩ = some (.int .i64 h1) := hbx.out
            have hBel := below_dN hbel nd1
            generalize wr.drewN nd1 = w2 at *
            go_wp2_with fail
            refine (wput_any (48 + r) ga go (40 - k) _ _ (by omega) (by omega) (by omega) (by simp [lowD_length]; omega) hA1 hO1 hne).mono ?_
            rintro e w3 ⟨rfl, rfl⟩
            go_wp2
            go_roundg (39 - k)
            case measure => omega
            case rel =>
              refine ⟨k + 1, H / 10, q, by omega, by omega, rfl, rfl, by omega, hq0, HV2.out.1, HL2.out, ?_, ?_, ?_, ?_⟩
              · have := (hA1.set 0 ((40 - k - 1 : Nat) : Int)).far (p := ⟨go, 40 - k - 1, none⟩) (by simpa using hne) (.int .u8 (48 + r))
                rw [show (40 - k - 1 : Nat) = 40 - (k + 1) by omega] at this ⊢
                exact this
              · have := (hO1.far (p := ⟨ga, 0, none⟩) (by simpa using fun h => hne h.symm) (.int .i64 ((40 - k - 1 : Nat) : Int))).set (40 - k - 1) (48 + r)
                rw [show (40 - k : Nat) = (39 - k) + 1 by omega, show 39 - k + 1 - 1 = 39 - k by omega, rep_set, show 39 - k = 40 - (k + 1) by omega] at this
                rw [show (40 - k - 1 : Nat) = 40 - (k + 1) by omega]
                have hr := HV2.out.2
                unfold lowD
                rw [← hr]
                exact this
              · rw [World.cell?_setCell_other _ _ _ _ (by simp <;> omega), World.cell?_setCell_other _ _ _ _ (by simp <;> omega)]
                exact hW
              · exact below_st (below_st hBel (by show w.heap.size ≤ ga; omega) _) (by show w.heap.size ≤ go; omega) _
          · have t4 : (((40 - k : Nat) : Int) == 40) = false := by rw [beq_eq_false_iff_ne]; omega
            have hk1 : 1 ≤ k := by omega
            have HT : Hid (numD N = lowD k N) := by
              have h1 := hV.out
              have h2 : N / 10 ^ k = 0 := by omega
              have h3 : N < 10 ^ k := by
                have := p10_pos k
                rcases Int.lt_or_le N (10 ^ k) with h | h
                · exact h
                · have := (Int.le_ediv_iff_mul_le (p10_pos k)).2 (show 1 * 10 ^ k ≤ N by omega)
                  omega
              exact numD_of hN0 (by omega) ⟨hk1, h3, by rcases hlast.out with h | h; left; omega; right; exact h⟩
            have hbx := hbx.out
            go_wp2_with fail
            refine (wput_any 45 ga go (40 - k) _ _ (by omega) (by omega) (by omega) (by simp [lowD_length]; omega) hA.out hO.out hne).mono ?_
            rintro e w3 ⟨rfl, rfl⟩
            have hA2 : BlkK .i64 3 ((wr.setCell ⟨ga, 0, none⟩ (.int .i64 ((40 - k - 1 : Nat) : Int))).setCell ⟨go, 40 - k - 1, none⟩ (.int .u8 45)) ga [((39 - k : Nat) : Int)] := by
              have := (hA.out.set 0 ((40 - k - 1 : Nat) : Int)).far (p := ⟨go, 40 - k - 1, none⟩) (by simpa using hne) (.int .u8 45)
              rw [show (40 - k - 1 : Nat) = 39 - k by omega] at this ⊢
              simpa using this
            have hO2 : BlkK .u8 46 ((wr.setCell ⟨ga, 0, none⟩ (.int .i64 ((40 - k - 1 : Nat) : Int))).setCell ⟨go, 40 - k - 1, none⟩ (.int .u8 45)) go (List.replicate (39 - k) 0 ++ 45 :: lowD k N) := by
              have := (hO.out.far (p := ⟨ga, 0, none⟩) (by simpa using fun h => hne h.symm) (.int .i64 ((40 - k - 1 : Nat) : Int))).set (40 - k - 1) 45
              rw [show (40 - k : Nat) = (39 - k) + 1 by omega, show 39 - k + 1 - 1 = 39 - k by omega, rep_set] at this
              rw [show (40 - k - 1 : Nat) = 39 - k by omega]
              exact this
            have hB2 : Below w.heap.size w ((wr.setCell ⟨ga, 0, none⟩ (.int .i64 ((40 - k - 1 : Nat) : Int))).setCell ⟨go, 40 - k - 1, none⟩ (.int .u8 45)) := below_st (below_st hbel (by show w.heap.size ≤ ga; omega) _) (by show w.heap.size ≤ go; omega) _
            generalize (wr.setCell ⟨ga, 0, none⟩ (.int .i64 ((40 - k - 1 : Nat) : Int))).setCell ⟨go, 40 - k - 1, none⟩ (.int .u8 45) = w4 at *
            have D := text_conv go (39 - k) (45 :: lowD k N) w4 (by simp [lowD_length]; omega) hO2
            have cA := hA2.cell 0 (by simp)
            simp only [List.getD_cons_zero] at cA
            have hsl := slice40 go (39 - k) (by omega)
            have HF : Hid (textW V = strOfNums (45 :: lowD k N)) := by show _ = _; unfold textW textL; rw [if_pos (by omega), ← HNV.out, HT.out]
            clear hA2 hO2 hA hO hV hlast HT
            go_wp2
            go_ret
            exact ⟨ret_str (by rw [HF.out]), hB2⟩
  · have t1 : decide (h1 < 0) = false := decide_eq_false hs
    have e1 : IntKind.u64.wrap h1 = h1 := wu64_in _ (by omega) (by omega)
    have hV0 : 0 ≤ V := by have := HVL.out; omega
    obtain ⟨N, HNV⟩ : ∃ N, Hid (N = V) := ⟨_, rfl⟩
    have hN0 : 0 ≤ N := by have := HNV.out; omega
    have hN1 : N ≤ 170141183460469231731687303715884105728 := by have := HNV.out; omega
    have hN39 := Lib.hid (n39 N hN0 hN1)
    have HN : Hid (h1 * 18446744073709551616 + l1 = N) := by have := HVL.out; have := HNV.out; show _ = _; omega
    have hltW : ∀ nq, w.heap.size < ((w.alloc (.cells #[.int .i64 h1, .int .u64 l1] 24)).drewN nq).heap.size := fun nq => by simp
    have hbW : ∀ nq, Below w.heap.size w ((w.alloc (.cells #[.int .i64 h1, .int .u64 l1] 24)).drewN nq) := fun nq => below_dN (below_al (Below.refl _ _)) _
    have hbox : ∀ nq, ((w.alloc (.cells #[.int .i64 h1, .int .u64 l1] 24)).drewN nq).cell? ⟨w.heap.size, 0, none⟩ = some (.int .i64 h1) := fun nq => by go_simp
    go_enter Try.func13, Try.ntmps13
    go_wp2_with fail
    go_quiet (fail)
    replace hbW := hbW nq
    replace hbox := hbox nq
    replace hltW := hltW nq
    go_upto_region 5 with (fail)
    generalize hgw : World.drewN _ nq = wx at *
    clear hgw
    have hne : wx.heap.size + 1 ≠ wx.heap.size := by omega
    have hsz := hltW
    go_wp2_with fail
    have hA0 : BlkK .i64 3 ((wx.alloc (.cells (cellsK .u8 (List.replicate 40 0)) 46)).alloc (.cells (cellsK .i64 [40]) 3)) (wx.heap.size + 1) [40] := by
      have := BlkK.new .i64 3 (wx.alloc (.cells (cellsK .u8 (List.replicate 40 0)) 46)) [40]
      simpa using this
    have hO0 : BlkK .u8 46 ((wx.alloc (.cells (cellsK .u8 (List.replicate 40 0)) 46)).alloc (.cells (cellsK .i64 [40]) 3)) wx.heap.size (List.replicate 40 0) := (BlkK.new .u8 46 wx (List.replicate 40 0)).alloc _
    have hb0 : Below w.heap.size w ((wx.alloc (.cells (cellsK .u8 (List.replicate 40 0)) 46)).alloc (.cells (cellsK .i64 [40]) 3)) := below_al (below_al hbW)
    have hx0 : ((wx.alloc (.cells (cellsK .u8 (List.replicate 40 0)) 46)).alloc (.cells (cellsK .i64 [40]) 3)).cell? ⟨w.heap.size, 0, none⟩ = some (.int .i64 h1) := by
      rw [World.cell?_alloc_lt _ _ _ (by show w.heap.size < _; simp; omega), World.cell?_alloc_lt _ _ _ (by show w.heap.size < _; omega)]
      exact hbox
    rw [zeros40, forty] at hA0 hO0 hb0 hx0
    generalize hga : wx.heap.size + 1 = ga at *
    generalize hgo : wx.heap.size = go at *
    generalize (wx.alloc _).alloc _ = wy at *
    have hg1 : w.heap.size < ga := by omega
    have hg2 : w.heap.size < go := by omega
    have INIT := Lib.hid (And.intro hA0 (And.intro hO0 (And.intro hx0 hb0)))
    clear hltW hga hgo hA0 hO0 hx0 hb0 hbW hbox hsz hneg
    go_loopg [3, 4, 9] 40 (fun g hi lo rest wr => ∃ (k : Nat) (H L : Int), g + k = 40 ∧ k ≤ 39 ∧ hi = .int .u64 H ∧ lo = .int .u64 L ∧ (0 ≤ H ∧ H < 18446744073709551616) ∧ (0 ≤ L ∧ L < 18446744073709551616) ∧ (H * 18446744073709551616 + L = N / 10 ^ k) ∧ (k ≤ 1 ∨ (10 : Int) ^ (k - 1) ≤ N) ∧ BlkK .i64 3 wr ga [((40 - k : Nat) : Int)] ∧ BlkK .u8 46 wr go (List.replicate (40 - k) 0 ++ lowD k N) ∧ wr.cell? ⟨w.heap.size, 0, none⟩ = some (.int .i64 h1) ∧ Below w.heap.size w wr)
    case atStart => exact ⟨0, h1, l1, by omega, by omega, rfl, rfl, by omega, by omega, by simpa using HN.out, .inl (by omega), by simpa using INIT.out.1, by simpa [lowD] using INIT.out.2.1, INIT.out.2.2.1, INIT.out.2.2.2⟩
    case round =>
      obtain ⟨k, H, L, hg, hk, rfl, rfl, hH, hL, hV', hlast', hA', hO', hbx', hbel⟩ := hrel
      have hV := Lib.hid hV'
      have hlast := Lib.hid hlast'
      have hA := Lib.hid hA'
      have hO := Lib.hid hO'
      have hbx := Lib.hid hbx'
      clear hV' hlast' hA' hO' hbx'
      have hH1 := hH.1
      have hH2 := hH.2
      have hL1 := hL.1
      have hL2 := hL.2
      have cK := hA.out.cell 0 (by simp)
      simp only [List.getD_cons_zero] at cK
      by_cases hp : 0 < H
      · have t2 : decide (0 < H) = true := decide_eq_true hp
        have hgo : 0 < H ∨ 0 < L ∨ k = 0 := .inl hp
        clear hp
        have hk39 : k < 39 := by
          rcases Nat.lt_or_ge k 39 with h | h
          · exact h
          · exfalso
            obtain rfl : k = 39 := by omega
            have := hV.out
            rw [hN39.out] at this
            omega
        have e2 : IntKind.i64.wrap ((40 - k : Nat) : Int) = ((40 - k : Nat) : Int) := by rw [IntKind.wrap_i64]; omega
        go_wp2_with fail
        refine (div64_any (H % 10) L 10 _ (by omega) (by omega) (by omega) (by omega) (by omega)).mono ?_
        rintro e w1 ⟨q, r, rfl, HD, nd1, rfl⟩
        have hqr : 0 ≤ r ∧ r ≤ 9 := by have := HD.out.2; omega
        have hq0 : 0 ≤ q ∧ q < 18446744073709551616 := by have := HD.out.1; omega
        have hr1 := hqr.1
        have hr2 := hqr.2
        have e3 : IntKind.u8.wrap r = r := by rw [IntKind.wrap_u8]; omega
        have e4 : IntKind.u8.wrap (48 + r) = 48 + r := by rw [IntKind.wrap_u8]; omega
        have HV2 : Hid (H / 10 * 18446744073709551616 + q = N / 10 ^ (k + 1) ∧ r = N / 10 ^ k % 10) := by
          have h1 := hV.out
          have h2 := HD.out
          show _ ∧ _
          rw [div_p10, ← h1]
          omega
        have HL2 : Hid (k + 1 ≤ 1 ∨ (10 : Int) ^ (k + 1 - 1) ≤ N) := by
          show _ ∨ _
          rcases Nat.eq_zero_or_pos k with h | h
          · left; omega
          · right
            have h1 := hV.out
            have h2 : 1 ≤ N / 10 ^ k := by omega
            have h3 := p10_pos k
            have := (Int.le_ediv_iff_mul_le h3).1 h2
            simpa using this
        clear hqr hgo
        have hA1 := hA.out.drewN nd1
        have hO1 := hO.out.drewN nd1
        have hW : (wr.drewN nd1).cell? ⟨w.heap.size, 0, none⟩ = some (.int .i64 h1) := hbx.out
        have hBel := below_dN hbel nd1
        generalize wr.drewN nd1 = w2 at *
        go_wp2_with fail
        refine (wput_any (48 + r) ga go (40 - k) _ _ (by omega) (by omega) (by omega) (by simp [lowD_length]; omega) hA1 hO1 hne).mono ?_
        rintro e w3 ⟨rfl, rfl⟩
        go_wp2
        go_roundg (39 - k)
        case measure => omega
        case rel =>
          refine ⟨k + 1, H / 10, q, by omega, by omega, rfl, rfl, by omega, hq0, HV2.out.1, HL2.out, ?_, ?_, ?_, ?_⟩
          · have := (hA1.set 0 ((40 - k - 1 : Nat) : Int)).far (p := ⟨go, 40 - k - 1, none⟩) (by simpa using hne) (.int .u8 (48 + r))
            rw [show (40 - k - 1 : Nat) = 40 - (k + 1) by omega] at this ⊢
            exact this
          · have := (hO1.far (p := ⟨ga, 0, none⟩) (by simpa using fun h => hne h.symm) (.int .i64 ((40 - k - 1 : Nat) : Int))).set (40 - k - 1) (48 + r)
            rw [show (40 - k : Nat) = (39 - k) + 1 by omega, show 39 - k + 1 - 1 = 39 - k by omega, rep_set, show 39 - k = 40 - (k + 1) by omega] at this
            rw [show (40 - k - 1 : Nat) = 40 - (k + 1) by omega]
            have hr := HV2.out.2
            unfold lowD
            rw [← hr]
            exact this
          · rw [World.cell?_setCell_other _ _ _ _ (by simp <;> omega), World.cell?_setCell_other _ _ _ _ (by simp <;> omega)]
            exact hW
          · exact below_st (below_st hBel (by show w.heap.size ≤ ga; omega) _) (by show w.heap.size ≤ go; omega) _
      · have t2 : decide (0 < H) = false := decide_eq_false hp
        by_cases hp2 : 0 < L
        · have t3 : decide (0 < L) = true := decide_eq_true hp2
          have hgo : 0 < H ∨ 0 < L ∨ k = 0 := .inr (.inl hp2)
          clear hp hp2
          have hk39 : k < 39 := by
            rcases Nat.lt_or_ge k 39 with h | h
            · exact h
            · exfalso
              obtain rfl : k = 39 := by omega
              have := hV.out
              rw [hN39.out] at this
              omega
          have e2 : IntKind.i64.wrap ((40 - k : Nat) : Int) = ((40 - k : Nat) : Int) := by rw [IntKind.wrap_i64]; omega
          go_wp2_with fail
          refine (div64_any (H % 10) L 10 _ (by omega) (by omega) (by omega) (by omega) (by omega)).mono ?_
          rintro e w1 ⟨q, r, rfl, HD, nd1, rfl⟩
          have hqr : 0 ≤ r ∧ r ≤ 9 := by have := HD.out.2; omega
          have hq0 : 0 ≤ q ∧ q < 18446744073709551616 := by have := HD.out.1; omega
          have hr1 := hqr.1
          have hr2 := hqr.2
          have e3 : IntKind.u8.wrap r = r := by rw [IntKind.wrap_u8]; omega
          have e4 : IntKind.u8.wrap (48 + r) = 48 + r := by rw [IntKind.wrap_u8]; omega
          have HV2 : Hid (H / 10 * 18446744073709551616 + q = N / 10 ^ (k + 1) ∧ r = N / 10 ^ k % 10) := by
            have h1 := hV.out
            have h2 := HD.out
            show _ ∧ _
            rw [div_p10, ← h1]
            omega
          have HL2 : Hid (k + 1 ≤ 1 ∨ (10 : Int) ^ (k + 1 - 1) ≤ N) := by
            show _ ∨ _
            rcases Nat.eq_zero_or_pos k with h | h
            · left; omega
            · right
              have h1 := hV.out
              have h2 : 1 ≤ N / 10 ^ k := by omega
              have h3 := p10_pos k
              have := (Int.le_ediv_iff_mul_le h3).1 h2
              simpa using this
          clear hqr hgo
          have hA1 := hA.out.drewN nd1
          have hO1 := hO.out.drewN nd1
          have hW : (wr.drewN nd1).cell? ⟨w.heap.size, 0, none⟩ = some (.int .i64 h1) := hbx.out
          have hBel := below_dN hbel nd1
          generalize wr.drewN nd1 = w2 at *
          go_wp2_with fail
          refine (wput_any (48 + r) ga go (40 - k) _ _ (by omega) (by omega) (by omega) (by simp [lowD_length]; omega) hA1 hO1 hne).mono ?_
          rintro e w3 ⟨rfl, rfl⟩
          go_wp2
          go_roundg (39 - k)
          case measure => omega
          case rel =>
            refine ⟨k + 1, H / 10, q, by omega, by omega, rfl, rfl, by omega, hq0, HV2.out.1, HL2.out, ?_, ?_, ?_, ?_⟩
            · have := (hA1.set 0 ((40 - k - 1 : Nat) : Int)).far (p := ⟨go, 40 - k - 1, none⟩) (by simpa using hne) (.int .u8 (48 + r))
              rw [show (40 - k - 1 : Nat) = 40 - (k + 1) by omega] at this ⊢
              exact this
            · have := (hO1.far (p := ⟨ga, 0, none⟩) (by simpa using fun h => hne h.symm) (.int .i64 ((40 - k - 1 : Nat) : Int))).set (40 - k - 1) (48 + r)
              rw [show (40 - k : Nat) = (39 - k) + 1 by omega, show 39 - k + 1 - 1 = 39 - k by omega, rep_set, show 39 - k = 40 - (k + 1) by omega] at this
              rw [show (40 - k - 1 : Nat) = 40 - (k + 1) by omega]
              have hr := HV2.out.2
              unfold lowD
              rw [← hr]
              exact this
            · rw [World.cell?_setCell_other _ _ _ _ (by simp <;> omega), World.cell?_setCell_other _ _ _ _ (by simp <;> omega)]
              exact hW
            · exact below_st (below_st hBel (by show w.heap.size ≤ ga; omega) _) (by show w.heap.size ≤ go; omega) _
        · have t3 : decide (0 < L) = false := decide_eq_false hp2
          by_cases hp3 : k = 0
          · have t4 : (((40 - k : Nat) : Int) == 40) = true := by rw [beq_iff_eq]; omega
            have hgo : 0 < H ∨ 0 < L ∨ k = 0 := .inr (.inr hp3)
            clear hp hp2 hp3
            have hk39 : k < 39 := by
              rcases Nat.lt_or_ge k 39 with h | h
              · exact h
              · exfalso
                obtain rfl : k = 39 := by omega
                have := hV.out
                rw [hN39.out] at this
                omega
            have e2 : IntKind.i64.wrap ((40 - k : Nat) : Int) = ((40 - k : Nat) : Int) := by rw [IntKind.wrap_i64]; omega
            go_wp2_with fail
            refine (div64_any (H % 10) L 10 _ (by omega) (by omega) (by omega) (by omega) (by omega)).mono ?_
            rintro e w1 ⟨q, r, rfl, HD, nd1, rfl⟩
            have hqr : 0 ≤ r ∧ r ≤ 9 := by have := HD.out.2; omega
            have hq0 : 0 ≤ q ∧ q < 18446744073709551616 := by have := HD.out.1; omega
            have hr1 := hqr.1
            have hr2 := hqr.2
            have e3 : IntKind.u8.wrap r = r := by rw [IntKind.wrap_u8]; omega
            have e4 : IntKind.u8.wrap (48 + r) = 48 + r := by rw [IntKind.wrap_u8]; omega
            have HV2 : Hid (H / 10 * 18446744073709551616 + q = N / 10 ^ (k + 1) ∧ r = N / 10 ^ k % 10) := by
              have h1 := hV.out
              have h2 := HD.out
              show _ ∧ _
              rw [div_p10, ← h1]
              omega
            have HL2 : Hid (k + 1 ≤ 1 ∨ (10 : Int) ^ (k + 1 - 1) ≤ N) := by
              show _ ∨ _
              rcases Nat.eq_zero_or_pos k with h | h
              · left; omega
              · right
                have h1 := hV.out
                have h2 : 1 ≤ N / 10 ^ k := by omega
                have h3 := p10_pos k
                have := (Int.le_ediv_iff_mul_le h3).1 h2
                simpa using this
            clear hqr hgo
            have hA1 := hA.out.drewN nd1
            have hO1 := hO.out.drewN nd1
            have hW : (wr.drewN nd1).cell? ⟨w.heap.size, 0, none⟩ = some (.int .i64 h1) := hbx.out
            have hBel := below_dN hbel nd1
            generalize wr.drewN nd1 = w2 at *
            go_wp2_with fail
            refine (wput_any (48 + r) ga go (40 - k) _ _ (by omega) (by omega) (by omega) (by simp [lowD_length]; omega) hA1 hO1 hne).mono ?_
            rintro e w3 ⟨rfl, rfl⟩
            go_wp2
            go_roundg (39 - k)
            case measure => omega
            case rel =>
              refine ⟨k + 1, H / 10, q, by omega, by omega, rfl, rfl, by omega, hq0, HV2.out.1, HL2.out, ?_, ?_, ?_, ?_⟩
              · have := (hA1.set 0 ((40 - k - 1 : Nat) : Int)).far (p := ⟨go, 40 - k - 1, none⟩) (by simpa using hne) (.int .u8 (48 + r))
                rw [show (40 - k - 1 : Nat) = 40 - (k + 1) by omega] at this ⊢
                exact this
              · have := (hO1.far (p := ⟨ga, 0, none⟩) (by simpa using fun h => hne h.symm) (.int .i64 ((40 - k - 1 : Nat) : Int))).set (40 - k - 1) (48 + r)
                rw [show (40 - k : Nat) = (39 - k) + 1 by omega, show 39 - k + 1 - 1 = 39 - k by omega, rep_set, show 39 - k = 40 - (k + 1) by omega] at this
                rw [show (40 - k - 1 : Nat) = 40 - (k + 1) by omega]
                have hr := HV2.out.2
                unfold lowD
                rw [← hr]
                exact this
              · rw [World.cell?_setCell_other _ _ _ _ (by simp <;> omega), World.cell?_setCell_other _ _ _ _ (by simp <;> omega)]
                exact hW
              · exact below_st (below_st hBel (by show w.heap.size ≤ ga; omega) _) (by show w.heap.size ≤ go; omega) _
          · have t4 : (((40 - k : Nat) : Int) == 40) = false := by rw [beq_eq_false_iff_ne]; omega
            have hk1 : 1 ≤ k := by omega
            have HT : Hid (numD N = lowD k N) := by
              have h1 := hV.out
              have h2 : N / 10 ^ k = 0 := by omega
              have h3 : N < 10 ^ k := by
                have := p10_pos k
                rcases Int.lt_or_le N (10 ^ k) with h | h
                · exact h
                · have := (Int.le_ediv_iff_mul_le (p10_pos k)).2 (show 1 * 10 ^ k ≤ N by omega)
                  omega
              exact numD_of hN0 (by omega) ⟨hk1, h3, by rcases hlast.out with h | h; left; omega; right; exact h⟩
            have hbx := hbx.out
            have D := text_conv go (40 - k) (lowD k N) wr (by simp [lowD_length]; omega) hO.out
            have cA := hA.out.cell 0 (by simp)
            simp only [List.getD_cons_zero] at cA
            have hsl := slice40 go (40 - k) (by omega)
            have HF : Hid (textW V = strOfNums (lowD k N)) := by show _ = _; unfold textW textL; rw [if_neg (by omega), ← HNV.out, HT.out]
            clear hA hO hV hlast HT
            go_wp2
            go_ret
            exact ⟨ret_str (by rw [HF.out]), hbel⟩
end Go.Proofs.Ytafjpgkffgmokaa
