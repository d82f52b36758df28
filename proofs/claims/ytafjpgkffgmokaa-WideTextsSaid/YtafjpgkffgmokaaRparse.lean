/- The reference's Parse. (Printed by wip/rparse.py.) -/
import Derived.Test.YtafjpgkffgmokaaRtext
import Derived.Test.YtafjpgkffgmokaaWparse
namespace Go.Proofs.Ytafjpgkffgmokaa
open Go.RowKit
set_option linter.unusedVariables false
set_option linter.unusedSimpArgs false
theorem valD_take (l : List Int) (k : Nat) (h : ∀ d ∈ l, isDig d) : valD (l.take k) ≤ valD l := by
  have e : valD l = valD (l.take k) * 10 ^ (l.drop k).length + valD (l.drop k) := by
    have := foldl_val (l.drop k) (valD (l.take k))
    rw [← this]
    unfold valD
    rw [← List.foldl_append, List.take_append_drop]
  obtain ⟨r1, r2⟩ := valD_range (l.take k) (fun d hd => h d (List.mem_of_mem_take hd))
  obtain ⟨q1, q2⟩ := valD_range (l.drop k) (fun d hd => h d (List.mem_of_mem_drop hd))
  have hp := p10_pos (l.drop k).length
  have : valD (l.take k) * 1 ≤ valD (l.take k) * 10 ^ (l.drop k).length := Int.mul_le_mul_of_nonneg_left (by omega) r1
  omega
theorem lowS_last (f : Nat → Int) (x : Int) : lowS (fun j => if j = 15 then f 15 + x else f j) 16 = lowS f 16 + x := by
  simp only [lowS, Nat.reduceSub, Nat.reduceEqDiff, if_true, if_false, Int.reducePow]
  omega
set_option maxHeartbeats 8000000 in
set_option maxRecDepth 100000 in
theorem rparse_any (s : ByteArray) (w : World) (hs : s.size ≤ 1000) : Calls Try.prog 12 #[.string s] w fun e w' => e = .returned (.tuple #[(parseL (bl s)).1.val, .int .i64 (parseL (bl s)).2]) ∧ Below w.heap.size w w' := by
  obtain ⟨R, HR⟩ : ∃ R, Hid (R = parseL (bl s)) := ⟨_, rfl⟩
  rw [← HR.out]
  obtain ⟨t, HT⟩ : ∃ t : ByteArray, Hid (t = if isNeg (bl s) = true then s.extract 1 s.size else s) := ⟨_, rfl⟩
  have HD : Hid (digsOf (bl s) = bl t) := by
    show _ = _
    rw [HT.out]
    unfold digsOf
    split
    · exact (bl_extract1 s).symm
    · rfl
  have hne : isNeg (bl s) = true → 0 < s.size := fun h => by
    rcases Nat.eq_zero_or_pos s.size with h0 | h0
    · have hb : bl s = [] := List.eq_nil_of_length_eq_zero (by rw [bl_length]; exact h0)
      rw [hb] at h
      cases h
    · exact h0
  have HSZ : Hid (t.size = if isNeg (bl s) = true then s.size - 1 else s.size) := by
    show _ = _
    rw [HT.out]
    split <;> simp
  have htl : t.size ≤ s.size := by rw [HSZ.out]; split <;> omega
  go_enter Try.func12, Try.ntmps12
  have hW0 := WdAt.new w ⟨0, 0⟩
  have hB0 : Below w.heap.size w (w.alloc (.cells #[.int .i64 0, .int .u64 0] 24)) := below_al (Below.refl _ _)
  simp only at hW0
  obtain ⟨NB, hNB⟩ : ∃ NB, Hid (NB = isNeg (bl s)) := ⟨_, rfl⟩
  go_upto_region 2 with (fail)
  go_cut [5] (fun v wx => v = .bool NB ∧ wx = w.alloc (.cells #[.int .i64 0, .int .u64 0] 24))
  case first =>
    rcases Nat.eq_zero_or_pos s.size with h0 | h0
    · have f1 := toList_nil s h0
      have f2 : decide (0 < (s.size : Int)) = false := decide_eq_false (by omega)
      have f3 : decide (0 < s.size) = false := decide_eq_false (by omega)
      have E : Hid (NB = false) := by
        show _ = _
        rw [hNB.out]
        rcases hh : isNeg (bl s) with _ | _
        · rfl
        · have := hne hh; omega
      go_wp2_with fail
      go_meet
      exact ⟨by rw [E.out], rfl⟩
    · have f2 : decide (0 < (s.size : Int)) = true := decide_eq_true (by omega)
      have f3 : decide (0 < s.size) = true := decide_eq_true (by omega)
      have hh := head_isNeg s h0
      rw [← hNB.out] at hh
      have E := Lib.hid hh
      clear hh
      go_wp2_with fail
      go_meet
      exact ⟨by rw [E.out], rfl⟩
  case rest =>
  obtain ⟨rfl, rfl⟩ := hcut
  go_upto_if 23 with (fail)
  go_cut [4, 5] (fun v nb wx => v = .string t ∧ nb = .bool NB ∧ wx = w.alloc (.cells #[.int .i64 0, .int .u64 0] 24))
  case first =>
    rcases hh : NB with _ | _
    · have e : s = t := by rw [HT.out, if_neg (by rw [← hNB.out, hh]; decide)]
      have E := Lib.hid e
      have HH := Lib.hid hh
      clear e hh
      go_wp2_with fail
      go_meet
      exact ⟨by rw [← E.out], by rw [HH.out], rfl⟩
    · have hs0 : 0 < s.size := hne (by rw [← hNB.out, hh])
      have i1 : (1 : Int) ≤ (s.size : Int) := by omega
      have e : s.extract 1 s.size = t := by rw [HT.out, if_pos (by rw [← hNB.out, hh])]
      have E := Lib.hid e
      have HH := Lib.hid hh
      clear e hh
      go_wp2_with fail
      go_meet
      exact ⟨by rw [← E.out], by rw [HH.out], rfl⟩
  case rest =>
    obtain ⟨rfl, rfl, rfl⟩ := hcut
    generalize hg2 : w.heap.size = g2 at *
    generalize w.alloc (.cells #[.int .i64 0, .int .u64 0] 24) = w0 at *
    have W0 := Lib.hid hW0
    have r0 := hW0.c0
    have r1 := hW0.c1
    have rz0 := hW0.fz 0
    have rz1 := hW0.fz 1
    have hb00 : Below w.heap.size w ((w0.setCell ⟨g2, 0, none⟩ (.int .i64 0)).setCell ⟨g2, 1, none⟩ (.int .u64 0)) := below_st (below_st (by rw [hg2]; exact hB0) (by show w.heap.size ≤ g2; omega) _) (by show w.heap.size ≤ g2; omega) _
    have hB00 := Lib.hid hb00
    have HG2 := Lib.hid hg2
    clear hg2 hW0 hb00
    rcases Nat.eq_zero_or_pos t.size with h0 | h0
    · have f1 := toList_nil t h0
      have f2 : (t.toList.isEmpty) = true := by rw [f1]; rfl
      have hbt : bl t = [] := List.eq_nil_of_length_eq_zero (by rw [bl_length]; exact h0)
      have HF : Hid (R = (⟨0, 0⟩, 10)) := by
        show _ = _
        rw [HR.out]
        unfold parseL
        rw [if_pos (.inl (by rw [HD.out]; exact hbt))]
      clear hbt h0 htl
      go_wp2_with fail
      refine bodyPost_ret (v := .tuple #[.agg #[.int .i64 0, .int .u64 0], .int .i64 10]) (by simp [results, Try.results12, go_sem, *]) rfl ⟨by rw [HF.out]; rfl, hB00.out⟩
    · obtain ⟨f1, f2, f3⟩ := toList_some t h0
      have hbt : digsOf (bl s) ≠ [] := by
        rw [HD.out]
        intro e
        have := bl_length t
        rw [e] at this
        simp at this
        omega
      have hg0 := bl_get t 0 h0
      by_cases hz : ((t[0]'h0).toNat : Int) = 48 ∧ 1 < s.size
      · have t2 : (((t[0]'h0).toNat : Int) == 48) = true := beq_iff_eq.2 hz.1
        have HF : Hid (R = (⟨0, 0⟩, 10)) := by
          show _ = _
          rw [HR.out]
          unfold parseL
          rw [if_pos (.inr ⟨by rw [HD.out, hg0]; exact hz.1, by rw [bl_length]; exact hz.2⟩)]
        have hsz := HSZ.out
        rw [← hNB.out] at hsz
        clear hbt htl hg0
        rcases hh : NB with _ | _
        · rw [hh, if_neg (by decide)] at hsz
          have t3 : decide (1 < (t.size : Int)) = true := decide_eq_true (by omega)
          have t4 : decide (1 < t.size) = true := decide_eq_true (by omega)
          clear hz hsz hh
          go_wp2_with fail
          refine bodyPost_ret (v := .tuple #[.agg #[.int .i64 0, .int .u64 0], .int .i64 10]) (by simp [results, Try.results12, go_sem, *]) rfl ⟨by rw [HF.out]; rfl, hB00.out⟩
        · clear hz hsz hh
          go_wp2_with fail
          refine bodyPost_ret (v := .tuple #[.agg #[.int .i64 0, .int .u64 0], .int .i64 10]) (by simp [results, Try.results12, go_sem, *]) rfl ⟨by rw [HF.out]; rfl, hB00.out⟩
      · have hnb : ¬ badForm (bl s) := by
          rintro (h | ⟨h1, h2⟩)
          · exact hbt h
          · rw [HD.out, hg0] at h1
            rw [bl_length] at h2
            exact hz ⟨h1, h2⟩
        have HNB := Lib.hid hnb
        go_upto_region 5 with (fail)
        go_cut [40, 5] (fun v nb wx => v = .bool false ∧ nb = .bool NB ∧ w0 = wx)
        case first =>
          by_cases h48 : ((t[0]'h0).toNat : Int) = 48
          · have t2 : (((t[0]'h0).toNat : Int) == 48) = true := beq_iff_eq.2 h48
            have hs1 : ¬ 1 < s.size := fun h => hz ⟨h48, h⟩
            have hsz := HSZ.out
            rw [← hNB.out] at hsz
            rcases hh : NB with _ | _
            · have t3 : decide (1 < (t.size : Int)) = false := decide_eq_false (by omega)
              have t4 : decide (1 < t.size) = false := decide_eq_false (by omega)
              have HH := Lib.hid hh
              clear hz h48 hsz hh hs1
              go_wp2_with fail
              go_meet
              exact ⟨rfl, by rw [HH.out], rfl⟩
            · exfalso
              rw [hh, if_pos rfl] at hsz
              omega
          · have t2 : (((t[0]'h0).toNat : Int) == 48) = false := beq_eq_false_iff_ne.2 h48
            clear hz h48
            go_wp2_with fail
            go_meet
            exact ⟨rfl, rfl, rfl⟩
        case rest =>
          obtain ⟨rfl, rfl, rfl⟩ := hcut
          clear hz hnb hbt hg0
          have htb := bl_length t
          go_wp2_with fail
          go_loop [6] (fun i => ∃ k : Nat, k ≤ t.size ∧ i = .int .i64 k ∧ ∀ j, j < k → isDig ((bl t).getD j 0)) (fun i => t.size - (intOf i).toNat)
          case atStart => exact ⟨0, by omega, rfl, fun j hj => by omega⟩
          case round =>
            obtain ⟨k, hk, rfl, hdig⟩ := hrel
            have HDG := Lib.hid hdig
            clear hdig
            by_cases hlt : k < t.size
            · have t4 : decide (k < t.size) = true := decide_eq_true hlt
              have i1 : (0 : Int) ≤ (k : Int) := by omega
              have i2 : (k : Int) < (t.size : Int) := by omega
              have HG := Lib.hid (bl_get t k hlt)
              have hr := bl_digit t k hlt
              by_cases hd : isDig ((bl t).getD k 0)
              · have t5 : decide (((t[k]'hlt).toNat : Int) < 48) = false := decide_eq_false (by have := hd.1; rw [HG.out] at this; omega)
                have t6 : decide (57 < ((t[k]'hlt).toNat : Int)) = false := decide_eq_false (by have := hd.2; rw [HG.out] at this; omega)
                have HN : Hid (∀ j, j < k + 1 → isDig ((bl t).getD j 0)) := fun j hj => by
                  rcases Nat.lt_or_ge j k with h | h
                  · exact HDG.out j h
                  · obtain rfl : j = k := by omega
                    exact hd
                clear hd
                go_wp2_with fail
                go_round
                case rel => exact ⟨k + 1, by omega, by go_num, HN.out⟩
                case measure => simp [intOf]; omega
              · have HF : Hid (R = (⟨0, 0⟩, 10)) := by
                  show _ = _
                  rw [HR.out]
                  unfold parseL
                  rw [if_neg HNB.out, if_pos]
                  intro h
                  apply hd
                  rw [HD.out] at h
                  apply h
                  rw [List.getD_eq_getElem?_getD, List.getElem?_eq_getElem (by rw [htb]; exact hlt)]
                  exact List.getElem_mem _
                rw [HG.out] at hd
                by_cases hlo : ((t[k]'hlt).toNat : Int) < 48
                · have t5 : decide (((t[k]'hlt).toNat : Int) < 48) = true := decide_eq_true hlo
                  clear hd hlo
                  go_wp2_with fail
                  refine bodyPost_ret (v := .tuple #[.agg #[.int .i64 0, .int .u64 0], .int .i64 10]) (by simp [results, Try.results12, go_sem, *]) rfl ⟨by rw [HF.out]; rfl, hB00.out⟩
                · have t5 : decide (((t[k]'hlt).toNat : Int) < 48) = false := decide_eq_false hlo
                  have t6 : decide (57 < ((t[k]'hlt).toNat : Int)) = true := decide_eq_true (by unfold isDig at hd; omega)
                  clear hd hlo
                  go_wp2_with fail
                  refine bodyPost_ret (v := .tuple #[.agg #[.int .i64 0, .int .u64 0], .int .i64 10]) (by simp [results, Try.results12, go_sem, *]) rfl ⟨by rw [HF.out]; rfl, hB00.out⟩
            · have t4 : decide (k < t.size) = false := decide_eq_false hlt
              have hall : ∀ d ∈ bl t, isDig d := fun d hd => by
                obtain ⟨j, hj, rfl⟩ := List.mem_iff_getElem.1 hd
                have := HDG.out j (by rw [htb] at hj; omega)
                rw [List.getD_eq_getElem?_getD, List.getElem?_eq_getElem hj] at this
                exact this
              have HALL := Lib.hid hall
              clear hall HDG
              by_cases h39 : 39 < t.size
              · have t5 : decide (39 < (t.size : Int)) = true := decide_eq_true (by omega)
                have HF : Hid (R = (⟨0, 0⟩, 11)) := by
                  show _ = _
                  rw [HR.out]
                  unfold parseL
                  rw [if_neg HNB.out, if_neg (by rw [HD.out]; exact fun h => h HALL.out), if_pos (by rw [HD.out, htb]; exact h39)]
                go_wp2_with fail
                refine bodyPost_ret (v := .tuple #[.agg #[.int .i64 0, .int .u64 0], .int .i64 11]) (by simp [results, Try.results12, go_sem, *]) rfl ⟨by rw [HF.out]; rfl, hB00.out⟩
              · have t5 : decide (39 < (t.size : Int)) = false := decide_eq_false (by omega)
                have hI0 : Rx w [(g2, ⟨0, 0⟩)] [(w0.heap.size, zerosF)] (w0.alloc (.cells (cellsK .i64 (arrF zerosF)) 44)) := ⟨by simp; exact W0.out.alloc _, by simp; exact BlkK.new .i64 44 w0 (arrF zerosF), below_al (by rw [HG2.out]; exact hB0)⟩
                rw [arrF_zero] at hI0
                have hne2 : g2 ≠ w0.heap.size := by have := W0.out.lt; omega
                have hga : w.heap.size ≤ w0.heap.size := by have := hB0.size; omega
                go_wp2_with fail
                generalize w0.alloc _ = w1 at *
                generalize w0.heap.size = gx at *
                have I0 := Lib.hid hI0
                clear hI0 r0 r1 rz0 rz1 f1 f2 f3 t4 t5
                go_loopw [8, 9, 10, 11, 12] (fun i _ _ _ _ wr => ∃ k : Nat, k ≤ t.size ∧ i = .int .i64 k ∧ valD ((bl t).take k) < 340282366920938463463374607431768211456 ∧ Rx w [(g2, ⟨0, 0⟩)] [(gx, dg (valD ((bl t).take k)))] wr) (fun i _ _ _ _ _ => t.size - (intOf i).toNat)
                case atStart => exact ⟨0, by omega, rfl, by simp [valD], I0.out.congr fun j hj => by simp [zerosF, valD, dg]⟩
                case round =>
                  obtain ⟨k, hk, rfl, hlt0, hI⟩ := hrel
                  have I := Lib.hid hI
                  clear hI
                  have hA0 : 0 ≤ valD ((bl t).take k) := (valD_range _ (fun d hd => HALL.out d (List.mem_of_mem_take hd))).1
                  by_cases hlt : k < t.size
                  · have t4 : decide (k < t.size) = true := decide_eq_true hlt
                    have i1 : (0 : Int) ≤ (k : Int) := by omega
                    have i2 : (k : Int) < (t.size : Int) := by omega
                    have HG := Lib.hid (bl_get t k hlt)
                    have hr := bl_digit t k hlt
                    have hd : 48 ≤ ((t[k]'hlt).toNat : Int) ∧ ((t[k]'hlt).toNat : Int) ≤ 57 := by
                      have := HALL.out ((bl t).getD k 0) (by rw [List.getD_eq_getElem?_getD, List.getElem?_eq_getElem (by rw [htb]; exact hlt)]; exact List.getElem_mem _)
                      rw [HG.out] at this
                      exact this
                    have HSN : Hid (valD ((bl t).take (k + 1)) = valD ((bl t).take k) * 10 + (((t[k]'hlt).toNat : Int) - 48)) := by
                      show _ = _
                      rw [take_snoc_getD (bl t) k (by rw [htb]; exact hlt), HG.out, valD_snoc]
                    have HOV : Hid (340282366920938463463374607431768211456 ≤ valD ((bl t).take (k + 1)) → R = (⟨0, 0⟩, 11)) := by
                      show _ → _
                      intro h
                      rw [HR.out]
                      unfold parseL
                      rw [if_neg HNB.out, if_neg (by rw [HD.out]; exact fun h => h HALL.out), if_neg (by rw [HD.out, htb]; exact h39), if_neg]
                      intro hf
                      have h2 := valD_take (bl t) (k + 1) HALL.out
                      unfold fits valOf at hf
                      rw [HD.out] at hf
                      have := hf.1
                      have := hf.2
                      split at * <;> omega
                    rw [HSN.out] at HOV
                    have e5 : IntKind.u8.wrap (((t[k]'hlt).toNat : Int) - 48) = ((t[k]'hlt).toNat : Int) - 48 := by rw [IntKind.wrap_u8]; omega
                    have e6 : wrap64 (((t[k]'hlt).toNat : Int) - 48) = ((t[k]'hlt).toNat : Int) - 48 := by unfold wrap64; omega
                    obtain ⟨x, hx⟩ : ∃ x : Int, ((t[k]'hlt).toNat : Int) = x + 48 := ⟨_, (Int.sub_add_cancel _ 48).symm⟩
                    have HXX := Lib.hid hx
                    generalize hA : valD ((bl t).take k) = A at *
                    clear hA
                    have hsub : ((t[k]'hlt).toNat : Int) - 48 = x := by omega
                    have hx0 : 0 ≤ x ∧ x ≤ 9 := by omega
                    rw [hsub] at HSN HOV
                    have hF := fun j => dg_range A j
                    have HL : Hid (lowS (fun j => if j = 15 then dg A 15 * 10 + x else dg A j * 10) 16 = A * 10 + x) := by
                      show _ = _
                      exact (lowS_last (fun q => dg A q * 10) x).trans (by rw [lowS_mul, lowS_16, Int.emod_eq_of_lt hA0 hlt0])
                    have hFb : ∀ j, 0 ≤ (fun j => if j = 15 then dg A 15 * 10 + x else dg A j * 10) j ∧ (fun j => if j = 15 then dg A 15 * 10 + x else dg A j * 10) j ≤ 2559 := fun j => by
                      have := hF j
                      have := hF 15
                      simp only
                      split <;> omega
                    have HFB := Lib.hid hFb
                    clear hFb
                    generalize hF2 : (fun j => if j = 15 then dg A 15 * 10 + x else dg A j * 10) = F2 at *
                    have HF2 := Lib.hid hF2
                    clear hF2
                    have HLL := Lib.hid (fun j => hF j)
                    go_wp2_with fail
                    go_loopw [9] (fun i wx => ∃ q : Nat, q ≤ 16 ∧ i = .int .i64 q ∧ Rx w [(g2, ⟨0, 0⟩)] [(gx, fun j => if j < q then dg A j * 10 else dg A j)] wx) (fun i _ => 17 - (intOf i).toNat)
                    case atStart => exact ⟨0, by omega, rfl, I.out.congr fun j hj => by rw [if_neg (by omega)]⟩
                    case round =>
                      obtain ⟨q, hq, rfl, hJ⟩ := hrel
                      have J := Lib.hid hJ
                      clear hJ
                      by_cases hqlt : q < 16
                      · have u1 : decide ((q : Int) < 16) = true := decide_eq_true (by omega)
                        have j1 : (0 : Int) ≤ (q : Int) := by omega
                        have j2 : (q : Int) < 16 := by omega
                        have z1 := J.out.hd.fz q
                        have z2 := J.out.hd.cell q (by rw [arrF_length]; omega)
                        rw [arrF_get _ _ (by omega), if_neg (by omega)] at z2
                        have z3 := hF q
                        have J2 := Lib.hid ((J.out.set (by simp; omega) (by simp) (by omega) q (dg A q * 10)).congr (f' := fun j => if j < q + 1 then dg A j * 10 else dg A j) (fun j hj => by
                          by_cases q1 : j = q
                          · subst q1; rw [if_pos rfl, if_pos (by omega)]
                          · rw [if_neg q1]
                            by_cases q3 : j < q
                            · rw [if_pos q3, if_pos (by omega)]
                            · rw [if_neg q3, if_neg (by omega)]))
                        generalize dg A q = y at *
                        go_wp2_with fail
                        go_round
                        case rel => exact ⟨q + 1, by omega, by go_num, J2.out⟩
                        case measure => simp [intOf]; omega
                      · have u1 : decide ((q : Int) < 16) = false := decide_eq_false (by omega)
                        obtain rfl : q = 16 := by omega
                        have J2 := Lib.hid (J.out.congr (f' := fun j => dg A j * 10) (fun j hj => by rw [if_pos (by omega)]))
                        clear J
                        have z1 := J2.out.hd.fz 15
                        have z2 := J2.out.hd.cell 15 (by rw [arrF_length]; omega)
                        rw [arrF_get _ _ (by omega)] at z2
                        have J3 := (J2.out.set (by simp; omega) (by simp) (by omega) 15 (dg A 15 * 10 + x)).congr (f' := F2) (fun j hj => by rw [← HF2.out])
                        have J3 := Lib.hid J3
                        have z3 := hF 15
                        generalize dg A 15 = y at *
                        go_upto_region 22 with (fail)
                        go_region
                        go_wp2_with fail
                        generalize hwz : World.setCell _ _ _ = wz
                        have K0 : Rx w [(g2, ⟨0, 0⟩)] [(gx, F2)] wz := by
                          rw [← hwz]
                          exact J3.out.same rfl rfl rfl rfl
                        clear hwz J3 J2
                        have K0 := Lib.hid K0
                        go_loopw [10, 11, 12] (fun c i _ wx => ∃ q : Nat, q ≤ 16 ∧ i = .int .i64 (15 - q) ∧ c = .int .i64 (lowS F2 q / 256 ^ q) ∧ Rx w [(g2, ⟨0, 0⟩)] [(gx, fun j => if 16 - q ≤ j then dg (lowS F2 16) j else F2 j)] wx) (fun _ i _ _ => (intOf i + 1).toNat)
                        case atStart =>
                          refine ⟨0, by omega, rfl, ?_, ?_⟩
                          · rfl
                          · exact Rx.congr (f := F2) (K0.out.same rfl rfl rfl rfl) fun j hj => by rw [if_neg (by omega)]
                        case round =>
                          obtain ⟨q, hq, rfl, rfl, hJ⟩ := hrel
                          have J := Lib.hid hJ
                          clear hJ
                          by_cases hqlt : q < 16
                          · have v1 : decide ((0 : Int) ≤ 15 - (q : Int)) = true := decide_eq_true (by omega)
                            have j1 : (0 : Int) ≤ 15 - (q : Int) := by omega
                            have j2 : 15 - (q : Int) < 16 := by omega
                            have z1 := J.out.hd.fz (15 - q)
                            have z2 := J.out.hd.cell (15 - q) (by rw [arrF_length]; omega)
                            rw [arrF_get _ _ (by omega), if_neg (by omega)] at z2
                            have r1 := HFB.out (15 - q)
                            have r2 := carry_range F2 2559 HFB.out (by omega) q
                            have HS := Lib.hid (carry_step F2 q)
                            have HDG := Lib.hid (carry_digit F2 q hqlt)
                            have HN := Lib.hid (carry_next F2 q)
                            have J2 := Lib.hid ((J.out.set (by simp; omega) (by simp) (by omega) (15 - q) (dg (lowS F2 16) (15 - q))).congr (f' := fun j => if 16 - (q + 1) ≤ j then dg (lowS F2 16) j else F2 j) (fun j hj => by
                              by_cases q1 : j = 15 - q
                              · subst q1; rw [if_pos rfl, if_pos (by omega)]
                              · rw [if_neg q1]
                                by_cases q3 : 16 - q ≤ j
                                · rw [if_pos q3, if_pos (by omega)]
                                · rw [if_neg q3, if_neg (by omega)]))
                            rw [← HS.out] at HDG HN
                            obtain ⟨C2, HC2⟩ : ∃ C2, Hid (lowS F2 (q + 1) / 256 ^ (q + 1) = C2) := ⟨_, rfl⟩
                            rw [HC2.out] at HN
                            generalize lowS F2 q / 256 ^ q = C at *
                            generalize dg (lowS F2 16) (15 - q) = D at *
                            generalize F2 (15 - q) = y at *
                            have e0 : (15 : Int) - (q : Int) = ((15 - q : Nat) : Int) := by omega
                            have e1 : (y + C) % 256 = D := HDG.out
                            have e2 : (y + C) / 256 = C2 := HN.out
                            have e1' : (y + C).tmod 256 = D := by rw [Int.tmod_eq_emod_of_nonneg (by omega)]; exact e1
                            have e2' : (y + C).tdiv 256 = C2 := by rw [Int.tdiv_eq_ediv_of_nonneg (by omega)]; exact e2
                            rw [e0]
                            rw [e0] at v1 j1 j2
                            go_wp2_with fail
                            go_round
                            case rel => exact ⟨q + 1, by omega, by go_num, by rw [HC2.out], J2.out⟩
                            case measure => simp [intOf] <;> omega
                          · have v1 : decide ((0 : Int) ≤ 15 - (q : Int)) = false := decide_eq_false (by omega)
                            obtain rfl : q = 16 := by omega
                            have J2 := Lib.hid (J.out.congr (f' := dg (A * 10 + x)) (fun j hj => by rw [if_pos (by omega), HL.out]))
                            clear J
                            have hc := carry_range F2 2559 HFB.out (by omega) 16
                            have HC : Hid (lowS F2 16 / 256 ^ 16 = (A * 10 + x) / 340282366920938463463374607431768211456) := by show _ = _; rw [HL.out, p16]
                            generalize lowS F2 16 / 256 ^ 16 = C at *
                            have r0 := J2.out.hdW.c0
                            have r1 := J2.out.hdW.c1
                            have rz0 := J2.out.hdW.fz 0
                            have rz1 := J2.out.hdW.fz 1
                            by_cases hC : 0 < C
                            · have v2 : decide (0 < C) = true := decide_eq_true hC
                              have HF : Hid (R = (⟨0, 0⟩, 11)) := HOV.out (by have := HC.out; omega)
                              have hgg : w.heap.size ≤ g2 := by rw [HG2.out]; exact Nat.le_refl _
                              have HB := Lib.hid (below_st (below_st J2.out.b (p := ⟨g2, 0, none⟩) hgg (.int .i64 0)) (p := ⟨g2, 1, none⟩) hgg (.int .u64 0))
                              clear hC
                              go_wp2_with fail
                              refine bodyPost_ret (v := .tuple #[.agg #[.int .i64 0, .int .u64 0], .int .i64 11]) (by simp [results, Try.results12, go_sem, *]) rfl ⟨by rw [HF.out]; rfl, HB.out⟩
                            · have v2 : decide (0 < C) = false := decide_eq_false hC
                              have hlt2 : A * 10 + x < 340282366920938463463374607431768211456 := by have := HC.out; omega
                              have HLT := Lib.hid hlt2
                              clear hC hlt2
                              go_wp2_with fail
                              go_roundw
                              case rel => exact ⟨k + 1, by omega, by go_num, by rw [HSN.out]; exact HLT.out, by rw [HSN.out]; exact J2.out⟩
                              case measure => simp [intOf]; omega
                  · have t4 : decide (k < t.size) = false := decide_eq_false hlt
                    have htk : (bl t).take k = bl t := List.take_of_length_le (by rw [htb]; omega)
                    rw [htk] at I hlt0 hA0
                    have hV : Hid (valOf (bl s) = if NB = true then -valD (bl t) else valD (bl t)) := by
                      show _ = _
                      unfold valOf
                      rw [HD.out, ← hNB.out]
                    have hfit := parse_last HNB.out (by rw [HD.out]; exact HALL.out) (by rw [HD.out, htb]; omega) s rfl
                    have HFT : Hid (R = if fits (valOf (bl s)) then (wd (valOf (bl s)), 0) else (⟨0, 0⟩, 11)) := by
                      show _ = _
                      rw [HR.out]
                      unfold parseL
                      rw [if_neg HNB.out, if_neg (by rw [HD.out]; exact fun h => h HALL.out), if_neg (by rw [HD.out, htb]; exact h39)]
                    obtain ⟨X, HX⟩ : ∃ X, Hid (X = wd (valOf (bl s))) := ⟨_, rfl⟩
                    rw [← HX.out] at hfit HFT
                    have hXok : X.ok := by rw [HX.out]; exact wd_ok _
                    have T4 := fun wx => rwtext_any X wx hXok
                    obtain ⟨S, HS⟩ : ∃ S, Hid (S = textW X.v) := ⟨_, rfl⟩
                    rw [← HS.out] at hfit T4
                    have HFIT := Lib.hid hfit
                    have T1 := fun wx => number_any (dg (valD (bl t))) wx (dg_range _)
                    have HWD : wd (lowS (dg (valD (bl t))) 16) = wd (valD (bl t)) := by rw [lowS_16, wd_mod16]
                    rw [HWD] at T1
                    clear HWD
                    unfold Wd.val at T4 T1
                    clear hfit htk hlt hXok
                    obtain ⟨Y, HY⟩ : ∃ Y, Hid (wd (valD (bl t)) = Y) := ⟨_, rfl⟩
                    rw [HY.out] at T1
                    have hYok : Y.ok := by rw [← HY.out]; exact wd_ok _
                    go_wp2_with (refine wpList_load_row rfl 44 _ rfl gx rfl 44 (cellsK .i64 (arrF (dg (valD (bl t))))) (0, 0) _ I.out.hd Try.underlying44 rfl (size_16 _) ?_)
                    refine (T1 _).mono ?_
                    rintro e w5 ⟨rfl, d5⟩
                    have hI5 : PInv w w5.heap.size g2 Y (w5.alloc (.cells #[.int .i64 Y.hi, .int .u64 Y.lo] 24)) := ⟨WdAt.new w5 Y, (I.out.below d5).hdW.alloc _, below_al (I.out.below d5).b⟩
                    have hne3 : g2 ≠ w5.heap.size := by have := (I.out.below d5).hdW.lt; omega
                    have hga3 : w.heap.size ≤ w5.heap.size := by have := (I.out.below d5).b.size; omega
                    go_upto_region 33 with (fail)
                    have I5 := Lib.hid hI5
                    clear I hI5 d5
                    generalize w5.alloc (.cells #[.int .i64 Y.hi, .int .u64 Y.lo] 24) = w6 at *
                    generalize w5.heap.size = ga at *
                    go_upto_if 108 with (fail)
                    go_cut [5] (fun v wx => PInv w ga g2 X wx)
                    case first =>
                      rcases hh : NB with _ | _
                      · have E : Hid (Y = X) := by show _ = _; rw [HX.out, hV.out, hh, ← HY.out]; rfl
                        rw [E.out] at I5
                        clear hh
                        go_wp2_with fail
                        go_meet
                        exact I5.out
                      · have E : Hid (wd (-Y.v) = X) := by
                          show _ = _
                          rw [HX.out, hV.out, hh, ← HY.out]
                          apply wd_mod
                          have e1 := v_wd_mod (valD (bl t))
                          generalize (wd (valD (bl t))).v = z at *
                          simp only [if_true]
                          omega
                        have T5 := fun wx => rneg_any Y wx hYok
                        rw [E.out] at T5
                        have c0 := I5.out.a.c0
                        have c1 := I5.out.a.c1
                        unfold Wd.val at T5
                        clear hh E
                        go_wp2_with fail
                        refine (T5 _).mono ?_
                        rintro e w7 ⟨rfl, d5⟩
                        have I3 := I5.out.below d5
                        have I4 := Lib.hid I3
                        have c0 := I3.a.c0
                        have c1 := I3.a.c1
                        have z0 := I3.a.fz 0
                        have z1 := I3.a.fz 1
                        clear I3
                        go_wp2_with fail
                        go_meet
                        exact I4.out.set hne3 hga3 X
                    case rest =>
                      have J := Lib.hid hcut
                      have c0 := hcut.a.c0
                      have c1 := hcut.a.c1
                      clear hcut
                      go_wp2_with fail
                      refine (T4 _).mono ?_
                      rintro e w6 ⟨rfl, d6⟩
                      have J2 := Lib.hid (J.out.below d6)
                      have r0 := J2.out.r.c0
                      have r1 := J2.out.r.c1
                      have rz0 := J2.out.r.fz 0
                      have rz1 := J2.out.r.fz 1
                      have c0 := J2.out.a.c0
                      have c1 := J2.out.a.c1
                      have hgg : w.heap.size ≤ g2 := by rw [HG2.out]; exact Nat.le_refl _
                      by_cases hq : S = s
                      · have q1 : (S.toList == s.toList) = true := by rw [hq]; exact beq_self_eq_true _
                        have HF : Hid (R = (X, 0)) := by show _ = _; rw [HFT.out, if_pos (HFIT.out.1 hq)]
                        have HB := Lib.hid (below_st (below_st J2.out.b (p := ⟨g2, 0, none⟩) hgg (.int .i64 X.hi)) (p := ⟨g2, 1, none⟩) hgg (.int .u64 X.lo))
                        clear hq
                        go_wp2_with fail
                        refine bodyPost_ret (v := .tuple #[.agg #[.int .i64 X.hi, .int .u64 X.lo], .int .i64 0]) (by simp [results, Try.results12, go_sem, *]) rfl ⟨by rw [HF.out]; rfl, HB.out⟩
                      · have q1 : (S.toList == s.toList) = false := by
                          rw [beq_eq_false_iff_ne]
                          intro e
                          rw [ByteArray.toList_eq, ByteArray.toList_eq] at e
                          exact hq (by apply ByteArray.ext; exact Array.ext' e)
                        have HF : Hid (R = (⟨0, 0⟩, 11)) := by show _ = _; rw [HFT.out, if_neg (fun h => hq (HFIT.out.2 h))]
                        have HB := Lib.hid (below_st (below_st J2.out.b (p := ⟨g2, 0, none⟩) hgg (.int .i64 0)) (p := ⟨g2, 1, none⟩) hgg (.int .u64 0))
                        clear hq
                        go_wp2_with fail
                        refine bodyPost_ret (v := .tuple #[.agg #[.int .i64 0, .int .u64 0], .int .i64 11]) (by simp [results, Try.results12, go_sem, *]) rfl ⟨by rw [HF.out]; rfl, HB.out⟩
end Go.Proofs.Ytafjpgkffgmokaa
