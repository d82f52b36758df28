/- wide.Parse. -/
import Derived.Test.YtafjpgkffgmokaaWtext
import Derived.Test.YtafjpgkffgmokaaWmul
import Derived.Test.YtafjpgkffgmokaaPpure
import Derived.RegionTactic
import Derived.Deep.RegionWith
namespace Go.Proofs.Ytafjpgkffgmokaa
open Go.RowKit
set_option linter.unusedVariables false
set_option linter.unusedSimpArgs false
/-- The block g is a number of 128 bits. -/
def WdAt (w : World) (g : Nat) (a : Wd) : Prop := w.heap[g]? = some (.cells #[.int .i64 a.hi, .int .u64 a.lo] 24 (0, 0))
theorem WdAt.lt {w : World} {g : Nat} {a : Wd} (h : WdAt w g a) : g < w.heap.size := by
  unfold WdAt at h
  rcases Nat.lt_or_ge g w.heap.size with h' | h'
  · exact h'
  · simp [Array.getElem?_eq_none h'] at h
theorem WdAt.c0 {w : World} {g : Nat} {a : Wd} (h : WdAt w g a) : w.cell? ⟨g, 0, none⟩ = some (.int .i64 a.hi) := by simp [World.cell?, show w.heap[g]? = _ from h]
theorem WdAt.c1 {w : World} {g : Nat} {a : Wd} (h : WdAt w g a) : w.cell? ⟨g, 1, none⟩ = some (.int .u64 a.lo) := by simp [World.cell?, show w.heap[g]? = _ from h]
theorem WdAt.fz {w : World} {g : Nat} {a : Wd} (h : WdAt w g a) (j : Nat) : w.frozen? ⟨g, j, none⟩ = false := by simp [World.frozen?, show w.heap[g]? = _ from h]
theorem WdAt.set {w : World} {g : Nat} {a : Wd} (h : WdAt w g a) (b : Wd) : WdAt ((w.setCell ⟨g, 0, none⟩ (.int .i64 b.hi)).setCell ⟨g, 1, none⟩ (.int .u64 b.lo)) g b := by
  unfold WdAt at *
  simp [World.setCell, Array.getElem?_modify, h]
theorem WdAt.far {w : World} {g : Nat} {a : Wd} (h : WdAt w g a) {p : Addr} (hp : g ≠ p.block) (v : Value) : WdAt (w.setCell p v) g a := (Below.heap_setCell w p v g hp).trans h
theorem WdAt.below {w w' : World} {g : Nat} {a : Wd} (h : WdAt w g a) (hb : Below w.heap.size w w') : WdAt w' g a := (hb.block g h.lt).trans h
theorem WdAt.alloc {w : World} {g : Nat} {a : Wd} (h : WdAt w g a) (o : Obj) : WdAt (w.alloc o) g a := (Below.heap_alloc w o g h.lt).trans h
theorem WdAt.new (w : World) (a : Wd) : WdAt (w.alloc (.cells #[.int .i64 a.hi, .int .u64 a.lo] 24)) w.heap.size a := heap_alloc_new w _
/-- While the digits are read: the number at ga, the result's place at g2. -/
structure PInv (w : World) (ga g2 : Nat) (A : Wd) (wx : World) : Prop where
  a : WdAt wx ga A
  r : WdAt wx g2 ⟨0, 0⟩
  b : Below w.heap.size w wx
theorem PInv.below {w wx w' : World} {ga g2 : Nat} {A : Wd} (h : PInv w ga g2 A wx) (d : Below wx.heap.size wx w') : PInv w ga g2 A w' := ⟨h.a.below d, h.r.below d, below_th h.b d⟩
theorem PInv.later {w wx wd' w' : World} {ga g2 : Nat} {A : Wd} (h : PInv w ga g2 A wx) (d : Below wd'.heap.size wd' w') (e1 : wd'.heap = wx.heap) (e2 : wd'.os = wx.os) (e3 : wd'.tape = wx.tape) (e4 : wd'.output = wx.output) : PInv w ga g2 A w' :=
  PInv.below (wx := wd') ⟨by unfold WdAt; rw [e1]; exact h.a, by unfold WdAt; rw [e1]; exact h.r, ⟨e2.trans h.b.os, e3.trans h.b.tape, e4.trans h.b.output, by rw [e1]; exact h.b.size, fun k hk => by rw [e1]; exact h.b.block k hk⟩⟩ d
theorem PInv.set {w wx : World} {ga g2 : Nat} {A : Wd} (h : PInv w ga g2 A wx) (hne : g2 ≠ ga) (hga : w.heap.size ≤ ga) (B : Wd) : PInv w ga g2 B ((wx.setCell ⟨ga, 0, none⟩ (.int .i64 B.hi)).setCell ⟨ga, 1, none⟩ (.int .u64 B.lo)) :=
  ⟨h.a.set B, (h.r.far hne _).far hne _, below_st (below_st h.b hga _) hga _⟩
theorem take_snoc_getD (xs : List Int) (k : Nat) (h : k < xs.length) : xs.take (k + 1) = xs.take k ++ [xs.getD k 0] := by
  rw [List.take_succ_eq_append_getElem h]; simp [List.getD_eq_getElem?_getD, h]
theorem bl_extract1 (s : ByteArray) : bl (s.extract 1 s.size) = (bl s).drop 1 := by
  unfold bl
  rw [← List.map_drop]
  congr 1
  rw [ByteArray.data_extract, Array.toList_extract, List.extract_eq_take_drop]
  rw [List.take_of_length_le (by simp)]
theorem toList_nil (s : ByteArray) (h : s.size = 0) : s.toList = [] := by
  rw [ByteArray.toList_eq]
  exact List.eq_nil_of_length_eq_zero (by simpa using h)
theorem toList_some (s : ByteArray) (h : 0 < s.size) : ¬ s.toList = [] ∧ (!s.toList.isEmpty) = true ∧ s.toList.isEmpty = false := by
  have h1 : ¬ s.toList = [] := by
    rw [ByteArray.toList_eq]
    intro e
    have h2 : s.data.toList.length = s.size := by simp
    rw [e] at h2
    simp at h2
    omega
  refine ⟨h1, ?_, ?_⟩ <;> simp [h1]
theorem bl_digit (t : ByteArray) (i : Nat) (h : i < t.size) : 0 ≤ ((t[i]'h).toNat : Int) ∧ ((t[i]'h).toNat : Int) < 256 := by
  have := (t[i]'h).toNat_lt
  omega
theorem head_isNeg (s : ByteArray) (h : 0 < s.size) : isNeg (bl s) = (((s[0]'h).toNat : Int) == 45) := by
  unfold isNeg
  rw [bl_get s 0 h]
set_option maxHeartbeats 4000000 in
set_option maxRecDepth 100000 in
theorem wparse_any (s : ByteArray) (w : World) (hs : s.size ≤ 1000) : Calls Try.prog 11 #[.string s] w fun e w' => e = .returned (.tuple #[(parseL (bl s)).1.val, .int .i64 (parseL (bl s)).2]) ∧ Below w.heap.size w w' := by
  obtain ⟨R, HR⟩ : ∃ R, Hid (R = parseL (bl s)) := ⟨_, rfl⟩
  rw [← HR.out]
  obtain ⟨t, HT⟩ : ∃ t : ByteArray, Hid (t = if isNeg (bl s) = true then s.extract 1 s.size else s) := ⟨_, rfl⟩
  have HD : Hid (digsOf (bl s) = bl t) := by
    show _ = _
    rw [HT.out]
    unfold digsOf
    split
    · exact (bl_extract1 s).symm
    · rfl
  have hne : isNeg (bl s) = true → 0 < s.size := fun h => by
    rcases Nat.eq_zero_or_pos s.size with h0 | h0
    · have hb : bl s = [] := List.eq_nil_of_length_eq_zero (by rw [bl_length]; exact h0)
      rw [hb] at h
      cases h
    · exact h0
  have HSZ : Hid (t.size = if isNeg (bl s) = true then s.size - 1 else s.size) := by
    show _ = _
    rw [HT.out]
    split <;> simp
  have htl : t.size ≤ s.size := by rw [HSZ.out]; split <;> omega
  go_enter Try.func11, Try.ntmps11
  have hW0 := WdAt.new w ⟨0, 0⟩
  have hB0 : Below w.heap.size w (w.alloc (.cells #[.int .i64 0, .int .u64 0] 24)) := below_al (Below.refl _ _)
  simp only at hW0
  obtain ⟨NB, hNB⟩ : ∃ NB, Hid (NB = isNeg (bl s)) := ⟨_, rfl⟩
  go_upto_region 2 with (fail)
  go_cut [15] (fun v wx => v = .bool NB ∧ wx = w.alloc (.cells #[.int .i64 0, .int .u64 0] 24))
  case first =>
    rcases Nat.eq_zero_or_pos s.size with h0 | h0
    · have f1 := toList_nil s h0
      have f2 : (!s.toList.isEmpty) = false := by rw [f1]; rfl
      have E : Hid (NB = false) := by
        show _ = _
        rw [hNB.out]
        rcases hh : isNeg (bl s) with _ | _
        · rfl
        · have := hne hh; omega
      go_wp2_with fail
      go_meet
      exact ⟨by rw [E.out], rfl⟩
    · obtain ⟨f1, f2, f3⟩ := toList_some s h0
      have hh := head_isNeg s h0
      rw [← hNB.out] at hh
      have E := Lib.hid hh
      clear hh
      go_wp2_with fail
      go_meet
      exact ⟨by rw [E.out], rfl⟩
  case rest =>
  obtain ⟨rfl, rfl⟩ := hcut
  go_upto_if 15 with (fail)
  go_cut [4] (fun v wx => v = .string t ∧ wx = w.alloc (.cells #[.int .i64 0, .int .u64 0] 24))
  case first =>
    rcases hh : NB with _ | _
    · have e : s = t := by rw [HT.out, if_neg (by rw [← hNB.out, hh]; decide)]
      have E := Lib.hid e
      clear e hh
      go_wp2_with fail
      go_meet
      exact ⟨by rw [← E.out], rfl⟩
    · have hs0 : 0 < s.size := hne (by rw [← hNB.out, hh])
      have i1 : (1 : Int) ≤ (s.size : Int) := by omega
      have e : s.extract 1 s.size = t := by rw [HT.out, if_pos (by rw [← hNB.out, hh])]
      have E := Lib.hid e
      clear e hh
      go_wp2_with fail
      go_meet
      exact ⟨by rw [← E.out], rfl⟩
  case rest =>
    obtain ⟨rfl, rfl⟩ := hcut
    generalize hg2 : w.heap.size = g2 at *
    generalize w.alloc (.cells #[.int .i64 0, .int .u64 0] 24) = w0 at *
    have W0 := Lib.hid hW0
    have r0 := hW0.c0
    have r1 := hW0.c1
    have rz0 := hW0.fz 0
    have rz1 := hW0.fz 1
    have hb00 : Below w.heap.size w ((w0.setCell ⟨g2, 0, none⟩ (.int .i64 0)).setCell ⟨g2, 1, none⟩ (.int .u64 0)) := below_st (below_st (by rw [hg2]; exact hB0) (by show w.heap.size ≤ g2; omega) _) (by show w.heap.size ≤ g2; omega) _
    have hB00 := Lib.hid hb00
    have HG2 := Lib.hid hg2
    clear hg2 hW0 hb00
    rcases Nat.eq_zero_or_pos t.size with h0 | h0
    · have f1 := toList_nil t h0
      have f2 : (t.toList.isEmpty) = true := by rw [f1]; rfl
      have hbt : bl t = [] := List.eq_nil_of_length_eq_zero (by rw [bl_length]; exact h0)
      have HF : Hid (R = (⟨0, 0⟩, 10)) := by
        show _ = _
        rw [HR.out]
        unfold parseL
        rw [if_pos (.inl (by rw [HD.out]; exact hbt))]
      clear hbt h0 htl
      go_wp2_with fail
      refine bodyPost_ret (v := .tuple #[.agg #[.int .i64 0, .int .u64 0], .int .i64 10]) (by simp [results, Try.results11, go_sem, *]) rfl ⟨by rw [HF.out]; rfl, hB00.out⟩
    · obtain ⟨f1, f2, f3⟩ := toList_some t h0
      have hbt : digsOf (bl s) ≠ [] := by
        rw [HD.out]
        intro e
        have := bl_length t
        rw [e] at this
        simp at this
        omega
      have hg0 := bl_get t 0 h0
      by_cases hz : ((t[0]'h0).toNat : Int) = 48 ∧ 1 < s.size
      · have t2 : (((t[0]'h0).toNat : Int) == 48) = true := beq_iff_eq.2 hz.1
        have t3 : decide (1 < (s.size : Int)) = true := decide_eq_true (by omega)
        have HF : Hid (R = (⟨0, 0⟩, 10)) := by
          show _ = _
          rw [HR.out]
          unfold parseL
          rw [if_pos (.inr ⟨by rw [HD.out, hg0]; exact hz.1, by rw [bl_length]; exact hz.2⟩)]
        clear hbt htl hz hg0
        go_wp2_with fail
        refine bodyPost_ret (v := .tuple #[.agg #[.int .i64 0, .int .u64 0], .int .i64 10]) (by simp [results, Try.results11, go_sem, *]) rfl ⟨by rw [HF.out]; rfl, hB00.out⟩
      · have hnb : ¬ badForm (bl s) := by
          rintro (h | ⟨h1, h2⟩)
          · exact hbt h
          · rw [HD.out, hg0] at h1
            rw [bl_length] at h2
            exact hz ⟨h1, h2⟩
        have HNB := Lib.hid hnb
        go_upto_region 4 with (fail)
        go_cut [29] (fun v wx => v = .bool false ∧ w0 = wx)
        case first =>
          by_cases h48 : ((t[0]'h0).toNat : Int) = 48
          · have t2 : (((t[0]'h0).toNat : Int) == 48) = true := beq_iff_eq.2 h48
            have t3 : decide (1 < (s.size : Int)) = false := decide_eq_false (by omega)
            clear hz h48
            go_wp2_with fail
            go_meet
            exact ⟨rfl, rfl⟩
          · have t2 : (((t[0]'h0).toNat : Int) == 48) = false := beq_eq_false_iff_ne.2 h48
            clear hz h48
            go_wp2_with fail
            go_meet
            exact ⟨rfl, rfl⟩
        case rest =>
          obtain ⟨rfl, rfl⟩ := hcut
          clear hz hnb hbt hg0
          have htb := bl_length t
          go_wp2_with fail
          go_loop [33, 5] (fun i _ => ∃ k : Nat, k ≤ t.size ∧ i = .int .i64 k ∧ ∀ j, j < k → isDig ((bl t).getD j 0)) (fun i _ => t.size - (intOf i).toNat)
          case atStart => exact ⟨0, by omega, rfl, fun j hj => by omega⟩
          case round =>
            obtain ⟨k, hk, rfl, hdig⟩ := hrel
            have HDG := Lib.hid hdig
            clear hdig
            by_cases hlt : k < t.size
            · have t4 : decide (k < t.size) = true := decide_eq_true hlt
              have i1 : (0 : Int) ≤ (k : Int) := by omega
              have i2 : (k : Int) < (t.size : Int) := by omega
              have HG := Lib.hid (bl_get t k hlt)
              have hr := bl_digit t k hlt
              by_cases hd : isDig ((bl t).getD k 0)
              · have t5 : decide (((t[k]'hlt).toNat : Int) < 48) = false := decide_eq_false (by have := hd.1; rw [HG.out] at this; omega)
                have t6 : decide (57 < ((t[k]'hlt).toNat : Int)) = false := decide_eq_false (by have := hd.2; rw [HG.out] at this; omega)
                have HN : Hid (∀ j, j < k + 1 → isDig ((bl t).getD j 0)) := fun j hj => by
                  rcases Nat.lt_or_ge j k with h | h
                  · exact HDG.out j h
                  · obtain rfl : j = k := by omega
                    exact hd
                clear hd
                go_wp2_with fail
                go_round
                case rel => exact ⟨k + 1, by omega, by go_num, HN.out⟩
                case measure => simp [intOf]; omega
              · have HF : Hid (R = (⟨0, 0⟩, 10)) := by
                  show _ = _
                  rw [HR.out]
                  unfold parseL
                  rw [if_neg HNB.out, if_pos]
                  intro h
                  apply hd
                  rw [HD.out] at h
                  apply h
                  rw [List.getD_eq_getElem?_getD, List.getElem?_eq_getElem (by rw [htb]; exact hlt)]
                  exact List.getElem_mem _
                rw [HG.out] at hd
                by_cases hlo : ((t[k]'hlt).toNat : Int) < 48
                · have t5 : decide (((t[k]'hlt).toNat : Int) < 48) = true := decide_eq_true hlo
                  clear hd hlo
                  go_wp2_with fail
                  refine bodyPost_ret (v := .tuple #[.agg #[.int .i64 0, .int .u64 0], .int .i64 10]) (by simp [results, Try.results11, go_sem, *]) rfl ⟨by rw [HF.out]; rfl, hB00.out⟩
                · have t5 : decide (((t[k]'hlt).toNat : Int) < 48) = false := decide_eq_false hlo
                  have t6 : decide (57 < ((t[k]'hlt).toNat : Int)) = true := decide_eq_true (by unfold isDig at hd; omega)
                  clear hd hlo
                  go_wp2_with fail
                  refine bodyPost_ret (v := .tuple #[.agg #[.int .i64 0, .int .u64 0], .int .i64 10]) (by simp [results, Try.results11, go_sem, *]) rfl ⟨by rw [HF.out]; rfl, hB00.out⟩
            · have t4 : decide (k < t.size) = false := decide_eq_false hlt
              have hall : ∀ d ∈ bl t, isDig d := fun d hd => by
                obtain ⟨j, hj, rfl⟩ := List.mem_iff_getElem.1 hd
                have := HDG.out j (by rw [htb] at hj; omega)
                rw [List.getD_eq_getElem?_getD, List.getElem?_eq_getElem hj] at this
                exact this
              have HALL := Lib.hid hall
              clear hall HDG
              by_cases h39 : 39 < t.size
              · have t5 : decide (39 < (t.size : Int)) = true := decide_eq_true (by omega)
                have HF : Hid (R = (⟨0, 0⟩, 11)) := by
                  show _ = _
                  rw [HR.out]
                  unfold parseL
                  rw [if_neg HNB.out, if_neg (by rw [HD.out]; exact fun h => h HALL.out), if_pos (by rw [HD.out, htb]; exact h39)]
                go_wp2_with fail
                refine bodyPost_ret (v := .tuple #[.agg #[.int .i64 0, .int .u64 0], .int .i64 11]) (by simp [results, Try.results11, go_sem, *]) rfl ⟨by rw [HF.out]; rfl, hB00.out⟩
              · have t5 : decide (39 < (t.size : Int)) = false := decide_eq_false (by omega)
                have hI0 : PInv w w0.heap.size g2 ⟨0, 0⟩ (w0.alloc (.cells #[.int .i64 0, .int .u64 0] 24)) := ⟨WdAt.new w0 ⟨0, 0⟩, W0.out.alloc _, below_al (by rw [HG2.out]; exact hB0)⟩
                have hne2 : g2 ≠ w0.heap.size := by have := W0.out.lt; omega
                have hga : w.heap.size ≤ w0.heap.size := by have := hB0.size; omega
                go_wp2_with fail
                generalize w0.alloc (.cells #[.int .i64 0, .int .u64 0] 24) = w1 at *
                generalize w0.heap.size = ga at *
                have I0 := Lib.hid hI0
                clear hI0 r0 r1 rz0 rz1 f1 f2 f3 t4 t5
                go_loopw [55, 7] (fun i _ wr => ∃ k : Nat, k ≤ t.size ∧ i = .int .i64 k ∧ PInv w ga g2 (wd (valD ((bl t).take k))) wr) (fun i _ _ => t.size - (intOf i).toNat)
                case atStart => exact ⟨0, by omega, rfl, I0.out⟩
                case round =>
                  obtain ⟨k, hk, rfl, hI⟩ := hrel
                  have I := Lib.hid hI
                  clear hI
                  by_cases hlt : k < t.size
                  · have t4 : decide (k < t.size) = true := decide_eq_true hlt
                    have i1 : (0 : Int) ≤ (k : Int) := by omega
                    have i2 : (k : Int) < (t.size : Int) := by omega
                    have HG := Lib.hid (bl_get t k hlt)
                    have hr := bl_digit t k hlt
                    have hd : 48 ≤ ((t[k]'hlt).toNat : Int) ∧ ((t[k]'hlt).toNat : Int) ≤ 57 := by
                      have := HALL.out ((bl t).getD k 0) (by rw [List.getD_eq_getElem?_getD, List.getElem?_eq_getElem (by rw [htb]; exact hlt)]; exact List.getElem_mem _)
                      rw [HG.out] at this
                      exact this
                    have HSN := Lib.hid (take_snoc_getD (bl t) k (by rw [htb]; exact hlt))
                    rw [HG.out] at HSN
                    have HNX : Hid (wd ((wd ((wd (valD ((bl t).take k))).v * 10)).v + (wd (((t[k]'hlt).toNat : Int) - 48)).v) = wd (valD ((bl t).take (k + 1)))) := by
                      show _ = _
                      rw [HSN.out, valD_snoc]
                      apply wd_mod
                      have e1 := v_wd_mod ((wd (valD ((bl t).take k))).v * 10)
                      have e2 := v_wd_mod (valD ((bl t).take k))
                      have e3 := v_wd_mod (((t[k]'hlt).toNat : Int) - 48)
                      generalize (wd ((wd (valD ((bl t).take k))).v * 10)).v = z1 at *
                      generalize (wd (valD ((bl t).take k))).v = z2 at *
                      generalize (wd (((t[k]'hlt).toNat : Int) - 48)).v = z3 at *
                      omega
                    have T1 := fun wx => times_any (wd (valD ((bl t).take k))) 10 wx (wd_ok _) (by omega)
                    have T2 := fun wx => of_any (((t[k]'hlt).toNat : Int) - 48) wx (by omega) (by omega)
                    have T3 := fun wx => add_any (wd ((wd (valD ((bl t).take k))).v * 10)) (wd (((t[k]'hlt).toNat : Int) - 48)) wx (wd_ok _) (wd_ok _)
                    rw [HNX.out] at T3
                    have e5 : IntKind.u8.wrap (((t[k]'hlt).toNat : Int) - 48) = ((t[k]'hlt).toNat : Int) - 48 := by rw [IntKind.wrap_u8]; omega
                    have e6 : IntKind.i64.wrap (((t[k]'hlt).toNat : Int) - 48) = ((t[k]'hlt).toNat : Int) - 48 := by rw [IntKind.wrap_i64]; omega
                    generalize wd ((wd (valD ((bl t).take k))).v * 10) = B1 at *
                    generalize wd (valD ((bl t).take k)) = A at *
                    generalize hA' : wd (valD ((bl t).take (k + 1))) = A' at *
                    have HA' := Lib.hid hA'
                    clear hA'
                    generalize wd (((t[k]'hlt).toNat : Int) - 48) = B2 at *
                    unfold Wd.val at T1 T2 T3
                    have c0 := I.out.a.c0
                    have c1 := I.out.a.c1
                    clear HG HSN HNX
                    go_upto_region 18 with (fail)
                    go_region_with (first
                      | (go_at_call 21; refine (T1 _).mono ?_; rintro e w5 ⟨rfl, d5⟩; have I := Lib.hid (PInv.later I.out d5 rfl rfl rfl rfl))
                      | (go_at_call 15; refine (T2 _).mono ?_; rintro e w6 ⟨rfl, d6⟩; have I := Lib.hid (PInv.later I.out d6 rfl rfl rfl rfl); have c0 := I.out.a.c0; have c1 := I.out.a.c1)
                      | (go_at_call 18; refine (T3 _).mono ?_; rintro e w7 ⟨rfl, d7⟩; have I := Lib.hid (PInv.later I.out d7 rfl rfl rfl rfl); have c0 := I.out.a.c0; have c1 := I.out.a.c1; have z0 := I.out.a.fz 0; have z1 := I.out.a.fz 1))
                    all_goals
                      have I2 := Lib.hid (PInv.set (by exact I.out) hne2 hga A')
                      go_wp2_with fail
                      go_roundw
                      case rel => exact ⟨k + 1, by omega, by go_num, by rw [HA'.out]; exact I2.out⟩
                      case measure => simp [intOf]; omega
                  · have t4 : decide (k < t.size) = false := decide_eq_false hlt
                    have htk : (bl t).take k = bl t := List.take_of_length_le (by rw [htb]; omega)
                    rw [htk] at I
                    have hV : Hid (valOf (bl s) = if NB = true then -valD (bl t) else valD (bl t)) := by
                      show _ = _
                      unfold valOf
                      rw [HD.out, ← hNB.out]
                    have hfit := parse_last HNB.out (by rw [HD.out]; exact HALL.out) (by rw [HD.out, htb]; omega) s rfl
                    have HFT : Hid (R = if fits (valOf (bl s)) then (wd (valOf (bl s)), 0) else (⟨0, 0⟩, 11)) := by
                      show _ = _
                      rw [HR.out]
                      unfold parseL
                      rw [if_neg HNB.out, if_neg (by rw [HD.out]; exact fun h => h HALL.out), if_neg (by rw [HD.out, htb]; exact h39)]
                    obtain ⟨X, HX⟩ : ∃ X, Hid (X = wd (valOf (bl s))) := ⟨_, rfl⟩
                    rw [← HX.out] at hfit HFT
                    have hXok : X.ok := by rw [HX.out]; exact wd_ok _
                    have T4 := fun wx => wtext_any X wx hXok
                    obtain ⟨S, HS⟩ : ∃ S, Hid (S = textW X.v) := ⟨_, rfl⟩
                    rw [← HS.out] at hfit T4
                    have HFIT := Lib.hid hfit
                    unfold Wd.val at T4
                    clear hfit htk hlt hXok
                    go_upto_if 72 with (fail)
                    go_cut [5] (fun v wx => PInv w ga g2 X wx)
                    case first =>
                      rcases hh : NB with _ | _
                      · have E : Hid (wd (valD (bl t)) = X) := by show _ = _; rw [HX.out, hV.out, hh]; rfl
                        rw [E.out] at I
                        have hsz : ¬ (t.size : Int) < (s.size : Int) := by rw [HSZ.out, if_neg (by rw [← hNB.out, hh]; decide)]; omega
                        have t6 : decide ((t.size : Int) < (s.size : Int)) = false := decide_eq_false hsz
                        have t7 : ¬ t.size < s.size := by omega
                        clear hh hsz
                        go_wp2_with fail
                        go_meet
                        exact I.out
                      · have hsz : (t.size : Int) < (s.size : Int) := by
                          have := hne (by rw [← hNB.out, hh])
                          rw [HSZ.out, if_pos (by rw [← hNB.out, hh])]; omega
                        have t6 : decide ((t.size : Int) < (s.size : Int)) = true := decide_eq_true hsz
                        have t7 : t.size < s.size := by omega
                        have E : Hid (wd (-(wd (valD (bl t))).v) = X) := by
                          show _ = _
                          rw [HX.out, hV.out, hh]
                          apply wd_mod
                          have e1 := v_wd_mod (valD (bl t))
                          generalize (wd (valD (bl t))).v = z at *
                          simp only [if_true]
                          omega
                        have T5 := fun wx => neg_any (wd (valD (bl t))) wx (wd_ok _)
                        rw [E.out] at T5
                        have c0 := I.out.a.c0
                        have c1 := I.out.a.c1
                        generalize wd (valD (bl t)) = A at *
                        unfold Wd.val at T5
                        clear hh hsz E
                        go_wp2_with fail
                        refine (T5 _).mono ?_
                        rintro e w5 ⟨rfl, d5⟩
                        have I3 := I.out.below d5
                        have I4 := Lib.hid I3
                        have c0 := I3.a.c0
                        have c1 := I3.a.c1
                        have z0 := I3.a.fz 0
                        have z1 := I3.a.fz 1
                        clear I3
                        go_wp2_with fail
                        go_meet
                        exact I4.out.set hne2 hga X
                    case rest =>
                      have J := Lib.hid hcut
                      have c0 := hcut.a.c0
                      have c1 := hcut.a.c1
                      clear hcut I
                      go_wp2_with fail
                      refine (T4 _).mono ?_
                      rintro e w6 ⟨rfl, d6⟩
                      have J2 := Lib.hid (J.out.below d6)
                      have r0 := J2.out.r.c0
                      have r1 := J2.out.r.c1
                      have rz0 := J2.out.r.fz 0
                      have rz1 := J2.out.r.fz 1
                      have c0 := J2.out.a.c0
                      have c1 := J2.out.a.c1
                      have hgg : w.heap.size ≤ g2 := by rw [HG2.out]; exact Nat.le_refl _
                      by_cases hq : S = s
                      · have q1 : (S.toList == s.toList) = true := by rw [hq]; exact beq_self_eq_true _
                        have HF : Hid (R = (X, 0)) := by show _ = _; rw [HFT.out, if_pos (HFIT.out.1 hq)]
                        have HB := Lib.hid (below_st (below_st J2.out.b (p := ⟨g2, 0, none⟩) hgg (.int .i64 X.hi)) (p := ⟨g2, 1, none⟩) hgg (.int .u64 X.lo))
                        clear hq
                        go_wp2_with fail
                        refine bodyPost_ret (v := .tuple #[.agg #[.int .i64 X.hi, .int .u64 X.lo], .int .i64 0]) (by simp [results, Try.results11, go_sem, *]) rfl ⟨by rw [HF.out]; rfl, HB.out⟩
                      · have q1 : (S.toList == s.toList) = false := by
                          rw [beq_eq_false_iff_ne]
                          intro e
                          rw [ByteArray.toList_eq, ByteArray.toList_eq] at e
                          exact hq (by apply ByteArray.ext; exact Array.ext' e)
                        have HF : Hid (R = (⟨0, 0⟩, 11)) := by show _ = _; rw [HFT.out, if_neg (fun h => hq (HFIT.out.2 h))]
                        have HB := Lib.hid (below_st (below_st J2.out.b (p := ⟨g2, 0, none⟩) hgg (.int .i64 0)) (p := ⟨g2, 1, none⟩) hgg (.int .u64 0))
                        clear hq
                        go_wp2_with fail
                        refine bodyPost_ret (v := .tuple #[.agg #[.int .i64 0, .int .u64 0], .int .i64 11]) (by simp [results, Try.results11, go_sem, *]) rfl ⟨by rw [HF.out]; rfl, HB.out⟩
end Go.Proofs.Ytafjpgkffgmokaa
