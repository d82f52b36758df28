/- The reference's Points. -/
import Derived.Test.YtglabahbklpocaaGreatGShipWrites21
namespace Go.Proofs.YtglabahbklpocaaGreat
section
open Go.RowKit Go.Deep
set_option maxRecDepth 100000
set_option linter.unusedVariables false
set_option linter.unusedSimpArgs false
attribute [local go_sem ↓] Go.wp_at_zero Go.wp_at_succ
theorem ba_cat2 (l : List UInt8) (s : ByteArray) : (⟨l.toArray⟩ : ByteArray) ++ s = ⟨(l ++ s.data.toList).toArray⟩ := by
  apply ByteArray.ext
  apply Array.ext'
  rw [ByteArray.data_append, Array.toList_append]
structure PtC6 (w : World) (b o : Nat) (p : Pt) : Prop where
  c0 : w.cell? ⟨b, o, none⟩ = some (.string p.series)
  c1 : w.cell? ⟨b, o + 1, none⟩ = some (.int .i64 p.time)
  c2 : w.cell? ⟨b, o + 2, none⟩ = some (.int .i64 p.value)
theorem PtC.conj6 {w : World} {b o : Nat} {p : Pt} (h : PtC w b o p) : w.cell? ⟨b, o, none⟩ = some (.string p.series) ∧ w.cell? ⟨b, o + 1, none⟩ = some (.int .i64 p.time) ∧ w.cell? ⟨b, o + 2, none⟩ = some (.int .i64 p.value) ∧ w.cell? ⟨b, o + 3, none⟩ = some (.int .i64 p.st.clock) ∧ w.cell? ⟨b, o + 4, none⟩ = some (.int .i64 p.st.site) ∧ w.cell? ⟨b, o + 5, none⟩ = some (.int .i64 p.st.seq) := ⟨h.c0, h.c1, h.c2, h.c3, h.c4, h.c5⟩
set_option maxHeartbeats 8000000 in
theorem rpoints_any (a : Option Addr) (n c : Nat) (xs : List Pt) (w : World) (h : ReadsE Pt.cs 6 w a n xs) (hwf : ∀ x ∈ xs, x.wf) (hnc : n ≤ c) (hcb : c ≤ 9223372036854775807) :
    Calls Tryz.prog 56 #[.slice a n c] w fun e w' => e = .returned (.tuple #[.string (ptsV xs).1, .int .i64 (ptsV xs).2]) ∧ Below w.heap.size w w' := by
  have hlen := h.1
  obtain ⟨V, HV⟩ : ∃ V, Hid (V = ptsV xs) := ⟨_, rfl⟩
  rw [← HV.out]
  have H := Lib.hid h
  clear h
  go_enter Tryz.func56, Tryz.ntmps56
  go_wp2_with fail
  go_loopw [4] (fun i wr => ∃ k : Nat, k ≤ n ∧ i = .int .i64 k ∧ okPts (xs.take k) ∧ Below w.heap.size w wr) (fun i _ => n - (intOf i).toNat)
  case atStart => exact ⟨0, by omega, rfl, by intro p hp; simp at hp, Below.refl _ _⟩
  case round =>
    obtain ⟨k, hk, rfl, he, hb⟩ := hrel
    have HE := Lib.hid he
    clear he
    by_cases hlt : k < n
    · have t2 : decide ((k : Int) < (n : Int)) = true := decide_eq_true (by omega)
      obtain ⟨b, o, x, rfl, _, hxk, hC⟩ := H.out.at hb k hlt
      obtain ⟨a0, a1, a2, a3, a4, a5⟩ := pt_cells hC
      have i1 : (0 : Int) ≤ (k : Int) := by omega
      have i2 : (k : Int) < (n : Int) := by omega
      have C1 := fun wx => rchkpt_any x wx (hwf x (List.mem_of_getElem? hxk))
      have hT : xs.take (k + 1) = xs.take k ++ [x] := by rw [List.take_add_one, hxk]; rfl
      have HT := Lib.hid hT
      have hzz := hb.size
      clear hC hT
      rcases chkP_01 x with h0 | h0
      · have HN : Hid (okPts (xs.take (k + 1))) := by
          show okPts _
          rw [HT.out]
          intro p hp
          rcases List.mem_append.1 hp with hp | hp
          · exact HE.out p hp
          · simp only [List.mem_singleton] at hp
            subst hp
            exact h0
        rw [h0] at C1
        clear h0
        unfold Pt.val at C1
        go_wp2_with (first | (go_at_call 70; refine (C1 _).mono ?_; rintro e wn ⟨rfl, dn⟩; have hb := below_then hb hzz dn))
        go_roundw
        case rel => exact ⟨k + 1, by omega, by go_num, HN.out, hb⟩
        case measure => simp [intOf]; omega
      · have HN : Hid (V = (⟨#[]⟩, 1)) := by
          show _ = _
          rw [HV.out]
          unfold ptsV
          rw [if_neg]
          intro hh
          have := hh x (List.mem_of_getElem? hxk)
          rw [h0] at this
          cases this
        rw [h0] at C1
        clear h0
        unfold Pt.val at C1
        go_wp2_with (first | (go_at_call 70; refine (C1 _).mono ?_; rintro e wn ⟨rfl, dn⟩; have hb := below_then hb hzz dn))
        refine bodyPost_ret (v := .tuple #[.string ⟨#[]⟩, .int .i64 1]) (by simp [results, Tryz.results56, go_sem, *]) rfl ⟨by rw [HN.out], hb⟩
    · obtain rfl : k = n := by omega
      have t2 : decide ((k : Int) < (k : Int)) = false := decide_eq_false (by omega)
      have hok : okPts xs := by
        have := HE.out
        rwa [List.take_of_length_le (by omega)] at this
      clear HE
      by_cases hn : k ≤ 1000
      · have t1 : decide (1000 < (k : Int)) = false := decide_eq_false (by omega)
        have HV : Hid (V = (⟨(ptsL xs).toArray⟩, 0)) := HV.out.trans (by unfold ptsV; rw [if_pos hok, if_pos (by omega)])
        have hwr : IntKind.u64.wrap (k : Int) = k := by rw [wrap_u64]; omega
        have N0 := fun wx => rput_any (k : Int) wx (by omega) (by omega)
        have HOK := Lib.hid hok
        clear hok
        go_wp2_with (first | (go_at_call 55; refine (N0 _).mono ?_; rintro e w2 ⟨rfl, hb2⟩))
        have hb3 := below_then hb hb.size hb2
        clear hb hb2 N0
        rw [vput_ba]
        generalize hnn : k = n at *
        clear hnn
        go_loopw [5, 6] (fun t i wr => ∃ k : Nat, k ≤ n ∧ i = .int .i64 k ∧ t = .string ⟨(putB 9 n ++ ptsb (xs.take k)).toArray⟩ ∧ Below w.heap.size w wr) (fun _ i _ => n - (intOf i).toNat)
        case atStart => exact ⟨0, by omega, rfl, by simp [ptsb], hb3⟩
        case round =>
          obtain ⟨k, hk, rfl, rfl, hbw⟩ := hrel
          by_cases hlt : k < n
          · have t2 : decide ((k : Int) < (n : Int)) = true := decide_eq_true (by omega)
            obtain ⟨b, o, x, rfl, hbl, hxk, hC⟩ := H.out.at (Below.refl _ _) k hlt
            have HC : Hid (∀ wx, Below w.heap.size w wx → wx.cell? ⟨b, o + k * 6, none⟩ = some (.string x.series) ∧ wx.cell? ⟨b, o + k * 6 + 1, none⟩ = some (.int .i64 x.time) ∧ wx.cell? ⟨b, o + k * 6 + 2, none⟩ = some (.int .i64 x.value) ∧ wx.cell? ⟨b, o + k * 6 + 3, none⟩ = some (.int .i64 x.st.clock) ∧ wx.cell? ⟨b, o + k * 6 + 4, none⟩ = some (.int .i64 x.st.site) ∧ wx.cell? ⟨b, o + k * 6 + 5, none⟩ = some (.int .i64 x.st.seq)) := fun wx hx => (pt_cells (hC.below hx hbl)).conj6
            have i1 : (0 : Int) ≤ (k : Int) := by omega
            have i2 : (k : Int) < (n : Int) := by omega
            have hx0 := HOK.out x (List.mem_of_getElem? hxk)
            have hxw := hwf x (List.mem_of_getElem? hxk)
            obtain ⟨q1, q2, q3⟩ := chkP_0 hx0
            have q4 := nameV_size q1
            have q5 := zig_range x.value hxw.2.2.1.1 hxw.2.2.1.2
            have HT : Hid (xs.take (k + 1) = xs.take k ++ [x]) := by show _ = _; rw [List.take_add_one, hxk]; rfl
            have HL2 : (putB 9 (n : Int) ++ ptsb (xs.take k)).length ≤ 160000 := by
              have := ptsb_le (okPts_take HOK.out k)
              have h9 := putB_le (n : Int)
              rw [List.length_take] at this
              rw [List.length_append]
              omega
            have hz := ba_size (putB 9 n ++ ptsb (xs.take k))
            have HP := ptb_text q3
            have HC2 := ba_cat2 (putB 9 n ++ ptsb (xs.take k))
            have HQ : Hid ((((⟨(putB 9 n ++ ptsb (xs.take k)).toArray⟩ : ByteArray) ++ vtext x.series) ++ vput x.time) ++ vput (zig x.value) ++ stB x.st = ⟨(putB 9 n ++ ptsb (xs.take (k + 1))).toArray⟩) := by
              show _ = _
              rw [HT.out, ptsb_append, ptsb_one, ← HP, ← List.append_assoc, ← HC2, ByteArray.append_assoc, ByteArray.append_assoc, ByteArray.append_assoc, ByteArray.append_assoc, ByteArray.append_assoc]
            have D2 := fun wx => rtext_any x.series wx (by omega)
            have D1 := fun wx => rput_any x.time wx (by omega) (by omega)
            have D3 := fun wx => rstbytes_any x.st wx
            have D7 := fun wx => rput_any (zig x.value) wx q5.1 q5.2
            have D8 := fun wx => rzig_any x.value wx hxw.2.2.1.1 hxw.2.2.1.2
            unfold St.val at D3
            have m1 := vtext_le x.series q4
            have m2 := vput_le x.time
            have m3 := vput_le (zig x.value)
            have m4 := stB_le x.st
            have hu : IntKind.u64.wrap x.time = x.time := by rw [wrap_u64]; omega
            have KK : Hid (Kn w.heap.size w [] wr) := ⟨by simp, hbw, hbw.size⟩
            clear hC hxw q1 q2 q3 q5 hx0 HP HC2 hbw
            go_upto_region 12 with fail
            generalize vtext x.series = S1 at *
            generalize vput x.time = S2 at *
            generalize vput (zig x.value) = S3 at *
            generalize stB x.st = S4 at *
            generalize hS0 : (⟨(putB 9 n ++ ptsb (xs.take k)).toArray⟩ : ByteArray) = S0 at *
            have n0 : S0.size ≤ 160000 := by omega
            clear hS0 hz HL2
            have n1 : ¬ (9223372036854775807 < S0.size + S1.size) := by omega
            have n2 : ¬ (9223372036854775807 < S0.size + S1.size + S2.size) := by omega
            have n2' : ¬ (9223372036854775807 < (S0 ++ S1).size + S2.size) := by rw [ByteArray.size_append]; omega
            have n3 : ¬ (9223372036854775807 < S0.size + S1.size + S2.size + S3.size) := by omega
            have n3' : ¬ (9223372036854775807 < (S0 ++ S1 ++ S2).size + S3.size) := by rw [ByteArray.size_append, ByteArray.size_append]; omega
            have n4 : ¬ (9223372036854775807 < S0.size + S1.size + S2.size + S3.size + S4.size) := by omega
            have n4' : ¬ (9223372036854775807 < (S0 ++ S1 ++ S2 ++ S3).size + S4.size) := by rw [ByteArray.size_append, ByteArray.size_append, ByteArray.size_append]; omega
            refine wp_region_held_drew (S := (fun wx => wx.cell? ⟨b, o + k * 6, none⟩ = some (.string x.series) ∧ wx.cell? ⟨b, o + k * 6 + 1, none⟩ = some (.int .i64 x.time) ∧ wx.cell? ⟨b, o + k * 6 + 2, none⟩ = some (.int .i64 x.value) ∧ wx.cell? ⟨b, o + k * 6 + 3, none⟩ = some (.int .i64 x.st.clock) ∧ wx.cell? ⟨b, o + k * 6 + 4, none⟩ = some (.int .i64 x.st.site) ∧ wx.cell? ⟨b, o + k * 6 + 5, none⟩ = some (.int .i64 x.st.seq))) (by kernel_rfl) ?_ (fun hHeld => ?_)
            focus ((try dsimp only); (try (exact HC.out _ (Kn.same KK.out (by rfl) (by rfl) (by rfl) (by rfl)).b)); done)
            (refine wpAnyH_take (i := 0) (oi := { dst := some 32, op := Go.Op.move (Go.Operand.tmp 5), type := 9, pos := _, after := _, guard := none }) (v := ?_) rfl (by kernel_rfl) (by kernel_rfl) (by kernel_rfl) (fun _ _ _ h => h) (Or.inl ⟨by rfl, ?_⟩) (by assumption) ?_; rotate_left; (focus (intro w hSw; ((try dsimp only at hSw); go_simp; try with_reducible rfl))); (try simp only [Act.put, sA, sZ, sS]))
            (refine wpAnyH_take (i := 1) (oi := { dst := some 33, op := Go.Op.move (Go.Operand.tmp 0), type := 31, pos := _, after := _, guard := none }) (v := ?_) rfl (by kernel_rfl) (by kernel_rfl) (by kernel_rfl) (fun _ _ _ h => h) (Or.inl ⟨by rfl, ?_⟩) (by assumption) ?_; rotate_left; (focus (intro w hSw; ((try dsimp only at hSw); go_simp; try with_reducible rfl))); (try simp only [Act.put, sA, sZ, sS]))
            (refine wpAnyH_take (i := 2) (oi := { dst := some 34, op := Go.Op.move (Go.Operand.tmp 6), type := 3, pos := _, after := _, guard := none }) (v := ?_) rfl (by kernel_rfl) (by kernel_rfl) (by kernel_rfl) (fun _ _ _ h => h) (Or.inl ⟨by rfl, ?_⟩) (by assumption) ?_; rotate_left; (focus (intro w hSw; ((try dsimp only at hSw); go_simp; try with_reducible rfl))); (try simp only [Act.put, sA, sZ, sS]))
            (refine wpAnyH_take (i := 3) (oi := { dst := some 35, op := Go.Op.indexAddr 31 (Go.Operand.tmp 33) (Go.Operand.tmp 34), type := 0, pos := _, after := _, guard := none }) (v := ?_) rfl (by kernel_rfl) (by kernel_rfl) (by kernel_rfl) (fun _ _ _ h => h) (Or.inl ⟨by rfl, ?_⟩) (by assumption) ?_; rotate_left; (focus (intro w hSw; ((try dsimp only at hSw); go_simp; try with_reducible rfl))); (try simp only [Act.put, sA, sZ, sS]))
            (refine wpAnyH_take (i := 4) (oi := { dst := some 36, op := Go.Op.fieldAddr 90 (Go.Operand.tmp 35) 0, type := 0, pos := _, after := _, guard := none }) (v := ?_) rfl (by kernel_rfl) (by kernel_rfl) (by kernel_rfl) (fun _ _ _ h => h) (Or.inl ⟨by rfl, ?_⟩) (by assumption) ?_; rotate_left; (focus (intro w hSw; ((try dsimp only at hSw); go_simp; try with_reducible rfl))); (try simp only [Act.put, sA, sZ, sS]))
            (refine wpAnyH_take (i := 5) (oi := { dst := some 37, op := Go.Op.load 9 (Go.Operand.tmp 36), type := 9, pos := _, after := _, guard := none }) (v := ?_) rfl (by kernel_rfl) (by kernel_rfl) (by kernel_rfl) (fun _ _ _ h => h) (Or.inl ⟨by rfl, ?_⟩) (by assumption) ?_; rotate_left; (focus (intro w hSw; ((try dsimp only at hSw); go_simp; try with_reducible rfl))); (try simp only [Act.put, sA, sZ, sS]))
            (refine wpAnyH_take (i := 8) (oi := { dst := some 40, op := Go.Op.move (Go.Operand.tmp 0), type := 31, pos := _, after := _, guard := none }) (v := ?_) rfl (by kernel_rfl) (by kernel_rfl) (by kernel_rfl) (fun _ _ _ h => h) (Or.inl ⟨by rfl, ?_⟩) (by assumption) ?_; rotate_left; (focus (intro w hSw; ((try dsimp only at hSw); go_simp; try with_reducible rfl))); (try simp only [Act.put, sA, sZ, sS]))
            (refine wpAnyH_take (i := 9) (oi := { dst := some 41, op := Go.Op.move (Go.Operand.tmp 6), type := 3, pos := _, after := _, guard := none }) (v := ?_) rfl (by kernel_rfl) (by kernel_rfl) (by kernel_rfl) (fun _ _ _ h => h) (Or.inl ⟨by rfl, ?_⟩) (by assumption) ?_; rotate_left; (focus (intro w hSw; ((try dsimp only at hSw); go_simp; try with_reducible rfl))); (try simp only [Act.put, sA, sZ, sS]))
            (refine wpAnyH_take (i := 10) (oi := { dst := some 42, op := Go.Op.indexAddr 31 (Go.Operand.tmp 40) (Go.Operand.tmp 41), type := 0, pos := _, after := _, guard := none }) (v := ?_) rfl (by kernel_rfl) (by kernel_rfl) (by kernel_rfl) (fun _ _ _ h => h) (Or.inl ⟨by rfl, ?_⟩) (by assumption) ?_; rotate_left; (focus (intro w hSw; ((try dsimp only at hSw); go_simp; try with_reducible rfl))); (try simp only [Act.put, sA, sZ, sS]))
            (refine wpAnyH_take (i := 11) (oi := { dst := some 43, op := Go.Op.fieldAddr 90 (Go.Operand.tmp 42) 1, type := 0, pos := _, after := _, guard := none }) (v := ?_) rfl (by kernel_rfl) (by kernel_rfl) (by kernel_rfl) (fun _ _ _ h => h) (Or.inl ⟨by rfl, ?_⟩) (by assumption) ?_; rotate_left; (focus (intro w hSw; ((try dsimp only at hSw); go_simp; try with_reducible rfl))); (try simp only [Act.put, sA, sZ, sS]))
            (refine wpAnyH_take (i := 12) (oi := { dst := some 44, op := Go.Op.load 3 (Go.Operand.tmp 43), type := 3, pos := _, after := _, guard := none }) (v := ?_) rfl (by kernel_rfl) (by kernel_rfl) (by kernel_rfl) (fun _ _ _ h => h) (Or.inl ⟨by rfl, ?_⟩) (by assumption) ?_; rotate_left; (focus (intro w hSw; ((try dsimp only at hSw); go_simp; try with_reducible rfl))); (try simp only [Act.put, sA, sZ, sS]))
            (refine wpAnyH_take (i := 13) (oi := { dst := some 45, op := Go.Op.convert 3 92 (Go.Operand.tmp 44), type := 92, pos := _, after := _, guard := none }) (v := ?_) rfl (by kernel_rfl) (by kernel_rfl) (by kernel_rfl) (fun _ _ _ h => h) (Or.inl ⟨by rfl, ?_⟩) (by assumption) ?_; rotate_left; (focus (intro w hSw; ((try dsimp only at hSw); go_simp; try with_reducible rfl))); (try simp only [Act.put, sA, sZ, sS]))
            (refine wpAnyH_take (i := 16) (oi := { dst := some 48, op := Go.Op.move (Go.Operand.tmp 0), type := 31, pos := _, after := _, guard := none }) (v := ?_) rfl (by kernel_rfl) (by kernel_rfl) (by kernel_rfl) (fun _ _ _ h => h) (Or.inl ⟨by rfl, ?_⟩) (by assumption) ?_; rotate_left; (focus (intro w hSw; ((try dsimp only at hSw); go_simp; try with_reducible rfl))); (try simp only [Act.put, sA, sZ, sS]))
            (refine wpAnyH_take (i := 17) (oi := { dst := some 49, op := Go.Op.move (Go.Operand.tmp 6), type := 3, pos := _, after := _, guard := none }) (v := ?_) rfl (by kernel_rfl) (by kernel_rfl) (by kernel_rfl) (fun _ _ _ h => h) (Or.inl ⟨by rfl, ?_⟩) (by assumption) ?_; rotate_left; (focus (intro w hSw; ((try dsimp only at hSw); go_simp; try with_reducible rfl))); (try simp only [Act.put, sA, sZ, sS]))
            (refine wpAnyH_take (i := 18) (oi := { dst := some 50, op := Go.Op.indexAddr 31 (Go.Operand.tmp 48) (Go.Operand.tmp 49), type := 0, pos := _, after := _, guard := none }) (v := ?_) rfl (by kernel_rfl) (by kernel_rfl) (by kernel_rfl) (fun _ _ _ h => h) (Or.inl ⟨by rfl, ?_⟩) (by assumption) ?_; rotate_left; (focus (intro w hSw; ((try dsimp only at hSw); go_simp; try with_reducible rfl))); (try simp only [Act.put, sA, sZ, sS]))
            (refine wpAnyH_take (i := 19) (oi := { dst := some 51, op := Go.Op.fieldAddr 90 (Go.Operand.tmp 50) 2, type := 0, pos := _, after := _, guard := none }) (v := ?_) rfl (by kernel_rfl) (by kernel_rfl) (by kernel_rfl) (fun _ _ _ h => h) (Or.inl ⟨by rfl, ?_⟩) (by assumption) ?_; rotate_left; (focus (intro w hSw; ((try dsimp only at hSw); go_simp; try with_reducible rfl))); (try simp only [Act.put, sA, sZ, sS]))
            (refine wpAnyH_take (i := 20) (oi := { dst := some 52, op := Go.Op.load 2 (Go.Operand.tmp 51), type := 2, pos := _, after := _, guard := none }) (v := ?_) rfl (by kernel_rfl) (by kernel_rfl) (by kernel_rfl) (fun _ _ _ h => h) (Or.inl ⟨by rfl, ?_⟩) (by assumption) ?_; rotate_left; (focus (intro w hSw; ((try dsimp only at hSw); go_simp; try with_reducible rfl))); (try simp only [Act.put, sA, sZ, sS]))
            (refine wpAnyH_take (i := 24) (oi := { dst := some 56, op := Go.Op.move (Go.Operand.tmp 0), type := 31, pos := _, after := _, guard := none }) (v := ?_) rfl (by kernel_rfl) (by kernel_rfl) (by kernel_rfl) (fun _ _ _ h => h) (Or.inl ⟨by rfl, ?_⟩) (by assumption) ?_; rotate_left; (focus (intro w hSw; ((try dsimp only at hSw); go_simp; try with_reducible rfl))); (try simp only [Act.put, sA, sZ, sS]))
            (refine wpAnyH_take (i := 25) (oi := { dst := some 57, op := Go.Op.move (Go.Operand.tmp 6), type := 3, pos := _, after := _, guard := none }) (v := ?_) rfl (by kernel_rfl) (by kernel_rfl) (by kernel_rfl) (fun _ _ _ h => h) (Or.inl ⟨by rfl, ?_⟩) (by assumption) ?_; rotate_left; (focus (intro w hSw; ((try dsimp only at hSw); go_simp; try with_reducible rfl))); (try simp only [Act.put, sA, sZ, sS]))
            (refine wpAnyH_take (i := 26) (oi := { dst := some 58, op := Go.Op.indexAddr 31 (Go.Operand.tmp 56) (Go.Operand.tmp 57), type := 0, pos := _, after := _, guard := none }) (v := ?_) rfl (by kernel_rfl) (by kernel_rfl) (by kernel_rfl) (fun _ _ _ h => h) (Or.inl ⟨by rfl, ?_⟩) (by assumption) ?_; rotate_left; (focus (intro w hSw; ((try dsimp only at hSw); go_simp; try with_reducible rfl))); (try simp only [Act.put, sA, sZ, sS]))
            (refine wpAnyH_take (i := 27) (oi := { dst := some 59, op := Go.Op.fieldAddr 90 (Go.Operand.tmp 58) 3, type := 0, pos := _, after := _, guard := none }) (v := ?_) rfl (by kernel_rfl) (by kernel_rfl) (by kernel_rfl) (fun _ _ _ h => h) (Or.inl ⟨by rfl, ?_⟩) (by assumption) ?_; rotate_left; (focus (intro w hSw; ((try dsimp only at hSw); go_simp; try with_reducible rfl))); (try simp only [Act.put, sA, sZ, sS]))
            (refine wpAnyH_take (i := 28) (oi := { dst := some 60, op := Go.Op.load 58 (Go.Operand.tmp 59), type := 58, pos := _, after := _, guard := none }) (v := ?_) rfl (by kernel_rfl) (by kernel_rfl) (by kernel_rfl) (fun _ _ _ h => h) (Or.inl ⟨by rfl, ?_⟩) (by assumption) ?_; rotate_left; (focus (intro w hSw; ((try dsimp only at hSw); go_simp; try with_reducible rfl))); (try simp only [Act.put, sA, sZ, sS]))
            (refine wpAnyH_ready (rs := [6]) (by kernel_rfl) (by simp) ?_; refine AllReadyH.cons (o := { dst := some 38, op := Go.Op.call { callee := Go.Callee.value (Go.Operand.func 57), args := #[Go.Operand.tmp 37], argTypes := #[9] }, type := 9, pos := _, after := _, guard := none }) rfl (fun K hK => ?_) AllReadyH.nil; go_simp; ((first | (go_at_call 57; refine (D2 _).mono ?_; rintro e wn ⟨rfl, dn⟩; have KK := Lib.hid (Kn.later KK.out dn rfl rfl rfl rfl)) | (go_at_call_of 55 (#[.int .u64 x.time] : Array Value); refine (D1 _).mono ?_; rintro e wn ⟨rfl, dn⟩; have KK := Lib.hid (Kn.later KK.out dn rfl rfl rfl rfl)) | (go_at_call 116; refine (D8 _).mono ?_; rintro e wn ⟨rfl, rfl⟩) | (go_at_call_of 55 (#[.int .u64 (zig x.value)] : Array Value); refine (D7 _).mono ?_; rintro e wn ⟨rfl, dn⟩; have KK := Lib.hid (Kn.later KK.out dn rfl rfl rfl rfl)) | (go_at_call 117; refine (D3 _).mono ?_; rintro e wn ⟨rfl, dn⟩; have KK := Lib.hid (Kn.later KK.out dn rfl rfl rfl rfl)))); go_wp2_with fail; refine hK.out _ _ ?_ (fun hHeld => ?_); (focus ((try dsimp only); (try (exact HC.out _ (Kn.same KK.out (by rfl) (by rfl) (by rfl) (by rfl)).b)); done)); clear hK; (try simp only [Act.put, sA, sZ, sS]))
            (refine wpAnyH_take (i := 7) (oi := { dst := some 39, op := Go.Op.binOp Go.BinOp.add 9 (Go.Operand.tmp 32) (Go.Operand.tmp 38) 9, type := 9, pos := _, after := _, guard := none }) (v := ?_) rfl (by kernel_rfl) (by kernel_rfl) (by kernel_rfl) (fun _ _ _ h => h) (Or.inl ⟨by rfl, ?_⟩) (by assumption) ?_; rotate_left; (focus (intro w hSw; ((try dsimp only at hSw); go_simp; try with_reducible rfl))); (try simp only [Act.put, sA, sZ, sS]))
            (refine wpAnyH_ready (rs := [14]) (by kernel_rfl) (by simp) ?_; refine AllReadyH.cons (o := { dst := some 46, op := Go.Op.call { callee := Go.Callee.value (Go.Operand.func 55), args := #[Go.Operand.tmp 45], argTypes := #[92] }, type := 9, pos := _, after := _, guard := none }) rfl (fun K hK => ?_) AllReadyH.nil; go_simp; ((first | (go_at_call 57; refine (D2 _).mono ?_; rintro e wn ⟨rfl, dn⟩; have KK := Lib.hid (Kn.later KK.out dn rfl rfl rfl rfl)) | (go_at_call_of 55 (#[.int .u64 x.time] : Array Value); refine (D1 _).mono ?_; rintro e wn ⟨rfl, dn⟩; have KK := Lib.hid (Kn.later KK.out dn rfl rfl rfl rfl)) | (go_at_call 116; refine (D8 _).mono ?_; rintro e wn ⟨rfl, rfl⟩) | (go_at_call_of 55 (#[.int .u64 (zig x.value)] : Array Value); refine (D7 _).mono ?_; rintro e wn ⟨rfl, dn⟩; have KK := Lib.hid (Kn.later KK.out dn rfl rfl rfl rfl)) | (go_at_call 117; refine (D3 _).mono ?_; rintro e wn ⟨rfl, dn⟩; have KK := Lib.hid (Kn.later KK.out dn rfl rfl rfl rfl)))); go_wp2_with fail; refine hK.out _ _ ?_ (fun hHeld => ?_); (focus ((try dsimp only); (try (exact HC.out _ (Kn.same KK.out (by rfl) (by rfl) (by rfl) (by rfl)).b)); done)); clear hK; (try simp only [Act.put, sA, sZ, sS]))
            (refine wpAnyH_take (i := 15) (oi := { dst := some 47, op := Go.Op.binOp Go.BinOp.add 9 (Go.Operand.tmp 39) (Go.Operand.tmp 46) 9, type := 9, pos := _, after := _, guard := none }) (v := ?_) rfl (by kernel_rfl) (by kernel_rfl) (by kernel_rfl) (fun _ _ _ h => h) (Or.inl ⟨by rfl, ?_⟩) (by assumption) ?_; rotate_left; (focus (intro w hSw; ((try dsimp only at hSw); go_simp; try with_reducible rfl))); (try simp only [Act.put, sA, sZ, sS]))
            (refine wpAnyH_ready (rs := [21]) (by kernel_rfl) (by simp) ?_; refine AllReadyH.cons (o := { dst := some 53, op := Go.Op.call { callee := Go.Callee.value (Go.Operand.func 116), args := #[Go.Operand.tmp 52], argTypes := #[2] }, type := 92, pos := _, after := _, guard := none }) rfl (fun K hK => ?_) AllReadyH.nil; go_simp; ((first | (go_at_call 57; refine (D2 _).mono ?_; rintro e wn ⟨rfl, dn⟩; have KK := Lib.hid (Kn.later KK.out dn rfl rfl rfl rfl)) | (go_at_call_of 55 (#[.int .u64 x.time] : Array Value); refine (D1 _).mono ?_; rintro e wn ⟨rfl, dn⟩; have KK := Lib.hid (Kn.later KK.out dn rfl rfl rfl rfl)) | (go_at_call 116; refine (D8 _).mono ?_; rintro e wn ⟨rfl, rfl⟩) | (go_at_call_of 55 (#[.int .u64 (zig x.value)] : Array Value); refine (D7 _).mono ?_; rintro e wn ⟨rfl, dn⟩; have KK := Lib.hid (Kn.later KK.out dn rfl rfl rfl rfl)) | (go_at_call 117; refine (D3 _).mono ?_; rintro e wn ⟨rfl, dn⟩; have KK := Lib.hid (Kn.later KK.out dn rfl rfl rfl rfl)))); go_wp2_with fail; refine hK.out _ _ ?_ (fun hHeld => ?_); (focus ((try dsimp only); (try (exact HC.out _ (Kn.same KK.out (by rfl) (by rfl) (by rfl) (by rfl)).b)); done)); clear hK; (try simp only [Act.put, sA, sZ, sS]))
            (refine wpAnyH_ready (rs := [22]) (by kernel_rfl) (by simp) ?_; refine AllReadyH.cons (o := { dst := some 54, op := Go.Op.call { callee := Go.Callee.value (Go.Operand.func 55), args := #[Go.Operand.tmp 53], argTypes := #[92] }, type := 9, pos := _, after := _, guard := none }) rfl (fun K hK => ?_) AllReadyH.nil; go_simp; ((first | (go_at_call 57; refine (D2 _).mono ?_; rintro e wn ⟨rfl, dn⟩; have KK := Lib.hid (Kn.later KK.out dn rfl rfl rfl rfl)) | (go_at_call_of 55 (#[.int .u64 x.time] : Array Value); refine (D1 _).mono ?_; rintro e wn ⟨rfl, dn⟩; have KK := Lib.hid (Kn.later KK.out dn rfl rfl rfl rfl)) | (go_at_call 116; refine (D8 _).mono ?_; rintro e wn ⟨rfl, rfl⟩) | (go_at_call_of 55 (#[.int .u64 (zig x.value)] : Array Value); refine (D7 _).mono ?_; rintro e wn ⟨rfl, dn⟩; have KK := Lib.hid (Kn.later KK.out dn rfl rfl rfl rfl)) | (go_at_call 117; refine (D3 _).mono ?_; rintro e wn ⟨rfl, dn⟩; have KK := Lib.hid (Kn.later KK.out dn rfl rfl rfl rfl)))); go_wp2_with fail; refine hK.out _ _ ?_ (fun hHeld => ?_); (focus ((try dsimp only); (try (exact HC.out _ (Kn.same KK.out (by rfl) (by rfl) (by rfl) (by rfl)).b)); done)); clear hK; (try simp only [Act.put, sA, sZ, sS]))
            (refine wpAnyH_take (i := 23) (oi := { dst := some 55, op := Go.Op.binOp Go.BinOp.add 9 (Go.Operand.tmp 47) (Go.Operand.tmp 54) 9, type := 9, pos := _, after := _, guard := none }) (v := ?_) rfl (by kernel_rfl) (by kernel_rfl) (by kernel_rfl) (fun _ _ _ h => h) (Or.inl ⟨by rfl, ?_⟩) (by assumption) ?_; rotate_left; (focus (intro w hSw; ((try dsimp only at hSw); go_simp; try with_reducible rfl))); (try simp only [Act.put, sA, sZ, sS]))
            (refine wpAnyH_ready (rs := [29]) (by kernel_rfl) (by simp) ?_; refine AllReadyH.cons (o := { dst := some 61, op := Go.Op.call { callee := Go.Callee.value (Go.Operand.func 117), args := #[Go.Operand.tmp 60], argTypes := #[58] }, type := 9, pos := _, after := _, guard := none }) rfl (fun K hK => ?_) AllReadyH.nil; go_simp; ((first | (go_at_call 57; refine (D2 _).mono ?_; rintro e wn ⟨rfl, dn⟩; have KK := Lib.hid (Kn.later KK.out dn rfl rfl rfl rfl)) | (go_at_call_of 55 (#[.int .u64 x.time] : Array Value); refine (D1 _).mono ?_; rintro e wn ⟨rfl, dn⟩; have KK := Lib.hid (Kn.later KK.out dn rfl rfl rfl rfl)) | (go_at_call 116; refine (D8 _).mono ?_; rintro e wn ⟨rfl, rfl⟩) | (go_at_call_of 55 (#[.int .u64 (zig x.value)] : Array Value); refine (D7 _).mono ?_; rintro e wn ⟨rfl, dn⟩; have KK := Lib.hid (Kn.later KK.out dn rfl rfl rfl rfl)) | (go_at_call 117; refine (D3 _).mono ?_; rintro e wn ⟨rfl, dn⟩; have KK := Lib.hid (Kn.later KK.out dn rfl rfl rfl rfl)))); go_wp2_with fail; refine hK.out _ _ ?_ (fun hHeld => ?_); (focus ((try dsimp only); (try (exact HC.out _ (Kn.same KK.out (by rfl) (by rfl) (by rfl) (by rfl)).b)); done)); clear hK; (try simp only [Act.put, sA, sZ, sS]))
            (refine wpAnyH_take (i := 30) (oi := { dst := some 62, op := Go.Op.binOp Go.BinOp.add 9 (Go.Operand.tmp 55) (Go.Operand.tmp 61) 9, type := 9, pos := _, after := _, guard := none }) (v := ?_) rfl (by kernel_rfl) (by kernel_rfl) (by kernel_rfl) (fun _ _ _ h => h) (Or.inl ⟨by rfl, ?_⟩) (by assumption) ?_; rotate_left; (focus (intro w hSw; ((try dsimp only at hSw); go_simp; try with_reducible rfl))); (try simp only [Act.put, sA, sZ, sS]))
            (refine wpAnyH_take (i := 31) (oi := { dst := some 5, op := Go.Op.assign (Go.Operand.tmp 62), type := 9, pos := _, after := _, guard := none }) (v := ?_) rfl (by kernel_rfl) (by kernel_rfl) (by kernel_rfl) (fun _ _ _ h => h) (Or.inl ⟨by rfl, ?_⟩) (by assumption) ?_; rotate_left; (focus (intro w hSw; ((try dsimp only at hSw); go_simp; try with_reducible rfl))); (try simp only [Act.put, sA, sZ, sS]))
            refine wpAnyH_done (by kernel_rfl) ?_ _
            go_wp2_with fail
            go_roundw
            case rel => exact ⟨k + 1, by omega, by go_num, by rw [← HQ.out], (Kn.same KK.out rfl rfl rfl rfl).b⟩
            case measure => simp [intOf]; omega
          · obtain rfl : k = n := by omega
            have t2 : decide ((k : Int) < (k : Int)) = false := decide_eq_false (by omega)
            have HF : Hid (putB 9 (k : Int) ++ ptsb (xs.take k) = ptsL xs) := by
              show _ = _
              rw [List.take_of_length_le (by omega)]; unfold ptsL; rw [hlen]
            rw [HF.out]
            go_wp2_with fail
            refine bodyPost_ret (v := .tuple #[.string ⟨(ptsL xs).toArray⟩, .int .i64 0]) (by simp [results, Tryz.results56, go_sem, *]) rfl ⟨by rw [HV.out], hbw⟩
      · have t1 : decide (1000 < (k : Int)) = true := decide_eq_true (by omega)
        have HV : Hid (V = (⟨#[]⟩, 11)) := HV.out.trans (by unfold ptsV; rw [if_pos hok, if_neg (by omega)])
        go_wp2_with fail
        refine bodyPost_ret (v := .tuple #[.string ⟨#[]⟩, .int .i64 11]) (by simp [results, Tryz.results56, go_sem, *]) rfl ⟨by rw [HV.out], hb⟩
end
end Go.Proofs.YtglabahbklpocaaGreat
