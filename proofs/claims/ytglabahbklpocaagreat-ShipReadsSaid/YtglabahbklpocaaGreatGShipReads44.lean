/- The reference's ReadPoints. -/
import Derived.Test.YtglabahbklpocaaGreatGShipReads31
import Derived.Test.YtglabahbklpocaaGreatGShipReads43
import Derived.Test.YtglabahbklpocaaGreatGShipReads41
namespace Go.Proofs.YtglabahbklpocaaGreat
section
open Go.RowKit Go.Deep
set_option maxRecDepth 100000
set_option linter.unusedVariables false
set_option linter.unusedSimpArgs false
attribute [local go_sem ↓] Go.wp_at_zero Go.wp_at_succ
theorem take_both {r : Rdr} (h : okV (takeV r).1 = true) : rtakeV r = takeV r := by
  unfold takeV rtakeV at *
  by_cases hok : okV (takeP r).1 = true
  · rw [if_pos hok, if_pos hok]
  · rw [if_neg hok] at h
    simp only at h
    exact absurd h (by decide)
theorem AppE.keep {α : Type} {cs : α → List Value} {T : TypeId} {sz : Nat} {w w' : World} {B : Nat} {a : Option Addr} {n cap : Nat} {l : List α} (h : AppE cs T sz w B a n cap l) (hk : ∀ b, B ≤ b → b < w.heap.size → w'.heap[b]? = w.heap[b]?) : AppE cs T sz w' B a n cap l := by
  refine ⟨h.len, h.le, h.max, h.row.1, ?_⟩
  rcases h.row.2 with h1 | ⟨g, c, cur, e1, e2, e3, rest⟩
  · exact .inl h1
  · exact .inr ⟨g, c, cur, e1, e2, (hk g e2 (heap_lt e3)).trans e3, rest⟩
set_option maxHeartbeats 8000000 in
theorem rreadpts_f (s : ByteArray) (w : World) (hs : s.size ≤ 1000000000) : Calls Tryz.prog 76 #[.string s] w fun e w' => ∃ a n c, e = .returned (.tuple #[.slice a n c, .int .i64 (readP s).2]) ∧ ReadsE Pt.cs 6 w' a n (readP s).1 ∧ n ≤ c ∧ c ≤ 9223372036854775807 ∧ (n = 0 ∨ ∃ b, a = some ⟨b, 0, none⟩ ∧ w.heap.size ≤ b) ∧ Below w.heap.size w w' := by
  have hok := r0_ok hs
  have hsm := Rdr.small_ok hok 1000
  have hsr := small_range hok (m := 1000) (by decide)
  have CS := fun g wx hx => rrdr_small g (r0 s) 1000 wx hx hok (by decide) (by decide)
  have LQ := fun k => takeQ_ok hsm.1 k
  have LW := fun k => takeQ_wf hsm.1 k
  have LK := fun k n hk hb => takeQ_keep hsm.1 k n hk hb
  have HRP : Hid (rpOk s ↔ (takeQ ((r0 s).small 1000).1.toNat ((r0 s).small 1000).2).2.fin = 0 ∧ okPts (takeQ ((r0 s).small 1000).1.toNat ((r0 s).small 1000).2).1) := Iff.rfl
  obtain ⟨V, HV⟩ : ∃ V, Hid (V = readP s) := ⟨_, rfl⟩
  have HV0 : Hid (rpOk s → V = ((takeQ ((r0 s).small 1000).1.toNat ((r0 s).small 1000).2).1, 0)) := fun h => HV.out.trans (readP_pos h)
  have HV1 : Hid (¬ rpOk s → V = ([], 10)) := fun h => HV.out.trans (readP_neg h)
  rw [← HV.out]
  clear HV
  generalize ((r0 s).small 1000).2 = R1 at *
  obtain ⟨n, hn⟩ : ∃ n : Nat, ((r0 s).small 1000).1 = n := ⟨((r0 s).small 1000).1.toNat, by omega⟩
  rw [hn] at hsr
  simp only [hn, Int.toNat_natCast] at CS HRP HV0
  clear hn
  have HLK := Lib.hid LK
  clear LK
  have nilS : ∀ wx : World, ReadsE Pt.cs 6 wx none 0 [] := fun wx => ReadsE.nil wx
  have hz : RdrAt 105 (w.alloc (.cells #[.string s, .int .i64 0, .bool false] 105)) w.heap.size (r0 s) := heap_alloc_new w _
  have dz : But w.heap.size w (w.alloc (.cells #[.string s, .int .i64 0, .bool false] 105)) := (But.refl _ w).alloc _
  go_enter Tryz.func76, Tryz.ntmps76
  go_upto_region 2 with fail
  generalize w.alloc (.cells #[.string s, .int .i64 0, .bool false] 105) = w1 at *
  obtain ⟨g, hg⟩ : ∃ g, w.heap.size = g := ⟨_, rfl⟩
  have KK : Hid (Kr 105 w.heap.size w [] (r0 s) w1) := ⟨hz, by simp, dz⟩
  rw [hg] at KK ⊢
  clear hz dz
  go_wp2_with fail
  refine (CS g _ KK.out.rd).mono ?_
  rintro e w2 ⟨rfl, hn, dn⟩
  have KK := Lib.hid (KK.out.step hn dn)
  clear hn dn CS
  go_wp2_with fail
  go_loopw [6, 7, 8] (fun out i _ wr => ∃ (k cap : Nat) (a2 : Option Addr) (R : Rdr) (L : List Pt), k ≤ n ∧ i = .int .i64 k ∧ out = .slice a2 k cap ∧ AppE Pt.cs 90 6 wr (g + 1) a2 k cap L ∧ Kr 105 g w [] R wr ∧ ((R = (takeQ k R1).2 ∧ L = (takeQ k R1).1 ∧ okPts (takeQ k R1).1) ∨ (R.ok ∧ R.bad = true ∧ ¬ rpOk s))) (fun _ i _ _ => 1001 - (intOf i).toNat)
  case atStart => exact ⟨0, 0, none, R1, [], by omega, rfl, rfl, appE_nil _ _, KK.out, .inl ⟨rfl, rfl, by intro p hp; simp [takeQ] at hp⟩⟩
  case round =>
    obtain ⟨k, cap, a2, R, L, hk, rfl, rfl, hA, hKK, hcase⟩ := hrel
    have KK := Lib.hid hKK
    have HA := Lib.hid hA
    have HC := Lib.hid hcase
    have hle : k ≤ cap := hA.le
    have hmax : cap ≤ 9223372036854775807 := maxLen_i hA.max
    clear hKK hA hcase
    have c2 := KK.out.rd.c2
    have hROK : R.ok := by rcases HC.out with ⟨h, _⟩ | ⟨h, _⟩; rw [h]; exact (LQ k).1; exact h
    by_cases hlt : k < n
    · have t1 : decide ((k : Int) < (n : Int)) = true := decide_eq_true (by omega)
      rcases hbad : R.bad with _ | _
      · obtain ⟨hR, hL, hO⟩ : R = (takeQ k R1).2 ∧ L = (takeQ k R1).1 ∧ okPts (takeQ k R1).1 := by
          rcases HC.out with h | ⟨_, h, _⟩
          · exact h
          · rw [hbad] at h; cases h
        rw [hbad] at c2
        have HPW := rdPt_wf hROK
        have HN : Hid (takeQ (k + 1) R1 = (L ++ [(rdPt R).1], (rdPt R).2)) := by show _ = _; rw [hR, hL]; rfl
        have HO := Lib.hid (show okPts L from by rw [hL]; exact hO)
        have k1 := Rdr.text_ok hROK
        have k2 := Rdr.small_ok k1.1 1099511627776
        have k3 := Rdr.int_ok k2.1
        have k4 := rdPt_ok hROK
        clear hR hL hO HC hbad
        go_upto_region 8 with (first | (go_at_call 77; refine (rrdr_text g _ _ KK.out.rd hROK).mono ?_; rintro e w5 ⟨rfl, hn, dn⟩; have KK0 := Lib.hid (KK.out.step hn dn); have HA := Lib.hid (HA.out.but dn (by omega)); have KK := Lib.hid (Kr.start KK0.out.rd); clear hn dn))
        have hgl := KK.out.rd.lt
        generalize hw3 : World.alloc _ _ = w3
        have KK := Lib.hid (show Kr 105 g w5 [(w5.heap.size, ptO ⟨R.text.1, 0, 0, ⟨0, 0, 0⟩⟩)] R.text.2 w3 by rw [← hw3]; exact KK.out.new' rfl (ptO ⟨R.text.1, 0, 0, ⟨0, 0, 0⟩⟩))
        clear hw3 c2
        obtain ⟨n1, hn1⟩ : ∃ n, w5.heap.size = n := ⟨_, rfl⟩
        rw [hn1] at KK hgl ⊢
        have hA : Apart n1 [] := trivial
        generalize hPP : rdPt R = PP at *
        have hPP : (⟨R.text.1, (R.text.2.small 1099511627776).1, (R.text.2.small 1099511627776).2.int.1, (takeV (R.text.2.small 1099511627776).2.int.2).1⟩, (takeV (R.text.2.small 1099511627776).2.int.2).2) = PP := hPP
        generalize R.text.1 = S at *
        generalize R.text.2 = R2 at *
        go_upto_region 9 with (first | (go_at_call 75; refine (rrdr_small g _ 1099511627776 _ KK.out.rd k1.1 (by decide) (by decide)).mono ?_; rintro e wn ⟨rfl, hn, dn⟩; have KK := Lib.hid (KK.out.step hn dn); clear hn dn; have ⟨q1, f1⟩ := KK.out.cf (k := n1) (o := ptO ⟨S, 0, 0, ⟨0, 0, 0⟩⟩) (by simp) 1 (v := .int .i64 0) rfl))
        generalize hwx : World.setCell _ _ _ = wx
        have KK := Lib.hid (show Kr 105 g w5 [(n1, ptO ⟨S, (R2.small 1099511627776).1, 0, ⟨0, 0, 0⟩⟩)] _ wx by rw [← hwx]; exact KK.out.setCell hA (by omega) 1 _ _ rfl)
        clear hwx q1 f1
        generalize (R2.small 1099511627776).1 = U1 at *
        generalize (R2.small 1099511627776).2 = R3 at *
        go_upto_region 10 with (first | (go_at_call 126; refine (rrdr_int g _ _ KK.out.rd k2.1).mono ?_; rintro e wn ⟨rfl, hn, dn⟩; have KK := Lib.hid (KK.out.step hn dn); clear hn dn; have ⟨q1, f1⟩ := KK.out.cf (k := n1) (o := ptO ⟨S, U1, 0, ⟨0, 0, 0⟩⟩) (by simp) 2 (v := .int .i64 0) rfl))
        generalize hwx : World.setCell _ _ _ = wx
        have KK := Lib.hid (show Kr 105 g w5 [(n1, ptO ⟨S, U1, R3.int.1, ⟨0, 0, 0⟩⟩)] _ wx by rw [← hwx]; exact KK.out.setCell hA (by omega) 2 _ _ rfl)
        clear hwx q1 f1
        generalize R3.int.1 = U2 at *
        generalize R3.int.2 = R4 at *
        have TK := fun wx hx => rtake_any g R4 wx hx k3.1
        have hRK := (rtakeV_ok k3.1).1
        rw [(take_same R4).1] at TK
        have HT5 : Hid (okV (takeV R4).1 = true → (rtakeV R4).2 = (takeV R4).2) := fun h => by rw [take_both h]
        generalize (rtakeV R4).2 = R5 at *
        generalize takeV R4 = AS at *
        obtain ⟨A, R6⟩ := AS
        subst hPP
        simp only [St.val] at TK k4 HPW HN HT5
        go_upto_region 11 with (first | (go_at_call 127; refine (TK _ KK.out.rd).mono ?_; rintro e wn ⟨rfl, hn, dn⟩; have KK := Lib.hid (KK.out.step hn dn); clear hn dn; have ⟨q3, f3⟩ := KK.out.cf (k := n1) (o := ptO ⟨S, U1, U2, ⟨0, 0, 0⟩⟩) (by simp) 3 (v := .int .i64 0) rfl; have ⟨q4, f4⟩ := KK.out.cf (k := n1) (o := ptO ⟨S, U1, U2, ⟨0, 0, 0⟩⟩) (by simp) 4 (v := .int .i64 0) rfl; have ⟨q5, f5⟩ := KK.out.cf (k := n1) (o := ptO ⟨S, U1, U2, ⟨0, 0, 0⟩⟩) (by simp) 5 (v := .int .i64 0) rfl))
        generalize hwx : World.setCell _ _ _ = wx
        have KK := Lib.hid (show Kr 105 g w5 [(n1, ptO ⟨S, U1, U2, A⟩)] _ wx by rw [← hwx]; exact ((KK.out.setCell hA (by omega) 3 (.int .i64 A.clock) (ptO ⟨S, U1, U2, ⟨A.clock, 0, 0⟩⟩) rfl).setCell hA (by omega) 4 (.int .i64 A.site) (ptO ⟨S, U1, U2, ⟨A.clock, A.site, 0⟩⟩) rfl).setCell hA (by omega) 5 (.int .i64 A.seq) (ptO ⟨S, U1, U2, ⟨A.clock, A.site, A.seq⟩⟩) rfl)
        clear hwx TK q3 q4 q5 f3 f4 f5
        have C1 := fun wx => rchkpt_any (⟨S, U1, U2, A⟩ : Pt) wx HPW.1
        change ∀ wx, Calls Tryz.prog _ #[.agg (⟨S, U1, U2, A⟩ : Pt).cs.toArray] wx _ at C1
        have HLW := Lib.hid HPW
        clear HPW k1 k2 k3
        rcases chkP_01 (⟨S, U1, U2, A⟩ : Pt) with h0 | h0
        · have HO2 : Hid (okPts (L ++ [(⟨S, U1, U2, A⟩ : Pt)])) := fun x hx => by
            rcases List.mem_append.1 hx with hx | hx
            · exact HO.out x hx
            · simp only [List.mem_singleton] at hx
              rw [hx]; exact h0
          have hR6 : Hid (R5 = R6) := HT5.out (chkP_0 h0).2.2
          rw [h0] at C1
          clear h0 HT5
          go_upto_region 13 with (first
            | refine wpList_load_row rfl 90 _ rfl n1 rfl 90 (⟨S, U1, U2, A⟩ : Pt).cs.toArray (0, 0) _ KK.out.hd Tryz.underlying90 rfl (by kernel_rfl) ?_
            | (go_at_call 70; refine (C1 _).mono ?_; rintro e wz ⟨rfl, dn⟩; have KK := Lib.hid (KK.out.below dn); clear dn; have c2 := KK.out.rd.c2; have f2 := KK.out.rd.fz 2))
          have HA := Lib.hid (HA.out.keep (w' := wz) (fun b h1 h2 => KK.out.b.block b h2 (by simp; omega)))
          have KK : Hid (Kr 105 g w [(n1, ptO ⟨S, U1, U2, A⟩)] R5 wz) := ⟨KK.out.rd, KK.out.at_, KK0.out.b.trans KK.out.b⟩
          go_wp2_with (first
            | refine wpList_load_row rfl 90 _ rfl n1 rfl 90 #[.string S, .int .i64 U1, .int .i64 U2, .int .i64 A.clock, .int .i64 A.site, .int .i64 A.seq] (0, 0) _ KK.out.hd Tryz.underlying90 rfl (by kernel_rfl) ?_
            | (at_builtin; refine wpList_append_E pt_ety rfl _ _ rfl _ (g + 1) a2 k cap L rfl (HA.out.below ?q1) ?q2 ?q3 _ 1 (⟨S, U1, U2, A⟩ : Pt) rfl ?q4 ?q5))
          case q4 =>
            intro j u hj
            rw [Nat.zero_add, World.cell?_alloc_new]
            show (⟨S, U1, U2, A⟩ : Pt).cs.toArray[j]? = some u
            simpa using hj
          case q1 => exact (Below.refl _ _).alloc (Nat.le_refl _) _
          case q2 => have := KK.out.rd.lt; simp; omega
          case q3 => omega
          case q5 =>
            intro a3 cap3 w7 hA7 hb7
            have hsz7 := KK.out.rd.lt
            have KK := Lib.hid (Kr.ownB (KK.out.sub (m := []) (by simp)) (((Below.refl (g + 1) _).alloc (by omega) _).trans hb7) (by omega) (by omega) (by simp))
            have HA := Lib.hid hA7
            clear hA7 hb7 hsz7
            go_wp2_with fail
            go_roundw
            case rel => exact ⟨k + 1, cap3, a3, _, _, by omega, by go_num, rfl, HA.out, KK.out, .inl ⟨by rw [HN.out]; exact hR6.out, by rw [HN.out], by rw [HN.out]; exact HO2.out⟩⟩
            case measure => simp [intOf]; omega
        · have HNO : Hid (¬ rpOk s) := fun hr => by
            have h5 := (HRP.out.1 hr).2
            have h6 := okPts_take h5 (k + 1)
            rw [takeQ_take R1 (k + 1) n (by omega), HN.out] at h6
            have h7 := h6 (⟨S, U1, U2, A⟩ : Pt) (by simp)
            rw [h0] at h7
            cases h7
          rw [h0] at C1
          clear h0 HT5
          go_upto_region 13 with (first
            | refine wpList_load_row rfl 90 _ rfl n1 rfl 90 (⟨S, U1, U2, A⟩ : Pt).cs.toArray (0, 0) _ KK.out.hd Tryz.underlying90 rfl (by kernel_rfl) ?_
            | (go_at_call 70; refine (C1 _).mono ?_; rintro e wz ⟨rfl, dn⟩; have KK := Lib.hid (KK.out.below dn); clear dn; have c2 := KK.out.rd.c2; have f2 := KK.out.rd.fz 2))
          have hb2 := (KK.out.rd.set2 true)
          generalize hwy : World.setCell _ _ _ = wy
          have KK := Lib.hid (show Kr 105 g w5 [(n1, ptO ⟨S, U1, U2, A⟩)] { R5 with bad := true } wy by rw [← hwy]; exact KK.out.step hb2 (But.set g 2 _ _))
          clear hwy hb2 c2 f2
          have HA := Lib.hid (HA.out.keep (w' := wy) (fun b h1 h2 => KK.out.b.block b h2 (by simp; omega)))
          have KK : Hid (Kr 105 g w [(n1, ptO ⟨S, U1, U2, A⟩)] { R5 with bad := true } wy) := ⟨KK.out.rd, KK.out.at_, KK0.out.b.trans KK.out.b⟩
          go_wp2_with (first
            | refine wpList_load_row rfl 90 _ rfl n1 rfl 90 #[.string S, .int .i64 U1, .int .i64 U2, .int .i64 A.clock, .int .i64 A.site, .int .i64 A.seq] (0, 0) _ KK.out.hd Tryz.underlying90 rfl (by kernel_rfl) ?_
            | (at_builtin; refine wpList_append_E pt_ety rfl _ _ rfl _ (g + 1) a2 k cap L rfl (HA.out.below ?q1) ?q2 ?q3 _ 1 (⟨S, U1, U2, A⟩ : Pt) rfl ?q4 ?q5))
          case q4 =>
            intro j u hj
            rw [Nat.zero_add, World.cell?_alloc_new]
            show (⟨S, U1, U2, A⟩ : Pt).cs.toArray[j]? = some u
            simpa using hj
          case q1 => exact (Below.refl _ _).alloc (Nat.le_refl _) _
          case q2 => have := KK.out.rd.lt; simp; omega
          case q3 => omega
          case q5 =>
            intro a3 cap3 w7 hA7 hb7
            have hsz7 := KK.out.rd.lt
            have KK := Lib.hid (Kr.ownB (KK.out.sub (m := []) (by simp)) (((Below.refl (g + 1) _).alloc (by omega) _).trans hb7) (by omega) (by omega) (by simp))
            have HA := Lib.hid hA7
            clear hA7 hb7 hsz7
            go_wp2_with fail
            go_roundw
            case rel => exact ⟨k + 1, cap3, a3, _, _, by omega, by go_num, rfl, HA.out, KK.out, .inr ⟨hRK, rfl, HNO.out⟩⟩
            case measure => simp [intOf]; omega
      · have HNO : Hid (¬ rpOk s) := by
          rcases HC.out with ⟨h1, h2, h3⟩ | ⟨_, _, h⟩
          · exact fun hr => fin_ne (HLK.out k n (by omega) (by rw [← h1]; exact hbad)) (HRP.out.1 hr).1
          · exact h
        have hf : R.fin = 10 := by unfold Rdr.fin; rw [if_pos (.inl hbad)]
        rw [hbad] at c2
        have HV := Lib.hid (HV1.out HNO.out)
        clear hbad
        have F1 := rrdr_end g R _ KK.out.rd hROK
        rw [hf] at F1
        go_wp2_with (first | (go_at_call 80; refine (F1).mono ?_; rintro e w5 ⟨rfl, dq⟩; have KK := Lib.hid (KK.out.step (dq.rdr KK.out.rd) dq.but)))
        refine bodyPost_ret (v := .tuple #[.slice none 0 0, .int .i64 10]) (by simp [results, Tryz.results76, go_sem, *]) rfl ⟨none, 0, 0, by rw [HV.out], by rw [HV.out]; exact nilS _, Nat.le_refl _, by decide, .inl rfl, by have := KK.out.b; exact But.below (Below.refl _ _) this (Nat.le_refl _) (by omega)⟩
    · obtain rfl : k = n := by omega
      have t1 : decide ((k : Int) < (k : Int)) = false := decide_eq_false (by omega)
      have F1 := rrdr_end g R _ KK.out.rd hROK
      have hfin : R.fin = 0 ∨ R.fin = 10 := by unfold Rdr.fin; split <;> simp
      rcases hfin with hf | hf
      · obtain ⟨h1, h2, h3⟩ : R = (takeQ k R1).2 ∧ L = (takeQ k R1).1 ∧ okPts (takeQ k R1).1 := by
          rcases HC.out with h | ⟨_, h, _⟩
          · exact h
          · exact absurd hf (fin_ne h)
        have HV := Lib.hid ((HV0.out (HRP.out.2 ⟨by rw [← h1]; exact hf, h3⟩)).trans (by rw [← h2]))
        rw [hf] at F1
        clear hf h1 h2 h3 c2
        go_wp2_with (first | (go_at_call 80; refine (F1).mono ?_; rintro e w5 ⟨rfl, dq⟩; have KK := Lib.hid (KK.out.step (dq.rdr KK.out.rd) dq.but); have HA := Lib.hid (HA.out.below dq.below)))
        have hR := (AppE.reads pt_len (by decide) HA.out).1
        have hR2 := (AppE.reads pt_len (by decide) HA.out).2
        refine bodyPost_ret (v := .tuple #[.slice a2 k cap, .int .i64 0]) (by simp [results, Tryz.results76, go_sem, *]) rfl ⟨a2, k, cap, by rw [HV.out], by rw [HV.out]; exact hR, hle, hmax, hR2.imp_right (fun ⟨b, e, hb⟩ => ⟨b, e, by omega⟩), But.below (Below.refl _ _) KK.out.b (Nat.le_refl _) (by omega)⟩
      · have HNO : Hid (¬ rpOk s) := fun hr => by
          rcases HC.out with ⟨h1, h2, h3⟩ | ⟨_, _, h⟩
          · have := (HRP.out.1 hr).1
            rw [← h1, hf] at this
            cases this
          · exact h hr
        have HV := Lib.hid (HV1.out HNO.out)
        rw [hf] at F1
        clear hf c2
        go_wp2_with (first | (go_at_call 80; refine (F1).mono ?_; rintro e w5 ⟨rfl, dq⟩; have KK := Lib.hid (KK.out.step (dq.rdr KK.out.rd) dq.but)))
        refine bodyPost_ret (v := .tuple #[.slice none 0 0, .int .i64 10]) (by simp [results, Tryz.results76, go_sem, *]) rfl ⟨none, 0, 0, by rw [HV.out], by rw [HV.out]; exact nilS _, Nat.le_refl _, by decide, .inl rfl, by have := KK.out.b; exact But.below (Below.refl _ _) this (Nat.le_refl _) (by omega)⟩
end
end Go.Proofs.YtglabahbklpocaaGreat
