/- agg.Under; the reference's; few, right of the laws. -/
import Derived.Test.YtojnooagifhekaaGAggParts21
import Derived.Test.YtojnooagifhekaaGAggParts22
import Derived.Test.YtojnooagifhekaaGAggParts33
namespace Go.Proofs.Ytojnooagifhekaa
section
open Go.RowKit
set_option maxRecDepth 100000
set_option linter.unusedVariables false
set_option linter.unusedSimpArgs false
attribute [local go_sem ↓] Go.wp_at_zero Go.wp_at_succ
theorem under_next (bk : List Int) (k : Nat) (hk : k < bk.length) : (bk.take (k + 1)).foldl (fun n x => wrap64 (n + x)) 0 = wrap64 ((bk.take k).foldl (fun n x => wrap64 (n + x)) 0 + bk.getD k 0) := by
  rw [List.take_succ_eq_append_getElem hk, List.foldl_append, List.getD_eq_getElem?_getD, List.getElem?_eq_getElem hk]
  rfl
theorem under_i64 (l : List Int) : i64 (l.foldl (fun n x => wrap64 (n + x)) 0) := by
  have : ∀ (l : List Int) (n : Int), i64 n → i64 (l.foldl (fun n x => wrap64 (n + x)) n) := by
    intro l
    induction l with
    | nil => intro n h; exact h
    | cons x r ih => intro n _; exact ih _ (i64_wrap64 _)
  exact this l 0 i64_0
set_option maxHeartbeats 2000000 in
theorem under_any (a : Ag) (b : Int) (w : World) (ha : a.ok) (hb : i64 b) : Calls Try.prog 23 #[a.val, .int .i64 b] w fun e w' => e = .returned (.int .i64 (underV a.bk b)) ∧ Below w.heap.size w w' := by
  obtain ⟨V, HV⟩ : ∃ V, Hid (V = underV a.bk b) := ⟨_, rfl⟩
  rw [← HV.out]
  unfold Ag.val
  have HL : Hid (a.bk.length = 9) := ha.2.2.2.2.2.2.1
  have hb1 := hb.1
  have hb2 := hb.2
  obtain ⟨m, HM⟩ : ∃ m : Nat, Hid (min (max b 0) 9 = (m : Int)) := ⟨(min (max b 0) 9).toNat, by show _ = _; omega⟩
  have hm9 : m ≤ 9 := by have := HM.out; omega
  go_enter Try.func23, Try.ntmps23
  go_upto_region 1 with (fail)
  generalize hw1 : w.alloc (.cells a.cs.toArray 29) = w1
  have hK : Kn w.heap.size w [(w.heap.size, agO a)] w1 := by rw [← hw1]; exact (Kn.start w).new (agO a)
  clear hw1
  generalize hg : w.heap.size = g at *
  have KK := Lib.hid hK
  clear hK
  go_wp2_with fail
  rw [HM.out]
  go_loop [10, 5, 6] (fun i n i6 => ∃ k : Nat, k ≤ m ∧ i = .int .i64 k ∧ n = .int .i64 ((a.bk.take k).foldl (fun n x => wrap64 (n + x)) 0)) (fun i _ _ => 10 - (intOf i).toNat)
  case atStart => exact ⟨0, by omega, rfl, rfl⟩
  case round =>
    obtain ⟨k, hkm, rfl, rfl⟩ := hrel
    by_cases hlt : k < m
    · have t1 : decide (k < m) = true := decide_eq_true hlt
      have t2 : decide ((k : Int) < (m : Int)) = true := decide_eq_true (by omega)
      have i1 : (0 : Int) ≤ (k : Int) := by omega
      have i2 : (k : Int) < 9 := by omega
      have c9 := AgAt.bk (show AgAt w1 g a from KK.out.hd) k (by rw [HL.out]; omega)
      have HN := Lib.hid (under_next a.bk k (by rw [HL.out]; omega))
      generalize (a.bk.take k).foldl (fun n x => wrap64 (n + x)) 0 = S at *
      generalize a.bk.getD k 0 = x at *
      go_wp2_with fail
      go_round
      case rel => exact ⟨k + 1, by omega, by go_num, by rw [HN.out]⟩
      case measure => simp [intOf]; omega
    · have t1 : decide (k < m) = false := decide_eq_false hlt
      have t2 : decide ((k : Int) < (m : Int)) = false := decide_eq_false (by omega)
      obtain rfl : k = m := by omega
      have HV : Hid (V = (a.bk.take k).foldl (fun n x => wrap64 (n + x)) 0) := by
        show _ = _
        rw [HV.out]
        unfold underV
        rw [HM.out]
        rfl
      go_wp2_with fail
      go_ret
      exact ⟨by rw [HV.out]; rfl, by first | exact KK.out.b | (rw [hg]; exact KK.out.b)⟩
set_option maxHeartbeats 2000000 in
theorem runder_any (a : Ag) (b : Int) (w : World) (ha : a.ok) (hb : i64 b) : Calls Try.prog 24 #[a.val, .int .i64 b] w fun e w' => e = .returned (.int .i64 (underV a.bk b)) ∧ Below w.heap.size w w' := by
  obtain ⟨V, HV⟩ : ∃ V, Hid (V = underV a.bk b) := ⟨_, rfl⟩
  rw [← HV.out]
  unfold Ag.val
  have HL : Hid (a.bk.length = 9) := ha.2.2.2.2.2.2.1
  have hb1 := hb.1
  have hb2 := hb.2
  obtain ⟨m, HM⟩ : ∃ m : Nat, Hid (min (max b 0) 9 = (m : Int)) := ⟨(min (max b 0) 9).toNat, by show _ = _; omega⟩
  have hm9 : m ≤ 9 := by have := HM.out; omega
  go_enter Try.func24, Try.ntmps24
  go_upto_region 1 with (fail)
  generalize hw1 : w.alloc (.cells a.cs.toArray 29) = w1
  have hK : Kn w.heap.size w [(w.heap.size, agO a)] w1 := by rw [← hw1]; exact (Kn.start w).new (agO a)
  clear hw1
  generalize hg : w.heap.size = g at *
  have KK := Lib.hid hK
  clear hK
  go_wp2_with fail
  go_loop [6, 5] (fun i n => ∃ k : Nat, k ≤ m ∧ i = .int .i64 k ∧ n = .int .i64 ((a.bk.take k).foldl (fun n x => wrap64 (n + x)) 0)) (fun i _ => 10 - (intOf i).toNat)
  case atStart => exact ⟨0, by omega, rfl, rfl⟩
  case round =>
    obtain ⟨k, hkm, rfl, rfl⟩ := hrel
    by_cases hlt : k < m
    · have t1 : decide ((k : Int) < 9) = true := decide_eq_true (by omega)
      have t2 : decide ((k : Int) < b) = true := decide_eq_true (by have := HM.out; omega)
      have i1 : (0 : Int) ≤ (k : Int) := by omega
      have i2 : (k : Int) < 9 := by omega
      have c9 := AgAt.bk (show AgAt w1 g a from KK.out.hd) k (by rw [HL.out]; omega)
      have HN := Lib.hid (under_next a.bk k (by rw [HL.out]; omega))
      generalize (a.bk.take k).foldl (fun n x => wrap64 (n + x)) 0 = S at *
      generalize a.bk.getD k 0 = x at *
      go_wp2_with fail
      go_round
      case rel => exact ⟨k + 1, by omega, by go_num, by rw [HN.out]⟩
      case measure => simp [intOf]; omega
    · obtain rfl : k = m := by omega
      have HV : Hid (V = (a.bk.take k).foldl (fun n x => wrap64 (n + x)) 0) := by
        show _ = _
        rw [HV.out]
        unfold underV
        rw [HM.out]
        rfl
      by_cases h9 : k < 9
      · have t1 : decide ((k : Int) < 9) = true := decide_eq_true (by omega)
        have t2 : decide ((k : Int) < b) = false := decide_eq_false (by have := HM.out; omega)
        clear h9
        go_wp2_with fail
        go_ret
        exact ⟨by rw [HV.out]; rfl, by first | exact KK.out.b | (rw [hg]; exact KK.out.b)⟩
      · have t1 : decide ((k : Int) < 9) = false := decide_eq_false (by omega)
        clear h9
        go_wp2_with fail
        go_ret
        exact ⟨by rw [HV.out]; rfl, by first | exact KK.out.b | (rw [hg]; exact KK.out.b)⟩
theorem few_any (a : Option Addr) (n c : Nat) (w : World) (hnc : n ≤ c) (hc : c ≤ 9223372036854775807) : Calls Try.prog 18 #[.slice a n c] w fun e w' => e = .returned (.slice a (min 40 n) c) ∧ w = w' := by
  obtain ⟨V, HV⟩ : ∃ V, Hid (V = min 40 n) := ⟨_, rfl⟩
  rw [← HV.out]
  by_cases h : 40 < n
  · have t1 : decide (40 < n) = true := decide_eq_true h
    have t2 : decide ((40 : Int) < (n : Int)) = true := decide_eq_true (by omega)
    have hc40 : 40 ≤ c := by omega
    have HV : Hid (V = 40) := by show _ = _; rw [HV.out]; omega
    clear h
    go_enter Try.func18, Try.ntmps18
    go_wp2_with fail
    go_ret
    exact ⟨by rw [HV.out]; rfl, rfl⟩
  · have t1 : decide (40 < n) = false := decide_eq_false h
    have t2 : decide ((40 : Int) < (n : Int)) = false := decide_eq_false (by omega)
    have HV : Hid (V = n) := by show _ = _; rw [HV.out]; omega
    clear h
    go_enter Try.func18, Try.ntmps18
    go_wp2_with fail
    go_ret
    exact ⟨by rw [HV.out]; rfl, rfl⟩
theorem and7 (x : Int) (h : i64 x) : bits .and .i64 x 7 = x % 8 := by
  have e1 : (BitVec.ofInt 64 x).toNat % 8 = (x % 8).toNat := by
    rw [BitVec.toNat_ofInt]
    omega
  show IntKind.i64.wrap ((BitVec.ofInt 64 x &&& BitVec.ofInt 64 7).toNat : Int) = _
  rw [BitVec.toNat_and, show (BitVec.ofInt 64 7).toNat = 2 ^ 3 - 1 from by decide, Nat.and_two_pow_sub_one_eq_mod, show 2 ^ 3 = 8 from rfl, e1, IntKind.wrap_i64]
  omega
set_option maxHeartbeats 4000000 in
set_option maxRecDepth 100000 in
theorem pright_any (a0 : Option Addr) (n c : Nat) (xs : List Pt) (w : World) (h : ReadsE Pt.cs 6 w a0 n xs) (hwf : ∀ x ∈ xs, x.wf) (hnc : n ≤ c) (hcb : c ≤ 9223372036854775807) : Calls Try.prog 25 #[.slice a0 n c] w fun e w' =>
    ∃ a' c', e = .returned (.slice a' (rightV xs).length c') ∧ AppE Pt.cs 31 6 w' w.heap.size a' (rightV xs).length c' (rightV xs) ∧ Below w.heap.size w w' := by
  have hlen := h.1
  have H := Lib.hid h
  obtain ⟨m, HM⟩ : ∃ m, Hid (min 40 n = m) := ⟨_, rfl⟩
  have hm := HM.out
  have hR : (rightV xs).length = m := by rw [right_len, hlen]; exact HM.out
  rw [hR]
  have HR := Lib.hid hR
  have hmn : m ≤ n ∧ m ≤ 40 := by omega
  have hmc : m ≤ c := by omega
  have HF := fun wx => few_any a0 n c wx hnc hcb
  rw [HM.out] at HF
  clear h hm hR
  go_enter Try.func25, Try.ntmps25
  go_wp2_with fail
  refine (HF _).mono ?_
  rintro e w1 ⟨rfl, rfl⟩
  go_wp2_with fail
  go_loopw [5, 3, 6] (fun i out p wr => ∃ (k cap : Nat) (a2 : Option Addr), k ≤ m ∧ i = .int .i64 k ∧ out = .slice a2 k cap ∧ AppE Pt.cs 31 6 wr w.heap.size a2 k cap ((rightV xs).take k) ∧ Below w.heap.size w wr) (fun i _ _ _ => 41 - (intOf i).toNat)
  case atStart => exact ⟨0, 0, none, by omega, rfl, rfl, by rw [List.take_zero]; exact appE_nil _ _, Below.refl _ _⟩
  case round =>
    obtain ⟨k, cap, a2, hkm, rfl, rfl, hA, hbel⟩ := hrel
    have A := Lib.hid hA
    clear hA
    by_cases hlt : k < m
    · have t1 : decide (k < m) = true := decide_eq_true hlt
      have t2 : decide ((k : Int) < (m : Int)) = true := decide_eq_true (by omega)
      obtain ⟨b, o, x, rfl, hbl, hx, hC⟩ := H.out.at hbel k (by omega)
      have hxw := hwf x (List.mem_of_getElem? hx)
      obtain ⟨c0, c1, c2, c3, c4, c5⟩ := pt_cells hC
      have i1 : (0 : Int) ≤ (k : Int) := by omega
      have i2 : (k : Int) < (m : Int) := by omega
      have HN := Lib.hid (right_next xs k x (by omega) hx)
      have e3 := and7 x.st.clock hxw.2.2.2.1
      have e4 := and7 x.st.site hxw.2.2.2.2.1
      have r3 : 0 ≤ x.st.clock % 8 ∧ x.st.clock % 8 < 8 := by omega
      have r4 : 0 ≤ x.st.site % 8 ∧ x.st.site % 8 < 8 := by omega
      have hz := hbel.size
      clear hC
      go_upto_region 8 with (fail)
      have A1 := Lib.hid (A.out.below ((Below.refl wr.heap.size wr).alloc (Nat.le_refl _) (ptO (rp k x))))
      have hB1 : Below w.heap.size w (wr.alloc (ptO (rp k x))) := hbel.alloc hz _
      have hp1 : (wr.alloc (ptO (rp k x))).heap[wr.heap.size]? = some (ptO (rp k x)) := heap_alloc_new _ _
      have hs1 : (wr.alloc (ptO (rp k x))).heap.size = wr.heap.size + 1 := by simp
      unfold ptO rp at A1 hB1 hp1 hs1
      simp only at A1 hB1 hp1 hs1
      generalize wr.alloc (.cells #[.string x.series, .int .i64 x.time, .int .i64 x.value, .int .i64 (1 + x.st.clock % 8), .int .i64 (x.st.site % 8), .int .i64 ((k : Int) + 1)] 31) = w3 at *
      clear c0 c1 c2 c3 c4 c5 A
      have q : ∀ j v, (#[.string x.series, .int .i64 x.time, .int .i64 x.value, .int .i64 (1 + x.st.clock % 8), .int .i64 (x.st.site % 8), .int .i64 ((k : Int) + 1)] : Array Value)[j]? = some v → w3.cell? ⟨wr.heap.size, j, none⟩ = some v := fun j v hv => by simp only [World.cell?, hp1]; exact hv
      have c0 := q 0 _ rfl
      have c1 := q 1 _ rfl
      have c2 := q 2 _ rfl
      have c3 := q 3 _ rfl
      have c4 := q 4 _ rfl
      have c5 := q 5 _ rfl
      clear q hp1
      generalize hgp : wr.heap.size = p at *
      have hs2 : w.heap.size ≤ w3.heap.size := hB1.size
      clear hs1
      go_wp2_with (at_builtin; refine wpList_append_E pt_ety rfl _ _ rfl _ w.heap.size a2 k cap ((rightV xs).take k) rfl (A1.out.below ?q1) ?q2 ?q3 w3.heap.size 1 (rp k x) rfl ?q4 ?q5)
      case q1 => exact (Below.refl _ _).alloc (Nat.le_refl _) _
      case q2 => simp; omega
      case q3 => omega
      case q4 =>
        intro j u hj
        rw [Nat.zero_add, World.cell?_alloc_new]
        show (rp k x).cs.toArray[j]? = some u
        simpa using hj
      case q5 =>
        intro a3 cap3 w5 hA5 hb5
        have FIN := Lib.hid (And.intro hA5 (hB1.trans (((Below.refl w.heap.size w3).alloc (by omega) _).trans hb5)))
        clear hA5 hb5
        go_wp2_with fail
        go_roundw
        case rel => exact ⟨k + 1, cap3, a3, by omega, by go_num, rfl, by rw [HN.out]; exact FIN.out.1, FIN.out.2⟩
        case measure => simp [intOf]; omega
    · have t1 : decide (k < m) = false := decide_eq_false hlt
      have t2 : decide ((k : Int) < (m : Int)) = false := decide_eq_false (by omega)
      obtain rfl : k = m := by omega
      have FIN := Lib.hid (And.intro A.out hbel)
      have HT : Hid ((rightV xs).take k = rightV xs) := List.take_of_length_le (by rw [HR.out]; omega)
      go_wp2_with fail
      go_ret
      exact ⟨a2, cap, rfl, by rw [← HT.out]; exact FIN.out.1, FIN.out.2⟩
end
end Go.Proofs.Ytojnooagifhekaa
