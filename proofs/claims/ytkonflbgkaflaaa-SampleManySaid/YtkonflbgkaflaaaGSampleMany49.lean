/- The law's few: at most 30 points, with short names. -/
import Derived.Test.YtkonflbgkaflaaaGSampleMany40
import Derived.Test.YtkonflbgkaflaaaGSampleMany38
import Derived.Test.YtkonflbgkaflaaaGSampleMany46
namespace Go.Proofs.Ytkonflbgkaflaaa
section
open Go.RowKit Go.Deep
set_option maxRecDepth 100000
set_option linter.unusedVariables false
set_option linter.unusedSimpArgs false
attribute [local go_sem ↓] Go.wp_at_zero Go.wp_at_succ
def fewP (x : Pt) : Pt := { x with series := x.series.extract 0 60 }
def fewV (l : List Pt) : List Pt := (l.take 30).map fewP
theorem few_len (l : List Pt) : (fewV l).length = min 30 l.length := by simp [fewV]
theorem few_next (l : List Pt) (k : Nat) (p : Pt) (hk : k < 30) (h : l[k]? = some p) : (fewV l).take (k + 1) = (fewV l).take k ++ [fewP p] := by
  have h1 : (fewV l)[k]? = some (fewP p) := by
    unfold fewV
    rw [List.getElem?_map, List.getElem?_take_of_lt hk, h]
    rfl
  obtain ⟨h2, h3⟩ := List.getElem?_eq_some_iff.1 h1
  rw [List.take_succ_eq_append_getElem h2, h3]
theorem few_wf (l : List Pt) (h : ∀ p ∈ l, p.wf) : ∀ p ∈ fewV l, p.wf ∧ p.series.size ≤ 60 := by
  intro p hp
  obtain ⟨q, hq, rfl⟩ := List.mem_map.1 hp
  obtain ⟨h1, h2, h3, h4⟩ := h q (List.mem_of_mem_take hq)
  have : (fewP q).series.size ≤ 60 := by simp only [fewP, ByteArray.size_extract]; omega
  exact ⟨⟨by unfold maxLen; omega, h2, h3, h4⟩, this⟩
set_option maxHeartbeats 4000000 in
theorem sfew_any (a0 : Option Addr) (n c : Nat) (xs : List Pt) (w : World) (h : ReadsE Pt.cs 6 w a0 n xs) (hwf : ∀ x ∈ xs, x.wf) (hnc : n ≤ c) (hcb : c ≤ 9223372036854775807) : Calls Try.prog 20 #[.slice a0 n c] w fun e w' =>
    ∃ a' c', e = .returned (.slice a' (fewV xs).length c') ∧ AppE Pt.cs 34 6 w' w.heap.size a' (fewV xs).length c' (fewV xs) ∧ Below w.heap.size w w' := by
  have hlen := h.1
  have H := Lib.hid h
  obtain ⟨m, HM⟩ : ∃ m, Hid (min 30 n = m) := ⟨_, rfl⟩
  have hm := HM.out
  have hR : (fewV xs).length = m := by rw [few_len, hlen]; exact HM.out
  rw [hR]
  have HR := Lib.hid hR
  have hmn : m ≤ n ∧ m ≤ 30 := by omega
  have hmi : ∀ k : Nat, k < m ↔ (k < n ∧ k < 30) := fun k => by omega
  have HMI := Lib.hid hmi
  clear h hm hR hmi
  go_enter Try.func20, Try.ntmps20
  go_wp2_with fail
  go_loopw [3, 4] (fun out i wr => ∃ (k cap : Nat) (a2 : Option Addr), k ≤ m ∧ i = .int .i64 k ∧ out = .slice a2 k cap ∧ AppE Pt.cs 34 6 wr w.heap.size a2 k cap ((fewV xs).take k) ∧ Below w.heap.size w wr) (fun _ i _ => 41 - (intOf i).toNat)
  case atStart => exact ⟨0, 0, none, by omega, rfl, rfl, by rw [List.take_zero]; exact appE_nil _ _, Below.refl _ _⟩
  case round =>
    obtain ⟨k, cap, a2, hkm, rfl, rfl, hA, hbel⟩ := hrel
    have A := Lib.hid hA
    clear hA
    by_cases hlt : k < m
    · have t1 : decide ((k : Int) < (n : Int)) = true := decide_eq_true (by omega)
      have t2 : decide ((k : Int) < 30) = true := decide_eq_true (by omega)
      obtain ⟨b, o, x, rfl, hbl, hx, hC⟩ := H.out.at hbel k (by omega)
      have hxw := hwf x (List.mem_of_getElem? hx)
      obtain ⟨c0, c1, c2, c3, c4, c5⟩ := pt_cells hC
      have i1 : (0 : Int) ≤ (k : Int) := by omega
      have i2 : (k : Int) < (n : Int) := by omega
      have HN := Lib.hid (few_next xs k x (by omega) hx)
      have hz := hbel.size
      have HS := fun wx => sshort_any x.series 60 wx (pt_size_le hxw) (by omega)
      clear hC
      go_upto_region 6 with (fail)
      have K1 := (Kn.start wr).new (ptO x)
      have u0 : (wr.alloc (.cells #[.string x.series, .int .i64 x.time, .int .i64 x.value, .int .i64 x.st.clock, .int .i64 x.st.site, .int .i64 x.st.seq] 34)).cell? ⟨wr.heap.size, 0, none⟩ = some (.string x.series) := K1.cell (g := wr.heap.size) (o := ptO x) (by simp) rfl
      have u1 : (wr.alloc (.cells #[.string x.series, .int .i64 x.time, .int .i64 x.value, .int .i64 x.st.clock, .int .i64 x.st.site, .int .i64 x.st.seq] 34)).frozen? ⟨wr.heap.size, 0, none⟩ = false := K1.fz (g := wr.heap.size) (o := ptO x) (by simp) 0
      have K2 := Kn.setCell K1 (by simp only [Apart]) (Nat.le_refl _) 0 (.string (x.series.extract 0 60)) (ptO (fewP x)) rfl
      unfold ptO at K2
      simp only [fewP] at K2
      generalize hw2 : wr.alloc (.cells #[.string x.series, .int .i64 x.time, .int .i64 x.value, .int .i64 x.st.clock, .int .i64 x.st.site, .int .i64 x.st.seq] 34) = w2 at *
      clear c0 c1 c2 c3 c4 c5 K1 hw2
      go_upto_region 7 with (first | (go_at_call 11; refine (HS _).mono ?_; rintro e wn ⟨rfl, rfl⟩))
      generalize hw3 : World.setCell _ _ _ = w3 at *
      have KK := Lib.hid K2
      clear hw3 u0 u1 K2 HS
      have A1 := Lib.hid (A.out.below KK.out.b)
      have hB1 : Below w.heap.size w w3 := below_then hbel hz KK.out.b
      have hlt3 := KK.out.fresh
      have q : ∀ j v, (#[.string (x.series.extract 0 60), .int .i64 x.time, .int .i64 x.value, .int .i64 x.st.clock, .int .i64 x.st.site, .int .i64 x.st.seq] : Array Value)[j]? = some v → w3.cell? ⟨wr.heap.size, j, none⟩ = some v := fun j v hv => by have := KK.out.hd; simp only [World.cell?, this]; exact hv
      have c0 := q 0 _ rfl
      have c1 := q 1 _ rfl
      have c2 := q 2 _ rfl
      have c3 := q 3 _ rfl
      have c4 := q 4 _ rfl
      have c5 := q 5 _ rfl
      clear q KK A
      generalize hgp : wr.heap.size = p at *
      have hs2 : w.heap.size ≤ w3.heap.size := hB1.size
      go_wp2_with (at_builtin; refine wpList_append_E pt_ety rfl _ _ rfl _ w.heap.size a2 k cap ((fewV xs).take k) rfl (A1.out.below ?q1) ?q2 ?q3 w3.heap.size 1 (fewP x) rfl ?q4 ?q5)
      case q1 => exact (Below.refl _ _).alloc (Nat.le_refl _) _
      case q2 => simp; omega
      case q3 => omega
      case q4 =>
        intro j u hj
        rw [Nat.zero_add, World.cell?_alloc_new]
        show (fewP x).cs.toArray[j]? = some u
        simpa using hj
      case q5 =>
        intro a3 cap3 w5 hA5 hb5
        have FIN := Lib.hid (And.intro hA5 (hB1.trans (((Below.refl w.heap.size w3).alloc (by omega) _).trans hb5)))
        clear hA5 hb5
        go_wp2_with fail
        go_roundw
        case rel => exact ⟨k + 1, cap3, a3, by omega, by go_num, rfl, by rw [HN.out]; exact FIN.out.1, FIN.out.2⟩
        case measure => simp [intOf]; omega
    · obtain rfl : k = m := by omega
      have FIN := Lib.hid (And.intro A.out hbel)
      have HT : Hid ((fewV xs).take k = fewV xs) := List.take_of_length_le (by rw [HR.out]; omega)
      have hor : ¬ (k < n ∧ k < 30) := fun h => hlt ((HMI.out k).2 h)
      by_cases hkn : k < n
      · have t1 : decide ((k : Int) < (n : Int)) = true := decide_eq_true (by omega)
        have t2 : decide ((k : Int) < 30) = false := decide_eq_false (by omega)
        clear hor
        go_wp2_with fail
        go_ret
        exact ⟨a2, cap, rfl, by rw [← HT.out]; exact FIN.out.1, FIN.out.2⟩
      · have t1 : decide ((k : Int) < (n : Int)) = false := decide_eq_false (by omega)
        clear hor
        go_wp2_with fail
        go_ret
        exact ⟨a2, cap, rfl, by rw [← HT.out]; exact FIN.out.1, FIN.out.2⟩
end
end Go.Proofs.Ytkonflbgkaflaaa
