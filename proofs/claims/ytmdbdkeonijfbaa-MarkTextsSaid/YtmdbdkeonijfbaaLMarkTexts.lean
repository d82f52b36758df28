/- MarkTexts: for any list and any bytes the law answers true. (Printed by wip/lmt.py.) -/
import Derived.Test.YtmdbdkeonijfbaaMawake
import Derived.Test.YtmdbdkeonijfbaaMrread
namespace Go.Proofs.Ytmdbdkeonijfbaa
open Go.RowKit
set_option linter.unusedVariables false
set_option linter.unusedSimpArgs false
theorem readM_len (s : ByteArray) : (readM s).1.length ≤ 8 := by
  unfold readM
  split
  · rename_i h
    rw [h.2]
    exact pl_length _
  · simp
set_option maxHeartbeats 8000000 in
set_option maxRecDepth 100000 in
theorem mtexts_any (a0 : Option Addr) (n0 c0 : Nat) (xs : List Int) (s : ByteArray) (w : World) (h : SlI w a0 n0 c0 xs) (hs : s.size ≤ 9223372036854775807) : Calls Try.prog 7 #[.slice a0 n0 c0, .string s] w fun e w' => e = .returned (.bool true) ∧ Below w.heap.size w w' := by
  go_enter Try.func7, Try.ntmps7
  have hB := Below.refl w.heap.size w
  go_wp2_with fail
  refine (awake_any _).mono ?_
  rintro e x1 ⟨rfl, d⟩
  have h := h.below d
  have hB := below_then hB (by have := hB.size; omega) d
  clear d
  go_wp2_with fail
  refine (few_from _ h (Below.refl _ _)).mono ?_
  rintro e x2 ⟨n, c, rfl, SV, rfl⟩
  clear h
  have hnc := SV.h1
  have hcb := SV.h2
  generalize xs.take 12 = ys at *
  go_upto_if 19 with (fail)
  go_cut [1] (fun v wx => ∃ t : ByteArray, v = .string t ∧ t.size ≤ 100 ∧ x1 = wx)
  case first =>
    by_cases hlt : 100 < s.size
    · have t1 : decide ((100 : Int) < (s.size : Int)) = true := decide_eq_true (by omega)
      have t2 : decide (100 < s.size) = true := decide_eq_true hlt
      have hn0 : 100 ≤ s.size := by omega
      go_wp2
      go_meet
      exact ⟨s.extract 0 100, rfl, by simp [ByteArray.size_extract]; omega, rfl⟩
    · have t1 : decide ((100 : Int) < (s.size : Int)) = false := decide_eq_false (by omega)
      have t2 : decide (100 < s.size) = false := decide_eq_false hlt
      go_wp2
      go_meet
      exact ⟨s, rfl, by omega, rfl⟩
  case rest =>
  obtain ⟨t, rfl, ht, rfl⟩ := hcut
  have R1 := fun wx => mread_any t wx (by omega)
  have R2 := fun wx => rmread_any t wx (by omega)
  have TR := Lib.hid (text_read t (by omega))
  have hE : (readM t).2 = 0 ∨ (readM t).2 = 10 := by unfold readM; split <;> simp
  have hTz : (⟨(mtB (pl ys)).toArray⟩ : ByteArray).size ≤ 1000000000 := by
    have h1 := mcat_length (pl ys)
    have h2 := putB_le ((pl ys).length : Int)
    have h3 := pl_length ys
    show (mtB (pl ys)).toArray.size ≤ _
    simp [mtB]
    omega
  have R3 := fun wx => mread_any ⟨(mtB (pl ys)).toArray⟩ wx hTz
  rw [read_text ys] at R3
  simp only at R3
  generalize hM : readM t = M at *
  obtain ⟨L, E⟩ := M
  simp only at R1 R2 TR hE
  obtain ⟨T, HT⟩ : ∃ T : ByteArray, Hid (⟨(mtB (pl ys)).toArray⟩ = T) := ⟨_, rfl⟩
  have TV := fun (wx : World) (k : SlI wx a0 n c ys) => mtext_any a0 n c ys wx k.r k.h1 k.h2
  have TV2 := fun (wx : World) (k : SlI wx a0 n c ys) => rmtext_any a0 n c ys wx k.r k.h1 k.h2
  rw [HT.out] at R3 TV TV2
  have bT : (T.toList == T.toList) = true := beq_self_eq_true _
  have bt : (t.toList == t.toList) = true := beq_self_eq_true _
  have bE : (E == E) = true := beq_self_eq_true _
  clear hTz hM ht
  go_wp2_with fail
  refine (R1 _).mono ?_
  rintro e x2 ⟨a1, n1, c1, rfl, SA, d⟩
  have SV := SV.below d
  have hB := below_then hB (by have := hB.size; omega) d
  clear d
  go_wp2_with fail
  refine (R2 _).mono ?_
  rintro e x3 ⟨a2, n2, c2, rfl, SB, d⟩
  have SV := SV.below d
  have SA := SA.below d
  have hB := below_then hB (by have := hB.size; omega) d
  clear d
  go_wp2_with fail
  refine (TV _ SV).mono ?_
  rintro e x4 ⟨rfl, d⟩
  have SV := SV.below d
  have SA := SA.below d
  have SB := SB.below d
  have hB := below_then hB (by have := hB.size; omega) d
  clear d
  go_wp2_with fail
  refine (R3 _).mono ?_
  rintro e x5 ⟨a3, n3, c3, rfl, SC, d⟩
  have SV := SV.below d
  have SA := SA.below d
  have SB := SB.below d
  have hB := below_then hB (by have := hB.size; omega) d
  clear d
  have k1 := SA.h1
  have k2 := SA.h2
  have k3 := SB.h1
  have k4 := SB.h2
  have k5 := SC.h1
  have k6 := SC.h2
  go_wp2_with fail
  refine (same_from _ SA SB (Below.refl _ _)).mono ?_
  rintro e x6 ⟨rfl, d⟩
  have SV := SV.below d
  have SA := SA.below d
  have SB := SB.below d
  have SC := SC.below d
  have hB := below_then hB (by have := hB.size; omega) d
  clear d
  rw [show decide (L = L) = true from decide_eq_true rfl]
  go_wp2_with fail
  refine (rplain_any _ _ _ ys _ SV.r SV.h1 SV.h2).mono ?_
  rintro e x7 ⟨a4, c4, rfl, l1, l2, vp, d⟩
  have SV := SV.below d
  have SA := SA.below d
  have SC := SC.below d
  have hB := below_then hB (by have := hB.size; omega) d
  clear d
  have SP : SlI _ a4 (pl ys).length c4 (pl ys) := ⟨vp.reads, l1, l2⟩
  go_wp2_with fail
  refine (same_from _ SC SP (Below.refl _ _)).mono ?_
  rintro e x8 ⟨rfl, d⟩
  have SV := SV.below d
  have SA := SA.below d
  have hB := below_then hB (by have := hB.size; omega) d
  clear d
  rw [show decide (pl ys = pl ys) = true from decide_eq_true rfl]
  clear SP vp
  go_wp2_with fail
  refine (TV _ SV).mono ?_
  rintro e x9 ⟨rfl, d⟩
  have SV := SV.below d
  have SA := SA.below d
  have hB := below_then hB (by have := hB.size; omega) d
  clear d
  go_wp2_with fail
  refine (TV2 _ SV).mono ?_
  rintro e x10 ⟨rfl, d⟩
  have SV := SV.below d
  have SA := SA.below d
  have hB := below_then hB (by have := hB.size; omega) d
  clear d
  rcases hE with hE | hE
  · have TA := fun (wx : World) (k : SlI wx a1 n1 c1 L) => mtext_any a1 n1 c1 L wx k.r k.h1 k.h2
    rw [TR.out hE] at TA
    rw [hE]
    clear hE
    go_wp2_with fail
    refine (TA _ SA).mono ?_
    rintro e x11 ⟨rfl, d⟩
    have hB := below_then hB (by have := hB.size; omega) d
    clear d
    go_wp2_with fail
    go_ret
    exact ⟨rfl, hB⟩
  · rw [hE]
    clear hE
    go_wp2_with fail
    go_ret
    exact ⟨rfl, hB⟩
theorem mtexts_row (v1 : Value) (xs : List Int) (s : ByteArray) (w : World) (h1 : IsInts .i64 w v1 xs) (hs : s.size ≤ 9223372036854775807) :
    Calls Try.prog 7 #[v1, .string s] w fun e w' => e = .returned (.bool true) ∧ Below w.heap.size w w' := by
  obtain ⟨a, n, c, rfl, h1, h2, hr, -⟩ := h1
  exact mtexts_any a n c xs s w ⟨hr, h1, h2⟩ hs
end Go.Proofs.Ytmdbdkeonijfbaa
