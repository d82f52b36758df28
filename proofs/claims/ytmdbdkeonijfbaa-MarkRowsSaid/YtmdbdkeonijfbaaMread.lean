/- Vectors read: mark.Read; the reference's Text, TakeVector, Read. -/
import Derived.Test.YtmdbdkeonijfbaaAppJ
import Derived.Test.YtmdbdkeonijfbaaMtp
import Derived.Test.YtmdbdkeonijfbaaMref
import Derived.Test.YtmdbdkeonijfbaaKn
import Derived.Test.YtmdbdkeonijfbaaRRdr
import Derived.Test.YtmdbdkeonijfbaaMtake
namespace Go.Proofs.Ytmdbdkeonijfbaa
open Go.RowKit
set_option linter.unusedVariables false
set_option linter.unusedSimpArgs false
theorem below_but {B g : Nat} {w0 w w' : World} (h0 : Below B w0 w) (h : But g w w') (hB : B ≤ w.heap.size) (hg : B ≤ g) : Below B w0 w' := But.below h0 h hB hg
theorem small8 {r : Rdr} (hr : r.ok) : 0 ≤ (r.small 8).1 ∧ (r.small 8).1 ≤ 8 := by
  rcases hb : (r.small 8).2.bad with _ | _
  · have := small_good hr hb
    omega
  · have := Rdr.small_bad 8 hb
    omega
set_option maxHeartbeats 2000000 in
theorem mread_any (s : ByteArray) (w : World) (hs : s.size ≤ 1000000000) : Calls Try.prog 29 #[.string s] w fun e w' => ∃ a n c, e = .returned (.tuple #[.slice a n c, .int .i64 (readM s).2]) ∧ SlI w' a n c (readM s).1 ∧ Below w.heap.size w w' := by
  have hok := r0_ok hs
  have h1 := Rdr.small_ok hok 8
  have h8 := small8 hok
  have HM : Hid (readM s = if (tkV (r0 s)).2.fin = 0 ∧ (tkV (r0 s)).1 = pl (tkV (r0 s)).1 then ((tkV (r0 s)).1, 0) else ([], 10)) := rfl
  have HTK : Hid (tkV (r0 s) = takeN ((r0 s).small 8).1.toNat ((r0 s).small 8).2) := rfl
  generalize readM s = M at *
  generalize tkV (r0 s) = TK at *
  go_enter Try.func29, Try.ntmps29
  go_wp2_with fail
  refine (rdr_read s _).mono ?_
  rintro e w1 ⟨rfl, hr, d1⟩
  generalize hg : w.heap.size = g at *
  have hgl := hr.lt
  go_wp2_with fail
  refine (rdr_small g (r0 s) 8 _ hr hok (by decide) (by decide)).mono ?_
  rintro e w2 ⟨rfl, h2, b2⟩
  have d2 : Below g w w2 := below_but d1 b2 (by omega) (Nat.le_refl _)
  have hgl2 := h2.lt
  clear hr d1 b2
  generalize ((r0 s).small 8).2 = R1 at *
  obtain ⟨n, hn⟩ : ∃ n : Nat, ((r0 s).small 8).1 = n := ⟨((r0 s).small 8).1.toNat, by omega⟩
  rw [hn] at h8 HTK ⊢
  rw [Int.toNat_natCast] at HTK
  have INIT := Lib.hid (And.intro h2 d2)
  clear h2 d2 hn
  go_wp2_with fail
  go_loopw [5, 10] (fun p i wr => ∃ (k : Nat) (a : Option Addr) (cap : Nat), k ≤ n ∧ i = .int .i64 k ∧ p = .slice a k cap ∧ RdrAt 79 wr g (takeN k R1).2 ∧ AppJ wr (g + 1) a k cap (takeN k R1).1 ∧ Below g w wr) (fun _ i _ => 9 - (intOf i).toNat)
  case atStart => exact ⟨0, none, 0, by omega, rfl, rfl, INIT.out.1, appJ_nil _ _, INIT.out.2⟩
  case round =>
    obtain ⟨k, a, cap, hk, rfl, rfl, hR, hA, hB⟩ := hrel
    have hRok := takeN_ok h1.1 k
    have hle := hA.le
    have hmax : cap ≤ 9223372036854775807 := hA.max
    have hlt0 := hR.lt
    have HT : Hid (takeN (k + 1) R1 = ((takeN k R1).1 ++ [((takeN k R1).2.small 1099511627776).1], ((takeN k R1).2.small 1099511627776).2)) := rfl
    by_cases hlt : k < n
    · have t1 : decide (k < n) = true := decide_eq_true hlt
      have t2 : decide ((k : Int) < (n : Int)) = true := decide_eq_true (by omega)
      generalize takeN k R1 = TK1 at *
      obtain ⟨L, R⟩ := TK1
      simp only at hR hA hRok HT
      go_wp2_with fail
      refine (rdr_small g R 1099511627776 _ hR hRok.1 (by decide) (by decide)).mono ?_
      rintro e w3 ⟨rfl, h3, b3⟩
      have hA3 := Lib.hid (hA.but b3 (by omega))
      have hB3 := below_but hB b3 (by omega) (Nat.le_refl _)
      have hl3 := h3.lt
      have H3 := Lib.hid h3
      clear h3 b3 hA hR hB
      generalize (R.small 1099511627776).1 = y at *
      go_wp2_with (at_builtin; refine wpList_append_i64 rfl _ _ rfl _ (g + 1) a k cap L rfl (hA3.out.below ?q1) ?q2 ?q3 ⟨w3.heap.size, 0, none⟩ 1 y rfl ?q4 ?q5)
      case q1 => exact (Below.refl _ _).alloc (Nat.le_refl _) _
      case q2 => simp; omega
      case q3 => omega
      case q4 => rw [World.cell?_alloc_new]; rfl
      case q5 =>
        intro a3 cap3 w5 hg3 hb3
        have HG3 := Lib.hid hg3
        clear hg3
        have hb4 : Below (g + 1) w3 w5 := ((Below.refl _ _).alloc (by omega) _).trans hb3
        have hR5 : RdrAt 79 w5 g (R.small 1099511627776).2 := (hb4.block g (by omega)).trans H3.out
        have hB5 : Below g w w5 := hB3.trans (hb4.mono (by omega))
        go_wp2
        go_roundw
        case rel => exact ⟨k + 1, a3, cap3, by omega, by go_num, rfl, by rw [HT.out]; exact hR5, by rw [HT.out]; exact HG3.out, hB5⟩
        case measure => simp [intOf]; omega
    · have t1 : decide (k < n) = false := decide_eq_false hlt
      have t2 : decide ((k : Int) < (n : Int)) = false := decide_eq_false (by omega)
      obtain rfl : k = n := by omega
      rw [← HTK.out] at hR hA hRok
      obtain ⟨L, R⟩ := TK
      simp only at hR hA hRok HM
      clear HTK HT
      go_wp2_with fail
      refine (rdr_end g R _ hR hRok.1).mono ?_
      rintro e w3 ⟨rfl, dq⟩
      have dn := quiet_below dq
      have hS3 := hA.sl.below dn
      have hB3 := below_then hB (by omega) dn
      clear dq
      have HS3 := Lib.hid hS3
      have hfin : R.fin = 0 ∨ R.fin = 10 := by unfold Rdr.fin; split <;> simp
      rcases hfin with hf | hf
      · rw [hf] at HM ⊢
        go_wp2_with fail
        refine (right_from _ hS3 (Below.refl _ _)).mono ?_
        rintro e w4 ⟨rfl, d4⟩
        have hB4 := Lib.hid (below_then hB3 (by have := hB3.size; omega) d4)
        have HS4 := Lib.hid (hS3.below d4)
        by_cases hp : L = pl L
        · have hd : decide (L = pl L) = true := decide_eq_true hp
          have HV : Hid (M = (L, 0)) := by show _ = _; rw [HM.out, if_pos ⟨trivial, hp⟩]
          rw [hd]
          clear hd hp
          go_wp2_with fail
          refine bodyPost_ret (v := .tuple #[.slice a k cap, .int .i64 0]) (by simp [results, Try.results29, go_sem, *]) rfl ⟨a, k, cap, by rw [HV.out], by rw [HV.out]; exact HS4.out, by rw [hg]; exact hB4.out⟩
        · have hd : decide (L = pl L) = false := decide_eq_false hp
          have HV : Hid (M = ([], 10)) := by show _ = _; rw [HM.out, if_neg (fun h => hp h.2)]
          rw [hd]
          clear hd hp
          go_wp2_with fail
          refine bodyPost_ret (v := .tuple #[.slice none 0 0, .int .i64 10]) (by simp [results, Try.results29, go_sem, *]) rfl ⟨none, 0, 0, by rw [HV.out], by rw [HV.out]; exact ⟨⟨rfl, .inl rfl⟩, Nat.le_refl _, by decide⟩, by rw [hg]; exact hB4.out⟩
      · rw [hf] at HM ⊢
        have HV : Hid (M = ([], 10)) := by show _ = _; rw [HM.out, if_neg (fun h => by simp at h)]
        go_wp2_with fail
        refine bodyPost_ret (v := .tuple #[.slice none 0 0, .int .i64 10]) (by simp [results, Try.results29, go_sem, *]) rfl ⟨none, 0, 0, by rw [HV.out], by rw [HV.out]; exact ⟨⟨rfl, .inl rfl⟩, Nat.le_refl _, by decide⟩, by rw [hg]; exact hB3⟩
end Go.Proofs.Ytmdbdkeonijfbaa
