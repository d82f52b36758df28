/- The reference's Text, TakeVector, Read. -/
import Derived.Test.YtkonflbgkaflaaaGSampleMany32
namespace Go.Proofs.Ytkonflbgkaflaaa
section
open Go.RowKit
set_option maxRecDepth 100000
set_option linter.unusedVariables false
set_option linter.unusedSimpArgs false
theorem ba_cat (l : List UInt8) (x : Int) : (⟨l.toArray⟩ : ByteArray) ++ vput x = ⟨(l ++ putB 9 x).toArray⟩ := by
  apply ByteArray.ext
  apply Array.ext'
  rw [ByteArray.data_append, Array.toList_append, vput_data]
theorem ba_size (l : List UInt8) : (⟨l.toArray⟩ : ByteArray).size = l.length := by simp [ByteArray.size]
theorem vput_ba (x : Int) : vput x = ⟨(putB 9 x).toArray⟩ := by
  apply ByteArray.ext
  apply Array.ext'
  rw [vput_data]
set_option maxHeartbeats 2000000 in
theorem rmtext_any (a : Option Addr) (n c : Nat) (xs : List Int) (w : World) (h : ReadsI .i64 w a n xs) (hnc : n ≤ c) (hcb : c ≤ 9223372036854775807) :
    Calls Try.prog 44 #[.slice a n c] w fun e w' => e = .returned (.string ⟨(mtB (pl xs)).toArray⟩) ∧ Below w.heap.size w w' := by
  have hl8 := pl_length xs
  have HRng := Lib.hid (pl_range xs)
  obtain ⟨P, HP⟩ : ∃ P, Hid (P = pl xs) := ⟨_, rfl⟩
  rw [← HP.out]
  go_enter Try.func44, Try.ntmps44
  go_wp2_with fail
  refine (rplain_any a n c xs w h hnc hcb).mono ?_
  rintro e w1 ⟨a', cap', rfl, hlc, hcm, hv, hb⟩
  rw [← HP.out] at hv hl8 HRng hlc ⊢
  clear HP
  have HV := Lib.hid hv.reads
  clear hv
  have hwr : IntKind.u64.wrap (P.length : Int) = P.length := by rw [wrap_u64]; omega
  go_wp2_with fail
  refine (rput_any _ _ (by omega) (by omega)).mono ?_
  rintro e w2 ⟨rfl, hb2⟩
  have hbl1 := Lib.hid (And.intro hb2 (below_then hb hb.size hb2))
  clear hb hb2
  rw [vput_ba]
  go_wp2_with fail
  go_loopw [4, 5] (fun t i wr => ∃ k : Nat, k ≤ P.length ∧ i = .int .i64 k ∧ t = .string ⟨(putB 9 P.length ++ mcat (P.take k)).toArray⟩ ∧ Below w1.heap.size w1 wr ∧ Below w.heap.size w wr) (fun _ i _ => P.length - (intOf i).toNat)
  case atStart => exact ⟨0, by omega, rfl, by simp [mcat], hbl1.out.1, hbl1.out.2⟩
  case round =>
    obtain ⟨k, hk, rfl, rfl, hbel, hbw⟩ := hrel
    by_cases hlt : k < P.length
    · have t1 : decide (k < P.length) = true := decide_eq_true hlt
      obtain ⟨b, o, rfl, hblt, hc1⟩ := HV.out.at hbel k hlt
      have hx := HRng.out k
      have HT := Lib.hid (take_snoc_getD P k hlt)
      have HL2 : (putB 9 P.length ++ mcat (P.take k)).length ≤ 100 := by
        have := mcat_length (P.take k)
        have := putB_le (P.length : Int)
        rw [List.length_take] at *
        rw [List.length_append]
        omega
      have i1 : (0 : Int) ≤ (k : Int) := by omega
      have i2 : (k : Int) < (P.length : Int) := by omega
      have hwx : IntKind.u64.wrap (P.getD k 0) = P.getD k 0 := by rw [wrap_u64]; omega
      have hz := ba_size (putB 9 P.length ++ mcat (P.take k))
      have HC := Lib.hid (ba_cat (putB 9 P.length ++ mcat (P.take k)) (P.getD k 0))
      have hvz := vput_le (P.getD k 0)
      generalize P.getD k 0 = x at *
      go_wp2_with fail
      refine (rput_any _ _ (by omega) (by omega)).mono ?_
      rintro e w4 ⟨rfl, hb1⟩
      have hbel2 := Lib.hid (And.intro (below_then hbel hbel.size hb1) (below_then hbw hbw.size hb1))
      go_wp2
      go_roundw
      case rel => exact ⟨k + 1, by omega, by go_num, by rw [HC.out, HT.out, mcat_append, mcat_one, ← List.append_assoc], hbel2.out.1, hbel2.out.2⟩
      case measure => simp [intOf]; omega
    · have t1 : decide (k < P.length) = false := decide_eq_false hlt
      go_wp2
      go_ret
      exact ⟨ret_str (by rw [List.take_of_length_le (by omega)]; rfl), hbw⟩
/-- What TakeVector takes. -/
def tvV (r : Rdr) : List Int × Rdr := if (tkV r).2.bad = false ∧ (tkV r).1 = pl (tkV r).1 then tkV r else ([], { (tkV r).2 with bad := true })
theorem tkV_ok {r : Rdr} (h : r.ok) : (tkV r).2.ok ∧ (tkV r).2.s = r.s := by
  have h1 := Rdr.small_ok h 8
  have h2 := takeN_ok h1.1 (r.small 8).1.toNat
  exact ⟨h2.1, h2.2.trans h1.2⟩
theorem tvV_ok {r : Rdr} (h : r.ok) : (tvV r).2.ok ∧ (tvV r).2.s = r.s := by
  have h1 := tkV_ok h
  unfold tvV
  split
  · exact h1
  · exact ⟨h1.1, h1.2⟩
set_option maxHeartbeats 2000000 in
theorem rtv_any2 (g : Nat) (r : Rdr) (w : World) (hr : RdrAt 91 w g r) (hok : r.ok) : Calls Try.prog 73 #[.pointer (some ⟨g, 0, none⟩)] w fun e w' => ∃ a n c, e = .returned (.slice a n c) ∧ SlI w' a n c (tvV r).1 ∧ RdrAt 91 w' g (tvV r).2 ∧ But g w w' ∧ (∀ x, a = some x → w.heap.size ≤ x.block) := by
  have h1 := Rdr.small_ok hok 8
  have h8 := small8 hok
  have HM : Hid (tvV r = if (tkV r).2.bad = false ∧ (tkV r).1 = pl (tkV r).1 then tkV r else ([], { (tkV r).2 with bad := true })) := rfl
  have HTK : Hid (tkV r = takeN (r.small 8).1.toNat (r.small 8).2) := rfl
  generalize tvV r = M at *
  generalize tkV r = TK at *
  have hgl := hr.lt
  go_enter Try.func73, Try.ntmps73
  go_wp2_with fail
  refine (rrdr_small g r 8 _ hr hok (by decide) (by decide)).mono ?_
  rintro e w2 ⟨rfl, h2, b2⟩
  have hgl2 := h2.lt
  have hz := b2.size
  generalize (r.small 8).2 = R1 at *
  obtain ⟨n, hn⟩ : ∃ n : Nat, (r.small 8).1 = n := ⟨(r.small 8).1.toNat, by omega⟩
  rw [hn] at h8 HTK ⊢
  rw [Int.toNat_natCast] at HTK
  have INIT := Lib.hid (And.intro h2 b2)
  clear h2 b2 hn hr
  go_wp2_with fail
  go_loopw [4, 5] (fun p i wr => ∃ (k : Nat) (a : Option Addr) (cap : Nat), k ≤ n ∧ i = .int .i64 k ∧ p = .slice a k cap ∧ RdrAt 91 wr g (takeN k R1).2 ∧ AppJ wr w.heap.size a k cap (takeN k R1).1 ∧ But g w wr) (fun _ i _ => 9 - (intOf i).toNat)
  case atStart => exact ⟨0, none, 0, by omega, rfl, rfl, INIT.out.1, appJ_nil _ _, INIT.out.2⟩
  case round =>
    obtain ⟨k, a, cap, hk, rfl, rfl, hR, hA, hB⟩ := hrel
    have hRok := takeN_ok h1.1 k
    have hle := hA.le
    have hmax : cap ≤ 9223372036854775807 := hA.max
    have hlt0 := hR.lt
    have hz2 := hB.size
    have HT : Hid (takeN (k + 1) R1 = ((takeN k R1).1 ++ [((takeN k R1).2.small 1099511627776).1], ((takeN k R1).2.small 1099511627776).2)) := rfl
    by_cases hlt : k < n
    · have t1 : decide (k < n) = true := decide_eq_true hlt
      have t2 : decide ((k : Int) < (n : Int)) = true := decide_eq_true (by omega)
      generalize takeN k R1 = TK1 at *
      obtain ⟨L, R⟩ := TK1
      simp only at hR hA hRok HT
      go_wp2_with fail
      refine (rrdr_small g R 1099511627776 _ hR hRok.1 (by decide) (by decide)).mono ?_
      rintro e w3 ⟨rfl, h3, b3⟩
      have hA3 := Lib.hid (hA.but b3 (by omega))
      have hB3 := hB.trans b3
      have hl3 := h3.lt
      have hz3 := hB3.size
      have H3 := Lib.hid h3
      clear h3 b3 hA hR hB
      generalize (R.small 1099511627776).1 = y at *
      go_wp2_with (at_builtin; refine wpList_append_i64 rfl _ _ rfl _ w.heap.size a k cap L rfl (hA3.out.below ?q1) ?q2 ?q3 ⟨w3.heap.size, 0, none⟩ 1 y rfl ?q4 ?q5)
      case q1 => exact (Below.refl _ _).alloc (Nat.le_refl _) _
      case q2 => simp; omega
      case q3 => omega
      case q4 => rw [World.cell?_alloc_new]; rfl
      case q5 =>
        intro a3 cap3 w5 hg3 hb3
        have HG3 := Lib.hid hg3
        clear hg3
        have hb4 : Below w.heap.size w3 w5 := ((Below.refl _ _).alloc (by omega) _).trans hb3
        have hR5 : RdrAt 91 w5 g (R.small 1099511627776).2 := (hb4.block g (by omega)).trans H3.out
        have hB5 : But g w w5 := ⟨hb4.os.trans hB3.os, hb4.tape.trans hB3.tape, hb4.output.trans hB3.output, Nat.le_trans hz3 hb4.size, fun i hi hne => (hb4.block i hi).trans (hB3.block i hi hne)⟩
        go_wp2
        go_roundw
        case rel => exact ⟨k + 1, a3, cap3, by omega, by go_num, rfl, by rw [HT.out]; exact hR5, by rw [HT.out]; exact HG3.out, hB5⟩
        case measure => simp [intOf]; omega
    · have t1 : decide (k < n) = false := decide_eq_false hlt
      have t2 : decide ((k : Int) < (n : Int)) = false := decide_eq_false (by omega)
      obtain rfl : k = n := by omega
      rw [← HTK.out] at hR hA hRok
      obtain ⟨L, R⟩ := TK
      simp only at hR hA hRok HM
      clear HTK HT
      have hS := hA.sl
      have HG : Hid (∀ x, a = some x → w.heap.size ≤ x.block) := hA.ge
      have NG : ∀ x : Addr, (none : Option Addr) = some x → w.heap.size ≤ x.block := fun x hx => by cases hx
      go_wp2_with fail
      refine (rright_any _ _ _ _ _ hS.r hS.h1 hS.h2).mono ?_
      rintro e w3 ⟨rfl, d3⟩
      have hS3 := Lib.hid (hS.below d3)
      have hR3 := hR.below d3
      have hB3 := Lib.hid (hB.then_below d3)
      have c2 := hR3.c2
      have f2 := hR3.fz 2
      have HR3 := Lib.hid hR3
      have HRB := Lib.hid (And.intro (hR3.set2 true) ((hB.then_below d3).trans (But.set g 2 _ (.bool true))))
      clear hS d3 hR3 hA hR hB
      have nilS : ∀ wx : World, SlI wx none 0 0 [] := fun wx => ⟨⟨rfl, .inl rfl⟩, Nat.le_refl _, by decide⟩
      rcases hbad : R.bad with _ | _
      · rw [hbad] at c2
        by_cases hp : L = pl L
        · have hd : decide (L = pl L) = true := decide_eq_true hp
          have HV : Hid (M = (L, R)) := by show _ = _; rw [HM.out, if_pos ⟨hbad, hp⟩]
          rw [hd]
          clear hd hp hbad
          go_wp2_with fail
          go_ret
          exact ⟨a, k, cap, rfl, by rw [HV.out]; exact hS3.out, by rw [HV.out]; exact HR3.out, hB3.out, HG.out⟩
        · have hd : decide (L = pl L) = false := decide_eq_false hp
          have HV : Hid (M = ([], { R with bad := true })) := by show _ = _; rw [HM.out, if_neg (fun h => hp h.2)]
          rw [hd]
          clear hd hp hbad
          go_wp2_with fail
          go_ret
          exact ⟨none, 0, 0, rfl, by rw [HV.out]; exact nilS _, by rw [HV.out]; exact HRB.out.1, HRB.out.2, NG⟩
      · rw [hbad] at c2
        have HV : Hid (M = ([], { R with bad := true })) := by show _ = _; rw [HM.out, if_neg (fun h => by rw [hbad] at h; cases h.1)]
        clear hbad
        go_wp2_with fail
        go_ret
        exact ⟨none, 0, 0, rfl, by rw [HV.out]; exact nilS _, by rw [HV.out]; exact HRB.out.1, HRB.out.2, NG⟩
theorem rtv_any (g : Nat) (r : Rdr) (w : World) (hr : RdrAt 91 w g r) (hok : r.ok) : Calls Try.prog 73 #[.pointer (some ⟨g, 0, none⟩)] w fun e w' => ∃ a n c, e = .returned (.slice a n c) ∧ SlI w' a n c (tvV r).1 ∧ RdrAt 91 w' g (tvV r).2 ∧ But g w w' :=
  (rtv_any2 g r w hr hok).mono fun e w' ⟨a, n, c, h1, h2, h3, h4, _⟩ => ⟨a, n, c, h1, h2, h3, h4⟩
theorem read_tv (s : ByteArray) (hs : s.size ≤ 1000000000) : readM s = if (tvV (r0 s)).2.fin = 0 then ((tvV (r0 s)).1, 0) else ([], 10) := by
  have hk := (tkV_ok (r0_ok hs)).1
  have hf := fin_rest hk
  unfold readM tvV
  by_cases h : (tkV (r0 s)).2.bad = false ∧ (tkV (r0 s)).1 = pl (tkV (r0 s)).1
  · rw [if_pos h]
    by_cases h2 : (tkV (r0 s)).2.fin = 0
    · rw [if_pos ⟨h2, h.2⟩, if_pos h2]
    · rw [if_neg (fun x => h2 x.1), if_neg h2]
  · rw [if_neg h, if_neg]
    · rw [if_neg]
      unfold Rdr.fin
      rw [if_pos (.inl rfl)]
      decide
    · intro x
      exact h ⟨(hf.1 x.1).1, x.2⟩
end
end Go.Proofs.Ytkonflbgkaflaaa
