/- VintReads: for any bytes and any calls the law answers true: the reader answers, call by call, as the reference's does. -/
import Derived.Test.YtgkidcpcgceabaaVawake
import Derived.Test.YtgkidcpcgceabaaRRdr2
import Derived.Test.YtgkidcpcgceabaaOpenI
import Derived.Deep.DeepCutAuto
import Derived.Deep.CutBlock
namespace Go.Proofs.Ytgkidcpcgceabaa
open Go.RowKit
set_option linter.unusedVariables false
set_option linter.unusedSimpArgs false
theorem But.rdr {T : TypeId} {g h : Nat} {r : Rdr} {w w' : World} (hb : But g w w') (k : RdrAt T w h r) (hne : h ≠ g) : RdrAt T w' h r := by
  unfold RdrAt
  rw [hb.block h k.lt (by simpa using hne)]
  exact k
set_option maxHeartbeats 4000000 in
set_option maxRecDepth 100000 in
theorem reads_any (s : ByteArray) (v : Value) (xs : List Int) (w : World) (hs : s.size ≤ 9223372036854775807) (hv : IsInts .i64 w v xs) :
    Calls Try.prog 8 #[.string s, v] w fun e w' => e = .returned (.bool true) ∧ Below w.heap.size w w' := by
  obtain ⟨a, m, c, rfl, hmc, hc, hr, hwf⟩ := hv
  have HR := Lib.hid hr
  have HW := Lib.hid fun x hx => bounds_i64 (hwf x hx)
  clear hr hwf
  go_enter Try.func8, Try.ntmps8
  go_wp2_with fail
  refine (awake_any _).mono ?_
  rintro e w1 ⟨rfl, hb1⟩
  go_wp2_with fail
  refine (short_any s 400 _ hs (by omega)).mono ?_
  rintro e w2 ⟨rfl, rfl⟩
  generalize hp : s.extract 0 400 = p
  have hpz : p.size ≤ 400 := by rw [← hp, ByteArray.size_extract]; omega
  clear hp
  go_wp2_with fail
  refine (rdr_read p _).mono ?_
  rintro e w2 ⟨rfl, hr2, hb2⟩
  go_wp2_with fail
  have hbB : Below w.heap.size w (w2.alloc (.cells #[.string p, .int .i64 0, .bool false] 54)) := (below_then hb1 hb1.size hb2).alloc (Nat.le_trans hb1.size hb2.size) _
  have hq1 : RdrAt 42 (w2.alloc (.cells #[.string p, .int .i64 0, .bool false] 54)) w1.heap.size ⟨p, 0, false⟩ := hr2.below ((Below.refl _ _).alloc (Nat.le_refl _) _)
  have hq2 : RdrAt 54 (w2.alloc (.cells #[.string p, .int .i64 0, .bool false] 54)) w2.heap.size ⟨p, 0, false⟩ := heap_alloc_new w2 _
  have hg1 : w.heap.size ≤ w1.heap.size := hb1.size
  have hg2 : w1.heap.size < w2.heap.size := hr2.lt
  have hmz : m ≤ 9223372036854775807 := by omega
  generalize w1.heap.size = g1 at *
  generalize w2.heap.size = g2 at *
  generalize w2.alloc (.cells #[.string p, .int .i64 0, .bool false] 54) = w3 at *
  have INIT := Lib.hid (And.intro hbB (And.intro hq1 hq2))
  clear hbB hq1 hq2 hr2 hb2 hb1
  go_loopw [8] (fun i wr => ∃ (k : Nat) (r : Rdr), k ≤ m ∧ k ≤ 60 ∧ i = .int .i64 k ∧ r.ok ∧ RdrAt 42 wr g1 r ∧ RdrAt 54 wr g2 r ∧ Below w.heap.size w wr) (fun i _ => 61 - (intOf i).toNat)
  case atStart => exact ⟨0, ⟨p, 0, false⟩, by omega, by omega, rfl, ⟨by simp only; omega, by simp, by simp⟩, INIT.out.2.1, INIT.out.2.2, INIT.out.1⟩
  case round =>
    obtain ⟨k, r, hk, hk6, rfl, hr, hr1, hr2, hbel⟩ := hrel
    have H1 := Lib.hid hr1
    have H2 := Lib.hid hr2
    clear hr1 hr2
    by_cases hlt : k < m
    · have t1 : decide (k < m) = true := decide_eq_true hlt
      by_cases h60 : k < 60
      · have t2 : decide ((k : Int) < 60) = true := decide_eq_true (by omega)
        obtain ⟨b, o, rfl, hblt, hcell⟩ := HR.out.2.resolve_left (by omega)
        have hcK : wr.cell? ⟨b, o + k, none⟩ = some (.int .i64 (xs.getD k 0)) := (hbel.cell (p := ⟨b, o + k, none⟩) hblt).trans (hcell k hlt)
        have HC := Lib.hid hcell
        clear hcell
        generalize xs.getD k 0 = x at *
        have hx1 : -4 ≤ x.tmod 5 ∧ x.tmod 5 ≤ 4 := by
          have h1 := Int.tmod_lt_of_pos x (show (0 : Int) < 5 by decide)
          have h2 := Int.lt_tmod_of_pos x (show (0 : Int) < 5 by decide)
          omega
        go_upto_if 38 with (fail)
        go_cut [9] (fun kk wx => ∃ q : Int, 0 ≤ q ∧ q ≤ 4 ∧ kk = .int .i64 q ∧ wx = wr)
        case first =>
          by_cases hneg : x.tmod 5 < 0
          · have t3 : decide (x.tmod 5 < 0) = true := decide_eq_true hneg
            go_wp2_with fail
            go_meet
            exact ⟨-(x.tmod 5), by omega, by omega, rfl, rfl⟩
          · have t3 : decide (x.tmod 5 < 0) = false := decide_eq_false hneg
            go_wp2_with fail
            go_meet
            exact ⟨x.tmod 5, by omega, by omega, rfl, rfl⟩
        case rest =>
          obtain ⟨q, hq0, hq1, rfl, rfl⟩ := hcut
          go_upto_block 2 with (fail)
          go_cut [10] (fun ok wx => ∃ r' : Rdr, r'.ok ∧ ok = .bool true ∧ RdrAt 42 wx g1 r' ∧ RdrAt 54 wx g2 r' ∧ Below w.heap.size w wx)
          case first =>
            have hq : q = 0 ∨ q = 1 ∨ q = 2 ∨ q = 3 ∨ q = 4 := by omega
            rcases hq with rfl | rfl | rfl | rfl | rfl
            · go_wp2_with fail
              refine (rdr_num g1 r _ H1.out hr).mono ?_
              rintro e w4 ⟨rfl, k1, kb1⟩
              have k2 := kb1.rdr H2.out (by omega)
              have bl1 := But.below hbel kb1 hbel.size hg1
              go_wp2_with fail
              refine (rrdr_num g2 r _ k2 hr).mono ?_
              rintro e w5 ⟨rfl, j2, jb2⟩
              have j1 := jb2.rdr k1 (by omega)
              have bl2 := But.below bl1 jb2 bl1.size (by omega)
              go_wp2
              go_meet
              exact ⟨r.num.2, (Rdr.num_ok hr).1, rfl, j1, j2, bl2⟩
            · go_wp2_with fail
              refine (rdr_int g1 r _ H1.out hr).mono ?_
              rintro e w4 ⟨rfl, k1, kb1⟩
              have k2 := kb1.rdr H2.out (by omega)
              have bl1 := But.below hbel kb1 hbel.size hg1
              go_wp2_with fail
              refine (rrdr_int g2 r _ k2 hr).mono ?_
              rintro e w5 ⟨rfl, j2, jb2⟩
              have j1 := jb2.rdr k1 (by omega)
              have bl2 := But.below bl1 jb2 bl1.size (by omega)
              go_wp2
              go_meet
              exact ⟨r.int.2, (Rdr.int_ok hr).1, rfl, j1, j2, bl2⟩
            · by_cases hk1 : k + 1 < m
              · have t3 : decide ((k : Int) + 1 < m) = true := decide_eq_true (by omega)
                have hcN : wc.cell? ⟨b, o + (k + 1), none⟩ = some (.int .i64 (xs.getD (k + 1) 0)) := (hbel.cell (p := ⟨b, o + (k + 1), none⟩) hblt).trans (HC.out (k + 1) hk1)
                have hy := HW.out (xs.getD (k + 1) 0) (by
                  rw [List.getD_eq_getElem?_getD, List.getElem?_eq_getElem (by rw [HR.out.1]; exact hk1)]
                  exact List.getElem_mem _)
                generalize xs.getD (k + 1) 0 = y at *
                go_wp2_with fail
                refine (rdr_small g1 r y _ H1.out hr hy.1 hy.2).mono ?_
                rintro e w4 ⟨rfl, k1, kb1⟩
                have k2 := kb1.rdr H2.out (by omega)
                have bl1 := But.below hbel kb1 hbel.size hg1
                go_wp2_with fail
                refine (rrdr_small g2 r y _ k2 hr hy.1 hy.2).mono ?_
                rintro e w5 ⟨rfl, j2, jb2⟩
                have j1 := jb2.rdr k1 (by omega)
                have bl2 := But.below bl1 jb2 bl1.size (by omega)
                go_wp2
                go_meet
                exact ⟨(r.small y).2, (Rdr.small_ok hr y).1, rfl, j1, j2, bl2⟩
              · have t3 : decide ((k : Int) + 1 < m) = false := decide_eq_false (by omega)
                go_wp2_with fail
                refine (rdr_small g1 r 5 _ H1.out hr (by decide) (by decide)).mono ?_
                rintro e w4 ⟨rfl, k1, kb1⟩
                have k2 := kb1.rdr H2.out (by omega)
                have bl1 := But.below hbel kb1 hbel.size hg1
                go_wp2_with fail
                refine (rrdr_small g2 r 5 _ k2 hr (by decide) (by decide)).mono ?_
                rintro e w5 ⟨rfl, j2, jb2⟩
                have j1 := jb2.rdr k1 (by omega)
                have bl2 := But.below bl1 jb2 bl1.size (by omega)
                go_wp2
                go_meet
                exact ⟨(r.small 5).2, (Rdr.small_ok hr 5).1, rfl, j1, j2, bl2⟩
            · go_wp2_with fail
              refine (rdr_text g1 r _ H1.out hr).mono ?_
              rintro e w4 ⟨rfl, k1, kb1⟩
              have k2 := kb1.rdr H2.out (by omega)
              have bl1 := But.below hbel kb1 hbel.size hg1
              go_wp2_with fail
              refine (rrdr_text g2 r _ k2 hr).mono ?_
              rintro e w5 ⟨rfl, j2, jb2⟩
              have j1 := jb2.rdr k1 (by omega)
              have bl2 := But.below bl1 jb2 bl1.size (by omega)
              go_wp2
              go_meet
              exact ⟨r.text.2, (Rdr.text_ok hr).1, rfl, j1, j2, bl2⟩
            · go_wp2
              go_meet
              exact ⟨r, hr, rfl, H1.out, H2.out, hbel⟩
          case rest =>
            obtain ⟨r', hr', rfl, j1, j2, bl⟩ := hcut
            go_wp2_with fail
            refine (rdr_left g1 r' _ j1 hr').mono ?_
            rintro e w4 ⟨rfl, q4⟩
            have k1 := q4.rdr j1
            have k2 := q4.rdr j2
            have b4 := bl.trans q4.below
            go_wp2_with fail
            refine (rrdr_left g2 r' _ k2 hr').mono ?_
            rintro e w5 ⟨rfl, q5⟩
            have l1 := q5.rdr k1
            have l2 := q5.rdr k2
            have b5 := b4.trans q5.below
            go_wp2_with fail
            refine (rdr_end g1 r' _ l1 hr').mono ?_
            rintro e w6 ⟨rfl, q6⟩
            have m1 := q6.rdr l1
            have m2 := q6.rdr l2
            have b6 := b5.trans q6.below
            go_wp2_with fail
            refine (rrdr_end g2 r' _ m2 hr').mono ?_
            rintro e w7 ⟨rfl, q7⟩
            have n1 := q7.rdr m1
            have n2 := q7.rdr m2
            have b7 := b6.trans q7.below
            go_wp2
            go_roundw
            case rel => exact ⟨k + 1, r', by omega, by omega, by go_num, hr', n1, n2, b7⟩
            case measure => simp [intOf]; omega
      · have t2 : decide ((k : Int) < 60) = false := decide_eq_false (by omega)
        go_wp2
        go_ret
        exact ⟨rfl, hbel⟩
    · have t1 : decide (k < m) = false := decide_eq_false hlt
      go_wp2
      go_ret
      exact ⟨rfl, hbel⟩
end Go.Proofs.Ytgkidcpcgceabaa
