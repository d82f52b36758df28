/- VintRows: for any numbers, texts and place the law answers true: a row is read as it was put, and nothing is left; cut short it is not whole. -/
import Derived.Test.YtgkidcpcgceabaaVawake
import Derived.Test.YtgkidcpcgceabaaVrows
import Derived.Test.YtgkidcpcgceabaaOpenI
import Derived.Test.YtgkidcpcgceabaaOpenS
import Derived.Deep.DeepCutAuto
import Derived.Deep.CutBlock
import Derived.Deep.RegionHeld3
namespace Go.Proofs.Ytgkidcpcgceabaa
open Go.RowKit
set_option linter.unusedVariables false
set_option linter.unusedSimpArgs false
theorem all_one (x : Int) (g : Nat) (w : World) (h0 : -9223372036854775808 ≤ x) (h1 : x ≤ 9223372036854775807) (hg : g < w.heap.size) (hc : w.cell? ⟨g, 0, none⟩ = some (.int .i64 x)) :
    Calls Try.prog 17 #[.slice (some ⟨g, 0, none⟩) 1 1] w fun e w' => e = .returned (.string (vput (zig x))) ∧ Below w.heap.size w w' :=
  (all_any _ 1 1 [x] _ ⟨rfl, .inr ⟨g, 0, rfl, hg, fun j hj => by
    have : j = 0 := by omega
    subst this
    exact hc⟩⟩ (by omega) (fun y hy => by simp at hy; subst hy; exact ⟨h0, h1⟩)).mono fun e w' ⟨h1, h2⟩ => ⟨by rw [h1, vall_one]; rfl, h2⟩
theorem ReadsS.at {w w' : World} {a : Option Addr} {n : Nat} {xs : List ByteArray} (h : ReadsS w a n xs) (hb : Below w.heap.size w w') (k : Nat) (hk : k < n) : ∃ b o, a = some ⟨b, o, none⟩ ∧ b < w.heap.size ∧ w'.cell? ⟨b, o + k, none⟩ = some (.string (xs.getD k ⟨#[]⟩)) := by
  obtain ⟨_, h2⟩ := h
  obtain ⟨b, o, h3, h4, h5⟩ := h2.resolve_left (by omega)
  exact ⟨b, o, h3, h4, (hb.cell (p := ⟨b, o + k, none⟩) h4).trans (h5 k hk)⟩
theorem ReadsI.at {k : IntKind} {w w' : World} {a : Option Addr} {n : Nat} {xs : List Int} (h : ReadsI k w a n xs) (hb : Below w.heap.size w w') (i : Nat) (hi : i < n) : ∃ b o, a = some ⟨b, o, none⟩ ∧ b < w.heap.size ∧ w'.cell? ⟨b, o + i, none⟩ = some (.int k (xs.getD i 0)) := by
  obtain ⟨_, h2⟩ := h
  obtain ⟨b, o, h3, h4, h5⟩ := h2.resolve_left (by omega)
  exact ⟨b, o, h3, h4, (hb.cell (p := ⟨b, o + i, none⟩) h4).trans (h5 i hi)⟩
theorem but_cell {g : Nat} {w w' : World} {b o : Nat} {v : Value} (h : But g w w') (hc : w.cell? ⟨b, o, none⟩ = some v) (hne : b ≠ g) : w'.cell? ⟨b, o, none⟩ = some v := by
  have hlt : b < w.heap.size := World.block_lt_of_cell? _ _ hc
  have := h.block b hlt (fun e => hne (by simp at e; exact e))
  simp only [World.cell?] at hc ⊢
  rw [this]
  exact hc
set_option maxHeartbeats 4000000 in
set_option maxRecDepth 100000 in
theorem rows_any (v1 : Value) (xs : List Int) (v2 : Value) (ts : List ByteArray) (at' : Int) (w : World) (hv1 : IsInts .i64 w v1 xs) (hv2 : IsStrs w v2 ts) (ha0 : -9223372036854775808 ≤ at') (ha1 : at' ≤ 9223372036854775807) :
    Calls Try.prog 9 #[v1, v2, .int .i64 at'] w fun e w' => e = .returned (.bool true) ∧ Below w.heap.size w w' := by
  obtain ⟨a, m, c, rfl, hmc, hc, hr1, hwf1⟩ := hv1
  obtain ⟨a', m', c', rfl, hmc', hc', hr2, hwf2⟩ := hv2
  have HR1 := Lib.hid hr1
  have HR2 := Lib.hid hr2
  have HW1 : Hid (∀ k, k < m → -9223372036854775808 ≤ xs.getD k 0 ∧ xs.getD k 0 ≤ 9223372036854775807) := fun k hk => bounds_i64 (hwf1 _ (by
    rw [List.getD_eq_getElem?_getD, List.getElem?_eq_getElem (by rw [hr1.1]; exact hk)]
    exact List.getElem_mem _))
  have HW2 : Hid (∀ k, k < m' → (ts.getD k ⟨#[]⟩).size ≤ 9223372036854775807) := fun k hk => hwf2 _ (by
    rw [List.getD_eq_getElem?_getD, List.getElem?_eq_getElem (by rw [hr2.1]; exact hk)]
    exact List.getElem_mem _)
  clear hr1 hr2 hwf1 hwf2
  go_enter Try.func9, Try.ntmps9
  go_wp2_with fail
  refine (awake_any _).mono ?_
  rintro e w1 ⟨rfl, hb1⟩
  go_upto_block 0 with (fail)
  go_cut [8, 9] (fun s n wx => ∃ k : Nat, k ≤ m ∧ k ≤ m' ∧ k ≤ 20 ∧ n = .int .i64 k ∧ s = .string (rowB xs ts k) ∧ Below w.heap.size w wx)
  case first =>
    go_wp2_with fail
    go_loopw [8, 9, 10] (fun s n i wr => ∃ k : Nat, k ≤ m ∧ k ≤ m' ∧ k ≤ 20 ∧ i = .int .i64 k ∧ n = .int .i64 k ∧ s = .string (rowB xs ts k) ∧ Below w.heap.size w wr) (fun _ _ i _ => 21 - (intOf i).toNat)
    case atStart => exact ⟨0, by omega, by omega, by omega, rfl, rfl, rfl, hb1⟩
    case round =>
      obtain ⟨k, hk1, hk2, hk3, rfl, rfl, rfl, hbel⟩ := hrel
      have hsz := rowB_size xs ts k
      by_cases hgo : k < m ∧ k < m' ∧ k < 20
      · obtain ⟨g1, g2, g3⟩ := hgo
        have t1 : decide (k < m) = true := decide_eq_true g1
        have t2 : decide (k < m') = true := decide_eq_true g2
        have t3 : decide ((k : Int) < 20) = true := decide_eq_true (by omega)
        obtain ⟨b, o, rfl, hbl, hcell⟩ := HR1.out.at hbel k g1
        obtain ⟨b', o', rfl, hbl', hcell'⟩ := HR2.out.at hbel k g2
        have hx := HW1.out k g1
        have ht := HW2.out k g2
        have HS : Hid (rowB xs ts (k + 1) = rowB xs ts k ++ vput (zig (xs.getD k 0)) ++ vtext ((ts.getD k ⟨#[]⟩).extract 0 60)) := rfl
        have hz1 := vput_le (zig (xs.getD k 0))
        have hz2 : ((ts.getD k ⟨#[]⟩).extract 0 60).size ≤ 60 := by rw [ByteArray.size_extract]; omega
        have hz3 : (vtext ((ts.getD k ⟨#[]⟩).extract 0 60)).size ≤ 70 := by
          have := vput_le ((((ts.getD k ⟨#[]⟩).extract 0 60).size : Nat) : Int)
          rw [vtext_size]; omega
        generalize xs.getD k 0 = x at *
        generalize ts.getD k ⟨#[]⟩ = t at *
        generalize rowB xs ts k = R at *
        have hadd1 : ∀ wx : World, (Op.stringOp .add R (vput (zig x))).run Try.prog wx = .ok (.string (R ++ vput (zig x))) wx := fun wx => run_string_add_sum wx _ _ (by omega)
        have hadd2 : ∀ wx : World, (Op.stringOp .add (R ++ vput (zig x)) (vtext (t.extract 0 60))).run Try.prog wx = .ok (.string (R ++ vput (zig x) ++ vtext (t.extract 0 60))) wx := fun wx => run_string_add_sum wx _ _ (by rw [ByteArray.size_append]; omega)
        go_upto_region 7 with (fail)
        go_cut [8] (fun s wx => s = .string (rowB xs ts (k + 1)) ∧ Below w.heap.size w wx)
        case first =>
          go_region_held3 (fun wx => wx.cell? ⟨b, o + k, none⟩ = some (.int .i64 x) ∧ wx.cell? ⟨b', o' + k, none⟩ = some (.string t))
            (first
              | go_keep
              | exact ⟨cell_later (by assumption) (by go_simp), cell_later (by assumption) (by go_simp)⟩)
            (first
              | (go_at_call 17; refine (all_one x _ _ hx.1 hx.2 ?_ ?_).mono ?_; (simp); (simp); rintro e w4 ⟨rfl, hb4⟩)
              | (go_at_call 11; refine (short_any t 60 _ ht (by omega)).mono ?_; rintro e w5 ⟨rfl, rfl⟩)
              | (go_at_call 22; refine (text_any _ _ (by omega)).mono ?_; rintro e w6 ⟨rfl, hb6⟩))
          go_wp2_with fail
          go_meet
          refine ⟨by rw [HS.out], ?_⟩
          have hA : Below w.heap.size w (wr.alloc (.cells #[.int .i64 x] 2)).drew := (hbel.alloc hbel.size _).drew
          have hB := below_then hA hA.size hb4
          exact below_then hB hB.size hb6
        case rest =>
          obtain ⟨rfl, hbc⟩ := hcut
          go_wp2
          go_roundw
          case rel => exact ⟨k + 1, by omega, by omega, by omega, by go_num, by go_num, rfl, hbc⟩
          case measure => simp [intOf]; omega
      · clear hsz
        by_cases g1 : k < m
        · have t1 : decide (k < m) = true := decide_eq_true g1
          by_cases g2 : k < m'
          · have t2 : decide (k < m') = true := decide_eq_true g2
            have t3 : decide ((k : Int) < 20) = false := decide_eq_false (by omega)
            go_wp2_with fail
            go_meet
            exact ⟨k, hk1, hk2, hk3, rfl, rfl, hbel⟩
          · have t2 : decide (k < m') = false := decide_eq_false g2
            go_wp2_with fail
            go_meet
            exact ⟨k, hk1, hk2, hk3, rfl, rfl, hbel⟩
        · have t1 : decide (k < m) = false := decide_eq_false g1
          go_wp2_with fail
          go_meet
          exact ⟨k, hk1, hk2, hk3, rfl, rfl, hbel⟩
  case rest =>
    obtain ⟨n, hn1, hn2, hn3, rfl, rfl, hbel⟩ := hcut
    have HZ := Lib.hid (rowB_size xs ts n)
    have HP := Lib.hid fun k (hk : k < n) => row_pair xs ts k n hk (HW1.out k (by omega))
    have HQ := Lib.hid fun q k r (h : pieceAt xs ts n q k r) (hk : k < n) => piece_step h hk (HW1.out k (by omega))
    go_wp2_with fail
    refine (rdr_read _ _).mono ?_
    rintro e w2 ⟨rfl, hr2, hb2⟩
    have hbl := below_then hbel hbel.size hb2
    have hg : w.heap.size ≤ wc.heap.size := hbel.size
    generalize wc.heap.size = g at *
    have H2 := Lib.hid hr2
    clear hr2 hb2 hbel
    go_upto_block 2 with (fail)
    go_cut [12] (fun i wx => RdrAt 42 wx g ⟨rowB xs ts n, (rowB xs ts n).size, false⟩ ∧ Below w.heap.size w wx)
    case first =>
      go_wp2_with fail
      go_loopw [12] (fun i wr => ∃ k : Nat, k ≤ n ∧ i = .int .i64 k ∧ RdrAt 42 wr g ⟨rowB xs ts n, (rowB xs ts k).size, false⟩ ∧ Below w.heap.size w wr) (fun i _ => (n + 1) - (intOf i).toNat)
      case atStart => exact ⟨0, by omega, rfl, H2.out, hbl⟩
      case round =>
        obtain ⟨k, hk, rfl, hrk, hbel⟩ := hrel
        have HRK := Lib.hid hrk
        clear hrk
        by_cases hlt : k < n
        · have t1 : decide (k < n) = true := decide_eq_true hlt
          obtain ⟨b, o, rfl, hbb, hcell⟩ := HR1.out.at hbel k (by omega)
          obtain ⟨b', o', rfl, hbb', hcell'⟩ := HR2.out.at hbel k (by omega)
          have hx := HW1.out k (by omega)
          have ht := HW2.out k (by omega)
          have i1 : (0 : Int) ≤ (k : Int) := by omega
          have i2 : (k : Int) < (m : Int) := by omega
          have i3 : (k : Int) < (m' : Int) := by omega
          obtain ⟨p1, p2⟩ := HP.out k hlt
          have hsz := rowB_size xs ts n
          obtain ⟨C, hC⟩ := rowB_split xs ts k n hk
          have hsz2 : (rowB xs ts k).size ≤ (rowB xs ts n).size := by rw [hC, ByteArray.size_append]; omega
          clear hC
          have HN : Hid (∀ wx, RdrAt 42 wx g ⟨rowB xs ts n, ((rowB xs ts (k + 1)).size : Nat), false⟩ → RdrAt 42 wx g ⟨rowB xs ts n, ((rowB xs ts (k + 1)).size : Nat), false⟩) := fun _ h => h
          have hok : (⟨rowB xs ts n, (rowB xs ts k).size, false⟩ : Rdr).ok := ⟨by simp only; omega, by simp only; omega, by simp only; omega⟩
          have hok1 := (Rdr.int_ok hok).1
          rw [p1] at hok1
          have hok2 := (Rdr.text_ok hok1).1
          rw [p2] at hok2
          have hE : Hid ((⟨rowB xs ts n, ((rowB xs ts (k + 1)).size : Nat), false⟩ : Rdr) = ⟨rowB xs ts n, ((rowB xs ts (k + 1)).size : Nat), false⟩) := rfl
          have cI : ∀ wx, RdrAt 42 wx g ⟨rowB xs ts n, (rowB xs ts k).size, false⟩ → Calls Try.prog 25 #[.pointer (some ⟨g, 0, none⟩)] wx fun e w' => e = .returned (.int .i64 (xs.getD k 0)) ∧ RdrAt 42 w' g ⟨rowB xs ts n, ((rowB xs ts k).size : Int) + ((vput (zig (xs.getD k 0))).size : Nat), false⟩ ∧ But g wx w' := fun wx h => (rdr_int g _ wx h hok).mono fun e w' h => by rw [p1] at h; exact h
          have cT : ∀ wx, RdrAt 42 wx g ⟨rowB xs ts n, ((rowB xs ts k).size : Int) + ((vput (zig (xs.getD k 0))).size : Nat), false⟩ → Calls Try.prog 27 #[.pointer (some ⟨g, 0, none⟩)] wx fun e w' => e = .returned (.string ((ts.getD k ⟨#[]⟩).extract 0 60)) ∧ RdrAt 42 w' g ⟨rowB xs ts n, ((rowB xs ts (k + 1)).size : Nat), false⟩ ∧ But g wx w' := fun wx h => (rdr_text g _ wx h hok1).mono fun e w' h => by rw [p2] at h; exact h
          clear p1 p2 hok hok1 hok2 hsz hsz2
          generalize hQ1 : (⟨rowB xs ts n, (rowB xs ts k).size, false⟩ : Rdr) = r0 at HRK cI
          generalize hQ2 : (⟨rowB xs ts n, ((rowB xs ts k).size : Int) + ((vput (zig (xs.getD k 0))).size : Nat), false⟩ : Rdr) = r1 at cI cT
          generalize hQ3 : (⟨rowB xs ts n, ((rowB xs ts (k + 1)).size : Nat), false⟩ : Rdr) = r2 at cT hE
          clear hQ1 hQ2
          have HQ3 := Lib.hid hQ3
          clear hQ3 hE HN
          generalize xs.getD k 0 = x at *
          generalize ts.getD k ⟨#[]⟩ = t at *
          go_upto_region 15 with (fail)
          go_region_held3 (fun wx => wx.cell? ⟨b, o + k, none⟩ = some (.int .i64 x) ∧ wx.cell? ⟨b', o' + k, none⟩ = some (.string t))
            (first
              | go_keep
              | exact ⟨but_cell (by assumption) (by go_simp) (by omega), but_cell (by assumption) (by go_simp) (by omega)⟩)
            (first
              | (go_at_call 25; refine (cI _ (by exact HRK.out)).mono ?_; rintro e w4 ⟨rfl, k1, kb1⟩)
              | (go_at_call 27; refine (cT _ (by exact k1)).mono ?_; rintro e w5 ⟨rfl, k2, kb2⟩)
              | (go_at_call 11; refine (short_any t 60 _ ht (by omega)).mono ?_; rintro e w6 ⟨rfl, rfl⟩))
          go_wp2
          go_roundw
          case rel => exact ⟨k + 1, by omega, by go_num, by rw [HQ3.out]; exact k2, But.below (But.below hbel.drew kb1 hbel.size hg) kb2 (Nat.le_trans hbel.size kb1.size) hg⟩
          case measure => simp [intOf]; omega
        · have t1 : decide (k < n) = false := decide_eq_false hlt
          have : k = n := by omega
          subst this
          go_wp2_with fail
          go_meet
          exact ⟨HRK.out, hbel⟩
    case rest =>
      obtain ⟨hr2, hbl2⟩ := hcut
      have hsz := HZ.out
      have hok : (⟨rowB xs ts n, (rowB xs ts n).size, false⟩ : Rdr).ok := ⟨by simp only; omega, by simp only; omega, by simp only; omega⟩
      have e1 : (⟨rowB xs ts n, (rowB xs ts n).size, false⟩ : Rdr).fin = 0 := if_neg (by simp)
      have e2 : (⟨rowB xs ts n, (rowB xs ts n).size, false⟩ : Rdr).left = 0 := by simp [Rdr.left]
      have cE : ∀ wx, RdrAt 42 wx g ⟨rowB xs ts n, (rowB xs ts n).size, false⟩ → Calls Try.prog 29 #[.pointer (some ⟨g, 0, none⟩)] wx fun e w' => e = .returned (.int .i64 0) ∧ QuietFrom wx w' := fun wx h => (rdr_end g _ wx h hok).mono fun e w' h => by rw [e1] at h; exact h
      have cL : ∀ wx, RdrAt 42 wx g ⟨rowB xs ts n, (rowB xs ts n).size, false⟩ → Calls Try.prog 28 #[.pointer (some ⟨g, 0, none⟩)] wx fun e w' => e = .returned (.int .i64 0) ∧ QuietFrom wx w' := fun wx h => (rdr_left g _ wx h hok).mono fun e w' h => by rw [e2] at h; exact h
      clear e1 e2
      go_wp2_with fail
      refine (cE _ hr2).mono ?_
      rintro e w3 ⟨rfl, q3⟩
      have k3 := q3.rdr hr2
      have b3 := hbl2.trans q3.below
      clear hr2 hbl2 q3
      go_wp2_with fail
      refine (cL _ k3).mono ?_
      rintro e w4 ⟨rfl, q4⟩
      have k4 := q4.rdr k3
      have b4 := b3.trans q4.below
      clear k3 b3 q4
      by_cases hn0 : n = 0
      · have t1 : ((n : Int) == 0) = true := by simp [hn0]
        go_wp2_with fail
        refine (cE _ k4).mono ?_
        rintro e w5 ⟨rfl, q5⟩
        go_wp2
        go_ret
        exact ⟨rfl, b4.trans q5.below⟩
      · have t1 : ((n : Int) == 0) = false := by simp; omega
        have hS1 : 1 ≤ (rowB xs ts n).size := by
          obtain ⟨m, rfl⟩ : ∃ m, n = m + 1 := ⟨n - 1, by omega⟩
          have := vput_pos (zig (xs.getD m 0))
          simp only [rowB, ByteArray.size_append]
          omega
        clear hok
        go_upto_if 96 with (fail)
        go_cut [13] (fun kk wx => ∃ q : Int, 0 ≤ q ∧ q ≤ 9223372036854775807 ∧ kk = .int .i64 q ∧ wx = w4)
        case first =>
          by_cases hneg : at' < 0
          · have t3 : decide (at' < 0) = true := decide_eq_true hneg
            go_wp2_with fail
            go_meet
            exact ⟨-(at' + 1), by omega, by omega, rfl, rfl⟩
          · have t3 : decide (at' < 0) = false := decide_eq_false hneg
            go_wp2_with fail
            go_meet
            exact ⟨at', by omega, by omega, rfl, rfl⟩
        case rest =>
          obtain ⟨q, hq0, hq1, rfl, rfl⟩ := hcut
          have hm := Int.emod_lt_of_pos q (b := (rowB xs ts n).size) (by omega)
          have hm0 := Int.emod_nonneg q (b := (rowB xs ts n).size) (by omega)
          have HQQ := HQ.out
          have hrk0 : pieceAt xs ts n (q % (rowB xs ts n).size).toNat 0 ⟨(rowB xs ts n).extract 0 (q % (rowB xs ts n).size).toNat, 0, false⟩ := .inr rfl
          have hsl : ∀ wx : World, (Instr.slice 9 (.string (rowB xs ts n)) none (some (.int .i64 (q % (rowB xs ts n).size))) none).run Try.prog wx = .ok (.string ((rowB xs ts n).extract 0 (q % (rowB xs ts n).size).toNat)) wx := fun wx => by
            have := run_slice_string_h (P := Try.prog) (w := wx) (t := 9) (s := rowB xs ts n) Try.underlying9 .i64 (q % (rowB xs ts n).size) hm0 (by omega)
            simpa using this
          have hS2 : ((rowB xs ts n).size : Int) ≤ 1600 := by omega
          have hS3 : ((rowB xs ts n).size : Int) ≠ 0 := by omega
          have hsq : ((rowB xs ts n).extract 0 (q % (rowB xs ts n).size).toNat).size ≤ 1600 := by rw [ByteArray.size_extract]; omega
          have hqq : (q % (rowB xs ts n).size).toNat < (rowB xs ts n).size := by omega
          have HF := Lib.hid fun r (h : pieceAt xs ts n (q % (rowB xs ts n).size).toNat n r) (hr : r.ok) => piece_end h hr hqq
          have HQQ := Lib.hid (HQ.out (q % (rowB xs ts n).size).toNat)
          generalize hpa : pieceAt xs ts n (q % (rowB xs ts n).size).toNat = PA at *
          clear hpa
          generalize (rowB xs ts n).extract 0 (q % (rowB xs ts n).size).toNat = piece at *
          go_wp2_with fail
          refine (rdr_read piece _).mono ?_
          rintro e w5 ⟨rfl, hr5, hb5⟩
          have bl := below_then b4 b4.size hb5
          have hg5 : w.heap.size ≤ wc.heap.size := b4.size
          have hok0 : (⟨piece, 0, false⟩ : Rdr).ok := ⟨by simp only; omega, by simp, by simp⟩
          generalize wc.heap.size = g5 at *
          have H0 := Lib.hid (And.intro hrk0 (And.intro hok0 (And.intro hr5 bl)))
          clear hr5 bl hok0 hrk0 hsl hm hm0 hsq hqq k4 b4 hb5
          clear cE cL
          go_wp2_with fail
          go_loopw [15] (fun i wr => ∃ (k : Nat) (r : Rdr), k ≤ n ∧ i = .int .i64 k ∧ PA k r ∧ r.ok ∧ RdrAt 42 wr g5 r ∧ Below w.heap.size w wr) (fun i _ => (n + 1) - (intOf i).toNat)
          case atStart => exact ⟨0, _, by omega, rfl, H0.out⟩
          case round =>
            obtain ⟨k, r, hk, rfl, hpk, hrk, hat, hbel⟩ := hrel
            by_cases hlt : k < n
            · have t5 : decide (k < n) = true := decide_eq_true hlt
              have hpk1 := Lib.hid (HQQ.out k r hpk hlt)
              clear hpk
              have hrk1 := (Rdr.int_ok hrk).1
              have hrk2 := (Rdr.text_ok hrk1).1
              go_wp2_with fail
              refine (rdr_int g5 r _ hat hrk).mono ?_
              rintro e w6 ⟨rfl, k6, kb6⟩
              have bl6 := But.below hbel kb6 hbel.size hg5
              go_wp2_with fail
              refine (rdr_text g5 r.int.2 _ k6 hrk1).mono ?_
              rintro e w7 ⟨rfl, k7, kb7⟩
              have bl7 := But.below bl6 kb7 bl6.size hg5
              go_wp2
              go_roundw
              case rel => exact ⟨k + 1, r.int.2.text.2, by omega, by go_num, hpk1.out, hrk2, k7, bl7⟩
              case measure => simp [intOf]; omega
            · have t5 : decide (k < n) = false := decide_eq_false hlt
              have : k = n := by omega
              subst this
              have hfin := HF.out r hpk hrk
              go_wp2_with fail
              refine (rdr_end g5 r _ hat hrk).mono ?_
              rintro e w6 ⟨rfl, q6⟩
              rw [hfin]
              go_wp2
              go_ret
              exact ⟨rfl, hbel.trans q6.below⟩
end Go.Proofs.Ytgkidcpcgceabaa
