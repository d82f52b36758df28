/- AggParts: for any points, and any two places of cuts, the law answers true. -/
import Derived.Test.YtojnooagifhekaaGAggParts51
import Derived.Test.YtojnooagifhekaaGAggParts34
import Derived.Test.YtojnooagifhekaaGAggParts33
import Derived.Test.YtojnooagifhekaaGAggParts21
namespace Go.Proofs.Ytojnooagifhekaa
section
open Go.RowKit
set_option maxRecDepth 100000
set_option linter.unusedVariables false
set_option linter.unusedSimpArgs false
attribute [local go_sem ↓] Go.wp_at_zero Go.wp_at_succ
def twO (a b : Int) : Obj := .cells #[.int .i64 a, .int .i64 b] 54 (0, 0)
/-- What the three parts' regions know. -/
structure PaI (w0 : World) (gx gy gz : Nat) (X Y Z : Ag) (L : List (Nat × Obj)) (w : World) : Prop where
  k : Kn w0.heap.size w0 L w
  x : (gx, agO X) ∈ L
  y : (gy, agO Y) ∈ L
  z : (gz, agO Z) ∈ L
theorem PaI.held {w0 w wd : World} {gx gy gz : Nat} {X Y Z : Ag} {L : List (Nat × Obj)} (h : PaI w0 gx gy gz X Y Z L w) (e : wd.heap = w.heap) : wd.heap[gx]? = some (agO X) ∧ wd.heap[gy]? = some (agO Y) ∧ wd.heap[gz]? = some (agO Z) := by
  rw [e]; exact ⟨h.k.at_ _ h.x, h.k.at_ _ h.y, h.k.at_ _ h.z⟩
theorem PaI.later {w0 w wd w' : World} {gx gy gz : Nat} {X Y Z : Ag} {L : List (Nat × Obj)} (h : PaI w0 gx gy gz X Y Z L w) (d : Below wd.heap.size wd w') (e1 : wd.heap = w.heap) (e2 : wd.os = w.os) (e3 : wd.tape = w.tape) (e4 : wd.output = w.output) : PaI w0 gx gy gz X Y Z L w' := ⟨h.k.later d e1 e2 e3 e4, h.x, h.y, h.z⟩
theorem PaI.same {w0 w wd : World} {gx gy gz : Nat} {X Y Z : Ag} {L : List (Nat × Obj)} (h : PaI w0 gx gy gz X Y Z L w) (e1 : wd.heap = w.heap) (e2 : wd.os = w.os) (e3 : wd.tape = w.tape) (e4 : wd.output = w.output) : PaI w0 gx gy gz X Y Z L wd := ⟨h.k.same e1 e2 e3 e4, h.x, h.y, h.z⟩
theorem PaI.new {w0 w : World} {gx gy gz : Nat} {X Y Z : Ag} {L : List (Nat × Obj)} (h : PaI w0 gx gy gz X Y Z L w) (o : Obj) : PaI w0 gx gy gz X Y Z ((w.heap.size, o) :: L) (w.alloc o) := ⟨h.k.new o, List.mem_cons_of_mem _ h.x, List.mem_cons_of_mem _ h.y, List.mem_cons_of_mem _ h.z⟩
theorem apart_lt {k : Nat} {L : List (Nat × Obj)} (h : ∀ p ∈ L, p.1 < k) : Apart k L := by
  induction L with
  | nil => trivial
  | cons p r ih => exact ⟨by have := h p (by simp); omega, ih (fun q hq => h q (List.mem_cons_of_mem _ hq))⟩
/-- A block was made, and is not written yet. -/
structure PaJ (w0 : World) (gx gy gz : Nat) (X Y Z : Ag) (L : List (Nat × Obj)) (j : Nat) (w : World) : Prop where
  k : Kn w0.heap.size w0 ((j, agO Ag0) :: L) w
  a : Apart j L
  ge : w0.heap.size ≤ j
  x : (gx, agO X) ∈ L
  y : (gy, agO Y) ∈ L
  z : (gz, agO Z) ∈ L
section
variable {w0 w wd w' : World} {gx gy gz j : Nat} {X Y Z : Ag} {L : List (Nat × Obj)}
theorem PaI.alloc (h : PaI w0 gx gy gz X Y Z L w) : PaJ w0 gx gy gz X Y Z L w.heap.size (w.alloc (agO Ag0)) := ⟨h.k.new _, apart_lt h.k.lt, h.k.le, h.x, h.y, h.z⟩
theorem PaJ.held (h : PaJ w0 gx gy gz X Y Z L j w) (e : wd.heap = w.heap) : wd.heap[gx]? = some (agO X) ∧ wd.heap[gy]? = some (agO Y) ∧ wd.heap[gz]? = some (agO Z) := by
  rw [e]; exact ⟨h.k.tl.at_ _ h.x, h.k.tl.at_ _ h.y, h.k.tl.at_ _ h.z⟩
theorem PaJ.later (h : PaJ w0 gx gy gz X Y Z L j w) (d : Below wd.heap.size wd w') (e1 : wd.heap = w.heap) (e2 : wd.os = w.os) (e3 : wd.tape = w.tape) (e4 : wd.output = w.output) : PaJ w0 gx gy gz X Y Z L j w' := ⟨h.k.later d e1 e2 e3 e4, h.a, h.ge, h.x, h.y, h.z⟩
theorem PaJ.at_ (h : PaJ w0 gx gy gz X Y Z L j w) : w.heap[j]? = some (agO Ag0) := h.k.hd
theorem PaJ.store (h : PaJ w0 gx gy gz X Y Z L j w) (R : Ag) : PaI w0 gx gy gz X Y Z ((j, agO R) :: L) (w.setRow j R.cs.toArray) := ⟨Kn.setRow h.k h.a h.ge (agO R), List.mem_cons_of_mem _ h.x, List.mem_cons_of_mem _ h.y, List.mem_cons_of_mem _ h.z⟩
end
theorem PaI.row {w0 w : World} {gx gy gz g : Nat} {o : Ag} {X Y Z R : Ag} {L : List (Nat × Obj)} (h : PaI w0 gx gy gz X Y Z ((g, agO o) :: L) w) (hl : Apart g L) (hg : w0.heap.size ≤ g) (hX : (gx, agO X) ∈ L) (hY : (gy, agO Y) ∈ L) (hZ : (gz, agO Z) ∈ L) : PaI w0 gx gy gz X Y Z ((g, agO R) :: L) (w.setRow g R.cs.toArray) :=
  ⟨Kn.setRow h.k hl hg (agO R), List.mem_cons_of_mem _ hX, List.mem_cons_of_mem _ hY, List.mem_cons_of_mem _ hZ⟩
theorem parts_neg (k : Int) (m : Nat) (hn : k < 0) (hm : m ≤ 40) : ∃ d : Nat, d ≤ m ∧ -((k + 1).tmod ((m : Int) + 1)) = (d : Int) := by
  have e : -((k + 1).tmod ((m : Int) + 1)) = (-(k + 1)).tmod ((m : Int) + 1) := (Int.neg_tmod ..).symm
  rw [e, Int.tmod_eq_emod_of_nonneg (by omega)]
  have e1 := Int.emod_nonneg (-(k + 1)) (show (m : Int) + 1 ≠ 0 by omega)
  have e2 := Int.emod_lt_of_pos (-(k + 1)) (show (0 : Int) < (m : Int) + 1 by omega)
  exact ⟨((-(k + 1)) % ((m : Int) + 1)).toNat, by omega, by omega⟩
theorem parts_pos (k : Int) (m : Nat) (hm : m ≤ 40) : ∃ d : Nat, d ≤ m ∧ k % ((m : Int) + 1) = (d : Int) := by
  have e1 := Int.emod_nonneg k (show (m : Int) + 1 ≠ 0 by omega)
  have e2 := Int.emod_lt_of_pos k (show (0 : Int) < (m : Int) + 1 by omega)
  exact ⟨(k % ((m : Int) + 1)).toNat, by omega, by omega⟩
/-- A part of the points' row, from l on, to h. -/
theorem reads_part {w : World} {a : Option Addr} {n : Nat} {xs : List Pt} (h : ReadsE Pt.cs 6 w a n xs) (l r : Nat) (hl : l ≤ r) (hr : r ≤ n) : ∀ b o, a = some ⟨b, o, none⟩ → ReadsE Pt.cs 6 w (some ⟨b, o + l * 6, none⟩) (r - l) ((xs.take r).drop l) := by
  rintro b o rfl
  exact ReadsE.drop (ReadsE.take h r hr) l hl
theorem tw_cells {B : Nat} {w0 w : World} {l : List (Nat × Obj)} {g : Nat} {a b : Int} (h : Kn B w0 l w) (hm : (g, twO a b) ∈ l) : w.cell? ⟨g, 0, none⟩ = some (.int .i64 a) ∧ w.cell? ⟨g, 1, none⟩ = some (.int .i64 b) := ⟨h.cell hm (j := 0) rfl, h.cell hm (j := 1) rfl⟩
theorem Kn.tw0 {B : Nat} {w0 w : World} {l : List (Nat × Obj)} {g : Nat} {a b : Int} (h : Kn B w0 ((g, twO a b) :: l) w) (hl : Apart g l) (hg : B ≤ g) (d : Int) : Kn B w0 ((g, twO d b) :: l) (w.setCell ⟨g, 0, none⟩ (.int .i64 d)) := Kn.setCell h hl hg 0 _ (twO d b) (cs := #[.int .i64 a, .int .i64 b]) rfl
theorem Kn.tw1 {B : Nat} {w0 w : World} {l : List (Nat × Obj)} {g : Nat} {a b : Int} (h : Kn B w0 ((g, twO a b) :: l) w) (hl : Apart g l) (hg : B ≤ g) (d : Int) : Kn B w0 ((g, twO a d) :: l) (w.setCell ⟨g, 1, none⟩ (.int .i64 d)) := Kn.setCell h hl hg 1 _ (twO a d) (cs := #[.int .i64 a, .int .i64 b]) rfl
set_option maxHeartbeats 64000000 in
theorem parts_any (a0 : Option Addr) (n c : Nat) (xs : List Pt) (q0 q1 : Int) (w : World) (h : ReadsE Pt.cs 6 w a0 n xs) (hwf : ∀ x ∈ xs, x.wf) (hnc : n ≤ c) (hcb : c ≤ 9223372036854775807) (h0 : i64 q0) (h1 : i64 q1) : Calls Try.prog 10 #[.slice a0 n c, .agg #[.int .i64 q0, .int .i64 q1]] w fun e w' => e = .returned (.bool true) ∧ Below w.heap.size w w' := by
  have H := Lib.hid h
  have HRT := fun wx hb => pright_any a0 n c xs wx (H.out.below hb) hwf hnc hcb
  have hle := right_le xs
  have hwf2 := right_wf xs hwf
  have hok2 := right_okV xs
  have hap := right_apart xs
  generalize rightV xs = L at *
  have hF := fold_ok L hwf2
  have HOKA := Lib.hid (fold_okA L hwf2 hok2 hle)
  have hcnt : (foldV L).cnt = L.length := (fold_good L (by omega)).2
  obtain ⟨m, hm⟩ : ∃ m, L.length = m := ⟨_, rfl⟩
  rw [hm] at hle hcnt HRT
  have HLN := Lib.hid hm
  have HQ := Lib.hid (And.intro h0 h1)
  clear h h0 h1 hm
  go_enter Try.func10, Try.ntmps10
  go_upto_region 1 with fail
  have KK := Lib.hid (show Kn w.heap.size w [(w.heap.size, twO q0 q1)] (w.alloc (.cells #[.int .i64 q0, .int .i64 q1] 54)) from (Kn.start w).new (twO q0 q1))
  obtain ⟨B, hB⟩ : ∃ B, Hid (w.heap.size = B) := ⟨_, rfl⟩
  rw [hB.out] at KK ⊢
  obtain ⟨gq, hgq⟩ : ∃ gq, Hid (B = gq) := ⟨_, rfl⟩
  generalize w.alloc (.cells #[.int .i64 q0, .int .i64 q1] 54) = wa at *
  go_upto_region 2 with (go_at_call 11; refine (awake_any _).mono ?_; rintro e w1 ⟨rfl, dn⟩; have KK := Lib.hid (KK.out.below dn); clear dn)
  go_upto_region 3 with (go_at_call 25; refine (HRT _ (by rw [hB.out]; exact KK.out.b)).mono ?_; rintro e w2 ⟨a2, cap, rfl, hA, dn⟩; have hbw := KK.out.fresh; have KK := Lib.hid (KK.out.below dn); have AP := Lib.hid hA; clear dn hA)
  have HB2 : Hid (Below w.heap.size w w2) := by have := KK.out.b; rw [← hB.out] at this; exact this
  have H2 := Lib.hid ((AP.out.reads pt_len (by decide)).1)
  have hcap := AP.out.max
  unfold maxLen at hcap
  have hmc := AP.out.le
  have HS2 : Hid (a2 = none → m = 0) := fun e => by
    rcases H2.out.2 with h | ⟨b, o, e2, _⟩
    · exact h
    · rw [e] at e2; simp at e2
  have KK := Lib.hid (show Kn w2.heap.size w2 [(B, twO q0 q1)] w2 from ⟨KK.out.at_, Below.refl _ _, Nat.le_refl _⟩)
  have hgq2 := KK.out.lt (B, twO q0 q1) (by simp)
  simp only at hgq2
  clear AP hbw HRT H
  go_upto_region 4 with fail
  have KK := Lib.hid (show Kn w2.heap.size w2 [(w2.heap.size, twO 0 0), (B, twO q0 q1)] (w2.alloc (.cells #[.int .i64 0, .int .i64 0] 54)) from KK.out.new (twO 0 0))
  generalize hw3 : World.alloc _ _ = w3
  have KK := Lib.hid (show Kn w2.heap.size w2 [(w2.heap.size, twO 0 0), (B, twO q0 q1)] w3 by rw [← hw3]; exact KK.out)
  clear hw3
  obtain ⟨g, hg⟩ : ∃ g, w2.heap.size = g := ⟨_, rfl⟩
  rw [hg] at KK hgq2 ⊢
  go_wp2_with fail
  go_loopw [8, 9] (fun i kk wr => ∃ j d0 d1 : Nat, j ≤ 2 ∧ i = .int .i64 j ∧ d0 ≤ m ∧ d1 ≤ m ∧ Kn g w2 [(g, twO d0 d1), (B, twO q0 q1)] wr) (fun i _ _ => 2 - (intOf i).toNat)
  case atStart => exact ⟨0, 0, 0, by omega, rfl, by omega, by omega, KK.out⟩
  case round =>
    obtain ⟨j, d0, d1, hj, rfl, h0, h1, hk⟩ := hrel
    clear KK
    have KK := Lib.hid hk
    clear hk
    obtain ⟨b0, b1⟩ := tw_cells KK.out (g := B) (a := q0) (b := q1) (by simp)
    obtain ⟨x0, x1⟩ := tw_cells KK.out (g := g) (a := d0) (b := d1) (by simp)
    have FZ := fun j => KK.out.fz (g := g) (o := twO d0 d1) (by simp) j
    obtain rfl | rfl | rfl : j = 0 ∨ j = 1 ∨ j = 2 := by omega
    · skip
      have hr := HQ.out.1
      unfold i64 at hr
      go_upto_region 8 with fail
      by_cases hn : q0 < 0
      · obtain ⟨d, hd, he⟩ := parts_neg q0 m hn hle
        have t1 : decide (q0 < 0) = true := decide_eq_true hn
        go_upto_region 10 with fail
        have HE := Lib.hid he
        clear he
        go_wp2_with fail
        go_roundw
        case rel => exact (by rw [HE.out]; exact ⟨1, d, d1, by omega, by go_num, by omega, by omega, Kn.tw0 KK.out ⟨by simp; omega, trivial⟩ (Nat.le_refl _) d⟩)
        case measure => simp [intOf]
      · obtain ⟨d, hd, he⟩ := parts_pos q0 m hle
        have t1 : decide (q0 < 0) = false := decide_eq_false hn
        go_upto_region 10 with fail
        have HE := Lib.hid he
        clear he
        go_wp2_with fail
        go_roundw
        case rel => exact (by rw [HE.out]; exact ⟨1, d, d1, by omega, by go_num, by omega, by omega, Kn.tw0 KK.out ⟨by simp; omega, trivial⟩ (Nat.le_refl _) d⟩)
        case measure => simp [intOf]
    · skip
      have hr := HQ.out.2
      unfold i64 at hr
      go_upto_region 8 with fail
      by_cases hn : q1 < 0
      · obtain ⟨d, hd, he⟩ := parts_neg q1 m hn hle
        have t1 : decide (q1 < 0) = true := decide_eq_true hn
        go_upto_region 10 with fail
        have HE := Lib.hid he
        clear he
        go_wp2_with fail
        go_roundw
        case rel => exact (by rw [HE.out]; exact ⟨2, d0, d, by omega, by go_num, by omega, by omega, Kn.tw1 KK.out ⟨by simp; omega, trivial⟩ (Nat.le_refl _) d⟩)
        case measure => simp [intOf]
      · obtain ⟨d, hd, he⟩ := parts_pos q1 m hle
        have t1 : decide (q1 < 0) = false := decide_eq_false hn
        go_upto_region 10 with fail
        have HE := Lib.hid he
        clear he
        go_wp2_with fail
        go_roundw
        case rel => exact (by rw [HE.out]; exact ⟨2, d0, d, by omega, by go_num, by omega, by omega, Kn.tw1 KK.out ⟨by simp; omega, trivial⟩ (Nat.le_refl _) d⟩)
        case measure => simp [intOf]
    · go_upto_region 11 with fail
      clear b0 b1
      go_upto_if 49 with fail
      go_cut [10] (fun t wx => ∃ e0 e1 : Nat, e0 ≤ e1 ∧ e1 ≤ m ∧ Kn g w2 [(g, twO e0 e1), (B, twO q0 q1)] wx)
      case first =>
        by_cases hd : (d0 : Int) > (d1 : Int)
        · have t1 : decide ((d0 : Int) > (d1 : Int)) = true := decide_eq_true hd
          go_wp2_with fail
          go_meet
          exact ⟨d1, d0, by omega, by omega, Kn.tw1 (Kn.tw0 KK.out ⟨by simp; omega, trivial⟩ (Nat.le_refl _) d1) ⟨by simp; omega, trivial⟩ (Nat.le_refl _) d0⟩
        · have t1 : decide ((d0 : Int) > (d1 : Int)) = false := decide_eq_false hd
          go_wp2_with fail
          go_meet
          exact ⟨d0, d1, by omega, by omega, KK.out⟩
      case rest =>
        obtain ⟨e0, e1, h01, h1m, hk⟩ := hcut
        clear KK x0 x1 FZ
        have KK := Lib.hid hk
        clear hk
        obtain ⟨x0, x1⟩ := tw_cells KK.out (g := g) (a := e0) (b := e1) (by simp)
        rename_i wc _
        have hgg : Hid (w2.heap.size = g) := hg
        have HLEN := HLN.out
        have EL : L.take e0 ++ (L.take e1).drop e0 ++ L.drop e1 = L := by
          have : L.take e0 ++ (L.take e1).drop e0 = L.take e1 := by
            have h := List.take_append_drop e0 (L.take e1)
            rwa [List.take_take, Nat.min_eq_left h01] at h
          rw [this, List.take_append_drop]
        have HP := fold_parts (L.take e0) ((L.take e1).drop e0) (L.drop e1) (by simp; omega) (by rw [EL]; exact hap)
        rw [EL] at HP
        have hX := fold_ok (L.take e0) (fun p hp => hwf2 p (List.mem_of_mem_take hp))
        have hY := fold_ok ((L.take e1).drop e0) (fun p hp => hwf2 p (List.mem_of_mem_take (List.mem_of_mem_drop hp)))
        have hZ := fold_ok (L.drop e1) (fun p hp => hwf2 p (List.mem_of_mem_drop hp))
        have FA := fun a k q wx h1 h2 h3 => fold_any a k q L wx h1 hwf2 h2 h3
        have FX := fun a k q wx h1 h2 h3 => fold_any a k q (L.take e0) wx h1 (fun p hp => hwf2 p (List.mem_of_mem_take hp)) h2 h3
        have FY := fun a k q wx h1 h2 h3 => fold_any a k q ((L.take e1).drop e0) wx h1 (fun p hp => hwf2 p (List.mem_of_mem_take (List.mem_of_mem_drop hp))) h2 h3
        have FZ := fun a k q wx h1 h2 h3 => fold_any a k q (L.drop e1) wx h1 (fun p hp => hwf2 p (List.mem_of_mem_drop hp)) h2 h3
        have RA : Hid (∀ wx, Below g w2 wx → ReadsE Pt.cs 6 wx a2 m L) := fun wx hb => H2.out.below (by rw [hgg.out]; exact hb)
        obtain ⟨F, hFe⟩ : ∃ F, foldV L = F := ⟨_, rfl⟩
        obtain ⟨X, hXe⟩ : ∃ X, foldV (L.take e0) = X := ⟨_, rfl⟩
        obtain ⟨Y, hYe⟩ : ∃ Y, foldV ((L.take e1).drop e0) = Y := ⟨_, rfl⟩
        obtain ⟨Z, hZe⟩ : ∃ Z, foldV (L.drop e1) = Z := ⟨_, rfl⟩
        rw [hFe] at HP hF hcnt HOKA FA
        rw [hXe] at HP hX FX
        rw [hYe] at HP hY FY
        rw [hZe] at HP hZ FZ
        clear hFe hXe hYe hZe EL
        have hXY := merge_ok hX hY
        have hYZ := merge_ok hY hZ
        have M1 := fun wx => merge_any X Y wx hX hY
        have M2 := fun wx => merge_any Y Z wx hY hZ
        have M3 := fun wx => merge_any _ Z wx hXY hZ
        have M4 := fun wx => merge_any X _ wx hX hYZ
        have M5 := fun wx => merge_any Z _ wx hZ hXY
        have M6 := fun wx => merge_any _ X wx hYZ hX
        rw [← HP.1] at M3
        rw [← HP.2.1] at M4
        rw [← HP.2.2.1] at M5
        rw [← HP.2.2.2] at M6
        generalize mergeV X Y = XY at *
        generalize mergeV Y Z = YZ at *
        clear HP
        have HLF : Hid (F.bk.length = 9) := hF.2.2.2.2.2.2.1
        have HLX : Hid (X.bk.length = 9) := hX.2.2.2.2.2.2.1
        have HLY : Hid (Y.bk.length = 9) := hY.2.2.2.2.2.2.1
        have HLZ : Hid (Z.bk.length = 9) := hZ.2.2.2.2.2.2.1
        clear hwf2 hok2 hap
        unfold Ag.val at FA FX FY FZ M1 M2 M3 M4 M5 M6
        go_upto_region 16 with (first
          | (go_at_call 19; refine (FA _ _ _ _ (RA.out _ KK.out.b) (by omega) (by omega)).mono ?_; rintro e wn ⟨rfl, dn⟩; have KK := Lib.hid (KK.out.below dn); clear dn x0 x1; obtain ⟨x0, x1⟩ := tw_cells KK.out (g := g) (a := e0) (b := e1) (by simp))
          | (refine wpList_store_row rfl 29 _ _ rfl _ F.cs.toArray rfl rfl 29 _ (heap_alloc_new _ _) (ag_size HLF.out) (ag_sz (a := Ag0) (by first | rfl | decide) HLF.out) (ag_one _) ?_; rw [World.setRow_alloc_new]))
        have KK := Lib.hid (KK.out.new (agO F))
        change Hid (Kn g w2 _ (wn.alloc (.cells F.cs.toArray 29 (0, 0)))) at KK
        obtain ⟨gF, hkgF⟩ : ∃ k, wn.heap.size = k := ⟨_, rfl⟩
        rw [hkgF] at KK ⊢
        generalize wn.alloc (.cells F.cs.toArray 29 (0, 0)) = wa1 at *
        clear x0 x1
        obtain ⟨x0, x1⟩ := tw_cells KK.out (g := g) (a := e0) (b := e1) (by simp)
        try simp only [Act.put, List.setIfInBounds_toArray, List.set_cons_zero, List.set_cons_succ]
        go_upto_region 16 with fail
        have ce0 : e0 ≤ cap := by omega
        have ce1 : e1 ≤ cap := by omega
        have cm1 : e1 ≤ m := h1m
        have s1 : decide ((e0 : Int) < 0) = false := decide_eq_false (by omega)
        have s2 : decide ((e0 : Int) > (cap : Int)) = false := decide_eq_false (by omega)
        have s3 : decide ((e1 : Int) < 0) = false := decide_eq_false (by omega)
        have s4 : decide ((e1 : Int) > (cap : Int)) = false := decide_eq_false (by omega)
        have s5 : decide ((e0 : Int) > (e1 : Int)) = false := decide_eq_false (by omega)
        have s6 : decide ((e1 : Int) > (m : Int)) = false := decide_eq_false (by omega)
        go_cut [12] (fun v wx => ∃ k : Nat, v = .pointer (some ⟨k, 0, none⟩) ∧ Kn g w2 [(k, agO X), (gF, agO F), (g, twO e0 e1), (B, twO q0 q1)] wx)
        case first =>
          rcases Nat.eq_zero_or_pos m with hm0 | hm0
          · have z0 : e0 = 0 := by omega
            have z1 : e1 = 0 := by omega
            subst hm0 z0 z1
            have HR : Hid (∀ wx a, ReadsE Pt.cs 6 wx a 0 (L.take 0)) := fun wx a => ⟨by simp, .inl rfl⟩
            rcases a2 with _ | ⟨ab, ao, ap⟩
            · go_wp2_with (first | (go_at_call 19; refine (FX _ _ _ _ (HR.out _ _) (by omega) (by omega)).mono ?_; rintro e wn ⟨rfl, dn⟩; have KK := Lib.hid (KK.out.below dn); clear dn) | (refine wpList_store_row rfl 29 _ _ rfl _ (X).cs.toArray rfl rfl 29 _ (heap_alloc_new _ _) (ag_size HLX.out) (ag_sz (a := Ag0) (by first | rfl | decide) HLX.out) (ag_one _) ?_; rw [World.setRow_alloc_new]))
              go_meet
              exact ⟨_, rfl, KK.out.new (agO X)⟩
            · go_wp2_with (first | (go_at_call 19; refine (FX _ _ _ _ (HR.out _ _) (by omega) (by omega)).mono ?_; rintro e wn ⟨rfl, dn⟩; have KK := Lib.hid (KK.out.below dn); clear dn) | (refine wpList_store_row rfl 29 _ _ rfl _ (X).cs.toArray rfl rfl 29 _ (heap_alloc_new _ _) (ag_size HLX.out) (ag_sz (a := Ag0) (by first | rfl | decide) HLX.out) (ag_one _) ?_; rw [World.setRow_alloc_new]))
              go_meet
              exact ⟨_, rfl, KK.out.new (agO X)⟩
          · obtain ⟨ab, ao, rfl⟩ : ∃ b o, a2 = some ⟨b, o, none⟩ := by
              rcases H2.out.2 with h | ⟨b, o, e, _⟩
              · omega
              · exact ⟨b, o, e⟩
            have HR : Hid (∀ wx, Below g w2 wx → ReadsE Pt.cs 6 wx (some ⟨ab, ao, none⟩) e0 (L.take e0)) := fun wx hb => ReadsE.take (RA.out wx hb) e0 (by omega)
            go_wp2_with (first | (go_at_call 19; refine (FX _ _ _ _ (HR.out _ KK.out.b) (by omega) (by omega)).mono ?_; rintro e wn ⟨rfl, dn⟩; have KK := Lib.hid (KK.out.below dn); clear dn x0 x1; obtain ⟨x0, x1⟩ := tw_cells KK.out (g := g) (a := e0) (b := e1) (by simp)) | (refine wpList_store_row rfl 29 _ _ rfl _ (X).cs.toArray rfl rfl 29 _ (heap_alloc_new _ _) (ag_size HLX.out) (ag_sz (a := Ag0) (by first | rfl | decide) HLX.out) (ag_one _) ?_; rw [World.setRow_alloc_new]))
            go_meet
            exact ⟨_, rfl, KK.out.new (agO X)⟩
        case rest =>
        obtain ⟨gX, rfl, hk⟩ := hcut
        clear KK x0 x1
        have KK := Lib.hid hk
        clear hk
        obtain ⟨x0, x1⟩ := tw_cells KK.out (g := g) (a := e0) (b := e1) (by simp)
        go_upto_region 17 with fail
        go_cut [13] (fun v wx => ∃ k : Nat, v = .pointer (some ⟨k, 0, none⟩) ∧ Kn g w2 [(k, agO Y), (gX, agO X), (gF, agO F), (g, twO e0 e1), (B, twO q0 q1)] wx)
        case first =>
          rcases Nat.eq_zero_or_pos m with hm0 | hm0
          · have z0 : e0 = 0 := by omega
            have z1 : e1 = 0 := by omega
            subst hm0 z0 z1
            have HR : Hid (∀ wx a, ReadsE Pt.cs 6 wx a 0 ((L.take 0).drop 0)) := fun wx a => ⟨by simp, .inl rfl⟩
            rcases a2 with _ | ⟨ab, ao, ap⟩
            · go_wp2_with (first | (go_at_call 19; refine (FY _ _ _ _ (HR.out _ _) (by omega) (by omega)).mono ?_; rintro e wn ⟨rfl, dn⟩; have KK := Lib.hid (KK.out.below dn); clear dn) | (refine wpList_store_row rfl 29 _ _ rfl _ (Y).cs.toArray rfl rfl 29 _ (heap_alloc_new _ _) (ag_size HLY.out) (ag_sz (a := Ag0) (by first | rfl | decide) HLY.out) (ag_one _) ?_; rw [World.setRow_alloc_new]))
              go_meet
              exact ⟨_, rfl, KK.out.new (agO Y)⟩
            · go_wp2_with (first | (go_at_call 19; refine (FY _ _ _ _ (HR.out _ _) (by omega) (by omega)).mono ?_; rintro e wn ⟨rfl, dn⟩; have KK := Lib.hid (KK.out.below dn); clear dn) | (refine wpList_store_row rfl 29 _ _ rfl _ (Y).cs.toArray rfl rfl 29 _ (heap_alloc_new _ _) (ag_size HLY.out) (ag_sz (a := Ag0) (by first | rfl | decide) HLY.out) (ag_one _) ?_; rw [World.setRow_alloc_new]))
              go_meet
              exact ⟨_, rfl, KK.out.new (agO Y)⟩
          · obtain ⟨ab, ao, rfl⟩ : ∃ b o, a2 = some ⟨b, o, none⟩ := by
              rcases H2.out.2 with h | ⟨b, o, e, _⟩
              · omega
              · exact ⟨b, o, e⟩
            have HR0 : Hid (∀ wx a, e1 - e0 = 0 → ReadsE Pt.cs 6 wx a (e1 - e0) ((L.take e1).drop e0)) := fun wx a hz => ⟨by have := HLN.out; simp; omega, .inl hz⟩
            have HR : Hid (∀ wx, Below g w2 wx → ReadsE Pt.cs 6 wx (some ⟨ab, ao + e0 * 6, none⟩) (e1 - e0) ((L.take e1).drop e0)) := fun wx hb => ReadsE.drop (ReadsE.take (RA.out wx hb) e1 (by omega)) e0 (by omega)
            rcases Classical.em (cap = e0) with hce | hce
            · subst hce
              have hz : e1 - cap = 0 := by omega
              have HR1 : Hid (∀ wx a, ReadsE Pt.cs 6 wx a 0 ((L.take e1).drop cap)) := fun wx a => by have h := HR0.out wx a hz; rw [hz] at h; exact h
              go_wp2_with fail
              go_at_call 19
              refine (FY _ _ _ _ (HR1.out _ _) (by omega) (by omega)).mono ?_
              rintro e wn ⟨rfl, dn⟩
              have KK := Lib.hid (KK.out.below dn)
              clear dn
              go_wp2_with (refine wpList_store_row rfl 29 _ _ rfl _ (Y).cs.toArray rfl rfl 29 _ (heap_alloc_new _ _) (ag_size HLY.out) (ag_sz (a := Ag0) (by first | rfl | decide) HLY.out) (ag_one _) ?_; rw [World.setRow_alloc_new])
              go_meet
              exact ⟨_, rfl, KK.out.new (agO Y)⟩
            · go_wp2_with fail
              go_at_call 19
              refine (FY _ _ _ _ (HR.out _ KK.out.b) (by omega) (by omega)).mono ?_
              rintro e wn ⟨rfl, dn⟩
              have KK := Lib.hid (KK.out.below dn)
              clear dn
              go_wp2_with (refine wpList_store_row rfl 29 _ _ rfl _ (Y).cs.toArray rfl rfl 29 _ (heap_alloc_new _ _) (ag_size HLY.out) (ag_sz (a := Ag0) (by first | rfl | decide) HLY.out) (ag_one _) ?_; rw [World.setRow_alloc_new])
              go_meet
              exact ⟨_, rfl, KK.out.new (agO Y)⟩
        case rest =>
        obtain ⟨gY, rfl, hk⟩ := hcut
        clear KK x0 x1
        have KK := Lib.hid hk
        clear hk
        obtain ⟨x0, x1⟩ := tw_cells KK.out (g := g) (a := e0) (b := e1) (by simp)
        go_upto_region 18 with fail
        go_cut [14] (fun v wx => ∃ k : Nat, v = .pointer (some ⟨k, 0, none⟩) ∧ Kn g w2 [(k, agO Z), (gY, agO Y), (gX, agO X), (gF, agO F), (g, twO e0 e1), (B, twO q0 q1)] wx)
        case first =>
          rcases Nat.eq_zero_or_pos m with hm0 | hm0
          · have z0 : e0 = 0 := by omega
            have z1 : e1 = 0 := by omega
            subst hm0 z0 z1
            have HR : Hid (∀ wx a, ReadsE Pt.cs 6 wx a 0 (L.drop 0)) := fun wx a => ⟨by rw [List.drop_zero]; exact HLN.out, .inl rfl⟩
            rcases a2 with _ | ⟨ab, ao, ap⟩
            · go_wp2_with (first | (go_at_call 19; refine (FZ _ _ _ _ (HR.out _ _) (by omega) (by omega)).mono ?_; rintro e wn ⟨rfl, dn⟩; have KK := Lib.hid (KK.out.below dn); clear dn) | (refine wpList_store_row rfl 29 _ _ rfl _ (Z).cs.toArray rfl rfl 29 _ (heap_alloc_new _ _) (ag_size HLZ.out) (ag_sz (a := Ag0) (by first | rfl | decide) HLZ.out) (ag_one _) ?_; rw [World.setRow_alloc_new]))
              go_meet
              exact ⟨_, rfl, KK.out.new (agO Z)⟩
            · go_wp2_with (first | (go_at_call 19; refine (FZ _ _ _ _ (HR.out _ _) (by omega) (by omega)).mono ?_; rintro e wn ⟨rfl, dn⟩; have KK := Lib.hid (KK.out.below dn); clear dn) | (refine wpList_store_row rfl 29 _ _ rfl _ (Z).cs.toArray rfl rfl 29 _ (heap_alloc_new _ _) (ag_size HLZ.out) (ag_sz (a := Ag0) (by first | rfl | decide) HLZ.out) (ag_one _) ?_; rw [World.setRow_alloc_new]))
              go_meet
              exact ⟨_, rfl, KK.out.new (agO Z)⟩
          · obtain ⟨ab, ao, rfl⟩ : ∃ b o, a2 = some ⟨b, o, none⟩ := by
              rcases H2.out.2 with h | ⟨b, o, e, _⟩
              · omega
              · exact ⟨b, o, e⟩
            have HR0 : Hid (∀ wx a, m - e1 = 0 → ReadsE Pt.cs 6 wx a (m - e1) (L.drop e1)) := fun wx a hz => ⟨by have := HLN.out; simp; omega, .inl hz⟩
            have HR : Hid (∀ wx, Below g w2 wx → ReadsE Pt.cs 6 wx (some ⟨ab, ao + e1 * 6, none⟩) (m - e1) (L.drop e1)) := fun wx hb => ReadsE.drop (RA.out wx hb) e1 (by omega)
            rcases Classical.em (cap = e1) with hce | hce
            · subst hce
              have hz : m - cap = 0 := by omega
              have HR1 : Hid (∀ wx a, ReadsE Pt.cs 6 wx a 0 (L.drop cap)) := fun wx a => by have h := HR0.out wx a hz; rw [hz] at h; exact h
              go_wp2_with fail
              go_at_call 19
              refine (FZ _ _ _ _ (HR1.out _ _) (by omega) (by omega)).mono ?_
              rintro e wn ⟨rfl, dn⟩
              have KK := Lib.hid (KK.out.below dn)
              clear dn
              go_wp2_with (refine wpList_store_row rfl 29 _ _ rfl _ (Z).cs.toArray rfl rfl 29 _ (heap_alloc_new _ _) (ag_size HLZ.out) (ag_sz (a := Ag0) (by first | rfl | decide) HLZ.out) (ag_one _) ?_; rw [World.setRow_alloc_new])
              go_meet
              exact ⟨_, rfl, KK.out.new (agO Z)⟩
            · go_wp2_with fail
              go_at_call 19
              refine (FZ _ _ _ _ (HR.out _ KK.out.b) (by omega) (by omega)).mono ?_
              rintro e wn ⟨rfl, dn⟩
              have KK := Lib.hid (KK.out.below dn)
              clear dn
              go_wp2_with (refine wpList_store_row rfl 29 _ _ rfl _ (Z).cs.toArray rfl rfl 29 _ (heap_alloc_new _ _) (ag_size HLZ.out) (ag_sz (a := Ag0) (by first | rfl | decide) HLZ.out) (ag_one _) ?_; rw [World.setRow_alloc_new])
              go_meet
              exact ⟨_, rfl, KK.out.new (agO Z)⟩
        case rest =>
        obtain ⟨gZ, rfl, hk⟩ := hcut
        clear KK x0 x1
        have KK := Lib.hid hk
        clear hk
        obtain ⟨x0, x1⟩ := tw_cells KK.out (g := g) (a := e0) (b := e1) (by simp)
        clear FA FX FY FZ RA x0 x1 s1 s2 s3 s4 s5 s6 H2
        have PR : Hid (PaI w2 gX gY gZ X Y Z [(gZ, agO Z), (gY, agO Y), (gX, agO X), (gF, agO F), (g, twO e0 e1), (B, twO q0 q1)] _) := Lib.hid ⟨by rw [hgg.out]; exact KK.out, by simp, by simp, by simp⟩
        clear KK
        go_upto_region 19 with fail
        go_cut [15] (fun v wx => ∃ k : Nat, v = .pointer (some ⟨k, 0, none⟩) ∧ PaI w2 gX gY gZ X Y Z ((k, agO F) :: [(gZ, agO Z), (gY, agO Y), (gX, agO X), (gF, agO F), (g, twO e0 e1), (B, twO q0 q1)]) wx)
        case first =>
          refine wp_region_held_drew (S := (fun wx => wx.heap[gX]? = some (agO X) ∧ wx.heap[gY]? = some (agO Y) ∧ wx.heap[gZ]? = some (agO Z))) (by kernel_rfl) ?_ (fun hHeld => ?_)
          focus ((try dsimp only); (try (first | exact PR.out.held (by rfl) | exact PR.out.alloc.held (by rfl) | exact (PR.out.store F).held (by rfl) | exact (PR.out.alloc.store F).held (by rfl))); done)
          (refine wpAnyH_take (i := 0) (oi := { dst := some 76, op := Go.Op.load 29 (Go.Operand.tmp 12), type := 29, pos := "law.go:106", after := #[], guard := none }) (v := ?_) rfl (by kernel_rfl) (by kernel_rfl) (by kernel_rfl) (fun _ _ _ h => h) (Or.inl ⟨by rfl, ?_⟩) (by assumption) ?_; rotate_left; (focus (intro w hSw; (first | ((first | (refine Eq.trans (exec_load_row 29 _ (by rfl) gX (by rfl) 29 _ (0, 0) _ hSw.1 Try.underlying29 rfl (ag_size HLX.out)) ?_; with_reducible rfl) | (refine Eq.trans (exec_load_row 29 _ (by rfl) gY (by rfl) 29 _ (0, 0) _ hSw.2.1 Try.underlying29 rfl (ag_size HLY.out)) ?_; with_reducible rfl) | (refine Eq.trans (exec_load_row 29 _ (by rfl) gZ (by rfl) 29 _ (0, 0) _ hSw.2.2 Try.underlying29 rfl (ag_size HLZ.out)) ?_; with_reducible rfl)); done) | ((try dsimp only at hSw); go_simp; try with_reducible rfl)))); (try simp only [Act.put, List.setIfInBounds_toArray, List.set_cons_zero, List.set_cons_succ]))
          (refine wpAnyH_take (i := 1) (oi := { dst := some 77, op := Go.Op.load 29 (Go.Operand.tmp 13), type := 29, pos := "law.go:106", after := #[], guard := none }) (v := ?_) rfl (by kernel_rfl) (by kernel_rfl) (by kernel_rfl) (fun _ _ _ h => h) (Or.inl ⟨by rfl, ?_⟩) (by assumption) ?_; rotate_left; (focus (intro w hSw; (first | ((first | (refine Eq.trans (exec_load_row 29 _ (by rfl) gX (by rfl) 29 _ (0, 0) _ hSw.1 Try.underlying29 rfl (ag_size HLX.out)) ?_; with_reducible rfl) | (refine Eq.trans (exec_load_row 29 _ (by rfl) gY (by rfl) 29 _ (0, 0) _ hSw.2.1 Try.underlying29 rfl (ag_size HLY.out)) ?_; with_reducible rfl) | (refine Eq.trans (exec_load_row 29 _ (by rfl) gZ (by rfl) 29 _ (0, 0) _ hSw.2.2 Try.underlying29 rfl (ag_size HLZ.out)) ?_; with_reducible rfl)); done) | ((try dsimp only at hSw); go_simp; try with_reducible rfl)))); (try simp only [Act.put, List.setIfInBounds_toArray, List.set_cons_zero, List.set_cons_succ]))
          (refine wpAnyH_take (i := 3) (oi := { dst := some 79, op := Go.Op.load 29 (Go.Operand.tmp 14), type := 29, pos := "law.go:106", after := #[], guard := none }) (v := ?_) rfl (by kernel_rfl) (by kernel_rfl) (by kernel_rfl) (fun _ _ _ h => h) (Or.inl ⟨by rfl, ?_⟩) (by assumption) ?_; rotate_left; (focus (intro w hSw; (first | ((first | (refine Eq.trans (exec_load_row 29 _ (by rfl) gX (by rfl) 29 _ (0, 0) _ hSw.1 Try.underlying29 rfl (ag_size HLX.out)) ?_; with_reducible rfl) | (refine Eq.trans (exec_load_row 29 _ (by rfl) gY (by rfl) 29 _ (0, 0) _ hSw.2.1 Try.underlying29 rfl (ag_size HLY.out)) ?_; with_reducible rfl) | (refine Eq.trans (exec_load_row 29 _ (by rfl) gZ (by rfl) 29 _ (0, 0) _ hSw.2.2 Try.underlying29 rfl (ag_size HLZ.out)) ?_; with_reducible rfl)); done) | ((try dsimp only at hSw); go_simp; try with_reducible rfl)))); (try simp only [Act.put, List.setIfInBounds_toArray, List.set_cons_zero, List.set_cons_succ]))
          refine wpAnyH_ready (rs := [2, 5]) (by kernel_rfl) (by simp) ?_
          refine AllReadyH.cons (o := { dst := some 78, op := Go.Op.call { callee := Go.Callee.value (Go.Operand.func 16), args := #[Go.Operand.tmp 76, Go.Operand.tmp 77], argTypes := #[29, 29] }, type := 29, pos := "law.go:106", after := #[{ on := 0, ground := Go.Ground.data }, { on := 1, ground := Go.Ground.data }], guard := none }) rfl (fun K hK2 => ?_) (AllReadyH.cons (o := { dst := some 15, op := Go.Op.alloc 29, type := 0, pos := "law.go:106", after := #[], guard := none }) rfl (fun K hK5 => ?_) AllReadyH.nil)
          · (go_simp; ((go_at_call 16; (first | (have _c2 := hC1; refine (M3 _).mono ?_) | (have hC1 : True := trivial; refine (M1 _).mono ?_)); rintro e wn ⟨rfl, dn⟩; first | have PR := Lib.hid (PR.out.later dn (by rfl) (by rfl) (by rfl) (by rfl)) | have PR := Lib.hid (PR.out.alloc.later dn (by rfl) (by rfl) (by rfl) (by rfl)))); go_wp2_with fail; refine hK2.out _ _ ?_ (fun hHeld => ?_); (focus ((try dsimp only); (try (first | exact PR.out.held (by rfl) | exact PR.out.alloc.held (by rfl) | exact (PR.out.store F).held (by rfl) | exact (PR.out.alloc.store F).held (by rfl))); done)); clear hK2; (try simp only [Act.put, List.setIfInBounds_toArray, List.set_cons_zero, List.set_cons_succ]))
            refine wpAnyH_ready (rs := [4, 5]) (by kernel_rfl) (by simp) ?_
            refine AllReadyH.cons (o := { dst := some 80, op := Go.Op.call { callee := Go.Callee.value (Go.Operand.func 16), args := #[Go.Operand.tmp 78, Go.Operand.tmp 79], argTypes := #[29, 29] }, type := 29, pos := "law.go:106", after := #[{ on := 2, ground := Go.Ground.data }, { on := 3, ground := Go.Ground.data }, { on := 2, ground := Go.Ground.chain }], guard := none }) rfl (fun K hK4 => ?_) (AllReadyH.cons (o := { dst := some 15, op := Go.Op.alloc 29, type := 0, pos := "law.go:106", after := #[], guard := none }) rfl (fun K hK5 => ?_) AllReadyH.nil)
            · (go_simp; ((go_at_call 16; (first | (have _c2 := hC1; refine (M3 _).mono ?_) | (have hC1 : True := trivial; refine (M1 _).mono ?_)); rintro e wn ⟨rfl, dn⟩; first | have PR := Lib.hid (PR.out.later dn (by rfl) (by rfl) (by rfl) (by rfl)) | have PR := Lib.hid (PR.out.alloc.later dn (by rfl) (by rfl) (by rfl) (by rfl)))); go_wp2_with fail; refine hK4.out _ _ ?_ (fun hHeld => ?_); (focus ((try dsimp only); (try (first | exact PR.out.held (by rfl) | exact PR.out.alloc.held (by rfl) | exact (PR.out.store F).held (by rfl) | exact (PR.out.alloc.store F).held (by rfl))); done)); clear hK4; (try simp only [Act.put, List.setIfInBounds_toArray, List.set_cons_zero, List.set_cons_succ]))
              (refine wpAnyH_ready (rs := [5]) (by kernel_rfl) (by simp) ?_; refine AllReadyH.cons (o := { dst := some 15, op := Go.Op.alloc 29, type := 0, pos := "law.go:106", after := #[], guard := none }) rfl (fun K hK => ?_) AllReadyH.nil; go_simp; refine hK.out _ _ ?_ (fun hHeld => ?_); (focus ((try dsimp only); (try (first | exact PR.out.held (by rfl) | exact PR.out.alloc.held (by rfl) | exact (PR.out.store F).held (by rfl) | exact (PR.out.alloc.store F).held (by rfl))); done)); clear hK; (try simp only [Act.put, List.setIfInBounds_toArray, List.set_cons_zero, List.set_cons_succ]))
              (refine wpAnyH_ready (rs := [6]) (by kernel_rfl) (by simp) ?_; refine AllReadyH.cons (o := { dst := none, op := Go.Op.store 29 (Go.Operand.tmp 15) (Go.Operand.tmp 80), type := 0, pos := "law.go:106", after := #[{ on := 5, ground := Go.Ground.data }, { on := 4, ground := Go.Ground.data }, { on := 4, ground := Go.Ground.chain }, { on := 0, ground := Go.Ground.phase }, { on := 1, ground := Go.Ground.phase }, { on := 2, ground := Go.Ground.phase }, { on := 3, ground := Go.Ground.phase }, { on := 4, ground := Go.Ground.phase }, { on := 5, ground := Go.Ground.phase }], guard := none }) rfl (fun K hK => ?_) AllReadyH.nil; ((first | (refine wp_store_row 29 _ _ rfl _ F.cs.toArray rfl rfl 29 _ (heap_alloc_new _ _) (ag_size HLF.out) (ag_sz (a := Ag0) (by first | rfl | decide) HLF.out) (ag_one _) ?_) | (refine wp_store_row 29 _ _ rfl _ F.cs.toArray rfl rfl 29 _ PR.out.at_ (ag_size HLF.out) (ag_sz (a := Ag0) (by first | rfl | decide) HLF.out) (ag_one _) ?_))); refine hK.out _ _ ?_ (fun hHeld => ?_); (focus ((try dsimp only); (try (first | exact PR.out.held (by rfl) | exact PR.out.alloc.held (by rfl) | exact (PR.out.store F).held (by rfl) | exact (PR.out.alloc.store F).held (by rfl))); done)); clear hK; (try simp only [Act.put, List.setIfInBounds_toArray, List.set_cons_zero, List.set_cons_succ]))
              refine wpAnyH_done (by kernel_rfl) ?_ _
              go_wp2_with fail
              go_meet
              first | exact ⟨_, rfl, PaI.same (PR.out.alloc.store F) rfl rfl rfl rfl⟩ | exact ⟨_, rfl, PaI.same (PR.out.store F) rfl rfl rfl rfl⟩
            · (go_simp; refine hK5.out _ _ ?_ (fun hHeld => ?_); (focus ((try dsimp only); (try (first | exact PR.out.held (by rfl) | exact PR.out.alloc.held (by rfl) | exact (PR.out.store F).held (by rfl) | exact (PR.out.alloc.store F).held (by rfl))); done)); clear hK5; (try simp only [Act.put, List.setIfInBounds_toArray, List.set_cons_zero, List.set_cons_succ]))
              (refine wpAnyH_ready (rs := [4]) (by kernel_rfl) (by simp) ?_; refine AllReadyH.cons (o := { dst := some 80, op := Go.Op.call { callee := Go.Callee.value (Go.Operand.func 16), args := #[Go.Operand.tmp 78, Go.Operand.tmp 79], argTypes := #[29, 29] }, type := 29, pos := "law.go:106", after := #[{ on := 2, ground := Go.Ground.data }, { on := 3, ground := Go.Ground.data }, { on := 2, ground := Go.Ground.chain }], guard := none }) rfl (fun K hK => ?_) AllReadyH.nil; go_simp; ((go_at_call 16; (first | (have _c2 := hC1; refine (M3 _).mono ?_) | (have hC1 : True := trivial; refine (M1 _).mono ?_)); rintro e wn ⟨rfl, dn⟩; first | have PR := Lib.hid (PR.out.later dn (by rfl) (by rfl) (by rfl) (by rfl)) | have PR := Lib.hid (PR.out.alloc.later dn (by rfl) (by rfl) (by rfl) (by rfl)))); go_wp2_with fail; refine hK.out _ _ ?_ (fun hHeld => ?_); (focus ((try dsimp only); (try (first | exact PR.out.held (by rfl) | exact PR.out.alloc.held (by rfl) | exact (PR.out.store F).held (by rfl) | exact (PR.out.alloc.store F).held (by rfl))); done)); clear hK; (try simp only [Act.put, List.setIfInBounds_toArray, List.set_cons_zero, List.set_cons_succ]))
              (refine wpAnyH_ready (rs := [6]) (by kernel_rfl) (by simp) ?_; refine AllReadyH.cons (o := { dst := none, op := Go.Op.store 29 (Go.Operand.tmp 15) (Go.Operand.tmp 80), type := 0, pos := "law.go:106", after := #[{ on := 5, ground := Go.Ground.data }, { on := 4, ground := Go.Ground.data }, { on := 4, ground := Go.Ground.chain }, { on := 0, ground := Go.Ground.phase }, { on := 1, ground := Go.Ground.phase }, { on := 2, ground := Go.Ground.phase }, { on := 3, ground := Go.Ground.phase }, { on := 4, ground := Go.Ground.phase }, { on := 5, ground := Go.Ground.phase }], guard := none }) rfl (fun K hK => ?_) AllReadyH.nil; ((first | (refine wp_store_row 29 _ _ rfl _ F.cs.toArray rfl rfl 29 _ (heap_alloc_new _ _) (ag_size HLF.out) (ag_sz (a := Ag0) (by first | rfl | decide) HLF.out) (ag_one _) ?_) | (refine wp_store_row 29 _ _ rfl _ F.cs.toArray rfl rfl 29 _ PR.out.at_ (ag_size HLF.out) (ag_sz (a := Ag0) (by first | rfl | decide) HLF.out) (ag_one _) ?_))); refine hK.out _ _ ?_ (fun hHeld => ?_); (focus ((try dsimp only); (try (first | exact PR.out.held (by rfl) | exact PR.out.alloc.held (by rfl) | exact (PR.out.store F).held (by rfl) | exact (PR.out.alloc.store F).held (by rfl))); done)); clear hK; (try simp only [Act.put, List.setIfInBounds_toArray, List.set_cons_zero, List.set_cons_succ]))
              refine wpAnyH_done (by kernel_rfl) ?_ _
              go_wp2_with fail
              go_meet
              first | exact ⟨_, rfl, PaI.same (PR.out.alloc.store F) rfl rfl rfl rfl⟩ | exact ⟨_, rfl, PaI.same (PR.out.store F) rfl rfl rfl rfl⟩
          · (go_simp; refine hK5.out _ _ ?_ (fun hHeld => ?_); (focus ((try dsimp only); (try (first | exact PR.out.held (by rfl) | exact PR.out.alloc.held (by rfl) | exact (PR.out.store F).held (by rfl) | exact (PR.out.alloc.store F).held (by rfl))); done)); clear hK5; (try simp only [Act.put, List.setIfInBounds_toArray, List.set_cons_zero, List.set_cons_succ]))
            (refine wpAnyH_ready (rs := [2]) (by kernel_rfl) (by simp) ?_; refine AllReadyH.cons (o := { dst := some 78, op := Go.Op.call { callee := Go.Callee.value (Go.Operand.func 16), args := #[Go.Operand.tmp 76, Go.Operand.tmp 77], argTypes := #[29, 29] }, type := 29, pos := "law.go:106", after := #[{ on := 0, ground := Go.Ground.data }, { on := 1, ground := Go.Ground.data }], guard := none }) rfl (fun K hK => ?_) AllReadyH.nil; go_simp; ((go_at_call 16; (first | (have _c2 := hC1; refine (M3 _).mono ?_) | (have hC1 : True := trivial; refine (M1 _).mono ?_)); rintro e wn ⟨rfl, dn⟩; first | have PR := Lib.hid (PR.out.later dn (by rfl) (by rfl) (by rfl) (by rfl)) | have PR := Lib.hid (PR.out.alloc.later dn (by rfl) (by rfl) (by rfl) (by rfl)))); go_wp2_with fail; refine hK.out _ _ ?_ (fun hHeld => ?_); (focus ((try dsimp only); (try (first | exact PR.out.held (by rfl) | exact PR.out.alloc.held (by rfl) | exact (PR.out.store F).held (by rfl) | exact (PR.out.alloc.store F).held (by rfl))); done)); clear hK; (try simp only [Act.put, List.setIfInBounds_toArray, List.set_cons_zero, List.set_cons_succ]))
            (refine wpAnyH_ready (rs := [4]) (by kernel_rfl) (by simp) ?_; refine AllReadyH.cons (o := { dst := some 80, op := Go.Op.call { callee := Go.Callee.value (Go.Operand.func 16), args := #[Go.Operand.tmp 78, Go.Operand.tmp 79], argTypes := #[29, 29] }, type := 29, pos := "law.go:106", after := #[{ on := 2, ground := Go.Ground.data }, { on := 3, ground := Go.Ground.data }, { on := 2, ground := Go.Ground.chain }], guard := none }) rfl (fun K hK => ?_) AllReadyH.nil; go_simp; ((go_at_call 16; (first | (have _c2 := hC1; refine (M3 _).mono ?_) | (have hC1 : True := trivial; refine (M1 _).mono ?_)); rintro e wn ⟨rfl, dn⟩; first | have PR := Lib.hid (PR.out.later dn (by rfl) (by rfl) (by rfl) (by rfl)) | have PR := Lib.hid (PR.out.alloc.later dn (by rfl) (by rfl) (by rfl) (by rfl)))); go_wp2_with fail; refine hK.out _ _ ?_ (fun hHeld => ?_); (focus ((try dsimp only); (try (first | exact PR.out.held (by rfl) | exact PR.out.alloc.held (by rfl) | exact (PR.out.store F).held (by rfl) | exact (PR.out.alloc.store F).held (by rfl))); done)); clear hK; (try simp only [Act.put, List.setIfInBounds_toArray, List.set_cons_zero, List.set_cons_succ]))
            (refine wpAnyH_ready (rs := [6]) (by kernel_rfl) (by simp) ?_; refine AllReadyH.cons (o := { dst := none, op := Go.Op.store 29 (Go.Operand.tmp 15) (Go.Operand.tmp 80), type := 0, pos := "law.go:106", after := #[{ on := 5, ground := Go.Ground.data }, { on := 4, ground := Go.Ground.data }, { on := 4, ground := Go.Ground.chain }, { on := 0, ground := Go.Ground.phase }, { on := 1, ground := Go.Ground.phase }, { on := 2, ground := Go.Ground.phase }, { on := 3, ground := Go.Ground.phase }, { on := 4, ground := Go.Ground.phase }, { on := 5, ground := Go.Ground.phase }], guard := none }) rfl (fun K hK => ?_) AllReadyH.nil; ((first | (refine wp_store_row 29 _ _ rfl _ F.cs.toArray rfl rfl 29 _ (heap_alloc_new _ _) (ag_size HLF.out) (ag_sz (a := Ag0) (by first | rfl | decide) HLF.out) (ag_one _) ?_) | (refine wp_store_row 29 _ _ rfl _ F.cs.toArray rfl rfl 29 _ PR.out.at_ (ag_size HLF.out) (ag_sz (a := Ag0) (by first | rfl | decide) HLF.out) (ag_one _) ?_))); refine hK.out _ _ ?_ (fun hHeld => ?_); (focus ((try dsimp only); (try (first | exact PR.out.held (by rfl) | exact PR.out.alloc.held (by rfl) | exact (PR.out.store F).held (by rfl) | exact (PR.out.alloc.store F).held (by rfl))); done)); clear hK; (try simp only [Act.put, List.setIfInBounds_toArray, List.set_cons_zero, List.set_cons_succ]))
            refine wpAnyH_done (by kernel_rfl) ?_ _
            go_wp2_with fail
            go_meet
            first | exact ⟨_, rfl, PaI.same (PR.out.alloc.store F) rfl rfl rfl rfl⟩ | exact ⟨_, rfl, PaI.same (PR.out.store F) rfl rfl rfl rfl⟩
        case rest =>
        obtain ⟨k1, rfl, hk⟩ := hcut
        clear PR
        have PR := Lib.hid hk
        clear hk
        go_upto_region 20 with fail
        go_cut [16] (fun v wx => ∃ k : Nat, v = .pointer (some ⟨k, 0, none⟩) ∧ PaI w2 gX gY gZ X Y Z ((k, agO F) :: [(k1, agO F), (gZ, agO Z), (gY, agO Y), (gX, agO X), (gF, agO F), (g, twO e0 e1), (B, twO q0 q1)]) wx)
        case first =>
          refine wp_region_held_drew (S := (fun wx => wx.heap[gX]? = some (agO X) ∧ wx.heap[gY]? = some (agO Y) ∧ wx.heap[gZ]? = some (agO Z))) (by kernel_rfl) ?_ (fun hHeld => ?_)
          focus ((try dsimp only); (try (first | exact PR.out.held (by rfl) | exact PR.out.alloc.held (by rfl) | exact (PR.out.store F).held (by rfl) | exact (PR.out.alloc.store F).held (by rfl))); done)
          (refine wpAnyH_take (i := 0) (oi := { dst := some 81, op := Go.Op.load 29 (Go.Operand.tmp 12), type := 29, pos := "law.go:107", after := #[], guard := none }) (v := ?_) rfl (by kernel_rfl) (by kernel_rfl) (by kernel_rfl) (fun _ _ _ h => h) (Or.inl ⟨by rfl, ?_⟩) (by assumption) ?_; rotate_left; (focus (intro w hSw; (first | ((first | (refine Eq.trans (exec_load_row 29 _ (by rfl) gX (by rfl) 29 _ (0, 0) _ hSw.1 Try.underlying29 rfl (ag_size HLX.out)) ?_; with_reducible rfl) | (refine Eq.trans (exec_load_row 29 _ (by rfl) gY (by rfl) 29 _ (0, 0) _ hSw.2.1 Try.underlying29 rfl (ag_size HLY.out)) ?_; with_reducible rfl) | (refine Eq.trans (exec_load_row 29 _ (by rfl) gZ (by rfl) 29 _ (0, 0) _ hSw.2.2 Try.underlying29 rfl (ag_size HLZ.out)) ?_; with_reducible rfl)); done) | ((try dsimp only at hSw); go_simp; try with_reducible rfl)))); (try simp only [Act.put, List.setIfInBounds_toArray, List.set_cons_zero, List.set_cons_succ]))
          (refine wpAnyH_take (i := 1) (oi := { dst := some 82, op := Go.Op.load 29 (Go.Operand.tmp 13), type := 29, pos := "law.go:107", after := #[], guard := none }) (v := ?_) rfl (by kernel_rfl) (by kernel_rfl) (by kernel_rfl) (fun _ _ _ h => h) (Or.inl ⟨by rfl, ?_⟩) (by assumption) ?_; rotate_left; (focus (intro w hSw; (first | ((first | (refine Eq.trans (exec_load_row 29 _ (by rfl) gX (by rfl) 29 _ (0, 0) _ hSw.1 Try.underlying29 rfl (ag_size HLX.out)) ?_; with_reducible rfl) | (refine Eq.trans (exec_load_row 29 _ (by rfl) gY (by rfl) 29 _ (0, 0) _ hSw.2.1 Try.underlying29 rfl (ag_size HLY.out)) ?_; with_reducible rfl) | (refine Eq.trans (exec_load_row 29 _ (by rfl) gZ (by rfl) 29 _ (0, 0) _ hSw.2.2 Try.underlying29 rfl (ag_size HLZ.out)) ?_; with_reducible rfl)); done) | ((try dsimp only at hSw); go_simp; try with_reducible rfl)))); (try simp only [Act.put, List.setIfInBounds_toArray, List.set_cons_zero, List.set_cons_succ]))
          (refine wpAnyH_take (i := 2) (oi := { dst := some 83, op := Go.Op.load 29 (Go.Operand.tmp 14), type := 29, pos := "law.go:107", after := #[], guard := none }) (v := ?_) rfl (by kernel_rfl) (by kernel_rfl) (by kernel_rfl) (fun _ _ _ h => h) (Or.inl ⟨by rfl, ?_⟩) (by assumption) ?_; rotate_left; (focus (intro w hSw; (first | ((first | (refine Eq.trans (exec_load_row 29 _ (by rfl) gX (by rfl) 29 _ (0, 0) _ hSw.1 Try.underlying29 rfl (ag_size HLX.out)) ?_; with_reducible rfl) | (refine Eq.trans (exec_load_row 29 _ (by rfl) gY (by rfl) 29 _ (0, 0) _ hSw.2.1 Try.underlying29 rfl (ag_size HLY.out)) ?_; with_reducible rfl) | (refine Eq.trans (exec_load_row 29 _ (by rfl) gZ (by rfl) 29 _ (0, 0) _ hSw.2.2 Try.underlying29 rfl (ag_size HLZ.out)) ?_; with_reducible rfl)); done) | ((try dsimp only at hSw); go_simp; try with_reducible rfl)))); (try simp only [Act.put, List.setIfInBounds_toArray, List.set_cons_zero, List.set_cons_succ]))
          refine wpAnyH_ready (rs := [3, 5]) (by kernel_rfl) (by simp) ?_
          refine AllReadyH.cons (o := { dst := some 84, op := Go.Op.call { callee := Go.Callee.value (Go.Operand.func 16), args := #[Go.Operand.tmp 82, Go.Operand.tmp 83], argTypes := #[29, 29] }, type := 29, pos := "law.go:107", after := #[{ on := 1, ground := Go.Ground.data }, { on := 2, ground := Go.Ground.data }], guard := none }) rfl (fun K hK3 => ?_) (AllReadyH.cons (o := { dst := some 16, op := Go.Op.alloc 29, type := 0, pos := "law.go:107", after := #[], guard := none }) rfl (fun K hK5 => ?_) AllReadyH.nil)
          · (go_simp; ((go_at_call 16; (first | (have _c2 := hC1; refine (M4 _).mono ?_) | (have hC1 : True := trivial; refine (M2 _).mono ?_)); rintro e wn ⟨rfl, dn⟩; first | have PR := Lib.hid (PR.out.later dn (by rfl) (by rfl) (by rfl) (by rfl)) | have PR := Lib.hid (PR.out.alloc.later dn (by rfl) (by rfl) (by rfl) (by rfl)))); go_wp2_with fail; refine hK3.out _ _ ?_ (fun hHeld => ?_); (focus ((try dsimp only); (try (first | exact PR.out.held (by rfl) | exact PR.out.alloc.held (by rfl) | exact (PR.out.store F).held (by rfl) | exact (PR.out.alloc.store F).held (by rfl))); done)); clear hK3; (try simp only [Act.put, List.setIfInBounds_toArray, List.set_cons_zero, List.set_cons_succ]))
            refine wpAnyH_ready (rs := [4, 5]) (by kernel_rfl) (by simp) ?_
            refine AllReadyH.cons (o := { dst := some 85, op := Go.Op.call { callee := Go.Callee.value (Go.Operand.func 16), args := #[Go.Operand.tmp 81, Go.Operand.tmp 84], argTypes := #[29, 29] }, type := 29, pos := "law.go:107", after := #[{ on := 0, ground := Go.Ground.data }, { on := 3, ground := Go.Ground.data }, { on := 3, ground := Go.Ground.chain }], guard := none }) rfl (fun K hK4 => ?_) (AllReadyH.cons (o := { dst := some 16, op := Go.Op.alloc 29, type := 0, pos := "law.go:107", after := #[], guard := none }) rfl (fun K hK5 => ?_) AllReadyH.nil)
            · (go_simp; ((go_at_call 16; (first | (have _c2 := hC1; refine (M4 _).mono ?_) | (have hC1 : True := trivial; refine (M2 _).mono ?_)); rintro e wn ⟨rfl, dn⟩; first | have PR := Lib.hid (PR.out.later dn (by rfl) (by rfl) (by rfl) (by rfl)) | have PR := Lib.hid (PR.out.alloc.later dn (by rfl) (by rfl) (by rfl) (by rfl)))); go_wp2_with fail; refine hK4.out _ _ ?_ (fun hHeld => ?_); (focus ((try dsimp only); (try (first | exact PR.out.held (by rfl) | exact PR.out.alloc.held (by rfl) | exact (PR.out.store F).held (by rfl) | exact (PR.out.alloc.store F).held (by rfl))); done)); clear hK4; (try simp only [Act.put, List.setIfInBounds_toArray, List.set_cons_zero, List.set_cons_succ]))
              (refine wpAnyH_ready (rs := [5]) (by kernel_rfl) (by simp) ?_; refine AllReadyH.cons (o := { dst := some 16, op := Go.Op.alloc 29, type := 0, pos := "law.go:107", after := #[], guard := none }) rfl (fun K hK => ?_) AllReadyH.nil; go_simp; refine hK.out _ _ ?_ (fun hHeld => ?_); (focus ((try dsimp only); (try (first | exact PR.out.held (by rfl) | exact PR.out.alloc.held (by rfl) | exact (PR.out.store F).held (by rfl) | exact (PR.out.alloc.store F).held (by rfl))); done)); clear hK; (try simp only [Act.put, List.setIfInBounds_toArray, List.set_cons_zero, List.set_cons_succ]))
              (refine wpAnyH_ready (rs := [6]) (by kernel_rfl) (by simp) ?_; refine AllReadyH.cons (o := { dst := none, op := Go.Op.store 29 (Go.Operand.tmp 16) (Go.Operand.tmp 85), type := 0, pos := "law.go:107", after := #[{ on := 5, ground := Go.Ground.data }, { on := 4, ground := Go.Ground.data }, { on := 4, ground := Go.Ground.chain }, { on := 0, ground := Go.Ground.phase }, { on := 1, ground := Go.Ground.phase }, { on := 2, ground := Go.Ground.phase }, { on := 3, ground := Go.Ground.phase }, { on := 4, ground := Go.Ground.phase }, { on := 5, ground := Go.Ground.phase }], guard := none }) rfl (fun K hK => ?_) AllReadyH.nil; ((first | (refine wp_store_row 29 _ _ rfl _ F.cs.toArray rfl rfl 29 _ (heap_alloc_new _ _) (ag_size HLF.out) (ag_sz (a := Ag0) (by first | rfl | decide) HLF.out) (ag_one _) ?_) | (refine wp_store_row 29 _ _ rfl _ F.cs.toArray rfl rfl 29 _ PR.out.at_ (ag_size HLF.out) (ag_sz (a := Ag0) (by first | rfl | decide) HLF.out) (ag_one _) ?_))); refine hK.out _ _ ?_ (fun hHeld => ?_); (focus ((try dsimp only); (try (first | exact PR.out.held (by rfl) | exact PR.out.alloc.held (by rfl) | exact (PR.out.store F).held (by rfl) | exact (PR.out.alloc.store F).held (by rfl))); done)); clear hK; (try simp only [Act.put, List.setIfInBounds_toArray, List.set_cons_zero, List.set_cons_succ]))
              refine wpAnyH_done (by kernel_rfl) ?_ _
              go_wp2_with fail
              go_meet
              first | exact ⟨_, rfl, PaI.same (PR.out.alloc.store F) rfl rfl rfl rfl⟩ | exact ⟨_, rfl, PaI.same (PR.out.store F) rfl rfl rfl rfl⟩
            · (go_simp; refine hK5.out _ _ ?_ (fun hHeld => ?_); (focus ((try dsimp only); (try (first | exact PR.out.held (by rfl) | exact PR.out.alloc.held (by rfl) | exact (PR.out.store F).held (by rfl) | exact (PR.out.alloc.store F).held (by rfl))); done)); clear hK5; (try simp only [Act.put, List.setIfInBounds_toArray, List.set_cons_zero, List.set_cons_succ]))
              (refine wpAnyH_ready (rs := [4]) (by kernel_rfl) (by simp) ?_; refine AllReadyH.cons (o := { dst := some 85, op := Go.Op.call { callee := Go.Callee.value (Go.Operand.func 16), args := #[Go.Operand.tmp 81, Go.Operand.tmp 84], argTypes := #[29, 29] }, type := 29, pos := "law.go:107", after := #[{ on := 0, ground := Go.Ground.data }, { on := 3, ground := Go.Ground.data }, { on := 3, ground := Go.Ground.chain }], guard := none }) rfl (fun K hK => ?_) AllReadyH.nil; go_simp; ((go_at_call 16; (first | (have _c2 := hC1; refine (M4 _).mono ?_) | (have hC1 : True := trivial; refine (M2 _).mono ?_)); rintro e wn ⟨rfl, dn⟩; first | have PR := Lib.hid (PR.out.later dn (by rfl) (by rfl) (by rfl) (by rfl)) | have PR := Lib.hid (PR.out.alloc.later dn (by rfl) (by rfl) (by rfl) (by rfl)))); go_wp2_with fail; refine hK.out _ _ ?_ (fun hHeld => ?_); (focus ((try dsimp only); (try (first | exact PR.out.held (by rfl) | exact PR.out.alloc.held (by rfl) | exact (PR.out.store F).held (by rfl) | exact (PR.out.alloc.store F).held (by rfl))); done)); clear hK; (try simp only [Act.put, List.setIfInBounds_toArray, List.set_cons_zero, List.set_cons_succ]))
              (refine wpAnyH_ready (rs := [6]) (by kernel_rfl) (by simp) ?_; refine AllReadyH.cons (o := { dst := none, op := Go.Op.store 29 (Go.Operand.tmp 16) (Go.Operand.tmp 85), type := 0, pos := "law.go:107", after := #[{ on := 5, ground := Go.Ground.data }, { on := 4, ground := Go.Ground.data }, { on := 4, ground := Go.Ground.chain }, { on := 0, ground := Go.Ground.phase }, { on := 1, ground := Go.Ground.phase }, { on := 2, ground := Go.Ground.phase }, { on := 3, ground := Go.Ground.phase }, { on := 4, ground := Go.Ground.phase }, { on := 5, ground := Go.Ground.phase }], guard := none }) rfl (fun K hK => ?_) AllReadyH.nil; ((first | (refine wp_store_row 29 _ _ rfl _ F.cs.toArray rfl rfl 29 _ (heap_alloc_new _ _) (ag_size HLF.out) (ag_sz (a := Ag0) (by first | rfl | decide) HLF.out) (ag_one _) ?_) | (refine wp_store_row 29 _ _ rfl _ F.cs.toArray rfl rfl 29 _ PR.out.at_ (ag_size HLF.out) (ag_sz (a := Ag0) (by first | rfl | decide) HLF.out) (ag_one _) ?_))); refine hK.out _ _ ?_ (fun hHeld => ?_); (focus ((try dsimp only); (try (first | exact PR.out.held (by rfl) | exact PR.out.alloc.held (by rfl) | exact (PR.out.store F).held (by rfl) | exact (PR.out.alloc.store F).held (by rfl))); done)); clear hK; (try simp only [Act.put, List.setIfInBounds_toArray, List.set_cons_zero, List.set_cons_succ]))
              refine wpAnyH_done (by kernel_rfl) ?_ _
              go_wp2_with fail
              go_meet
              first | exact ⟨_, rfl, PaI.same (PR.out.alloc.store F) rfl rfl rfl rfl⟩ | exact ⟨_, rfl, PaI.same (PR.out.store F) rfl rfl rfl rfl⟩
          · (go_simp; refine hK5.out _ _ ?_ (fun hHeld => ?_); (focus ((try dsimp only); (try (first | exact PR.out.held (by rfl) | exact PR.out.alloc.held (by rfl) | exact (PR.out.store F).held (by rfl) | exact (PR.out.alloc.store F).held (by rfl))); done)); clear hK5; (try simp only [Act.put, List.setIfInBounds_toArray, List.set_cons_zero, List.set_cons_succ]))
            (refine wpAnyH_ready (rs := [3]) (by kernel_rfl) (by simp) ?_; refine AllReadyH.cons (o := { dst := some 84, op := Go.Op.call { callee := Go.Callee.value (Go.Operand.func 16), args := #[Go.Operand.tmp 82, Go.Operand.tmp 83], argTypes := #[29, 29] }, type := 29, pos := "law.go:107", after := #[{ on := 1, ground := Go.Ground.data }, { on := 2, ground := Go.Ground.data }], guard := none }) rfl (fun K hK => ?_) AllReadyH.nil; go_simp; ((go_at_call 16; (first | (have _c2 := hC1; refine (M4 _).mono ?_) | (have hC1 : True := trivial; refine (M2 _).mono ?_)); rintro e wn ⟨rfl, dn⟩; first | have PR := Lib.hid (PR.out.later dn (by rfl) (by rfl) (by rfl) (by rfl)) | have PR := Lib.hid (PR.out.alloc.later dn (by rfl) (by rfl) (by rfl) (by rfl)))); go_wp2_with fail; refine hK.out _ _ ?_ (fun hHeld => ?_); (focus ((try dsimp only); (try (first | exact PR.out.held (by rfl) | exact PR.out.alloc.held (by rfl) | exact (PR.out.store F).held (by rfl) | exact (PR.out.alloc.store F).held (by rfl))); done)); clear hK; (try simp only [Act.put, List.setIfInBounds_toArray, List.set_cons_zero, List.set_cons_succ]))
            (refine wpAnyH_ready (rs := [4]) (by kernel_rfl) (by simp) ?_; refine AllReadyH.cons (o := { dst := some 85, op := Go.Op.call { callee := Go.Callee.value (Go.Operand.func 16), args := #[Go.Operand.tmp 81, Go.Operand.tmp 84], argTypes := #[29, 29] }, type := 29, pos := "law.go:107", after := #[{ on := 0, ground := Go.Ground.data }, { on := 3, ground := Go.Ground.data }, { on := 3, ground := Go.Ground.chain }], guard := none }) rfl (fun K hK => ?_) AllReadyH.nil; go_simp; ((go_at_call 16; (first | (have _c2 := hC1; refine (M4 _).mono ?_) | (have hC1 : True := trivial; refine (M2 _).mono ?_)); rintro e wn ⟨rfl, dn⟩; first | have PR := Lib.hid (PR.out.later dn (by rfl) (by rfl) (by rfl) (by rfl)) | have PR := Lib.hid (PR.out.alloc.later dn (by rfl) (by rfl) (by rfl) (by rfl)))); go_wp2_with fail; refine hK.out _ _ ?_ (fun hHeld => ?_); (focus ((try dsimp only); (try (first | exact PR.out.held (by rfl) | exact PR.out.alloc.held (by rfl) | exact (PR.out.store F).held (by rfl) | exact (PR.out.alloc.store F).held (by rfl))); done)); clear hK; (try simp only [Act.put, List.setIfInBounds_toArray, List.set_cons_zero, List.set_cons_succ]))
            (refine wpAnyH_ready (rs := [6]) (by kernel_rfl) (by simp) ?_; refine AllReadyH.cons (o := { dst := none, op := Go.Op.store 29 (Go.Operand.tmp 16) (Go.Operand.tmp 85), type := 0, pos := "law.go:107", after := #[{ on := 5, ground := Go.Ground.data }, { on := 4, ground := Go.Ground.data }, { on := 4, ground := Go.Ground.chain }, { on := 0, ground := Go.Ground.phase }, { on := 1, ground := Go.Ground.phase }, { on := 2, ground := Go.Ground.phase }, { on := 3, ground := Go.Ground.phase }, { on := 4, ground := Go.Ground.phase }, { on := 5, ground := Go.Ground.phase }], guard := none }) rfl (fun K hK => ?_) AllReadyH.nil; ((first | (refine wp_store_row 29 _ _ rfl _ F.cs.toArray rfl rfl 29 _ (heap_alloc_new _ _) (ag_size HLF.out) (ag_sz (a := Ag0) (by first | rfl | decide) HLF.out) (ag_one _) ?_) | (refine wp_store_row 29 _ _ rfl _ F.cs.toArray rfl rfl 29 _ PR.out.at_ (ag_size HLF.out) (ag_sz (a := Ag0) (by first | rfl | decide) HLF.out) (ag_one _) ?_))); refine hK.out _ _ ?_ (fun hHeld => ?_); (focus ((try dsimp only); (try (first | exact PR.out.held (by rfl) | exact PR.out.alloc.held (by rfl) | exact (PR.out.store F).held (by rfl) | exact (PR.out.alloc.store F).held (by rfl))); done)); clear hK; (try simp only [Act.put, List.setIfInBounds_toArray, List.set_cons_zero, List.set_cons_succ]))
            refine wpAnyH_done (by kernel_rfl) ?_ _
            go_wp2_with fail
            go_meet
            first | exact ⟨_, rfl, PaI.same (PR.out.alloc.store F) rfl rfl rfl rfl⟩ | exact ⟨_, rfl, PaI.same (PR.out.store F) rfl rfl rfl rfl⟩
        case rest =>
        obtain ⟨k2, rfl, hk⟩ := hcut
        clear PR
        have PR := Lib.hid hk
        clear hk
        go_upto_region 21 with fail
        go_cut [17] (fun v wx => ∃ k : Nat, v = .pointer (some ⟨k, 0, none⟩) ∧ PaI w2 gX gY gZ X Y Z ((k, agO F) :: [(k2, agO F), (k1, agO F), (gZ, agO Z), (gY, agO Y), (gX, agO X), (gF, agO F), (g, twO e0 e1), (B, twO q0 q1)]) wx)
        case first =>
          refine wp_region_held_drew (S := (fun wx => wx.heap[gX]? = some (agO X) ∧ wx.heap[gY]? = some (agO Y) ∧ wx.heap[gZ]? = some (agO Z))) (by kernel_rfl) ?_ (fun hHeld => ?_)
          focus ((try dsimp only); (try (first | exact PR.out.held (by rfl) | exact PR.out.alloc.held (by rfl) | exact (PR.out.store F).held (by rfl) | exact (PR.out.alloc.store F).held (by rfl))); done)
          (refine wpAnyH_take (i := 0) (oi := { dst := some 86, op := Go.Op.load 29 (Go.Operand.tmp 14), type := 29, pos := "law.go:108", after := #[], guard := none }) (v := ?_) rfl (by kernel_rfl) (by kernel_rfl) (by kernel_rfl) (fun _ _ _ h => h) (Or.inl ⟨by rfl, ?_⟩) (by assumption) ?_; rotate_left; (focus (intro w hSw; (first | ((first | (refine Eq.trans (exec_load_row 29 _ (by rfl) gX (by rfl) 29 _ (0, 0) _ hSw.1 Try.underlying29 rfl (ag_size HLX.out)) ?_; with_reducible rfl) | (refine Eq.trans (exec_load_row 29 _ (by rfl) gY (by rfl) 29 _ (0, 0) _ hSw.2.1 Try.underlying29 rfl (ag_size HLY.out)) ?_; with_reducible rfl) | (refine Eq.trans (exec_load_row 29 _ (by rfl) gZ (by rfl) 29 _ (0, 0) _ hSw.2.2 Try.underlying29 rfl (ag_size HLZ.out)) ?_; with_reducible rfl)); done) | ((try dsimp only at hSw); go_simp; try with_reducible rfl)))); (try simp only [Act.put, List.setIfInBounds_toArray, List.set_cons_zero, List.set_cons_succ]))
          (refine wpAnyH_take (i := 1) (oi := { dst := some 87, op := Go.Op.load 29 (Go.Operand.tmp 12), type := 29, pos := "law.go:108", after := #[], guard := none }) (v := ?_) rfl (by kernel_rfl) (by kernel_rfl) (by kernel_rfl) (fun _ _ _ h => h) (Or.inl ⟨by rfl, ?_⟩) (by assumption) ?_; rotate_left; (focus (intro w hSw; (first | ((first | (refine Eq.trans (exec_load_row 29 _ (by rfl) gX (by rfl) 29 _ (0, 0) _ hSw.1 Try.underlying29 rfl (ag_size HLX.out)) ?_; with_reducible rfl) | (refine Eq.trans (exec_load_row 29 _ (by rfl) gY (by rfl) 29 _ (0, 0) _ hSw.2.1 Try.underlying29 rfl (ag_size HLY.out)) ?_; with_reducible rfl) | (refine Eq.trans (exec_load_row 29 _ (by rfl) gZ (by rfl) 29 _ (0, 0) _ hSw.2.2 Try.underlying29 rfl (ag_size HLZ.out)) ?_; with_reducible rfl)); done) | ((try dsimp only at hSw); go_simp; try with_reducible rfl)))); (try simp only [Act.put, List.setIfInBounds_toArray, List.set_cons_zero, List.set_cons_succ]))
          (refine wpAnyH_take (i := 2) (oi := { dst := some 88, op := Go.Op.load 29 (Go.Operand.tmp 13), type := 29, pos := "law.go:108", after := #[], guard := none }) (v := ?_) rfl (by kernel_rfl) (by kernel_rfl) (by kernel_rfl) (fun _ _ _ h => h) (Or.inl ⟨by rfl, ?_⟩) (by assumption) ?_; rotate_left; (focus (intro w hSw; (first | ((first | (refine Eq.trans (exec_load_row 29 _ (by rfl) gX (by rfl) 29 _ (0, 0) _ hSw.1 Try.underlying29 rfl (ag_size HLX.out)) ?_; with_reducible rfl) | (refine Eq.trans (exec_load_row 29 _ (by rfl) gY (by rfl) 29 _ (0, 0) _ hSw.2.1 Try.underlying29 rfl (ag_size HLY.out)) ?_; with_reducible rfl) | (refine Eq.trans (exec_load_row 29 _ (by rfl) gZ (by rfl) 29 _ (0, 0) _ hSw.2.2 Try.underlying29 rfl (ag_size HLZ.out)) ?_; with_reducible rfl)); done) | ((try dsimp only at hSw); go_simp; try with_reducible rfl)))); (try simp only [Act.put, List.setIfInBounds_toArray, List.set_cons_zero, List.set_cons_succ]))
          refine wpAnyH_ready (rs := [3, 5]) (by kernel_rfl) (by simp) ?_
          refine AllReadyH.cons (o := { dst := some 89, op := Go.Op.call { callee := Go.Callee.value (Go.Operand.func 16), args := #[Go.Operand.tmp 87, Go.Operand.tmp 88], argTypes := #[29, 29] }, type := 29, pos := "law.go:108", after := #[{ on := 1, ground := Go.Ground.data }, { on := 2, ground := Go.Ground.data }], guard := none }) rfl (fun K hK3 => ?_) (AllReadyH.cons (o := { dst := some 17, op := Go.Op.alloc 29, type := 0, pos := "law.go:108", after := #[], guard := none }) rfl (fun K hK5 => ?_) AllReadyH.nil)
          · (go_simp; ((go_at_call 16; (first | (have _c2 := hC1; refine (M5 _).mono ?_) | (have hC1 : True := trivial; refine (M1 _).mono ?_)); rintro e wn ⟨rfl, dn⟩; first | have PR := Lib.hid (PR.out.later dn (by rfl) (by rfl) (by rfl) (by rfl)) | have PR := Lib.hid (PR.out.alloc.later dn (by rfl) (by rfl) (by rfl) (by rfl)))); go_wp2_with fail; refine hK3.out _ _ ?_ (fun hHeld => ?_); (focus ((try dsimp only); (try (first | exact PR.out.held (by rfl) | exact PR.out.alloc.held (by rfl) | exact (PR.out.store F).held (by rfl) | exact (PR.out.alloc.store F).held (by rfl))); done)); clear hK3; (try simp only [Act.put, List.setIfInBounds_toArray, List.set_cons_zero, List.set_cons_succ]))
            refine wpAnyH_ready (rs := [4, 5]) (by kernel_rfl) (by simp) ?_
            refine AllReadyH.cons (o := { dst := some 90, op := Go.Op.call { callee := Go.Callee.value (Go.Operand.func 16), args := #[Go.Operand.tmp 86, Go.Operand.tmp 89], argTypes := #[29, 29] }, type := 29, pos := "law.go:108", after := #[{ on := 0, ground := Go.Ground.data }, { on := 3, ground := Go.Ground.data }, { on := 3, ground := Go.Ground.chain }], guard := none }) rfl (fun K hK4 => ?_) (AllReadyH.cons (o := { dst := some 17, op := Go.Op.alloc 29, type := 0, pos := "law.go:108", after := #[], guard := none }) rfl (fun K hK5 => ?_) AllReadyH.nil)
            · (go_simp; ((go_at_call 16; (first | (have _c2 := hC1; refine (M5 _).mono ?_) | (have hC1 : True := trivial; refine (M1 _).mono ?_)); rintro e wn ⟨rfl, dn⟩; first | have PR := Lib.hid (PR.out.later dn (by rfl) (by rfl) (by rfl) (by rfl)) | have PR := Lib.hid (PR.out.alloc.later dn (by rfl) (by rfl) (by rfl) (by rfl)))); go_wp2_with fail; refine hK4.out _ _ ?_ (fun hHeld => ?_); (focus ((try dsimp only); (try (first | exact PR.out.held (by rfl) | exact PR.out.alloc.held (by rfl) | exact (PR.out.store F).held (by rfl) | exact (PR.out.alloc.store F).held (by rfl))); done)); clear hK4; (try simp only [Act.put, List.setIfInBounds_toArray, List.set_cons_zero, List.set_cons_succ]))
              (refine wpAnyH_ready (rs := [5]) (by kernel_rfl) (by simp) ?_; refine AllReadyH.cons (o := { dst := some 17, op := Go.Op.alloc 29, type := 0, pos := "law.go:108", after := #[], guard := none }) rfl (fun K hK => ?_) AllReadyH.nil; go_simp; refine hK.out _ _ ?_ (fun hHeld => ?_); (focus ((try dsimp only); (try (first | exact PR.out.held (by rfl) | exact PR.out.alloc.held (by rfl) | exact (PR.out.store F).held (by rfl) | exact (PR.out.alloc.store F).held (by rfl))); done)); clear hK; (try simp only [Act.put, List.setIfInBounds_toArray, List.set_cons_zero, List.set_cons_succ]))
              (refine wpAnyH_ready (rs := [6]) (by kernel_rfl) (by simp) ?_; refine AllReadyH.cons (o := { dst := none, op := Go.Op.store 29 (Go.Operand.tmp 17) (Go.Operand.tmp 90), type := 0, pos := "law.go:108", after := #[{ on := 5, ground := Go.Ground.data }, { on := 4, ground := Go.Ground.data }, { on := 4, ground := Go.Ground.chain }, { on := 0, ground := Go.Ground.phase }, { on := 1, ground := Go.Ground.phase }, { on := 2, ground := Go.Ground.phase }, { on := 3, ground := Go.Ground.phase }, { on := 4, ground := Go.Ground.phase }, { on := 5, ground := Go.Ground.phase }], guard := none }) rfl (fun K hK => ?_) AllReadyH.nil; ((first | (refine wp_store_row 29 _ _ rfl _ F.cs.toArray rfl rfl 29 _ (heap_alloc_new _ _) (ag_size HLF.out) (ag_sz (a := Ag0) (by first | rfl | decide) HLF.out) (ag_one _) ?_) | (refine wp_store_row 29 _ _ rfl _ F.cs.toArray rfl rfl 29 _ PR.out.at_ (ag_size HLF.out) (ag_sz (a := Ag0) (by first | rfl | decide) HLF.out) (ag_one _) ?_))); refine hK.out _ _ ?_ (fun hHeld => ?_); (focus ((try dsimp only); (try (first | exact PR.out.held (by rfl) | exact PR.out.alloc.held (by rfl) | exact (PR.out.store F).held (by rfl) | exact (PR.out.alloc.store F).held (by rfl))); done)); clear hK; (try simp only [Act.put, List.setIfInBounds_toArray, List.set_cons_zero, List.set_cons_succ]))
              refine wpAnyH_done (by kernel_rfl) ?_ _
              go_wp2_with fail
              go_meet
              first | exact ⟨_, rfl, PaI.same (PR.out.alloc.store F) rfl rfl rfl rfl⟩ | exact ⟨_, rfl, PaI.same (PR.out.store F) rfl rfl rfl rfl⟩
            · (go_simp; refine hK5.out _ _ ?_ (fun hHeld => ?_); (focus ((try dsimp only); (try (first | exact PR.out.held (by rfl) | exact PR.out.alloc.held (by rfl) | exact (PR.out.store F).held (by rfl) | exact (PR.out.alloc.store F).held (by rfl))); done)); clear hK5; (try simp only [Act.put, List.setIfInBounds_toArray, List.set_cons_zero, List.set_cons_succ]))
              (refine wpAnyH_ready (rs := [4]) (by kernel_rfl) (by simp) ?_; refine AllReadyH.cons (o := { dst := some 90, op := Go.Op.call { callee := Go.Callee.value (Go.Operand.func 16), args := #[Go.Operand.tmp 86, Go.Operand.tmp 89], argTypes := #[29, 29] }, type := 29, pos := "law.go:108", after := #[{ on := 0, ground := Go.Ground.data }, { on := 3, ground := Go.Ground.data }, { on := 3, ground := Go.Ground.chain }], guard := none }) rfl (fun K hK => ?_) AllReadyH.nil; go_simp; ((go_at_call 16; (first | (have _c2 := hC1; refine (M5 _).mono ?_) | (have hC1 : True := trivial; refine (M1 _).mono ?_)); rintro e wn ⟨rfl, dn⟩; first | have PR := Lib.hid (PR.out.later dn (by rfl) (by rfl) (by rfl) (by rfl)) | have PR := Lib.hid (PR.out.alloc.later dn (by rfl) (by rfl) (by rfl) (by rfl)))); go_wp2_with fail; refine hK.out _ _ ?_ (fun hHeld => ?_); (focus ((try dsimp only); (try (first | exact PR.out.held (by rfl) | exact PR.out.alloc.held (by rfl) | exact (PR.out.store F).held (by rfl) | exact (PR.out.alloc.store F).held (by rfl))); done)); clear hK; (try simp only [Act.put, List.setIfInBounds_toArray, List.set_cons_zero, List.set_cons_succ]))
              (refine wpAnyH_ready (rs := [6]) (by kernel_rfl) (by simp) ?_; refine AllReadyH.cons (o := { dst := none, op := Go.Op.store 29 (Go.Operand.tmp 17) (Go.Operand.tmp 90), type := 0, pos := "law.go:108", after := #[{ on := 5, ground := Go.Ground.data }, { on := 4, ground := Go.Ground.data }, { on := 4, ground := Go.Ground.chain }, { on := 0, ground := Go.Ground.phase }, { on := 1, ground := Go.Ground.phase }, { on := 2, ground := Go.Ground.phase }, { on := 3, ground := Go.Ground.phase }, { on := 4, ground := Go.Ground.phase }, { on := 5, ground := Go.Ground.phase }], guard := none }) rfl (fun K hK => ?_) AllReadyH.nil; ((first | (refine wp_store_row 29 _ _ rfl _ F.cs.toArray rfl rfl 29 _ (heap_alloc_new _ _) (ag_size HLF.out) (ag_sz (a := Ag0) (by first | rfl | decide) HLF.out) (ag_one _) ?_) | (refine wp_store_row 29 _ _ rfl _ F.cs.toArray rfl rfl 29 _ PR.out.at_ (ag_size HLF.out) (ag_sz (a := Ag0) (by first | rfl | decide) HLF.out) (ag_one _) ?_))); refine hK.out _ _ ?_ (fun hHeld => ?_); (focus ((try dsimp only); (try (first | exact PR.out.held (by rfl) | exact PR.out.alloc.held (by rfl) | exact (PR.out.store F).held (by rfl) | exact (PR.out.alloc.store F).held (by rfl))); done)); clear hK; (try simp only [Act.put, List.setIfInBounds_toArray, List.set_cons_zero, List.set_cons_succ]))
              refine wpAnyH_done (by kernel_rfl) ?_ _
              go_wp2_with fail
              go_meet
              first | exact ⟨_, rfl, PaI.same (PR.out.alloc.store F) rfl rfl rfl rfl⟩ | exact ⟨_, rfl, PaI.same (PR.out.store F) rfl rfl rfl rfl⟩
          · (go_simp; refine hK5.out _ _ ?_ (fun hHeld => ?_); (focus ((try dsimp only); (try (first | exact PR.out.held (by rfl) | exact PR.out.alloc.held (by rfl) | exact (PR.out.store F).held (by rfl) | exact (PR.out.alloc.store F).held (by rfl))); done)); clear hK5; (try simp only [Act.put, List.setIfInBounds_toArray, List.set_cons_zero, List.set_cons_succ]))
            (refine wpAnyH_ready (rs := [3]) (by kernel_rfl) (by simp) ?_; refine AllReadyH.cons (o := { dst := some 89, op := Go.Op.call { callee := Go.Callee.value (Go.Operand.func 16), args := #[Go.Operand.tmp 87, Go.Operand.tmp 88], argTypes := #[29, 29] }, type := 29, pos := "law.go:108", after := #[{ on := 1, ground := Go.Ground.data }, { on := 2, ground := Go.Ground.data }], guard := none }) rfl (fun K hK => ?_) AllReadyH.nil; go_simp; ((go_at_call 16; (first | (have _c2 := hC1; refine (M5 _).mono ?_) | (have hC1 : True := trivial; refine (M1 _).mono ?_)); rintro e wn ⟨rfl, dn⟩; first | have PR := Lib.hid (PR.out.later dn (by rfl) (by rfl) (by rfl) (by rfl)) | have PR := Lib.hid (PR.out.alloc.later dn (by rfl) (by rfl) (by rfl) (by rfl)))); go_wp2_with fail; refine hK.out _ _ ?_ (fun hHeld => ?_); (focus ((try dsimp only); (try (first | exact PR.out.held (by rfl) | exact PR.out.alloc.held (by rfl) | exact (PR.out.store F).held (by rfl) | exact (PR.out.alloc.store F).held (by rfl))); done)); clear hK; (try simp only [Act.put, List.setIfInBounds_toArray, List.set_cons_zero, List.set_cons_succ]))
            (refine wpAnyH_ready (rs := [4]) (by kernel_rfl) (by simp) ?_; refine AllReadyH.cons (o := { dst := some 90, op := Go.Op.call { callee := Go.Callee.value (Go.Operand.func 16), args := #[Go.Operand.tmp 86, Go.Operand.tmp 89], argTypes := #[29, 29] }, type := 29, pos := "law.go:108", after := #[{ on := 0, ground := Go.Ground.data }, { on := 3, ground := Go.Ground.data }, { on := 3, ground := Go.Ground.chain }], guard := none }) rfl (fun K hK => ?_) AllReadyH.nil; go_simp; ((go_at_call 16; (first | (have _c2 := hC1; refine (M5 _).mono ?_) | (have hC1 : True := trivial; refine (M1 _).mono ?_)); rintro e wn ⟨rfl, dn⟩; first | have PR := Lib.hid (PR.out.later dn (by rfl) (by rfl) (by rfl) (by rfl)) | have PR := Lib.hid (PR.out.alloc.later dn (by rfl) (by rfl) (by rfl) (by rfl)))); go_wp2_with fail; refine hK.out _ _ ?_ (fun hHeld => ?_); (focus ((try dsimp only); (try (first | exact PR.out.held (by rfl) | exact PR.out.alloc.held (by rfl) | exact (PR.out.store F).held (by rfl) | exact (PR.out.alloc.store F).held (by rfl))); done)); clear hK; (try simp only [Act.put, List.setIfInBounds_toArray, List.set_cons_zero, List.set_cons_succ]))
            (refine wpAnyH_ready (rs := [6]) (by kernel_rfl) (by simp) ?_; refine AllReadyH.cons (o := { dst := none, op := Go.Op.store 29 (Go.Operand.tmp 17) (Go.Operand.tmp 90), type := 0, pos := "law.go:108", after := #[{ on := 5, ground := Go.Ground.data }, { on := 4, ground := Go.Ground.data }, { on := 4, ground := Go.Ground.chain }, { on := 0, ground := Go.Ground.phase }, { on := 1, ground := Go.Ground.phase }, { on := 2, ground := Go.Ground.phase }, { on := 3, ground := Go.Ground.phase }, { on := 4, ground := Go.Ground.phase }, { on := 5, ground := Go.Ground.phase }], guard := none }) rfl (fun K hK => ?_) AllReadyH.nil; ((first | (refine wp_store_row 29 _ _ rfl _ F.cs.toArray rfl rfl 29 _ (heap_alloc_new _ _) (ag_size HLF.out) (ag_sz (a := Ag0) (by first | rfl | decide) HLF.out) (ag_one _) ?_) | (refine wp_store_row 29 _ _ rfl _ F.cs.toArray rfl rfl 29 _ PR.out.at_ (ag_size HLF.out) (ag_sz (a := Ag0) (by first | rfl | decide) HLF.out) (ag_one _) ?_))); refine hK.out _ _ ?_ (fun hHeld => ?_); (focus ((try dsimp only); (try (first | exact PR.out.held (by rfl) | exact PR.out.alloc.held (by rfl) | exact (PR.out.store F).held (by rfl) | exact (PR.out.alloc.store F).held (by rfl))); done)); clear hK; (try simp only [Act.put, List.setIfInBounds_toArray, List.set_cons_zero, List.set_cons_succ]))
            refine wpAnyH_done (by kernel_rfl) ?_ _
            go_wp2_with fail
            go_meet
            first | exact ⟨_, rfl, PaI.same (PR.out.alloc.store F) rfl rfl rfl rfl⟩ | exact ⟨_, rfl, PaI.same (PR.out.store F) rfl rfl rfl rfl⟩
        case rest =>
        obtain ⟨k3, rfl, hk⟩ := hcut
        clear PR
        have PR := Lib.hid hk
        clear hk
        go_upto_region 22 with fail
        go_cut [18] (fun v wx => ∃ k : Nat, v = .pointer (some ⟨k, 0, none⟩) ∧ PaI w2 gX gY gZ X Y Z ((k, agO F) :: [(k3, agO F), (k2, agO F), (k1, agO F), (gZ, agO Z), (gY, agO Y), (gX, agO X), (gF, agO F), (g, twO e0 e1), (B, twO q0 q1)]) wx)
        case first =>
          refine wp_region_held_drew (S := (fun wx => wx.heap[gX]? = some (agO X) ∧ wx.heap[gY]? = some (agO Y) ∧ wx.heap[gZ]? = some (agO Z))) (by kernel_rfl) ?_ (fun hHeld => ?_)
          focus ((try dsimp only); (try (first | exact PR.out.held (by rfl) | exact PR.out.alloc.held (by rfl) | exact (PR.out.store F).held (by rfl) | exact (PR.out.alloc.store F).held (by rfl))); done)
          (refine wpAnyH_take (i := 0) (oi := { dst := some 91, op := Go.Op.load 29 (Go.Operand.tmp 13), type := 29, pos := "law.go:109", after := #[], guard := none }) (v := ?_) rfl (by kernel_rfl) (by kernel_rfl) (by kernel_rfl) (fun _ _ _ h => h) (Or.inl ⟨by rfl, ?_⟩) (by assumption) ?_; rotate_left; (focus (intro w hSw; (first | ((first | (refine Eq.trans (exec_load_row 29 _ (by rfl) gX (by rfl) 29 _ (0, 0) _ hSw.1 Try.underlying29 rfl (ag_size HLX.out)) ?_; with_reducible rfl) | (refine Eq.trans (exec_load_row 29 _ (by rfl) gY (by rfl) 29 _ (0, 0) _ hSw.2.1 Try.underlying29 rfl (ag_size HLY.out)) ?_; with_reducible rfl) | (refine Eq.trans (exec_load_row 29 _ (by rfl) gZ (by rfl) 29 _ (0, 0) _ hSw.2.2 Try.underlying29 rfl (ag_size HLZ.out)) ?_; with_reducible rfl)); done) | ((try dsimp only at hSw); go_simp; try with_reducible rfl)))); (try simp only [Act.put, List.setIfInBounds_toArray, List.set_cons_zero, List.set_cons_succ]))
          (refine wpAnyH_take (i := 1) (oi := { dst := some 92, op := Go.Op.load 29 (Go.Operand.tmp 14), type := 29, pos := "law.go:109", after := #[], guard := none }) (v := ?_) rfl (by kernel_rfl) (by kernel_rfl) (by kernel_rfl) (fun _ _ _ h => h) (Or.inl ⟨by rfl, ?_⟩) (by assumption) ?_; rotate_left; (focus (intro w hSw; (first | ((first | (refine Eq.trans (exec_load_row 29 _ (by rfl) gX (by rfl) 29 _ (0, 0) _ hSw.1 Try.underlying29 rfl (ag_size HLX.out)) ?_; with_reducible rfl) | (refine Eq.trans (exec_load_row 29 _ (by rfl) gY (by rfl) 29 _ (0, 0) _ hSw.2.1 Try.underlying29 rfl (ag_size HLY.out)) ?_; with_reducible rfl) | (refine Eq.trans (exec_load_row 29 _ (by rfl) gZ (by rfl) 29 _ (0, 0) _ hSw.2.2 Try.underlying29 rfl (ag_size HLZ.out)) ?_; with_reducible rfl)); done) | ((try dsimp only at hSw); go_simp; try with_reducible rfl)))); (try simp only [Act.put, List.setIfInBounds_toArray, List.set_cons_zero, List.set_cons_succ]))
          (refine wpAnyH_take (i := 3) (oi := { dst := some 94, op := Go.Op.load 29 (Go.Operand.tmp 12), type := 29, pos := "law.go:109", after := #[], guard := none }) (v := ?_) rfl (by kernel_rfl) (by kernel_rfl) (by kernel_rfl) (fun _ _ _ h => h) (Or.inl ⟨by rfl, ?_⟩) (by assumption) ?_; rotate_left; (focus (intro w hSw; (first | ((first | (refine Eq.trans (exec_load_row 29 _ (by rfl) gX (by rfl) 29 _ (0, 0) _ hSw.1 Try.underlying29 rfl (ag_size HLX.out)) ?_; with_reducible rfl) | (refine Eq.trans (exec_load_row 29 _ (by rfl) gY (by rfl) 29 _ (0, 0) _ hSw.2.1 Try.underlying29 rfl (ag_size HLY.out)) ?_; with_reducible rfl) | (refine Eq.trans (exec_load_row 29 _ (by rfl) gZ (by rfl) 29 _ (0, 0) _ hSw.2.2 Try.underlying29 rfl (ag_size HLZ.out)) ?_; with_reducible rfl)); done) | ((try dsimp only at hSw); go_simp; try with_reducible rfl)))); (try simp only [Act.put, List.setIfInBounds_toArray, List.set_cons_zero, List.set_cons_succ]))
          refine wpAnyH_ready (rs := [2, 5]) (by kernel_rfl) (by simp) ?_
          refine AllReadyH.cons (o := { dst := some 93, op := Go.Op.call { callee := Go.Callee.value (Go.Operand.func 16), args := #[Go.Operand.tmp 91, Go.Operand.tmp 92], argTypes := #[29, 29] }, type := 29, pos := "law.go:109", after := #[{ on := 0, ground := Go.Ground.data }, { on := 1, ground := Go.Ground.data }], guard := none }) rfl (fun K hK2 => ?_) (AllReadyH.cons (o := { dst := some 18, op := Go.Op.alloc 29, type := 0, pos := "law.go:109", after := #[], guard := none }) rfl (fun K hK5 => ?_) AllReadyH.nil)
          · (go_simp; ((go_at_call 16; (first | (have _c2 := hC1; refine (M6 _).mono ?_) | (have hC1 : True := trivial; refine (M2 _).mono ?_)); rintro e wn ⟨rfl, dn⟩; first | have PR := Lib.hid (PR.out.later dn (by rfl) (by rfl) (by rfl) (by rfl)) | have PR := Lib.hid (PR.out.alloc.later dn (by rfl) (by rfl) (by rfl) (by rfl)))); go_wp2_with fail; refine hK2.out _ _ ?_ (fun hHeld => ?_); (focus ((try dsimp only); (try (first | exact PR.out.held (by rfl) | exact PR.out.alloc.held (by rfl) | exact (PR.out.store F).held (by rfl) | exact (PR.out.alloc.store F).held (by rfl))); done)); clear hK2; (try simp only [Act.put, List.setIfInBounds_toArray, List.set_cons_zero, List.set_cons_succ]))
            refine wpAnyH_ready (rs := [4, 5]) (by kernel_rfl) (by simp) ?_
            refine AllReadyH.cons (o := { dst := some 95, op := Go.Op.call { callee := Go.Callee.value (Go.Operand.func 16), args := #[Go.Operand.tmp 93, Go.Operand.tmp 94], argTypes := #[29, 29] }, type := 29, pos := "law.go:109", after := #[{ on := 2, ground := Go.Ground.data }, { on := 3, ground := Go.Ground.data }, { on := 2, ground := Go.Ground.chain }], guard := none }) rfl (fun K hK4 => ?_) (AllReadyH.cons (o := { dst := some 18, op := Go.Op.alloc 29, type := 0, pos := "law.go:109", after := #[], guard := none }) rfl (fun K hK5 => ?_) AllReadyH.nil)
            · (go_simp; ((go_at_call 16; (first | (have _c2 := hC1; refine (M6 _).mono ?_) | (have hC1 : True := trivial; refine (M2 _).mono ?_)); rintro e wn ⟨rfl, dn⟩; first | have PR := Lib.hid (PR.out.later dn (by rfl) (by rfl) (by rfl) (by rfl)) | have PR := Lib.hid (PR.out.alloc.later dn (by rfl) (by rfl) (by rfl) (by rfl)))); go_wp2_with fail; refine hK4.out _ _ ?_ (fun hHeld => ?_); (focus ((try dsimp only); (try (first | exact PR.out.held (by rfl) | exact PR.out.alloc.held (by rfl) | exact (PR.out.store F).held (by rfl) | exact (PR.out.alloc.store F).held (by rfl))); done)); clear hK4; (try simp only [Act.put, List.setIfInBounds_toArray, List.set_cons_zero, List.set_cons_succ]))
              (refine wpAnyH_ready (rs := [5]) (by kernel_rfl) (by simp) ?_; refine AllReadyH.cons (o := { dst := some 18, op := Go.Op.alloc 29, type := 0, pos := "law.go:109", after := #[], guard := none }) rfl (fun K hK => ?_) AllReadyH.nil; go_simp; refine hK.out _ _ ?_ (fun hHeld => ?_); (focus ((try dsimp only); (try (first | exact PR.out.held (by rfl) | exact PR.out.alloc.held (by rfl) | exact (PR.out.store F).held (by rfl) | exact (PR.out.alloc.store F).held (by rfl))); done)); clear hK; (try simp only [Act.put, List.setIfInBounds_toArray, List.set_cons_zero, List.set_cons_succ]))
              (refine wpAnyH_ready (rs := [6]) (by kernel_rfl) (by simp) ?_; refine AllReadyH.cons (o := { dst := none, op := Go.Op.store 29 (Go.Operand.tmp 18) (Go.Operand.tmp 95), type := 0, pos := "law.go:109", after := #[{ on := 5, ground := Go.Ground.data }, { on := 4, ground := Go.Ground.data }, { on := 4, ground := Go.Ground.chain }, { on := 0, ground := Go.Ground.phase }, { on := 1, ground := Go.Ground.phase }, { on := 2, ground := Go.Ground.phase }, { on := 3, ground := Go.Ground.phase }, { on := 4, ground := Go.Ground.phase }, { on := 5, ground := Go.Ground.phase }], guard := none }) rfl (fun K hK => ?_) AllReadyH.nil; ((first | (refine wp_store_row 29 _ _ rfl _ F.cs.toArray rfl rfl 29 _ (heap_alloc_new _ _) (ag_size HLF.out) (ag_sz (a := Ag0) (by first | rfl | decide) HLF.out) (ag_one _) ?_) | (refine wp_store_row 29 _ _ rfl _ F.cs.toArray rfl rfl 29 _ PR.out.at_ (ag_size HLF.out) (ag_sz (a := Ag0) (by first | rfl | decide) HLF.out) (ag_one _) ?_))); refine hK.out _ _ ?_ (fun hHeld => ?_); (focus ((try dsimp only); (try (first | exact PR.out.held (by rfl) | exact PR.out.alloc.held (by rfl) | exact (PR.out.store F).held (by rfl) | exact (PR.out.alloc.store F).held (by rfl))); done)); clear hK; (try simp only [Act.put, List.setIfInBounds_toArray, List.set_cons_zero, List.set_cons_succ]))
              refine wpAnyH_done (by kernel_rfl) ?_ _
              go_wp2_with fail
              go_meet
              first | exact ⟨_, rfl, PaI.same (PR.out.alloc.store F) rfl rfl rfl rfl⟩ | exact ⟨_, rfl, PaI.same (PR.out.store F) rfl rfl rfl rfl⟩
            · (go_simp; refine hK5.out _ _ ?_ (fun hHeld => ?_); (focus ((try dsimp only); (try (first | exact PR.out.held (by rfl) | exact PR.out.alloc.held (by rfl) | exact (PR.out.store F).held (by rfl) | exact (PR.out.alloc.store F).held (by rfl))); done)); clear hK5; (try simp only [Act.put, List.setIfInBounds_toArray, List.set_cons_zero, List.set_cons_succ]))
              (refine wpAnyH_ready (rs := [4]) (by kernel_rfl) (by simp) ?_; refine AllReadyH.cons (o := { dst := some 95, op := Go.Op.call { callee := Go.Callee.value (Go.Operand.func 16), args := #[Go.Operand.tmp 93, Go.Operand.tmp 94], argTypes := #[29, 29] }, type := 29, pos := "law.go:109", after := #[{ on := 2, ground := Go.Ground.data }, { on := 3, ground := Go.Ground.data }, { on := 2, ground := Go.Ground.chain }], guard := none }) rfl (fun K hK => ?_) AllReadyH.nil; go_simp; ((go_at_call 16; (first | (have _c2 := hC1; refine (M6 _).mono ?_) | (have hC1 : True := trivial; refine (M2 _).mono ?_)); rintro e wn ⟨rfl, dn⟩; first | have PR := Lib.hid (PR.out.later dn (by rfl) (by rfl) (by rfl) (by rfl)) | have PR := Lib.hid (PR.out.alloc.later dn (by rfl) (by rfl) (by rfl) (by rfl)))); go_wp2_with fail; refine hK.out _ _ ?_ (fun hHeld => ?_); (focus ((try dsimp only); (try (first | exact PR.out.held (by rfl) | exact PR.out.alloc.held (by rfl) | exact (PR.out.store F).held (by rfl) | exact (PR.out.alloc.store F).held (by rfl))); done)); clear hK; (try simp only [Act.put, List.setIfInBounds_toArray, List.set_cons_zero, List.set_cons_succ]))
              (refine wpAnyH_ready (rs := [6]) (by kernel_rfl) (by simp) ?_; refine AllReadyH.cons (o := { dst := none, op := Go.Op.store 29 (Go.Operand.tmp 18) (Go.Operand.tmp 95), type := 0, pos := "law.go:109", after := #[{ on := 5, ground := Go.Ground.data }, { on := 4, ground := Go.Ground.data }, { on := 4, ground := Go.Ground.chain }, { on := 0, ground := Go.Ground.phase }, { on := 1, ground := Go.Ground.phase }, { on := 2, ground := Go.Ground.phase }, { on := 3, ground := Go.Ground.phase }, { on := 4, ground := Go.Ground.phase }, { on := 5, ground := Go.Ground.phase }], guard := none }) rfl (fun K hK => ?_) AllReadyH.nil; ((first | (refine wp_store_row 29 _ _ rfl _ F.cs.toArray rfl rfl 29 _ (heap_alloc_new _ _) (ag_size HLF.out) (ag_sz (a := Ag0) (by first | rfl | decide) HLF.out) (ag_one _) ?_) | (refine wp_store_row 29 _ _ rfl _ F.cs.toArray rfl rfl 29 _ PR.out.at_ (ag_size HLF.out) (ag_sz (a := Ag0) (by first | rfl | decide) HLF.out) (ag_one _) ?_))); refine hK.out _ _ ?_ (fun hHeld => ?_); (focus ((try dsimp only); (try (first | exact PR.out.held (by rfl) | exact PR.out.alloc.held (by rfl) | exact (PR.out.store F).held (by rfl) | exact (PR.out.alloc.store F).held (by rfl))); done)); clear hK; (try simp only [Act.put, List.setIfInBounds_toArray, List.set_cons_zero, List.set_cons_succ]))
              refine wpAnyH_done (by kernel_rfl) ?_ _
              go_wp2_with fail
              go_meet
              first | exact ⟨_, rfl, PaI.same (PR.out.alloc.store F) rfl rfl rfl rfl⟩ | exact ⟨_, rfl, PaI.same (PR.out.store F) rfl rfl rfl rfl⟩
          · (go_simp; refine hK5.out _ _ ?_ (fun hHeld => ?_); (focus ((try dsimp only); (try (first | exact PR.out.held (by rfl) | exact PR.out.alloc.held (by rfl) | exact (PR.out.store F).held (by rfl) | exact (PR.out.alloc.store F).held (by rfl))); done)); clear hK5; (try simp only [Act.put, List.setIfInBounds_toArray, List.set_cons_zero, List.set_cons_succ]))
            (refine wpAnyH_ready (rs := [2]) (by kernel_rfl) (by simp) ?_; refine AllReadyH.cons (o := { dst := some 93, op := Go.Op.call { callee := Go.Callee.value (Go.Operand.func 16), args := #[Go.Operand.tmp 91, Go.Operand.tmp 92], argTypes := #[29, 29] }, type := 29, pos := "law.go:109", after := #[{ on := 0, ground := Go.Ground.data }, { on := 1, ground := Go.Ground.data }], guard := none }) rfl (fun K hK => ?_) AllReadyH.nil; go_simp; ((go_at_call 16; (first | (have _c2 := hC1; refine (M6 _).mono ?_) | (have hC1 : True := trivial; refine (M2 _).mono ?_)); rintro e wn ⟨rfl, dn⟩; first | have PR := Lib.hid (PR.out.later dn (by rfl) (by rfl) (by rfl) (by rfl)) | have PR := Lib.hid (PR.out.alloc.later dn (by rfl) (by rfl) (by rfl) (by rfl)))); go_wp2_with fail; refine hK.out _ _ ?_ (fun hHeld => ?_); (focus ((try dsimp only); (try (first | exact PR.out.held (by rfl) | exact PR.out.alloc.held (by rfl) | exact (PR.out.store F).held (by rfl) | exact (PR.out.alloc.store F).held (by rfl))); done)); clear hK; (try simp only [Act.put, List.setIfInBounds_toArray, List.set_cons_zero, List.set_cons_succ]))
            (refine wpAnyH_ready (rs := [4]) (by kernel_rfl) (by simp) ?_; refine AllReadyH.cons (o := { dst := some 95, op := Go.Op.call { callee := Go.Callee.value (Go.Operand.func 16), args := #[Go.Operand.tmp 93, Go.Operand.tmp 94], argTypes := #[29, 29] }, type := 29, pos := "law.go:109", after := #[{ on := 2, ground := Go.Ground.data }, { on := 3, ground := Go.Ground.data }, { on := 2, ground := Go.Ground.chain }], guard := none }) rfl (fun K hK => ?_) AllReadyH.nil; go_simp; ((go_at_call 16; (first | (have _c2 := hC1; refine (M6 _).mono ?_) | (have hC1 : True := trivial; refine (M2 _).mono ?_)); rintro e wn ⟨rfl, dn⟩; first | have PR := Lib.hid (PR.out.later dn (by rfl) (by rfl) (by rfl) (by rfl)) | have PR := Lib.hid (PR.out.alloc.later dn (by rfl) (by rfl) (by rfl) (by rfl)))); go_wp2_with fail; refine hK.out _ _ ?_ (fun hHeld => ?_); (focus ((try dsimp only); (try (first | exact PR.out.held (by rfl) | exact PR.out.alloc.held (by rfl) | exact (PR.out.store F).held (by rfl) | exact (PR.out.alloc.store F).held (by rfl))); done)); clear hK; (try simp only [Act.put, List.setIfInBounds_toArray, List.set_cons_zero, List.set_cons_succ]))
            (refine wpAnyH_ready (rs := [6]) (by kernel_rfl) (by simp) ?_; refine AllReadyH.cons (o := { dst := none, op := Go.Op.store 29 (Go.Operand.tmp 18) (Go.Operand.tmp 95), type := 0, pos := "law.go:109", after := #[{ on := 5, ground := Go.Ground.data }, { on := 4, ground := Go.Ground.data }, { on := 4, ground := Go.Ground.chain }, { on := 0, ground := Go.Ground.phase }, { on := 1, ground := Go.Ground.phase }, { on := 2, ground := Go.Ground.phase }, { on := 3, ground := Go.Ground.phase }, { on := 4, ground := Go.Ground.phase }, { on := 5, ground := Go.Ground.phase }], guard := none }) rfl (fun K hK => ?_) AllReadyH.nil; ((first | (refine wp_store_row 29 _ _ rfl _ F.cs.toArray rfl rfl 29 _ (heap_alloc_new _ _) (ag_size HLF.out) (ag_sz (a := Ag0) (by first | rfl | decide) HLF.out) (ag_one _) ?_) | (refine wp_store_row 29 _ _ rfl _ F.cs.toArray rfl rfl 29 _ PR.out.at_ (ag_size HLF.out) (ag_sz (a := Ag0) (by first | rfl | decide) HLF.out) (ag_one _) ?_))); refine hK.out _ _ ?_ (fun hHeld => ?_); (focus ((try dsimp only); (try (first | exact PR.out.held (by rfl) | exact PR.out.alloc.held (by rfl) | exact (PR.out.store F).held (by rfl) | exact (PR.out.alloc.store F).held (by rfl))); done)); clear hK; (try simp only [Act.put, List.setIfInBounds_toArray, List.set_cons_zero, List.set_cons_succ]))
            refine wpAnyH_done (by kernel_rfl) ?_ _
            go_wp2_with fail
            go_meet
            first | exact ⟨_, rfl, PaI.same (PR.out.alloc.store F) rfl rfl rfl rfl⟩ | exact ⟨_, rfl, PaI.same (PR.out.store F) rfl rfl rfl rfl⟩
        case rest =>
        obtain ⟨k4, rfl, hk⟩ := hcut
        clear PR
        have PR := Lib.hid hk
        clear hk
        clear M1 M2 M3 M4 M5 M6
        have KK := Lib.hid PR.out.k
        clear PR
        have B1 := fun wx => abytes_any F wx hF
        rw [bytesA_0 HOKA.out] at B1
        have K1 := fun wx => acheck_any F wx hF
        rw [chkA_0 HOKA.out] at K1
        have hsz := agB_size F HLF.out
        have R1 := fun wx => aread_any (agB F) wx (by omega)
        rw [read_back hF HOKA.out] at R1
        have E0 := fun wx => (eq_agg F F hF hF wx).1
        rw [decide_eq_true rfl] at E0
        unfold Ag.val at B1 K1 R1 E0
        simp only at B1 R1
        generalize agB F = S at *
        clear hF HOKA
        go_upto_region 24 with (first
          | refine wpList_load_row rfl 29 _ rfl gF rfl 29 F.cs.toArray (0, 0) _ (KK.out.at_ (gF, agO F) (by simp)) Try.underlying29 rfl (ag_size HLF.out) ?_
          | (go_at_call 28; refine (B1 _).mono ?_; rintro e wn ⟨rfl, dn⟩; have KK := Lib.hid (KK.out.below dn); clear dn))
        go_upto_region 25 with (first
          | (go_at_call 26; refine (R1 _).mono ?_; rintro e w7 ⟨rfl, dn⟩; have KK := Lib.hid (KK.out.below dn); clear dn)
          | (refine wpList_store_row rfl 29 _ _ rfl _ F.cs.toArray rfl rfl 29 _ (heap_alloc_new _ _) (ag_size HLF.out) (ag_sz (a := Ag0) (by first | rfl | decide) HLF.out) (ag_one _) ?_; rw [World.setRow_alloc_new]))
        have KK := Lib.hid (KK.out.new (agO F))
        change Hid (Kn w2.heap.size w2 _ (w7.alloc (.cells F.cs.toArray 29 (0, 0)))) at KK
        obtain ⟨k5, hk5⟩ : ∃ k, w7.heap.size = k := ⟨_, rfl⟩
        rw [hk5] at KK ⊢
        generalize w7.alloc (.cells F.cs.toArray 29 (0, 0)) = w8 at *
        have cF := KK.out.cell (g := gF) (o := agO F) (by simp) (j := 0) (v := .int .i64 F.cnt) rfl
        rw [hcnt] at cF
        clear B1 R1
        go_wp2_with (first
          | refine wpList_load_row_w (by first | rfl | kernel_rfl) 29 _ rfl gF rfl 29 F.cs.toArray (0, 0) _ (KK.out.at_ (gF, agO F) (by simp)) Try.underlying29 rfl (ag_size HLF.out) ?_
          | refine wpList_load_row_w (by first | rfl | kernel_rfl) 29 _ rfl k1 rfl 29 F.cs.toArray (0, 0) _ (KK.out.at_ (k1, agO F) (by simp)) Try.underlying29 rfl (ag_size HLF.out) ?_
          | refine wpList_load_row_w (by first | rfl | kernel_rfl) 29 _ rfl k2 rfl 29 F.cs.toArray (0, 0) _ (KK.out.at_ (k2, agO F) (by simp)) Try.underlying29 rfl (ag_size HLF.out) ?_
          | refine wpList_load_row_w (by first | rfl | kernel_rfl) 29 _ rfl k3 rfl 29 F.cs.toArray (0, 0) _ (KK.out.at_ (k3, agO F) (by simp)) Try.underlying29 rfl (ag_size HLF.out) ?_
          | refine wpList_load_row_w (by first | rfl | kernel_rfl) 29 _ rfl k4 rfl 29 F.cs.toArray (0, 0) _ (KK.out.at_ (k4, agO F) (by simp)) Try.underlying29 rfl (ag_size HLF.out) ?_
          | refine wpList_load_row_w (by first | rfl | kernel_rfl) 29 _ rfl k5 rfl 29 F.cs.toArray (0, 0) _ (KK.out.at_ (k5, agO F) (by simp)) Try.underlying29 rfl (ag_size HLF.out) ?_
          | (go_at_call 30; refine (K1 _).mono ?_; rintro e w9 ⟨rfl, dn⟩; have KK := Lib.hid (KK.out.below dn); clear dn))
        go_ret
        exact ⟨rfl, below_then HB2.out HB2.out.size KK.out.b⟩
theorem parts_row (v1 : Value) (xs : List Pt) (v2 : Value) (q : Int × Int) (w : World) (h1 : IsEs Pt.cs 6 Pt.wf w v1 xs) (h2 : IsPair w v2 q) :
    Calls Try.prog 10 #[v1, v2] w fun e w' => e = .returned (.bool true) ∧ Below w.heap.size w w' := by
  obtain ⟨a, n, c, rfl, hnc, hcb, h, hwf⟩ := h1
  obtain ⟨rfl, h3, h4⟩ := h2
  exact parts_any a n c xs q.1 q.2 w h hwf hnc hcb h3 h4
end
end Go.Proofs.Ytojnooagifhekaa
