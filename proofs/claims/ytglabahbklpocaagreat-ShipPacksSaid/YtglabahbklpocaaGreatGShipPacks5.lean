/- The reference's 'vector': the 8 numbers without zeros at the end. The reference's Plain, Right, At. Stamps: which may be, which one is less, which is later. A stamp among the arguments, as a walk is told of it. mark.within, mark.Check: which stamps may be. Numbers with a sign as numbers without: the contracts of Zig, Zag, of the reference's, and of the law's 'short'. Plain law of the numbers as bytes: what was put is read again, and only that. No program is in sight. -/
import Derived.Test.YtglabahbklpocaaGreatGShipPacks4
import Derived.Test.YtglabahbklpocaaGreatGShipPacks1
import Derived.Laws.StructEq
import Derived.ProofKit
import Derived.OpenShut
import Derived.Lib.SmallJoins
namespace Go.Proofs.YtglabahbklpocaaGreat
section
open Go.RowKit
set_option maxRecDepth 100000
set_option linter.unusedVariables false
set_option linter.unusedSimpArgs false
def firstK (f : Nat → Int) (k : Nat) : List Int := (List.range k).map f
def vk (f : Nat → Int) (k : Nat) : List Int := trim (firstK f k)
theorem firstK_length (f : Nat → Int) (k : Nat) : (firstK f k).length = k := by simp [firstK]
theorem firstK_getD (f : Nat → Int) (k i : Nat) : (firstK f k).getD i 0 = if i < k then f i else 0 := by
  unfold firstK
  by_cases h : i < k
  · simp [List.getD_eq_getElem?_getD, h]
  · rw [if_neg h, getD_out (by simp; omega)]
theorem vk_length (f : Nat → Int) (k : Nat) : (vk f k).length ≤ k := by
  have := trim_length (firstK f k)
  rw [firstK_length] at this
  exact this
theorem vk_zero (f : Nat → Int) (k : Nat) (h : f k = 0) : vk f (k + 1) = vk f k := by
  apply trim_ext
  intro i
  rw [firstK_getD, firstK_getD]
  rcases Nat.lt_trichotomy i k with h1 | h1 | h1
  · rw [if_pos (by omega), if_pos h1]
  · subst h1; rw [if_pos (by omega), if_neg (by omega), h]
  · rw [if_neg (by omega), if_neg (by omega)]
theorem vk_pad (f : Nat → Int) (k j : Nat) (h : (vk f k ++ List.replicate j 0).length = k) : vk f k ++ List.replicate j 0 = firstK f k := by
  apply list_ext_getD (by rw [h, firstK_length])
  intro i hi
  have e : (vk f k ++ List.replicate j 0).getD i 0 = (vk f k).getD i 0 := by
    rw [List.getD_eq_getElem?_getD, List.getD_eq_getElem?_getD, List.getElem?_append]
    split
    · rfl
    · rename_i h2
      rw [List.getElem?_eq_none (Nat.le_of_not_lt h2), List.getElem?_replicate]
      split <;> rfl
  rw [e]
  exact trim_getD _ _
theorem vk_pos (f : Nat → Int) (k : Nat) (h : f k ≠ 0) : vk f (k + 1) = firstK f k ++ [f k] := by
  have e : firstK f (k + 1) = firstK f k ++ [f k] := by simp [firstK, List.range_succ]
  unfold vk
  rw [trim_full, e]
  right
  rw [firstK_length, firstK_getD, if_pos (by omega)]
  exact h
set_option maxHeartbeats 4000000 in
theorem rvec_any (f : Nat → Int) (w : World) (hf : ∀ i, 0 ≤ f i) :
    Calls Tryz.prog 97 #[arr8 f] w fun e w' => ∃ a' cap', e = .returned (.slice a' (vec f).length cap') ∧ (vec f).length ≤ cap' ∧ cap' ≤ 9223372036854775807 ∧ VecAt w' w.heap.size a' (vec f) ∧ Below w.heap.size w w' := by
  obtain ⟨V, HV⟩ : ∃ V, Hid (V = vec f) := ⟨_, rfl⟩
  rw [← HV.out]
  have HA8 : Hid (arr8 f = .agg (arrI (upto f 8))) := rfl
  rw [HA8.out]
  go_enter Tryz.func97, Tryz.ntmps97
  go_wp2_with fail
  have hA0 : ArrAt (w.alloc (.cells (arrI (upto f 8)) 121)) 121 w.heap.size (upto f 8) := heap_alloc_new w _
  have hB0 : Below w.heap.size w (w.alloc (.cells (arrI (upto f 8)) 121)) := (Below.refl _ _).alloc (Nat.le_refl _) _
  generalize w.alloc (.cells (arrI (upto f 8)) 121) = w1 at *
  have HA0 := Lib.hid hA0
  have HB0 := Lib.hid hB0
  have hsz0 := hB0.size
  clear hA0 hB0
  go_loopw [4, 3] (fun i s wr => ∃ (k : Nat) (a : Option Addr) (n cap : Nat), k ≤ 8 ∧ i = .int .i64 k ∧ s = .slice a n cap ∧ GrowI wr w1.heap.size a n cap (vk f k) ∧ Below w1.heap.size w1 wr) (fun i _ _ => 9 - (intOf i).toNat)
  case atStart => exact ⟨0, none, 0, 0, by omega, rfl, rfl, grow_nil _ _, Below.refl _ _⟩
  case round =>
    obtain ⟨k, a, n, cap, hk, rfl, rfl, hgr, hbel⟩ := hrel
    have hlen := hgr.len
    have hle := hgr.le
    have hmax : cap ≤ 9223372036854775807 := hgr.max
    have hvl := vk_length f k
    have HG := Lib.hid hgr
    clear hgr
    by_cases hlt : k < 8
    · have t1 : decide ((k : Int) < 8) = true := decide_eq_true (by omega)
      have i1 : (0 : Int) ≤ (k : Int) := by omega
      have i2 : (k : Int) < 8 := by omega
      have hAr := HA0.out.below hbel
      have hc := hAr.cell k (by rw [upto_length]; exact hlt)
      have hfk : (upto f 8).getD k 0 = f k := by
        rw [upto_eight, List.getD_eq_getElem?_getD]; simp [hlt]
      rw [hfk] at hc
      have HFK := Lib.hid hfk
      clear hfk hAr
      have hf0 := hf k
      by_cases hz : f k = 0
      · have HV1 := Lib.hid (vk_zero f k hz)
        rw [hz] at hc
        clear hz hf0
        go_wp2_with fail
        go_roundw
        case rel => exact ⟨k + 1, a, n, cap, by omega, by go_num, rfl, by rw [HV1.out]; exact HG.out, hbel⟩
        case measure => simp [intOf]; omega
      · have t2 : decide (0 < f k) = true := decide_eq_true (by omega)
        have HV1 := Lib.hid (vk_pos f k hz)
        have HP := Lib.hid (vk_pad f k)
        have HFL := Lib.hid (firstK_length f k)
        clear hz
        generalize f k = y at *
        go_upto_block 2 with (fail)
        go_cut [3] (fun s wx => ∃ (a2 : Option Addr) (n2 cap2 : Nat), s = .slice a2 n2 cap2 ∧ GrowI wx w1.heap.size a2 n2 cap2 (firstK f k) ∧ Below w1.heap.size w1 wx)
        case first =>
          go_wp2_with fail
          go_loopw [3] (fun s wx => ∃ (a2 : Option Addr) (n2 cap2 j : Nat), s = .slice a2 n2 cap2 ∧ n2 ≤ k ∧ GrowI wx w1.heap.size a2 n2 cap2 (vk f k ++ List.replicate j 0) ∧ Below w1.heap.size w1 wx) (fun s _ => 9 - (match s with | .slice _ n2 _ => n2 | _ => 0))
          case atStart => exact ⟨a, n, cap, 0, rfl, by omega, by simpa using HG.out, hbel⟩
          case round =>
            obtain ⟨a2, n2, cap2, j, rfl, hn2, hgr2, hbel2⟩ := hrel
            have hlen2 := hgr2.len
            have HG2 := Lib.hid hgr2
            clear hgr2
            by_cases hl2 : n2 < k
            · have t3 : decide (n2 < k) = true := decide_eq_true hl2
              go_wp2_with (at_builtin; refine wpList_append_int rfl _ _ rfl _ w1.heap.size a2 n2 cap2 (vk f k ++ List.replicate j 0) rfl (HG2.out.below ?q1) ?q2 ?q3 ⟨_, 0, none⟩ 1 0 rfl ?q4 ?q5)
              case q1 => exact (Below.refl _ _).alloc (Nat.le_refl _) _
              case q2 => exact Nat.le_trans hbel2.size (by simp)
              case q3 => omega
              case q4 => rw [World.cell?_alloc_new]; rfl
              case q5 =>
                intro a3 cap3 w3 hg3 hb3
                have HG3 := Lib.hid hg3
                clear hg3
                have hb4 : Below w1.heap.size w1 w3 := (hbel2.alloc hbel2.size _).trans hb3
                go_wp2
                go_roundw
                case rel => exact ⟨a3, n2 + 1, cap3, j + 1, rfl, by omega, by rw [List.replicate_succ', ← List.append_assoc]; exact (by rw [← List.append_assoc] at HG3; exact HG3.out), hb4⟩
                case measure => simp; omega
            · have t3 : decide (n2 < k) = false := decide_eq_false hl2
              obtain rfl : n2 = k := by omega
              have HG3 := HG2.out
              rw [HP.out j hlen2] at HG3
              have HG3 := Lib.hid HG3
              go_wp2_with fail
              go_meet
              exact ⟨a2, n2, cap2, rfl, HG3.out, hbel2⟩
        case rest =>
          obtain ⟨a2, n2, cap2, rfl, hgr2, hbel2⟩ := hcut
          have hlen2 := hgr2.len
          have hmax2 := hgr2.max
          have HG2 := Lib.hid hgr2
          clear hgr2 hc
          have hc2 := (HA0.out.below hbel2).cell k (by rw [upto_length]; exact hlt)
          rw [HFK.out] at hc2
          have hn2 : n2 = k := by rw [← hlen2, HFL.out]
          go_wp2_with (at_builtin; refine wpList_append_int rfl _ _ rfl _ w1.heap.size a2 n2 cap2 (firstK f k) rfl (HG2.out.below ?q1) ?q2 ?q3 ⟨_, 0, none⟩ 1 y rfl ?q4 ?q5)
          case q1 => exact (Below.refl _ _).alloc (Nat.le_refl _) _
          case q2 => exact Nat.le_trans hbel2.size (by simp)
          case q3 => omega
          case q4 => rw [World.cell?_alloc_new]; rfl
          case q5 =>
            intro a3 cap3 w3 hg3 hb3
            rw [← HV1.out] at hg3
            have HG3 := Lib.hid hg3
            clear hg3
            have hb4 : Below w1.heap.size w1 w3 := (hbel2.alloc hbel2.size _).trans hb3
            go_wp2
            go_roundw
            case rel => exact ⟨k + 1, a3, k + 1, cap3, by omega, by go_num, rfl, HG3.out, hb4⟩
            case measure => simp [intOf]; omega
    · have t1 : decide ((k : Int) < 8) = false := decide_eq_false (by omega)
      obtain rfl : k = 8 := by omega
      have hVe : Hid (vk f 8 = V) := by
        show _ = _
        rw [HV.out]; rfl
      have HG8 : Hid (GrowI wr w1.heap.size a n cap V) := by rw [← hVe.out]; exact HG.out
      have hVl : n = V.length := HG8.out.len.symm
      subst hVl
      go_wp2_with fail
      go_ret
      exact ⟨a, cap, rfl, hle, hmax, HG8.out.vec.mono hsz0, HB0.out.trans (hbel.mono hsz0)⟩
end
end Go.Proofs.YtglabahbklpocaaGreat
namespace Go.Proofs.YtglabahbklpocaaGreat
section
open Go.RowKit
set_option maxRecDepth 100000
set_option linter.unusedVariables false
set_option linter.unusedSimpArgs false
theorem rplain_any (a : Option Addr) (n c : Nat) (xs : List Int) (w : World) (h : ReadsI .i64 w a n xs) (hnc : n ≤ c) (hcb : c ≤ 9223372036854775807) :
    Calls Tryz.prog 35 #[.slice a n c] w fun e w' => ∃ a' cap', e = .returned (.slice a' (pl xs).length cap') ∧ (pl xs).length ≤ cap' ∧ cap' ≤ 9223372036854775807 ∧ VecAt w' w.heap.size a' (pl xs) ∧ Below w.heap.size w w' := by
  go_enter Tryz.func35, Tryz.ntmps35
  go_wp2_with fail
  refine (rall_any a n c xs w h hnc hcb).mono ?_
  rintro e w1 ⟨rfl, hb⟩
  go_wp2_with fail
  refine (rvec_any (nm xs) _ (fun i => (nm_range xs i).1)).mono ?_
  rintro e w2 ⟨a', cap', rfl, hl, hm, hv, hb2⟩
  go_wp2
  go_ret
  exact ⟨a', cap', rfl, hl, hm, hv.mono hb.size, below_then hb hb.size hb2⟩
theorem rright_any (a : Option Addr) (n c : Nat) (xs : List Int) (w : World) (h : ReadsI .i64 w a n xs) (hnc : n ≤ c) (hcb : c ≤ 9223372036854775807) :
    Calls Tryz.prog 74 #[.slice a n c] w fun e w' => e = .returned (.bool (decide (xs = pl xs))) ∧ Below w.heap.size w w' := by
  go_enter Tryz.func74, Tryz.ntmps74
  go_wp2_with fail
  refine (rplain_any a n c xs w h hnc hcb).mono ?_
  rintro e w1 ⟨a', cap', rfl, hl, hm, hv, hb⟩
  go_wp2_with fail
  refine (same_any a a' n c _ cap' xs (pl xs) _ (h.below hb) hv.reads hnc hcb hl hm).mono ?_
  rintro e w2 ⟨rfl, hb2⟩
  go_wp2
  go_ret
  exact ⟨rfl, below_then hb hb.size hb2⟩
theorem run_index_arr {P : Program} {T E n : Nat} (hT : P.underlying T = some (.array n E)) (hs : ∀ w, (sizeOf E).run P w = .ok 1 w) (ha : ∀ w, (isAgg E).run P w = .ok false w) (cells : Array Value) (k : Nat) (v : Value) (hk : k < n) (hc : cells[k]? = some v) :
    ∀ w : World, (Instr.index T (.agg cells) (.int .i64 k)).run P w = .ok v w := by
  intro w
  have h1 : (0 : Int) ≤ (k : Int) ∧ (k : Int) < (n : Int) := by omega
  simp [Instr.index, run_underlying hT, asIntOf, h1, hs, ha, part, hc, go_sem]
  omega
theorem rat_any (a : Option Addr) (n c : Nat) (xs : List Int) (site : Int) (w : World) (h : ReadsI .i64 w a n xs) (hnc : n ≤ c) (hcb : c ≤ 9223372036854775807) :
    Calls Tryz.prog 29 #[.slice a n c, .int .i64 site] w fun e w' => e = .returned (.int .i64 (atV xs site)) ∧ Below w.heap.size w w' := by
  obtain ⟨V, HV⟩ : ∃ V, Hid (V = atV xs site) := ⟨_, rfl⟩
  rw [← HV.out]
  unfold atV at HV
  by_cases h0 : site < 0
  · have t1 : decide (site < 0) = true := decide_eq_true h0
    rw [if_neg (by omega)] at HV
    go_enter Tryz.func29, Tryz.ntmps29
    go_wp2_with fail
    go_ret
    exact ⟨by rw [HV.out]; rfl, Below.refl _ _⟩
  · have t1 : decide (site < 0) = false := decide_eq_false h0
    by_cases h7 : 7 < site
    · have t2 : decide (7 < site) = true := decide_eq_true h7
      rw [if_neg (by omega)] at HV
      go_enter Tryz.func29, Tryz.ntmps29
      go_wp2_with fail
      go_ret
      exact ⟨by rw [HV.out]; rfl, Below.refl _ _⟩
    · have t2 : decide (7 < site) = false := decide_eq_false h7
      rw [if_pos (by omega)] at HV
      obtain ⟨k, rfl⟩ : ∃ k : Nat, site = k := ⟨site.toNat, by omega⟩
      rw [Int.toNat_natCast] at HV
      have hk : k < 8 := by omega
      have hel : (arrI (upto (nm xs) 8))[k]? = some (.int .i64 (nm xs k)) := by
        rw [arrI_get _ _ (by rw [upto_length]; exact hk), upto_eight, List.getD_eq_getElem?_getD]
        simp [hk]
      have HA8 : Hid (arr8 (nm xs) = .agg (arrI (upto (nm xs) 8))) := rfl
      have hsz : (arrI (upto (nm xs) 8)).size = 8 := by rw [arrI_size, upto_length]
      have hix := run_index_arr (P := Tryz.prog) Tryz.underlying121 Tryz.sizeOf3 Tryz.isAgg3 _ k _ hk hel
      go_enter Tryz.func29, Tryz.ntmps29
      go_wp2_with fail
      refine (rall_any a n c xs w h hnc hcb).mono ?_
      rintro e w1 ⟨rfl, hb⟩
      rw [HA8.out]
      generalize arrI (upto (nm xs) 8) = cells at *
      go_wp2_with fail
      go_ret
      exact ⟨by rw [HV.out]; rfl, hb⟩
end
end Go.Proofs.YtglabahbklpocaaGreat
namespace Go.Proofs.YtglabahbklpocaaGreat
section
open Go.RowKit
set_option maxRecDepth 100000
set_option linter.unusedVariables false
set_option linter.unusedSimpArgs false
structure St where
  clock : Int
  site : Int
  seq : Int
deriving DecidableEq
def St.val (a : St) : Value := .agg #[.int .i64 a.clock, .int .i64 a.site, .int .i64 a.seq]
def inV (n : Int) : Bool := decide (1 ≤ n) && decide (n ≤ 1099511627776)
def okV (a : St) : Bool := inV a.clock && inV a.seq && decide (0 ≤ a.site) && decide (a.site < 8)
theorem eq_stamp (a b : St) (w : World) : (binOp .eql 58 a.val b.val).run Tryz.prog w = .ok (.bool (decide (a = b))) w := by
  have u3 := Tryz.underlying3
  have a3 := Tryz.isAgg3
  have z3 := Tryz.sizeOf3
  have hS : Tryz.prog.underlying 58 = some (.struct (Tryz.prog.fieldsOf 58)) := by kernel_rfl
  have hp : Tryz.prog.stoodInHeld 58 = false := by kernel_rfl
  obtain ⟨c1, s1, q1⟩ := a
  obtain ⟨c2, s2, q2⟩ := b
  simp only [St.val]
  rw [run_eql_struct, show (10000 : Nat) = 9999 + 1 from rfl, run_equalIn_agg w 9999 58 _ _ hS hp]
  simp only [Program.fieldsOf, Tryz.underlying58]
  go_simp
  by_cases h1 : c1 = c2 <;> by_cases h2 : s1 = s2 <;> by_cases h3 : q1 = q2 <;> simp [h1, h2, h3]
end
end Go.Proofs.YtglabahbklpocaaGreat
namespace Go.Proofs.YtglabahbklpocaaGreat
section
open Go.ChangeShapes Go.WideShapes Go.ChangeAt Go.RowKit Go.Joins Go.Deep
set_option maxRecDepth 100000
set_option linter.unusedVariables false
set_option linter.unusedSimpArgs false
def St.wf (a : St) : Prop := (-9223372036854775808 ≤ a.clock ∧ a.clock ≤ 9223372036854775807) ∧ (-9223372036854775808 ≤ a.site ∧ a.site ≤ 9223372036854775807) ∧ (-9223372036854775808 ≤ a.seq ∧ a.seq ≤ 9223372036854775807)
end
end Go.Proofs.YtglabahbklpocaaGreat
namespace Go.Proofs.YtglabahbklpocaaGreat
section
open Go.RowKit
set_option maxRecDepth 100000
set_option linter.unusedVariables false
set_option linter.unusedSimpArgs false
theorem within_any (n : Int) (w : World) : Calls Tryz.prog 134 #[.int .i64 n] w fun e w' => e = .returned (.bool (inV n)) ∧ w = w' := by
  obtain ⟨V, HV⟩ : ∃ V, Hid (V = inV n) := ⟨_, rfl⟩
  rw [← HV.out]
  unfold inV at HV
  by_cases h1 : 1 ≤ n
  · have t1 : decide (1 ≤ n) = true := decide_eq_true h1
    by_cases h2 : n ≤ 1099511627776
    · have t2 : decide (n ≤ 1099511627776) = true := decide_eq_true h2
      rw [t1, t2] at HV
      go_enter Tryz.func134, Tryz.ntmps134
      go_wp2_with fail
      go_ret
      exact ⟨by rw [HV.out]; rfl, rfl⟩
    · have t2 : decide (n ≤ 1099511627776) = false := decide_eq_false h2
      rw [t1, t2] at HV
      go_enter Tryz.func134, Tryz.ntmps134
      go_wp2_with fail
      go_ret
      exact ⟨by rw [HV.out]; rfl, rfl⟩
  · have t1 : decide (1 ≤ n) = false := decide_eq_false h1
    rw [t1] at HV
    go_enter Tryz.func134, Tryz.ntmps134
    go_wp2_with fail
    go_ret
    exact ⟨by rw [HV.out]; rfl, rfl⟩
def chkV (a : St) : Int := if okV a = true then 0 else 1
set_option maxHeartbeats 1000000 in
theorem check_any (a : St) (w : World) : Calls Tryz.prog 120 #[a.val] w fun e w' => e = .returned (.int .i64 (chkV a)) ∧ Below w.heap.size w w' := by
  obtain ⟨V, HV⟩ : ∃ V, Hid (V = chkV a) := ⟨_, rfl⟩
  rw [← HV.out]
  obtain ⟨c, s, q⟩ := a
  unfold chkV okV at HV
  unfold St.val
  simp only at HV ⊢
  have hB : Below w.heap.size w (w.alloc (.cells #[.int .i64 c, .int .i64 s, .int .i64 q] 58)) := (Below.refl _ _).alloc (Nat.le_refl _) _
  go_enter Tryz.func120, Tryz.ntmps120
  go_wp2_with fail
  refine (within_any c _).mono ?_
  rintro e w1 ⟨rfl, rfl⟩
  cases h1 : inV c
  · rw [h1] at HV
    go_wp2_with fail
    go_ret
    exact ⟨by rw [HV.out]; rfl, hB⟩
  · rw [h1] at HV
    go_wp2_with fail
    refine (within_any q _).mono ?_
    rintro e w1 ⟨rfl, rfl⟩
    cases h2 : inV q
    · rw [h2] at HV
      go_wp2_with fail
      go_ret
      exact ⟨by rw [HV.out]; rfl, hB⟩
    · rw [h2] at HV
      by_cases h3 : s < 0
      · have t3 : decide (s < 0) = true := decide_eq_true h3
        rw [show decide (0 ≤ s) = false from decide_eq_false (by omega)] at HV
        go_wp2_with fail
        go_ret
        exact ⟨by rw [HV.out]; rfl, hB⟩
      · have t3 : decide (s < 0) = false := decide_eq_false h3
        rw [show decide (0 ≤ s) = true from decide_eq_true (by omega)] at HV
        by_cases h4 : 8 ≤ s
        · have t4 : decide (8 ≤ s) = true := decide_eq_true h4
          rw [show decide (s < 8) = false from decide_eq_false (by omega)] at HV
          go_wp2_with fail
          go_ret
          exact ⟨by rw [HV.out]; rfl, hB⟩
        · have t4 : decide (8 ≤ s) = false := decide_eq_false h4
          rw [show decide (s < 8) = true from decide_eq_true (by omega)] at HV
          go_wp2_with fail
          go_ret
          exact ⟨by rw [HV.out]; rfl, hB⟩
end
end Go.Proofs.YtglabahbklpocaaGreat
namespace Go.Proofs.YtglabahbklpocaaGreat
section
open Go.RowKit
set_option maxRecDepth 100000
set_option linter.unusedVariables false
set_option linter.unusedSimpArgs false
def zig (n : Int) : Int := if 0 ≤ n then 2 * n else -2 * n - 1
def zag (u : Int) : Int := if u % 2 = 0 then u / 2 else -(u / 2) - 1
theorem zig_range (n : Int) (h0 : -9223372036854775808 ≤ n) (h1 : n ≤ 9223372036854775807) : 0 ≤ zig n ∧ zig n < 18446744073709551616 := by unfold zig; split <;> omega
theorem zag_range (u : Int) (h0 : 0 ≤ u) (h1 : u < 18446744073709551616) : -9223372036854775808 ≤ zag u ∧ zag u ≤ 9223372036854775807 := by unfold zag; split <;> omega
theorem zag_zig (n : Int) : zag (zig n) = n := by unfold zig zag; split <;> split <;> omega
theorem zig_zag (u : Int) (h : 0 ≤ u) : zig (zag u) = u := by unfold zig zag; split <;> split <;> omega
theorem xor_u64_zero (x : Int) (h0 : 0 ≤ x) (h1 : x < 18446744073709551616) : bits .xor .u64 x 0 = x := by
  obtain ⟨a, rfl⟩ := Int.eq_ofNat_of_zero_le h0
  have ha : a < 2 ^ 64 := by omega
  show IntKind.u64.wrap (((BitVec.ofInt 64 (a : Int) ^^^ BitVec.ofInt 64 0 : BitVec 64).toNat : Nat) : Int) = _
  rw [show BitVec.ofInt 64 0 = 0#64 from rfl, BitVec.xor_zero, BitVec.ofInt_natCast, BitVec.toNat_ofNat, Nat.mod_eq_of_lt ha]
  exact wraps_u64 _ (by omega) (by omega)
theorem xor_u64_ones (x : Int) (h0 : 0 ≤ x) (h1 : x < 18446744073709551616) : bits .xor .u64 x 18446744073709551615 = 18446744073709551615 - x := by
  obtain ⟨a, rfl⟩ := Int.eq_ofNat_of_zero_le h0
  have ha : a < 2 ^ 64 := by omega
  show IntKind.u64.wrap (((BitVec.ofInt 64 (a : Int) ^^^ BitVec.ofInt 64 18446744073709551615 : BitVec 64).toNat : Nat) : Int) = _
  rw [show BitVec.ofInt 64 18446744073709551615 = BitVec.allOnes 64 from by decide, BitVec.xor_allOnes, BitVec.toNat_not, BitVec.ofInt_natCast, BitVec.toNat_ofNat, Nat.mod_eq_of_lt ha]
  rw [wraps_u64 _ (by omega) (by omega)]
  omega
theorem xor_i64_zero (x : Int) (h0 : 0 ≤ x) (h1 : x < 9223372036854775808) : bits .xor .i64 x 0 = x := by
  obtain ⟨a, rfl⟩ := Int.eq_ofNat_of_zero_le h0
  have ha : a < 2 ^ 64 := by omega
  show IntKind.i64.wrap (((BitVec.ofInt 64 (a : Int) ^^^ BitVec.ofInt 64 0 : BitVec 64).toNat : Nat) : Int) = _
  rw [show BitVec.ofInt 64 0 = 0#64 from rfl, BitVec.xor_zero, BitVec.ofInt_natCast, BitVec.toNat_ofNat, Nat.mod_eq_of_lt ha, IntKind.wrap_i64]
  omega
theorem xor_i64_ones (x : Int) (h0 : 0 ≤ x) (h1 : x < 9223372036854775808) : bits .xor .i64 x (-1) = -x - 1 := by
  obtain ⟨a, rfl⟩ := Int.eq_ofNat_of_zero_le h0
  have ha : a < 2 ^ 64 := by omega
  show IntKind.i64.wrap (((BitVec.ofInt 64 (a : Int) ^^^ BitVec.ofInt 64 (-1) : BitVec 64).toNat : Nat) : Int) = _
  rw [show BitVec.ofInt 64 (-1) = BitVec.allOnes 64 from by decide, BitVec.xor_allOnes, BitVec.toNat_not, BitVec.ofInt_natCast, BitVec.toNat_ofNat, Nat.mod_eq_of_lt ha, IntKind.wrap_i64]
  omega
theorem and_u64_one (x : Int) (h0 : 0 ≤ x) (h1 : x < 18446744073709551616) : bits .and .u64 x 1 = x % 2 := bits_mask .u64 64 (by decide) wraps_u64 1 (by decide) x h0 (by omega)
theorem ret_num {k : IntKind} {a b : Int} (h : a = b) : Ending.returned (.int k a) = .returned (.int k b) := by rw [h]
theorem zig_any (n : Int) (w : World) (h0 : -9223372036854775808 ≤ n) (h1 : n ≤ 9223372036854775807) :
    Calls Tryz.prog 131 #[.int .i64 n] w fun e w' => e = .returned (.int .u64 (zig n)) ∧ w = w' := by
  go_enter Tryz.func131, Tryz.ntmps131
  go_wp2
  go_ret
  refine ⟨ret_num ?_, rfl⟩
  unfold zig
  split
  · rw [show n / 9223372036854775808 = 0 by omega, wrap_u64, wrap_u64, wrap_u64, show (0 : Int) % 18446744073709551616 = 0 from rfl, xor_u64_zero _ (by omega) (by omega)]
    omega
  · rw [show n / 9223372036854775808 = -1 by omega, wrap_u64, wrap_u64, wrap_u64, show (-1 : Int) % 18446744073709551616 = 18446744073709551615 from rfl, xor_u64_ones _ (by omega) (by omega)]
    omega
theorem zag_any (u : Int) (w : World) (h0 : 0 ≤ u) (h1 : u < 18446744073709551616) :
    Calls Tryz.prog 133 #[.int .u64 u] w fun e w' => e = .returned (.int .i64 (zag u)) ∧ w = w' := by
  go_enter Tryz.func133, Tryz.ntmps133
  go_wp2
  go_ret
  refine ⟨ret_num ?_, rfl⟩
  rw [and_u64_one u h0 h1]
  unfold zag
  split
  · rename_i h
    rw [h, show wrap64 (-wrap64 0) = 0 from by unfold wrap64; omega, xor_i64_zero _ (by omega) (by omega)]
  · rename_i h
    rw [show u % 2 = 1 by omega, show wrap64 (-wrap64 1) = -1 from by unfold wrap64; omega, xor_i64_ones _ (by omega) (by omega)]
theorem extract_all (s : ByteArray) (n : Nat) (h : s.size ≤ n) : s.extract 0 n = s := by
  apply ByteArray.ext
  rw [ByteArray.data_extract]
  have : s.data.size ≤ n := h
  exact Array.extract_eq_self_of_le this
end
end Go.Proofs.YtglabahbklpocaaGreat
namespace Go.Proofs.YtglabahbklpocaaGreat
section
open Go.RowKit
set_option maxRecDepth 100000
set_option linter.unusedVariables false
set_option linter.unusedSimpArgs false
def putB (f : Nat) (n : Int) : List UInt8 := (putI f n).map fun x => UInt8.ofNat x.toNat
theorem vput_data (n : Int) : (vput n).data.toList = putB 9 n := rfl
theorem u8_of (x : Int) (h0 : 0 ≤ x) (h1 : x < 256) : ((UInt8.ofNat x.toNat).toNat : Int) = x := by
  rw [UInt8.toNat_ofNat_of_lt' (by simp [UInt8.size]; omega)]; omega
theorem putI_small (f : Nat) (n : Int) (h : n < 128) : putI f n = [n] := by
  cases f with
  | zero => rfl
  | succ f => simp [putI, h]
theorem putI_big (f : Nat) (n : Int) (h : ¬ n < 128) : putI (f + 1) n = (n % 128 + 128) :: putI f (n / 128) := by simp [putI, h]
theorem putB_small (f : Nat) (n : Int) (h : n < 128) : putB f n = [UInt8.ofNat n.toNat] := by simp [putB, putI_small f n h]
theorem putB_big (f : Nat) (n : Int) (h : ¬ n < 128) : putB (f + 1) n = UInt8.ofNat (n % 128 + 128).toNat :: putB f (n / 128) := by simp [putB, putI_big f n h]
theorem putI_pos (f : Nat) (n : Int) : 1 ≤ (putI f n).length := by
  cases f with
  | zero => simp [putI]
  | succ f => simp only [putI]; split <;> simp
theorem putI_le (f : Nat) (n : Int) : (putI f n).length ≤ f + 1 := by
  induction f generalizing n with
  | zero => simp [putI]
  | succ f ih =>
    simp only [putI]
    split
    · simp
    · have := ih (n / 128); simp; omega
/-- What was put is read. -/
theorem getL_put (f : Nat) (n : Int) (rest : List UInt8) (h0 : 0 ≤ n) (h1 : n < 128 ^ f * 128) : getL (f + 1) (putB f n ++ rest) = some (n, (putI f n).length) := by
  induction f generalizing n with
  | zero =>
    have hs : n < 128 := by simpa using h1
    rw [putB_small 0 n hs, List.singleton_append, getL_cons, u8_of n h0 (by omega), if_pos hs]; rfl
  | succ f ih =>
    by_cases hs : n < 128
    · rw [putB_small _ n hs, List.singleton_append, getL_cons, u8_of n h0 (by omega), if_pos hs, putI_small _ n hs]; rfl
    · rw [putB_big f n hs, List.cons_append, getL_cons, u8_of _ (by omega) (by omega), if_neg (by omega), ih (n / 128) (by omega) (by rw [Int.pow_succ] at h1; exact Int.ediv_lt_of_lt_mul (by omega) (by omega)), putI_big f n hs]
      simp only [Option.map_some, List.length_cons, Option.some.injEq, Prod.mk.injEq, and_true]
      omega
/-- The number and its length are of the shortest form. -/
theorem putI_canon (f : Nat) (n : Int) (h0 : 0 ≤ n) : (putI f n).length = 1 ∨ (128 : Int) ^ ((putI f n).length - 1) ≤ n := by
  induction f generalizing n with
  | zero => left; rfl
  | succ f ih =>
    by_cases hs : n < 128
    · left; rw [putI_small _ n hs]; rfl
    · right
      rw [putI_big f n hs, List.length_cons, Nat.add_sub_cancel]
      have hp := putI_pos f (n / 128)
      rcases ih (n / 128) (by omega) with h | h
      · rw [h]; simp only [Int.pow_one]; omega
      · obtain ⟨q, hq⟩ : ∃ q, (putI f (n / 128)).length = q + 1 := ⟨(putI f (n / 128)).length - 1, by omega⟩
        rw [hq, Nat.add_sub_cancel] at h
        rw [hq, Int.pow_succ]
        omega
theorem getL_some (f : Nat) (l : List UInt8) (V : Int) (c : Nat) (h : getL f l = some (V, c)) : 0 ≤ V ∧ 1 ≤ c ∧ c ≤ l.length ∧ c ≤ f ∧ getL f (l.take c) = some (V, c) ∧ ∀ r, getL f (l.take c ++ r) = some (V, c) := by
  induction f generalizing l V c with
  | zero => exact absurd (show (none : Option (Int × Nat)) = some (V, c) from h) (by simp)
  | succ f ih =>
    cases l with
    | nil => exact absurd (show (none : Option (Int × Nat)) = some (V, c) from h) (by simp)
    | cons b r =>
      rw [getL_cons] at h
      by_cases hb : (b.toNat : Int) < 128
      · rw [if_pos hb] at h
        simp only [Option.some.injEq, Prod.mk.injEq] at h
        obtain ⟨rfl, rfl⟩ := h
        refine ⟨by omega, by omega, by simp, by omega, ?_, fun r' => ?_⟩
        · rw [List.take_succ_cons, getL_cons, if_pos hb]
        · rw [List.take_succ_cons, List.cons_append, getL_cons, if_pos hb]
      · rw [if_neg hb] at h
        cases hg : getL f r with
        | none => simp [hg] at h
        | some p =>
          obtain ⟨V', c'⟩ := p
          simp only [hg, Option.map_some, Option.some.injEq, Prod.mk.injEq] at h
          obtain ⟨rfl, rfl⟩ := h
          obtain ⟨h1, h2, h3, h4, h5, h6⟩ := ih r V' c' hg
          refine ⟨by omega, by omega, by simp; omega, by omega, ?_, fun r' => ?_⟩
          · rw [List.take_succ_cons, getL_cons, if_neg hb, h5]; rfl
          · rw [List.take_succ_cons, List.cons_append, getL_cons, if_neg hb, h6]; rfl
/-- What is read in the shortest form was put. -/
theorem put_getL (f : Nat) (l : List UInt8) (V : Int) (c : Nat) (F : Nat) (h : getL f l = some (V, c)) (hc : c = 1 ∨ (128 : Int) ^ (c - 1) ≤ V) (hF : c ≤ F + 1) : l.take c = putB F V := by
  induction f generalizing l V c F with
  | zero => exact absurd (show (none : Option (Int × Nat)) = some (V, c) from h) (by simp)
  | succ f ih =>
    cases l with
    | nil => exact absurd (show (none : Option (Int × Nat)) = some (V, c) from h) (by simp)
    | cons b r =>
      rw [getL_cons] at h
      have hlt := b.toNat_lt
      by_cases hb : (b.toNat : Int) < 128
      · rw [if_pos hb] at h
        simp only [Option.some.injEq, Prod.mk.injEq] at h
        obtain ⟨rfl, rfl⟩ := h
        rw [putB_small F _ hb]
        simp
      · rw [if_neg hb] at h
        cases hg : getL f r with
        | none => simp [hg] at h
        | some p =>
          obtain ⟨V', c'⟩ := p
          simp only [hg, Option.map_some, Option.some.injEq, Prod.mk.injEq] at h
          obtain ⟨rfl, rfl⟩ := h
          obtain ⟨h1, h2, h3, h4, h5, h6⟩ := getL_some f r V' c' hg
          obtain ⟨F, rfl⟩ : ∃ k, F = k + 1 := ⟨F - 1, by omega⟩
          rw [Nat.add_sub_cancel] at hc
          have hbig : (128 : Int) ^ c' ≤ (b.toNat : Int) - 128 + 128 * V' := by omega
          have e : c' = (c' - 1) + 1 := by omega
          have hp : (0 : Int) < 128 ^ (c' - 1) := Int.pow_pos (by decide)
          rw [e, Int.pow_succ] at hbig
          have hq : ¬ ((b.toNat : Int) - 128 + 128 * V' < 128) := by omega
          have hd : ((b.toNat : Int) - 128 + 128 * V') / 128 = V' := by omega
          have hm : ((b.toNat : Int) - 128 + 128 * V') % 128 + 128 = (b.toNat : Int) := by omega
          rw [putB_big F _ hq, hd, hm, List.take_succ_cons, ih r V' c' F hg (by right; omega) (by omega)]
          simp
end
end Go.Proofs.YtglabahbklpocaaGreat
