/- The reference's 'vector': the 8 numbers without zeros at the end. The reference's Plain, Right, At. Stamps: which may be, which one is less, which is later. A stamp among the arguments, as a walk is told of it. -/
import Derived.Test.YtglabahbklpocaaGShipMany8
import Derived.Test.YtglabahbklpocaaGShipMany9
import Derived.Test.YtglabahbklpocaaGShipMany7
import Derived.Test.YtglabahbklpocaaGShipMany1
import Derived.Laws.StructEq
import Derived.ProofKit
import Derived.OpenShut
import Derived.Lib.SmallJoins
namespace Go.Proofs.Ytglabahbklpocaa
section
open Go.RowKit
set_option maxRecDepth 100000
set_option linter.unusedVariables false
set_option linter.unusedSimpArgs false
def firstK (f : Nat → Int) (k : Nat) : List Int := (List.range k).map f
def vk (f : Nat → Int) (k : Nat) : List Int := trim (firstK f k)
theorem firstK_length (f : Nat → Int) (k : Nat) : (firstK f k).length = k := by simp [firstK]
theorem firstK_getD (f : Nat → Int) (k i : Nat) : (firstK f k).getD i 0 = if i < k then f i else 0 := by
  unfold firstK
  by_cases h : i < k
  · simp [List.getD_eq_getElem?_getD, h]
  · rw [if_neg h, getD_out (by simp; omega)]
theorem vk_length (f : Nat → Int) (k : Nat) : (vk f k).length ≤ k := by
  have := trim_length (firstK f k)
  rw [firstK_length] at this
  exact this
theorem vk_zero (f : Nat → Int) (k : Nat) (h : f k = 0) : vk f (k + 1) = vk f k := by
  apply trim_ext
  intro i
  rw [firstK_getD, firstK_getD]
  rcases Nat.lt_trichotomy i k with h1 | h1 | h1
  · rw [if_pos (by omega), if_pos h1]
  · subst h1; rw [if_pos (by omega), if_neg (by omega), h]
  · rw [if_neg (by omega), if_neg (by omega)]
theorem vk_pad (f : Nat → Int) (k j : Nat) (h : (vk f k ++ List.replicate j 0).length = k) : vk f k ++ List.replicate j 0 = firstK f k := by
  apply list_ext_getD (by rw [h, firstK_length])
  intro i hi
  have e : (vk f k ++ List.replicate j 0).getD i 0 = (vk f k).getD i 0 := by
    rw [List.getD_eq_getElem?_getD, List.getD_eq_getElem?_getD, List.getElem?_append]
    split
    · rfl
    · rename_i h2
      rw [List.getElem?_eq_none (Nat.le_of_not_lt h2), List.getElem?_replicate]
      split <;> rfl
  rw [e]
  exact trim_getD _ _
theorem vk_pos (f : Nat → Int) (k : Nat) (h : f k ≠ 0) : vk f (k + 1) = firstK f k ++ [f k] := by
  have e : firstK f (k + 1) = firstK f k ++ [f k] := by simp [firstK, List.range_succ]
  unfold vk
  rw [trim_full, e]
  right
  rw [firstK_length, firstK_getD, if_pos (by omega)]
  exact h
theorem vk_eight (f : Nat → Int) : vk f 8 = vec f := rfl
set_option maxHeartbeats 4000000 in
theorem rvec_any (f : Nat → Int) (w : World) (hf : ∀ i, 0 ≤ f i) :
    Calls Try.prog 44 #[arr8 f] w fun e w' => ∃ a' cap', e = .returned (.slice a' (vec f).length cap') ∧ (vec f).length ≤ cap' ∧ cap' ≤ 9223372036854775807 ∧ VecAt w' w.heap.size a' (vec f) ∧ Below w.heap.size w w' := by
  obtain ⟨V, HV⟩ : ∃ V, Hid (V = vec f) := ⟨_, rfl⟩
  rw [← HV.out]
  have HA8 : Hid (arr8 f = .agg (arrI (upto f 8))) := rfl
  rw [HA8.out]
  go_enter Try.func44, Try.ntmps44
  go_wp2_with fail
  have hA0 : ArrAt (w.alloc (.cells (arrI (upto f 8)) 72)) 72 w.heap.size (upto f 8) := heap_alloc_new w _
  have hB0 : Below w.heap.size w (w.alloc (.cells (arrI (upto f 8)) 72)) := (Below.refl _ _).alloc (Nat.le_refl _) _
  generalize w.alloc (.cells (arrI (upto f 8)) 72) = w1 at *
  have HA0 := Lib.hid hA0
  have HB0 := Lib.hid hB0
  have hsz0 := hB0.size
  clear hA0 hB0
  go_loopw [4, 3] (fun i s wr => ∃ (k : Nat) (a : Option Addr) (n cap : Nat), k ≤ 8 ∧ i = .int .i64 k ∧ s = .slice a n cap ∧ GrowI wr w1.heap.size a n cap (vk f k) ∧ Below w1.heap.size w1 wr) (fun i _ _ => 9 - (intOf i).toNat)
  case atStart => exact ⟨0, none, 0, 0, by omega, rfl, rfl, grow_nil _ _, Below.refl _ _⟩
  case round =>
    obtain ⟨k, a, n, cap, hk, rfl, rfl, hgr, hbel⟩ := hrel
    have hlen := hgr.len
    have hle := hgr.le
    have hmax : cap ≤ 9223372036854775807 := hgr.max
    have hvl := vk_length f k
    have HG := Lib.hid hgr
    clear hgr
    by_cases hlt : k < 8
    · have t1 : decide ((k : Int) < 8) = true := decide_eq_true (by omega)
      have i1 : (0 : Int) ≤ (k : Int) := by omega
      have i2 : (k : Int) < 8 := by omega
      have hAr := HA0.out.below hbel
      have hc := hAr.cell k (by rw [upto_length]; exact hlt)
      have hfk : (upto f 8).getD k 0 = f k := by
        rw [upto_eight, List.getD_eq_getElem?_getD]; simp [hlt]
      rw [hfk] at hc
      have HFK := Lib.hid hfk
      clear hfk hAr
      have hf0 := hf k
      by_cases hz : f k = 0
      · have HV1 := Lib.hid (vk_zero f k hz)
        rw [hz] at hc
        clear hz hf0
        go_wp2_with fail
        go_roundw
        case rel => exact ⟨k + 1, a, n, cap, by omega, by go_num, rfl, by rw [HV1.out]; exact HG.out, hbel⟩
        case measure => simp [intOf]; omega
      · have t2 : decide (0 < f k) = true := decide_eq_true (by omega)
        have HV1 := Lib.hid (vk_pos f k hz)
        have HP := Lib.hid (vk_pad f k)
        have HFL := Lib.hid (firstK_length f k)
        clear hz
        generalize f k = y at *
        go_upto_block 2 with (fail)
        go_cut [3] (fun s wx => ∃ (a2 : Option Addr) (n2 cap2 : Nat), s = .slice a2 n2 cap2 ∧ GrowI wx w1.heap.size a2 n2 cap2 (firstK f k) ∧ Below w1.heap.size w1 wx)
        case first =>
          go_wp2_with fail
          go_loopw [3] (fun s wx => ∃ (a2 : Option Addr) (n2 cap2 j : Nat), s = .slice a2 n2 cap2 ∧ n2 ≤ k ∧ GrowI wx w1.heap.size a2 n2 cap2 (vk f k ++ List.replicate j 0) ∧ Below w1.heap.size w1 wx) (fun s _ => 9 - (match s with | .slice _ n2 _ => n2 | _ => 0))
          case atStart => exact ⟨a, n, cap, 0, rfl, by omega, by simpa using HG.out, hbel⟩
          case round =>
            obtain ⟨a2, n2, cap2, j, rfl, hn2, hgr2, hbel2⟩ := hrel
            have hlen2 := hgr2.len
            have HG2 := Lib.hid hgr2
            clear hgr2
            by_cases hl2 : n2 < k
            · have t3 : decide (n2 < k) = true := decide_eq_true hl2
              go_wp2_with (at_builtin; refine wpList_append_int rfl _ _ rfl _ w1.heap.size a2 n2 cap2 (vk f k ++ List.replicate j 0) rfl (HG2.out.below ?q1) ?q2 ?q3 ⟨_, 0, none⟩ 1 0 rfl ?q4 ?q5)
              case q1 => exact (Below.refl _ _).alloc (Nat.le_refl _) _
              case q2 => exact Nat.le_trans hbel2.size (by simp)
              case q3 => omega
              case q4 => rw [World.cell?_alloc_new]; rfl
              case q5 =>
                intro a3 cap3 w3 hg3 hb3
                have HG3 := Lib.hid hg3
                clear hg3
                have hb4 : Below w1.heap.size w1 w3 := (hbel2.alloc hbel2.size _).trans hb3
                go_wp2
                go_roundw
                case rel => exact ⟨a3, n2 + 1, cap3, j + 1, rfl, by omega, by rw [List.replicate_succ', ← List.append_assoc]; exact (by rw [← List.append_assoc] at HG3; exact HG3.out), hb4⟩
                case measure => simp; omega
            · have t3 : decide (n2 < k) = false := decide_eq_false hl2
              obtain rfl : n2 = k := by omega
              have HG3 := HG2.out
              rw [HP.out j hlen2] at HG3
              have HG3 := Lib.hid HG3
              go_wp2_with fail
              go_meet
              exact ⟨a2, n2, cap2, rfl, HG3.out, hbel2⟩
        case rest =>
          obtain ⟨a2, n2, cap2, rfl, hgr2, hbel2⟩ := hcut
          have hlen2 := hgr2.len
          have hmax2 := hgr2.max
          have HG2 := Lib.hid hgr2
          clear hgr2 hc
          have hc2 := (HA0.out.below hbel2).cell k (by rw [upto_length]; exact hlt)
          rw [HFK.out] at hc2
          have hn2 : n2 = k := by rw [← hlen2, HFL.out]
          go_wp2_with (at_builtin; refine wpList_append_int rfl _ _ rfl _ w1.heap.size a2 n2 cap2 (firstK f k) rfl (HG2.out.below ?q1) ?q2 ?q3 ⟨_, 0, none⟩ 1 y rfl ?q4 ?q5)
          case q1 => exact (Below.refl _ _).alloc (Nat.le_refl _) _
          case q2 => exact Nat.le_trans hbel2.size (by simp)
          case q3 => omega
          case q4 => rw [World.cell?_alloc_new]; rfl
          case q5 =>
            intro a3 cap3 w3 hg3 hb3
            rw [← HV1.out] at hg3
            have HG3 := Lib.hid hg3
            clear hg3
            have hb4 : Below w1.heap.size w1 w3 := (hbel2.alloc hbel2.size _).trans hb3
            go_wp2
            go_roundw
            case rel => exact ⟨k + 1, a3, k + 1, cap3, by omega, by go_num, rfl, HG3.out, hb4⟩
            case measure => simp [intOf]; omega
    · have t1 : decide ((k : Int) < 8) = false := decide_eq_false (by omega)
      obtain rfl : k = 8 := by omega
      have hVe : Hid (vk f 8 = V) := by
        show _ = _
        rw [HV.out]; rfl
      have HG8 : Hid (GrowI wr w1.heap.size a n cap V) := by rw [← hVe.out]; exact HG.out
      have hVl : n = V.length := HG8.out.len.symm
      subst hVl
      go_wp2_with fail
      go_ret
      exact ⟨a, cap, rfl, hle, hmax, HG8.out.vec.mono hsz0, HB0.out.trans (hbel.mono hsz0)⟩
end
end Go.Proofs.Ytglabahbklpocaa
namespace Go.Proofs.Ytglabahbklpocaa
section
open Go.RowKit
set_option maxRecDepth 100000
set_option linter.unusedVariables false
set_option linter.unusedSimpArgs false
theorem rplain_any (a : Option Addr) (n c : Nat) (xs : List Int) (w : World) (h : ReadsI .i64 w a n xs) (hnc : n ≤ c) (hcb : c ≤ 9223372036854775807) :
    Calls Try.prog 40 #[.slice a n c] w fun e w' => ∃ a' cap', e = .returned (.slice a' (pl xs).length cap') ∧ (pl xs).length ≤ cap' ∧ cap' ≤ 9223372036854775807 ∧ VecAt w' w.heap.size a' (pl xs) ∧ Below w.heap.size w w' := by
  go_enter Try.func40, Try.ntmps40
  go_wp2_with fail
  refine (rall_any a n c xs w h hnc hcb).mono ?_
  rintro e w1 ⟨rfl, hb⟩
  go_wp2_with fail
  refine (rvec_any (nm xs) _ (fun i => (nm_range xs i).1)).mono ?_
  rintro e w2 ⟨a', cap', rfl, hl, hm, hv, hb2⟩
  go_wp2
  go_ret
  exact ⟨a', cap', rfl, hl, hm, hv.mono hb.size, below_then hb hb.size hb2⟩
theorem run_index_arr {P : Program} {T E n : Nat} (hT : P.underlying T = some (.array n E)) (hs : ∀ w, (sizeOf E).run P w = .ok 1 w) (ha : ∀ w, (isAgg E).run P w = .ok false w) (cells : Array Value) (k : Nat) (v : Value) (hk : k < n) (hc : cells[k]? = some v) :
    ∀ w : World, (Instr.index T (.agg cells) (.int .i64 k)).run P w = .ok v w := by
  intro w
  have h1 : (0 : Int) ≤ (k : Int) ∧ (k : Int) < (n : Int) := by omega
  simp [Instr.index, run_underlying hT, asIntOf, h1, hs, ha, part, hc, go_sem]
  omega
end
end Go.Proofs.Ytglabahbklpocaa
namespace Go.Proofs.Ytglabahbklpocaa
section
open Go.RowKit
set_option maxRecDepth 100000
set_option linter.unusedVariables false
set_option linter.unusedSimpArgs false
structure St where
  clock : Int
  site : Int
  seq : Int
deriving DecidableEq
def St.val (a : St) : Value := .agg #[.int .i64 a.clock, .int .i64 a.site, .int .i64 a.seq]
def lessV (a b : St) : Bool := if a.clock = b.clock then (if a.site = b.site then decide (a.seq < b.seq) else decide (a.site < b.site)) else decide (a.clock < b.clock)
def laterV (a b : St) : St := if lessV a b = true then b else a
def inV (n : Int) : Bool := decide (1 ≤ n) && decide (n ≤ 1099511627776)
def okV (a : St) : Bool := inV a.clock && inV a.seq && decide (0 ≤ a.site) && decide (a.site < 8)
theorem eq_stamp (a b : St) (w : World) : (binOp .eql 58 a.val b.val).run Try.prog w = .ok (.bool (decide (a = b))) w := by
  have u3 := Try.underlying3
  have a3 := Try.isAgg3
  have z3 := Try.sizeOf3
  have hS : Try.prog.underlying 58 = some (.struct (Try.prog.fieldsOf 58)) := by kernel_rfl
  have hp : Try.prog.stoodInHeld 58 = false := by kernel_rfl
  obtain ⟨c1, s1, q1⟩ := a
  obtain ⟨c2, s2, q2⟩ := b
  simp only [St.val]
  rw [run_eql_struct, show (10000 : Nat) = 9999 + 1 from rfl, run_equalIn_agg w 9999 58 _ _ hS hp]
  simp only [Program.fieldsOf, Try.underlying58]
  go_simp
  by_cases h1 : c1 = c2 <;> by_cases h2 : s1 = s2 <;> by_cases h3 : q1 = q2 <;> simp [h1, h2, h3]
end
end Go.Proofs.Ytglabahbklpocaa
namespace Go.Proofs.Ytglabahbklpocaa
section
open Go.ChangeShapes Go.WideShapes Go.ChangeAt Go.RowKit Go.Joins Go.Deep
set_option maxRecDepth 100000
set_option linter.unusedVariables false
set_option linter.unusedSimpArgs false
def St.wf (a : St) : Prop := (-9223372036854775808 ≤ a.clock ∧ a.clock ≤ 9223372036854775807) ∧ (-9223372036854775808 ≤ a.site ∧ a.site ≤ 9223372036854775807) ∧ (-9223372036854775808 ≤ a.seq ∧ a.seq ≤ 9223372036854775807)
def IsSt (w : World) (v : Value) (a : St) : Prop := v = a.val ∧ a.wf
theorem open_isSt {H : Type} {enc : TypeId × Value → H} {P : Program} {W : World} {r : Reach} {b0 : Nat} {t : TypeId} {f0 f1 f2 : Field} {v : Value} {d : DataW H} {ps : List MemPlace}
    (hs : P.underlying t = some (.struct #[f0, f1, f2])) (hone : oneCellFields P #[f0, f1, f2] = true) (hC : P.cellsOf t = 3) (t0 : P.underlying f0.type = some (.int .i64)) (t1 : P.underlying f1.type = some (.int .i64)) (t2 : P.underlying f2.type = some (.int .i64))
    (hval : Value.okWide P W r b0 t v) (hd : DataW.Trod enc P W 0 (fun _ => true) true t v d ps) : ∃ a, IsSt W v a := by
  obtain ⟨v0, v1, v2, y0, y1, y2, n, rfl, _, _, h0, h1, h2⟩ := open_agg3 hs hone hC hval hd
  obtain ⟨x0, e0, _, w0⟩ := DataW.trod_int t0 h0
  obtain ⟨x1, e1, _, w1⟩ := DataW.trod_int t1 h1
  obtain ⟨x2, e2, _, w2⟩ := DataW.trod_int t2 h2
  simp only [List.cons.injEq, and_true] at e0 e1 e2
  subst e0 e1 e2
  exact ⟨⟨x0, x1, x2⟩, rfl, bounds_i64 w0, bounds_i64 w1, bounds_i64 w2⟩
end
end Go.Proofs.Ytglabahbklpocaa
