/- A list of numbers that grows by append, from a slice without room or from a row of one's own. The reference's 'vector': the 8 numbers without zeros at the end. The reference's Plain, Right, At. Stamps: which may be, which one is less, which is later. A stamp among the arguments, as a walk is told of it. mark.within, mark.Check: which stamps may be. Numbers with a sign as numbers without: the contracts of Zig, Zag, of the reference's, and of the law's 'short'. Plain law of the numbers as bytes: what was put is read again, and only that. No program is in sight. The Reader of the package vint: what each method answers and leaves behind. The Reader of the package vint, more: Left, End, Text, Read. The reference Get: its plain law and its contract. The reference's Reader: each method answers and leaves behind what the program's does. Plain law: a number's bytes are read as it, wherever they stand; no two numbers have one text of bytes; a lesser number has no more. -/
import Derived.Test.YtkonflbgkaflaaaGSamplePoints1
import Derived.Laws.AppendOwn
import Derived.Laws.StructEq
import Derived.ProofKit
import Derived.OpenShut
import Derived.Lib.SmallJoins
import Derived.Deep.QuietTactic
import Derived.BigQuiet
import Derived.RegionCalls
import Derived.Deep.RegionWith
namespace Go.Proofs.Ytkonflbgkaflaaa
section
open Go.RowKit
set_option maxRecDepth 100000
set_option linter.unusedVariables false
set_option linter.unusedSimpArgs false
/-- The slice at a, n numbers long, holds l, in memory from B on; it has no room, or is a row of its own. -/
structure GrowI (w : World) (B : Nat) (a : Option Addr) (n cap : Nat) (l : List Int) : Prop where
  len : l.length = n
  le : n ≤ cap
  max : cap ≤ maxLen
  row : (n = cap ∧ VecAt w B a l) ∨ w.ownsRow B 3 1 (.slice a n cap) n (l.map (Value.int .i64))
theorem VecAt.grow {w : World} {B : Nat} {a : Option Addr} {l : List Int} (h : VecAt w B a l) (hm : l.length ≤ 1000) : GrowI w B a l.length l.length l := ⟨rfl, Nat.le_refl _, by unfold maxLen; omega, .inl ⟨rfl, h⟩⟩
theorem grow_nil (w : World) (B : Nat) : GrowI w B none 0 0 [] := ⟨rfl, Nat.le_refl _, by unfold maxLen; omega, .inr (World.ownsRow_nil _ _ _ _)⟩
theorem ownsRow_vec {w : World} {B : Nat} {a : Option Addr} {n cap : Nat} {l : List Int} (h : w.ownsRow B 3 1 (.slice a n cap) n (l.map (Value.int .i64))) (hl : l.length = n) : VecAt w B a l := by
  rcases Nat.eq_zero_or_pos n with h0 | hp
  · obtain rfl : l = [] := List.eq_nil_of_length_eq_zero (by omega)
    exact VecAt.nil _ _ _
  · obtain ⟨g, cap', hv, hg, hlt⟩ := h.form hp
    obtain rfl : a = some ⟨g, 0, none⟩ := by simp only [Value.slice.injEq] at hv; exact hv.1
    refine ⟨⟨rfl, .inr ⟨g, 0, rfl, hlt, fun j hj => ?_⟩⟩, .inr ⟨g, rfl, hg, hlt, fun j => h.frozenAt j⟩⟩
    rw [Nat.zero_add, h.cellAt j (by omega), List.getElem?_map, List.getD_eq_getElem?_getD, List.getElem?_eq_getElem hj]
    rfl
theorem GrowI.vec {w : World} {B : Nat} {a : Option Addr} {n cap : Nat} {l : List Int} (h : GrowI w B a n cap l) : VecAt w B a l := by
  rcases h.row with ⟨_, h1⟩ | h1
  · exact h1
  · exact ownsRow_vec h1 h.len
theorem VecAt.below {w w' : World} {B : Nat} {a : Option Addr} {l : List Int} (h : VecAt w B a l) (hb : Below w.heap.size w w') : VecAt w' B a l :=
  ⟨h.reads.below hb, h.own.imp_right fun ⟨g, e1, e2, e3, e4⟩ => ⟨g, e1, e2, Nat.lt_of_lt_of_le e3 hb.size, fun j => (hb.frozen (p := ⟨g, j, none⟩) e3).trans (e4 j)⟩⟩
theorem GrowI.below {w w' : World} {B : Nat} {a : Option Addr} {n cap : Nat} {l : List Int} (h : GrowI w B a n cap l) (hb : Below w.heap.size w w') : GrowI w' B a n cap l := by
  refine ⟨h.len, h.le, h.max, ?_⟩
  rcases h.row with ⟨e, h1⟩ | h1
  · exact .inl ⟨e, h1.below hb⟩
  · exact .inr (h1.kept (row := none) ⟨hb.os, hb.tape, hb.output, hb.size, fun i hi _ => hb.block i hi⟩ (by cases Value.ownBlock (.slice a n cap) <;> simp))
theorem info_int : (Try.prog.info? 3).map (fun i => (i.zero, i.size, i.bytes)) = some (some (.int .i64 0), 1, 8) := by kernel_rfl
theorem run_append_int (ty : TypeId) (w : World) (B : Nat) (a : Option Addr) (n cap : Nat) (l : List Int) (h : GrowI w B a n cap l) (hB : B ≤ w.heap.size) (hn : n ≤ 100000) (ad : Addr) (c : Nat) (y : Int) (hy : w.cell? ad = some (.int .i64 y)) :
    ∃ a' cap' w', (Builtin.append_ #[24, 24] ty #[.slice a n cap, .slice (some ad) 1 c]).run Try.prog w = .ok (.slice a' (n + 1) cap') w' ∧ GrowI w' B a' (n + 1) cap' (l ++ [y]) ∧ Below B w w' := by
  obtain ⟨i, hi, hii⟩ := Option.map_eq_some_iff.1 info_int
  simp only [Prod.mk.injEq] at hii
  obtain ⟨hz, hsize, hby⟩ := hii
  have hnews : ∀ j u, [Value.int .i64 y][j]? = some u → w.cell? (ad.add j) = some u := fun j u hj => by
    cases j with
    | zero => simp at hj; subst hj; simpa [Addr.add] using hy
    | succ j => simp at hj
  have own : w.ownsRow B 3 1 (.slice a n cap) n (l.map (Value.int .i64)) → ∃ a' cap' w', (Builtin.append_ #[24, 24] ty #[.slice a n cap, .slice (some ad) 1 c]).run Try.prog w = .ok (.slice a' (n + 1) cap') w' ∧ GrowI w' B a' (n + 1) cap' (l ++ [y]) ∧ Below B w w' := fun h1 => by
    obtain ⟨v', w', hr, ho, hg, hnil⟩ := run_append_own (P := Try.prog) w B 24 ty 3 i (.int .i64 0) 1 8 Try.underlying24 hi hz hsize hby rfl (by decide) _ n _ h1 ad 1 c [.int .i64 y] rfl hnews (by intro u hu; simp at hu; subst hu; rfl) (by unfold maxLen; omega) (by omega) hB
    obtain ⟨g, cap', rfl, hgB, hgl⟩ := ho.form (by omega)
    have hcap : n + 1 ≤ cap' ∧ cap' ≤ maxLen := by
      rcases ho.2 with ⟨e, _⟩ | ⟨g', c', cur, e, _, _, h3, h4, _⟩
      · simp at e
      · simp only [Value.slice.injEq, Option.some.injEq, Addr.mk.injEq, and_true, true_and] at e
        obtain ⟨rfl, rfl⟩ := e
        exact ⟨h3, h4⟩
    refine ⟨_, cap', w', hr, ⟨by simp [h.len], hcap.1, hcap.2, .inr (by simpa using ho)⟩, (Below.refl B w).grown hg hB fun k hk => (h1.lt k hk).1⟩
  rcases h.row with ⟨rfl, h1⟩ | h1
  · cases a with
    | none =>
      have h0 : l = [] := by
        rcases h1.own with h0 | ⟨g, e, _⟩
        · exact h0
        · simp at e
      subst h0
      obtain rfl : n = 0 := h.len.symm
      exact own (World.ownsRow_nil _ _ _ _)
    | some b =>
      have holds : ∀ j u, (l.map (Value.int .i64))[j]? = some u → w.cell? (b.add j) = some u := fun j u hj => by
        have hjl : j < l.length := by have := (List.getElem?_eq_some_iff.1 hj).1; simpa using this
        obtain ⟨g, e, _, _, hc, _⟩ := h1.cell j hjl
        obtain rfl : b = ⟨g, 0, none⟩ := by simpa using e
        rw [List.getElem?_map, List.getElem?_eq_getElem hjl] at hj
        simp only [Addr.add_lit, Nat.zero_add]
        rw [hc, List.getD_eq_getElem?_getD, List.getElem?_eq_getElem hjl]
        exact hj
      have hr := run_append_grow (P := Try.prog) w 24 ty 3 i (.int .i64 0) Try.underlying24 hi hz b n n (l.map (Value.int .i64)) (by rw [hsize]; simp [h.len]) holds ad 1 c [.int .i64 y] (by rw [hsize]; rfl) hnews (by omega) (by omega) (by rw [hby]; exact growslice_fits (by omega) (by omega))
      have hge := grownCap_ge w (n + 1) n 3
      have hcm : grownCap w (n + 1) n 3 ≤ maxLen := grownCap_le_maxLen w (n + 1) n 3 (by unfold maxLen; omega)
      refine ⟨_, _, _, hr, ⟨by simp [h.len], hge, hcm, .inr ⟨by simp [h.len], .inr ⟨w.heap.size, _, _, rfl, hB, heap_alloc_new w.drew _, hge, hcm, ?_, ?_⟩⟩⟩, (Below.refl B w).drew.alloc hB _⟩
      · simp [size_zeroCells, Value.cells, h.len]
        omega
      · have hle : (l.map (Value.int .i64) ++ [Value.int .i64 y]).length = (n + 1) * 1 := by simp [h.len]
        simp only [Array.toList_append, List.map_append, List.map_cons, List.map_nil]
        rw [← hle]
        exact List.take_left
  · exact own h1
theorem wpList_append_int {ops : Array Oper} {rest : List Oper} {o : Oper} {act : Act} {Q : Exit → Act → World → Prop} (hgd : o.guard = none) (s x : Operand)
    (ho : o.op = .call { callee := .builtin .append, args := #[s, x], argTypes := #[24, 24] }) (w : World) (B : Nat) (a : Option Addr) (n cap : Nat) (l : List Int) (hs : act.eval s = .slice a n cap) (h : GrowI w B a n cap l) (hB : B ≤ w.heap.size) (hn : n ≤ 100000)
    (ad : Addr) (c : Nat) (y : Int) (hx : act.eval x = .slice (some ad) 1 c) (hy : w.cell? ad = some (.int .i64 y))
    (hK : ∀ a' cap' w', GrowI w' B a' (n + 1) cap' (l ++ [y]) → Below B w w' → wpList Try.prog ops Q rest (act.put o.dst (.slice a' (n + 1) cap')) w') : wpList Try.prog ops Q (o :: rest) act w := by
  refine wpList_plain hgd fun K hK' => ?_
  obtain ⟨a', cap', w', hrun, h1, h2⟩ := run_append_int o.type w B a n cap l h hB hn ad c y hy
  unfold Oper.wp
  simp [execOp, ho, resolve, invoke, builtin, hs, hx, hrun, Result.andThen]
  exact hK' _ _ (hK a' cap' w' h1 h2)
end
end Go.Proofs.Ytkonflbgkaflaaa
namespace Go.Proofs.Ytkonflbgkaflaaa
section
open Go.RowKit
set_option maxRecDepth 100000
set_option linter.unusedVariables false
set_option linter.unusedSimpArgs false
def firstK (f : Nat → Int) (k : Nat) : List Int := (List.range k).map f
def vk (f : Nat → Int) (k : Nat) : List Int := trim (firstK f k)
theorem firstK_length (f : Nat → Int) (k : Nat) : (firstK f k).length = k := by simp [firstK]
theorem firstK_getD (f : Nat → Int) (k i : Nat) : (firstK f k).getD i 0 = if i < k then f i else 0 := by
  unfold firstK
  by_cases h : i < k
  · simp [List.getD_eq_getElem?_getD, h]
  · rw [if_neg h, getD_out (by simp; omega)]
theorem vk_length (f : Nat → Int) (k : Nat) : (vk f k).length ≤ k := by
  have := trim_length (firstK f k)
  rw [firstK_length] at this
  exact this
theorem vk_zero (f : Nat → Int) (k : Nat) (h : f k = 0) : vk f (k + 1) = vk f k := by
  apply trim_ext
  intro i
  rw [firstK_getD, firstK_getD]
  rcases Nat.lt_trichotomy i k with h1 | h1 | h1
  · rw [if_pos (by omega), if_pos h1]
  · subst h1; rw [if_pos (by omega), if_neg (by omega), h]
  · rw [if_neg (by omega), if_neg (by omega)]
theorem vk_pad (f : Nat → Int) (k j : Nat) (h : (vk f k ++ List.replicate j 0).length = k) : vk f k ++ List.replicate j 0 = firstK f k := by
  apply list_ext_getD (by rw [h, firstK_length])
  intro i hi
  have e : (vk f k ++ List.replicate j 0).getD i 0 = (vk f k).getD i 0 := by
    rw [List.getD_eq_getElem?_getD, List.getD_eq_getElem?_getD, List.getElem?_append]
    split
    · rfl
    · rename_i h2
      rw [List.getElem?_eq_none (Nat.le_of_not_lt h2), List.getElem?_replicate]
      split <;> rfl
  rw [e]
  exact trim_getD _ _
theorem vk_pos (f : Nat → Int) (k : Nat) (h : f k ≠ 0) : vk f (k + 1) = firstK f k ++ [f k] := by
  have e : firstK f (k + 1) = firstK f k ++ [f k] := by simp [firstK, List.range_succ]
  unfold vk
  rw [trim_full, e]
  right
  rw [firstK_length, firstK_getD, if_pos (by omega)]
  exact h
theorem vk_eight (f : Nat → Int) : vk f 8 = vec f := rfl
set_option maxHeartbeats 4000000 in
theorem rvec_any (f : Nat → Int) (w : World) (hf : ∀ i, 0 ≤ f i) :
    Calls Try.prog 92 #[arr8 f] w fun e w' => ∃ a' cap', e = .returned (.slice a' (vec f).length cap') ∧ (vec f).length ≤ cap' ∧ cap' ≤ 9223372036854775807 ∧ VecAt w' w.heap.size a' (vec f) ∧ Below w.heap.size w w' := by
  obtain ⟨V, HV⟩ : ∃ V, Hid (V = vec f) := ⟨_, rfl⟩
  rw [← HV.out]
  have HA8 : Hid (arr8 f = .agg (arrI (upto f 8))) := rfl
  rw [HA8.out]
  go_enter Try.func92, Try.ntmps92
  go_wp2_with fail
  have hA0 : ArrAt (w.alloc (.cells (arrI (upto f 8)) 97)) 97 w.heap.size (upto f 8) := heap_alloc_new w _
  have hB0 : Below w.heap.size w (w.alloc (.cells (arrI (upto f 8)) 97)) := (Below.refl _ _).alloc (Nat.le_refl _) _
  generalize w.alloc (.cells (arrI (upto f 8)) 97) = w1 at *
  have HA0 := Lib.hid hA0
  have HB0 := Lib.hid hB0
  have hsz0 := hB0.size
  clear hA0 hB0
  go_loopw [4, 3] (fun i s wr => ∃ (k : Nat) (a : Option Addr) (n cap : Nat), k ≤ 8 ∧ i = .int .i64 k ∧ s = .slice a n cap ∧ GrowI wr w1.heap.size a n cap (vk f k) ∧ Below w1.heap.size w1 wr) (fun i _ _ => 9 - (intOf i).toNat)
  case atStart => exact ⟨0, none, 0, 0, by omega, rfl, rfl, grow_nil _ _, Below.refl _ _⟩
  case round =>
    obtain ⟨k, a, n, cap, hk, rfl, rfl, hgr, hbel⟩ := hrel
    have hlen := hgr.len
    have hle := hgr.le
    have hmax : cap ≤ 9223372036854775807 := hgr.max
    have hvl := vk_length f k
    have HG := Lib.hid hgr
    clear hgr
    by_cases hlt : k < 8
    · have t1 : decide ((k : Int) < 8) = true := decide_eq_true (by omega)
      have i1 : (0 : Int) ≤ (k : Int) := by omega
      have i2 : (k : Int) < 8 := by omega
      have hAr := HA0.out.below hbel
      have hc := hAr.cell k (by rw [upto_length]; exact hlt)
      have hfk : (upto f 8).getD k 0 = f k := by
        rw [upto_eight, List.getD_eq_getElem?_getD]; simp [hlt]
      rw [hfk] at hc
      have HFK := Lib.hid hfk
      clear hfk hAr
      have hf0 := hf k
      by_cases hz : f k = 0
      · have HV1 := Lib.hid (vk_zero f k hz)
        rw [hz] at hc
        clear hz hf0
        go_wp2_with fail
        go_roundw
        case rel => exact ⟨k + 1, a, n, cap, by omega, by go_num, rfl, by rw [HV1.out]; exact HG.out, hbel⟩
        case measure => simp [intOf]; omega
      · have t2 : decide (0 < f k) = true := decide_eq_true (by omega)
        have HV1 := Lib.hid (vk_pos f k hz)
        have HP := Lib.hid (vk_pad f k)
        have HFL := Lib.hid (firstK_length f k)
        clear hz
        generalize f k = y at *
        go_upto_block 2 with (fail)
        go_cut [3] (fun s wx => ∃ (a2 : Option Addr) (n2 cap2 : Nat), s = .slice a2 n2 cap2 ∧ GrowI wx w1.heap.size a2 n2 cap2 (firstK f k) ∧ Below w1.heap.size w1 wx)
        case first =>
          go_wp2_with fail
          go_loopw [3] (fun s wx => ∃ (a2 : Option Addr) (n2 cap2 j : Nat), s = .slice a2 n2 cap2 ∧ n2 ≤ k ∧ GrowI wx w1.heap.size a2 n2 cap2 (vk f k ++ List.replicate j 0) ∧ Below w1.heap.size w1 wx) (fun s _ => 9 - (match s with | .slice _ n2 _ => n2 | _ => 0))
          case atStart => exact ⟨a, n, cap, 0, rfl, by omega, by simpa using HG.out, hbel⟩
          case round =>
            obtain ⟨a2, n2, cap2, j, rfl, hn2, hgr2, hbel2⟩ := hrel
            have hlen2 := hgr2.len
            have HG2 := Lib.hid hgr2
            clear hgr2
            by_cases hl2 : n2 < k
            · have t3 : decide (n2 < k) = true := decide_eq_true hl2
              go_wp2_with (at_builtin; refine wpList_append_int rfl _ _ rfl _ w1.heap.size a2 n2 cap2 (vk f k ++ List.replicate j 0) rfl (HG2.out.below ?q1) ?q2 ?q3 ⟨_, 0, none⟩ 1 0 rfl ?q4 ?q5)
              case q1 => exact (Below.refl _ _).alloc (Nat.le_refl _) _
              case q2 => exact Nat.le_trans hbel2.size (by simp)
              case q3 => omega
              case q4 => rw [World.cell?_alloc_new]; rfl
              case q5 =>
                intro a3 cap3 w3 hg3 hb3
                have HG3 := Lib.hid hg3
                clear hg3
                have hb4 : Below w1.heap.size w1 w3 := (hbel2.alloc hbel2.size _).trans hb3
                go_wp2
                go_roundw
                case rel => exact ⟨a3, n2 + 1, cap3, j + 1, rfl, by omega, by rw [List.replicate_succ', ← List.append_assoc]; exact (by rw [← List.append_assoc] at HG3; exact HG3.out), hb4⟩
                case measure => simp; omega
            · have t3 : decide (n2 < k) = false := decide_eq_false hl2
              obtain rfl : n2 = k := by omega
              have HG3 := HG2.out
              rw [HP.out j hlen2] at HG3
              have HG3 := Lib.hid HG3
              go_wp2_with fail
              go_meet
              exact ⟨a2, n2, cap2, rfl, HG3.out, hbel2⟩
        case rest =>
          obtain ⟨a2, n2, cap2, rfl, hgr2, hbel2⟩ := hcut
          have hlen2 := hgr2.len
          have hmax2 := hgr2.max
          have HG2 := Lib.hid hgr2
          clear hgr2 hc
          have hc2 := (HA0.out.below hbel2).cell k (by rw [upto_length]; exact hlt)
          rw [HFK.out] at hc2
          have hn2 : n2 = k := by rw [← hlen2, HFL.out]
          go_wp2_with (at_builtin; refine wpList_append_int rfl _ _ rfl _ w1.heap.size a2 n2 cap2 (firstK f k) rfl (HG2.out.below ?q1) ?q2 ?q3 ⟨_, 0, none⟩ 1 y rfl ?q4 ?q5)
          case q1 => exact (Below.refl _ _).alloc (Nat.le_refl _) _
          case q2 => exact Nat.le_trans hbel2.size (by simp)
          case q3 => omega
          case q4 => rw [World.cell?_alloc_new]; rfl
          case q5 =>
            intro a3 cap3 w3 hg3 hb3
            rw [← HV1.out] at hg3
            have HG3 := Lib.hid hg3
            clear hg3
            have hb4 : Below w1.heap.size w1 w3 := (hbel2.alloc hbel2.size _).trans hb3
            go_wp2
            go_roundw
            case rel => exact ⟨k + 1, a3, k + 1, cap3, by omega, by go_num, rfl, HG3.out, hb4⟩
            case measure => simp [intOf]; omega
    · have t1 : decide ((k : Int) < 8) = false := decide_eq_false (by omega)
      obtain rfl : k = 8 := by omega
      have hVe : Hid (vk f 8 = V) := by
        show _ = _
        rw [HV.out]; rfl
      have HG8 : Hid (GrowI wr w1.heap.size a n cap V) := by rw [← hVe.out]; exact HG.out
      have hVl : n = V.length := HG8.out.len.symm
      subst hVl
      go_wp2_with fail
      go_ret
      exact ⟨a, cap, rfl, hle, hmax, HG8.out.vec.mono hsz0, HB0.out.trans (hbel.mono hsz0)⟩
end
end Go.Proofs.Ytkonflbgkaflaaa
namespace Go.Proofs.Ytkonflbgkaflaaa
section
open Go.RowKit
set_option maxRecDepth 100000
set_option linter.unusedVariables false
set_option linter.unusedSimpArgs false
theorem rplain_any (a : Option Addr) (n c : Nat) (xs : List Int) (w : World) (h : ReadsI .i64 w a n xs) (hnc : n ≤ c) (hcb : c ≤ 9223372036854775807) :
    Calls Try.prog 79 #[.slice a n c] w fun e w' => ∃ a' cap', e = .returned (.slice a' (pl xs).length cap') ∧ (pl xs).length ≤ cap' ∧ cap' ≤ 9223372036854775807 ∧ VecAt w' w.heap.size a' (pl xs) ∧ Below w.heap.size w w' := by
  go_enter Try.func79, Try.ntmps79
  go_wp2_with fail
  refine (rall_any a n c xs w h hnc hcb).mono ?_
  rintro e w1 ⟨rfl, hb⟩
  go_wp2_with fail
  refine (rvec_any (nm xs) _ (fun i => (nm_range xs i).1)).mono ?_
  rintro e w2 ⟨a', cap', rfl, hl, hm, hv, hb2⟩
  go_wp2
  go_ret
  exact ⟨a', cap', rfl, hl, hm, hv.mono hb.size, below_then hb hb.size hb2⟩
theorem rright_any (a : Option Addr) (n c : Nat) (xs : List Int) (w : World) (h : ReadsI .i64 w a n xs) (hnc : n ≤ c) (hcb : c ≤ 9223372036854775807) :
    Calls Try.prog 50 #[.slice a n c] w fun e w' => e = .returned (.bool (decide (xs = pl xs))) ∧ Below w.heap.size w w' := by
  go_enter Try.func50, Try.ntmps50
  go_wp2_with fail
  refine (rplain_any a n c xs w h hnc hcb).mono ?_
  rintro e w1 ⟨a', cap', rfl, hl, hm, hv, hb⟩
  go_wp2_with fail
  refine (same_any a a' n c _ cap' xs (pl xs) _ (h.below hb) hv.reads hnc hcb hl hm).mono ?_
  rintro e w2 ⟨rfl, hb2⟩
  go_wp2
  go_ret
  exact ⟨rfl, below_then hb hb.size hb2⟩
theorem run_index_arr {P : Program} {T E n : Nat} (hT : P.underlying T = some (.array n E)) (hs : ∀ w, (sizeOf E).run P w = .ok 1 w) (ha : ∀ w, (isAgg E).run P w = .ok false w) (cells : Array Value) (k : Nat) (v : Value) (hk : k < n) (hc : cells[k]? = some v) :
    ∀ w : World, (Instr.index T (.agg cells) (.int .i64 k)).run P w = .ok v w := by
  intro w
  have h1 : (0 : Int) ≤ (k : Int) ∧ (k : Int) < (n : Int) := by omega
  simp [Instr.index, run_underlying hT, asIntOf, h1, hs, ha, part, hc, go_sem]
  omega
theorem rat_any (a : Option Addr) (n c : Nat) (xs : List Int) (site : Int) (w : World) (h : ReadsI .i64 w a n xs) (hnc : n ≤ c) (hcb : c ≤ 9223372036854775807) :
    Calls Try.prog 52 #[.slice a n c, .int .i64 site] w fun e w' => e = .returned (.int .i64 (atV xs site)) ∧ Below w.heap.size w w' := by
  obtain ⟨V, HV⟩ : ∃ V, Hid (V = atV xs site) := ⟨_, rfl⟩
  rw [← HV.out]
  unfold atV at HV
  by_cases h0 : site < 0
  · have t1 : decide (site < 0) = true := decide_eq_true h0
    rw [if_neg (by omega)] at HV
    go_enter Try.func52, Try.ntmps52
    go_wp2_with fail
    go_ret
    exact ⟨by rw [HV.out]; rfl, Below.refl _ _⟩
  · have t1 : decide (site < 0) = false := decide_eq_false h0
    by_cases h7 : 7 < site
    · have t2 : decide (7 < site) = true := decide_eq_true h7
      rw [if_neg (by omega)] at HV
      go_enter Try.func52, Try.ntmps52
      go_wp2_with fail
      go_ret
      exact ⟨by rw [HV.out]; rfl, Below.refl _ _⟩
    · have t2 : decide (7 < site) = false := decide_eq_false h7
      rw [if_pos (by omega)] at HV
      obtain ⟨k, rfl⟩ : ∃ k : Nat, site = k := ⟨site.toNat, by omega⟩
      rw [Int.toNat_natCast] at HV
      have hk : k < 8 := by omega
      have hel : (arrI (upto (nm xs) 8))[k]? = some (.int .i64 (nm xs k)) := by
        rw [arrI_get _ _ (by rw [upto_length]; exact hk), upto_eight, List.getD_eq_getElem?_getD]
        simp [hk]
      have HA8 : Hid (arr8 (nm xs) = .agg (arrI (upto (nm xs) 8))) := rfl
      have hsz : (arrI (upto (nm xs) 8)).size = 8 := by rw [arrI_size, upto_length]
      have hix := run_index_arr (P := Try.prog) Try.underlying97 Try.sizeOf3 Try.isAgg3 _ k _ hk hel
      go_enter Try.func52, Try.ntmps52
      go_wp2_with fail
      refine (rall_any a n c xs w h hnc hcb).mono ?_
      rintro e w1 ⟨rfl, hb⟩
      rw [HA8.out]
      generalize arrI (upto (nm xs) 8) = cells at *
      go_wp2_with fail
      go_ret
      exact ⟨by rw [HV.out]; rfl, hb⟩
end
end Go.Proofs.Ytkonflbgkaflaaa
namespace Go.Proofs.Ytkonflbgkaflaaa
section
open Go.RowKit
set_option maxRecDepth 100000
set_option linter.unusedVariables false
set_option linter.unusedSimpArgs false
structure St where
  clock : Int
  site : Int
  seq : Int
deriving DecidableEq
def St.val (a : St) : Value := .agg #[.int .i64 a.clock, .int .i64 a.site, .int .i64 a.seq]
def lessV (a b : St) : Bool := if a.clock = b.clock then (if a.site = b.site then decide (a.seq < b.seq) else decide (a.site < b.site)) else decide (a.clock < b.clock)
def laterV (a b : St) : St := if lessV a b = true then b else a
def inV (n : Int) : Bool := decide (1 ≤ n) && decide (n ≤ 1099511627776)
def okV (a : St) : Bool := inV a.clock && inV a.seq && decide (0 ≤ a.site) && decide (a.site < 8)
theorem eq_stamp (a b : St) (w : World) : (binOp .eql 23 a.val b.val).run Try.prog w = .ok (.bool (decide (a = b))) w := by
  have u3 := Try.underlying3
  have a3 := Try.isAgg3
  have z3 := Try.sizeOf3
  have hS : Try.prog.underlying 23 = some (.struct (Try.prog.fieldsOf 23)) := by kernel_rfl
  have hp : Try.prog.stoodInHeld 23 = false := by kernel_rfl
  obtain ⟨c1, s1, q1⟩ := a
  obtain ⟨c2, s2, q2⟩ := b
  simp only [St.val]
  rw [run_eql_struct, show (10000 : Nat) = 9999 + 1 from rfl, run_equalIn_agg w 9999 23 _ _ hS hp]
  simp only [Program.fieldsOf, Try.underlying23]
  go_simp
  by_cases h1 : c1 = c2 <;> by_cases h2 : s1 = s2 <;> by_cases h3 : q1 = q2 <;> simp [h1, h2, h3]
set_option maxHeartbeats 1000000 in
theorem less_any (a b : St) (w : World) : Calls Try.prog 53 #[a.val, b.val] w fun e w' => e = .returned (.bool (lessV a b)) ∧ Below w.heap.size w w' := by
  obtain ⟨V, HV⟩ : ∃ V, Hid (V = lessV a b) := ⟨_, rfl⟩
  rw [← HV.out]
  obtain ⟨c1, s1, q1⟩ := a
  obtain ⟨c2, s2, q2⟩ := b
  unfold lessV at HV
  unfold St.val
  simp only at HV ⊢
  have hB : Below w.heap.size w ((w.alloc (.cells #[.int .i64 c1, .int .i64 s1, .int .i64 q1] 23)).alloc (.cells #[.int .i64 c2, .int .i64 s2, .int .i64 q2] 23)) := ((Below.refl _ _).alloc (Nat.le_refl _) _).alloc (by simp) _
  by_cases hc : c1 = c2
  · have hc2 := hc
    subst hc
    by_cases hs : s1 = s2
    · subst hs
      have t1 : (c1 == c1) = true := beq_self_eq_true _
      have t2 : (s1 == s1) = true := beq_self_eq_true _
      rw [if_pos rfl, if_pos rfl] at HV
      go_enter Try.func53, Try.ntmps53
      by_cases hq : q1 < q2
      · have t3 : decide (q1 < q2) = true := decide_eq_true hq
        have HV2 := Lib.hid (HV.out.trans t3)
        go_wp2_with fail
        go_ret
        exact ⟨by rw [HV2.out]; rfl, hB⟩
      · have t3 : decide (q1 < q2) = false := decide_eq_false hq
        have HV2 := Lib.hid (HV.out.trans t3)
        go_wp2_with fail
        go_ret
        exact ⟨by rw [HV2.out]; rfl, hB⟩
    · have t1 : (c1 == c1) = true := beq_self_eq_true _
      have t2 : (s1 == s2) = false := beq_eq_false_iff_ne.2 hs
      rw [if_pos rfl, if_neg hs] at HV
      go_enter Try.func53, Try.ntmps53
      by_cases hq : s1 < s2
      · have t3 : decide (s1 < s2) = true := decide_eq_true hq
        have HV2 := Lib.hid (HV.out.trans t3)
        go_wp2_with fail
        go_ret
        exact ⟨by rw [HV2.out]; rfl, hB⟩
      · have t3 : decide (s1 < s2) = false := decide_eq_false hq
        have HV2 := Lib.hid (HV.out.trans t3)
        go_wp2_with fail
        go_ret
        exact ⟨by rw [HV2.out]; rfl, hB⟩
  · have t2 : (c1 == c2) = false := beq_eq_false_iff_ne.2 hc
    rw [if_neg hc] at HV
    go_enter Try.func53, Try.ntmps53
    by_cases hq : c1 < c2
    · have t3 : decide (c1 < c2) = true := decide_eq_true hq
      have HV2 := Lib.hid (HV.out.trans t3)
      go_wp2_with fail
      go_ret
      exact ⟨by rw [HV2.out]; rfl, hB⟩
    · have t3 : decide (c1 < c2) = false := decide_eq_false hq
      have HV2 := Lib.hid (HV.out.trans t3)
      go_wp2_with fail
      go_ret
      exact ⟨by rw [HV2.out]; rfl, hB⟩
end
end Go.Proofs.Ytkonflbgkaflaaa
namespace Go.Proofs.Ytkonflbgkaflaaa
section
open Go.ChangeShapes Go.WideShapes Go.ChangeAt Go.RowKit Go.Joins Go.Deep
set_option maxRecDepth 100000
set_option linter.unusedVariables false
set_option linter.unusedSimpArgs false
def St.wf (a : St) : Prop := (-9223372036854775808 ≤ a.clock ∧ a.clock ≤ 9223372036854775807) ∧ (-9223372036854775808 ≤ a.site ∧ a.site ≤ 9223372036854775807) ∧ (-9223372036854775808 ≤ a.seq ∧ a.seq ≤ 9223372036854775807)
def IsSt (w : World) (v : Value) (a : St) : Prop := v = a.val ∧ a.wf
theorem open_isSt {H : Type} {enc : TypeId × Value → H} {P : Program} {W : World} {r : Reach} {b0 : Nat} {t : TypeId} {f0 f1 f2 : Field} {v : Value} {d : DataW H} {ps : List MemPlace}
    (hs : P.underlying t = some (.struct #[f0, f1, f2])) (hone : oneCellFields P #[f0, f1, f2] = true) (hC : P.cellsOf t = 3) (t0 : P.underlying f0.type = some (.int .i64)) (t1 : P.underlying f1.type = some (.int .i64)) (t2 : P.underlying f2.type = some (.int .i64))
    (hval : Value.okWide P W r b0 t v) (hd : DataW.Trod enc P W 0 (fun _ => true) true t v d ps) : ∃ a, IsSt W v a := by
  obtain ⟨v0, v1, v2, y0, y1, y2, n, rfl, _, _, h0, h1, h2⟩ := open_agg3 hs hone hC hval hd
  obtain ⟨x0, e0, _, w0⟩ := DataW.trod_int t0 h0
  obtain ⟨x1, e1, _, w1⟩ := DataW.trod_int t1 h1
  obtain ⟨x2, e2, _, w2⟩ := DataW.trod_int t2 h2
  simp only [List.cons.injEq, and_true] at e0 e1 e2
  subst e0 e1 e2
  exact ⟨⟨x0, x1, x2⟩, rfl, bounds_i64 w0, bounds_i64 w1, bounds_i64 w2⟩
end
end Go.Proofs.Ytkonflbgkaflaaa
namespace Go.Proofs.Ytkonflbgkaflaaa
section
open Go.RowKit
set_option maxRecDepth 100000
set_option linter.unusedVariables false
set_option linter.unusedSimpArgs false
theorem within_any (n : Int) (w : World) : Calls Try.prog 80 #[.int .i64 n] w fun e w' => e = .returned (.bool (inV n)) ∧ w = w' := by
  obtain ⟨V, HV⟩ : ∃ V, Hid (V = inV n) := ⟨_, rfl⟩
  rw [← HV.out]
  unfold inV at HV
  by_cases h1 : 1 ≤ n
  · have t1 : decide (1 ≤ n) = true := decide_eq_true h1
    by_cases h2 : n ≤ 1099511627776
    · have t2 : decide (n ≤ 1099511627776) = true := decide_eq_true h2
      rw [t1, t2] at HV
      go_enter Try.func80, Try.ntmps80
      go_wp2_with fail
      go_ret
      exact ⟨by rw [HV.out]; rfl, rfl⟩
    · have t2 : decide (n ≤ 1099511627776) = false := decide_eq_false h2
      rw [t1, t2] at HV
      go_enter Try.func80, Try.ntmps80
      go_wp2_with fail
      go_ret
      exact ⟨by rw [HV.out]; rfl, rfl⟩
  · have t1 : decide (1 ≤ n) = false := decide_eq_false h1
    rw [t1] at HV
    go_enter Try.func80, Try.ntmps80
    go_wp2_with fail
    go_ret
    exact ⟨by rw [HV.out]; rfl, rfl⟩
def chkV (a : St) : Int := if okV a = true then 0 else 1
set_option maxHeartbeats 1000000 in
theorem check_any (a : St) (w : World) : Calls Try.prog 46 #[a.val] w fun e w' => e = .returned (.int .i64 (chkV a)) ∧ Below w.heap.size w w' := by
  obtain ⟨V, HV⟩ : ∃ V, Hid (V = chkV a) := ⟨_, rfl⟩
  rw [← HV.out]
  obtain ⟨c, s, q⟩ := a
  unfold chkV okV at HV
  unfold St.val
  simp only at HV ⊢
  have hB : Below w.heap.size w (w.alloc (.cells #[.int .i64 c, .int .i64 s, .int .i64 q] 23)) := (Below.refl _ _).alloc (Nat.le_refl _) _
  go_enter Try.func46, Try.ntmps46
  go_wp2_with fail
  refine (within_any c _).mono ?_
  rintro e w1 ⟨rfl, rfl⟩
  cases h1 : inV c
  · rw [h1] at HV
    go_wp2_with fail
    go_ret
    exact ⟨by rw [HV.out]; rfl, hB⟩
  · rw [h1] at HV
    go_wp2_with fail
    refine (within_any q _).mono ?_
    rintro e w1 ⟨rfl, rfl⟩
    cases h2 : inV q
    · rw [h2] at HV
      go_wp2_with fail
      go_ret
      exact ⟨by rw [HV.out]; rfl, hB⟩
    · rw [h2] at HV
      by_cases h3 : s < 0
      · have t3 : decide (s < 0) = true := decide_eq_true h3
        rw [show decide (0 ≤ s) = false from decide_eq_false (by omega)] at HV
        go_wp2_with fail
        go_ret
        exact ⟨by rw [HV.out]; rfl, hB⟩
      · have t3 : decide (s < 0) = false := decide_eq_false h3
        rw [show decide (0 ≤ s) = true from decide_eq_true (by omega)] at HV
        by_cases h4 : 8 ≤ s
        · have t4 : decide (8 ≤ s) = true := decide_eq_true h4
          rw [show decide (s < 8) = false from decide_eq_false (by omega)] at HV
          go_wp2_with fail
          go_ret
          exact ⟨by rw [HV.out]; rfl, hB⟩
        · have t4 : decide (8 ≤ s) = false := decide_eq_false h4
          rw [show decide (s < 8) = true from decide_eq_true (by omega)] at HV
          go_wp2_with fail
          go_ret
          exact ⟨by rw [HV.out]; rfl, hB⟩
end
end Go.Proofs.Ytkonflbgkaflaaa
namespace Go.Proofs.Ytkonflbgkaflaaa
section
open Go.RowKit
set_option maxRecDepth 100000
set_option linter.unusedVariables false
set_option linter.unusedSimpArgs false
def zig (n : Int) : Int := if 0 ≤ n then 2 * n else -2 * n - 1
def zag (u : Int) : Int := if u % 2 = 0 then u / 2 else -(u / 2) - 1
theorem zig_range (n : Int) (h0 : -9223372036854775808 ≤ n) (h1 : n ≤ 9223372036854775807) : 0 ≤ zig n ∧ zig n < 18446744073709551616 := by unfold zig; split <;> omega
theorem zag_range (u : Int) (h0 : 0 ≤ u) (h1 : u < 18446744073709551616) : -9223372036854775808 ≤ zag u ∧ zag u ≤ 9223372036854775807 := by unfold zag; split <;> omega
theorem zag_zig (n : Int) : zag (zig n) = n := by unfold zig zag; split <;> split <;> omega
theorem zig_zag (u : Int) (h : 0 ≤ u) : zig (zag u) = u := by unfold zig zag; split <;> split <;> omega
theorem xor_u64_zero (x : Int) (h0 : 0 ≤ x) (h1 : x < 18446744073709551616) : bits .xor .u64 x 0 = x := by
  obtain ⟨a, rfl⟩ := Int.eq_ofNat_of_zero_le h0
  have ha : a < 2 ^ 64 := by omega
  show IntKind.u64.wrap (((BitVec.ofInt 64 (a : Int) ^^^ BitVec.ofInt 64 0 : BitVec 64).toNat : Nat) : Int) = _
  rw [show BitVec.ofInt 64 0 = 0#64 from rfl, BitVec.xor_zero, BitVec.ofInt_natCast, BitVec.toNat_ofNat, Nat.mod_eq_of_lt ha]
  exact wraps_u64 _ (by omega) (by omega)
theorem xor_u64_ones (x : Int) (h0 : 0 ≤ x) (h1 : x < 18446744073709551616) : bits .xor .u64 x 18446744073709551615 = 18446744073709551615 - x := by
  obtain ⟨a, rfl⟩ := Int.eq_ofNat_of_zero_le h0
  have ha : a < 2 ^ 64 := by omega
  show IntKind.u64.wrap (((BitVec.ofInt 64 (a : Int) ^^^ BitVec.ofInt 64 18446744073709551615 : BitVec 64).toNat : Nat) : Int) = _
  rw [show BitVec.ofInt 64 18446744073709551615 = BitVec.allOnes 64 from by decide, BitVec.xor_allOnes, BitVec.toNat_not, BitVec.ofInt_natCast, BitVec.toNat_ofNat, Nat.mod_eq_of_lt ha]
  rw [wraps_u64 _ (by omega) (by omega)]
  omega
theorem xor_i64_zero (x : Int) (h0 : 0 ≤ x) (h1 : x < 9223372036854775808) : bits .xor .i64 x 0 = x := by
  obtain ⟨a, rfl⟩ := Int.eq_ofNat_of_zero_le h0
  have ha : a < 2 ^ 64 := by omega
  show IntKind.i64.wrap (((BitVec.ofInt 64 (a : Int) ^^^ BitVec.ofInt 64 0 : BitVec 64).toNat : Nat) : Int) = _
  rw [show BitVec.ofInt 64 0 = 0#64 from rfl, BitVec.xor_zero, BitVec.ofInt_natCast, BitVec.toNat_ofNat, Nat.mod_eq_of_lt ha, IntKind.wrap_i64]
  omega
theorem xor_i64_ones (x : Int) (h0 : 0 ≤ x) (h1 : x < 9223372036854775808) : bits .xor .i64 x (-1) = -x - 1 := by
  obtain ⟨a, rfl⟩ := Int.eq_ofNat_of_zero_le h0
  have ha : a < 2 ^ 64 := by omega
  show IntKind.i64.wrap (((BitVec.ofInt 64 (a : Int) ^^^ BitVec.ofInt 64 (-1) : BitVec 64).toNat : Nat) : Int) = _
  rw [show BitVec.ofInt 64 (-1) = BitVec.allOnes 64 from by decide, BitVec.xor_allOnes, BitVec.toNat_not, BitVec.ofInt_natCast, BitVec.toNat_ofNat, Nat.mod_eq_of_lt ha, IntKind.wrap_i64]
  omega
theorem and_u64_one (x : Int) (h0 : 0 ≤ x) (h1 : x < 18446744073709551616) : bits .and .u64 x 1 = x % 2 := bits_mask .u64 64 (by decide) wraps_u64 1 (by decide) x h0 (by omega)
theorem ret_num {k : IntKind} {a b : Int} (h : a = b) : Ending.returned (.int k a) = .returned (.int k b) := by rw [h]
theorem zig_any (n : Int) (w : World) (h0 : -9223372036854775808 ≤ n) (h1 : n ≤ 9223372036854775807) :
    Calls Try.prog 77 #[.int .i64 n] w fun e w' => e = .returned (.int .u64 (zig n)) ∧ w = w' := by
  go_enter Try.func77, Try.ntmps77
  go_wp2
  go_ret
  refine ⟨ret_num ?_, rfl⟩
  unfold zig
  split
  · rw [show n / 9223372036854775808 = 0 by omega, wrap_u64, wrap_u64, wrap_u64, show (0 : Int) % 18446744073709551616 = 0 from rfl, xor_u64_zero _ (by omega) (by omega)]
    omega
  · rw [show n / 9223372036854775808 = -1 by omega, wrap_u64, wrap_u64, wrap_u64, show (-1 : Int) % 18446744073709551616 = 18446744073709551615 from rfl, xor_u64_ones _ (by omega) (by omega)]
    omega
theorem zag_any (u : Int) (w : World) (h0 : 0 ≤ u) (h1 : u < 18446744073709551616) :
    Calls Try.prog 88 #[.int .u64 u] w fun e w' => e = .returned (.int .i64 (zag u)) ∧ w = w' := by
  go_enter Try.func88, Try.ntmps88
  go_wp2
  go_ret
  refine ⟨ret_num ?_, rfl⟩
  rw [and_u64_one u h0 h1]
  unfold zag
  split
  · rename_i h
    rw [h, show wrap64 (-wrap64 0) = 0 from by unfold wrap64; omega, xor_i64_zero _ (by omega) (by omega)]
  · rename_i h
    rw [show u % 2 = 1 by omega, show wrap64 (-wrap64 1) = -1 from by unfold wrap64; omega, xor_i64_ones _ (by omega) (by omega)]
theorem rzig_any (n : Int) (w : World) (h0 : -9223372036854775808 ≤ n) (h1 : n ≤ 9223372036854775807) :
    Calls Try.prog 42 #[.int .i64 n] w fun e w' => e = .returned (.int .u64 (zig n)) ∧ w = w' := by
  go_enter Try.func42, Try.ntmps42
  go_wp2
  all_goals
    go_ret
    refine ⟨ret_num ?_, rfl⟩
    first
      | (unfold zig; rw [if_pos (by assumption)])
      | (unfold zig; rw [if_neg (by omega)]; omega)
theorem rzag_any (u : Int) (w : World) (h0 : 0 ≤ u) (h1 : u < 18446744073709551616) :
    Calls Try.prog 90 #[.int .u64 u] w fun e w' => e = .returned (.int .i64 (zag u)) ∧ w = w' := by
  go_enter Try.func90, Try.ntmps90
  go_wp2
  all_goals
    go_ret
    refine ⟨ret_num ?_, rfl⟩
    first
      | (unfold zag; rw [if_pos (by simpa using ‹(u % 2 == 0) = true›)])
      | (unfold zag; rw [if_neg (by simpa using ‹(u % 2 == 0) = false›)])
theorem extract_all (s : ByteArray) (n : Nat) (h : s.size ≤ n) : s.extract 0 n = s := by
  apply ByteArray.ext
  rw [ByteArray.data_extract]
  have : s.data.size ≤ n := h
  exact Array.extract_eq_self_of_le this
end
end Go.Proofs.Ytkonflbgkaflaaa
namespace Go.Proofs.Ytkonflbgkaflaaa
section
open Go.RowKit
set_option maxRecDepth 100000
set_option linter.unusedVariables false
set_option linter.unusedSimpArgs false
def putB (f : Nat) (n : Int) : List UInt8 := (putI f n).map fun x => UInt8.ofNat x.toNat
theorem vput_data (n : Int) : (vput n).data.toList = putB 9 n := rfl
theorem u8_of (x : Int) (h0 : 0 ≤ x) (h1 : x < 256) : ((UInt8.ofNat x.toNat).toNat : Int) = x := by
  rw [UInt8.toNat_ofNat_of_lt' (by simp [UInt8.size]; omega)]; omega
theorem putI_small (f : Nat) (n : Int) (h : n < 128) : putI f n = [n] := by
  cases f with
  | zero => rfl
  | succ f => simp [putI, h]
theorem putI_big (f : Nat) (n : Int) (h : ¬ n < 128) : putI (f + 1) n = (n % 128 + 128) :: putI f (n / 128) := by simp [putI, h]
theorem putB_small (f : Nat) (n : Int) (h : n < 128) : putB f n = [UInt8.ofNat n.toNat] := by simp [putB, putI_small f n h]
theorem putB_big (f : Nat) (n : Int) (h : ¬ n < 128) : putB (f + 1) n = UInt8.ofNat (n % 128 + 128).toNat :: putB f (n / 128) := by simp [putB, putI_big f n h]
theorem putI_pos (f : Nat) (n : Int) : 1 ≤ (putI f n).length := by
  cases f with
  | zero => simp [putI]
  | succ f => simp only [putI]; split <;> simp
theorem putI_le (f : Nat) (n : Int) : (putI f n).length ≤ f + 1 := by
  induction f generalizing n with
  | zero => simp [putI]
  | succ f ih =>
    simp only [putI]
    split
    · simp
    · have := ih (n / 128); simp; omega
/-- What was put is read. -/
theorem getL_put (f : Nat) (n : Int) (rest : List UInt8) (h0 : 0 ≤ n) (h1 : n < 128 ^ f * 128) : getL (f + 1) (putB f n ++ rest) = some (n, (putI f n).length) := by
  induction f generalizing n with
  | zero =>
    have hs : n < 128 := by simpa using h1
    rw [putB_small 0 n hs, List.singleton_append, getL_cons, u8_of n h0 (by omega), if_pos hs]; rfl
  | succ f ih =>
    by_cases hs : n < 128
    · rw [putB_small _ n hs, List.singleton_append, getL_cons, u8_of n h0 (by omega), if_pos hs, putI_small _ n hs]; rfl
    · rw [putB_big f n hs, List.cons_append, getL_cons, u8_of _ (by omega) (by omega), if_neg (by omega), ih (n / 128) (by omega) (by rw [Int.pow_succ] at h1; exact Int.ediv_lt_of_lt_mul (by omega) (by omega)), putI_big f n hs]
      simp only [Option.map_some, List.length_cons, Option.some.injEq, Prod.mk.injEq, and_true]
      omega
/-- The number and its length are of the shortest form. -/
theorem putI_canon (f : Nat) (n : Int) (h0 : 0 ≤ n) : (putI f n).length = 1 ∨ (128 : Int) ^ ((putI f n).length - 1) ≤ n := by
  induction f generalizing n with
  | zero => left; rfl
  | succ f ih =>
    by_cases hs : n < 128
    · left; rw [putI_small _ n hs]; rfl
    · right
      rw [putI_big f n hs, List.length_cons, Nat.add_sub_cancel]
      have hp := putI_pos f (n / 128)
      rcases ih (n / 128) (by omega) with h | h
      · rw [h]; simp only [Int.pow_one]; omega
      · obtain ⟨q, hq⟩ : ∃ q, (putI f (n / 128)).length = q + 1 := ⟨(putI f (n / 128)).length - 1, by omega⟩
        rw [hq, Nat.add_sub_cancel] at h
        rw [hq, Int.pow_succ]
        omega
theorem getL_some (f : Nat) (l : List UInt8) (V : Int) (c : Nat) (h : getL f l = some (V, c)) : 0 ≤ V ∧ 1 ≤ c ∧ c ≤ l.length ∧ c ≤ f ∧ getL f (l.take c) = some (V, c) ∧ ∀ r, getL f (l.take c ++ r) = some (V, c) := by
  induction f generalizing l V c with
  | zero => exact absurd (show (none : Option (Int × Nat)) = some (V, c) from h) (by simp)
  | succ f ih =>
    cases l with
    | nil => exact absurd (show (none : Option (Int × Nat)) = some (V, c) from h) (by simp)
    | cons b r =>
      rw [getL_cons] at h
      by_cases hb : (b.toNat : Int) < 128
      · rw [if_pos hb] at h
        simp only [Option.some.injEq, Prod.mk.injEq] at h
        obtain ⟨rfl, rfl⟩ := h
        refine ⟨by omega, by omega, by simp, by omega, ?_, fun r' => ?_⟩
        · rw [List.take_succ_cons, getL_cons, if_pos hb]
        · rw [List.take_succ_cons, List.cons_append, getL_cons, if_pos hb]
      · rw [if_neg hb] at h
        cases hg : getL f r with
        | none => simp [hg] at h
        | some p =>
          obtain ⟨V', c'⟩ := p
          simp only [hg, Option.map_some, Option.some.injEq, Prod.mk.injEq] at h
          obtain ⟨rfl, rfl⟩ := h
          obtain ⟨h1, h2, h3, h4, h5, h6⟩ := ih r V' c' hg
          refine ⟨by omega, by omega, by simp; omega, by omega, ?_, fun r' => ?_⟩
          · rw [List.take_succ_cons, getL_cons, if_neg hb, h5]; rfl
          · rw [List.take_succ_cons, List.cons_append, getL_cons, if_neg hb, h6]; rfl
/-- What is read in the shortest form was put. -/
theorem put_getL (f : Nat) (l : List UInt8) (V : Int) (c : Nat) (F : Nat) (h : getL f l = some (V, c)) (hc : c = 1 ∨ (128 : Int) ^ (c - 1) ≤ V) (hF : c ≤ F + 1) : l.take c = putB F V := by
  induction f generalizing l V c F with
  | zero => exact absurd (show (none : Option (Int × Nat)) = some (V, c) from h) (by simp)
  | succ f ih =>
    cases l with
    | nil => exact absurd (show (none : Option (Int × Nat)) = some (V, c) from h) (by simp)
    | cons b r =>
      rw [getL_cons] at h
      have hlt := b.toNat_lt
      by_cases hb : (b.toNat : Int) < 128
      · rw [if_pos hb] at h
        simp only [Option.some.injEq, Prod.mk.injEq] at h
        obtain ⟨rfl, rfl⟩ := h
        rw [putB_small F _ hb]
        simp
      · rw [if_neg hb] at h
        cases hg : getL f r with
        | none => simp [hg] at h
        | some p =>
          obtain ⟨V', c'⟩ := p
          simp only [hg, Option.map_some, Option.some.injEq, Prod.mk.injEq] at h
          obtain ⟨rfl, rfl⟩ := h
          obtain ⟨h1, h2, h3, h4, h5, h6⟩ := getL_some f r V' c' hg
          obtain ⟨F, rfl⟩ : ∃ k, F = k + 1 := ⟨F - 1, by omega⟩
          rw [Nat.add_sub_cancel] at hc
          have hbig : (128 : Int) ^ c' ≤ (b.toNat : Int) - 128 + 128 * V' := by omega
          have e : c' = (c' - 1) + 1 := by omega
          have hp : (0 : Int) < 128 ^ (c' - 1) := Int.pow_pos (by decide)
          rw [e, Int.pow_succ] at hbig
          have hq : ¬ ((b.toNat : Int) - 128 + 128 * V' < 128) := by omega
          have hd : ((b.toNat : Int) - 128 + 128 * V') / 128 = V' := by omega
          have hm : ((b.toNat : Int) - 128 + 128 * V') % 128 + 128 = (b.toNat : Int) := by omega
          rw [putB_big F _ hq, hd, hm, List.take_succ_cons, ih r V' c' F hg (by right; omega) (by omega)]
          simp
/-- The digits' number. -/
def digV : List UInt8 → Int
  | [] => 0
  | b :: r => (b.toNat : Int) % 128 + 128 * digV r
theorem digV_nn (l : List UInt8) : 0 ≤ digV l := by
  induction l with
  | nil => simp [digV]
  | cons b r ih => simp only [digV]; omega
theorem getL_digV (f : Nat) (l : List UInt8) (V : Int) (c : Nat) (h : getL f l = some (V, c)) : V = digV (l.take c) := by
  induction f generalizing l V c with
  | zero => exact absurd (show (none : Option (Int × Nat)) = some (V, c) from h) (by simp)
  | succ f ih =>
    cases l with
    | nil => exact absurd (show (none : Option (Int × Nat)) = some (V, c) from h) (by simp)
    | cons b r =>
      rw [getL_cons] at h
      have hlt := b.toNat_lt
      by_cases hb : (b.toNat : Int) < 128
      · rw [if_pos hb] at h
        simp only [Option.some.injEq, Prod.mk.injEq] at h
        obtain ⟨rfl, rfl⟩ := h
        simp [digV]; omega
      · rw [if_neg hb] at h
        cases hg : getL f r with
        | none => simp [hg] at h
        | some p =>
          obtain ⟨V', c'⟩ := p
          simp only [hg, Option.map_some, Option.some.injEq, Prod.mk.injEq] at h
          obtain ⟨rfl, rfl⟩ := h
          rw [List.take_succ_cons, digV, ← ih r V' c' hg]
          omega
/-- A number that was put, modulo 2^64, is what stands there just where it is the shortest form of a number below 2^64. -/
theorem put_iff (l : List UInt8) (V : Int) (c : Nat) (h : getL 10 l = some (V, c)) :
    putB 9 (V % 18446744073709551616) = l.take c ↔ (V < 18446744073709551616 ∧ (c = 1 ∨ (128 : Int) ^ (c - 1) ≤ V)) := by
  obtain ⟨h1, h2, h3, h4, h5, h6⟩ := getL_some 10 l V c h
  constructor
  · intro he
    have hm0 : 0 ≤ V % 18446744073709551616 := by omega
    have hm1 : V % 18446744073709551616 < 18446744073709551616 := by omega
    have hg := getL_put 9 (V % 18446744073709551616) [] hm0 (by simp only [Int.reducePow]; omega)
    rw [List.append_nil, he, h5] at hg
    simp only [Option.some.injEq, Prod.mk.injEq] at hg
    obtain ⟨e1, e2⟩ := hg
    refine ⟨by omega, ?_⟩
    have hc := putI_canon 9 (V % 18446744073709551616) hm0
    rw [← e2, ← e1] at hc
    exact hc
  · rintro ⟨hv, hc⟩
    rw [Int.emod_eq_of_lt h1 hv]
    exact (put_getL 10 l V c 9 h hc (by omega)).symm
end
end Go.Proofs.Ytkonflbgkaflaaa
namespace Go.Proofs.Ytkonflbgkaflaaa
section
open Go.RowKit
set_option maxRecDepth 100000
set_option linter.unusedVariables false
set_option linter.unusedSimpArgs false
/-- A reader: its bytes, its place, is it broken. -/
structure Rdr where
  s : ByteArray
  pos : Int
  bad : Bool
def Rdr.ok (r : Rdr) : Prop := r.s.size ≤ 1000000000 ∧ 0 ≤ r.pos ∧ r.pos ≤ r.s.size
/-- The block g is a reader of type T. -/
def RdrAt (T : TypeId) (w : World) (g : Nat) (r : Rdr) : Prop := w.heap[g]? = some (.cells #[.string r.s, .int .i64 r.pos, .bool r.bad] T (0, 0))
theorem RdrAt.lt {T : TypeId} {w : World} {g : Nat} {r : Rdr} (h : RdrAt T w g r) : g < w.heap.size := by
  unfold RdrAt at h
  rcases Nat.lt_or_ge g w.heap.size with h' | h'
  · exact h'
  · simp [Array.getElem?_eq_none h'] at h
theorem RdrAt.c0 {T : TypeId} {w : World} {g : Nat} {r : Rdr} (h : RdrAt T w g r) : w.cell? ⟨g, 0, none⟩ = some (.string r.s) := by simp [World.cell?, show w.heap[g]? = _ from h]
theorem RdrAt.c1 {T : TypeId} {w : World} {g : Nat} {r : Rdr} (h : RdrAt T w g r) : w.cell? ⟨g, 1, none⟩ = some (.int .i64 r.pos) := by simp [World.cell?, show w.heap[g]? = _ from h]
theorem RdrAt.c2 {T : TypeId} {w : World} {g : Nat} {r : Rdr} (h : RdrAt T w g r) : w.cell? ⟨g, 2, none⟩ = some (.bool r.bad) := by simp [World.cell?, show w.heap[g]? = _ from h]
theorem RdrAt.fz {T : TypeId} {w : World} {g : Nat} {r : Rdr} (h : RdrAt T w g r) (j : Nat) : w.frozen? ⟨g, j, none⟩ = false := by simp [World.frozen?, show w.heap[g]? = _ from h]
theorem RdrAt.set2 {T : TypeId} {w : World} {g : Nat} {r : Rdr} (h : RdrAt T w g r) (b : Bool) : RdrAt T (w.setCell ⟨g, 2, none⟩ (.bool b)) g { r with bad := b } := by
  unfold RdrAt at *
  simp [World.setCell, Array.getElem?_modify, h]
theorem RdrAt.set1 {T : TypeId} {w : World} {g : Nat} {r : Rdr} (h : RdrAt T w g r) (p : Int) : RdrAt T (w.setCell ⟨g, 1, none⟩ (.int .i64 p)) g { r with pos := p } := by
  unfold RdrAt at *
  simp [World.setCell, Array.getElem?_modify, h]
/-- All but block g is as it was. -/
def But (g : Nat) (w w' : World) : Prop := w.grownBy w' (some g)
theorem But.refl (g : Nat) (w : World) : But g w w := ⟨rfl, rfl, rfl, Nat.le_refl _, fun _ _ _ => rfl⟩
theorem But.trans {g : Nat} {w w1 w2 : World} (h : But g w w1) (k : But g w1 w2) : But g w w2 :=
  ⟨k.os.trans h.os, k.tape.trans h.tape, k.output.trans h.output, Nat.le_trans h.size k.size, fun i hi hne => (k.block i (Nat.lt_of_lt_of_le hi h.size) hne).trans (h.block i hi hne)⟩
theorem But.set (g j : Nat) (w : World) (v : Value) : But g w (w.setCell ⟨g, j, none⟩ v) :=
  ⟨rfl, rfl, rfl, by simp [World.setCell], fun i hi hne => Below.heap_setCell _ _ _ _ (fun e => hne (by simp [e]))⟩
theorem But.drewN (g n : Nat) (w : World) : But g w (w.drewN n) := ⟨rfl, rfl, rfl, Nat.le_refl _, fun _ _ _ => rfl⟩
theorem But.of_below {g : Nat} {w w' : World} (h : Below w.heap.size w w') : But g w w' := ⟨h.os, h.tape, h.output, h.size, fun i hi _ => h.block i hi⟩
theorem But.below {B g : Nat} {w0 w w' : World} (h0 : Below B w0 w) (h : But g w w') (hB : B ≤ w.heap.size) (hg : B ≤ g) : Below B w0 w' := h0.grown h hB (fun k hk => by cases hk; exact hg)
theorem rdr_ok (g : Nat) (r : Rdr) (b : Bool) (w : World) (h : RdrAt 102 w g r) :
    Calls Try.prog 87 #[.pointer (some ⟨g, 0, none⟩), .bool b] w fun e w' => e = .returned (.bool (!(r.bad || !b))) ∧ w' = w.setCell ⟨g, 2, none⟩ (.bool (r.bad || !b)) := by
  obtain ⟨s, p, bad⟩ := r
  have c2 := h.c2
  have f2 := h.fz 2
  have hlt := h.lt
  have H := Lib.hid h
  clear h
  cases bad <;> cases b
  all_goals
    go_enter Try.func87, Try.ntmps87
    go_wp2
    go_ret
    exact ⟨rfl, rfl⟩
theorem Rdr.eta_bad (r : Rdr) (b : Bool) (h : r.bad = b) : { r with bad := b } = r := by cases r; subst h; rfl
def Rdr.num (r : Rdr) : Int × Rdr :=
  if r.bad = true then (0, r) else
  if (vget r.s r.pos).2.2 = 0 then ((vget r.s r.pos).1, { r with pos := (vget r.s r.pos).2.1 }) else (0, { r with bad := true })
def Rdr.int (r : Rdr) : Int × Rdr := (zag r.num.1, r.num.2)
def Rdr.small (r : Rdr) (most : Int) : Int × Rdr :=
  if r.num.2.bad = true ∨ most < 0 ∨ most < r.num.1 then (0, { r.num.2 with bad := true }) else (r.num.1, r.num.2)
def Rdr.left (r : Rdr) : Int := if r.bad = true then 0 else (r.s.size : Int) - r.pos
def Rdr.text (r : Rdr) : ByteArray × Rdr :=
  if r.num.2.bad = true ∨ r.num.2.left < r.num.1 then (⟨#[]⟩, { r.num.2 with bad := true }) else
  (r.s.extract r.num.2.pos.toNat (r.num.2.pos + r.num.1).toNat, { r.num.2 with pos := r.num.2.pos + r.num.1 })
def Rdr.fin (r : Rdr) : Int := if r.bad = true ∨ r.pos < (r.s.size : Int) then 10 else 0
theorem vget_range (s : ByteArray) (p : Int) : 0 ≤ (vget s p).1 ∧ (vget s p).1 < 18446744073709551616 ∧ ((vget s p).2.2 = 0 ∧ p < (vget s p).2.1 ∧ (vget s p).2.1 ≤ s.size ∧ 0 ≤ p ∨ (vget s p) = (0, 0, 10)) := by
  unfold vget
  split
  · exact ⟨by decide, by decide, .inr rfl⟩
  · rename_i h
    split
    · exact ⟨by decide, by decide, .inr rfl⟩
    · rename_i q hq
      split
      · rename_i hc
        obtain ⟨h1, h2, h3, _⟩ := getL_some 10 _ q.1 q.2 hq
        refine ⟨h1, hc.1, .inl ⟨rfl, ?_, ?_, by omega⟩⟩
        · simp only; omega
        · simp only
          rw [List.length_drop] at h3
          have : s.data.toList.length = s.size := by simp
          omega
      · exact ⟨by decide, by decide, .inr rfl⟩
theorem Rdr.num_ok {r : Rdr} (h : r.ok) : r.num.2.ok ∧ 0 ≤ r.num.1 ∧ r.num.1 < 18446744073709551616 ∧ r.num.2.s = r.s := by
  obtain ⟨h1, h2, h3⟩ := h
  have hv := vget_range r.s r.pos
  unfold Rdr.num
  split
  · exact ⟨⟨h1, h2, h3⟩, Int.le_refl _, (by decide : (0 : Int) < 18446744073709551616), rfl⟩
  · split
    · rename_i he
      rcases hv.2.2 with ⟨_, ha, hb, _⟩ | hb
      · exact ⟨⟨h1, by simp only; omega, hb⟩, hv.1, hv.2.1, rfl⟩
      · rw [hb] at he; simp at he
    · exact ⟨⟨h1, h2, h3⟩, Int.le_refl _, (by decide : (0 : Int) < 18446744073709551616), rfl⟩
theorem get_q (s : ByteArray) (at' : Int) (w : World) (hs : s.size ≤ 9223372036854775807) :
    Calls Try.prog 94 #[.string s, .int .i64 at'] w fun e w' => e = .returned (.tuple #[.int .u64 (vget s at').1, .int .i64 (vget s at').2.1, .int .i64 (vget s at').2.2]) ∧ w' = w :=
  (get_any s at' w hs).mono fun e w' ⟨h1, h2⟩ => ⟨h1, h2.symm⟩
set_option maxHeartbeats 1000000 in
theorem rdr_num (g : Nat) (r : Rdr) (w : World) (h : RdrAt 102 w g r) (hr : r.ok) :
    Calls Try.prog 86 #[.pointer (some ⟨g, 0, none⟩)] w fun e w' => e = .returned (.int .u64 r.num.1) ∧ RdrAt 102 w' g r.num.2 ∧ But g w w' := by
  cases hbad : r.bad
  · have c0 := (h.set2 false).c0
    have c1 := (h.set2 false).c1
    have hlt := h.lt
    have hsz : r.s.size ≤ 9223372036854775807 := by have := hr.1; omega
    have HB := Lib.hid hbad
    clear hbad
    go_enter Try.func86, Try.ntmps86
    go_wp2_with fail
    refine (rdr_ok g r true _ h).mono ?_
    rintro e w1 ⟨rfl, rfl⟩
    rw [HB.out, show (false || !true) = false from rfl]
    go_wp2_with fail
    have hv := vget_range r.s r.pos
    have HV := Lib.hid hv
    clear hv
    have HN : Hid (r.num = if (vget r.s r.pos).2.2 = 0 then ((vget r.s r.pos).1, { r with pos := (vget r.s r.pos).2.1 }) else (0, { r with bad := true })) := by
      show r.num = _
      unfold Rdr.num
      rw [if_neg (by rw [HB.out]; decide)]
    go_quiet ((go_at_call 94; exact Calls.quiet_of_same (get_q _ _ _ hsz)))
    have h1 : RdrAt 102 ((w.setCell ⟨g, 2, none⟩ (.bool false)).drewN nq) g r := by
      have := h.set2 false
      rw [Rdr.eta_bad r false HB.out] at this
      exact this
    have hb1 : But g w ((w.setCell ⟨g, 2, none⟩ (.bool false)).drewN nq) := (But.set g 2 w _).trans (But.drewN g nq _)
    generalize (w.setCell ⟨g, 2, none⟩ (.bool false)).drewN nq = w1 at *
    by_cases he : (vget r.s r.pos).2.2 = 0
    · have t1 : ((vget r.s r.pos).2.2 == 0) = true := by simpa using he
      have HN' : r.num = _ := HN.out
      rw [if_pos he] at HN'
      generalize vget r.s r.pos = q at *
      obtain ⟨v, nx, er⟩ := q
      simp only at he t1 HN'
      subst he
      have HN2 := Lib.hid HN'
      clear HN HN' t1
      go_wp2_with fail
      refine (rdr_ok g r true _ h1).mono ?_
      rintro e w2 ⟨rfl, rfl⟩
      rw [HB.out, show (false || !true) = false from rfl]
      have h2 : RdrAt 102 (w1.setCell ⟨g, 2, none⟩ (.bool false)) g r := by
        have := h1.set2 false
        rw [Rdr.eta_bad r false HB.out] at this
        exact this
      have c1 := h2.c1
      have f1 := h2.fz 1
      go_wp2
      go_ret
      rw [HN2.out]
      exact ⟨rfl, h2.set1 nx, (hb1.trans (But.set g 2 _ _)).trans (But.set g 1 _ _)⟩
    · have t1 : ((vget r.s r.pos).2.2 == 0) = false := by simpa using he
      have HN' : r.num = _ := HN.out
      rw [if_neg he] at HN'
      generalize vget r.s r.pos = q at *
      obtain ⟨v, nx, er⟩ := q
      simp only at he t1 HN'
      have HN2 := Lib.hid HN'
      clear HN HN' he
      go_wp2_with fail
      refine (rdr_ok g r false _ h1).mono ?_
      rintro e w2 ⟨rfl, rfl⟩
      rw [HB.out, show (false || !false) = true from rfl]
      go_wp2
      go_ret
      rw [HN2.out]
      exact ⟨rfl, h1.set2 true, hb1.trans (But.set g 2 _ _)⟩
  · have HB := Lib.hid hbad
    clear hbad
    have HN : Hid (r.num = (0, r)) := by
      show r.num = _
      unfold Rdr.num
      rw [if_pos HB.out]
    go_enter Try.func86, Try.ntmps86
    go_wp2_with fail
    refine (rdr_ok g r true _ h).mono ?_
    rintro e w1 ⟨rfl, rfl⟩
    rw [HB.out, show (true || !true) = true from rfl]
    go_wp2
    go_ret
    rw [HN.out]
    exact ⟨rfl, by have := h.set2 true; rw [Rdr.eta_bad r true HB.out] at this; exact this, But.set g 2 _ _⟩
theorem rdr_int (g : Nat) (r : Rdr) (w : World) (h : RdrAt 102 w g r) (hr : r.ok) :
    Calls Try.prog 64 #[.pointer (some ⟨g, 0, none⟩)] w fun e w' => e = .returned (.int .i64 r.int.1) ∧ RdrAt 102 w' g r.int.2 ∧ But g w w' := by
  have hk := Rdr.num_ok hr
  go_enter Try.func64, Try.ntmps64
  go_wp2_with fail
  refine (rdr_num g r _ h hr).mono ?_
  rintro e w1 ⟨rfl, h1, hb1⟩
  go_wp2_with fail
  refine (zag_any _ _ hk.2.1 hk.2.2.1).mono ?_
  rintro e w2 ⟨rfl, rfl⟩
  go_wp2
  go_ret
  exact ⟨rfl, h1, hb1⟩
set_option maxHeartbeats 1000000 in
theorem rdr_small (g : Nat) (r : Rdr) (most : Int) (w : World) (h : RdrAt 102 w g r) (hr : r.ok) (hm0 : -9223372036854775808 ≤ most) (hm1 : most ≤ 9223372036854775807) :
    Calls Try.prog 63 #[.pointer (some ⟨g, 0, none⟩), .int .i64 most] w fun e w' => e = .returned (.int .i64 (r.small most).1) ∧ RdrAt 102 w' g (r.small most).2 ∧ But g w w' := by
  have hk := Rdr.num_ok hr
  go_enter Try.func63, Try.ntmps63
  go_wp2_with fail
  refine (rdr_num g r _ h hr).mono ?_
  rintro e w1 ⟨rfl, h1, hb1⟩
  have HS : Hid (r.small most = if r.num.2.bad = true ∨ most < 0 ∨ most < r.num.1 then (0, { r.num.2 with bad := true }) else (r.num.1, r.num.2)) := rfl
  generalize r.num = q at *
  obtain ⟨v, r1⟩ := q
  simp only at h1 hk
  by_cases hneg : most < 0
  · have t1 : decide (0 ≤ most) = false := decide_eq_false (by omega)
    have HS2 := Lib.hid (HS.out.trans (if_pos (.inr (.inl hneg))))
    go_wp2_with fail
    refine (rdr_ok g r1 false _ h1).mono ?_
    rintro e w2 ⟨rfl, rfl⟩
    rw [show (r1.bad || !false) = true by simp]
    go_wp2
    go_ret
    rw [HS2.out]
    exact ⟨rfl, h1.set2 true, hb1.trans (But.set g 2 _ _)⟩
  · have t1 : decide (0 ≤ most) = true := decide_eq_true (by omega)
    have hw : IntKind.u64.wrap (max most 0) = most := by rw [wrap_u64]; omega
    by_cases hle : v ≤ most
    · have t2 : decide (v ≤ most) = true := decide_eq_true hle
      go_wp2_with fail
      refine (rdr_ok g r1 true _ h1).mono ?_
      rintro e w2 ⟨rfl, rfl⟩
      rw [show (r1.bad || !true) = r1.bad by simp]
      have h2 := h1.set2 r1.bad
      rw [Rdr.eta_bad r1 r1.bad rfl] at h2
      have hb2 := hb1.trans (But.set g 2 w1 (.bool r1.bad))
      cases hbd : r1.bad
      · have HS2 := Lib.hid (HS.out.trans (if_neg (show ¬ (r1.bad = true ∨ most < 0 ∨ most < v) by rw [hbd]; simp; omega)))
        rw [hbd] at h2 hb2
        have hiw : wrap64 v = v := IntWalk.wrap64_in v ⟨by omega, by omega⟩
        clear hbd
        go_wp2
        go_ret
        rw [HS2.out]
        exact ⟨rfl, h2, hb2⟩
      · have HS2 := Lib.hid (HS.out.trans (if_pos (show (r1.bad = true ∨ most < 0 ∨ most < v) by rw [hbd]; simp)))
        have h3 := h1.set2 true
        rw [hbd] at h2 hb2
        clear hbd
        go_wp2
        go_ret
        rw [HS2.out]
        exact ⟨rfl, h3, hb2⟩
    · have t2 : decide (v ≤ most) = false := decide_eq_false hle
      have HS2 := Lib.hid (HS.out.trans (if_pos (.inr (.inr (by omega)))))
      go_wp2_with fail
      refine (rdr_ok g r1 false _ h1).mono ?_
      rintro e w2 ⟨rfl, rfl⟩
      rw [show (r1.bad || !false) = true by simp]
      go_wp2
      go_ret
      rw [HS2.out]
      exact ⟨rfl, h1.set2 true, hb1.trans (But.set g 2 _ _)⟩
end
end Go.Proofs.Ytkonflbgkaflaaa
namespace Go.Proofs.Ytkonflbgkaflaaa
section
open Go.RowKit
set_option maxRecDepth 100000
set_option linter.unusedVariables false
set_option linter.unusedSimpArgs false
def QuietFrom (w w' : World) : Prop := ∃ n, w' = w.drewN n
theorem QuietFrom.but {g : Nat} {w w' : World} (h : QuietFrom w w') : But g w w' := by obtain ⟨n, rfl⟩ := h; exact But.drewN g n w
theorem QuietFrom.rdr {T : TypeId} {g : Nat} {r : Rdr} {w w' : World} (h : QuietFrom w w') (k : RdrAt T w g r) : RdrAt T w' g r := by obtain ⟨n, rfl⟩ := h; exact k
theorem QuietFrom.below {B : Nat} {w w' : World} (h : QuietFrom w w') : Below B w w' := by obtain ⟨n, rfl⟩ := h; exact ⟨rfl, rfl, rfl, Nat.le_refl _, fun _ _ => rfl⟩
set_option maxHeartbeats 1000000 in
theorem rdr_left (g : Nat) (r : Rdr) (w : World) (h : RdrAt 102 w g r) (hr : r.ok) :
    Calls Try.prog 85 #[.pointer (some ⟨g, 0, none⟩)] w fun e w' => e = .returned (.int .i64 r.left) ∧ QuietFrom w w' := by
  have c0 := h.c0
  have c1 := h.c1
  have c2 := h.c2
  obtain ⟨s, p, bad⟩ := r
  obtain ⟨h1, h2, h3⟩ := hr
  simp only at c0 c1 c2 h1 h2 h3
  clear h
  cases bad
  · have hw : IntKind.i64.wrap ((s.size : Int) - p) = (s.size : Int) - p := IntWalk.i64_in _ (by omega)
    go_enter Try.func85, Try.ntmps85
    go_wp2
    go_quiet (fail)
    go_wp2
    go_ret
    exact ⟨rfl, ⟨nq, rfl⟩⟩
  · go_enter Try.func85, Try.ntmps85
    go_wp2
    go_ret
    exact ⟨rfl, ⟨0, rfl⟩⟩
set_option maxHeartbeats 1000000 in
theorem rdr_end (g : Nat) (r : Rdr) (w : World) (h : RdrAt 102 w g r) (hr : r.ok) :
    Calls Try.prog 66 #[.pointer (some ⟨g, 0, none⟩)] w fun e w' => e = .returned (.int .i64 r.fin) ∧ QuietFrom w w' := by
  have c0 := h.c0
  have c1 := h.c1
  have c2 := h.c2
  obtain ⟨s, p, bad⟩ := r
  obtain ⟨h1, h2, h3⟩ := hr
  simp only at c0 c1 c2 h1 h2 h3
  clear h
  cases bad
  · by_cases hp : p < (s.size : Int)
    · have t1 : decide (p < (s.size : Int)) = true := decide_eq_true hp
      have HF : Hid ((⟨s, p, false⟩ : Rdr).fin = 10) := by show Rdr.fin _ = _; unfold Rdr.fin; rw [if_pos (.inr hp)]
      go_enter Try.func66, Try.ntmps66
      go_wp2
      go_quiet (fail)
      go_wp2
      go_ret
      exact ⟨ret_num HF.out.symm, ⟨nq, rfl⟩⟩
    · have t1 : decide (p < (s.size : Int)) = false := decide_eq_false hp
      have HF : Hid ((⟨s, p, false⟩ : Rdr).fin = 0) := by show Rdr.fin _ = _; unfold Rdr.fin; rw [if_neg (by simp; omega)]
      go_enter Try.func66, Try.ntmps66
      go_wp2
      go_quiet (fail)
      go_wp2
      go_ret
      exact ⟨ret_num HF.out.symm, ⟨nq, rfl⟩⟩
  · have HF : Hid ((⟨s, p, true⟩ : Rdr).fin = 10) := by show Rdr.fin _ = _; unfold Rdr.fin; rw [if_pos (.inl rfl)]
    go_enter Try.func66, Try.ntmps66
    go_wp2
    go_quiet (fail)
    go_wp2
    go_ret
    exact ⟨ret_num HF.out.symm, ⟨nq, rfl⟩⟩
theorem rdr_read (s : ByteArray) (w : World) :
    Calls Try.prog 59 #[.string s] w fun e w' => e = .returned (.pointer (some ⟨w.heap.size, 0, none⟩)) ∧ RdrAt 102 w' w.heap.size ⟨s, 0, false⟩ ∧ Below w.heap.size w w' := by
  go_enter Try.func59, Try.ntmps59
  go_wp2
  go_ret
  exact ⟨rfl, heap_alloc_new w _, (Below.refl _ _).alloc (Nat.le_refl _) _⟩
set_option maxHeartbeats 1000000 in
theorem rdr_text (g : Nat) (r : Rdr) (w : World) (h : RdrAt 102 w g r) (hr : r.ok) :
    Calls Try.prog 62 #[.pointer (some ⟨g, 0, none⟩)] w fun e w' => e = .returned (.string r.text.1) ∧ RdrAt 102 w' g r.text.2 ∧ But g w w' := by
  have hk := Rdr.num_ok hr
  go_enter Try.func62, Try.ntmps62
  go_wp2_with fail
  refine (rdr_num g r _ h hr).mono ?_
  rintro e w1 ⟨rfl, h1, hb1⟩
  have HS : Hid (r.text = if r.num.2.bad = true ∨ r.num.2.left < r.num.1 then (⟨#[]⟩, { r.num.2 with bad := true }) else
    (r.num.2.s.extract r.num.2.pos.toNat (r.num.2.pos + r.num.1).toNat, { r.num.2 with pos := r.num.2.pos + r.num.1 })) := by
    show r.text = _
    unfold Rdr.text
    rw [hk.2.2.2]
  generalize r.num = q at *
  obtain ⟨v, r1⟩ := q
  simp only at h1 hk
  have HK := Lib.hid hk
  clear hk
  go_wp2_with fail
  refine (rdr_left g r1 _ h1 HK.out.1).mono ?_
  rintro e w2 ⟨rfl, hq2⟩
  have h2 := hq2.rdr h1
  have hb2 := hb1.trans hq2.but
  have hleft : 0 ≤ r1.left ∧ r1.left ≤ 1000000000 := by
    unfold Rdr.left
    have := HK.out.1
    unfold Rdr.ok at this
    split <;> omega
  have hwl : IntKind.u64.wrap r1.left = r1.left := by rw [wrap_u64]; omega
  by_cases hle : v ≤ r1.left
  · have t1 : decide (v ≤ r1.left) = true := decide_eq_true hle
    cases hbd : r1.bad
    · have HL : Hid (r1.left = (r1.s.size : Int) - r1.pos) := by show r1.left = _; unfold Rdr.left; rw [if_neg (by rw [hbd]; decide)]
      have HS2 := Lib.hid (HS.out.trans (if_neg (show ¬ (r1.bad = true ∨ r1.left < v) by rw [hbd]; simp; omega)))
      have HB := Lib.hid hbd
      clear hbd
      go_wp2_with fail
      refine (rdr_ok g r1 true _ h2).mono ?_
      rintro e w3 ⟨rfl, rfl⟩
      rw [HB.out, show (false || !true) = false from rfl]
      have h3 := h2.set2 false
      rw [Rdr.eta_bad r1 false HB.out] at h3
      have hb3 := hb2.trans (But.set g 2 w2 (.bool false))
      generalize w2.setCell ⟨g, 2, none⟩ (.bool false) = w4 at *
      have c0 := h3.c0
      have c1 := h3.c1
      have hpos := HK.out.1.2.1
      have hpos2 := HK.out.1.2.2
      have hv0 := HK.out.2.1
      have hle2 : r1.pos + v ≤ (r1.s.size : Int) := by have := HL.out; omega
      have hbig := HK.out.1.1
      have hw1 : wrap64 v = v := IntWalk.wrap64_in v ⟨by omega, by omega⟩
      have hw2 : IntKind.i64.wrap v = v := IntWalk.i64_in v ⟨by omega, by omega⟩
      have hw3 : IntKind.i64.wrap (r1.pos + v) = r1.pos + v := IntWalk.i64_in _ ⟨by omega, by omega⟩
      have hn3 : 0 ≤ r1.pos + v := by omega
      have hsl := str_slice (P := Try.prog) (T := 9) Try.underlying9 r1.s r1.pos (r1.pos + v) r1.pos.toNat (r1.pos + v).toNat (by omega) (by omega) (by omega) (by omega)
      have H3 := Lib.hid h3
      clear h3 h h1 h2
      go_wp2_with fail
      go_quiet (fail)
      have h4 : RdrAt 102 (w4.drewN nq) g r1 := H3.out
      have hb4 : But g w (w4.drewN nq) := hb3.trans (But.drewN g nq _)
      generalize w4.drewN nq = w5 at *
      have d1 := h4.c1
      have f1 := h4.fz 1
      go_wp2
      go_ret
      rw [HS2.out]
      exact ⟨rfl, h4.set1 _, hb4.trans (But.set g 1 _ _)⟩
    · have HS2 := Lib.hid (HS.out.trans (if_pos (show (r1.bad = true ∨ r1.left < v) by rw [hbd]; simp)))
      have HB := Lib.hid hbd
      clear hbd
      go_wp2_with fail
      refine (rdr_ok g r1 true _ h2).mono ?_
      rintro e w3 ⟨rfl, rfl⟩
      rw [HB.out, show (true || !true) = true from rfl]
      go_wp2
      go_ret
      rw [HS2.out]
      exact ⟨rfl, h2.set2 true, hb2.trans (But.set g 2 _ _)⟩
  · have t1 : decide (v ≤ r1.left) = false := decide_eq_false hle
    have HS2 := Lib.hid (HS.out.trans (if_pos (show (r1.bad = true ∨ r1.left < v) from .inr (by omega))))
    go_wp2_with fail
    refine (rdr_ok g r1 false _ h2).mono ?_
    rintro e w3 ⟨rfl, rfl⟩
    rw [show (r1.bad || !false) = true by simp]
    go_wp2
    go_ret
    rw [HS2.out]
    exact ⟨rfl, h2.set2 true, hb2.trans (But.set g 2 _ _)⟩
theorem Rdr.small_ok {r : Rdr} (h : r.ok) (most : Int) : (r.small most).2.ok ∧ (r.small most).2.s = r.s := by
  have hk := Rdr.num_ok h
  unfold Rdr.small
  split
  · exact ⟨hk.1, hk.2.2.2⟩
  · exact ⟨hk.1, hk.2.2.2⟩
theorem Rdr.int_ok {r : Rdr} (h : r.ok) : r.int.2.ok ∧ r.int.2.s = r.s := ⟨(Rdr.num_ok h).1, (Rdr.num_ok h).2.2.2⟩
theorem Rdr.text_ok {r : Rdr} (h : r.ok) : r.text.2.ok ∧ r.text.2.s = r.s := by
  have hk := Rdr.num_ok h
  unfold Rdr.text
  split
  · exact ⟨hk.1, hk.2.2.2⟩
  · rename_i hc
    refine ⟨⟨hk.1.1, ?_, ?_⟩, hk.2.2.2⟩
    · have := hk.1.2.1; simp only; omega
    · have hb : ¬ r.num.2.bad = true := fun x => hc (.inl x)
      have : ¬ r.num.2.left < r.num.1 := fun x => hc (.inr x)
      unfold Rdr.left at this
      rw [if_neg hb] at this
      simp only; omega
end
end Go.Proofs.Ytkonflbgkaflaaa
namespace Go.Proofs.Ytkonflbgkaflaaa
section
open Go.RowKit
set_option maxRecDepth 100000
set_option linter.unusedVariables false
set_option linter.unusedSimpArgs false
theorem getL_all (f i : Nat) (l : List UInt8) (h : ∀ j b, j < i → l[j]? = some b → 128 ≤ b.toNat) :
    (f ≤ i ∨ l.length ≤ i → getL f l = none) ∧ (∀ b, i < f → l[i]? = some b → b.toNat < 128 → ∃ V, getL f l = some (V, i + 1)) := by
  induction f generalizing i l with
  | zero => exact ⟨fun _ => rfl, fun b hb => by omega⟩
  | succ f ih =>
    cases l with
    | nil => exact ⟨fun _ => rfl, fun b _ hb => by simp at hb⟩
    | cons x r =>
      cases i with
      | zero =>
        refine ⟨fun hc => by simp at hc, fun b _ hb h1 => ?_⟩
        simp at hb
        subst hb
        exact ⟨(x.toNat : Int), by rw [getL_cons, if_pos (by omega)]⟩
      | succ i =>
        have hx := h 0 x (by omega) rfl
        obtain ⟨g1, g2⟩ := ih i r (fun j b hj hb => h (j + 1) b (by omega) (by simpa using hb))
        refine ⟨fun hc => ?_, fun b hi hb h1 => ?_⟩
        · rw [getL_cons, if_neg (by omega), g1 (by simp at hc; omega)]; rfl
        · obtain ⟨V, hV⟩ := g2 b (by omega) (by simpa using hb) h1
          rw [getL_cons, if_neg (by omega), hV]
          exact ⟨_, rfl⟩
/-- The bytes ahead of place a + i go on. -/
def goOn (s : ByteArray) (a i : Nat) : Prop := ∀ j b, j < i → (s.data.toList.drop a)[j]? = some b → 128 ≤ b.toNat
theorem goOn_zero (s : ByteArray) (a : Nat) : goOn s a 0 := fun j b hj => by omega
theorem at_drop (s : ByteArray) (a i : Nat) (h : a + i < s.size) : (s.data.toList.drop a)[i]? = some s[a + i] := by
  rw [List.getElem?_drop, List.getElem?_eq_getElem (by simpa using h)]; rfl
theorem goOn_succ {s : ByteArray} {a i : Nat} (h : goOn s a i) (hlt : a + i < s.size) (hb : 128 ≤ s[a + i].toNat) : goOn s a (i + 1) := by
  intro j b hj hg
  rcases Nat.lt_or_ge j i with h1 | h1
  · exact h j b h1 hg
  · have : j = i := by omega
    subst this
    rw [at_drop s a j hlt] at hg
    cases hg
    exact hb
theorem goOn_end {s : ByteArray} {a i : Nat} (h : goOn s a i) (he : s.size ≤ a + i ∨ 10 ≤ i) : vget s a = (0, 0, 10) := by
  apply vget_fail
  refine (getL_all 10 i _ h).1 ?_
  rcases he with he | he
  · right; simp; omega
  · left; exact he
theorem goOn_last {s : ByteArray} {a i : Nat} (h : goOn s a i) (hi : i ≤ 9) (hlt : a + i < s.size) (hb : s[a + i].toNat < 128) :
    getL 10 (s.data.toList.drop a) = some (digV ((s.data.toList.drop a).take (i + 1)), i + 1) := by
  obtain ⟨V, hV⟩ := (getL_all 10 i _ h).2 _ (by omega) (at_drop s a i hlt) hb
  rw [hV, ← getL_digV _ _ _ _ hV]
theorem take_extract (s : ByteArray) (a n : Nat) : (s.data.toList.drop a).take n = (s.extract a (a + n)).data.toList := by
  simp [ByteArray.data_extract, List.extract_eq_take_drop]
/-- What the reference's last look tells. -/
theorem rget_good {s : ByteArray} {a i : Nat} {v : Int} (h : goOn s a i) (hi : i ≤ 9) (hlt : a + i < s.size) (hb : s[a + i].toNat < 128)
    (hv : v = digV ((s.data.toList.drop a).take (i + 1)) % 18446744073709551616) (he : (vput v).toList = (s.extract a (a + (i + 1))).toList) : vget s a = (v, (a : Int) + (i + 1), 0) := by
  have hl := goOn_last h hi hlt hb
  rw [ByteArray.toList_eq, ByteArray.toList_eq, vput_data, ← take_extract, hv] at he
  have hc := (put_iff _ _ _ hl).1 he
  unfold vget
  rw [if_neg (by omega)]
  simp only [Int.toNat_natCast, hl]
  rw [if_pos hc, hv, Int.emod_eq_of_lt (digV_nn _) hc.1]
  simp
theorem rget_bad {s : ByteArray} {a i : Nat} {v : Int} (h : goOn s a i) (hi : i ≤ 9) (hlt : a + i < s.size) (hb : s[a + i].toNat < 128)
    (hv : v = digV ((s.data.toList.drop a).take (i + 1)) % 18446744073709551616) (he : ¬ (vput v).toList = (s.extract a (a + (i + 1))).toList) : vget s a = (0, 0, 10) := by
  have hl := goOn_last h hi hlt hb
  rw [ByteArray.toList_eq, ByteArray.toList_eq, vput_data, ← take_extract, hv] at he
  have hc : ¬ _ := fun x => he ((put_iff _ _ _ hl).2 x)
  unfold vget
  rw [if_neg (by omega)]
  simp only [Int.toNat_natCast, hl]
  rw [if_neg hc]

theorem digV_step (s : ByteArray) (a i j : Nat) (hj : j ≤ i) (hi : a + i < s.size) :
    digV (((s.data.toList.drop a).take (i + 1)).drop j) = (s[a + j].toNat : Int) % 128 + 128 * digV (((s.data.toList.drop a).take (i + 1)).drop (j + 1)) := by
  have hl : j < ((s.data.toList.drop a).take (i + 1)).length := by
    have : s.data.toList.length = s.size := by simp
    rw [List.length_take, List.length_drop]; omega
  rw [List.drop_eq_getElem_cons hl, digV]
  have e : ((s.data.toList.drop a).take (i + 1))[j] = s[a + j] := by
    rw [List.getElem_take, List.getElem_drop]; rfl
  rw [e]
theorem digV_end (s : ByteArray) (a i : Nat) : digV (((s.data.toList.drop a).take (i + 1)).drop (i + 1)) = 0 := by
  rw [List.drop_of_length_le (by simp; omega)]; rfl
theorem rget_out (s : ByteArray) (at' : Int) (w : World) (h : at' < 0) :
    Calls Try.prog 95 #[.string s, .int .i64 at'] w fun e w' => e = .returned (get3 (vget s at')) ∧ Below w.heap.size w w' := by
  have HV := Lib.hid (vget_out (s := s) (.inl h))
  go_enter Try.func95, Try.ntmps95
  go_wp2
  go_ret3
  exact ⟨ret_get3 HV.out, Below.refl _ _⟩
set_option maxHeartbeats 1000000 in
set_option maxRecDepth 100000 in
theorem rget_in (s : ByteArray) (a : Nat) (w : World) (hs : s.size ≤ 9223372036854775807) (ha : a ≤ 9223372036854775807) :
    Calls Try.prog 95 #[.string s, .int .i64 (a : Int)] w fun e w' => e = .returned (get3 (vget s a)) ∧ Below w.heap.size w w' := by
  have hb' : decide ((a : Int) < 0) = false := decide_eq_false (by omega)
  go_enter Try.func95, Try.ntmps95
  go_wp2
  go_loop [7] (fun n => ∃ (i : Nat), i ≤ 10 ∧ (1 ≤ i → a + i ≤ s.size) ∧ n = .int .i64 (i + 1) ∧ goOn s a i) (fun n => 12 - (intOf n).toNat)
  case atStart => exact ⟨0, by omega, fun h => absurd h (by omega), rfl, goOn_zero s a⟩
  case round =>
    obtain ⟨i, hi, hat, rfl, hr⟩ := hrel
    have HR := Lib.hid hr
    clear hr
    by_cases h10 : i = 10
    · have t1 : decide ((i : Int) + 1 ≤ 10) = false := decide_eq_false (by omega)
      have hge : 10 ≤ i := by omega
      clear h10
      go_wp2
      go_ret3
      exact ⟨ret_get3 (goOn_end HR.out (.inr hge)), Below.refl _ _⟩
    · have t1 : decide ((i : Int) + 1 ≤ 10) = true := decide_eq_true (by omega)
      by_cases hend : s.size ≤ a + i
      · have t2 : decide ((s.size : Int) - (i + 1) < a) = true := decide_eq_true (by omega)
        go_wp2
        go_ret3
        exact ⟨ret_get3 (goOn_end HR.out (.inl hend)), Below.refl _ _⟩
      · have t2 : decide ((s.size : Int) - (i + 1) < a) = false := decide_eq_false (by omega)
        have hlt : a + i < s.size := by omega
        have hidx : (a : Int) + (i + 1) - 1 = ((a + i : Nat) : Int) := by omega
        obtain ⟨b, hb⟩ : ∃ b : Int, ((s[a + i].toNat : Nat) : Int) = b := ⟨_, rfl⟩
        have hb0 : 0 ≤ b := by omega
        have hb1 : b < 256 := by have := s[a + i].toNat_lt; omega
        by_cases h128 : 128 ≤ b
        · have t3 : decide (128 ≤ b) = true := decide_eq_true h128
          have HG := Lib.hid (goOn_succ HR.out hlt (by omega))
          go_wp2
          go_round
          case rel => exact ⟨i + 1, by omega, fun _ => by omega, by go_num, HG.out⟩
          case measure => simp [intOf]; omega
        · have t3 : decide (128 ≤ b) = false := decide_eq_false h128
          have hbl : s[a + i].toNat < 128 := by omega
          have HB := Lib.hid hb
          clear hb
          go_wp2
          go_loop [8, 9] (fun v k => ∃ (j : Nat) (x : Int), j ≤ i + 1 ∧ 0 ≤ x ∧ x < 18446744073709551616 ∧ v = .int .u64 x ∧ k = .int .i64 ((j : Int) - 1) ∧ x = digV (((s.data.toList.drop a).take (i + 1)).drop j) % 18446744073709551616) (fun _ k => (intOf k + 1).toNat)
          case atStart => exact ⟨i + 1, 0, by omega, by omega, by omega, rfl, by go_num, by rw [digV_end]; rfl⟩
          case round =>
            obtain ⟨j, x, hj, hx0, hx1, rfl, rfl, hx⟩ := hrel
            have HX := Lib.hid hx
            clear hx
            cases j with
            | zero =>
              have hx := HX.out
              rw [List.drop_zero] at hx
              by_cases he : (vput x).toList = (s.extract a (a + (i + 1))).toList
              · have HV := Lib.hid (rget_good HR.out (by omega) hlt hbl hx he)
                have t5 : ((vput x).toList == (s.extract a (a + (i + 1))).toList) = true := by simpa using he
                clear hx he
                have hsl := str_slice (P := Try.prog) (T := 9) Try.underlying9 s (a : Int) ((a : Int) + ((i : Int) + 1)) a (a + (i + 1)) rfl (by omega) (by omega) (by omega)
                have hwr : IntKind.i64.wrap ((a : Int) + ((i : Int) + 1)) = (a : Int) + ((i : Int) + 1) := IntWalk.i64_in _ (by omega)
                have hnn : 0 ≤ (a : Int) + ((i : Int) + 1) := by omega
                have hnt : ((a : Int) + ((i : Int) + 1)).toNat = a + (i + 1) := by omega
                go_wp2
                go_region_with (go_at_call 40; refine (rput_any x _ hx0 hx1).mono ?_; rintro e w' ⟨rfl, hbw⟩)
                go_wp2
                go_ret3
                exact ⟨ret_get3 HV.out, below_from_drew hbw⟩
              · have HV := Lib.hid (rget_bad HR.out (by omega) hlt hbl hx he)
                have t5 : ((vput x).toList == (s.extract a (a + (i + 1))).toList) = false := by simpa using he
                clear hx he
                have hsl := str_slice (P := Try.prog) (T := 9) Try.underlying9 s (a : Int) ((a : Int) + ((i : Int) + 1)) a (a + (i + 1)) rfl (by omega) (by omega) (by omega)
                have hwr : IntKind.i64.wrap ((a : Int) + ((i : Int) + 1)) = (a : Int) + ((i : Int) + 1) := IntWalk.i64_in _ (by omega)
                have hnn : 0 ≤ (a : Int) + ((i : Int) + 1) := by omega
                have hnt : ((a : Int) + ((i : Int) + 1)).toNat = a + (i + 1) := by omega
                go_wp2
                go_region_with (go_at_call 40; refine (rput_any x _ hx0 hx1).mono ?_; rintro e w' ⟨rfl, hbw⟩)
                go_wp2
                go_ret3
                exact ⟨ret_get3 HV.out, below_from_drew hbw⟩
            | succ j =>
              have hjl : a + j < s.size := by omega
              have hidx2 : (a : Int) + ((j : Int) + 1 - 1) = ((a + j : Nat) : Int) := by omega
              obtain ⟨d, hd⟩ : ∃ d : Int, ((s[a + j].toNat : Nat) : Int) = d := ⟨_, rfl⟩
              have hd0 : 0 ≤ d := by omega
              have hd1 : d < 256 := by have := s[a + j].toNat_lt; omega
              have HD := Lib.hid (And.intro hd (digV_step s a i j (by omega) hlt))
              go_wp2
              go_round
              case rel =>
                refine ⟨j, _, by omega, ?_, ?_, rfl, by go_num, ?_⟩
                · rw [wrap_u64]; omega
                · rw [wrap_u64]; omega
                · rw [HD.out.2, HD.out.1, HX.out, wrap_u64, wrap_u64]
                  generalize digV _ = q
                  omega
              case measure => simp [intOf]
theorem rget_any (s : ByteArray) (at' : Int) (w : World) (hs : s.size ≤ 9223372036854775807) (h1 : at' ≤ 9223372036854775807) :
    Calls Try.prog 95 #[.string s, .int .i64 at'] w fun e w' => e = .returned (get3 (vget s at')) ∧ Below w.heap.size w w' := by
  by_cases h : at' < 0
  · exact rget_out s at' w h
  · obtain ⟨a, rfl⟩ := Int.eq_ofNat_of_zero_le (show 0 ≤ at' by omega)
    exact rget_in s a w hs (by omega)
end
end Go.Proofs.Ytkonflbgkaflaaa
namespace Go.Proofs.Ytkonflbgkaflaaa
section
open Go.RowKit
set_option maxRecDepth 100000
set_option linter.unusedVariables false
set_option linter.unusedSimpArgs false
set_option maxHeartbeats 1000000 in
theorem rrdr_end (g : Nat) (r : Rdr) (w : World) (h : RdrAt 91 w g r) (hr : r.ok) :
    Calls Try.prog 74 #[.pointer (some ⟨g, 0, none⟩)] w fun e w' => e = .returned (.int .i64 r.fin) ∧ QuietFrom w w' := by
  have c0 := h.c0
  have c1 := h.c1
  have c2 := h.c2
  obtain ⟨s, p, bad⟩ := r
  obtain ⟨h1, h2, h3⟩ := hr
  simp only at c0 c1 c2 h1 h2 h3
  clear h
  cases bad
  · by_cases hp : p < (s.size : Int)
    · have t1 : decide (p < (s.size : Int)) = true := decide_eq_true hp
      have HF : Hid ((⟨s, p, false⟩ : Rdr).fin = 10) := by show Rdr.fin _ = _; unfold Rdr.fin; rw [if_pos (.inr hp)]
      go_enter Try.func74, Try.ntmps74
      go_wp2
      go_quiet (fail)
      go_wp2
      go_ret
      exact ⟨ret_num HF.out.symm, ⟨nq, rfl⟩⟩
    · have t1 : decide (p < (s.size : Int)) = false := decide_eq_false hp
      have HF : Hid ((⟨s, p, false⟩ : Rdr).fin = 0) := by show Rdr.fin _ = _; unfold Rdr.fin; rw [if_neg (by simp; omega)]
      go_enter Try.func74, Try.ntmps74
      go_wp2
      go_quiet (fail)
      go_wp2
      go_ret
      exact ⟨ret_num HF.out.symm, ⟨nq, rfl⟩⟩
  · have HF : Hid ((⟨s, p, true⟩ : Rdr).fin = 10) := by show Rdr.fin _ = _; unfold Rdr.fin; rw [if_pos (.inl rfl)]
    go_enter Try.func74, Try.ntmps74
    go_wp2
    go_quiet (fail)
    go_wp2
    go_ret
    exact ⟨ret_num HF.out.symm, ⟨nq, rfl⟩⟩
theorem rget_t (s : ByteArray) (at' : Int) (w : World) (hs : s.size ≤ 1000000000) (h1 : at' ≤ s.size) :
    Calls Try.prog 95 #[.string s, .int .i64 at'] w fun e w' => e = .returned (.tuple #[.int .u64 (vget s at').1, .int .i64 (vget s at').2.1, .int .i64 (vget s at').2.2]) ∧ Below w.heap.size w w' :=
  rget_any s at' w (by omega) (by omega)
theorem RdrAt.below {T : TypeId} {g : Nat} {r : Rdr} {w w' : World} (k : RdrAt T w g r) (h : Below w.heap.size w w') : RdrAt T w' g r := by
  unfold RdrAt
  rw [h.block g k.lt]
  exact k
set_option maxHeartbeats 1000000 in
theorem rrdr_num (g : Nat) (r : Rdr) (w : World) (h : RdrAt 91 w g r) (hr : r.ok) :
    Calls Try.prog 89 #[.pointer (some ⟨g, 0, none⟩)] w fun e w' => e = .returned (.int .u64 r.num.1) ∧ RdrAt 91 w' g r.num.2 ∧ But g w w' := by
  have c0 := h.c0
  have c1 := h.c1
  have hsz := hr.1
  have hp1 := hr.2.2
  have HN : Hid (r.num = if r.bad = true then (0, r) else if (vget r.s r.pos).2.2 = 0 then ((vget r.s r.pos).1, { r with pos := (vget r.s r.pos).2.1 }) else (0, { r with bad := true })) := rfl
  go_enter Try.func89, Try.ntmps89
  go_wp2
  go_region_with (go_at_call 95; refine (rget_t _ _ _ hsz hp1).mono ?_; rintro e w' ⟨rfl, hbw⟩)
  all_goals
    have h1 : RdrAt 91 w' g r := (show RdrAt 91 w.drew g r from h).below hbw
    have hb1 : But g w w' := (show But g w w.drew from ⟨rfl, rfl, rfl, Nat.le_refl _, fun _ _ _ => rfl⟩).trans (But.of_below hbw)
    have d2 := h1.c2
    have f1 := h1.fz 1
    have f2 := h1.fz 2
    have H1 := Lib.hid h1
    clear h1 c0 c1 hbw
    cases hbd : r.bad
    · have HN2 := Lib.hid (HN.out.trans (if_neg (by rw [hbd]; decide)))
      rw [hbd] at d2
      by_cases he : (vget r.s r.pos).2.2 = 0
      · have t1 : ((vget r.s r.pos).2.2 != 0) = false := by simpa using he
        have HN3 := Lib.hid (HN2.out.trans (if_pos he))
        generalize vget r.s r.pos = q at *
        obtain ⟨v, nx, er⟩ := q
        simp only at he t1
        subst he
        clear HN HN2 t1 hbd
        have d1 := H1.out.c1
        go_wp2
        go_ret
        rw [HN3.out]
        exact ⟨rfl, H1.out.set1 nx, hb1.trans (But.set g 1 _ _)⟩
      · have t1 : ((vget r.s r.pos).2.2 != 0) = true := by simpa using he
        have HN3 := Lib.hid (HN2.out.trans (if_neg he))
        generalize vget r.s r.pos = q at *
        obtain ⟨v, nx, er⟩ := q
        simp only at he t1
        clear HN HN2 he hbd
        go_wp2
        go_ret
        rw [HN3.out]
        exact ⟨rfl, H1.out.set2 true, hb1.trans (But.set g 2 _ _)⟩
    · have HN2 := Lib.hid (HN.out.trans (if_pos hbd))
      have hs2 := H1.out.set2 true
      rw [Rdr.eta_bad r true hbd] at hs2
      rw [hbd] at d2
      clear HN hbd
      go_wp2
      go_ret
      rw [HN2.out]
      exact ⟨rfl, hs2, hb1.trans (But.set g 2 _ _)⟩
theorem rrdr_int (g : Nat) (r : Rdr) (w : World) (h : RdrAt 91 w g r) (hr : r.ok) :
    Calls Try.prog 71 #[.pointer (some ⟨g, 0, none⟩)] w fun e w' => e = .returned (.int .i64 r.int.1) ∧ RdrAt 91 w' g r.int.2 ∧ But g w w' := by
  have hk := Rdr.num_ok hr
  go_enter Try.func71, Try.ntmps71
  go_wp2_with fail
  refine (rrdr_num g r _ h hr).mono ?_
  rintro e w1 ⟨rfl, h1, hb1⟩
  go_wp2_with fail
  refine (rzag_any _ _ hk.2.1 hk.2.2.1).mono ?_
  rintro e w2 ⟨rfl, rfl⟩
  go_wp2
  go_ret
  exact ⟨rfl, h1, hb1⟩
set_option maxHeartbeats 1000000 in
theorem rrdr_small (g : Nat) (r : Rdr) (most : Int) (w : World) (h : RdrAt 91 w g r) (hr : r.ok) (hm0 : -9223372036854775808 ≤ most) (hm1 : most ≤ 9223372036854775807) :
    Calls Try.prog 69 #[.pointer (some ⟨g, 0, none⟩), .int .i64 most] w fun e w' => e = .returned (.int .i64 (r.small most).1) ∧ RdrAt 91 w' g (r.small most).2 ∧ But g w w' := by
  have hk := Rdr.num_ok hr
  go_enter Try.func69, Try.ntmps69
  go_wp2_with fail
  refine (rrdr_num g r _ h hr).mono ?_
  rintro e w1 ⟨rfl, h1, hb1⟩
  have HS : Hid (r.small most = if r.num.2.bad = true ∨ most < 0 ∨ most < r.num.1 then (0, { r.num.2 with bad := true }) else (r.num.1, r.num.2)) := rfl
  generalize r.num = q at *
  obtain ⟨v, r1⟩ := q
  simp only at h1 hk
  have d2 := h1.c2
  have f2 := h1.fz 2
  have H1 := Lib.hid h1
  have HK := Lib.hid hk
  have hv0 := hk.2.1
  clear h1 hk h
  by_cases hneg : most < 0
  · have t1 : decide (most < 0) = true := decide_eq_true hneg
    have HS2 := Lib.hid (HS.out.trans (if_pos (.inr (.inl hneg))))
    go_wp2
    go_ret
    rw [HS2.out]
    exact ⟨rfl, H1.out.set2 true, hb1.trans (But.set g 2 _ _)⟩
  · have t1 : decide (most < 0) = false := decide_eq_false hneg
    have hw : IntKind.u64.wrap most = most := by rw [wrap_u64]; omega
    by_cases hle : v ≤ most
    · have t2 : decide (most < v) = false := decide_eq_false (by omega)
      cases hbd : r1.bad
      · have HS2 := Lib.hid (HS.out.trans (if_neg (show ¬ (r1.bad = true ∨ most < 0 ∨ most < v) by rw [hbd]; simp; omega)))
        rw [hbd] at d2
        have hiw : wrap64 v = v := IntWalk.wrap64_in v ⟨by omega, by omega⟩
        clear hbd
        go_wp2
        go_ret
        rw [HS2.out]
        exact ⟨rfl, H1.out, hb1⟩
      · have HS2 := Lib.hid (HS.out.trans (if_pos (show (r1.bad = true ∨ most < 0 ∨ most < v) by rw [hbd]; simp)))
        have h3 := H1.out
        rw [← Rdr.eta_bad r1 true hbd] at h3
        rw [hbd] at d2
        clear hbd
        go_wp2
        go_ret
        rw [HS2.out]
        exact ⟨rfl, h3, hb1⟩
    · have t2 : decide (most < v) = true := decide_eq_true (by omega)
      have HS2 := Lib.hid (HS.out.trans (if_pos (.inr (.inr (by omega)))))
      go_wp2
      go_ret
      rw [HS2.out]
      exact ⟨rfl, H1.out.set2 true, hb1.trans (But.set g 2 _ _)⟩
end
end Go.Proofs.Ytkonflbgkaflaaa
namespace Go.Proofs.Ytkonflbgkaflaaa
section
open Go.RowKit
set_option maxRecDepth 100000
set_option linter.unusedVariables false
set_option linter.unusedSimpArgs false
theorem vput_size (n : Int) : (vput n).size = (putI 9 n).length := by simp [vput, strOfNums_size]
theorem vput_pos (n : Int) : 1 ≤ (vput n).size := by rw [vput_size]; exact putI_pos 9 n
theorem vput_le (n : Int) : (vput n).size ≤ 10 := by rw [vput_size]; exact putI_le 9 n
theorem vget_put (pre post : ByteArray) (n : Int) (h0 : 0 ≤ n) (h1 : n < 18446744073709551616) :
    vget (pre ++ vput n ++ post) (pre.size : Int) = (n, (pre.size : Int) + ((vput n).size : Int), 0) := by
  have hp := vput_pos n
  have hs : (pre ++ vput n ++ post).size = pre.size + (vput n).size + post.size := by simp [ByteArray.size_append]
  unfold vget
  rw [if_neg (by rw [hs]; omega), Int.toNat_natCast]
  have hd : (pre ++ vput n ++ post).data.toList.drop pre.size = putB 9 n ++ post.data.toList := by
    rw [ByteArray.data_append, ByteArray.data_append, Array.toList_append, Array.toList_append, vput_data, List.append_assoc]
    exact List.drop_left' (by rw [Array.length_toList]; rfl)
  rw [hd, getL_put 9 n _ h0 (by simp only [Int.reducePow]; omega)]
  simp only
  rw [if_pos ⟨h1, putI_canon 9 n h0⟩, vput_size]
theorem vget_put0 (post : ByteArray) (n : Int) (h0 : 0 ≤ n) (h1 : n < 18446744073709551616) : vget (vput n ++ post) 0 = (n, ((vput n).size : Int), 0) := by
  have h := vget_put ByteArray.empty post n h0 h1
  have e : ByteArray.empty ++ vput n = vput n := by apply ByteArray.ext; simp [ByteArray.data_append]
  rw [e] at h
  simpa using h
theorem append_empty_r (a : ByteArray) : a ++ ByteArray.empty = a := by apply ByteArray.ext; simp [ByteArray.data_append]
theorem vput_inj {a b : Int} (ha0 : 0 ≤ a) (ha1 : a < 18446744073709551616) (hb0 : 0 ≤ b) (hb1 : b < 18446744073709551616) (h : vput a = vput b) : a = b := by
  have x := vget_put0 ByteArray.empty a ha0 ha1
  have y := vget_put0 ByteArray.empty b hb0 hb1
  rw [h, y] at x
  simp only [Prod.mk.injEq] at x
  exact x.1.symm
theorem vput_eq_iff {a b : Int} (ha0 : 0 ≤ a) (ha1 : a < 18446744073709551616) (hb0 : 0 ≤ b) (hb1 : b < 18446744073709551616) : ((vput a).toList == (vput b).toList) = (a == b) := by
  by_cases h : a = b
  · subst h; simp
  · have : ¬ (vput a).toList = (vput b).toList := fun e => h (vput_inj ha0 ha1 hb0 hb1 (by
      rw [ByteArray.toList_eq, ByteArray.toList_eq] at e
      exact ByteArray.ext (Array.ext' e)))
    rw [beq_eq_false_iff_ne.2 this, beq_eq_false_iff_ne.2 h]
theorem putI_mono (f : Nat) (a b : Int) (h : a ≤ b) : (putI f a).length ≤ (putI f b).length := by
  induction f generalizing a b with
  | zero => simp [putI]
  | succ f ih =>
    by_cases ha : a < 128
    · rw [putI_small _ a ha]; exact putI_pos _ _
    · rw [putI_big f a ha, putI_big f b (by omega)]
      have := ih (a / 128) (b / 128) (by omega)
      simp; omega
theorem vput_mono {a b : Int} (h : a ≤ b) : (vput a).size ≤ (vput b).size := by rw [vput_size, vput_size]; exact putI_mono 9 a b h
end
end Go.Proofs.Ytkonflbgkaflaaa
