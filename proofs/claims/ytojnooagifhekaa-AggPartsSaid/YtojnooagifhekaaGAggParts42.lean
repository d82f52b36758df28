/- Bytes and Read of both packages. vint.All: some numbers with signs, one behind the other. -/
import Derived.Test.YtojnooagifhekaaGAggParts18
import Derived.Test.YtojnooagifhekaaGAggParts41
import Derived.Test.YtojnooagifhekaaGAggParts15
import Derived.Test.YtojnooagifhekaaGAggParts39
import Derived.Test.YtojnooagifhekaaGAggParts1
import Derived.Test.YtojnooagifhekaaGAggParts8
import Derived.Test.YtojnooagifhekaaGAggParts9
import Derived.Test.YtojnooagifhekaaGAggParts29
namespace Go.Proofs.Ytojnooagifhekaa
section
open Go.RowKit
set_option maxRecDepth 100000
set_option linter.unusedVariables false
set_option linter.unusedSimpArgs false
/-- A number's 16 bytes. -/
def bytesW (v : Int) : ByteArray := strOfNums (arrF (dg v))
def byF (s : ByteArray) (j : Nat) : Int := (bl s).getD j 0
def readW (s : ByteArray) : Wd × Int := if s.size = 16 then (wd (lowS (byF s) 16), 0) else (⟨0, 0⟩, 10)
theorem arrF_mem (f : Nat → Int) (h : ∀ j, 0 ≤ f j ∧ f j ≤ 255) : ∀ x ∈ arrF f, 0 ≤ x ∧ x < 256 := by
  intro x hx
  unfold arrF at hx
  obtain ⟨j, -, rfl⟩ := List.mem_map.1 hx
  have := h j
  omega
theorem bl_bytesW (v : Int) : bl (bytesW v) = arrF (dg v) := bl_strOfNums _ (arrF_mem _ (dg_range v))
theorem bytesW_size (v : Int) : (bytesW v).size = 16 := by rw [← bl_length, bl_bytesW, arrF_length]
theorem byF_range (s : ByteArray) (j : Nat) : 0 ≤ byF s j ∧ byF s j ≤ 255 := by
  unfold byF
  rw [List.getD_eq_getElem?_getD]
  unfold bl
  rw [List.getElem?_map]
  cases s.data.toList[j]? with
  | none => simp
  | some b => simp; have := b.toNat_lt; omega
theorem byF_bytesW (v : Int) (j : Nat) (hj : j < 16) : byF (bytesW v) j = dg v j := by unfold byF; rw [bl_bytesW, arrF_get _ _ hj]
theorem read_bytes (a : Wd) (h : a.ok) : readW (bytesW a.v) = (a, 0) := by
  unfold readW
  rw [if_pos (bytesW_size _), lowS_congr (byF_bytesW a.v), lowS_16, wd_mod16, wd_v a h]
theorem lowS_lt (f : Nat → Int) (h : ∀ j, 0 ≤ f j ∧ f j ≤ 255) : ∀ k, 0 ≤ lowS f k ∧ lowS f k < 256 ^ k
  | 0 => by simp [lowS]
  | k + 1 => by
    have h1 := lowS_lt f h k
    have h2 := h (15 - k)
    have hp := p256 k
    simp only [lowS]
    rw [p256s]
    have a1 : f (15 - k) * 256 ^ k ≤ 255 * 256 ^ k := Int.mul_le_mul_of_nonneg_right h2.2 (Int.le_of_lt hp)
    have a2 : 0 ≤ f (15 - k) * 256 ^ k := Int.mul_nonneg h2.1 (Int.le_of_lt hp)
    generalize f (15 - k) * 256 ^ k = z at *
    omega
theorem dg_low (f : Nat → Int) (h : ∀ j, 0 ≤ f j ∧ f j ≤ 255) (j : Nat) (hj : j < 16) : dg (lowS f 16) j = f j := by
  have e := carry_digit f (15 - j) (by omega)
  rw [show 15 - (15 - j) = j by omega] at e
  rw [← e, ← carry_step, show 15 - (15 - j) = j by omega]
  have := lowS_lt f h (15 - j)
  rw [Int.ediv_eq_zero_of_lt this.1 this.2]
  have := h j
  omega
theorem bytes_read (s : ByteArray) (h : s.size = 16) : bytesW (readW s).1.v = s := by
  unfold readW
  rw [if_pos h]
  simp only
  apply bl_inj
  rw [bl_bytesW]
  apply List.ext_getElem
  · rw [arrF_length, bl_length, h]
  · intro j h1 h2
    rw [arrF_length] at h1
    have e : (arrF (dg (wd (lowS (byF s) 16)).v)).getD j 0 = (bl s).getD j 0 := by
      rw [arrF_get _ _ h1, dg_congr (v_wd_mod _), dg_low _ (byF_range s) _ h1]
      rfl
    rw [List.getD_eq_getElem?_getD, List.getD_eq_getElem?_getD, List.getElem?_eq_getElem (by rw [arrF_length]; exact h1), List.getElem?_eq_getElem h2] at e
    exact e
set_option maxHeartbeats 2000000 in
theorem rbytes_any (a : Wd) (w : World) (ha : a.ok) : Calls Try.prog 63 #[a.val] w fun e w' => e = .returned (.string (bytesW a.v)) ∧ Below w.heap.size w w' := by
  obtain ⟨V, HV⟩ : ∃ V, Hid (V = bytesW a.v) := ⟨_, rfl⟩
  rw [← HV.out]
  have C1 := fun wx => digits_any a wx ha
  have hF := fun j => dg_range a.v j
  unfold bytesW at HV
  generalize dg a.v = F at *
  obtain ⟨h, l⟩ := a
  unfold Wd.val at *
  simp only at C1 ⊢
  have hz : Below w.heap.size w (w.alloc (.cells #[.int .i64 h, .int .u64 l] 24)) := below_al (Below.refl _ _)
  go_enter Try.func63, Try.ntmps63
  go_wp2_with fail
  refine (C1 _).mono ?_
  rintro e w1 ⟨rfl, d1⟩
  have I1 : Rx w [] [] w1 := Rx.below ⟨by simp, by simp, hz⟩ d1
  clear hz d1
  have I2 := I1.row F (cellsK .i64 (arrF zerosF))
  have hg := I1.lt
  simp at hg
  have hl2 := I2.hd.lt
  rw [arrF_zero] at I2 hl2
  unfold rowF
  go_upto_region 2 with (refine wpList_store_row rfl 88 _ _ rfl w1.heap.size (cellsK .i64 (arrF F)) rfl rfl 88 (cellsK .i64 (arrF zerosF)) (BlkK.new .i64 88 w1 (arrF zerosF)) (size_16 _) (by rw [cellsK_size, cellsK_size, arrF_length, arrF_length]) (cellsK_one _ _) ?_)
  generalize (w1.alloc _).setRow _ _ = w2 at *
  generalize w1.heap.size = gx at *
  have INIT := Lib.hid I2
  clear I1 I2
  go_wp2_with fail
  go_loopw [4, 5] (fun p i wr => ∃ (k : Nat) (a2 : Option Addr) (cap : Nat), k ≤ 16 ∧ i = .int .i64 k ∧ p = .slice a2 k cap ∧ AppI wr (gx + 1) a2 k cap ((arrF F).take k) ∧ Rx w [] [(gx, F)] wr) (fun _ i _ => 17 - (intOf i).toNat)
  case atStart => exact ⟨0, none, 0, by omega, rfl, rfl, app_nil _ _, INIT.out⟩
  case round =>
    obtain ⟨k, a2, cap, hk, rfl, rfl, hA, hI⟩ := hrel
    have I := Lib.hid hI
    have A := Lib.hid hA
    have hcap : cap ≤ 9223372036854775807 := hA.max
    have hle := hA.le
    clear hI hA
    by_cases hlt : k < 16
    · have t1 : decide ((k : Int) < 16) = true := decide_eq_true (by omega)
      have i1 : (0 : Int) ≤ (k : Int) := by omega
      have i2 : (k : Int) < 16 := by omega
      have d1 := I.out.hd.cell k (by rw [arrF_length]; omega)
      rw [arrF_get _ _ (by omega)] at d1
      have r1 := hF k
      have HT : Hid ((arrF F).take (k + 1) = (arrF F).take k ++ [F k]) := by
        have hk2 : k < (arrF F).length := by rw [arrF_length]; exact hlt
        show _ = _
        rw [List.take_succ_eq_append_getElem hk2]
        congr 2
        have := arrF_get F k hlt
        rw [List.getD_eq_getElem?_getD, List.getElem?_eq_getElem hk2] at this
        exact this
      generalize F k = x at *
      have hgx := I.out.hd.lt
      go_wp2_with (at_builtin; refine wpList_append_u8 rfl _ _ rfl _ (gx + 1) a2 k cap ((arrF F).take k) rfl (A.out.below ?q1) ?q2 ?q3 ⟨wr.heap.size, 0, none⟩ 1 x rfl ?q4 ?q5)
      case q1 => exact (Below.refl _ _).alloc (Nat.le_refl _) _
      case q2 => simp; omega
      case q3 => omega
      case q4 => rw [World.cell?_alloc_new]; rfl
      case q5 =>
        intro a3 cap3 w3 hg3 hb3
        have HG3 := Lib.hid hg3
        clear hg3
        have hb4 : Below (gx + 1) wr w3 := ((Below.refl _ _).alloc (by omega) _).trans hb3
        have I3 : Rx w [] [(gx, F)] w3 := ⟨by simp, fun p hp => by
          simp at hp
          subst hp
          exact I.out.hd.belowB hb4 (by omega), I.out.b.trans (hb4.mono (by omega))⟩
        go_wp2
        go_roundw
        case rel => exact ⟨k + 1, a3, cap3, by omega, by go_num, rfl, by rw [HT.out]; exact HG3.out, I3⟩
        case measure => simp [intOf]; omega
    · have t1 : decide ((k : Int) < 16) = false := decide_eq_false (by omega)
      obtain rfl : k = 16 := by omega
      have A2 := A.out
      rw [List.take_of_length_le (by rw [arrF_length]; omega)] at A2
      have D := app_text A2 (by omega) (arrF_mem F hF)
      clear A2
      go_wp2
      go_ret
      exact ⟨ret_str (by rw [HV.out]), I.out.b⟩
end
end Go.Proofs.Ytojnooagifhekaa
namespace Go.Proofs.Ytojnooagifhekaa
section
open Go.RowKit
set_option maxRecDepth 100000
set_option linter.unusedVariables false
set_option linter.unusedSimpArgs false
def vall (xs : List Int) : List UInt8 := xs.flatMap fun x => putB 9 (zig x)
theorem vall_nil : vall [] = [] := rfl
theorem vall_append (xs ys : List Int) : vall (xs ++ ys) = vall xs ++ vall ys := by simp [vall]
theorem vall_one (x : Int) : vall [x] = putB 9 (zig x) := by simp [vall]
theorem vputB_le (n : Int) : (putB 9 n).length ≤ 10 := by simp only [putB, List.length_map]; exact putI_le 9 n
theorem vall_length (xs : List Int) : (vall xs).length ≤ 10 * xs.length := by
  induction xs with
  | nil => simp [vall]
  | cons x r ih =>
    rw [show x :: r = [x] ++ r from rfl, vall_append, vall_one, List.length_append, List.length_append]
    have := vputB_le (zig x)
    simp; omega
theorem vtake_snoc (xs : List Int) (k : Nat) (h : k < xs.length) : xs.take (k + 1) = xs.take k ++ [xs.getD k 0] := by
  rw [List.take_succ_eq_append_getElem h]; simp [List.getD_eq_getElem?_getD, h]
set_option maxHeartbeats 1000000 in
theorem all_any (a : Option Addr) (n c : Nat) (xs : List Int) (w : World) (h : ReadsI .i64 w a n xs) (hn : n ≤ 1000) (hr : ∀ x ∈ xs, -9223372036854775808 ≤ x ∧ x ≤ 9223372036854775807) :
    Calls Try.prog 60 #[.slice a n c] w fun e w' => e = .returned (.string ⟨(vall xs).toArray⟩) ∧ Below w.heap.size w w' := by
  obtain ⟨hl, hc⟩ := h
  have HL := Lib.hid hl
  clear hl
  have HC := Lib.hid hc
  clear hc
  have HR := Lib.hid hr
  clear hr
  go_enter Try.func60, Try.ntmps60
  go_wp2
  go_loopw [8] (fun i wr => ∃ k : Nat, k ≤ n ∧ i = .int .i64 k ∧ BldAt w.heap.size w.heap.size (vall (xs.take k)) wr ∧ Below w.heap.size w wr ∧ w.heap.size < wr.heap.size) (fun i _ => n - (intOf i).toNat)
  case atStart => exact ⟨0, by omega, rfl, bld_fresh w, (Below.refl _ _).alloc (Nat.le_refl _) _, by simp⟩
  case round =>
    obtain ⟨k, hk, rfl, hbld, hbel, hsz⟩ := hrel
    have HB := Lib.hid hbld
    clear hbld
    by_cases hlt : k < n
    · have t1 : decide (k < n) = true := decide_eq_true hlt
      obtain ⟨b, o, rfl, hblt, hcell⟩ := HC.out.resolve_left (by omega)
      have hx := HR.out (xs.getD k 0) (by
        rw [List.getD_eq_getElem?_getD, List.getElem?_eq_getElem (by rw [HL.out]; exact hlt)]
        exact List.getElem_mem _)
      have HT := Lib.hid (vtake_snoc xs k (by rw [HL.out]; exact hlt))
      have hc1 : wr.cell? ⟨b, o + k, none⟩ = some (.int .i64 (xs.getD k 0)) := (hbel.cell (p := ⟨b, o + k, none⟩) hblt).trans (hcell k hlt)
      have HL2 : (vall (xs.take k)).length ≤ 10000 := by
        have := vall_length (xs.take k)
        rw [List.length_take] at this
        omega
      generalize xs.getD k 0 = x at *
      clear hcell
      go_wp2_with fail
      refine (zig_any x _ hx.1 hx.2).mono ?_
      rintro e w1 ⟨rfl, rfl⟩
      go_wp2_with fail
      refine (put_any _ _ (zig_range x hx.1 hx.2).1 (zig_range x hx.1 hx.2).2).mono ?_
      rintro e w1 ⟨rfl, hb1⟩
      go_wp2_with fail
      refine (bld_write _ _ _ _ _ (bld_below HB.out hb1) (by have := vputB_le (zig x); have e : (vput (zig x)).size = (putB 9 (zig x)).length := rfl; omega) (Nat.le_trans hbel.size hb1.size)).mono ?_
      rintro e w2 ⟨rfl, hbld2, hb2⟩
      go_wp2
      go_roundw
      case rel =>
        refine ⟨k + 1, by omega, by go_num, ?_, (below_then hbel hbel.size hb1).trans hb2, by have := hb1.size; have := hb2.size; omega⟩
        rw [HT.out, vall_append, vall_one]
        exact hbld2
      case measure => simp [intOf]; omega
    · have t1 : decide (k < n) = false := decide_eq_false hlt
      go_wp2_with fail
      refine (bld_string _ _ _ _ HB.out hbel.size).mono ?_
      rintro e w1 ⟨rfl, hb1⟩
      go_wp2
      go_ret
      exact ⟨ret_str (by rw [List.take_of_length_le (by rw [HL.out]; omega)]), hbel.trans hb1⟩
theorem all1_any (x : Int) (w : World) (h0 : -9223372036854775808 ≤ x) (h1 : x ≤ 9223372036854775807) :
    Calls Try.prog 60 #[.slice (some ⟨w.heap.size, 0, none⟩) 1 1] (w.alloc (.cells #[.int .i64 x] 2)) fun e w' => e = .returned (.string (vput (zig x))) ∧ Below w.heap.size w w' :=
  (all_any _ 1 1 [x] _ (reads_new .i64 w [x] 2) (by omega) (fun y hy => by simp at hy; subst hy; exact ⟨h0, h1⟩)).mono fun e w' ⟨h1, h2⟩ =>
    ⟨by rw [h1, vall_one]; rfl, below_from_alloc (h2.mono (by simp)) (Nat.le_refl _)⟩
theorem all2_any (x y : Int) (w : World) (h0 : -9223372036854775808 ≤ x) (h1 : x ≤ 9223372036854775807) (h2 : -9223372036854775808 ≤ y) (h3 : y ≤ 9223372036854775807) :
    Calls Try.prog 60 #[.slice (some ⟨w.heap.size, 0, none⟩) 2 2] (w.alloc (.cells #[.int .i64 x, .int .i64 y] 2)) fun e w' => e = .returned (.string (vput (zig x) ++ vput (zig y))) ∧ Below w.heap.size w w' :=
  (all_any _ 2 2 [x, y] _ (reads_new .i64 w [x, y] 2) (by omega) (fun z hz => by simp at hz; rcases hz with rfl | rfl; exact ⟨h0, h1⟩; exact ⟨h2, h3⟩)).mono fun e w' ⟨h1, h2⟩ =>
    ⟨by
      rw [h1, show [x, y] = [x] ++ [y] from rfl, vall_append, vall_one, vall_one]
      congr 2, below_from_alloc (h2.mono (by simp)) (Nat.le_refl _)⟩
end
end Go.Proofs.Ytojnooagifhekaa
