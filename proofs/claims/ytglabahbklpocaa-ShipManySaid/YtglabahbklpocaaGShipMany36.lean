/- vint.All: some numbers with signs, one behind the other. Texts as bytes; the reference's All. -/
import Derived.Test.YtglabahbklpocaaGShipMany27
import Derived.Test.YtglabahbklpocaaGShipMany2
import Derived.Test.YtglabahbklpocaaGShipMany11
import Derived.Test.YtglabahbklpocaaGShipMany12
import Derived.Test.YtglabahbklpocaaGShipMany15
import Derived.Test.YtglabahbklpocaaGShipMany4
namespace Go.Proofs.Ytglabahbklpocaa
section
open Go.RowKit
set_option maxRecDepth 100000
set_option linter.unusedVariables false
set_option linter.unusedSimpArgs false
def vall (xs : List Int) : List UInt8 := xs.flatMap fun x => putB 9 (zig x)
theorem vall_nil : vall [] = [] := rfl
theorem vall_append (xs ys : List Int) : vall (xs ++ ys) = vall xs ++ vall ys := by simp [vall]
theorem vall_one (x : Int) : vall [x] = putB 9 (zig x) := by simp [vall]
theorem vputB_le (n : Int) : (putB 9 n).length ≤ 10 := by simp only [putB, List.length_map]; exact putI_le 9 n
theorem vall_length (xs : List Int) : (vall xs).length ≤ 10 * xs.length := by
  induction xs with
  | nil => simp [vall]
  | cons x r ih =>
    rw [show x :: r = [x] ++ r from rfl, vall_append, vall_one, List.length_append, List.length_append]
    have := vputB_le (zig x)
    simp; omega
theorem vtake_snoc (xs : List Int) (k : Nat) (h : k < xs.length) : xs.take (k + 1) = xs.take k ++ [xs.getD k 0] := by
  rw [List.take_succ_eq_append_getElem h]; simp [List.getD_eq_getElem?_getD, h]
set_option maxHeartbeats 1000000 in
theorem all_any (a : Option Addr) (n c : Nat) (xs : List Int) (w : World) (h : ReadsI .i64 w a n xs) (hn : n ≤ 1000) (hr : ∀ x ∈ xs, -9223372036854775808 ≤ x ∧ x ≤ 9223372036854775807) :
    Calls Try.prog 86 #[.slice a n c] w fun e w' => e = .returned (.string ⟨(vall xs).toArray⟩) ∧ Below w.heap.size w w' := by
  obtain ⟨hl, hc⟩ := h
  have HL := Lib.hid hl
  clear hl
  have HC := Lib.hid hc
  clear hc
  have HR := Lib.hid hr
  clear hr
  go_enter Try.func86, Try.ntmps86
  go_wp2
  go_loopw [8] (fun i wr => ∃ k : Nat, k ≤ n ∧ i = .int .i64 k ∧ BldAt w.heap.size w.heap.size (vall (xs.take k)) wr ∧ Below w.heap.size w wr ∧ w.heap.size < wr.heap.size) (fun i _ => n - (intOf i).toNat)
  case atStart => exact ⟨0, by omega, rfl, bld_fresh w, (Below.refl _ _).alloc (Nat.le_refl _) _, by simp⟩
  case round =>
    obtain ⟨k, hk, rfl, hbld, hbel, hsz⟩ := hrel
    have HB := Lib.hid hbld
    clear hbld
    by_cases hlt : k < n
    · have t1 : decide (k < n) = true := decide_eq_true hlt
      obtain ⟨b, o, rfl, hblt, hcell⟩ := HC.out.resolve_left (by omega)
      have hx := HR.out (xs.getD k 0) (by
        rw [List.getD_eq_getElem?_getD, List.getElem?_eq_getElem (by rw [HL.out]; exact hlt)]
        exact List.getElem_mem _)
      have HT := Lib.hid (vtake_snoc xs k (by rw [HL.out]; exact hlt))
      have hc1 : wr.cell? ⟨b, o + k, none⟩ = some (.int .i64 (xs.getD k 0)) := (hbel.cell (p := ⟨b, o + k, none⟩) hblt).trans (hcell k hlt)
      have HL2 : (vall (xs.take k)).length ≤ 10000 := by
        have := vall_length (xs.take k)
        rw [List.length_take] at this
        omega
      generalize xs.getD k 0 = x at *
      clear hcell
      go_wp2_with fail
      refine (zig_any x _ hx.1 hx.2).mono ?_
      rintro e w1 ⟨rfl, rfl⟩
      go_wp2_with fail
      refine (put_any _ _ (zig_range x hx.1 hx.2).1 (zig_range x hx.1 hx.2).2).mono ?_
      rintro e w1 ⟨rfl, hb1⟩
      go_wp2_with fail
      refine (bld_write _ _ _ _ _ (bld_below HB.out hb1) (by have := vputB_le (zig x); have e : (vput (zig x)).size = (putB 9 (zig x)).length := rfl; omega) (Nat.le_trans hbel.size hb1.size)).mono ?_
      rintro e w2 ⟨rfl, hbld2, hb2⟩
      go_wp2
      go_roundw
      case rel =>
        refine ⟨k + 1, by omega, by go_num, ?_, (below_then hbel hbel.size hb1).trans hb2, by have := hb1.size; have := hb2.size; omega⟩
        rw [HT.out, vall_append, vall_one]
        exact hbld2
      case measure => simp [intOf]; omega
    · have t1 : decide (k < n) = false := decide_eq_false hlt
      go_wp2_with fail
      refine (bld_string _ _ _ _ HB.out hbel.size).mono ?_
      rintro e w1 ⟨rfl, hb1⟩
      go_wp2
      go_ret
      exact ⟨ret_str (by rw [List.take_of_length_le (by rw [HL.out]; omega)]), hbel.trans hb1⟩
theorem all1_any (x : Int) (w : World) (h0 : -9223372036854775808 ≤ x) (h1 : x ≤ 9223372036854775807) :
    Calls Try.prog 86 #[.slice (some ⟨w.heap.size, 0, none⟩) 1 1] (w.alloc (.cells #[.int .i64 x] 2)) fun e w' => e = .returned (.string (vput (zig x))) ∧ Below w.heap.size w w' :=
  (all_any _ 1 1 [x] _ (reads_new .i64 w [x] 2) (by omega) (fun y hy => by simp at hy; subst hy; exact ⟨h0, h1⟩)).mono fun e w' ⟨h1, h2⟩ =>
    ⟨by rw [h1, vall_one]; rfl, below_from_alloc (h2.mono (by simp)) (Nat.le_refl _)⟩
theorem all2_any (x y : Int) (w : World) (h0 : -9223372036854775808 ≤ x) (h1 : x ≤ 9223372036854775807) (h2 : -9223372036854775808 ≤ y) (h3 : y ≤ 9223372036854775807) :
    Calls Try.prog 86 #[.slice (some ⟨w.heap.size, 0, none⟩) 2 2] (w.alloc (.cells #[.int .i64 x, .int .i64 y] 2)) fun e w' => e = .returned (.string (vput (zig x) ++ vput (zig y))) ∧ Below w.heap.size w w' :=
  (all_any _ 2 2 [x, y] _ (reads_new .i64 w [x, y] 2) (by omega) (fun z hz => by simp at hz; rcases hz with rfl | rfl; exact ⟨h0, h1⟩; exact ⟨h2, h3⟩)).mono fun e w' ⟨h1, h2⟩ =>
    ⟨by
      rw [h1, show [x, y] = [x] ++ [y] from rfl, vall_append, vall_one, vall_one]
      congr 2, below_from_alloc (h2.mono (by simp)) (Nat.le_refl _)⟩
end
end Go.Proofs.Ytglabahbklpocaa
namespace Go.Proofs.Ytglabahbklpocaa
section
open Go.RowKit
set_option maxRecDepth 100000
set_option linter.unusedVariables false
set_option linter.unusedSimpArgs false
def vtext (s : ByteArray) : ByteArray := vput (s.size : Int) ++ s
set_option maxHeartbeats 400000 in
theorem text_any (s : ByteArray) (w : World) (hs : s.size ≤ 1000000000) :
    Calls Try.prog 49 #[.string s] w fun e w' => e = .returned (.string (vtext s)) ∧ Below w.heap.size w w' := by
  have hz := vput_le (s.size : Int)
  go_enter Try.func49, Try.ntmps49
  go_wp2_with fail
  refine (put_any _ _ (by omega) (by omega)).mono ?_
  rintro e w1 ⟨rfl, hb1⟩
  go_wp2
  go_ret
  exact ⟨rfl, hb1⟩
end
end Go.Proofs.Ytglabahbklpocaa
