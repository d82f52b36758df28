/- Texts as bytes; the reference's All. -/
import Derived.Test.YtojnooagifhekaaGAggParts42
import Derived.Test.YtojnooagifhekaaGAggParts27
namespace Go.Proofs.Ytojnooagifhekaa
section
open Go.RowKit
set_option maxRecDepth 100000
set_option linter.unusedVariables false
set_option linter.unusedSimpArgs false
def vtext (s : ByteArray) : ByteArray := vput (s.size : Int) ++ s
set_option maxHeartbeats 1000000 in
theorem rall_any (a : Option Addr) (n c : Nat) (xs : List Int) (w : World) (h : ReadsI .i64 w a n xs) (hn : n ≤ 1000) (hr : ∀ x ∈ xs, -9223372036854775808 ≤ x ∧ x ≤ 9223372036854775807) :
    Calls Try.prog 64 #[.slice a n c] w fun e w' => e = .returned (.string ⟨(vall xs).toArray⟩) ∧ Below w.heap.size w w' := by
  obtain ⟨hl, hc⟩ := h
  have HL := Lib.hid hl
  clear hl
  have HC := Lib.hid hc
  clear hc
  have HR := Lib.hid hr
  clear hr
  go_enter Try.func64, Try.ntmps64
  go_wp2
  go_loopw [3, 4] (fun t i wr => ∃ k : Nat, k ≤ n ∧ i = .int .i64 k ∧ t = .string ⟨(vall (xs.take k)).toArray⟩ ∧ Below w.heap.size w wr) (fun _ i _ => n - (intOf i).toNat)
  case atStart => exact ⟨0, by omega, rfl, rfl, Below.refl _ _⟩
  case round =>
    obtain ⟨k, hk, rfl, rfl, hbel⟩ := hrel
    by_cases hlt : k < n
    · have t1 : decide (k < n) = true := decide_eq_true hlt
      obtain ⟨b, o, rfl, hblt, hcell⟩ := HC.out.resolve_left (by omega)
      have hx := HR.out (xs.getD k 0) (by
        rw [List.getD_eq_getElem?_getD, List.getElem?_eq_getElem (by rw [HL.out]; exact hlt)]
        exact List.getElem_mem _)
      have HT := Lib.hid (vtake_snoc xs k (by rw [HL.out]; exact hlt))
      have hc1 : wr.cell? ⟨b, o + k, none⟩ = some (.int .i64 (xs.getD k 0)) := (hbel.cell (p := ⟨b, o + k, none⟩) hblt).trans (hcell k hlt)
      have HL2 : (vall (xs.take k)).length ≤ 10000 := by
        have := vall_length (xs.take k)
        rw [List.length_take] at this
        omega
      have hsz : (⟨(vall (xs.take k)).toArray⟩ : ByteArray).size ≤ 10000 := by simpa [ByteArray.size] using HL2
      generalize xs.getD k 0 = x at *
      have hz := vput_le (zig x)
      generalize hA : (⟨(vall (xs.take k)).toArray⟩ : ByteArray) = A at *
      have HA := Lib.hid hA
      clear hcell hA
      go_wp2_with fail
      refine (rzig_any x _ hx.1 hx.2).mono ?_
      rintro e w1 ⟨rfl, rfl⟩
      go_wp2_with fail
      refine (rput_any _ _ (zig_range x hx.1 hx.2).1 (zig_range x hx.1 hx.2).2).mono ?_
      rintro e w1 ⟨rfl, hb1⟩
      go_wp2
      go_roundw
      case rel =>
        refine ⟨k + 1, by omega, by go_num, ?_, below_then hbel hbel.size hb1⟩
        rw [HT.out, vall_append, vall_one, ← HA.out]
        congr 1
      case measure => simp [intOf]; omega
    · have t1 : decide (k < n) = false := decide_eq_false hlt
      go_wp2
      go_ret
      exact ⟨ret_str (by rw [List.take_of_length_le (by rw [HL.out]; omega)]), hbel⟩
end
end Go.Proofs.Ytojnooagifhekaa
