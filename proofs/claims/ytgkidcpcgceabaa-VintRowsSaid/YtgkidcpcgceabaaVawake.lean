/- The chapter's examples hold: the contract of 'awake'. -/
import Derived.Test.YtgkidcpcgceabaaVrget
import Derived.Test.YtgkidcpcgceabaaVzig
import Derived.Test.YtgkidcpcgceabaaVint
namespace Go.Proofs.Ytgkidcpcgceabaa
open Go.RowKit
set_option linter.unusedVariables false
set_option linter.unusedSimpArgs false
theorem get_ex {s : ByteArray} {a : Int} {x y z : Int} (w : World) (hs : s.size ≤ 100) (h : vget s a = (x, y, z)) :
    Calls Try.prog 12 #[.string s, .int .i64 a] w fun e w' => e = .returned (.tuple #[.int .u64 x, .int .i64 y, .int .i64 z]) ∧ w = w' :=
  (get_any s a w (by omega)).mono fun e w' ⟨h1, h2⟩ => ⟨by rw [h1, h]; rfl, h2⟩
theorem put_ex {n : Int} {s : ByteArray} (w : World) (h0 : 0 ≤ n) (h1 : n < 18446744073709551616) (h : vput n = s) :
    Calls Try.prog 14 #[.int .u64 n] w fun e w' => e = .returned (.string s) ∧ Below w.heap.size w w' :=
  (put_any n w h0 h1).mono fun e w' ⟨h1, h2⟩ => ⟨by rw [h1, h], h2⟩
set_option maxHeartbeats 1000000 in
theorem awake_any (w : World) : Calls Try.prog 10 #[] w fun e w' => e = .returned (.bool true) ∧ Below w.heap.size w w' := by
  go_enter Try.func10, Try.ntmps10
  go_wp2_with fail
  refine (get_ex (x := 0) (y := 0) (z := 10) _ (by decide) (by decide +kernel)).mono ?_
  rintro e w' ⟨rfl, rfl⟩
  go_wp2_with fail
  refine (get_ex (x := 0) (y := 0) (z := 10) _ (by decide) (by decide +kernel)).mono ?_
  rintro e w' ⟨rfl, rfl⟩
  go_wp2_with fail
  refine (put_ex (s := ⟨#[0]⟩) _ (by decide) (by decide) (by decide +kernel)).mono ?_
  rintro e w1 ⟨rfl, hb1⟩
  go_wp2_with fail
  refine (put_ex (s := ⟨#[127]⟩) _ (by decide) (by decide) (by decide +kernel)).mono ?_
  rintro e w2 ⟨rfl, hb2⟩
  go_wp2_with fail
  refine (put_ex (s := ⟨#[128, 1]⟩) _ (by decide) (by decide) (by decide +kernel)).mono ?_
  rintro e w3 ⟨rfl, hb3⟩
  go_wp2_with fail
  refine (put_ex (s := ⟨#[172, 2]⟩) _ (by decide) (by decide) (by decide +kernel)).mono ?_
  rintro e w4 ⟨rfl, hb4⟩
  go_wp2_with fail
  refine (zig_any (-1) _ (by decide) (by decide)).mono ?_
  rintro e w5 ⟨rfl, rfl⟩
  rw [show zig (-1) = 1 from rfl]
  go_wp2_with fail
  refine (zig_any 1 _ (by decide) (by decide)).mono ?_
  rintro e w5 ⟨rfl, rfl⟩
  rw [show zig 1 = 2 from rfl]
  go_wp2_with fail
  refine (zag_any 3 _ (by decide) (by decide)).mono ?_
  rintro e w5 ⟨rfl, rfl⟩
  rw [show zag 3 = -2 from rfl]
  go_wp2
  go_ret
  exact ⟨rfl, below_then (below_then (below_then hb1 hb1.size hb2) (Nat.le_trans hb1.size hb2.size) hb3) (Nat.le_trans hb1.size (Nat.le_trans hb2.size hb3.size)) hb4⟩
end Go.Proofs.Ytgkidcpcgceabaa
