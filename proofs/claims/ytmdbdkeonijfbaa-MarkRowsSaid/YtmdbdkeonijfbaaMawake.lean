/- The chapter's examples hold: the contract of 'awake'. -/
import Derived.Test.YtmdbdkeonijfbaaMtext
namespace Go.Proofs.Ytmdbdkeonijfbaa
open Go.RowKit
set_option linter.unusedVariables false
set_option linter.unusedSimpArgs false
theorem ReadsI.alloc {k : IntKind} {w : World} {a : Option Addr} {n : Nat} {xs : List Int} (h : ReadsI k w a n xs) (o : Obj) : ReadsI k (w.alloc o) a n xs := h.below ((Below.refl _ _).alloc (Nat.le_refl _) _)
section
variable (xs ys zs : List Int) (w : World) (cx cy : Array Value) (nx ny nz : Nat) (hcx : cx = (xs.map (Value.int .i64)).toArray) (hcy : cy = (ys.map (Value.int .i64)).toArray) (hnx : nx = xs.length) (hny : ny = ys.length) (hnz : nz = zs.length) (hx : xs.length ≤ 100) (hy : ys.length ≤ 100) (hz : zs.length ≤ 100)
include hcx hcy hnx hny
theorem reads2 : ReadsI .i64 ((w.alloc (.cells cx 3)).alloc (.cells cy 3)) (some ⟨w.heap.size, 0, none⟩) nx xs ∧ ReadsI .i64 ((w.alloc (.cells cx 3)).alloc (.cells cy 3)) (some ⟨w.heap.size + 1, 0, none⟩) ny ys ∧ Below w.heap.size w ((w.alloc (.cells cx 3)).alloc (.cells cy 3)) := by
  subst hcx hcy hnx hny
  refine ⟨(reads_new .i64 w xs _).alloc _, ?_, ((Below.refl w.heap.size w).alloc (Nat.le_refl _) _).alloc (by simp) _⟩
  have := reads_new .i64 (w.alloc (.cells (xs.map (Value.int .i64)).toArray 3)) ys 3
  simpa using this
include hx hy
theorem cmp_ex (v : Int) (h : cmpV xs ys = v) :
    Calls Try.prog 25 #[.slice (some ⟨w.heap.size, 0, none⟩) nx nx, .slice (some ⟨w.heap.size + 1, 0, none⟩) ny ny] ((w.alloc (.cells cx 3)).alloc (.cells cy 3)) fun e w' => e = .returned (.int .i64 v) ∧ Below w.heap.size w w' := by
  obtain ⟨h1, h2, h3⟩ := reads2 xs ys w cx cy nx ny hcx hcy hnx hny
  exact (compare_any _ _ _ _ _ _ xs ys _ h1 h2 (Nat.le_refl _) (by omega) (Nat.le_refl _) (by omega)).mono fun e w' ⟨h4, h5⟩ => ⟨by rw [h4, h], below_then h3 h3.size h5⟩
include hnz
theorem join_ex (h : joinV xs ys = zs) :
    Calls Try.prog 12 #[.slice (some ⟨w.heap.size, 0, none⟩) nx nx, .slice (some ⟨w.heap.size + 1, 0, none⟩) ny ny] ((w.alloc (.cells cx 3)).alloc (.cells cy 3)) fun e w' => ∃ a', e = .returned (.slice a' nz nz) ∧ ReadsI .i64 w' a' nz zs ∧ Below w.heap.size w w' := by
  obtain ⟨h1, h2, h3⟩ := reads2 xs ys w cx cy nx ny hcx hcy hnx hny
  exact (join_any _ _ _ _ _ _ xs ys _ h1 h2 (Nat.le_refl _) (by omega) (Nat.le_refl _) (by omega)).mono fun e w' ⟨a', h4, h5, h6⟩ => ⟨a', by rw [h4, h, hnz], by subst h hnz; exact h5.reads, below_then h3 h3.size h6⟩
theorem meet_ex (h : meetV xs ys = zs) :
    Calls Try.prog 13 #[.slice (some ⟨w.heap.size, 0, none⟩) nx nx, .slice (some ⟨w.heap.size + 1, 0, none⟩) ny ny] ((w.alloc (.cells cx 3)).alloc (.cells cy 3)) fun e w' => ∃ a', e = .returned (.slice a' nz nz) ∧ ReadsI .i64 w' a' nz zs ∧ Below w.heap.size w w' := by
  obtain ⟨h1, h2, h3⟩ := reads2 xs ys w cx cy nx ny hcx hcy hnx hny
  exact (meet_any _ _ _ _ _ _ xs ys _ h1 h2 (Nat.le_refl _) (by omega) (Nat.le_refl _) (by omega)).mono fun e w' ⟨a', h4, h5, h6⟩ => ⟨a', by rw [h4, h, hnz], by subst h hnz; exact h5.reads, below_then h3 h3.size h6⟩
end
theorem same_ex (zs : List Int) (w : World) (a : Option Addr) (cz : Array Value) (nz : Nat) (hcz : cz = (zs.map (Value.int .i64)).toArray) (hnz : nz = zs.length) (hz : zs.length ≤ 100) (h : ReadsI .i64 w a nz zs) :
    Calls Try.prog 15 #[.slice a nz nz, .slice (some ⟨w.heap.size, 0, none⟩) nz nz] (w.alloc (.cells cz 3)) fun e w' => e = .returned (.bool true) ∧ Below w.heap.size w w' := by
  subst hcz hnz
  have hB := (Below.refl w.heap.size w).alloc (Nat.le_refl _) (.cells (zs.map (Value.int .i64)).toArray 3)
  exact (same_any _ _ _ _ _ _ zs zs _ (h.alloc _) (reads_new .i64 w zs _) (Nat.le_refl _) (by omega) (Nat.le_refl _) (by omega)).mono fun e w' ⟨h1, h2⟩ => ⟨by rw [h1]; simp, below_then hB hB.size h2⟩
set_option maxHeartbeats 2000000 in
theorem awake_any (w : World) : Calls Try.prog 10 #[] w fun e w' => e = .returned (.bool true) ∧ Below w.heap.size w w' := by
  go_enter Try.func10, Try.ntmps10
  go_wp2_with fail
  refine (join_ex [3, 0, 1] [1, 2] [3, 2, 1] w _ _ 3 2 3 rfl rfl rfl rfl rfl (by decide) (by decide) (by decide +kernel)).mono ?_
  rintro e w1 ⟨a1, rfl, hr1, hb1⟩
  go_wp2_with fail
  refine (same_ex [3, 2, 1] w1 _ _ 3 rfl rfl (by decide) hr1).mono ?_
  rintro e w2 ⟨rfl, hb2⟩
  have b2 := below_then hb1 hb1.size hb2
  clear hr1 hb1 hb2
  go_wp2_with fail
  refine (meet_ex [3, 0, 1] [1, 2] [1] w2 _ _ 3 2 1 rfl rfl rfl rfl rfl (by decide) (by decide) (by decide +kernel)).mono ?_
  rintro e w3 ⟨a3, rfl, hr3, hb3⟩
  have b3 := below_then b2 b2.size hb3
  clear b2 hb3
  go_wp2_with fail
  refine (same_ex [1] w3 _ _ 1 rfl rfl (by decide) hr3).mono ?_
  rintro e w4 ⟨rfl, hb4⟩
  have b4 := below_then b3 b3.size hb4
  clear b3 hb4 hr3
  go_wp2_with fail
  refine (cmp_ex [3, 1] [3, 1] w4 _ _ 2 2 rfl rfl rfl rfl (by decide) (by decide) 0 (by decide +kernel)).mono ?_
  rintro e w5 ⟨rfl, hb5⟩
  have b5 := below_then b4 b4.size hb5
  clear b4 hb5
  go_wp2_with fail
  refine (cmp_ex [3, 1] [3] w5 _ _ 2 1 rfl rfl rfl rfl (by decide) (by decide) 1 (by decide +kernel)).mono ?_
  rintro e w6 ⟨rfl, hb6⟩
  have b6 := below_then b5 b5.size hb6
  clear b5 hb6
  go_wp2_with fail
  refine (cmp_ex [3] [3, 1] w6 _ _ 1 2 rfl rfl rfl rfl (by decide) (by decide) (-1) (by decide +kernel)).mono ?_
  rintro e w7 ⟨rfl, hb7⟩
  have b7 := below_then b6 b6.size hb7
  clear b6 hb7
  go_wp2_with fail
  refine (cmp_ex [3] [0, 1] w7 _ _ 1 2 rfl rfl rfl rfl (by decide) (by decide) 2 (by decide +kernel)).mono ?_
  rintro e w8 ⟨rfl, hb8⟩
  have b8 := below_then b7 b7.size hb8
  clear b7 hb8
  go_wp2_with fail
  refine (mtext_any _ 3 3 [3, 0, 1] _ (reads_new .i64 w8 [3, 0, 1] _) (Nat.le_refl _) (by decide)).mono ?_
  rintro e w9 ⟨rfl, hb9⟩
  have b9 := below_then (b8.alloc b8.size _) (Nat.le_trans b8.size (by simp)) hb9
  clear b8 hb9
  rw [show (⟨(mtB (pl [3, 0, 1])).toArray⟩ : ByteArray) = ⟨#[3, 3, 0, 1]⟩ by decide +kernel]
  go_wp2
  go_ret
  exact ⟨rfl, b9⟩
end Go.Proofs.Ytmdbdkeonijfbaa
