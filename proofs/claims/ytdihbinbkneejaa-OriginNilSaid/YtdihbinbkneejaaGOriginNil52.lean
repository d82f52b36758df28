/- OriginNil: for any number the law answers true. -/
import Derived.Test.YtdihbinbkneejaaGOriginNil51
import Derived.Test.YtdihbinbkneejaaGOriginNil36
namespace Go.Proofs.Ytdihbinbkneejaa
section
open Go.RowKit Go.Deep
set_option maxRecDepth 100000
set_option linter.unusedVariables false
set_option linter.unusedSimpArgs false
theorem zn_add : addM zM x1 = (zM, 15) := by
  unfold addM
  rw [if_neg (by simpa using aw_p1), if_neg (by decide +kernel), if_pos (by decide +kernel)]
theorem zn_after : afterM zM [] 5 = ([], true) := by
  unfold afterM
  rw [if_pos (by decide +kernel)]
  rfl
set_option maxHeartbeats 8000000 in
theorem onil_any (n : Int) (w : World) (h0 : i64' n) : Calls Try.prog 7 #[.int .i64 n] w fun e w' => e = .returned (.bool true) ∧ Below w.heap.size w w' := by
  have b0 : i64' 0 := ⟨by decide, by decide⟩
  have b1 : i64' 1 := ⟨by decide, by decide⟩
  have b5 : i64' 5 := ⟨by decide, by decide⟩
  have nilS : ∀ wx : World, SlR wx dz0 [] := fun wx => ⟨⟨rfl, .inl rfl⟩, Nat.le_refl _, by decide⟩
  go_enter Try.func7, Try.ntmps7
  go_upto_region 3 with fail
  generalize hw1 : World.alloc _ _ = w1
  obtain ⟨g, hg⟩ : ∃ g, w.heap.size = g := ⟨_, rfl⟩
  have HL := Lib.hid (show LogAt w1 [g] g zM by rw [← hw1, ← hg]; exact log_zero (heap_alloc_new _ _))
  have HB := Lib.hid (show Below w.heap.size w w1 by rw [← hw1]; exact (Below.refl _ _).alloc (Nat.le_refl _) _)
  have hsg : w.heap.size ≤ g := by omega
  rw [hg]
  clear hw1 hg
  go_upto_region 4 with (first
    | (go_at_call 30; refine (nget 0 1 _).mono ?_; rintro e w2 ⟨rfl, dn⟩; have HL := Lib.hid (HL.out.below dn); have HB := Lib.hid (below_then HB.out HB.out.size dn); clear dn)
    | (refine wpList_store_row rfl 30 _ _ rfl _ (rcA rz0 dz0) rfl rfl 30 _ (heap_alloc_new _ _) (by kernel_rfl) rfl (by simp [Value.oneCell', rcA]) ?_; rw [World.setRow_alloc_new]))
  have hb : Below w2.heap.size w2 (w2.alloc (.cells (rcA rz0 dz0) 30 (0, 0))) := (Below.refl _ _).alloc (Nat.le_refl _) _
  have HL := Lib.hid (HL.out.below hb)
  have HB := Lib.hid (below_then HB.out HB.out.size hb)
  clear hb
  generalize w2.alloc (.cells (rcA rz0 dz0) 30 (0, 0)) = w3 at *
  go_upto_region 5 with (go_at_call 14; refine (nafter none 0 0 5 _).mono ?_; rintro e w4 ⟨rfl, dn⟩; have HL := Lib.hid (HL.out.below dn); have HB := Lib.hid (below_then HB.out HB.out.size dn); clear dn)
  have AF := oafter_any [g] g zM dz0 [] 5 w4 HL.out (nilS _) b5
  rw [zn_after] at AF
  simp only [dz0] at AF
  go_upto_region 6 with (go_at_call 14; refine AF.mono ?_; rintro e w5 ⟨o, rfl, hR, dn⟩; have HL := Lib.hid (HL.out.below dn); have HB := Lib.hid (below_then HB.out HB.out.size dn); have hon := recs_len hR; clear dn hR)
  obtain ⟨oa, on, oc⟩ := o
  obtain rfl : on = 0 := by simpa using hon.symm
  clear hon AF
  have RC := fun wx => record_any 0 1 dz0 wx
  have NA := fun wx => nadd (mkR 0 1) dz0 wx
  have AD := fun wx (h : LogAt wx [g] g zM) => oadd_any [g] g zM ⟨mkR 0 1, dz0, []⟩ wx h (by simp) (by intro k hk; simp only [List.mem_singleton] at hk; subst hk; exact h.lt) ⟨mkR_wf b0 b1, nilS _⟩
  have AD2 := fun wx (h : LogAt wx [g] g zM) => by
    have C := AD wx h
    rw [show addM zM (RecA.m ⟨mkR 0 1, dz0, []⟩) = (zM, 15) from zn_add] at C
    exact C
  have RM := fun wx (h : LogAt wx [g] g zM) => oroom_any [g] g zM wx h
  simp only [rcVal, rcA, mkR, dz0, RecA.val] at RC NA AD2
  clear AD
  have HT := Lib.hid trivial
  go_wp2_with (first
    | (go_at_call 8; refine (oawake_any _).mono ?_; rintro e w6 ⟨rfl, dn⟩; have HL := Lib.hid (HL.out.below dn); have HB := Lib.hid (below_then HB.out HB.out.size dn); clear dn)
    | (go_at_call 33; have TT := TT; refine (RC _).mono ?_; rintro e w8 ⟨rfl, dn⟩; have hb9 := (Below.refl w6.heap.size w6).alloc (Nat.le_refl _) (.cells #[.int .i64 n] 3); have HL := Lib.hid ((HL.out.below hb9).below dn); have HB := Lib.hid (below_then (below_then HB.out HB.out.size hb9) (Nat.le_trans HB.out.size hb9.size) dn); clear dn hb9)
    | (go_at_call 33; refine (RC _).mono ?_; rintro e w6 ⟨rfl, dn⟩; have HL := Lib.hid (HL.out.below dn); have HB := Lib.hid (below_then HB.out HB.out.size dn); clear dn)
    | (go_at_call 13; first
      | (have TT := TT; refine (AD2 _ HL.out).mono ?_; rintro e w6 ⟨rfl, hz1, hz2⟩; have HL := Lib.hid hz1; have HB := Lib.hid (But.below HB.out hz2 HB.out.size hsg); clear hz1 hz2)
      | (refine (NA _).mono ?_; rintro e w6 ⟨rfl, dn⟩; have HL := Lib.hid (HL.out.below dn); have HB := Lib.hid (below_then HB.out HB.out.size dn); clear dn))
    | (go_at_call 11; refine (nknow _).mono ?_; rintro e w6 ⟨rfl, rfl⟩)
    | (go_at_call 21; refine (nbase _).mono ?_; rintro e w6 ⟨rfl, rfl⟩)
    | (go_at_call 16; refine (nall _).mono ?_; rintro e w6 ⟨rfl, rfl⟩)
    | (go_at_call 18; refine (nclock _).mono ?_; rintro e w6 ⟨rfl, rfl⟩)
    | (go_at_call 32; refine (nlen _).mono ?_; rintro e w6 ⟨rfl, rfl⟩)
    | (go_at_call 24; first
      | (have TT := TT; refine (RM _ HL.out).mono ?_; rintro e w6 ⟨rfl, dn⟩; have HL := Lib.hid (HL.out.below dn); have HB := Lib.hid (below_then HB.out HB.out.size dn); clear dn)
      | (refine (nroom _).mono ?_; rintro e w6 ⟨rfl, rfl⟩))
    | (go_at_call 19; refine (ntrim _ _).mono ?_; rintro e w7 ⟨rfl, rfl⟩; have TT := HT))
  go_ret
  exact ⟨rfl, HB.out⟩
theorem onil_row (n : Int) (w : World) (h1 : -9223372036854775808 ≤ n) (h2 : n ≤ 9223372036854775807) :
    Calls Try.prog 7 #[.int .i64 n] w fun e w' => e = .returned (.bool true) ∧ Below w.heap.size w w' := onil_any n w ⟨h1, h2⟩
end
end Go.Proofs.Ytdihbinbkneejaa
