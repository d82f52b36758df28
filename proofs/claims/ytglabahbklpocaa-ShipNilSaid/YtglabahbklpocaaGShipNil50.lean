/- ShipNil: for any number the law answers true. -/
import Derived.Test.YtglabahbklpocaaGShipNil49
namespace Go.Proofs.Ytglabahbklpocaa
section
open Go.RowKit Go.Deep
set_option maxRecDepth 100000
set_option linter.unusedVariables false
set_option linter.unusedSimpArgs false
attribute [local go_sem ↓] Go.wp_at_zero Go.wp_at_succ
set_option maxHeartbeats 8000000 in
theorem hnil_any (n : Int) (w : World) (h0 : i64' n) : Calls Try.prog 6 #[.int .i64 n] w fun e w' => e = .returned (.bool true) ∧ Below w.heap.size w w' := by
  go_enter Try.func6, Try.ntmps6
  go_upto_region 3 with fail
  generalize hw1 : World.alloc _ _ = w1
  obtain ⟨g, hg⟩ : ∃ g, w.heap.size = g := ⟨_, rfl⟩
  have PP := Lib.hid (show PeI w g zPe w1 from ⟨by rw [← hw1, ← hg]; exact pe_zero (heap_alloc_new _ _), by rw [← hw1]; exact (Below.refl _ _).alloc (Nat.le_refl _) _⟩)
  have hgw : w.heap.size ≤ g := by omega
  rw [hg]
  clear hw1 hg
  go_upto_region 4 with (first
    | (go_at_call 27; refine (npackP _).mono ?_; rintro e w2 ⟨rfl, dn⟩; have PP := Lib.hid (PP.out.below dn); clear dn)
    | (refine wpList_store_row rfl 53 _ _ rfl _ zWi.arr rfl rfl 53 _ (heap_alloc_new _ _) (by kernel_rfl) rfl (wi_one _) ?_; rw [World.setRow_alloc_new]))
  have PP := Lib.hid (PP.out.alloc (.cells zWi.arr 53 (0, 0)))
  generalize World.alloc w2 _ = w3 at *
  have HT := Lib.hid trivial
  have NB := fun a k c wx => nbehP a k c wx
  have ND := fun wx => ndueP n wx
  go_wp2_with (first
    | (go_at_call 8; refine (hawake_any _).mono ?_; rintro e wz ⟨rfl, dn⟩; have PP := Lib.hid (PP.out.below dn); clear dn)
    | (go_at_call 14; first
      | (have TT := TT; refine (pnote_any [g] g zPe 1 ⟨some ⟨wz.heap.size, 0, none⟩, 1, 1⟩ [1] _ (PP.out.alloc (.cells #[.int .i64 1] 3)).p (by simp) (PP.out.alloc _).fl (sl_newH wz [1] (by decide))).mono ?_; rw [zn_note]; rintro e wz ⟨rfl, hn, dn⟩; have PP := Lib.hid ((PP.out.alloc (.cells #[.int .i64 1] 3)).but hn dn hgw); clear hn dn)
      | (refine (nnoteP _ _ _).mono ?_; rintro e wn ⟨rfl, rfl⟩; have PP := Lib.hid (PP.out.alloc (.cells #[.int .i64 1] 3)); generalize World.alloc wz (.cells #[.int .i64 1] 3) = wz at *))
    | (go_at_call 11; refine (nsentP _ _ _).mono ?_; rintro e wn ⟨rfl, rfl⟩)
    | (go_at_call 18; refine (nofP _ _).mono ?_; rintro e wn ⟨rfl, rfl⟩)
    | (go_at_call 20; first
      | (have TT := TT; refine (pleast_any [g] g zPe ⟨some ⟨wz.heap.size, 0, none⟩, 1, 1⟩ [2] _ (PP.out.alloc (.cells #[.int .i64 2] 3)).p (sl_newH wz [2] (by decide))).mono ?_; rw [zn_least]; rintro e wz ⟨⟨oa, on, oc⟩, rfl, hs, _, dn⟩; have hz : on = 1 := hs.r.1.symm; have PP := Lib.hid ((PP.out.alloc (.cells #[.int .i64 2] 3)).below dn); clear hs dn; subst hz)
      | (refine (nleastP _ _).mono ?_; rintro e wn ⟨rfl, rfl⟩; have PP := Lib.hid (PP.out.alloc (.cells #[.int .i64 1] 3)); generalize World.alloc wz (.cells #[.int .i64 1] 3) = wz at *))
    | (go_at_call 22; refine (NB _ _ _ _).mono ?_; rintro e wz ⟨rfl, dn⟩; have PP := Lib.hid ((PP.out.alloc (.cells #[.int .i64 1] 3)).below dn); clear dn)
    | (go_at_call 10; first
      | (have TT := TT; refine (pdue_any [g] g zPe n wz PP.out.p).mono ?_; rw [zn_due]; rintro e wz ⟨⟨oa, on, oc⟩, rfl, hs, dn⟩; have hz : on = 0 := hs.r.1.symm; have PP := Lib.hid (PP.out.below dn); clear hs dn; subst hz)
      | (refine (ND _).mono ?_; rintro e wz ⟨rfl, dn⟩; have PP := Lib.hid (PP.out.below dn); have TT := HT; clear dn)))
  go_ret
  exact ⟨rfl, PP.out.b⟩
theorem hnil_row (n : Int) (w : World) (h1 : -9223372036854775808 ≤ n) (h2 : n ≤ 9223372036854775807) :
    Calls Try.prog 6 #[.int .i64 n] w fun e w' => e = .returned (.bool true) ∧ Below w.heap.size w w' := hnil_any n w ⟨h1, h2⟩
end
end Go.Proofs.Ytglabahbklpocaa
