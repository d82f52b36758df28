/- ship.Peers: Note, Of, Least, Sent. -/
import Derived.Test.YtglabahbklpocaaGreatGShipPacks17
import Derived.Test.YtglabahbklpocaaGreatGShipPacks14
namespace Go.Proofs.YtglabahbklpocaaGreat
section
open Go.RowKit Go.Deep
set_option maxRecDepth 100000
set_option linter.unusedVariables false
set_option linter.unusedSimpArgs false
attribute [local go_sem ↓] Go.wp_at_zero Go.wp_at_succ
set_option maxHeartbeats 4000000 in
theorem psent_any (F : List Nat) (g : Nat) (m : PeM) (site now : Int) (w : World) (hP : PeAt w F g m) (hF : g ∈ F) :
    Calls Tryz.prog 24 #[.pointer (some ⟨g, 0, none⟩), .int .i64 site, .int .i64 now] w fun e w' => e = .returned (.bool (sentM m site now).2) ∧ PeAt w' F g (sentM m site now).1 ∧ But g w w' := by
  have G := fun wx (hx : PeAt wx F g m) => pget_any F g m site wx hx
  have CK := fun wx => pclock_any now wx
  unfold sentM
  by_cases h : isO m site = true
  · simp only [if_pos h] at G ⊢
    obtain ⟨h0, h1, h2⟩ := isO_true h
    obtain ⟨k, rfl⟩ := Int.eq_ofNat_of_zero_le h0
    have hst := hP.ex.2.1
    have hk : k < 8 := by omega
    simp only [Int.toNat_natCast] at G ⊢
    have HP := Lib.hid hP
    have hcr := clockP_range now
    obtain ⟨T, hT⟩ : ∃ T, clockP now = T := ⟨_, rfl⟩
    rw [hT] at CK hcr ⊢
    clear hT
    obtain ⟨d, hg, hc⟩ := hP
    have q1 := peCell hg rfl (peC_v m d k hk).2.1
    have q2 := peCell hg rfl (peC_v m d k hk).2.2
    have f1 := peFz hg (3 + k * 3 + 1)
    have f2 := peFz hg (3 + k * 3 + 2)
    have FIN : Hid (PeAt ((w.setCell ⟨g, 3 + k * 3 + 1, none⟩ (.bool true)).setCell ⟨g, 3 + k * 3 + 2, none⟩ (.int .i64 T)) F g { m with s := upd m.s k true, a := upd m.a k T }) := by
      refine ⟨d, ?_, ?_⟩
      · have e1 := heap_setCell_same w g (3 + k * 3 + 1) (peC m d) 111 (.bool true) hg
        have e2 := heap_setCell_same _ g (3 + k * 3 + 2) _ 111 (.int .i64 T) e1
        rw [e2, peC_sets m d k hk true T]
        rfl
      · have hk2 : PeC ((w.setCell ⟨g, 3 + k * 3 + 1, none⟩ (.bool true)).setCell ⟨g, 3 + k * 3 + 2, none⟩ (.int .i64 T)) F d m := hc.keep (by simp [World.setCell]) (fun i hi hn => by
          have hne : i ≠ g := fun e => hn (e ▸ hF)
          rw [Below.heap_setCell _ _ _ _ (by simpa using hne), Below.heap_setCell _ _ _ _ (by simpa using hne)])
        refine ⟨hk2.sl, hk2.me, hk2.st, hk2.ev, fun i hi => ?_⟩
        show 0 ≤ upd m.a k T i ∧ upd m.a k T i ≤ _
        unfold upd
        split
        · exact hcr
        · exact hc.a i hi
    have GG := G w HP.out
    clear hg hc h G
    go_enter Tryz.func24, Tryz.ntmps24
    go_wp2_with (first | (go_at_call 81; refine GG.mono ?_; rintro e w1 ⟨rfl, rfl⟩) | (go_at_call 84; refine (CK _).mono ?_; rintro e w1 ⟨rfl, rfl⟩))
    go_ret
    exact ⟨rfl, FIN.out, (But.set g _ w _).trans (But.set g _ _ _)⟩
  · simp only [if_neg h] at G ⊢
    have GG := G w hP
    have HP := Lib.hid hP
    clear h G hP
    go_enter Tryz.func24, Tryz.ntmps24
    go_wp2_with (first | (go_at_call 81; refine GG.mono ?_; rintro e w1 ⟨rfl, rfl⟩))
    go_ret
    exact ⟨rfl, HP.out, But.refl _ _⟩
set_option maxHeartbeats 4000000 in
theorem pnote_any (F : List Nat) (g : Nat) (m : PeM) (site : Int) (x : Sl) (xs : List Int) (w : World) (hP : PeAt w F g m) (hF : g ∈ F) (hFl : ∀ k ∈ F, k < w.heap.size) (hx : SlR w x xs) :
    Calls Tryz.prog 20 #[.pointer (some ⟨g, 0, none⟩), .int .i64 site, .slice x.a x.n x.c] w fun e w' => e = .returned (.bool (noteM m site xs).2) ∧ PeAt w' F g (noteM m site xs).1 ∧ But g w w' := by
  have G := fun wx (hx : PeAt wx F g m) => pget_any F g m site wx hx
  have HX := Lib.hid hx
  unfold noteM
  by_cases h : isO m site = true
  · simp only [if_pos h] at G
    obtain ⟨h0, h1, h2⟩ := isO_true h
    obtain ⟨k, rfl⟩ := Int.eq_ofNat_of_zero_le h0
    have hst := hP.ex.2.1
    have hk : k < 8 := by omega
    simp only [Int.toNat_natCast] at G ⊢
    have GG := G w hP
    have HP := Lib.hid hP
    obtain ⟨d, hg, hc⟩ := hP
    have q0 := peCell hg rfl (peC_v m d k hk).1
    unfold slV at q0
    have hsl := hc.sl k hk
    have CV := covers_any (d k).a x.a (d k).n (d k).c x.n x.c (m.v k) xs w hsl.1.r hx.r hsl.1.nc hsl.1.cb hx.nc hx.cb
    have HG := Lib.hid hg
    have HC := Lib.hid hc
    obtain ⟨B, hB⟩ : ∃ B, covV (m.v k) xs = B := ⟨_, rfl⟩
    rw [hB] at CV ⊢
    cases B
    · rw [if_pos ⟨h, rfl⟩]
      simp only
      have JN := fun wx (hb : Below w.heap.size w wx) => join_any (d k).a x.a (d k).n (d k).c x.n x.c (m.v k) xs wx (hsl.1.below hb).r (HX.out.below hb).r hsl.1.nc hsl.1.cb HX.out.nc HX.out.cb
      have hl8 : (joinV (m.v k) xs).length ≤ 8 := vec_length _
      obtain ⟨js, hjs⟩ : ∃ js, joinV (m.v k) xs = js := ⟨_, rfl⟩
      rw [hjs] at JN hl8 ⊢
      clear hx hg hc hsl h hB hjs G
      go_enter Tryz.func20, Tryz.ntmps20
      go_upto_region 4 with (first
        | (go_at_call 81; refine GG.mono ?_; rintro e w1 ⟨rfl, rfl⟩)
        | (go_at_call 82; refine CV.mono ?_; rintro e w2 ⟨rfl, dn⟩; have HB := Lib.hid dn; clear dn))
      have hg2 := (HB.out.block g (heap_lt HG.out)).trans HG.out
      clear q0
      have q0 := peCell hg2 rfl (peC_v m d k hk).1
      unfold slV at q0
      have HG2 := Lib.hid hg2
      clear hg2
      go_wp2_with (go_at_call 33; refine (JN _ HB.out).mono ?_; rintro e w3 ⟨a', rfl, hV, dn⟩; have HV := Lib.hid hV; have HB3 := Lib.hid dn; clear hV dn; have hg3 := (HB3.out.block g (heap_lt HG2.out)).trans HG2.out; have HG3 := Lib.hid hg3; have q3 := peCell hg3 rfl (peC_v m d k hk).1; have f3 := peFz hg3 (3 + k * 3); clear hg3)
      have hw := HB.out.size
      go_ret
      refine ⟨rfl, ⟨upd d k ⟨a', js.length, js.length⟩, ?_, ?_⟩, ((But.of_below HB.out).trans (But.of_below HB3.out)).trans (But.set g _ _ _)⟩
      · rw [heap_setCell_same _ g (3 + k * 3) _ 111 _ HG3.out]
        show some (Obj.cells ((peC m d).setIfInBounds (3 + k * 3) (slV ⟨a', js.length, js.length⟩)) _ _) = _
        rw [peC_setv m d k hk _ (upd m.v k js)]
        rfl
      · have hb3 : Below w.heap.size w w3 := below_then HB.out HB.out.size HB3.out
        have hd : ∀ i, i < w.heap.size → i ∉ F → (w3.setCell ⟨g, 3 + k * 3, none⟩ (.slice a' js.length js.length)).heap[i]? = w.heap[i]? := fun i hi hn => by
          have hne : i ≠ g := fun e => hn (e ▸ hF)
          rw [Below.heap_setCell _ _ _ _ (by simpa using hne)]
          exact hb3.block i hi
        have hk2 := HC.out.keep (w' := w3.setCell ⟨g, 3 + k * 3, none⟩ (.slice a' js.length js.length)) (by have := hb3.size; simp [World.setCell]; omega) hd
        have hF2 : ∀ q ∈ F, q < w2.heap.size := fun q hq => by have := hFl q hq; omega
        refine ⟨fun i hi => ?_, hk2.me, hk2.st, hk2.ev, hk2.a⟩
        show SlR _ (upd d k _ i) (upd m.v k js i) ∧ _
        unfold upd
        split
        · exact ⟨HV.out.keep hl8 (F := F) hF2 (by simp [World.setCell]) (fun j hj hn => Below.heap_setCell _ _ _ _ (by have hne : j ≠ g := fun e => hn (by rw [e]; exact hF); simpa using hne)), HV.out.far hF2, hl8⟩
        · exact hk2.sl i hi
    · rw [if_neg (fun hh => by simp at hh)]
      simp only
      clear hx hg hc hsl h hB G
      go_enter Tryz.func20, Tryz.ntmps20
      go_wp2_with (first
        | (go_at_call 81; refine GG.mono ?_; rintro e w1 ⟨rfl, rfl⟩)
        | (go_at_call 82; refine CV.mono ?_; rintro e w2 ⟨rfl, dn⟩; have HB := Lib.hid dn; clear dn))
      go_ret
      exact ⟨rfl, HP.out.below HB.out, But.of_below HB.out⟩
  · rw [if_neg (fun hh => h hh.1)]
    simp only [if_neg h] at G ⊢
    have GG := G w hP
    have HP := Lib.hid hP
    clear h G hP hx
    go_enter Tryz.func20, Tryz.ntmps20
    go_wp2_with (first | (go_at_call 81; refine GG.mono ?_; rintro e w1 ⟨rfl, rfl⟩))
    go_ret
    exact ⟨rfl, HP.out, But.refl _ _⟩
end
end Go.Proofs.YtglabahbklpocaaGreat
