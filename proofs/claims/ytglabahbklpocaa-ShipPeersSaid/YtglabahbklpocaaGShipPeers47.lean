/- The reference's Peers: Sent, Note, Least, Behind, Due. -/
import Derived.Test.YtglabahbklpocaaGShipPeers46
import Derived.Test.YtglabahbklpocaaGShipPeers40
import Derived.Test.YtglabahbklpocaaGShipPeers37
namespace Go.Proofs.Ytglabahbklpocaa
section
open Go.RowKit Go.Deep
set_option maxRecDepth 100000
set_option linter.unusedVariables false
set_option linter.unusedSimpArgs false
attribute [local go_sem ↓] Go.wp_at_zero Go.wp_at_succ
theorem rp_held {B g : Nat} {w0 w wd : World} {l : List (Nat × Obj)} {m : PeM} {d : Nat → Sl} (h : Kn B w0 l w) (h1 : (g, rpO m d) ∈ l) (e : wd.heap = w.heap) : wd.heap[g]? = some (rpO m d) := by
  have q1 := h.at_ _ h1
  simp only at q1
  rw [e]
  exact q1
set_option maxHeartbeats 4000000 in
theorem rpsent_any (F : List Nat) (g : Nat) (m : PeM) (site now : Int) (w : World) (hP : RPeAt w F g m) (hF : g ∈ F) :
    Calls Try.prog 16 #[.pointer (some ⟨g, 0, none⟩), .int .i64 site, .int .i64 now] w fun e w' => e = .returned (.bool (sentM m site now).2) ∧ RPeAt w' F g (sentM m site now).1 ∧ But g w w' := by
  have G := rpother_any F g m site w hP
  have CK := fun wx => rclock_any now wx
  unfold sentM
  by_cases h : isO m site = true
  · simp only [if_pos h]
    rw [h] at G
    obtain ⟨h0, h1, h2⟩ := isO_true h
    obtain ⟨k, rfl⟩ := Int.eq_ofNat_of_zero_le h0
    obtain ⟨d, hg, hc, hpl⟩ := hP
    have hst := hc.st
    have hk : k < 8 := by omega
    simp only [Int.toNat_natCast]
    have hcr := clockP_range now
    obtain ⟨T, hT⟩ : ∃ T, clockP now = T := ⟨_, rfl⟩
    rw [hT] at CK hcr ⊢
    have hw : wrap64 (T + 1) = T + 1 := IntWalk.wrap64_in _ ⟨by omega, by omega⟩
    have hw2 : IntKind.i64.wrap (T + 1) = T + 1 := by rw [IntKind.wrap_i64]; omega
    clear hT
    obtain ⟨L, hL⟩ : ∃ L, lastM m k = L := ⟨_, rfl⟩
    have f1 : ∀ wx : World, wx.heap = w.heap → wx.frozen? ⟨g, 11 + k, none⟩ = false ∧ wx.cell? ⟨g, 11 + k, none⟩ = some (.int .i64 L) := fun wx e => ⟨by simp [World.frozen?, e, hg, rpO], by rw [← hL]; exact rpCell hg e (rpC_v m d k hk).2⟩
    clear hL
    have FIN : ∀ wx : World, wx.heap = w.heap → wx.os = w.os → wx.tape = w.tape → wx.output = w.output → Hid (RPeAt (wx.setCell ⟨g, 11 + k, none⟩ (.int .i64 (T + 1))) F g { m with s := upd m.s k true, a := upd m.a k T } ∧ But g w (wx.setCell ⟨g, 11 + k, none⟩ (.int .i64 (T + 1)))) := by
      intro wx e1 e2 e3 e4
      have hg1 : wx.heap[g]? = some (rpO m d) := by rw [e1]; exact hg
      have hb : But g w wx := But.of_below (Below.same (Below.refl _ _) e1 e2 e3 e4)
      have hbs : But g w (wx.setCell ⟨g, 11 + k, none⟩ (.int .i64 (T + 1))) := hb.trans (But.set g _ _ _)
      refine ⟨⟨d, ?_, ?_, hpl⟩, hbs⟩
      · have e := heap_setCell_same wx g (11 + k) (rpC m d) 74 (.int .i64 (T + 1)) hg1
        rw [e]
        unfold rpC rpO rpC
        rw [rpL_setl _ _ _ _ _ k hk, lastM_set]
      · have hk2 : PeC (wx.setCell ⟨g, 11 + k, none⟩ (.int .i64 (T + 1))) F d m := hc.keep hbs.size (fun i hi hn => hbs.block i hi (by simp; exact fun e => hn (e ▸ hF)))
        refine ⟨hk2.sl, hk2.me, hk2.st, hk2.ev, fun i hi => ?_⟩
        show 0 ≤ upd m.a k T i ∧ upd m.a k T i ≤ _
        unfold upd
        split
        · exact hcr
        · exact hc.a i hi
    have i1 : (0 : Int) ≤ (k : Int) := by omega
    have i2 : (k : Int) < 8 := by omega
    clear hg hc h h0 h1 h2 hst hpl
    go_enter Try.func16, Try.ntmps16
    go_upto_region 3 with (first | (go_at_call 36; refine G.mono ?_; rintro e w1 ⟨rfl, rfl⟩))
    refine wp_region_T (t := 8) (S := (fun wx => wx.frozen? ⟨g, 11 + k, none⟩ = false ∧ wx.cell? ⟨g, 11 + k, none⟩ = some (.int .i64 L))) (by kernel_rfl) ?_ (fun hHeld => ?_)
    focus ((try dsimp only); (try (exact f1 _ rfl)); done)
    (refine wpAnyT_takeP (i := 0) (oi := { dst := some 12, op := Go.Op.move (Go.Operand.tmp 0), type := 31, pos := "ref.go:223", after := #[], guard := none }) (v := ?_) rfl (by kernel_rfl) (by kernel_rfl) (by kernel_rfl) (by rfl) (fun _ _ _ h => h) (Or.inl ⟨by rfl, ?_⟩) (fun hl => by first | assumption | exact absurd hl (by decide)) ?_; rotate_left; (focus (intro w hSw; ((try dsimp only at hSw); go_simp; try with_reducible rfl))); (try simp only [Act.put, List.setIfInBounds_toArray, List.set_cons_zero, List.set_cons_succ]))
    (refine wpAnyT_takeP (i := 1) (oi := { dst := some 13, op := Go.Op.move (Go.Operand.tmp 1), type := 3, pos := "ref.go:223", after := #[], guard := none }) (v := ?_) rfl (by kernel_rfl) (by kernel_rfl) (by kernel_rfl) (by rfl) (fun _ _ _ h => h) (Or.inl ⟨by rfl, ?_⟩) (fun hl => by first | assumption | exact absurd hl (by decide)) ?_; rotate_left; (focus (intro w hSw; ((try dsimp only at hSw); go_simp; try with_reducible rfl))); (try simp only [Act.put, List.setIfInBounds_toArray, List.set_cons_zero, List.set_cons_succ]))
    (refine wpAnyT_takeP (i := 2) (oi := { dst := some 14, op := Go.Op.move (Go.Operand.tmp 2), type := 3, pos := "ref.go:223", after := #[], guard := none }) (v := ?_) rfl (by kernel_rfl) (by kernel_rfl) (by kernel_rfl) (by rfl) (fun _ _ _ h => h) (Or.inl ⟨by rfl, ?_⟩) (fun hl => by first | assumption | exact absurd hl (by decide)) ?_; rotate_left; (focus (intro w hSw; ((try dsimp only at hSw); go_simp; try with_reducible rfl))); (try simp only [Act.put, List.setIfInBounds_toArray, List.set_cons_zero, List.set_cons_succ]))
    (refine wpAnyT_takeP (i := 5) (oi := { dst := some 17, op := Go.Op.nilCheck (Go.Operand.tmp 12), type := 0, pos := "ref.go:223", after := #[{ on := 0, ground := Go.Ground.data }], guard := none }) (v := ?_) rfl (by kernel_rfl) (by kernel_rfl) (by kernel_rfl) (by rfl) (fun _ _ _ h => h) (Or.inl ⟨by rfl, ?_⟩) (fun hl => by first | assumption | exact absurd hl (by decide)) ?_; rotate_left; (focus (intro w hSw; ((try dsimp only at hSw); go_simp; try with_reducible rfl))); (try simp only [Act.put, List.setIfInBounds_toArray, List.set_cons_zero, List.set_cons_succ]))
    (refine wpAnyT_takeP (i := 6) (oi := { dst := some 18, op := Go.Op.fieldAddr 74 (Go.Operand.tmp 17) 4, type := 0, pos := "ref.go:223", after := #[{ on := 5, ground := Go.Ground.data }], guard := none }) (v := ?_) rfl (by kernel_rfl) (by kernel_rfl) (by kernel_rfl) (by rfl) (fun _ _ _ h => h) (Or.inl ⟨by rfl, ?_⟩) (fun hl => by first | assumption | exact absurd hl (by decide)) ?_; rotate_left; (focus (intro w hSw; ((try dsimp only at hSw); go_simp; try with_reducible rfl))); (try simp only [Act.put, List.setIfInBounds_toArray, List.set_cons_zero, List.set_cons_succ]))
    (refine wpAnyT_ready (rs := [3]) (by kernel_rfl) (by simp) ?_; refine AllReadyT.cons (o := { dst := some 15, op := Go.Op.call { callee := Go.Callee.value (Go.Operand.func 37), args := #[Go.Operand.tmp 14], argTypes := #[3] }, type := 3, pos := "ref.go:223", after := #[{ on := 2, ground := Go.Ground.data }], guard := none }) rfl (fun K hK => ?_) AllReadyT.nil; go_simp; ((go_at_call 37; refine (CK _).mono ?_; rintro e w1 ⟨rfl, rfl⟩)); go_wp2_with fail; refine hK.out _ _ (fun _ _ => ?_) (fun hHeld => ?_); (focus ((try dsimp only); (try (exact f1 _ rfl)); done)); (replace hHeld := hHeld (by decide) (by rfl)); clear hK; (try simp only [Act.put, List.setIfInBounds_toArray, List.set_cons_zero, List.set_cons_succ]))
    (refine wpAnyT_takeP (i := 4) (oi := { dst := some 16, op := Go.Op.binOp Go.BinOp.add 3 (Go.Operand.tmp 15) (Go.Operand.const (Go.Value.int Go.IntKind.i64 1)) 3, type := 3, pos := "ref.go:223", after := #[{ on := 3, ground := Go.Ground.data }], guard := none }) (v := ?_) rfl (by kernel_rfl) (by kernel_rfl) (by kernel_rfl) (by rfl) (fun _ _ _ h => h) (Or.inl ⟨by rfl, ?_⟩) (fun hl => by first | assumption | exact absurd hl (by decide)) ?_; rotate_left; (focus (intro w hSw; ((try dsimp only at hSw); go_simp; try with_reducible rfl))); (try simp only [Act.put, List.setIfInBounds_toArray, List.set_cons_zero, List.set_cons_succ]))
    (refine wpAnyT_takeP (i := 7) (oi := { dst := some 19, op := Go.Op.indexAddr 72 (Go.Operand.tmp 18) (Go.Operand.tmp 13), type := 0, pos := "ref.go:223", after := #[{ on := 6, ground := Go.Ground.data }, { on := 1, ground := Go.Ground.data }, { on := 0, ground := Go.Ground.phase }, { on := 1, ground := Go.Ground.phase }, { on := 2, ground := Go.Ground.phase }, { on := 3, ground := Go.Ground.phase }, { on := 4, ground := Go.Ground.phase }], guard := none }) (v := ?_) rfl (by kernel_rfl) (by kernel_rfl) (by kernel_rfl) (by rfl) (fun _ _ _ h => h) (Or.inl ⟨by rfl, ?_⟩) (fun hl => by first | assumption | exact absurd hl (by decide)) ?_; rotate_left; (focus (intro w hSw; ((try dsimp only at hSw); go_simp; try with_reducible rfl))); (try simp only [Act.put, List.setIfInBounds_toArray, List.set_cons_zero, List.set_cons_succ]))
    (refine wpAnyT_ready (rs := [8]) (by kernel_rfl) (by simp) ?_; refine AllReadyT.cons (o := { dst := none, op := Go.Op.store 3 (Go.Operand.tmp 19) (Go.Operand.tmp 16), type := 0, pos := "ref.go:223", after := #[{ on := 7, ground := Go.Ground.data }, { on := 4, ground := Go.Ground.data }, { on := 3, ground := Go.Ground.chain }, { on := 0, ground := Go.Ground.phase }, { on := 1, ground := Go.Ground.phase }, { on := 2, ground := Go.Ground.phase }, { on := 3, ground := Go.Ground.phase }, { on := 4, ground := Go.Ground.phase }], guard := none }) rfl (fun K hK => ?_) AllReadyT.nil; ((obtain ⟨z1, z2⟩ := hHeld; go_simp)); refine hK.out _ _ (fun hl => absurd rfl hl) (fun hHeld => ?_); clear hHeld; clear hK; (try simp only [Act.put, List.setIfInBounds_toArray, List.set_cons_zero, List.set_cons_succ]))
    refine wpAnyT_done (by kernel_rfl) ?_ _
    skip
    have FIN := FIN w.drew rfl rfl rfl rfl
    go_wp2_with fail
    go_ret
    exact ⟨rfl, FIN.out.1, FIN.out.2⟩
  · simp only [if_neg h]
    rw [show isO m site = false by simpa using h] at G
    have HP := Lib.hid hP
    clear h hP
    go_enter Try.func16, Try.ntmps16
    go_wp2_with (first | (go_at_call 36; refine G.mono ?_; rintro e w1 ⟨rfl, rfl⟩))
    go_ret
    exact ⟨rfl, HP.out, But.refl _ _⟩
theorem upd_id {α : Type} (f : Nat → α) (i : Nat) : upd f i (f i) = f := by
  funext j
  unfold upd
  split
  · rename_i h; rw [h]
  · rfl
theorem noteM_eq (m : PeM) (k : Nat) (xs : List Int) (ho : isO m (k : Int) = true) (hp : pl (m.v k) = m.v k) : noteM m (k : Int) xs = ({ m with v := upd m.v k (joinV (m.v k) xs) }, !covV (m.v k) xs) := by
  unfold noteM
  rw [Int.toNat_natCast]
  cases hc : covV (m.v k) xs
  · rw [if_pos ⟨ho, rfl⟩]
    rfl
  · rw [if_neg (by simp)]
    have h1 := (covV_iff (m.v k) xs).trans hc
    rw [decide_eq_true_eq, hp] at h1
    rw [h1, upd_id]
    rfl
set_option maxHeartbeats 4000000 in
theorem rpnote_any (F : List Nat) (g : Nat) (m : PeM) (site : Int) (x : Sl) (xs : List Int) (w : World) (hP : RPeAt w F g m) (hF : g ∈ F) (hFl : ∀ k ∈ F, k < w.heap.size) (hx : SlR w x xs) :
    Calls Try.prog 15 #[.pointer (some ⟨g, 0, none⟩), .int .i64 site, .slice x.a x.n x.c] w fun e w' => e = .returned (.bool (noteM m site xs).2) ∧ RPeAt w' F g (noteM m site xs).1 ∧ But g w w' := by
  have G := rpother_any F g m site w hP
  have HX := Lib.hid hx
  by_cases h : isO m site = true
  · rw [h] at G
    obtain ⟨h0, h1, h2⟩ := isO_true h
    obtain ⟨k, rfl⟩ := Int.eq_ofNat_of_zero_le h0
    obtain ⟨d, hg, hc, hpl⟩ := hP
    have hst := hc.st
    have hk : k < 8 := by omega
    rw [noteM_eq m k xs h (hpl k)]
    simp only
    have hsl := (hc.sl k hk).1
    have hj8 : (joinV (m.v k) xs).length ≤ 8 := vec_length _
    have hjs : decide (joinV (m.v k) xs = m.v k) = covV (m.v k) xs := by
      have := covV_iff (m.v k) xs
      rwa [hpl k] at this
    have JN := rjoin_any (d k).a x.a (d k).n (d k).c x.n x.c (m.v k) xs w hsl.r hx.r hsl.nc hsl.cb hx.nc hx.cb
    have hpj := pl_join (m.v k) xs
    generalize covV (m.v k) xs = B at *
    generalize joinV (m.v k) xs = js at *
    have HF : Hid (∀ (a' : Option Addr) (cap' : Nat) (w2 w3 : World), js.length ≤ cap' → cap' ≤ 9223372036854775807 → VecAt w2 w.heap.size a' js → Below w.heap.size w w2 → Below w2.heap.size w2 w3 → RPeAt (w3.setCell ⟨g, 3 + k, none⟩ (.slice a' js.length cap')) F g { m with v := upd m.v k js } ∧ But g w (w3.setCell ⟨g, 3 + k, none⟩ (.slice a' js.length cap'))) := by
      intro a' cap' w2 w3 l1 l2 hV b2 b3
      have hb3 := below_then b2 b2.size b3
      have hg3 : w3.heap[g]? = some (rpO m d) := (hb3.block g (heap_lt hg)).trans hg
      have hbs : But g w3 (w3.setCell ⟨g, 3 + k, none⟩ (.slice a' js.length cap')) := But.set g _ _ _
      have hSj : SlR w3 ⟨a', js.length, cap'⟩ js := SlR.below ⟨hV.reads, l1, l2⟩ b3
      have hfj : farA F ⟨a', js.length, cap'⟩ := by
        rcases hV.own with h0 | ⟨q, e1, e2, _⟩
        · exact .inl (by show js.length = 0; rw [h0]; rfl)
        · exact .inr fun r hr hm => by
            have hr : a' = some r := hr
            rw [e1] at hr
            cases hr
            have := hFl _ hm
            simp only at this
            omega
      have hnF : ∀ i, i ∉ F → i ≠ g := fun i hn e => hn (e ▸ hF)
      refine ⟨⟨upd d k ⟨a', js.length, cap'⟩, ?_, ?_, fun i => ?_⟩, (But.of_below hb3).trans hbs⟩
      · have e := heap_setCell_same w3 g (3 + k) (rpC m d) 74 (.slice a' js.length cap') hg3
        rw [e]
        show some (Obj.cells ((rpL m.me m.sites m.every d (lastM m)).setIfInBounds (3 + k) (slV ⟨a', js.length, cap'⟩)) _ _) = _
        rw [rpL_setv _ _ _ _ _ k hk]
        rfl
      · have hk2 : PeC (w3.setCell ⟨g, 3 + k, none⟩ (.slice a' js.length cap')) F d m := (hc.keep hb3.size (fun i hi _ => hb3.block i hi)).keep hbs.size (fun i hi hn => hbs.block i hi (by simpa using hnF i hn))
        refine ⟨fun i hi => ?_, hk2.me, hk2.st, hk2.ev, hk2.a⟩
        show SlR _ (upd d k _ i) (upd m.v k js i) ∧ farA F (upd d k _ i) ∧ (upd d k _ i).n ≤ 8
        unfold upd
        split
        · exact ⟨hSj.keep hfj hbs.size (fun i hi hn => hbs.block i hi (by simpa using hnF i hn)), hfj, hj8⟩
        · exact hk2.sl i hi
      · show pl (upd m.v k js i) = upd m.v k js i
        unfold upd
        split
        · exact hpj
        · exact hpl i
    have SM : ∀ (a' : Option Addr) (cap' : Nat) (w2 : World), js.length ≤ cap' → cap' ≤ 9223372036854775807 → VecAt w2 w.heap.size a' js → Below w.heap.size w w2 → Calls Try.prog 17 #[.slice a' js.length cap', .slice (d k).a (d k).n (d k).c] w2 fun e w' => e = .returned (.bool B) ∧ Below w2.heap.size w2 w' := fun a' cap' w2 l1 l2 hV b2 => by
      have h3 := hsl.below b2
      have C := same_any a' (d k).a js.length cap' (d k).n (d k).c js (m.v k) w2 hV.reads h3.r l1 l2 h3.nc h3.cb
      rw [hjs] at C
      exact C
    have q0 := rpCell hg rfl (rpC_v m d k hk).1
    unfold slV at q0
    have HG := Lib.hid hg
    have i1 : (0 : Int) ≤ (k : Int) := by omega
    have i2 : (k : Int) < 8 := by omega
    clear hg hc h h0 h1 h2 hst hpl hjs hpj hx
    go_enter Try.func15, Try.ntmps15
    go_upto_region 5 with (first
      | (go_at_call 36; refine G.mono ?_; rintro e w1 ⟨rfl, rfl⟩)
      | (go_at_call 25; refine JN.mono ?_; rintro e w2 ⟨a', cap', rfl, l1, l2, hV, dn⟩; have HV := Lib.hid hV; have HB := Lib.hid dn; clear hV dn))
    have hg2 := (HB.out.block g (heap_lt HG.out)).trans HG.out
    clear q0
    have q0 := rpCell hg2 rfl (rpC_v m d k hk).1
    unfold slV at q0
    have HG2 := Lib.hid hg2
    clear hg2
    go_upto_region 6 with (go_at_call 17; refine (SM a' cap' _ l1 l2 HV.out HB.out).mono ?_; rintro e w3 ⟨rfl, dn⟩; have HB3 := Lib.hid dn; clear dn)
    have hg3 := (HB3.out.block g (heap_lt HG2.out)).trans HG2.out
    have q3 := rpCell hg3 rfl (rpC_v m d k hk).1
    have f3 := rpFz hg3 (3 + k)
    have FIN := Lib.hid (HF.out a' cap' w2 w3 l1 l2 HV.out HB.out HB3.out)
    clear hg3 q0
    go_wp2_with fail
    go_ret
    exact ⟨rfl, FIN.out.1, FIN.out.2⟩
  · have e : noteM m site xs = (m, false) := by unfold noteM; rw [if_neg (fun x => h x.1)]
    rw [e]
    rw [show isO m site = false by simpa using h] at G
    have HP := Lib.hid hP
    clear h hP hx e
    go_enter Try.func15, Try.ntmps15
    go_wp2_with (first | (go_at_call 36; refine G.mono ?_; rintro e w1 ⟨rfl, rfl⟩))
    go_ret
    exact ⟨rfl, HP.out, But.refl _ _⟩
end
end Go.Proofs.Ytglabahbklpocaa
