/- The chapter's examples hold: the contract of 'awake'. -/
import Derived.Test.YtkonflbgkaflaaaGSampleMany34
namespace Go.Proofs.Ytkonflbgkaflaaa
section
open Go.RowKit
set_option maxRecDepth 100000
set_option linter.unusedVariables false
set_option linter.unusedSimpArgs false
attribute [local go_sem ↓] Go.wp_at_zero Go.wp_at_succ
/-- A block of one int. -/
def oneI (v : Int) : Obj := .cells #[.int .i64 v] 3 (0, 0)
def awR : Rc := ⟨1, ⟨#[97]⟩, 1, -1, 0, ⟨1, 0, 1⟩⟩
def awZ : Sl := ⟨none, 0, 0⟩
theorem awR_wf : awR.wf := by simp [Rc.wf, awR, i64', ByteArray.size]
theorem awP : recP awR [] := ⟨by decide +kernel, by decide +kernel, by decide +kernel, by decide +kernel, .inl ⟨rfl, nameV_true (by unfold nameP okC; decide +kernel), rfl⟩⟩
theorem awB : recB awR [] = ⟨#[1, 1, 97, 1, 1, 1, 0, 1, 0]⟩ := by
  unfold recB
  rw [if_pos awP]
  decide +kernel
theorem awN : ¬ recP awR [1] := fun h => absurd h.2.2.2.1 (by decide +kernel)
set_option maxHeartbeats 4000000 in
theorem sawake_any (w : World) : Calls Try.prog 9 #[] w fun e w' => e = .returned (.bool true) ∧ Below w.heap.size w w' := by
  have B0 := fun wx => sbytes_any awR awZ [] wx awR_wf ⟨⟨rfl, .inl rfl⟩, Nat.le_refl _, by decide⟩
  simp only [awB, chkR_0 awP] at B0
  unfold rcVal awZ at B0
  go_enter Try.func9, Try.ntmps9
  go_upto_region 2 with (refine wpList_store_row rfl 26 _ _ rfl w.heap.size (rcA awR awZ) rfl rfl 26 _ (heap_alloc_new _ _) (by kernel_rfl) rfl (by simp [Value.oneCell', rcA]) ?_; rw [World.setRow_alloc_new])
  generalize hw1 : World.alloc _ _ = w1
  have KK := Lib.hid (show Kn w.heap.size w [(w.heap.size, rcO awR awZ)] w1 by rw [← hw1]; exact (Kn.start w).new' rfl (rcO awR awZ))
  clear hw1
  generalize hg : w.heap.size = g at *
  go_upto_region 3 with (first
    | refine wpList_load_row rfl 26 _ rfl g rfl 26 (rcA awR awZ) (0, 0) _ KK.out.hd Try.underlying26 rfl (by kernel_rfl) ?_
    | (go_at_call 12; refine (B0 _).mono ?_; rintro e wn ⟨rfl, dn⟩; have KK := Lib.hid (KK.out.below dn); clear dn))
  clear B0
  have K2 : Kn g w [(wn.heap.size, oneI 1), (g, rcO awR awZ)] (wn.alloc (.cells #[.int .i64 1] 3 (0, 0))) := KK.out.new (oneI 1)
  have c8 : (wn.alloc (.cells #[.int .i64 1] 3 (0, 0))).cell? ⟨g, 8, none⟩ = some (.slice none 0 0) := (rc_cells (K2.at_ (g, rcO awR awZ) (by simp)) rfl).c8
  have f8 : (wn.alloc (.cells #[.int .i64 1] 3 (0, 0))).frozen? ⟨g, 8, none⟩ = false := K2.fz (g := g) (o := rcO awR awZ) (by simp) 8
  go_upto_region 4 with fail
  have hne : wn.heap.size ≠ g := by have := KK.out.fresh; omega
  have K3 := Kn.setCell (K2.sub (m := [(g, rcO awR awZ), (wn.heap.size, oneI 1)]) (by simp)) (by simp only [Apart, and_true]; omega) (by omega) 8 (.slice (some ⟨wn.heap.size, 0, none⟩) 1 1) (rcO awR ⟨some ⟨wn.heap.size, 0, none⟩, 1, 1⟩) rfl
  clear c8 f8 K2
  generalize hw3 : World.setCell _ _ _ = w3 at K3 ⊢
  clear hw3
  obtain ⟨k, hk⟩ : ∃ k, wn.heap.size = k := ⟨_, rfl⟩
  rw [hk] at K3 hne ⊢
  have KK := Lib.hid K3
  have N1 := fun wx => name_any ⟨#[99, 112, 117, 46, 48]⟩ wx (by decide)
  have N2 := fun wx => name_any ⟨#[48, 99, 112, 117]⟩ wx (by decide)
  have N3 := fun wx => name_any ⟨#[]⟩ wx (by decide)
  rw [nameV_true (by unfold nameP okC; decide +kernel)] at N1
  rw [nameV_false (by unfold nameP okC; decide +kernel)] at N2 N3
  have hs : SlR w3 ⟨some ⟨k, 0, none⟩, 1, 1⟩ [1] := ⟨⟨rfl, .inr ⟨_, _, rfl, by have := KK.out.lt (k, oneI 1) (by simp); exact this, fun j hj => by
    have : j = 0 := by simp at hj; omega
    subst this
    exact KK.out.cell (g := k) (o := oneI 1) (by simp) rfl⟩⟩, Nat.le_refl _, by simp⟩
  have C5 := scheck_any awR ⟨some ⟨k, 0, none⟩, 1, 1⟩ [1] w3 awR_wf hs
  rw [chkR_1 awN] at C5
  clear hs K3 hne
  go_wp2_with (first
    | refine wpList_load_row_w (by rfl) 26 _ rfl g rfl 26 (rcA awR ⟨some ⟨k, 0, none⟩, 1, 1⟩) (0, 0) _ KK.out.hd Try.underlying26 rfl (by kernel_rfl) ?_
    | (go_at_call_of 18 (#[.string ⟨#[99, 112, 117, 46, 48]⟩] : Array Value); refine (N1 _).mono ?_; rintro e wx ⟨rfl, rfl⟩)
    | (go_at_call_of 18 (#[.string ⟨#[48, 99, 112, 117]⟩] : Array Value); refine (N2 _).mono ?_; rintro e wx ⟨rfl, rfl⟩)
    | (go_at_call_of 18 (#[.string ⟨#[]⟩] : Array Value); refine (N3 _).mono ?_; rintro e wx ⟨rfl, rfl⟩)
    | (go_at_call 16; refine C5.mono ?_; rintro e wz ⟨rfl, dn⟩; have KK := Lib.hid (KK.out.below dn)))
  go_ret
  exact ⟨rfl, by first | exact KK.out.b | (rw [hg]; exact KK.out.b)⟩
end
end Go.Proofs.Ytkonflbgkaflaaa
