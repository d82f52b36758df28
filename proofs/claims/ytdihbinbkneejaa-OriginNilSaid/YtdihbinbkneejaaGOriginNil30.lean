/- mark.With: another number for a site. -/
import Derived.Test.YtdihbinbkneejaaGOriginNil12
import Derived.Test.YtdihbinbkneejaaGOriginNil10
import Derived.Deep.DeepCutAuto
import Derived.Deep.CutBlock
namespace Go.Proofs.Ytdihbinbkneejaa
section
open Go.RowKit
set_option maxRecDepth 100000
set_option linter.unusedVariables false
set_option linter.unusedSimpArgs false
theorem VecAt.stored {w : World} {B g : Nat} {l : List Int} (h : VecAt w B (some ⟨g, 0, none⟩) l) (i : Nat) (hi : i < l.length) (x : Int) : ReadsI .i64 (w.setCell ⟨g, i, none⟩ (.int .i64 x)) (some ⟨g, 0, none⟩) l.length (l.set i x) := by
  obtain ⟨g', e, _, hlt, hc, _⟩ := h.cell i hi
  obtain rfl : g = g' := by simpa using e
  refine ⟨by simp, .inr ⟨g, 0, rfl, by simpa using hlt, fun j hj => ?_⟩⟩
  rw [Nat.zero_add]
  by_cases hij : i = j
  · subst hij
    rw [World.cell?_setCell_same _ _ _ hc, List.getD_eq_getElem?_getD, List.getElem?_set_self hi]
    rfl
  · rw [World.cell?_setCell_other _ _ _ _ (by simp [hij])]
    obtain ⟨g', e, _, _, hc2, _⟩ := h.cell j hj
    obtain rfl : g = g' := by simpa using e
    rw [hc2, List.getD_eq_getElem?_getD, List.getD_eq_getElem?_getD, List.getElem?_set_ne hij]
/-- What the vector of a longer list with another number is. -/
theorem pl_with (xs : List Int) (k : Nat) (s : Nat) (hs : s < 8) (n : Int) (hl : s < (pl xs ++ List.replicate k 0).length) : pl ((pl xs ++ List.replicate k 0).set s n) = withV xs s n := by
  unfold withV
  apply vec_ext
  intro i hi
  unfold nm
  rw [List.getD_eq_getElem?_getD, List.getElem?_set]
  by_cases h : s = i
  · subst h
    rw [if_pos rfl, if_pos hl, if_pos rfl]
    rfl
  · rw [if_neg h, if_neg (by omega)]
    have e : (pl xs ++ List.replicate k 0)[i]?.getD 0 = (pl xs).getD i 0 := by
      rw [List.getD_eq_getElem?_getD, List.getElem?_append]
      split
      · rfl
      · rename_i h2
        rw [List.getElem?_eq_none (Nat.le_of_not_lt h2)]
        rw [List.getElem?_replicate]
        split <;> rfl
    rw [e, pl_getD, if_pos hi]
    exact cl_id (nm_range xs i).1 (nm_range xs i).2
theorem withV_out (xs : List Int) (s n : Int) (h : s < 0 ∨ 8 ≤ s) : withV xs s n = pl xs := vec_ext fun i hi => if_neg (by omega)
theorem withV_length (xs : List Int) (s n : Int) : (withV xs s n).length ≤ 8 := vec_length _
set_option maxHeartbeats 2000000 in
theorem with_any (a : Option Addr) (n c : Nat) (xs : List Int) (site v : Int) (w : World) (h : ReadsI .i64 w a n xs) (hnc : n ≤ c) (hcb : c ≤ 9223372036854775807) (h0 : -9223372036854775808 ≤ site) (h1 : site ≤ 9223372036854775807) :
    Calls Try.prog 41 #[.slice a n c, .int .i64 site, .int .i64 v] w fun e w' => ∃ a', e = .returned (.slice a' (withV xs site v).length (withV xs site v).length) ∧ VecAt w' w.heap.size a' (withV xs site v) ∧ Below w.heap.size w w' := by
  by_cases hout : site < 0 ∨ 8 ≤ site
  · rw [withV_out xs site v hout]
    rcases hout with ho | ho
    · have t1 : decide (site < 0) = true := decide_eq_true ho
      go_enter Try.func41, Try.ntmps41
      go_wp2_with fail
      refine (plain_any a n c xs w h hnc hcb).mono ?_
      rintro e w1 ⟨a', rfl, hv, hb⟩
      go_wp2
      go_ret
      exact ⟨a', rfl, hv, hb⟩
    · have t1 : decide (site < 0) = false := decide_eq_false (by omega)
      have t2 : decide (8 ≤ site) = true := decide_eq_true ho
      go_enter Try.func41, Try.ntmps41
      go_wp2_with fail
      refine (plain_any a n c xs w h hnc hcb).mono ?_
      rintro e w1 ⟨a', rfl, hv, hb⟩
      go_wp2
      go_ret
      exact ⟨a', rfl, hv, hb⟩
  · obtain ⟨s, rfl⟩ : ∃ s : Nat, site = s := ⟨site.toNat, by omega⟩
    have t1 : decide ((s : Int) < 0) = false := decide_eq_false (by omega)
    have t2 : decide (8 ≤ (s : Int)) = false := decide_eq_false (by omega)
    have hs8 : s < 8 := by omega
    have hl8 := pl_length xs
    obtain ⟨V, HV⟩ : ∃ V, Hid (V = withV xs s v) := ⟨_, rfl⟩
    rw [← HV.out]
    have HW := Lib.hid fun k hl => pl_with xs k s hs8 v hl
    go_enter Try.func41, Try.ntmps41
    go_wp2_with fail
    refine (plain_any a n c xs w h hnc hcb).mono ?_
    rintro e w1 ⟨a', rfl, hv, hb⟩
    have hg := hv.grow (by omega)
    clear hv
    generalize pl xs = P at *
    have HG := Lib.hid hg
    clear hg hout
    go_wp2_with fail
    go_loopw [7] (fun p wr => ∃ (a2 : Option Addr) (n2 cap2 k : Nat), p = .slice a2 n2 cap2 ∧ n2 ≤ 8 ∧ GrowI wr w.heap.size a2 n2 cap2 (P ++ List.replicate k 0) ∧ Below w.heap.size w wr) (fun p _ => 9 - (match p with | .slice _ n2 _ => n2 | _ => 0))
    case atStart => exact ⟨a', P.length, P.length, 0, rfl, hl8, by simpa using HG.out, hb⟩
    case round =>
      obtain ⟨a2, n2, cap2, k, rfl, hn8, hgr, hbel⟩ := hrel
      have hlen := hgr.len
      have hle := hgr.le
      have hmax : cap2 ≤ 9223372036854775807 := hgr.max
      have HGr := Lib.hid hgr
      clear hgr
      by_cases hle2 : n2 ≤ s
      · have t3 : decide (n2 ≤ s) = true := decide_eq_true hle2
        go_wp2_with (at_builtin; refine wpList_append_int rfl _ _ rfl _ w.heap.size a2 n2 cap2 (P ++ List.replicate k 0) rfl (HGr.out.below ?q1) ?q2 ?q3 ⟨wr.heap.size, 0, none⟩ 1 0 rfl ?q4 ?q5)
        case q1 => exact (Below.refl _ _).alloc (Nat.le_refl _) _
        case q2 => exact Nat.le_trans hbel.size (by simp)
        case q3 => omega
        case q4 => rw [World.cell?_alloc_new]; rfl
        case q5 =>
          intro a3 cap3 w3 hg3 hb3
          have HG3 := Lib.hid hg3
          clear hg3
          have hb4 : Below w.heap.size w w3 := (hbel.alloc hbel.size _).trans hb3
          go_wp2
          go_roundw
          case rel => exact ⟨a3, n2 + 1, cap3, k + 1, rfl, by omega, by rw [List.replicate_succ', ← List.append_assoc]; exact (by rw [← List.append_assoc] at HG3; exact HG3.out), hb4⟩
          case measure => simp; omega
      · have t3 : decide (n2 ≤ s) = false := decide_eq_false hle2
        obtain ⟨g, rfl, hgB, hglt, hcell, hfz⟩ := HGr.out.vec.cell s (by omega)
        have HS := Lib.hid (HGr.out.vec.stored s (by omega) v)
        have HWk := Lib.hid (HW.out k (by omega))
        have hbel2 : Below w.heap.size w (wr.setCell ⟨g, s, none⟩ (.int .i64 v)) := hbel.setCell (p := ⟨g, s, none⟩) hgB _
        have i1 : (0 : Int) ≤ (s : Int) := by omega
        have i2 : (s : Int) < (n2 : Int) := by omega
        rw [hlen] at HS
        generalize (P ++ List.replicate k 0).getD s 0 = y at *
        go_wp2_with fail
        refine (plain_any _ n2 cap2 _ _ HS.out hle hmax).mono ?_
        rintro e w3 ⟨a', rfl, hv, hb3⟩
        rw [HWk.out, ← HV.out] at hv ⊢
        go_wp2
        go_ret
        exact ⟨a', rfl, hv.mono hbel2.size, below_then hbel2 hbel2.size hb3⟩
end
end Go.Proofs.Ytdihbinbkneejaa
