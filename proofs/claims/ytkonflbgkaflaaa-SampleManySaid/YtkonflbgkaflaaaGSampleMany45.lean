/- The reference's SamePoints. A record among the arguments; the law's short, small. -/
import Derived.Test.YtkonflbgkaflaaaGSampleMany40
import Derived.Test.YtkonflbgkaflaaaGSampleMany24
import Derived.Test.YtkonflbgkaflaaaGSampleMany29
import Derived.Test.YtkonflbgkaflaaaGSampleMany39
namespace Go.Proofs.Ytkonflbgkaflaaa
section
open Go.RowKit
set_option maxRecDepth 100000
set_option linter.unusedVariables false
set_option linter.unusedSimpArgs false
attribute [local go_sem ↓] Go.wp_at_zero Go.wp_at_succ
open Classical in
noncomputable def sameP (xs ys : List Pt) : Bool := decide (xs = ys)
theorem sameP_true {xs ys : List Pt} (h : xs = ys) : sameP xs ys = true := by unfold sameP; simp [h]
theorem sameP_false {xs ys : List Pt} (h : xs ≠ ys) : sameP xs ys = false := by unfold sameP; simp [h]
set_option maxHeartbeats 4000000 in
theorem samepts_any (a1 a2 : Option Addr) (n1 c1 n2 c2 : Nat) (xs ys : List Pt) (w : World) (h1 : ReadsE Pt.cs 6 w a1 n1 xs) (h2 : ReadsE Pt.cs 6 w a2 n2 ys) (hx : ∀ x ∈ xs, x.wf) (hy : ∀ x ∈ ys, x.wf) (hc1 : n1 ≤ c1) (hb1 : c1 ≤ 9223372036854775807) (hc2 : n2 ≤ c2) (hb2 : c2 ≤ 9223372036854775807) :
    Calls Try.prog 34 #[.slice a1 n1 c1, .slice a2 n2 c2] w fun e w' => e = .returned (.bool (sameP xs ys)) ∧ Below w.heap.size w w' := by
  obtain ⟨V, HV⟩ : ∃ V, Hid (V = sameP xs ys) := ⟨_, rfl⟩
  rw [← HV.out]
  have l1 := h1.1
  have l2 := h2.1
  have H1 := Lib.hid h1
  have H2 := Lib.hid h2
  clear h1 h2
  by_cases hn : n1 = n2
  · subst hn
    have t1 : ((n1 : Int) != (n1 : Int)) = false := by simp
    go_enter Try.func34, Try.ntmps34
    go_wp2_with fail
    go_loopw [5] (fun i wr => ∃ k : Nat, k ≤ n1 ∧ i = .int .i64 k ∧ xs.take k = ys.take k ∧ Below w.heap.size w wr) (fun i _ => n1 - (intOf i).toNat)
    case atStart => exact ⟨0, by omega, rfl, by simp, Below.refl _ _⟩
    case round =>
      obtain ⟨k, hk, rfl, he, hb⟩ := hrel
      have HE := Lib.hid he
      clear he
      by_cases hlt : k < n1
      · have t2 : decide ((k : Int) < (n1 : Int)) = true := decide_eq_true (by omega)
        obtain ⟨b, o, x, rfl, _, hxk, hC⟩ := H1.out.at hb k hlt
        obtain ⟨b', o', y, rfl, _, hyk, hD⟩ := H2.out.at hb k hlt
        have NE0 := fun wx => (eq_pt x y (hx x (List.mem_of_getElem? hxk)) (hy y (List.mem_of_getElem? hyk)) wx).2
        obtain ⟨a0, a1, a2, a3, a4, a5⟩ := pt_cells hC
        obtain ⟨b0, b1, b2, b3, b4, b5⟩ := pt_cells hD
        have i1 : (0 : Int) ≤ (k : Int) := by omega
        have i2 : (k : Int) < (n1 : Int) := by omega
        clear hC hD
        by_cases hxy : x = y
        · have hs : Hid (xs.take (k + 1) = ys.take (k + 1)) := by
            show _ = _
            rw [List.take_add_one, List.take_add_one, HE.out, hxk, hyk, hxy]
          have NE : ∀ wx : World, (binOp .neq 34 x.val y.val).run Try.prog wx = .ok (.bool false) wx := fun wx => (NE0 wx).trans (by simp [hxy])
          unfold Pt.val at NE
          clear NE0 hxy hxk hyk
          go_wp2_with (go_quiet (fail))
          go_roundw
          case rel => exact ⟨k + 1, by omega, by go_num, hs.out, below_same hb rfl rfl rfl rfl⟩
          case measure => simp [intOf]; omega
        · have HV := Lib.hid (HV.out.trans (sameP_false (fun e => hxy (by rw [e, hyk] at hxk; exact (Option.some.inj hxk).symm))))
          have NE : ∀ wx : World, (binOp .neq 34 x.val y.val).run Try.prog wx = .ok (.bool true) wx := fun wx => (NE0 wx).trans (by simp [hxy])
          unfold Pt.val at NE
          clear NE0 hxy hxk hyk
          go_wp2_with (go_quiet (fail))
          go_ret
          exact ⟨by rw [HV.out]; rfl, below_same hb rfl rfl rfl rfl⟩
      · obtain rfl : k = n1 := by omega
        have t2 : decide ((k : Int) < (k : Int)) = false := decide_eq_false (by omega)
        have HV := Lib.hid (HV.out.trans (sameP_true (by have := HE.out; rwa [List.take_of_length_le (by omega), List.take_of_length_le (by omega)] at this)))
        go_wp2_with fail
        go_ret
        exact ⟨by rw [HV.out]; rfl, hb⟩
  · have t1 : ((n1 : Int) != (n2 : Int)) = true := bne_iff_ne.2 (by omega)
    have HV := Lib.hid (HV.out.trans (sameP_false (fun e => hn (by rw [← l1, ← l2, e]))))
    go_enter Try.func34, Try.ntmps34
    go_wp2_with fail
    go_ret
    exact ⟨by rw [HV.out]; rfl, Below.refl _ _⟩
end
end Go.Proofs.Ytkonflbgkaflaaa
namespace Go.Proofs.Ytkonflbgkaflaaa
section
open Go.ChangeShapes Go.WideShapes Go.ChangeAt Go.RowKit Go.Joins Go.Deep
set_option maxRecDepth 100000
set_option linter.unusedVariables false
set_option linter.unusedSimpArgs false
attribute [local go_sem ↓] Go.wp_at_zero Go.wp_at_succ
def recL : List Leaf := [.int .i64, .str, .int .i64, .int .i64, .int .i64, .int .i64, .int .i64, .int .i64, .sl 24 3]
theorem rec_leaves : leaves Try.prog 5 26 = some recL := by kernel_rfl
theorem leaf_ints {H : Type} {enc : TypeId × Value → H} {W : World} {v : Value} (h : LeafIs enc Try.prog W (.sl 24 3) v) : ∃ xs, IsInts .i64 W v xs := by
  obtain ⟨_, fuel, y, hf⟩ := h
  have ht := Try.underlying24
  have he := Try.underlying3
  rcases open_ints ht he (by kernel_rfl) hf with ⟨hcs, _⟩ | ⟨x, l, c, zs, hcs, _, hl, hm, hz, _, hcell, hwz⟩
  · simp only [List.cons.injEq, and_true] at hcs
    subst hcs
    exact ⟨[], none, 0, 0, rfl, by omega, by omega, ⟨rfl, .inl rfl⟩, by simp⟩
  · simp only [List.cons.injEq, and_true] at hcs
    subst hcs
    have hz' : zs.length = c := by simpa using hz
    refine ⟨zs.take l, some x, l, c, rfl, hl, by unfold maxLen at hm; omega, ⟨by rw [List.length_take]; omega, ?_⟩, fun y hy => hwz y (List.mem_of_mem_take hy)⟩
    rcases Nat.eq_zero_or_pos l with h0 | h0
    · exact .inl h0
    · right
      obtain ⟨b, off, spot⟩ := x
      have hc0 := hcell 0 (by omega)
      have hspot : spot = none := by simpa [Addr.add] using World.cell?_spot hc0
      subst hspot
      have hadd : ∀ j, (⟨b, off, none⟩ : Addr).add j = ⟨b, off + j, none⟩ := fun j => by unfold Addr.add; split <;> simp_all
      refine ⟨b, off, rfl, ?_, fun j hj => ?_⟩
      · have := World.block_lt_of_cell? _ _ hc0
        rw [hadd] at this
        exact this
      · have := hcell j (by omega)
        rw [hadd] at this
        rw [this]
        simp [List.getD_eq_getElem?_getD, hj]
structure RecA where
  r : Rc
  d : Sl
  ds : List Int
def RecA.val (x : RecA) : Value := rcVal x.r x.d
structure RecA.ok (w : World) (x : RecA) : Prop where
  wf : x.r.wf
  sl : SlR w x.d x.ds
def IsRec (w : World) (v : Value) (x : RecA) : Prop := v = x.val ∧ x.ok w
theorem maxLen_i {n : Nat} (h : n ≤ maxLen) : n ≤ 9223372036854775807 := by unfold maxLen at h; omega
theorem open_isRec {H : Type} {enc : TypeId × Value → H} {W : World} {r : Reach} {b0 : Nat} {v : Value} {d : DataW H} {ps : List MemPlace} (hval : Value.okWide Try.prog W r b0 26 v) (hd : DataW.Trod enc Try.prog W 0 (fun _ => true) true 26 v d ps) : ∃ x, IsRec W v x := by
  obtain ⟨cs, rfl, hf⟩ := open_fits 5 recL rec_leaves (by kernel_rfl) hval hd
  have hl := fits_len hf
  match cs, hl with
  | [v0, v1, v2, v3, v4, v5, v6, v7, v8], _ =>
    obtain ⟨⟨n0, rfl, w0⟩, ⟨s, rfl, w1⟩, ⟨n2, rfl, w2⟩, ⟨n3, rfl, w3⟩, ⟨n4, rfl, w4⟩, ⟨n5, rfl, w5⟩, ⟨n6, rfl, w6⟩, ⟨n7, rfl, w7⟩, hs, _⟩ := hf
    obtain ⟨xs, a, n, c, rfl, h1, h2, h3, _⟩ := leaf_ints hs
    exact ⟨⟨⟨n0, s, n2, n3, n4, ⟨n5, n6, n7⟩⟩, ⟨a, n, c⟩, xs⟩, rfl, ⟨i64_of w0, maxLen_i w1, i64_of w2, i64_of w3, i64_of w4, i64_of w5, i64_of w6, i64_of w7⟩, h3, h1, h2⟩
end
end Go.Proofs.Ytkonflbgkaflaaa
