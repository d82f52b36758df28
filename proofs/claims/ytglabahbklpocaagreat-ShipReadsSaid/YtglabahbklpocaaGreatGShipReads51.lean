/- Chapter 19's examples hold: the contract of 'awake'. Any bytes are read as the message that they are, or refused: both packages say the same. -/
import Derived.Test.YtglabahbklpocaaGreatGShipReads14
import Derived.Test.YtglabahbklpocaaGreatGShipReads50
import Derived.Test.YtglabahbklpocaaGreatGShipReads49
namespace Go.Proofs.YtglabahbklpocaaGreat
section
open Go.RowKit Go.Deep
set_option maxRecDepth 100000
set_option linter.unusedVariables false
set_option linter.unusedSimpArgs false
attribute [local go_sem ↓] Go.wp_at_zero Go.wp_at_succ
theorem sl_newH (w : World) (xs : List Int) (h : xs.length ≤ 1000) : SlR (w.alloc (.cells (xs.map (Value.int .i64)).toArray 3)) ⟨some ⟨w.heap.size, 0, none⟩, xs.length, xs.length⟩ xs := by
  refine ⟨⟨rfl, .inr ⟨w.heap.size, 0, rfl, by simp, fun j hj => ?_⟩⟩, Nat.le_refl _, by show xs.length ≤ _; omega⟩
  rw [Nat.zero_add, World.cell?_alloc_new]
  simp only at hj
  simp [List.getD_eq_getElem?_getD, hj]
def aw1 : Wi := ⟨2, 300, ⟨#[]⟩, 0, 0, ⟨none, 0, 0⟩, ⟨none, 0, 0⟩, ⟨none, 0, 0⟩, 0⟩
def aw2 (d : Sl) : Wi := ⟨6, 0, ⟨#[]⟩, 0, 0, ⟨none, 0, 0⟩, ⟨none, 0, 0⟩, d, 0⟩
def awP0 : PeM := newP 0 3 5
def awP1 : PeM := (noteM awP0 1 [2]).1
def awP2 : PeM := (noteM awP1 2 [0, 1]).1
def awP3 : PeM := (sentM awP2 1 7).1
theorem aw_s : vput 2 ++ vput 300 = ⟨#[2, 172, 2]⟩ := by decide +kernel
theorem aw_t : vput 6 ++ vput 0 ++ ⟨(mtB (pl [1, 0, 2])).toArray⟩ = ⟨#[6, 0, 3, 1, 0, 2]⟩ := by decide +kernel
theorem aw_n1 : noteM awP0 1 [2] = (awP1, true) := by
  have : (noteM awP0 1 [2]).2 = true := by decide +kernel
  rw [← this]
  rfl
theorem aw_n2 : noteM awP1 2 [0, 1] = (awP2, true) := by
  have : (noteM awP1 2 [0, 1]).2 = true := by decide +kernel
  rw [← this]
  rfl
theorem aw_l : leastM awP2 [2, 1] = [] := by decide +kernel
theorem aw_d1 : dueM awP2 7 = [1, 2] := by decide +kernel
theorem aw_d2 : dueM awP3 8 = [2] := by decide +kernel
theorem aw_d3 : dueM awP3 12 = [1, 2] := by decide +kernel
theorem aw_se : sentM awP2 1 7 = (awP3, true) := by
  have : (sentM awP2 1 7).2 = true := by decide +kernel
  rw [← this]
  rfl
/-- Peers, and what was there. -/
structure PeI (w0 : World) (g : Nat) (m : PeM) (w : World) : Prop where
  p : PeAt w [g] g m
  b : Below w0.heap.size w0 w
section
variable {w0 w w' : World} {g : Nat} {m m' : PeM}
theorem PeI.below (h : PeI w0 g m w) (d : Below w.heap.size w w') : PeI w0 g m w' := ⟨h.p.below d, below_then h.b h.b.size d⟩
theorem PeI.but (h : PeI w0 g m w) (h1 : PeAt w' [g] g m') (d : But g w w') (hg : w0.heap.size ≤ g) : PeI w0 g m' w' := ⟨h1, But.below h.b d h.b.size hg⟩
theorem PeI.alloc (h : PeI w0 g m w) (o : Obj) : PeI w0 g m (w.alloc o) := h.below ((Below.refl _ _).alloc (Nat.le_refl _) o)
theorem PeI.fl (h : PeI w0 g m w) : ∀ k ∈ [g], k < w.heap.size := fun k hk => by simp only [List.mem_singleton] at hk; subst hk; exact h.p.lt
end
theorem aw_b6 (wx : World) : Calls Tryz.prog 12 #[.agg #[.int .i64 6, .int .i64 0, .string ⟨#[]⟩, .int .i64 0, .int .i64 0, .slice none 0 0, .slice none 0 0, .slice (some ⟨wx.heap.size, 0, none⟩) 3 3, .int .i64 0]] (wx.alloc (.cells #[.int .i64 1, .int .i64 0, .int .i64 2] 3)) fun e w' => e = .returned (.tuple #[.string ⟨#[6, 0, 3, 1, 0, 2]⟩, .int .i64 0]) ∧ Below wx.heap.size wx w' := by
  have z0 : i64' 0 := ⟨by decide, by decide⟩
  have h0 : (⟨#[]⟩ : ByteArray).toList.isEmpty = true := by decide +kernel
  have C := bytes6_any (aw2 ⟨some ⟨wx.heap.size, 0, none⟩, 3, 3⟩) [1, 0, 2] (wx.alloc (.cells #[.int .i64 1, .int .i64 0, .int .i64 2] 3)) rfl z0 z0 rfl (by unfold Wi.none aw2; simp only; rw [h0]; rfl) (sl_newH wx [1, 0, 2] (by decide)) (by decide +kernel)
  have e : vput 6 ++ vput (aw2 ⟨some ⟨wx.heap.size, 0, none⟩, 3, 3⟩).id ++ ⟨(mtB (pl [1, 0, 2])).toArray⟩ = ⟨#[6, 0, 3, 1, 0, 2]⟩ := aw_t
  rw [e] at C
  exact C.mono fun e w' ⟨h1, h2⟩ => ⟨h1, ((Below.refl wx.heap.size wx).alloc (Nat.le_refl _) _).trans (h2.mono (by simp))⟩
set_option maxHeartbeats 16000000 in
theorem hawake_any (w : World) : Calls Tryz.prog 6 #[] w fun e w' => e = .returned (.bool true) ∧ Below w.heap.size w w' := by
  have z0 : i64' 0 := ⟨by decide, by decide⟩
  have z3 : i64' 3 := ⟨by decide, by decide⟩
  have z5 : i64' 5 := ⟨by decide, by decide⟩
  have B2 := fun wx => bytes2_any aw1 wx rfl z0 z0 (by decide +kernel) (by decide +kernel)
  rw [show vput 2 ++ vput aw1.id = _ from aw_s] at B2
  simp only [aw1, Wi.arr] at B2
  have PN := fun wx => pnew_any [] 0 3 5 wx z0 z3 z5
  go_enter Tryz.func6, Tryz.ntmps6
  go_upto_region 2 with (go_at_call 12; refine (B2 _).mono ?_; rintro e w1 ⟨rfl, d1⟩; have HB := Lib.hid d1; clear d1)
  go_upto_region 3 with (go_at_call 12; refine (aw_b6 _).mono ?_; rintro e w2 ⟨rfl, d2⟩; have HB := Lib.hid (below_then HB.out HB.out.size d2); clear d2)
  go_upto_region 6 with (go_at_call 19; refine (PN _).mono ?_; rintro e w3 ⟨rfl, hp, d3⟩; have PP := Lib.hid (show PeI w w2.heap.size awP0 w3 from ⟨hp, below_then HB.out HB.out.size d3⟩); clear hp d3)
  have hgw : w.heap.size ≤ w2.heap.size := HB.out.size
  generalize w2.heap.size = g at *
  have N1 := pnote_any [g] g awP0 1 ⟨some ⟨w3.heap.size, 0, none⟩, 1, 1⟩ [2] _ (PP.out.alloc (.cells #[.int .i64 2] 3)).p (by simp) (PP.out.alloc _).fl (sl_newH w3 [2] (by decide))
  rw [aw_n1] at N1
  go_upto_region 7 with (go_at_call 20; refine N1.mono ?_; rintro e w4 ⟨rfl, hn, dn⟩; have PP := Lib.hid ((PP.out.alloc (.cells #[.int .i64 2] 3)).but hn dn hgw); clear hn dn N1)
  have N2 := pnote_any [g] g awP1 2 ⟨some ⟨w4.heap.size, 0, none⟩, 2, 2⟩ [0, 1] _ (PP.out.alloc (.cells #[.int .i64 0, .int .i64 1] 3)).p (by simp) (PP.out.alloc _).fl (sl_newH w4 [0, 1] (by decide))
  rw [aw_n2] at N2
  go_upto_region 8 with (go_at_call 20; refine N2.mono ?_; rintro e w5 ⟨rfl, hn, dn⟩; have PP := Lib.hid ((PP.out.alloc (.cells #[.int .i64 0, .int .i64 1] 3)).but hn dn hgw); clear hn dn N2)
  have L1 := pleast_any [g] g awP2 ⟨some ⟨w5.heap.size, 0, none⟩, 2, 2⟩ [2, 1] _ (PP.out.alloc (.cells #[.int .i64 2, .int .i64 1] 3)).p (sl_newH w5 [2, 1] (by decide))
  rw [aw_l] at L1
  go_upto_region 9 with (go_at_call 21; refine L1.mono ?_; rintro e w6 ⟨o, rfl, hs, _, dn⟩; have hz : o.n = 0 := hs.r.1.symm; have PP := Lib.hid ((PP.out.alloc (.cells #[.int .i64 2, .int .i64 1] 3)).below dn); clear hs dn L1)
  obtain ⟨oa, on, oc⟩ := o
  simp only at hz
  subst hz
  have D1 := pdue_any [g] g awP2 7 w6 PP.out.p
  rw [aw_d1] at D1
  go_upto_region 10 with (first
    | (go_at_call 23; refine D1.mono ?_; rintro e w7 ⟨o7, rfl, hs, dn⟩; have PP := Lib.hid (PP.out.below dn); have H7 := Lib.hid hs; clear hs dn D1)
    | (go_at_call 22; refine (same_any o7.a (some ⟨w7.heap.size, 0, none⟩) o7.n o7.c 2 2 [1, 2] [1, 2] _ (H7.out.below ((Below.refl _ _).alloc (Nat.le_refl _) _)).r (sl_newH w7 [1, 2] (by decide)).r H7.out.nc H7.out.cb (by decide) (by decide)).mono ?_; rintro e w8 ⟨rfl, dn⟩; have PP := Lib.hid ((PP.out.alloc (.cells #[.int .i64 1, .int .i64 2] 3)).below dn); clear dn))
  have S1 := psent_any [g] g awP2 1 7 w8 PP.out.p (by simp)
  rw [aw_se] at S1
  go_upto_region 11 with (go_at_call 24; refine S1.mono ?_; rintro e w9 ⟨rfl, hn, dn⟩; have PP := Lib.hid (PP.out.but hn dn hgw); clear hn dn S1)
  have D2 := pdue_any [g] g awP3 8 w9 PP.out.p
  rw [aw_d2] at D2
  go_upto_region 12 with (first
    | (go_at_call 23; refine D2.mono ?_; rintro e w10 ⟨o10, rfl, hs, dn⟩; have PP := Lib.hid (PP.out.below dn); have H10 := Lib.hid hs; clear hs dn D2)
    | (go_at_call 22; refine (same_any o10.a (some ⟨w10.heap.size, 0, none⟩) o10.n o10.c 1 1 [2] [2] _ (H10.out.below ((Below.refl _ _).alloc (Nat.le_refl _) _)).r (sl_newH w10 [2] (by decide)).r H10.out.nc H10.out.cb (by decide) (by decide)).mono ?_; rintro e w11 ⟨rfl, dn⟩; have PP := Lib.hid ((PP.out.alloc (.cells #[.int .i64 2] 3)).below dn); clear dn))
  have D3 := pdue_any [g] g awP3 12 w11 PP.out.p
  rw [aw_d3] at D3
  go_upto_region 13 with (first
    | (go_at_call 23; refine D3.mono ?_; rintro e w12 ⟨o12, rfl, hs, dn⟩; have PP := Lib.hid (PP.out.below dn); have H12 := Lib.hid hs; clear hs dn D3)
    | (go_at_call 22; refine (same_any o12.a (some ⟨w12.heap.size, 0, none⟩) o12.n o12.c 2 2 [1, 2] [1, 2] _ (H12.out.below ((Below.refl _ _).alloc (Nat.le_refl _) _)).r (sl_newH w12 [1, 2] (by decide)).r H12.out.nc H12.out.cb (by decide) (by decide)).mono ?_; rintro e w13 ⟨rfl, dn⟩; have PP := Lib.hid ((PP.out.alloc (.cells #[.int .i64 1, .int .i64 2] 3)).below dn); clear dn))
  have e1 : ((⟨#[2, 172, 2]⟩ : ByteArray).toList == (⟨#[2, 172, 2]⟩ : ByteArray).toList) = true := by decide +kernel
  have e2 : ((⟨#[6, 0, 3, 1, 0, 2]⟩ : ByteArray).toList == (⟨#[6, 0, 3, 1, 0, 2]⟩ : ByteArray).toList) = true := by decide +kernel
  try simp only [decide_true]
  go_wp2_with fail
  go_ret
  exact ⟨rfl, PP.out.b⟩
end
end Go.Proofs.YtglabahbklpocaaGreat
namespace Go.Proofs.YtglabahbklpocaaGreat
section
open Go.RowKit Go.Deep
set_option maxRecDepth 100000
set_option linter.unusedVariables false
set_option linter.unusedSimpArgs false
attribute [local go_sem ↓] Go.wp_at_zero Go.wp_at_succ
set_option maxHeartbeats 8000000 in
theorem hreads_row (s0 : ByteArray) (w : World) (hs0 : s0.size ≤ 9223372036854775807) : Calls Tryz.prog 5 #[.string s0] w fun e w' => e = .returned (.bool true) ∧ Below w.heap.size w w' := by
  go_enter Tryz.func5, Tryz.ntmps5
  go_upto_if 12 with (go_at_call 6; refine (hawake_any _).mono ?_; rintro e w1 ⟨rfl, d1⟩)
  go_cut [0] (fun v wx => w1 = wx ∧ ∃ S : ByteArray, v = .string S ∧ S.size ≤ 2000)
  case first =>
    by_cases hl : 2000 < s0.size
    · have t1 : decide (2000 < (s0.size : Int)) = true := decide_eq_true (by omega)
      have t2 : decide (2000 < s0.size) = true := decide_eq_true hl
      go_wp2_with fail
      go_meet
      exact ⟨rfl, _, rfl, by simp [ByteArray.size_extract]; omega⟩
    · have t1 : decide (2000 < (s0.size : Int)) = false := decide_eq_false (by omega)
      have t2 : decide (2000 < s0.size) = false := decide_eq_false hl
      go_wp2_with fail
      go_meet
      exact ⟨rfl, _, rfl, by omega⟩
  case rest =>
  obtain ⟨rfl, s, rfl, hs⟩ := hcut
  clear hs0 s0
  obtain ⟨E, X, ps, ms, vs, hf, ht, R1, R2⟩ := reads_both s (by omega)
  unfold RdT at R1 R2
  have t3 : (E == E) = true := beq_self_eq_true _
  go_upto_region 5 with (first
    | (go_at_call 13; refine (R1 _).mono ?_; rintro e w2 ⟨z, rfl, d2, hT⟩; have HT := Lib.hid hT; clear hT)
    | (refine wpList_store_row rfl 33 _ _ rfl _ (Wi.arr z) rfl rfl 33 _ (heap_alloc_new _ _) (by kernel_rfl) rfl (wi_one _) ?_; rw [World.setRow_alloc_new]))
  generalize hw3 : World.alloc _ _ = w3
  have KK := Lib.hid (show Kn w2.heap.size w2 [(w2.heap.size, wiO z)] w3 by rw [← hw3]; exact (Kn.start w2).new' rfl (wiO z))
  have HT := Lib.hid (HT.out.below KK.out.b)
  have d3 := below_then d1 d1.size (below_then d2 d2.size KK.out.b)
  clear hw3
  obtain ⟨p, hp⟩ : ∃ p, w2.heap.size = p := ⟨_, rfl⟩
  rw [hp] at KK ⊢
  have KK : Hid (Kn w3.heap.size w3 [(p, wiO z)] w3) := ⟨KK.out.at_, Below.refl _ _, Nat.le_refl _⟩
  go_upto_region 6 with (first
    | (go_at_call 18; refine (R2 _).mono ?_; rintro e w4 ⟨y, rfl, d4, hY⟩; have HY := Lib.hid hY; have KK := Lib.hid (KK.out.below d4); clear hY)
    | (refine wpList_store_row rfl 33 _ _ rfl _ (Wi.arr y) rfl rfl 33 _ (heap_alloc_new _ _) (by kernel_rfl) rfl (wi_one _) ?_; rw [World.setRow_alloc_new]))
  generalize hw5 : World.alloc _ _ = w5
  have HT := Lib.hid (HT.out.below d4)
  have KQ := Lib.hid (show Kn w3.heap.size w3 [(w4.heap.size, wiO y), (p, wiO z)] w5 by rw [← hw5]; exact KK.out.new' rfl (wiO y))
  have hba : Below w4.heap.size w4 w5 := by rw [← hw5]; exact (Below.refl _ _).alloc (Nat.le_refl _) _
  have HT := Lib.hid (HT.out.below hba)
  have HY := Lib.hid (HY.out.below hba)
  clear hw5 R1 R2 KK hba
  generalize w4.heap.size = q at *
  have SM := fun wx hb => same_w hf ht (HT.out.below (w' := wx) hb) (HY.out.below hb)
  go_wp2_with (first
    | refine wpList_load_row rfl 33 _ rfl p rfl 33 (Wi.arr z) (0, 0) _ (KQ.out.at_ (p, wiO z) (by simp)) Tryz.underlying33 rfl (by kernel_rfl) ?_
    | refine wpList_load_row rfl 33 _ rfl q rfl 33 (Wi.arr y) (0, 0) _ (KQ.out.at_ (q, wiO y) (by simp)) Tryz.underlying33 rfl (by kernel_rfl) ?_
    | (go_at_call 11; refine (SM _ (Below.refl _ _)).mono ?_; rintro e w6 ⟨rfl, dn⟩; have KF := Lib.hid (KQ.out.below dn); clear dn))
  go_ret
  exact ⟨rfl, below_then d3 d3.size KF.out.b⟩
end
end Go.Proofs.YtglabahbklpocaaGreat
