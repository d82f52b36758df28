/- Chapter 19's examples hold: the contract of 'awake'. Slices of structs that lie in structs among the arguments. A message, and a list of records, among the arguments. What is packed out of a log is the same of both packages, may be sent, and is read again. -/
import Derived.Test.YtglabahbklpocaaGreatGShipPacks19
import Derived.Test.YtglabahbklpocaaGreatGShipPacks51
import Derived.Test.YtglabahbklpocaaGreatGShipPacks8
import Derived.Test.YtglabahbklpocaaGreatGShipPacks48
import Derived.Test.YtglabahbklpocaaGreatGShipPacks35
import Derived.Test.YtglabahbklpocaaGreatGShipPacks49
namespace Go.Proofs.YtglabahbklpocaaGreat
section
open Go.RowKit Go.Deep
set_option maxRecDepth 100000
set_option linter.unusedVariables false
set_option linter.unusedSimpArgs false
attribute [local go_sem ↓] Go.wp_at_zero Go.wp_at_succ
theorem sl_newH (w : World) (xs : List Int) (h : xs.length ≤ 1000) : SlR (w.alloc (.cells (xs.map (Value.int .i64)).toArray 3)) ⟨some ⟨w.heap.size, 0, none⟩, xs.length, xs.length⟩ xs := by
  refine ⟨⟨rfl, .inr ⟨w.heap.size, 0, rfl, by simp, fun j hj => ?_⟩⟩, Nat.le_refl _, by show xs.length ≤ _; omega⟩
  rw [Nat.zero_add, World.cell?_alloc_new]
  simp only at hj
  simp [List.getD_eq_getElem?_getD, hj]
def aw1 : Wi := ⟨2, 300, ⟨#[]⟩, 0, 0, ⟨none, 0, 0⟩, ⟨none, 0, 0⟩, ⟨none, 0, 0⟩, 0⟩
def aw2 (d : Sl) : Wi := ⟨6, 0, ⟨#[]⟩, 0, 0, ⟨none, 0, 0⟩, ⟨none, 0, 0⟩, d, 0⟩
def awP0 : PeM := newP 0 3 5
def awP1 : PeM := (noteM awP0 1 [2]).1
def awP2 : PeM := (noteM awP1 2 [0, 1]).1
def awP3 : PeM := (sentM awP2 1 7).1
theorem aw_s : vput 2 ++ vput 300 = ⟨#[2, 172, 2]⟩ := by decide +kernel
theorem aw_t : vput 6 ++ vput 0 ++ ⟨(mtB (pl [1, 0, 2])).toArray⟩ = ⟨#[6, 0, 3, 1, 0, 2]⟩ := by decide +kernel
theorem aw_n1 : noteM awP0 1 [2] = (awP1, true) := by
  have : (noteM awP0 1 [2]).2 = true := by decide +kernel
  rw [← this]
  rfl
theorem aw_n2 : noteM awP1 2 [0, 1] = (awP2, true) := by
  have : (noteM awP1 2 [0, 1]).2 = true := by decide +kernel
  rw [← this]
  rfl
theorem aw_l : leastM awP2 [2, 1] = [] := by decide +kernel
theorem aw_d1 : dueM awP2 7 = [1, 2] := by decide +kernel
theorem aw_d2 : dueM awP3 8 = [2] := by decide +kernel
theorem aw_d3 : dueM awP3 12 = [1, 2] := by decide +kernel
theorem aw_se : sentM awP2 1 7 = (awP3, true) := by
  have : (sentM awP2 1 7).2 = true := by decide +kernel
  rw [← this]
  rfl
/-- Peers, and what was there. -/
structure PeI (w0 : World) (g : Nat) (m : PeM) (w : World) : Prop where
  p : PeAt w [g] g m
  b : Below w0.heap.size w0 w
section
variable {w0 w w' : World} {g : Nat} {m m' : PeM}
theorem PeI.below (h : PeI w0 g m w) (d : Below w.heap.size w w') : PeI w0 g m w' := ⟨h.p.below d, below_then h.b h.b.size d⟩
theorem PeI.but (h : PeI w0 g m w) (h1 : PeAt w' [g] g m') (d : But g w w') (hg : w0.heap.size ≤ g) : PeI w0 g m' w' := ⟨h1, But.below h.b d h.b.size hg⟩
theorem PeI.alloc (h : PeI w0 g m w) (o : Obj) : PeI w0 g m (w.alloc o) := h.below ((Below.refl _ _).alloc (Nat.le_refl _) o)
theorem PeI.fl (h : PeI w0 g m w) : ∀ k ∈ [g], k < w.heap.size := fun k hk => by simp only [List.mem_singleton] at hk; subst hk; exact h.p.lt
end
theorem aw_b6 (wx : World) : Calls Tryz.prog 12 #[.agg #[.int .i64 6, .int .i64 0, .string ⟨#[]⟩, .int .i64 0, .int .i64 0, .slice none 0 0, .slice none 0 0, .slice (some ⟨wx.heap.size, 0, none⟩) 3 3, .int .i64 0]] (wx.alloc (.cells #[.int .i64 1, .int .i64 0, .int .i64 2] 3)) fun e w' => e = .returned (.tuple #[.string ⟨#[6, 0, 3, 1, 0, 2]⟩, .int .i64 0]) ∧ Below wx.heap.size wx w' := by
  have z0 : i64' 0 := ⟨by decide, by decide⟩
  have h0 : (⟨#[]⟩ : ByteArray).toList.isEmpty = true := by decide +kernel
  have C := bytes6_any (aw2 ⟨some ⟨wx.heap.size, 0, none⟩, 3, 3⟩) [1, 0, 2] (wx.alloc (.cells #[.int .i64 1, .int .i64 0, .int .i64 2] 3)) rfl z0 z0 rfl (by unfold Wi.none aw2; simp only; rw [h0]; rfl) (sl_newH wx [1, 0, 2] (by decide)) (by decide +kernel)
  have e : vput 6 ++ vput (aw2 ⟨some ⟨wx.heap.size, 0, none⟩, 3, 3⟩).id ++ ⟨(mtB (pl [1, 0, 2])).toArray⟩ = ⟨#[6, 0, 3, 1, 0, 2]⟩ := aw_t
  rw [e] at C
  exact C.mono fun e w' ⟨h1, h2⟩ => ⟨h1, ((Below.refl wx.heap.size wx).alloc (Nat.le_refl _) _).trans (h2.mono (by simp))⟩
set_option maxHeartbeats 16000000 in
theorem hawake_any (w : World) : Calls Tryz.prog 6 #[] w fun e w' => e = .returned (.bool true) ∧ Below w.heap.size w w' := by
  have z0 : i64' 0 := ⟨by decide, by decide⟩
  have z3 : i64' 3 := ⟨by decide, by decide⟩
  have z5 : i64' 5 := ⟨by decide, by decide⟩
  have B2 := fun wx => bytes2_any aw1 wx rfl z0 z0 (by decide +kernel) (by decide +kernel)
  rw [show vput 2 ++ vput aw1.id = _ from aw_s] at B2
  simp only [aw1, Wi.arr] at B2
  have PN := fun wx => pnew_any [] 0 3 5 wx z0 z3 z5
  go_enter Tryz.func6, Tryz.ntmps6
  go_upto_region 2 with (go_at_call 12; refine (B2 _).mono ?_; rintro e w1 ⟨rfl, d1⟩; have HB := Lib.hid d1; clear d1)
  go_upto_region 3 with (go_at_call 12; refine (aw_b6 _).mono ?_; rintro e w2 ⟨rfl, d2⟩; have HB := Lib.hid (below_then HB.out HB.out.size d2); clear d2)
  go_upto_region 6 with (go_at_call 19; refine (PN _).mono ?_; rintro e w3 ⟨rfl, hp, d3⟩; have PP := Lib.hid (show PeI w w2.heap.size awP0 w3 from ⟨hp, below_then HB.out HB.out.size d3⟩); clear hp d3)
  have hgw : w.heap.size ≤ w2.heap.size := HB.out.size
  generalize w2.heap.size = g at *
  have N1 := pnote_any [g] g awP0 1 ⟨some ⟨w3.heap.size, 0, none⟩, 1, 1⟩ [2] _ (PP.out.alloc (.cells #[.int .i64 2] 3)).p (by simp) (PP.out.alloc _).fl (sl_newH w3 [2] (by decide))
  rw [aw_n1] at N1
  go_upto_region 7 with (go_at_call 20; refine N1.mono ?_; rintro e w4 ⟨rfl, hn, dn⟩; have PP := Lib.hid ((PP.out.alloc (.cells #[.int .i64 2] 3)).but hn dn hgw); clear hn dn N1)
  have N2 := pnote_any [g] g awP1 2 ⟨some ⟨w4.heap.size, 0, none⟩, 2, 2⟩ [0, 1] _ (PP.out.alloc (.cells #[.int .i64 0, .int .i64 1] 3)).p (by simp) (PP.out.alloc _).fl (sl_newH w4 [0, 1] (by decide))
  rw [aw_n2] at N2
  go_upto_region 8 with (go_at_call 20; refine N2.mono ?_; rintro e w5 ⟨rfl, hn, dn⟩; have PP := Lib.hid ((PP.out.alloc (.cells #[.int .i64 0, .int .i64 1] 3)).but hn dn hgw); clear hn dn N2)
  have L1 := pleast_any [g] g awP2 ⟨some ⟨w5.heap.size, 0, none⟩, 2, 2⟩ [2, 1] _ (PP.out.alloc (.cells #[.int .i64 2, .int .i64 1] 3)).p (sl_newH w5 [2, 1] (by decide))
  rw [aw_l] at L1
  go_upto_region 9 with (go_at_call 21; refine L1.mono ?_; rintro e w6 ⟨o, rfl, hs, _, dn⟩; have hz : o.n = 0 := hs.r.1.symm; have PP := Lib.hid ((PP.out.alloc (.cells #[.int .i64 2, .int .i64 1] 3)).below dn); clear hs dn L1)
  obtain ⟨oa, on, oc⟩ := o
  simp only at hz
  subst hz
  have D1 := pdue_any [g] g awP2 7 w6 PP.out.p
  rw [aw_d1] at D1
  go_upto_region 10 with (first
    | (go_at_call 23; refine D1.mono ?_; rintro e w7 ⟨o7, rfl, hs, dn⟩; have PP := Lib.hid (PP.out.below dn); have H7 := Lib.hid hs; clear hs dn D1)
    | (go_at_call 22; refine (same_any o7.a (some ⟨w7.heap.size, 0, none⟩) o7.n o7.c 2 2 [1, 2] [1, 2] _ (H7.out.below ((Below.refl _ _).alloc (Nat.le_refl _) _)).r (sl_newH w7 [1, 2] (by decide)).r H7.out.nc H7.out.cb (by decide) (by decide)).mono ?_; rintro e w8 ⟨rfl, dn⟩; have PP := Lib.hid ((PP.out.alloc (.cells #[.int .i64 1, .int .i64 2] 3)).below dn); clear dn))
  have S1 := psent_any [g] g awP2 1 7 w8 PP.out.p (by simp)
  rw [aw_se] at S1
  go_upto_region 11 with (go_at_call 24; refine S1.mono ?_; rintro e w9 ⟨rfl, hn, dn⟩; have PP := Lib.hid (PP.out.but hn dn hgw); clear hn dn S1)
  have D2 := pdue_any [g] g awP3 8 w9 PP.out.p
  rw [aw_d2] at D2
  go_upto_region 12 with (first
    | (go_at_call 23; refine D2.mono ?_; rintro e w10 ⟨o10, rfl, hs, dn⟩; have PP := Lib.hid (PP.out.below dn); have H10 := Lib.hid hs; clear hs dn D2)
    | (go_at_call 22; refine (same_any o10.a (some ⟨w10.heap.size, 0, none⟩) o10.n o10.c 1 1 [2] [2] _ (H10.out.below ((Below.refl _ _).alloc (Nat.le_refl _) _)).r (sl_newH w10 [2] (by decide)).r H10.out.nc H10.out.cb (by decide) (by decide)).mono ?_; rintro e w11 ⟨rfl, dn⟩; have PP := Lib.hid ((PP.out.alloc (.cells #[.int .i64 2] 3)).below dn); clear dn))
  have D3 := pdue_any [g] g awP3 12 w11 PP.out.p
  rw [aw_d3] at D3
  go_upto_region 13 with (first
    | (go_at_call 23; refine D3.mono ?_; rintro e w12 ⟨o12, rfl, hs, dn⟩; have PP := Lib.hid (PP.out.below dn); have H12 := Lib.hid hs; clear hs dn D3)
    | (go_at_call 22; refine (same_any o12.a (some ⟨w12.heap.size, 0, none⟩) o12.n o12.c 2 2 [1, 2] [1, 2] _ (H12.out.below ((Below.refl _ _).alloc (Nat.le_refl _) _)).r (sl_newH w12 [1, 2] (by decide)).r H12.out.nc H12.out.cb (by decide) (by decide)).mono ?_; rintro e w13 ⟨rfl, dn⟩; have PP := Lib.hid ((PP.out.alloc (.cells #[.int .i64 1, .int .i64 2] 3)).below dn); clear dn))
  have e1 : ((⟨#[2, 172, 2]⟩ : ByteArray).toList == (⟨#[2, 172, 2]⟩ : ByteArray).toList) = true := by decide +kernel
  have e2 : ((⟨#[6, 0, 3, 1, 0, 2]⟩ : ByteArray).toList == (⟨#[6, 0, 3, 1, 0, 2]⟩ : ByteArray).toList) = true := by decide +kernel
  try simp only [decide_true]
  go_wp2_with fail
  go_ret
  exact ⟨rfl, PP.out.b⟩
end
end Go.Proofs.YtglabahbklpocaaGreat
namespace Go.Proofs.YtglabahbklpocaaGreat
section
open Go.ChangeShapes Go.WideShapes Go.ChangeAt Go.RowKit Go.Joins Go.Deep
set_option maxRecDepth 100000
set_option linter.unusedVariables false
set_option linter.unusedSimpArgs false
end
end Go.Proofs.YtglabahbklpocaaGreat
namespace Go.Proofs.YtglabahbklpocaaGreat
section
open Go.ChangeShapes Go.WideShapes Go.ChangeAt Go.RowKit Go.Joins Go.Deep
set_option maxRecDepth 100000
set_option linter.unusedVariables false
set_option linter.unusedSimpArgs false
theorem fits_rec {H : Type} {enc : TypeId × Value → H} {W : World} (l : List Value) (h : Fits enc Tryz.prog W recL l) : ∃ x : RecA, x.cs = l ∧ x.ok W := by
  have hln := fits_len h
  match l, hln with
  | [v0, v1, v2, v3, v4, v5, v6, v7, v8], _ =>
    obtain ⟨⟨n0, rfl, w0⟩, ⟨s, rfl, w1⟩, ⟨n2, rfl, w2⟩, ⟨n3, rfl, w3⟩, ⟨n4, rfl, w4⟩, ⟨n5, rfl, w5⟩, ⟨n6, rfl, w6⟩, ⟨n7, rfl, w7⟩, hs, _⟩ := h
    obtain ⟨xs, a, n, c, rfl, h1, h2, h3, _⟩ := leaf_ints hs
    exact ⟨⟨⟨n0, s, n2, n3, n4, ⟨n5, n6, n7⟩⟩, ⟨a, n, c⟩, xs⟩, rfl, ⟨i64_of w0, maxLen_i w1, i64_of w2, i64_of w3, i64_of w4, i64_of w5, i64_of w6, i64_of w7⟩, h3, h1, h2⟩
/-- The argument is a list of records. -/
def IsRecs (w : World) (v : Value) (xs : List RecA) : Prop := IsEs RecA.cs 9 (RecA.ok w) w v xs
theorem open_isRecs {H : Type} {enc : TypeId × Value → H} {W : World} {r : Reach} {b0 : Nat} {v : Value} {d : DataW H} {ps : List MemPlace}
    (hval : Value.okWide Tryz.prog W r b0 22 v) (hd : DataW.Trod enc Tryz.prog W 0 (fun _ => true) true 22 v d ps) : ∃ xs, IsRecs W v xs :=
  open_isEs RecA.cs 9 (RecA.ok W) 5 recL fits_rec rfl (by decide) Tryz.underlying22 rec_leaves (by kernel_rfl) hval hd
end
end Go.Proofs.YtglabahbklpocaaGreat
namespace Go.Proofs.YtglabahbklpocaaGreat
section
open Go.RowKit Go.Deep
set_option maxRecDepth 100000
set_option linter.unusedVariables false
set_option linter.unusedSimpArgs false
attribute [local go_sem ↓] Go.wp_at_zero Go.wp_at_succ
theorem packs_ok {m : LogM} (h : LInv m) (vs : List Int) : (packM m vs).1.length ≤ 16 ∧ ∀ x ∈ (packM m vs).1, recP x.1 x.2 := by
  have h0 : (packM m vs).1 = [] ∨ (packM m vs).1 = (m.xs.filter (laterP vs)).take 16 := by
    unfold packM afterM
    split
    · exact .inr rfl
    · exact .inl rfl
  rcases h0 with e | e
  · rw [e]; exact ⟨by decide, by simp⟩
  · rw [e]
    refine ⟨by rw [List.length_take]; omega, fun x hx => ?_⟩
    have h1 := (List.mem_filter.1 (List.mem_of_mem_take hx)).1
    obtain ⟨i, hi⟩ := List.mem_iff_getElem?.1 h1
    exact (h.good i x hi).1
theorem joinV_nil (bs : List Int) : joinV bs [] = pl bs := by
  unfold joinV pl
  congr 1
  funext i
  have h1 := nm_range bs i
  have h2 : nm [] i = 0 := by show cl (([] : List Int).getD i 0) = 0; rw [getD_out (by simp)]; exact cl_zero
  rw [h2]; omega
theorem tells_nil (w : World) (X : Wi) (h1 : X.np = Sl0) (h2 : X.nr = Sl0) (h3 : X.vec = Sl0) : TellsAs w X X [] [] [] :=
  ⟨rfl, rfl, rfl, rfl, rfl, rfl, by rw [h1]; exact slP_nil w, by rw [h2]; exact recsW_nil w, by rw [h3]; exact slR_nil w⟩
theorem okA_7 (o v : Sl) (h : o.n ≤ 16) : okA ⟨7, 0, ⟨#[]⟩, 0, 0, Sl0, o, v, 0⟩ :=
  ⟨⟨by simp, by simp⟩, ⟨by simp, by simp⟩, .inr (.inr rfl), .inr ⟨rfl, rfl, rfl⟩, .inr rfl, .inl rfl, .inl (by simp), by simp [Sl0], h, by simp, by simp⟩
/-- What is packed, and that it may be sent. -/
structure PackT (w : World) (z X : Wi) (ms : List RcM) (us : List Int) (B : Bool) : Prop where
  t : TellsAs w z X [] ms us
  ok : B = true → ∃ rs : List RecA, WiAt w z [] rs us ∧ okA z ∧ okT z [] rs us
theorem PackT.below {w w' : World} {z X : Wi} {ms : List RcM} {us : List Int} {B : Bool} (h : PackT w z X ms us B) (d : Below w.heap.size w w') : PackT w' z X ms us B :=
  ⟨h.t.below d, fun e => by obtain ⟨rs, h1, h2, h3⟩ := h.ok e; exact ⟨rs, h1.below d, h2, h3⟩⟩
theorem packs_both {w0 w : World} {F : List Nat} {ga gr gL : Nat} {m : LogM} (T : Two w0 F ga gr gL m w) (d1 d2 : Sl) (vs ys : List Int) (hv : SlR w d1 vs) (hy : SlR w d2 ys) :
    ∃ (B : Bool) (X : Wi) (ms : List RcM) (us : List Int), i64' X.from_ ∧ i64' X.to_ ∧
      (∀ wx, Below w.heap.size w wx → Calls Tryz.prog 8 #[.pointer (some ⟨ga, 0, none⟩), .slice d1.a d1.n d1.c, .slice d2.a d2.n d2.c] wx fun e w' => ∃ z : Wi, e = .returned (.tuple #[.agg z.arr, .bool B]) ∧ Below wx.heap.size wx w' ∧ PackT w' z X ms us B) ∧
      (∀ wx, Below w.heap.size w wx → Calls Tryz.prog 10 #[.pointer (some ⟨gr, 0, none⟩), .slice d1.a d1.n d1.c, .slice d2.a d2.n d2.c] wx fun e w' => ∃ z : Wi, e = .returned (.tuple #[.agg z.arr, .bool B]) ∧ Below wx.heap.size wx w' ∧ TellsAs w' z X [] ms us) := by
  have P1 := fun wx (hb : Below w.heap.size w wx) => hpack_any F ga m d1 d2 vs ys wx (T.a.below hb) (hv.below hb) (hy.below hb)
  have P2 := fun wx (hb : Below w.heap.size w wx) => hrpack_any F gr gL m d1 d2 vs ys wx (T.r.below hb) (hv.below hb) (hy.below hb)
  obtain ⟨k1, k2⟩ := packs_ok T.li vs
  generalize packM m vs = A at *
  obtain ⟨L, B⟩ := A
  simp only at P1 P2 k1 k2
  rw [joinV_nil] at P1
  have z0 : i64' 0 := ⟨by decide, by decide⟩
  cases B
  · refine ⟨false, Wi0, [], [], z0, z0, fun wx hb => (P1 wx hb).mono ?_, fun wx hb => (P2 wx hb).mono ?_⟩
    · rintro e w' ⟨x, rfl, dn, ⟨_, rfl⟩ | ⟨h, _⟩⟩
      · exact ⟨_, rfl, dn, tells_nil _ _ rfl rfl rfl, fun h => by cases h⟩
      · cases h
    · rintro e w' ⟨x, rfl, dn, ⟨_, rfl⟩ | ⟨h, _⟩⟩
      · exact ⟨_, rfl, dn, tells_nil _ _ rfl rfl rfl⟩
      · cases h
  · refine ⟨true, ⟨7, 0, ⟨#[]⟩, 0, 0, Sl0, Sl0, Sl0, 0⟩, L, pl ys, z0, z0, fun wx hb => (P1 wx hb).mono ?_, fun wx hb => (P2 wx hb).mono ?_⟩
    · rintro e w' ⟨x, rfl, dn, ⟨h, _⟩ | ⟨_, o, v, rfl, hr, hs⟩⟩
      · cases h
      · refine ⟨_, rfl, dn, ⟨rfl, rfl, rfl, rfl, rfl, rfl, slP_nil _, hr.w, hs⟩, fun _ => ?_⟩
        obtain ⟨rs, r1, r2, r3⟩ := hr.w.ex
        have hon : o.n ≤ 16 := by
          have := congrArg List.length r2
          rw [List.length_map, r1.1] at this
          omega
        refine ⟨rs, ⟨slP_nil _, ⟨r1, fun y hy => (r3 y hy).1, hr.w.nc, hr.w.cm⟩, hs, z0, z0, by show (⟨#[]⟩ : ByteArray).size ≤ 9223372036854775807; decide⟩, ?_, ?_⟩
        · exact okA_7 o v hon
        · refine ⟨by intro y hy; simp at hy, fun y hy => ?_, (fun h => by simp at h), (pl_pl ys).symm⟩
          have := k2 y.m (by rw [← r2]; exact List.mem_map_of_mem hy)
          exact this
    · rintro e w' ⟨x, rfl, dn, ⟨h, _⟩ | ⟨_, o, v, rfl, hr, hs⟩⟩
      · cases h
      · exact ⟨_, rfl, dn, rfl, rfl, rfl, rfl, rfl, rfl, slP_nil _, hr, hs⟩
set_option maxHeartbeats 16000000 in
theorem hpacks_any (l d1 d2 : Sl) (rs : List RecA) (vs ys : List Int) (w : World) (h : RecsV w l rs) (h1 : SlR w d1 vs) (h2 : SlR w d2 ys) :
    Calls Tryz.prog 3 #[.slice l.a l.n l.c, .slice d1.a d1.n d1.c, .slice d2.a d2.n d2.c] w fun e w' => e = .returned (.bool true) ∧ Below w.heap.size w w' := by
  have H := Lib.hid h
  have H1 := Lib.hid h1
  have H2 := Lib.hid h2
  clear h h1 h2
  go_enter Tryz.func3, Tryz.ntmps3
  go_upto_region 3 with (first
    | (go_at_call 6; refine (hawake_any _).mono ?_; rintro e w1 ⟨rfl, e1⟩)
    | (go_at_call 7; refine (hlogs_any l rs _ (H.out.below e1)).mono ?_; rintro e w2 ⟨ga, gr, gL, F, m, rfl, hT⟩))
  have B2 := Lib.hid (below_then e1 e1.size hT.b)
  have F1 := few19z_any d1 vs
  have F2 := few19z_any d2 ys
  have G1 := Lib.hid (H1.out.below B2.out)
  have G2 := Lib.hid (H2.out.below B2.out)
  obtain ⟨B, X, ms, us, hf, ht, P1, P2⟩ := packs_both hT d1.cut d2.cut (vs.take 12) (ys.take 12) G1.out.cut G2.out.cut
  clear hT e1 H H1 H2
  go_upto_region 4 with (first
    | (go_at_call 9; first | (refine (few19z_any d1 vs _ G1.out).mono ?_; rintro e wn ⟨rfl, rfl⟩) | (refine (few19z_any d2 ys _ G2.out).mono ?_; rintro e wn ⟨rfl, rfl⟩))
    | (go_at_call 8; refine (P1 _ (Below.refl _ _)).mono ?_; rintro e w3 ⟨z, rfl, dn, hz⟩; have HP := Lib.hid hz; clear hz)
    | (refine wpList_store_row rfl 33 _ _ rfl _ (Wi.arr z) rfl rfl 33 _ (heap_alloc_new _ _) (by kernel_rfl) rfl (wi_one _) ?_; rw [World.setRow_alloc_new]))
  generalize hw4 : World.alloc _ _ = w4
  have KK := Lib.hid (show Kn w3.heap.size w3 [(w3.heap.size, wiO z)] w4 by rw [← hw4]; exact (Kn.start w3).new' rfl (wiO z))
  have HP := Lib.hid (HP.out.below KK.out.b)
  have D4 := Lib.hid (below_then dn dn.size KK.out.b)
  clear hw4
  obtain ⟨p, hp⟩ : ∃ p, w3.heap.size = p := ⟨_, rfl⟩
  rw [hp] at KK ⊢
  have KK : Hid (Kn w4.heap.size w4 [(p, wiO z)] w4) := ⟨KK.out.at_, Below.refl _ _, Nat.le_refl _⟩
  have G1 := Lib.hid (G1.out.below D4.out)
  have G2 := Lib.hid (G2.out.below D4.out)
  clear dn P1 hp
  go_upto_region 5 with (first
    | (go_at_call 9; first | (refine (few19z_any d1 vs _ G1.out).mono ?_; rintro e wn ⟨rfl, rfl⟩) | (refine (few19z_any d2 ys _ G2.out).mono ?_; rintro e wn ⟨rfl, rfl⟩))
    | (go_at_call 10; refine (P2 _ D4.out).mono ?_; rintro e w5 ⟨y, rfl, dn, hy⟩; have HY := Lib.hid hy; have KK := Lib.hid (KK.out.below dn); clear hy)
    | (refine wpList_store_row rfl 33 _ _ rfl _ (Wi.arr y) rfl rfl 33 _ (heap_alloc_new _ _) (by kernel_rfl) rfl (wi_one _) ?_; rw [World.setRow_alloc_new]))
  generalize hw6 : World.alloc _ _ = w6
  have KQ := Lib.hid (show Kn w4.heap.size w4 [(w5.heap.size, wiO y), (p, wiO z)] w6 by rw [← hw6]; exact KK.out.new' rfl (wiO y))
  have hba : Below w5.heap.size w5 w6 := by rw [← hw6]; exact (Below.refl _ _).alloc (Nat.le_refl _) _
  have HP := Lib.hid (HP.out.below KQ.out.b)
  have HY := Lib.hid (HY.out.below hba)
  have B6 := Lib.hid (below_then (below_then B2.out B2.out.size D4.out) (Nat.le_trans B2.out.size D4.out.size) KQ.out.b)
  clear hw6 KK hba P2 dn G1 G2 D4 B2 F1 F2
  generalize w5.heap.size = q at *
  have KQ : Hid (Kn w6.heap.size w6 [(q, wiO y), (p, wiO z)] w6) := ⟨KQ.out.at_, Below.refl _ _, Nat.le_refl _⟩
  have hz6 := B6.out.size
  go_upto_region 6 with (first
    | refine wpList_load_row rfl 33 _ rfl p rfl 33 (Wi.arr z) (0, 0) _ (KQ.out.at_ (p, wiO z) (by simp)) Tryz.underlying33 rfl (by kernel_rfl) ?_
    | refine wpList_load_row rfl 33 _ rfl q rfl 33 (Wi.arr y) (0, 0) _ (KQ.out.at_ (q, wiO y) (by simp)) Tryz.underlying33 rfl (by kernel_rfl) ?_
    | (go_at_call 11; refine (same_w hf ht HP.out.t HY.out).mono ?_; rintro e w7 ⟨rfl, dn⟩; have KQ := Lib.hid (KQ.out.below dn); have HP := Lib.hid (HP.out.below dn); clear dn))
  clear HY
  cases B
  · go_wp2_with fail
    go_ret
    exact ⟨rfl, below_then B6.out hz6 KQ.out.b⟩
  · obtain ⟨ts, hw, hoA, hoT⟩ := HP.out.ok rfl
    have HZ := Lib.hid hw
    have HO := Lib.hid hoT
    have HOA := Lib.hid hoA
    clear hw hoA hoT HP
    have KQ := Lib.hid (KQ.out.sub (m := [(p, wiO z)]) (by simp))
    go_upto_region 10 with fail
    have BY := bytes_w HZ.out HOA.out HO.out
    have RD := fun wx => read_w HZ.out HOA.out HO.out wx
    generalize wireB z [] ts us = T at *
    go_upto_region 12 with (first
      | refine wpList_load_row rfl 33 _ rfl p rfl 33 (Wi.arr z) (0, 0) _ (KQ.out.at_ (p, wiO z) (by simp)) Tryz.underlying33 rfl (by kernel_rfl) ?_
      | (go_at_call 12; refine BY.mono ?_; rintro e w8 ⟨rfl, dn⟩; have KQ := Lib.hid (KQ.out.below dn); have HZ := Lib.hid (HZ.out.below dn); clear dn)
      | (go_at_call 13; refine (RD _).mono ?_; rintro e w9 ⟨z2, rfl, dn, hT⟩; have KQ := Lib.hid (KQ.out.below dn); have HZ := Lib.hid (HZ.out.below dn); have HT := Lib.hid hT; clear dn hT)
      | (refine wpList_store_row rfl 33 _ _ rfl _ (Wi.arr z2) rfl rfl 33 _ (heap_alloc_new _ _) (by kernel_rfl) rfl (wi_one _) ?_; rw [World.setRow_alloc_new]))
    generalize hwa : World.alloc _ _ = wa
    have KA := Lib.hid (show Kn w6.heap.size w6 [(w9.heap.size, wiO z2), (p, wiO z)] wa by rw [← hwa]; exact KQ.out.new' rfl (wiO z2))
    have hba : Below w9.heap.size w9 wa := by rw [← hwa]; exact (Below.refl _ _).alloc (Nat.le_refl _) _
    have HT := Lib.hid (HT.out.below hba)
    have HZ := Lib.hid (HZ.out.below hba)
    have HS := Lib.hid (tells_self HZ.out HO.out)
    clear hwa hba KQ BY RD
    generalize w9.heap.size = q2 at *
    go_wp2_with (first
      | refine wpList_load_row rfl 33 _ rfl q2 rfl 33 (Wi.arr z2) (0, 0) _ (KA.out.at_ (q2, wiO z2) (by simp)) Tryz.underlying33 rfl (by kernel_rfl) ?_
      | refine wpList_load_row rfl 33 _ rfl p rfl 33 (Wi.arr z) (0, 0) _ (KA.out.at_ (p, wiO z) (by simp)) Tryz.underlying33 rfl (by kernel_rfl) ?_
      | (go_at_call 11; refine (same_w HZ.out.f HZ.out.t HT.out HS.out).mono ?_; rintro e wb ⟨rfl, dn⟩; have KF := Lib.hid (KA.out.below dn); clear dn))
    go_ret
    exact ⟨rfl, below_then B6.out hz6 KF.out.b⟩
theorem hpacks_row (u : Value) (rs : List RecA) (v : Value) (vs : List Int) (y : Value) (ys : List Int) (w : World) (h : IsRecs w u rs) (hv : IsInts .i64 w v vs) (hy : IsInts .i64 w y ys) :
    Calls Tryz.prog 3 #[u, v, y] w fun e w' => e = .returned (.bool true) ∧ Below w.heap.size w w' := by
  obtain ⟨a, n, c, rfl, hnc, hcb, h, hok⟩ := h
  obtain ⟨a1, n1, c1, rfl, hnc1, hcb1, h1, _⟩ := hv
  obtain ⟨a2, n2, c2, rfl, hnc2, hcb2, h2, _⟩ := hy
  exact hpacks_any ⟨a, n, c⟩ ⟨a1, n1, c1⟩ ⟨a2, n2, c2⟩ rs vs ys w ⟨h, hok, hnc, hcb⟩ ⟨h1, hnc1, hcb1⟩ ⟨h2, hnc2, hcb2⟩
end
end Go.Proofs.YtglabahbklpocaaGreat
