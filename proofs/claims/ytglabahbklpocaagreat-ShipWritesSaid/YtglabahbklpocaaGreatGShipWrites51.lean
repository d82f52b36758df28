/- Chapter 19's examples hold: the contract of 'awake'. Slices of structs that lie in structs among the arguments. A message, and a list of records, among the arguments. -/
import Derived.Test.YtglabahbklpocaaGreatGShipWrites14
import Derived.Test.YtglabahbklpocaaGreatGShipWrites50
import Derived.Test.YtglabahbklpocaaGreatGShipWrites9
import Derived.Test.YtglabahbklpocaaGreatGShipWrites24
namespace Go.Proofs.YtglabahbklpocaaGreat
section
open Go.RowKit Go.Deep
set_option maxRecDepth 100000
set_option linter.unusedVariables false
set_option linter.unusedSimpArgs false
attribute [local go_sem ↓] Go.wp_at_zero Go.wp_at_succ
theorem sl_newH (w : World) (xs : List Int) (h : xs.length ≤ 1000) : SlR (w.alloc (.cells (xs.map (Value.int .i64)).toArray 3)) ⟨some ⟨w.heap.size, 0, none⟩, xs.length, xs.length⟩ xs := by
  refine ⟨⟨rfl, .inr ⟨w.heap.size, 0, rfl, by simp, fun j hj => ?_⟩⟩, Nat.le_refl _, by show xs.length ≤ _; omega⟩
  rw [Nat.zero_add, World.cell?_alloc_new]
  simp only at hj
  simp [List.getD_eq_getElem?_getD, hj]
def aw1 : Wi := ⟨2, 300, ⟨#[]⟩, 0, 0, ⟨none, 0, 0⟩, ⟨none, 0, 0⟩, ⟨none, 0, 0⟩, 0⟩
def aw2 (d : Sl) : Wi := ⟨6, 0, ⟨#[]⟩, 0, 0, ⟨none, 0, 0⟩, ⟨none, 0, 0⟩, d, 0⟩
def awP0 : PeM := newP 0 3 5
def awP1 : PeM := (noteM awP0 1 [2]).1
def awP2 : PeM := (noteM awP1 2 [0, 1]).1
def awP3 : PeM := (sentM awP2 1 7).1
theorem aw_s : vput 2 ++ vput 300 = ⟨#[2, 172, 2]⟩ := by decide +kernel
theorem aw_t : vput 6 ++ vput 0 ++ ⟨(mtB (pl [1, 0, 2])).toArray⟩ = ⟨#[6, 0, 3, 1, 0, 2]⟩ := by decide +kernel
theorem aw_n1 : noteM awP0 1 [2] = (awP1, true) := by
  have : (noteM awP0 1 [2]).2 = true := by decide +kernel
  rw [← this]
  rfl
theorem aw_n2 : noteM awP1 2 [0, 1] = (awP2, true) := by
  have : (noteM awP1 2 [0, 1]).2 = true := by decide +kernel
  rw [← this]
  rfl
theorem aw_l : leastM awP2 [2, 1] = [] := by decide +kernel
theorem aw_d1 : dueM awP2 7 = [1, 2] := by decide +kernel
theorem aw_d2 : dueM awP3 8 = [2] := by decide +kernel
theorem aw_d3 : dueM awP3 12 = [1, 2] := by decide +kernel
theorem aw_se : sentM awP2 1 7 = (awP3, true) := by
  have : (sentM awP2 1 7).2 = true := by decide +kernel
  rw [← this]
  rfl
/-- Peers, and what was there. -/
structure PeI (w0 : World) (g : Nat) (m : PeM) (w : World) : Prop where
  p : PeAt w [g] g m
  b : Below w0.heap.size w0 w
section
variable {w0 w w' : World} {g : Nat} {m m' : PeM}
theorem PeI.below (h : PeI w0 g m w) (d : Below w.heap.size w w') : PeI w0 g m w' := ⟨h.p.below d, below_then h.b h.b.size d⟩
theorem PeI.but (h : PeI w0 g m w) (h1 : PeAt w' [g] g m') (d : But g w w') (hg : w0.heap.size ≤ g) : PeI w0 g m' w' := ⟨h1, But.below h.b d h.b.size hg⟩
theorem PeI.alloc (h : PeI w0 g m w) (o : Obj) : PeI w0 g m (w.alloc o) := h.below ((Below.refl _ _).alloc (Nat.le_refl _) o)
theorem PeI.fl (h : PeI w0 g m w) : ∀ k ∈ [g], k < w.heap.size := fun k hk => by simp only [List.mem_singleton] at hk; subst hk; exact h.p.lt
end
theorem aw_b6 (wx : World) : Calls Tryz.prog 12 #[.agg #[.int .i64 6, .int .i64 0, .string ⟨#[]⟩, .int .i64 0, .int .i64 0, .slice none 0 0, .slice none 0 0, .slice (some ⟨wx.heap.size, 0, none⟩) 3 3, .int .i64 0]] (wx.alloc (.cells #[.int .i64 1, .int .i64 0, .int .i64 2] 3)) fun e w' => e = .returned (.tuple #[.string ⟨#[6, 0, 3, 1, 0, 2]⟩, .int .i64 0]) ∧ Below wx.heap.size wx w' := by
  have z0 : i64' 0 := ⟨by decide, by decide⟩
  have h0 : (⟨#[]⟩ : ByteArray).toList.isEmpty = true := by decide +kernel
  have C := bytes6_any (aw2 ⟨some ⟨wx.heap.size, 0, none⟩, 3, 3⟩) [1, 0, 2] (wx.alloc (.cells #[.int .i64 1, .int .i64 0, .int .i64 2] 3)) rfl z0 z0 rfl (by unfold Wi.none aw2; simp only; rw [h0]; rfl) (sl_newH wx [1, 0, 2] (by decide)) (by decide +kernel)
  have e : vput 6 ++ vput (aw2 ⟨some ⟨wx.heap.size, 0, none⟩, 3, 3⟩).id ++ ⟨(mtB (pl [1, 0, 2])).toArray⟩ = ⟨#[6, 0, 3, 1, 0, 2]⟩ := aw_t
  rw [e] at C
  exact C.mono fun e w' ⟨h1, h2⟩ => ⟨h1, ((Below.refl wx.heap.size wx).alloc (Nat.le_refl _) _).trans (h2.mono (by simp))⟩
set_option maxHeartbeats 16000000 in
theorem hawake_any (w : World) : Calls Tryz.prog 6 #[] w fun e w' => e = .returned (.bool true) ∧ Below w.heap.size w w' := by
  have z0 : i64' 0 := ⟨by decide, by decide⟩
  have z3 : i64' 3 := ⟨by decide, by decide⟩
  have z5 : i64' 5 := ⟨by decide, by decide⟩
  have B2 := fun wx => bytes2_any aw1 wx rfl z0 z0 (by decide +kernel) (by decide +kernel)
  rw [show vput 2 ++ vput aw1.id = _ from aw_s] at B2
  simp only [aw1, Wi.arr] at B2
  have PN := fun wx => pnew_any [] 0 3 5 wx z0 z3 z5
  go_enter Tryz.func6, Tryz.ntmps6
  go_upto_region 2 with (go_at_call 12; refine (B2 _).mono ?_; rintro e w1 ⟨rfl, d1⟩; have HB := Lib.hid d1; clear d1)
  go_upto_region 3 with (go_at_call 12; refine (aw_b6 _).mono ?_; rintro e w2 ⟨rfl, d2⟩; have HB := Lib.hid (below_then HB.out HB.out.size d2); clear d2)
  go_upto_region 6 with (go_at_call 19; refine (PN _).mono ?_; rintro e w3 ⟨rfl, hp, d3⟩; have PP := Lib.hid (show PeI w w2.heap.size awP0 w3 from ⟨hp, below_then HB.out HB.out.size d3⟩); clear hp d3)
  have hgw : w.heap.size ≤ w2.heap.size := HB.out.size
  generalize w2.heap.size = g at *
  have N1 := pnote_any [g] g awP0 1 ⟨some ⟨w3.heap.size, 0, none⟩, 1, 1⟩ [2] _ (PP.out.alloc (.cells #[.int .i64 2] 3)).p (by simp) (PP.out.alloc _).fl (sl_newH w3 [2] (by decide))
  rw [aw_n1] at N1
  go_upto_region 7 with (go_at_call 20; refine N1.mono ?_; rintro e w4 ⟨rfl, hn, dn⟩; have PP := Lib.hid ((PP.out.alloc (.cells #[.int .i64 2] 3)).but hn dn hgw); clear hn dn N1)
  have N2 := pnote_any [g] g awP1 2 ⟨some ⟨w4.heap.size, 0, none⟩, 2, 2⟩ [0, 1] _ (PP.out.alloc (.cells #[.int .i64 0, .int .i64 1] 3)).p (by simp) (PP.out.alloc _).fl (sl_newH w4 [0, 1] (by decide))
  rw [aw_n2] at N2
  go_upto_region 8 with (go_at_call 20; refine N2.mono ?_; rintro e w5 ⟨rfl, hn, dn⟩; have PP := Lib.hid ((PP.out.alloc (.cells #[.int .i64 0, .int .i64 1] 3)).but hn dn hgw); clear hn dn N2)
  have L1 := pleast_any [g] g awP2 ⟨some ⟨w5.heap.size, 0, none⟩, 2, 2⟩ [2, 1] _ (PP.out.alloc (.cells #[.int .i64 2, .int .i64 1] 3)).p (sl_newH w5 [2, 1] (by decide))
  rw [aw_l] at L1
  go_upto_region 9 with (go_at_call 21; refine L1.mono ?_; rintro e w6 ⟨o, rfl, hs, _, dn⟩; have hz : o.n = 0 := hs.r.1.symm; have PP := Lib.hid ((PP.out.alloc (.cells #[.int .i64 2, .int .i64 1] 3)).below dn); clear hs dn L1)
  obtain ⟨oa, on, oc⟩ := o
  simp only at hz
  subst hz
  have D1 := pdue_any [g] g awP2 7 w6 PP.out.p
  rw [aw_d1] at D1
  go_upto_region 10 with (first
    | (go_at_call 23; refine D1.mono ?_; rintro e w7 ⟨o7, rfl, hs, dn⟩; have PP := Lib.hid (PP.out.below dn); have H7 := Lib.hid hs; clear hs dn D1)
    | (go_at_call 22; refine (same_any o7.a (some ⟨w7.heap.size, 0, none⟩) o7.n o7.c 2 2 [1, 2] [1, 2] _ (H7.out.below ((Below.refl _ _).alloc (Nat.le_refl _) _)).r (sl_newH w7 [1, 2] (by decide)).r H7.out.nc H7.out.cb (by decide) (by decide)).mono ?_; rintro e w8 ⟨rfl, dn⟩; have PP := Lib.hid ((PP.out.alloc (.cells #[.int .i64 1, .int .i64 2] 3)).below dn); clear dn))
  have S1 := psent_any [g] g awP2 1 7 w8 PP.out.p (by simp)
  rw [aw_se] at S1
  go_upto_region 11 with (go_at_call 24; refine S1.mono ?_; rintro e w9 ⟨rfl, hn, dn⟩; have PP := Lib.hid (PP.out.but hn dn hgw); clear hn dn S1)
  have D2 := pdue_any [g] g awP3 8 w9 PP.out.p
  rw [aw_d2] at D2
  go_upto_region 12 with (first
    | (go_at_call 23; refine D2.mono ?_; rintro e w10 ⟨o10, rfl, hs, dn⟩; have PP := Lib.hid (PP.out.below dn); have H10 := Lib.hid hs; clear hs dn D2)
    | (go_at_call 22; refine (same_any o10.a (some ⟨w10.heap.size, 0, none⟩) o10.n o10.c 1 1 [2] [2] _ (H10.out.below ((Below.refl _ _).alloc (Nat.le_refl _) _)).r (sl_newH w10 [2] (by decide)).r H10.out.nc H10.out.cb (by decide) (by decide)).mono ?_; rintro e w11 ⟨rfl, dn⟩; have PP := Lib.hid ((PP.out.alloc (.cells #[.int .i64 2] 3)).below dn); clear dn))
  have D3 := pdue_any [g] g awP3 12 w11 PP.out.p
  rw [aw_d3] at D3
  go_upto_region 13 with (first
    | (go_at_call 23; refine D3.mono ?_; rintro e w12 ⟨o12, rfl, hs, dn⟩; have PP := Lib.hid (PP.out.below dn); have H12 := Lib.hid hs; clear hs dn D3)
    | (go_at_call 22; refine (same_any o12.a (some ⟨w12.heap.size, 0, none⟩) o12.n o12.c 2 2 [1, 2] [1, 2] _ (H12.out.below ((Below.refl _ _).alloc (Nat.le_refl _) _)).r (sl_newH w12 [1, 2] (by decide)).r H12.out.nc H12.out.cb (by decide) (by decide)).mono ?_; rintro e w13 ⟨rfl, dn⟩; have PP := Lib.hid ((PP.out.alloc (.cells #[.int .i64 1, .int .i64 2] 3)).below dn); clear dn))
  have e1 : ((⟨#[2, 172, 2]⟩ : ByteArray).toList == (⟨#[2, 172, 2]⟩ : ByteArray).toList) = true := by decide +kernel
  have e2 : ((⟨#[6, 0, 3, 1, 0, 2]⟩ : ByteArray).toList == (⟨#[6, 0, 3, 1, 0, 2]⟩ : ByteArray).toList) = true := by decide +kernel
  try simp only [decide_true]
  go_wp2_with fail
  go_ret
  exact ⟨rfl, PP.out.b⟩
end
end Go.Proofs.YtglabahbklpocaaGreat
namespace Go.Proofs.YtglabahbklpocaaGreat
section
open Go.ChangeShapes Go.WideShapes Go.ChangeAt Go.RowKit Go.Joins Go.Deep
set_option maxRecDepth 100000
set_option linter.unusedVariables false
set_option linter.unusedSimpArgs false
theorem leaf_isEs {H : Type} {enc : TypeId × Value → H} {P : Program} {W : World} {t e : TypeId} {v : Value} {α : Type} (cs : α → List Value) (sz : Nat) (wf : α → Prop) (D : Nat) (ls : List Leaf)
    (dec : ∀ l, Fits enc P W ls l → ∃ x, cs x = l ∧ wf x) (hsz : sz = ls.length) (hpos : 0 < sz)
    (ht : P.underlying t = some (.slice e)) (hl : leaves P D e = some ls) (hC : P.cellsOf e = ls.length)
    (hv : LeafIs enc P W (.sl t e) v) : ∃ xs, IsEs cs sz wf W v xs := by
  subst hsz
  obtain ⟨_, fuel, ⟨d, ps⟩, hf⟩ := hv
  obtain ⟨a, len, cap, rfl⟩ : ∃ a len cap, v = .slice a len cap := by
    rcases DataW.trod_slice ht hf with ⟨h, _⟩ | ⟨a, len, cap, _, _, _, _, h, _⟩
    · simp at h; exact ⟨_, _, _, h⟩
    · simp at h; exact ⟨_, _, _, h⟩
  rcases DataW.trod_slice ht hf with ⟨hcs, _⟩ | ⟨x, l, c, elems, rest, m, _, hcs, _, _, hl', hm, hlen, hel, _, _⟩
  · simp at hcs
    obtain ⟨rfl, rfl, rfl⟩ := hcs
    exact ⟨[], none, 0, 0, rfl, by omega, by omega, ⟨rfl, .inl rfl⟩, by simp⟩
  · simp at hcs
    obtain ⟨rfl, rfl, rfl⟩ := hcs
    have each : ∀ i, i < len → ∃ y : α, wf y ∧ ls.length = (cs y).length ∧ ∀ j, j < ls.length → W.cell? ((x.add (i * ls.length)).add j) = (cs y)[j]? := by
      intro i hi
      have h1 := hel i hi
      rw [List.getElem?_eq_getElem (by omega), hC, Option.bind_eq_some_iff] at h1
      obtain ⟨cs', hc', ht'⟩ := h1
      obtain ⟨_, hlc, hcell⟩ := World.cells?_some hc'
      obtain ⟨y, hy, hw⟩ := dec cs' (fits_of D e ls hl m cs' _ ht')
      exact ⟨y, hw, by rw [hy, hlc], fun j hj => by rw [hy]; exact hcell j hj⟩
    rcases Nat.eq_zero_or_pos len with h0 | h0
    · subst h0
      exact ⟨[], some x, 0, cap, rfl, by omega, by unfold maxLen at hm; omega, ⟨rfl, .inl rfl⟩, by simp⟩
    · obtain ⟨y0, hy0⟩ := each 0 h0
      have each2 : ∀ i : Nat, ∃ y : α, i < len → wf y ∧ ls.length = (cs y).length ∧ ∀ j, j < ls.length → W.cell? ((x.add (i * ls.length)).add j) = (cs y)[j]? := fun i => by
        by_cases hi : i < len
        · obtain ⟨y, h⟩ := each i hi
          exact ⟨y, fun _ => h⟩
        · exact ⟨y0, fun h => absurd h hi⟩
      let f : Nat → α := fun i => Classical.choose (each2 i)
      have hf2 : ∀ i, i < len → wf (f i) ∧ ls.length = (cs (f i)).length ∧ ∀ j, j < ls.length → W.cell? ((x.add (i * ls.length)).add j) = (cs (f i))[j]? := fun i => Classical.choose_spec (each2 i)
      refine ⟨(List.range len).map f, some x, len, cap, rfl, hl', by unfold maxLen at hm; omega, ⟨by simp, ?_⟩, fun y hy => ?_⟩
      · right
        obtain ⟨b, off, spot⟩ := x
        obtain ⟨_, hl0, hc0⟩ := hf2 0 h0
        have hc0 := hc0 0 hpos
        rw [List.getElem?_eq_getElem (by omega)] at hc0
        have hspot : spot = none := by simpa [Addr.add] using World.cell?_spot hc0
        subst hspot
        have hadd : ∀ j, (⟨b, off, none⟩ : Addr).add j = ⟨b, off + j, none⟩ := fun j => by unfold Addr.add; split <;> simp_all
        have hadd2 : ∀ j k, (⟨b, off + j, none⟩ : Addr).add k = ⟨b, off + j + k, none⟩ := fun j k => by unfold Addr.add; split <;> simp_all
        refine ⟨b, off, rfl, ?_, fun j y hj k u hk => ?_⟩
        · have := World.block_lt_of_cell? _ _ hc0
          rw [hadd] at this
          exact this
        · obtain ⟨hjl, rfl⟩ := List.getElem?_eq_some_iff.1 hj
          simp only [List.getElem_map, List.getElem_range] at hk ⊢
          have hjl2 : j < len := by simpa using hjl
          obtain ⟨_, hle, hce⟩ := hf2 j hjl2
          have hk2 : k < ls.length := by
            have := (List.getElem?_eq_some_iff.1 hk).1
            omega
          have := hce k hk2
          rw [hadd, hadd2] at this
          rw [this, hk]
      · obtain ⟨i, hi, rfl⟩ := List.mem_map.1 hy
        exact (hf2 i (List.mem_range.1 hi)).1
end
end Go.Proofs.YtglabahbklpocaaGreat
namespace Go.Proofs.YtglabahbklpocaaGreat
section
open Go.ChangeShapes Go.WideShapes Go.ChangeAt Go.RowKit Go.Joins Go.Deep
set_option maxRecDepth 100000
set_option linter.unusedVariables false
set_option linter.unusedSimpArgs false
def wireL : List Leaf := [.int .i64, .int .i64, .str, .int .i64, .int .i64, .sl 31 90, .sl 22 60, .sl 23 3, .int .i64]
theorem wire_leaves : leaves Tryz.prog 5 33 = some wireL := by kernel_rfl
theorem fits_pt {H : Type} {enc : TypeId × Value → H} {W : World} (l : List Value) (h : Fits enc Tryz.prog W ptL l) : ∃ x : Pt, x.cs = l ∧ x.wf := by
  have hln := fits_len h
  match l, hln with
  | [v0, v1, v2, v3, v4, v5], _ =>
    obtain ⟨⟨s, rfl, w0⟩, ⟨n1, rfl, w1⟩, ⟨n2, rfl, w2⟩, ⟨n3, rfl, w3⟩, ⟨n4, rfl, w4⟩, ⟨n5, rfl, w5⟩, _⟩ := h
    exact ⟨⟨s, n1, n2, ⟨n3, n4, n5⟩⟩, rfl, w0, i64_of w1, i64_of w2, i64_of w3, i64_of w4, i64_of w5⟩
theorem fits_rec {H : Type} {enc : TypeId × Value → H} {W : World} (l : List Value) (h : Fits enc Tryz.prog W recL l) : ∃ x : RecA, x.cs = l ∧ x.ok W := by
  have hln := fits_len h
  match l, hln with
  | [v0, v1, v2, v3, v4, v5, v6, v7, v8], _ =>
    obtain ⟨⟨n0, rfl, w0⟩, ⟨s, rfl, w1⟩, ⟨n2, rfl, w2⟩, ⟨n3, rfl, w3⟩, ⟨n4, rfl, w4⟩, ⟨n5, rfl, w5⟩, ⟨n6, rfl, w6⟩, ⟨n7, rfl, w7⟩, hs, _⟩ := h
    obtain ⟨xs, a, n, c, rfl, h1, h2, h3, _⟩ := leaf_ints hs
    exact ⟨⟨⟨n0, s, n2, n3, n4, ⟨n5, n6, n7⟩⟩, ⟨a, n, c⟩, xs⟩, rfl, ⟨i64_of w0, maxLen_i w1, i64_of w2, i64_of w3, i64_of w4, i64_of w5, i64_of w6, i64_of w7⟩, h3, h1, h2⟩
theorem slP_of {w : World} {v : Value} {xs : List Pt} (h : IsEs Pt.cs 6 Pt.wf w v xs) : ∃ d : Sl, v = .slice d.a d.n d.c ∧ SlP w d xs := by
  obtain ⟨a, n, c, rfl, h1, h2, h3, h4⟩ := h
  exact ⟨⟨a, n, c⟩, rfl, h3, h4, h1, h2⟩
theorem recsV_of {w : World} {v : Value} {xs : List RecA} (h : IsEs RecA.cs 9 (RecA.ok w) w v xs) : ∃ d : Sl, v = .slice d.a d.n d.c ∧ RecsV w d xs := by
  obtain ⟨a, n, c, rfl, h1, h2, h3, h4⟩ := h
  exact ⟨⟨a, n, c⟩, rfl, h3, h4, h1, h2⟩
/-- The argument is the message x, which bears ps, rs, vs. -/
def IsWi (w : World) (v : Value) (y : Wi × List Pt × List RecA × List Int) : Prop := v = .agg y.1.arr ∧ WiAt w y.1 y.2.1 y.2.2.1 y.2.2.2 ∧ i64' y.1.kind ∧ i64' y.1.id ∧ i64' y.1.time
theorem open_isWi {H : Type} {enc : TypeId × Value → H} {W : World} {r : Reach} {b0 : Nat} {v : Value} {d : DataW H} {ps : List MemPlace} (hval : Value.okWide Tryz.prog W r b0 33 v) (hd : DataW.Trod enc Tryz.prog W 0 (fun _ => true) true 33 v d ps) : ∃ y, IsWi W v y := by
  obtain ⟨cs, rfl, hf⟩ := open_fits 5 wireL wire_leaves (by kernel_rfl) hval hd
  have hl := fits_len hf
  match cs, hl with
  | [v0, v1, v2, v3, v4, v5, v6, v7, v8], _ =>
    obtain ⟨⟨n0, rfl, w0⟩, ⟨n1, rfl, w1⟩, ⟨s, rfl, w2⟩, ⟨n3, rfl, w3⟩, ⟨n4, rfl, w4⟩, hp, hr, hs, ⟨n8, rfl, w8⟩, _⟩ := hf
    obtain ⟨xs, h1⟩ := leaf_isEs Pt.cs 6 Pt.wf 5 ptL fits_pt rfl (by decide) Tryz.underlying31 pt_leaves (by kernel_rfl) hp
    obtain ⟨ys, h2⟩ := leaf_isEs RecA.cs 9 (RecA.ok W) 5 recL fits_rec rfl (by decide) Tryz.underlying22 rec_leaves (by kernel_rfl) hr
    obtain ⟨zs, a, n, c, rfl, h3, h4, h5, _⟩ := leaf_ints hs
    obtain ⟨dp, rfl, k1⟩ := slP_of h1
    obtain ⟨dr, rfl, k2⟩ := recsV_of h2
    exact ⟨(⟨n0, n1, s, n3, n4, dp, dr, ⟨a, n, c⟩, n8⟩, xs, ys, zs), rfl, ⟨k1, k2, ⟨h5, h3, h4⟩, i64_of w3, i64_of w4, maxLen_i w2⟩, i64_of w0, i64_of w1, i64_of w8⟩
end
end Go.Proofs.YtglabahbklpocaaGreat
