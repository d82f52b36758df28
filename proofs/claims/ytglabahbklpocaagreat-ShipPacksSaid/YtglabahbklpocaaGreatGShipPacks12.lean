/- mark.With: another number for a site. The reference's Covers, Compare, With. slices.Clone of records; a log in memory. A log in memory: what is held, and how it lasts; the small methods. -/
import Derived.Test.YtglabahbklpocaaGreatGShipPacks4
import Derived.Deep.DeepCutAuto
import Derived.Deep.CutBlock
import Derived.Test.YtglabahbklpocaaGreatGShipPacks5
import Derived.Deep.WholeRow
import Derived.Test.YtglabahbklpocaaGreatGShipPacks10
import Derived.Test.YtglabahbklpocaaGreatGShipPacks2
import Derived.Test.YtglabahbklpocaaGreatGShipPacks11
import Derived.Lib.SliceRun
namespace Go.Proofs.YtglabahbklpocaaGreat
section
open Go.RowKit
set_option maxRecDepth 100000
set_option linter.unusedVariables false
set_option linter.unusedSimpArgs false
theorem VecAt.stored {w : World} {B g : Nat} {l : List Int} (h : VecAt w B (some ⟨g, 0, none⟩) l) (i : Nat) (hi : i < l.length) (x : Int) : ReadsI .i64 (w.setCell ⟨g, i, none⟩ (.int .i64 x)) (some ⟨g, 0, none⟩) l.length (l.set i x) := by
  obtain ⟨g', e, _, hlt, hc, _⟩ := h.cell i hi
  obtain rfl : g = g' := by simpa using e
  refine ⟨by simp, .inr ⟨g, 0, rfl, by simpa using hlt, fun j hj => ?_⟩⟩
  rw [Nat.zero_add]
  by_cases hij : i = j
  · subst hij
    rw [World.cell?_setCell_same _ _ _ hc, List.getD_eq_getElem?_getD, List.getElem?_set_self hi]
    rfl
  · rw [World.cell?_setCell_other _ _ _ _ (by simp [hij])]
    obtain ⟨g', e, _, _, hc2, _⟩ := h.cell j hj
    obtain rfl : g = g' := by simpa using e
    rw [hc2, List.getD_eq_getElem?_getD, List.getD_eq_getElem?_getD, List.getElem?_set_ne hij]
/-- What the vector of a longer list with another number is. -/
theorem pl_with (xs : List Int) (k : Nat) (s : Nat) (hs : s < 8) (n : Int) (hl : s < (pl xs ++ List.replicate k 0).length) : pl ((pl xs ++ List.replicate k 0).set s n) = withV xs s n := by
  unfold withV
  apply vec_ext
  intro i hi
  unfold nm
  rw [List.getD_eq_getElem?_getD, List.getElem?_set]
  by_cases h : s = i
  · subst h
    rw [if_pos rfl, if_pos hl, if_pos rfl]
    rfl
  · rw [if_neg h, if_neg (by omega)]
    have e : (pl xs ++ List.replicate k 0)[i]?.getD 0 = (pl xs).getD i 0 := by
      rw [List.getD_eq_getElem?_getD, List.getElem?_append]
      split
      · rfl
      · rename_i h2
        rw [List.getElem?_eq_none (Nat.le_of_not_lt h2)]
        rw [List.getElem?_replicate]
        split <;> rfl
    rw [e, pl_getD, if_pos hi]
    exact cl_id (nm_range xs i).1 (nm_range xs i).2
theorem withV_out (xs : List Int) (s n : Int) (h : s < 0 ∨ 8 ≤ s) : withV xs s n = pl xs := vec_ext fun i hi => if_neg (by omega)
set_option maxHeartbeats 2000000 in
theorem with_any (a : Option Addr) (n c : Nat) (xs : List Int) (site v : Int) (w : World) (h : ReadsI .i64 w a n xs) (hnc : n ≤ c) (hcb : c ≤ 9223372036854775807) (h0 : -9223372036854775808 ≤ site) (h1 : site ≤ 9223372036854775807) :
    Calls Tryz.prog 91 #[.slice a n c, .int .i64 site, .int .i64 v] w fun e w' => ∃ a', e = .returned (.slice a' (withV xs site v).length (withV xs site v).length) ∧ VecAt w' w.heap.size a' (withV xs site v) ∧ Below w.heap.size w w' := by
  by_cases hout : site < 0 ∨ 8 ≤ site
  · rw [withV_out xs site v hout]
    rcases hout with ho | ho
    · have t1 : decide (site < 0) = true := decide_eq_true ho
      go_enter Tryz.func91, Tryz.ntmps91
      go_wp2_with fail
      refine (plain_any a n c xs w h hnc hcb).mono ?_
      rintro e w1 ⟨a', rfl, hv, hb⟩
      go_wp2
      go_ret
      exact ⟨a', rfl, hv, hb⟩
    · have t1 : decide (site < 0) = false := decide_eq_false (by omega)
      have t2 : decide (8 ≤ site) = true := decide_eq_true ho
      go_enter Tryz.func91, Tryz.ntmps91
      go_wp2_with fail
      refine (plain_any a n c xs w h hnc hcb).mono ?_
      rintro e w1 ⟨a', rfl, hv, hb⟩
      go_wp2
      go_ret
      exact ⟨a', rfl, hv, hb⟩
  · obtain ⟨s, rfl⟩ : ∃ s : Nat, site = s := ⟨site.toNat, by omega⟩
    have t1 : decide ((s : Int) < 0) = false := decide_eq_false (by omega)
    have t2 : decide (8 ≤ (s : Int)) = false := decide_eq_false (by omega)
    have hs8 : s < 8 := by omega
    have hl8 := pl_length xs
    obtain ⟨V, HV⟩ : ∃ V, Hid (V = withV xs s v) := ⟨_, rfl⟩
    rw [← HV.out]
    have HW := Lib.hid fun k hl => pl_with xs k s hs8 v hl
    go_enter Tryz.func91, Tryz.ntmps91
    go_wp2_with fail
    refine (plain_any a n c xs w h hnc hcb).mono ?_
    rintro e w1 ⟨a', rfl, hv, hb⟩
    have hg := hv.grow (by omega)
    clear hv
    generalize pl xs = P at *
    have HG := Lib.hid hg
    clear hg hout
    go_wp2_with fail
    go_loopw [7] (fun p wr => ∃ (a2 : Option Addr) (n2 cap2 k : Nat), p = .slice a2 n2 cap2 ∧ n2 ≤ 8 ∧ GrowI wr w.heap.size a2 n2 cap2 (P ++ List.replicate k 0) ∧ Below w.heap.size w wr) (fun p _ => 9 - (match p with | .slice _ n2 _ => n2 | _ => 0))
    case atStart => exact ⟨a', P.length, P.length, 0, rfl, hl8, by simpa using HG.out, hb⟩
    case round =>
      obtain ⟨a2, n2, cap2, k, rfl, hn8, hgr, hbel⟩ := hrel
      have hlen := hgr.len
      have hle := hgr.le
      have hmax : cap2 ≤ 9223372036854775807 := hgr.max
      have HGr := Lib.hid hgr
      clear hgr
      by_cases hle2 : n2 ≤ s
      · have t3 : decide (n2 ≤ s) = true := decide_eq_true hle2
        go_wp2_with (at_builtin; refine wpList_append_int rfl _ _ rfl _ w.heap.size a2 n2 cap2 (P ++ List.replicate k 0) rfl (HGr.out.below ?q1) ?q2 ?q3 ⟨wr.heap.size, 0, none⟩ 1 0 rfl ?q4 ?q5)
        case q1 => exact (Below.refl _ _).alloc (Nat.le_refl _) _
        case q2 => exact Nat.le_trans hbel.size (by simp)
        case q3 => omega
        case q4 => rw [World.cell?_alloc_new]; rfl
        case q5 =>
          intro a3 cap3 w3 hg3 hb3
          have HG3 := Lib.hid hg3
          clear hg3
          have hb4 : Below w.heap.size w w3 := (hbel.alloc hbel.size _).trans hb3
          go_wp2
          go_roundw
          case rel => exact ⟨a3, n2 + 1, cap3, k + 1, rfl, by omega, by rw [List.replicate_succ', ← List.append_assoc]; exact (by rw [← List.append_assoc] at HG3; exact HG3.out), hb4⟩
          case measure => simp; omega
      · have t3 : decide (n2 ≤ s) = false := decide_eq_false hle2
        obtain ⟨g, rfl, hgB, hglt, hcell, hfz⟩ := HGr.out.vec.cell s (by omega)
        have HS := Lib.hid (HGr.out.vec.stored s (by omega) v)
        have HWk := Lib.hid (HW.out k (by omega))
        have hbel2 : Below w.heap.size w (wr.setCell ⟨g, s, none⟩ (.int .i64 v)) := hbel.setCell (p := ⟨g, s, none⟩) hgB _
        have i1 : (0 : Int) ≤ (s : Int) := by omega
        have i2 : (s : Int) < (n2 : Int) := by omega
        rw [hlen] at HS
        generalize (P ++ List.replicate k 0).getD s 0 = y at *
        go_wp2_with fail
        refine (plain_any _ n2 cap2 _ _ HS.out hle hmax).mono ?_
        rintro e w3 ⟨a', rfl, hv, hb3⟩
        rw [HWk.out, ← HV.out] at hv ⊢
        go_wp2
        go_ret
        exact ⟨a', rfl, hv.mono hbel2.size, below_then hbel2 hbel2.size hb3⟩
end
end Go.Proofs.YtglabahbklpocaaGreat
namespace Go.Proofs.YtglabahbklpocaaGreat
section
open Go.RowKit
set_option maxRecDepth 100000
set_option linter.unusedVariables false
set_option linter.unusedSimpArgs false
set_option maxHeartbeats 4000000 in
theorem rcovers_any (a1 a2 : Option Addr) (n1 c1 n2 c2 : Nat) (xs ys : List Int) (w : World) (h1 : ReadsI .i64 w a1 n1 xs) (h2 : ReadsI .i64 w a2 n2 ys) (hc1 : n1 ≤ c1) (hb1 : c1 ≤ 9223372036854775807) (hc2 : n2 ≤ c2) (hb2 : c2 ≤ 9223372036854775807) :
    Calls Tryz.prog 92 #[.slice a1 n1 c1, .slice a2 n2 c2] w fun e w' => e = .returned (.bool (covV xs ys)) ∧ Below w.heap.size w w' := by
  obtain ⟨V, HV⟩ : ∃ V, Hid (V = covV xs ys) := ⟨_, rfl⟩
  rw [← HV.out]
  have H2 := Lib.hid h2
  clear h2
  go_enter Tryz.func92, Tryz.ntmps92
  go_wp2_with fail
  refine (rall_any a1 n1 c1 xs w h1 hc1 hb1).mono ?_
  rintro e w1 ⟨rfl, hbw1⟩
  go_wp2_with (refine wpList_store_row rfl 121 _ _ rfl w1.heap.size (arrI (upto (nm xs) 8)) rfl rfl 121 _ (heap_alloc_new w1 _) (size8 _ _) (by rw [arrI_size, upto_length]; rfl) (arrI_one _) ?_)
  rw [World.setRow_alloc_new]
  have hX1 : ArrAt (w1.alloc (.cells (arrI (upto (nm xs) 8)) 121)) 121 w1.heap.size (upto (nm xs) 8) := heap_alloc_new w1 _
  have hb1' : Below w.heap.size w (w1.alloc (.cells (arrI (upto (nm xs) 8)) 121)) := hbw1.alloc hbw1.size _
  have hg5 : w.heap.size ≤ w1.heap.size := hbw1.size
  generalize w1.alloc (.cells (arrI (upto (nm xs) 8)) 121) = w2 at *
  refine (rall_any a2 n2 c2 ys w2 (H2.out.below hb1') hc2 hb2).mono ?_
  rintro e w3 ⟨rfl, hbw3⟩
  have hX3 := hX1.below hbw3
  have hb3' := below_then hb1' hb1'.size hbw3
  clear hX1 hb1' hbw3 hbw1
  go_wp2_with (refine wpList_store_row rfl 121 _ _ rfl w3.heap.size (arrI (upto (nm ys) 8)) rfl rfl 121 _ (heap_alloc_new w3 _) (size8 _ _) (by rw [arrI_size, upto_length]; rfl) (arrI_one _) ?_)
  rw [World.setRow_alloc_new]
  have hY4 : ArrAt (w3.alloc (.cells (arrI (upto (nm ys) 8)) 121)) 121 w3.heap.size (upto (nm ys) 8) := heap_alloc_new w3 _
  have hX4 : ArrAt (w3.alloc (.cells (arrI (upto (nm ys) 8)) 121)) 121 w1.heap.size (upto (nm xs) 8) := hX3.below ((Below.refl _ _).alloc (Nat.le_refl _) _)
  have hb4 : Below w.heap.size w (w3.alloc (.cells (arrI (upto (nm ys) 8)) 121)) := hb3'.alloc hb3'.size _
  have hne : w1.heap.size ≠ w3.heap.size := Nat.ne_of_lt hX3.lt
  clear hX3 hb3'
  generalize w3.alloc (.cells (arrI (upto (nm ys) 8)) 121) = w4 at *
  generalize w1.heap.size = g5 at *
  generalize w3.heap.size = g6 at *
  have hfr := fun i => nm_range xs i
  have hgr := fun i => nm_range ys i
  have HV2 : Hid (V = true ↔ ∀ i, i < 8 → nm ys i ≤ nm xs i) := by
    show _ ↔ _
    rw [HV.out]
    exact covV_true xs ys
  clear HV
  generalize nm xs = f at *
  generalize nm ys = g at *
  have INIT := Lib.hid (And.intro hX4 (And.intro hY4 hb4))
  clear hX4 hY4 hb4
  go_loopw [7] (fun i wr => ∃ k : Nat, k ≤ 8 ∧ i = .int .i64 k ∧ ArrAt wr 121 g5 (upto f 8) ∧ ArrAt wr 121 g6 (upto g 8) ∧ (∀ j, j < k → g j ≤ f j) ∧ Below w.heap.size w wr) (fun i _ => 9 - (intOf i).toNat)
  case atStart => exact ⟨0, by omega, rfl, INIT.out.1, INIT.out.2.1, fun j hj => by omega, INIT.out.2.2⟩
  case round =>
    obtain ⟨k, hk, rfl, hX, hY, hle, hbel⟩ := hrel
    have HLE := Lib.hid hle
    clear hle
    by_cases hlt : k < 8
    · have t1 : decide ((k : Int) < 8) = true := decide_eq_true (by omega)
      have i1 : (0 : Int) ≤ (k : Int) := by omega
      have i2 : (k : Int) < 8 := by omega
      have hxc := hX.cell k (by rw [upto_length]; exact hlt)
      have hyc := hY.cell k (by rw [upto_length]; exact hlt)
      have hxf := hX.fz k
      have hfk : (upto f 8).getD k 0 = f k := by rw [upto_eight, List.getD_eq_getElem?_getD]; simp [hlt]
      rw [hfk] at hxc
      clear hfk
      have hgk : (upto g 8).getD k 0 = g k := by rw [upto_eight, List.getD_eq_getElem?_getD]; simp [hlt]
      rw [hgk] at hyc
      clear hgk
      have HX := Lib.hid hX
      have HY := Lib.hid hY
      clear hX hY
      by_cases hxy : f k < g k
      · have t2 : decide (f k < g k) = true := decide_eq_true hxy
        have hV : Hid (V = false) := by
          show _ = _
          cases hV : V with
          | false => rfl
          | true => exact absurd (HV2.out.1 hV k hlt) (by omega)
        generalize f k = x at *
        generalize g k = y at *
        go_wp2_with fail
        go_quiet (fail)
        go_wp2_with fail
        go_ret
        exact ⟨by rw [hV.out]; rfl, below_drewN hbel nq⟩
      · have t2 : decide (f k < g k) = false := decide_eq_false hxy
        have HL2 : Hid (∀ j, j < k + 1 → g j ≤ f j) := fun j hj => by
          rcases Nat.lt_or_ge j k with h | h
          · exact HLE.out j h
          · obtain rfl : j = k := by omega
            omega
        generalize f k = x at *
        generalize g k = y at *
        go_wp2_with fail
        go_quiet (fail)
        go_wp2_with fail
        go_roundw
        case rel => exact ⟨k + 1, by omega, by go_num, HX.out, HY.out, HL2.out, below_drewN hbel nq⟩
        case measure => simp [intOf]; omega
    · have t1 : decide ((k : Int) < 8) = false := decide_eq_false (by omega)
      obtain rfl : k = 8 := by omega
      have hV : Hid (V = true) := HV2.out.2 fun i hi => HLE.out i hi
      go_wp2_with fail
      go_ret
      exact ⟨by rw [hV.out]; rfl, hbel⟩
end
end Go.Proofs.YtglabahbklpocaaGreat
namespace Go.Proofs.YtglabahbklpocaaGreat
section
open Go.RowKit Go.Deep
set_option maxRecDepth 100000
set_option linter.unusedVariables false
set_option linter.unusedSimpArgs false
attribute [local go_sem ↓] Go.wp_at_zero Go.wp_at_succ
end
end Go.Proofs.YtglabahbklpocaaGreat
namespace Go.Proofs.YtglabahbklpocaaGreat
section
open Go.RowKit Go.Deep
set_option maxRecDepth 100000
set_option linter.unusedVariables false
set_option linter.unusedSimpArgs false
attribute [local go_sem ↓] Go.wp_at_zero Go.wp_at_succ
abbrev RcM := Rc × List Int
def RecA.m (x : RecA) : RcM := (x.r, x.ds)
/-- A log, plainly. -/
structure LogM where
  most : Int
  bs : List Int
  ks : List Int
  xs : List RcM
  clock : Int
def logO (m : Int) (b k a : Sl) (c : Int) : Obj := .cells #[.int .i64 m, .slice b.a b.n b.c, .slice k.a k.n k.c, .slice a.a a.n a.c, .int .i64 c] 117 (0, 0)
/-- No cell of the slice lies in a block of F. -/
def farA (F : List Nat) (d : Sl) : Prop := d.n = 0 ∨ ∀ p, d.a = some p → p.block ∉ F
theorem SlR.keep {w w' : World} {F : List Nat} {d : Sl} {xs : List Int} (h : SlR w d xs) (hf : farA F d) (hs : w.heap.size ≤ w'.heap.size) (hd : ∀ i, i < w.heap.size → i ∉ F → w'.heap[i]? = w.heap[i]?) : SlR w' d xs := by
  obtain ⟨⟨h1, h2⟩, h3, h4⟩ := h
  refine ⟨⟨h1, ?_⟩, h3, h4⟩
  rcases h2 with h2 | ⟨b, o, e1, e2, e3⟩
  · exact .inl h2
  · rcases hf with hf | hf
    · exact .inl hf
    · refine .inr ⟨b, o, e1, by omega, fun j hj => ?_⟩
      rw [← e3 j hj]
      simp only [World.cell?]
      rw [hd b e2 (hf _ e1)]
theorem ReadsE.keep {α : Type} {cs : α → List Value} {sz : Nat} {w w' : World} {F : List Nat} {d : Sl} {xs : List α} (h : ReadsE cs sz w d.a d.n xs) (hf : farA F d) (hs : w.heap.size ≤ w'.heap.size) (hd : ∀ i, i < w.heap.size → i ∉ F → w'.heap[i]? = w.heap[i]?) : ReadsE cs sz w' d.a d.n xs := by
  obtain ⟨h1, h2⟩ := h
  refine ⟨h1, ?_⟩
  rcases h2 with h2 | ⟨b, o, e1, e2, e3⟩
  · exact .inl h2
  · rcases hf with hf | hf
    · exact .inl hf
    · refine .inr ⟨b, o, e1, by omega, fun j x hj k u hk => ?_⟩
      rw [← e3 j x hj k u hk]
      simp only [World.cell?]
      rw [hd b e2 (hf _ e1)]
structure LogC (w : World) (F : List Nat) (b k a : Sl) (rs : List RecA) (m : LogM) : Prop where
  hb : SlR w b m.bs
  hk : SlR w k m.ks
  ha : ReadsE RecA.cs 9 w a.a a.n rs
  ac : a.n ≤ a.c
  am : a.c ≤ 9223372036854775807
  ok : ∀ x ∈ rs, x.ok w
  xs : m.xs = rs.map RecA.m
  fb : farA F b
  fk : farA F k
  fa : farA F a
  fr : ∀ x ∈ rs, farA F x.d ∧ x.d.n ≤ 8
  sm : a.n ≤ 400
  bn : b.n ≤ 8
  kn : k.n ≤ 8
  mo : m.most ≤ 400 ∧ 0 ≤ m.most
  ck : i64' m.clock
  fm : a.a = none ∨ ∃ b o, a.a = some ⟨b, o, none⟩
/-- Block g is a log that holds m; none of its data lies in a block of F. -/
def LogAt (w : World) (F : List Nat) (g : Nat) (m : LogM) : Prop := ∃ b k a rs, w.heap[g]? = some (logO m.most b k a m.clock) ∧ LogC w F b k a rs m
theorem LogC.keep {w w' : World} {F : List Nat} {b k a : Sl} {rs : List RecA} {m : LogM} (h : LogC w F b k a rs m) (hs : w.heap.size ≤ w'.heap.size) (hd : ∀ i, i < w.heap.size → i ∉ F → w'.heap[i]? = w.heap[i]?) : LogC w' F b k a rs m :=
  ⟨h.hb.keep h.fb hs hd, h.hk.keep h.fk hs hd, ReadsE.keep h.ha h.fa hs hd, h.ac, h.am, fun x hx => ⟨(h.ok x hx).wf, (h.ok x hx).sl.keep (h.fr x hx).1 hs hd⟩, h.xs, h.fb, h.fk, h.fa, h.fr, h.sm, h.bn, h.kn, h.mo, h.ck, h.fm⟩
theorem LogC.below {w w' : World} {F : List Nat} {b k a : Sl} {rs : List RecA} {m : LogM} (h : LogC w F b k a rs m) (hb : Below w.heap.size w w') : LogC w' F b k a rs m := h.keep hb.size (fun i hi _ => hb.block i hi)
theorem LogC.but {w w' : World} {F : List Nat} {b k a : Sl} {rs : List RecA} {m : LogM} {g : Nat} (h : LogC w F b k a rs m) (hg : g ∈ F) (d : But g w w') : LogC w' F b k a rs m :=
  h.keep d.size (fun i hi hn => d.block i hi (by simp; exact fun e => hn (e ▸ hg)))
theorem LogAt.below {w w' : World} {F : List Nat} {g : Nat} {m : LogM} (h : LogAt w F g m) (hb : Below w.heap.size w w') : LogAt w' F g m := by
  obtain ⟨b, k, a, rs, h1, h2⟩ := h
  exact ⟨b, k, a, rs, (hb.block g (heap_lt h1)).trans h1, h2.below hb⟩
theorem LogAt.but {w w' : World} {F : List Nat} {g g' : Nat} {m : LogM} (h : LogAt w F g m) (hg : g' ∈ F) (hne : g ≠ g') (d : But g' w w') : LogAt w' F g m := by
  obtain ⟨b, k, a, rs, h1, h2⟩ := h
  exact ⟨b, k, a, rs, (d.block g (heap_lt h1) (by simpa using fun e => hne e)).trans h1, h2.but hg d⟩
theorem farA.grow {w : World} {F : List Nat} {d : Sl} (h : farA F d) (hl : d.n = 0 ∨ ∀ p, d.a = some p → p.block < w.heap.size) {k : Nat} (hk : w.heap.size ≤ k) : farA (k :: F) d := by
  rcases hl with hl | hl
  · exact .inl hl
  · rcases h with h | h
    · exact .inl h
    · refine .inr fun p hp => ?_
      have h1 := hl p hp
      have h2 := h p hp
      simp only [List.mem_cons, not_or]
      exact ⟨by omega, h2⟩
theorem SlR.lt {w : World} {d : Sl} {xs : List Int} (h : SlR w d xs) : d.n = 0 ∨ ∀ p, d.a = some p → p.block < w.heap.size := by
  rcases h.r.2 with h1 | ⟨b, o, e1, e2, _⟩
  · exact .inl h1
  · exact .inr fun p hp => by rw [e1] at hp; cases hp; exact e2
theorem ReadsE.ltA {α : Type} {cs : α → List Value} {sz : Nat} {w : World} {d : Sl} {xs : List α} (h : ReadsE cs sz w d.a d.n xs) : d.n = 0 ∨ ∀ p, d.a = some p → p.block < w.heap.size := by
  rcases h.2 with h1 | ⟨b, o, e1, e2, _⟩
  · exact .inl h1
  · exact .inr fun p hp => by rw [e1] at hp; cases hp; exact e2
/-- A new block may be named among those in which no data lies. -/
theorem LogAt.grow {w : World} {F : List Nat} {g : Nat} {m : LogM} (h : LogAt w F g m) {k : Nat} (hk : w.heap.size ≤ k) : LogAt w (k :: F) g m := by
  obtain ⟨b, k', a, rs, h1, h2⟩ := h
  exact ⟨b, k', a, rs, h1, h2.hb, h2.hk, h2.ha, h2.ac, h2.am, h2.ok, h2.xs, h2.fb.grow h2.hb.lt hk, h2.fk.grow h2.hk.lt hk, h2.fa.grow h2.ha.ltA hk, fun x hx => ⟨(h2.fr x hx).1.grow (h2.ok x hx).sl.lt hk, (h2.fr x hx).2⟩, h2.sm, h2.bn, h2.kn, h2.mo, h2.ck, h2.fm⟩
theorem farA.ge {F : List Nat} {B : Nat} (hF : ∀ k ∈ F, k < B) {d : Sl} (h : d.n = 0 ∨ ∀ p, d.a = some p → B ≤ p.block) : farA F d :=
  h.imp_right fun h p hp hm => by have := h p hp; have := hF _ hm; omega
theorem VecAt.far {w : World} {F : List Nat} {B : Nat} {a : Option Addr} {l : List Int} (h : VecAt w B a l) (hF : ∀ k ∈ F, k < B) : farA F ⟨a, l.length, l.length⟩ := by
  rcases h.own with h1 | ⟨g, e, h2, _⟩
  · exact .inl (by rw [h1]; rfl)
  · exact .inr fun p hp hm => by rw [e] at hp; cases hp; have := hF _ hm; simp only at this; omega
theorem AppE.far {α : Type} {cs : α → List Value} {T : TypeId} {sz : Nat} {w : World} {B : Nat} {a : Option Addr} {n cap : Nat} {l : List α} (h : AppE cs T sz w B a n cap l) {F : List Nat} (hF : ∀ k ∈ F, k < B) : farA F ⟨a, n, cap⟩ := by
  refine .inr fun p hp hm => ?_
  subst hp
  have := (h.row.lt p.block rfl).1
  have := hF _ hm
  omega
/-- The slice's numbers lie in a block of numbers. -/
def TI (w : World) (d : Sl) : Prop := d.n = 0 ∨ ∃ g cur, d.a = some ⟨g, 0, none⟩ ∧ w.heap[g]? = some (.cells cur 3 (0, 0))
theorem TI.keep {w w' : World} {F : List Nat} {d : Sl} (h : TI w d) (hf : farA F d) (hd : ∀ i, i < w.heap.size → i ∉ F → w'.heap[i]? = w.heap[i]?) : TI w' d := by
  rcases h with h | ⟨g, cur, e1, e2⟩
  · exact .inl h
  · rcases hf with hf | hf
    · exact .inl hf
    · exact .inr ⟨g, cur, e1, (hd g (heap_lt e2) (hf _ e1)).trans e2⟩
/-- The clone of a list of numbers. -/
theorem clone_sl2 (d : Sl) (xs : List Int) (w : World) (h : SlR w d xs) (hn : d.n ≤ 1000) : Calls Tryz.prog 129 #[.slice d.a d.n d.c] w fun e w' => ∃ d' : Sl, e = .returned (.slice d'.a d'.n d'.c) ∧ SlR w' d' xs ∧ (d'.n = 0 ∨ ∀ p, d'.a = some p → w.heap.size ≤ p.block) ∧ d'.n = d.n ∧ Below w.heap.size w w' ∧ TI w' d' := by
  refine (clone_any d.a d.n d.c xs w h.r hn).mono ?_
  rintro e w' ⟨v', rfl, hown, hb⟩
  have hl := h.r.1
  rcases hown.2 with ⟨rfl, h0⟩ | ⟨g, cap, cur, rfl, hB, hg, h3, h4, h5, h6⟩
  · refine ⟨⟨none, 0, 0⟩, rfl, ⟨⟨?_, .inl rfl⟩, Nat.le_refl _, by decide⟩, .inl rfl, h0.symm, hb, .inl rfl⟩
    rw [hl, h0]
  · refine ⟨⟨some ⟨g, 0, none⟩, d.n, cap⟩, rfl, ⟨⟨hl, .inr ⟨g, 0, rfl, heap_lt hg, fun j hj => ?_⟩⟩, h3, maxLen_i h4⟩, .inr fun p hp => by cases hp; exact hB, rfl, hb, .inr ⟨g, cur, rfl, hg⟩⟩
    rw [Nat.zero_add, hown.cellAt j (by simp only at hj; omega), List.getElem?_map, List.getElem?_eq_getElem (by rw [hl]; exact hj)]
    simp [List.getD_eq_getElem?_getD, hl, show j < d.n from hj]
def fresh (B : Nat) (d : Sl) : Prop := d.n = 0 ∨ ∀ p, d.a = some p → B ≤ p.block
set_option maxHeartbeats 4000000 in
theorem copied_any2 (x : RecA) (w : World) (hx : x.ok w) (hn : x.d.n ≤ 1000) : Calls Tryz.prog 90 #[x.val] w fun e w' => ∃ d' : Sl, e = .returned (rcVal x.r d') ∧ SlR w' d' x.ds ∧ fresh w.heap.size d' ∧ d'.n = x.d.n ∧ Below w.heap.size w w' ∧ TI w' d' := by
  have HX := Lib.hid hx
  have C := fun wx hb => clone_sl2 x.d x.ds wx (HX.out.sl.below (w' := wx) hb) hn
  obtain ⟨r, d, ds⟩ := x
  unfold RecA.val rcVal
  simp only [rcA] at C ⊢
  clear hx
  go_enter Tryz.func90, Tryz.ntmps90
  go_upto_region 1 with fail
  generalize hw1 : World.alloc _ _ = w1
  have KK := Lib.hid (show Kn w.heap.size w [(w.heap.size, rcO r d), (w.heap.size + 1, rcO ⟨0, ⟨#[]⟩, 0, 0, 0, ⟨0, 0, 0⟩⟩ ⟨none, 0, 0⟩)] w1 by rw [← hw1]; exact (((Kn.start w).new' rfl (rcO r d)).new' (n := w.heap.size + 1) (by simp) (rcO ⟨0, ⟨#[]⟩, 0, 0, 0, ⟨0, 0, 0⟩⟩ ⟨none, 0, 0⟩)).sub (by simp))
  clear hw1
  generalize hg : w.heap.size = g at *
  have c8 := KK.out.cell (g := g) (o := rcO r d) (by simp) (j := 8) (v := .slice d.a d.n d.c) rfl
  have hlt := KK.out.lt (g + 1, _) (List.mem_cons_of_mem _ (List.mem_cons_self ..))
  simp only at hlt
  go_upto_region 2 with (first | (go_at_call 129; refine (C _ KK.out.b).mono ?_; rintro e wn ⟨d', rfl, hS, hF, hdn, dn, hTI⟩; have HDN := Lib.hid hdn; clear hdn; have KK := Lib.hid (KK.out.below dn); have f8 := KK.out.fz (g := g) (o := rcO r d) (by simp) 8; have e8 := KK.out.cell (g := g) (o := rcO r d) (by simp) (j := 8) (v := .slice d.a d.n d.c) rfl))
  have hF2 : Hid (d'.n = 0 ∨ ∀ p, d'.a = some p → g + 2 ≤ p.block) := hF.imp_right fun h p hp => by have := h p hp; omega
  generalize hwx : World.setCell _ _ _ = wx
  have HS : Hid (SlR wx d' ds) := by
    rw [← hwx]
    refine SlR.keep (F := [g]) hS ?_ (by simp [World.setCell]) (fun i _ hi => Below.heap_setCell _ _ _ _ (by simpa using hi))
    exact hF2.out.imp_right fun h p hp hm => by have := h p hp; simp only [List.mem_singleton] at hm; omega
  have HTI : Hid (TI wx d') := by
    rw [← hwx]
    exact hTI.keep (F := [g]) (hF2.out.imp_right fun h p hp hm => by have := h p hp; simp only [List.mem_singleton] at hm; omega) (fun i _ hi => Below.heap_setCell _ _ _ _ (by simpa using hi))
  clear hTI
  have KK := Lib.hid (show Kn g w [(g, rcO r d'), (g + 1, rcO ⟨0, ⟨#[]⟩, 0, 0, 0, ⟨0, 0, 0⟩⟩ ⟨none, 0, 0⟩)] wx by rw [← hwx]; exact Kn.setCell KK.out (by simp only [Apart, and_true]; omega) (by omega) 8 _ _ rfl)
  clear hwx c8 f8 e8 hS hF C
  go_wp2_with (first
    | refine wpList_load_row rfl 60 _ rfl g rfl 60 (rcA r d') (0, 0) _ KK.out.hd Tryz.underlying60 rfl (by kernel_rfl) ?_
    | refine wpList_store_row rfl 60 _ _ rfl (g + 1) (rcA r d') rfl rfl 60 _ (KK.out.tl.hd) (by kernel_rfl) rfl (by simp [Value.oneCell', rcA]) ?_)
  have KF := Kn.setRow (KK.out.sub (m := [(g + 1, rcO ⟨0, ⟨#[]⟩, 0, 0, 0, ⟨0, 0, 0⟩⟩ ⟨none, 0, 0⟩)]) (by simp)) trivial (by omega) (rcO r d')
  refine bodyPost_ret (v := rcVal r d') (results_cell_row rfl _ _ (g + 1) 60 (rcA r d') (0, 0) _ rfl KF.hd Tryz.underlying60 rfl (by kernel_rfl)) rfl ⟨d', rfl, ?_, ?_, HDN.out, by rw [hg]; exact KF.b, ?_⟩
  · refine SlR.keep (F := [g + 1]) HS.out ?_ (by simp [World.setRow]) (fun i _ hi => setRow_other _ _ _ _ (by simpa using hi))
    exact hF2.out.imp_right fun h p hp hm => by have := h p hp; simp only [List.mem_singleton] at hm; omega
  · rw [hg]
    exact hF2.out.imp_right fun h p hp => by have := h p hp; omega
  · exact HTI.out.keep (F := [g + 1]) (hF2.out.imp_right fun h p hp hm => by have := h p hp; simp only [List.mem_singleton] at hm; omega) (fun i _ hi => setRow_other _ _ _ _ (by simpa using hi))
theorem copied_any (x : RecA) (w : World) (hx : x.ok w) (hn : x.d.n ≤ 1000) : Calls Tryz.prog 90 #[x.val] w fun e w' => ∃ d' : Sl, e = .returned (rcVal x.r d') ∧ SlR w' d' x.ds ∧ fresh w.heap.size d' ∧ d'.n = x.d.n ∧ Below w.heap.size w w' :=
  (copied_any2 x w hx hn).mono fun e w' ⟨d', h1, h2, h3, h4, h5, _⟩ => ⟨d', h1, h2, h3, h4, h5⟩
end
end Go.Proofs.YtglabahbklpocaaGreat
