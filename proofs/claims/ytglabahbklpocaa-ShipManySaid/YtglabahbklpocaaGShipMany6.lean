/- The vectors of the package mark: At, each, Join, Meet, Covers, Compare, Right. mark.each with the inner function of mark.Join. (Printed by wip/meach.py.) -/
import Derived.Test.YtglabahbklpocaaGShipMany5
namespace Go.Proofs.Ytglabahbklpocaa
section
open Go.RowKit
set_option maxRecDepth 100000
set_option linter.unusedVariables false
set_option linter.unusedSimpArgs false
theorem atV_pl (xs : List Int) (i : Int) : atV xs i = if 0 ≤ i then (pl xs).getD i.toNat 0 else 0 := by
  unfold atV
  by_cases h0 : 0 ≤ i
  · rw [if_pos h0, pl_getD]
    by_cases h8 : i < 8
    · rw [if_pos ⟨h0, h8⟩, if_pos (by omega)]
    · rw [if_neg (by omega), if_neg (by omega)]
  · rw [if_neg h0, if_neg (by omega)]
theorem VecAt.cell {w : World} {B : Nat} {a : Option Addr} {l : List Int} (h : VecAt w B a l) (i : Nat) (hi : i < l.length) : ∃ g, a = some ⟨g, 0, none⟩ ∧ B ≤ g ∧ g < w.heap.size ∧ w.cell? ⟨g, i, none⟩ = some (.int .i64 (l.getD i 0)) ∧ w.frozen? ⟨g, i, none⟩ = false := by
  obtain ⟨g, rfl, h1, h2, h3⟩ := h.own.resolve_left (by intro h'; subst h'; simp at hi)
  obtain ⟨b, o, h4, h5, h6⟩ := h.reads.2.resolve_left (by omega)
  simp only [Option.some.injEq, Addr.mk.injEq, and_true] at h4
  obtain ⟨rfl, rfl⟩ := h4
  exact ⟨g, rfl, h1, h2, by simpa using h6 i hi, h3 i⟩
set_option maxHeartbeats 1000000 in
theorem at_any (a : Option Addr) (n c : Nat) (xs : List Int) (site : Int) (w : World) (h : ReadsI .i64 w a n xs) (hnc : n ≤ c) (hcb : c ≤ 9223372036854775807) (h0 : -9223372036854775808 ≤ site) (h1 : site ≤ 9223372036854775807) :
    Calls Try.prog 71 #[.slice a n c, .int .i64 site] w fun e w' => e = .returned (.int .i64 (atV xs site)) ∧ Below w.heap.size w w' := by
  obtain ⟨V, HV⟩ : ∃ V, Hid (V = atV xs site) := ⟨_, rfl⟩
  rw [← HV.out]
  rw [atV_pl] at HV
  have hl8 := pl_length xs
  go_enter Try.func71, Try.ntmps71
  go_wp2_with fail
  refine (plain_any a n c xs w h hnc hcb).mono ?_
  rintro e w1 ⟨a', rfl, hv, hb⟩
  generalize pl xs = P at *
  have HVec := Lib.hid hv
  clear hv
  by_cases hneg : site < 0
  · have t1 : decide (site < 0) = true := decide_eq_true hneg
    have hV : Hid (V = 0) := by
      show _ = _
      rw [HV.out, if_neg (by omega)]
    go_wp2_with fail
    go_ret
    exact ⟨by rw [hV.out]; rfl, hb⟩
  · have t1 : decide (site < 0) = false := decide_eq_false hneg
    by_cases hge : (P.length : Int) ≤ site
    · have t2 : decide ((P.length : Int) ≤ site) = true := decide_eq_true hge
      have hV : Hid (V = 0) := by
        show _ = _
        rw [HV.out, if_pos (by omega), getD_out (by omega)]
      go_wp2_with fail
      go_ret
      exact ⟨by rw [hV.out]; rfl, hb⟩
    · obtain ⟨k, rfl⟩ : ∃ k : Nat, site = k := ⟨site.toNat, by omega⟩
      have t2 : decide (P.length ≤ k) = false := decide_eq_false (by omega)
      obtain ⟨g, rfl, _, _, hcell, _⟩ := HVec.out.cell k (by omega)
      have hV : Hid (P.getD k 0 = V) := by
        show _ = _
        rw [HV.out, if_pos (by omega)]
        rfl
      have i1 : (0 : Int) ≤ (k : Int) := by omega
      have i2 : (k : Int) < (P.length : Int) := by omega
      generalize P.getD k 0 = y at *
      clear HV
      go_wp2_with fail
      go_ret
      exact ⟨by rw [← hV.out]; rfl, hb⟩
def arrI (l : List Int) : Array Value := (l.map (Value.int .i64)).toArray
theorem arrI_get (l : List Int) (i : Nat) (h : i < l.length) : (arrI l)[i]? = some (.int .i64 (l.getD i 0)) := by
  simp [arrI, h]
theorem arrI_set (l : List Int) (i : Nat) (v : Int) : (arrI l).setIfInBounds i (.int .i64 v) = arrI (l.set i v) := by
  simp [arrI, List.map_set]
/-- The block g is an array of the numbers l. -/
def ArrAt (w : World) (T : TypeId) (g : Nat) (l : List Int) : Prop := w.heap[g]? = some (.cells (arrI l) T (0, 0))
theorem ArrAt.lt {T : TypeId} {w : World} {g : Nat} {l : List Int} (h : ArrAt w T g l) : g < w.heap.size := by
  unfold ArrAt at h
  rcases Nat.lt_or_ge g w.heap.size with h' | h'
  · exact h'
  · simp [Array.getElem?_eq_none h'] at h
theorem ArrAt.cell {T : TypeId} {w : World} {g : Nat} {l : List Int} (h : ArrAt w T g l) (i : Nat) (hi : i < l.length) : w.cell? ⟨g, i, none⟩ = some (.int .i64 (l.getD i 0)) := by
  simp only [World.cell?, show w.heap[g]? = _ from h]
  exact arrI_get l i hi
theorem ArrAt.fz {T : TypeId} {w : World} {g : Nat} {l : List Int} (h : ArrAt w T g l) (j : Nat) : w.frozen? ⟨g, j, none⟩ = false := by simp [World.frozen?, show w.heap[g]? = _ from h]
theorem ArrAt.set {T : TypeId} {w : World} {g : Nat} {l : List Int} (h : ArrAt w T g l) (i : Nat) (v : Int) : ArrAt (w.setCell ⟨g, i, none⟩ (.int .i64 v)) T g (l.set i v) := by
  unfold ArrAt at *
  simp [World.setCell, Array.getElem?_modify, h, arrI_set]
theorem ArrAt.below {T : TypeId} {w w' : World} {g : Nat} {l : List Int} (h : ArrAt w T g l) (hb : Below w.heap.size w w') : ArrAt w' T g l := (hb.block g h.lt).trans h
theorem ArrAt.reads {T : TypeId} {w : World} {g : Nat} {l : List Int} (h : ArrAt w T g l) : ReadsI .i64 w (some ⟨g, 0, none⟩) l.length l :=
  ⟨rfl, .inr ⟨g, 0, rfl, h.lt, fun j hj => by rw [Nat.zero_add]; exact h.cell j hj⟩⟩
/-- The first k of a row of 8. -/
def upto (f : Nat → Int) (k : Nat) : List Int := (List.range 8).map fun j => if j < k then f j else 0
theorem upto_length (f : Nat → Int) (k : Nat) : (upto f k).length = 8 := by simp [upto]
theorem upto_set (f : Nat → Int) (k : Nat) : (upto f k).set k (f k) = upto f (k + 1) := by
  unfold upto
  apply List.ext_getElem?
  intro i
  rw [List.getElem?_set]
  simp only [List.length_map, List.length_range, List.getElem?_map, List.getElem?_range]
  by_cases h8 : i < 8
  · rcases Nat.lt_trichotomy i k with h1 | h1 | h1
    · rw [if_neg (by omega)]; simp [h8, h1, show i < k + 1 by omega]
    · subst h1; simp [h8]
    · rw [if_neg (by omega)]; simp [h8, show ¬ i < k by omega, show ¬ i < k + 1 by omega]
  · by_cases hk : k = i
    · subst hk; simp [h8]
    · rw [if_neg hk]; simp [h8]
theorem upto_eight (f : Nat → Int) : upto f 8 = (List.range 8).map f := by
  unfold upto
  apply List.map_congr_left
  intro i hi
  simp at hi
  simp [hi]
theorem pl_upto (f : Nat → Int) (h : ∀ i, i < 8 → 0 ≤ f i ∧ f i ≤ 1099511627776) : pl (upto f 8) = vec f := by
  apply vec_ext
  intro i hi
  unfold nm
  rw [upto_eight, List.getD_eq_getElem?_getD]
  simp [hi]
  exact cl_id (h i hi).1 (h i hi).2
theorem sliceAt_all {P : Program} {T E n sz : Nat} (hT : P.underlying T = some (.array n E)) (hs : ∀ w, (sizeOf E).run P w = .ok sz w) (a : Addr) :
    ∀ w : World, (Instr.sliceAt T (.pointer (some a)) none none none).run P w = .ok (.slice (some a) n n) w := by
  intro w
  have ht : P.underlying T = some (.array (P.arrayLen T) (P.elem T)) := by rw [hT]; simp [Program.arrayLen, Program.elem, hT]
  have hl : P.arrayLen T = n := by simp [Program.arrayLen, hT]
  have he : P.elem T = E := by simp [Program.elem, hT]
  rw [run_sliceAt_array_all w T a ht, he, hs, hl]
  simp only [Result.andThen, slicedAt]
  have ha : a.add (0 * sz) = a := by simp [Addr.add]
  rw [ha]; simp
end
end Go.Proofs.Ytglabahbklpocaa
namespace Go.Proofs.Ytglabahbklpocaa
section
open Go.RowKit
set_option maxRecDepth 100000
set_option linter.unusedVariables false
set_option linter.unusedSimpArgs false
theorem of_join (x y : Int) (w : World) : Calls Try.prog 67 #[.int .i64 x, .int .i64 y] w fun e w' => e = .returned (.int .i64 (max x y)) ∧ w = w' := by
  go_enter Try.func67, Try.ntmps67
  go_wp2
  go_ret
  exact ⟨rfl, rfl⟩
set_option maxHeartbeats 2000000 in
theorem each_join (a1 a2 : Option Addr) (n1 c1 n2 c2 : Nat) (xs ys : List Int) (w : World) (h1 : ReadsI .i64 w a1 n1 xs) (h2 : ReadsI .i64 w a2 n2 ys) (hc1 : n1 ≤ c1) (hb1 : c1 ≤ 9223372036854775807) (hc2 : n2 ≤ c2) (hb2 : c2 ≤ 9223372036854775807) :
    Calls Try.prog 66 #[.slice a1 n1 c1, .slice a2 n2 c2, .func (.func 67) #[] #[]] w fun e w' => ∃ a', e = .returned (.slice a' (vec fun i => max (nm xs i) (nm ys i)).length (vec fun i => max (nm xs i) (nm ys i)).length) ∧ VecAt w' w.heap.size a' (vec fun i => max (nm xs i) (nm ys i)) ∧ Below w.heap.size w w' := by
  obtain ⟨F, HF⟩ : ∃ F : Nat → Int, Hid (F = fun i => max (nm xs i) (nm ys i)) := ⟨_, rfl⟩
  rw [← HF.out]
  have HFr : Hid (∀ i, 0 ≤ F i ∧ F i ≤ 1099511627776) := fun i => by
    rw [HF.out]
    have h1 := nm_range xs i
    have h2 := nm_range ys i
    show 0 ≤ max _ _ ∧ max _ _ ≤ _
    omega
  have HE : Hid (∀ i, (∃ k : Nat, k < 8 ∧ i = (k : Int)) → ∀ wx, Calls Try.prog 67 #[.int .i64 (atV xs i), .int .i64 (atV ys i)] wx fun e w' => e = .returned (.int .i64 (F i.toNat)) ∧ wx = w') := fun i ⟨k, hk, hik⟩ wx => by
    subst hik
    rw [HF.out, show atV xs (k : Int) = nm xs k by unfold atV; rw [if_pos (by omega)]; rfl, show atV ys (k : Int) = nm ys k by unfold atV; rw [if_pos (by omega)]; rfl]
    exact of_join _ _ wx
  have H1 := Lib.hid h1
  have H2 := Lib.hid h2
  clear h1 h2
  have hsl := sliceAt_all (P := Try.prog) (T := 72) Try.underlying72 (sz := 1) (fun _ => by kernel_rfl) ⟨w.heap.size, 0, none⟩
  have hsl2 := fun w => hsl w
  go_enter Try.func66, Try.ntmps66
  go_wp2_with fail
  have hA0 : ArrAt (w.alloc (.cells (arrI (upto F 0)) 72)) 72 w.heap.size (upto F 0) := heap_alloc_new w _
  have hu0 : arrI (upto F 0) = #[.int .i64 0, .int .i64 0, .int .i64 0, .int .i64 0, .int .i64 0, .int .i64 0, .int .i64 0, .int .i64 0] := by
    simp [arrI, upto, List.range, List.range.loop]
  rw [hu0] at hA0
  have hB0 := (Below.refl w.heap.size w).alloc (Nat.le_refl _) (.cells #[.int .i64 0, .int .i64 0, .int .i64 0, .int .i64 0, .int .i64 0, .int .i64 0, .int .i64 0, .int .i64 0] 72)
  generalize hw0 : w.alloc _ = w0 at *
  clear hw0 hu0
  go_loopw [9, 8] (fun i _ wr => ∃ k : Nat, k ≤ 8 ∧ i = .int .i64 k ∧ ArrAt wr 72 w.heap.size (upto F k) ∧ Below w.heap.size w wr) (fun i _ _ => 9 - (intOf i).toNat)
  case atStart => exact ⟨0, by omega, rfl, hA0, hB0⟩
  case round =>
    obtain ⟨k, hk, rfl, hat, hbel⟩ := hrel
    have HAT := Lib.hid hat
    clear hat
    by_cases hlt : k < 8
    · have t1 : decide ((k : Int) < 8) = true := decide_eq_true (by omega)
      have i1 : (0 : Int) ≤ (k : Int) := by omega
      have i2 : (k : Int) < 8 := by omega
      go_wp2_with fail
      refine (at_any a1 n1 c1 xs k _ (H1.out.below hbel) hc1 hb1 (by omega) (by omega)).mono ?_
      rintro e w2 ⟨rfl, hb3⟩
      have hA2 := HAT.out.below hb3
      have hbl2 := below_then hbel hbel.size hb3
      go_wp2_with fail
      refine (at_any a2 n2 c2 ys k _ (H2.out.below hbl2) hc2 hb2 (by omega) (by omega)).mono ?_
      rintro e w3 ⟨rfl, hb4⟩
      have hA3 := hA2.below hb4
      have hbl3 := below_then hbl2 hbl2.size hb4
      clear hA2 hbl2 hb3 hb4
      go_wp2_with fail
      refine (HE.out k ⟨k, hlt, rfl⟩ _).mono ?_
      rintro e w4 ⟨rfl, rfl⟩
      rw [Int.toNat_natCast]
      have hcl := hA3.cell k (by rw [upto_length]; omega)
      have hfz := hA3.fz k
      have hA4 := Lib.hid (hA3.set k (F k))
      have HU := Lib.hid (upto_set F k)
      have HB5 := Lib.hid (hbl3)
      clear hA3
      generalize (upto F k).getD k 0 = z at *
      generalize hFk : F k = y at *
      go_wp2_with fail
      go_roundw
      case rel => 
        refine ⟨k + 1, by omega, by go_num, ?_, ?_⟩
        · have := hA4.out
          rw [HU.out] at this
          exact this
        · exact HB5.out.setCell (p := ⟨w.heap.size, k, none⟩) (Nat.le_refl _) _
      case measure => simp [intOf]; omega
    · have t1 : decide ((k : Int) < 8) = false := decide_eq_false (by omega)
      have : k = 8 := by omega
      subst this
      have hrd := HAT.out.reads
      rw [upto_length] at hrd
      have HPU := Lib.hid (pl_upto F fun i _ => HFr.out i)
      go_wp2_with fail
      refine (plain_any (some ⟨w.heap.size, 0, none⟩) 8 8 (upto F 8) _ hrd (by omega) (by omega)).mono ?_
      rintro e w2 ⟨a', rfl, hv, hb3⟩
      rw [HPU.out] at hv ⊢
      go_wp2_with fail
      go_ret
      exact ⟨a', rfl, ⟨hv.reads, hv.own.imp_right fun ⟨g, e1, e2, e3⟩ => ⟨g, e1, Nat.le_trans hbel.size e2, e3⟩⟩, below_then hbel hbel.size hb3⟩
end
end Go.Proofs.Ytglabahbklpocaa
