/- A list that grows by append, in a row of its own, from any place of the row on. Plain law of logs: what a log is told is what it has not. No program is in sight. Chapter 17's examples hold: the contract of 'awake'. The reference's Same of records. -/
import Derived.Test.YtglabahbklpocaaGreatGShipPacks9
import Derived.Test.YtglabahbklpocaaGreatGShipPacks10
import Derived.Test.YtglabahbklpocaaGreatGShipPacks16
import Derived.Test.YtglabahbklpocaaGreatGShipPacks8
import Derived.Test.YtglabahbklpocaaGreatGShipPacks4
namespace Go.Proofs.YtglabahbklpocaaGreat
section
open Go.RowKit Go.Deep
set_option maxRecDepth 100000
set_option linter.unusedVariables false
set_option linter.unusedSimpArgs false
/-- The slice at a, n elements long, lies in a row from some place on, has room there for cap, and holds l. -/
structure OffE {α : Type} (cs : α → List Value) (T : TypeId) (sz : Nat) (w : World) (a : Option Addr) (n cap : Nat) (l : List α) : Prop where
  len : l.length = n
  le : n ≤ cap
  max : cap ≤ maxLen
  row : (a = none ∧ cap = 0) ∨ ∃ g o cur, a = some ⟨g, o, none⟩ ∧ w.heap[g]? = some (.cells cur T (0, 0)) ∧ o + cap * sz ≤ cur.size ∧ (cur.toList.drop o).take (n * sz) = l.flatMap cs
section
variable {α : Type} {cs : α → List Value} {S T : TypeId} {sz by_ : Nat} {z : Value} {w w' : World} {B : Nat} {a : Option Addr} {n cap : Nat} {l : List α}
theorem offE_nil (w : World) : OffE cs T sz w none 0 0 [] := ⟨rfl, Nat.le_refl _, by unfold maxLen; omega, .inl ⟨rfl, rfl⟩⟩
theorem OffE.ofApp (h : AppE cs T sz w B a n cap l) : OffE cs T sz w a n cap l := by
  refine ⟨h.len, h.le, h.max, ?_⟩
  rcases h.row.2 with ⟨e, _⟩ | ⟨g, c, cur, e, _, hg, _, _, hs, ht⟩
  · simp only [Value.slice.injEq] at e
    exact .inl ⟨e.1, e.2.2⟩
  · simp only [Value.slice.injEq] at e
    refine .inr ⟨g, 0, cur, e.1, hg, by rw [Nat.zero_add, hs, e.2.2]; exact Nat.le_refl _, by rw [List.drop_zero]; exact ht⟩
theorem OffE.keep (h : OffE cs T sz w a n cap l) (hd : ∀ p, a = some p → w'.heap[p.block]? = w.heap[p.block]?) : OffE cs T sz w' a n cap l := by
  refine ⟨h.len, h.le, h.max, h.row.imp_right fun ⟨g, o, cur, e1, e2, e3⟩ => ⟨g, o, cur, e1, ?_, e3⟩⟩
  rw [hd _ e1]; exact e2
theorem OffE.lt (h : OffE cs T sz w a n cap l) : ∀ p, a = some p → p.block < w.heap.size := fun p hp => by
  rcases h.row with ⟨e, _⟩ | ⟨g, o, cur, e1, e2, _⟩
  · rw [e] at hp; cases hp
  · rw [e1] at hp
    cases hp
    exact (Array.getElem?_eq_some_iff.1 e2).1
theorem OffE.reads (E : ∀ x, (cs x).length = sz) (h : OffE cs T sz w a n cap l) : ReadsE cs sz w a n l := by
  refine ⟨h.len, ?_⟩
  rcases h.row with ⟨e, h0⟩ | ⟨g, o, cur, e1, e2, e3, e4⟩
  · left; have := h.le; omega
  · refine .inr ⟨g, o, e1, (Array.getElem?_eq_some_iff.1 e2).1, fun j x hj k u hk => ?_⟩
    have hl := h.len
    have hjl : j < l.length := (List.getElem?_eq_some_iff.1 hj).1
    have hks : k < sz := by have := (List.getElem?_eq_some_iff.1 hk).1; rwa [E] at this
    have hin : j * sz + k < n * sz := by
      have : (j + 1) * sz ≤ n * sz := Nat.mul_le_mul_right _ (by omega)
      rw [Nat.succ_mul] at this
      omega
    have h1 := flat_get cs sz E l j x hj k hks
    rw [← e4, List.getElem?_take, if_pos hin, List.getElem?_drop, hk] at h1
    rw [show o + j * sz + k = o + (j * sz + k) by omega]
    simp only [World.cell?, e2]
    simpa using h1
theorem run_append_roomO {P : Program} (w : World) (t ty e : TypeId) (i : TypeInfo) (ht : P.underlying t = some (.slice e)) (hi : P.info? e = some i)
    (g o sLen sCap : Nat) (cur : Array Value) (hg : w.heap[g]? = some (.cells cur e (0, 0)))
    (a : Addr) (m c : Nat) (news : List Value) (hl : news.length = m * i.size) (hnews : ∀ j u, news[j]? = some u → w.cell? (a.add j) = some u) (h1 : ∀ u ∈ news, u.oneCell' = true)
    (hroom : sLen + m ≤ sCap) (hfit : o + sLen * i.size + news.length ≤ cur.size) :
    (Builtin.append_ #[t, t] ty #[.slice (some ⟨g, o, none⟩) sLen sCap, .slice (some a) m c]).run P w =
      .ok (.slice (some ⟨g, o, none⟩) (sLen + m) sCap) (w.setRow g (cur.toList.take (o + sLen * i.size) ++ news ++ cur.toList.drop (o + sLen * i.size + news.length)).toArray) := by
  have hf := run_firstCells_some (P := P) w i.size m a m c news hl hnews
  have hst := run_storeCells_at P g (o + sLen * i.size) e news 0 cur w hg (by simpa using hfit) h1
  simp only [Nat.add_zero] at hst
  have hadd : (⟨g, o, none⟩ : Addr).add (sLen * i.size) = ⟨g, o + sLen * i.size, none⟩ := by unfold Addr.add; split <;> simp_all
  simp [Builtin.append_, run_underlying ht, sizeOf, typeInfo, hi, Builtin.lenOf, hroom, hf, hadd, hst]
theorem But.rowO (g : Nat) (w : World) (cs : Array Value) : But g w (w.setRow g cs) := ⟨rfl, rfl, rfl, by simp [World.setRow], fun i hi hne => setRow_other w g i cs (by simpa using hne)⟩
/-- What an append does: in the row itself, or in a new one. -/
theorem run_append_O (E : Ety cs S T sz by_ z) (ty : TypeId) (w : World) (h : OffE cs T sz w a n cap l) (b o c : Nat) (y : α) (hn : n + 1 ≤ 100000) (hy : CellsAt w b o (cs y)) :
    ∃ g' o' cap' w', (Builtin.append_ #[S, S] ty #[.slice a n cap, .slice (some ⟨b, o, none⟩) 1 c]).run Tryz.prog w = .ok (.slice (some ⟨g', o', none⟩) (n + 1) cap') w' ∧ OffE cs T sz w' (some ⟨g', o', none⟩) (n + 1) cap' (l ++ [y]) ∧
      ((a = some ⟨g', o', none⟩ ∧ But g' w w') ∨ (w.heap.size ≤ g' ∧ Below w.heap.size w w')) := by
  rcases h.row with ⟨rfl, h0⟩ | ⟨g, q, cur, rfl, hg, hsz, htk⟩
  · have hn0 : n = 0 := by have := h.le; omega
    subst hn0 h0
    obtain rfl : l = [] := List.eq_nil_of_length_eq_zero h.len
    have hA : AppE cs T sz w w.heap.size none 0 0 [] := appE_nil w _
    obtain ⟨a', cap', w', hrun, h1, h2, h3, h4⟩ := run_append_E E ty w hA (Nat.le_refl _) b o 1 c [y] hn rfl (fun j x hj => by
      cases j with
      | zero => simp at hj; subst hj; simpa using hy
      | succ j => simp at hj)
    rcases h1.row.2 with ⟨e, e0⟩ | ⟨g, c', cur, e, hB, hg, _, _, hs, ht⟩
    · omega
    · simp only [Value.slice.injEq] at e
      obtain ⟨rfl, _, rfl⟩ := e
      exact ⟨g, 0, cap', w', hrun, OffE.ofApp h1, .inr ⟨hB, h2⟩⟩
  · obtain ⟨i, hi, hii⟩ := Option.map_eq_some_iff.1 E.info
    simp only [Prod.mk.injEq] at hii
    obtain ⟨hz, hsize, hby⟩ := hii
    have hadd : ∀ (b o j : Nat), (⟨b, o, none⟩ : Addr).add j = ⟨b, o + j, none⟩ := fun b o j => by unfold Addr.add; split <;> simp_all
    have hnews : ∀ j u, (cs y)[j]? = some u → w.cell? ((⟨b, o, none⟩ : Addr).add j) = some u := fun j u hj => by rw [hadd]; exact hy j u hj
    have hly : (cs y).length = 1 * i.size := by rw [E.len, hsize, Nat.one_mul]
    have hll := flat_len E.len l
    have hl2 : (l.flatMap cs).length = n * sz := by rw [hll, h.len]
    by_cases hroom : n + 1 ≤ cap
    · have hfit : q + n * i.size + (cs y).length ≤ cur.size := by
        rw [hly, hsize]
        have : (n + 1) * sz ≤ cap * sz := Nat.mul_le_mul_right _ hroom
        rw [Nat.succ_mul] at this
        omega
      have hr := run_append_roomO w S ty T i E.hS hi g q n cap cur hg ⟨b, o, none⟩ 1 c (cs y) hly hnews (E.one y) hroom hfit
      refine ⟨g, q, cap, _, hr, ⟨by rw [List.length_append, h.len]; rfl, hroom, h.max, .inr ⟨g, q, _, rfl, setRow_heap w g cur _ T _ hg, ?_, ?_⟩⟩, .inl ⟨rfl, But.rowO g w _⟩⟩
      · simp only [List.size_toArray, List.length_append, List.length_take, List.length_drop, Array.length_toList]
        omega
      · rw [hsize] at *
        have hq : q + n * sz ≤ cur.toList.length := by rw [Array.length_toList]; omega
        rw [List.append_assoc, List.drop_append_of_le_length (by rw [List.length_take]; omega), List.drop_take, show q + n * sz - q = n * sz by omega, htk, List.flatMap_append, List.flatMap_cons, List.flatMap_nil, List.append_nil, ← List.append_assoc]
        have : (n + 1) * sz = (l.flatMap cs ++ cs y).length := by rw [List.length_append, hl2, E.len, Nat.succ_mul]
        rw [this]
        exact List.take_left
    · have holds : ∀ j u, (l.flatMap cs)[j]? = some u → w.cell? ((⟨g, q, none⟩ : Addr).add j) = some u := fun j u hj => by
        have hjl : j < n * sz := by have := (List.getElem?_eq_some_iff.1 hj).1; omega
        rw [hadd]
        rw [← htk, List.getElem?_take, if_pos hjl, List.getElem?_drop] at hj
        simp only [World.cell?, hg]
        simpa using hj
      have hfits : (n + 1) * i.bytes ≤ 140737488355328 := by
        have := E.bmax
        have : (n + 1) * by_ ≤ 100000 * 1000 := Nat.mul_le_mul hn this
        rw [hby]
        omega
      have hr := run_append_grow (P := Tryz.prog) w S ty T i z E.hS hi hz ⟨g, q, none⟩ n cap (l.flatMap cs) (by rw [hl2, hsize]) holds ⟨b, o, none⟩ 1 c (cs y) hly hnews (by omega) (by omega) (growslice_fits (by omega) hfits)
      have hge := grownCap_ge w (n + 1) cap T
      have hcm : grownCap w (n + 1) cap T ≤ maxLen := grownCap_le_maxLen w (n + 1) cap T (by unfold maxLen; omega)
      refine ⟨w.heap.size, 0, _, _, hr, ⟨by rw [List.length_append, h.len]; rfl, hge, hcm, .inr ⟨w.heap.size, 0, _, rfl, heap_alloc_new w.drew _, ?_, ?_⟩⟩, .inr ⟨Nat.le_refl _, rfl, rfl, rfl, by simp, fun k hk => Below.heap_alloc w.drew _ k hk⟩⟩
      · simp only [Array.size_append, List.size_toArray, size_zeroCells, E.hz, hl2, hly, hsize, Nat.zero_add, ← Nat.add_mul]
        apply Nat.mul_le_mul_right
        omega
      · simp only [Array.toList_append, List.drop_zero]
        have : (n + 1) * sz = (l.flatMap cs ++ cs y).length := by rw [List.length_append, hl2, E.len, Nat.succ_mul]
        rw [this, List.flatMap_append, List.flatMap_cons, List.flatMap_nil, List.append_nil]
        exact List.take_left
end
end
end Go.Proofs.YtglabahbklpocaaGreat
namespace Go.Proofs.YtglabahbklpocaaGreat
section
set_option maxRecDepth 100000
set_option linter.unusedVariables false
set_option linter.unusedSimpArgs false
def stepK (ks : List Int) (x : RcM) : List Int := withV ks x.1.st.site x.1.st.seq
def okStep (ks : List Int) (x : RcM) : Prop := recP x.1 x.2 ∧ x.1.st.seq = atV ks x.1.st.site + 1 ∧ covV ks x.2 = true
def kAll (ks : List Int) (xs : List RcM) : List Int := xs.foldl stepK ks
def Good (ks : List Int) (xs : List RcM) : Prop := ∀ k x, xs[k]? = some x → okStep (kAll ks (xs.take k)) x
theorem kAll_snoc (ks : List Int) (xs : List RcM) (x : RcM) : kAll ks (xs ++ [x]) = stepK (kAll ks xs) x := by simp [kAll]
theorem Good.snoc {ks : List Int} {xs : List RcM} {x : RcM} (h : Good ks xs) (hx : okStep (kAll ks xs) x) : Good ks (xs ++ [x]) := by
  intro k y hk
  rcases Nat.lt_or_ge k xs.length with hlt | hge
  · rw [List.getElem?_append_left hlt] at hk
    rw [List.take_append_of_le_length (by omega)]
    exact h k y hk
  · have hk2 : k = xs.length := by
      have := (List.getElem?_eq_some_iff.1 hk).1
      simp at this
      omega
    subst hk2
    have hy : x = y := by simpa using hk
    subst hy
    rw [List.take_append_of_le_length (Nat.le_refl _), List.take_length]
    exact hx
theorem Good.take {ks : List Int} {xs : List RcM} (h : Good ks xs) (c : Nat) : Good ks (xs.take c) := by
  intro k y hk
  have hlt : k < (xs.take c).length := (List.getElem?_eq_some_iff.1 hk).1
  rw [List.length_take] at hlt
  rw [List.getElem?_take_of_lt (by omega)] at hk
  rw [List.take_take, Nat.min_eq_left (by omega)]
  exact h k y hk
theorem addM_cases (m : LogM) (x : RcM) : (addM m x).1 = m ∨ (okStep m.ks x ∧ (m.xs.length : Int) < m.most ∧ (addM m x).1 = { m with xs := m.xs ++ [x], ks := stepK m.ks x, clock := max m.clock x.1.st.clock }) := by
  unfold addM
  by_cases h1 : recP x.1 x.2
  · rw [if_neg (by simpa using h1)]
    by_cases h2 : x.1.st.seq ≠ atV m.ks x.1.st.site + 1 ∨ covV m.ks x.2 = false
    · rw [if_pos h2]; exact .inl rfl
    · rw [if_neg h2]
      by_cases h3 : m.most ≤ m.xs.length
      · rw [if_pos h3]; exact .inl rfl
      · rw [if_neg h3]
        refine .inr ⟨⟨h1, ?_, ?_⟩, by omega, rfl⟩
        · rcases Int.decEq x.1.st.seq (atV m.ks x.1.st.site + 1) with h | h
          · exact absurd (.inl h) h2
          · exact h
        · rcases hc : covV m.ks x.2 with _ | _
          · exact absurd (.inr hc) h2
          · rfl
  · rw [if_pos h1]; exact .inl rfl
structure LInv (m : LogM) : Prop where
  good : Good m.bs m.xs
  ks : m.ks = kAll m.bs m.xs
theorem LInv.add {m : LogM} (h : LInv m) (x : RcM) : LInv (addM m x).1 := by
  rcases addM_cases m x with e | ⟨ho, _, e⟩
  · rw [e]; exact h
  · rw [e]
    refine ⟨h.good.snoc (by rw [← h.ks]; exact ho), ?_⟩
    show stepK m.ks x = kAll m.bs (m.xs ++ [x])
    rw [kAll_snoc, ← h.ks]
theorem okStep.range {ks : List Int} {x : RcM} (h : okStep ks x) : (0 ≤ x.1.st.site ∧ x.1.st.site < 8) ∧ 1 ≤ x.1.st.seq ∧ x.1.st.seq ≤ 1099511627776 := by
  obtain ⟨⟨a1, a2⟩, ⟨a3, a4⟩, a5, a6⟩ := okV_range h.1.2.1
  exact ⟨⟨a5, by omega⟩, a3, a4⟩
theorem k_next {ks : List Int} {xs : List RcM} {k : Nat} {x : RcM} (hx : xs[k]? = some x) : kAll ks (xs.take (k + 1)) = stepK (kAll ks (xs.take k)) x := by
  rw [List.take_add_one, hx]
  exact kAll_snoc _ _ _
end
end Go.Proofs.YtglabahbklpocaaGreat
namespace Go.Proofs.YtglabahbklpocaaGreat
section
open Go.RowKit Go.Deep
set_option maxRecDepth 100000
set_option linter.unusedVariables false
set_option linter.unusedSimpArgs false
attribute [local go_sem ↓] Go.wp_at_zero Go.wp_at_succ
def x1 : RcM := (mkR 0 1, [])
def x2 : RcM := (mkR 1 1, [1])
def x3 : RcM := (mkR 0 3, [2, 1])
def m1 : LogM := ⟨9, [], [1], [x1], 1⟩
def m2 : LogM := ⟨9, [], [1, 1], [x1, x2], 1⟩
end
end Go.Proofs.YtglabahbklpocaaGreat
namespace Go.Proofs.YtglabahbklpocaaGreat
section
open Go.RowKit
set_option maxRecDepth 100000
set_option linter.unusedVariables false
set_option linter.unusedSimpArgs false
attribute [local go_sem ↓] Go.wp_at_zero Go.wp_at_succ
open Classical in
noncomputable def sameR (a b : RecA) : Bool := decide (a.r = b.r ∧ a.ds = b.ds)
set_option maxHeartbeats 4000000 in
theorem samer_any (a b : RecA) (w : World) (ha : a.ok w) (hb : b.ok w) : Calls Tryz.prog 98 #[a.val, b.val] w fun e w' => e = .returned (.bool (sameR a b)) ∧ Below w.heap.size w w' := by
  obtain ⟨V, HV⟩ : ∃ V, Hid (V = sameR a b) := ⟨_, rfl⟩
  rw [← HV.out]
  have HA := Lib.hid ha
  have HB := Lib.hid hb
  have C0 := fun wx hw => same_any a.d.a b.d.a a.d.n a.d.c b.d.n b.d.c a.ds b.ds wx (ha.below hw).sl.r (hb.below hw).sl.r ha.sl.nc ha.sl.cb hb.sl.nc hb.sl.cb
  clear ha hb
  obtain ⟨r, d, ds⟩ := a
  obtain ⟨r', d', ds'⟩ := b
  unfold RecA.val rcVal
  simp only [rcA] at C0 ⊢
  go_enter Tryz.func98, Tryz.ntmps98
  go_upto_region 1 with fail
  generalize hw1 : World.alloc _ _ = w1
  have hK : Kn w.heap.size w [(w.heap.size + 1, rcO r' d'), (w.heap.size, rcO r d)] w1 := by rw [← hw1]; exact ((Kn.start w).new' rfl (rcO r d)).new' (n := w.heap.size + 1) (by simp) (rcO r' d')
  clear hw1
  generalize hg : w.heap.size = g at *
  have KK := Lib.hid hK
  clear hK
  have a8 := (rc_cells (KK.out.at_ (g, rcO r d) (by simp)) rfl).c8
  have b8 := (rc_cells (KK.out.at_ (g + 1, rcO r' d') (by simp)) rfl).c8
  go_upto_region 2 with (first | (go_at_call 22; refine (C0 _ KK.out.b).mono ?_; rintro e wn ⟨rfl, dn⟩; have KK := Lib.hid (KK.out.below dn); clear dn))
  clear a8 b8
  obtain ⟨a0, a1, a2, a3, a4, a5, a6, a7, _⟩ := rc_cells (KK.out.at_ (g, rcO r d) (by simp)) rfl
  obtain ⟨b0, b1, b2, b3, b4, b5, b6, b7, _⟩ := rc_cells (KK.out.at_ (g + 1, rcO r' d') (by simp)) rfl
  have ST := fun wx => eq_stamp r.st r'.st wx
  unfold St.val at ST
  have HV : Hid (V = ((((((decide (ds = ds') && (r.kind == r'.kind)) && (r.series.toList == r'.series.toList)) && (r.time == r'.time)) && (r.value == r'.value)) && (r.tier == r'.tier)) && decide (r.st = r'.st))) := by
    show _ = _
    rw [HV.out]
    unfold sameR
    rw [Bool.eq_iff_iff]
    simp only [decide_eq_true_eq, Bool.and_eq_true, beq_iff_eq]
    obtain ⟨k, s, t, v, tr, st⟩ := r
    obtain ⟨k', s', t', v', tr', st'⟩ := r'
    simp only [Rc.mk.injEq]
    constructor
    · rintro ⟨⟨rfl, rfl, rfl, rfl, rfl, rfl⟩, rfl⟩
      simp
    · rintro ⟨⟨⟨⟨⟨⟨rfl, rfl⟩, h⟩, rfl⟩, rfl⟩, rfl⟩, rfl⟩
      exact ⟨⟨rfl, by rw [Lib.toList_data, Lib.toList_data] at h; exact ByteArray.ext (Array.ext' h), rfl, rfl, rfl, rfl⟩, rfl⟩
  obtain ⟨D, hD⟩ : ∃ D, decide (ds = ds') = D := ⟨_, rfl⟩
  obtain ⟨Bk, e1⟩ : ∃ D, (r.kind == r'.kind) = D := ⟨_, rfl⟩
  obtain ⟨Bs, e2⟩ : ∃ D, (r.series.toList == r'.series.toList) = D := ⟨_, rfl⟩
  obtain ⟨Bt, e3⟩ : ∃ D, (r.time == r'.time) = D := ⟨_, rfl⟩
  obtain ⟨Bv, e4⟩ : ∃ D, (r.value == r'.value) = D := ⟨_, rfl⟩
  obtain ⟨Br, e5⟩ : ∃ D, (r.tier == r'.tier) = D := ⟨_, rfl⟩
  obtain ⟨Bst, e6⟩ : ∃ D, decide (r.st = r'.st) = D := ⟨_, rfl⟩
  rw [hD, e1, e2, e3, e4, e5, e6] at HV
  simp only [hD] at C0 ⊢
  simp only [e6] at ST
  clear C0
  cases D
  · skip
    go_wp2_with fail
    go_ret
    exact ⟨by rw [HV.out]; rfl, by first | exact KK.out.b | (rw [hg]; exact KK.out.b)⟩
  · skip
    cases Bk
    · skip
      go_wp2_with fail
      go_ret
      exact ⟨by rw [HV.out]; rfl, by first | exact KK.out.b | (rw [hg]; exact KK.out.b)⟩
    · skip
      cases Bs
      · skip
        go_wp2_with fail
        go_ret
        exact ⟨by rw [HV.out]; rfl, by first | exact KK.out.b | (rw [hg]; exact KK.out.b)⟩
      · skip
        cases Bt
        · skip
          go_wp2_with fail
          go_ret
          exact ⟨by rw [HV.out]; rfl, by first | exact KK.out.b | (rw [hg]; exact KK.out.b)⟩
        · skip
          cases Bv
          · skip
            go_wp2_with fail
            go_ret
            exact ⟨by rw [HV.out]; rfl, by first | exact KK.out.b | (rw [hg]; exact KK.out.b)⟩
          · skip
            cases Br
            · skip
              go_wp2_with fail
              go_ret
              exact ⟨by rw [HV.out]; rfl, by first | exact KK.out.b | (rw [hg]; exact KK.out.b)⟩
            · skip
              cases Bst
              · skip
                go_wp2_with fail
                go_ret
                exact ⟨by rw [HV.out]; rfl, by first | exact KK.out.b | (rw [hg]; exact KK.out.b)⟩
              · skip
                go_wp2_with fail
                go_ret
                exact ⟨by rw [HV.out]; rfl, by first | exact KK.out.b | (rw [hg]; exact KK.out.b)⟩
end
end Go.Proofs.YtglabahbklpocaaGreat
