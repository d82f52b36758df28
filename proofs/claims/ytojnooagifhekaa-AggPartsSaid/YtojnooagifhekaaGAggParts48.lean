/- agg.Read. -/
import Derived.Test.YtojnooagifhekaaGAggParts46
import Derived.Test.YtojnooagifhekaaGAggParts47
import Derived.Test.YtojnooagifhekaaGAggParts19
namespace Go.Proofs.Ytojnooagifhekaa
section
open Go.RowKit
set_option maxRecDepth 100000
set_option linter.unusedVariables false
set_option linter.unusedSimpArgs false
attribute [local go_sem ↓] Go.wp_at_zero Go.wp_at_succ
theorem results_cell_tmpA {P : Program} {fn : Func} {p q : Tmp} {ty : TypeId} (h : fn.results = #[.cell p ty, .tmp q]) (tmps : Array Value) (w : World) (g : Nat) (t : TypeId) (cs : Array Value) (fr : Nat × Nat) (d : TypeDesc) (v : Value)
    (hp : tmps.getD p undef = .pointer (some ⟨g, 0, none⟩)) (hv : tmps.getD q undef = v) (hg : w.heap[g]? = some (.cells cs t fr))
    (hu : P.underlying ty = some d) (hd : (match d with | .struct _ | .array _ _ => true | _ => false) = true) (hi : (P.info? ty).map (·.size) = some cs.size) :
    (results fn tmps).run P w = .ok (.tuple #[.agg cs, v]) w := by
  have hp' : tmps[p]?.getD undef = .pointer (some ⟨g, 0, none⟩) := by simpa using hp
  have hv' : tmps[q]?.getD undef = v := by simpa using hv
  simp [results, h, hp', hv', asAddr, run_loadVar_row w g t ty cs fr d hg hu hd hi]
section
variable {T : TypeId} {g : Nat} {w0 w w' : World} {l : List (Nat × Obj)} {R : Rdr}
theorem Kr.belowA (h : Kr T g w0 l R w) (hg : w0.heap.size ≤ g) : Below w0.heap.size w0 w := But.below (Below.refl _ _) h.b (Nat.le_refl _) hg
theorem Kr.cfA (h : Kr T g w0 l R w) {k : Nat} {o : Obj} (hm : (k, o) ∈ l) (j : Nat) {v : Value} {cs : Array Value} {U : TypeId} (hv : cs[j]? = some v) (ho : o = .cells cs U (0, 0) := by rfl) : w.cell? ⟨k, j, none⟩ = some v ∧ w.frozen? ⟨k, j, none⟩ = false := ⟨h.cell hm hv ho, h.fz hm j ho⟩
theorem Kr.setBk {k : Nat} {a : Ag} (h : Kr T g w0 ((k, agO a) :: l) R w) (hl : Apart k l) (hk : w0.heap.size ≤ k) (j : Nat) (v : Int) : Kr T g w0 ((k, agO { a with bk := a.bk.set j v }) :: l) R (w.setCell ⟨k, 9 + j, none⟩ (.int .i64 v)) :=
  Kr.but h hl hk (But.set k (9 + j) w _) (AgAt.setBk (show AgAt w k a from h.hd) j v)
/-- From one reader to a new one. -/
theorem Kr.turn {g' : Nat} {R' : Rdr} (h : Kr T g w0 l R w) (hg : w0.heap.size ≤ g) (h1 : RdrAt T w' g' R') (d : Below w.heap.size w w') (hg' : w.heap.size ≤ g') : Kr T g' w0 l R' w' :=
  ⟨h1, fun p hp => ⟨by have := h.lt p hp; omega, (d.block p.1 (h.lt p hp)).trans (h.at_ p hp).2⟩, But.of_below (below_then (h.belowA hg) h.b.size d)⟩
end
def bkL (l : List Int) (k : Nat) : List Int := l ++ List.replicate (9 - k) 0
theorem bkL_set (l : List Int) (k : Nat) (hl : l.length = k) (hk : k < 9) (x : Int) : (bkL l k).set k x = bkL (l ++ [x]) (k + 1) := by
  unfold bkL
  rw [List.set_append_right _ _ (by omega), hl, Nat.sub_self, show 9 - k = (9 - (k + 1)) + 1 by omega, List.replicate_succ, List.set_cons_zero, List.append_assoc]
  rfl
theorem bkL_len (l : List Int) (k : Nat) (hl : l.length = k) (hk : k ≤ 9) : (bkL l k).length = 9 := by
  unfold bkL
  rw [List.length_append, List.length_replicate]
  omega
theorem bkL_get (l : List Int) (k : Nat) (hl : l.length = k) (hk : k < 9) (a : Ag) (ha : a.bk = bkL l k) : a.cs.toArray[9 + k]? = some (.int .i64 0) := by
  rw [List.getElem?_toArray]
  unfold Ag.cs
  rw [List.getElem?_append_right (by simp), ha]
  simp only [List.length_cons, List.length_nil]
  rw [show 9 + k - (0 + 1 + 1 + 1 + 1 + 1 + 1 + 1 + 1 + 1) = k by omega, List.getElem?_map]
  unfold bkL
  rw [List.getElem?_append_right (by omega), hl, Nat.sub_self, show 9 - k = (9 - (k + 1)) + 1 by omega, List.replicate_succ]
  rfl
set_option maxHeartbeats 16000000 in
theorem aread_any (s : ByteArray) (w : World) (hs : s.size ≤ 1000000000) : Calls Try.prog 26 #[.string s] w fun e w' => e = .returned (.tuple #[(readA s).1.val, .int .i64 (readA s).2]) ∧ Below w.heap.size w w' := by
  obtain ⟨V, HV⟩ : ∃ V, Hid (V = readA s) := ⟨_, rfl⟩
  rw [← HV.out]
  have HS := Lib.hid hs
  have hok := r0_ok hs
  have hC := C0_ok hs
  have hsr : 0 ≤ (C0 s).1 ∧ (C0 s).1 ≤ 1099511627776 := small_rangeA hok (by decide)
  go_enter Try.func26, Try.ntmps26
  go_upto_region 1 with fail
  generalize hw1 : World.alloc _ _ = w1
  obtain ⟨p, hp⟩ : ∃ p, w.heap.size = p := ⟨_, rfl⟩
  have K0 := Lib.hid (show Kn w.heap.size w [(p, agO Ag0)] w1 by rw [← hw1]; exact (Kn.start w).new' hp (agO Ag0))
  have hs1 : w1.heap.size = p + 1 := by rw [← hw1, ← hp]; simp
  clear hw1
  rw [hp]
  go_upto_region 3 with (go_at_call 45; refine (rdr_read s _).mono ?_; rintro e w2 ⟨rfl, h2, d2⟩)
  rw [hs1] at h2
  have KK := Lib.hid (show Kr 96 (p + 1) w [(p, agO Ag0)] (r0 s) w2 from ⟨h2, fun q hq => by
    have hq' : q = (p, agO Ag0) := by simpa using hq
    subst hq'
    exact ⟨by simp, (d2.block p (by rw [hs1]; omega)).trans (K0.out.hd)⟩, But.of_below (by rw [hp]; have := K0.out.below d2; rw [hp] at this; exact this.b)⟩)
  clear h2 d2 K0 hs1
  have CS := fun wx hx => rdr_small (p + 1) (r0 s) 1099511627776 wx hx hok (by decide) (by decide)
  change ∀ wx hx, Calls _ _ _ _ fun e w' => e = .returned (.int .i64 (C0 s).1) ∧ RdrAt 96 w' (p + 1) (C0 s).2 ∧ But (p + 1) wx w' at CS
  obtain ⟨c, hc⟩ : ∃ c, (C0 s).1 = c := ⟨_, rfl⟩
  obtain ⟨R, hR⟩ : ∃ R, (C0 s).2 = R := ⟨_, rfl⟩
  have HC := Lib.hid hc
  have HR := Lib.hid hR
  rw [hc, hR] at CS
  rw [hc] at hsr
  rw [hR] at hC
  clear hc hR
  go_upto_region 4 with (first
    | (go_at_call 46; refine (CS _ KK.out.rd).mono ?_; rintro e w3 ⟨rfl, hn, dn⟩; have KK := Lib.hid (KK.out.step hn dn); clear hn dn)
    | (refine wpList_store_row rfl 29 _ _ rfl _ (cntA c).cs.toArray rfl rfl 29 _ (heap_alloc_new _ _) (by kernel_rfl) rfl (by simp [Value.oneCell', cntA, Ag.cs]) ?_; rw [World.setRow_alloc_new]))
  obtain ⟨q, hq⟩ : ∃ q, w3.heap.size = q := ⟨_, rfl⟩
  have K2 := KK.out.new' hq (agO (cntA c))
  have hgq : p + 1 < q := by have := KK.out.rd.lt; omega
  rw [hq]
  have KK := Lib.hid (show Kr 96 (p + 1) w [(q, agO (cntA c)), (p, agO Ag0)] R (w3.alloc (.cells (cntA c).cs.toArray 29 (0, 0))) from K2)
  clear K2 CS hq
  generalize w3.alloc (.cells (cntA c).cs.toArray 29 (0, 0)) = w4 at *
  have q0 := KK.out.cell (k := q) (o := agO (cntA c)) (by simp) (j := 0) (v := .int .i64 c) rfl
  by_cases hcp : c > 0
  · have t1 : decide (c > 0) = true := decide_eq_true hcp
    have hbad : R.bad = false := by rw [← HR.out]; exact C0_good (by rw [HC.out]; exact hcp)
    obtain ⟨hRk, hRs⟩ := hC
    have hp0 := hRk.2.1
    have hp1 := hRk.2.2
    rw [hRs] at hp1
    have hlf : R.left = (s.size : Int) - R.pos := by unfold Rdr.left; rw [hbad, hRs]; simp
    obtain ⟨L, hL⟩ : ∃ L, R.left = L := ⟨_, rfl⟩
    have HLf := Lib.hid hL
    have CL := fun wx hx => rdr_left (p + 1) R wx hx hRk
    rw [hL] at hlf CL
    have e1 : wrap64 ((s.size : Int) - L) = R.pos := by rw [hlf, show (s.size : Int) - ((s.size : Int) - R.pos) = R.pos by omega]; exact wrap64_in _ ⟨by omega, by omega⟩
    clear hL
    by_cases h16 : L < 16
    · have t2 : decide (L < 16) = true := decide_eq_true h16
      have HV := Lib.hid (HV.out.trans (show readA s = (Ag0, 10) by unfold readA; rw [if_pos (by rw [HC.out]; exact hcp), if_pos (by rw [HR.out, HLf.out]; exact h16)]))
      clear h16 hcp hbad hlf hp0 hp1
      go_wp2_with (first
        | (go_at_call 47; refine (CL _ KK.out.rd).mono ?_; rintro e w5 ⟨rfl, dq⟩; have KK := Lib.hid (KK.out.step (dq.rdr KK.out.rd) dq.but); clear dq)
        | (refine wpList_store_row rfl 29 _ _ rfl p Ag0.cs.toArray rfl rfl 29 _ (KK.out.at_ (p, agO Ag0) (by simp)).2 (by kernel_rfl) rfl (by simp [Value.oneCell', Ag0, Ag.cs]) ?_))
      have KF := Kr.setRow (KK.out.sub (m := [(p, agO Ag0)]) (by simp)) trivial (by omega) (agO Ag0)
      refine bodyPost_ret (v := .tuple #[Ag0.val, .int .i64 10]) (results_cell_tmpA rfl _ _ p 29 Ag0.cs.toArray (0, 0) _ _ rfl rfl KF.hd Try.underlying29 rfl (by kernel_rfl)) rfl ⟨by rw [HV.out], by first | exact KF.belowA (by omega) | (rw [hp]; exact KF.belowA (by omega))⟩
    · have t2 : decide (L < 16) = false := decide_eq_false h16
      have HV := Lib.hid (HV.out.trans (show readA s = finA (fillA c (sumS s) (agR (tlS s)).1) (agR (tlS s)).2 by unfold readA; rw [if_pos (by rw [HC.out]; exact hcp), if_neg (by rw [HR.out, HLf.out]; exact h16), HC.out]))
      have e2 : wrap64 (R.pos + 16) = R.pos + 16 := wrap64_in _ ⟨by omega, by omega⟩
      have b1 : R.pos + 16 ≤ (s.size : Int) := by omega
      have b2 : R.pos ≤ R.pos + 16 := by omega
      have b3 : 0 ≤ R.pos + 16 := by omega
      obtain ⟨P, hP⟩ : ∃ P, R.pos = P := ⟨_, rfl⟩
      have HP := Lib.hid hP
      rw [hP] at e1 e2 b1 b2 b3 hp0 hp1
      clear hP hlf hbad
      go_upto_region 8 with (first
        | (go_at_call 47; refine (CL _ KK.out.rd).mono ?_; rintro e w5 ⟨rfl, dq⟩; have KK := Lib.hid (KK.out.step (dq.rdr KK.out.rd) dq.but); clear dq))
      clear CL t1 t2 q0
      have SUB : Hid (sumS s = (readW (s.extract P.toNat (P + 16).toNat)).1) := by show _ = _; unfold sumS; rw [HR.out, HP.out]
      have TLS : Hid (tlS s = r0 (s.extract (P + 16).toNat s.size)) := by show _ = _; unfold tlS; rw [HR.out, HP.out]
      have hsub : (s.extract P.toNat (P + 16).toNat).size ≤ 9223372036854775807 := by rw [ByteArray.size_extract]; omega
      have RW := fun wx => read_any (s.extract P.toNat (P + 16).toNat) wx hsub
      have hWok : (sumS s).ok := by rw [SUB.out]; unfold readW; split; exact wd_ok _; exact zero_wdok
      rw [← SUB.out] at RW
      obtain ⟨W, hW⟩ : ∃ W, sumS s = W := ⟨_, rfl⟩
      have HW := Lib.hid hW
      rw [hW] at RW hWok
      obtain ⟨N, hN⟩ : ∃ N, (readW (s.extract P.toNat (P + 16).toNat)).2 = N := ⟨_, rfl⟩
      rw [hN] at RW
      unfold Wd.val at RW
      clear hW hN hsub
      have hA : Apart q [(p, agO Ag0)] := by simp only [Apart, and_true]; omega
      go_upto_region 9 with (go_at_call 48; refine (RW _).mono ?_; rintro e wn ⟨rfl, dn⟩; have KK := Lib.hid (KK.out.below dn); clear dn; have ⟨q1, f1⟩ := KK.out.cfA (k := q) (o := agO (cntA c)) (by simp) 1 (v := .int .i64 0) rfl; have ⟨q2, f2⟩ := KK.out.cfA (k := q) (o := agO (cntA c)) (by simp) 2 (v := .int .u64 0) rfl)
      generalize hwx : World.setCell _ _ _ = wx
      have KK := Lib.hid (show Kr 96 (p + 1) w [(q, agO { cntA c with sum := W }), (p, agO Ag0)] R wx by rw [← hwx]; exact (KK.out.setCell hA (by omega) 1 _ (agO { cntA c with sum := ⟨W.hi, 0⟩ }) rfl).setCell hA (by omega) 2 _ _ rfl)
      clear hwx q1 f1 q2 f2 RW
      obtain ⟨g2, hg2⟩ : ∃ g2, wx.heap.size = g2 := ⟨_, rfl⟩
      have hgg : p + 1 < g2 := by have := KK.out.rd.lt; omega
      go_upto_region 11 with (go_at_call 45; refine (rdr_read _ _).mono ?_; rintro e w6 ⟨rfl, h2, d2⟩)
      rw [hg2] at h2
      have KK := Lib.hid (KK.out.turn (by omega) h2 d2 (by omega))
      clear h2 d2 hg2
      have ok1 : (tlS s).ok := tlS_ok HS.out
      obtain ⟨T1, hT1⟩ : ∃ T1, tlS s = T1 := ⟨_, rfl⟩
      have KK := Lib.hid (show Kr 96 g2 w [(q, agO { cntA c with sum := W }), (p, agO Ag0)] T1 w6 by rw [← hT1, TLS.out]; exact KK.out)
      rw [hT1] at ok1 HV
      clear TLS hT1 e1 e2 b1 b2 b3
      have ok2 := (Rdr.int_ok ok1).1
      have ok3 := (Rdr.int_ok ok2).1
      have ok4 := (Rdr.int_ok ok3).1
      have ok5 := (takeV_ok ok4).1
      have HAG : Hid ((agR T1).1 = ⟨T1.int.1, T1.int.2.int.1, T1.int.2.int.2.int.1, (takeV T1.int.2.int.2.int.2).1, (takeN 9 (takeV T1.int.2.int.2.int.2).2).1⟩ ∧ (agR T1).2 = (takeN 9 (takeV T1.int.2.int.2.int.2).2).2) := ⟨agR_1 T1, agR_2 T1⟩
      have HI1 := int_rangeA ok1
      have HI2 := int_rangeA ok2
      have HI3 := int_rangeA ok3
      have HST := take_wfA ok4
      have I1 : T1.int = (T1.int.1, T1.int.2) := rfl
      obtain ⟨x1, hx1⟩ : ∃ x1, T1.int.1 = x1 := ⟨_, rfl⟩
      obtain ⟨T2, hT2⟩ : ∃ T2, T1.int.2 = T2 := ⟨_, rfl⟩
      rw [hx1, hT2] at HAG
      rw [hT2] at ok2 ok3 ok4 ok5 HI2 HI3 HST
      rw [hx1] at HI1
      obtain ⟨x2, hx2⟩ : ∃ x2, T2.int.1 = x2 := ⟨_, rfl⟩
      obtain ⟨T3, hT3⟩ : ∃ T3, T2.int.2 = T3 := ⟨_, rfl⟩
      rw [hx2, hT3] at HAG
      rw [hT3] at ok3 ok4 ok5 HI3 HST
      rw [hx2] at HI2
      obtain ⟨x3, hx3⟩ : ∃ x3, T3.int.1 = x3 := ⟨_, rfl⟩
      obtain ⟨T4, hT4⟩ : ∃ T4, T3.int.2 = T4 := ⟨_, rfl⟩
      rw [hx3, hT4] at HAG
      rw [hT4] at ok4 ok5 HST
      rw [hx3] at HI3
      obtain ⟨S, hS⟩ : ∃ S, (takeV T4).1 = S := ⟨_, rfl⟩
      obtain ⟨T5, hT5⟩ : ∃ T5, (takeV T4).2 = T5 := ⟨_, rfl⟩
      rw [hS, hT5] at HAG
      rw [hT5] at ok5
      rw [hS] at HST
      have E1 := Lib.hid (And.intro hx1 hT2)
      have E2 := Lib.hid (And.intro hx2 hT3)
      have E3 := Lib.hid (And.intro hx3 hT4)
      have E4 := Lib.hid (And.intro hS hT5)
      clear hx1 hT2 hx2 hT3 hx3 hT4 hS hT5 I1
      go_upto_region 12 with (go_at_call 49; refine (rdr_int g2 T1 _ KK.out.rd ok1).mono ?_; rw [E1.out.1, E1.out.2]; rintro e wn ⟨rfl, hn, dn⟩; have KK := Lib.hid (KK.out.step hn dn); clear hn dn; have ⟨q1, f1⟩ := KK.out.cfA (k := q) (o := agO { cntA c with sum := W }) (by simp) 3 (v := .int .i64 0) rfl)
      generalize hwx : World.setCell _ _ _ = wx
      have KK := Lib.hid (show Kr 96 g2 w [(q, agO { cntA c with sum := W, mn := x1 }), (p, agO Ag0)] T2 wx by rw [← hwx]; exact KK.out.setCell hA (by omega) 3 _ _ rfl)
      clear hwx q1 f1
      go_upto_region 13 with (go_at_call 49; refine (rdr_int g2 T2 _ KK.out.rd ok2).mono ?_; rw [E2.out.1, E2.out.2]; rintro e wn ⟨rfl, hn, dn⟩; have KK := Lib.hid (KK.out.step hn dn); clear hn dn; have ⟨q1, f1⟩ := KK.out.cfA (k := q) (o := agO { cntA c with sum := W, mn := x1 }) (by simp) 4 (v := .int .i64 0) rfl)
      generalize hwx : World.setCell _ _ _ = wx
      have KK := Lib.hid (show Kr 96 g2 w [(q, agO { cntA c with sum := W, mn := x1, mx := x2 }), (p, agO Ag0)] T3 wx by rw [← hwx]; exact KK.out.setCell hA (by omega) 4 _ _ rfl)
      clear hwx q1 f1
      go_upto_region 14 with (go_at_call 49; refine (rdr_int g2 T3 _ KK.out.rd ok3).mono ?_; rw [E3.out.1, E3.out.2]; rintro e wn ⟨rfl, hn, dn⟩; have KK := Lib.hid (KK.out.step hn dn); clear hn dn; have ⟨q1, f1⟩ := KK.out.cfA (k := q) (o := agO { cntA c with sum := W, mn := x1, mx := x2 }) (by simp) 5 (v := .int .i64 0) rfl)
      generalize hwx : World.setCell _ _ _ = wx
      have KK := Lib.hid (show Kr 96 g2 w [(q, agO { cntA c with sum := W, mn := x1, mx := x2, last := x3 }), (p, agO Ag0)] T4 wx by rw [← hwx]; exact KK.out.setCell hA (by omega) 5 _ _ rfl)
      clear hwx q1 f1
      have CT := fun wx hx => take_any g2 T4 wx hx ok4
      rw [E4.out.1, E4.out.2] at CT
      unfold St.val at CT
      go_upto_region 15 with (go_at_call 50; refine (CT _ KK.out.rd).mono ?_; rintro e wn ⟨rfl, hn, dn⟩; have KK := Lib.hid (KK.out.step hn dn); clear hn dn; have ⟨q1, f1⟩ := KK.out.cfA (k := q) (o := agO { cntA c with sum := W, mn := x1, mx := x2, last := x3 }) (by simp) 6 (v := .int .i64 0) rfl; have ⟨q2, f2⟩ := KK.out.cfA (k := q) (o := agO { cntA c with sum := W, mn := x1, mx := x2, last := x3 }) (by simp) 7 (v := .int .i64 0) rfl; have ⟨q3, f3⟩ := KK.out.cfA (k := q) (o := agO { cntA c with sum := W, mn := x1, mx := x2, last := x3 }) (by simp) 8 (v := .int .i64 0) rfl)
      generalize hwx : World.setCell _ _ _ = wx
      have KK := Lib.hid (show Kr 96 g2 w [(q, agO ⟨c, W, x1, x2, x3, S, List.replicate 9 0⟩), (p, agO Ag0)] T5 wx by rw [← hwx]; exact ((KK.out.setCell hA (by omega) 6 _ (agO ⟨c, W, x1, x2, x3, ⟨S.clock, 0, 0⟩, List.replicate 9 0⟩) rfl).setCell hA (by omega) 7 _ (agO ⟨c, W, x1, x2, x3, ⟨S.clock, S.site, 0⟩, List.replicate 9 0⟩) rfl).setCell hA (by omega) 8 _ _ rfl)
      clear hwx q1 f1 q2 f2 q3 f3 CT
      go_wp2_with fail
      go_loopw [8, 57] (fun _ i wr => ∃ k : Nat, k ≤ 9 ∧ i = .int .i64 k ∧ Kr 96 g2 w [(q, agO ⟨c, W, x1, x2, x3, S, bkL (takeN k T5).1 k⟩), (p, agO Ag0)] (takeN k T5).2 wr) (fun _ i _ => 10 - (intOf i).toNat)
      case atStart => exact ⟨0, by omega, rfl, KK.out⟩
      case round =>
        obtain ⟨k, hk, rfl, hKK⟩ := hrel
        have KK := Lib.hid hKK
        clear hKK
        have okk := (takeN_ok ok5 k).1
        have hlk := takeN_length k T5
        by_cases hlt : k < 9
        · have t1 : decide ((k : Int) < 9) = true := decide_eq_true (by omega)
          have i1 : (0 : Int) ≤ (k : Int) := by omega
          have i2 : (k : Int) < 9 := by omega
          have HTN : Hid ((takeN (k + 1) T5).1 = (takeN k T5).1 ++ [((takeN k T5).2.small 1099511627776).1] ∧ (takeN (k + 1) T5).2 = ((takeN k T5).2.small 1099511627776).2) := ⟨by simp only [takeN], by simp only [takeN]⟩
          have CS := fun wx hx => rdr_small g2 (takeN k T5).2 1099511627776 wx hx okk (by decide) (by decide)
          generalize ((takeN k T5).2.small 1099511627776).1 = y at *
          generalize ((takeN k T5).2.small 1099511627776).2 = R9 at *
          have HB0 := bkL_get (takeN k T5).1 k hlk hlt ⟨c, W, x1, x2, x3, S, bkL (takeN k T5).1 k⟩ rfl
          have HBS := Lib.hid (bkL_set (takeN k T5).1 k hlk hlt y)
          go_wp2_with (go_at_call 46; refine (CS _ KK.out.rd).mono ?_; rintro e wn ⟨rfl, hn, dn⟩; have KK := Lib.hid (KK.out.step hn dn); clear hn dn; have ⟨q1, f1⟩ := KK.out.cfA (k := q) (o := agO ⟨c, W, x1, x2, x3, S, bkL (takeN k T5).1 k⟩) (by simp) (9 + k) HB0)
          have KS := KK.out.setBk hA (by omega) k y
          simp only at KS
          rw [HBS.out, ← HTN.out.1, ← HTN.out.2] at KS
          have FIN := Lib.hid KS
          clear KS q1 f1
          go_roundw
          case rel => exact ⟨k + 1, by omega, by go_num, FIN.out⟩
          case measure => simp [intOf]; omega
        · obtain rfl : k = 9 := by omega
          have t1 : decide (((9 : Nat) : Int) < 9) = false := decide_eq_false (by omega)
          have e9 : bkL (takeN 9 T5).1 9 = (takeN 9 T5).1 := by unfold bkL; simp
          rw [e9] at KK
          rw [HAG.out.1, HAG.out.2, HW.out] at HV
          have HBK := takeN_range ok5 9
          have HAO : Hid (Ag.ok ⟨c, W, x1, x2, x3, S, (takeN 9 T5).1⟩) := ⟨⟨by show -9223372036854775808 ≤ c; omega, by show c ≤ 9223372036854775807; omega⟩, hWok, HI1, HI2, HI3, HST, hlk, fun z hz => by have := HBK z hz; exact ⟨by omega, by omega⟩⟩
          clear e9 HAG HI1 HI2 HI3 HST HBK hWok HW ok1 ok2 ok3 ok4 E1 E2 E3 E4
          obtain ⟨BK, hBK⟩ : ∃ BK, (takeN 9 T5).1 = BK := ⟨_, rfl⟩
          obtain ⟨T6, hT6⟩ : ∃ T6, (takeN 9 T5).2 = T6 := ⟨_, rfl⟩
          rw [hBK] at KK HV HAO hlk
          rw [hT6] at KK HV okk
          clear hBK hT6
          have HV := Lib.hid (show V = finA ⟨c, W, x1, x2, x3, S, BK⟩ T6 from HV.out)
          have CE := fun wx hx => rdr_end g2 T6 wx hx okk
          have CHK := fun wx => acheck_any ⟨c, W, x1, x2, x3, S, BK⟩ wx HAO.out
          have HLA : Hid ((⟨c, W, x1, x2, x3, S, BK⟩ : Ag).bk.length = 9) := HAO.out.2.2.2.2.2.2.1
          unfold Ag.val at CHK
          by_cases hf : (T6).fin = 0
          · rw [hf] at CE
            rcases chkA_cases ⟨c, W, x1, x2, x3, S, BK⟩ with ⟨ho, hch⟩ | ⟨ho, hch⟩
            · rw [hch] at CHK
              have HV := Lib.hid (HV.out.trans (finA_pos hf ho))
              clear hf ho hch
              go_wp2_with (first
                | (go_at_call 51; refine (CE _ KK.out.rd).mono ?_; rintro e w8 ⟨rfl, dq⟩; have KK := Lib.hid (KK.out.step (dq.rdr KK.out.rd) dq.but); clear dq)
                | refine wpList_load_row_w (by first | rfl | kernel_rfl) 29 _ rfl q rfl 29 (⟨c, W, x1, x2, x3, S, BK⟩ : Ag).cs.toArray (0, 0) _ KK.out.hd Try.underlying29 rfl (ag_size HLA.out) ?_
                | refine wpList_load_row rfl 29 _ rfl q rfl 29 (⟨c, W, x1, x2, x3, S, BK⟩ : Ag).cs.toArray (0, 0) _ KK.out.hd Try.underlying29 rfl (ag_size HLA.out) ?_
                | (go_at_call 30; refine (CHK _).mono ?_; rintro e w9 ⟨rfl, dn⟩; have KK := Lib.hid (KK.out.below dn); clear dn)
                | refine wpList_store_row rfl 29 _ _ rfl p (⟨c, W, x1, x2, x3, S, BK⟩ : Ag).cs.toArray rfl rfl 29 _ (KK.out.at_ (p, agO Ag0) (by simp)).2 (ag_size HLA.out) (ag_sz (by first | rfl | decide) HLA.out) (ag_one _) ?_)
              have KF := Kr.setRow (KK.out.sub (m := [(p, agO Ag0)]) (by simp)) trivial (by omega) (agO ⟨c, W, x1, x2, x3, S, BK⟩)
              refine bodyPost_ret (v := .tuple #[(⟨c, W, x1, x2, x3, S, BK⟩ : Ag).val, .int .i64 0]) (results_cell_tmpA rfl _ _ p 29 (⟨c, W, x1, x2, x3, S, BK⟩ : Ag).cs.toArray (0, 0) _ _ rfl rfl KF.hd Try.underlying29 rfl (ag_size HLA.out)) rfl ⟨by rw [HV.out], by first | exact KF.belowA (by omega) | (rw [hp]; exact KF.belowA (by omega))⟩
            · rw [hch] at CHK
              have HV := Lib.hid (HV.out.trans (finA_neg (fun h => ho h.2)))
              clear hf ho hch
              go_wp2_with (first
                | (go_at_call 51; refine (CE _ KK.out.rd).mono ?_; rintro e w8 ⟨rfl, dq⟩; have KK := Lib.hid (KK.out.step (dq.rdr KK.out.rd) dq.but); clear dq)
                | refine wpList_load_row_w (by first | rfl | kernel_rfl) 29 _ rfl q rfl 29 (⟨c, W, x1, x2, x3, S, BK⟩ : Ag).cs.toArray (0, 0) _ KK.out.hd Try.underlying29 rfl (ag_size HLA.out) ?_
                | (go_at_call 30; refine (CHK _).mono ?_; rintro e w9 ⟨rfl, dn⟩; have KK := Lib.hid (KK.out.below dn); clear dn)
                | (refine wpList_store_row rfl 29 _ _ rfl p Ag0.cs.toArray rfl rfl 29 _ (KK.out.at_ (p, agO Ag0) (by simp)).2 (by kernel_rfl) rfl (by simp [Value.oneCell', Ag0, Ag.cs]) ?_))
              have KF := Kr.setRow (KK.out.sub (m := [(p, agO Ag0)]) (by simp)) trivial (by omega) (agO Ag0)
              refine bodyPost_ret (v := .tuple #[Ag0.val, .int .i64 10]) (results_cell_tmpA rfl _ _ p 29 Ag0.cs.toArray (0, 0) _ _ rfl rfl KF.hd Try.underlying29 rfl (by kernel_rfl)) rfl ⟨by rw [HV.out], by first | exact KF.belowA (by omega) | (rw [hp]; exact KF.belowA (by omega))⟩
          · have hf10 : (T6).fin = 10 := by unfold Rdr.fin at hf ⊢; split <;> simp_all
            rw [hf10] at CE
            have HV := Lib.hid (HV.out.trans (finA_neg (fun h => hf h.1)))
            clear hf hf10
            go_wp2_with (first
              | (go_at_call 51; refine (CE _ KK.out.rd).mono ?_; rintro e w8 ⟨rfl, dq⟩; have KK := Lib.hid (KK.out.step (dq.rdr KK.out.rd) dq.but); clear dq)
              | (refine wpList_store_row rfl 29 _ _ rfl p Ag0.cs.toArray rfl rfl 29 _ (KK.out.at_ (p, agO Ag0) (by simp)).2 (by kernel_rfl) rfl (by simp [Value.oneCell', Ag0, Ag.cs]) ?_))
            have KF := Kr.setRow (KK.out.sub (m := [(p, agO Ag0)]) (by simp)) trivial (by omega) (agO Ag0)
            refine bodyPost_ret (v := .tuple #[Ag0.val, .int .i64 10]) (results_cell_tmpA rfl _ _ p 29 Ag0.cs.toArray (0, 0) _ _ rfl rfl KF.hd Try.underlying29 rfl (by kernel_rfl)) rfl ⟨by rw [HV.out], by first | exact KF.belowA (by omega) | (rw [hp]; exact KF.belowA (by omega))⟩
  · have t1 : decide (c > 0) = false := decide_eq_false hcp
    obtain rfl : c = 0 := by omega
    have HV := Lib.hid (HV.out.trans (show readA s = finA (cntA 0) R by unfold readA; rw [if_neg (by rw [HC.out]; omega), HC.out, HR.out]))
    have HAO : Hid (Ag.ok (cntA 0)) := Ag0_ok
    have hRk := hC.1
    clear hcp hC
    have CE := fun wx hx => rdr_end (p + 1) R wx hx hRk
    have CHK := fun wx => acheck_any (cntA 0) wx HAO.out
    have HLA : Hid (((cntA 0) : Ag).bk.length = 9) := HAO.out.2.2.2.2.2.2.1
    unfold Ag.val at CHK
    by_cases hf : (R).fin = 0
    · rw [hf] at CE
      rcases chkA_cases (cntA 0) with ⟨ho, hch⟩ | ⟨ho, hch⟩
      · rw [hch] at CHK
        have HV := Lib.hid (HV.out.trans (finA_pos hf ho))
        clear hf ho hch
        go_wp2_with (first
          | (go_at_call 51; refine (CE _ KK.out.rd).mono ?_; rintro e w8 ⟨rfl, dq⟩; have KK := Lib.hid (KK.out.step (dq.rdr KK.out.rd) dq.but); clear dq)
          | refine wpList_load_row_w (by first | rfl | kernel_rfl) 29 _ rfl q rfl 29 ((cntA 0) : Ag).cs.toArray (0, 0) _ KK.out.hd Try.underlying29 rfl (ag_size HLA.out) ?_
          | refine wpList_load_row rfl 29 _ rfl q rfl 29 ((cntA 0) : Ag).cs.toArray (0, 0) _ KK.out.hd Try.underlying29 rfl (ag_size HLA.out) ?_
          | (go_at_call 30; refine (CHK _).mono ?_; rintro e w9 ⟨rfl, dn⟩; have KK := Lib.hid (KK.out.below dn); clear dn)
          | refine wpList_store_row rfl 29 _ _ rfl p ((cntA 0) : Ag).cs.toArray rfl rfl 29 _ (KK.out.at_ (p, agO Ag0) (by simp)).2 (ag_size HLA.out) (ag_sz (by first | rfl | decide) HLA.out) (ag_one _) ?_)
        have KF := Kr.setRow (KK.out.sub (m := [(p, agO Ag0)]) (by simp)) trivial (by omega) (agO (cntA 0))
        refine bodyPost_ret (v := .tuple #[((cntA 0) : Ag).val, .int .i64 0]) (results_cell_tmpA rfl _ _ p 29 ((cntA 0) : Ag).cs.toArray (0, 0) _ _ rfl rfl KF.hd Try.underlying29 rfl (ag_size HLA.out)) rfl ⟨by rw [HV.out], by first | exact KF.belowA (by omega) | (rw [hp]; exact KF.belowA (by omega))⟩
      · rw [hch] at CHK
        have HV := Lib.hid (HV.out.trans (finA_neg (fun h => ho h.2)))
        clear hf ho hch
        go_wp2_with (first
          | (go_at_call 51; refine (CE _ KK.out.rd).mono ?_; rintro e w8 ⟨rfl, dq⟩; have KK := Lib.hid (KK.out.step (dq.rdr KK.out.rd) dq.but); clear dq)
          | refine wpList_load_row_w (by first | rfl | kernel_rfl) 29 _ rfl q rfl 29 ((cntA 0) : Ag).cs.toArray (0, 0) _ KK.out.hd Try.underlying29 rfl (ag_size HLA.out) ?_
          | (go_at_call 30; refine (CHK _).mono ?_; rintro e w9 ⟨rfl, dn⟩; have KK := Lib.hid (KK.out.below dn); clear dn)
          | (refine wpList_store_row rfl 29 _ _ rfl p Ag0.cs.toArray rfl rfl 29 _ (KK.out.at_ (p, agO Ag0) (by simp)).2 (by kernel_rfl) rfl (by simp [Value.oneCell', Ag0, Ag.cs]) ?_))
        have KF := Kr.setRow (KK.out.sub (m := [(p, agO Ag0)]) (by simp)) trivial (by omega) (agO Ag0)
        refine bodyPost_ret (v := .tuple #[Ag0.val, .int .i64 10]) (results_cell_tmpA rfl _ _ p 29 Ag0.cs.toArray (0, 0) _ _ rfl rfl KF.hd Try.underlying29 rfl (by kernel_rfl)) rfl ⟨by rw [HV.out], by first | exact KF.belowA (by omega) | (rw [hp]; exact KF.belowA (by omega))⟩
    · have hf10 : (R).fin = 10 := by unfold Rdr.fin at hf ⊢; split <;> simp_all
      rw [hf10] at CE
      have HV := Lib.hid (HV.out.trans (finA_neg (fun h => hf h.1)))
      clear hf hf10
      go_wp2_with (first
        | (go_at_call 51; refine (CE _ KK.out.rd).mono ?_; rintro e w8 ⟨rfl, dq⟩; have KK := Lib.hid (KK.out.step (dq.rdr KK.out.rd) dq.but); clear dq)
        | (refine wpList_store_row rfl 29 _ _ rfl p Ag0.cs.toArray rfl rfl 29 _ (KK.out.at_ (p, agO Ag0) (by simp)).2 (by kernel_rfl) rfl (by simp [Value.oneCell', Ag0, Ag.cs]) ?_))
      have KF := Kr.setRow (KK.out.sub (m := [(p, agO Ag0)]) (by simp)) trivial (by omega) (agO Ag0)
      refine bodyPost_ret (v := .tuple #[Ag0.val, .int .i64 10]) (results_cell_tmpA rfl _ _ p 29 Ag0.cs.toArray (0, 0) _ _ rfl rfl KF.hd Try.underlying29 rfl (by kernel_rfl)) rfl ⟨by rw [HV.out], by first | exact KF.belowA (by omega) | (rw [hp]; exact KF.belowA (by omega))⟩
end
end Go.Proofs.Ytojnooagifhekaa
