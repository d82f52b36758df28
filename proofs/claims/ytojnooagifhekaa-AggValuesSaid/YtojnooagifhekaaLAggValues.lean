/- AggValues: for any points the law answers true. -/
import Derived.Test.YtojnooagifhekaaAawake
import Derived.Test.YtojnooagifhekaaOpenA
namespace Go.Proofs.Ytojnooagifhekaa
open Go.RowKit
set_option maxRecDepth 100000
set_option linter.unusedVariables false
set_option linter.unusedSimpArgs false
attribute [local go_sem ↓] Go.wp_at_zero Go.wp_at_succ
def bkO (l : List Int) : Obj := .cells (cellsK .i64 l) 27 (0, 0)
theorem eq_nine (l : List Int) (h : l.length = 9) (hw : ∀ x ∈ l, i64 x) (w : World) : (binOp .eql 27 (.agg (cellsK .i64 l)) (.agg (cellsK .i64 l))).run Try.prog w = .ok (.bool true) w := by
  have hL : leaves Try.prog 5 27 = some (List.replicate 9 (Leaf.int .i64)) := by kernel_rfl
  obtain ⟨x0, x1, x2, x3, x4, x5, x6, x7, x8, rfl⟩ := len9 h
  have e := fun x hx => wf_i64 (hw x hx)
  have hf : Flat (List.replicate 9 (Leaf.int .i64)) ([x0, x1, x2, x3, x4, x5, x6, x7, x8].map (Value.int .i64)) :=
    ⟨⟨_, rfl, e _ (by simp)⟩, ⟨_, rfl, e _ (by simp)⟩, ⟨_, rfl, e _ (by simp)⟩, ⟨_, rfl, e _ (by simp)⟩, ⟨_, rfl, e _ (by simp)⟩, ⟨_, rfl, e _ (by simp)⟩, ⟨_, rfl, e _ (by simp)⟩, ⟨_, rfl, e _ (by simp)⟩, ⟨_, rfl, e _ (by simp)⟩, trivial⟩
  have := (eql_flat (P := Try.prog) 5 (by decide) 27 _ hL (by kernel_rfl) (by kernel_rfl) (by kernel_rfl) _ _ hf hf True ⟨fun _ => rfl, fun _ => trivial⟩ w).1
  rw [decide_eq_true trivial] at this
  exact this
theorem Kn.setB {B : Nat} {w0 w : World} {l : List (Nat × Obj)} {g : Nat} {b : List Int} (h : Kn B w0 ((g, bkO b) :: l) w) (hl : Apart g l) (hg : B ≤ g) (j : Nat) (v : Int) : Kn B w0 ((g, bkO (b.set j v)) :: l) (w.setCell ⟨g, j, none⟩ (.int .i64 v)) :=
  Kn.but h (But.set g j w _) hl.all hg (BlkK.set (show BlkK .i64 27 w g b from h.hd) j v)
theorem less_false {a b : St} (h : lessV a b = false) : ¬ a.clock < b.clock ∧ (a.clock = b.clock → ¬ a.site < b.site ∧ (a.site = b.site → ¬ a.seq < b.seq)) := by
  unfold lessV at h
  refine ⟨?_, fun e => ⟨?_, fun e2 => ?_⟩⟩
  · intro hc
    rw [if_neg (by omega)] at h
    simp at h; omega
  · intro hc
    rw [if_pos e, if_neg (by omega)] at h
    simp at h; omega
  · intro hc
    rw [if_pos e, if_pos e2] at h
    simp at h; omega
def anyV (l : List Pt) (v : Int) : Bool := l.any fun p => p.value == v
theorem anyV_snoc (l : List Pt) (p : Pt) (v : Int) : anyV (l ++ [p]) v = (anyV l v || p.value == v) := by simp [anyV]
theorem anyV_of {l : List Pt} {v : Int} (h : ∃ p ∈ l, p.value = v) : anyV l v = true := by
  obtain ⟨p, hp, e⟩ := h
  exact List.any_eq_true.2 ⟨p, hp, by rw [e]; exact beq_self_eq_true _⟩
set_option maxHeartbeats 8000000 in
set_option maxRecDepth 100000 in
theorem values_any (a0 : Option Addr) (n c : Nat) (xs : List Pt) (w : World) (h : ReadsE Pt.cs 6 w a0 n xs) (hwf : ∀ x ∈ xs, x.wf) (hnc : n ≤ c) (hcb : c ≤ 9223372036854775807) : Calls Try.prog 7 #[.slice a0 n c] w fun e w' => e = .returned (.bool true) ∧ Below w.heap.size w w' := by
  have H := Lib.hid h
  have HRT := fun wx hb => right_any a0 n c xs wx (H.out.below hb) hwf hnc hcb
  have hle := right_le xs
  have hwf2 := right_wf xs hwf
  have hun := right_uniq xs
  generalize rightV xs = L at *
  have hok := fold_ok L hwf2
  have hmn := (fold_min L (by omega)).1
  have hmn2 := (fold_min L (by omega)).2
  have hat := fold_at L (by omega)
  have hbk := fold_bk L (by omega)
  have hua := under_all L (by omega)
  have HU := fun wx => under_any (foldV L) 9 wx hok ⟨by decide, by decide⟩
  rw [hua] at HU
  have hLt : ∀ k, (cntB (L.take k)).length = 9 := fun k => cntB_len _
  obtain ⟨m, hm⟩ : ∃ m, L.length = m := ⟨_, rfl⟩
  rw [hm] at hle
  have HL : Hid ((foldV L).bk.length = 9) := hok.2.2.2.2.2.2.1
  have HATS : Hid (∀ p ∈ L, lessV (foldV L).at_ p.st = false ∧ ((foldV L).at_ = p.st → p.value = (foldV L).last)) := by
    intro p hp
    obtain ⟨q, hq, e1, e2, e3⟩ := hat (by rintro rfl; simp at hp)
    refine ⟨e3 p hp, fun e => ?_⟩
    rw [e2]
    exact congrArg Pt.value (hun p q hp hq (by rw [← e, e1]))
  have HBK : Hid ((foldV L).bk = cntB L) := hbk
  have HMM : Hid (∀ p ∈ L, (foldV L).mn ≤ p.value ∧ p.value ≤ (foldV L).mx) := hmn
  have HANY : Hid (m ≠ 0 → anyV L (foldV L).mn = true ∧ anyV L (foldV L).mx = true) := fun h0 => by
    have hne : L ≠ [] := by rintro rfl; exact h0 hm.symm
    exact ⟨anyV_of (hmn2 hne).1, anyV_of (hmn2 hne).2⟩
  have HFOLD : Hid (∀ (a : Option Addr) (cap : Nat) (wx : World), m ≤ cap → cap ≤ 9223372036854775807 → ReadsE Pt.cs 6 wx a m L → Calls Try.prog 19 #[.slice a m cap] wx fun e w' => e = .returned (foldV L).val ∧ Below wx.heap.size wx w') := fun a cap wx h1 h2 h3 => fold_any a m cap L wx h3 hwf2 h1 h2
  have HW : Hid (∀ x ∈ (foldV L).bk, i64 x) := hok.2.2.2.2.2.2.2
  generalize foldV L = F at *
  clear h hun hmn hmn2 hat hbk hua hok
  have HM := Lib.hid hm
  rw [hm] at HRT HU
  unfold Ag.val at HFOLD HU
  go_enter Try.func7, Try.ntmps7
  go_wp2_with fail
  refine (awake_any _).mono ?_
  rintro e w1 ⟨rfl, d1⟩
  go_wp2_with fail
  refine (HRT _ d1).mono ?_
  rintro e w2 ⟨a2, cap, rfl, hA, d2⟩
  have hcap := hA.max
  unfold maxLen at hcap
  have hmc := hA.le
  have hb2 := below_then d1 d1.size d2
  have hrd := (hA.reads pt_len (by decide)).1
  have hcn : (m : Int) ≤ 9223372036854775807 := by omega
  go_wp2_with fail
  refine (HFOLD.out a2 cap _ hmc hcap hrd).mono ?_
  rintro e w3 ⟨rfl, d3⟩
  have hrd := hrd.below d3
  have hb3 := below_then hb2 hb2.size d3
  have hK : Kn w.heap.size w [] w3 := ⟨by simp, hb3, hb3.size⟩
  have hsz1 := hb3.size
  clear d3 hb3 HFOLD HRT hb2 d2 d1 hA
  go_upto_region 4 with (refine wpList_store_row rfl 29 _ _ rfl w3.heap.size F.cs.toArray rfl rfl 29 Ag0.cs.toArray (heap_alloc_new _ _) (ag_size HL.out) (ag_sz (a := Ag0) rfl HL.out) (ag_one _) ?_)
  rw [World.setRow_alloc_new]
  have hk := hK.new (agO F)
  have hrd := hrd.below ((Below.refl _ _).alloc (Nat.le_refl _) (agO F))
  unfold agO at hk hrd
  generalize w3.alloc (.cells F.cs.toArray 29) = w4 at *
  generalize w3.heap.size = gF at *
  have KK : Hid (Kn w.heap.size w [(gF, agO F)] w4) := hk
  clear hk hK
  have H := Lib.hid hrd
  clear hrd
  go_upto_region 5 with (fail)
  have hk := KK.out.new (bkO (List.replicate 9 0))
  have hlt := KK.out.fresh
  have hrd := H.out.below ((Below.refl _ _).alloc (Nat.le_refl _) (bkO (List.replicate 9 0)))
  unfold bkO at hk hrd
  generalize hw5 : w4.alloc (.cells _ 27) = w5
  have e5 : w4.alloc (.cells (cellsK .i64 (List.replicate 9 0)) 27 (0, 0)) = w5 := by rw [← hw5]; rfl
  rw [e5] at hk hrd
  clear hw5 e5 KK
  have HBB : Hid (m = 0 ∨ ∃ b o, a2 = some ⟨b, o, none⟩ ∧ b < w4.heap.size) := by
    rcases H.out.2 with h | ⟨b, o, e, h, _⟩
    · exact .inl h
    · exact .inr ⟨b, o, e, h⟩
  clear H
  generalize w4.heap.size = gB at *
  have KK : Hid (Kn w.heap.size w [(gB, bkO (List.replicate 9 0)), (gF, agO F)] w5) := hk
  have H := Lib.hid hrd
  clear hk hrd
  go_wp2_with fail
  go_loopw [9, 7, 8, 10, 11, 12] (fun i lo hi p kk lt wr => ∃ k : Nat, k ≤ m ∧ i = .int .i64 k ∧ lo = .bool (anyV (L.take k) F.mn) ∧ hi = .bool (anyV (L.take k) F.mx) ∧ Kn w.heap.size w [(gB, bkO (cntB (L.take k))), (gF, agO F)] wr ∧ ReadsE Pt.cs 6 wr a2 m L) (fun i _ _ _ _ _ _ => m - (intOf i).toNat)
  case atStart => exact ⟨0, by omega, rfl, by rw [List.take_zero]; rfl, by rw [List.take_zero]; rfl, by rw [List.take_zero]; exact KK.out, H.out⟩
  case round =>
    obtain ⟨k, hkm, rfl, rfl, rfl, hk, hrd⟩ := hrel
    clear KK H
    have KK := Lib.hid hk
    have H := Lib.hid hrd
    clear hk hrd
    by_cases hlt2 : k < m
    · have t1 : decide (k < m) = true := decide_eq_true hlt2
      have t2 : decide ((k : Int) < (m : Int)) = true := decide_eq_true (by omega)
      obtain ⟨b, o, x, rfl, hbl, hx, hC⟩ := H.out.at (Below.refl _ _) k hlt2
      have hxm := List.mem_of_getElem? hx
      have hbB : b < gB := by
        rcases HBB.out with h | ⟨b', o', e, h⟩
        · omega
        · simp only [Option.some.injEq, Addr.mk.injEq, and_true] at e
          rw [e.1]; exact h
      obtain ⟨c0, c1, c2, c3, c4, c5⟩ := pt_cells hC
      have i1 : (0 : Int) ≤ (k : Int) := by omega
      have i2 : (k : Int) < (m : Int) := by omega
      have HTK : Hid (L.take (k + 1) = L.take k ++ [x]) := by
        obtain ⟨h1, h2⟩ := List.getElem?_eq_some_iff.1 hx
        show _ = _
        rw [List.take_succ_eq_append_getElem h1, h2]
      have A3 := KK.out.cell (g := gF) (o := agO F) (by simp) (ag_c3 F)
      have A4 := KK.out.cell (g := gF) (o := agO F) (by simp) (ag_c4 F)
      have q1 : decide (x.value < F.mn) = false := decide_eq_false (by have := HMM.out x hxm; omega)
      have q2 : decide (F.mx < x.value) = false := decide_eq_false (by have := HMM.out x hxm; omega)
      have hxs := HATS.out x hxm
      have hxv := hwf2 x hxm
      have HB := fun wx => bucket_any x.value wx hxv.2.2.1.2
      have hbr := bucketV_range x.value
      obtain ⟨j, hj⟩ : ∃ j : Nat, Hid (bucketV x.value = (j : Int)) := ⟨(bucketV x.value).toNat, by show _ = _; omega⟩
      have hj9 : j < 9 := by have := hj.out; omega
      rw [hj.out] at HB
      have HCN : Hid (cntB (L.take (k + 1)) = upB (cntB (L.take k)) j) := by
        show _ = _
        rw [HTK.out, cntB_snoc, hj.out]; rfl
      have hcs := (cntB_sum (L.take k)).2
      have hcl := hLt k
      generalize cntB (L.take k) = C at *
      have HLO : Hid (anyV (L.take (k + 1)) F.mn = (anyV (L.take k) F.mn || x.value == F.mn)) := by show _ = _; rw [HTK.out, anyV_snoc]
      have HHI : Hid (anyV (L.take (k + 1)) F.mx = (anyV (L.take k) F.mx || x.value == F.mx)) := by show _ = _; rw [HTK.out, anyV_snoc]
      generalize anyV (L.take k) F.mn = LO at *
      generalize anyV (L.take k) F.mx = HI at *
      clear hC HTK hx hxm hbr
      go_upto_region 11 with (fail)
      have hk := KK.out.new (ptO x)
      have hwl := KK.out.lt (gB, bkO C) (by simp)
      have hwl2 := KK.out.lt (gF, agO F) (by simp)
      have hrd := H.out.below ((Below.refl _ _).alloc (Nat.le_refl _) (ptO x))
      simp only at hwl hwl2
      unfold ptO at hk hrd
      generalize wr.alloc (.cells #[.string x.series, .int .i64 x.time, .int .i64 x.value, .int .i64 x.st.clock, .int .i64 x.st.site, .int .i64 x.st.seq] 31) = w6 at *
      generalize wr.heap.size = gp at *
      clear KK H c0 c1 c2 c3 c4 c5 A3 A4
      have KK : Hid (Kn w.heap.size w [(gp, ptO x), (gB, bkO C), (gF, agO F)] w6) := hk
      have H := Lib.hid hrd
      clear hk hrd
      have p2 : w6.cell? ⟨gp, 2, none⟩ = some (.int .i64 x.value) := KK.out.cell (g := gp) (o := ptO x) (by simp) rfl
      have p3 : w6.cell? ⟨gp, 3, none⟩ = some (.int .i64 x.st.clock) := KK.out.cell (g := gp) (o := ptO x) (by simp) rfl
      have p4 : w6.cell? ⟨gp, 4, none⟩ = some (.int .i64 x.st.site) := KK.out.cell (g := gp) (o := ptO x) (by simp) rfl
      have p5 : w6.cell? ⟨gp, 5, none⟩ = some (.int .i64 x.st.seq) := KK.out.cell (g := gp) (o := ptO x) (by simp) rfl
      have ac0 := (KK.out).cell (g := gF) (o := agO F) (by simp) (ag_c0 F)
      have ac1 := (KK.out).cell (g := gF) (o := agO F) (by simp) (ag_c1 F)
      have ac2 := (KK.out).cell (g := gF) (o := agO F) (by simp) (ag_c2 F)
      have ac3 := (KK.out).cell (g := gF) (o := agO F) (by simp) (ag_c3 F)
      have ac4 := (KK.out).cell (g := gF) (o := agO F) (by simp) (ag_c4 F)
      have ac5 := (KK.out).cell (g := gF) (o := agO F) (by simp) (ag_c5 F)
      have ac6 := (KK.out).cell (g := gF) (o := agO F) (by simp) (ag_c6 F)
      have ac7 := (KK.out).cell (g := gF) (o := agO F) (by simp) (ag_c7 F)
      have ac8 := (KK.out).cell (g := gF) (o := agO F) (by simp) (ag_c8 F)
      go_upto_region 13 with (fail)
      go_cut [7] (fun v wx => v = .bool (LO || x.value == F.mn) ∧ w6 = wx)
      case first =>
        cases LO
        · go_wp2_with fail
          go_meet
          exact ⟨rfl, rfl⟩
        · go_wp2_with fail
          go_meet
          exact ⟨rfl, rfl⟩
      case rest =>
        obtain ⟨rfl, rfl⟩ := hcut
        rw [← HLO.out]
        go_upto_region 14 with (fail)
        go_cut [8] (fun v wx => v = .bool (HI || x.value == F.mx) ∧ w6 = wx)
        case first =>
          cases HI
          · go_wp2_with fail
            go_meet
            exact ⟨rfl, rfl⟩
          · go_wp2_with fail
            go_meet
            exact ⟨rfl, rfl⟩
        case rest =>
          obtain ⟨rfl, rfl⟩ := hcut
          rw [← HHI.out]
          have r1 : decide ((j : Int) < 0) = false := decide_eq_false (by omega)
          have r2 : decide (8 < (j : Int)) = false := decide_eq_false (by omega)
          have r3 : decide (8 < j) = false := decide_eq_false (by omega)
          have r4 : (0 : Int) ≤ (j : Int) := by omega
          have r5 : (j : Int) < 9 := by omega
          have cj : w6.cell? ⟨gB, j, none⟩ = some (.int .i64 (C.getD j 0)) := BlkK.cell (show BlkK .i64 27 w6 gB C from KK.out.at_ (gB, bkO C) (by simp)) j (by omega)
          have fj : w6.frozen? ⟨gB, j, none⟩ = false := KK.out.fz (g := gB) (o := bkO C) (by simp) j
          have hcj : 0 ≤ C.getD j 0 ∧ C.getD j 0 ≤ 40 := by
            have : C.getD j 0 ∈ C := by rw [List.getD_eq_getElem?_getD, List.getElem?_eq_getElem (by omega)]; exact List.getElem_mem _
            have := hcs _ this
            have hl : (L.take k).length ≤ 40 := by rw [List.length_take]; omega
            omega
          have HUP : Hid (cntB (L.take (k + 1)) = C.set j (C.getD j 0 + 1)) := HCN.out
          generalize C.getD j 0 = y at *
          go_upto_region 19 with (first | (go_at_call 12; refine (HB _).mono ?_; rintro e w' ⟨rfl, rfl⟩))
          have hk := Kn.setB (KK.out.sub (m := [(gB, bkO C), (gp, ptO x), (gF, agO F)]) (by simp)) (by simp only [Apart, and_true]; omega) (by have := KK.out.le; omega) j (y + 1)
          have hrd := H.out
          have hrd2 : ReadsE Pt.cs 6 (w6.setCell ⟨gB, j, none⟩ (.int .i64 (y + 1))) (some ⟨b, o, none⟩) m L := by
            refine hrd.belowB (B := gB) (fun p hp h0 => ?_) (Nat.le_of_lt (KK.out.lt (gB, bkO C) (by simp))) (Below.refl gB w6 |>.setCell (p := ⟨gB, j, none⟩) (Nat.le_refl _) _)
            simp only [Option.some.injEq] at hp
            subst hp
            exact hbB
          rw [← HUP.out] at hk
          generalize w6.setCell ⟨gB, j, none⟩ (.int .i64 (y + 1)) = w7 at *
          clear KK H hrd HUP HCN HB p2 p3 p4 p5 ac0 ac1 ac2 ac3 ac4 ac5 ac6 ac7 ac8 cj fj q1 q2
          have KK := Lib.hid hk
          have H := Lib.hid hrd2
          clear hk hrd2
          have p2 : w7.cell? ⟨gp, 2, none⟩ = some (.int .i64 x.value) := KK.out.cell (g := gp) (o := ptO x) (by simp) rfl
          have p3 : w7.cell? ⟨gp, 3, none⟩ = some (.int .i64 x.st.clock) := KK.out.cell (g := gp) (o := ptO x) (by simp) rfl
          have p4 : w7.cell? ⟨gp, 4, none⟩ = some (.int .i64 x.st.site) := KK.out.cell (g := gp) (o := ptO x) (by simp) rfl
          have p5 : w7.cell? ⟨gp, 5, none⟩ = some (.int .i64 x.st.seq) := KK.out.cell (g := gp) (o := ptO x) (by simp) rfl
          have ac0 := (KK.out).cell (g := gF) (o := agO F) (by simp) (ag_c0 F)
          have ac1 := (KK.out).cell (g := gF) (o := agO F) (by simp) (ag_c1 F)
          have ac2 := (KK.out).cell (g := gF) (o := agO F) (by simp) (ag_c2 F)
          have ac3 := (KK.out).cell (g := gF) (o := agO F) (by simp) (ag_c3 F)
          have ac4 := (KK.out).cell (g := gF) (o := agO F) (by simp) (ag_c4 F)
          have ac5 := (KK.out).cell (g := gF) (o := agO F) (by simp) (ag_c5 F)
          have ac6 := (KK.out).cell (g := gF) (o := agO F) (by simp) (ag_c6 F)
          have ac7 := (KK.out).cell (g := gF) (o := agO F) (by simp) (ag_c7 F)
          have ac8 := (KK.out).cell (g := gF) (o := agO F) (by simp) (ag_c8 F)

          have L0 := less_false hxs.1
          have g0 : decide (F.at_.clock < x.st.clock) = false := decide_eq_false L0.1
          go_upto_region 19 with (fail)
          go_cut [12] (fun v wx => v = .bool false ∧ w7 = wx)
          case first =>
            by_cases e1 : x.st.clock = F.at_.clock
            · have g1 : (x.st.clock == F.at_.clock) = true := beq_iff_eq.2 e1
              have L1 := L0.2 e1.symm
              have g2 : decide (F.at_.site < x.st.site) = false := decide_eq_false L1.1
              by_cases e2 : x.st.site = F.at_.site
              · have g3 : (x.st.site == F.at_.site) = true := beq_iff_eq.2 e2
                have g4 : decide (F.at_.seq < x.st.seq) = false := decide_eq_false (L1.2 e2.symm)
                clear e1 e2 L0 L1
                go_wp2_with fail
                go_meet
                exact ⟨rfl, rfl⟩
              · have g3 : (x.st.site == F.at_.site) = false := beq_eq_false_iff_ne.2 e2
                clear e1 e2 L0 L1
                go_wp2_with fail
                go_meet
                exact ⟨rfl, rfl⟩
            · have g1 : (x.st.clock == F.at_.clock) = false := beq_eq_false_iff_ne.2 e1
              clear e1 L0
              go_wp2_with fail
              go_meet
              exact ⟨rfl, rfl⟩
          case rest =>
            obtain ⟨rfl, rfl⟩ := hcut
            have HE := fun wx => eq_stamp x.st F.at_ wx
            unfold St.val at HE
            clear L0 g0
            by_cases e1 : x.st = F.at_
            · rw [decide_eq_true e1] at HE
              have hl := hxs.2 e1.symm
              have g1 : (x.value == F.last) = true := beq_iff_eq.2 hl
              have g2 : (x.value != F.last) = false := by rw [hl]; simp
              clear e1 hl hxs
              go_wp2_with fail
              go_roundw
              case rel => exact ⟨k + 1, by omega, by go_num, rfl, rfl, KK.out.sub (by simp), H.out⟩
              case measure => simp [intOf]; omega
            · rw [decide_eq_false e1] at HE
              clear e1 hxs
              go_wp2_with fail
              go_roundw
              case rel => exact ⟨k + 1, by omega, by go_num, rfl, rfl, KK.out.sub (by simp), H.out⟩
              case measure => simp [intOf]; omega
    · have t1 : decide (k < m) = false := decide_eq_false hlt2
      have t2 : decide ((k : Int) < (m : Int)) = false := decide_eq_false (by omega)
      obtain rfl : k = m := by omega
      have e : L.take k = L := List.take_of_length_le (by rw [HM.out]; omega)
      rw [e] at KK ⊢
      have hbk := HBK.out
      have hcw := (cntB_sum L).2
      have hEQ := fun wx => eq_nine (cntB L) (cntB_len L) (fun x hx => by have := hcw x hx; rw [HM.out] at this; unfold i64; omega) wx
      obtain ⟨x0, x1, x2, x3, x4, x5, x6, x7, x8, hX⟩ := len9 (cntB_len L)
      rw [hX] at KK hEQ hbk
      simp only [cellsK, List.map_cons, List.map_nil] at hEQ
      have hA : AgAt wr gF F := KK.out.at_ (gF, agO F) (by simp)
      have k0 := hA.bk 0 (by rw [hbk]; simp)
      have k1 := hA.bk 1 (by rw [hbk]; simp)
      have k2 := hA.bk 2 (by rw [hbk]; simp)
      have k3 := hA.bk 3 (by rw [hbk]; simp)
      have k4 := hA.bk 4 (by rw [hbk]; simp)
      have k5 := hA.bk 5 (by rw [hbk]; simp)
      have k6 := hA.bk 6 (by rw [hbk]; simp)
      have k7 := hA.bk 7 (by rw [hbk]; simp)
      have k8 := hA.bk 8 (by rw [hbk]; simp)
      simp only [hbk, List.getD_cons_zero, List.getD_cons_succ, Nat.add_zero, Nat.reduceAdd] at k0 k1 k2 k3 k4 k5 k6 k7 k8
      have hB : BlkK .i64 27 wr gB [x0, x1, x2, x3, x4, x5, x6, x7, x8] := KK.out.hd
      have j0 := hB.cell 0 (by simp)
      have j1 := hB.cell 1 (by simp)
      have j2 := hB.cell 2 (by simp)
      have j3 := hB.cell 3 (by simp)
      have j4 := hB.cell 4 (by simp)
      have j5 := hB.cell 5 (by simp)
      have j6 := hB.cell 6 (by simp)
      have j7 := hB.cell 7 (by simp)
      have j8 := hB.cell 8 (by simp)
      simp only [List.getD_cons_zero, List.getD_cons_succ] at j0 j1 j2 j3 j4 j5 j6 j7 j8
      have HF := Lib.hid (KK.out.at_ (gF, agO F) (by simp))
      have HANY := HANY
      generalize anyV L F.mn = LO at *
      generalize anyV L F.mx = HI at *
      clear hbk hX hcw HBK hA hB
      by_cases h0 : k = 0
      · subst h0
        go_wp2_with (first
          | (go_at_call 23; refine (HU _).mono ?_; rintro e w' ⟨rfl, du⟩)
          | refine wpList_load_row_w rfl 29 _ rfl gF rfl 29 F.cs.toArray (0, 0) _ HF.out Try.underlying29 rfl (ag_size HL.out) ?_)
        go_ret
        exact ⟨rfl, (KK.out.below du).b⟩
      · have e := HANY.out h0
        obtain ⟨rfl, rfl⟩ := e
        have z1 : (k == 0) = false := beq_eq_false_iff_ne.2 h0
        have z2 : ((k : Int) == 0) = false := beq_eq_false_iff_ne.2 (by omega)
        have z3 : ((k : Int) == (k : Int)) = true := beq_self_eq_true _
        have z4 : (k == k) = true := beq_self_eq_true _
        clear h0
        go_wp2_with (first
          | (go_at_call 23; refine (HU _).mono ?_; rintro e w' ⟨rfl, du⟩)
          | refine wpList_load_row_w rfl 29 _ rfl gF rfl 29 F.cs.toArray (0, 0) _ HF.out Try.underlying29 rfl (ag_size HL.out) ?_)
        go_ret
        exact ⟨rfl, (KK.out.below du).b⟩
theorem values_row (v1 : Value) (xs : List Pt) (w : World) (h1 : IsEs Pt.cs 6 Pt.wf w v1 xs) :
    Calls Try.prog 7 #[v1] w fun e w' => e = .returned (.bool true) ∧ Below w.heap.size w w' := by
  obtain ⟨a, n, c, rfl, h1, h2, hr, hw⟩ := h1
  exact values_any a n c xs w hr hw h1 h2
end Go.Proofs.Ytojnooagifhekaa
