/- ship.Read of messages that bear points. -/
import Derived.Test.YtglabahbklpocaaGreatGShipPacks36
import Derived.Test.YtglabahbklpocaaGreatGShipPacks37
import Derived.Test.YtglabahbklpocaaGreatGShipPacks38
namespace Go.Proofs.YtglabahbklpocaaGreat
section
open Go.RowKit Go.Deep
set_option maxRecDepth 100000
set_option linter.unusedVariables false
set_option linter.unusedSimpArgs false
attribute [local go_sem ↓] Go.wp_at_zero Go.wp_at_succ
def Wi0 : Wi := ⟨0, 0, ⟨#[]⟩, 0, 0, Sl0, Sl0, Sl0, 0⟩
def erO (n : Int) : Obj := .cells #[.int .i64 n] 39 (0, 0)
def seO (b : Nat) : Obj := .cells #[.func (.func 45) #[] #[.pointer (some ⟨b, 0, none⟩)]] 78 (0, 0)
theorem seen_any (b : Nat) (e : Int) (w : World) (n : Int) (hb : w.heap[b]? = some (erO n)) :
    Calls Tryz.prog 45 #[.int .i64 e, .pointer (some ⟨b, 0, none⟩)] w fun v w' => v = .returned (.tuple #[]) ∧ w'.heap[b]? = some (erO (if e = 0 then n else e)) ∧ But b w w' := by
  have c0 : w.cell? ⟨b, 0, none⟩ = some (.int .i64 n) := by simp only [World.cell?, hb, erO]; rfl
  have f0 : w.frozen? ⟨b, 0, none⟩ = false := by simp only [World.frozen?, hb, erO]; rfl
  go_enter Tryz.func45, Tryz.ntmps45
  by_cases h : e = 0
  · have t1 : (e != 0) = false := bne_eq_false_iff_eq.2 h
    go_wp2_with fail
    refine bodyPost_end (v := .tuple #[]) (by simp [results, Tryz.results45, go_sem]) rfl ⟨rfl, hb, But.refl _ _⟩
  · have t1 : (e != 0) = true := bne_iff_ne.2 h
    go_wp2_with fail
    refine bodyPost_end (v := .tuple #[]) (by simp [results, Tryz.results45, go_sem]) rfl ⟨rfl, heap_setCell_same w b 0 #[.int .i64 n] 39 _ hb, But.set b 0 w _⟩
theorem But.row (g : Nat) (w : World) (cs : Array Value) : But g w (w.setRow g cs) := ⟨rfl, rfl, rfl, by simp [World.setRow], fun i hi hne => setRow_other w g i cs (by simpa using hne)⟩
theorem readP_wf {s : ByteArray} (hs : s.size ≤ 1000000000) : ∀ p ∈ (readP s).1, p.wf := by
  unfold readP
  split
  · exact takeQ_wf (Rdr.small_ok (r0_ok hs) 1000).1 _
  · intro p hp; simp at hp
theorem wi1_none (id : Int) (d : Sl) : Wi.none ⟨1, id, ⟨#[]⟩, 0, 0, d, Sl0, Sl0, 0⟩ true false false false false = true := by
  have h : (⟨#[]⟩ : ByteArray).toList.isEmpty = true := by rw [tl_nil _ rfl]; rfl
  unfold Wi.none noneB
  simp only [h]
  rfl
/-- What the bytes are of a message that bears points. -/
theorem bytes1_b (id : Int) (hid : 0 ≤ id ∧ id ≤ 1099511627776) (ps : List Pt) : ∃ (T : ByteArray) (E2 : Int), (((ps.length ≤ 200 ∧ okPts ps) ∧ T = vput 1 ++ vput id ++ vtext ⟨(ptsL ps).toArray⟩ ∧ E2 = 0) ∨ (¬ (ps.length ≤ 200 ∧ okPts ps) ∧ E2 = 1)) ∧
    ∀ (d : Sl) (w : World), SlP w d ps → Calls Tryz.prog 12 #[.agg (Wi.arr ⟨1, id, ⟨#[]⟩, 0, 0, d, Sl0, Sl0, 0⟩)] w fun e w' => e = .returned (.tuple #[.string T, .int .i64 E2]) ∧ Below w.heap.size w w' := by
  have z : i64' 0 := ⟨by decide, by decide⟩
  have hi : idV id = true := by unfold idV; simp; omega
  by_cases h : ps.length ≤ 200 ∧ okPts ps
  · refine ⟨_, _, .inl ⟨h, rfl, rfl⟩, fun d w hp => bytes1_any ⟨1, id, ⟨#[]⟩, 0, 0, d, Sl0, Sl0, 0⟩ ps w rfl z z hp hi (wi1_none id d) (by have := hp.r.1; show d.n ≤ 200; omega) h.2⟩
  · refine ⟨⟨#[]⟩, 1, .inr ⟨h, rfl⟩, fun d w hp => bytesE_any ⟨1, id, ⟨#[]⟩, 0, 0, d, Sl0, Sl0, 0⟩ w (fun wx hb => ?_)⟩
    have C := check1_any ⟨1, id, ⟨#[]⟩, 0, 0, d, Sl0, Sl0, 0⟩ ps wx rfl z z (hp.below hb)
    rw [if_neg (fun hh => h ⟨by have h1 := hh.2.1; have h2 := hp.r.1; simp only [decide_eq_true_eq] at h1; omega, by
      by_cases ho : okPts ps
      · exact ho
      · have h1 := hh.2.2.1; rw [okB_false ho] at h1; cases h1⟩)] at C
    exact C
def rd1 (s : ByteArray) : Rdr := ((r0 s).small 7).2
def id1 (s : ByteArray) : Int × Rdr := (rd1 s).small 1099511627776
def tx1 (s : ByteArray) : ByteArray × Rdr := (id1 s).2.text
/-- The bytes are those of a message that bears points. -/
def gd1 (s : ByteArray) : Prop := (tx1 s).2.fin = 0 ∧ (readP (tx1 s).1).2 = 0 ∧ (readP (tx1 s).1).1.length ≤ 200 ∧ okPts (readP (tx1 s).1).1 ∧ vput 1 ++ vput (id1 s).1 ++ vtext ⟨(ptsL (readP (tx1 s).1).1).toArray⟩ = s
set_option maxHeartbeats 16000000 in
theorem hread1_any (s : ByteArray) (w : World) (hs : s.size ≤ 1000000000) (hk : ((r0 s).small 7).1 = 1) : Calls Tryz.prog 13 #[.string s] w fun e w' => ∃ (x : Wi) (E : Int), e = .returned (.tuple #[.agg x.arr, .int .i64 E]) ∧ Below w.heap.size w w' ∧
    ((gd1 s ∧ E = 0 ∧ ∃ d : Sl, x = ⟨1, (id1 s).1, ⟨#[]⟩, 0, 0, d, Sl0, Sl0, 0⟩ ∧ SlP w' d (readP (tx1 s).1).1) ∨ (¬ gd1 s ∧ E = 10 ∧ x = Wi0)) := by
  have hok := r0_ok hs
  obtain ⟨GD, HGD0⟩ : ∃ G, Hid (G = gd1 s) := ⟨_, rfl⟩
  obtain ⟨V1, HV1⟩ : ∃ G, Hid (G = (id1 s).1) := ⟨_, rfl⟩
  obtain ⟨V2, HV2⟩ : ∃ G, Hid (G = (readP (tx1 s).1).1) := ⟨_, rfl⟩
  rw [← HGD0.out, ← HV1.out, ← HV2.out]
  have HGD : Hid (GD ↔ ((id1 s).2.text.2.fin = 0 ∧ (readP (id1 s).2.text.1).2 = 0 ∧ (readP (id1 s).2.text.1).1.length ≤ 200 ∧ okPts (readP (id1 s).2.text.1).1 ∧ vput 1 ++ vput (id1 s).1 ++ vtext ⟨(ptsL (readP (id1 s).2.text.1).1).toArray⟩ = s)) := by show _ ↔ _; rw [HGD0.out]; exact Iff.rfl
  have HV2 : Hid (V2 = (readP (id1 s).2.text.1).1) := HV2.out
  have HI1 : Hid (id1 s = ((r0 s).small 7).2.small 1099511627776) := rfl
  clear HGD0
  generalize id1 s = I1 at *
  go_enter Tryz.func13, Tryz.ntmps13
  go_upto_region 1 with fail
  generalize hw1 : World.alloc _ _ = w1
  have K1 : Kn w.heap.size w [(w.heap.size, wiO Wi0)] w1 := by rw [← hw1]; exact (Kn.start w).new' rfl (wiO Wi0)
  clear hw1
  obtain ⟨p, hp⟩ : ∃ p, w.heap.size = p := ⟨_, rfl⟩
  rw [hp] at K1 ⊢
  go_upto_region 2 with (first | (go_at_call 43; refine (rdr_read s _).mono ?_; rintro e w2 ⟨rfl, hr, d2⟩; have hpl := K1.lt (p, wiO Wi0) (by simp); have K2 := K1.below d2; have hl2 := hr.lt; simp only at hpl; have KK : Hid (Kr 140 w1.heap.size w [(p, wiO Wi0)] (r0 s) w2) := ⟨hr, by intro x hx; simp only [List.mem_singleton] at hx; subst hx; exact ⟨by simp only; omega, K2.at_ (p, wiO Wi0) (by simp)⟩, But.of_below (by rw [hp]; exact K2.b)⟩; clear d2 K1 K2 hr))
  obtain ⟨g, hg⟩ : ∃ g, w1.heap.size = g := ⟨_, rfl⟩
  rw [hg] at KK hl2 hpl ⊢
  generalize hw3 : World.alloc _ _ = w3
  have KK := Lib.hid (show Kr 140 g w [(w2.heap.size, capO g), (p, wiO Wi0)] (r0 s) w3 by rw [← hw3]; exact KK.out.new' rfl (capO g))
  clear hw3
  obtain ⟨cx, hcx⟩ : ∃ c, w2.heap.size = c := ⟨_, rfl⟩
  rw [hcx] at KK hl2 ⊢
  have c0 := KK.out.cell (k := cx) (o := capO g) (by simp) (j := 0) (v := .pointer (some ⟨g, 0, none⟩)) rfl
  go_upto_region 3 with fail
  have hl3 : cx < w3.heap.size := KK.out.lt (cx, capO g) (by simp)
  generalize hw4 : World.alloc _ _ = w4
  have KK := Lib.hid (show Kr 140 g w [(w3.heap.size, capF g), (cx, capO g), (p, wiO Wi0)] (r0 s) w4 by rw [← hw4]; exact KK.out.new' rfl (capF g))
  clear hw4
  obtain ⟨cs, hcs⟩ : ∃ c, w3.heap.size = c := ⟨_, rfl⟩
  rw [hcs] at KK hl3 ⊢
  go_upto_region 4 with fail
  have hl4 : cs < w4.heap.size := KK.out.lt (cs, capF g) (by simp)
  generalize hw5 : World.alloc _ _ = w5
  have KK := Lib.hid (show Kr 140 g w [(w4.heap.size, erO 0), (cs, capF g), (cx, capO g), (p, wiO Wi0)] (r0 s) w5 by rw [← hw5]; exact KK.out.new' rfl (erO 0))
  clear hw5
  obtain ⟨cb, hcb⟩ : ∃ c, w4.heap.size = c := ⟨_, rfl⟩
  rw [hcb] at KK hl4 ⊢
  go_upto_region 5 with fail
  have hl5 : cb < w5.heap.size := KK.out.lt (cb, erO 0) (by simp)
  generalize hw6 : World.alloc _ _ = w6
  have KK := Lib.hid (show Kr 140 g w [(w5.heap.size, seO cb), (cb, erO 0), (cs, capF g), (cx, capO g), (p, wiO Wi0)] (r0 s) w6 by rw [← hw6]; exact KK.out.new' rfl (seO cb))
  clear hw6
  obtain ⟨ct, hct⟩ : ∃ c, w5.heap.size = c := ⟨_, rfl⟩
  rw [hct] at KK hl5 ⊢
  have k1 := Rdr.small_ok hok 7
  clear c0
  have c0 := KK.out.cell (k := cs) (o := capF g) (by simp) (j := 0) (v := .func (.func 44) #[.pointer (some ⟨g, 0, none⟩)] #[]) rfl
  go_upto_region 7 with (first | (go_at_call 44; refine (rdr_small g (r0 s) 7 _ KK.out.rd hok (by decide) (by decide)).mono ?_; rintro e w7 ⟨rfl, hn, dn⟩; have KK := Lib.hid (KK.out.step hn dn); clear hn dn) | (refine wpList_store_row rfl 33 _ _ rfl _ (Wi.arr ⟨((r0 s).small 7).1, 0, ⟨#[]⟩, 0, 0, Sl0, Sl0, Sl0, 0⟩) rfl rfl 33 _ (heap_alloc_new _ _) (by kernel_rfl) rfl (wi_one _) ?_; rw [World.setRow_alloc_new]))
  have hl7 : ct < w7.heap.size := KK.out.lt (ct, seO cb) (by simp)
  have hid := small_range k1.1 (m := 1099511627776) (by decide)
  have k2 := Rdr.small_ok k1.1 1099511627776
  obtain ⟨R1, hR1⟩ : ∃ R, ((r0 s).small 7).2 = R := ⟨_, rfl⟩
  rw [hR1] at KK k1 k2 hid
  clear hk
  generalize hw8 : World.alloc _ _ = w8
  have KK := Lib.hid (show Kr 140 g w [(w7.heap.size, wiO ⟨1, 0, ⟨#[]⟩, 0, 0, Sl0, Sl0, Sl0, 0⟩), (ct, seO cb), (cb, erO 0), (cs, capF g), (cx, capO g), (p, wiO Wi0)] R1 w8 by rw [← hw8]; exact KK.out.new' rfl (wiO ⟨1, 0, ⟨#[]⟩, 0, 0, Sl0, Sl0, Sl0, 0⟩))
  clear hw8
  obtain ⟨q, hq⟩ : ∃ q, w7.heap.size = q := ⟨_, rfl⟩
  rw [hq] at KK hl7 ⊢
  have hA : Apart q [(ct, seO cb), (cb, erO 0), (cs, capF g), (cx, capO g), (p, wiO Wi0)] := ⟨by simp only; omega, by simp only; omega, by simp only; omega, by simp only; omega, by simp only; omega, trivial⟩
  clear c0
  have c0 := KK.out.cell (k := cs) (o := capF g) (by simp) (j := 0) (v := .func (.func 44) #[.pointer (some ⟨g, 0, none⟩)] #[]) rfl
  go_upto_region 8 with (first | (go_at_call 44; refine (rdr_small g _ 1099511627776 _ KK.out.rd k1.1 (by decide) (by decide)).mono ?_; rintro e w9 ⟨rfl, hn, dn⟩; have KK := Lib.hid (KK.out.step hn dn); clear hn dn; have ⟨q1, f1⟩ := KK.out.cf (k := q) (o := wiO ⟨1, 0, ⟨#[]⟩, 0, 0, Sl0, Sl0, Sl0, 0⟩) (by simp) 1 (v := .int .i64 0) rfl))
  generalize hwx : World.setCell _ _ _ = w10
  have KK := Lib.hid (show Kr 140 g w [(q, wiO ⟨1, (R1.small 1099511627776).1, ⟨#[]⟩, 0, 0, Sl0, Sl0, Sl0, 0⟩), (ct, seO cb), (cb, erO 0), (cs, capF g), (cx, capO g), (p, wiO Wi0)] _ w10 by rw [← hwx]; exact KK.out.setCell hA (by omega) 1 _ _ rfl)
  clear hwx c0 q1 f1
  obtain ⟨ID, hID⟩ : ∃ I, (R1.small 1099511627776).1 = I := ⟨_, rfl⟩
  obtain ⟨R2, hR2⟩ : ∃ R, (R1.small 1099511627776).2 = R := ⟨_, rfl⟩
  rw [hID, hR2] at KK
  rw [hID] at hid
  rw [hR2] at k2
  have c0 := KK.out.cell (k := q) (o := wiO ⟨1, ID, ⟨#[]⟩, 0, 0, Sl0, Sl0, Sl0, 0⟩) (by simp) (j := 0) (v := .int .i64 1) rfl
  rw [hR1] at HI1
  obtain ⟨I1a, I1b⟩ := I1
  have e1 : I1a = ID := (congrArg Prod.fst HI1.out).trans hID
  have e2 : I1b = R2 := (congrArg Prod.snd HI1.out).trans hR2
  subst e1 e2
  have hss : I1b.s.size ≤ 1000000000 := by rw [k2.2, k1.2]; exact hs
  clear HI1 hID hR2
  simp only at HGD HV1 HV2
  have k3 := Rdr.text_ok k2.1
  have hts := text_size k2.1
  obtain ⟨TX, hTX⟩ : ∃ T, I1b.text = T := ⟨_, rfl⟩
  have RT := fun wx h => rdr_text g I1b wx h k2.1
  rw [hTX] at HGD HV2 RT hts k3
  obtain ⟨P, R3⟩ := TX
  simp only at HGD HV2 RT hts k3
  clear hTX
  have RP := fun wx => readpts_f P wx (by omega)
  have HPW : Hid (∀ p ∈ (readP P).1, p.wf) := readP_wf (by omega)
  obtain ⟨PS, hPS⟩ : ∃ x, readP P = x := ⟨_, rfl⟩
  rw [hPS] at HGD HV2 RP HPW
  obtain ⟨ps, er⟩ := PS
  simp only at HGD HV2 RP HPW
  clear hPS
  have cx0 := KK.out.cell (k := cx) (o := capO g) (by simp) (j := 0) (v := .pointer (some ⟨g, 0, none⟩)) rfl
  go_upto_region 12 with (first
    | (go_at_call 50; refine (RT _ KK.out.rd).mono ?_; rintro e wn ⟨rfl, hn, dn⟩; have KK := Lib.hid (KK.out.step hn dn); clear hn dn)
    | (go_at_call 49; refine (RP _).mono ?_; rintro e w12 ⟨a, n, c, rfl, hr, hnc, hcb2, hfr, dn⟩; have hqn : q < wn.heap.size := KK.out.lt (q, wiO ⟨1, I1a, ⟨#[]⟩, 0, 0, Sl0, Sl0, Sl0, 0⟩) (by simp); have KK := Lib.hid (KK.out.below dn); have HR := Lib.hid hr; clear dn hr; have ⟨q5, f5⟩ := KK.out.cf (k := q) (o := wiO ⟨1, I1a, ⟨#[]⟩, 0, 0, Sl0, Sl0, Sl0, 0⟩) (by simp) 5 (v := .slice none 0 0) rfl))
  go_upto_region 13 with fail
  generalize hwx : World.setCell _ _ _ = w13
  have HFR : Hid (∀ k, k < wn.heap.size → n = 0 ∨ ∀ p, a = some p → p.block ≠ k) := fun k hk => hfr.imp_right fun ⟨b, e, hb⟩ p hp => by
    rw [e] at hp
    obtain rfl := Option.some.inj hp
    show b ≠ k
    omega
  have HR := Lib.hid (show ReadsE Pt.cs 6 w13 a n ps by rw [← hwx]; exact HR.out.but (HFR.out q hqn) (But.set q 5 _ _))
  have KK := Lib.hid (show Kr 140 g w [(q, wiO ⟨1, I1a, ⟨#[]⟩, 0, 0, ⟨a, n, c⟩, Sl0, Sl0, 0⟩), (ct, seO cb), (cb, erO 0), (cs, capF g), (cx, capO g), (p, wiO Wi0)] _ w13 by rw [← hwx]; exact KK.out.setCell hA (by omega) 5 _ _ rfl)
  clear hwx q5 f5 cx0 c0
  have ct0 := KK.out.cell (k := ct) (o := seO cb) (by simp) (j := 0) (v := .func (.func 45) #[] #[.pointer (some ⟨cb, 0, none⟩)]) rfl
  go_upto_region 25 with (go_at_call 45; refine (seen_any cb er _ 0 (KK.out.at_ (cb, erO 0) (by simp)).2).mono ?_; rintro e w14 ⟨rfl, hb, dn⟩; have HR := Lib.hid (HR.out.but (HFR.out cb (by omega)) dn); have KK := Lib.hid ((KK.out.sub (m := [(cb, erO 0), (q, wiO ⟨1, I1a, ⟨#[]⟩, 0, 0, ⟨a, n, c⟩, Sl0, Sl0, 0⟩), (cx, capO g), (p, wiO Wi0)]) (by simp)).but ⟨by simp only; omega, by simp only; omega, by simp only; omega, trivial⟩ (by omega) dn hb); clear dn hb)
  obtain ⟨BAD, hBAD⟩ : ∃ b, (if er = 0 then 0 else er) = b := ⟨_, rfl⟩
  rw [hBAD] at KK
  obtain ⟨T, E2, hTE, BB⟩ := bytes1_b I1a hid ps
  clear RP RT ct0
  have F1 := fun wx h => rdr_end g R3 wx h k3.1
  go_upto_region 26 with (first
    | refine wpList_load_row rfl 33 _ rfl q rfl 33 (Wi.arr ⟨1, I1a, ⟨#[]⟩, 0, 0, ⟨a, n, c⟩, Sl0, Sl0, 0⟩) (0, 0) _ (KK.out.at_ (q, wiO ⟨1, I1a, ⟨#[]⟩, 0, 0, ⟨a, n, c⟩, Sl0, Sl0, 0⟩) (by simp)).2 Tryz.underlying33 rfl (by kernel_rfl) ?_
    | (go_at_call 12; refine (BB ⟨a, n, c⟩ _ ⟨HR.out, HPW.out, hnc, hcb2⟩).mono ?_; rintro e w15 ⟨rfl, dn⟩; have KK := Lib.hid (KK.out.below dn); have HR := Lib.hid (HR.out.below dn); clear dn))
  clear BB
  have b0 := KK.out.cell (k := cb) (o := erO BAD) (by simp) (j := 0) (v := .int .i64 BAD) rfl
  have cx0 := KK.out.cell (k := cx) (o := capO g) (by simp) (j := 0) (v := .pointer (some ⟨g, 0, none⟩)) rfl
  have hfin : R3.fin = 0 ∨ R3.fin = 10 := by unfold Rdr.fin; split <;> simp
  rcases hfin with hf | hf
  · rw [hf] at HGD F1
    by_cases hb : BAD = 0
    · have her : er = 0 := by rw [← hBAD] at hb; split at hb <;> assumption
      have t1 : (BAD != 0) = false := bne_eq_false_iff_eq.2 hb
      rcases hTE with ⟨hl, hT, rfl⟩ | ⟨hl, rfl⟩
      · by_cases hS : T = s
        · have t2 : (T.toList != s.toList) = false := by rw [hS]; exact bne_self_eq_false _
          have t2' : (T.toList == s.toList) = true := by rw [hS]; exact beq_self_eq_true _
          have HG := Lib.hid (HGD.out.2 ⟨rfl, her, hl.1, hl.2, hT.symm.trans hS⟩)
          clear hS hT hb her hBAD hl
          go_wp2_with (first
            | (go_at_call 54; refine (F1 _ KK.out.rd).mono ?_; rintro e w20 ⟨rfl, dq⟩; have KK := Lib.hid (KK.out.step (dq.rdr KK.out.rd) dq.but); have HR := Lib.hid (HR.out.below dq.below); clear b0; have b0 := KK.out.cell (k := cb) (o := erO BAD) (by simp) (j := 0) (v := .int .i64 BAD) rfl)
            | refine wpList_load_row rfl 33 _ rfl q rfl 33 (Wi.arr ⟨1, I1a, ⟨#[]⟩, 0, 0, ⟨a, n, c⟩, Sl0, Sl0, 0⟩) (0, 0) _ (KK.out.at_ (q, wiO ⟨1, I1a, ⟨#[]⟩, 0, 0, ⟨a, n, c⟩, Sl0, Sl0, 0⟩) (by simp)).2 Tryz.underlying33 rfl (by kernel_rfl) ?_
            | refine wpList_store_row rfl 33 _ _ rfl p (Wi.arr ⟨1, I1a, ⟨#[]⟩, 0, 0, ⟨a, n, c⟩, Sl0, Sl0, 0⟩) rfl rfl 33 _ (KK.out.at_ (p, wiO Wi0) (by simp)).2 (by kernel_rfl) rfl (wi_one _) ?_)
          have KF := Kr.setRow (KK.out.sub (m := [(p, wiO Wi0)]) (by simp)) trivial (by omega) (wiO ⟨1, I1a, ⟨#[]⟩, 0, 0, ⟨a, n, c⟩, Sl0, Sl0, 0⟩)
          have HR := Lib.hid (HR.out.but (q := p) (HFR.out p (by omega)) (But.row p _ (Wi.arr ⟨1, I1a, ⟨#[]⟩, 0, 0, ⟨a, n, c⟩, Sl0, Sl0, 0⟩)))
          refine bodyPost_ret (v := .tuple #[.agg (Wi.arr ⟨1, I1a, ⟨#[]⟩, 0, 0, ⟨a, n, c⟩, Sl0, Sl0, 0⟩), .int .i64 0]) (res_cell_tmp rfl _ _ p 33 (Wi.arr ⟨1, I1a, ⟨#[]⟩, 0, 0, ⟨a, n, c⟩, Sl0, Sl0, 0⟩) (0, 0) _ _ rfl rfl KF.hd Tryz.underlying33 rfl (by kernel_rfl)) rfl ⟨_, 0, rfl, KF.belowB (by omega), .inl ⟨HG.out, rfl, ⟨a, n, c⟩, by rw [HV1.out], by rw [HV2.out]; exact ⟨HR.out, HPW.out, hnc, hcb2⟩⟩⟩
        · have t2 : (T.toList != s.toList) = true := bne_iff_ne.2 (fun h => hS (ba_data.2 (by rw [← Lib.toList_data, ← Lib.toList_data]; exact h)))
          have t2' : (T.toList == s.toList) = false := by simpa [bne] using t2
          have HNG : Hid (¬ GD) := fun h => hS (hT.trans (HGD.out.1 h).2.2.2.2)
          clear hS hT hb her hBAD hl
          go_wp2_with (first
            | (go_at_call 54; refine (F1 _ KK.out.rd).mono ?_; rintro e w20 ⟨rfl, dq⟩; have KK := Lib.hid (KK.out.step (dq.rdr KK.out.rd) dq.but); clear b0; have b0 := KK.out.cell (k := cb) (o := erO BAD) (by simp) (j := 0) (v := .int .i64 BAD) rfl)
            | refine wpList_store_row rfl 33 _ _ rfl p Wi0.arr rfl rfl 33 _ (KK.out.at_ (p, wiO Wi0) (by simp)).2 (by kernel_rfl) rfl (wi_one _) ?_)
          have KF := Kr.setRow (KK.out.sub (m := [(p, wiO Wi0)]) (by simp)) trivial (by omega) (wiO Wi0)
          refine bodyPost_ret (v := .tuple #[.agg Wi0.arr, .int .i64 10]) (res_cell_tmp rfl _ _ p 33 Wi0.arr (0, 0) _ _ rfl rfl KF.hd Tryz.underlying33 rfl (by kernel_rfl)) rfl ⟨Wi0, 10, rfl, KF.belowB (by omega), .inr ⟨HNG.out, rfl, rfl⟩⟩
      · have HNG : Hid (¬ GD) := fun h => hl ⟨(HGD.out.1 h).2.2.1, (HGD.out.1 h).2.2.2.1⟩
        clear hb her hBAD hl
        go_wp2_with (first
          | (go_at_call 54; refine (F1 _ KK.out.rd).mono ?_; rintro e w20 ⟨rfl, dq⟩; have KK := Lib.hid (KK.out.step (dq.rdr KK.out.rd) dq.but); clear b0; have b0 := KK.out.cell (k := cb) (o := erO BAD) (by simp) (j := 0) (v := .int .i64 BAD) rfl)
          | refine wpList_store_row rfl 33 _ _ rfl p Wi0.arr rfl rfl 33 _ (KK.out.at_ (p, wiO Wi0) (by simp)).2 (by kernel_rfl) rfl (wi_one _) ?_)
        have KF := Kr.setRow (KK.out.sub (m := [(p, wiO Wi0)]) (by simp)) trivial (by omega) (wiO Wi0)
        refine bodyPost_ret (v := .tuple #[.agg Wi0.arr, .int .i64 10]) (res_cell_tmp rfl _ _ p 33 Wi0.arr (0, 0) _ _ rfl rfl KF.hd Tryz.underlying33 rfl (by kernel_rfl)) rfl ⟨Wi0, 10, rfl, KF.belowB (by omega), .inr ⟨HNG.out, rfl, rfl⟩⟩
    · have t1 : (BAD != 0) = true := bne_iff_ne.2 hb
      have HNG : Hid (¬ GD) := fun h => hb (by rw [← hBAD, if_pos (HGD.out.1 h).2.1])
      clear hb hBAD hTE
      go_wp2_with (first
        | (go_at_call 54; refine (F1 _ KK.out.rd).mono ?_; rintro e w20 ⟨rfl, dq⟩; have KK := Lib.hid (KK.out.step (dq.rdr KK.out.rd) dq.but); clear b0; have b0 := KK.out.cell (k := cb) (o := erO BAD) (by simp) (j := 0) (v := .int .i64 BAD) rfl)
        | refine wpList_store_row rfl 33 _ _ rfl p Wi0.arr rfl rfl 33 _ (KK.out.at_ (p, wiO Wi0) (by simp)).2 (by kernel_rfl) rfl (wi_one _) ?_)
      have KF := Kr.setRow (KK.out.sub (m := [(p, wiO Wi0)]) (by simp)) trivial (by omega) (wiO Wi0)
      refine bodyPost_ret (v := .tuple #[.agg Wi0.arr, .int .i64 10]) (res_cell_tmp rfl _ _ p 33 Wi0.arr (0, 0) _ _ rfl rfl KF.hd Tryz.underlying33 rfl (by kernel_rfl)) rfl ⟨Wi0, 10, rfl, KF.belowB (by omega), .inr ⟨HNG.out, rfl, rfl⟩⟩
  · rw [hf] at HGD F1
    have HNG : Hid (¬ GD) := fun h => by have := (HGD.out.1 h).1; cases this
    clear hBAD hTE
    go_wp2_with (first
      | (go_at_call 54; refine (F1 _ KK.out.rd).mono ?_; rintro e w20 ⟨rfl, dq⟩; have KK := Lib.hid (KK.out.step (dq.rdr KK.out.rd) dq.but); clear b0; have b0 := KK.out.cell (k := cb) (o := erO BAD) (by simp) (j := 0) (v := .int .i64 BAD) rfl)
      | refine wpList_store_row rfl 33 _ _ rfl p Wi0.arr rfl rfl 33 _ (KK.out.at_ (p, wiO Wi0) (by simp)).2 (by kernel_rfl) rfl (wi_one _) ?_)
    have KF := Kr.setRow (KK.out.sub (m := [(p, wiO Wi0)]) (by simp)) trivial (by omega) (wiO Wi0)
    refine bodyPost_ret (v := .tuple #[.agg Wi0.arr, .int .i64 10]) (res_cell_tmp rfl _ _ p 33 Wi0.arr (0, 0) _ _ rfl rfl KF.hd Tryz.underlying33 rfl (by kernel_rfl)) rfl ⟨Wi0, 10, rfl, KF.belowB (by omega), .inr ⟨HNG.out, rfl, rfl⟩⟩
end
end Go.Proofs.YtglabahbklpocaaGreat
