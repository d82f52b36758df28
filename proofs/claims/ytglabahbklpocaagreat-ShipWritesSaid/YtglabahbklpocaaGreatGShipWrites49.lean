/- What is written is read again: messages of all kinds. ship.Peers: Note, Of, Least, Sent. -/
import Derived.Test.YtglabahbklpocaaGreatGShipWrites47
import Derived.Test.YtglabahbklpocaaGreatGShipWrites48
import Derived.Test.YtglabahbklpocaaGreatGShipWrites13
import Derived.Test.YtglabahbklpocaaGreatGShipWrites12
namespace Go.Proofs.YtglabahbklpocaaGreat
section
open Go.RowKit Go.Deep
set_option maxRecDepth 100000
set_option linter.unusedVariables false
set_option linter.unusedSimpArgs false
attribute [local go_sem ↓] Go.wp_at_zero Go.wp_at_succ
theorem ba_nil {s : ByteArray} (h : s.size = 0) : s = ⟨#[]⟩ := by
  apply ByteArray.ext
  exact Array.eq_empty_of_size_eq_zero h
theorem recsB_le (P : ByteArray) (rs : List RecA) (h : okRecs rs) : (recsB P rs).size ≤ P.size + 4000 * rs.length := by
  induction rs generalizing P with
  | nil => exact Nat.le_refl _
  | cons x r ih =>
    have h1 := ih (P ++ vtext (recT x.r x.ds)) (fun y hy => h y (List.mem_cons_of_mem _ hy))
    have h2 := vtext_le3 (recT x.r x.ds) (recT_le (h x (List.mem_cons_self ..)))
    rw [ByteArray.size_append] at h1
    show (recsB (P ++ vtext (recT x.r x.ds)) r).size ≤ _
    rw [List.length_cons]
    omega
/-- The message z tells what x does. -/
structure TellsAs (w : World) (z x : Wi) (ps : List Pt) (ms : List RcM) (vs : List Int) : Prop where
  k : z.kind = x.kind
  id : z.id = x.id
  s : z.series = x.series
  f : z.from_ = x.from_
  t : z.to_ = x.to_
  tm : z.time = x.time
  p : SlP w z.np ps
  r : RecsW w z.nr ms
  v : SlR w z.vec vs
theorem slP_nil (w : World) : SlP w Sl0 [] := ⟨⟨rfl, .inl rfl⟩, by simp, Nat.le_refl _, by decide⟩
theorem slR_nil (w : World) : SlR w Sl0 [] := ⟨⟨rfl, .inl rfl⟩, Nat.le_refl _, by decide⟩
theorem recsW_nil (w : World) : RecsW w Sl0 [] := ⟨⟨[], ⟨rfl, .inl rfl⟩, rfl, by simp⟩, Nat.le_refl _, by decide⟩
section
variable {w w0 : World} {x : Wi} {ps : List Pt} {rs : List RecA} {vs : List Int}
theorem WiAt.pn (h : WiAt w x ps rs vs) (h0 : x.np.n = 0) : ps = [] := List.eq_nil_of_length_eq_zero (by have := h.p.r.1; omega)
theorem WiAt.rn (h : WiAt w x ps rs vs) (h0 : x.nr.n = 0) : rs = [] := List.eq_nil_of_length_eq_zero (by have := h.r.r.1; omega)
theorem WiAt.vn (h : WiAt w x ps rs vs) (h0 : x.vec.n = 0) : vs = [] := List.eq_nil_of_length_eq_zero (by have := h.v.r.1; omega)
theorem RecsV.w' (h : RecsV w x.nr rs) (hok : okRecs rs) : RecsW w x.nr (rs.map RecA.m) :=
  ⟨⟨rs, h.r, rfl, fun y hy => ⟨h.ok y hy, by
    have h1 := (h.ok y hy).sl.r.1
    have h2 : y.ds = pl y.ds := (hok y hy).2.2.1
    have h3 := pl_length y.ds
    rw [← h2] at h3
    omega⟩⟩, h.nc, h.cb⟩
theorem tells_self (h : WiAt w x ps rs vs) (h2 : okT x ps rs vs) : TellsAs w x x ps (rs.map RecA.m) vs := ⟨rfl, rfl, rfl, rfl, rfl, rfl, h.p, h.r.w' h2.2.1, h.v⟩
theorem TellsAs.below {w' : World} {z : Wi} {ms : List RcM} (h : TellsAs w z x ps ms vs) (hb : Below w.heap.size w w') : TellsAs w' z x ps ms vs := ⟨h.k, h.id, h.s, h.f, h.t, h.tm, h.p.below hb, h.r.below hb, h.v.below hb⟩
theorem recsV_ti {w : World} {B : Nat} {d : Sl} {rs : List RecA} {vs : List Int} {d2 : Sl} (h : V7 w B d vs d2 rs) : RecsW w d2 (rs.map RecA.m) :=
  ⟨⟨rs, (AppE.reads rec_len (by decide) h.ap).1, rfl, fun y hy => ⟨(h.rs y hy).1.ok, (h.rs y hy).1.n8⟩⟩, h.ap.le, maxLen_i h.ap.max⟩
theorem read_w (h : WiAt w0 x ps rs vs) (h1 : okA x) (h2 : okT x ps rs vs) (w : World) : Calls Tryz.prog 13 #[.string (wireB x ps rs vs)] w fun e w' => ∃ z : Wi, e = .returned (.tuple #[.agg z.arr, .int .i64 0]) ∧ Below w.heap.size w w' ∧ TellsAs w' z x ps (rs.map RecA.m) vs := by
  have hpn : ps.length = x.np.n := h.p.r.1
  have hrn : rs.length = x.nr.n := h.r.r.1
  have hid := h1.2.1
  have hkr := h1.1
  obtain ⟨_, _, q3, q4, q5, q6, q7, q8, q9, q10, q11⟩ := h1
  rcases kinds hkr with hk | hk | hk | hk | hk | hk | hk
  · obtain ⟨z1, z2, z3, z4, z5⟩ := gd1_bytes x.id hid h2.1 h.p.wf (by omega)
    rw [hk] at q4 q5 q6 q7
    have s4 := q4.resolve_left (by decide)
    rw [wireB1 hk]
    refine (hread1_any _ w (by omega) z2).mono ?_
    rintro e w' ⟨z, E, rfl, hb, ⟨_, rfl, d, rfl, hd⟩ | ⟨hn, _⟩⟩
    · rw [z4] at hd
      rw [z5]
      refine ⟨_, rfl, hb, ⟨hk.symm, rfl, (ba_nil s4.1).symm, s4.2.1.symm, s4.2.2.symm, (q5.resolve_left (by decide)).symm, hd, ?_, ?_⟩⟩
      · rw [h.rn (q6.resolve_left (by decide))]; exact recsW_nil _
      · rw [h.vn (q7.resolve_left (by decide))]; exact slR_nil _
    · exact absurd z3 hn
  · rw [hk] at q3 q4 q5 q6 q7
    have s4 := q4.resolve_left (by decide)
    have b1 := vput_le 2
    have b2 := vput_le x.id
    obtain ⟨z2, z3, z4⟩ := gd2_bytes (s := vput 2 ++ vput x.id) (by rw [ByteArray.size_append]; omega) x.id hid rfl
    rw [wireB2 hk]
    refine (hread2_any _ w (by rw [ByteArray.size_append]; omega) z2).mono ?_
    rintro e w' ⟨z, E, rfl, hb, ⟨_, rfl, rfl⟩ | ⟨hn, _⟩⟩
    · rw [z4]
      refine ⟨_, rfl, hb, ⟨hk.symm, rfl, (ba_nil s4.1).symm, s4.2.1.symm, s4.2.2.symm, (q5.resolve_left (by decide)).symm, ?_, ?_, ?_⟩⟩
      · rw [h.pn ((q3.resolve_left (by decide)).resolve_left (by decide))]; exact slP_nil _
      · rw [h.rn (q6.resolve_left (by decide))]; exact recsW_nil _
      · rw [h.vn (q7.resolve_left (by decide))]; exact slR_nil _
    · exact absurd z3 hn
  · rw [hk] at q3 q5 q6 q7
    have b1 := vput_le 3
    have b2 := vput_le x.id
    have b3 := vtext_le x.series (nameV_size (h2.2.2.1 hk).1)
    have b4 := vput_le x.from_
    have b5 := vput_le x.to_
    have hsz : (vput 3 ++ vput x.id ++ (vtext x.series ++ vput x.from_ ++ vput x.to_)).size ≤ 1000000000 := by simp only [ByteArray.size_append]; omega
    obtain ⟨z2, z3, z4⟩ := gd3_bytes hsz x.id x.series x.from_ x.to_ hid (h2.2.2.1 hk).1 (h2.2.2.1 hk).2 rfl
    rw [wireB3 hk]
    refine (hread3_any _ w hsz z2).mono ?_
    rintro e w' ⟨z, E, rfl, hb, ⟨_, rfl, rfl⟩ | ⟨hn, _⟩⟩
    · rw [z4]
      refine ⟨_, rfl, hb, ⟨hk.symm, rfl, rfl, rfl, rfl, (q5.resolve_left (by decide)).symm, ?_, ?_, ?_⟩⟩
      · rw [h.pn ((q3.resolve_left (by decide)).resolve_left (by decide))]; exact slP_nil _
      · rw [h.rn (q6.resolve_left (by decide))]; exact recsW_nil _
      · rw [h.vn (q7.resolve_left (by decide))]; exact slR_nil _
    · exact absurd z3 hn
  · obtain ⟨z1, z2, z3, z4, z5⟩ := gd4_bytes x.id hid h2.1 h.p.wf (by omega)
    rw [hk] at q4 q5 q6 q7
    have s4 := q4.resolve_left (by decide)
    rw [wireB4 hk]
    refine (hread4_any _ w (by omega) z2).mono ?_
    rintro e w' ⟨z, E, rfl, hb, ⟨_, rfl, d, rfl, hd⟩ | ⟨hn, _⟩⟩
    · rw [z4] at hd
      rw [z5]
      refine ⟨_, rfl, hb, ⟨hk.symm, rfl, (ba_nil s4.1).symm, s4.2.1.symm, s4.2.2.symm, (q5.resolve_left (by decide)).symm, hd, ?_, ?_⟩⟩
      · rw [h.rn (q6.resolve_left (by decide))]; exact recsW_nil _
      · rw [h.vn (q7.resolve_left (by decide))]; exact slR_nil _
    · exact absurd z3 hn
  · rw [hk] at q3 q4 q6 q7
    have s4 := q4.resolve_left (by decide)
    have b1 := vput_le 5
    have b2 := vput_le x.id
    have b4 := vput_le x.time
    have hsz : (vput 5 ++ vput x.id ++ vput x.time).size ≤ 1000000000 := by simp only [ByteArray.size_append]; omega
    obtain ⟨z2, z3, z4⟩ := gd5_bytes hsz x.id x.time hid ⟨q10, q11⟩ rfl
    rw [wireB5 hk]
    refine (hread5_any _ w hsz z2).mono ?_
    rintro e w' ⟨z, E, rfl, hb, ⟨_, rfl, rfl⟩ | ⟨hn, _⟩⟩
    · rw [z4]
      refine ⟨_, rfl, hb, ⟨hk.symm, rfl, (ba_nil s4.1).symm, s4.2.1.symm, s4.2.2.symm, rfl, ?_, ?_, ?_⟩⟩
      · rw [h.pn ((q3.resolve_left (by decide)).resolve_left (by decide))]; exact slP_nil _
      · rw [h.rn (q6.resolve_left (by decide))]; exact recsW_nil _
      · rw [h.vn (q7.resolve_left (by decide))]; exact slR_nil _
    · exact absurd z3 hn
  · rw [hk] at q3 q4 q5 q6
    have s4 := q4.resolve_left (by decide)
    have b1 := vput_le 6
    have b2 := vput_le x.id
    have b3 := vecB_le vs
    have hsz : (vput 6 ++ vput x.id ++ vecB vs).size ≤ 1000000000 := by simp only [ByteArray.size_append]; omega
    obtain ⟨z2, z3, z4, z5⟩ := gd6_bytes hsz x.id vs hid h2.2.2.2 (pl_bound h2.2.2.2) rfl
    rw [wireB6 hk]
    refine (hread6_any _ w hsz z2).mono ?_
    rintro e w' ⟨z, E, rfl, hb, ⟨_, rfl, d, rfl, hd⟩ | ⟨hn, _⟩⟩
    · rw [z5] at hd
      rw [z4]
      refine ⟨_, rfl, hb, ⟨hk.symm, rfl, (ba_nil s4.1).symm, s4.2.1.symm, s4.2.2.symm, (q5.resolve_left (by decide)).symm, ?_, ?_, hd⟩⟩
      · rw [h.pn ((q3.resolve_left (by decide)).resolve_left (by decide))]; exact slP_nil _
      · rw [h.rn (q6.resolve_left (by decide))]; exact recsW_nil _
    · exact absurd z3 hn
  · rw [hk] at q3 q4 q5
    have s4 := q4.resolve_left (by decide)
    have b1 := vput_le 7
    have b2 := vput_le x.id
    have b3 := vecB_le vs
    have b4 := vput_le rs.length
    have hsz : (recsB (vput 7 ++ vput x.id ++ (vecB vs ++ vput rs.length)) rs).size ≤ 1000000000 := by
      have := recsB_le (vput 7 ++ vput x.id ++ (vecB vs ++ vput rs.length)) rs h2.2.1
      simp only [ByteArray.size_append] at this
      omega
    have hoM : okM (rs.map RecA.m) := fun m hm => by
      obtain ⟨y, hy, rfl⟩ := List.mem_map.1 hm
      exact ⟨h2.2.1 y hy, (h.r.ok y hy).wf⟩
    obtain ⟨z2, z3, z4⟩ := gd7_bytes hsz x.id vs rs hid h2.2.2.2 (pl_bound h2.2.2.2) (by omega) hoM rfl
    have hd1 := gd7_of h2.2.2.2 (rfl : recsB (vput 7 ++ vput x.id ++ (vecB vs ++ vput rs.length)) rs = recsB (vput 7 ++ vput x.id ++ (vecB vs ++ vput rs.length)) rs)
    rw [wireB7 hk, ← hrn]
    generalize hS : recsB (vput 7 ++ vput x.id ++ (vecB vs ++ vput rs.length)) rs = S at *
    refine (hread7_any _ w hsz z2).mono ?_
    rintro e w' ⟨z, E, rfl, hb, ⟨rfl, d, d2, vs2, rs2, rfl, hV, ⟨c1, c2, c3⟩, hS2⟩ | ⟨_, _, hn⟩⟩
    · have hd2 := gd7_of c1 hS2
      have hoM2 : okM (rs2.map RecA.m) := fun m hm => by
        obtain ⟨y, hy, rfl⟩ := List.mem_map.1 hm
        exact ⟨c3 y hy, (hV.rs y hy).1.ok.wf⟩
      rw [← z4] at hd1
      have r1 := gd7_reads hsz h2.2.2.2 (pl_bound h2.2.2.2) (by rw [List.length_map]; omega) hoM hd1 _ (Nat.le_refl _) (.inl rfl) _ (Nat.le_refl _) (.inl rfl)
      have r2 := gd7_reads hsz c1 (pl_bound c1) (by rw [List.length_map]; omega) hoM2 hd2 _ (Nat.le_refl _) (.inl rfl) _ (Nat.le_refl _) (.inl rfl)
      have hvs : vs2 = vs := r2.1.symm.trans r1.1
      have hms : rs2.map RecA.m = rs.map RecA.m := r2.2.1.symm.trans r1.2.1
      refine ⟨_, rfl, hb, ⟨hk.symm, z4, (ba_nil s4.1).symm, s4.2.1.symm, s4.2.2.symm, (q5.resolve_left (by decide)).symm, ?_, ?_, ?_⟩⟩
      · rw [h.pn ((q3.resolve_left (by decide)).resolve_left (by decide))]; exact slP_nil _
      · rw [← hms]; exact recsV_ti hV
      · rw [← hvs]; exact hV.sl
    · exact absurd z3 hn
theorem same_w {z y : Wi} {ms : List RcM} (hf : i64' x.from_) (ht : i64' x.to_) (h1 : TellsAs w z x ps ms vs) (h2 : TellsAs w y x ps ms vs) : Calls Tryz.prog 11 #[.agg z.arr, .agg y.arr] w fun e w' => e = .returned (.bool true) ∧ Below w.heap.size w w' :=
  hsame_any z y ps ms vs w (by rw [h1.f]; exact hf) (by rw [h1.t]; exact ht) (h2.k.trans h1.k.symm) (h2.id.trans h1.id.symm) (h2.s.trans h1.s.symm) (h2.f.trans h1.f.symm) (h2.t.trans h1.t.symm) (h2.tm.trans h1.tm.symm) h1.p h2.p h1.r h2.r h1.v h2.v
end
end
end Go.Proofs.YtglabahbklpocaaGreat
namespace Go.Proofs.YtglabahbklpocaaGreat
section
open Go.RowKit Go.Deep
set_option maxRecDepth 100000
set_option linter.unusedVariables false
set_option linter.unusedSimpArgs false
attribute [local go_sem ↓] Go.wp_at_zero Go.wp_at_succ
set_option maxHeartbeats 4000000 in
theorem psent_any (F : List Nat) (g : Nat) (m : PeM) (site now : Int) (w : World) (hP : PeAt w F g m) (hF : g ∈ F) :
    Calls Tryz.prog 24 #[.pointer (some ⟨g, 0, none⟩), .int .i64 site, .int .i64 now] w fun e w' => e = .returned (.bool (sentM m site now).2) ∧ PeAt w' F g (sentM m site now).1 ∧ But g w w' := by
  have G := fun wx (hx : PeAt wx F g m) => pget_any F g m site wx hx
  have CK := fun wx => pclock_any now wx
  unfold sentM
  by_cases h : isO m site = true
  · simp only [if_pos h] at G ⊢
    obtain ⟨h0, h1, h2⟩ := isO_true h
    obtain ⟨k, rfl⟩ := Int.eq_ofNat_of_zero_le h0
    have hst := hP.ex.2.1
    have hk : k < 8 := by omega
    simp only [Int.toNat_natCast] at G ⊢
    have HP := Lib.hid hP
    have hcr := clockP_range now
    obtain ⟨T, hT⟩ : ∃ T, clockP now = T := ⟨_, rfl⟩
    rw [hT] at CK hcr ⊢
    clear hT
    obtain ⟨d, hg, hc⟩ := hP
    have q1 := peCell hg rfl (peC_v m d k hk).2.1
    have q2 := peCell hg rfl (peC_v m d k hk).2.2
    have f1 := peFz hg (3 + k * 3 + 1)
    have f2 := peFz hg (3 + k * 3 + 2)
    have FIN : Hid (PeAt ((w.setCell ⟨g, 3 + k * 3 + 1, none⟩ (.bool true)).setCell ⟨g, 3 + k * 3 + 2, none⟩ (.int .i64 T)) F g { m with s := upd m.s k true, a := upd m.a k T }) := by
      refine ⟨d, ?_, ?_⟩
      · have e1 := heap_setCell_same w g (3 + k * 3 + 1) (peC m d) 111 (.bool true) hg
        have e2 := heap_setCell_same _ g (3 + k * 3 + 2) _ 111 (.int .i64 T) e1
        rw [e2, peC_sets m d k hk true T]
        rfl
      · have hk2 : PeC ((w.setCell ⟨g, 3 + k * 3 + 1, none⟩ (.bool true)).setCell ⟨g, 3 + k * 3 + 2, none⟩ (.int .i64 T)) F d m := hc.keep (by simp [World.setCell]) (fun i hi hn => by
          have hne : i ≠ g := fun e => hn (e ▸ hF)
          rw [Below.heap_setCell _ _ _ _ (by simpa using hne), Below.heap_setCell _ _ _ _ (by simpa using hne)])
        refine ⟨hk2.sl, hk2.me, hk2.st, hk2.ev, fun i hi => ?_⟩
        show 0 ≤ upd m.a k T i ∧ upd m.a k T i ≤ _
        unfold upd
        split
        · exact hcr
        · exact hc.a i hi
    have GG := G w HP.out
    clear hg hc h G
    go_enter Tryz.func24, Tryz.ntmps24
    go_wp2_with (first | (go_at_call 81; refine GG.mono ?_; rintro e w1 ⟨rfl, rfl⟩) | (go_at_call 84; refine (CK _).mono ?_; rintro e w1 ⟨rfl, rfl⟩))
    go_ret
    exact ⟨rfl, FIN.out, (But.set g _ w _).trans (But.set g _ _ _)⟩
  · simp only [if_neg h] at G ⊢
    have GG := G w hP
    have HP := Lib.hid hP
    clear h G hP
    go_enter Tryz.func24, Tryz.ntmps24
    go_wp2_with (first | (go_at_call 81; refine GG.mono ?_; rintro e w1 ⟨rfl, rfl⟩))
    go_ret
    exact ⟨rfl, HP.out, But.refl _ _⟩
set_option maxHeartbeats 4000000 in
theorem pnote_any (F : List Nat) (g : Nat) (m : PeM) (site : Int) (x : Sl) (xs : List Int) (w : World) (hP : PeAt w F g m) (hF : g ∈ F) (hFl : ∀ k ∈ F, k < w.heap.size) (hx : SlR w x xs) :
    Calls Tryz.prog 20 #[.pointer (some ⟨g, 0, none⟩), .int .i64 site, .slice x.a x.n x.c] w fun e w' => e = .returned (.bool (noteM m site xs).2) ∧ PeAt w' F g (noteM m site xs).1 ∧ But g w w' := by
  have G := fun wx (hx : PeAt wx F g m) => pget_any F g m site wx hx
  have HX := Lib.hid hx
  unfold noteM
  by_cases h : isO m site = true
  · simp only [if_pos h] at G
    obtain ⟨h0, h1, h2⟩ := isO_true h
    obtain ⟨k, rfl⟩ := Int.eq_ofNat_of_zero_le h0
    have hst := hP.ex.2.1
    have hk : k < 8 := by omega
    simp only [Int.toNat_natCast] at G ⊢
    have GG := G w hP
    have HP := Lib.hid hP
    obtain ⟨d, hg, hc⟩ := hP
    have q0 := peCell hg rfl (peC_v m d k hk).1
    unfold slV at q0
    have hsl := hc.sl k hk
    have CV := covers_any (d k).a x.a (d k).n (d k).c x.n x.c (m.v k) xs w hsl.1.r hx.r hsl.1.nc hsl.1.cb hx.nc hx.cb
    have HG := Lib.hid hg
    have HC := Lib.hid hc
    obtain ⟨B, hB⟩ : ∃ B, covV (m.v k) xs = B := ⟨_, rfl⟩
    rw [hB] at CV ⊢
    cases B
    · rw [if_pos ⟨h, rfl⟩]
      simp only
      have JN := fun wx (hb : Below w.heap.size w wx) => join_any (d k).a x.a (d k).n (d k).c x.n x.c (m.v k) xs wx (hsl.1.below hb).r (HX.out.below hb).r hsl.1.nc hsl.1.cb HX.out.nc HX.out.cb
      have hl8 : (joinV (m.v k) xs).length ≤ 8 := vec_length _
      obtain ⟨js, hjs⟩ : ∃ js, joinV (m.v k) xs = js := ⟨_, rfl⟩
      rw [hjs] at JN hl8 ⊢
      clear hx hg hc hsl h hB hjs G
      go_enter Tryz.func20, Tryz.ntmps20
      go_upto_region 4 with (first
        | (go_at_call 81; refine GG.mono ?_; rintro e w1 ⟨rfl, rfl⟩)
        | (go_at_call 82; refine CV.mono ?_; rintro e w2 ⟨rfl, dn⟩; have HB := Lib.hid dn; clear dn))
      have hg2 := (HB.out.block g (heap_lt HG.out)).trans HG.out
      clear q0
      have q0 := peCell hg2 rfl (peC_v m d k hk).1
      unfold slV at q0
      have HG2 := Lib.hid hg2
      clear hg2
      go_wp2_with (go_at_call 33; refine (JN _ HB.out).mono ?_; rintro e w3 ⟨a', rfl, hV, dn⟩; have HV := Lib.hid hV; have HB3 := Lib.hid dn; clear hV dn; have hg3 := (HB3.out.block g (heap_lt HG2.out)).trans HG2.out; have HG3 := Lib.hid hg3; have q3 := peCell hg3 rfl (peC_v m d k hk).1; have f3 := peFz hg3 (3 + k * 3); clear hg3)
      have hw := HB.out.size
      go_ret
      refine ⟨rfl, ⟨upd d k ⟨a', js.length, js.length⟩, ?_, ?_⟩, ((But.of_below HB.out).trans (But.of_below HB3.out)).trans (But.set g _ _ _)⟩
      · rw [heap_setCell_same _ g (3 + k * 3) _ 111 _ HG3.out]
        show some (Obj.cells ((peC m d).setIfInBounds (3 + k * 3) (slV ⟨a', js.length, js.length⟩)) _ _) = _
        rw [peC_setv m d k hk _ (upd m.v k js)]
        rfl
      · have hb3 : Below w.heap.size w w3 := below_then HB.out HB.out.size HB3.out
        have hd : ∀ i, i < w.heap.size → i ∉ F → (w3.setCell ⟨g, 3 + k * 3, none⟩ (.slice a' js.length js.length)).heap[i]? = w.heap[i]? := fun i hi hn => by
          have hne : i ≠ g := fun e => hn (e ▸ hF)
          rw [Below.heap_setCell _ _ _ _ (by simpa using hne)]
          exact hb3.block i hi
        have hk2 := HC.out.keep (w' := w3.setCell ⟨g, 3 + k * 3, none⟩ (.slice a' js.length js.length)) (by have := hb3.size; simp [World.setCell]; omega) hd
        have hF2 : ∀ q ∈ F, q < w2.heap.size := fun q hq => by have := hFl q hq; omega
        refine ⟨fun i hi => ?_, hk2.me, hk2.st, hk2.ev, hk2.a⟩
        show SlR _ (upd d k _ i) (upd m.v k js i) ∧ _
        unfold upd
        split
        · exact ⟨HV.out.keep hl8 (F := F) hF2 (by simp [World.setCell]) (fun j hj hn => Below.heap_setCell _ _ _ _ (by have hne : j ≠ g := fun e => hn (by rw [e]; exact hF); simpa using hne)), HV.out.far hF2, hl8⟩
        · exact hk2.sl i hi
    · rw [if_neg (fun hh => by simp at hh)]
      simp only
      clear hx hg hc hsl h hB G
      go_enter Tryz.func20, Tryz.ntmps20
      go_wp2_with (first
        | (go_at_call 81; refine GG.mono ?_; rintro e w1 ⟨rfl, rfl⟩)
        | (go_at_call 82; refine CV.mono ?_; rintro e w2 ⟨rfl, dn⟩; have HB := Lib.hid dn; clear dn))
      go_ret
      exact ⟨rfl, HP.out.below HB.out, But.of_below HB.out⟩
  · rw [if_neg (fun hh => h hh.1)]
    simp only [if_neg h] at G ⊢
    have GG := G w hP
    have HP := Lib.hid hP
    clear h G hP hx
    go_enter Tryz.func20, Tryz.ntmps20
    go_wp2_with (first | (go_at_call 81; refine GG.mono ?_; rintro e w1 ⟨rfl, rfl⟩))
    go_ret
    exact ⟨rfl, HP.out, But.refl _ _⟩
end
end Go.Proofs.YtglabahbklpocaaGreat
