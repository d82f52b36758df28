/- origin.Log.Add. ship.Peers: Note, Of, Least, Sent. -/
import Derived.Test.YtglabahbklpocaaGShipMany26
import Derived.Test.YtglabahbklpocaaGShipMany32
import Derived.Test.YtglabahbklpocaaGShipMany29
namespace Go.Proofs.Ytglabahbklpocaa
section
open Go.RowKit Go.Deep
set_option maxRecDepth 100000
set_option linter.unusedVariables false
set_option linter.unusedSimpArgs false
attribute [local go_sem ↓] Go.wp_at_zero Go.wp_at_succ
open Classical in
noncomputable def addM (m : LogM) (x : RcM) : LogM × Int :=
  if ¬ recP x.1 x.2 then (m, 1) else if x.1.st.seq ≠ atV m.ks x.1.st.site + 1 ∨ covV m.ks x.2 = false then (m, 17) else if m.most ≤ m.xs.length then (m, 15)
  else ({ m with xs := m.xs ++ [x], ks := withV m.ks x.1.st.site x.1.st.seq, clock := max m.clock x.1.st.clock }, 0)
theorem atV_range (xs : List Int) (i : Int) : 0 ≤ atV xs i ∧ atV xs i ≤ 1099511627776 := by
  unfold atV
  split
  · exact nm_range _ _
  · exact ⟨by decide, by decide⟩
theorem withV_len (xs : List Int) (s n : Int) : (withV xs s n).length ≤ 8 := vec_length _
theorem RecA.ok.keep {w w' : World} {x : RecA} (h : x.ok w) (hb : Below w.heap.size w w') : x.ok w' := ⟨h.wf, h.sl.below hb⟩
theorem add_held {B q g : Nat} {w0 w wd : World} {l : List (Nat × Obj)} {r : Rc} {d k b a : Sl} {mo ck : Int} (h : Kn B w0 l w) (h1 : (q, rcO r d) ∈ l) (h2 : (g, logO mo b k a ck) ∈ l) (e : wd.heap = w.heap) :
    wd.cell? ⟨q, 6, none⟩ = some (.int .i64 r.st.site) ∧ wd.cell? ⟨q, 7, none⟩ = some (.int .i64 r.st.seq) ∧ wd.cell? ⟨q, 8, none⟩ = some (.slice d.a d.n d.c) ∧ wd.cell? ⟨g, 2, none⟩ = some (.slice k.a k.n k.c) ∧ wd.cell? ⟨q, 5, none⟩ = some (.int .i64 r.st.clock) ∧ wd.cell? ⟨g, 4, none⟩ = some (.int .i64 ck) ∧ wd.cell? ⟨g, 3, none⟩ = some (.slice a.a a.n a.c) ∧ wd.heap[q]? = some (rcO r d) ∧ wd.cell? ⟨g, 0, none⟩ = some (.int .i64 mo) := by
  have q1 := rc_cells (h.at_ _ h1) e
  have q2 : ∀ j v, (#[.int .i64 mo, .slice b.a b.n b.c, .slice k.a k.n k.c, .slice a.a a.n a.c, .int .i64 ck] : Array Value)[j]? = some v → wd.cell? ⟨g, j, none⟩ = some v := fun j v hv => by
    have := h.at_ _ h2
    simp only [World.cell?, e, this, logO]
    exact hv
  exact ⟨q1.c6, q1.c7, q1.c8, q2 2 _ rfl, q1.c5, q2 4 _ rfl, q2 3 _ rfl, by rw [e]; exact h.at_ _ h1, q2 0 _ rfl⟩
theorem rec_new (w : World) (r : Rc) (d : Sl) (ds : List Int) : ∀ j y, ([⟨r, d, ds⟩] : List RecA)[j]? = some y → CellsAt (w.alloc (.cells #[.int .i64 r.kind, .string r.series, .int .i64 r.time, .int .i64 r.value, .int .i64 r.tier, .int .i64 r.st.clock, .int .i64 r.st.site, .int .i64 r.st.seq, .slice d.a d.n d.c] 86)) w.heap.size (0 + j * 9) y.cs := by
  intro j y hj i u hi
  cases j with
  | succ j => simp at hj
  | zero =>
    simp only [List.getElem?_cons_zero, Option.some.injEq] at hj
    subst hj
    rw [Nat.zero_mul, Nat.zero_add, World.cell?_alloc_new]
    show (rcA r d)[i]? = some u
    simpa [RecA.cs] using hi
theorem appE_keep {α : Type} {cs : α → List Value} {T : TypeId} {sz : Nat} {w w' : World} {B : Nat} {a : Option Addr} {n cap : Nat} {l : List α} (h : AppE cs T sz w B a n cap l) (hk : ∀ b, B ≤ b → b < w.heap.size → w'.heap[b]? = w.heap[b]?) : AppE cs T sz w' B a n cap l := by
  refine ⟨h.len, h.le, h.max, h.row.1, ?_⟩
  rcases h.row.2 with h1 | ⟨g, c, cur, e1, e2, e3, rest⟩
  · exact .inl h1
  · exact .inr ⟨g, c, cur, e1, e2, (hk g e2 (heap_lt e3)).trans e3, rest⟩
theorem Kn.zero {B : Nat} {w0 w : World} {l : List (Nat × Obj)} (h : Kn B w0 l w) : Kn 0 w0 l w := ⟨h.at_, h.b.mono (Nat.zero_le _), Nat.zero_le _⟩
theorem VecAt.keep {w w' : World} {F : List Nat} {B : Nat} {a : Option Addr} {l : List Int} (h : VecAt w B a l) (hl : l.length ≤ 8) (hF : ∀ k ∈ F, k < B) (hs : w.heap.size ≤ w'.heap.size) (hd : ∀ i, i < w.heap.size → i ∉ F → w'.heap[i]? = w.heap[i]?) : SlR w' ⟨a, l.length, l.length⟩ l :=
  SlR.keep (w := w) (F := F) ⟨h.reads, Nat.le_refl _, (by show l.length ≤ 9223372036854775807; omega)⟩ (h.far hF) hs hd
end
end Go.Proofs.Ytglabahbklpocaa
namespace Go.Proofs.Ytglabahbklpocaa
section
open Go.RowKit Go.Deep
set_option maxRecDepth 100000
set_option linter.unusedVariables false
set_option linter.unusedSimpArgs false
attribute [local go_sem ↓] Go.wp_at_zero Go.wp_at_succ
theorem fun_eta_v (m : PeM) : ({ m with v := m.v } : PeM) = m := rfl
set_option maxHeartbeats 4000000 in
theorem peof_any (F : List Nat) (g : Nat) (m : PeM) (site : Int) (w : World) (hP : PeAt w F g m) :
    Calls Try.prog 18 #[.pointer (some ⟨g, 0, none⟩), .int .i64 site] w fun e w' => ∃ o : Sl, e = .returned (.slice o.a o.n o.c) ∧ SlR w' o (ofM m site) ∧ Below w.heap.size w w' := by
  have G := pget_any F g m site w hP
  obtain ⟨d, hg, hc⟩ := hP
  unfold ofM
  by_cases h : isO m site = true
  · rw [if_pos h] at G ⊢
    obtain ⟨h0, h1, h2⟩ := isO_true h
    obtain ⟨k, rfl⟩ := Int.eq_ofNat_of_zero_le h0
    have hst := hc.st
    have hk : k < 8 := by omega
    rw [Int.toNat_natCast] at G ⊢
    obtain ⟨s1, s2, s3⟩ := hc.sl k hk
    have C := clone_sl (d k) (m.v k) w s1 (by omega)
    have q0 := peCell hg rfl (peC_v m d k hk).1
    unfold slV at q0
    clear hg hc h s1 s2
    go_enter Try.func18, Try.ntmps18
    go_wp2_with (first | (go_at_call 33; refine G.mono ?_; rintro e w1 ⟨rfl, rfl⟩) | (go_at_call 38; refine C.mono ?_; rintro e w2 ⟨d', rfl, hS, hf, hdn, dn⟩; have FIN := Lib.hid (And.intro hS dn); clear hS hf hdn dn))
    go_ret
    exact ⟨d', rfl, FIN.out.1, FIN.out.2⟩
  · rw [if_neg h] at G ⊢
    clear hg hc h
    go_enter Try.func18, Try.ntmps18
    go_wp2_with (first | (go_at_call 33; refine G.mono ?_; rintro e w1 ⟨rfl, rfl⟩))
    go_ret
    exact ⟨⟨none, 0, 0⟩, rfl, ⟨⟨rfl, .inl rfl⟩, Nat.le_refl _, by decide⟩, Below.refl _ _⟩
set_option maxHeartbeats 4000000 in
theorem psent_any (F : List Nat) (g : Nat) (m : PeM) (site now : Int) (w : World) (hP : PeAt w F g m) (hF : g ∈ F) :
    Calls Try.prog 11 #[.pointer (some ⟨g, 0, none⟩), .int .i64 site, .int .i64 now] w fun e w' => e = .returned (.bool (sentM m site now).2) ∧ PeAt w' F g (sentM m site now).1 ∧ But g w w' := by
  have G := fun wx (hx : PeAt wx F g m) => pget_any F g m site wx hx
  have CK := fun wx => pclock_any now wx
  unfold sentM
  by_cases h : isO m site = true
  · simp only [if_pos h] at G ⊢
    obtain ⟨h0, h1, h2⟩ := isO_true h
    obtain ⟨k, rfl⟩ := Int.eq_ofNat_of_zero_le h0
    have hst := hP.ex.2.1
    have hk : k < 8 := by omega
    simp only [Int.toNat_natCast] at G ⊢
    have HP := Lib.hid hP
    have hcr := clockP_range now
    obtain ⟨T, hT⟩ : ∃ T, clockP now = T := ⟨_, rfl⟩
    rw [hT] at CK hcr ⊢
    clear hT
    obtain ⟨d, hg, hc⟩ := hP
    have q1 := peCell hg rfl (peC_v m d k hk).2.1
    have q2 := peCell hg rfl (peC_v m d k hk).2.2
    have f1 := peFz hg (3 + k * 3 + 1)
    have f2 := peFz hg (3 + k * 3 + 2)
    have FIN : Hid (PeAt ((w.setCell ⟨g, 3 + k * 3 + 1, none⟩ (.bool true)).setCell ⟨g, 3 + k * 3 + 2, none⟩ (.int .i64 T)) F g { m with s := upd m.s k true, a := upd m.a k T }) := by
      refine ⟨d, ?_, ?_⟩
      · have e1 := heap_setCell_same w g (3 + k * 3 + 1) (peC m d) 47 (.bool true) hg
        have e2 := heap_setCell_same _ g (3 + k * 3 + 2) _ 47 (.int .i64 T) e1
        rw [e2, peC_sets m d k hk true T]
        rfl
      · have hk2 : PeC ((w.setCell ⟨g, 3 + k * 3 + 1, none⟩ (.bool true)).setCell ⟨g, 3 + k * 3 + 2, none⟩ (.int .i64 T)) F d m := hc.keep (by simp [World.setCell]) (fun i hi hn => by
          have hne : i ≠ g := fun e => hn (e ▸ hF)
          rw [Below.heap_setCell _ _ _ _ (by simpa using hne), Below.heap_setCell _ _ _ _ (by simpa using hne)])
        refine ⟨hk2.sl, hk2.me, hk2.st, hk2.ev, fun i hi => ?_⟩
        show 0 ≤ upd m.a k T i ∧ upd m.a k T i ≤ _
        unfold upd
        split
        · exact hcr
        · exact hc.a i hi
    have GG := G w HP.out
    clear hg hc h G
    go_enter Try.func11, Try.ntmps11
    go_wp2_with (first | (go_at_call 33; refine GG.mono ?_; rintro e w1 ⟨rfl, rfl⟩) | (go_at_call 30; refine (CK _).mono ?_; rintro e w1 ⟨rfl, rfl⟩))
    go_ret
    exact ⟨rfl, FIN.out, (But.set g _ w _).trans (But.set g _ _ _)⟩
  · simp only [if_neg h] at G ⊢
    have GG := G w hP
    have HP := Lib.hid hP
    clear h G hP
    go_enter Try.func11, Try.ntmps11
    go_wp2_with (first | (go_at_call 33; refine GG.mono ?_; rintro e w1 ⟨rfl, rfl⟩))
    go_ret
    exact ⟨rfl, HP.out, But.refl _ _⟩
set_option maxHeartbeats 4000000 in
theorem pnote_any (F : List Nat) (g : Nat) (m : PeM) (site : Int) (x : Sl) (xs : List Int) (w : World) (hP : PeAt w F g m) (hF : g ∈ F) (hFl : ∀ k ∈ F, k < w.heap.size) (hx : SlR w x xs) :
    Calls Try.prog 14 #[.pointer (some ⟨g, 0, none⟩), .int .i64 site, .slice x.a x.n x.c] w fun e w' => e = .returned (.bool (noteM m site xs).2) ∧ PeAt w' F g (noteM m site xs).1 ∧ But g w w' := by
  have G := fun wx (hx : PeAt wx F g m) => pget_any F g m site wx hx
  have HX := Lib.hid hx
  unfold noteM
  by_cases h : isO m site = true
  · simp only [if_pos h] at G
    obtain ⟨h0, h1, h2⟩ := isO_true h
    obtain ⟨k, rfl⟩ := Int.eq_ofNat_of_zero_le h0
    have hst := hP.ex.2.1
    have hk : k < 8 := by omega
    simp only [Int.toNat_natCast] at G ⊢
    have GG := G w hP
    have HP := Lib.hid hP
    obtain ⟨d, hg, hc⟩ := hP
    have q0 := peCell hg rfl (peC_v m d k hk).1
    unfold slV at q0
    have hsl := hc.sl k hk
    have CV := covers_any (d k).a x.a (d k).n (d k).c x.n x.c (m.v k) xs w hsl.1.r hx.r hsl.1.nc hsl.1.cb hx.nc hx.cb
    have HG := Lib.hid hg
    have HC := Lib.hid hc
    obtain ⟨B, hB⟩ : ∃ B, covV (m.v k) xs = B := ⟨_, rfl⟩
    rw [hB] at CV ⊢
    cases B
    · rw [if_pos ⟨h, rfl⟩]
      simp only
      have JN := fun wx (hb : Below w.heap.size w wx) => join_any (d k).a x.a (d k).n (d k).c x.n x.c (m.v k) xs wx (hsl.1.below hb).r (HX.out.below hb).r hsl.1.nc hsl.1.cb HX.out.nc HX.out.cb
      have hl8 : (joinV (m.v k) xs).length ≤ 8 := vec_length _
      obtain ⟨js, hjs⟩ : ∃ js, joinV (m.v k) xs = js := ⟨_, rfl⟩
      rw [hjs] at JN hl8 ⊢
      clear hx hg hc hsl h hB hjs G
      go_enter Try.func14, Try.ntmps14
      go_upto_region 4 with (first
        | (go_at_call 33; refine GG.mono ?_; rintro e w1 ⟨rfl, rfl⟩)
        | (go_at_call 34; refine CV.mono ?_; rintro e w2 ⟨rfl, dn⟩; have HB := Lib.hid dn; clear dn))
      have hg2 := (HB.out.block g (heap_lt HG.out)).trans HG.out
      clear q0
      have q0 := peCell hg2 rfl (peC_v m d k hk).1
      unfold slV at q0
      have HG2 := Lib.hid hg2
      clear hg2
      go_wp2_with (go_at_call 35; refine (JN _ HB.out).mono ?_; rintro e w3 ⟨a', rfl, hV, dn⟩; have HV := Lib.hid hV; have HB3 := Lib.hid dn; clear hV dn; have hg3 := (HB3.out.block g (heap_lt HG2.out)).trans HG2.out; have HG3 := Lib.hid hg3; have q3 := peCell hg3 rfl (peC_v m d k hk).1; have f3 := peFz hg3 (3 + k * 3); clear hg3)
      have hw := HB.out.size
      go_ret
      refine ⟨rfl, ⟨upd d k ⟨a', js.length, js.length⟩, ?_, ?_⟩, ((But.of_below HB.out).trans (But.of_below HB3.out)).trans (But.set g _ _ _)⟩
      · rw [heap_setCell_same _ g (3 + k * 3) _ 47 _ HG3.out]
        show some (Obj.cells ((peC m d).setIfInBounds (3 + k * 3) (slV ⟨a', js.length, js.length⟩)) _ _) = _
        rw [peC_setv m d k hk _ (upd m.v k js)]
        rfl
      · have hb3 : Below w.heap.size w w3 := below_then HB.out HB.out.size HB3.out
        have hd : ∀ i, i < w.heap.size → i ∉ F → (w3.setCell ⟨g, 3 + k * 3, none⟩ (.slice a' js.length js.length)).heap[i]? = w.heap[i]? := fun i hi hn => by
          have hne : i ≠ g := fun e => hn (e ▸ hF)
          rw [Below.heap_setCell _ _ _ _ (by simpa using hne)]
          exact hb3.block i hi
        have hk2 := HC.out.keep (w' := w3.setCell ⟨g, 3 + k * 3, none⟩ (.slice a' js.length js.length)) (by have := hb3.size; simp [World.setCell]; omega) hd
        have hF2 : ∀ q ∈ F, q < w2.heap.size := fun q hq => by have := hFl q hq; omega
        refine ⟨fun i hi => ?_, hk2.me, hk2.st, hk2.ev, hk2.a⟩
        show SlR _ (upd d k _ i) (upd m.v k js i) ∧ _
        unfold upd
        split
        · exact ⟨HV.out.keep hl8 (F := F) hF2 (by simp [World.setCell]) (fun j hj hn => Below.heap_setCell _ _ _ _ (by have hne : j ≠ g := fun e => hn (by rw [e]; exact hF); simpa using hne)), HV.out.far hF2, hl8⟩
        · exact hk2.sl i hi
    · rw [if_neg (fun hh => by simp at hh)]
      simp only
      clear hx hg hc hsl h hB G
      go_enter Try.func14, Try.ntmps14
      go_wp2_with (first
        | (go_at_call 33; refine GG.mono ?_; rintro e w1 ⟨rfl, rfl⟩)
        | (go_at_call 34; refine CV.mono ?_; rintro e w2 ⟨rfl, dn⟩; have HB := Lib.hid dn; clear dn))
      go_ret
      exact ⟨rfl, HP.out.below HB.out, But.of_below HB.out⟩
  · rw [if_neg (fun hh => h hh.1)]
    simp only [if_neg h] at G ⊢
    have GG := G w hP
    have HP := Lib.hid hP
    clear h G hP hx
    go_enter Try.func14, Try.ntmps14
    go_wp2_with (first | (go_at_call 33; refine GG.mono ?_; rintro e w1 ⟨rfl, rfl⟩))
    go_ret
    exact ⟨rfl, HP.out, But.refl _ _⟩
end
end Go.Proofs.Ytglabahbklpocaa
