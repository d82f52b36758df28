/- ship.Read's inner function for records. ship.list of records. -/
import Derived.Test.YtglabahbklpocaaGreatGShipPacks44
import Derived.Test.YtglabahbklpocaaGreatGShipPacks10
import Derived.Test.YtglabahbklpocaaGreatGShipPacks15
namespace Go.Proofs.YtglabahbklpocaaGreat
section
open Go.RowKit Go.Deep
set_option maxRecDepth 100000
set_option linter.unusedVariables false
set_option linter.unusedSimpArgs false
attribute [local go_sem ↓] Go.wp_at_zero Go.wp_at_succ
/-- Two blocks alone were changed. -/
structure But2 (g b : Nat) (w w' : World) : Prop where
  os : w'.os = w.os
  tape : w'.tape = w.tape
  output : w'.output = w.output
  size : w.heap.size ≤ w'.heap.size
  block : ∀ i, i < w.heap.size → i ≠ g → i ≠ b → w'.heap[i]? = w.heap[i]?
section
variable {g b : Nat} {w w' w'' : World}
theorem But2.refl (g b : Nat) (w : World) : But2 g b w w := ⟨rfl, rfl, rfl, Nat.le_refl _, fun _ _ _ _ => rfl⟩
theorem But2.one (h : But2 g b w w') (d : But g w' w'') : But2 g b w w'' := ⟨d.os.trans h.os, d.tape.trans h.tape, d.output.trans h.output, Nat.le_trans h.size d.size, fun i hi h1 h2 => (d.block i (Nat.lt_of_lt_of_le hi h.size) (by simpa using h1)).trans (h.block i hi h1 h2)⟩
theorem But2.two (h : But2 g b w w') (d : But b w' w'') : But2 g b w w'' := ⟨d.os.trans h.os, d.tape.trans h.tape, d.output.trans h.output, Nat.le_trans h.size d.size, fun i hi h1 h2 => (d.block i (Nat.lt_of_lt_of_le hi h.size) (by simpa using h2)).trans (h.block i hi h1 h2)⟩
theorem But2.then_ {B : Nat} (h : But2 g b w w') (d : Below B w' w'') (hB : w.heap.size ≤ B) (hB2 : w'.heap.size ≤ B ∨ B ≤ w'.heap.size) : But2 g b w w'' := ⟨d.os.trans h.os, d.tape.trans h.tape, d.output.trans h.output, Nat.le_trans h.size d.size, fun i hi h1 h2 => (d.block i (by omega)).trans (h.block i hi h1 h2)⟩
theorem But2.trans (h : But2 g b w w') (d : But2 g b w' w'') : But2 g b w w'' := ⟨d.os.trans h.os, d.tape.trans h.tape, d.output.trans h.output, Nat.le_trans h.size d.size, fun i hi h1 h2 => (d.block i (Nat.lt_of_lt_of_le hi h.size) h1 h2).trans (h.block i hi h1 h2)⟩
theorem SlR.but2 {d : Sl} {xs : List Int} (h : SlR w d xs) (hd : ∀ p, d.a = some p → p.block ≠ g ∧ p.block ≠ b) (k : But2 g b w w') : SlR w' d xs := by
  obtain ⟨⟨h1, h2⟩, h3, h4⟩ := h
  refine ⟨⟨h1, h2.imp_right fun ⟨b', o, e1, e2, e3⟩ => ⟨b', o, e1, Nat.lt_of_lt_of_le e2 k.size, fun i hi => ?_⟩⟩, h3, h4⟩
  have := hd _ e1
  rw [← e3 i hi]
  simp only [World.cell?]
  rw [k.block b' e2 this.1 this.2]
end
/-- What is known while records are read: the reader, the errno, and blocks that are listed. -/
structure Kq (g b : Nat) (w0 : World) (l : List (Nat × Obj)) (R : Rdr) (e : Int) (w : World) : Prop where
  rd : RdrAt 140 w g R
  er : w.heap[b]? = some (erO e)
  at_ : ∀ p ∈ l, p.1 ≠ g ∧ p.1 ≠ b ∧ w.heap[p.1]? = some p.2
  b : But2 g b w0 w
section
variable {g b : Nat} {w0 w w' : World} {l m : List (Nat × Obj)} {R R' : Rdr} {e e' : Int}
theorem Kq.step (h : Kq g b w0 l R e w) (hne : b ≠ g) (h1 : RdrAt 140 w' g R') (d : But g w w') : Kq g b w0 l R' e w' :=
  ⟨h1, (d.block b (heap_lt h.er) (by simpa using hne)).trans h.er, fun p hp => ⟨(h.at_ p hp).1, (h.at_ p hp).2.1, (d.block p.1 (heap_lt (h.at_ p hp).2.2) (by simpa using (h.at_ p hp).1)).trans (h.at_ p hp).2.2⟩, h.b.one d⟩
theorem Kq.err (h : Kq g b w0 l R e w) (hne : b ≠ g) (h1 : w'.heap[b]? = some (erO e')) (d : But b w w') : Kq g b w0 l R e' w' :=
  ⟨(d.block g h.rd.lt (by simpa using Ne.symm hne)).trans h.rd, h1, fun p hp => ⟨(h.at_ p hp).1, (h.at_ p hp).2.1, (d.block p.1 (heap_lt (h.at_ p hp).2.2) (by simpa using (h.at_ p hp).2.1)).trans (h.at_ p hp).2.2⟩, h.b.two d⟩
theorem Kq.below (h : Kq g b w0 l R e w) (d : Below w.heap.size w w') : Kq g b w0 l R e w' :=
  ⟨h.rd.below d, (d.block b (heap_lt h.er)).trans h.er, fun p hp => ⟨(h.at_ p hp).1, (h.at_ p hp).2.1, (d.block p.1 (heap_lt (h.at_ p hp).2.2)).trans (h.at_ p hp).2.2⟩, h.b.then_ d h.b.size (.inl (Nat.le_refl _))⟩
theorem Kq.new' (h : Kq g b w0 l R e w) {n : Nat} (hn : w.heap.size = n) (o : Obj) : Kq g b w0 ((n, o) :: l) R e (w.alloc o) := by
  subst hn
  have k := h.below ((Below.refl w.heap.size w).alloc (Nat.le_refl _) o)
  refine ⟨k.rd, k.er, fun p hp => ?_, k.b⟩
  rcases List.mem_cons.1 hp with rfl | hp
  · exact ⟨by have := h.rd.lt; simp only; omega, by have := heap_lt h.er; simp only; omega, heap_alloc_new w o⟩
  · exact k.at_ p hp
theorem Kq.sub (h : Kq g b w0 l R e w) (hm : ∀ p ∈ m, p ∈ l) : Kq g b w0 m R e w := ⟨h.rd, h.er, fun p hp => h.at_ p (hm p hp), h.b⟩
theorem Kq.cell (h : Kq g b w0 l R e w) {k : Nat} {o : Obj} (hm : (k, o) ∈ l) {cs : Array Value} {U : TypeId} {fr : Nat × Nat} {j : Nat} {v : Value} (hv : cs[j]? = some v) (ho : o = .cells cs U fr := by rfl) : w.cell? ⟨k, j, none⟩ = some v := by
  have := (h.at_ _ hm).2.2
  subst ho
  simp only [World.cell?, this]
  exact hv
end
/-- A record read. -/
noncomputable def rdE (r : Rdr) (e : Int) : Int := if (readR r.text.1).2.2 = 0 then e else (readR r.text.1).2.2
theorem Kq.fresh {g b q : Nat} {w0 w w' : World} {l : List (Nat × Obj)} {R : Rdr} {e : Int} (h : Kq g b w0 l R e w) (hq : w0.heap.size ≤ q) (hqg : q ≠ g) (hqb : q ≠ b) (hl : ∀ p ∈ l, p.1 ≠ q) (d : But q w w') : Kq g b w0 l R e w' :=
  ⟨(d.block g h.rd.lt (by simpa using hqg.symm)).trans h.rd, (d.block b (heap_lt h.er) (by simpa using hqb.symm)).trans h.er, fun p hp => ⟨(h.at_ p hp).1, (h.at_ p hp).2.1, (d.block p.1 (heap_lt (h.at_ p hp).2.2) (by simpa using hl p hp)).trans (h.at_ p hp).2.2⟩, ⟨d.os.trans h.b.os, d.tape.trans h.b.tape, d.output.trans h.b.output, Nat.le_trans h.b.size d.size, fun i hi h1 h2 => (d.block i (Nat.lt_of_lt_of_le hi h.b.size) (by simp; omega)).trans (h.b.block i hi h1 h2)⟩⟩
set_option maxHeartbeats 8000000 in
theorem hr3_any (cx ct g cb : Nat) (r : Rdr) (e : Int) (w : World) (hne : cb ≠ g) (hK : Kq g cb w [(cx, capO g), (ct, seO cb)] r e w) (hr : r.ok) :
    Calls Tryz.prog 52 #[.pointer (some ⟨cx, 0, none⟩), .pointer (some ⟨ct, 0, none⟩)] w fun v w' => ∃ d : Sl, v = .returned (rcVal (readR r.text.1).1 d) ∧ SlR w' d (readR r.text.1).2.1 ∧ TIn w' d ∧ (∀ x, d.a = some x → w.heap.size ≤ x.block) ∧ Kq g cb w [(cx, capO g), (ct, seO cb)] r.text.2 (rdE r e) w' := by
  have k1 := Rdr.text_ok hr
  have hts := text_size hr
  have RT := fun wx h => rdr_text g r wx h hr
  have SR := fun wx => sread_f r.text.1 wx (by have := hr.1; omega)
  unfold rdE
  generalize r.text.2 = R2 at *
  generalize readR r.text.1 = X at *
  obtain ⟨xr, xs, xe⟩ := X
  simp only at SR ⊢
  have SE := fun wx hb => seen_any cb xe wx e hb
  generalize (if xe = 0 then e else xe) = EV at *
  have hgl := hK.rd.lt
  have hbl := heap_lt hK.er
  have HCX : Hid (cx ≠ w.heap.size) := by have := heap_lt (hK.at_ (cx, capO g) (by simp)).2.2; show _ ≠ _; simp only at this; omega
  have HCT : Hid (ct ≠ w.heap.size) := by have := heap_lt (hK.at_ (ct, seO cb) (by simp)).2.2; show _ ≠ _; simp only at this; omega
  have KK := Lib.hid hK
  clear hK
  go_enter Tryz.func52, Tryz.ntmps52
  go_upto_region 1 with fail
  generalize hw1 : World.alloc _ _ = w1
  have KK := Lib.hid (show Kq g cb w [(w.heap.size, rcO rc0O Sl0), (cx, capO g), (ct, seO cb)] r e w1 by rw [← hw1]; exact KK.out.new' rfl (rcO rc0O Sl0))
  have hz1 : w1.heap.size = w.heap.size + 1 := by rw [← hw1]; simp
  clear hw1
  obtain ⟨p, hp⟩ : ∃ p, w.heap.size = p := ⟨_, rfl⟩
  rw [hp] at KK hgl hbl hz1 HCX HCT ⊢
  have c0 := KK.out.cell (k := cx) (o := capO g) (by simp) (j := 0) (v := .pointer (some ⟨g, 0, none⟩)) rfl
  go_upto_region 2 with (first
    | (go_at_call 50; refine (RT _ KK.out.rd).mono ?_; rintro e w2 ⟨rfl, hn, dn⟩; have hz2 := dn.size; have KK := Lib.hid (KK.out.step hne hn dn); clear hn dn)
    | (go_at_call 53; refine (SR _).mono ?_; rintro e w3 ⟨d, rfl, hs, hfr, hti, dn⟩; have hz3 := dn.size; have KK := Lib.hid (KK.out.below dn); have HS := Lib.hid hs; have HTI := Lib.hid hti; clear hs hti dn)
    | (refine wpList_store_row rfl 60 _ _ rfl _ (rcA xr d) rfl rfl 60 _ (heap_alloc_new _ _) (by kernel_rfl) rfl (by simp [Value.oneCell', rcA]) ?_; rw [World.setRow_alloc_new]))
  try simp only [Act.put, sA, sZ, sS]
  generalize hw4 : World.alloc _ _ = w4
  have HS := Lib.hid (show SlR w4 d xs by rw [← hw4]; exact HS.out.below ((Below.refl _ _).alloc (Nat.le_refl _) _))
  have HTI := Lib.hid (show TIn w4 d by rw [← hw4]; exact HTI.out.below ((Below.refl _ _).alloc (Nat.le_refl _) _))
  have KK := Lib.hid (show Kq g cb w [(w3.heap.size, rcO xr d), (p, rcO rc0O Sl0), (cx, capO g), (ct, seO cb)] R2 e w4 by rw [← hw4]; exact KK.out.new' rfl (rcO xr d))
  clear hw4 c0
  obtain ⟨q, hq⟩ : ∃ q, w3.heap.size = q := ⟨_, rfl⟩
  rw [hq] at KK ⊢
  have ct0 := KK.out.cell (k := ct) (o := seO cb) (by simp) (j := 0) (v := .func (.func 45) #[] #[.pointer (some ⟨cb, 0, none⟩)]) rfl
  have HFR : Hid (∀ x, d.a = some x → p < x.block ∧ w.heap.size ≤ x.block ∧ x.block ≠ g ∧ x.block ≠ cb) := fun x hx => by have := hfr x hx; omega
  go_wp2_with (first
    | (go_at_call 45; refine (SE _ KK.out.er).mono ?_; rintro e2 w5 ⟨rfl, hb, dn⟩; have HS := Lib.hid (HS.out.but2 (g := g) (b := cb) (fun x hx => (HFR.out x hx).2.2) ((But2.refl g cb _).two dn)); have HTI := Lib.hid (HTI.out.but (q := cb) (fun x hx => (HFR.out x hx).2.2.2) dn); have KK := Lib.hid (KK.out.err hne hb dn); clear hb dn)
    | refine wpList_load_row rfl 60 _ rfl q rfl 60 (rcA xr d) (0, 0) _ (KK.out.at_ (q, rcO xr d) (by simp)).2.2 Tryz.underlying60 rfl (by kernel_rfl) ?_
    | refine wpList_store_row rfl 60 _ _ rfl p (rcA xr d) rfl rfl 60 _ (KK.out.at_ (p, rcO rc0O Sl0) (by simp)).2.2 (by kernel_rfl) rfl (by simp [Value.oneCell', rcA]) ?_)
  have KF := Kq.fresh (KK.out.sub (m := [(cx, capO g), (ct, seO cb)]) (by simp)) (q := p) (by omega) (by omega) (by omega) (by intro x hx; simp only [List.mem_cons, List.not_mem_nil, or_false] at hx; rcases hx with rfl | rfl; exact HCX.out; exact HCT.out) (But.row p _ (rcA xr d))
  have HS := Lib.hid (HS.out.farRow (q := p) (fun x hx => by have := (HFR.out x hx).1; omega) (rcA xr d))
  have HTI := Lib.hid (HTI.out.but (q := p) (fun x hx => by have := (HFR.out x hx).1; omega) (But.row p _ (rcA xr d)))
  refine bodyPost_ret (v := rcVal xr d) (results_cell_row rfl _ _ p 60 (rcA xr d) (0, 0) _ rfl (setRow_heap _ p _ _ _ _ (KK.out.at_ (p, rcO rc0O Sl0) (by simp)).2.2) Tryz.underlying60 rfl (by kernel_rfl)) rfl ⟨d, rfl, HS.out, HTI.out, fun x hx => by have := (HFR.out x hx).1; omega, KF⟩
end
end Go.Proofs.YtglabahbklpocaaGreat
namespace Go.Proofs.YtglabahbklpocaaGreat
section
open Go.RowKit Go.Deep
set_option maxRecDepth 100000
set_option linter.unusedVariables false
set_option linter.unusedSimpArgs false
attribute [local go_sem ↓] Go.wp_at_zero Go.wp_at_succ
/-- So many records read, the reader behind them, the errno by then. -/
noncomputable def takeR : Nat → Rdr → Int → List RcM × Rdr × Int
  | 0, r, e => ([], r, e)
  | n + 1, r, e => ((takeR n r e).1 ++ [((readR (takeR n r e).2.1.text.1).1, (readR (takeR n r e).2.1.text.1).2.1)], (takeR n r e).2.1.text.2, rdE (takeR n r e).2.1 (takeR n r e).2.2)
theorem takeR_ok {r : Rdr} (hr : r.ok) (e : Int) (n : Nat) : (takeR n r e).2.1.ok ∧ (takeR n r e).2.1.s = r.s := by
  induction n with
  | zero => exact ⟨hr, rfl⟩
  | succ n ih =>
    have := Rdr.text_ok ih.1
    exact ⟨this.1, this.2.trans ih.2⟩
theorem readR_wf {s : ByteArray} (hs : s.size ≤ 1000000000) : (readR s).1.wf := by
  rcases Classical.em (rrOk s) with h | h
  · rw [readR_pos h]; exact hd_wf (r0_ok hs)
  · rw [readR_neg h]
    have z : i64' 0 := ⟨by decide, by decide⟩
    exact ⟨z, by decide, z, z, z, z, z, z⟩
theorem readR_n8 {s : ByteArray} (hs : s.size ≤ 1000000000) : (readR s).2.1.length ≤ 8 := by
  rcases Classical.em (rrOk s) with h | h
  · rw [readR_pos h]
    have h8 := small_range (hdR_ok (r0_ok hs)).1 (m := 8) (by decide)
    show (takeN _ _).1.length ≤ 8
    rw [takeN_length]
    omega
  · rw [readR_neg h]; exact Nat.zero_le _
theorem Kq.rebase {g b : Nat} {w0 w : World} {l : List (Nat × Obj)} {R : Rdr} {e : Int} (h : Kq g b w0 l R e w) : Kq g b w l R e w := ⟨h.rd, h.er, h.at_, But2.refl _ _ _⟩
theorem Kq.then_ {g b : Nat} {w0 w w' : World} {l m : List (Nat × Obj)} {R R' : Rdr} {e e' : Int} (h : Kq g b w0 l R e w) (k : Kq g b w m R' e' w') : Kq g b w0 m R' e' w' := ⟨k.rd, k.er, k.at_, h.b.trans k.b⟩
theorem Kq.belowB {g b B : Nat} {w0 w w' : World} {l : List (Nat × Obj)} {R : Rdr} {e : Int} (h : Kq g b w0 l R e w) (d : Below B w w') (hg : g < B) (hb : b < B) (h0 : w0.heap.size ≤ B) (hl : ∀ p ∈ l, p.1 < B) (hB : B ≤ w.heap.size) : Kq g b w0 l R e w' :=
  ⟨(d.block g hg).trans h.rd, (d.block b hb).trans h.er, fun p hp => ⟨(h.at_ p hp).1, (h.at_ p hp).2.1, (d.block p.1 (hl p hp)).trans (h.at_ p hp).2.2⟩, h.b.then_ d h0 (.inr hB)⟩
theorem RcT.but2 {g b : Nat} {w w' : World} {x : RecA} (h : RcT w x) (hd : ∀ p, x.d.a = some p → p.block ≠ g ∧ p.block ≠ b) (k : But2 g b w w') : RcT w' x :=
  ⟨⟨h.ok.wf, h.ok.sl.but2 hd k⟩, h.ti.imp_right fun ⟨q, cur, e1, e2⟩ => ⟨q, cur, e1, (k.block q (heap_lt e2) (hd _ e1).1 (hd _ e1).2).trans e2⟩, h.n8⟩
theorem AppE.but22 {α : Type} {cs : α → List Value} {T : TypeId} {sz : Nat} {w w' : World} {B g b : Nat} {a : Option Addr} {n cap : Nat} {l : List α} (h : AppE cs T sz w B a n cap l) (k : But2 g b w w') (hg : g < B) (hb : b < B) : AppE cs T sz w' B a n cap l := by
  refine ⟨h.len, h.le, h.max, h.row.1, ?_⟩
  rcases h.row.2 with hn | ⟨g', cap', cur, e, hB, hgg, rest⟩
  · exact .inl hn
  · exact .inr ⟨g', cap', cur, e, hB, (k.block g' (heap_lt hgg) (by omega) (by omega)).trans hgg, rest⟩
/-- Records that were read: each as it should be, their numbers apart from what is read. -/
def RsI (w : World) (B : Nat) (rs : List RecA) : Prop := ∀ x ∈ rs, RcT w x ∧ ∀ p, x.d.a = some p → B ≤ p.block
set_option maxHeartbeats 16000000 in
theorem hlistR_any (cx ct g cb : Nat) (r : Rdr) (e : Int) (w : World) (hne : cb ≠ g) (hK : Kq g cb w [(cx, capO g), (ct, seO cb)] r e w) (hr : r.ok) :
    Calls Tryz.prog 51 #[.pointer (some ⟨g, 0, none⟩), .int .i64 16, .func (.func 52) #[] #[.pointer (some ⟨cx, 0, none⟩), .pointer (some ⟨ct, 0, none⟩)]] w fun v w' => ∃ (k : Nat) (a : Option Addr) (cap : Nat) (rs : List RecA), v = .returned (.slice a k cap) ∧ AppE RecA.cs 60 9 w' w.heap.size a k cap rs ∧ rs.map RecA.m = (takeR k (r.small 16).2 e).1 ∧ RsI w' w.heap.size rs ∧ k ≤ (r.small 16).1.toNat ∧ (k = (r.small 16).1.toNat ∨ (takeR k (r.small 16).2 e).2.1.left = 0) ∧ Kq g cb w [(cx, capO g), (ct, seO cb)] (takeR k (r.small 16).2 e).2.1 (takeR k (r.small 16).2 e).2.2 w' := by
  have hsr := small_range hr (m := 16) (by decide)
  have hsm := Rdr.small_ok hr 16
  have hg0 := hK.rd.lt
  have hb0 := heap_lt hK.er
  have hx0 : cx < w.heap.size := heap_lt (hK.at_ (cx, capO g) (by simp)).2.2
  have ht0 : ct < w.heap.size := heap_lt (hK.at_ (ct, seO cb) (by simp)).2.2
  have CS := fun wx hx => rdr_small g r 16 wx hx hr (by decide) (by decide)
  generalize (r.small 16).2 = R1 at *
  obtain ⟨n, hn⟩ : ∃ n : Nat, (r.small 16).1 = n := ⟨(r.small 16).1.toNat, by omega⟩
  rw [hn] at hsr ⊢
  simp only [hn] at CS
  rw [Int.toNat_natCast]
  clear hn hr
  go_enter Tryz.func51, Tryz.ntmps51
  go_wp2_with fail
  refine (CS _ hK.rd).mono ?_
  rintro v w1 ⟨rfl, hn, dn⟩
  have INIT := Lib.hid (hK.step hne hn dn)
  have hgl := dn.size
  clear hn dn CS hK
  go_wp2_with fail
  go_loopw [7, 11] (fun p i wr => ∃ (k : Nat) (a : Option Addr) (cap : Nat) (rs : List RecA), k ≤ n ∧ i = .int .i64 k ∧ p = .slice a k cap ∧ AppE RecA.cs 60 9 wr w.heap.size a k cap rs ∧ rs.map RecA.m = (takeR k R1 e).1 ∧ RsI wr w.heap.size rs ∧ Kq g cb w [(cx, capO g), (ct, seO cb)] (takeR k R1 e).2.1 (takeR k R1 e).2.2 wr) (fun _ i _ => 16 + 1 - (intOf i).toNat)
  case atStart => exact ⟨0, none, 0, [], by omega, rfl, rfl, appE_nil _ _, rfl, by intro x hx; simp at hx, INIT.out⟩
  case round =>
    obtain ⟨k, a, cap, rs, hk, rfl, rfl, hA, hM, hI, hKK⟩ := hrel
    have KK := Lib.hid hKK
    have HM := Lib.hid hM
    have HI := Lib.hid hI
    have hRok := takeR_ok hsm.1 e k
    have hRok2 := takeR_ok hsm.1 e (k + 1)
    have hle := hA.le
    have hmax : cap ≤ 9223372036854775807 := maxLen_i hA.max
    have HA := Lib.hid hA
    have hsz := hKK.b.size
    clear hA hKK hM hI
    by_cases hlt : k < n
    · have t2 : decide ((k : Int) < (n : Int)) = true := decide_eq_true (by omega)
      have HX := fun wx (h1 : Kq g cb wx [(cx, capO g), (ct, seO cb)] (takeR k R1 e).2.1 (takeR k R1 e).2.2 wx) => hr3_any cx ct g cb _ _ wx hne h1 hRok.1
      have hts := text_size hRok.1
      have hwf := readR_wf (s := (takeR k R1 e).2.1.text.1) (by have := hRok.1.1; omega)
      have hn8 := readR_n8 (s := (takeR k R1 e).2.1.text.1) (by have := hRok.1.1; omega)
      have HT : Hid (takeR (k + 1) R1 e = ((takeR k R1 e).1 ++ [((readR (takeR k R1 e).2.1.text.1).1, (readR (takeR k R1 e).2.1.text.1).2.1)], (takeR k R1 e).2.1.text.2, rdE (takeR k R1 e).2.1 (takeR k R1 e).2.2)) := rfl
      generalize hQ : takeR (k + 1) R1 e = Q1 at *
      generalize takeR k R1 e = Q0 at *
      obtain ⟨L, R, E⟩ := Q0
      obtain ⟨L', R', E'⟩ := Q1
      simp only at HM KK hRok hRok2 HX HT hts hwf hn8
      generalize rdE R E = RE at *
      generalize R.text.2 = RT at *
      generalize readR R.text.1 = X at *
      obtain ⟨xr, xs, xe⟩ := X
      simp only at HX HT hwf hn8
      have hT3 := HT.out
      simp only [Prod.mk.injEq] at hT3
      obtain ⟨hL, rfl, rfl⟩ := hT3
      have HL := Lib.hid hL
      have HQ := Lib.hid hQ
      clear hL hQ HT hts
      unfold rcVal rcA at HX
      go_wp2_with (first
        | (go_at_call 52; refine (HX _ KK.out.rebase).mono ?_; rintro v w3 ⟨d, rfl, hs, hti, hfr, hK3⟩; have hz3 := hK3.b.size; have HY := Lib.hid (show RcT w3 ⟨xr, d, xs⟩ ∧ ∀ p, d.a = some p → w.heap.size ≤ p.block from ⟨⟨⟨hwf, hs⟩, hti, by have := hs.r.1; simp only; omega⟩, fun p hp => by have := hfr p hp; omega⟩); have HA := Lib.hid (HA.out.but22 hK3.b hg0 hb0); have HI := Lib.hid (show RsI w3 w.heap.size rs from fun x hx => ⟨(HI.out x hx).1.but2 (fun p hp => by have := (HI.out x hx).2 p hp; omega) hK3.b, (HI.out x hx).2⟩); have KK := Lib.hid (KK.out.then_ hK3); clear hs hti hfr hK3)
        | (at_builtin; refine wpList_append_G rec_ety rfl _ _ rfl _ rfl (HA.out.below ?q1) ?q2 ?q3 w3.heap.size 1 ⟨xr, d, xs⟩ rfl ?q4 ?q5))
      case q1 => exact (Below.refl _ _).alloc (Nat.le_refl _) _
      case q2 => simp; omega
      case q3 => omega
      case q4 =>
        intro i u hi
        rw [Nat.zero_add, World.cell?_alloc_new]
        show (rcA xr d)[i]? = some u
        simpa [RecA.cs] using hi
      case q5 =>
        intro a3 cap3 w5 hA5 hb5 hg5
        have hAl := (Below.refl w3.heap.size w3).alloc (Nat.le_refl _) (.cells (rcA xr d) 60)
        have HI := Lib.hid (show RsI w5 w.heap.size (rs ++ [⟨xr, d, xs⟩]) from fun x hx => by
          rcases List.mem_append.1 hx with hx | hx
          · exact ⟨((HI.out x hx).1.below hAl).grown (HA.out.below hAl) hg5, (HI.out x hx).2⟩
          · simp only [List.mem_singleton] at hx
            subst hx
            exact ⟨(HY.out.1.below hAl).grown (HA.out.below hAl) hg5, HY.out.2⟩)
        have KK := Lib.hid ((KK.out.below hAl).belowB hb5 hg0 hb0 (Nat.le_refl _) (by intro x hx; simp only [List.mem_cons, List.not_mem_nil, or_false] at hx; rcases hx with rfl | rfl <;> assumption) (by simp; omega))
        have HA := Lib.hid hA5
        have HM := Lib.hid (show (rs ++ [(⟨xr, d, xs⟩ : RecA)]).map RecA.m = L' by rw [List.map_append, HM.out, HL.out]; rfl)
        clear hA5 hb5 hg5 hAl
        go_wp2_with fail
        refine (rdr_left g _ _ KK.out.rd hRok2.1).mono ?_
        rintro v w6 ⟨rfl, dq⟩
        have KK := Lib.hid (KK.out.step hne (dq.rdr KK.out.rd) dq.but)
        have HA := Lib.hid (HA.out.below dq.below)
        have HI := Lib.hid (show RsI w6 w.heap.size (rs ++ [(⟨xr, d, xs⟩ : RecA)]) from fun x hx => ⟨(HI.out x hx).1.below dq.below, (HI.out x hx).2⟩)
        clear dq
        by_cases hz : R'.left = 0
        · have t4 : (R'.left == 0) = true := beq_iff_eq.2 hz
          have HZ := Lib.hid hz
          clear hz
          go_wp2_with fail
          go_ret
          exact ⟨k + 1, a3, cap3, _, rfl, HA.out, by rw [HQ.out]; exact HM.out, HI.out, by omega, .inr (by rw [HQ.out]; exact HZ.out), by rw [HQ.out]; exact KK.out⟩
        · have t4 : (R'.left == 0) = false := beq_eq_false_iff_ne.2 hz
          clear hz
          go_wp2_with fail
          go_roundw
          case rel => exact ⟨k + 1, a3, cap3, _, by omega, by go_num, rfl, HA.out, by rw [HQ.out]; exact HM.out, HI.out, by rw [HQ.out]; exact KK.out⟩
          case measure => simp [intOf]; omega
    · obtain rfl : k = n := by omega
      have t2 : decide ((k : Int) < (k : Int)) = false := decide_eq_false (by omega)
      go_wp2_with fail
      go_ret
      exact ⟨k, a, cap, rs, rfl, HA.out, HM.out, HI.out, by omega, .inl rfl, KK.out⟩
end
end Go.Proofs.YtglabahbklpocaaGreat
