/- origin.Log.All, After The law's short, small. The law's few, small, record. The law's few and record, of ship's chapter. Plain law of peers: what is known of other sites. No program is in sight. -/
import Derived.Test.YtglabahbklpocaaGreatGShipPacks15
import Derived.Test.YtglabahbklpocaaGreatGShipPacks9
import Derived.Test.YtglabahbklpocaaGreatGShipPacks5
import Derived.Test.YtglabahbklpocaaGreatGShipPacks2
namespace Go.Proofs.YtglabahbklpocaaGreat
section
open Go.RowKit Go.Deep
set_option maxRecDepth 100000
set_option linter.unusedVariables false
set_option linter.unusedSimpArgs false
attribute [local go_sem ↓] Go.wp_at_zero Go.wp_at_succ
theorem LogAt.len {w : World} {F : List Nat} {g : Nat} {m : LogM} (h : LogAt w F g m) : m.xs.length ≤ 400 := by
  obtain ⟨b, k, a, rs, h1, h2⟩ := h
  rw [h2.xs, List.length_map]
  have := h2.ha.1
  have := h2.sm
  omega
def afterM (m : LogM) (vs : List Int) (most : Int) : List RcM × Bool := if covV vs m.bs = true then (thoseM m most (laterP vs), true) else ([], false)
theorem RecsAt.nil (w : World) : RecsAt w ⟨none, 0, 0⟩ [] := ⟨⟨[], ⟨rfl, .inl rfl⟩, rfl, by simp, by simp, .inl rfl⟩, Nat.le_refl _, by decide⟩
theorem af_held {B c g : Nat} {w0 w wd : World} {l : List (Nat × Obj)} {d k b a : Sl} {mo ck : Int} (h : Kn B w0 l w) (h1 : (c, capS d) ∈ l) (h2 : (g, logO mo b k a ck) ∈ l) (e : wd.heap = w.heap) :
    wd.cell? ⟨c, 0, none⟩ = some (.slice d.a d.n d.c) ∧ wd.cell? ⟨g, 1, none⟩ = some (.slice b.a b.n b.c) := by
  have q1 := h.at_ _ h1
  have q2 := h.at_ _ h2
  simp only at q1 q2
  refine ⟨?_, ?_⟩
  · simp only [World.cell?, e, q1, capS]; rfl
  · simp only [World.cell?, e, q2, logO]; rfl
theorem mem_wf {w : World} {F : List Nat} {b k a : Sl} {rs : List RecA} {m : LogM} (h : LogC w F b k a rs m) {x : RecA} (hx : x.m ∈ m.xs) : i64' x.r.st.site := by
  rw [h.xs] at hx
  obtain ⟨y, hy, he⟩ := List.mem_map.1 hx
  have : y.r = x.r := congrArg Prod.fst he
  rw [← this]
  exact (h.ok y hy).wf.2.2.2.2.2.2.1
set_option maxHeartbeats 4000000 in
theorem oafter_any (F : List Nat) (g : Nat) (m : LogM) (d : Sl) (vs : List Int) (most : Int) (w : World) (hL : LogAt w F g m) (hv : SlR w d vs) (hm0 : i64' most) :
    Calls Tryz.prog 32 #[.pointer (some ⟨g, 0, none⟩), .slice d.a d.n d.c, .int .i64 most] w fun e w' => ∃ o : Sl, e = .returned (.tuple #[.slice o.a o.n o.c, .bool (afterM m vs most).2]) ∧ RecsAt w' o (afterM m vs most).1 ∧ Below w.heap.size w w' := by
  have HL := Lib.hid hL
  obtain ⟨b, k, a, rs, hg, hc⟩ := hL
  have HC := Lib.hid hc
  have HVs := Lib.hid hv
  have C1 := fun wx hb => covers_any d.a b.a d.n d.c b.n b.c vs m.bs wx ((HVs.out.below (w' := wx) hb).r) ((HC.out.hb.below (w' := wx) hb).r) HVs.out.nc HVs.out.cb HC.out.hb.nc HC.out.hb.cb
  obtain ⟨V, HV⟩ : ∃ V, Hid (V = afterM m vs most) := ⟨_, rfl⟩
  rw [← HV.out]
  have K0 : Kn w.heap.size w [(g, logO m.most b k a m.clock)] w := (Kn.start w).put hg
  clear hc hv hg
  go_enter Tryz.func32, Tryz.ntmps32
  go_upto_region 1 with fail
  generalize hw1 : World.alloc _ _ = w1
  have KK := Lib.hid (show Kn w.heap.size w [(w.heap.size, capS d), (g, logO m.most b k a m.clock)] w1 by rw [← hw1]; exact K0.new' rfl (capS d))
  clear hw1 K0
  obtain ⟨c, hcq⟩ : ∃ c, w.heap.size = c := ⟨_, rfl⟩
  rw [hcq] at KK C1 ⊢
  have C3 := fun wx (hb : Below c w wx) (hcc : wx.heap[c]? = some (capS d)) => those_after F g m most c (laterP vs) wx (HL.out.below (by rw [hcq]; exact hb)) hm0 (fun x hx wy hy => after1_any c d vs x wy ((hy.block c (heap_lt hcc)).trans hcc) ((HVs.out.below (w' := wx) (by rw [hcq]; exact hb)).below hy) (mem_wf HC.out hx))
  obtain ⟨B, hB⟩ : ∃ B, covV vs m.bs = B := ⟨_, rfl⟩
  rw [hB] at C1
  cases B
  · have HV := Lib.hid (HV.out.trans (show afterM m vs most = ([], false) by unfold afterM; rw [if_neg (by rw [hB]; decide)]))
    clear hB C3
    refine wp_region_held_drew (S := (fun wx => wx.cell? ⟨c, 0, none⟩ = some (.slice d.a d.n d.c) ∧ wx.cell? ⟨g, 1, none⟩ = some (.slice b.a b.n b.c))) (by kernel_rfl) ?_ (fun hHeld => ?_)
    focus ((try dsimp only); (try (exact af_held (c := c) (g := g) (d := d) (mo := m.most) (b := b) (k := k) (a := a) (ck := m.clock) KK.out (by simp) (by simp) (by rfl))); done)
    (refine wpAnyH_take (i := 0) (oi := ⟨some 8, Go.Op.move (.tmp 0), 25, _, _, none⟩) (v := ?_) rfl (by kernel_rfl) (by kernel_rfl) (by kernel_rfl) (fun _ _ _ h => h) (Or.inl ⟨by rfl, ?_⟩) (by assumption) ?_; rotate_left; (focus (intro w hSw; ((try dsimp only at hSw); go_simp; try with_reducible rfl))); (try simp only [Act.put, sA, sZ, sS]))
    (refine wpAnyH_take (i := 1) (oi := ⟨some 9, Go.Op.binOp Go.BinOp.eql 25 (.tmp 8) (.const (Go.Value.pointer none)) 25, 4, _, _, none⟩) (v := ?_) rfl (by kernel_rfl) (by kernel_rfl) (by kernel_rfl) (fun _ _ _ h => h) (Or.inl ⟨by rfl, ?_⟩) (by assumption) ?_; rotate_left; (focus (intro w hSw; ((try dsimp only at hSw); go_simp; try with_reducible rfl))); (try simp only [Act.put, sA, sZ, sS]))
    (refine wpAnyH_take (i := 2) (oi := ⟨some 10, Go.Op.move (.tmp 9), 4, _, _, none⟩) (v := ?_) rfl (by kernel_rfl) (by kernel_rfl) (by kernel_rfl) (fun _ _ _ h => h) (Or.inl ⟨by rfl, ?_⟩) (by assumption) ?_; rotate_left; (focus (intro w hSw; ((try dsimp only at hSw); go_simp; try with_reducible rfl))); (try simp only [Act.put, sA, sZ, sS]))
    (first | (refine wpAnyH_take (i := 3) (oi := ⟨some 11, Go.Op.load 23 (.tmp 4), 23, _, _, some (2, false)⟩) (v := undef) rfl (by kernel_rfl) (by kernel_rfl) (by kernel_rfl) (fun _ _ _ h => h) (Or.inr ⟨by rfl, rfl⟩) (by assumption) ?_; (try simp only [Act.put, sA, sZ, sS])) | (refine wpAnyH_take (i := 3) (oi := ⟨some 11, Go.Op.load 23 (.tmp 4), 23, _, _, some (2, false)⟩) (v := ?_) rfl (by kernel_rfl) (by kernel_rfl) (by kernel_rfl) (fun _ _ _ h => h) (Or.inl ⟨by rfl, ?_⟩) (by assumption) ?_; rotate_left; (focus (intro w hSw; ((try dsimp only at hSw); go_simp; try with_reducible rfl))); (try simp only [Act.put, sA, sZ, sS])))
    (first | (refine wpAnyH_take (i := 4) (oi := ⟨some 12, Go.Op.move (.tmp 0), 25, _, _, some (2, false)⟩) (v := undef) rfl (by kernel_rfl) (by kernel_rfl) (by kernel_rfl) (fun _ _ _ h => h) (Or.inr ⟨by rfl, rfl⟩) (by assumption) ?_; (try simp only [Act.put, sA, sZ, sS])) | (refine wpAnyH_take (i := 4) (oi := ⟨some 12, Go.Op.move (.tmp 0), 25, _, _, some (2, false)⟩) (v := ?_) rfl (by kernel_rfl) (by kernel_rfl) (by kernel_rfl) (fun _ _ _ h => h) (Or.inl ⟨by rfl, ?_⟩) (by assumption) ?_; rotate_left; (focus (intro w hSw; ((try dsimp only at hSw); go_simp; try with_reducible rfl))); (try simp only [Act.put, sA, sZ, sS])))
    (first | (refine wpAnyH_take (i := 5) (oi := ⟨some 13, Go.Op.nilCheck (.tmp 12), 0, _, _, some (2, false)⟩) (v := undef) rfl (by kernel_rfl) (by kernel_rfl) (by kernel_rfl) (fun _ _ _ h => h) (Or.inr ⟨by rfl, rfl⟩) (by assumption) ?_; (try simp only [Act.put, sA, sZ, sS])) | (refine wpAnyH_take (i := 5) (oi := ⟨some 13, Go.Op.nilCheck (.tmp 12), 0, _, _, some (2, false)⟩) (v := ?_) rfl (by kernel_rfl) (by kernel_rfl) (by kernel_rfl) (fun _ _ _ h => h) (Or.inl ⟨by rfl, ?_⟩) (by assumption) ?_; rotate_left; (focus (intro w hSw; ((try dsimp only at hSw); go_simp; try with_reducible rfl))); (try simp only [Act.put, sA, sZ, sS])))
    (first | (refine wpAnyH_take (i := 6) (oi := ⟨some 14, Go.Op.fieldAddr 117 (.tmp 13) 1, 0, _, _, some (2, false)⟩) (v := undef) rfl (by kernel_rfl) (by kernel_rfl) (by kernel_rfl) (fun _ _ _ h => h) (Or.inr ⟨by rfl, rfl⟩) (by assumption) ?_; (try simp only [Act.put, sA, sZ, sS])) | (refine wpAnyH_take (i := 6) (oi := ⟨some 14, Go.Op.fieldAddr 117 (.tmp 13) 1, 0, _, _, some (2, false)⟩) (v := ?_) rfl (by kernel_rfl) (by kernel_rfl) (by kernel_rfl) (fun _ _ _ h => h) (Or.inl ⟨by rfl, ?_⟩) (by assumption) ?_; rotate_left; (focus (intro w hSw; ((try dsimp only at hSw); go_simp; try with_reducible rfl))); (try simp only [Act.put, sA, sZ, sS])))
    (first | (refine wpAnyH_take (i := 7) (oi := ⟨some 15, Go.Op.load 23 (.tmp 14), 23, _, _, some (2, false)⟩) (v := undef) rfl (by kernel_rfl) (by kernel_rfl) (by kernel_rfl) (fun _ _ _ h => h) (Or.inr ⟨by rfl, rfl⟩) (by assumption) ?_; (try simp only [Act.put, sA, sZ, sS])) | (refine wpAnyH_take (i := 7) (oi := ⟨some 15, Go.Op.load 23 (.tmp 14), 23, _, _, some (2, false)⟩) (v := ?_) rfl (by kernel_rfl) (by kernel_rfl) (by kernel_rfl) (fun _ _ _ h => h) (Or.inl ⟨by rfl, ?_⟩) (by assumption) ?_; rotate_left; (focus (intro w hSw; ((try dsimp only at hSw); go_simp; try with_reducible rfl))); (try simp only [Act.put, sA, sZ, sS])))
    (first | (refine wpAnyH_take (i := 8) (oi := ⟨some 16, Go.Op.call { callee := Go.Callee.value (.func 82), args := #[.tmp 11, .tmp 15], argTypes := #[23, 23] }, 4, _, _, some (2, false)⟩) (v := undef) rfl (by kernel_rfl) (by kernel_rfl) (by kernel_rfl) (fun _ _ _ h => h) (Or.inr ⟨by rfl, rfl⟩) (by assumption) ?_; (try simp only [Act.put, sA, sZ, sS])) | (refine wpAnyH_ready (rs := [8]) (by kernel_rfl) (by simp) ?_; refine AllReadyH.cons (o := ⟨some 16, Go.Op.call { callee := Go.Callee.value (.func 82), args := #[.tmp 11, .tmp 15], argTypes := #[23, 23] }, 4, _, _, some (2, false)⟩) rfl (fun K hK => ?_) AllReadyH.nil; go_simp; ((first | (go_at_call 82; refine (C1 _ (Kn.same KK.out (by rfl) (by rfl) (by rfl) (by rfl)).b).mono ?_; rintro e wn ⟨rfl, dn⟩; have KK := Lib.hid (Kn.later KK.out dn rfl rfl rfl rfl)))); go_wp2_with fail; refine hK.out _ _ ?_ (fun hHeld => ?_); (focus ((try dsimp only); (try (exact af_held (c := c) (g := g) (d := d) (mo := m.most) (b := b) (k := k) (a := a) (ck := m.clock) KK.out (by simp) (by simp) (by rfl))); done)); clear hK; (try simp only [Act.put, sA, sZ, sS])))
    (first | (refine wpAnyH_take (i := 9) (oi := ⟨some 17, Go.Op.unOp Go.UnOp.not 4 (.tmp 16), 4, _, _, some (2, false)⟩) (v := undef) rfl (by kernel_rfl) (by kernel_rfl) (by kernel_rfl) (fun _ _ _ h => h) (Or.inr ⟨by rfl, rfl⟩) (by assumption) ?_; (try simp only [Act.put, sA, sZ, sS])) | (refine wpAnyH_take (i := 9) (oi := ⟨some 17, Go.Op.unOp Go.UnOp.not 4 (.tmp 16), 4, _, _, some (2, false)⟩) (v := ?_) rfl (by kernel_rfl) (by kernel_rfl) (by kernel_rfl) (fun _ _ _ h => h) (Or.inl ⟨by rfl, ?_⟩) (by assumption) ?_; rotate_left; (focus (intro w hSw; ((try dsimp only at hSw); go_simp; try with_reducible rfl))); (try simp only [Act.put, sA, sZ, sS])))
    (refine wpAnyH_take (i := 10) (oi := ⟨some 18, Go.Op.pick (.tmp 10) (.const (Go.Value.bool true)) (.tmp 17), 4, _, _, none⟩) (v := ?_) rfl (by kernel_rfl) (by kernel_rfl) (by kernel_rfl) (fun _ _ _ h => h) (Or.inl ⟨by rfl, ?_⟩) (by assumption) ?_; rotate_left; (focus (intro w hSw; ((try dsimp only at hSw); go_simp; try with_reducible rfl))); (try simp only [Act.put, sA, sZ, sS]))
    refine wpAnyH_done (by kernel_rfl) ?_ _
    go_wp2_with fail
    refine bodyPost_ret (v := .tuple #[.slice none 0 0, .bool false]) (by simp [results, Tryz.results32, go_sem, *]) rfl ⟨⟨none, 0, 0⟩, by rw [HV.out], by rw [HV.out]; exact RecsAt.nil _, by rw [hcq]; exact (Kn.same KK.out rfl rfl rfl rfl).b⟩
  · have HV := Lib.hid (HV.out.trans (show afterM m vs most = (thoseM m most (laterP vs), true) by unfold afterM; rw [if_pos hB]))
    clear hB
    refine wp_region_held_drew (S := (fun wx => wx.cell? ⟨c, 0, none⟩ = some (.slice d.a d.n d.c) ∧ wx.cell? ⟨g, 1, none⟩ = some (.slice b.a b.n b.c))) (by kernel_rfl) ?_ (fun hHeld => ?_)
    focus ((try dsimp only); (try (exact af_held (c := c) (g := g) (d := d) (mo := m.most) (b := b) (k := k) (a := a) (ck := m.clock) KK.out (by simp) (by simp) (by rfl))); done)
    (refine wpAnyH_take (i := 0) (oi := ⟨some 8, Go.Op.move (.tmp 0), 25, _, _, none⟩) (v := ?_) rfl (by kernel_rfl) (by kernel_rfl) (by kernel_rfl) (fun _ _ _ h => h) (Or.inl ⟨by rfl, ?_⟩) (by assumption) ?_; rotate_left; (focus (intro w hSw; ((try dsimp only at hSw); go_simp; try with_reducible rfl))); (try simp only [Act.put, sA, sZ, sS]))
    (refine wpAnyH_take (i := 1) (oi := ⟨some 9, Go.Op.binOp Go.BinOp.eql 25 (.tmp 8) (.const (Go.Value.pointer none)) 25, 4, _, _, none⟩) (v := ?_) rfl (by kernel_rfl) (by kernel_rfl) (by kernel_rfl) (fun _ _ _ h => h) (Or.inl ⟨by rfl, ?_⟩) (by assumption) ?_; rotate_left; (focus (intro w hSw; ((try dsimp only at hSw); go_simp; try with_reducible rfl))); (try simp only [Act.put, sA, sZ, sS]))
    (refine wpAnyH_take (i := 2) (oi := ⟨some 10, Go.Op.move (.tmp 9), 4, _, _, none⟩) (v := ?_) rfl (by kernel_rfl) (by kernel_rfl) (by kernel_rfl) (fun _ _ _ h => h) (Or.inl ⟨by rfl, ?_⟩) (by assumption) ?_; rotate_left; (focus (intro w hSw; ((try dsimp only at hSw); go_simp; try with_reducible rfl))); (try simp only [Act.put, sA, sZ, sS]))
    (first | (refine wpAnyH_take (i := 3) (oi := ⟨some 11, Go.Op.load 23 (.tmp 4), 23, _, _, some (2, false)⟩) (v := undef) rfl (by kernel_rfl) (by kernel_rfl) (by kernel_rfl) (fun _ _ _ h => h) (Or.inr ⟨by rfl, rfl⟩) (by assumption) ?_; (try simp only [Act.put, sA, sZ, sS])) | (refine wpAnyH_take (i := 3) (oi := ⟨some 11, Go.Op.load 23 (.tmp 4), 23, _, _, some (2, false)⟩) (v := ?_) rfl (by kernel_rfl) (by kernel_rfl) (by kernel_rfl) (fun _ _ _ h => h) (Or.inl ⟨by rfl, ?_⟩) (by assumption) ?_; rotate_left; (focus (intro w hSw; ((try dsimp only at hSw); go_simp; try with_reducible rfl))); (try simp only [Act.put, sA, sZ, sS])))
    (first | (refine wpAnyH_take (i := 4) (oi := ⟨some 12, Go.Op.move (.tmp 0), 25, _, _, some (2, false)⟩) (v := undef) rfl (by kernel_rfl) (by kernel_rfl) (by kernel_rfl) (fun _ _ _ h => h) (Or.inr ⟨by rfl, rfl⟩) (by assumption) ?_; (try simp only [Act.put, sA, sZ, sS])) | (refine wpAnyH_take (i := 4) (oi := ⟨some 12, Go.Op.move (.tmp 0), 25, _, _, some (2, false)⟩) (v := ?_) rfl (by kernel_rfl) (by kernel_rfl) (by kernel_rfl) (fun _ _ _ h => h) (Or.inl ⟨by rfl, ?_⟩) (by assumption) ?_; rotate_left; (focus (intro w hSw; ((try dsimp only at hSw); go_simp; try with_reducible rfl))); (try simp only [Act.put, sA, sZ, sS])))
    (first | (refine wpAnyH_take (i := 5) (oi := ⟨some 13, Go.Op.nilCheck (.tmp 12), 0, _, _, some (2, false)⟩) (v := undef) rfl (by kernel_rfl) (by kernel_rfl) (by kernel_rfl) (fun _ _ _ h => h) (Or.inr ⟨by rfl, rfl⟩) (by assumption) ?_; (try simp only [Act.put, sA, sZ, sS])) | (refine wpAnyH_take (i := 5) (oi := ⟨some 13, Go.Op.nilCheck (.tmp 12), 0, _, _, some (2, false)⟩) (v := ?_) rfl (by kernel_rfl) (by kernel_rfl) (by kernel_rfl) (fun _ _ _ h => h) (Or.inl ⟨by rfl, ?_⟩) (by assumption) ?_; rotate_left; (focus (intro w hSw; ((try dsimp only at hSw); go_simp; try with_reducible rfl))); (try simp only [Act.put, sA, sZ, sS])))
    (first | (refine wpAnyH_take (i := 6) (oi := ⟨some 14, Go.Op.fieldAddr 117 (.tmp 13) 1, 0, _, _, some (2, false)⟩) (v := undef) rfl (by kernel_rfl) (by kernel_rfl) (by kernel_rfl) (fun _ _ _ h => h) (Or.inr ⟨by rfl, rfl⟩) (by assumption) ?_; (try simp only [Act.put, sA, sZ, sS])) | (refine wpAnyH_take (i := 6) (oi := ⟨some 14, Go.Op.fieldAddr 117 (.tmp 13) 1, 0, _, _, some (2, false)⟩) (v := ?_) rfl (by kernel_rfl) (by kernel_rfl) (by kernel_rfl) (fun _ _ _ h => h) (Or.inl ⟨by rfl, ?_⟩) (by assumption) ?_; rotate_left; (focus (intro w hSw; ((try dsimp only at hSw); go_simp; try with_reducible rfl))); (try simp only [Act.put, sA, sZ, sS])))
    (first | (refine wpAnyH_take (i := 7) (oi := ⟨some 15, Go.Op.load 23 (.tmp 14), 23, _, _, some (2, false)⟩) (v := undef) rfl (by kernel_rfl) (by kernel_rfl) (by kernel_rfl) (fun _ _ _ h => h) (Or.inr ⟨by rfl, rfl⟩) (by assumption) ?_; (try simp only [Act.put, sA, sZ, sS])) | (refine wpAnyH_take (i := 7) (oi := ⟨some 15, Go.Op.load 23 (.tmp 14), 23, _, _, some (2, false)⟩) (v := ?_) rfl (by kernel_rfl) (by kernel_rfl) (by kernel_rfl) (fun _ _ _ h => h) (Or.inl ⟨by rfl, ?_⟩) (by assumption) ?_; rotate_left; (focus (intro w hSw; ((try dsimp only at hSw); go_simp; try with_reducible rfl))); (try simp only [Act.put, sA, sZ, sS])))
    (first | (refine wpAnyH_take (i := 8) (oi := ⟨some 16, Go.Op.call { callee := Go.Callee.value (.func 82), args := #[.tmp 11, .tmp 15], argTypes := #[23, 23] }, 4, _, _, some (2, false)⟩) (v := undef) rfl (by kernel_rfl) (by kernel_rfl) (by kernel_rfl) (fun _ _ _ h => h) (Or.inr ⟨by rfl, rfl⟩) (by assumption) ?_; (try simp only [Act.put, sA, sZ, sS])) | (refine wpAnyH_ready (rs := [8]) (by kernel_rfl) (by simp) ?_; refine AllReadyH.cons (o := ⟨some 16, Go.Op.call { callee := Go.Callee.value (.func 82), args := #[.tmp 11, .tmp 15], argTypes := #[23, 23] }, 4, _, _, some (2, false)⟩) rfl (fun K hK => ?_) AllReadyH.nil; go_simp; ((first | (go_at_call 82; refine (C1 _ (Kn.same KK.out (by rfl) (by rfl) (by rfl) (by rfl)).b).mono ?_; rintro e wn ⟨rfl, dn⟩; have KK := Lib.hid (Kn.later KK.out dn rfl rfl rfl rfl)))); go_wp2_with fail; refine hK.out _ _ ?_ (fun hHeld => ?_); (focus ((try dsimp only); (try (exact af_held (c := c) (g := g) (d := d) (mo := m.most) (b := b) (k := k) (a := a) (ck := m.clock) KK.out (by simp) (by simp) (by rfl))); done)); clear hK; (try simp only [Act.put, sA, sZ, sS])))
    (first | (refine wpAnyH_take (i := 9) (oi := ⟨some 17, Go.Op.unOp Go.UnOp.not 4 (.tmp 16), 4, _, _, some (2, false)⟩) (v := undef) rfl (by kernel_rfl) (by kernel_rfl) (by kernel_rfl) (fun _ _ _ h => h) (Or.inr ⟨by rfl, rfl⟩) (by assumption) ?_; (try simp only [Act.put, sA, sZ, sS])) | (refine wpAnyH_take (i := 9) (oi := ⟨some 17, Go.Op.unOp Go.UnOp.not 4 (.tmp 16), 4, _, _, some (2, false)⟩) (v := ?_) rfl (by kernel_rfl) (by kernel_rfl) (by kernel_rfl) (fun _ _ _ h => h) (Or.inl ⟨by rfl, ?_⟩) (by assumption) ?_; rotate_left; (focus (intro w hSw; ((try dsimp only at hSw); go_simp; try with_reducible rfl))); (try simp only [Act.put, sA, sZ, sS])))
    (refine wpAnyH_take (i := 10) (oi := ⟨some 18, Go.Op.pick (.tmp 10) (.const (Go.Value.bool true)) (.tmp 17), 4, _, _, none⟩) (v := ?_) rfl (by kernel_rfl) (by kernel_rfl) (by kernel_rfl) (fun _ _ _ h => h) (Or.inl ⟨by rfl, ?_⟩) (by assumption) ?_; rotate_left; (focus (intro w hSw; ((try dsimp only at hSw); go_simp; try with_reducible rfl))); (try simp only [Act.put, sA, sZ, sS]))
    refine wpAnyH_done (by kernel_rfl) ?_ _
    have KK := Lib.hid (Kn.same KK.out (by rfl) (by rfl) (by rfl) (by rfl))
    go_wp2_with fail
    refine (C3 _ (Kn.same KK.out (by rfl) (by rfl) (by rfl) (by rfl)).b ((Kn.same KK.out (by rfl) (by rfl) (by rfl) (by rfl)).at_ (c, capS d) (by simp))).mono ?_
    rintro e w5 ⟨o, rfl, hR, hb⟩
    have KK := Lib.hid (Kn.later KK.out hb rfl rfl rfl rfl)
    have HR := Lib.hid hR
    clear hR hb C3
    go_wp2_with fail
    refine bodyPost_ret (v := .tuple #[.slice o.a o.n o.c, .bool true]) (by simp [results, Tryz.results32, go_sem, *]) rfl ⟨o, by rw [HV.out], by rw [HV.out]; exact HR.out, by rw [hcq]; exact KK.out.b⟩
end
end Go.Proofs.YtglabahbklpocaaGreat
namespace Go.Proofs.YtglabahbklpocaaGreat
section
open Go.RowKit
set_option maxRecDepth 100000
set_option linter.unusedVariables false
set_option linter.unusedSimpArgs false
attribute [local go_sem ↓] Go.wp_at_zero Go.wp_at_succ
def Sl.cut (d : Sl) : Sl := if 12 < d.n then ⟨d.a, 12, d.c⟩ else d
def RecA.small (x : RecA) : RecA := ⟨{ x.r with series := x.r.series.extract 0 60 }, x.d.cut, x.ds.take 12⟩
def Sl0 : Sl := ⟨none, 0, 0⟩
theorem SlR.cut {w : World} {d : Sl} {ds : List Int} (h : SlR w d ds) : SlR w d.cut (ds.take 12) := by
  obtain ⟨⟨h1, h2⟩, h3, h4⟩ := h
  unfold Sl.cut
  split
  · refine ⟨⟨by simp; omega, ?_⟩, by simp; omega, h4⟩
    rcases h2 with h2 | ⟨b, o, e1, e2, e3⟩
    · omega
    · refine .inr ⟨b, o, e1, e2, fun j hj => ?_⟩
      simp only at hj
      rw [e3 j (by omega)]
      congr 2
      simp only [List.getD_eq_getElem?_getD, List.getElem?_take]
      rw [if_pos hj]
  · rw [List.take_of_length_le (by omega)]
    exact ⟨⟨h1, h2⟩, h3, h4⟩
theorem RecA.small_ok {w : World} {x : RecA} (h : x.ok w) : x.small.ok w := ⟨⟨h.wf.1, by
  have := h.wf.2.1
  simp only [RecA.small, ByteArray.size_extract]
  omega, h.wf.2.2⟩, h.sl.cut⟩
theorem RecA.ok.below {w w' : World} {x : RecA} (h : x.ok w) (hb : Below w.heap.size w w') : x.ok w' := ⟨h.wf, h.sl.below hb⟩
end
end Go.Proofs.YtglabahbklpocaaGreat
namespace Go.Proofs.YtglabahbklpocaaGreat
section
open Go.RowKit Go.Deep
set_option maxRecDepth 100000
set_option linter.unusedVariables false
set_option linter.unusedSimpArgs false
attribute [local go_sem ↓] Go.wp_at_zero Go.wp_at_succ
theorem SlR.held {w : World} {d : Sl} {xs : List Int} (h : SlR w d xs) (hn : 0 < d.n) : ∃ b o, d.a = some ⟨b, o, none⟩ := by
  rcases h.r.2 with h2 | ⟨b, o, e1, _⟩
  · omega
  · exact ⟨b, o, e1⟩
def mkR (site seq : Int) : Rc := ⟨1, ⟨#[97]⟩, seq, 0, 0, ⟨seq, site, seq⟩⟩
end
end Go.Proofs.YtglabahbklpocaaGreat
namespace Go.Proofs.YtglabahbklpocaaGreat
section
open Go.RowKit Go.Deep
set_option maxRecDepth 100000
set_option linter.unusedVariables false
set_option linter.unusedSimpArgs false
attribute [local go_sem ↓] Go.wp_at_zero Go.wp_at_succ
theorem few19z_any (d : Sl) (xs : List Int) (w : World) (h : SlR w d xs) : Calls Tryz.prog 9 #[.slice d.a d.n d.c] w fun e w' => e = .returned (.slice d.cut.a d.cut.n d.cut.c) ∧ w = w' := by
  have hnc := h.nc
  have hcb := h.cb
  by_cases h12 : 12 < d.n
  · obtain ⟨b, o, ha⟩ := h.held (by omega)
    have t1 : decide (12 < (d.n : Int)) = true := decide_eq_true (by omega)
    have i1 : (12 : Int) ≤ (d.c : Int) := by omega
    have i2 : (12 : Int) ≤ (d.n : Int) := by omega
    have hc : d.cut = ⟨d.a, 12, d.c⟩ := by unfold Sl.cut; rw [if_pos h12]
    rw [hc]
    simp only
    rw [ha]
    clear hc ha
    go_enter Tryz.func9, Tryz.ntmps9
    go_wp2_with fail
    go_ret
    exact ⟨rfl, rfl⟩
  · have t1 : decide (12 < (d.n : Int)) = false := decide_eq_false (by omega)
    have hc : d.cut = d := by unfold Sl.cut; rw [if_neg h12]
    rw [hc]
    clear hc
    go_enter Tryz.func9, Tryz.ntmps9
    go_wp2_with fail
    go_ret
    exact ⟨rfl, rfl⟩
set_option maxHeartbeats 4000000 in
theorem record19_any (x : RecA) (w : World) (h : x.ok w) : Calls Tryz.prog 27 #[x.val] w fun e w' => e = .returned x.small.val ∧ Below w.heap.size w w' := by
  have HX := Lib.hid h
  have HFW := fun wx hb => few19z_any x.d x.ds wx (HX.out.sl.below (w' := wx) hb)
  obtain ⟨V, HV⟩ : ∃ V, Hid (V = x.small) := ⟨_, rfl⟩
  rw [← HV.out]
  have hsz := h.wf.2.1
  obtain ⟨r, d, ds⟩ := x
  clear h
  unfold RecA.val rcVal
  simp only [rcA] at HFW ⊢
  go_enter Tryz.func27, Tryz.ntmps27
  go_upto_region 1 with fail
  generalize hw1 : World.alloc _ _ = w1
  obtain ⟨rz, hrz⟩ : ∃ rz : Rc, rz = ⟨0, ⟨#[]⟩, 0, 0, 0, ⟨0, 0, 0⟩⟩ := ⟨_, rfl⟩
  obtain ⟨sz, hszz⟩ : ∃ sz : Sl, sz = ⟨none, 0, 0⟩ := ⟨_, rfl⟩
  have KK := Lib.hid (show Kn w.heap.size w [(w.heap.size, rcO r d), (w.heap.size + 1, rcO rz sz)] w1 by rw [← hw1, hrz, hszz]; exact (((Kn.start w).new' rfl (rcO r d)).new' (n := w.heap.size + 1) (by simp) (rcO ⟨0, ⟨#[]⟩, 0, 0, 0, ⟨0, 0, 0⟩⟩ ⟨none, 0, 0⟩)).sub (by simp))
  clear hw1 hrz hszz
  generalize hg : w.heap.size = g at *
  have q1 := KK.out.cell (g := g) (o := rcO r d) (by simp) (j := 1) (v := .string r.series) rfl
  have f1 := KK.out.fz (g := g) (o := rcO r d) (by simp) 1
  by_cases hs : 60 < r.series.size
  · have t1 : decide (60 < (r.series.size : Int)) = true := decide_eq_true (by omega)
    have q0 : (60 : Int) ≤ (r.series.size : Int) := by omega
    go_upto_region 3 with fail
    have KK := Lib.hid (Kn.setCell KK.out (by simp only [Apart, and_true]; omega) (by omega) 1 (.string (r.series.extract 0 60)) (rcO { r with series := r.series.extract 0 60 } d) rfl)
    generalize World.setCell _ _ _ = w8 at *
    have HV := Lib.hid (HV.out.trans (show RecA.small ⟨r, d, ds⟩ = ⟨{ r with series := r.series.extract 0 60 }, d.cut, ds.take 12⟩ from rfl))
    clear q1 f1 q0
    have HS := KK.out.cell (g := g) (o := rcO { r with series := r.series.extract 0 60 } d) (by simp) (j := 8) (v := .slice d.a d.n d.c) rfl
    have HZ := KK.out.fz (g := g) (o := rcO { r with series := r.series.extract 0 60 } d) (by simp) 8
    go_upto_region 4 with (first | (go_at_call 9; refine (HFW _ KK.out.b).mono ?_; rintro e wn ⟨rfl, rfl⟩))
    have KK := Lib.hid (Kn.setCell (KK.out.sub (m := [(g, rcO { r with series := r.series.extract 0 60 } d), (g + 1, rcO rz sz)]) (by simp)) (by simp only [Apart, and_true]; omega) (by omega) 8 (.slice d.cut.a d.cut.n d.cut.c) (rcO { r with series := r.series.extract 0 60 } d.cut) rfl)
    generalize World.setCell _ _ _ = w9 at *
    clear HS HZ
    go_wp2_with (first
      | refine wpList_load_row rfl 60 _ rfl g rfl 60 (rcA { r with series := r.series.extract 0 60 } d.cut) (0, 0) _ KK.out.hd Tryz.underlying60 rfl (by kernel_rfl) ?_
      | refine wpList_store_row rfl 60 _ _ rfl (g + 1) (rcA { r with series := r.series.extract 0 60 } d.cut) rfl rfl 60 _ (KK.out.at_ (g + 1, rcO rz sz) (by simp)) (by kernel_rfl) rfl (by simp [Value.oneCell', rcA]) ?_)
    have KF := Kn.setRow (KK.out.sub (m := [(g + 1, rcO rz sz), (g, rcO { r with series := r.series.extract 0 60 } d.cut)]) (by simp)) (by simp only [Apart, and_true]; omega) (by omega) (rcO { r with series := r.series.extract 0 60 } d.cut)
    refine bodyPost_ret (v := rcVal { r with series := r.series.extract 0 60 } d.cut) (results_cell_row rfl _ _ (g + 1) 60 (rcA { r with series := r.series.extract 0 60 } d.cut) (0, 0) _ rfl KF.hd Tryz.underlying60 rfl (by kernel_rfl)) rfl ⟨by rw [HV.out]; rfl, by first | exact KF.b | (rw [hg]; exact KF.b)⟩
  · have t1 : decide (60 < (r.series.size : Int)) = false := decide_eq_false (by omega)
    have q0 : (0 : Int) ≤ 60 := by omega
    go_upto_region 3 with fail
    have HV := Lib.hid (HV.out.trans (show RecA.small ⟨r, d, ds⟩ = ⟨r, d.cut, ds.take 12⟩ by unfold RecA.small; simp only; rw [extract_all _ _ (by omega)]))
    clear q1 f1 q0
    have HS := KK.out.cell (g := g) (o := rcO r d) (by simp) (j := 8) (v := .slice d.a d.n d.c) rfl
    have HZ := KK.out.fz (g := g) (o := rcO r d) (by simp) 8
    go_upto_region 4 with (first | (go_at_call 9; refine (HFW _ KK.out.b).mono ?_; rintro e wn ⟨rfl, rfl⟩))
    have KK := Lib.hid (Kn.setCell (KK.out.sub (m := [(g, rcO r d), (g + 1, rcO rz sz)]) (by simp)) (by simp only [Apart, and_true]; omega) (by omega) 8 (.slice d.cut.a d.cut.n d.cut.c) (rcO r d.cut) rfl)
    generalize World.setCell _ _ _ = w9 at *
    clear HS HZ
    go_wp2_with (first
      | refine wpList_load_row rfl 60 _ rfl g rfl 60 (rcA r d.cut) (0, 0) _ KK.out.hd Tryz.underlying60 rfl (by kernel_rfl) ?_
      | refine wpList_store_row rfl 60 _ _ rfl (g + 1) (rcA r d.cut) rfl rfl 60 _ (KK.out.at_ (g + 1, rcO rz sz) (by simp)) (by kernel_rfl) rfl (by simp [Value.oneCell', rcA]) ?_)
    have KF := Kn.setRow (KK.out.sub (m := [(g + 1, rcO rz sz), (g, rcO r d.cut)]) (by simp)) (by simp only [Apart, and_true]; omega) (by omega) (rcO r d.cut)
    refine bodyPost_ret (v := rcVal r d.cut) (results_cell_row rfl _ _ (g + 1) 60 (rcA r d.cut) (0, 0) _ rfl KF.hd Tryz.underlying60 rfl (by kernel_rfl)) rfl ⟨by rw [HV.out]; rfl, by first | exact KF.b | (rw [hg]; exact KF.b)⟩
end
end Go.Proofs.YtglabahbklpocaaGreat
namespace Go.Proofs.YtglabahbklpocaaGreat
section
set_option maxRecDepth 100000
set_option linter.unusedVariables false
set_option linter.unusedSimpArgs false
def upd {α : Type} (f : Nat → α) (i : Nat) (x : α) : Nat → α := fun j => if j = i then x else f j
/-- Peers, plainly: of site i the vector v i; s i: was something sent; a i: when. -/
structure PeM where
  me : Int
  sites : Int
  every : Int
  v : Nat → List Int
  s : Nat → Bool
  a : Nat → Int
def isO (m : PeM) (i : Int) : Bool := decide (0 ≤ i) && (decide (i < m.sites) && !decide (i = m.me))
theorem isO_true {m : PeM} {i : Int} (h : isO m i = true) : 0 ≤ i ∧ i < m.sites ∧ i ≠ m.me := by
  unfold isO at h
  simp only [Bool.and_eq_true, decide_eq_true_eq, Bool.not_eq_true', decide_eq_false_iff_not] at h
  exact h
def clockP (n : Int) : Int := min (max n 0) 1125899906842624
def newP (me sites every : Int) : PeM := ⟨me, min (max sites 1) 8, max every 1, fun _ => [], fun _ => false, fun _ => 0⟩
def noteM (m : PeM) (site : Int) (v : List Int) : PeM × Bool := if isO m site = true ∧ covV (m.v site.toNat) v = false then ({ m with v := upd m.v site.toNat (joinV (m.v site.toNat) v) }, true) else (m, false)
def leastK (m : PeM) (mine : List Int) : Nat → List Int
  | 0 => joinV mine []
  | k + 1 => if isO m (k : Int) = true then meetV (leastK m mine k) (m.v k) else leastK m mine k
def leastM (m : PeM) (mine : List Int) : List Int := leastK m mine 8
def thoseK (m : PeM) (P : Nat → Bool) : Nat → List Int
  | 0 => []
  | k + 1 => if isO m (k : Int) = true ∧ P k = true then thoseK m P k ++ [(k : Int)] else thoseK m P k
def dueP (m : PeM) (t : Int) (i : Nat) : Bool := !m.s i || (decide (m.every ≤ t - m.a i) || decide (t < m.a i))
def dueM (m : PeM) (now : Int) : List Int := thoseK m (dueP m (clockP now)) 8
def sentM (m : PeM) (site now : Int) : PeM × Bool := if isO m site = true then ({ m with s := upd m.s site.toNat true, a := upd m.a site.toNat (clockP now) }, true) else (m, false)
theorem thoseK_len (m : PeM) (P : Nat → Bool) (k : Nat) : (thoseK m P k).length ≤ k := by
  induction k with
  | zero => exact Nat.le_refl _
  | succ k ih =>
    unfold thoseK
    split
    · rw [List.length_append]; simp; omega
    · omega
end
end Go.Proofs.YtglabahbklpocaaGreat
