/- The inner functions of All and After. -/
import Derived.Test.YtdihbinbkneejaaGOriginNil37
namespace Go.Proofs.Ytdihbinbkneejaa
section
open Go.RowKit Go.Deep
set_option maxRecDepth 100000
set_option linter.unusedVariables false
set_option linter.unusedSimpArgs false
attribute [local go_sem ↓] Go.wp_at_zero Go.wp_at_succ
/-- A captured slice of numbers. -/
def capS (d : Sl) : Obj := .cells #[.slice d.a d.n d.c] 28 (0, 0)
def laterP (vs : List Int) (x : RcM) : Bool := decide (atV vs x.1.st.site < x.1.st.seq)
theorem all1_any (s : St) (w : World) : Calls Try.prog 45 #[.agg #[.int .i64 s.clock, .int .i64 s.site, .int .i64 s.seq]] w fun e w' => e = .returned (.bool true) ∧ Below w.heap.size w w' := by
  go_enter Try.func45, Try.ntmps45
  go_wp2_with fail
  go_ret
  exact ⟨rfl, (Below.refl _ _).alloc (Nat.le_refl _) _⟩
theorem st_held {B p c : Nat} {w0 w wd : World} {l : List (Nat × Obj)} {s : St} {d : Sl} (h : Kn B w0 l w) (h1 : (p, Obj.cells #[.int .i64 s.clock, .int .i64 s.site, .int .i64 s.seq] 27 (0, 0)) ∈ l) (h2 : (c, capS d) ∈ l) (e : wd.heap = w.heap) :
    wd.cell? ⟨p, 1, none⟩ = some (.int .i64 s.site) ∧ wd.cell? ⟨p, 2, none⟩ = some (.int .i64 s.seq) ∧ wd.cell? ⟨c, 0, none⟩ = some (.slice d.a d.n d.c) := by
  have q1 := h.at_ _ h1
  have q2 := h.at_ _ h2
  simp only at q1 q2
  refine ⟨?_, ?_, ?_⟩
  · simp only [World.cell?, e, q1]; rfl
  · simp only [World.cell?, e, q1]; rfl
  · simp only [World.cell?, e, q2, capS]; rfl
set_option maxHeartbeats 2000000 in
theorem after1_any (c : Nat) (d : Sl) (vs : List Int) (x : RecA) (w : World) (hc : w.heap[c]? = some (capS d)) (hv : SlR w d vs) (hx : i64' x.r.st.site) :
    Calls Try.prog 43 #[.agg #[.int .i64 x.r.st.clock, .int .i64 x.r.st.site, .int .i64 x.r.st.seq], .pointer (some ⟨c, 0, none⟩)] w fun e w' => e = .returned (.bool (laterP vs x.m)) ∧ Below w.heap.size w w' := by
  have HVs := Lib.hid hv
  have A1 := fun wx hb => at_any d.a d.n d.c vs x.r.st.site wx ((HVs.out.below (w' := wx) hb).r) HVs.out.nc HVs.out.cb hx.1 hx.2
  have K0 : Kn w.heap.size w [(c, capS d)] w := (Kn.start w).put hc
  show Calls _ _ _ _ fun e w' => e = .returned (.bool (decide (atV vs x.r.st.site < x.r.st.seq))) ∧ Below w.heap.size w w'
  generalize hA : atV vs x.r.st.site = A at *
  generalize x.r.st = s at *
  clear hv hA hc
  go_enter Try.func43, Try.ntmps43
  go_upto_region 1 with fail
  generalize hw1 : World.alloc _ _ = w1
  have KK := Lib.hid (show Kn w.heap.size w [(w.heap.size, Obj.cells #[.int .i64 s.clock, .int .i64 s.site, .int .i64 s.seq] 27 (0, 0)), (c, capS d)] w1 by rw [← hw1]; exact K0.new' rfl _)
  clear hw1 K0
  obtain ⟨p, hp⟩ : ∃ p, w.heap.size = p := ⟨_, rfl⟩
  rw [hp] at KK A1 ⊢
  refine wp_region_held_drew (S := (fun wx => wx.cell? ⟨p, 1, none⟩ = some (.int .i64 s.site) ∧ wx.cell? ⟨p, 2, none⟩ = some (.int .i64 s.seq) ∧ wx.cell? ⟨c, 0, none⟩ = some (.slice d.a d.n d.c))) (by kernel_rfl) ?_ (fun hHeld => ?_)
  focus ((try dsimp only); (try (exact st_held (p := p) (c := c) (s := s) (d := d) KK.out (by simp) (by simp) (by rfl))); done)
  (refine wpAnyH_take (i := 0) (oi := { dst := some 4, op := Go.Op.fieldAddr 27 (Go.Operand.tmp 2) 2, type := 0, pos := "origin.go:97", after := #[], guard := none }) (v := ?_) rfl (by kernel_rfl) (by kernel_rfl) (by kernel_rfl) (fun _ _ _ h => h) (Or.inl ⟨by rfl, ?_⟩) (by assumption) ?_; rotate_left; (focus (intro w hSw; ((try dsimp only at hSw); go_simp; try with_reducible rfl))); (try simp only [Act.put, List.setIfInBounds_toArray, List.set_cons_zero, List.set_cons_succ]))
  (refine wpAnyH_take (i := 1) (oi := { dst := some 5, op := Go.Op.load 3 (Go.Operand.tmp 4), type := 3, pos := "origin.go:97", after := #[{ on := 0, ground := Go.Ground.data }], guard := none }) (v := ?_) rfl (by kernel_rfl) (by kernel_rfl) (by kernel_rfl) (fun _ _ _ h => h) (Or.inl ⟨by rfl, ?_⟩) (by assumption) ?_; rotate_left; (focus (intro w hSw; ((try dsimp only at hSw); go_simp; try with_reducible rfl))); (try simp only [Act.put, List.setIfInBounds_toArray, List.set_cons_zero, List.set_cons_succ]))
  (refine wpAnyH_take (i := 2) (oi := { dst := some 6, op := Go.Op.load 28 (Go.Operand.tmp 1), type := 28, pos := "origin.go:97", after := #[], guard := none }) (v := ?_) rfl (by kernel_rfl) (by kernel_rfl) (by kernel_rfl) (fun _ _ _ h => h) (Or.inl ⟨by rfl, ?_⟩) (by assumption) ?_; rotate_left; (focus (intro w hSw; ((try dsimp only at hSw); go_simp; try with_reducible rfl))); (try simp only [Act.put, List.setIfInBounds_toArray, List.set_cons_zero, List.set_cons_succ]))
  (refine wpAnyH_take (i := 3) (oi := { dst := some 7, op := Go.Op.fieldAddr 27 (Go.Operand.tmp 2) 1, type := 0, pos := "origin.go:97", after := #[], guard := none }) (v := ?_) rfl (by kernel_rfl) (by kernel_rfl) (by kernel_rfl) (fun _ _ _ h => h) (Or.inl ⟨by rfl, ?_⟩) (by assumption) ?_; rotate_left; (focus (intro w hSw; ((try dsimp only at hSw); go_simp; try with_reducible rfl))); (try simp only [Act.put, List.setIfInBounds_toArray, List.set_cons_zero, List.set_cons_succ]))
  (refine wpAnyH_take (i := 4) (oi := { dst := some 8, op := Go.Op.load 3 (Go.Operand.tmp 7), type := 3, pos := "origin.go:97", after := #[{ on := 3, ground := Go.Ground.data }], guard := none }) (v := ?_) rfl (by kernel_rfl) (by kernel_rfl) (by kernel_rfl) (fun _ _ _ h => h) (Or.inl ⟨by rfl, ?_⟩) (by assumption) ?_; rotate_left; (focus (intro w hSw; ((try dsimp only at hSw); go_simp; try with_reducible rfl))); (try simp only [Act.put, List.setIfInBounds_toArray, List.set_cons_zero, List.set_cons_succ]))
  (refine wpAnyH_ready (rs := [5]) (by kernel_rfl) (by simp) ?_; refine AllReadyH.cons (o := { dst := some 9, op := Go.Op.call { callee := Go.Callee.value (Go.Operand.func 38), args := #[Go.Operand.tmp 6, Go.Operand.tmp 8], argTypes := #[28, 3] }, type := 3, pos := "origin.go:97", after := #[{ on := 2, ground := Go.Ground.data }, { on := 4, ground := Go.Ground.data }], guard := none }) rfl (fun K hK => ?_) AllReadyH.nil; go_simp; ((first | (go_at_call 38; refine (A1 _ (Kn.same KK.out (by rfl) (by rfl) (by rfl) (by rfl)).b).mono ?_; rintro e wn ⟨rfl, dn⟩; have KK := Lib.hid (Kn.later KK.out dn rfl rfl rfl rfl)))); go_wp2_with fail; refine hK.out _ _ ?_ (fun hHeld => ?_); (focus ((try dsimp only); (try (exact st_held (p := p) (c := c) (s := s) (d := d) KK.out (by simp) (by simp) (by rfl))); done)); clear hK; (try simp only [Act.put, List.setIfInBounds_toArray, List.set_cons_zero, List.set_cons_succ]))
  (refine wpAnyH_take (i := 6) (oi := { dst := some 10, op := Go.Op.binOp Go.BinOp.gtr 3 (Go.Operand.tmp 5) (Go.Operand.tmp 9) 3, type := 4, pos := "origin.go:97", after := #[{ on := 1, ground := Go.Ground.data }, { on := 5, ground := Go.Ground.data }], guard := none }) (v := ?_) rfl (by kernel_rfl) (by kernel_rfl) (by kernel_rfl) (fun _ _ _ h => h) (Or.inl ⟨by rfl, ?_⟩) (by assumption) ?_; rotate_left; (focus (intro w hSw; ((try dsimp only at hSw); go_simp; try with_reducible rfl))); (try simp only [Act.put, List.setIfInBounds_toArray, List.set_cons_zero, List.set_cons_succ]))
  (refine wpAnyH_take (i := 7) (oi := { dst := some 3, op := Go.Op.assign (Go.Operand.tmp 10), type := 4, pos := "origin.go:97", after := #[{ on := 6, ground := Go.Ground.data }, { on := 5, ground := Go.Ground.chain }, { on := 0, ground := Go.Ground.phase }, { on := 1, ground := Go.Ground.phase }, { on := 2, ground := Go.Ground.phase }, { on := 3, ground := Go.Ground.phase }, { on := 4, ground := Go.Ground.phase }, { on := 5, ground := Go.Ground.phase }, { on := 6, ground := Go.Ground.phase }], guard := none }) (v := ?_) rfl (by kernel_rfl) (by kernel_rfl) (by kernel_rfl) (fun _ _ _ h => h) (Or.inl ⟨by rfl, ?_⟩) (by assumption) ?_; rotate_left; (focus (intro w hSw; ((try dsimp only at hSw); go_simp; try with_reducible rfl))); (try simp only [Act.put, List.setIfInBounds_toArray, List.set_cons_zero, List.set_cons_succ]))
  refine wpAnyH_done (by kernel_rfl) ?_ _
  go_wp2_with fail
  go_ret
  exact ⟨rfl, by rw [hp]; exact (Kn.same KK.out rfl rfl rfl rfl).b⟩
end
end Go.Proofs.Ytdihbinbkneejaa
