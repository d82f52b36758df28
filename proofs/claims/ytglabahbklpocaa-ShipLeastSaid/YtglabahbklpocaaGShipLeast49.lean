/- ShipLeast: for any script, and any vector, the law answers true. -/
import Derived.Test.YtglabahbklpocaaGShipLeast44
import Derived.Test.YtglabahbklpocaaGShipLeast48
import Derived.Test.YtglabahbklpocaaGShipLeast23
import Derived.Deep.CutBlock
namespace Go.Proofs.Ytglabahbklpocaa
section
open Go.RowKit Go.Deep
set_option maxRecDepth 100000
set_option linter.unusedVariables false
set_option linter.unusedSimpArgs false
attribute [local go_sem ↓] Go.wp_at_zero Go.wp_at_succ
def toldC (d : Nat → Sl) : Array Value := #[slV (d 0), slV (d 1), slV (d 2), slV (d 3)]
def toldO (d : Nat → Sl) : Obj := .cells (toldC d) 39 (0, 0)
theorem toldC_get (d : Nat → Sl) (i : Nat) (hi : i < 4) : (toldC d)[i]? = some (slV (d i)) := by
  match i, hi with
  | 0, _ | 1, _ | 2, _ | 3, _ => rfl
theorem toldC_set (d : Nat → Sl) (i : Nat) (hi : i < 4) (x : Sl) : (toldC d).setIfInBounds i (slV x) = toldC (upd d i x) := by
  match i, hi with
  | 0, _ | 1, _ | 2, _ | 3, _ => rfl
/-- Peers, the row of what was told, and what was there. -/
structure LeI (w0 : World) (g t : Nat) (m : PeM) (T : Nat → List Int) (w : World) : Prop where
  p : PeAt w [t, g] g m
  row : ∃ d : Nat → Sl, w.heap[t]? = some (toldO d) ∧ ∀ i, i < 4 → SlR w (d i) (T i) ∧ farA [t, g] (d i)
  b : Below w0.heap.size w0 w
  law : ToI m T
section
variable {w0 w w' : World} {g t : Nat} {m m' : PeM} {T : Nat → List Int}
theorem LeI.below (h : LeI w0 g t m T w) (d : Below w.heap.size w w') : LeI w0 g t m T w' := by
  obtain ⟨h1, ⟨x, h2, h3⟩, h4, h5⟩ := h
  exact ⟨h1.below d, ⟨x, (d.block t (heap_lt h2)).trans h2, fun i hi => ⟨(h3 i hi).1.below d, (h3 i hi).2⟩⟩, below_then h4 h4.size d, h5⟩
theorem LeI.lt (h : LeI w0 g t m T w) : ∀ k ∈ [t, g], k < w.heap.size := by
  obtain ⟨h1, ⟨x, h2, h3⟩, h4, h5⟩ := h
  intro k hk
  simp only [List.mem_cons, List.not_mem_nil, or_false] at hk
  rcases hk with rfl | rfl
  · exact heap_lt h2
  · exact h1.lt
end
theorem told_held {B t : Nat} {w0 w wd : World} {l : List (Nat × Obj)} {d : Nat → Sl} {i : Nat} (h : Kn B w0 l w) (h1 : (t, toldO d) ∈ l) (hi : i < 4) (e : wd.heap = w.heap) : wd.cell? ⟨t, i, none⟩ = some (.slice (d i).a (d i).n (d i).c) := by
  have q1 := h.at_ _ h1
  simp only at q1
  simp only [World.cell?, e, q1, toldO]
  exact toldC_get d i hi
theorem hbc0 {w : World} {a : Option Addr} {n : Nat} {xs : List Int} (h : ReadsI .i64 w a n xs) (i : Nat) (hi : i < n) : ∃ b o, a = some ⟨b, o, none⟩ ∧ b < w.heap.size ∧ ∀ wx, Below w.heap.size w wx → wx.cell? ⟨b, o + i, none⟩ = some (.int .i64 (xs.getD i 0)) := by
  obtain ⟨b, o, e, hl, hc⟩ := h.at (Below.refl _ _) i hi
  exact ⟨b, o, e, hl, fun wx hb => (hb.cell (p := ⟨b, o + i, none⟩) hl).trans hc⟩
/-- A site is told a vector: the peers note it, the row holds the join. -/
theorem LeI.told {w0 w w' w'' : World} {g t : Nat} {m : PeM} {T : Nat → List Int} {p : Nat} {v : List Int} {x : Sl} (h : LeI w0 g t m T w) (hne : t ≠ g) (hg : w0.heap.size ≤ g) (ht : w0.heap.size ≤ t) (h1 : 1 ≤ p) (h4 : p < 4)
    (hn : PeAt w' [t, g] g (noteM m (p : Int) v).1) (hb : But g w w') (hj : SlR w'' x (joinV (T p) v)) (hf : fresh w'.heap.size x) (hb2 : Below w'.heap.size w' w'') :
    LeI w0 g t (noteM m (p : Int) v).1 (upd T p (joinV (T p) v)) (w''.setCell ⟨t, p, none⟩ (slV x)) := by
  have hlt := h.lt
  obtain ⟨k1, ⟨d, k2, k3⟩, k4, k5⟩ := h
  have k2' : w'.heap[t]? = some (toldO d) := (hb.block t (heap_lt k2) (by simpa using hne)).trans k2
  have k2'' : w''.heap[t]? = some (toldO d) := (hb2.block t (heap_lt k2')).trans k2'
  have hbs : But t w'' (w''.setCell ⟨t, p, none⟩ (slV x)) := But.set t _ _ _
  have hfx : farA [t, g] x := hf.imp_right fun h q hq hm => by
    have h2 := h q hq
    have h3 := hlt _ hm
    have := hb.size
    omega
  refine ⟨(hn.below hb2).but (by simp) (fun e => hne e.symm) hbs, ⟨upd d p x, ?_, fun i hi => ?_⟩, ?_, k5.note p h1 h4 v⟩
  · have e := heap_setCell_same w'' t p (toldC d) 39 (slV x) k2''
    rw [e, toldC_set d p h4 x]
    rfl
  · unfold upd
    split
    · exact ⟨hj.keep hfx hbs.size (fun i hi hn => hbs.block i hi (by simp only [List.mem_cons, not_or] at hn; simpa using hn.1)), hfx⟩
    · obtain ⟨s1, s2⟩ := k3 i hi
      have s3 : SlR w' (d i) (T i) := s1.keep s2 hb.size (fun i hi hn => hb.block i hi (by simp only [List.mem_cons, not_or] at hn; simpa using hn.2.1))
      exact ⟨(s3.below hb2).keep s2 hbs.size (fun i hi hn => hbs.block i hi (by simp only [List.mem_cons, not_or] at hn; simpa using hn.1)), s2⟩
  · have b1 := But.below k4 hb k4.size hg
    have b2 := below_then b1 b1.size hb2
    exact But.below b2 hbs b2.size ht
theorem bit1 (x : Int) (h : i64' x) : bits .and .i64 x 1 = x % 2 := by
  unfold i64' at h
  have e1 : (BitVec.ofInt 64 x).toNat % 2 = (x % 2).toNat := by
    rw [BitVec.toNat_ofInt]
    omega
  show IntKind.i64.wrap ((BitVec.ofInt 64 x &&& BitVec.ofInt 64 1).toNat : Int) = _
  rw [BitVec.toNat_and, show (BitVec.ofInt 64 1).toNat = 2 ^ 1 - 1 from by decide, Nat.and_two_pow_sub_one_eq_mod, show 2 ^ 1 = 2 from rfl, e1, IntKind.wrap_i64]
  omega
set_option maxHeartbeats 16000000 in
theorem hleast_any (a0 : Option Addr) (n c : Nat) (xs : List HOp) (v : Sl) (vs : List Int) (w : World) (h : ReadsE HOp.cs 4 w a0 n xs) (hok : ∀ o ∈ xs, o.ok w) (hnc : n ≤ c) (hcb : c ≤ 9223372036854775807) (hv : SlR w v vs) :
    Calls Try.prog 5 #[.slice a0 n c, .slice v.a v.n v.c] w fun e w' => e = .returned (.bool true) ∧ Below w.heap.size w w' := by
  have H := Lib.hid h
  have HVV := Lib.hid hv
  have z0 : i64' 0 := ⟨by decide, by decide⟩
  have z4 : i64' 4 := ⟨by decide, by decide⟩
  have z5 : i64' 5 := ⟨by decide, by decide⟩
  clear h hv
  go_enter Try.func5, Try.ntmps5
  go_upto_region 2 with (go_at_call 8; refine (hawake_any _).mono ?_; rintro e w1 ⟨rfl, dn⟩; have HB := Lib.hid dn; clear dn)
  go_upto_region 5 with (go_at_call 9; refine (pnew_any [] _ _ _ _ z0 z4 z5).mono ?_; rintro e w2 ⟨rfl, hq, d3⟩; have hgw := HB.out.size; have HP := Lib.hid hq; have HB := Lib.hid (below_then HB.out HB.out.size d3); clear hq d3)
  generalize w1.heap.size = g at *
  go_upto_region 6 with (go_at_call 13; refine (few19_any v vs _ (HVV.out.below HB.out)).mono ?_; rintro e w3 ⟨rfl, rfl⟩)
  have HCV := Lib.hid (show SlR w v.cut (vs.take 12) from HVV.out.cut)
  generalize v.cut = y at *
  generalize vs.take 12 = ys at *
  go_upto_region 7 with fail
  have hgt : g < w2.heap.size := HP.out.lt
  have LI : Hid (LeI w g w2.heap.size (newP 0 4 5) (fun _ => []) (w2.alloc (.cells #[.slice none 0 0, .slice none 0 0, .slice none 0 0, .slice none 0 0] 39 (0, 0)))) := by
    refine ⟨(HP.out.grow (Nat.le_refl _)).below ((Below.refl _ _).alloc (Nat.le_refl _) _), ⟨fun _ => ⟨none, 0, 0⟩, heap_alloc_new w2 _, fun i hi => ⟨⟨⟨rfl, .inl rfl⟩, Nat.le_refl _, by show (0 : Nat) ≤ 9223372036854775807; decide⟩, .inl rfl⟩⟩, ?_, to_first⟩
    exact HB.out.alloc HB.out.size _
  have hne : w2.heap.size ≠ g := by omega
  have htw : w.heap.size ≤ w2.heap.size := HB.out.size
  generalize w2.heap.size = t at *
  generalize World.alloc _ _ = w3 at *
  clear HP HB hgt
  obtain ⟨m0, hm0⟩ : ∃ m, newP 0 4 5 = m := ⟨_, rfl⟩
  obtain ⟨T0, hT0⟩ : ∃ T : Nat → List Int, (fun _ => []) = T := ⟨_, rfl⟩
  rw [hm0, hT0] at LI
  clear hm0 hT0
  go_upto_block 0 with fail
  go_cut [8] (fun i wx => ∃ m T, LeI w g t m T wx)
  case first =>
    go_wp2_with fail
    go_loopw [8, 9, 10] (fun i _ _ wr => ∃ (k : Nat) (m : PeM) (T : Nat → List Int), k ≤ n ∧ k ≤ 40 ∧ i = .int .i64 k ∧ LeI w g t m T wr) (fun i _ _ _ => 41 - (intOf i).toNat)
    case atStart => exact ⟨0, m0, T0, by omega, by omega, rfl, LI.out⟩
    case round =>
      obtain ⟨k, m, T, hk, hk40, rfl, hL⟩ := hrel
      have LI := Lib.hid hL
      clear hL
      by_cases hkl : k < n ∧ k < 40
      · have t1 : decide ((k : Int) < (n : Int)) = true := decide_eq_true (by omega)
        have t2 : decide ((k : Int) < 40) = true := decide_eq_true (by omega)
        obtain ⟨b, o, op, rfl, hxk, hC⟩ := hops_at H.out k hkl.1
        have hop := hok op (List.mem_of_getElem? hxk)
        have hC := hC wr LI.out.b
        have c1 := hC 1 (.int .i64 op.site) rfl
        have c3 := hC 3 (.slice op.v.a op.v.n op.v.c) rfl
        have i1 : (0 : Int) ≤ (k : Int) := by omega
        have i2 : (k : Int) < (n : Int) := by omega
        have HO := Lib.hid hop
        have hb1 := bit1 op.site hop.site
        have hsr := hop.site
        clear hC hop hxk
        generalize op.site = s at *
        go_upto_region 10 with fail
        refine wp_region_held_drew (S := (fun wx => wx.cell? ⟨b, o + k * 4 + 1, none⟩ = some (.int .i64 s))) (by kernel_rfl) ?_ (fun hHeld => ?_)
        focus ((try dsimp only); (try (exact c1)); done)
        (refine wpAnyH_take (i := 0) (oi := { dst := some 36, op := Go.Op.move (Go.Operand.tmp 0), type := 30, pos := "law.go:202", after := #[], guard := none }) (v := ?_) rfl (by kernel_rfl) (by kernel_rfl) (by kernel_rfl) (fun _ _ _ h => h) (Or.inl ⟨by rfl, ?_⟩) (by assumption) ?_; rotate_left; (focus (intro w hSw; ((try dsimp only at hSw); go_simp; try with_reducible rfl))); (try simp only [Act.put, List.setIfInBounds_toArray, List.set_cons_zero, List.set_cons_succ]))
        (refine wpAnyH_take (i := 1) (oi := { dst := some 37, op := Go.Op.move (Go.Operand.tmp 8), type := 3, pos := "law.go:202", after := #[], guard := none }) (v := ?_) rfl (by kernel_rfl) (by kernel_rfl) (by kernel_rfl) (fun _ _ _ h => h) (Or.inl ⟨by rfl, ?_⟩) (by assumption) ?_; rotate_left; (focus (intro w hSw; ((try dsimp only at hSw); go_simp; try with_reducible rfl))); (try simp only [Act.put, List.setIfInBounds_toArray, List.set_cons_zero, List.set_cons_succ]))
        (refine wpAnyH_take (i := 2) (oi := { dst := some 38, op := Go.Op.indexAddr 30 (Go.Operand.tmp 36) (Go.Operand.tmp 37), type := 0, pos := "law.go:202", after := #[{ on := 0, ground := Go.Ground.data }, { on := 1, ground := Go.Ground.data }], guard := none }) (v := ?_) rfl (by kernel_rfl) (by kernel_rfl) (by kernel_rfl) (fun _ _ _ h => h) (Or.inl ⟨by rfl, ?_⟩) (by assumption) ?_; rotate_left; (focus (intro w hSw; ((try dsimp only at hSw); go_simp; try with_reducible rfl))); (try simp only [Act.put, List.setIfInBounds_toArray, List.set_cons_zero, List.set_cons_succ]))
        (refine wpAnyH_take (i := 3) (oi := { dst := some 39, op := Go.Op.fieldAddr 34 (Go.Operand.tmp 38) 1, type := 0, pos := "law.go:202", after := #[{ on := 2, ground := Go.Ground.data }], guard := none }) (v := ?_) rfl (by kernel_rfl) (by kernel_rfl) (by kernel_rfl) (fun _ _ _ h => h) (Or.inl ⟨by rfl, ?_⟩) (by assumption) ?_; rotate_left; (focus (intro w hSw; ((try dsimp only at hSw); go_simp; try with_reducible rfl))); (try simp only [Act.put, List.setIfInBounds_toArray, List.set_cons_zero, List.set_cons_succ]))
        (refine wpAnyH_take (i := 4) (oi := { dst := some 40, op := Go.Op.load 3 (Go.Operand.tmp 39), type := 3, pos := "law.go:202", after := #[{ on := 3, ground := Go.Ground.data }], guard := none }) (v := ?_) rfl (by kernel_rfl) (by kernel_rfl) (by kernel_rfl) (fun _ _ _ h => h) (Or.inl ⟨by rfl, ?_⟩) (by assumption) ?_; rotate_left; (focus (intro w hSw; ((try dsimp only at hSw); go_simp; try with_reducible rfl))); (try simp only [Act.put, List.setIfInBounds_toArray, List.set_cons_zero, List.set_cons_succ]))
        (refine wpAnyH_take (i := 5) (oi := { dst := some 41, op := Go.Op.binOp Go.BinOp.and 3 (Go.Operand.tmp 40) (Go.Operand.const (Go.Value.int Go.IntKind.i64 1)) 3, type := 3, pos := "law.go:202", after := #[{ on := 4, ground := Go.Ground.data }], guard := none }) (v := ?_) rfl (by kernel_rfl) (by kernel_rfl) (by kernel_rfl) (fun _ _ _ h => h) (Or.inl ⟨by rfl, ?_⟩) (by assumption) ?_; rotate_left; (focus (intro w hSw; ((try dsimp only at hSw); go_simp; try with_reducible rfl))); (try simp only [Act.put, List.setIfInBounds_toArray, List.set_cons_zero, List.set_cons_succ]))
        (refine wpAnyH_take (i := 6) (oi := { dst := some 42, op := Go.Op.binOp Go.BinOp.add 3 (Go.Operand.const (Go.Value.int Go.IntKind.i64 1)) (Go.Operand.tmp 41) 3, type := 3, pos := "law.go:202", after := #[{ on := 5, ground := Go.Ground.data }], guard := none }) (v := ?_) rfl (by kernel_rfl) (by kernel_rfl) (by kernel_rfl) (fun _ _ _ h => h) (Or.inl ⟨by rfl, ?_⟩) (by assumption) ?_; rotate_left; (focus (intro w hSw; ((try dsimp only at hSw); go_simp; try with_reducible rfl))); (try simp only [Act.put, List.setIfInBounds_toArray, List.set_cons_zero, List.set_cons_succ]))
        (refine wpAnyH_take (i := 7) (oi := { dst := some 43, op := Go.Op.move (Go.Operand.tmp 0), type := 30, pos := "law.go:202", after := #[], guard := none }) (v := ?_) rfl (by kernel_rfl) (by kernel_rfl) (by kernel_rfl) (fun _ _ _ h => h) (Or.inl ⟨by rfl, ?_⟩) (by assumption) ?_; rotate_left; (focus (intro w hSw; ((try dsimp only at hSw); go_simp; try with_reducible rfl))); (try simp only [Act.put, List.setIfInBounds_toArray, List.set_cons_zero, List.set_cons_succ]))
        (refine wpAnyH_take (i := 8) (oi := { dst := some 44, op := Go.Op.move (Go.Operand.tmp 8), type := 3, pos := "law.go:202", after := #[], guard := none }) (v := ?_) rfl (by kernel_rfl) (by kernel_rfl) (by kernel_rfl) (fun _ _ _ h => h) (Or.inl ⟨by rfl, ?_⟩) (by assumption) ?_; rotate_left; (focus (intro w hSw; ((try dsimp only at hSw); go_simp; try with_reducible rfl))); (try simp only [Act.put, List.setIfInBounds_toArray, List.set_cons_zero, List.set_cons_succ]))
        (refine wpAnyH_take (i := 9) (oi := { dst := some 45, op := Go.Op.indexAddr 30 (Go.Operand.tmp 43) (Go.Operand.tmp 44), type := 0, pos := "law.go:202", after := #[{ on := 7, ground := Go.Ground.data }, { on := 8, ground := Go.Ground.data }], guard := none }) (v := ?_) rfl (by kernel_rfl) (by kernel_rfl) (by kernel_rfl) (fun _ _ _ h => h) (Or.inl ⟨by rfl, ?_⟩) (by assumption) ?_; rotate_left; (focus (intro w hSw; ((try dsimp only at hSw); go_simp; try with_reducible rfl))); (try simp only [Act.put, List.setIfInBounds_toArray, List.set_cons_zero, List.set_cons_succ]))
        (refine wpAnyH_take (i := 10) (oi := { dst := some 46, op := Go.Op.fieldAddr 34 (Go.Operand.tmp 45) 1, type := 0, pos := "law.go:202", after := #[{ on := 9, ground := Go.Ground.data }], guard := none }) (v := ?_) rfl (by kernel_rfl) (by kernel_rfl) (by kernel_rfl) (fun _ _ _ h => h) (Or.inl ⟨by rfl, ?_⟩) (by assumption) ?_; rotate_left; (focus (intro w hSw; ((try dsimp only at hSw); go_simp; try with_reducible rfl))); (try simp only [Act.put, List.setIfInBounds_toArray, List.set_cons_zero, List.set_cons_succ]))
        (refine wpAnyH_take (i := 11) (oi := { dst := some 47, op := Go.Op.load 3 (Go.Operand.tmp 46), type := 3, pos := "law.go:202", after := #[{ on := 10, ground := Go.Ground.data }], guard := none }) (v := ?_) rfl (by kernel_rfl) (by kernel_rfl) (by kernel_rfl) (fun _ _ _ h => h) (Or.inl ⟨by rfl, ?_⟩) (by assumption) ?_; rotate_left; (focus (intro w hSw; ((try dsimp only at hSw); go_simp; try with_reducible rfl))); (try simp only [Act.put, List.setIfInBounds_toArray, List.set_cons_zero, List.set_cons_succ]))
        (refine wpAnyH_take (i := 12) (oi := { dst := some 48, op := Go.Op.binOp Go.BinOp.shr 3 (Go.Operand.tmp 47) (Go.Operand.const (Go.Value.int Go.IntKind.u64 1)) 40, type := 3, pos := "law.go:202", after := #[{ on := 11, ground := Go.Ground.data }], guard := none }) (v := ?_) rfl (by kernel_rfl) (by kernel_rfl) (by kernel_rfl) (fun _ _ _ h => h) (Or.inl ⟨by rfl, ?_⟩) (by assumption) ?_; rotate_left; (focus (intro w hSw; ((try dsimp only at hSw); go_simp; try with_reducible rfl))); (try simp only [Act.put, List.setIfInBounds_toArray, List.set_cons_zero, List.set_cons_succ]))
        (refine wpAnyH_take (i := 13) (oi := { dst := some 49, op := Go.Op.binOp Go.BinOp.and 3 (Go.Operand.tmp 48) (Go.Operand.const (Go.Value.int Go.IntKind.i64 1)) 3, type := 3, pos := "law.go:202", after := #[{ on := 12, ground := Go.Ground.data }], guard := none }) (v := ?_) rfl (by kernel_rfl) (by kernel_rfl) (by kernel_rfl) (fun _ _ _ h => h) (Or.inl ⟨by rfl, ?_⟩) (by assumption) ?_; rotate_left; (focus (intro w hSw; ((try dsimp only at hSw); go_simp; try with_reducible rfl))); (try simp only [Act.put, List.setIfInBounds_toArray, List.set_cons_zero, List.set_cons_succ]))
        (refine wpAnyH_take (i := 14) (oi := { dst := some 50, op := Go.Op.binOp Go.BinOp.add 3 (Go.Operand.tmp 42) (Go.Operand.tmp 49) 3, type := 3, pos := "law.go:202", after := #[{ on := 6, ground := Go.Ground.data }, { on := 13, ground := Go.Ground.data }], guard := none }) (v := ?_) rfl (by kernel_rfl) (by kernel_rfl) (by kernel_rfl) (fun _ _ _ h => h) (Or.inl ⟨by rfl, ?_⟩) (by assumption) ?_; rotate_left; (focus (intro w hSw; ((try dsimp only at hSw); go_simp; try with_reducible rfl))); (try simp only [Act.put, List.setIfInBounds_toArray, List.set_cons_zero, List.set_cons_succ]))
        (refine wpAnyH_take (i := 15) (oi := { dst := some 9, op := Go.Op.assign (Go.Operand.tmp 50), type := 3, pos := "law.go:202", after := #[{ on := 14, ground := Go.Ground.data }, { on := 0, ground := Go.Ground.phase }, { on := 1, ground := Go.Ground.phase }, { on := 2, ground := Go.Ground.phase }, { on := 3, ground := Go.Ground.phase }, { on := 4, ground := Go.Ground.phase }, { on := 5, ground := Go.Ground.phase }, { on := 6, ground := Go.Ground.phase }, { on := 7, ground := Go.Ground.phase }, { on := 8, ground := Go.Ground.phase }, { on := 9, ground := Go.Ground.phase }, { on := 10, ground := Go.Ground.phase }, { on := 11, ground := Go.Ground.phase }, { on := 12, ground := Go.Ground.phase }, { on := 13, ground := Go.Ground.phase }, { on := 14, ground := Go.Ground.phase }], guard := none }) (v := ?_) rfl (by kernel_rfl) (by kernel_rfl) (by kernel_rfl) (fun _ _ _ h => h) (Or.inl ⟨by rfl, ?_⟩) (by assumption) ?_; rotate_left; (focus (intro w hSw; ((try dsimp only at hSw); go_simp; try with_reducible rfl))); (try simp only [Act.put, List.setIfInBounds_toArray, List.set_cons_zero, List.set_cons_succ]))
        refine wpAnyH_done (by kernel_rfl) ?_ _
        obtain ⟨p, hp, hp1, hp4⟩ : ∃ p : Nat, IntKind.i64.wrap (IntKind.i64.wrap (1 + s % 2) + bits .and .i64 (s / 2) 1) = (p : Int) ∧ 1 ≤ p ∧ p < 4 := by
          have e : bits .and .i64 (s / 2) 1 = s / 2 % 2 := bit1 _ (by unfold i64' at *; omega)
          rw [e]
          have w1 : IntKind.i64.wrap (1 + s % 2) = 1 + s % 2 := by rw [IntKind.wrap_i64]; omega
          have w2 : IntKind.i64.wrap (1 + s % 2 + s / 2 % 2) = 1 + s % 2 + s / 2 % 2 := by rw [IntKind.wrap_i64]; omega
          rw [w1, w2]
          exact ⟨(1 + s % 2 + s / 2 % 2).toNat, by omega, by omega, by omega⟩
        rw [hp]
        have LI := Lib.hid (show LeI w g t m T wr.drew from LI.out.below (Below.same (Below.refl _ _) rfl rfl rfl rfl))
        have c3 : wr.drew.cell? ⟨b, o + k * 4 + 3, none⟩ = some (.slice op.v.a op.v.n op.v.c) := c3
        clear hHeld hsr hp c1 hb1
        generalize wr.drew = wd at *
        go_upto_region 12 with (go_at_call 13; refine (few19_any op.v op.vs _ (HO.out.v.below LI.out.b)).mono ?_; rintro e w3 ⟨rfl, rfl⟩)
        have HX := Lib.hid (show SlR w op.v.cut (op.vs.take 12) from HO.out.v.cut)
        clear c3 HO
        generalize op.v.cut = x at *
        generalize op.vs.take 12 = ds at *
        go_upto_region 13 with (go_at_call 14; refine (pnote_any [t, g] g m (p : Int) x ds wd LI.out.p (by simp) LI.out.lt (HX.out.below LI.out.b)).mono ?_; rintro e w4 ⟨rfl, hq, dn⟩; have HN := Lib.hid (And.intro hq dn); clear hq dn)
        have hx4 : SlR w4 x ds := HX.out.below (But.below LI.out.b HN.out.2 LI.out.b.size hgw)
        obtain ⟨d, k2, k3⟩ := LI.out.row
        have k2' : w4.heap[t]? = some (toldO d) := (HN.out.2.block t (heap_lt k2) (by simpa using hne)).trans k2
        have s3 : SlR w4 (d p) (T p) := (k3 p hp4).1.keep (k3 p hp4).2 HN.out.2.size (fun i hi hn => HN.out.2.block i hi (by simp only [List.mem_cons, not_or] at hn; simpa using hn.2.1))
        have q0 : w4.cell? ⟨t, p, none⟩ = some (slV (d p)) := by simp only [World.cell?, k2', toldO]; exact toldC_get d p hp4
        unfold slV at q0
        have JN := rjoin_any (d p).a x.a (d p).n (d p).c x.n x.c (T p) ds w4 s3.r hx4.r s3.nc s3.cb hx4.nc hx4.cb
        have i3 : (0 : Int) ≤ (p : Int) := by omega
        have i4 : (p : Int) < 4 := by omega
        have HT := Lib.hid k2'
        have HJ : Hid (∀ (a' : Option Addr) (cap' : Nat) (w5 : World), (joinV (T p) ds).length ≤ cap' → cap' ≤ 9223372036854775807 → VecAt w5 w4.heap.size a' (joinV (T p) ds) → Below w4.heap.size w4 w5 → LeI w g t (noteM m (p : Int) ds).1 (upd T p (joinV (T p) ds)) (w5.setCell ⟨t, p, none⟩ (.slice a' (joinV (T p) ds).length cap'))) := fun a' cap' w5 l1 l2 hV dn => by
          refine LI.out.told (x := ⟨a', (joinV (T p) ds).length, cap'⟩) hne hgw htw hp1 hp4 HN.out.1 HN.out.2 ⟨hV.reads, l1, l2⟩ ?_ dn
          rcases hV.own with h0 | ⟨q, e1, e2, _⟩
          · exact .inl (by show (joinV (T p) ds).length = 0; rw [h0]; rfl)
          · exact .inr fun r hr => by
              have hr : a' = some r := hr
              rw [e1] at hr
              cases hr
              exact e2
        clear hx4 k2 k3 k2' s3
        generalize joinV (T p) ds = js at *
        go_wp2_with (go_at_call 25; refine JN.mono ?_; rintro e w5 ⟨a', cap', rfl, l1, l2, hV, dn⟩; have f5 : w5.frozen? ⟨t, p, none⟩ = false := (by have e := (dn.block t (heap_lt HT.out)).trans HT.out; simp [World.frozen?, e, toldO]); have q5 : w5.cell? ⟨t, p, none⟩ = some (slV (d p)) := (by have e := (dn.block t (heap_lt HT.out)).trans HT.out; simp only [World.cell?, e, toldO]; exact toldC_get d p hp4); have FIN := Lib.hid (HJ.out a' cap' w5 l1 l2 hV dn); clear l1 l2 hV dn)
        go_roundw
        case rel => exact ⟨k + 1, _, _, by omega, by omega, by go_num, FIN.out⟩
        case measure => simp [intOf]; omega
      · have HFIN := Lib.hid (show ∃ m T, LeI w g t m T wr from ⟨m, T, LI.out⟩)
        by_cases hkn : k < n
        · have t1 : decide ((k : Int) < (n : Int)) = true := decide_eq_true (by omega)
          have t2 : decide ((k : Int) < 40) = false := decide_eq_false (by omega)
          go_wp2_with fail
          go_meet
          exact HFIN.out
        · have t1 : decide ((k : Int) < (n : Int)) = false := decide_eq_false (by omega)
          go_wp2_with fail
          go_meet
          exact HFIN.out
  case rest =>
    obtain ⟨m, T, hL⟩ := hcut
    have LI := Lib.hid hL
    have LM := least_mine m ys
    have LO := Lib.hid (fun (p : Nat) h1 h4 => show covV (T p) (leastM m ys) = true by rw [← hL.law.eq p h1 h4]; exact least_of m ys p (by omega) (hL.law.o p h1 h4))
    have TF := those_first hL.law (behP m ys)
    have TL := those_last hL.law (behP m ys)
    have TA := Lib.hid (fun (p : Nat) h1 h4 => those_at m (behP m ys) p (by omega) (hL.law.o p h1 h4))
    have TN := Lib.hid (fun (p : Nat) h1 h4 => those_next m (behP m ys) p (hL.law.o p h1 h4))
    have TB := Lib.hid (fun (p : Nat) h1 h4 => show behP m ys p = !covV (T p) ys by unfold behP; rw [hL.law.eq p h1 h4])
    clear hL hok H z0 z4 z5
    go_upto_region 16 with (first
      | (go_at_call 20; refine (pleast_any [t, g] g m y ys _ LI.out.p (HCV.out.below LI.out.b)).mono ?_; rintro e w4 ⟨lo, rfl, hs, _, dn⟩; have LI := Lib.hid (LI.out.below dn); have HL := Lib.hid hs; clear hs dn)
      | (go_at_call 26; refine (rcovers_any y.a lo.a y.n y.c lo.n lo.c ys (leastM m ys) _ (HCV.out.below LI.out.b).r HL.out.r HCV.out.nc HCV.out.cb HL.out.nc HL.out.cb).mono ?_; rintro e w5 ⟨rfl, dn⟩; rw [LM]; have LI := Lib.hid (LI.out.below dn); have HL := Lib.hid (HL.out.below dn); clear dn))
    clear LM
    obtain ⟨ls, hls⟩ : ∃ ls, leastM m ys = ls := ⟨_, rfl⟩
    rw [hls] at HL LO
    clear hls
    have BH := pbehind_any [t, g] g m y ys _ LI.out.p (HCV.out.below LI.out.b)
    have hB8 : (behM m ys).length ≤ 8 := thoseK_len _ _ _
    unfold behM at BH hB8
    obtain ⟨Bs, hBs⟩ : ∃ Bs, thoseK m (behP m ys) 8 = Bs := ⟨_, rfl⟩
    rw [hBs] at BH hB8 TL
    have TA : Hid (∀ p : Nat, 1 ≤ p → p < 4 → (Bs[(thoseK m (behP m ys) p).length]? = some (p : Int) ↔ behP m ys p = true)) := fun p h1 h4 => by rw [← hBs]; exact TA.out p h1 h4
    clear hBs
    go_upto_region 19 with (go_at_call 22; refine BH.mono ?_; rintro e w6 ⟨bo, rfl, hs, dn⟩; have LI := Lib.hid (LI.out.below dn); have HL := Lib.hid (HL.out.below dn); have HBO := Lib.hid hs; clear hs dn)
    obtain ⟨ba, bn, bc⟩ := bo
    have hbn : Bs.length = bn := HBO.out.r.1
    obtain ⟨N, hN⟩ : ∃ N : Nat → Nat, ∀ p, N p = (thoseK m (behP m ys) p).length := ⟨fun p => (thoseK m (behP m ys) p).length, fun _ => rfl⟩
    have n1 : N 1 = 0 := by rw [hN, TF]; rfl
    have n4 : N 4 = bn := by rw [hN, ← TL, hbn]
    have TA : Hid (∀ p : Nat, 1 ≤ p → p < 4 → (Bs[N p]? = some (p : Int) ↔ behP m ys p = true)) := fun p h1 h4 => by rw [hN]; exact TA.out p h1 h4
    have TN : Hid (∀ p : Nat, 1 ≤ p → p < 4 → N (p + 1) = if behP m ys p = true then N p + 1 else N p) := fun p h1 h4 => by rw [hN, hN]; exact TN.out p h1 h4
    clear TF TL hN BH
    go_wp2_with fail
    go_loopw [14, 15, 16, 17, 18, 19] (fun a p _ _ _ _ wr => ∃ k : Nat, 1 ≤ k ∧ k ≤ 4 ∧ p = .int .i64 k ∧ a = .int .i64 (N k) ∧ LeI w g t m T wr ∧ SlR wr lo ls ∧ SlR wr ⟨ba, bn, bc⟩ Bs) (fun _ p _ _ _ _ _ => 5 - (intOf p).toNat)
    case atStart => exact ⟨1, by omega, by omega, rfl, by rw [n1]; rfl, LI.out, HL.out, HBO.out⟩
    case round =>
      obtain ⟨k, hk1, hk5, rfl, rfl, hL, hl, hb⟩ := hrel
      have LI := Lib.hid hL
      have HL := Lib.hid hl
      have HBO := Lib.hid hb
      clear hL hl hb
      by_cases hk4 : k < 4
      · have t1 : decide ((k : Int) < 4) = true := decide_eq_true (by omega)
        have i1 : (0 : Int) ≤ (k : Int) := by omega
        have i2 : (k : Int) < 4 := by omega
        obtain ⟨d, k2, k3⟩ := LI.out.row
        have s3 := (k3 k hk4).1
        have KK := Lib.hid (show Kn wr.heap.size wr [(t, toldO d)] wr from (Kn.start wr).put k2)
        have eo : ofM m (k : Int) = T k := by unfold ofM; rw [if_pos (LI.out.law.o k hk1 hk4), Int.toNat_natCast]; exact LI.out.law.eq k hk1 hk4
        have OF := fun wx (hb : Below wr.heap.size wr wx) => peof_any [t, g] g m (k : Int) wx (LI.out.p.below hb)
        rw [eo] at OF
        have SM : ∀ (o : Sl) (wx : World), SlR wx o (T k) → Below wr.heap.size wr wx → Calls Try.prog 17 #[.slice o.a o.n o.c, .slice (d k).a (d k).n (d k).c] wx fun e w' => e = .returned (.bool true) ∧ Below wx.heap.size wx w' := fun o wx h1 h2 => by
          have h3 := s3.below h2
          have C := same_any o.a (d k).a o.n o.c (d k).n (d k).c (T k) (T k) wx h1.r h3.r h1.nc h1.cb h3.nc h3.cb
          rw [decide_eq_true rfl] at C
          exact C
        have C1 : ∀ wx, Below wr.heap.size wr wx → Calls Try.prog 26 #[.slice (d k).a (d k).n (d k).c, .slice lo.a lo.n lo.c] wx fun e w' => e = .returned (.bool true) ∧ Below wx.heap.size wx w' := fun wx hb => by
          have h3 := s3.below hb
          have h4 := HL.out.below hb
          have C := rcovers_any (d k).a lo.a (d k).n (d k).c lo.n lo.c (T k) ls wx h3.r h4.r h3.nc h3.cb h4.nc h4.cb
          rw [LO.out k hk1 hk4] at C
          exact C
        have C2 : ∀ wx, Below wr.heap.size wr wx → Calls Try.prog 26 #[.slice (d k).a (d k).n (d k).c, .slice y.a y.n y.c] wx fun e w' => e = .returned (.bool (covV (T k) ys)) ∧ Below wx.heap.size wx w' := fun wx hb => by
          have h3 := s3.below hb
          have h4 := HCV.out.below (LI.out.below hb).b
          exact rcovers_any (d k).a y.a (d k).n (d k).c y.n y.c (T k) ys wx h3.r h4.r h3.nc h3.cb h4.nc h4.cb
        have hta := TA.out k hk1 hk4
        have htn := TN.out k hk1 hk4
        have htb := TB.out k hk1 hk4
        clear eo k2 k3 s3
        cases hF : covV (T k) ys
        · rw [hF] at C2 htb
          rw [htb] at hta htn
          have hx := hta.2 rfl
          have HN := Lib.hid (show N (k + 1) = N k + 1 from htn.trans (if_pos rfl))
          have hlt : N k < bn := by rw [← hbn]; exact (List.getElem?_eq_some_iff.1 hx).1
          obtain ⟨bb, bq, rfl, hbl, hbc⟩ := hbc0 HBO.out.r (N k) hlt
          simp only [List.getD_eq_getElem?_getD, hx, Option.getD_some] at hbc
          clear hta htn htb hF hx
          have t3 : decide ((N k : Int) < (bn : Int)) = true := decide_eq_true (by omega)
          have i3 : (0 : Int) ≤ (N k : Int) := by omega
          have i4 : (N k : Int) < (bn : Int) := by omega
          have t4 : ((k : Int) == (k : Int)) = true := beq_self_eq_true _
          have hN8 : N k ≤ 8 := by omega
          go_upto_region 23 with fail
          refine wp_region_held_drew (S := (fun wx => wx.cell? ⟨t, k, none⟩ = some (.slice (d k).a (d k).n (d k).c))) (by kernel_rfl) ?_ (fun hHeld => ?_)
          focus ((try dsimp only); (try (exact told_held KK.out (by simp) hk4 rfl)); done)
          (refine wpAnyH_take (i := 0) (oi := { dst := some 83, op := Go.Op.move (Go.Operand.tmp 6), type := 24, pos := "law.go:215", after := #[], guard := none }) (v := ?_) rfl (by kernel_rfl) (by kernel_rfl) (by kernel_rfl) (fun _ _ _ h => h) (Or.inl ⟨by rfl, ?_⟩) (by assumption) ?_; rotate_left; (focus (intro w hSw; ((try dsimp only at hSw); go_simp; try with_reducible rfl))); (try simp only [Act.put, List.setIfInBounds_toArray, List.set_cons_zero, List.set_cons_succ]))
          (refine wpAnyH_take (i := 1) (oi := { dst := some 84, op := Go.Op.move (Go.Operand.tmp 15), type := 3, pos := "law.go:215", after := #[], guard := none }) (v := ?_) rfl (by kernel_rfl) (by kernel_rfl) (by kernel_rfl) (fun _ _ _ h => h) (Or.inl ⟨by rfl, ?_⟩) (by assumption) ?_; rotate_left; (focus (intro w hSw; ((try dsimp only at hSw); go_simp; try with_reducible rfl))); (try simp only [Act.put, List.setIfInBounds_toArray, List.set_cons_zero, List.set_cons_succ]))
          (refine wpAnyH_take (i := 3) (oi := { dst := some 86, op := Go.Op.move (Go.Operand.tmp 15), type := 3, pos := "law.go:215", after := #[], guard := none }) (v := ?_) rfl (by kernel_rfl) (by kernel_rfl) (by kernel_rfl) (fun _ _ _ h => h) (Or.inl ⟨by rfl, ?_⟩) (by assumption) ?_; rotate_left; (focus (intro w hSw; ((try dsimp only at hSw); go_simp; try with_reducible rfl))); (try simp only [Act.put, List.setIfInBounds_toArray, List.set_cons_zero, List.set_cons_succ]))
          (refine wpAnyH_take (i := 4) (oi := { dst := some 87, op := Go.Op.indexAddr 39 (Go.Operand.tmp 7) (Go.Operand.tmp 86), type := 0, pos := "law.go:215", after := #[{ on := 3, ground := Go.Ground.data }], guard := none }) (v := ?_) rfl (by kernel_rfl) (by kernel_rfl) (by kernel_rfl) (fun _ _ _ h => h) (Or.inl ⟨by rfl, ?_⟩) (by assumption) ?_; rotate_left; (focus (intro w hSw; ((try dsimp only at hSw); go_simp; try with_reducible rfl))); (try simp only [Act.put, List.setIfInBounds_toArray, List.set_cons_zero, List.set_cons_succ]))
          (refine wpAnyH_take (i := 5) (oi := { dst := some 88, op := Go.Op.load 26 (Go.Operand.tmp 87), type := 26, pos := "law.go:215", after := #[{ on := 4, ground := Go.Ground.data }], guard := none }) (v := ?_) rfl (by kernel_rfl) (by kernel_rfl) (by kernel_rfl) (fun _ _ _ h => h) (Or.inl ⟨by rfl, ?_⟩) (by assumption) ?_; rotate_left; (focus (intro w hSw; ((try dsimp only at hSw); go_simp; try with_reducible rfl))); (try simp only [Act.put, List.setIfInBounds_toArray, List.set_cons_zero, List.set_cons_succ]))
          (refine wpAnyH_ready (rs := [2]) (by kernel_rfl) (by simp) ?_; refine AllReadyH.cons (o := { dst := some 85, op := Go.Op.call { callee := Go.Callee.value (Go.Operand.func 18), args := #[Go.Operand.tmp 83, Go.Operand.tmp 84], argTypes := #[24, 3] }, type := 26, pos := "law.go:215", after := #[{ on := 0, ground := Go.Ground.data }, { on := 1, ground := Go.Ground.data }], guard := none }) rfl (fun K hK => ?_) AllReadyH.nil; go_simp; ((first | (go_at_call 18; refine (OF _ (Kn.same KK.out (by rfl) (by rfl) (by rfl) (by rfl)).b).mono ?_; rintro e wn ⟨o, rfl, hs, dn⟩; have KK := Lib.hid (Kn.later KK.out dn rfl rfl rfl rfl); have HO := Lib.hid hs; clear hs dn) | (go_at_call 17; refine (SM o _ (HO.out.same rfl) (Kn.same KK.out (by rfl) (by rfl) (by rfl) (by rfl)).b).mono ?_; rintro e wn ⟨rfl, dn⟩; have KK := Lib.hid (Kn.later KK.out dn rfl rfl rfl rfl)))); go_wp2_with fail; refine hK.out _ _ ?_ (fun hHeld => ?_); (focus ((try dsimp only); (try (exact told_held KK.out (by simp) hk4 rfl)); done)); clear hK; (try simp only [Act.put, List.setIfInBounds_toArray, List.set_cons_zero, List.set_cons_succ]))
          (refine wpAnyH_ready (rs := [6]) (by kernel_rfl) (by simp) ?_; refine AllReadyH.cons (o := { dst := some 89, op := Go.Op.call { callee := Go.Callee.value (Go.Operand.func 17), args := #[Go.Operand.tmp 85, Go.Operand.tmp 88], argTypes := #[26, 26] }, type := 4, pos := "law.go:215", after := #[{ on := 2, ground := Go.Ground.data }, { on := 5, ground := Go.Ground.data }, { on := 2, ground := Go.Ground.chain }], guard := none }) rfl (fun K hK => ?_) AllReadyH.nil; go_simp; ((first | (go_at_call 18; refine (OF _ (Kn.same KK.out (by rfl) (by rfl) (by rfl) (by rfl)).b).mono ?_; rintro e wn ⟨o, rfl, hs, dn⟩; have KK := Lib.hid (Kn.later KK.out dn rfl rfl rfl rfl); have HO := Lib.hid hs; clear hs dn) | (go_at_call 17; refine (SM o _ (HO.out.same rfl) (Kn.same KK.out (by rfl) (by rfl) (by rfl) (by rfl)).b).mono ?_; rintro e wn ⟨rfl, dn⟩; have KK := Lib.hid (Kn.later KK.out dn rfl rfl rfl rfl)))); go_wp2_with fail; refine hK.out _ _ ?_ (fun hHeld => ?_); (focus ((try dsimp only); (try (exact told_held KK.out (by simp) hk4 rfl)); done)); clear hK; (try simp only [Act.put, List.setIfInBounds_toArray, List.set_cons_zero, List.set_cons_succ]))
          (refine wpAnyH_take (i := 7) (oi := { dst := some 16, op := Go.Op.assign (Go.Operand.tmp 89), type := 4, pos := "law.go:215", after := #[{ on := 6, ground := Go.Ground.data }, { on := 6, ground := Go.Ground.chain }, { on := 0, ground := Go.Ground.phase }, { on := 1, ground := Go.Ground.phase }, { on := 2, ground := Go.Ground.phase }, { on := 3, ground := Go.Ground.phase }, { on := 4, ground := Go.Ground.phase }, { on := 5, ground := Go.Ground.phase }, { on := 6, ground := Go.Ground.phase }], guard := none }) (v := ?_) rfl (by kernel_rfl) (by kernel_rfl) (by kernel_rfl) (fun _ _ _ h => h) (Or.inl ⟨by rfl, ?_⟩) (by assumption) ?_; rotate_left; (focus (intro w hSw; ((try dsimp only at hSw); go_simp; try with_reducible rfl))); (try simp only [Act.put, List.setIfInBounds_toArray, List.set_cons_zero, List.set_cons_succ]))
          refine wpAnyH_done (by kernel_rfl) ?_ _
          have q0 := KK.out.cell (g := t) (o := toldO d) (by simp) (j := k) (v := slV (d k)) (toldC_get d k hk4)
          unfold slV at q0
          go_upto_region 25 with (go_at_call 26; refine (C1 _ (Kn.same KK.out (by rfl) (by rfl) (by rfl) (by rfl)).b).mono ?_; rintro e wn ⟨rfl, dn⟩; have KK := Lib.hid (Kn.later KK.out dn rfl rfl rfl rfl); clear dn)
          clear q0
          have q0 := KK.out.cell (g := t) (o := toldO d) (by simp) (j := k) (v := slV (d k)) (toldC_get d k hk4)
          unfold slV at q0
          go_upto_region 26 with (go_at_call 26; refine (C2 _ (Kn.same KK.out (by rfl) (by rfl) (by rfl) (by rfl)).b).mono ?_; rintro e wn ⟨rfl, dn⟩; have KK := Lib.hid (Kn.later KK.out dn rfl rfl rfl rfl); clear dn)
          clear q0 C1 C2 SM OF
          have FIN := Lib.hid (And.intro (LI.out.below KK.out.b) (And.intro (HL.out.below KK.out.b) (HBO.out.below KK.out.b)))
          have hbc := hbc _ KK.out.b
          go_wp2_with fail
          go_roundw
          case rel => exact ⟨k + 1, by omega, by omega, by go_num, by rw [HN.out]; go_num, FIN.out.1, FIN.out.2.1, FIN.out.2.2⟩
          case measure => simp [intOf]; omega
        · rw [hF] at C2 htb
          rw [htb] at hta htn
          have HN := Lib.hid (show N (k + 1) = N k from htn.trans (if_neg (by simp)))
          have hx : Bs[N k]? ≠ some (k : Int) := fun e => by have := hta.1 e; simp at this
          have i3 : (0 : Int) ≤ (N k : Int) := by omega
          by_cases hlt : N k < bn
          · have t3 : decide ((N k : Int) < (bn : Int)) = true := decide_eq_true (by omega)
            have i4 : (N k : Int) < (bn : Int) := by omega
            obtain ⟨bb, bq, rfl, hbl, hbc⟩ := hbc0 HBO.out.r (N k) hlt
            have hxx : Bs[N k]? = some (Bs.getD (N k) 0) := by rw [List.getD_eq_getElem?_getD, List.getElem?_eq_getElem (by omega)]; rfl
            generalize Bs.getD (N k) 0 = z at *
            have t4 : (z == (k : Int)) = false := beq_eq_false_iff_ne.2 (fun e => hx (by rw [hxx, e]))
            clear hta htn htb hF hx hxx
            go_upto_region 23 with fail
            refine wp_region_held_drew (S := (fun wx => wx.cell? ⟨t, k, none⟩ = some (.slice (d k).a (d k).n (d k).c))) (by kernel_rfl) ?_ (fun hHeld => ?_)
            focus ((try dsimp only); (try (exact told_held KK.out (by simp) hk4 rfl)); done)
            (refine wpAnyH_take (i := 0) (oi := { dst := some 83, op := Go.Op.move (Go.Operand.tmp 6), type := 24, pos := "law.go:215", after := #[], guard := none }) (v := ?_) rfl (by kernel_rfl) (by kernel_rfl) (by kernel_rfl) (fun _ _ _ h => h) (Or.inl ⟨by rfl, ?_⟩) (by assumption) ?_; rotate_left; (focus (intro w hSw; ((try dsimp only at hSw); go_simp; try with_reducible rfl))); (try simp only [Act.put, List.setIfInBounds_toArray, List.set_cons_zero, List.set_cons_succ]))
            (refine wpAnyH_take (i := 1) (oi := { dst := some 84, op := Go.Op.move (Go.Operand.tmp 15), type := 3, pos := "law.go:215", after := #[], guard := none }) (v := ?_) rfl (by kernel_rfl) (by kernel_rfl) (by kernel_rfl) (fun _ _ _ h => h) (Or.inl ⟨by rfl, ?_⟩) (by assumption) ?_; rotate_left; (focus (intro w hSw; ((try dsimp only at hSw); go_simp; try with_reducible rfl))); (try simp only [Act.put, List.setIfInBounds_toArray, List.set_cons_zero, List.set_cons_succ]))
            (refine wpAnyH_take (i := 3) (oi := { dst := some 86, op := Go.Op.move (Go.Operand.tmp 15), type := 3, pos := "law.go:215", after := #[], guard := none }) (v := ?_) rfl (by kernel_rfl) (by kernel_rfl) (by kernel_rfl) (fun _ _ _ h => h) (Or.inl ⟨by rfl, ?_⟩) (by assumption) ?_; rotate_left; (focus (intro w hSw; ((try dsimp only at hSw); go_simp; try with_reducible rfl))); (try simp only [Act.put, List.setIfInBounds_toArray, List.set_cons_zero, List.set_cons_succ]))
            (refine wpAnyH_take (i := 4) (oi := { dst := some 87, op := Go.Op.indexAddr 39 (Go.Operand.tmp 7) (Go.Operand.tmp 86), type := 0, pos := "law.go:215", after := #[{ on := 3, ground := Go.Ground.data }], guard := none }) (v := ?_) rfl (by kernel_rfl) (by kernel_rfl) (by kernel_rfl) (fun _ _ _ h => h) (Or.inl ⟨by rfl, ?_⟩) (by assumption) ?_; rotate_left; (focus (intro w hSw; ((try dsimp only at hSw); go_simp; try with_reducible rfl))); (try simp only [Act.put, List.setIfInBounds_toArray, List.set_cons_zero, List.set_cons_succ]))
            (refine wpAnyH_take (i := 5) (oi := { dst := some 88, op := Go.Op.load 26 (Go.Operand.tmp 87), type := 26, pos := "law.go:215", after := #[{ on := 4, ground := Go.Ground.data }], guard := none }) (v := ?_) rfl (by kernel_rfl) (by kernel_rfl) (by kernel_rfl) (fun _ _ _ h => h) (Or.inl ⟨by rfl, ?_⟩) (by assumption) ?_; rotate_left; (focus (intro w hSw; ((try dsimp only at hSw); go_simp; try with_reducible rfl))); (try simp only [Act.put, List.setIfInBounds_toArray, List.set_cons_zero, List.set_cons_succ]))
            (refine wpAnyH_ready (rs := [2]) (by kernel_rfl) (by simp) ?_; refine AllReadyH.cons (o := { dst := some 85, op := Go.Op.call { callee := Go.Callee.value (Go.Operand.func 18), args := #[Go.Operand.tmp 83, Go.Operand.tmp 84], argTypes := #[24, 3] }, type := 26, pos := "law.go:215", after := #[{ on := 0, ground := Go.Ground.data }, { on := 1, ground := Go.Ground.data }], guard := none }) rfl (fun K hK => ?_) AllReadyH.nil; go_simp; ((first | (go_at_call 18; refine (OF _ (Kn.same KK.out (by rfl) (by rfl) (by rfl) (by rfl)).b).mono ?_; rintro e wn ⟨o, rfl, hs, dn⟩; have KK := Lib.hid (Kn.later KK.out dn rfl rfl rfl rfl); have HO := Lib.hid hs; clear hs dn) | (go_at_call 17; refine (SM o _ (HO.out.same rfl) (Kn.same KK.out (by rfl) (by rfl) (by rfl) (by rfl)).b).mono ?_; rintro e wn ⟨rfl, dn⟩; have KK := Lib.hid (Kn.later KK.out dn rfl rfl rfl rfl)))); go_wp2_with fail; refine hK.out _ _ ?_ (fun hHeld => ?_); (focus ((try dsimp only); (try (exact told_held KK.out (by simp) hk4 rfl)); done)); clear hK; (try simp only [Act.put, List.setIfInBounds_toArray, List.set_cons_zero, List.set_cons_succ]))
            (refine wpAnyH_ready (rs := [6]) (by kernel_rfl) (by simp) ?_; refine AllReadyH.cons (o := { dst := some 89, op := Go.Op.call { callee := Go.Callee.value (Go.Operand.func 17), args := #[Go.Operand.tmp 85, Go.Operand.tmp 88], argTypes := #[26, 26] }, type := 4, pos := "law.go:215", after := #[{ on := 2, ground := Go.Ground.data }, { on := 5, ground := Go.Ground.data }, { on := 2, ground := Go.Ground.chain }], guard := none }) rfl (fun K hK => ?_) AllReadyH.nil; go_simp; ((first | (go_at_call 18; refine (OF _ (Kn.same KK.out (by rfl) (by rfl) (by rfl) (by rfl)).b).mono ?_; rintro e wn ⟨o, rfl, hs, dn⟩; have KK := Lib.hid (Kn.later KK.out dn rfl rfl rfl rfl); have HO := Lib.hid hs; clear hs dn) | (go_at_call 17; refine (SM o _ (HO.out.same rfl) (Kn.same KK.out (by rfl) (by rfl) (by rfl) (by rfl)).b).mono ?_; rintro e wn ⟨rfl, dn⟩; have KK := Lib.hid (Kn.later KK.out dn rfl rfl rfl rfl)))); go_wp2_with fail; refine hK.out _ _ ?_ (fun hHeld => ?_); (focus ((try dsimp only); (try (exact told_held KK.out (by simp) hk4 rfl)); done)); clear hK; (try simp only [Act.put, List.setIfInBounds_toArray, List.set_cons_zero, List.set_cons_succ]))
            (refine wpAnyH_take (i := 7) (oi := { dst := some 16, op := Go.Op.assign (Go.Operand.tmp 89), type := 4, pos := "law.go:215", after := #[{ on := 6, ground := Go.Ground.data }, { on := 6, ground := Go.Ground.chain }, { on := 0, ground := Go.Ground.phase }, { on := 1, ground := Go.Ground.phase }, { on := 2, ground := Go.Ground.phase }, { on := 3, ground := Go.Ground.phase }, { on := 4, ground := Go.Ground.phase }, { on := 5, ground := Go.Ground.phase }, { on := 6, ground := Go.Ground.phase }], guard := none }) (v := ?_) rfl (by kernel_rfl) (by kernel_rfl) (by kernel_rfl) (fun _ _ _ h => h) (Or.inl ⟨by rfl, ?_⟩) (by assumption) ?_; rotate_left; (focus (intro w hSw; ((try dsimp only at hSw); go_simp; try with_reducible rfl))); (try simp only [Act.put, List.setIfInBounds_toArray, List.set_cons_zero, List.set_cons_succ]))
            refine wpAnyH_done (by kernel_rfl) ?_ _
            have q0 := KK.out.cell (g := t) (o := toldO d) (by simp) (j := k) (v := slV (d k)) (toldC_get d k hk4)
            unfold slV at q0
            go_upto_region 25 with (go_at_call 26; refine (C1 _ (Kn.same KK.out (by rfl) (by rfl) (by rfl) (by rfl)).b).mono ?_; rintro e wn ⟨rfl, dn⟩; have KK := Lib.hid (Kn.later KK.out dn rfl rfl rfl rfl); clear dn)
            clear q0
            have q0 := KK.out.cell (g := t) (o := toldO d) (by simp) (j := k) (v := slV (d k)) (toldC_get d k hk4)
            unfold slV at q0
            go_upto_region 26 with (go_at_call 26; refine (C2 _ (Kn.same KK.out (by rfl) (by rfl) (by rfl) (by rfl)).b).mono ?_; rintro e wn ⟨rfl, dn⟩; have KK := Lib.hid (Kn.later KK.out dn rfl rfl rfl rfl); clear dn)
            clear q0 C1 C2 SM OF
            have FIN := Lib.hid (And.intro (LI.out.below KK.out.b) (And.intro (HL.out.below KK.out.b) (HBO.out.below KK.out.b)))
            have hbc := hbc _ KK.out.b
            go_wp2_with fail
            go_roundw
            case rel => exact ⟨k + 1, by omega, by omega, by go_num, by rw [HN.out], FIN.out.1, FIN.out.2.1, FIN.out.2.2⟩
            case measure => simp [intOf]; omega
          · have t3 : decide ((N k : Int) < (bn : Int)) = false := decide_eq_false (by omega)
            clear hta htn htb hF hx
            go_upto_region 23 with fail
            refine wp_region_held_drew (S := (fun wx => wx.cell? ⟨t, k, none⟩ = some (.slice (d k).a (d k).n (d k).c))) (by kernel_rfl) ?_ (fun hHeld => ?_)
            focus ((try dsimp only); (try (exact told_held KK.out (by simp) hk4 rfl)); done)
            (refine wpAnyH_take (i := 0) (oi := { dst := some 83, op := Go.Op.move (Go.Operand.tmp 6), type := 24, pos := "law.go:215", after := #[], guard := none }) (v := ?_) rfl (by kernel_rfl) (by kernel_rfl) (by kernel_rfl) (fun _ _ _ h => h) (Or.inl ⟨by rfl, ?_⟩) (by assumption) ?_; rotate_left; (focus (intro w hSw; ((try dsimp only at hSw); go_simp; try with_reducible rfl))); (try simp only [Act.put, List.setIfInBounds_toArray, List.set_cons_zero, List.set_cons_succ]))
            (refine wpAnyH_take (i := 1) (oi := { dst := some 84, op := Go.Op.move (Go.Operand.tmp 15), type := 3, pos := "law.go:215", after := #[], guard := none }) (v := ?_) rfl (by kernel_rfl) (by kernel_rfl) (by kernel_rfl) (fun _ _ _ h => h) (Or.inl ⟨by rfl, ?_⟩) (by assumption) ?_; rotate_left; (focus (intro w hSw; ((try dsimp only at hSw); go_simp; try with_reducible rfl))); (try simp only [Act.put, List.setIfInBounds_toArray, List.set_cons_zero, List.set_cons_succ]))
            (refine wpAnyH_take (i := 3) (oi := { dst := some 86, op := Go.Op.move (Go.Operand.tmp 15), type := 3, pos := "law.go:215", after := #[], guard := none }) (v := ?_) rfl (by kernel_rfl) (by kernel_rfl) (by kernel_rfl) (fun _ _ _ h => h) (Or.inl ⟨by rfl, ?_⟩) (by assumption) ?_; rotate_left; (focus (intro w hSw; ((try dsimp only at hSw); go_simp; try with_reducible rfl))); (try simp only [Act.put, List.setIfInBounds_toArray, List.set_cons_zero, List.set_cons_succ]))
            (refine wpAnyH_take (i := 4) (oi := { dst := some 87, op := Go.Op.indexAddr 39 (Go.Operand.tmp 7) (Go.Operand.tmp 86), type := 0, pos := "law.go:215", after := #[{ on := 3, ground := Go.Ground.data }], guard := none }) (v := ?_) rfl (by kernel_rfl) (by kernel_rfl) (by kernel_rfl) (fun _ _ _ h => h) (Or.inl ⟨by rfl, ?_⟩) (by assumption) ?_; rotate_left; (focus (intro w hSw; ((try dsimp only at hSw); go_simp; try with_reducible rfl))); (try simp only [Act.put, List.setIfInBounds_toArray, List.set_cons_zero, List.set_cons_succ]))
            (refine wpAnyH_take (i := 5) (oi := { dst := some 88, op := Go.Op.load 26 (Go.Operand.tmp 87), type := 26, pos := "law.go:215", after := #[{ on := 4, ground := Go.Ground.data }], guard := none }) (v := ?_) rfl (by kernel_rfl) (by kernel_rfl) (by kernel_rfl) (fun _ _ _ h => h) (Or.inl ⟨by rfl, ?_⟩) (by assumption) ?_; rotate_left; (focus (intro w hSw; ((try dsimp only at hSw); go_simp; try with_reducible rfl))); (try simp only [Act.put, List.setIfInBounds_toArray, List.set_cons_zero, List.set_cons_succ]))
            (refine wpAnyH_ready (rs := [2]) (by kernel_rfl) (by simp) ?_; refine AllReadyH.cons (o := { dst := some 85, op := Go.Op.call { callee := Go.Callee.value (Go.Operand.func 18), args := #[Go.Operand.tmp 83, Go.Operand.tmp 84], argTypes := #[24, 3] }, type := 26, pos := "law.go:215", after := #[{ on := 0, ground := Go.Ground.data }, { on := 1, ground := Go.Ground.data }], guard := none }) rfl (fun K hK => ?_) AllReadyH.nil; go_simp; ((first | (go_at_call 18; refine (OF _ (Kn.same KK.out (by rfl) (by rfl) (by rfl) (by rfl)).b).mono ?_; rintro e wn ⟨o, rfl, hs, dn⟩; have KK := Lib.hid (Kn.later KK.out dn rfl rfl rfl rfl); have HO := Lib.hid hs; clear hs dn) | (go_at_call 17; refine (SM o _ (HO.out.same rfl) (Kn.same KK.out (by rfl) (by rfl) (by rfl) (by rfl)).b).mono ?_; rintro e wn ⟨rfl, dn⟩; have KK := Lib.hid (Kn.later KK.out dn rfl rfl rfl rfl)))); go_wp2_with fail; refine hK.out _ _ ?_ (fun hHeld => ?_); (focus ((try dsimp only); (try (exact told_held KK.out (by simp) hk4 rfl)); done)); clear hK; (try simp only [Act.put, List.setIfInBounds_toArray, List.set_cons_zero, List.set_cons_succ]))
            (refine wpAnyH_ready (rs := [6]) (by kernel_rfl) (by simp) ?_; refine AllReadyH.cons (o := { dst := some 89, op := Go.Op.call { callee := Go.Callee.value (Go.Operand.func 17), args := #[Go.Operand.tmp 85, Go.Operand.tmp 88], argTypes := #[26, 26] }, type := 4, pos := "law.go:215", after := #[{ on := 2, ground := Go.Ground.data }, { on := 5, ground := Go.Ground.data }, { on := 2, ground := Go.Ground.chain }], guard := none }) rfl (fun K hK => ?_) AllReadyH.nil; go_simp; ((first | (go_at_call 18; refine (OF _ (Kn.same KK.out (by rfl) (by rfl) (by rfl) (by rfl)).b).mono ?_; rintro e wn ⟨o, rfl, hs, dn⟩; have KK := Lib.hid (Kn.later KK.out dn rfl rfl rfl rfl); have HO := Lib.hid hs; clear hs dn) | (go_at_call 17; refine (SM o _ (HO.out.same rfl) (Kn.same KK.out (by rfl) (by rfl) (by rfl) (by rfl)).b).mono ?_; rintro e wn ⟨rfl, dn⟩; have KK := Lib.hid (Kn.later KK.out dn rfl rfl rfl rfl)))); go_wp2_with fail; refine hK.out _ _ ?_ (fun hHeld => ?_); (focus ((try dsimp only); (try (exact told_held KK.out (by simp) hk4 rfl)); done)); clear hK; (try simp only [Act.put, List.setIfInBounds_toArray, List.set_cons_zero, List.set_cons_succ]))
            (refine wpAnyH_take (i := 7) (oi := { dst := some 16, op := Go.Op.assign (Go.Operand.tmp 89), type := 4, pos := "law.go:215", after := #[{ on := 6, ground := Go.Ground.data }, { on := 6, ground := Go.Ground.chain }, { on := 0, ground := Go.Ground.phase }, { on := 1, ground := Go.Ground.phase }, { on := 2, ground := Go.Ground.phase }, { on := 3, ground := Go.Ground.phase }, { on := 4, ground := Go.Ground.phase }, { on := 5, ground := Go.Ground.phase }, { on := 6, ground := Go.Ground.phase }], guard := none }) (v := ?_) rfl (by kernel_rfl) (by kernel_rfl) (by kernel_rfl) (fun _ _ _ h => h) (Or.inl ⟨by rfl, ?_⟩) (by assumption) ?_; rotate_left; (focus (intro w hSw; ((try dsimp only at hSw); go_simp; try with_reducible rfl))); (try simp only [Act.put, List.setIfInBounds_toArray, List.set_cons_zero, List.set_cons_succ]))
            refine wpAnyH_done (by kernel_rfl) ?_ _
            have q0 := KK.out.cell (g := t) (o := toldO d) (by simp) (j := k) (v := slV (d k)) (toldC_get d k hk4)
            unfold slV at q0
            go_upto_region 25 with (go_at_call 26; refine (C1 _ (Kn.same KK.out (by rfl) (by rfl) (by rfl) (by rfl)).b).mono ?_; rintro e wn ⟨rfl, dn⟩; have KK := Lib.hid (Kn.later KK.out dn rfl rfl rfl rfl); clear dn)
            clear q0
            have q0 := KK.out.cell (g := t) (o := toldO d) (by simp) (j := k) (v := slV (d k)) (toldC_get d k hk4)
            unfold slV at q0
            go_upto_region 26 with (go_at_call 26; refine (C2 _ (Kn.same KK.out (by rfl) (by rfl) (by rfl) (by rfl)).b).mono ?_; rintro e wn ⟨rfl, dn⟩; have KK := Lib.hid (Kn.later KK.out dn rfl rfl rfl rfl); clear dn)
            clear q0 C1 C2 SM OF
            have FIN := Lib.hid (And.intro (LI.out.below KK.out.b) (And.intro (HL.out.below KK.out.b) (HBO.out.below KK.out.b)))
            skip
            go_wp2_with fail
            go_roundw
            case rel => exact ⟨k + 1, by omega, by omega, by go_num, by rw [HN.out], FIN.out.1, FIN.out.2.1, FIN.out.2.2⟩
            case measure => simp [intOf]; omega
      · obtain rfl : k = 4 := by omega
        have t1 : decide (((4 : Nat) : Int) < 4) = false := decide_eq_false (by omega)
        rw [n4] at *
        have t2 : ((bn : Int) == (bn : Int)) = true := beq_self_eq_true _
        go_wp2_with fail
        go_ret
        exact ⟨rfl, LI.out.b⟩
theorem hleast_row (u : Value) (xs : List HOp) (v : Value) (vs : List Int) (w : World) (h : IsHOps w u xs) (hv : IsInts .i64 w v vs) :
    Calls Try.prog 5 #[u, v] w fun e w' => e = .returned (.bool true) ∧ Below w.heap.size w w' := by
  obtain ⟨a, n, c, rfl, hnc, hcb, h, hok⟩ := h
  obtain ⟨a1, n1, c1, rfl, hnc1, hcb1, h1, _⟩ := hv
  exact hleast_any a n c xs ⟨a1, n1, c1⟩ vs w h hok hnc hcb ⟨h1, hnc1, hcb1⟩
end
end Go.Proofs.Ytglabahbklpocaa
