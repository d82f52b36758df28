/- MarkRows: for any stamps the law answers true. -/
import Derived.Test.YtmdbdkeonijfbaaMawake
import Derived.Test.YtmdbdkeonijfbaaMstp
import Derived.Test.YtmdbdkeonijfbaaAppS
import Derived.Test.YtmdbdkeonijfbaaKn
import Derived.Test.YtmdbdkeonijfbaaMread
namespace Go.Proofs.Ytmdbdkeonijfbaa
open Go.RowKit
set_option linter.unusedVariables false
set_option linter.unusedSimpArgs false
attribute [local go_sem ↓] Go.wp_at_zero Go.wp_at_succ
theorem ReadsSt.at {w wr : World} {a : Option Addr} {n : Nat} {xs : List St} (h : ReadsSt w a n xs) {B : Nat} (hb : Below w.heap.size w wr) (k : Nat) (hk : k < n) : ∃ b o, a = some ⟨b, o, none⟩ ∧ b < w.heap.size ∧ StC wr b (o + k * 3) (xs.getD k St0) := by
  obtain ⟨b, o, e, hlt, hc⟩ := h.2.resolve_left (by omega)
  obtain ⟨k0, k1, k2⟩ := hc k hk
  exact ⟨b, o, e, hlt, (hb.cell (p := ⟨b, _, none⟩) hlt).trans k0, (hb.cell (p := ⟨b, _, none⟩) hlt).trans k1, (hb.cell (p := ⟨b, _, none⟩) hlt).trans k2⟩
theorem StC.below {w wr : World} {b o : Nat} {x : St} (h : StC w b o x) (hb : Below w.heap.size w wr) (hlt : b < w.heap.size) : StC wr b o x :=
  ⟨(hb.cell (p := ⟨b, _, none⟩) hlt).trans h.1, (hb.cell (p := ⟨b, _, none⟩) hlt).trans h.2.1, (hb.cell (p := ⟨b, _, none⟩) hlt).trans h.2.2⟩
theorem but_cell {g : Nat} {w w' : World} {b o : Nat} {v : Value} (h : But g w w') (hc : w.cell? ⟨b, o, none⟩ = some v) (hne : b ≠ g) : w'.cell? ⟨b, o, none⟩ = some v := by
  have hlt : b < w.heap.size := World.block_lt_of_cell? _ _ hc
  have := h.block b hlt (by simp; exact fun e => hne e)
  rw [← hc]
  simp only [World.cell?]
  rw [this]
theorem neq_stamp (a : St) (w : World) : (binOp .neq 36 (.agg #[.int .i64 a.clock, .int .i64 a.site, .int .i64 a.seq]) (.agg #[.int .i64 a.clock, .int .i64 a.site, .int .i64 a.seq])).run Try.prog w = .ok (.bool false) w := by
  have h := eq_stamp a a w
  unfold St.val at h
  rw [run_eql_struct, decide_eq_true rfl] at h
  rw [run_neq_struct]
  cases hq : (Op.equalIn 10000 36 (.agg #[.int .i64 a.clock, .int .i64 a.site, .int .i64 a.seq]) (.agg #[.int .i64 a.clock, .int .i64 a.site, .int .i64 a.seq])).run Try.prog w with
  | ok v w' =>
    rw [hq] at h
    simp only [Result.andThen] at h ⊢
    injection h with h1 h2
    injection h1 with h1
    rw [h1, h2]
    rfl
  | _ => rw [hq] at h; simp [Result.andThen] at h
theorem rd_same {w wd : World} {g : Nat} {T : TypeId} {r : Rdr} (h : RdrAt T w g r) (e : wd.heap = w.heap) : RdrAt T wd g r := by unfold RdrAt; rw [e]; exact h
theorem but_same {g : Nat} {w0 w wd w' : World} (h : But g w0 w) (k : But g wd w') (e1 : wd.heap = w.heap) (e2 : wd.os = w.os) (e3 : wd.tape = w.tape) (e4 : wd.output = w.output) : But g w0 w' :=
  But.trans (w1 := wd) ⟨e2.trans h.os, e3.trans h.tape, e4.trans h.output, by rw [e1]; exact h.size, fun i hi hne => by rw [e1]; exact h.block i hi hne⟩ k
theorem below_bs {B g : Nat} {w0 w wd w' : World} (h : Below B w0 w) (k : But g wd w') (e1 : wd.heap = w.heap) (e2 : wd.os = w.os) (e3 : wd.tape = w.tape) (e4 : wd.output = w.output) (hg : B ≤ g) (hB : g ≤ w.heap.size) : Below B w0 w' :=
  below_but (below_same h e1 e2 e3 e4) k (by rw [e1]; omega) hg
def gd (xs : List St) (k : Nat) : List St := (xs.take k).filter fun a => okV a
theorem gd_ok (xs : List St) (k : Nat) : ∀ a ∈ gd xs k, okV a = true := fun a ha => by
  unfold gd at ha
  exact (List.mem_filter.1 ha).2
theorem gd_len (xs : List St) (k : Nat) : (gd xs k).length ≤ k := by
  unfold gd
  have h1 := List.length_filter_le (fun a => okV a) (xs.take k)
  rw [List.length_take] at h1
  omega
theorem gd_next (xs : List St) (k : Nat) (h : k < xs.length) : gd xs (k + 1) = if okV (xs.getD k St0) = true then gd xs k ++ [xs.getD k St0] else gd xs k := by
  unfold gd
  rw [List.take_succ_eq_append_getElem h, List.filter_append]
  have e : xs.getD k St0 = xs[k] := by simp [List.getD_eq_getElem?_getD, h]
  rw [e]
  by_cases hk : okV xs[k] = true
  · rw [if_pos hk]; simp [hk]
  · rw [if_neg hk]; simp [hk]
set_option maxHeartbeats 8000000 in
set_option maxRecDepth 100000 in
theorem mrows_any (a0 : Option Addr) (n c : Nat) (xs : List St) (w : World) (h : ReadsSt w a0 n xs) (hnc : n ≤ c) (hcb : c ≤ 9223372036854775807) : Calls Try.prog 8 #[.slice a0 n c] w fun e w' => e = .returned (.bool true) ∧ Below w.heap.size w w' := by
  have hlen := h.1
  have H := Lib.hid h
  clear h
  go_enter Try.func8, Try.ntmps8
  go_wp2_with fail
  refine (awake_any _).mono ?_
  rintro e w1 ⟨rfl, d1⟩
  go_wp2_with fail
  go_loopw [4, 5, 6] (fun s m i wr => ∃ (k n2 cap : Nat) (a2 : Option Addr), k ≤ n ∧ k ≤ 12 ∧ i = .int .i64 k ∧ s = .string ⟨(stsL (gd xs k)).toArray⟩ ∧ m = .slice a2 n2 cap ∧ AppS wr w.heap.size a2 n2 cap (gd xs k) ∧ Below w.heap.size w wr) (fun _ _ i _ => 13 - (intOf i).toNat)
  case atStart => exact ⟨0, 0, 0, none, by omega, by omega, rfl, rfl, rfl, appS_nil _ _, d1⟩
  case round =>
    obtain ⟨k, n2, cap, a2, hkn, hk12, rfl, rfl, rfl, hA, hbel⟩ := hrel
    have A := Lib.hid hA
    have hcap : cap ≤ 9223372036854775807 := hA.max
    have hle := hA.le
    have hl2 := hA.len
    have hg := gd_len xs k
    clear hA
    have hS := stsL_len (gd xs k)
    by_cases hlt : k < n ∧ k < 12
    · have hk13 := hlt.1
      have hk14 := hlt.2
      have t1 : decide (k < n) = true := decide_eq_true hk13
      have t2 : decide ((k : Int) < 12) = true := decide_eq_true (by omega)
      have t3 : decide (k < 12) = true := decide_eq_true hk14
      obtain ⟨b, o, rfl, hblt, hC⟩ := H.out.at (B := 0) hbel k hlt.1
      have HN := Lib.hid (gd_next xs k (by omega))
      have i1 : (0 : Int) ≤ (k : Int) := by omega
      have i2 : (k : Int) < (n : Int) := by omega
      generalize xs.getD k St0 = x at *
      have CK := fun wx => check_any x wx
      have BY := fun wx => stbytes_any x wx
      have hbl2 : b < wr.heap.size := Nat.lt_of_lt_of_le hblt hbel.size
      have c0 := hC.1
      have c1 := hC.2.1
      have c2 := hC.2.2
      unfold St.val at CK BY
      by_cases hok : okV x = true
      · have e1 : chkV x = 0 := if_pos hok
        have hx := (stL_len x).2
        have HC2 := Lib.hid hC
        have hB := stB_data x hok
        rw [if_pos hok] at HN
        rw [e1] at CK
        rw [hB] at BY
        have z1 : (⟨(stL x).toArray⟩ : ByteArray).size = (stL x).length := by simp [ByteArray.size]
        have z2 : (⟨(stsL (gd xs k)).toArray⟩ : ByteArray).size = (stsL (gd xs k)).length := by simp [ByteArray.size]
        have HCAT : Hid ((⟨(stsL (gd xs k)).toArray⟩ : ByteArray) ++ ⟨(stL x).toArray⟩ = ⟨(stsL (gd xs (k + 1))).toArray⟩) := by
          show _ = _
          rw [HN.out, stsL_append, stsL_one]
          apply ByteArray.ext
          apply Array.ext'
          simp [ByteArray.data_append]
        clear hok e1 hB hlt
        go_wp2_with fail
        refine (CK _).mono ?_
        rintro e w3 ⟨rfl, d3⟩
        have hb3 := below_then hbel hbel.size d3
        have A3 := Lib.hid (A.out.below d3)
        have hC3 := HC2.out.below d3 hbl2
        have hbl3 : b < w3.heap.size := Nat.lt_of_lt_of_le hbl2 d3.size
        have hz3 := hb3.size
        clear c0 c1 c2 hC d3
        have c0 := hC3.1
        have c1 := hC3.2.1
        have c2 := hC3.2.2
        go_wp2_with (at_builtin; refine wpList_append_st rfl _ _ rfl _ w.heap.size a2 n2 cap (gd xs k) rfl (A3.out.below ?q1) ?q2 ?q3 w3.heap.size 1 x rfl ?q4 ?q5)
        case q1 => exact (Below.refl _ _).alloc (Nat.le_refl _) _
        case q2 => simp; omega
        case q3 => omega
        case q4 => exact ⟨by rw [World.cell?_alloc_new]; rfl, by rw [World.cell?_alloc_new]; rfl, by rw [World.cell?_alloc_new]; rfl⟩
        case q5 =>
          intro a3 cap3 w5 hA5 hb5
          have A5 := Lib.hid hA5
          clear hA5
          have hb4 : Below w.heap.size w3 w5 := ((Below.refl _ _).alloc (by omega) _).trans hb5
          have hbw := hb3.trans hb4
          have k0 := (hb4.cell (p := ⟨b, o + k * 3, none⟩) hblt).trans c0
          have k1 := (hb4.cell (p := ⟨b, o + k * 3 + 1, none⟩) hblt).trans c1
          have k2 := (hb4.cell (p := ⟨b, o + k * 3 + 2, none⟩) hblt).trans c2
          have hz5 := hbw.size
          clear c0 c1 c2 hC3 hb5 hb4
          go_wp2_with fail
          refine (BY _).mono ?_
          rintro e w6 ⟨rfl, d6⟩
          have HF := Lib.hid (And.intro (A5.out.below d6) (below_then hbw hz5 d6))
          go_wp2_with fail
          go_roundw
          case rel => exact ⟨k + 1, n2 + 1, cap3, a3, by omega, by omega, by go_num, by rw [HCAT.out], rfl, by rw [HN.out]; exact HF.out.1, HF.out.2⟩
          case measure => simp [intOf]; omega
      · have e1 : chkV x = 1 := if_neg hok
        have hB : stB x = ⟨#[]⟩ := if_neg hok
        rw [if_neg hok] at HN
        rw [e1] at CK
        rw [hB] at BY
        have HC2 := Lib.hid hC
        clear hok e1 hB
        go_wp2_with fail
        refine (CK _).mono ?_
        rintro e w3 ⟨rfl, d3⟩
        have hb3 := below_then hbel hbel.size d3
        have A3 := Lib.hid (A.out.below d3)
        have hC3 := HC2.out.below d3 hbl2
        have hz3 := hb3.size
        clear c0 c1 c2 hC d3
        have c0 := hC3.1
        have c1 := hC3.2.1
        have c2 := hC3.2.2
        go_wp2_with fail
        refine (BY _).mono ?_
        rintro e w6 ⟨rfl, d6⟩
        have HF := Lib.hid (And.intro (A3.out.below d6) (below_then hb3 hz3 d6))
        go_wp2_with fail
        go_roundw
        case rel => exact ⟨k + 1, n2, cap, a2, by omega, by omega, by go_num, by rw [HN.out], rfl, by rw [HN.out]; exact HF.out.1, HF.out.2⟩
        case measure => simp [intOf]; omega
    · have hok := gd_ok xs k
      generalize gd xs k = l at *
      have hsz : (⟨(stsL l).toArray⟩ : ByteArray).size ≤ 1000000000 := by show (stsL l).toArray.size ≤ _; simp; omega
      have R0 : (r0 ⟨(stsL l).toArray⟩).ok := r0_ok hsz
      have TA := Lib.hid (takes_at l hok R0 rfl (by rw [r0_rest]))
      have TN := Lib.hid (takes_next l hok R0 rfl (by rw [r0_rest]))
      have TO := fun k => takes_ok R0 k
      obtain ⟨S, HS⟩ : ∃ S : ByteArray, Hid (⟨(stsL l).toArray⟩ = S) := ⟨_, rfl⟩
      rw [HS.out] at TA TN TO R0 ⊢
      have hlt2 : ¬ (k < n) ∨ k = 12 := by omega
      clear hlt
      by_cases u1 : k < n
      have t1 : decide (k < n) = true := decide_eq_true u1
      have t2 : decide ((k : Int) < 12) = false := decide_eq_false (by omega)
      have t3 : decide (k < 12) = false := decide_eq_false (by omega)
      go_wp2_with fail
      rotate_left
      have t1 : decide (k < n) = false := decide_eq_false u1
      go_wp2_with fail
      all_goals
        refine (rdr_read S _).mono ?_
        rintro e w3 ⟨rfl, hr, d3⟩
        have hz := hbel.size
        have hb3 := below_then hbel hz d3
        have A3 := A.out.below d3
        have hneg : w.heap.size ≤ wr.heap.size := hz
        generalize hgr : wr.heap.size = g at *
        have hgl := hr.lt
        clear d3
        have hrd := A3.reads.1
        have hown : n2 = 0 ∨ ∃ b, a2 = some ⟨b, 0, none⟩ ∧ b < g := by
          rcases A.out.reads with ⟨⟨_, h0⟩, h1⟩
          rcases h1 with h1 | ⟨b, e, _⟩
          · exact .inl h1
          · rcases h0 with h0 | ⟨b', o', e', hlt', _⟩
            · exact .inl h0
            · right
              rw [e] at e'
              simp at e'
              exact ⟨b, e, by rw [← hgr, e'.1]; exact hlt'⟩
        have hll := hrd.1
        have HRD := Lib.hid hrd
        have INIT := Lib.hid (And.intro hr hb3)
        clear hr hb3 hrd A3
        have n2c : n2 ≤ 9223372036854775807 := by omega
        go_wp2_with fail
        go_loopw [8] (fun i wx => ∃ j : Nat, j ≤ n2 ∧ i = .int .i64 j ∧ RdrAt 79 wx g (takes j (r0 S)) ∧ But g w3 wx ∧ Below w.heap.size w wx) (fun i _ => n2 - (intOf i).toNat)
        case atStart => exact ⟨0, by omega, rfl, INIT.out.1, But.refl _ _, INIT.out.2⟩
        case round =>
          obtain ⟨j, hj, rfl, hR, hBt, hB⟩ := hrel
          have hgl2 := hR.lt
          by_cases hjn : j < n2
          · have v1 : decide (j < n2) = true := decide_eq_true hjn
            have v2 : decide ((j : Int) < (n2 : Int)) = true := decide_eq_true (by omega)
            obtain ⟨b, rfl, hbg⟩ := hown.resolve_left (by omega)
            obtain ⟨b', o', e', _, hC⟩ := HRD.out.at (B := 0) (Below.refl _ _) j hjn
            simp only [Option.some.injEq, Addr.mk.injEq, and_true] at e'
            obtain ⟨rfl, rfl⟩ := e'
            have hbne : b ≠ g := by omega
            have c0 := but_cell hBt hC.1 hbne
            have c1 := but_cell hBt hC.2.1 hbne
            have c2 := but_cell hBt hC.2.2 hbne
            have TX := Lib.hid (TN.out j (by omega))
            have hRok := TO j
            have T1 := fun wx hw => take_any g (takes j (r0 S)) wx hw hRok
            have HTK : Hid (takes (j + 1) (r0 S) = (takeV (takes j (r0 S))).2) := rfl
            rw [TX.out] at T1
            have i1 : (0 : Int) ≤ (j : Int) := by omega
            have i2 : (j : Int) < (n2 : Int) := by omega
            have hx : l.getD j St0 = l.getD j ⟨0, 0, 0⟩ := rfl
            rw [hx] at c0 c1 c2
            generalize l.getD j ⟨0, 0, 0⟩ = x at *
            have hq : ∀ wx, (binOp .neq 36 (.agg #[.int .i64 x.clock, .int .i64 x.site, .int .i64 x.seq]) (.agg #[.int .i64 x.clock, .int .i64 x.site, .int .i64 x.seq])).run Try.prog wx = .ok (.bool false) wx := fun wx => neq_stamp x wx
            unfold St.val at T1
            have IR := Lib.hid (And.intro hR (And.intro hBt hB))
            rw [Nat.zero_add] at c0 c1 c2
            clear hR hBt hB hC hx TX
            go_upto_region 18 with (fail)
            refine wp_region_held_drew (S := (fun wx => wx.cell? ⟨b, j * 3, none⟩ = some (.int .i64 x.clock) ∧ wx.cell? ⟨b, j * 3 + 1, none⟩ = some (.int .i64 x.site) ∧ wx.cell? ⟨b, j * 3 + 2, none⟩ = some (.int .i64 x.seq))) (by kernel_rfl) ?_ (fun hHeld => ?_)
            focus ((try dsimp only); (try (first | go_keep | exact ⟨but_cell (by assumption) (by go_simp) hbne, but_cell (by assumption) (by go_simp) hbne, but_cell (by assumption) (by go_simp) hbne⟩)); done)
            (refine wpAnyH_take (i := 0) (oi := { dst := some 58, op := Go.Op.move (Go.Operand.tmp 7), type := 48, pos := "law.go:143", after := #[], guard := none }) (v := ?_) rfl (by kernel_rfl) (by kernel_rfl) (by kernel_rfl) (fun _ _ _ h => h) (Or.inl ⟨by rfl, ?_⟩) (by assumption) ?_; rotate_left; (focus (intro w hSw; (try dsimp only at hSw); go_simp; try with_reducible rfl)); (try simp only [Act.put, List.setIfInBounds_toArray, List.set_cons_zero, List.set_cons_succ]))
            (refine wpAnyH_take (i := 2) (oi := { dst := some 60, op := Go.Op.move (Go.Operand.tmp 5), type := 45, pos := "law.go:143", after := #[], guard := none }) (v := ?_) rfl (by kernel_rfl) (by kernel_rfl) (by kernel_rfl) (fun _ _ _ h => h) (Or.inl ⟨by rfl, ?_⟩) (by assumption) ?_; rotate_left; (focus (intro w hSw; (try dsimp only at hSw); go_simp; try with_reducible rfl)); (try simp only [Act.put, List.setIfInBounds_toArray, List.set_cons_zero, List.set_cons_succ]))
            (refine wpAnyH_take (i := 3) (oi := { dst := some 61, op := Go.Op.move (Go.Operand.tmp 8), type := 3, pos := "law.go:143", after := #[], guard := none }) (v := ?_) rfl (by kernel_rfl) (by kernel_rfl) (by kernel_rfl) (fun _ _ _ h => h) (Or.inl ⟨by rfl, ?_⟩) (by assumption) ?_; rotate_left; (focus (intro w hSw; (try dsimp only at hSw); go_simp; try with_reducible rfl)); (try simp only [Act.put, List.setIfInBounds_toArray, List.set_cons_zero, List.set_cons_succ]))
            (refine wpAnyH_take (i := 4) (oi := { dst := some 62, op := Go.Op.indexAddr 45 (Go.Operand.tmp 60) (Go.Operand.tmp 61), type := 0, pos := "law.go:143", after := #[{ on := 2, ground := Go.Ground.data }, { on := 3, ground := Go.Ground.data }], guard := none }) (v := ?_) rfl (by kernel_rfl) (by kernel_rfl) (by kernel_rfl) (fun _ _ _ h => h) (Or.inl ⟨by rfl, ?_⟩) (by assumption) ?_; rotate_left; (focus (intro w hSw; (try dsimp only at hSw); go_simp; try with_reducible rfl)); (try simp only [Act.put, List.setIfInBounds_toArray, List.set_cons_zero, List.set_cons_succ]))
            (refine wpAnyH_take (i := 5) (oi := { dst := some 63, op := Go.Op.load 36 (Go.Operand.tmp 62), type := 36, pos := "law.go:143", after := #[{ on := 4, ground := Go.Ground.data }], guard := none }) (v := ?_) rfl (by kernel_rfl) (by kernel_rfl) (by kernel_rfl) (fun _ _ _ h => h) (Or.inl ⟨by rfl, ?_⟩) (by assumption) ?_; rotate_left; (focus (intro w hSw; (try dsimp only at hSw); go_simp; try with_reducible rfl)); (try simp only [Act.put, List.setIfInBounds_toArray, List.set_cons_zero, List.set_cons_succ]))
            (refine wpAnyH_ready (rs := [1]) (by kernel_rfl) (by simp) ?_; refine AllReadyH.cons (o := { dst := some 59, op := Go.Op.call { callee := Go.Callee.value (Go.Operand.func 37), args := #[Go.Operand.tmp 58], argTypes := #[48] }, type := 36, pos := "law.go:143", after := #[{ on := 0, ground := Go.Ground.data }], guard := none }) rfl (fun K hK => ?_) AllReadyH.nil; go_simp; ((first | (go_at_call 37; refine (T1 _ ?_).mono ?_; exact rd_same IR.out.1 rfl; rintro e wn ⟨rfl, hn, bn⟩; have IR := Lib.hid (And.intro hn (And.intro (but_same IR.out.2.1 bn rfl rfl rfl rfl) (below_bs IR.out.2.2 bn rfl rfl rfl rfl hneg (by omega))))))); go_wp2_with fail; refine hK.out _ _ ?_ (fun hHeld => ?_); (focus ((try dsimp only); (try (first | go_keep | exact ⟨but_cell (by assumption) (by go_simp) hbne, but_cell (by assumption) (by go_simp) hbne, but_cell (by assumption) (by go_simp) hbne⟩)); done)); clear hK; (try simp only [Act.put, List.setIfInBounds_toArray, List.set_cons_zero, List.set_cons_succ]))
            (refine wpAnyH_take (i := 6) (oi := { dst := some 64, op := Go.Op.binOp Go.BinOp.neq 36 (Go.Operand.tmp 59) (Go.Operand.tmp 63) 36, type := 4, pos := "law.go:143", after := #[{ on := 1, ground := Go.Ground.data }, { on := 5, ground := Go.Ground.data }], guard := none }) (v := ?_) rfl (by kernel_rfl) (by kernel_rfl) (by kernel_rfl) (fun _ _ _ h => h) (Or.inl ⟨by rfl, ?_⟩) (by assumption) ?_; rotate_left; (focus (intro w hSw; (try dsimp only at hSw); go_simp; try with_reducible rfl)); (try simp only [Act.put, List.setIfInBounds_toArray, List.set_cons_zero, List.set_cons_succ]))
            refine wpAnyH_done (by kernel_rfl) ?_ _
            go_wp2_with fail
            go_roundw
            case rel => exact ⟨j + 1, by omega, by go_num, by rw [HTK.out]; exact rd_same IR.out.1 rfl, but_same IR.out.2.1 (But.refl _ _) rfl rfl rfl rfl, below_same IR.out.2.2 rfl rfl rfl rfl⟩
            case measure => simp [intOf]; omega
          · have v1 : decide (j < n2) = false := decide_eq_false hjn
            have v2 : decide ((j : Int) < (n2 : Int)) = false := decide_eq_false (by omega)
            obtain rfl : j = n2 := by omega
            obtain ⟨q1, q2⟩ := TA.out j (by omega)
            rw [List.drop_of_length_le (by omega)] at q2
            have hRok := TO j
            have hfin : (takes j (r0 S)).fin = 0 := (fin_rest hRok).2 ⟨q1, q2⟩
            obtain ⟨e1, e2⟩ := take_end hRok q1 q2
            have hTok := (takeV_ok hRok).1
            have hfin2 : (takeV (takes j (r0 S))).2.fin = 10 := by unfold Rdr.fin; rw [if_pos (.inl e2)]
            have T1 := fun wx hw => take_any g (takes j (r0 S)) wx hw hRok
            rw [e1] at T1
            generalize (takeV (takes j (r0 S))).2 = R2 at *
            generalize takes j (r0 S) = R at *
            unfold St.val at T1
            simp only at T1
            clear e1 e2 q1 q2 TA TN TO hBt
            have hzz := hB.size
            go_wp2_with fail
            refine (rdr_end g R _ hR hRok).mono ?_
            rintro e w5 ⟨rfl, dq⟩
            rw [hfin]
            have dn := quiet_below dq
            have hR5 := dq.rdr hR
            have hB5 := below_then hB hzz dn
            clear dq dn hR hB
            go_wp2_with fail
            refine (T1 _ hR5).mono ?_
            rintro e w6 ⟨rfl, h6, b6⟩
            have hgl6 := h6.lt
            have hB6 := below_but hB5 b6 (by have := hB5.size; omega) hneg
            have h7 := h6.alloc (.cells #[.int .i64 0, .int .i64 0, .int .i64 0] 36)
            have hB7 := hB6.alloc hB6.size (.cells #[.int .i64 0, .int .i64 0, .int .i64 0] 36)
            clear hR5 b6 hB5
            go_wp2_with fail
            refine (rdr_end g R2 _ h7 hTok).mono ?_
            rintro e w8 ⟨rfl, dq⟩
            rw [hfin2]
            have hB8 := below_then hB7 (by have := hB7.size; omega) (quiet_below dq)
            go_wp2_with fail
            go_ret
            exact ⟨rfl, hB8⟩
theorem mrows_row (v1 : Value) (xs : List St) (w : World) (h1 : IsSts w v1 xs) :
    Calls Try.prog 8 #[v1] w fun e w' => e = .returned (.bool true) ∧ Below w.heap.size w w' := by
  obtain ⟨a, n, c, rfl, h1, h2, hr, -⟩ := h1
  exact mrows_any a n c xs w hr h1 h2
end Go.Proofs.Ytmdbdkeonijfbaa
