/- The reference's Take. A list of bytes of one's own that grows by append, byte by byte; and its text. -/
import Derived.Test.YtojnooagifhekaaGAggParts31
import Derived.Test.YtojnooagifhekaaGAggParts1
import Derived.Laws.AppendOwn
import Derived.Laws.OwnMore
import Derived.Deep.AppendLies
namespace Go.Proofs.Ytojnooagifhekaa
section
open Go.RowKit
set_option maxRecDepth 100000
set_option linter.unusedVariables false
set_option linter.unusedSimpArgs false
def rtakeV (r : Rdr) : St × Rdr := if okV (takeP r).1 = true then takeP r else (⟨0, 0, 0⟩, { (takeP r).2 with bad := true })
theorem rtakeV_ok {r : Rdr} (h : r.ok) : (rtakeV r).2.ok ∧ (rtakeV r).2.s = r.s := by
  have h1 := takeP_ok h
  unfold rtakeV
  split
  · exact h1
  · exact ⟨h1.1, h1.2⟩
theorem small_neg (r : Rdr) : (r.small (-1)).2.bad = true := by
  unfold Rdr.small
  rw [if_pos (.inr (.inl (by decide)))]
theorem take_same (r : Rdr) : (rtakeV r).1 = (takeV r).1 ∧ (rtakeV r).2.left = (takeV r).2.left := by
  unfold rtakeV takeV
  by_cases h : okV (takeP r).1 = true
  · rw [if_pos h, if_pos h]; exact ⟨rfl, rfl⟩
  · rw [if_neg h, if_neg h]
    refine ⟨rfl, ?_⟩
    unfold Rdr.left
    rw [if_pos rfl, if_pos (small_neg _)]
set_option maxHeartbeats 2000000 in
theorem rtake_any (g : Nat) (r : Rdr) (w : World) (h : RdrAt 77 w g r) (hr : r.ok) :
    Calls Try.prog 56 #[.pointer (some ⟨g, 0, none⟩)] w fun e w' => e = .returned (rtakeV r).1.val ∧ RdrAt 77 w' g (rtakeV r).2 ∧ But g w w' := by
  have hlt := h.lt
  have HT : Hid (rtakeV r = if okV (takeP r).1 = true then takeP r else (⟨0, 0, 0⟩, { (takeP r).2 with bad := true })) := rfl
  have HG := Lib.hid (@take_good r)
  have k1 := Rdr.small_ok hr 1099511627776
  have k2 := Rdr.small_ok k1.1 7
  have k3 := Rdr.small_ok k2.1 1099511627776
  have h0 := h.alloc (.cells #[.int .i64 0, .int .i64 0, .int .i64 0] 26)
  have z0 := StAt.new w ⟨0, 0, 0⟩
  simp only at z0
  have B0 := (But.refl g w).alloc (.cells #[.int .i64 0, .int .i64 0, .int .i64 0] 26)
  have hne : w.heap.size ≠ g := by omega
  generalize rtakeV r = V at *
  go_enter Try.func56, Try.ntmps56
  go_wp2_with fail
  refine (rrdr_small g r 1099511627776 _ h0 hr (by decide) (by decide)).mono ?_
  rintro e w1 ⟨rfl, h1, b1⟩
  go_wp2_with fail
  refine (rrdr_small g _ 7 _ h1 k1.1 (by decide) (by decide)).mono ?_
  rintro e w2 ⟨rfl, h2, b2⟩
  go_wp2_with fail
  refine (rrdr_small g _ 1099511627776 _ h2 k2.1 (by decide) (by decide)).mono ?_
  rintro e w3 ⟨rfl, h3, b3⟩
  have z3 := ((z0.but b1 hne).but b2 hne).but b3 hne
  have B3 := ((B0.trans b1).trans b2).trans b3
  clear b1 b2 b3 h1 h2 z0 B0 h0 h
  generalize hP : takeP r = P at *
  obtain ⟨S, R⟩ := P
  have e1 : (r.small 1099511627776).1 = S.clock := congrArg (fun p : St × Rdr => p.1.clock) hP
  have e2 : ((r.small 1099511627776).2.small 7).1 = S.site := congrArg (fun p : St × Rdr => p.1.site) hP
  have e3 : (((r.small 1099511627776).2.small 7).2.small 1099511627776).1 = S.seq := congrArg (fun p : St × Rdr => p.1.seq) hP
  have e4 : (((r.small 1099511627776).2.small 7).2.small 1099511627776).2 = R := congrArg (fun p : St × Rdr => p.2) hP
  rw [e1, e2, e3]
  rw [e4] at h3 k3
  clear e1 e2 e3 e4 hP k1 k2
  have hS := StAt.new w3 S
  have B4 := B3.alloc (.cells #[.int .i64 S.clock, .int .i64 S.site, .int .i64 S.seq] 26)
  have h4 := h3.alloc (.cells #[.int .i64 S.clock, .int .i64 S.site, .int .i64 S.seq] 26)
  have z4 := z3.alloc (.cells #[.int .i64 S.clock, .int .i64 S.site, .int .i64 S.seq] 26)
  have hl3 := z3.lt
  have hl4 := h3.lt
  have CK := fun wx => rcheck_any S wx
  unfold St.val at CK
  go_upto_region 5 with (fail)
  clear h3 z3 B3
  generalize w3.alloc (.cells #[.int .i64 S.clock, .int .i64 S.site, .int .i64 S.seq] 26) = w4 at *
  generalize w3.heap.size = k at *
  have s0 := hS.c0
  have s1 := hS.c1
  have s2 := hS.c2
  have x2 := h4.c2
  have y2 := h4.fz 2
  have q0 := z4.c0
  have q1 := z4.c1
  have q2 := z4.c2
  have f0 := z4.fz 0
  have f1 := z4.fz 1
  have f2 := z4.fz 2
  rcases hbad : R.bad with _ | _
  · rw [hbad] at x2
    have RB := Lib.hid hbad
    clear hbad
    go_wp2_with fail
    refine (CK _).mono ?_
    rintro e w5 ⟨rfl, d5⟩
    have h5 := h4.below d5
    have z5 := z4.below d5
    have S5 := hS.below d5
    have B5 := B4.then_below d5
    clear h4 z4 hS B4 d5 s0 s1 s2 x2 y2 q0 q1 q2 f0 f1 f2
    have s0 := S5.c0
    have s1 := S5.c1
    have s2 := S5.c2
    have x2 := h5.c2
    have y2 := h5.fz 2
    have q0 := z5.c0
    have q1 := z5.c1
    have q2 := z5.c2
    have f0 := z5.fz 0
    have f1 := z5.fz 1
    have f2 := z5.fz 2
    by_cases hok : okV S = true
    · have HV : Hid (V = (S, R)) := by show _ = _; rw [HT.out, if_pos hok]
      have e1 : chkV S = 0 := if_pos hok
      rw [e1]
      have HR := Lib.hid (((h5.far (p := ⟨w.heap.size, 0, none⟩) hne.symm (.int .i64 S.clock)).far (p := ⟨w.heap.size, 1, none⟩) hne.symm (.int .i64 S.site)).far (p := ⟨w.heap.size, 2, none⟩) hne.symm (.int .i64 S.seq))
      have HB := Lib.hid (((B5.far (p := ⟨w.heap.size, 0, none⟩) (Nat.le_refl _) (.int .i64 S.clock)).far (p := ⟨w.heap.size, 1, none⟩) (Nat.le_refl _) (.int .i64 S.site)).far (p := ⟨w.heap.size, 2, none⟩) (Nat.le_refl _) (.int .i64 S.seq))
      clear hok e1
      go_wp2_with fail
      refine bodyPost_ret (v := .agg #[.int .i64 S.clock, .int .i64 S.site, .int .i64 S.seq]) (by simp [results, Try.results56, go_sem, *]) rfl ⟨by rw [HV.out]; rfl, by rw [HV.out]; exact HR.out, HB.out⟩
    · have HV : Hid (V = (⟨0, 0, 0⟩, { R with bad := true })) := by show _ = _; rw [HT.out, if_neg hok]
      have e1 : chkV S = 1 := if_neg hok
      rw [e1]
      clear hok e1
      have HR := Lib.hid ((((h5.set2 true).far (p := ⟨w.heap.size, 0, none⟩) hne.symm (.int .i64 0)).far (p := ⟨w.heap.size, 1, none⟩) hne.symm (.int .i64 0)).far (p := ⟨w.heap.size, 2, none⟩) hne.symm (.int .i64 0))
      have HB := Lib.hid ((((B5.trans (But.set g 2 _ (.bool true))).far (p := ⟨w.heap.size, 0, none⟩) (Nat.le_refl _) (.int .i64 0)).far (p := ⟨w.heap.size, 1, none⟩) (Nat.le_refl _) (.int .i64 0)).far (p := ⟨w.heap.size, 2, none⟩) (Nat.le_refl _) (.int .i64 0))
      go_wp2_with fail
      refine bodyPost_ret (v := .agg #[.int .i64 0, .int .i64 0, .int .i64 0]) (by simp [results, Try.results56, go_sem, *]) rfl ⟨by rw [HV.out]; rfl, by rw [HV.out]; exact HR.out, HB.out⟩
  · rw [hbad] at x2
    have hok : ¬ okV S = true := fun h => by have := HG.out h; rw [hbad] at this; cases this
    have HV : Hid (V = (⟨0, 0, 0⟩, { R with bad := true })) := by show _ = _; rw [HT.out, if_neg hok]
    have HR := Lib.hid ((((h4.set2 true).far (p := ⟨w.heap.size, 0, none⟩) hne.symm (.int .i64 0)).far (p := ⟨w.heap.size, 1, none⟩) hne.symm (.int .i64 0)).far (p := ⟨w.heap.size, 2, none⟩) hne.symm (.int .i64 0))
    have HB := Lib.hid ((((B4.trans (But.set g 2 _ (.bool true))).far (p := ⟨w.heap.size, 0, none⟩) (Nat.le_refl _) (.int .i64 0)).far (p := ⟨w.heap.size, 1, none⟩) (Nat.le_refl _) (.int .i64 0)).far (p := ⟨w.heap.size, 2, none⟩) (Nat.le_refl _) (.int .i64 0))
    clear hok hbad
    go_wp2_with fail
    refine bodyPost_ret (v := .agg #[.int .i64 0, .int .i64 0, .int .i64 0]) (by simp [results, Try.results56, go_sem, *]) rfl ⟨by rw [HV.out]; rfl, by rw [HV.out]; exact HR.out, HB.out⟩
end
end Go.Proofs.Ytojnooagifhekaa
namespace Go.Proofs.Ytojnooagifhekaa
section
open Go.RowKit
set_option maxRecDepth 100000
set_option linter.unusedVariables false
set_option linter.unusedSimpArgs false
/-- The slice at a, n bytes long, is a row of its own, in memory from B on, and holds l. -/
structure AppI (w : World) (B : Nat) (a : Option Addr) (n cap : Nat) (l : List Int) : Prop where
  len : l.length = n
  le : n ≤ cap
  max : cap ≤ maxLen
  row : w.ownsRow B 5 1 (.slice a n cap) n (l.map (Value.int .u8))
theorem app_nil (w : World) (B : Nat) : AppI w B none 0 0 [] := ⟨rfl, Nat.le_refl _, by unfold maxLen; omega, World.ownsRow_nil _ _ _ _⟩
theorem AppI.below {w w' : World} {B : Nat} {a : Option Addr} {n cap : Nat} {l : List Int} (h : AppI w B a n cap l) (hb : Below w.heap.size w w') : AppI w' B a n cap l :=
  ⟨h.len, h.le, h.max, h.row.kept (row := none) ⟨hb.os, hb.tape, hb.output, hb.size, fun i hi _ => hb.block i hi⟩ (by cases Value.ownBlock (.slice a n cap) <;> simp)⟩
theorem info_u8A : (Try.prog.info? 5).map (fun i => (i.zero, i.size, i.bytes)) = some (some (.int .u8 0), 1, 1) := by kernel_rfl
theorem run_append_u8 (ty : TypeId) (w : World) (B : Nat) (a : Option Addr) (n cap : Nat) (l : List Int) (h : AppI w B a n cap l) (hB : B ≤ w.heap.size) (hn : n ≤ 100000) (ad : Addr) (c : Nat) (y : Int) (hy : w.cell? ad = some (.int .u8 y)) :
    ∃ a' cap' w', (Builtin.append_ #[101, 101] ty #[.slice a n cap, .slice (some ad) 1 c]).run Try.prog w = .ok (.slice a' (n + 1) cap') w' ∧ AppI w' B a' (n + 1) cap' (l ++ [y]) ∧ Below B w w' := by
  obtain ⟨i, hi, hii⟩ := Option.map_eq_some_iff.1 info_u8A
  simp only [Prod.mk.injEq] at hii
  obtain ⟨hz, hsize, hby⟩ := hii
  have hnews : ∀ j u, [Value.int .u8 y][j]? = some u → w.cell? (ad.add j) = some u := fun j u hj => by
    cases j with
    | zero => simp at hj; subst hj; simpa [Addr.add] using hy
    | succ j => simp at hj
  have h1 := h.row
  obtain ⟨v', w', hr, ho, hg, hnil⟩ := run_append_own (P := Try.prog) w B 101 ty 5 i (.int .u8 0) 1 1 Try.underlying101 hi hz hsize hby rfl (by decide) _ n _ h1 ad 1 c [.int .u8 y] rfl hnews (by intro u hu; simp at hu; subst hu; rfl) (by unfold maxLen; omega) (by omega) hB
  obtain ⟨g, cap', rfl, hgB, hgl⟩ := ho.form (by omega)
  have hcap : n + 1 ≤ cap' ∧ cap' ≤ maxLen := by
    rcases ho.2 with ⟨e, _⟩ | ⟨g', c', cur, e, _, _, h3, h4, _⟩
    · simp at e
    · simp only [Value.slice.injEq, Option.some.injEq, Addr.mk.injEq, and_true, true_and] at e
      obtain ⟨rfl, rfl⟩ := e
      exact ⟨h3, h4⟩
  exact ⟨_, cap', w', hr, ⟨by simp [h.len], hcap.1, hcap.2, by simpa using ho⟩, (Below.refl B w).grown hg hB fun k hk => (h1.lt k hk).1⟩
theorem wpList_append_u8 {ops : Array Oper} {rest : List Oper} {o : Oper} {act : Act} {Q : Exit → Act → World → Prop} (hgd : o.guard = none) (s x : Operand)
    (ho : o.op = .call { callee := .builtin .append, args := #[s, x], argTypes := #[101, 101] }) (w : World) (B : Nat) (a : Option Addr) (n cap : Nat) (l : List Int) (hs : act.eval s = .slice a n cap) (h : AppI w B a n cap l) (hB : B ≤ w.heap.size) (hn : n ≤ 100000)
    (ad : Addr) (c : Nat) (y : Int) (hx : act.eval x = .slice (some ad) 1 c) (hy : w.cell? ad = some (.int .u8 y))
    (hK : ∀ a' cap' w', AppI w' B a' (n + 1) cap' (l ++ [y]) → Below B w w' → wpList Try.prog ops Q rest (act.put o.dst (.slice a' (n + 1) cap')) w') : wpList Try.prog ops Q (o :: rest) act w := by
  refine wpList_plain hgd fun K hK' => ?_
  obtain ⟨a', cap', w', hrun, h1, h2⟩ := run_append_u8 o.type w B a n cap l h hB hn ad c y hy
  unfold Oper.wp
  simp [execOp, ho, resolve, invoke, builtin, hs, hx, hrun, Result.andThen]
  exact hK' _ _ (hK a' cap' w' h1 h2)
theorem app_text {w : World} {B : Nat} {a : Option Addr} {n cap : Nat} {l : List Int} (h : AppI w B a n cap l) (hn : 0 < n) (hx : ∀ x ∈ l, 0 ≤ x ∧ x < 256) :
    (convert 101 9 (.slice a n cap)).run Try.prog w = .ok (.string (strOfNums l)) w := by
  obtain ⟨g, cap', hv, hg, hlt⟩ := h.row.form hn
  simp only [Value.slice.injEq] at hv
  obtain ⟨rfl, -, rfl⟩ := hv
  obtain ⟨e1, e2, e3⟩ := h.len
  exact run_convert_bytes_arg (P := Try.prog) w 101 5 Try.underlying101 Try.underlying5 g 0 l.length cap l rfl (fun j hj => by
    rw [Nat.zero_add, h.row.cellAt j (by omega), List.getElem?_map, List.getD_eq_getElem?_getD, List.getElem?_eq_getElem hj]
    rfl) 9 Try.underlying9
end
end Go.Proofs.Ytojnooagifhekaa
