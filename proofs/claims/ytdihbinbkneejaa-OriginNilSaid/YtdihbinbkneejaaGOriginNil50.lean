/- origin.Log.Get: the first record of a place, or none. -/
import Derived.Test.YtdihbinbkneejaaGOriginNil40
import Derived.Test.YtdihbinbkneejaaGOriginNil49
import Derived.Test.YtdihbinbkneejaaGOriginNil42
namespace Go.Proofs.Ytdihbinbkneejaa
section
open Go.RowKit Go.Deep
set_option maxRecDepth 100000
set_option linter.unusedVariables false
set_option linter.unusedSimpArgs false
attribute [local go_sem ↓] Go.wp_at_zero Go.wp_at_succ
def capI (s : Int) : Obj := .cells #[.int .i64 s] 3 (0, 0)
def isP (s q : Int) (x : RcM) : Bool := x.1.st.site == s && x.1.st.seq == q
def rz0 : Rc := ⟨0, ⟨#[]⟩, 0, 0, 0, ⟨0, 0, 0⟩⟩
def dz0 : Sl := ⟨none, 0, 0⟩
def getM (xs : List RcM) (s q : Int) : RcM × Bool := match xs.find? (isP s q) with | some x => (x, true) | none => ((rz0, []), false)
theorem z64 : i64' 0 := ⟨by decide, by decide⟩
theorem get1_any (c1 c2 : Nat) (s q : Int) (x : RecA) (w : World) (h1 : w.heap[c1]? = some (capI s)) (h2 : w.heap[c2]? = some (capI q)) :
    Calls Try.prog 50 #[.agg #[.int .i64 x.r.st.clock, .int .i64 x.r.st.site, .int .i64 x.r.st.seq], .pointer (some ⟨c1, 0, none⟩), .pointer (some ⟨c2, 0, none⟩)] w fun e w' => e = .returned (.bool (isP s q x.m)) ∧ Below w.heap.size w w' := by
  have K0 : Kn w.heap.size w [(c1, capI s), (c2, capI q)] w := ((Kn.start w).put h2).put h1
  show Calls _ _ _ _ fun e w' => e = .returned (.bool (x.r.st.site == s && x.r.st.seq == q)) ∧ Below w.heap.size w w'
  generalize x.r.st = st at *
  obtain ⟨A, hA⟩ : ∃ A, (st.site == s) = A := ⟨_, rfl⟩
  obtain ⟨B, hB⟩ : ∃ B, (st.seq == q) = B := ⟨_, rfl⟩
  rw [hA, hB]
  clear h1 h2
  go_enter Try.func50, Try.ntmps50
  go_upto_region 1 with fail
  generalize hw1 : World.alloc _ _ = w1
  have KK := Lib.hid (show Kn w.heap.size w [(w.heap.size, Obj.cells #[.int .i64 st.clock, .int .i64 st.site, .int .i64 st.seq] 27 (0, 0)), (c1, capI s), (c2, capI q)] w1 by rw [← hw1]; exact K0.new' rfl _)
  clear hw1 K0
  obtain ⟨p, hp⟩ : ∃ p, w.heap.size = p := ⟨_, rfl⟩
  rw [hp] at KK ⊢
  have q1 := KK.out.cell (g := p) (o := Obj.cells #[.int .i64 st.clock, .int .i64 st.site, .int .i64 st.seq] 27 (0, 0)) (by simp) (j := 1) (v := .int .i64 st.site) rfl
  have q2 := KK.out.cell (g := p) (o := Obj.cells #[.int .i64 st.clock, .int .i64 st.site, .int .i64 st.seq] 27 (0, 0)) (by simp) (j := 2) (v := .int .i64 st.seq) rfl
  have q3 := KK.out.cell (g := c1) (o := capI s) (by simp) (j := 0) (v := .int .i64 s) rfl
  have q4 := KK.out.cell (g := c2) (o := capI q) (by simp) (j := 0) (v := .int .i64 q) rfl
  cases A <;> cases B
  all_goals
    go_wp2_with fail
    go_ret
    exact ⟨rfl, by rw [hp]; exact KK.out.b⟩
set_option maxHeartbeats 8000000 in
theorem those_get (F : List Nat) (g : Nat) (m : LogM) (most : Int) (c1 c2 : Nat) (P : RcM → Bool) (w : World) (hL : LogAt w F g m) (hm0 : i64' most)
    (HP : ∀ x : RecA, x.m ∈ m.xs → ∀ wx, Below w.heap.size w wx → Calls Try.prog 50 #[.agg #[.int .i64 x.r.st.clock, .int .i64 x.r.st.site, .int .i64 x.r.st.seq], .pointer (some ⟨c1, 0, none⟩), .pointer (some ⟨c2, 0, none⟩)] wx fun e w' => e = .returned (.bool (P x.m)) ∧ Below wx.heap.size wx w') :
    Calls Try.prog 42 #[.pointer (some ⟨g, 0, none⟩), .int .i64 most, .func (.func 50) #[] #[.pointer (some ⟨c1, 0, none⟩), .pointer (some ⟨c2, 0, none⟩)]] w fun e w' => ∃ d : Sl, e = .returned (.slice d.a d.n d.c) ∧ RecsAt w' d (thoseM m most P) ∧ Below w.heap.size w w' := by
  obtain ⟨b, k, a, rs, hg, hc⟩ := hL
  have c3 : w.cell? ⟨g, 3, none⟩ = some (.slice a.a a.n a.c) := by simp only [World.cell?, hg, logO]; rfl
  have HC := Lib.hid hc
  have hn := hc.sm
  have hlen := hc.ha.1
  have HX : Hid (m.xs = rs.map RecA.m) := hc.xs
  obtain ⟨V, HV⟩ : ∃ V, Hid (V = thoseM m most P) := ⟨_, rfl⟩
  rw [← HV.out]
  clear hg hc
  obtain ⟨aa, an, acp⟩ := a
  simp only at *
  go_enter Try.func42, Try.ntmps42
  go_wp2_with fail
  go_step3
  go_wp2_with fail
  go_step3
  go_wp2_with fail
  go_loopw [7, 17] (fun out i wr => ∃ (j n cap : Nat) (a2 : Option Addr) (os : List RecA), j ≤ an ∧ i = .int .i64 j ∧ out = .slice a2 n cap ∧ AppE RecA.cs 30 9 wr w.heap.size a2 n cap os ∧ (∀ x ∈ os, RcT wr x) ∧ os.map RecA.m = (m.xs.take j).filter P ∧ (n : Int) ≤ max most 0 ∧ n ≤ j ∧ Below w.heap.size w wr) (fun _ i _ => an + 1 - (intOf i).toNat)
  case atStart => exact ⟨0, 0, 0, none, [], by omega, rfl, rfl, appE_nil _ _, by simp, by simp, by omega, by omega, Below.refl _ _⟩
  case round =>
    obtain ⟨j, n, cap, a2, os, hj, rfl, rfl, hA, hO, hmap, hmx, hnj, hbel⟩ := hrel
    have HA := Lib.hid hA
    have HO := Lib.hid hO
    have HM := Lib.hid hmap
    have hos : os.length = n := hA.len
    have hzz := hbel.size
    clear hA hO hmap
    by_cases hlt : j < an
    · have t1 : decide ((j : Int) < (an : Int)) = true := decide_eq_true (by omega)
      obtain ⟨bb, oo, x, rfl, hbl, hxj, hCx⟩ := HC.out.ha.at hbel j hlt
      skip
      have hxm : m.xs[j]? = some x.m := by rw [HX.out, List.getElem?_map, hxj]; rfl
      have hxo := (HC.out.below hbel).ok x (List.mem_of_getElem? hxj)
      have hx8 := (HC.out.fr x (List.mem_of_getElem? hxj)).2
      have HPX := fun wx hb => HP x (List.mem_of_getElem? hxm) wx hb
      have HXO := Lib.hid hxo
      have HS := Lib.hid (take_filter_snoc P m.xs j x.m hxm)
      have i1 : (0 : Int) ≤ (j : Int) := by omega
      have i2 : (j : Int) < (an : Int) := by omega
      clear hxo hxm
      obtain ⟨r, d, ds⟩ := x
      have HCX := Lib.hid (show CellsAt wr bb (oo + j * 9) (rcA r d).toList from hCx)
      clear hCx
      go_upto_region 7 with (first
        | refine wpList_load_mid rfl 30 _ rfl bb (oo + j * 9) rfl (rcA r d).toList _ HCX.out Try.underlying30 rfl (by kernel_rfl) ?_
        | (refine wpList_store_row rfl 30 _ _ rfl _ (rcA r d) rfl rfl 30 _ (heap_alloc_new _ _) (by kernel_rfl) rfl (by simp [Value.oneCell', rcA]) ?_; rw [World.setRow_alloc_new]))
      have KK := Lib.hid (show Kn wr.heap.size wr [(wr.heap.size, rcO r d)] (wr.alloc (.cells (rcA r d) 30 (0, 0))) from (Kn.start wr).new (rcO r d))
      obtain ⟨p, hp⟩ : ∃ p, wr.heap.size = p := ⟨_, rfl⟩
      generalize wr.alloc (.cells (rcA r d) 30 (0, 0)) = w1 at *
      by_cases hfull : most ≤ (n : Int)
      · have t2 : decide (most ≤ (n : Int)) = true := decide_eq_true hfull
        have HV := Lib.hid (HV.out.trans (show thoseM m most P = os.map RecA.m by unfold thoseM; rw [HM.out]; exact take_filter_pre P m.xs j _ (by rw [← HM.out, List.length_map, hos]; omega)))
        have hA1 := HA.out.below KK.out.b
        have hle := hA1.le
        have hmax : cap ≤ 9223372036854775807 := maxLen_i hA1.max
        have hB1 := below_then hbel hzz KK.out.b
        have hO1 : ∀ x ∈ os, RcT w1 x := fun x hx => (HO.out x hx).below KK.out.b
        have FIN := Lib.hid (And.intro hA1 (And.intro hB1 hO1))
        clear hA1 hB1 hO1 hfull
        go_wp2_with fail
        first | rw [Exit.noGoto_ret] | skip
        go_ret
        rw [HV.out]
        exact ⟨⟨a2, n, cap⟩, rfl, ⟨⟨os, (AppE.reads rec_len (by decide) FIN.out.1).1, rfl, fun x hx => ⟨(FIN.out.2.2 x hx).ok, (FIN.out.2.2 x hx).n8⟩, fun x hx => (FIN.out.2.2 x hx).ti, FIN.out.1.tr⟩, hle, hmax⟩, FIN.out.2.1⟩
      · have t2 : decide (most ≤ (n : Int)) = false := decide_eq_false hfull
        have HPW := HPX w1 (below_then hbel hzz KK.out.b)
        simp only at HPW
        rw [hp] at KK ⊢
        obtain ⟨b0, b1, b2, b3, b4, b5, b6, b7, b8⟩ := rec_fields (p := p) (r := r) (d := d) KK.out (by simp)
        obtain ⟨PB, hPB⟩ : ∃ PB, P (RecA.m ⟨r, d, ds⟩) = PB := ⟨_, rfl⟩
        rw [hPB] at HPW
        have HS := HS.out
        simp only [hPB] at HS
        have HS := Lib.hid HS
        clear hPB HPX
        cases PB
        · have HS := Lib.hid (show (m.xs.take (j + 1)).filter P = (m.xs.take j).filter P by rw [HS.out]; simp)
          go_wp2_with (first | (go_at_call 50; refine (HPW).mono ?_; rintro e w2 ⟨rfl, d2⟩; have KK := Lib.hid (KK.out.below d2)))
          have hB2 : Below wr.heap.size wr w2 := by rw [hp]; exact KK.out.b
          go_roundw
          case rel => exact ⟨j + 1, n, cap, a2, os, by omega, by go_num, rfl, HA.out.below hB2, fun x hx => (HO.out x hx).below hB2, by rw [HS.out]; exact HM.out, hmx, by omega, below_then hbel hzz hB2⟩
          case measure => simp [intOf]; omega
        · have HS := Lib.hid (show (m.xs.take (j + 1)).filter P = (m.xs.take j).filter P ++ [RecA.m ⟨r, d, ds⟩] by rw [HS.out]; simp)
          have CP : ∀ wx, Below p wr wx → Calls Try.prog 40 #[.agg (rcA r d)] wx fun e w' => ∃ d' : Sl, e = .returned (.agg #[.int .i64 r.kind, .string r.series, .int .i64 r.time, .int .i64 r.value, .int .i64 r.tier, .int .i64 r.st.clock, .int .i64 r.st.site, .int .i64 r.st.seq, .slice d'.a d'.n d'.c]) ∧ SlR w' d' ds ∧ fresh wx.heap.size d' ∧ d'.n = d.n ∧ Below wx.heap.size wx w' ∧ TI w' d' := fun wx hb => copied_any2 ⟨r, d, ds⟩ wx ⟨HXO.out.wf, HXO.out.sl.below (by rw [hp]; exact hb)⟩ (by show d.n ≤ 1000; simp only at hx8; omega)
          go_wp2_with (first
            | (go_at_call 50; refine (HPW).mono ?_; rintro e w2 ⟨rfl, d2⟩; have KK := Lib.hid (KK.out.below d2))
            | refine wpList_load_row rfl 30 _ rfl p rfl 30 (rcA r d) (0, 0) _ KK.out.hd Try.underlying30 rfl (by kernel_rfl) ?_
            | (go_at_call 40; refine (CP _ KK.out.b).mono ?_; rintro e w3 ⟨d', rfl, hS, hfr, hdd, dn, hTI⟩; have HDD := Lib.hid hdd; clear hdd; have KK := Lib.hid (KK.out.below dn))
            | (at_builtin; refine wpList_append_G (B := w.heap.size) (a := a2) (n := n) (cap := cap) (l := os) rec_ety rfl _ _ rfl _ rfl ?q1 ?q2 ?q3 w3.heap.size 1 ⟨r, d', ds⟩ rfl ?q4 ?q5))
          case q1 => exact (HA.out.below (by rw [hp]; exact KK.out.b)).below ((Below.refl _ _).alloc (Nat.le_refl _) _)
          case q2 => have := KK.out.le; simp; omega
          case q3 => omega
          case q4 => exact (rec_new w3 r d' ds 0 _ rfl)
          case q5 =>
            intro a3 cap3 w5 hA5 hb5 hg5
            have hB3 : Below wr.heap.size wr w3 := by rw [hp]; exact KK.out.b
            have hA3 := (HA.out.below hB3).below ((Below.refl _ _).alloc (Nat.le_refl _) (.cells #[.int .i64 r.kind, .string r.series, .int .i64 r.time, .int .i64 r.value, .int .i64 r.tier, .int .i64 r.st.clock, .int .i64 r.st.site, .int .i64 r.st.seq, .slice d'.a d'.n d'.c] 30))
            have hn3 : RcT w3 ⟨r, d', ds⟩ := ⟨⟨HXO.out.wf, hS⟩, hTI, by show d'.n ≤ 8; rw [HDD.out]; exact hx8⟩
            have hO5 : ∀ x ∈ os ++ [⟨r, d', ds⟩], RcT w5 x := fun x hx => by
              refine RcT.grown (RcT.below ?_ ((Below.refl _ _).alloc (Nat.le_refl _) _)) hA3 hg5
              rcases List.mem_append.1 hx with hx | hx
              · exact (HO.out x hx).below hB3
              · simp only [List.mem_singleton] at hx
                rw [hx]; exact hn3
            have hsz3 : w.heap.size ≤ w3.heap.size := by have := hB3.size; omega
            have FIN := Lib.hid (And.intro hA5 (And.intro hO5 ((below_then hbel hzz hB3).trans (((Below.refl w.heap.size w3).alloc hsz3 _).trans hb5))))
            clear hA5 hb5 hg5 hA3 hn3 hO5
            go_wp2_with fail
            go_roundw
            case rel => exact ⟨j + 1, n + 1, cap3, a3, os ++ [⟨r, d', ds⟩], by omega, by go_num, rfl, FIN.out.1, FIN.out.2.1, by rw [HS.out, List.map_append, HM.out]; rfl, by omega, by omega, FIN.out.2.2⟩
            case measure => simp [intOf]; omega
    · obtain rfl : j = an := by omega
      have t1 : decide ((j : Int) < (j : Int)) = false := decide_eq_false (by omega)
      have hml : m.xs.length = j := by rw [HX.out, List.length_map]; exact hlen
      have HV := Lib.hid (HV.out.trans (show thoseM m most P = os.map RecA.m by
        unfold thoseM
        have h1 := HM.out
        rw [List.take_of_length_le (by omega)] at h1
        rw [← h1, List.take_of_length_le (by rw [List.length_map, hos]; omega)]))
      have hle := HA.out.le
      have hmax : cap ≤ 9223372036854775807 := maxLen_i HA.out.max
      have FIN := Lib.hid (And.intro HA.out (And.intro hbel HO.out))
      clear hml
      go_wp2_with fail
      first | rw [Exit.noGoto_ret] | skip
      go_ret
      rw [HV.out]
      exact ⟨⟨a2, n, cap⟩, rfl, ⟨⟨os, (AppE.reads rec_len (by decide) FIN.out.1).1, rfl, fun x hx => ⟨(FIN.out.2.2 x hx).ok, (FIN.out.2.2 x hx).n8⟩, fun x hx => (FIN.out.2.2 x hx).ti, FIN.out.1.tr⟩, hle, hmax⟩, FIN.out.2.1⟩
theorem results_cell_tmpO {P : Program} {fn : Func} {p q : Tmp} {ty : TypeId} (h : fn.results = #[.cell p ty, .tmp q]) (tmps : Array Value) (w : World) (g : Nat) (t : TypeId) (cs : Array Value) (fr : Nat × Nat) (d : TypeDesc) (v : Value)
    (hp : tmps.getD p undef = .pointer (some ⟨g, 0, none⟩)) (hv : tmps.getD q undef = v) (hg : w.heap[g]? = some (.cells cs t fr))
    (hu : P.underlying ty = some d) (hd : (match d with | .struct _ | .array _ _ => true | _ => false) = true) (hi : (P.info? ty).map (·.size) = some cs.size) :
    (results fn tmps).run P w = .ok (.tuple #[.agg cs, v]) w := by
  have hp' : tmps[p]?.getD undef = .pointer (some ⟨g, 0, none⟩) := by simpa using hp
  have hv' : tmps[q]?.getD undef = v := by simpa using hv
  simp [results, h, hp', hv', asAddr, run_loadVar_row w g t ty cs fr d hg hu hd hi]
theorem TI.off {w : World} {d : Sl} (h : TI w d) {g : Nat} {cs : Array Value} {fr : Nat × Nat} (hg : w.heap[g]? = some (.cells cs 30 fr)) : farA [g] d := by
  rcases h with h | ⟨g', cur, e1, e2⟩
  · exact .inl h
  · refine .inr fun p hp hm => ?_
    rw [e1] at hp
    cases hp
    simp only [List.mem_singleton] at hm
    subst hm
    rw [hg] at e2
    simp only [Option.some.injEq, Obj.cells.injEq] at e2
    exact absurd e2.2.1 (by decide)
set_option maxHeartbeats 4000000 in
theorem oget_any (F : List Nat) (g : Nat) (m : LogM) (s q : Int) (w : World) (hL : LogAt w F g m) :
    Calls Try.prog 30 #[.pointer (some ⟨g, 0, none⟩), .int .i64 s, .int .i64 q] w fun e w' => ∃ x : RecA, e = .returned (.tuple #[.agg (rcA x.r x.d), .bool (getM m.xs s q).2]) ∧ x.ok w' ∧ x.m = (getM m.xs s q).1 ∧ Below w.heap.size w w' := by
  have HL := Lib.hid hL
  obtain ⟨V, HV⟩ : ∃ V, Hid (V = getM m.xs s q) := ⟨_, rfl⟩
  rw [← HV.out]
  clear hL
  go_enter Try.func30, Try.ntmps30
  go_upto_region 1 with fail
  generalize hw1 : World.alloc _ _ = w1
  have KK := Lib.hid (show Kn w.heap.size w [(w.heap.size + 2, rcO rz0 dz0), (w.heap.size + 1, capI q), (w.heap.size, capI s)] w1 by rw [← hw1]; exact ((((Kn.start w).new' rfl (capI s)).new' (n := w.heap.size + 1) (by simp) (capI q)).new' (n := w.heap.size + 2) (by simp) (rcO rz0 dz0)))
  clear hw1
  generalize hg : w.heap.size = p at *
  have C := fun wx (hb : Below p w wx) (h1 : wx.heap[p]? = some (capI s)) (h2 : wx.heap[p + 1]? = some (capI q)) => those_get F g m 1 p (p + 1) (isP s q) wx (HL.out.below (by rw [hg]; exact hb)) ⟨by decide, by decide⟩ (fun x hx wy hy => get1_any p (p + 1) s q x wy ((hy.block _ (heap_lt h1)).trans h1) ((hy.block _ (heap_lt h2)).trans h2))
  go_upto_region 2 with (first | (go_at_call 42; refine (C _ KK.out.b (KK.out.at_ (p, capI s) (by simp)) (KK.out.at_ (p + 1, capI q) (by simp))).mono ?_; rintro e wn ⟨d, rfl, hR, dn⟩; have KK := Lib.hid (KK.out.below dn); have HR := Lib.hid hR; clear dn hR))
  have hdn := recs_len HR.out
  have HT : Hid (thoseM m 1 (isP s q) = (m.xs.filter (isP s q)).take 1) := rfl
  have KC := KK.out.at_ (p + 2, rcO rz0 dz0) (by simp)
  have KCH := Lib.hid KC
  clear KC
  have HF : Hid (m.xs.find? (isP s q) = (m.xs.filter (isP s q)).head?) := List.head?_filter.symm
  obtain ⟨fl, hfl⟩ : ∃ fl, m.xs.filter (isP s q) = fl := ⟨_, rfl⟩
  rw [hfl] at HT HF
  rw [HT.out] at HR hdn
  obtain ⟨da, dl, dc⟩ := d
  simp only at hdn
  cases fl with
  | nil =>
    obtain rfl : dl = 0 := by simpa using hdn.symm
    have HV2 := Lib.hid (HV.out.trans (show getM m.xs s q = ((rz0, []), false) by unfold getM; rw [HF.out]; rfl))
    clear hdn hfl HT HF HV
    go_wp2_with (refine wpList_store_row rfl 30 _ _ rfl (p + 2) (rcA rz0 dz0) rfl rfl 30 _ KCH.out (by kernel_rfl) rfl (by simp [Value.oneCell', rcA]) ?_)
    have KF := Kn.setRow (KK.out.sub (m := [(p + 2, rcO rz0 dz0)]) (by simp)) trivial (by omega) (rcO rz0 dz0)
    refine bodyPost_ret (v := .tuple #[.agg (rcA rz0 dz0), .bool false]) (results_cell_tmpO rfl _ _ (p + 2) 30 (rcA rz0 dz0) (0, 0) _ _ rfl rfl KF.hd Try.underlying30 rfl (by kernel_rfl)) rfl ⟨⟨rz0, dz0, []⟩, by rw [HV2.out], ⟨⟨z64, by decide, z64, z64, z64, z64, z64, z64⟩, ⟨⟨rfl, .inl rfl⟩, Nat.le_refl _, by decide⟩⟩, by rw [HV2.out]; rfl, by first | exact KF.b | (rw [hg]; exact KF.b)⟩
  | cons y ys =>
    have hd1 : dl = 1 := by simpa using hdn.symm
    subst hd1
    have HV2 := Lib.hid (HV.out.trans (show getM m.xs s q = (y, true) by unfold getM; rw [HF.out]; rfl))
    obtain ⟨⟨rs, r1, r2, r3, r4, r5⟩, rc, rm⟩ := HR.out
    obtain ⟨b, o, x, hda, hxk, hC⟩ := recs_at r1 0 (by simp)
    simp only at hda
    subst hda
    have hxm : x.m = y := by
      have h1 : (rs.map RecA.m)[0]? = some x.m := by rw [List.getElem?_map, hxk]; rfl
      rw [r2] at h1
      simpa using h1.symm
    have HXM := Lib.hid hxm
    have HXO := Lib.hid (r3 x (List.mem_of_getElem? hxk)).1
    have HTI := Lib.hid (r4 x (List.mem_of_getElem? hxk))
    have HC := Lib.hid (hC wn (Below.refl _ _))
    clear hdn hfl HT HF HV r1 r2 r3 r4 r5 rc rm hxk hC hxm HR
    obtain ⟨r, dx, ds⟩ := x
    have hfar := Lib.hid (HTI.out.off KCH.out)
    simp only [Nat.zero_mul, Nat.add_zero] at HC
    go_wp2_with (first
      | refine wpList_load_mid rfl 30 _ rfl b o rfl (rcA r dx).toList _ HC.out Try.underlying30 rfl (by kernel_rfl) ?_
      | refine wpList_store_row rfl 30 _ _ rfl (p + 2) (rcA r dx) rfl rfl 30 _ KCH.out (by kernel_rfl) rfl (by simp [Value.oneCell', rcA]) ?_)
    have KF := Kn.setRow (KK.out.sub (m := [(p + 2, rcO rz0 dz0)]) (by simp)) trivial (by omega) (rcO r dx)
    refine bodyPost_ret (v := .tuple #[.agg (rcA r dx), .bool true]) (results_cell_tmpO rfl _ _ (p + 2) 30 (rcA r dx) (0, 0) _ _ rfl rfl KF.hd Try.underlying30 rfl (by kernel_rfl)) rfl ⟨⟨r, dx, ds⟩, by rw [HV2.out], ⟨HXO.out.wf, SlR.keep (F := [p + 2]) HXO.out.sl hfar.out (by simp [World.setRow]) (fun i _ hi => setRow_other _ _ _ _ (by simpa using hi))⟩, by rw [HV2.out]; exact HXM.out, by first | exact KF.b | (rw [hg]; exact KF.b)⟩
end
end Go.Proofs.Ytdihbinbkneejaa
