/- sample.Read, with its inner function and list. -/
import Derived.Test.YtglabahbklpocaaGreatGShipPacks37
import Derived.Test.YtglabahbklpocaaGreatGShipPacks17
import Derived.Test.YtglabahbklpocaaGreatGShipPacks9
import Derived.Test.YtglabahbklpocaaGreatGShipPacks16
import Derived.Laws.EntriesVeiled
namespace Go.Proofs.YtglabahbklpocaaGreat
section
open Go.RowKit Go.Deep
set_option maxRecDepth 100000
set_option linter.unusedVariables false
set_option linter.unusedSimpArgs false
attribute [local go_sem ↓] Go.wp_at_zero Go.wp_at_succ
/-- A captured variable that holds a reader's bound method. -/
def capF (g : Nat) : Obj := .cells #[.func (.func 44) #[.pointer (some ⟨g, 0, none⟩)] #[]] 77 (0, 0)
def smB (r : Rdr) : Int × Rdr := r.small 1099511627776
set_option maxHeartbeats 4000000 in
theorem rr1_any (c g : Nat) (r : Rdr) (w : World) (hc : w.heap[c]? = some (capF g)) (hne : c ≠ g) (h : RdrAt 140 w g r) (hr : r.ok) :
    Calls Tryz.prog 115 #[.pointer (some ⟨c, 0, none⟩)] w fun e w' => e = .returned (.int .i64 (smB r).1) ∧ RdrAt 140 w' g (smB r).2 ∧ But g w w' := by
  have c0 : w.cell? ⟨c, 0, none⟩ = some (.func (.func 44) #[.pointer (some ⟨g, 0, none⟩)] #[]) := by simp only [World.cell?, hc, capF]; rfl
  clear hc
  go_enter Tryz.func115, Tryz.ntmps115
  go_wp2_with fail
  refine (rdr_small g r 1099511627776 _ h hr (by decide) (by decide)).mono ?_
  rintro e w1 ⟨rfl, h1, d1⟩
  go_wp2_with fail
  go_ret
  exact ⟨rfl, h1, d1⟩
set_option maxHeartbeats 4000000 in
theorem listI_any (c g : Nat) (r : Rdr) (w : World) (hc : w.heap[c]? = some (capF g)) (hne : c ≠ g) (h : RdrAt 140 w g r) (hr : r.ok) :
    Calls Tryz.prog 114 #[.pointer (some ⟨g, 0, none⟩), .int .i64 8, .func (.func 115) #[] #[.pointer (some ⟨c, 0, none⟩)]] w fun e w' => ∃ k a cap, e = .returned (.slice a k cap) ∧ AppJ w' w.heap.size a k cap (takeN k (r.small 8).2).1 ∧ k ≤ (r.small 8).1.toNat ∧ (k = (r.small 8).1.toNat ∨ (takeN k (r.small 8).2).2.left = 0) ∧ RdrAt 140 w' g (takeN k (r.small 8).2).2 ∧ But g w w' := by
  have K0 := (Kr.start h).put hc hne
  have hsr := small_range hr (m := 8) (by decide)
  have hsm := Rdr.small_ok hr 8
  have hg0 := h.lt
  have hc0 := heap_lt hc
  clear h hc
  have CS := fun wx hx => rdr_small g r 8 wx hx hr (by decide) (by decide)
  generalize (r.small 8).2 = R1 at *
  obtain ⟨n, hn⟩ : ∃ n : Nat, (r.small 8).1 = n := ⟨(r.small 8).1.toNat, by omega⟩
  rw [hn] at hsr ⊢
  simp only [hn] at CS
  rw [Int.toNat_natCast]
  clear hn hr
  go_enter Tryz.func114, Tryz.ntmps114
  go_wp2_with fail
  refine (CS _ K0.rd).mono ?_
  rintro e w1 ⟨rfl, hn, dn⟩
  have K1 := K0.step hn dn
  clear hn dn K0 CS
  have INIT := Lib.hid K1
  have hgl := K1.b.size
  clear K1
  go_wp2_with fail
  go_loopw [7, 11] (fun p i wr => ∃ (k : Nat) (a : Option Addr) (cap : Nat), k ≤ n ∧ i = .int .i64 k ∧ p = .slice a k cap ∧ AppJ wr w.heap.size a k cap (takeN k R1).1 ∧ Kr 140 g w [(c, capF g)] (takeN k R1).2 wr) (fun _ i _ => 8 + 1 - (intOf i).toNat)
  case atStart => exact ⟨0, none, 0, by omega, rfl, rfl, appJ_nil _ _, INIT.out⟩
  case round =>
    obtain ⟨k, a, cap, hk, rfl, rfl, hA, hKK⟩ := hrel
    have KK := Lib.hid hKK
    have hRok := takeN_ok hsm.1 k
    have hRok2 := takeN_ok hsm.1 (k + 1)
    have hle := hA.le
    have hmax : cap ≤ 9223372036854775807 := (by first | exact maxLen_i hA.max | exact hA.max)
    have HA := Lib.hid hA
    have hsz := hKK.b.size
    have hgw := hKK.rd.lt
    clear hA hKK
    by_cases hlt : k < n
    · have t2 : decide ((k : Int) < (n : Int)) = true := decide_eq_true (by omega)
      have HT : Hid (takeN (k + 1) R1 = ((takeN k R1).1 ++ [(smB (takeN k R1).2).1], (smB (takeN k R1).2).2)) := rfl
      have HX := fun wx hx (h1 : RdrAt 140 wx g (takeN k R1).2) => rr1_any c g (takeN k R1).2 wx hx hne h1 hRok.1
      generalize hQ : takeN (k + 1) R1 = Q1 at *
      generalize takeN k R1 = Q0 at *
      obtain ⟨L, R⟩ := Q0
      obtain ⟨L', R'⟩ := Q1
      simp only at HA KK hRok hRok2 HX HT
      obtain ⟨PV, hPV⟩ : ∃ PV, smB R = PV := ⟨_, rfl⟩
      rw [hPV] at HX HT
      obtain ⟨y, R2⟩ := PV
      obtain ⟨hL, rfl⟩ : L' = L ++ [y] ∧ R2 = R' := by have := HT.out; simp only [Prod.mk.injEq] at this; exact ⟨this.1, this.2.symm⟩
      simp only at HX
      have HL := Lib.hid hL
      clear hPV HT hL
      have HQ := Lib.hid hQ
      clear hQ
      go_wp2_with (first | (go_at_call 115; refine (HX _ (KK.out.at_ (c, capF g) (by simp)).2 KK.out.rd).mono ?_; rintro e w3 ⟨rfl, h3, d3⟩; have KK := Lib.hid (KK.out.step h3 d3); have hw3 := d3.size; have HA := Lib.hid (HA.out.but d3 hg0); clear h3 d3) | (at_builtin; refine wpList_append_i64 rfl _ _ rfl _ w.heap.size a k cap L rfl (HA.out.below ?q1) ?q2 ?q3 ⟨w3.heap.size, 0, none⟩ 1 y rfl ?q4 ?q5))
      case q4 => rw [World.cell?_alloc_new]; rfl
      case q1 => exact (Below.refl _ _).alloc (Nat.le_refl _) _
      case q2 => simp; omega
      case q3 => omega
      case q5 =>
        intro a3 cap3 w5 hA5 hb5
        have KK := Lib.hid (Kr.own KK.out (((Below.refl w.heap.size w3).alloc (by omega) _).trans hb5) hg0 (by intro p hp; simp only [List.mem_singleton] at hp; subst hp; exact hc0))
        have HA := Lib.hid hA5
        clear hA5 hb5
        go_wp2_with fail
        refine (rdr_left g _ _ KK.out.rd hRok2.1).mono ?_
        rintro e w6 ⟨rfl, dq⟩
        have KK := Lib.hid (KK.out.step (dq.rdr KK.out.rd) dq.but)
        have HA := Lib.hid (HA.out.below dq.below)
        clear dq
        by_cases hz : R2.left = 0
        · have t4 : (R2.left == 0) = true := beq_iff_eq.2 hz
          have HZ := Lib.hid hz
          clear hz
          go_wp2_with fail
          go_ret
          exact ⟨k + 1, a3, cap3, rfl, by rw [HQ.out, HL.out]; exact HA.out, by omega, .inr (by rw [HQ.out]; exact HZ.out), by rw [HQ.out]; exact KK.out.rd, KK.out.b⟩
        · have t4 : (R2.left == 0) = false := beq_eq_false_iff_ne.2 hz
          clear hz
          go_wp2_with fail
          go_roundw
          case rel => exact ⟨k + 1, a3, cap3, by omega, by go_num, rfl, by rw [HQ.out, HL.out]; exact HA.out, by rw [HQ.out]; exact KK.out⟩
          case measure => simp [intOf]; omega
    · obtain rfl : k = n := by omega
      have t2 : decide ((k : Int) < (k : Int)) = false := decide_eq_false (by omega)
      go_wp2_with fail
      go_ret
      exact ⟨k, a, cap, rfl, HA.out, by omega, .inl rfl, KK.out.rd, KK.out.b⟩
def rc0O : Rc := ⟨0, ⟨#[]⟩, 0, 0, 0, ⟨0, 0, 0⟩⟩
def preR (r : Rdr) : Rc × Rdr :=
  if (r.small 2).1 = 1 then (⟨(r.small 2).1, (r.small 2).2.text.1, ((r.small 2).2.text.2.small 1099511627776).1, ((r.small 2).2.text.2.small 1099511627776).2.int.1, 0, ⟨0, 0, 0⟩⟩, hdA r)
  else (⟨(r.small 2).1, ⟨#[]⟩, (((r.small 2).2.small 3).2.small 1099511627776).1, 0, ((r.small 2).2.small 3).1, ⟨0, 0, 0⟩⟩, hdB r)
theorem hdR_pre (r : Rdr) : hdR r = ({ (preR r).1 with st := (takeV (preR r).2).1 }, (takeV (preR r).2).2) := by
  unfold hdR preR
  split <;> rfl
theorem preR_ok {r : Rdr} (hr : r.ok) : (preR r).2.ok ∧ (preR r).2.s = r.s := by
  have k1 := Rdr.small_ok hr 2
  unfold preR
  split
  · have k2 := Rdr.text_ok k1.1
    have k3 := Rdr.small_ok k2.1 1099511627776
    have k4 := Rdr.int_ok k3.1
    exact ⟨k4.1, k4.2.trans (k3.2.trans (k2.2.trans k1.2))⟩
  · have k2 := Rdr.small_ok k1.1 3
    have k3 := Rdr.small_ok k2.1 1099511627776
    exact ⟨k3.1, k3.2.trans (k2.2.trans k1.2)⟩
theorem chkR_iff (r : Rc) (ds : List Int) : chkR r ds = 0 ↔ recP r ds := by
  constructor
  · intro h
    rcases Classical.em (recP r ds) with h1 | h1
    · exact h1
    · rw [chkR_1 h1] at h
      cases h
  · exact chkR_0
theorem list_read2 {s : ByteArray} (hs : s.size ≤ 1000000000) {R : Rdr} {n k : Nat} (hR : R = ((hdR (r0 s)).2.small 8).2) (hn : n = ((hdR (r0 s)).2.small 8).1.toNat) (hk : k ≤ n) (hkn : k = n ∨ (takeN k R).2.left = 0) :
    (((takeN k R).2.fin = 0 ∧ chkR (hdR (r0 s)).1 (takeN k R).1 = 0 ∧ recB (hdR (r0 s)).1 (takeN k R).1 = s) ↔ rrOk s) ∧ (rrOk s → (takeN k R).1 = (tkV (hdR (r0 s)).2).1) := by
  have h := list_read hs hR hn hk hkn
  refine ⟨⟨fun x => h.1.1 ⟨x.1, (chkR_iff _ _).1 x.2.1, ?_⟩, fun x => ?_⟩, h.2⟩
  · have := x.2.2
    unfold recB at this
    rwa [if_pos ((chkR_iff _ _).1 x.2.1)] at this
  · have y := h.1.2 x
    refine ⟨y.1, chkR_0 y.2.1, ?_⟩
    unfold recB
    rw [if_pos y.2.1]
    exact y.2.2
theorem SlR.far {w : World} {d : Sl} {xs : List Int} (h : SlR w d xs) {q : Nat} (hd : ∀ p, d.a = some p → p.block ≠ q) (j : Nat) (v : Value) : SlR (w.setCell ⟨q, j, none⟩ v) d xs := by
  obtain ⟨⟨h1, h2⟩, h3, h4⟩ := h
  refine ⟨⟨h1, h2.imp_right fun ⟨b, o, e1, e2, e3⟩ => ⟨b, o, e1, by simpa [World.setCell] using e2, fun i hi => ?_⟩⟩, h3, h4⟩
  have hne : b ≠ q := hd _ e1
  rw [← e3 i hi]
  simp only [World.cell?]
  rw [Below.heap_setCell w ⟨q, j, none⟩ v b hne]
theorem SlR.farRow {w : World} {d : Sl} {xs : List Int} (h : SlR w d xs) {q : Nat} (hd : ∀ p, d.a = some p → p.block ≠ q) (cs : Array Value) : SlR (w.setRow q cs) d xs := by
  obtain ⟨⟨h1, h2⟩, h3, h4⟩ := h
  exact ⟨⟨h1, h2.imp_right fun ⟨b, o, e1, e2, e3⟩ => ⟨b, o, e1, by simpa [World.setRow] using e2, fun i hi => cell_row_far (e3 i hi) (hd _ e1)⟩⟩, h3, h4⟩
theorem res_cell_tmp {P : Program} {fn : Func} {p q : Tmp} {ty : TypeId} (h : fn.results = #[.cell p ty, .tmp q]) (tmps : Array Value) (w : World) (g : Nat) (t : TypeId) (cs : Array Value) (fr : Nat × Nat) (d : TypeDesc) (v : Value)
    (hp : tmps.getD p undef = .pointer (some ⟨g, 0, none⟩)) (hv : tmps.getD q undef = v) (hg : w.heap[g]? = some (.cells cs t fr))
    (hu : P.underlying ty = some d) (hd : (match d with | .struct _ | .array _ _ => true | _ => false) = true) (hi : (P.info? ty).map (·.size) = some cs.size) :
    (results fn tmps).run P w = .ok (.tuple #[.agg cs, v]) w := by
  have hp' : tmps[p]?.getD undef = .pointer (some ⟨g, 0, none⟩) := by simpa using hp
  have hv' : tmps[q]?.getD undef = v := by simpa using hv
  simp [results, h, hp', hv', asAddr, run_loadVar_row w g t ty cs fr d hg hu hd hi]
theorem Kr.belowB {T : TypeId} {g : Nat} {w0 w : World} {l : List (Nat × Obj)} {R : Rdr} (h : Kr T g w0 l R w) (hg : w0.heap.size ≤ g) : Below w0.heap.size w0 w := But.below (Below.refl _ _) h.b (Nat.le_refl _) hg
/-- A slice of numbers lies in a block of numbers. -/
def TIn (w : World) (d : Sl) : Prop := d.n = 0 ∨ ∃ g cur, d.a = some ⟨g, 0, none⟩ ∧ w.heap[g]? = some (.cells cur 3 (0, 0))
theorem TIn.below {w w' : World} {d : Sl} (h : TIn w d) (hb : Below w.heap.size w w') : TIn w' d := h.imp_right fun ⟨g, cur, e1, e2⟩ => ⟨g, cur, e1, (hb.block g (heap_lt e2)).trans e2⟩
theorem TIn.but {w w' : World} {d : Sl} {q : Nat} (h : TIn w d) (hd : ∀ p, d.a = some p → p.block ≠ q) (k : But q w w') : TIn w' d := h.imp_right fun ⟨g, cur, e1, e2⟩ => ⟨g, cur, e1, (k.block g (heap_lt e2) (by simp; exact hd _ e1)).trans e2⟩
theorem AppJ.tin {w : World} {B : Nat} {a : Option Addr} {n cap : Nat} {l : List Int} (h : AppJ w B a n cap l) : TIn w ⟨a, n, cap⟩ := by
  rcases h.row.2 with ⟨e, h0⟩ | ⟨g, c, cur, e, _, e3, _⟩
  · exact .inl h0
  · simp only [Value.slice.injEq] at e
    exact .inr ⟨g, cur, e.1, e3⟩
theorem But.rowS (g : Nat) (w : World) (cs : Array Value) : But g w (w.setRow g cs) := ⟨rfl, rfl, rfl, by simp [World.setRow], fun i hi hne => setRow_other w g i cs (by simpa using hne)⟩
set_option maxHeartbeats 8000000 in
theorem sread_f (s : ByteArray) (w : World) (hs : s.size ≤ 1000000000) : Calls Tryz.prog 53 #[.string s] w fun e w' => ∃ d, e = .returned (.tuple #[rcVal (readR s).1 d, .int .i64 (readR s).2.2]) ∧ SlR w' d (readR s).2.1 ∧ (∀ x, d.a = some x → w.heap.size ≤ x.block) ∧ TIn w' d ∧ Below w.heap.size w w' := by
  have hok := r0_ok hs
  have k1 := Rdr.small_ok hok 2
  have k2 := preR_ok hok
  have hwf := hd_wf hok
  have HPRE : Hid (preR (r0 s) = if ((r0 s).small 2).1 = 1 then (⟨((r0 s).small 2).1, ((r0 s).small 2).2.text.1, (((r0 s).small 2).2.text.2.small 1099511627776).1, (((r0 s).small 2).2.text.2.small 1099511627776).2.int.1, 0, ⟨0, 0, 0⟩⟩, (((r0 s).small 2).2.text.2.small 1099511627776).2.int.2) else (⟨((r0 s).small 2).1, ⟨#[]⟩, ((((r0 s).small 2).2.small 3).2.small 1099511627776).1, 0, (((r0 s).small 2).2.small 3).1, ⟨0, 0, 0⟩⟩, ((((r0 s).small 2).2.small 3).2.small 1099511627776).2)) := rfl
  have HHD := Lib.hid (hdR_pre (r0 s))
  have LR := fun R n k hR hn (h1 : k ≤ n) h2 => list_read2 (R := R) (n := n) (k := k) hs hR hn h1 h2
  have HV0 : Hid (rrOk s → readR s = ((hdR (r0 s)).1, (tkV (hdR (r0 s)).2).1, 0)) := fun h => readR_pos h
  have HV1 : Hid (¬ rrOk s → readR s = (rc0O, [], 10)) := fun h => readR_neg h
  generalize readR s = V at *
  generalize tkV (hdR (r0 s)).2 = TKV at *
  go_enter Tryz.func53, Tryz.ntmps53
  go_upto_region 1 with fail
  generalize hw1 : World.alloc _ _ = w1
  have K1 : Kn w.heap.size w [(w.heap.size, rcO rc0O Sl0)] w1 := by rw [← hw1]; exact (Kn.start w).new' rfl (rcO rc0O Sl0)
  clear hw1
  obtain ⟨p, hp⟩ : ∃ p, w.heap.size = p := ⟨_, rfl⟩
  rw [hp] at K1 ⊢
  go_wp2_with fail
  refine (rdr_read s _).mono ?_
  rintro e w2 ⟨rfl, hr, d2⟩
  have hpl := K1.lt (p, rcO rc0O Sl0) (by simp)
  have K2 := K1.below d2
  have hl2 := hr.lt
  simp only at hpl
  have KK : Hid (Kr 140 w1.heap.size w [(p, rcO rc0O Sl0)] (r0 s) w2) := ⟨hr, by intro x hx; simp only [List.mem_singleton] at hx; subst hx; exact ⟨by simp only; omega, K2.at_ (p, rcO rc0O Sl0) (by simp)⟩, But.of_below (by rw [hp]; exact K2.b)⟩
  clear d2 K1 K2 hr
  obtain ⟨g, hg⟩ : ∃ g, w1.heap.size = g := ⟨_, rfl⟩
  rw [hg] at KK hl2 hpl ⊢
  go_upto_region 3 with fail
  generalize hw3 : World.alloc _ _ = w3
  have KK := Lib.hid (show Kr 140 g w [(w2.heap.size, capF g), (p, rcO rc0O Sl0)] (r0 s) w3 by rw [← hw3]; exact KK.out.new' rfl (capF g))
  clear hw3
  obtain ⟨c, hc⟩ : ∃ c, w2.heap.size = c := ⟨_, rfl⟩
  rw [hc] at KK hl2 ⊢
  have c0 := KK.out.cell (k := c) (o := capF g) (by simp) (j := 0) (v := .func (.func 44) #[.pointer (some ⟨g, 0, none⟩)] #[]) rfl
  go_upto_region 4 with (first | (go_at_call 44; refine (rdr_small g (r0 s) 2 _ KK.out.rd hok (by decide) (by decide)).mono ?_; rintro e w4 ⟨rfl, hn, dn⟩; have KK := Lib.hid (KK.out.step hn dn); clear hn dn))
  have hql : c < w4.heap.size := KK.out.lt (c, capF g) (by simp)
  generalize hw5 : World.alloc _ _ = w5
  have KK := Lib.hid (show Kr 140 g w [(w4.heap.size, rcO ⟨((r0 s).small 2).1, ⟨#[]⟩, 0, 0, 0, ⟨0, 0, 0⟩⟩ Sl0), (c, capF g), (p, rcO rc0O Sl0)] ((r0 s).small 2).2 w5 by rw [← hw5]; exact KK.out.new' rfl (rcO ⟨((r0 s).small 2).1, ⟨#[]⟩, 0, 0, 0, ⟨0, 0, 0⟩⟩ Sl0))
  clear hw5 c0
  obtain ⟨q, hq⟩ : ∃ q, w4.heap.size = q := ⟨_, rfl⟩
  rw [hq] at KK hql ⊢
  have hA : Apart q [(c, capF g), (p, rcO rc0O Sl0)] := ⟨by simp only; omega, by simp only; omega, trivial⟩
  generalize (r0 s).small 2 = SM at *
  obtain ⟨kind, R1⟩ := SM
  simp only at KK k1 HPRE
  have c0 := KK.out.cell (k := q) (o := rcO ⟨kind, ⟨#[]⟩, 0, 0, 0, ⟨0, 0, 0⟩⟩ Sl0) (by simp) (j := 0) (v := .int .i64 kind) rfl
  clear hg hc hq
  go_upto_if 18 with fail
  go_cut [18] (fun _ wx => Kr 140 g w [(q, rcO (preR (r0 s)).1 Sl0), (c, capF g), (p, rcO rc0O Sl0)] (preR (r0 s)).2 wx)
  case first =>
    by_cases hk : kind = 1
    · have t1 : (kind == 1) = true := beq_iff_eq.2 hk
      have HPRE := Lib.hid (HPRE.out.trans (if_pos hk))
      clear hk c0
      have k3 := Rdr.text_ok k1.1
      have k4 := Rdr.small_ok k3.1 1099511627776
      have k5 := Rdr.int_ok k4.1
      go_upto_region 6 with (first | (go_at_call 50; refine (rdr_text g _ _ KK.out.rd k1.1).mono ?_; rintro e wn ⟨rfl, hn, dn⟩; have KK := Lib.hid (KK.out.step hn dn); clear hn dn; have ⟨q1, f1⟩ := KK.out.cf (k := q) (o := rcO ⟨kind, ⟨#[]⟩, 0, 0, 0, ⟨0, 0, 0⟩⟩ Sl0) (by simp) 1 (v := .string ⟨#[]⟩) rfl))
      generalize hwx : World.setCell _ _ _ = wx
      clear q1 f1
      have KK := Lib.hid (show Kr 140 g w [(q, rcO ⟨kind, R1.text.1, 0, 0, 0, ⟨0, 0, 0⟩⟩ Sl0), (c, capF g), (p, rcO rc0O Sl0)] _ wx by rw [← hwx]; exact KK.out.setCell hA (by omega) 1 _ _ rfl)
      clear hwx
      have c0 := KK.out.cell (k := c) (o := capF g) (by simp) (j := 0) (v := .func (.func 44) #[.pointer (some ⟨g, 0, none⟩)] #[]) rfl
      go_upto_region 7 with (first | (go_at_call 44; refine (rdr_small g _ 1099511627776 _ KK.out.rd k3.1 (by decide) (by decide)).mono ?_; rintro e wn ⟨rfl, hn, dn⟩; have KK := Lib.hid (KK.out.step hn dn); clear hn dn; have ⟨q1, f1⟩ := KK.out.cf (k := q) (o := rcO ⟨kind, R1.text.1, 0, 0, 0, ⟨0, 0, 0⟩⟩ Sl0) (by simp) 2 (v := .int .i64 0) rfl))
      generalize hwx : World.setCell _ _ _ = wx
      clear c0 q1 f1
      have KK := Lib.hid (show Kr 140 g w [(q, rcO ⟨kind, R1.text.1, (R1.text.2.small 1099511627776).1, 0, 0, ⟨0, 0, 0⟩⟩ Sl0), (c, capF g), (p, rcO rc0O Sl0)] _ wx by rw [← hwx]; exact KK.out.setCell hA (by omega) 2 _ _ rfl)
      clear hwx
      go_wp2_with (first | (go_at_call 112; refine (rdr_int g _ _ KK.out.rd k4.1).mono ?_; rintro e wn ⟨rfl, hn, dn⟩; have KK := Lib.hid (KK.out.step hn dn); clear hn dn; have ⟨q1, f1⟩ := KK.out.cf (k := q) (o := rcO ⟨kind, R1.text.1, (R1.text.2.small 1099511627776).1, 0, 0, ⟨0, 0, 0⟩⟩ Sl0) (by simp) 3 (v := .int .i64 0) rfl))
      go_meet
      rw [HPRE.out]
      exact KK.out.setCell hA (by omega) 3 _ _ rfl
    · have t1 : (kind == 1) = false := beq_eq_false_iff_ne.2 hk
      have HPRE := Lib.hid (HPRE.out.trans (if_neg hk))
      clear hk c0
      have k3 := Rdr.small_ok k1.1 3
      have k4 := Rdr.small_ok k3.1 1099511627776
      have c0 := KK.out.cell (k := c) (o := capF g) (by simp) (j := 0) (v := .func (.func 44) #[.pointer (some ⟨g, 0, none⟩)] #[]) rfl
      go_upto_region 9 with (first | (go_at_call 44; refine (rdr_small g _ 3 _ KK.out.rd k1.1 (by decide) (by decide)).mono ?_; rintro e wn ⟨rfl, hn, dn⟩; have KK := Lib.hid (KK.out.step hn dn); clear hn dn; have ⟨q1, f1⟩ := KK.out.cf (k := q) (o := rcO ⟨kind, ⟨#[]⟩, 0, 0, 0, ⟨0, 0, 0⟩⟩ Sl0) (by simp) 4 (v := .int .i64 0) rfl))
      generalize hwx : World.setCell _ _ _ = wx
      clear c0 q1 f1
      have KK := Lib.hid (show Kr 140 g w [(q, rcO ⟨kind, ⟨#[]⟩, 0, 0, (R1.small 3).1, ⟨0, 0, 0⟩⟩ Sl0), (c, capF g), (p, rcO rc0O Sl0)] _ wx by rw [← hwx]; exact KK.out.setCell hA (by omega) 4 _ _ rfl)
      clear hwx
      have c0 := KK.out.cell (k := c) (o := capF g) (by simp) (j := 0) (v := .func (.func 44) #[.pointer (some ⟨g, 0, none⟩)] #[]) rfl
      go_wp2_with (first | (go_at_call 44; refine (rdr_small g _ 1099511627776 _ KK.out.rd k3.1 (by decide) (by decide)).mono ?_; rintro e wn ⟨rfl, hn, dn⟩; have KK := Lib.hid (KK.out.step hn dn); clear hn dn; have ⟨q1, f1⟩ := KK.out.cf (k := q) (o := rcO ⟨kind, ⟨#[]⟩, 0, 0, (R1.small 3).1, ⟨0, 0, 0⟩⟩ Sl0) (by simp) 2 (v := .int .i64 0) rfl))
      go_meet
      rw [HPRE.out]
      exact KK.out.setCell hA (by omega) 2 _ _ rfl
  case rest =>
    have KK := Lib.hid hcut
    clear hcut HPRE k1 c0
    have TK := fun wx hx => take_any g (preR (r0 s)).2 wx hx k2.1
    have kt := takeV_ok k2.1
    have h8 := small_range kt.1 (m := 8) (by decide)
    generalize preR (r0 s) = PR at *
    obtain ⟨rc, R2⟩ := PR
    simp only at KK TK HHD kt h8 k2
    rw [HHD.out] at LR hwf HV0
    generalize takeV R2 = AS at *
    obtain ⟨A, R3⟩ := AS
    simp only at TK LR HV0 hwf kt h8
    clear HHD
    have LL := fun c wx hc hne h => listI_any c g R3 wx hc hne h kt.1
    have LQ := fun k => takeN_ok (Rdr.small_ok kt.1 8).1 k
    have LR := fun k h1 h2 => LR (R3.small 8).2 (R3.small 8).1.toNat k rfl rfl h1 h2
    clear h8
    generalize (R3.small 8).2 = R4 at *
    generalize (R3.small 8).1.toNat = n at *
    have HLR := Lib.hid LR
    clear LR
    unfold St.val at TK
    go_upto_region 11 with (first | (go_at_call 113; refine (TK _ KK.out.rd).mono ?_; rintro e wn ⟨rfl, hn, dn⟩; have KK := Lib.hid (KK.out.step hn dn); clear hn dn; have ⟨q5, f5⟩ := KK.out.cf (k := q) (o := rcO rc Sl0) (by simp) 5 (v := .int .i64 rc.st.clock) rfl; have ⟨q6, f6⟩ := KK.out.cf (k := q) (o := rcO rc Sl0) (by simp) 6 (v := .int .i64 rc.st.site) rfl; have ⟨q7, f7⟩ := KK.out.cf (k := q) (o := rcO rc Sl0) (by simp) 7 (v := .int .i64 rc.st.seq) rfl))
    generalize hwx : World.setCell _ _ _ = wx
    have KK := Lib.hid (show Kr 140 g w [(q, rcO { rc with st := A } Sl0), (c, capF g), (p, rcO rc0O Sl0)] _ wx by rw [← hwx]; exact ((KK.out.setCell hA (by omega) 5 (.int .i64 A.clock) (rcO { rc with st := ⟨A.clock, rc.st.site, rc.st.seq⟩ } Sl0) rfl).setCell hA (by omega) 6 (.int .i64 A.site) (rcO { rc with st := ⟨A.clock, A.site, rc.st.seq⟩ } Sl0) rfl).setCell hA (by omega) 7 (.int .i64 A.seq) (rcO { rc with st := ⟨A.clock, A.site, A.seq⟩ } Sl0) rfl)
    clear hwx TK q5 q6 q7 f5 f6 f7
    generalize ({ rc with st := A } : Rc) = rd at *
    go_wp2_with fail
    refine (LL c _ (KK.out.at_ (c, capF g) (by simp)).2 (by omega) KK.out.rd).mono ?_
    rintro e wn ⟨k, a, cap, rfl, hAJ, hk, hkn, hn, dn⟩
    have hwl : q < _ := KK.out.lt (q, rcO rd Sl0) (by simp)
    have KK := Lib.hid (KK.out.step hn dn)
    have HG := hAJ.ge
    have HS := hAJ.sl
    have HS := Lib.hid (show SlR wn ⟨a, k, cap⟩ (takeN k R4).1 from ⟨HS.r, HS.h1, HS.h2⟩)
    have HTI := Lib.hid hAJ.tin
    have HLR := Lib.hid (HLR.out k hk hkn)
    have HLQ := LQ k
    clear hn dn hAJ hk hkn LQ LL
    generalize takeN k R4 = TN at *
    obtain ⟨ds, R⟩ := TN
    simp only at HS KK HLR HLQ
    have ⟨q8, f8⟩ := KK.out.cf (k := q) (o := rcO rd Sl0) (by simp) 8 (v := .slice none 0 0) rfl
    go_upto_region 12 with fail
    generalize hwx : World.setCell _ _ _ = wx
    have HS := Lib.hid (show SlR wx ⟨a, k, cap⟩ ds by rw [← hwx]; exact HS.out.far (fun p hp => by have := HG p hp; omega) _ _)
    have HTI := Lib.hid (show TIn wx ⟨a, k, cap⟩ by rw [← hwx]; exact HTI.out.but (q := q) (fun p hp => by have := HG p hp; omega) (But.set q 8 _ _))
    have HG2 : Hid (∀ x, a = some x → w.heap.size ≤ x.block) := fun x hx => by have := HG x hx; omega
    have HG : Hid (∀ x, a = some x → x.block ≠ p) := fun x hx => by have := HG x hx; omega
    have KK := Lib.hid (show Kr 140 g w [(q, rcO rd ⟨a, k, cap⟩), (c, capF g), (p, rcO rc0O Sl0)] _ wx by rw [← hwx]; exact KK.out.setCell hA (by omega) 8 _ _ rfl)
    clear hwx
    clear q8 f8
    have B1 := sbytes_any rd ⟨a, k, cap⟩ ds wx hwf HS.out
    generalize recB rd ds = S at *
    generalize chkR rd ds = E at *
    unfold rcVal at B1
    go_upto_region 13 with (first
      | refine wpList_load_row rfl 60 _ rfl q rfl 60 (rcA rd ⟨a, k, cap⟩) (0, 0) _ KK.out.hd Tryz.underlying60 rfl (by kernel_rfl) ?_
      | (go_at_call 42; refine (B1).mono ?_; rintro e wb ⟨rfl, db⟩; have KK := Lib.hid (KK.out.below db); have HS := Lib.hid (HS.out.below db); have HTI := Lib.hid (HTI.out.below db); clear db))
    clear B1
    have F1 := rdr_end g R _ KK.out.rd HLQ.1
    have hfin : R.fin = 0 ∨ R.fin = 10 := by unfold Rdr.fin; split <;> simp
    rcases hfin with hf | hf
    · rw [hf] at HLR F1
      by_cases hE : E = 0
      · have t1 : (E != 0) = false := bne_eq_false_iff_eq.2 hE
        by_cases hS : S = s
        · have t2 : (S.toList != s.toList) = false := by rw [hS]; exact bne_self_eq_false _
          have t2' : (S.toList == s.toList) = true := by rw [hS]; exact beq_self_eq_true _
          have hok2 := HLR.out.1.1 ⟨rfl, hE, hS⟩
          have HV := Lib.hid ((HV0.out hok2).trans (by rw [← HLR.out.2 hok2]))
          clear hE hS hok2
          go_wp2_with (first
            | (go_at_call 54; refine (F1).mono ?_; rintro e w8 ⟨rfl, dq⟩; have KK := Lib.hid (KK.out.step (dq.rdr KK.out.rd) dq.but); have HS := Lib.hid (HS.out.below dq.below); have HTI := Lib.hid (HTI.out.below dq.below))
            | refine wpList_load_row rfl 60 _ rfl q rfl 60 (rcA rd ⟨a, k, cap⟩) (0, 0) _ KK.out.hd Tryz.underlying60 rfl (by kernel_rfl) ?_
            | refine wpList_store_row rfl 60 _ _ rfl p (rcA rd ⟨a, k, cap⟩) rfl rfl 60 _ (KK.out.at_ (p, rcO rc0O Sl0) (by simp)).2 (by kernel_rfl) rfl (by simp [Value.oneCell', rcA]) ?_)
          have KF := Kr.setRow (KK.out.sub (m := [(p, rcO rc0O Sl0)]) (by simp)) trivial (by omega) (rcO rd ⟨a, k, cap⟩)
          have HS := Lib.hid (HS.out.farRow HG.out (rcA rd ⟨a, k, cap⟩))
          have HTI := Lib.hid (HTI.out.but (q := p) HG.out (But.rowS p _ (rcA rd ⟨a, k, cap⟩)))
          refine bodyPost_ret (v := .tuple #[rcVal rd ⟨a, k, cap⟩, .int .i64 0]) (res_cell_tmp rfl _ _ p 60 (rcA rd ⟨a, k, cap⟩) (0, 0) _ _ rfl rfl KF.hd Tryz.underlying60 rfl (by kernel_rfl)) rfl ⟨⟨a, k, cap⟩, by rw [HV.out], by rw [HV.out]; exact HS.out, HG2.out, HTI.out, KF.belowB (by omega)⟩
        · have t2 : (S.toList != s.toList) = true := bne_iff_ne.2 (fun h => hS (ba_data.2 (by rw [← Lib.toList_data, ← Lib.toList_data]; exact h)))
          have t2' : (S.toList == s.toList) = false := by simpa [bne] using t2
          have HV := Lib.hid (HV1.out (fun h => hS (HLR.out.1.2 h).2.2))
          clear hE hS
          go_wp2_with (first
            | (go_at_call 54; refine (F1).mono ?_; rintro e w8 ⟨rfl, dq⟩; have KK := Lib.hid (KK.out.step (dq.rdr KK.out.rd) dq.but))
            | refine wpList_store_row rfl 60 _ _ rfl p (rcA rc0O Sl0) rfl rfl 60 _ (KK.out.at_ (p, rcO rc0O Sl0) (by simp)).2 (by kernel_rfl) rfl (by simp [Value.oneCell', rcA]) ?_)
          have KF := Kr.setRow (KK.out.sub (m := [(p, rcO rc0O Sl0)]) (by simp)) trivial (by omega) (rcO rc0O Sl0)
          refine bodyPost_ret (v := .tuple #[rcVal rc0O Sl0, .int .i64 10]) (res_cell_tmp rfl _ _ p 60 (rcA rc0O Sl0) (0, 0) _ _ rfl rfl KF.hd Tryz.underlying60 rfl (by kernel_rfl)) rfl ⟨Sl0, by rw [HV.out], by rw [HV.out]; exact ⟨⟨rfl, .inl rfl⟩, Nat.le_refl _, by decide⟩, (fun x hx => by cases hx), .inl rfl, KF.belowB (by omega)⟩
      · have t1 : (E != 0) = true := bne_iff_ne.2 hE
        have HV := Lib.hid (HV1.out (fun h => hE (HLR.out.1.2 h).2.1))
        clear hE
        go_wp2_with (first
          | (go_at_call 54; refine (F1).mono ?_; rintro e w8 ⟨rfl, dq⟩; have KK := Lib.hid (KK.out.step (dq.rdr KK.out.rd) dq.but))
          | refine wpList_store_row rfl 60 _ _ rfl p (rcA rc0O Sl0) rfl rfl 60 _ (KK.out.at_ (p, rcO rc0O Sl0) (by simp)).2 (by kernel_rfl) rfl (by simp [Value.oneCell', rcA]) ?_)
        have KF := Kr.setRow (KK.out.sub (m := [(p, rcO rc0O Sl0)]) (by simp)) trivial (by omega) (rcO rc0O Sl0)
        refine bodyPost_ret (v := .tuple #[rcVal rc0O Sl0, .int .i64 10]) (res_cell_tmp rfl _ _ p 60 (rcA rc0O Sl0) (0, 0) _ _ rfl rfl KF.hd Tryz.underlying60 rfl (by kernel_rfl)) rfl ⟨Sl0, by rw [HV.out], by rw [HV.out]; exact ⟨⟨rfl, .inl rfl⟩, Nat.le_refl _, by decide⟩, (fun x hx => by cases hx), .inl rfl, KF.belowB (by omega)⟩
    · rw [hf] at HLR F1
      have HV := Lib.hid (HV1.out (fun h => by have := (HLR.out.1.2 h).1; cases this))
      go_wp2_with (first
        | (go_at_call 54; refine (F1).mono ?_; rintro e w8 ⟨rfl, dq⟩; have KK := Lib.hid (KK.out.step (dq.rdr KK.out.rd) dq.but))
        | refine wpList_store_row rfl 60 _ _ rfl p (rcA rc0O Sl0) rfl rfl 60 _ (KK.out.at_ (p, rcO rc0O Sl0) (by simp)).2 (by kernel_rfl) rfl (by simp [Value.oneCell', rcA]) ?_)
      have KF := Kr.setRow (KK.out.sub (m := [(p, rcO rc0O Sl0)]) (by simp)) trivial (by omega) (rcO rc0O Sl0)
      refine bodyPost_ret (v := .tuple #[rcVal rc0O Sl0, .int .i64 10]) (res_cell_tmp rfl _ _ p 60 (rcA rc0O Sl0) (0, 0) _ _ rfl rfl KF.hd Tryz.underlying60 rfl (by kernel_rfl)) rfl ⟨Sl0, by rw [HV.out], by rw [HV.out]; exact ⟨⟨rfl, .inl rfl⟩, Nat.le_refl _, by decide⟩, (fun x hx => by cases hx), .inl rfl, KF.belowB (by omega)⟩
end
end Go.Proofs.YtglabahbklpocaaGreat
