/- sample.ReadPoints, with its inner function and list. -/
import Derived.Test.YtglabahbklpocaaGreatGShipPacks36
import Derived.Test.YtglabahbklpocaaGreatGShipPacks26
namespace Go.Proofs.YtglabahbklpocaaGreat
section
open Go.RowKit Go.Deep
set_option maxRecDepth 100000
set_option linter.unusedVariables false
set_option linter.unusedSimpArgs false
attribute [local go_sem ↓] Go.wp_at_zero Go.wp_at_succ
/-- A captured variable that holds a reader's address. -/
def capO (g : Nat) : Obj := .cells #[.pointer (some ⟨g, 0, none⟩)] 75 (0, 0)
structure KrF (w : World) (k j : Nat) (v : Value) : Prop where
  c : w.cell? ⟨k, j, none⟩ = some v
  f : w.frozen? ⟨k, j, none⟩ = false
theorem Kr.cf {T : TypeId} {g : Nat} {w0 w : World} {l : List (Nat × Obj)} {R : Rdr} (h : Kr T g w0 l R w) {k : Nat} {o : Obj} (hm : (k, o) ∈ l) (j : Nat) {v : Value} {cs : Array Value} {U : TypeId} (hv : cs[j]? = some v) (ho : o = .cells cs U (0, 0) := by rfl) : KrF w k j v := ⟨h.cell hm hv ho, h.fz hm j ho⟩
def P00 : Pt := ⟨⟨#[]⟩, 0, 0, ⟨0, 0, 0⟩⟩
set_option maxHeartbeats 4000000 in
theorem rp1_any (c g : Nat) (r : Rdr) (w : World) (hc : w.heap[c]? = some (capO g)) (hne : c ≠ g) (h : RdrAt 140 w g r) (hr : r.ok) :
    Calls Tryz.prog 111 #[.pointer (some ⟨c, 0, none⟩)] w fun e w' => e = .returned (rdPt r).1.val ∧ RdrAt 140 w' g (rdPt r).2 ∧ But g w w' := by
  have K0 := (Kr.start h).put hc hne
  have k1 := Rdr.text_ok hr
  have k2 := Rdr.small_ok k1.1 1099511627776
  have k3 := Rdr.int_ok k2.1
  obtain ⟨V, HV⟩ : ∃ V, Hid (V = rdPt r) := ⟨_, rfl⟩
  rw [← HV.out]
  have hcl := heap_lt hc
  have hgl := h.lt
  clear h hc
  go_enter Tryz.func111, Tryz.ntmps111
  go_upto_region 1 with fail
  generalize hw1 : World.alloc _ _ = w1
  have KK := Lib.hid (show Kr 140 g w [(w.heap.size, ptO P00), (c, capO g)] r w1 by rw [← hw1]; exact K0.new' rfl (ptO P00))
  clear hw1 K0
  obtain ⟨n0, hn0⟩ : ∃ n, w.heap.size = n := ⟨_, rfl⟩
  rw [hn0] at KK hcl hgl ⊢
  have c0 := KK.out.cell (k := c) (o := capO g) (by simp) (j := 0) (v := .pointer (some ⟨g, 0, none⟩)) rfl
  go_upto_region 2 with (first | (go_at_call 50; refine (rdr_text g _ _ KK.out.rd hr).mono ?_; rintro e wn ⟨rfl, hn, dn⟩; have KK := Lib.hid (KK.out.step hn dn); clear hn dn))
  have hlt1 : n0 < wn.heap.size := KK.out.lt (n0, ptO P00) (by simp)
  generalize hw2 : World.alloc _ _ = w2
  have KK := Lib.hid (show Kr 140 g w [(wn.heap.size, ptO ⟨r.text.1, 0, 0, ⟨0, 0, 0⟩⟩), (n0, ptO P00), (c, capO g)] r.text.2 w2 by rw [← hw2]; exact KK.out.new' rfl (ptO ⟨r.text.1, 0, 0, ⟨0, 0, 0⟩⟩))
  clear hw2 c0
  obtain ⟨n1, hn1⟩ : ∃ n, wn.heap.size = n := ⟨_, rfl⟩
  rw [hn1] at KK hlt1 ⊢
  clear hn1
  have hA : Apart n1 [(n0, ptO P00), (c, capO g)] := ⟨by simp only; omega, by simp only; omega, trivial⟩
  obtain ⟨R1, hR1⟩ : ∃ R1, r.text.2 = R1 := ⟨_, rfl⟩
  obtain ⟨S, hS⟩ : ∃ S, r.text.1 = S := ⟨_, rfl⟩
  have HV : Hid (V = (⟨S, (R1.small 1099511627776).1, (R1.small 1099511627776).2.int.1, (takeV (R1.small 1099511627776).2.int.2).1⟩, (takeV (R1.small 1099511627776).2.int.2).2)) := HV.out.trans (by unfold rdPt; rw [hR1, hS])
  rw [hR1] at KK k1 k2 k3
  rw [hS] at KK
  clear hR1 hS
  have c0 := KK.out.cell (k := c) (o := capO g) (by simp) (j := 0) (v := .pointer (some ⟨g, 0, none⟩)) rfl
  go_upto_region 3 with (first | (go_at_call 44; refine (rdr_small g _ 1099511627776 _ KK.out.rd k1.1 (by decide) (by decide)).mono ?_; rintro e wn ⟨rfl, hn, dn⟩; have KK := Lib.hid (KK.out.step hn dn); clear hn dn; have ⟨q1, f1⟩ := KK.out.cf (k := n1) (o := ptO ⟨S, 0, 0, ⟨0, 0, 0⟩⟩) (by simp) 1 (v := .int .i64 0) rfl))
  generalize hw3 : World.setCell _ _ _ = w3
  have KK := Lib.hid (show Kr 140 g w [(n1, ptO ⟨S, (R1.small 1099511627776).1, 0, ⟨0, 0, 0⟩⟩), (n0, ptO P00), (c, capO g)] _ w3 by rw [← hw3]; exact KK.out.setCell hA (by omega) 1 _ _ rfl)
  clear hw3 c0 q1 f1
  generalize (R1.small 1099511627776).1 = T at *
  generalize (R1.small 1099511627776).2 = R2 at *
  have c0 := KK.out.cell (k := c) (o := capO g) (by simp) (j := 0) (v := .pointer (some ⟨g, 0, none⟩)) rfl
  go_upto_region 4 with (first | (go_at_call 112; refine (rdr_int g _ _ KK.out.rd k2.1).mono ?_; rintro e wn ⟨rfl, hn, dn⟩; have KK := Lib.hid (KK.out.step hn dn); clear hn dn; have ⟨q1, f1⟩ := KK.out.cf (k := n1) (o := ptO ⟨S, T, 0, ⟨0, 0, 0⟩⟩) (by simp) 2 (v := .int .i64 0) rfl))
  generalize hw4 : World.setCell _ _ _ = w4
  have KK := Lib.hid (show Kr 140 g w [(n1, ptO ⟨S, T, R2.int.1, ⟨0, 0, 0⟩⟩), (n0, ptO P00), (c, capO g)] _ w4 by rw [← hw4]; exact KK.out.setCell hA (by omega) 2 _ _ rfl)
  clear hw4 c0 q1 f1
  generalize R2.int.1 = U at *
  generalize R2.int.2 = R3 at *
  have TK := fun wx hx => take_any g R3 wx hx k3.1
  obtain ⟨AS, R4⟩ : ∃ AS : St × Rdr, takeV R3 = AS := ⟨_, rfl⟩
  rw [R4] at TK HV
  clear R4
  obtain ⟨A, R4⟩ := AS
  simp only [St.val] at TK HV
  have c0 := KK.out.cell (k := c) (o := capO g) (by simp) (j := 0) (v := .pointer (some ⟨g, 0, none⟩)) rfl
  go_upto_region 5 with (first | (go_at_call 113; refine (TK _ KK.out.rd).mono ?_; rintro e wn ⟨rfl, hn, dn⟩; have KK := Lib.hid (KK.out.step hn dn); clear hn dn; have ⟨q3, f3⟩ := KK.out.cf (k := n1) (o := ptO ⟨S, T, U, ⟨0, 0, 0⟩⟩) (by simp) 3 (v := .int .i64 0) rfl; have ⟨q4, f4⟩ := KK.out.cf (k := n1) (o := ptO ⟨S, T, U, ⟨0, 0, 0⟩⟩) (by simp) 4 (v := .int .i64 0) rfl; have ⟨q5, f5⟩ := KK.out.cf (k := n1) (o := ptO ⟨S, T, U, ⟨0, 0, 0⟩⟩) (by simp) 5 (v := .int .i64 0) rfl))
  generalize hw5 : World.setCell _ _ _ = w5
  have KK := Lib.hid (show Kr 140 g w [(n1, ptO ⟨S, T, U, A⟩), (n0, ptO P00), (c, capO g)] _ w5 by rw [← hw5]; exact ((KK.out.setCell hA (by omega) 3 (.int .i64 A.clock) (ptO ⟨S, T, U, ⟨A.clock, 0, 0⟩⟩) rfl).setCell hA (by omega) 4 (.int .i64 A.site) (ptO ⟨S, T, U, ⟨A.clock, A.site, 0⟩⟩) rfl).setCell hA (by omega) 5 (.int .i64 A.seq) (ptO ⟨S, T, U, ⟨A.clock, A.site, A.seq⟩⟩) rfl)
  clear hw5 c0 q3 q4 q5 f3 f4 f5
  go_wp2_with (first
    | refine wpList_load_row rfl 90 _ rfl n1 rfl 90 (⟨S, T, U, A⟩ : Pt).cs.toArray (0, 0) _ KK.out.hd Tryz.underlying90 rfl (by kernel_rfl) ?_
    | refine wpList_store_row rfl 90 _ _ rfl n0 (⟨S, T, U, A⟩ : Pt).cs.toArray rfl rfl 90 _ (KK.out.at_ (n0, ptO P00) (by simp)).2 (by kernel_rfl) rfl (by simp [Value.oneCell', Pt.cs]) ?_)
  have KF := Kr.setRow (KK.out.sub (m := [(n0, ptO P00), (c, capO g)]) (by simp)) ⟨by simp only; omega, trivial⟩ (by omega) (ptO ⟨S, T, U, A⟩)
  refine bodyPost_ret (v := .agg (⟨S, T, U, A⟩ : Pt).cs.toArray) (results_cell_row rfl _ _ n0 90 (⟨S, T, U, A⟩ : Pt).cs.toArray (0, 0) _ rfl KF.hd Tryz.underlying90 rfl (by kernel_rfl)) rfl ⟨by rw [HV.out]; rfl, by rw [HV.out]; exact KF.rd, KF.b⟩
theorem AppE.but {α : Type} {cs : α → List Value} {T : TypeId} {sz : Nat} {w w' : World} {B g : Nat} {a : Option Addr} {n cap : Nat} {l : List α} (h : AppE cs T sz w B a n cap l) (k : But g w w') (hg : g < B) : AppE cs T sz w' B a n cap l := by
  refine ⟨h.len, h.le, h.max, h.row.kept (row := some g) k ?_⟩
  rcases h.row.2 with ⟨e, _⟩ | ⟨g', c', cur, e, h1, _⟩
  · rw [e]; exact .inl rfl
  · rw [e]
    right
    simp [Value.ownBlock]
    omega
set_option maxHeartbeats 4000000 in
theorem listP_any (c g : Nat) (r : Rdr) (w : World) (hc : w.heap[c]? = some (capO g)) (hne : c ≠ g) (h : RdrAt 140 w g r) (hr : r.ok) :
    Calls Tryz.prog 110 #[.pointer (some ⟨g, 0, none⟩), .int .i64 1000, .func (.func 111) #[] #[.pointer (some ⟨c, 0, none⟩)]] w fun e w' => ∃ k a cap, e = .returned (.slice a k cap) ∧ AppE Pt.cs 90 6 w' w.heap.size a k cap (takeQ k (r.small 1000).2).1 ∧ k ≤ (r.small 1000).1.toNat ∧ (k = (r.small 1000).1.toNat ∨ (takeQ k (r.small 1000).2).2.left = 0) ∧ RdrAt 140 w' g (takeQ k (r.small 1000).2).2 ∧ But g w w' := by
  have K0 := (Kr.start h).put hc hne
  have hsr := small_range hr (m := 1000) (by decide)
  have hsm := Rdr.small_ok hr 1000
  have hg0 := h.lt
  have hc0 := heap_lt hc
  clear h hc
  have CS := fun wx hx => rdr_small g r 1000 wx hx hr (by decide) (by decide)
  generalize (r.small 1000).2 = R1 at *
  obtain ⟨n, hn⟩ : ∃ n : Nat, (r.small 1000).1 = n := ⟨(r.small 1000).1.toNat, by omega⟩
  rw [hn] at hsr ⊢
  simp only [hn] at CS
  rw [Int.toNat_natCast]
  clear hn hr
  go_enter Tryz.func110, Tryz.ntmps110
  go_wp2_with fail
  refine (CS _ K0.rd).mono ?_
  rintro e w1 ⟨rfl, hn, dn⟩
  have K1 := K0.step hn dn
  clear hn dn K0 CS
  have INIT := Lib.hid K1
  have hgl := K1.b.size
  clear K1
  go_wp2_with fail
  go_loopw [7, 11] (fun p i wr => ∃ (k : Nat) (a : Option Addr) (cap : Nat), k ≤ n ∧ i = .int .i64 k ∧ p = .slice a k cap ∧ AppE Pt.cs 90 6 wr w.heap.size a k cap (takeQ k R1).1 ∧ Kr 140 g w [(c, capO g)] (takeQ k R1).2 wr) (fun _ i _ => 1000 + 1 - (intOf i).toNat)
  case atStart => exact ⟨0, none, 0, by omega, rfl, rfl, appE_nil _ _, INIT.out⟩
  case round =>
    obtain ⟨k, a, cap, hk, rfl, rfl, hA, hKK⟩ := hrel
    have KK := Lib.hid hKK
    have hRok := takeQ_ok hsm.1 k
    have hRok2 := takeQ_ok hsm.1 (k + 1)
    have hle := hA.le
    have hmax : cap ≤ 9223372036854775807 := (by first | exact maxLen_i hA.max | exact hA.max)
    have HA := Lib.hid hA
    have hsz := hKK.b.size
    have hgw := hKK.rd.lt
    clear hA hKK
    by_cases hlt : k < n
    · have t2 : decide ((k : Int) < (n : Int)) = true := decide_eq_true (by omega)
      have HT : Hid (takeQ (k + 1) R1 = ((takeQ k R1).1 ++ [(rdPt (takeQ k R1).2).1], (rdPt (takeQ k R1).2).2)) := rfl
      have HX := fun wx hx (h1 : RdrAt 140 wx g (takeQ k R1).2) => rp1_any c g (takeQ k R1).2 wx hx hne h1 hRok.1
      generalize hQ : takeQ (k + 1) R1 = Q1 at *
      generalize takeQ k R1 = Q0 at *
      obtain ⟨L, R⟩ := Q0
      obtain ⟨L', R'⟩ := Q1
      simp only at HA KK hRok hRok2 HX HT
      obtain ⟨PV, hPV⟩ : ∃ PV, rdPt R = PV := ⟨_, rfl⟩
      rw [hPV] at HX HT
      obtain ⟨y, R2⟩ := PV
      obtain ⟨hL, rfl⟩ : L' = L ++ [y] ∧ R2 = R' := by have := HT.out; simp only [Prod.mk.injEq] at this; exact ⟨this.1, this.2.symm⟩
      simp only at HX
      have HL := Lib.hid hL
      clear hPV HT hL
      have HQ := Lib.hid hQ
      clear hQ
      unfold Pt.val at HX
      go_wp2_with (first | (go_at_call 111; refine (HX _ (KK.out.at_ (c, capO g) (by simp)).2 KK.out.rd).mono ?_; rintro e w3 ⟨rfl, h3, d3⟩; have KK := Lib.hid (KK.out.step h3 d3); have hw3 := d3.size; have HA := Lib.hid (HA.out.but d3 hg0); clear h3 d3) | (at_builtin; refine wpList_append_E pt_ety rfl _ _ rfl _ w.heap.size a k cap L rfl (HA.out.below ?q1) ?q2 ?q3 w3.heap.size 1 y rfl ?q4 ?q5))
      case q4 =>
        intro j u hj
        rw [Nat.zero_add, World.cell?_alloc_new]
        show y.cs.toArray[j]? = some u
        simpa using hj
      case q1 => exact (Below.refl _ _).alloc (Nat.le_refl _) _
      case q2 => simp; omega
      case q3 => omega
      case q5 =>
        intro a3 cap3 w5 hA5 hb5
        have KK := Lib.hid (Kr.own KK.out (((Below.refl w.heap.size w3).alloc (by omega) _).trans hb5) hg0 (by intro p hp; simp only [List.mem_singleton] at hp; subst hp; exact hc0))
        have HA := Lib.hid hA5
        clear hA5 hb5
        go_wp2_with fail
        refine (rdr_left g _ _ KK.out.rd hRok2.1).mono ?_
        rintro e w6 ⟨rfl, dq⟩
        have KK := Lib.hid (KK.out.step (dq.rdr KK.out.rd) dq.but)
        have HA := Lib.hid (HA.out.below dq.below)
        clear dq
        by_cases hz : R2.left = 0
        · have t4 : (R2.left == 0) = true := beq_iff_eq.2 hz
          have HZ := Lib.hid hz
          clear hz
          go_wp2_with fail
          go_ret
          exact ⟨k + 1, a3, cap3, rfl, by rw [HQ.out, HL.out]; exact HA.out, by omega, .inr (by rw [HQ.out]; exact HZ.out), by rw [HQ.out]; exact KK.out.rd, KK.out.b⟩
        · have t4 : (R2.left == 0) = false := beq_eq_false_iff_ne.2 hz
          clear hz
          go_wp2_with fail
          go_roundw
          case rel => exact ⟨k + 1, a3, cap3, by omega, by go_num, rfl, by rw [HQ.out, HL.out]; exact HA.out, by rw [HQ.out]; exact KK.out⟩
          case measure => simp [intOf]; omega
    · obtain rfl : k = n := by omega
      have t2 : decide ((k : Int) < (k : Int)) = false := decide_eq_false (by omega)
      go_wp2_with fail
      go_ret
      exact ⟨k, a, cap, rfl, HA.out, by omega, .inl rfl, KK.out.rd, KK.out.b⟩
theorem take_wf {r : Rdr} (hr : r.ok) : i64 (takeV r).1.clock ∧ i64 (takeV r).1.site ∧ i64 (takeV r).1.seq := by
  have z : i64 0 := ⟨by decide, by decide⟩
  unfold takeV
  split
  · rename_i h
    obtain ⟨⟨a1, a2⟩, ⟨a3, a4⟩, a5, a6⟩ := okV_range h
    unfold i64
    omega
  · exact ⟨z, z, z⟩
theorem text_size {r : Rdr} (hr : r.ok) : r.text.1.size ≤ r.s.size := by
  have hk := Rdr.num_ok hr
  unfold Rdr.text
  split
  · exact Nat.zero_le _
  · simp only [ByteArray.size_extract]
    omega
theorem rdPt_wf {r : Rdr} (hr : r.ok) : (rdPt r).1.wf ∧ (rdPt r).1.series.size ≤ r.s.size := by
  have k1 := Rdr.text_ok hr
  have k2 := Rdr.small_ok k1.1 1099511627776
  have k3 := Rdr.int_ok k2.1
  have h1 := text_size hr
  have h2 := small_range k1.1 (m := 1099511627776) (by decide)
  have h3 := Rdr.num_ok k2.1
  refine ⟨⟨?_, ?_, zag_range _ h3.2.1 h3.2.2.1, take_wf k3.1⟩, h1⟩
  · have := hr.1
    unfold maxLen
    show r.text.1.size ≤ _
    omega
  · show i64 (r.text.2.small 1099511627776).1
    unfold i64
    omega
theorem takeQ_wf {r : Rdr} (hr : r.ok) (n : Nat) : ∀ p ∈ (takeQ n r).1, p.wf := by
  induction n with
  | zero => simp [takeQ]
  | succ n ih =>
    intro p hp
    simp only [takeQ, List.mem_append, List.mem_singleton] at hp
    rcases hp with hp | rfl
    · exact ih p hp
    · exact (rdPt_wf (takeQ_ok hr n).1).1
set_option maxHeartbeats 4000000 in
theorem readpts_f (s : ByteArray) (w : World) (hs : s.size ≤ 1000000000) : Calls Tryz.prog 49 #[.string s] w fun e w' => ∃ a n c, e = .returned (.tuple #[.slice a n c, .int .i64 (readP s).2]) ∧ ReadsE Pt.cs 6 w' a n (readP s).1 ∧ n ≤ c ∧ c ≤ 9223372036854775807 ∧ (n = 0 ∨ ∃ g, a = some ⟨g, 0, none⟩ ∧ w.heap.size ≤ g) ∧ Below w.heap.size w w' := by
  have hok := r0_ok hs
  have hsm := Rdr.small_ok hok 1000
  have LR := fun k (h1 : k ≤ ((r0 s).small 1000).1.toNat) h2 => list_readP hs rfl rfl h1 h2
  have LQ := fun k => takeQ_ok hsm.1 k
  have LW := fun k => takeQ_wf hsm.1 k
  have LP := fun c g wx hc hne h => listP_any c g (r0 s) wx hc hne h hok
  obtain ⟨V, HV⟩ : ∃ V, Hid (V = readP s) := ⟨_, rfl⟩
  have HV0 : Hid (rpOk s → V = ((takeQ ((r0 s).small 1000).1.toNat ((r0 s).small 1000).2).1, 0)) := fun h => HV.out.trans (readP_pos h)
  have HV1 : Hid (¬ rpOk s → V = ([], 10)) := fun h => HV.out.trans (readP_neg h)
  rw [← HV.out]
  clear HV
  generalize ((r0 s).small 1000).2 = R1 at *
  generalize ((r0 s).small 1000).1.toNat = n at *
  have HLR := Lib.hid LR
  clear LR
  have nilS : ∀ wx : World, ReadsE Pt.cs 6 wx none 0 [] := fun wx => ReadsE.nil wx
  go_enter Tryz.func49, Tryz.ntmps49
  go_wp2_with fail
  refine (rdr_read s _).mono ?_
  rintro e w1 ⟨rfl, hr, d1⟩
  have K1 : Kn w.heap.size w [(w.heap.size, rdO 140 (r0 s))] w1 := ⟨by intro p hp; simp only [List.mem_singleton] at hp; subst hp; exact hr, d1, d1.size⟩
  have hl1 := hr.lt
  clear hr d1
  obtain ⟨g, hg⟩ : ∃ g, w.heap.size = g := ⟨_, rfl⟩
  rw [hg] at K1 hl1 ⊢
  go_upto_region 2 with fail
  have K2 := K1.new (capO g)
  change Kn g w [(w1.heap.size, capO g), _] (w1.alloc (.cells #[.pointer (some ⟨g, 0, none⟩)] 75)) at K2
  generalize hw2 : w1.alloc (.cells #[.pointer (some ⟨g, 0, none⟩)] 75) = w2 at *
  obtain ⟨c, hc⟩ : ∃ c, w1.heap.size = c := ⟨_, rfl⟩
  rw [hc] at K2 hl1 ⊢
  clear hw2 K1 hc
  have c0 := K2.cell (g := c) (o := capO g) (by simp) (j := 0) (v := .pointer (some ⟨g, 0, none⟩)) rfl
  have hz2 := K2.le
  go_wp2_with fail
  refine (LP c g _ (K2.at_ (c, capO g) (by simp)) (by omega) (K2.at_ (g, rdO 140 (r0 s)) (by simp))).mono ?_
  rintro e w3 ⟨k, a, cap, rfl, hA, hk, hkn, h3, d3⟩
  have hgl2 := K2.lt (g, rdO 140 (r0 s)) (by simp)
  have KB : Kr 140 g w2 [(c, capO g)] (takeQ k R1).2 w3 := ((Kr.start (T := 140) (K2.at_ (g, rdO 140 (r0 s)) (by simp))).put (K2.at_ (c, capO g) (by simp)) (by omega)).step h3 d3
  have hB3 : Below g w w3 := But.below K2.b d3 K2.le (Nat.le_refl _)
  have hR := (AppE.reads pt_len (by decide) hA).1
  have HFR : Hid (k = 0 ∨ ∃ b, a = some ⟨b, 0, none⟩ ∧ g ≤ b) := (AppE.reads pt_len (by decide) hA).2.imp_right fun ⟨b, h1, h2⟩ => ⟨b, h1, by omega⟩
  have hle : k ≤ cap := hA.le
  have hmax : cap ≤ 9223372036854775807 := maxLen_i hA.max
  have P1 := fun wx hb => points_any a k cap _ wx (hR.below hb) (LW k) hle hmax
  have HLR := Lib.hid (HLR.out k hk hkn)
  have HLQ := LQ k
  have HR := Lib.hid hR
  clear c0 K2 h3 d3 hA LP LQ LW hkn hR
  generalize takeQ k R1 = TQ at *
  obtain ⟨L, R⟩ := TQ
  simp only at HR KB P1 HLR HLQ
  generalize ptsV L = PV at *
  obtain ⟨S, E⟩ := PV
  simp only at P1 HLR
  have hfin : R.fin = 0 ∨ R.fin = 10 := by unfold Rdr.fin; split <;> simp
  go_wp2_with fail
  refine (P1 _ (Below.refl _ _)).mono ?_
  rintro e w4 ⟨rfl, d4⟩
  have KK := Lib.hid (KB.below d4)
  have HR := Lib.hid (HR.out.below d4)
  have hB4 := below_then hB3 (by have := hB3.size; omega) d4
  clear KB d4 P1 hB3
  have c0 := KK.out.cell (k := c) (o := capO g) (by simp) (j := 0) (v := .pointer (some ⟨g, 0, none⟩)) rfl
  have F1 := rdr_end g R _ KK.out.rd HLQ.1
  have hz4 : g ≤ w4.heap.size := by have := hB4.size; omega
  go_upto_region 4 with fail
  rcases hfin with hf | hf
  · rw [hf] at HLR F1
    by_cases hE : E = 0
    · have t1 : (E != 0) = false := bne_eq_false_iff_eq.2 hE
      by_cases hS : S = s
      · have t2 : (S.toList != s.toList) = false := by rw [hS]; exact bne_self_eq_false _
        have t2' : (S.toList == s.toList) = true := by rw [hS]; exact beq_self_eq_true _
        have hok2 := HLR.out.1.1 ⟨rfl, hE, hS⟩
        have HV := Lib.hid ((HV0.out hok2).trans (by rw [← HLR.out.2 hok2]))
        clear hE hS hok2
        go_wp2_with (first | (go_at_call 54; refine (F1).mono ?_; rintro e w5 ⟨rfl, dq⟩; have HR := Lib.hid (HR.out.below dq.below); have hB5 := below_then hB4 hz4 dq.below))
        refine bodyPost_ret (v := .tuple #[.slice a k cap, .int .i64 0]) (by simp [results, Tryz.results49, go_sem, *]) rfl ⟨a, k, cap, by rw [HV.out], by rw [HV.out]; exact HR.out, hle, hmax, by rw [hg]; exact HFR.out, by rw [hg]; exact hB5⟩
      · have t2 : (S.toList != s.toList) = true := bne_iff_ne.2 (fun h => hS (ba_data.2 (by rw [← Lib.toList_data, ← Lib.toList_data]; exact h)))
        have t2' : (S.toList == s.toList) = false := by simpa [bne] using t2
        have HV := Lib.hid (HV1.out (fun h => hS (HLR.out.1.2 h).2.2))
        clear hE hS
        go_wp2_with (first | (go_at_call 54; refine (F1).mono ?_; rintro e w5 ⟨rfl, dq⟩; have HR := Lib.hid (HR.out.below dq.below); have hB5 := below_then hB4 hz4 dq.below))
        refine bodyPost_ret (v := .tuple #[.slice none 0 0, .int .i64 10]) (by simp [results, Tryz.results49, go_sem, *]) rfl ⟨none, 0, 0, by rw [HV.out], by rw [HV.out]; exact nilS _, Nat.le_refl _, by decide, .inl rfl, by rw [hg]; exact hB5⟩
    · have t1 : (E != 0) = true := bne_iff_ne.2 hE
      have HV := Lib.hid (HV1.out (fun h => hE (HLR.out.1.2 h).2.1))
      clear hE
      go_wp2_with (first | (go_at_call 54; refine (F1).mono ?_; rintro e w5 ⟨rfl, dq⟩; have HR := Lib.hid (HR.out.below dq.below); have hB5 := below_then hB4 hz4 dq.below))
      refine bodyPost_ret (v := .tuple #[.slice none 0 0, .int .i64 10]) (by simp [results, Tryz.results49, go_sem, *]) rfl ⟨none, 0, 0, by rw [HV.out], by rw [HV.out]; exact nilS _, Nat.le_refl _, by decide, .inl rfl, by rw [hg]; exact hB5⟩
  · rw [hf] at HLR F1
    have HV := Lib.hid (HV1.out (fun h => by have := (HLR.out.1.2 h).1; cases this))
    go_wp2_with (first | (go_at_call 54; refine (F1).mono ?_; rintro e w5 ⟨rfl, dq⟩; have HR := Lib.hid (HR.out.below dq.below); have hB5 := below_then hB4 hz4 dq.below))
    refine bodyPost_ret (v := .tuple #[.slice none 0 0, .int .i64 10]) (by simp [results, Tryz.results49, go_sem, *]) rfl ⟨none, 0, 0, by rw [HV.out], by rw [HV.out]; exact nilS _, Nat.le_refl _, by decide, .inl rfl, by rw [hg]; exact hB5⟩
theorem ReadsE.but {α : Type} {cs : α → List Value} {sz q : Nat} {w w' : World} {a : Option Addr} {n : Nat} {xs : List α} (h : ReadsE cs sz w a n xs) (hd : n = 0 ∨ ∀ p, a = some p → p.block ≠ q) (d : But q w w') : ReadsE cs sz w' a n xs := by
  obtain ⟨h1, h2⟩ := h
  refine ⟨h1, ?_⟩
  rcases hd with h0 | hd
  · exact .inl h0
  · rcases h2 with h2 | ⟨b, o, e, h4, h5⟩
    · exact .inl h2
    · refine .inr ⟨b, o, e, Nat.lt_of_lt_of_le h4 d.size, fun j x hj k u hk => ?_⟩
      have := h5 j x hj k u hk
      simp only [World.cell?] at this ⊢
      rw [d.block b h4 (by simp; exact hd _ e)]
      exact this
end
end Go.Proofs.YtglabahbklpocaaGreat
