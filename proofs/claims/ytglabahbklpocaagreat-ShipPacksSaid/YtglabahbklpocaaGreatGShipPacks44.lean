/- ship.list of numbers, with ship.Read's inner functions. ship.Read of messages that tell a vector. -/
import Derived.Test.YtglabahbklpocaaGreatGShipPacks43
import Derived.Test.YtglabahbklpocaaGreatGShipPacks22
namespace Go.Proofs.YtglabahbklpocaaGreat
section
open Go.RowKit Go.Deep
set_option maxRecDepth 100000
set_option linter.unusedVariables false
set_option linter.unusedSimpArgs false
attribute [local go_sem ↓] Go.wp_at_zero Go.wp_at_succ
set_option maxHeartbeats 4000000 in
theorem hr21_any (c g : Nat) (r : Rdr) (w : World) (hc : w.heap[c]? = some (capF g)) (hne : c ≠ g) (h : RdrAt 140 w g r) (hr : r.ok) :
    Calls Tryz.prog 48 #[.pointer (some ⟨c, 0, none⟩)] w fun e w' => e = .returned (.int .i64 (smB r).1) ∧ RdrAt 140 w' g (smB r).2 ∧ But g w w' := by
  have c0 : w.cell? ⟨c, 0, none⟩ = some (.func (.func 44) #[.pointer (some ⟨g, 0, none⟩)] #[]) := by simp only [World.cell?, hc, capF]; rfl
  clear hc
  go_enter Tryz.func48, Tryz.ntmps48
  go_wp2_with fail
  refine (rdr_small g r 1099511627776 _ h hr (by decide) (by decide)).mono ?_
  rintro e w1 ⟨rfl, h1, d1⟩
  go_wp2_with fail
  go_ret
  exact ⟨rfl, h1, d1⟩
set_option maxHeartbeats 4000000 in
theorem hlistI_any (c g : Nat) (r : Rdr) (w : World) (hc : w.heap[c]? = some (capF g)) (hne : c ≠ g) (h : RdrAt 140 w g r) (hr : r.ok) :
    Calls Tryz.prog 47 #[.pointer (some ⟨g, 0, none⟩), .int .i64 8, .func (.func 48) #[] #[.pointer (some ⟨c, 0, none⟩)]] w fun e w' => ∃ k a cap, e = .returned (.slice a k cap) ∧ AppJ w' w.heap.size a k cap (takeN k (r.small 8).2).1 ∧ k ≤ (r.small 8).1.toNat ∧ (k = (r.small 8).1.toNat ∨ (takeN k (r.small 8).2).2.left = 0) ∧ RdrAt 140 w' g (takeN k (r.small 8).2).2 ∧ But g w w' := by
  have K0 := (Kr.start h).put hc hne
  have hsr := small_range hr (m := 8) (by decide)
  have hsm := Rdr.small_ok hr 8
  have hg0 := h.lt
  have hc0 := heap_lt hc
  clear h hc
  have CS := fun wx hx => rdr_small g r 8 wx hx hr (by decide) (by decide)
  generalize (r.small 8).2 = R1 at *
  obtain ⟨n, hn⟩ : ∃ n : Nat, (r.small 8).1 = n := ⟨(r.small 8).1.toNat, by omega⟩
  rw [hn] at hsr ⊢
  simp only [hn] at CS
  rw [Int.toNat_natCast]
  clear hn hr
  go_enter Tryz.func47, Tryz.ntmps47
  go_wp2_with fail
  refine (CS _ K0.rd).mono ?_
  rintro e w1 ⟨rfl, hn, dn⟩
  have K1 := K0.step hn dn
  clear hn dn K0 CS
  have INIT := Lib.hid K1
  have hgl := K1.b.size
  clear K1
  go_wp2_with fail
  go_loopw [7, 11] (fun p i wr => ∃ (k : Nat) (a : Option Addr) (cap : Nat), k ≤ n ∧ i = .int .i64 k ∧ p = .slice a k cap ∧ AppJ wr w.heap.size a k cap (takeN k R1).1 ∧ Kr 140 g w [(c, capF g)] (takeN k R1).2 wr) (fun _ i _ => 8 + 1 - (intOf i).toNat)
  case atStart => exact ⟨0, none, 0, by omega, rfl, rfl, appJ_nil _ _, INIT.out⟩
  case round =>
    obtain ⟨k, a, cap, hk, rfl, rfl, hA, hKK⟩ := hrel
    have KK := Lib.hid hKK
    have hRok := takeN_ok hsm.1 k
    have hRok2 := takeN_ok hsm.1 (k + 1)
    have hle := hA.le
    have hmax : cap ≤ 9223372036854775807 := (by first | exact maxLen_i hA.max | exact hA.max)
    have HA := Lib.hid hA
    have hsz := hKK.b.size
    have hgw := hKK.rd.lt
    clear hA hKK
    by_cases hlt : k < n
    · have t2 : decide ((k : Int) < (n : Int)) = true := decide_eq_true (by omega)
      have HT : Hid (takeN (k + 1) R1 = ((takeN k R1).1 ++ [(smB (takeN k R1).2).1], (smB (takeN k R1).2).2)) := rfl
      have HX := fun wx hx (h1 : RdrAt 140 wx g (takeN k R1).2) => hr21_any c g (takeN k R1).2 wx hx hne h1 hRok.1
      generalize hQ : takeN (k + 1) R1 = Q1 at *
      generalize takeN k R1 = Q0 at *
      obtain ⟨L, R⟩ := Q0
      obtain ⟨L', R'⟩ := Q1
      simp only at HA KK hRok hRok2 HX HT
      obtain ⟨PV, hPV⟩ : ∃ PV, smB R = PV := ⟨_, rfl⟩
      rw [hPV] at HX HT
      obtain ⟨y, R2⟩ := PV
      obtain ⟨hL, rfl⟩ : L' = L ++ [y] ∧ R2 = R' := by have := HT.out; simp only [Prod.mk.injEq] at this; exact ⟨this.1, this.2.symm⟩
      simp only at HX
      have HL := Lib.hid hL
      clear hPV HT hL
      have HQ := Lib.hid hQ
      clear hQ
      go_wp2_with (first | (go_at_call 48; refine (HX _ (KK.out.at_ (c, capF g) (by simp)).2 KK.out.rd).mono ?_; rintro e w3 ⟨rfl, h3, d3⟩; have KK := Lib.hid (KK.out.step h3 d3); have hw3 := d3.size; have HA := Lib.hid (HA.out.but d3 hg0); clear h3 d3) | (at_builtin; refine wpList_append_i64 rfl _ _ rfl _ w.heap.size a k cap L rfl (HA.out.below ?q1) ?q2 ?q3 ⟨w3.heap.size, 0, none⟩ 1 y rfl ?q4 ?q5))
      case q4 => rw [World.cell?_alloc_new]; rfl
      case q1 => exact (Below.refl _ _).alloc (Nat.le_refl _) _
      case q2 => simp; omega
      case q3 => omega
      case q5 =>
        intro a3 cap3 w5 hA5 hb5
        have KK := Lib.hid (Kr.own KK.out (((Below.refl w.heap.size w3).alloc (by omega) _).trans hb5) hg0 (by intro p hp; simp only [List.mem_singleton] at hp; subst hp; exact hc0))
        have HA := Lib.hid hA5
        clear hA5 hb5
        go_wp2_with fail
        refine (rdr_left g _ _ KK.out.rd hRok2.1).mono ?_
        rintro e w6 ⟨rfl, dq⟩
        have KK := Lib.hid (KK.out.step (dq.rdr KK.out.rd) dq.but)
        have HA := Lib.hid (HA.out.below dq.below)
        clear dq
        by_cases hz : R2.left = 0
        · have t4 : (R2.left == 0) = true := beq_iff_eq.2 hz
          have HZ := Lib.hid hz
          clear hz
          go_wp2_with fail
          go_ret
          exact ⟨k + 1, a3, cap3, rfl, by rw [HQ.out, HL.out]; exact HA.out, by omega, .inr (by rw [HQ.out]; exact HZ.out), by rw [HQ.out]; exact KK.out.rd, KK.out.b⟩
        · have t4 : (R2.left == 0) = false := beq_eq_false_iff_ne.2 hz
          clear hz
          go_wp2_with fail
          go_roundw
          case rel => exact ⟨k + 1, a3, cap3, by omega, by go_num, rfl, by rw [HQ.out, HL.out]; exact HA.out, by rw [HQ.out]; exact KK.out⟩
          case measure => simp [intOf]; omega
    · obtain rfl : k = n := by omega
      have t2 : decide ((k : Int) < (k : Int)) = false := decide_eq_false (by omega)
      go_wp2_with fail
      go_ret
      exact ⟨k, a, cap, rfl, HA.out, by omega, .inl rfl, KK.out.rd, KK.out.b⟩
end
end Go.Proofs.YtglabahbklpocaaGreat
namespace Go.Proofs.YtglabahbklpocaaGreat
section
open Go.RowKit Go.Deep
set_option maxRecDepth 100000
set_option linter.unusedVariables false
set_option linter.unusedSimpArgs false
attribute [local go_sem ↓] Go.wp_at_zero Go.wp_at_succ
def v6 (s : ByteArray) : List Int × Rdr := tkV (id1 s).2
def gd6 (s : ByteArray) : Prop := (v6 s).2.fin = 0 ∧ (v6 s).1 = pl (v6 s).1 ∧ vput 6 ++ vput (id1 s).1 ++ vecB (v6 s).1 = s
theorem rd1_ok {s : ByteArray} (hs : s.size ≤ 1000000000) : (rd1 s).ok := (Rdr.small_ok (r0_ok hs) 7).1
theorem id1_ok {s : ByteArray} (hs : s.size ≤ 1000000000) : (id1 s).2.ok ∧ (id1 s).2.s = s := by
  have h1 := Rdr.small_ok (r0_ok hs) 7
  have h2 := Rdr.small_ok h1.1 1099511627776
  exact ⟨h2.1, h2.2.trans h1.2⟩
theorem id1_range {s : ByteArray} (hs : s.size ≤ 1000000000) : 0 ≤ (id1 s).1 ∧ (id1 s).1 ≤ 1099511627776 := small_range (rd1_ok hs) (m := 1099511627776) (by decide)
/-- Where the head of a message's bytes ends. -/
theorem head_at {s : ByteArray} (hs : s.size ≤ 1000000000) (K id : Int) (hK : 0 ≤ K ∧ K ≤ 7) (hid : 0 ≤ id ∧ id ≤ 1099511627776) (t : List UInt8) (h : s.data.toList = putB 9 K ++ (putB 9 id ++ t)) :
    ((r0 s).small 7).1 = K ∧ (id1 s).1 = id ∧ (id1 s).2.bad = false ∧ (id1 s).2.rest = t := by
  have h0 := r0_ok hs
  have k1 := Rdr.small_ok h0 7
  obtain ⟨a1, a2, a3⟩ := small_at (most := 7) h0 rfl ((r0_rest s).trans h) hK.1 hK.2 (by decide)
  obtain ⟨b1, b2, b3⟩ := small_at (most := 1099511627776) k1.1 a2 a3 hid.1 hid.2 (by decide)
  exact ⟨a1, b1, b2, b3⟩
/-- A list that ended early was no list of so many. -/
theorem takeN_short {R1 : Rdr} (hr : R1.ok) {k n : Nat} (hk : k < n) (h : (takeN k R1).2.left = 0) : (takeN n R1).2.bad = true := by
  refine takeN_keep R1 (k + 1) n hk ?_
  show (((takeN k R1).2.small 1099511627776).2).bad = true
  rcases hb : (takeN k R1).2.bad with _ | _
  · exact small_nil (takeN_ok hr k).1 _ (left_rest (takeN_ok hr k).1 h hb)
  · exact small_keep _ hb
theorem vec_same {s : ByteArray} (hs : s.size ≤ 1000000000) (k : Nat) (hk : k ≤ ((id1 s).2.small 8).1.toNat) (hkn : k = ((id1 s).2.small 8).1.toNat ∨ (takeN k ((id1 s).2.small 8).2).2.left = 0) :
    (gd6 s ↔ ((takeN k ((id1 s).2.small 8).2).2.fin = 0 ∧ (takeN k ((id1 s).2.small 8).2).1 = pl (takeN k ((id1 s).2.small 8).2).1 ∧ vput 6 ++ vput (id1 s).1 ++ vecB (takeN k ((id1 s).2.small 8).2).1 = s)) ∧ (gd6 s → (takeN k ((id1 s).2.small 8).2).1 = (v6 s).1) := by
  have hi := id1_ok hs
  have h8 := Rdr.small_ok hi.1 8
  have hr8 := small_range hi.1 (m := 8) (by decide)
  by_cases he : k = ((id1 s).2.small 8).1.toNat
  · subst he
    exact ⟨Iff.rfl, fun _ => rfl⟩
  · have hl := hkn.resolve_left he
    have hbad := takeN_short h8.1 (show k < ((id1 s).2.small 8).1.toNat by omega) hl
    have hng : ¬ gd6 s := fun hg => by
      have h1 : (takeN ((id1 s).2.small 8).1.toNat ((id1 s).2.small 8).2).2.fin = 0 := hg.1
      exact fin_ne hbad h1
    refine ⟨⟨fun hg => absurd hg hng, fun ⟨h1, h2, h3⟩ => ?_⟩, fun hg => absurd hg hng⟩
    exfalso
    have hlen := takeN_length k ((id1 s).2.small 8).2
    generalize (takeN k ((id1 s).2.small 8).2).1 = vs at *
    have e : s.data.toList = (vput 6 ++ vput (id1 s).1 ++ vecB vs).data.toList := congrArg (fun x : ByteArray => x.data.toList) h3.symm
    have hd : s.data.toList = putB 9 6 ++ (putB 9 (id1 s).1 ++ (putB 9 (vs.length : Int) ++ mcat vs)) := e.trans (by
      unfold vecB
      rw [← h2]
      simp only [ByteArray.data_append, Array.toList_append, vput_data, List.append_assoc]
      rfl)
    obtain ⟨_, _, c3, c4⟩ := head_at hs 6 (id1 s).1 (by omega) (id1_range hs) _ hd
    obtain ⟨d1, _, _⟩ := small_at (most := 8) hi.1 c3 c4 (by omega) (by omega) (by decide)
    omega
theorem hvec_any (cx cs g : Nat) (r : Rdr) (w : World) (hcx : w.heap[cx]? = some (capO g)) (hcs : w.heap[cs]? = some (capF g)) (hne : cs ≠ g) (h : RdrAt 140 w g r) (hr : r.ok) :
    Calls Tryz.prog 46 #[.pointer (some ⟨cx, 0, none⟩), .pointer (some ⟨cs, 0, none⟩)] w fun e w' => ∃ k a cap, e = .returned (.slice a k cap) ∧ AppJ w' w.heap.size a k cap (takeN k (r.small 8).2).1 ∧ k ≤ (r.small 8).1.toNat ∧ (k = (r.small 8).1.toNat ∨ (takeN k (r.small 8).2).2.left = 0) ∧ RdrAt 140 w' g (takeN k (r.small 8).2).2 ∧ But g w w' := by
  have c0 : w.cell? ⟨cx, 0, none⟩ = some (.pointer (some ⟨g, 0, none⟩)) := by simp only [World.cell?, hcx, capO]; rfl
  have L := hlistI_any cs g r w hcs hne h hr
  clear hcx hcs h hr
  go_enter Tryz.func46, Tryz.ntmps46
  go_wp2_with (go_at_call 47; refine L.mono ?_; rintro e w1 ⟨k, a, cap, rfl, h1, h2, h3, h4, h5⟩)
  go_ret
  exact ⟨k, a, cap, rfl, h1, h2, h3, h4, h5⟩
theorem wi6_none (id : Int) (d : Sl) : Wi.none ⟨6, id, ⟨#[]⟩, 0, 0, Sl0, Sl0, d, 0⟩ false false false true false = true := by
  unfold Wi.none noneB
  simp only [se_empty]
  rfl
theorem bytes6_b (id : Int) (hid : 0 ≤ id ∧ id ≤ 1099511627776) (vs : List Int) : ∃ (T : ByteArray) (E2 : Int), ((vs = pl vs ∧ T = vput 6 ++ vput id ++ vecB vs ∧ E2 = 0) ∨ (¬ vs = pl vs ∧ E2 = 1)) ∧
    ∀ (d : Sl) (w : World), SlR w d vs → Calls Tryz.prog 12 #[.agg (Wi.arr ⟨6, id, ⟨#[]⟩, 0, 0, Sl0, Sl0, d, 0⟩)] w fun e w' => e = .returned (.tuple #[.string T, .int .i64 E2]) ∧ Below w.heap.size w w' := by
  by_cases h : vs = pl vs
  · exact ⟨_, _, .inl ⟨h, rfl, rfl⟩, fun d w hv => bytes6_any ⟨6, id, ⟨#[]⟩, 0, 0, Sl0, Sl0, d, 0⟩ vs w rfl i64z i64z (idV_of hid) (wi6_none id d) hv h⟩
  · refine ⟨⟨#[]⟩, 1, .inr ⟨h, rfl⟩, fun d w hv => bytesE_any ⟨6, id, ⟨#[]⟩, 0, 0, Sl0, Sl0, d, 0⟩ w (fun wx hb => ?_)⟩
    have C := check6_any ⟨6, id, ⟨#[]⟩, 0, 0, Sl0, Sl0, d, 0⟩ vs wx rfl i64z i64z (hv.below hb)
    rw [if_neg (fun hh => h (of_decide_eq_true hh.2.1))] at C
    exact C
set_option maxHeartbeats 16000000 in
theorem hread6_any (s : ByteArray) (w : World) (hs : s.size ≤ 1000000000) (hk : ((r0 s).small 7).1 = 6) : Calls Tryz.prog 13 #[.string s] w fun e w' => ∃ (x : Wi) (E : Int), e = .returned (.tuple #[.agg x.arr, .int .i64 E]) ∧ Below w.heap.size w w' ∧ ((gd6 s ∧ E = 0 ∧ ∃ d : Sl, x = ⟨6, (id1 s).1, ⟨#[]⟩, 0, 0, Sl0, Sl0, d, 0⟩ ∧ SlR w' d (v6 s).1) ∨ (¬ gd6 s ∧ E = 10 ∧ x = Wi0)) := by
  have hok := r0_ok hs
  have VS := fun k => vec_same hs k
  obtain ⟨GD, HGD0⟩ : ∃ G, Hid (G = gd6 s) := ⟨_, rfl⟩
  obtain ⟨V1, HV1⟩ : ∃ G, Hid (G = (id1 s).1) := ⟨_, rfl⟩
  obtain ⟨V2, HV2⟩ : ∃ G, Hid (G = (v6 s).1) := ⟨_, rfl⟩
  rw [← HGD0.out, ← HV1.out, ← HV2.out]
  rw [← HGD0.out, ← HV2.out] at VS
  have HI1 : Hid (id1 s = ((r0 s).small 7).2.small 1099511627776) := rfl
  clear HGD0 HV2
  generalize id1 s = I1 at *
  go_enter Tryz.func13, Tryz.ntmps13
  go_upto_region 1 with fail
  generalize hw1 : World.alloc _ _ = w1
  have K1 : Kn w.heap.size w [(w.heap.size, wiO Wi0)] w1 := by rw [← hw1]; exact (Kn.start w).new' rfl (wiO Wi0)
  clear hw1
  obtain ⟨p, hp⟩ : ∃ p, w.heap.size = p := ⟨_, rfl⟩
  rw [hp] at K1 ⊢
  go_upto_region 2 with (first | (go_at_call 43; refine (rdr_read s _).mono ?_; rintro e w2 ⟨rfl, hr, d2⟩; have hpl := K1.lt (p, wiO Wi0) (by simp); have K2 := K1.below d2; have hl2 := hr.lt; simp only at hpl; have KK : Hid (Kr 140 w1.heap.size w [(p, wiO Wi0)] (r0 s) w2) := ⟨hr, by intro x hx; simp only [List.mem_singleton] at hx; subst hx; exact ⟨by simp only; omega, K2.at_ (p, wiO Wi0) (by simp)⟩, But.of_below (by rw [hp]; exact K2.b)⟩; clear d2 K1 K2 hr))
  obtain ⟨g, hg⟩ : ∃ g, w1.heap.size = g := ⟨_, rfl⟩
  rw [hg] at KK hl2 hpl ⊢
  generalize hw3 : World.alloc _ _ = w3
  have KK := Lib.hid (show Kr 140 g w [(w2.heap.size, capO g), (p, wiO Wi0)] (r0 s) w3 by rw [← hw3]; exact KK.out.new' rfl (capO g))
  clear hw3
  obtain ⟨cx, hcx⟩ : ∃ c, w2.heap.size = c := ⟨_, rfl⟩
  rw [hcx] at KK hl2 ⊢
  have c0 := KK.out.cell (k := cx) (o := capO g) (by simp) (j := 0) (v := .pointer (some ⟨g, 0, none⟩)) rfl
  go_upto_region 3 with fail
  have hl3 : cx < w3.heap.size := KK.out.lt (cx, capO g) (by simp)
  generalize hw4 : World.alloc _ _ = w4
  have KK := Lib.hid (show Kr 140 g w [(w3.heap.size, capF g), (cx, capO g), (p, wiO Wi0)] (r0 s) w4 by rw [← hw4]; exact KK.out.new' rfl (capF g))
  clear hw4
  obtain ⟨cs, hcs⟩ : ∃ c, w3.heap.size = c := ⟨_, rfl⟩
  rw [hcs] at KK hl3 ⊢
  go_upto_region 4 with fail
  have hl4 : cs < w4.heap.size := KK.out.lt (cs, capF g) (by simp)
  generalize hw5 : World.alloc _ _ = w5
  have KK := Lib.hid (show Kr 140 g w [(w4.heap.size, erO 0), (cs, capF g), (cx, capO g), (p, wiO Wi0)] (r0 s) w5 by rw [← hw5]; exact KK.out.new' rfl (erO 0))
  clear hw5
  obtain ⟨cb, hcb⟩ : ∃ c, w4.heap.size = c := ⟨_, rfl⟩
  rw [hcb] at KK hl4 ⊢
  go_upto_region 5 with fail
  have hl5 : cb < w5.heap.size := KK.out.lt (cb, erO 0) (by simp)
  generalize hw6 : World.alloc _ _ = w6
  have KK := Lib.hid (show Kr 140 g w [(w5.heap.size, seO cb), (cb, erO 0), (cs, capF g), (cx, capO g), (p, wiO Wi0)] (r0 s) w6 by rw [← hw6]; exact KK.out.new' rfl (seO cb))
  clear hw6
  obtain ⟨ct, hct⟩ : ∃ c, w5.heap.size = c := ⟨_, rfl⟩
  rw [hct] at KK hl5 ⊢
  have k1 := Rdr.small_ok hok 7
  clear c0
  have c0 := KK.out.cell (k := cs) (o := capF g) (by simp) (j := 0) (v := .func (.func 44) #[.pointer (some ⟨g, 0, none⟩)] #[]) rfl
  go_upto_region 7 with (first | (go_at_call 44; refine (rdr_small g (r0 s) 7 _ KK.out.rd hok (by decide) (by decide)).mono ?_; rintro e w7 ⟨rfl, hn, dn⟩; have KK := Lib.hid (KK.out.step hn dn); clear hn dn) | (refine wpList_store_row rfl 33 _ _ rfl _ (Wi.arr ⟨((r0 s).small 7).1, 0, ⟨#[]⟩, 0, 0, Sl0, Sl0, Sl0, 0⟩) rfl rfl 33 _ (heap_alloc_new _ _) (by kernel_rfl) rfl (wi_one _) ?_; rw [World.setRow_alloc_new]))
  have hl7 : ct < w7.heap.size := KK.out.lt (ct, seO cb) (by simp)
  have hid := small_range k1.1 (m := 1099511627776) (by decide)
  have k2 := Rdr.small_ok k1.1 1099511627776
  obtain ⟨R1, hR1⟩ : ∃ R, ((r0 s).small 7).2 = R := ⟨_, rfl⟩
  rw [hR1] at KK k1 k2 hid
  clear hk
  generalize hw8 : World.alloc _ _ = w8
  have KK := Lib.hid (show Kr 140 g w [(w7.heap.size, wiO ⟨6, 0, ⟨#[]⟩, 0, 0, Sl0, Sl0, Sl0, 0⟩), (ct, seO cb), (cb, erO 0), (cs, capF g), (cx, capO g), (p, wiO Wi0)] R1 w8 by rw [← hw8]; exact KK.out.new' rfl (wiO ⟨6, 0, ⟨#[]⟩, 0, 0, Sl0, Sl0, Sl0, 0⟩))
  clear hw8
  obtain ⟨q, hq⟩ : ∃ q, w7.heap.size = q := ⟨_, rfl⟩
  rw [hq] at KK hl7 ⊢
  have hA : Apart q [(ct, seO cb), (cb, erO 0), (cs, capF g), (cx, capO g), (p, wiO Wi0)] := ⟨by simp only; omega, by simp only; omega, by simp only; omega, by simp only; omega, by simp only; omega, trivial⟩
  clear c0
  have c0 := KK.out.cell (k := cs) (o := capF g) (by simp) (j := 0) (v := .func (.func 44) #[.pointer (some ⟨g, 0, none⟩)] #[]) rfl
  go_upto_region 8 with (first | (go_at_call 44; refine (rdr_small g _ 1099511627776 _ KK.out.rd k1.1 (by decide) (by decide)).mono ?_; rintro e w9 ⟨rfl, hn, dn⟩; have KK := Lib.hid (KK.out.step hn dn); clear hn dn; have ⟨q1, f1⟩ := KK.out.cf (k := q) (o := wiO ⟨6, 0, ⟨#[]⟩, 0, 0, Sl0, Sl0, Sl0, 0⟩) (by simp) 1 (v := .int .i64 0) rfl))
  generalize hwx : World.setCell _ _ _ = w10
  have KK := Lib.hid (show Kr 140 g w [(q, wiO ⟨6, (R1.small 1099511627776).1, ⟨#[]⟩, 0, 0, Sl0, Sl0, Sl0, 0⟩), (ct, seO cb), (cb, erO 0), (cs, capF g), (cx, capO g), (p, wiO Wi0)] _ w10 by rw [← hwx]; exact KK.out.setCell hA (by omega) 1 _ _ rfl)
  clear hwx c0 q1 f1
  obtain ⟨ID, hID⟩ : ∃ I, (R1.small 1099511627776).1 = I := ⟨_, rfl⟩
  obtain ⟨R2, hR2⟩ : ∃ R, (R1.small 1099511627776).2 = R := ⟨_, rfl⟩
  rw [hID, hR2] at KK
  rw [hID] at hid
  rw [hR2] at k2
  have c0 := KK.out.cell (k := q) (o := wiO ⟨6, ID, ⟨#[]⟩, 0, 0, Sl0, Sl0, Sl0, 0⟩) (by simp) (j := 0) (v := .int .i64 6) rfl
  rw [hR1] at HI1
  obtain ⟨I1a, I1b⟩ := I1
  have e1 : I1a = ID := (congrArg Prod.fst HI1.out).trans hID
  have e2 : I1b = R2 := (congrArg Prod.snd HI1.out).trans hR2
  subst e1 e2
  clear HI1 hID hR2
  simp only at VS HV1
  have VE := fun wx h1 h2 h3 => hvec_any cx cs g I1b wx h1 h2 (by omega) h3 k2.1
  have k8 := Rdr.small_ok k2.1 8
  have LQ := fun k => takeN_ok k8.1 k
  generalize (I1b.small 8).1.toNat = n at *
  generalize (I1b.small 8).2 = R4 at *
  have HVS := Lib.hid VS
  clear VS
  go_upto_region 25 with (go_at_call 46; refine (VE _ (KK.out.at_ (cx, capO g) (by simp)).2 (KK.out.at_ (cs, capF g) (by simp)).2 KK.out.rd).mono ?_; rintro e w11 ⟨k, a, cap, rfl, hAJ, hkk, hkn, hn, dn⟩; have hwl : q < w10.heap.size := KK.out.lt (q, wiO ⟨6, I1a, ⟨#[]⟩, 0, 0, Sl0, Sl0, Sl0, 0⟩) (by simp); have KK := Lib.hid (KK.out.step hn dn); have HG := hAJ.ge; have HS := hAJ.sl; have HS := Lib.hid (show SlR w11 ⟨a, k, cap⟩ (takeN k R4).1 from ⟨HS.r, HS.h1, HS.h2⟩); clear hn dn hAJ; have ⟨q7, f7⟩ := KK.out.cf (k := q) (o := wiO ⟨6, I1a, ⟨#[]⟩, 0, 0, Sl0, Sl0, Sl0, 0⟩) (by simp) 7 (v := .slice none 0 0) rfl)
  generalize hwx : World.setCell _ _ _ = w12
  have HS := Lib.hid (show SlR w12 ⟨a, k, cap⟩ (takeN k R4).1 by rw [← hwx]; exact HS.out.far (fun p hp => by have := HG p hp; omega) _ _)
  have KK := Lib.hid (show Kr 140 g w [(q, wiO ⟨6, I1a, ⟨#[]⟩, 0, 0, Sl0, Sl0, ⟨a, k, cap⟩, 0⟩), (ct, seO cb), (cb, erO 0), (cs, capF g), (cx, capO g), (p, wiO Wi0)] _ w12 by rw [← hwx]; exact KK.out.setCell hA (by omega) 7 _ _ rfl)
  have HG : Hid (∀ x, a = some x → x.block ≠ p) := fun x hx => by have := HG x hx; omega
  clear hwx q7 f7 c0 VE
  have HGD := HVS.out k hkk hkn
  have HLQ := LQ k
  clear hkk hkn LQ HVS
  generalize takeN k R4 = TN at *
  obtain ⟨ds, R⟩ := TN
  simp only at HS KK HGD HLQ
  have HV2 := Lib.hid HGD.2
  have HGD := Lib.hid HGD.1
  have F1 := fun wx h => rdr_end g R wx h HLQ.1
  obtain ⟨T, E2, hTE, BB⟩ := bytes6_b I1a hid ds
  go_upto_region 26 with (first
    | refine wpList_load_row rfl 33 _ rfl q rfl 33 (Wi.arr ⟨6, I1a, ⟨#[]⟩, 0, 0, Sl0, Sl0, ⟨a, k, cap⟩, 0⟩) (0, 0) _ (KK.out.at_ (q, wiO ⟨6, I1a, ⟨#[]⟩, 0, 0, Sl0, Sl0, ⟨a, k, cap⟩, 0⟩) (by simp)).2 Tryz.underlying33 rfl (by kernel_rfl) ?_
    | (go_at_call 12; refine (BB ⟨a, k, cap⟩ _ HS.out).mono ?_; rintro e w15 ⟨rfl, dn⟩; have KK := Lib.hid (KK.out.below dn); have HS := Lib.hid (HS.out.below dn); clear dn))
  clear BB
  have b0 := KK.out.cell (k := cb) (o := erO 0) (by simp) (j := 0) (v := .int .i64 0) rfl
  have cx0 := KK.out.cell (k := cx) (o := capO g) (by simp) (j := 0) (v := .pointer (some ⟨g, 0, none⟩)) rfl
  have hfin : R.fin = 0 ∨ R.fin = 10 := by unfold Rdr.fin; split <;> simp
  rcases hfin with hf | hf
  · rw [hf] at HGD F1
    rcases hTE with ⟨hl, hT, rfl⟩ | ⟨hl, rfl⟩
    · by_cases hS : T = s
      · have t2 : (T.toList != s.toList) = false := by rw [hS]; exact bne_self_eq_false _
        have t2' : (T.toList == s.toList) = true := by rw [hS]; exact beq_self_eq_true _
        have HGG := Lib.hid (HGD.out.2 ⟨rfl, hl, hT.symm.trans hS⟩)
        clear hS hT hl
        go_wp2_with (first
          | (go_at_call 54; refine (F1 _ KK.out.rd).mono ?_; rintro e w20 ⟨rfl, dq⟩; have KK := Lib.hid (KK.out.step (dq.rdr KK.out.rd) dq.but); have HS := Lib.hid (HS.out.below dq.below); clear b0; have b0 := KK.out.cell (k := cb) (o := erO 0) (by simp) (j := 0) (v := .int .i64 0) rfl)
          | refine wpList_load_row rfl 33 _ rfl q rfl 33 (Wi.arr ⟨6, I1a, ⟨#[]⟩, 0, 0, Sl0, Sl0, ⟨a, k, cap⟩, 0⟩) (0, 0) _ (KK.out.at_ (q, wiO ⟨6, I1a, ⟨#[]⟩, 0, 0, Sl0, Sl0, ⟨a, k, cap⟩, 0⟩) (by simp)).2 Tryz.underlying33 rfl (by kernel_rfl) ?_
          | refine wpList_store_row rfl 33 _ _ rfl p (Wi.arr ⟨6, I1a, ⟨#[]⟩, 0, 0, Sl0, Sl0, ⟨a, k, cap⟩, 0⟩) rfl rfl 33 _ (KK.out.at_ (p, wiO Wi0) (by simp)).2 (by kernel_rfl) rfl (wi_one _) ?_)
        have KF := Kr.setRow (KK.out.sub (m := [(p, wiO Wi0)]) (by simp)) trivial (by omega) (wiO ⟨6, I1a, ⟨#[]⟩, 0, 0, Sl0, Sl0, ⟨a, k, cap⟩, 0⟩)
        have HS := Lib.hid (HS.out.farRow HG.out (Wi.arr ⟨6, I1a, ⟨#[]⟩, 0, 0, Sl0, Sl0, ⟨a, k, cap⟩, 0⟩))
        refine bodyPost_ret (v := .tuple #[.agg (Wi.arr ⟨6, I1a, ⟨#[]⟩, 0, 0, Sl0, Sl0, ⟨a, k, cap⟩, 0⟩), .int .i64 0]) (res_cell_tmp rfl _ _ p 33 (Wi.arr ⟨6, I1a, ⟨#[]⟩, 0, 0, Sl0, Sl0, ⟨a, k, cap⟩, 0⟩) (0, 0) _ _ rfl rfl KF.hd Tryz.underlying33 rfl (by kernel_rfl)) rfl ⟨_, 0, rfl, KF.belowB (by omega), .inl ⟨HGG.out, rfl, ⟨a, k, cap⟩, by rw [HV1.out], by rw [← HV2.out HGG.out]; exact HS.out⟩⟩
      · have t2 : (T.toList != s.toList) = true := bne_iff_ne.2 (fun h => hS (ba_data.2 (by rw [← Lib.toList_data, ← Lib.toList_data]; exact h)))
        have t2' : (T.toList == s.toList) = false := by simpa [bne] using t2
        have HNG : Hid (¬ GD) := fun h => hS (hT.trans (HGD.out.1 h).2.2)
        clear hS hT hl
        go_wp2_with (first
          | (go_at_call 54; refine (F1 _ KK.out.rd).mono ?_; rintro e w20 ⟨rfl, dq⟩; have KK := Lib.hid (KK.out.step (dq.rdr KK.out.rd) dq.but); clear b0; have b0 := KK.out.cell (k := cb) (o := erO 0) (by simp) (j := 0) (v := .int .i64 0) rfl)
          | refine wpList_store_row rfl 33 _ _ rfl p Wi0.arr rfl rfl 33 _ (KK.out.at_ (p, wiO Wi0) (by simp)).2 (by kernel_rfl) rfl (wi_one _) ?_)
        have KF := Kr.setRow (KK.out.sub (m := [(p, wiO Wi0)]) (by simp)) trivial (by omega) (wiO Wi0)
        refine bodyPost_ret (v := .tuple #[.agg Wi0.arr, .int .i64 10]) (res_cell_tmp rfl _ _ p 33 Wi0.arr (0, 0) _ _ rfl rfl KF.hd Tryz.underlying33 rfl (by kernel_rfl)) rfl ⟨Wi0, 10, rfl, KF.belowB (by omega), .inr ⟨HNG.out, rfl, rfl⟩⟩
    · have HNG : Hid (¬ GD) := fun h => hl (HGD.out.1 h).2.1
      clear hl
      go_wp2_with (first
        | (go_at_call 54; refine (F1 _ KK.out.rd).mono ?_; rintro e w20 ⟨rfl, dq⟩; have KK := Lib.hid (KK.out.step (dq.rdr KK.out.rd) dq.but); clear b0; have b0 := KK.out.cell (k := cb) (o := erO 0) (by simp) (j := 0) (v := .int .i64 0) rfl)
        | refine wpList_store_row rfl 33 _ _ rfl p Wi0.arr rfl rfl 33 _ (KK.out.at_ (p, wiO Wi0) (by simp)).2 (by kernel_rfl) rfl (wi_one _) ?_)
      have KF := Kr.setRow (KK.out.sub (m := [(p, wiO Wi0)]) (by simp)) trivial (by omega) (wiO Wi0)
      refine bodyPost_ret (v := .tuple #[.agg Wi0.arr, .int .i64 10]) (res_cell_tmp rfl _ _ p 33 Wi0.arr (0, 0) _ _ rfl rfl KF.hd Tryz.underlying33 rfl (by kernel_rfl)) rfl ⟨Wi0, 10, rfl, KF.belowB (by omega), .inr ⟨HNG.out, rfl, rfl⟩⟩
  · rw [hf] at HGD F1
    have HNG : Hid (¬ GD) := fun h => by have := (HGD.out.1 h).1; cases this
    clear hTE
    go_wp2_with (first
      | (go_at_call 54; refine (F1 _ KK.out.rd).mono ?_; rintro e w20 ⟨rfl, dq⟩; have KK := Lib.hid (KK.out.step (dq.rdr KK.out.rd) dq.but); clear b0; have b0 := KK.out.cell (k := cb) (o := erO 0) (by simp) (j := 0) (v := .int .i64 0) rfl)
      | refine wpList_store_row rfl 33 _ _ rfl p Wi0.arr rfl rfl 33 _ (KK.out.at_ (p, wiO Wi0) (by simp)).2 (by kernel_rfl) rfl (wi_one _) ?_)
    have KF := Kr.setRow (KK.out.sub (m := [(p, wiO Wi0)]) (by simp)) trivial (by omega) (wiO Wi0)
    refine bodyPost_ret (v := .tuple #[.agg Wi0.arr, .int .i64 10]) (res_cell_tmp rfl _ _ p 33 Wi0.arr (0, 0) _ _ rfl rfl KF.hd Tryz.underlying33 rfl (by kernel_rfl)) rfl ⟨Wi0, 10, rfl, KF.belowB (by omega), .inr ⟨HNG.out, rfl, rfl⟩⟩
end
end Go.Proofs.YtglabahbklpocaaGreat
