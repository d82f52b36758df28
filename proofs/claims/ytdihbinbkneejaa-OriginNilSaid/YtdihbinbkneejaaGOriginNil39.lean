/- origin.Log.those for After -/
import Derived.Test.YtdihbinbkneejaaGOriginNil38
namespace Go.Proofs.Ytdihbinbkneejaa
section
open Go.RowKit Go.Deep
set_option maxRecDepth 100000
set_option linter.unusedVariables false
set_option linter.unusedSimpArgs false
attribute [local go_sem ↓] Go.wp_at_zero Go.wp_at_succ
set_option maxHeartbeats 8000000 in
theorem those_after (F : List Nat) (g : Nat) (m : LogM) (most : Int) (c : Nat) (P : RcM → Bool) (w : World) (hL : LogAt w F g m) (hm0 : i64' most)
    (HP : ∀ x : RecA, x.m ∈ m.xs → ∀ wx, Below w.heap.size w wx → Calls Try.prog 43 #[.agg #[.int .i64 x.r.st.clock, .int .i64 x.r.st.site, .int .i64 x.r.st.seq], .pointer (some ⟨c, 0, none⟩)] wx fun e w' => e = .returned (.bool (P x.m)) ∧ Below wx.heap.size wx w') :
    Calls Try.prog 42 #[.pointer (some ⟨g, 0, none⟩), .int .i64 most, .func (.func 43) #[] #[.pointer (some ⟨c, 0, none⟩)]] w fun e w' => ∃ d : Sl, e = .returned (.slice d.a d.n d.c) ∧ RecsAt w' d (thoseM m most P) ∧ Below w.heap.size w w' := by
  obtain ⟨b, k, a, rs, hg, hc⟩ := hL
  have c3 : w.cell? ⟨g, 3, none⟩ = some (.slice a.a a.n a.c) := by simp only [World.cell?, hg, logO]; rfl
  have HC := Lib.hid hc
  have hn := hc.sm
  have hlen := hc.ha.1
  have HX : Hid (m.xs = rs.map RecA.m) := hc.xs
  obtain ⟨V, HV⟩ : ∃ V, Hid (V = thoseM m most P) := ⟨_, rfl⟩
  rw [← HV.out]
  clear hg hc
  obtain ⟨aa, an, acp⟩ := a
  simp only at *
  go_enter Try.func42, Try.ntmps42
  go_wp2_with fail
  go_step3
  go_wp2_with fail
  go_step3
  go_wp2_with fail
  go_loopw [7, 17] (fun out i wr => ∃ (j n cap : Nat) (a2 : Option Addr) (os : List RecA), j ≤ an ∧ i = .int .i64 j ∧ out = .slice a2 n cap ∧ AppE RecA.cs 30 9 wr w.heap.size a2 n cap os ∧ (∀ x ∈ os, RcT wr x) ∧ os.map RecA.m = (m.xs.take j).filter P ∧ (n : Int) ≤ max most 0 ∧ n ≤ j ∧ Below w.heap.size w wr) (fun _ i _ => an + 1 - (intOf i).toNat)
  case atStart => exact ⟨0, 0, 0, none, [], by omega, rfl, rfl, appE_nil _ _, by simp, by simp, by omega, by omega, Below.refl _ _⟩
  case round =>
    obtain ⟨j, n, cap, a2, os, hj, rfl, rfl, hA, hO, hmap, hmx, hnj, hbel⟩ := hrel
    have HA := Lib.hid hA
    have HO := Lib.hid hO
    have HM := Lib.hid hmap
    have hos : os.length = n := hA.len
    have hzz := hbel.size
    clear hA hO hmap
    by_cases hlt : j < an
    · have t1 : decide ((j : Int) < (an : Int)) = true := decide_eq_true (by omega)
      obtain ⟨bb, oo, x, rfl, hbl, hxj, hCx⟩ := HC.out.ha.at hbel j hlt
      skip
      have hxm : m.xs[j]? = some x.m := by rw [HX.out, List.getElem?_map, hxj]; rfl
      have hxo := (HC.out.below hbel).ok x (List.mem_of_getElem? hxj)
      have hx8 := (HC.out.fr x (List.mem_of_getElem? hxj)).2
      have HPX := fun wx hb => HP x (List.mem_of_getElem? hxm) wx hb
      have HXO := Lib.hid hxo
      have HS := Lib.hid (take_filter_snoc P m.xs j x.m hxm)
      have i1 : (0 : Int) ≤ (j : Int) := by omega
      have i2 : (j : Int) < (an : Int) := by omega
      clear hxo hxm
      obtain ⟨r, d, ds⟩ := x
      have HCX := Lib.hid (show CellsAt wr bb (oo + j * 9) (rcA r d).toList from hCx)
      clear hCx
      go_upto_region 7 with (first
        | refine wpList_load_mid rfl 30 _ rfl bb (oo + j * 9) rfl (rcA r d).toList _ HCX.out Try.underlying30 rfl (by kernel_rfl) ?_
        | (refine wpList_store_row rfl 30 _ _ rfl _ (rcA r d) rfl rfl 30 _ (heap_alloc_new _ _) (by kernel_rfl) rfl (by simp [Value.oneCell', rcA]) ?_; rw [World.setRow_alloc_new]))
      have KK := Lib.hid (show Kn wr.heap.size wr [(wr.heap.size, rcO r d)] (wr.alloc (.cells (rcA r d) 30 (0, 0))) from (Kn.start wr).new (rcO r d))
      obtain ⟨p, hp⟩ : ∃ p, wr.heap.size = p := ⟨_, rfl⟩
      generalize wr.alloc (.cells (rcA r d) 30 (0, 0)) = w1 at *
      by_cases hfull : most ≤ (n : Int)
      · have t2 : decide (most ≤ (n : Int)) = true := decide_eq_true hfull
        have HV := Lib.hid (HV.out.trans (show thoseM m most P = os.map RecA.m by unfold thoseM; rw [HM.out]; exact take_filter_pre P m.xs j _ (by rw [← HM.out, List.length_map, hos]; omega)))
        have hA1 := HA.out.below KK.out.b
        have hle := hA1.le
        have hmax : cap ≤ 9223372036854775807 := maxLen_i hA1.max
        have hB1 := below_then hbel hzz KK.out.b
        have hO1 : ∀ x ∈ os, RcT w1 x := fun x hx => (HO.out x hx).below KK.out.b
        have FIN := Lib.hid (And.intro hA1 (And.intro hB1 hO1))
        clear hA1 hB1 hO1 hfull
        go_wp2_with fail
        first | rw [Exit.noGoto_ret] | skip
        go_ret
        rw [HV.out]
        exact ⟨⟨a2, n, cap⟩, rfl, ⟨⟨os, (AppE.reads rec_len (by decide) FIN.out.1).1, rfl, fun x hx => ⟨(FIN.out.2.2 x hx).ok, (FIN.out.2.2 x hx).n8⟩, fun x hx => (FIN.out.2.2 x hx).ti, FIN.out.1.tr⟩, hle, hmax⟩, FIN.out.2.1⟩
      · have t2 : decide (most ≤ (n : Int)) = false := decide_eq_false hfull
        have HPW := HPX w1 (below_then hbel hzz KK.out.b)
        simp only at HPW
        rw [hp] at KK ⊢
        obtain ⟨b0, b1, b2, b3, b4, b5, b6, b7, b8⟩ := rec_fields (p := p) (r := r) (d := d) KK.out (by simp)
        obtain ⟨PB, hPB⟩ : ∃ PB, P (RecA.m ⟨r, d, ds⟩) = PB := ⟨_, rfl⟩
        rw [hPB] at HPW
        have HS := HS.out
        simp only [hPB] at HS
        have HS := Lib.hid HS
        clear hPB HPX
        cases PB
        · have HS := Lib.hid (show (m.xs.take (j + 1)).filter P = (m.xs.take j).filter P by rw [HS.out]; simp)
          go_wp2_with (first | (go_at_call 43; refine (HPW).mono ?_; rintro e w2 ⟨rfl, d2⟩; have KK := Lib.hid (KK.out.below d2)))
          have hB2 : Below wr.heap.size wr w2 := by rw [hp]; exact KK.out.b
          go_roundw
          case rel => exact ⟨j + 1, n, cap, a2, os, by omega, by go_num, rfl, HA.out.below hB2, fun x hx => (HO.out x hx).below hB2, by rw [HS.out]; exact HM.out, hmx, by omega, below_then hbel hzz hB2⟩
          case measure => simp [intOf]; omega
        · have HS := Lib.hid (show (m.xs.take (j + 1)).filter P = (m.xs.take j).filter P ++ [RecA.m ⟨r, d, ds⟩] by rw [HS.out]; simp)
          have CP : ∀ wx, Below p wr wx → Calls Try.prog 40 #[.agg (rcA r d)] wx fun e w' => ∃ d' : Sl, e = .returned (.agg #[.int .i64 r.kind, .string r.series, .int .i64 r.time, .int .i64 r.value, .int .i64 r.tier, .int .i64 r.st.clock, .int .i64 r.st.site, .int .i64 r.st.seq, .slice d'.a d'.n d'.c]) ∧ SlR w' d' ds ∧ fresh wx.heap.size d' ∧ d'.n = d.n ∧ Below wx.heap.size wx w' ∧ TI w' d' := fun wx hb => copied_any2 ⟨r, d, ds⟩ wx ⟨HXO.out.wf, HXO.out.sl.below (by rw [hp]; exact hb)⟩ (by show d.n ≤ 1000; simp only at hx8; omega)
          go_wp2_with (first
            | (go_at_call 43; refine (HPW).mono ?_; rintro e w2 ⟨rfl, d2⟩; have KK := Lib.hid (KK.out.below d2))
            | refine wpList_load_row rfl 30 _ rfl p rfl 30 (rcA r d) (0, 0) _ KK.out.hd Try.underlying30 rfl (by kernel_rfl) ?_
            | (go_at_call 40; refine (CP _ KK.out.b).mono ?_; rintro e w3 ⟨d', rfl, hS, hfr, hdd, dn, hTI⟩; have HDD := Lib.hid hdd; clear hdd; have KK := Lib.hid (KK.out.below dn))
            | (at_builtin; refine wpList_append_G (B := w.heap.size) (a := a2) (n := n) (cap := cap) (l := os) rec_ety rfl _ _ rfl _ rfl ?q1 ?q2 ?q3 w3.heap.size 1 ⟨r, d', ds⟩ rfl ?q4 ?q5))
          case q1 => exact (HA.out.below (by rw [hp]; exact KK.out.b)).below ((Below.refl _ _).alloc (Nat.le_refl _) _)
          case q2 => have := KK.out.le; simp; omega
          case q3 => omega
          case q4 => exact (rec_new w3 r d' ds 0 _ rfl)
          case q5 =>
            intro a3 cap3 w5 hA5 hb5 hg5
            have hB3 : Below wr.heap.size wr w3 := by rw [hp]; exact KK.out.b
            have hA3 := (HA.out.below hB3).below ((Below.refl _ _).alloc (Nat.le_refl _) (.cells #[.int .i64 r.kind, .string r.series, .int .i64 r.time, .int .i64 r.value, .int .i64 r.tier, .int .i64 r.st.clock, .int .i64 r.st.site, .int .i64 r.st.seq, .slice d'.a d'.n d'.c] 30))
            have hn3 : RcT w3 ⟨r, d', ds⟩ := ⟨⟨HXO.out.wf, hS⟩, hTI, by show d'.n ≤ 8; rw [HDD.out]; exact hx8⟩
            have hO5 : ∀ x ∈ os ++ [⟨r, d', ds⟩], RcT w5 x := fun x hx => by
              refine RcT.grown (RcT.below ?_ ((Below.refl _ _).alloc (Nat.le_refl _) _)) hA3 hg5
              rcases List.mem_append.1 hx with hx | hx
              · exact (HO.out x hx).below hB3
              · simp only [List.mem_singleton] at hx
                rw [hx]; exact hn3
            have hsz3 : w.heap.size ≤ w3.heap.size := by have := hB3.size; omega
            have FIN := Lib.hid (And.intro hA5 (And.intro hO5 ((below_then hbel hzz hB3).trans (((Below.refl w.heap.size w3).alloc hsz3 _).trans hb5))))
            clear hA5 hb5 hg5 hA3 hn3 hO5
            go_wp2_with fail
            go_roundw
            case rel => exact ⟨j + 1, n + 1, cap3, a3, os ++ [⟨r, d', ds⟩], by omega, by go_num, rfl, FIN.out.1, FIN.out.2.1, by rw [HS.out, List.map_append, HM.out]; rfl, by omega, by omega, FIN.out.2.2⟩
            case measure => simp [intOf]; omega
    · obtain rfl : j = an := by omega
      have t1 : decide ((j : Int) < (j : Int)) = false := decide_eq_false (by omega)
      have hml : m.xs.length = j := by rw [HX.out, List.length_map]; exact hlen
      have HV := Lib.hid (HV.out.trans (show thoseM m most P = os.map RecA.m by
        unfold thoseM
        have h1 := HM.out
        rw [List.take_of_length_le (by omega)] at h1
        rw [← h1, List.take_of_length_le (by rw [List.length_map, hos]; omega)]))
      have hle := HA.out.le
      have hmax : cap ≤ 9223372036854775807 := maxLen_i HA.out.max
      have FIN := Lib.hid (And.intro HA.out (And.intro hbel HO.out))
      clear hml
      go_wp2_with fail
      first | rw [Exit.noGoto_ret] | skip
      go_ret
      rw [HV.out]
      exact ⟨⟨a2, n, cap⟩, rfl, ⟨⟨os, (AppE.reads rec_len (by decide) FIN.out.1).1, rfl, fun x hx => ⟨(FIN.out.2.2 x hx).ok, (FIN.out.2.2 x hx).n8⟩, fun x hx => (FIN.out.2.2 x hx).ti, FIN.out.1.tr⟩, hle, hmax⟩, FIN.out.2.1⟩
end
end Go.Proofs.Ytdihbinbkneejaa
