/- origin.New; Know, Base, Clock, Len, Room. -/
import Derived.Test.YtdihbinbkneejaaGOriginNil35
namespace Go.Proofs.Ytdihbinbkneejaa
section
open Go.RowKit Go.Deep
set_option maxRecDepth 100000
set_option linter.unusedVariables false
set_option linter.unusedSimpArgs false
attribute [local go_sem ↓] Go.wp_at_zero Go.wp_at_succ
def newM (room : Int) (bs : List Int) : LogM := ⟨min (max room 0) 400, joinV bs [], joinV bs [], [], 0⟩
theorem joinV_len (xs ys : List Int) : (joinV xs ys).length ≤ 8 := vec_length _
set_option maxHeartbeats 2000000 in
theorem onew_any (F : List Nat) (room : Int) (d : Sl) (bs : List Int) (w : World) (hd : SlR w d bs) (hF : ∀ k ∈ F, k < w.heap.size) (h0 : i64' room) :
    Calls Try.prog 9 #[.int .i64 room, .slice d.a d.n d.c] w fun e w' => ∃ g, e = .returned (.pointer (some ⟨g, 0, none⟩)) ∧ w.heap.size ≤ g ∧ LogAt w' (g :: F) g (newM room bs) ∧ Below w.heap.size w w' := by
  have J := join_any d.a none d.n d.c 0 0 bs [] w hd.r ⟨rfl, .inl rfl⟩ hd.nc hd.cb (Nat.le_refl _) (by decide)
  have hl := joinV_len bs []
  obtain ⟨M, hM⟩ : ∃ M, Hid (newM room bs = M) := ⟨_, rfl⟩
  rw [hM.out]
  have hM2 : Hid (M = ⟨min (max room 0) 400, joinV bs [], joinV bs [], [], 0⟩) := hM.out.symm
  generalize joinV bs [] = js at *
  clear hM
  go_enter Try.func9, Try.ntmps9
  go_wp2_with fail
  refine J.mono ?_
  rintro e w1 ⟨a', rfl, hV, d1⟩
  have FIN := Lib.hid (And.intro hV d1)
  clear hV d1 J
  go_wp2_with fail
  go_ret
  obtain ⟨hV, d1⟩ := FIN.out
  have hz := d1.size
  have hB := d1.alloc hz (logO (min (max room 0) 400) ⟨a', js.length, js.length⟩ ⟨a', js.length, js.length⟩ ⟨none, 0, 0⟩ 0)
  have hS : SlR (w1.alloc (logO (min (max room 0) 400) ⟨a', js.length, js.length⟩ ⟨a', js.length, js.length⟩ ⟨none, 0, 0⟩ 0)) ⟨a', js.length, js.length⟩ js := hV.keep hl (F := []) (by simp) (by simp) (fun i hi _ => Below.heap_alloc _ _ i hi)
  have hf : farA (w1.heap.size :: F) ⟨a', js.length, js.length⟩ := by
    rcases hV.own with h1 | ⟨g, e, h2, h3, _⟩
    · exact .inl (by rw [h1]; rfl)
    · refine .inr fun p hp hm => ?_
      rw [e] at hp
      cases hp
      rcases List.mem_cons.1 hm with hm | hm
      · simp only at hm; omega
      · have := hF _ hm; simp only at this; omega
  refine ⟨w1.heap.size, rfl, hz, ⟨⟨a', js.length, js.length⟩, ⟨a', js.length, js.length⟩, ⟨none, 0, 0⟩, [], ?_, ?_⟩, hB⟩
  · rw [hM2.out]
    exact heap_alloc_new w1 _
  · rw [hM2.out]
    exact { hb := hS, hk := hS, ha := ⟨rfl, .inl rfl⟩, ac := Nat.le_refl _, am := by decide, ok := by simp, xs := rfl, fb := hf, fk := hf, fa := .inl rfl, fr := by simp, sm := by decide, bn := hl, kn := hl, mo := by simp only; omega, ck := (show i64' 0 from ⟨by decide, by decide⟩), fm := .inl rfl }
theorem oknow_any (F : List Nat) (g : Nat) (m : LogM) (w : World) (hL : LogAt w F g m) : Calls Try.prog 11 #[.pointer (some ⟨g, 0, none⟩)] w fun e w' => ∃ d : Sl, e = .returned (.slice d.a d.n d.c) ∧ SlR w' d m.ks ∧ fresh w.heap.size d ∧ d.n ≤ 8 ∧ Below w.heap.size w w' := by
  obtain ⟨b, k, a, rs, hg, hc⟩ := hL
  have c2 : w.cell? ⟨g, 2, none⟩ = some (.slice k.a k.n k.c) := by simp only [World.cell?, hg, logO]; rfl
  have C := clone_sl k m.ks w hc.hk (by have := hc.kn; omega)
  have h8 := hc.kn
  clear hg hc
  go_enter Try.func11, Try.ntmps11
  go_wp2_with fail
  refine C.mono ?_
  rintro e w1 ⟨d', rfl, hS, hf, hdn, d1⟩
  have FIN := Lib.hid (And.intro hS (And.intro hf (And.intro hdn d1)))
  clear hS hf hdn d1
  go_wp2_with fail
  go_ret
  exact ⟨d', rfl, FIN.out.1, FIN.out.2.1, by rw [FIN.out.2.2.1]; exact h8, FIN.out.2.2.2⟩
theorem obase_any (F : List Nat) (g : Nat) (m : LogM) (w : World) (hL : LogAt w F g m) : Calls Try.prog 21 #[.pointer (some ⟨g, 0, none⟩)] w fun e w' => ∃ d : Sl, e = .returned (.slice d.a d.n d.c) ∧ SlR w' d m.bs ∧ fresh w.heap.size d ∧ d.n ≤ 8 ∧ Below w.heap.size w w' := by
  obtain ⟨b, k, a, rs, hg, hc⟩ := hL
  have c2 : w.cell? ⟨g, 1, none⟩ = some (.slice b.a b.n b.c) := by simp only [World.cell?, hg, logO]; rfl
  have C := clone_sl b m.bs w hc.hb (by have := hc.bn; omega)
  have h8 := hc.bn
  clear hg hc
  go_enter Try.func21, Try.ntmps21
  go_wp2_with fail
  refine C.mono ?_
  rintro e w1 ⟨d', rfl, hS, hf, hdn, d1⟩
  have FIN := Lib.hid (And.intro hS (And.intro hf (And.intro hdn d1)))
  clear hS hf hdn d1
  go_wp2_with fail
  go_ret
  exact ⟨d', rfl, FIN.out.1, FIN.out.2.1, by rw [FIN.out.2.2.1]; exact h8, FIN.out.2.2.2⟩
theorem oclock_any (F : List Nat) (g : Nat) (m : LogM) (w : World) (hL : LogAt w F g m) : Calls Try.prog 18 #[.pointer (some ⟨g, 0, none⟩)] w fun e w' => e = .returned (.int .i64 m.clock) ∧ w = w' := by
  obtain ⟨b, k, a, rs, hg, hc⟩ := hL
  have c2 : w.cell? ⟨g, 4, none⟩ = some (.int .i64 m.clock) := by simp only [World.cell?, hg, logO]; rfl
  clear hg hc
  go_enter Try.func18, Try.ntmps18
  go_wp2_with fail
  go_ret
  exact ⟨rfl, rfl⟩
theorem olen_any (F : List Nat) (g : Nat) (m : LogM) (w : World) (hL : LogAt w F g m) : Calls Try.prog 32 #[.pointer (some ⟨g, 0, none⟩)] w fun e w' => e = .returned (.int .i64 m.xs.length) ∧ w = w' := by
  obtain ⟨b, k, a, rs, hg, hc⟩ := hL
  have c2 : w.cell? ⟨g, 3, none⟩ = some (.slice a.a a.n a.c) := by simp only [World.cell?, hg, logO]; rfl
  have hl : m.xs.length = a.n := by rw [hc.xs, List.length_map]; exact hc.ha.1
  rw [hl]
  clear hg hc hl
  go_enter Try.func32, Try.ntmps32
  go_wp2_with fail
  go_ret
  exact ⟨rfl, rfl⟩
theorem oroom_any (F : List Nat) (g : Nat) (m : LogM) (w : World) (hL : LogAt w F g m) : Calls Try.prog 24 #[.pointer (some ⟨g, 0, none⟩)] w fun e w' => e = .returned (.int .i64 (m.most - m.xs.length)) ∧ Below w.heap.size w w' := by
  obtain ⟨b, k, a, rs, hg, hc⟩ := hL
  have c2 : w.cell? ⟨g, 3, none⟩ = some (.slice a.a a.n a.c) := by simp only [World.cell?, hg, logO]; rfl
  have c0 : w.cell? ⟨g, 0, none⟩ = some (.int .i64 m.most) := by simp only [World.cell?, hg, logO]; rfl
  have hl : m.xs.length = a.n := by rw [hc.xs, List.length_map]; exact hc.ha.1
  rw [hl]
  have hm := hc.mo
  have hs := hc.sm
  have hw : IntKind.i64.wrap (m.most - (a.n : Int)) = m.most - (a.n : Int) := by rw [IntKind.wrap_i64]; omega
  have hw2 : wrap64 (m.most - (a.n : Int)) = m.most - (a.n : Int) := IntWalk.wrap64_in (m.most - (a.n : Int)) ⟨by omega, by omega⟩
  clear hg hc hl
  go_enter Try.func24, Try.ntmps24
  go_wp2_with (go_quiet (fail))
  go_ret
  exact ⟨by first | rfl | (rw [hw]) | (rw [hw2]), ⟨rfl, rfl, rfl, Nat.le_refl _, fun _ _ => rfl⟩⟩
end
end Go.Proofs.Ytdihbinbkneejaa
