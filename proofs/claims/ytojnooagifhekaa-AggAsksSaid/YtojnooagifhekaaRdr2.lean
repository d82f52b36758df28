/- The Reader of the package vint, more: Left, End, Text, Read. -/
import Derived.Test.YtojnooagifhekaaRdr
namespace Go.Proofs.Ytojnooagifhekaa
open Go.RowKit
set_option maxRecDepth 100000
set_option linter.unusedVariables false
set_option linter.unusedSimpArgs false
def QuietFrom (w w' : World) : Prop := ∃ n, w' = w.drewN n
theorem QuietFrom.but {g : Nat} {w w' : World} (h : QuietFrom w w') : But g w w' := by obtain ⟨n, rfl⟩ := h; exact But.drewN g n w
theorem QuietFrom.rdr {T : TypeId} {g : Nat} {r : Rdr} {w w' : World} (h : QuietFrom w w') (k : RdrAt T w g r) : RdrAt T w' g r := by obtain ⟨n, rfl⟩ := h; exact k
theorem QuietFrom.below {B : Nat} {w w' : World} (h : QuietFrom w w') : Below B w w' := by obtain ⟨n, rfl⟩ := h; exact ⟨rfl, rfl, rfl, Nat.le_refl _, fun _ _ => rfl⟩
set_option maxHeartbeats 1000000 in
theorem rdr_left (g : Nat) (r : Rdr) (w : World) (h : RdrAt 96 w g r) (hr : r.ok) :
    Calls Try.prog 47 #[.pointer (some ⟨g, 0, none⟩)] w fun e w' => e = .returned (.int .i64 r.left) ∧ QuietFrom w w' := by
  have c0 := h.c0
  have c1 := h.c1
  have c2 := h.c2
  obtain ⟨s, p, bad⟩ := r
  obtain ⟨h1, h2, h3⟩ := hr
  simp only at c0 c1 c2 h1 h2 h3
  clear h
  cases bad
  · have hw : IntKind.i64.wrap ((s.size : Int) - p) = (s.size : Int) - p := IntWalk.i64_in _ (by omega)
    go_enter Try.func47, Try.ntmps47
    go_wp2
    go_quiet (fail)
    go_wp2
    go_ret
    exact ⟨rfl, ⟨nq, rfl⟩⟩
  · go_enter Try.func47, Try.ntmps47
    go_wp2
    go_ret
    exact ⟨rfl, ⟨0, rfl⟩⟩
set_option maxHeartbeats 1000000 in
theorem rdr_end (g : Nat) (r : Rdr) (w : World) (h : RdrAt 96 w g r) (hr : r.ok) :
    Calls Try.prog 51 #[.pointer (some ⟨g, 0, none⟩)] w fun e w' => e = .returned (.int .i64 r.fin) ∧ QuietFrom w w' := by
  have c0 := h.c0
  have c1 := h.c1
  have c2 := h.c2
  obtain ⟨s, p, bad⟩ := r
  obtain ⟨h1, h2, h3⟩ := hr
  simp only at c0 c1 c2 h1 h2 h3
  clear h
  cases bad
  · by_cases hp : p < (s.size : Int)
    · have t1 : decide (p < (s.size : Int)) = true := decide_eq_true hp
      have HF : Hid ((⟨s, p, false⟩ : Rdr).fin = 10) := by show Rdr.fin _ = _; unfold Rdr.fin; rw [if_pos (.inr hp)]
      go_enter Try.func51, Try.ntmps51
      go_wp2
      go_quiet (fail)
      go_wp2
      go_ret
      exact ⟨ret_num HF.out.symm, ⟨nq, rfl⟩⟩
    · have t1 : decide (p < (s.size : Int)) = false := decide_eq_false hp
      have HF : Hid ((⟨s, p, false⟩ : Rdr).fin = 0) := by show Rdr.fin _ = _; unfold Rdr.fin; rw [if_neg (by simp; omega)]
      go_enter Try.func51, Try.ntmps51
      go_wp2
      go_quiet (fail)
      go_wp2
      go_ret
      exact ⟨ret_num HF.out.symm, ⟨nq, rfl⟩⟩
  · have HF : Hid ((⟨s, p, true⟩ : Rdr).fin = 10) := by show Rdr.fin _ = _; unfold Rdr.fin; rw [if_pos (.inl rfl)]
    go_enter Try.func51, Try.ntmps51
    go_wp2
    go_quiet (fail)
    go_wp2
    go_ret
    exact ⟨ret_num HF.out.symm, ⟨nq, rfl⟩⟩
theorem rdr_read (s : ByteArray) (w : World) :
    Calls Try.prog 45 #[.string s] w fun e w' => e = .returned (.pointer (some ⟨w.heap.size, 0, none⟩)) ∧ RdrAt 96 w' w.heap.size ⟨s, 0, false⟩ ∧ Below w.heap.size w w' := by
  go_enter Try.func45, Try.ntmps45
  go_wp2
  go_ret
  exact ⟨rfl, heap_alloc_new w _, (Below.refl _ _).alloc (Nat.le_refl _) _⟩
theorem Rdr.small_ok {r : Rdr} (h : r.ok) (most : Int) : (r.small most).2.ok ∧ (r.small most).2.s = r.s := by
  have hk := Rdr.num_ok h
  unfold Rdr.small
  split
  · exact ⟨hk.1, hk.2.2.2⟩
  · exact ⟨hk.1, hk.2.2.2⟩
theorem Rdr.int_ok {r : Rdr} (h : r.ok) : r.int.2.ok ∧ r.int.2.s = r.s := ⟨(Rdr.num_ok h).1, (Rdr.num_ok h).2.2.2⟩
theorem Rdr.text_ok {r : Rdr} (h : r.ok) : r.text.2.ok ∧ r.text.2.s = r.s := by
  have hk := Rdr.num_ok h
  unfold Rdr.text
  split
  · exact ⟨hk.1, hk.2.2.2⟩
  · rename_i hc
    refine ⟨⟨hk.1.1, ?_, ?_⟩, hk.2.2.2⟩
    · have := hk.1.2.1; simp only; omega
    · have hb : ¬ r.num.2.bad = true := fun x => hc (.inl x)
      have : ¬ r.num.2.left < r.num.1 := fun x => hc (.inr x)
      unfold Rdr.left at this
      rw [if_neg hb] at this
      simp only; omega
end Go.Proofs.Ytojnooagifhekaa
