/- The Reader of the package vint, more: Left, End, Text, Read. -/
import Derived.Test.YtdihbinbkneejaaGOriginTells18
namespace Go.Proofs.Ytdihbinbkneejaa
section
open Go.RowKit
set_option maxRecDepth 100000
set_option linter.unusedVariables false
set_option linter.unusedSimpArgs false
def QuietFrom (w w' : World) : Prop := ∃ n, w' = w.drewN n
theorem QuietFrom.but {g : Nat} {w w' : World} (h : QuietFrom w w') : But g w w' := by obtain ⟨n, rfl⟩ := h; exact But.drewN g n w
theorem QuietFrom.rdr {T : TypeId} {g : Nat} {r : Rdr} {w w' : World} (h : QuietFrom w w') (k : RdrAt T w g r) : RdrAt T w' g r := by obtain ⟨n, rfl⟩ := h; exact k
theorem QuietFrom.below {B : Nat} {w w' : World} (h : QuietFrom w w') : Below B w w' := by obtain ⟨n, rfl⟩ := h; exact ⟨rfl, rfl, rfl, Nat.le_refl _, fun _ _ => rfl⟩
theorem Rdr.small_ok {r : Rdr} (h : r.ok) (most : Int) : (r.small most).2.ok ∧ (r.small most).2.s = r.s := by
  have hk := Rdr.num_ok h
  unfold Rdr.small
  split
  · exact ⟨hk.1, hk.2.2.2⟩
  · exact ⟨hk.1, hk.2.2.2⟩
theorem Rdr.int_ok {r : Rdr} (h : r.ok) : r.int.2.ok ∧ r.int.2.s = r.s := ⟨(Rdr.num_ok h).1, (Rdr.num_ok h).2.2.2⟩
theorem Rdr.text_ok {r : Rdr} (h : r.ok) : r.text.2.ok ∧ r.text.2.s = r.s := by
  have hk := Rdr.num_ok h
  unfold Rdr.text
  split
  · exact ⟨hk.1, hk.2.2.2⟩
  · rename_i hc
    refine ⟨⟨hk.1.1, ?_, ?_⟩, hk.2.2.2⟩
    · have := hk.1.2.1; simp only; omega
    · have hb : ¬ r.num.2.bad = true := fun x => hc (.inl x)
      have : ¬ r.num.2.left < r.num.1 := fun x => hc (.inr x)
      unfold Rdr.left at this
      rw [if_neg hb] at this
      simp only; omega
end
end Go.Proofs.Ytdihbinbkneejaa
