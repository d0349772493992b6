/- The facts of an element's type that a copy wants, by one look. -/
import Derived.Test.YtcdnmiaelaombaaGreatLmBM
set_option linter.unusedVariables false
set_option linter.unusedSimpArgs false
set_option linter.unnecessarySimpa false
set_option linter.all false
namespace Go.Lm
def infoB (P : Program) (t size bytes : Nat) : Bool := match P.info? t with
  | some i => (match i.zero with | some z => decide (z.cells.size = size) | none => false) && decide (i.size = size) && decide (i.bytes = bytes)
  | none => false
theorem infoB_spec {P : Program} {t size bytes : Nat} (h : infoB P t size bytes = true) : ∃ i0 z, P.info? t = some i0 ∧ i0.zero = some z ∧ i0.size = size ∧ i0.bytes = bytes ∧ z.cells.size = size := by
  unfold infoB at h
  split at h
  · rename_i i hi
    simp only [Bool.and_eq_true, decide_eq_true_eq] at h
    obtain ⟨⟨h1, h2⟩, h3⟩ := h
    split at h1
    · rename_i z hz
      exact ⟨i, z, hi, hz, h2, h3, by simpa using h1⟩
    · cases h1
  · cases h
end Go.Lm
