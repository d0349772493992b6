/- Some answers that the document gives, by the kernel, from some fuel on. -/
import Derived.Test.YtcdnmiaelaombaaGreatLmAN
import Derived.KernelRfl
set_option linter.unusedVariables false
set_option linter.unusedSimpArgs false
set_option linter.unnecessarySimpa false
set_option linter.all false
namespace Go.Proofs.YtcdnmiaelaombaaGreat.K
open Go Go.Lm
set_option maxRecDepth 100000
theorem liveK14 (k : Nat) : TR (k + 60) 9 [] = ok (.bool true) := by kernel_rfl
theorem sLive14 : Ev fun k => T k 9 [] = ok (.bool true) := ⟨60, fun k hk => by
  obtain ⟨j, rfl⟩ : ∃ j, k = j + 60 := ⟨k - 60, by omega⟩
  rw [← TR_eq]; exact liveK14 j⟩
end Go.Proofs.YtcdnmiaelaombaaGreat.K
