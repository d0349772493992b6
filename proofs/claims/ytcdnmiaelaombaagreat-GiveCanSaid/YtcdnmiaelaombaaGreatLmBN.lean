/- Nobody is twice in a row that is in order, if none goes when runs become one. -/
import Derived.Test.YtcdnmiaelaombaaGreatLmBM
import Derived.Lib.SlicesCompact
set_option linter.unusedVariables false
set_option linter.unusedSimpArgs false
set_option linter.unnecessarySimpa false
set_option linter.all false
namespace Go.Lm
theorem sortI_sort : ∀ l : List Int, (sortI l).Pairwise (· ≤ ·) := fun l => by
  rw [← merge_sortI]
  have := List.pairwise_mergeSort (le := fun x y : Int => decide (x ≤ y)) (fun a b c h1 h2 => by simp at *; omega) (fun a b => by simp; omega) l
  exact this.imp fun h => by simpa using h
theorem filter_all_len {α : Type} {p : α → Bool} {l : List α} : (l.filter p).length = l.length ↔ ∀ x ∈ l, p x = true := by
  rw [← List.filter_eq_self]
  constructor
  · intro h; exact (List.filter_sublist).eq_of_length h
  · intro h; rw [h]
theorem compact_once (l : List Int) : decide ((Lib.compact (sortI l)).length = l.length) = onceI l := by
  rw [Bool.eq_iff_iff, decide_eq_true_eq, onceI_iff, ← (sortI_perm l).nodup_iff, ← (sortI_perm l).length_eq]
  have hs := sortI_sort l
  generalize sortI l = S at hs ⊢
  have e : (Lib.compact S).length = S.length ↔ ∀ j, j < S.length → Lib.keeps S.toArray j = true := by
    unfold Lib.compact Lib.compactUpTo
    rw [List.length_map]
    have := filter_all_len (p := Lib.keeps S.toArray) (l := List.range S.length)
    simp only [List.length_range, List.mem_range] at this
    exact this
  rw [e]
  have hk : ∀ j, j < S.length → (Lib.keeps S.toArray j = true ↔ j = 0 ∨ S[j]! ≠ S[j-1]!) := fun j _ => by simp [Lib.keeps]
  have hg : ∀ j (hj : j < S.length), S[j]! = S[j] := fun j hj => getElem!_pos S j hj
  rw [List.pairwise_iff_getElem] at hs
  constructor
  · intro h
    unfold List.Nodup
    rw [List.pairwise_iff_getElem]
    intro i j hi hj hij
    have h1 := (hk j hj).1 (h j hj)
    rw [hg j hj, hg (j - 1) (by omega)] at h1
    have h2 : S[j - 1] ≠ S[j] := fun e => by rcases h1 with h1 | h1; omega; exact h1 e.symm
    have h3 := hs (j - 1) j (by omega) hj (by omega)
    by_cases e : i = j - 1
    · subst e; exact h2
    · have h4 := hs i (j - 1) hi (by omega) (by omega)
      intro e2; omega
  · intro h j hj
    rw [hk j hj]
    by_cases e : j = 0
    · exact .inl e
    · right
      rw [hg j hj, hg (j - 1) (by omega)]
      unfold List.Nodup at h
      rw [List.pairwise_iff_getElem] at h
      exact fun e2 => h (j - 1) j (by omega) hj (by omega) e2.symm
end Go.Lm
