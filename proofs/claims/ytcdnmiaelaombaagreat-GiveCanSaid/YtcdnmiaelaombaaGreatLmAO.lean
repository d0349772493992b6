/- What the program's functions over lists of numbers tell. -/
import Derived.Test.YtcdnmiaelaombaaGreatLmAD
import Derived.Test.YtcdnmiaelaombaaGreatLmAN
set_option linter.unusedVariables false
set_option linter.unusedSimpArgs false
set_option linter.unnecessarySimpa false
set_option linter.all false
namespace Go.Proofs.YtcdnmiaelaombaaGreat.K
open Go Go.Lm
set_option linter.unusedSimpArgs false
theorem sPlace : Ev fun k => ∀ (l : List Int) (n : Int), l.length ≤ 400 → T k 61 [encI l, int n] = ok (int (plF n l 0)) := by
  refine Ev.pure 1000 fun k hk l n hl => ?_
  rw [t61]; unfold R61; simp only [weak_I]
  refine for_list l (fun i _ => ⟨[encI l, int n, int i], [], false⟩) (fun r i _ => ok (int (plF n r i))) (fun _ _ => True) (by omega) ?_ ?_ k () (by omega) trivial
  · intro s next _; simp [plF]
  · intro i s x r next hi hx _ _ hw hn
    simp [idx_I hi, hx, hi, hw, plF]
    split
    · rfl
    · exact hn () trivial
theorem sIn : Ev fun k => ∀ (l : List Int) (n : Int), l.length ≤ 400 → T k 35 [encI l, int n] = ok (.bool (decide (n ∈ l))) := by
  refine sPlace.step fun k h l n hl => ?_
  rw [t35]; unfold R35
  simp [h l n hl, plF_ge]
theorem sIndex : Ev fun k => ∀ (l : List Int) (n : Int), l.length ≤ 400 → T k 153 [encI l, int n] = ok (int (plF n l 0)) := by
  refine Ev.pure 1000 fun k hk l n hl => ?_
  rw [t153]; unfold R153; simp only [weak_I, sLen_I, Option.bind_some]
  refine for_list l (fun i _ => ⟨[encI l, int n, int l.length, int i], [], false⟩) (fun r i _ => ok (int (plF n r i))) (fun _ _ => True) (by omega) ?_ ?_ k () (by omega) trivial
  · intro s next _; simp [plF]
  · intro i s x r next hi hx _ _ hw hn
    simp [idx_I hi, hx, hi, hw, plF, eq_comm (a := n)]
    split
    · rfl
    · exact hn () trivial
theorem sContains : Ev fun k => ∀ (l : List Int) (n : Int), l.length ≤ 400 → T k 154 [encI l, int n] = ok (.bool (decide (n ∈ l))) := by
  refine sIndex.step fun k h l n hl => ?_
  rw [t154]; unfold R154
  simp [h l n hl, plF_ge]
theorem sCount : Ev fun k => ∀ (l : List Int) (n : Int), l.length ≤ 400 → T k 65 [encI l, int n] = ok (int (cntI n l)) := by
  refine Ev.pure 1000 fun k hk l n hl => ?_
  rw [t65]; unfold R65; simp only [weak_I]
  refine for_list l (fun i (c : Nat) => ⟨[encI l, int n, int c, int i], [], false⟩) (fun r i c => ok (int (c + cntI n r : Nat))) (fun i c => c ≤ i) (by omega) ?_ ?_ k 0 (by omega) (by omega) |>.trans (by simp)
  · intro s next _; simp [cntI]
  · intro i c x r next hi hx _ hI hw hn
    have h2 := wrap1 (i := c) (by omega)
    by_cases h : x = n
    · simp [idx_I hi, hx, hi, hw, h, h2, cntI]
      exact (hn (c + 1) (by omega)).trans (by simp; omega)
    · simp [idx_I hi, hx, hi, hw, h, h2, cntI]
      exact (hn c (by omega)).trans (by simp)
theorem sEqual : Ev fun k => ∀ (a b : List Int), a.length ≤ 400 → T k 97 [encI a, encI b] = ok (.bool (decide (a = b))) := by
  refine Ev.pure 1000 fun k hk a b hl => ?_
  rw [t97]; unfold R97
  by_cases hab : a.length = b.length
  · simp [hab]
    refine for_list a (fun i _ => ⟨[encI a, encI b, int b.length, int i], [], false⟩) (fun r i _ => ok (.bool (decide (r = b.drop i)))) (fun _ _ => True) (by omega) ?_ ?_ k () (by omega) trivial
    · intro s next _; simp [hab]
    · intro i s x r next hi hx _ _ hw hn
      have hb : i < b.length := by omega
      have hd : b.drop i = b[i] :: b.drop (i + 1) := List.drop_eq_getElem_cons hb
      by_cases hxx : x = b[i]
      · simp [idx_I hi, idx_I hb, hx, hi, hb, hw, hd, hxx, -List.getElem_cons_drop]
        exact hn () trivial
      · simp [idx_I hi, idx_I hb, hx, hi, hb, hw, hd, hxx, -List.getElem_cons_drop]
  · have : ¬ a = b := fun e => hab (by rw [e])
    simp [this]; omega
/-- By a function that is handed over. -/
theorem sIndexFunc : Ev fun k => ∀ (l : List Int) (f : SVal) (p : Int → Bool), l.length ≤ 400 → (∀ x ∈ l, callV H (T k) f [int x] = some (.bool (p x))) → T (k + 1) 128 [encI l, f] = ok (int (plP p l 0)) := by
  refine (Ev.ge 1000).mono fun k hk l f p hl hf => ?_
  rw [t128]; unfold R128; simp only [weak_I, sLen_I, Option.bind_some]
  refine for_list l (fun i _ => ⟨[encI l, f, int l.length, int i], [], false⟩) (fun r i _ => ok (int (plP p r i))) (fun _ _ => True) (by omega) ?_ ?_ k () (by omega) trivial
  · intro s next _; simp [plP]
  · intro i s x r next hi hx _ _ hw hn
    have hfx := hf x (hx ▸ List.getElem_mem hi)
    simp [idx_I hi, hx, hi, hw, plP, hfx]
    split
    · rfl
    · exact hn () trivial
theorem sContainsFunc : Ev fun k => ∀ (l : List Int) (f : SVal) (p : Int → Bool), l.length ≤ 400 → (∀ x ∈ l, callV H (T k) f [int x] = some (.bool (p x))) → T (k + 2) 105 [encI l, f] = ok (.bool (l.any p)) := by
  refine sIndexFunc.mono fun k h l f p hl hf => ?_
  rw [t105]; unfold R105
  simp [h l f p hl hf, -List.any_eq_true]
theorem sIndexFuncA : Ev fun k => ∀ (l : List Attr) (f : SVal) (p : Attr → Bool), l.length ≤ 400 → (∀ x ∈ l, callV H (T k) f [encA x] = some (.bool (p x))) → T (k + 1) 129 [encAs l, f] = ok (int (plP p l 0)) := by
  refine (Ev.ge 1000).mono fun k hk l f p hl hf => ?_
  rw [t129]; unfold R129; simp only [weak_As, sLen_As, Option.bind_some]
  refine for_list l (fun i _ => ⟨[encAs l, f, int l.length, int i], [], false⟩) (fun r i _ => ok (int (plP p r i))) (fun _ _ => True) (by omega) ?_ ?_ k () (by omega) trivial
  · intro s next _; simp [plP]
  · intro i s x r next hi hx _ _ hw hn
    have hfx := hf x (hx ▸ List.getElem_mem hi)
    simp [idx_As hi, hx, hi, hw, plP, hfx]
    split
    · rfl
    · exact hn () trivial
end Go.Proofs.YtcdnmiaelaombaaGreat.K
