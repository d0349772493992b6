/- The library's sort by a function, of a short row. -/
import Derived.Test.YtjcnilaogidhlaaGreatLmAP
import Derived.Test.YtjcnilaogidhlaaGreatLmBJ
import Derived.Test.YtjcnilaogidhlaaGreatLmBL
set_option linter.unusedVariables false
set_option linter.unusedSimpArgs false
set_option linter.unnecessarySimpa false
set_option linter.all false
namespace Go.Proofs.YtjcnilaogidhlaaGreat.K
open Go Go.Lm
set_option linter.unusedSimpArgs false
theorem swap_two (A B : List SVal) (y x : SVal) : (((A ++ y :: x :: B).set (A.length + 1) y).set A.length x) = A ++ x :: y :: B := by
  rw [List.set_append_right _ _ (by omega), List.set_append_right _ _ (by omega)]
  simp
theorem get_fst (A B : List SVal) (y x : SVal) : (A ++ y :: x :: B)[A.length]? = some y := by simp
theorem get_snd (A B : List SVal) (y x : SVal) : (A ++ y :: x :: B)[A.length + 1]? = some x := by rw [List.getElem?_append_right (by omega)]; simp
theorem get_set (A B : List SVal) (y x : SVal) : ((A ++ y :: x :: B).set (A.length + 1) y)[A.length]? = some y := by
  rw [List.set_append_right _ _ (by omega)]; simp
theorem sort_take {r : Int → Int} {l : List Int} {i : Nat} (hi : i < l.length) : sortR r (l.take (i + 1)) = insR r l[i] (sortR r (l.take i)) := by
  rw [List.take_succ_eq_append_getElem hi, sortR, List.foldl_append]; rfl
theorem sInsS : Ev fun k => ∀ (l : List Int) (f : SVal) (c : Int → Int → Int) (r : Int → Int), l.length ≤ 20 → (∀ x ∈ l, ∀ y ∈ l, callV H (T k) f [int x, int y] = some (int (c x y)) ∧ (c x y < 0 ↔ r x < r y)) →
    T (k + 1) 125 [.sl 1 true false (l.map (SVal.int .i64)), int 0, int l.length, f] = some { r := .tup [], outs := [.sl 1 true false ((sortR r l).map (SVal.int .i64))] } := by
  refine (Ev.ge 1000).mono fun k hk l f c r hl hf => ?_
  rw [t125]; unfold R125
  have w1 : IntKind.i64.wrap 1 = 1 := by decide
  simp only [sBin_add, Int.zero_add, w1, Option.bind_some]
  rcases l with _ | ⟨a, l'⟩
  · obtain ⟨k', rfl⟩ : ∃ j, k = j + 1 := ⟨k - 1, by omega⟩
    simp [loopN, sortR]
  · generalize hL : a :: l' = l at *
    have h0 : l = sortR r (l.take 1) ++ l.drop 1 := by rw [← hL]; rfl
    have main : ∀ i : Nat, 1 ≤ i → i ≤ l.length → ∀ (d : List Int), d = sortR r (l.take i) ++ l.drop i → True := fun _ _ _ _ _ => trivial
    refine (loop_wf (fun q : Nat × List Int => ⟨[.sl 1 true false (q.2.map (SVal.int .i64)), int 0, int l.length, f, int q.1], [], false⟩) (fun _ => (some { r := .tup [], outs := [.sl 1 true false ((sortR r l).map (SVal.int .i64))] } : Option Res)) (fun q => l.length - q.1) (fun q => 1 ≤ q.1 ∧ q.1 ≤ l.length ∧ q.2 = sortR r (l.take q.1) ++ l.drop q.1) ?_ k (1, l) ⟨Nat.le_refl _, by rw [← hL]; simp, h0⟩ (by simp only; omega))
    rintro ⟨i, d⟩ ⟨hi1, hi2, hd⟩ next hnx
    simp only at hi1 hi2 hd hnx ⊢
    by_cases hi : i < l.length
    · have hx : l[i] ∈ l := List.getElem_mem hi
      have hlen : (sortR r (l.take i)).length = i := by rw [(sort_perm _).length_eq, List.length_take]; omega
      rw [List.drop_eq_getElem_cons hi] at hd
      have hsub : ∀ y ∈ sortR r (l.take i), y ∈ l := fun y hy => List.mem_of_mem_take ((sort_perm _).mem_iff.1 hy)
      generalize hxx : l[i] = x at *
      simp [hi]
      refine loop_wf (fun q : List Int × List Int × List Int × Nat => ⟨[.sl 1 true false (q.1.map (SVal.int .i64)), int 0, int l.length, f, int i, int q.2.2.2], [], false⟩) (fun _ => (some { r := .tup [], outs := [.sl 1 true false ((sortR r l).map (SVal.int .i64))] } : Option Res)) (fun q => q.2.2.2) (fun q => q.1 = q.2.1 ++ x :: q.2.2.1 ∧ q.2.1.length = q.2.2.2 ∧ q.2.2.2 ≤ 20 ∧ Ord r q.2.1 ∧ (∀ y ∈ q.2.1, y ∈ l) ∧ insR r x q.2.1 ++ q.2.2.1 = sortR r (l.take (i + 1)) ++ l.drop (i + 1)) ?_ k (d, sortR r (l.take i), l.drop (i + 1), i) ⟨hd, hlen, by simp only; omega, sort_ord _, hsub, by rw [sort_take hi, hxx]⟩ (by simp only; omega)
      rintro ⟨d', p, s, j⟩ ⟨q1, q2, q3, q4, q5, q6⟩ next' hnx'
      simp only at q1 q2 q3 q4 q5 q6 hnx' ⊢
      have hw : IntKind.i64.wrap ((i : Int) + 1) = ((i + 1 : Nat) : Int) := wrap1 (by omega)
      have out : insR r x p = p ++ [x] → next ⟨[.sl 1 true false (d'.map (SVal.int .i64)), int 0, int l.length, f, int ((i + 1 : Nat) : Int)], [], false⟩ = (some { r := .tup [], outs := [.sl 1 true false ((sortR r l).map (SVal.int .i64))] } : Option Res) := fun e =>
        hnx (i + 1, d') ⟨by omega, by omega, by rw [q1, ← q6, e]; simp⟩ (by simp only; omega)
      rcases List.eq_nil_or_concat p with rfl | ⟨p', y, rfl⟩
      · have hj : j = 0 := by simpa using q2.symm
        subst hj
        have o := out rfl
        simp [hw]
        simpa using o
      · simp only [List.concat_eq_append] at q1 q2 q4 q5 q6 out
        have hj : j = p'.length + 1 := by simpa using q2.symm
        have hy : y ∈ l := q5 y (by simp)
        obtain ⟨c1, c2⟩ := hf x hx y hy
        have wj : IntKind.i64.wrap ((j : Int) - 1) = (p'.length : Int) := by rw [wrapS (by omega) (by omega)]; omega
        have hj0 : 0 < j := by omega
        have el : d'.map (SVal.int .i64) = (p'.map (SVal.int .i64)) ++ int y :: int x :: s.map (SVal.int .i64) := by rw [q1]; simp
        have hA : (p'.map (SVal.int .i64)).length = p'.length := by simp
        have g1 : ((p'.map (SVal.int .i64)) ++ int y :: int x :: s.map (SVal.int .i64))[j]? = some (int x) := by rw [hj, ← hA]; exact get_snd _ _ _ _
        have g0 : ((p'.map (SVal.int .i64)) ++ int y :: int x :: s.map (SVal.int .i64))[p'.length]? = some (int y) := by rw [← hA]; exact get_fst _ _ _ _
        have g2 : (((p'.map (SVal.int .i64)) ++ int y :: int x :: s.map (SVal.int .i64)).set j (int y))[p'.length]? = some (int y) := by rw [hj, ← hA]; exact get_set _ _ _ _
        have g3 : (((p'.map (SVal.int .i64)) ++ int y :: int x :: s.map (SVal.int .i64)).set j (int y)).set p'.length (int x) = (p' ++ x :: y :: s).map (SVal.int .i64) := by rw [hj, ← hA, swap_two]; simp
        have hl1 : ((p'.map (SVal.int .i64)) ++ int y :: int x :: s.map (SVal.int .i64)).length = p'.length + s.length + 2 := by simp; omega
        generalize hD : (p'.map (SVal.int .i64)) ++ int y :: int x :: s.map (SVal.int .i64) = D at *
        have b1 : j < p'.length + s.length + 2 := by omega
        have b0 : p'.length < p'.length + s.length + 2 := by omega
        have hl2 : (D.set j (int y)).length = p'.length + s.length + 2 := by rw [List.length_set, hl1]
        have g1' : ∀ h : j < D.length, D[j]'h = int x := fun h => (List.getElem?_eq_some_iff.1 g1).2
        have g0' : ∀ h : p'.length < D.length, D[p'.length]'h = int y := fun h => (List.getElem?_eq_some_iff.1 g0).2
        have g2' : ∀ h : p'.length < (D.set j (int y)).length, (D.set j (int y))[p'.length]'h = int y := fun h => (List.getElem?_eq_some_iff.1 g2).2
        rw [el]
        by_cases hc : c x y < 0
        · have hr := c2.1 hc
          have hn := hnx' (p' ++ x :: y :: s, p', y :: s, p'.length) ⟨rfl, rfl, by show p'.length ≤ 20; omega, (List.pairwise_append.1 q4).1, fun z hz => q5 z (List.mem_append_left _ hz), by show insR r x p' ++ (y :: s) = _; rw [← q6, ins_back hr]; simp⟩ (by show p'.length < j; omega)
          simp only at hn
          simp [hj0, hl1, hl2, b1, b0, g1', wj, g0', c1, hc, g2', g3]
          simpa using hn
        · have hr : ¬ r x < r y := fun h => hc (c2.2 h)
          have o := out (ins_stop q4 hr)
          rw [el] at o
          simp [hj0, hl1, b1, b0, g1', wj, g0', c1, hc, hw]
          simpa using o
    · have hie : i = l.length := by omega
      rw [hie] at hd
      rw [List.take_length, List.drop_length, List.append_nil] at hd
      simp [hi, hd]
theorem sStab : Ev fun k => ∀ (l : List Int) (f : SVal) (c : Int → Int → Int) (r : Int → Int), l.length ≤ 19 → (∀ x ∈ l, ∀ y ∈ l, callV H (T k) f [int x, int y] = some (int (c x y)) ∧ (c x y < 0 ↔ r x < r y)) →
    T (k + 2) 83 [.sl 1 true false (l.map (SVal.int .i64)), int l.length, f] = some { r := .tup [], outs := [.sl 1 true false ((sortR r l).map (SVal.int .i64))] } := by
  refine sInsS.mono fun k h l f c r hl hf => ?_
  have e := h l f c r (by omega) hf
  have n1 : ¬ (20 ≤ (l.length : Int)) := by omega
  have n2 : ¬ (20 < (l.length : Int)) := by omega
  have n3 : ¬ 20 ≤ l.length := by omega
  have n4 : ¬ 20 < l.length := by omega
  rw [t83]; unfold R83
  simp [loopN, n1, n2, n3, n4, e]
theorem sSortS : Ev fun k => ∀ (l : List Int) (f : SVal) (c : Int → Int → Int) (r : Int → Int), l.length ≤ 19 → (∀ x ∈ l, ∀ y ∈ l, callV H (T k) f [int x, int y] = some (int (c x y)) ∧ (c x y < 0 ↔ r x < r y)) →
    T (k + 3) 46 [.sl 1 true false (l.map (SVal.int .i64)), f] = some { r := .tup [], outs := [.sl 1 true false ((sortR r l).map (SVal.int .i64))] } := by
  refine sStab.mono fun k h l f c r hl hf => ?_
  have e := h l f c r (by omega) hf
  rw [t46]; unfold R46
  simp [e]
end Go.Proofs.YtjcnilaogidhlaaGreat.K
