/- Which popups give way, in plain words. -/
import Derived.Test.YtjcnilaogidhlaaGreatLmAH
set_option linter.unusedVariables false
set_option linter.unusedSimpArgs false
set_option linter.unnecessarySimpa false
set_option linter.all false
namespace Go.Lm
open List
def kindP (v : View) (n : Int) : Int := (getA 6 (nd v.tree n).attrs).getD 0
def stkL (v : View) : List Int := ((nodesP v.popups).filter fun n => decide (kindP v n = 1)) ++ ((nodesP v.popups).filter fun n => decide (kindP v n = 2))
def overP (v : View) (x : Shown) (n : Int) : Bool := (decide (¬ n = x.node) && decide (n ∈ fups v.tree x.node)) || (isN v.tree x.invoker && decide (n ∈ fups v.tree x.invoker))
def overL (v : View) (x : Shown) : Int := fstP (overP v x) (stkL v).reverse
def behL (l : List Int) (n : Int) : List Int := l.reverse.takeWhile fun k => decide (¬ k = n)
def befL' (v : View) (x : Shown) : List Int :=
  if kindP v x.node = 1 ∨ kindP v x.node = 2 then (behL (stkL v) (overL v x)).filter fun k => !(decide (k = x.node) || (decide (kindP v x.node = 2) && !decide (kindP v k = 2))) else []
def abvL (v : View) (n : Int) : List Int := if n ∈ stkL v then behL (stkL v) n else []
def litL (v : View) (n : Int) : List Int := behL (stkL v) (fstP (fun k => decide (k ∈ fups v.tree n)) (stkL v).reverse)
theorem stk_mem {v : View} {n : Int} : n ∈ stkL v ↔ n ∈ nodesP v.popups ∧ (kindP v n = 1 ∨ kindP v n = 2) := by
  simp only [stkL, List.mem_append, List.mem_filter, decide_eq_true_eq]
  constructor
  · rintro (⟨h1, h2⟩ | ⟨h1, h2⟩)
    · exact ⟨h1, .inl h2⟩
    · exact ⟨h1, .inr h2⟩
  · rintro ⟨h1, h2 | h2⟩
    · exact .inl ⟨h1, h2⟩
    · exact .inr ⟨h1, h2⟩
theorem pops_nodup {v : View} (hv : VOk v) : (nodesP v.popups).Nodup := (List.nodup_append.1 (List.nodup_append.1 hv.once).2.1).2.1
theorem stk_nodup {v : View} (hv : VOk v) : (stkL v).Nodup := by
  have h := pops_nodup hv
  unfold stkL
  rw [List.nodup_append]
  refine ⟨h.filter _, h.filter _, fun a ha b hb e => ?_⟩
  have h1 := (List.mem_filter.1 ha).2
  have h2 := (List.mem_filter.1 hb).2
  simp only [decide_eq_true_eq] at h1 h2
  rw [e] at h1; omega
theorem stk_len (v : View) : (stkL v).length ≤ 2 * v.popups.length := by
  unfold stkL
  rw [List.length_append]
  have h1 := List.length_filter_le (fun n => decide (kindP v n = 1)) (nodesP v.popups)
  have h2 := List.length_filter_le (fun n => decide (kindP v n = 2)) (nodesP v.popups)
  have h3 : (nodesP v.popups).length = v.popups.length := by simp [nodesP]
  omega
theorem tw_mem {p : Int → Bool} : ∀ {l : List Int} {k : Int}, k ∈ l.takeWhile p → p k = true
  | [], _, h => by simp at h
  | x :: l, k, h => by
    rw [List.takeWhile_cons] at h
    split at h
    · rename_i hx
      rcases List.mem_cons.1 h with rfl | h
      · exact hx
      · exact tw_mem h
    · simp at h
theorem tw_all {p : Int → Bool} : ∀ {l : List Int}, (∀ k ∈ l, p k = true) → l.takeWhile p = l
  | [], _ => rfl
  | x :: l, h => by rw [List.takeWhile_cons, if_pos (h x (by simp)), tw_all fun k hk => h k (by simp [hk])]
theorem beh_len (l : List Int) (n : Int) : (behL l n).length ≤ l.length := by
  unfold behL
  have := (List.takeWhile_sublist (l := l.reverse) (fun k => decide (¬ k = n))).length_le
  simpa using this
theorem beh_sub {l : List Int} {n k : Int} (h : k ∈ behL l n) : k ∈ l := by
  have := (List.takeWhile_sublist (l := l.reverse) (fun k => decide (¬ k = n))).subset h
  simpa using this
theorem beh_ne {l : List Int} {n k : Int} (h : k ∈ behL l n) : ¬ k = n := by
  have := tw_mem h
  simpa using this
theorem beh_nodup {l : List Int} (hn : l.Nodup) (n : Int) : (behL l n).Nodup := ((List.reverse_perm l).nodup_iff.2 hn).sublist (List.takeWhile_sublist _)
theorem beh_not {l : List Int} {n : Int} (h : n ∉ l) : behL l n = l.reverse := by
  unfold behL
  refine tw_all fun k hk => ?_
  have : ¬ k = n := fun e => h (by rw [← e]; simpa using hk)
  simpa using this
theorem beh_split {a b : List Int} {n : Int} (h : n ∉ b) : behL (a ++ n :: b) n = b.reverse := by
  unfold behL
  rw [List.reverse_append, List.reverse_cons, List.append_assoc, List.takeWhile_append_of_pos, List.singleton_append, List.takeWhile_cons]
  · simp
  · intro k hk
    have : ¬ k = n := fun e => h (by rw [← e]; simpa using hk)
    simpa using this
/-- The last one for which something is so. -/
theorem last_spec {p : Int → Bool} (l : List Int) (hm : (-1 : Int) ∉ l) : (fstP p l.reverse = -1 ∧ ∀ k ∈ l, p k = false) ∨
    (∃ a b, l = a ++ fstP p l.reverse :: b ∧ p (fstP p l.reverse) = true ∧ ∀ k ∈ b, p k = false) := by
  have key : ∀ r : List Int, (-1 : Int) ∉ r → (fstP p r = -1 ∧ ∀ k ∈ r, p k = false) ∨ (∃ a b, r = b ++ fstP p r :: a ∧ p (fstP p r) = true ∧ ∀ k ∈ b, p k = false) := by
    intro r
    induction r with
    | nil => intro _; exact .inl ⟨rfl, by simp⟩
    | cons x r ih =>
      intro hr
      simp only [List.mem_cons, not_or] at hr
      by_cases hx : p x = true
      · right
        refine ⟨r, [], ?_, ?_, by simp⟩
        · simp [fstP, hx]
        · simp [fstP, hx]
      · have e : fstP p (x :: r) = fstP p r := by simp [fstP, hx]
        rw [e]
        rcases ih hr.2 with ⟨h1, h2⟩ | ⟨a, b, h1, h2, h3⟩
        · refine .inl ⟨h1, fun k hk => ?_⟩
          rcases List.mem_cons.1 hk with rfl | hk
          · simpa using hx
          · exact h2 k hk
        · right
          refine ⟨a, x :: b, by rw [List.cons_append, ← h1], h2, fun k hk => ?_⟩
          rcases List.mem_cons.1 hk with rfl | hk
          · simpa using hx
          · exact h3 k hk
  rcases key l.reverse (by simpa using hm) with ⟨h1, h2⟩ | ⟨a, b, h1, h2, h3⟩
  · exact .inl ⟨h1, fun k hk => h2 k (by simpa using hk)⟩
  · right
    refine ⟨a.reverse, b.reverse, ?_, h2, fun k hk => h3 k (by simpa using hk)⟩
    have := congrArg List.reverse h1
    rw [List.reverse_reverse] at this
    simpa using this
theorem stk_ne {v : View} (hv : VOk v) : (-1 : Int) ∉ stkL v := fun hm => by
  obtain ⟨h1, _⟩ := stk_mem.1 hm
  obtain ⟨x, hx, e⟩ := List.mem_map.1 h1
  have := hv.po x hx
  simp only [popOk, pop, isEl, Bool.and_eq_true] at this
  have := con_is this.1.1.1
  rw [e] at this
  exact isN_ne this rfl
/-- Who stands behind the one that somebody stands over: not above it. -/
theorem behind_over {v : View} (hv : VOk v) {p : Int → Bool} {k : Int} (hk : k ∈ behL (stkL v) (fstP p (stkL v).reverse)) : p k = false := by
  rcases last_spec (p := p) (stkL v) (stk_ne hv) with ⟨_, h2⟩ | ⟨a, b, h1, h2, h3⟩
  · exact h2 k (beh_sub hk)
  · have hn := stk_nodup hv
    rw [h1] at hn
    have h4 : fstP p (stkL v).reverse ∉ b := (List.nodup_cons.1 (List.nodup_append.1 hn).2.1).1
    have h5 := beh_split (a := a) h4
    rw [← h1] at h5
    rw [h5] at hk
    exact h3 k (by simpa using hk)
/-- The place of one in what is behind. -/
theorem pl_app {n : Int} : ∀ {a : List Int} {b : List Int} (i : Nat), n ∉ a → plF n (a ++ n :: b) i = ((i + a.length : Nat) : Int)
  | [], b, i, _ => by simp [plF]
  | x :: a, b, i, h => by
    simp only [List.mem_cons, not_or] at h
    have : ¬ x = n := fun e => h.1 e.symm
    simp only [List.cons_append, plF, this, if_false]
    rw [pl_app (i + 1) h.2]
    simp only [List.length_cons]; omega
theorem pl_none {n : Int} : ∀ {l : List Int} (i : Nat), n ∉ l → plF n l i = -1
  | [], _, _ => rfl
  | x :: l, i, h => by
    simp only [List.mem_cons, not_or] at h
    have : ¬ x = n := fun e => h.1 e.symm
    simp only [plF, this, if_false]
    exact pl_none (i + 1) h.2
/-- Behind one: those of a higher place. -/
theorem beh_take {l : List Int} (hn : l.Nodup) (n : Int) : behL l n = (l.drop (plF n l 0 + 1).toNat).reverse := by
  by_cases hm : n ∈ l
  · obtain ⟨a, b, e⟩ := List.append_of_mem hm
    subst e
    have h1 := List.nodup_append.1 hn
    have h2 := (List.nodup_cons.1 h1.2.1).1
    have h3 : n ∉ a := fun h => h1.2.2 n h n (by simp) rfl
    rw [beh_split h2, pl_app 0 h3]
    have e2 : (((0 + a.length : Nat) : Int) + 1).toNat = a.length + 1 := by omega
    rw [e2]
    congr 1
    rw [show a ++ n :: b = (a ++ [n]) ++ b by simp, List.drop_left' (by simp)]
  · rw [beh_not hm, pl_none 0 hm]; simp
theorem beh_mem {l : List Int} (hn : l.Nodup) {n : Int} {i : Nat} (hi : i < l.length) : l[i] ∈ behL l n ↔ plF n l 0 < i := by
  rw [beh_take hn, List.mem_reverse, List.mem_drop_iff_getElem]
  have h0 : -1 ≤ plF n l 0 := by
    by_cases hm : n ∈ l
    · have := (plF_ge n l 0).2 hm; omega
    · rw [pl_none 0 hm]; exact Int.le_refl _
  constructor
  · rintro ⟨j, hj, e⟩
    have h1 := plF_at hn (show (plF n l 0 + 1).toNat + j < l.length by omega)
    rw [e, plF_at hn hi] at h1
    omega
  · intro h
    refine ⟨i - (plF n l 0 + 1).toNat, by omega, ?_⟩
    congr 1
    omega
end Go.Lm
