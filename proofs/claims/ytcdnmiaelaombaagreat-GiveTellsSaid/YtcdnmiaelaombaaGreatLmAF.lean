/- Ancestors, in plain words. -/
import Derived.Test.YtcdnmiaelaombaaGreatLmAE
set_option linter.unusedVariables false
set_option linter.unusedSimpArgs false
set_option linter.unnecessarySimpa false
set_option linter.all false
namespace Go.Lm
theorem ends_mono {t : List Nod} : ∀ (d : Nat) (n : Int), endsF t d n = true → endsF t (d + 1) n = true
  | 0, n, h => by simp [endsF] at h
  | d + 1, n, h => by
    rw [endsF] at h ⊢
    split
    · rfl
    · rename_i hn
      rw [if_neg hn] at h
      exact ends_mono d _ h
theorem walk_stop {t : List Nod} : ∀ (d : Nat) (n : Int), endsF t d n = true → walkF t d n = walkF t (d + 1) n
  | 0, n, h => by simp [endsF] at h
  | d + 1, n, h => by
    rw [endsF] at h
    rw [walkF, walkF]
    split
    · rfl
    · rename_i hn
      rw [if_neg hn] at h
      rw [walk_stop d _ h]
/-- Whom one comes to from a node, and it. -/
def ups (t : List Nod) (n : Int) : List Int := walkF t (t.length + 1) n
structure May (t : List Nod) : Prop where
  sm : Sm t
  may : mayT t = true
theorem May.ok {t : List Nod} (h : May t) : allOk t = true := by
  have := h.may; simp only [mayT, Bool.and_eq_true] at this; exact this.1.2
theorem May.node {t : List Nod} (h : May t) {n : Int} (hn : isN t n = true) : nodeOk t n = true := allOk_at h.ok hn
theorem May.ends {t : List Nod} (h : May t) {n : Int} (hn : isN t n = true) : endsF t (t.length + 1) n = true := by
  have := h.may
  simp only [mayT, Bool.and_eq_true] at this
  obtain ⟨h1, h2⟩ := isN_iff.1 hn
  obtain ⟨i, rfl⟩ := Int.eq_ofNat_of_zero_le h1
  exact allR_iff.1 this.2 i (by omega) (by omega)
theorem ups_nil (t : List Nod) : ups t (-1) = [] := by simp [ups, walkF]
theorem isN_ne {t : List Nod} {n : Int} (h : isN t n = true) : n ≠ -1 := by have := isN_iff.1 h; omega
theorem ups_cons {t : List Nod} (h : May t) {n : Int} (hn : isN t n = true) : ups t n = n :: ups t (upN t n) := by
  have he := h.ends hn
  rw [endsF, if_neg (isN_ne hn)] at he
  unfold ups
  rw [walkF, if_neg (isN_ne hn), walk_stop _ _ he]
theorem ups_len (t : List Nod) (n : Int) : (ups t n).length ≤ t.length + 1 := walk_len _ _
theorem May.up {t : List Nod} (h : May t) {n : Int} (hn : isN t n = true) : upN t n = -1 ∨ isN t (upN t n) = true := nodeOk_up (h.node hn) hn
theorem ups_isN {t : List Nod} (h : May t) : ∀ (d : Nat) (n : Int), (n = -1 ∨ isN t n = true) → ∀ m ∈ walkF t d n, isN t m = true
  | 0, _, _, m, hm => by simp [walkF] at hm
  | d + 1, n, hn, m, hm => by
    rw [walkF] at hm
    split at hm
    · simp at hm
    · rename_i h1
      have hn' : isN t n = true := hn.resolve_left h1
      rcases List.mem_cons.1 hm with rfl | hm
      · exact hn'
      · exact ups_isN h d _ (h.up hn') m hm
/-- Up to the node that has no parent. -/
def parsO (t : List Nod) : List Int → List Int
  | [] => []
  | n :: r => if (nd t n).kind = 3 then [n] else n :: parsO t r
def restO (t : List Nod) : List Int → List Int
  | [] => []
  | n :: r => if (nd t n).kind = 3 then r else restO t r
theorem pars_rest (t : List Nod) : ∀ l, l = parsO t l ++ restO t l
  | [] => rfl
  | n :: r => by
    simp only [parsO, restO]
    split
    · simp
    · simp [← pars_rest t r]
theorem pars_len (t : List Nod) : ∀ l, (parsO t l).length ≤ l.length
  | [] => by simp [parsO]
  | n :: r => by
    simp only [parsO]
    split
    · simp
    · have := pars_len t r; simp; exact this
def topN (t : List Nod) (n : Int) : Int := (parsO t (ups t n)).getLastD (-1)
theorem kind3 {t : List Nod} (h : May t) {n : Int} (hn : isN t n = true) (h3 : (nd t n).kind = 3) : (nd t n).parent = -1 := by
  have := h.node hn
  simp only [nodeOk, shadOk, Bool.and_eq_true] at this
  have h2 := this.2
  simp [h3] at h2
  exact h2.1.1.1.2
theorem kindn3 {t : List Nod} (h : May t) {n : Int} (hn : isN t n = true) (h3 : ¬ (nd t n).kind = 3) : (nd t n).host = -1 := by
  have := h.node hn
  simp only [nodeOk, shadOk, Bool.and_eq_true] at this
  have h2 := this.2
  simp [h3] at h2
  exact h2.1
theorem getLastD_cons (a b : Int) : ∀ (l : List Int), l ≠ [] → (a :: l).getLastD b = l.getLastD b
  | [], h => absurd rfl h
  | [_], _ => rfl
  | _ :: y :: r, _ => by simp [List.getLastD]
theorem pars_ne {t : List Nod} (h : May t) {n : Int} (hn : isN t n = true) : parsO t (ups t n) ≠ [] := by
  rw [ups_cons h hn, parsO]; split <;> simp
/-- The node above that has no parent: it is one, and behind it come its host's. -/
theorem top_spec {t : List Nod} (h : May t) : ∀ (d : Nat) (n : Int), (ups t n).length ≤ d → isN t n = true →
    isN t (topN t n) = true ∧ ((nd t (topN t n)).host = -1 ∨ isN t (nd t (topN t n)).host = true) ∧ restO t (ups t n) = ups t (nd t (topN t n)).host
  | 0, n, hd, hn => by rw [ups_cons h hn] at hd; simp at hd
  | d + 1, n, hd, hn => by
    have hc := ups_cons h hn
    by_cases h3 : (nd t n).kind = 3
    · have ht : topN t n = n := by simp [topN, hc, parsO, h3]
      have hu : upN t n = (nd t n).host := by simp [upN, h3]
      rw [ht, ← hu]
      exact ⟨hn, h.up hn, by simp [hc, restO, h3]⟩
    · rcases h.up hn with hu | hu
      · have ht : topN t n = n := by simp [topN, hc, parsO, h3, hu, ups_nil]
        rw [ht, kindn3 h hn h3]
        exact ⟨hn, .inl rfl, by simp [hc, restO, h3, hu, ups_nil]⟩
      · have ht : topN t n = topN t (upN t n) := by
          simp only [topN, hc, parsO, h3, if_false]
          exact getLastD_cons _ _ _ (pars_ne h hu)
        have ih := top_spec h d (upN t n) (by rw [hc] at hd; simpa using hd) hu
        rw [ht]
        refine ⟨ih.1, ih.2.1, ?_⟩
        rw [← ih.2.2, hc, restO, if_neg h3]
theorem host_top {t : List Nod} (h : May t) {n : Int} (hn : isN t n = true) : isN t (topN t n) = true ∧ ((nd t (topN t n)).host = -1 ∨ isN t (nd t (topN t n)).host = true) ∧ ups t n = parsO t (ups t n) ++ ups t (nd t (topN t n)).host := by
  obtain ⟨a, b, c⟩ := top_spec h _ n (Nat.le_refl _) hn
  refine ⟨a, b, ?_⟩
  rw [← c]; exact pars_rest t _
def mayN (t : List Nod) (n : Int) : Bool := mayT t && isN t n
def hostN (t : List Nod) (n : Int) : Int := if mayN t n = true then (nd t (topN t n)).host else -1
def shUp (t : List Nod) (n : Int) : List Int := if mayN t n = true then ups t n else []
def conN (t : List Nod) (n : Int) : Bool := decide ((0 : Int) ∈ shUp t n)
def hasA (x : Nod) (name : Int) : Bool := x.attrs.any fun a => decide (a.name = name)
def getA (name : Int) : List Attr → Option Int
  | [] => none
  | a :: r => if a.name = name then some a.value else getA name r
theorem plP_find {β : Type} {p : β → Bool} : ∀ {l : List β} {i : Nat}, l.any p = true → ∃ (j : Nat) (h : j < l.length), plP p l i = ((i + j : Nat) : Int) ∧ p l[j] = true
  | [], _, h => by simp at h
  | x :: r, i, h => by
    by_cases hx : p x = true
    · exact ⟨0, by simp, by simp [plP, hx], by simpa using hx⟩
    · simp only [List.any_cons, hx, Bool.false_or] at h
      obtain ⟨j, hj, e, hp⟩ := plP_find (i := i + 1) h
      exact ⟨j + 1, by simpa using hj, by simp only [plP, hx]; rw [if_neg (by simp), e]; congr 1; omega, by simpa using hp⟩
theorem plP_none {β : Type} {p : β → Bool} {l : List β} {i : Nat} (h : l.any p = false) : plP p l i < 0 := by
  have h1 := plP_ge p l i
  rw [h] at h1
  have h2 : ¬ 0 ≤ plP p l i := fun h => by simpa using h1.1 h
  omega
def tupG : Option Int → SVal
  | some v => .tup [int v, .bool true]
  | none => .tup [int 0, .bool false]
theorem getA_has (name : Int) : ∀ (l : List Attr), (getA name l).isSome = l.any fun a => decide (a.name = name)
  | [] => rfl
  | a :: r => by
    simp only [getA, List.any_cons]
    by_cases h : a.name = name
    · simp [h]
    · simp [h, getA_has name r]
theorem getA_at (name : Int) : ∀ (l : List Attr) (i j : Nat) (hj : j < l.length), plP (fun a => decide (a.name = name)) l i = ((i + j : Nat) : Int) → l[j].name = name → getA name l = some l[j].value
  | [], i, j, hj, _, _ => by simp at hj
  | a :: r, i, 0, hj, _, hn => by
    have hn' : a.name = name := hn
    simp [getA, hn']
  | a :: r, i, j + 1, hj, e, hn => by
    simp only [plP, decide_eq_true_eq] at e
    by_cases h : a.name = name
    · rw [if_pos h] at e; omega
    · rw [if_neg h] at e
      simp only [getA, if_neg h]
      exact getA_at name r (i + 1) j (by simpa using hj) (by rw [e]; congr 1; omega) hn
end Go.Lm
namespace Go.Lm
@[simp] theorem fold_I2 (l r : List Int) : SVal.sl 1 false false (l.map (SVal.int .i64) ++ r.map (SVal.int .i64)) = encI (l ++ r) := by simp [encI]
@[simp] theorem fold_P2 (l r : List Shown) : SVal.sl 2 false false (l.map encS ++ r.map encS) = encP (l ++ r) := by rw [← List.map_append]; rfl
end Go.Lm
