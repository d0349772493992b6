/- What can be focused, in plain words. -/
import Derived.Test.YtjcnilaogidhlaaGreatLmAH
set_option linter.unusedVariables false
set_option linter.unusedSimpArgs false
set_option linter.unnecessarySimpa false
set_option linter.all false
namespace Go.Lm
open List
def idxA (t : List Nod) (n : Int) : Int := (getA 0 (nd t n).attrs).getD 0
def hasI (t : List Nod) (n : Int) : Bool := hasA (nd t n) 0 || decide ((nd t n).tag = 1) || decide ((nd t n).tag = 4)
def disA (t : List Nod) (n : Int) : Bool := decide ((nd t n).tag = 1) && hasA (nd t n) 1
def delA (t : List Nod) (n : Int) : Bool := !decide ((nd t n).root = -1) && hasA (nd t (nd t n).root) 7
def isA (v : View) (n : Int) : Bool := hasI v.tree n && !disA v.tree n && !delA v.tree n && isR v n && !isI v n
def tabA (v : View) (n : Int) : Bool := isA v n && decide (0 ≤ idxA v.tree n)
def allA (v : View) : List Int := (idxL v.tree).filter (isA v)
theorem tag_kind {t : List Nod} (h : May t) {n : Int} (hn : isN t n = true) (ht : ¬ (nd t n).tag = 0) : (nd t n).kind = 1 := by
  have := (h.f hn).tag
  split at this
  · assumption
  · exact absurd this ht
theorem has_kind {t : List Nod} (h : May t) {n : Int} (hn : isN t n = true) {a : Int} (h7 : ¬ a = 7) (h8 : ¬ a = 8) (ha : hasA (nd t n) a = true) : (nd t n).kind = 1 := by
  have h1 := (h.f hn).atts
  simp only [attsOk, Bool.and_eq_true, List.all_eq_true] at h1
  simp only [hasA, List.any_eq_true, decide_eq_true_eq] at ha
  obtain ⟨x, hx, e⟩ := ha
  have h2 := h1.1 x hx
  simp only [attOk, Bool.and_eq_true, decide_eq_true_eq] at h2
  have h3 := h2.2
  split at h3
  · simp only [Bool.or_eq_true, decide_eq_true_eq] at h3; omega
  · simp only [Bool.and_eq_true, decide_eq_true_eq] at h3; exact h3.1
theorem hasI_kind {t : List Nod} (h : May t) {n : Int} (hn : isN t n = true) (hi : hasI t n = true) : (nd t n).kind = 1 := by
  simp only [hasI, Bool.or_eq_true, decide_eq_true_eq] at hi
  rcases hi with (hi | hi) | hi
  · exact has_kind h hn (by omega) (by omega) hi
  · exact tag_kind h hn (by omega)
  · exact tag_kind h hn (by omega)
theorem isA_kind {v : View} (h : May v.tree) {n : Int} (hn : isN v.tree n = true) (hi : isA v n = true) : (nd v.tree n).kind = 1 := by
  simp only [isA, Bool.and_eq_true] at hi
  exact hasI_kind h hn hi.1.1.1.1
theorem mem_allA {v : View} {n : Int} : n ∈ allA v ↔ isN v.tree n = true ∧ isA v n = true := by
  unfold allA; rw [List.mem_filter, mem_idx]
theorem allA_len (v : View) : (allA v).length ≤ v.tree.length := by
  unfold allA; exact Nat.le_trans (List.length_filter_le _ _) (by rw [idx_len]; exact Nat.le_refl _)
theorem allA_nodup (v : View) : (allA v).Nodup := (idx_nodup _).filter _
/-- What is opened as a dialog: the same tree, the same who is highest. -/
theorem shown_own {v : View} {n k : Int} (h : (dlgR v n false).2 = 0) (hk : ¬ k = n) : ownV (dlgR v n false).1 k = ownV v k := by
  obtain ⟨_, _, _, _, e⟩ := dlgR_ok h
  rw [e]
  simp [ownV, hk]
theorem shown_isA {v : View} (hm : May v.tree) {n k : Int} (h : (dlgR v n false).2 = 0) (hk : isN v.tree k = true) (hb : n ∉ fups v.tree k) : isA (dlgR v n false).1 k = isA v k := by
  obtain ⟨_, _, _, _, e⟩ := dlgR_ok h
  have ht : (dlgR v n false).1.tree = v.tree := by rw [e]; rfl
  have hh : highN (dlgR v n false).1 = highN v := by rw [e]; rfl
  have e1 : isI (dlgR v n false).1 k = isI v k := by simp only [isI, blkN, ht, hh]
  have e2 : isR (dlgR v n false).1 k = isR v k := by
    have e3 : (fups v.tree k).all (ownV (dlgR v n false).1) = (fups v.tree k).all (ownV v) := by
      rw [Bool.eq_iff_iff, List.all_eq_true, List.all_eq_true]
      constructor
      · intro hh m hm
        rw [← shown_own h (fun e => hb (e ▸ hm))]; exact hh m hm
      · intro hh m hm
        rw [shown_own h (fun e => hb (e ▸ hm))]; exact hh m hm
    simp only [isR, ht, e3]
  simp only [isA, ht, e1, e2]
theorem closed_isA {v : View} (hm : May v.tree) {n k : Int} (h : (dlgR v n false).2 = 0) (hk : isN v.tree k = true) (hb : n ∈ fups v.tree k) : isA v k = false := by
  obtain ⟨hc, hn, hd, ho, _⟩ := dlgR_ok h
  have h1 := (dlg_fact hd).2.2
  rw [mem_open] at ho
  have ho' : ownV v n = false := by
    unfold ownV
    split
    · rfl
    · have h2 : ¬ (n ∈ v.op ∨ n ∈ v.modal) := fun h => h.elim (fun h => ho (.inl h)) fun h => ho (.inr (.inl h))
      simp [h1, h2]
  have e : isR v k = false := by
    rw [← Bool.not_eq_true]
    intro hr
    have := (isR_iff.1 hr).1 n hb
    rw [ho'] at this; cases this
  simp [isA, e]
end Go.Lm
