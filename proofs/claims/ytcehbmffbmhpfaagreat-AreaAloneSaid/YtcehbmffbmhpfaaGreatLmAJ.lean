/- What is inert, in plain words. -/
import Derived.Test.YtcehbmffbmhpfaaGreatLmAI
set_option linter.unusedVariables false
set_option linter.unusedSimpArgs false
set_option linter.unnecessarySimpa false
set_option linter.all false
section
namespace Go.Lm
open List
def highN (v : View) : Int := highF v.modal v.top v.top.length
def blkN (v : View) (n : Int) : Bool := decide (¬ n = 0) && decide (¬ highN v = -1) && decide (¬ highN v ∈ fups v.tree n)
/-- Is anybody marked, up to one? -/
def mkF (t : List Nod) (h : Int) : List Int → Bool
  | [] => false
  | k :: r => hasA (nd t k) 3 || (decide (¬ k = h) && mkF t h r)
def isI (v : View) (n : Int) : Bool := blkN v n || mkF v.tree (highN v) (fups v.tree n)
def idxL (t : List Nod) : List Int := (List.range t.length).map (fun i : Nat => (i : Int))
def allIn (v : View) : List Int := (idxL v.tree).filter (isI v)
theorem mem_idx {t : List Nod} {n : Int} : n ∈ idxL t ↔ isN t n = true := by
  constructor
  · intro h
    obtain ⟨i, hi, rfl⟩ := List.mem_map.1 h
    exact isN_nat (by simpa using hi)
  · exact isN_mem
theorem idx_nodup (t : List Nod) : (idxL t).Nodup := by
  unfold idxL List.Nodup
  rw [List.pairwise_map]
  exact (List.nodup_range (n := t.length)).imp fun h e => h (Int.ofNat_inj.1 e)
theorem idx_len (t : List Nod) : (idxL t).length = t.length := by simp [idxL]
theorem mem_allI {v : View} {n : Int} : n ∈ allIn v ↔ isN v.tree n = true ∧ isI v n = true := by
  unfold allIn; rw [List.mem_filter, mem_idx]
theorem allI_len (v : View) : (allIn v).length ≤ v.tree.length := by
  unfold allIn; exact Nat.le_trans (List.length_filter_le _ _) (by rw [idx_len]; exact Nat.le_refl _)
theorem mkF_iff {t : List Nod} {h : Int} : ∀ {l : List Int}, h ∉ l → mkF t h l = l.any fun k => hasA (nd t k) 3
  | [], _ => rfl
  | k :: r, hn => by
    simp only [List.mem_cons, not_or] at hn
    have hk : ¬ k = h := fun e => hn.1 e.symm
    simp only [mkF, List.any_cons, hk, not_false_eq_true, decide_true, Bool.true_and, mkF_iff hn.2]
/-- As the document has it: so many of a list. -/
theorem mkF_take (t : List Nod) (h : Int) : ∀ (l : List Int) (i : Nat), mkF t h l = (l.take (if 0 ≤ plF h l i then (plF h l i - i).toNat + 1 else l.length)).any fun k => hasA (nd t k) 3
  | [], i => by simp [mkF]
  | k :: r, i => by
    by_cases e : k = h
    · have h1 : plF h (k :: r) i = i := by simp [plF, e]
      rw [h1, if_pos (by omega)]
      simp [mkF, e]
    · have h1 : plF h (k :: r) i = plF h r (i + 1) := by simp [plF, e]
      rw [h1]
      have ih := mkF_take t h r (i + 1)
      simp only [mkF, e, not_false_eq_true, decide_true, Bool.true_and]
      rw [ih]
      by_cases hm : h ∈ r
      · obtain ⟨j, hj, e2, _⟩ := plF_get (i := i + 1) hm
        rw [e2, if_pos (by omega), if_pos (by omega)]
        have e3 : (((i + 1 + j : Nat) : Int) - ((i + 1 : Nat) : Int)).toNat = j := by omega
        have e4 : (((i + 1 + j : Nat) : Int) - (i : Int)).toNat = j + 1 := by omega
        rw [e3, e4]
        simp
      · have : ¬ 0 ≤ plF h r (i + 1) := fun h2 => hm ((plF_ge h r (i + 1)).1 h2)
        rw [if_neg this, if_neg this]
        simp
theorem high_top {v : View} (hv : VOk v) (h : ¬ highN v = -1) : highN v ∈ v.modal ∧ dlg v.tree (highN v) = true := by
  rcases highF_spec v.modal v.top v.top.length (Nat.le_refl _) with ⟨e, _⟩ | ⟨j, _, e, hm, _⟩
  · exact absurd e h
  · have : highN v ∈ v.modal := by unfold highN; rw [e]; exact hm
    exact ⟨this, hv.mo _ this⟩
theorem high_nil {v : View} (h : v.modal = []) : highN v = -1 := by
  rcases highF_spec v.modal v.top v.top.length (Nat.le_refl _) with ⟨e, _⟩ | ⟨j, _, e, hm, _⟩
  · exact e
  · rw [h] at hm; simp at hm
theorem mk_none {t : List Nod} (h : May t) {n : Int} (hn : isN t n = true) : mkF t (-1) (fups t n) = (fups t n).any fun k => hasA (nd t k) 3 :=
  mkF_iff fun hm => isN_ne ((flTr h).upP n hn _ hm) rfl
/-- Within one: who is marked there. -/
theorem mk_within {t : List Nod} (h : May t) (x : Int) : ∀ n, isN t n = true → x ∈ fups t n → (mkF t x (fups t n) = true ↔ ∃ k, k ∈ fups t n ∧ hasA (nd t k) 3 = true ∧ x ∈ fups t k) := (flTr h).indUp fun n hn ih hx => by
  have hT := flTr h
  have hc := fups_cons h hn
  rw [hc]
  simp only [mkF, Bool.or_eq_true, Bool.and_eq_true, decide_eq_true_eq]
  by_cases e : n = x
  · subst e
    constructor
    · rintro (h1 | ⟨h1, _⟩)
      · exact ⟨n, by simp, h1, hx⟩
      · exact absurd rfl h1
    · rintro ⟨k, h1, h2, h3⟩
      rw [← hc] at h1
      have hk := hT.upP n hn k h1
      have := hT.antisymm hk hn h1 h3
      subst this
      exact .inl h2
  · have hx' : x ∈ fups t (fpar t n) := by
      rw [hc] at hx
      exact (List.mem_cons.1 hx).resolve_left fun e2 => e e2.symm
    have ih' : mkF t x (fups t (fpar t n)) = true ↔ ∃ k, k ∈ fups t (fpar t n) ∧ hasA (nd t k) 3 = true ∧ x ∈ fups t k := by
      rcases ih with ih | ih
      · rw [ih, fups_nil] at hx'; simp at hx'
      · exact ih hx'
    rw [ih']
    constructor
    · rintro (h1 | ⟨_, k, h1, h2, h3⟩)
      · exact ⟨n, by simp, h1, hx⟩
      · exact ⟨k, by simp [h1], h2, h3⟩
    · rintro ⟨k, h1, h2, h3⟩
      rcases List.mem_cons.1 h1 with rfl | h1
      · exact .inl h2
      · exact .inr ⟨e, k, h1, h2, h3⟩
theorem has0 {t : List Nod} (h : May t) (a : Int) : hasA (nd t 0) a = false := by
  have h0 := kind0 h
  have ha := no_atts h (is0 h) (by omega) (by omega)
  simp [hasA, ha]
theorem isI0 {v : View} (h : May v.tree) : isI v 0 = false := by simp [isI, blkN, fups0 h, mkF, has0 h]
theorem isI_below {v : View} (h : May v.tree) {a b : Int} (hb : isN v.tree b = true) (hab : a ∈ fups v.tree b) (ha : isI v a = true)
    (hx : ¬ (¬ highN v = -1 ∧ highN v ∈ fups v.tree b ∧ highN v ∉ fups v.tree a)) : isI v b = true := by
  have hT := flTr h
  have ha' := hT.upP b hb a hab
  by_cases hb0 : b = 0
  · subst hb0
    rw [fups0 h] at hab
    simp at hab
    subst hab
    exact ha
  by_cases h1 : highN v = -1
  · have hblk : ∀ n, blkN v n = false := fun n => by simp [blkN, h1]
    simp only [isI, hblk, Bool.false_or, h1] at ha ⊢
    rw [mk_none h ha', List.any_eq_true] at ha
    rw [mk_none h hb, List.any_eq_true]
    obtain ⟨k, h2, h3⟩ := ha
    exact ⟨k, hT.trans hb hab h2, h3⟩
  · by_cases h2 : highN v ∈ fups v.tree b
    · have h3 : highN v ∈ fups v.tree a := Classical.byContradiction fun h3 => hx ⟨h1, h2, h3⟩
      have e1 : blkN v a = false := by simp [blkN, h3]
      have e2 : blkN v b = false := by simp [blkN, h2]
      simp only [isI, e1, e2, Bool.false_or] at ha ⊢
      rw [mk_within h _ a ha' h3] at ha
      rw [mk_within h _ b hb h2]
      obtain ⟨k, k1, k2, k3⟩ := ha
      exact ⟨k, hT.trans hb hab k1, k2, k3⟩
    · have e2 : blkN v b = true := by simp [blkN, h1, h2, hb0]
      simp [isI, e2]
/-- Marked, as the statement asks. -/
def mkdP (v : View) (n : Int) (k : Int) : Bool := hasA (nd v.tree k) 3 && decide (k ∈ fups v.tree n) && (!(decide (highN v = -1) || decide (highN v ∈ fups v.tree n)) || decide (highN v = -1) || decide (highN v ∈ fups v.tree k))
theorem isI_marked {v : View} (h : May v.tree) {n : Int} (hn : isN v.tree n = true) (hw : n = 0 ∨ highN v = -1 ∨ highN v ∈ fups v.tree n) : isI v n = (idxL v.tree).any (mkdP v n) := by
  have hT := flTr h
  have any : (idxL v.tree).any (mkdP v n) = true ↔ ∃ k, k ∈ fups v.tree n ∧ mkdP v n k = true := by
    rw [List.any_eq_true]
    constructor
    · rintro ⟨k, h1, h2⟩
      refine ⟨k, ?_, h2⟩
      simp only [mkdP, Bool.and_eq_true, decide_eq_true_eq] at h2
      exact h2.1.2
    · rintro ⟨k, h1, h2⟩
      exact ⟨k, mem_idx.2 (hT.upP n hn k h1), h2⟩
  rw [Bool.eq_iff_iff, any]
  by_cases h0 : n = 0
  · subst h0
    rw [isI0 h, fups0 h]
    simp [mkdP, has0 h]
  · by_cases h1 : highN v = -1
    · have e1 : blkN v n = false := by simp [blkN, h1]
      simp only [isI, e1, Bool.false_or]
      rw [h1, mk_none h hn, List.any_eq_true]
      constructor
      · rintro ⟨k, k1, k2⟩; exact ⟨k, k1, by simp [mkdP, h1, k1, k2]⟩
      · rintro ⟨k, k1, k2⟩
        simp only [mkdP, Bool.and_eq_true] at k2
        exact ⟨k, k1, k2.1.1⟩
    · have h2 : highN v ∈ fups v.tree n := (hw.resolve_left h0).resolve_left h1
      have e1 : blkN v n = false := by simp [blkN, h2]
      simp only [isI, e1, Bool.false_or]
      rw [mk_within h _ n hn h2]
      constructor
      · rintro ⟨k, k1, k2, k3⟩; exact ⟨k, k1, by simp [mkdP, k1, k2, k3]⟩
      · rintro ⟨k, k1, k2⟩
        simp only [mkdP, Bool.and_eq_true] at k2
        refine ⟨k, k1, k2.1.1, ?_⟩
        simpa [h1, h2] using k2.2
theorem dlg_fact {t : List Nod} {n : Int} (h : dlg t n = true) : isN t n = true ∧ (nd t n).kind = 1 ∧ (nd t n).tag = 2 := by
  have := dlg_is h
  simp only [dlg, isEl, Bool.and_eq_true, decide_eq_true_eq] at h
  exact ⟨this, h.1.2, h.2⟩
theorem high_dlg {v : View} {n : Int} (h : (dlgR v n true).2 = 0) : highN (dlgR v n true).1 = n := by
  obtain ⟨_, _, _, _, e⟩ := dlgR_ok h
  rw [e]
  simp only [if_true, highN, List.length_append, List.length_singleton]
  rw [highF_last, if_pos (by simp)]
end Go.Lm
end
section
namespace Go.Lm
open List
def idxA (t : List Nod) (n : Int) : Int := (getA 0 (nd t n).attrs).getD 0
def hasI (t : List Nod) (n : Int) : Bool := hasA (nd t n) 0 || decide ((nd t n).tag = 1) || decide ((nd t n).tag = 4)
def disA (t : List Nod) (n : Int) : Bool := decide ((nd t n).tag = 1) && hasA (nd t n) 1
def delA (t : List Nod) (n : Int) : Bool := !decide ((nd t n).root = -1) && hasA (nd t (nd t n).root) 7
def isA (v : View) (n : Int) : Bool := hasI v.tree n && !disA v.tree n && !delA v.tree n && isR v n && !isI v n
def tabA (v : View) (n : Int) : Bool := isA v n && decide (0 ≤ idxA v.tree n)
def allA (v : View) : List Int := (idxL v.tree).filter (isA v)
theorem tag_kind {t : List Nod} (h : May t) {n : Int} (hn : isN t n = true) (ht : ¬ (nd t n).tag = 0) : (nd t n).kind = 1 := by
  have := (h.f hn).tag
  split at this
  · assumption
  · exact absurd this ht
theorem has_kind {t : List Nod} (h : May t) {n : Int} (hn : isN t n = true) {a : Int} (h7 : ¬ a = 7) (h8 : ¬ a = 8) (ha : hasA (nd t n) a = true) : (nd t n).kind = 1 := by
  have h1 := (h.f hn).atts
  simp only [attsOk, Bool.and_eq_true, List.all_eq_true] at h1
  simp only [hasA, List.any_eq_true, decide_eq_true_eq] at ha
  obtain ⟨x, hx, e⟩ := ha
  have h2 := h1.1 x hx
  simp only [attOk, Bool.and_eq_true, decide_eq_true_eq] at h2
  have h3 := h2.2
  split at h3
  · simp only [Bool.or_eq_true, decide_eq_true_eq] at h3; omega
  · simp only [Bool.and_eq_true, decide_eq_true_eq] at h3; exact h3.1
theorem hasI_kind {t : List Nod} (h : May t) {n : Int} (hn : isN t n = true) (hi : hasI t n = true) : (nd t n).kind = 1 := by
  simp only [hasI, Bool.or_eq_true, decide_eq_true_eq] at hi
  rcases hi with (hi | hi) | hi
  · exact has_kind h hn (by omega) (by omega) hi
  · exact tag_kind h hn (by omega)
  · exact tag_kind h hn (by omega)
theorem isA_kind {v : View} (h : May v.tree) {n : Int} (hn : isN v.tree n = true) (hi : isA v n = true) : (nd v.tree n).kind = 1 := by
  simp only [isA, Bool.and_eq_true] at hi
  exact hasI_kind h hn hi.1.1.1.1
theorem mem_allA {v : View} {n : Int} : n ∈ allA v ↔ isN v.tree n = true ∧ isA v n = true := by
  unfold allA; rw [List.mem_filter, mem_idx]
theorem allA_len (v : View) : (allA v).length ≤ v.tree.length := by
  unfold allA; exact Nat.le_trans (List.length_filter_le _ _) (by rw [idx_len]; exact Nat.le_refl _)
theorem allA_nodup (v : View) : (allA v).Nodup := (idx_nodup _).filter _
/-- What is opened as a dialog: the same tree, the same who is highest. -/
theorem shown_own {v : View} {n k : Int} (h : (dlgR v n false).2 = 0) (hk : ¬ k = n) : ownV (dlgR v n false).1 k = ownV v k := by
  obtain ⟨_, _, _, _, e⟩ := dlgR_ok h
  rw [e]
  simp [ownV, hk]
theorem shown_isA {v : View} (hm : May v.tree) {n k : Int} (h : (dlgR v n false).2 = 0) (hk : isN v.tree k = true) (hb : n ∉ fups v.tree k) : isA (dlgR v n false).1 k = isA v k := by
  obtain ⟨_, _, _, _, e⟩ := dlgR_ok h
  have ht : (dlgR v n false).1.tree = v.tree := by rw [e]; rfl
  have hh : highN (dlgR v n false).1 = highN v := by rw [e]; rfl
  have e1 : isI (dlgR v n false).1 k = isI v k := by simp only [isI, blkN, ht, hh]
  have e2 : isR (dlgR v n false).1 k = isR v k := by
    have e3 : (fups v.tree k).all (ownV (dlgR v n false).1) = (fups v.tree k).all (ownV v) := by
      rw [Bool.eq_iff_iff, List.all_eq_true, List.all_eq_true]
      constructor
      · intro hh m hm
        rw [← shown_own h (fun e => hb (e ▸ hm))]; exact hh m hm
      · intro hh m hm
        rw [shown_own h (fun e => hb (e ▸ hm))]; exact hh m hm
    simp only [isR, ht, e3]
  simp only [isA, ht, e1, e2]
theorem closed_isA {v : View} (hm : May v.tree) {n k : Int} (h : (dlgR v n false).2 = 0) (hk : isN v.tree k = true) (hb : n ∈ fups v.tree k) : isA v k = false := by
  obtain ⟨hc, hn, hd, ho, _⟩ := dlgR_ok h
  have h1 := (dlg_fact hd).2.2
  rw [mem_open] at ho
  have ho' : ownV v n = false := by
    unfold ownV
    split
    · rfl
    · have h2 : ¬ (n ∈ v.op ∨ n ∈ v.modal) := fun h => h.elim (fun h => ho (.inl h)) fun h => ho (.inr (.inl h))
      simp [h1, h2]
  have e : isR v k = false := by
    rw [← Bool.not_eq_true]
    intro hr
    have := (isR_iff.1 hr).1 n hb
    rw [ho'] at this; cases this
  simp [isA, e]
end Go.Lm
end
