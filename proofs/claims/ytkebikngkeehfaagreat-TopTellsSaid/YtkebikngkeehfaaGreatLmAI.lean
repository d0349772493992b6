/- Views stay such as may be. -/
import Derived.Test.YtkebikngkeehfaaGreatLmAH
set_option linter.unusedVariables false
set_option linter.unusedSimpArgs false
set_option linter.unnecessarySimpa false
set_option linter.all false
namespace Go.Lm
/-- So long are a view's rows. -/
structure SmB (b : Nat) (v : View) : Prop where
  tr : Sm v.tree
  op : v.op.length ≤ b
  mo : v.modal.length ≤ b
  po : v.popups.length ≤ b
  to : v.top.length ≤ 2 * b
theorem SmB.sm {b : Nat} {v : View} (h : SmB b v) (hb : b ≤ 60) : SmV v := ⟨h.tr, by have := h.op; omega, by have := h.mo; omega, by have := h.po; omega, by have := h.to; omega⟩
theorem SmB.up {b c : Nat} {v : View} (h : SmB b v) (hb : b ≤ c) : SmB c v := ⟨h.tr, by have := h.op; omega, by have := h.mo; omega, by have := h.po; omega, by have := h.to; omega⟩
theorem smallV_B {v : View} (h : smallV v = true) : SmB 40 v := by
  simp only [smallV, Bool.and_eq_true, decide_eq_true_eq] at h
  obtain ⟨⟨⟨⟨⟨h1, h2⟩, h3⟩, h4⟩, h5⟩, h6⟩ := h
  exact ⟨smallT_iff.1 h1, h3, h4, h5, by omega⟩
theorem sm_nil : Sm [] := ⟨by simp, by simp⟩
theorem B_nil (b : Nat) : SmB b vNil := ⟨sm_nil, by simp [vNil], by simp [vNil], by simp [vNil], by simp [vNil]⟩
theorem B_dlg {b : Nat} {v : View} (h : SmB b v) (n : Int) (m : Bool) : SmB (b + 1) (dlgR v n m).1 := by
  unfold dlgR
  have h' := h.up (Nat.le_succ b)
  split; exact B_nil _
  split; exact h'
  split; exact h'
  split; exact h'
  cases m
  · exact ⟨h.tr, by have := h.op; simp; omega, h'.mo, h'.po, h'.to⟩
  · exact ⟨h.tr, h'.op, by have := h.mo; simp; omega, h'.po, by have := h.to; simp; omega⟩
theorem B_pop {b : Nat} {v : View} (h : SmB b v) (x : Shown) : SmB (b + 1) (popR v x).1 := by
  unfold popR
  have h' := h.up (Nat.le_succ b)
  split; exact B_nil _
  split; exact h'
  split; exact h'
  split; exact h'
  exact ⟨h.tr, h'.op, h'.mo, by have := h.po; simp; omega, by have := h.to; simp; omega⟩
theorem B_cls {b : Nat} {v : View} (h : SmB b v) (n : Int) : SmB b (clsR v n).1 := by
  unfold clsR
  split; exact B_nil _
  split; exact h
  split
  · exact ⟨h.tr, Nat.le_trans (List.length_filter_le _ _) h.op, Nat.le_trans (List.length_filter_le _ _) h.mo, Nat.le_trans (List.length_filter_le _ _) h.po, Nat.le_trans (List.length_filter_le _ _) h.to⟩
  · exact h
theorem B_fix {b : Nat} {v : View} (h : SmB b v) : SmB b (fixR v).1 := by
  unfold fixR
  split
  · exact ⟨h.tr, Nat.le_trans (List.length_filter_le _ _) h.op, Nat.le_trans (List.length_filter_le _ _) h.mo, by simp only [fixV, List.length_map]; exact Nat.le_trans (List.length_filter_le _ _) h.po, Nat.le_trans (List.length_filter_le _ _) h.to⟩
  · exact B_nil _
theorem gone_len {b : Nat} {v : View} (h : SmB b v) : (fixR v).2.1.length ≤ 3 * b := by
  unfold fixR
  split
  · simp only [goneV, nodesP, List.length_append, List.length_map]
    have h1 := Nat.le_trans (List.length_filter_le (fun n => !dlg v.tree n) v.op) h.op
    have h2 := Nat.le_trans (List.length_filter_le (fun n => !dlg v.tree n) v.modal) h.mo
    have h3 := Nat.le_trans (List.length_filter_le (fun x : Shown => !pop v.tree x.node) v.popups) h.po
    omega
  · simp
/-! ### Whom may be -/
structure VOk (v : View) : Prop where
  op : ∀ n ∈ v.op, dlg v.tree n = true
  mo : ∀ n ∈ v.modal, dlg v.tree n = true
  po : ∀ x ∈ v.popups, popOk v.tree x = true
  once : (openL v).Nodup
  top : (highL v).Perm v.top
theorem mayV_iff {v : View} : mayV v = true ↔ VOk v := by
  simp only [mayV, Bool.and_eq_true, List.all_eq_true, onceI_iff, decide_eq_true_eq, sortI_iff, List.mem_append]
  constructor
  · rintro ⟨⟨⟨h1, h2⟩, h3⟩, h4⟩
    exact ⟨fun n hn => h1 n (.inl hn), fun n hn => h1 n (.inr hn), h2, h3, h4⟩
  · intro h
    exact ⟨⟨⟨fun n hn => hn.elim (h.op n) (h.mo n), h.po⟩, h.once⟩, h.top⟩
theorem chkV_iff {v : View} : chkV v = 0 ↔ mayT v.tree = true ∧ VOk v := by
  unfold chkV
  rw [← mayV_iff]
  split
  · split <;> simp_all
  · simp_all
theorem mem_high {v : View} {n : Int} : n ∈ highL v ↔ n ∈ v.modal ∨ n ∈ nodesP v.popups := by simp [highL]
theorem mem_open {v : View} {n : Int} : n ∈ openL v ↔ n ∈ v.op ∨ n ∈ v.modal ∨ n ∈ nodesP v.popups := by simp [openL, highL]
theorem perm_last (l : List Int) (n : Int) : (l ++ [n]).Perm (n :: l) := by simpa using List.perm_append_comm (l₁ := l) (l₂ := [n])
/-- What is opened: the view behind it. -/
theorem dlgR_ok {v : View} {n : Int} {m : Bool} (h : (dlgR v n m).2 = 0) : chkV v = 0 ∧ isN v.tree n = true ∧ dlg v.tree n = true ∧ n ∉ openL v ∧
    (dlgR v n m).1 = if m = true then { v with modal := v.modal ++ [n], top := v.top ++ [n] } else { v with op := v.op ++ [n] } := by
  unfold dlgR at h ⊢
  by_cases hc : chkV v = 0
  · by_cases hn : isN v.tree n = true
    · by_cases hd : dlg v.tree n = true
      · by_cases ho : n ∈ openL v
        · simp [hc, hn, hd, ho] at h
        · simp [hc, hn, hd, ho]
      · simp [hc, hn, hd] at h
    · simp [hc, hn] at h
  · simp [hc] at h
theorem popR_ok {v : View} {x : Shown} (h : (popR v x).2 = 0) : chkV v = 0 ∧ isN v.tree x.node = true ∧ popOk v.tree x = true ∧ x.node ∉ openL v ∧
    (popR v x).1 = { v with popups := v.popups ++ [x], top := v.top ++ [x.node] } := by
  unfold popR at h ⊢
  by_cases hc : chkV v = 0
  · by_cases hn : isN v.tree x.node = true
    · by_cases hi : (decide (x.invoker = -1) || isN v.tree x.invoker) = true
      · by_cases hd : pop v.tree x.node = true
        · by_cases ho : x.node ∈ openL v
          · simp only [hc, hn, hd, ho, hi] at h; simp at h
          · simp only [hc, hn, hd, ho, hi]; simp [popOk, hd]; simpa using hi
        · simp only [hc, hn, hd, hi] at h; simp at h
      · simp only [hc, hn, hi] at h; simp at h
    · simp [hc, hn] at h
  · simp [hc] at h
theorem nodesP_app (l r : List Shown) : nodesP (l ++ r) = nodesP l ++ nodesP r := by simp [nodesP]
theorem dlgR_may {v : View} {n : Int} {m : Bool} (h : (dlgR v n m).2 = 0) : VOk (dlgR v n m).1 := by
  obtain ⟨hc, hn, hd, ho, e⟩ := dlgR_ok h
  obtain ⟨_, hv⟩ := chkV_iff.1 hc
  rw [e]
  have hnd : (n :: openL v).Nodup := List.nodup_cons.2 ⟨ho, hv.once⟩
  cases m
  · refine ⟨fun x hx => ?_, hv.mo, hv.po, ?_, hv.top⟩
    · simp at hx
      rcases hx with hx | rfl
      · exact hv.op x hx
      · exact hd
    · refine (List.Perm.nodup_iff ?_).1 (show (n :: openL v).Nodup from hnd)
      have : openL { v with op := v.op ++ [n] } = v.op ++ n :: highL v := by simp [openL, highL]
      simp only [Bool.false_eq_true, if_false]
      rw [this]
      exact (List.perm_middle).symm
  · refine ⟨hv.op, fun x hx => ?_, hv.po, ?_, ?_⟩
    · simp at hx
      rcases hx with hx | rfl
      · exact hv.mo x hx
      · exact hd
    · refine (List.Perm.nodup_iff ?_).1 (show (n :: openL v).Nodup from hnd)
      have : openL { v with modal := v.modal ++ [n], top := v.top ++ [n] } = (v.op ++ v.modal) ++ n :: nodesP v.popups := by simp [openL, highL]
      simp only [if_true]
      rw [this]
      have e2 : openL v = (v.op ++ v.modal) ++ nodesP v.popups := by simp [openL, highL]
      rw [e2]
      exact (List.perm_middle).symm
    · have : highL { v with modal := v.modal ++ [n], top := v.top ++ [n] } = v.modal ++ n :: nodesP v.popups := by simp [highL]
      simp only [if_true]
      rw [this]
      exact (List.perm_middle).trans ((hv.top.cons n).trans (perm_last v.top n).symm)
theorem popR_may {v : View} {x : Shown} (h : (popR v x).2 = 0) : VOk (popR v x).1 := by
  obtain ⟨hc, hn, hd, ho, e⟩ := popR_ok h
  obtain ⟨_, hv⟩ := chkV_iff.1 hc
  rw [e]
  have hnd : (x.node :: openL v).Nodup := List.nodup_cons.2 ⟨ho, hv.once⟩
  refine ⟨hv.op, hv.mo, fun y hy => ?_, ?_, ?_⟩
  · simp at hy
    rcases hy with hy | rfl
    · exact hv.po y hy
    · exact hd
  · refine (List.Perm.nodup_iff ?_).1 (show (x.node :: openL v).Nodup from hnd)
    have : openL { v with popups := v.popups ++ [x], top := v.top ++ [x.node] } = openL v ++ [x.node] := by simp [openL, highL, nodesP]
    rw [this]
    exact (perm_last _ _).symm
  · have : highL { v with popups := v.popups ++ [x], top := v.top ++ [x.node] } = highL v ++ [x.node] := by simp [highL, nodesP]
    rw [this]
    exact hv.top.append_right _
theorem without_not {l : List Int} {n : Int} (h : n ∉ l) : without l n = l := by
  unfold without
  rw [List.filter_eq_self]
  intro x hx
  simp only [decide_eq_true_eq]
  exact fun e => h (e ▸ hx)
theorem withoutP_not {l : List Shown} {n : Int} (h : n ∉ nodesP l) : withoutP l n = l := by
  unfold withoutP
  rw [List.filter_eq_self]
  intro x hx
  simp only [decide_eq_true_eq]
  exact fun e => h (e ▸ List.mem_map_of_mem hx)
theorem without_last {l : List Int} {n : Int} (h : n ∉ l) : without (l ++ [n]) n = l := by
  have := without_not h
  simp [without] at this ⊢
  exact this
theorem withoutP_last {l : List Shown} {x : Shown} (h : x.node ∉ nodesP l) : withoutP (l ++ [x]) x.node = l := by
  have := withoutP_not h
  simp [withoutP] at this ⊢
  exact this
theorem not_top {v : View} (hv : VOk v) {n : Int} (h : n ∉ openL v) : n ∉ v.top := fun hm => h (by
  have := hv.top.mem_iff.2 hm
  simp [openL, this])
theorem dlgR_close {v : View} {n : Int} {m : Bool} (h : (dlgR v n m).2 = 0) : clsR (dlgR v n m).1 n = (v, 0) := by
  have hm := dlgR_may h
  obtain ⟨hc, hn, hd, ho, e⟩ := dlgR_ok h
  obtain ⟨ht, hv⟩ := chkV_iff.1 hc
  have hnt := not_top hv ho
  rw [mem_open] at ho
  have h1 : n ∉ v.op := fun x => ho (.inl x)
  have h2 : n ∉ v.modal := fun x => ho (.inr (.inl x))
  have h3 : n ∉ nodesP v.popups := fun x => ho (.inr (.inr x))
  have htr : (dlgR v n m).1.tree = v.tree := by rw [e]; cases m <;> rfl
  have hc2 : chkV (dlgR v n m).1 = 0 := chkV_iff.2 ⟨by rw [htr]; exact ht, hm⟩
  unfold clsR
  rw [hc2, htr, hn]
  have ho2 : n ∈ openL (dlgR v n m).1 := by
    rw [mem_open, e]; cases m <;> simp
  simp only [not_true, if_false, Bool.true_eq_false, ho2, if_true]
  rw [e]
  cases m
  · simp [without_last h1, without_not h2, withoutP_not h3, without_not hnt]
  · simp [without_not h1, without_last h2, withoutP_not h3, without_last hnt]
theorem popR_close {v : View} {x : Shown} (h : (popR v x).2 = 0) : clsR (popR v x).1 x.node = (v, 0) := by
  have hm := popR_may h
  obtain ⟨hc, hn, hd, ho, e⟩ := popR_ok h
  obtain ⟨ht, hv⟩ := chkV_iff.1 hc
  have hnt := not_top hv ho
  rw [mem_open] at ho
  have h1 : x.node ∉ v.op := fun y => ho (.inl y)
  have h2 : x.node ∉ v.modal := fun y => ho (.inr (.inl y))
  have h3 : x.node ∉ nodesP v.popups := fun y => ho (.inr (.inr y))
  have htr : (popR v x).1.tree = v.tree := by rw [e]
  have hc2 : chkV (popR v x).1 = 0 := chkV_iff.2 ⟨by rw [htr]; exact ht, hm⟩
  unfold clsR
  rw [hc2, htr, hn]
  have ho2 : x.node ∈ openL (popR v x).1 := by
    rw [mem_open, e]; simp [nodesP]
  simp only [not_true, if_false, Bool.true_eq_false, ho2, if_true]
  rw [e]
  simp [without_not h1, without_not h2, withoutP_last h3, without_last hnt]
theorem clsR_may {v : View} {n : Int} (h : (clsR v n).2 = 0) : VOk (clsR v n).1 ∧ n ∉ openL (clsR v n).1 ∧ n ∉ (clsR v n).1.top ∧ (clsR v n).1.tree = v.tree ∧ mayT v.tree = true := by
  unfold clsR at h ⊢
  by_cases hc : chkV v = 0
  · obtain ⟨ht, hv⟩ := chkV_iff.1 hc
    by_cases hn : isN v.tree n = true
    · by_cases ho : n ∈ openL v
      · simp only [hc, hn, ho, not_true, if_false, Bool.true_eq_false, if_true]
        have eN : nodesP (withoutP v.popups n) = without (nodesP v.popups) n := by
          simp only [nodesP, withoutP, without, List.filter_map]; rfl
        have eO : openL ⟨v.tree, without v.op n, without v.modal n, withoutP v.popups n, without v.top n⟩ = without (openL v) n := by
          simp only [openL, highL, eN, without, List.filter_append]
        have eH : highL ⟨v.tree, without v.op n, without v.modal n, withoutP v.popups n, without v.top n⟩ = without (highL v) n := by
          simp only [highL, eN, without, List.filter_append]
        have hno : ∀ l : List Int, n ∉ without l n := fun l hm => by simp [without] at hm
        refine ⟨⟨fun x hx => hv.op x (List.mem_filter.1 hx).1, fun x hx => hv.mo x (List.mem_filter.1 hx).1, fun x hx => hv.po x (List.mem_filter.1 hx).1, ?_, ?_⟩, ?_, hno _, trivial, ht⟩
        · rw [eO]; exact hv.once.filter _
        · rw [eH]; exact hv.top.filter _
        · rw [eO]; exact hno _
      · simp [hc, hn, ho] at h
    · simp [hc, hn] at h
  · simp [hc] at h
/-! ### The highest -/
theorem highF_take (modal top : List Int) : ∀ (i : Nat) (r : List Int), i ≤ top.length → highF modal (top ++ r) i = highF modal top i
  | 0, _, _ => rfl
  | i + 1, r, h => by
    have h1 : i < top.length := by omega
    have e : (top ++ r).getD i 0 = top.getD i 0 := by simp only [List.getD_eq_getElem?_getD, List.getElem?_append_left h1]
    simp only [highF, e, highF_take modal top i r (by omega)]
theorem highF_last (modal top : List Int) (n : Int) : highF modal (top ++ [n]) (top.length + 1) = if n ∈ modal then n else highF modal top top.length := by
  have e : (top ++ [n]).getD top.length 0 = n := by simp
  simp only [highF, e, highF_take modal top _ [n] (Nat.le_refl _)]
/-- The highest one is the last of those of the top layer that are modal. -/
theorem highF_spec (modal top : List Int) : ∀ i, i ≤ top.length → (highF modal top i = -1 ∧ ∀ j, j < i → top.getD j 0 ∉ modal) ∨
    (∃ j, j < i ∧ highF modal top i = top.getD j 0 ∧ top.getD j 0 ∈ modal ∧ ∀ q, j < q → q < i → top.getD q 0 ∉ modal)
  | 0, _ => .inl ⟨rfl, fun j hj => by omega⟩
  | i + 1, h => by
    simp only [highF]
    split
    · rename_i hm
      exact .inr ⟨i, by omega, rfl, hm, fun q h1 h2 => by omega⟩
    · rename_i hm
      rcases highF_spec modal top i (by omega) with ⟨h1, h2⟩ | ⟨j, h1, h2, h3, h4⟩
      · refine .inl ⟨h1, fun j hj => ?_⟩
        by_cases e : j = i
        · exact e ▸ hm
        · exact h2 j (by omega)
      · refine .inr ⟨j, by omega, h2, h3, fun q hq hq2 => ?_⟩
        by_cases e : q = i
        · exact e ▸ hm
        · exact h4 q hq (by omega)
theorem highF_congr {m m' : List Int} {top : List Int} : ∀ i, (∀ j, j < i → (top.getD j 0 ∈ m ↔ top.getD j 0 ∈ m')) → highF m top i = highF m' top i
  | 0, _ => rfl
  | i + 1, h => by
    simp only [highF]
    rw [highF_congr i fun j hj => h j (by omega)]
    by_cases h1 : top.getD i 0 ∈ m
    · rw [if_pos h1, if_pos ((h i (by omega)).1 h1)]
    · rw [if_neg h1, if_neg fun x => h1 ((h i (by omega)).2 x)]
theorem dlg_is {t : List Nod} {n : Int} (h : dlg t n = true) : isN t n = true := by
  simp only [dlg, isEl, Bool.and_eq_true] at h; exact con_is h.1.1
theorem high_none {v : View} (hv : VOk v) (h : highF v.modal v.top v.top.length = -1) : v.modal = [] := by
  cases hm : v.modal with
  | nil => rfl
  | cons n l =>
    exfalso
    have hn : n ∈ v.modal := by simp [hm]
    have ht : n ∈ v.top := hv.top.mem_iff.1 (by simp [highL, hm])
    obtain ⟨j, hj, e⟩ := List.getElem_of_mem ht
    have hg : v.top.getD j 0 = n := by simp [hj, e]
    rcases highF_spec v.modal v.top v.top.length (Nat.le_refl _) with ⟨_, h2⟩ | ⟨q, _, h2, h3, _⟩
    · exact h2 j hj (hg ▸ hn)
    · rw [h] at h2
      rw [← h2] at h3
      have := isN_iff.1 (dlg_is (hv.mo _ h3))
      omega
/-! ### What is fixed -/
theorem nodup_len : ∀ {a b : List Int}, a.Nodup → (∀ x ∈ a, x ∈ b) → a.length ≤ b.length
  | [], _, _, _ => Nat.zero_le _
  | x :: a, b, hn, hs => by
    have hx : x ∈ b := hs x (by simp)
    have hn' := List.nodup_cons.1 hn
    have := nodup_len (b := b.erase x) hn'.2 fun y hy => by
      have hyx : y ≠ x := fun e => hn'.1 (e ▸ hy)
      exact (List.mem_erase_of_ne hyx).2 (hs y (by simp [hy]))
    rw [List.length_erase_of_mem hx] at this
    have : 0 < b.length := List.length_pos_of_mem hx
    simp; omega
theorem nodup_perm {a b : List Int} (ha : a.Nodup) (hb : b.Nodup) (h : ∀ x, x ∈ a ↔ x ∈ b) : a.Perm b := perm_of_sub ha (fun x hx => (h x).1 hx) (nodup_len hb fun x hx => (h x).2 hx)
theorem fixP_node (t : List Nod) (x : Shown) : (fixP t x).node = x.node := by unfold fixP; split <;> rfl
theorem nodesP_fix (t : List Nod) (l : List Shown) : nodesP (l.map (fixP t)) = nodesP l := by simp [nodesP, fixP_node]
theorem fixP_ok {t : List Nod} {x : Shown} (h : pop t x.node = true) : popOk t (fixP t x) = true := by
  simp only [popOk, fixP_node, h, Bool.true_and, Bool.or_eq_true, decide_eq_true_eq]
  unfold fixP
  split
  · rename_i hk; exact .inr hk
  · exact .inl rfl
theorem fixP_twice (t : List Nod) (x : Shown) : fixP t (fixP t x) = fixP t x := by
  unfold fixP
  by_cases h : isN t x.invoker = true
  · simp [h]
  · simp only [if_neg h]
    split <;> rfl
theorem len_filter_not {α : Type} (p : α → Bool) : ∀ l : List α, (l.filter p).length + (l.filter fun x => !p x).length = l.length
  | [] => rfl
  | x :: l => by
    have := len_filter_not p l
    cases h : p x <;> simp [List.filter_cons, h] <;> omega
theorem fixV_may {v : View} (h1 : (openL v).Nodup) (h2 : v.top.Nodup) (h3 : v.top.length = (highL v).length) (h4 : ∀ n ∈ highL v, n ∈ v.top) : VOk (fixV v) := by
  have hp : ∀ n, n ∈ highL v ↔ n ∈ v.top := fun n => (perm_of_sub (List.nodup_append.1 h1).2.1 h4 (by omega)).mem_iff
  have eN : nodesP (fixV v).popups = nodesP (v.popups.filter fun x => pop v.tree x.node) := nodesP_fix _ _
  have sub : (openL (fixV v)).Sublist (openL v) := by
    simp only [openL, highL, eN]
    exact List.Sublist.append (List.filter_sublist) (List.Sublist.append (List.filter_sublist) ((List.filter_sublist).map _))
  have hnd := sub.nodup h1
  refine ⟨fun n hn => (List.mem_filter.1 hn).2, fun n hn => (List.mem_filter.1 hn).2, fun x hx => ?_, hnd, ?_⟩
  · obtain ⟨y, hy, rfl⟩ := List.mem_map.1 hx
    exact fixP_ok (List.mem_filter.1 hy).2
  · refine nodup_perm (List.nodup_append.1 hnd).2.1 (h2.filter _) fun n => ?_
    have e : (fixV v).top = v.top.filter fun n => decide (n ∈ highL (fixV v)) := rfl
    rw [e, List.mem_filter, decide_eq_true_eq]
    constructor
    · intro hn
      refine ⟨(hp n).1 ?_, hn⟩
      rw [mem_high] at hn ⊢
      rw [eN] at hn
      rcases hn with hn | hn
      · exact .inl (List.mem_filter.1 hn).1
      · obtain ⟨y, hy, rfl⟩ := List.mem_map.1 hn
        exact .inr (List.mem_map_of_mem (List.mem_filter.1 hy).1)
    · exact fun hn => hn.2
theorem filter_twice {α : Type} (p : α → Bool) (l : List α) : (l.filter p).filter p = l.filter p := List.filter_eq_self.2 fun x hx => (List.mem_filter.1 hx).2
theorem filter_none {α : Type} (p : α → Bool) (l : List α) : (l.filter p).filter (fun x => !p x) = [] := List.filter_eq_nil_iff.2 fun x hx => by simp [(List.mem_filter.1 hx).2]
theorem pop_filter (t : List Nod) (l : List Shown) : ((l.filter fun x => pop t x.node).map (fixP t)).filter (fun x => pop t x.node) = (l.filter fun x => pop t x.node).map (fixP t) :=
  List.filter_eq_self.2 fun x hx => by
    obtain ⟨y, hy, rfl⟩ := List.mem_map.1 hx
    rw [fixP_node]; exact (List.mem_filter.1 hy).2
theorem fixV_twice (v : View) : fixV (fixV v) = fixV v := by
  have e1 : (fixV v).tree = v.tree := rfl
  have e2 : (fixV v).op.filter (dlg v.tree) = (fixV v).op := filter_twice _ _
  have e3 : (fixV v).modal.filter (dlg v.tree) = (fixV v).modal := filter_twice _ _
  have e4 : (((fixV v).popups.filter fun x => pop v.tree x.node).map (fixP v.tree)) = (fixV v).popups := by
    show ((((v.popups.filter fun x => pop v.tree x.node).map (fixP v.tree)).filter fun x => pop v.tree x.node).map (fixP v.tree)) = _
    rw [pop_filter, List.map_map]
    show _ = (v.popups.filter fun x => pop v.tree x.node).map (fixP v.tree)
    congr 1
    funext x; exact fixP_twice _ _
  show (⟨v.tree, (fixV v).op.filter (dlg v.tree), (fixV v).modal.filter (dlg v.tree), ((fixV v).popups.filter fun x => pop v.tree x.node).map (fixP v.tree), (fixV v).top.filter fun n => decide (n ∈ (fixV v).modal.filter (dlg v.tree) ++ nodesP (((fixV v).popups.filter fun x => pop v.tree x.node).map (fixP v.tree)))⟩ : View) = fixV v
  rw [e2, e3, e4]
  have e5 : ((fixV v).top.filter fun n => decide (n ∈ (fixV v).modal ++ nodesP (fixV v).popups)) = (fixV v).top := filter_twice _ _
  rw [e5]
  rfl
theorem gone_twice (v : View) : goneV (fixV v) = [] := by
  have e1 : ((fixV v).op.filter fun n => !dlg v.tree n) = [] := filter_none _ _
  have e2 : ((fixV v).modal.filter fun n => !dlg v.tree n) = [] := filter_none _ _
  have e3 : ((fixV v).popups.filter fun x => !pop v.tree x.node) = [] := by
    rw [List.filter_eq_nil_iff]
    intro x hx
    obtain ⟨y, hy, rfl⟩ := List.mem_map.1 hx
    simp [fixP_node, (List.mem_filter.1 hy).2]
  show ((fixV v).op.filter fun n => !dlg v.tree n) ++ ((fixV v).modal.filter fun n => !dlg v.tree n) ++ nodesP ((fixV v).popups.filter fun x => !pop v.tree x.node) = []
  rw [e1, e2, e3]; rfl
theorem gone_count (v : View) : (goneV v).length + (fixV v).op.length + (fixV v).modal.length + (fixV v).popups.length = (openL v).length := by
  have h1 := len_filter_not (dlg v.tree) v.op
  have h2 := len_filter_not (dlg v.tree) v.modal
  have h3 := len_filter_not (fun x : Shown => pop v.tree x.node) v.popups
  simp only [goneV, fixV, openL, highL, nodesP, List.length_append, List.length_map]
  omega
end Go.Lm
