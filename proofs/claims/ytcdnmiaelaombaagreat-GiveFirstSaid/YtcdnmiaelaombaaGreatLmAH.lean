/- What becomes of views, in plain words. -/
import Derived.Test.YtcdnmiaelaombaaGreatLmAG
set_option linter.unusedVariables false
set_option linter.unusedSimpArgs false
set_option linter.unnecessarySimpa false
set_option linter.all false
section
namespace Go.Lm
@[simp] theorem c0_V (v : View) : SVal.c0 (encV v) = encT v.tree := rfl
@[simp] theorem c1_V (v : View) : SVal.c1 (encV v) = encI v.op := rfl
@[simp] theorem c2_V (v : View) : SVal.c2 (encV v) = encI v.modal := rfl
@[simp] theorem c3_V (v : View) : SVal.c3 (encV v) = encP v.popups := rfl
@[simp] theorem c4_V (v : View) : SVal.c4 (encV v) = encI v.top := rfl
@[simp] theorem fold_I3 (l : List Int) (n : Int) : SVal.sl 1 false false (l.map (SVal.int .i64) ++ [int n]) = encI (l ++ [n]) := by simp [encI]
@[simp] theorem fold_P3 (l : List Shown) (x : Shown) : SVal.sl 2 false false (l.map encS ++ [encS x]) = encP (l ++ [x]) := fold_P2 l [x]
@[simp] theorem c3_mb' (a b c d : SVal) (l : List SVal) : SVal.c3 (.agg (a :: b :: c :: d :: l)) = d := rfl
@[simp] theorem xs_I (l : List Int) : SVal.xs (encI l) = l.map (SVal.int .i64) := rfl
@[simp] theorem xs_P (l : List Shown) : SVal.xs (encP l) = l.map encS := rfl
/-- A copy whose rows may grow. -/
def copyE (v : View) : SVal := .agg [encT v.tree, .sl 1 true false (v.op.map (SVal.int .i64)), .sl 1 true false (v.modal.map (SVal.int .i64)), .sl 2 true false (v.popups.map encS), .sl 1 true false (v.top.map (SVal.int .i64))]
@[simp] theorem c0_cp (v : View) : SVal.c0 (copyE v) = encT v.tree := rfl
@[simp] theorem c1_cp (v : View) : SVal.c1 (copyE v) = .sl 1 true false (v.op.map (SVal.int .i64)) := rfl
@[simp] theorem c2_cp (v : View) : SVal.c2 (copyE v) = .sl 1 true false (v.modal.map (SVal.int .i64)) := rfl
@[simp] theorem c3_cp (v : View) : SVal.c3 (copyE v) = .sl 2 true false (v.popups.map encS) := rfl
@[simp] theorem c4_cp (v : View) : SVal.c4 (copyE v) = .sl 1 true false (v.top.map (SVal.int .i64)) := rfl
def dlgR (v : View) (n : Int) (m : Bool) : View × Int :=
  if ¬ chkV v = 0 then (vNil, chkV v) else if isN v.tree n = false then (v, 2) else if dlg v.tree n = false then (v, 3) else if n ∈ openL v then (v, 9) else
    (if m = true then { v with modal := v.modal ++ [n], top := v.top ++ [n] } else { v with op := v.op ++ [n] }, 0)
def popR (v : View) (x : Shown) : View × Int :=
  if ¬ chkV v = 0 then (vNil, chkV v) else if (isN v.tree x.node && (decide (x.invoker = -1) || isN v.tree x.invoker)) = false then (v, 2) else if pop v.tree x.node = false then (v, 3) else if x.node ∈ openL v then (v, 9) else
    ({ v with popups := v.popups ++ [x], top := v.top ++ [x.node] }, 0)
def without (l : List Int) (n : Int) : List Int := l.filter fun x => decide (¬ x = n)
def withoutP (l : List Shown) (n : Int) : List Shown := l.filter fun x => decide (¬ x.node = n)
def clsR (v : View) (n : Int) : View × Int :=
  if ¬ chkV v = 0 then (vNil, chkV v) else if isN v.tree n = false then (v, 2) else if n ∈ openL v then
    (⟨v.tree, without v.op n, without v.modal n, withoutP v.popups n, without v.top n⟩, 0) else (v, 9)
def fixP (t : List Nod) (x : Shown) : Shown := if isN t x.invoker = true then x else ⟨x.node, -1⟩
def fixV (v : View) : View :=
  let m := v.modal.filter (dlg v.tree)
  let p := (v.popups.filter fun x => pop v.tree x.node).map (fixP v.tree)
  ⟨v.tree, v.op.filter (dlg v.tree), m, p, v.top.filter fun n => decide (n ∈ m ++ nodesP p)⟩
def goneV (v : View) : List Int := (v.op.filter fun n => !dlg v.tree n) ++ (v.modal.filter fun n => !dlg v.tree n) ++ nodesP (v.popups.filter fun x => !pop v.tree x.node)
def fixR (v : View) : View × List Int × Int := if mayT v.tree = true then (fixV v, goneV v, 0) else (vNil, [], 1)
def encQ (q : List Shown) : List SVal := q.map encS
@[simp] theorem fold_Q (q : List Shown) : SVal.sl 2 false false (encQ q) = encP q := rfl
theorem encQ_at (o r : List Shown) (x : Shown) : (encQ (o ++ x :: r))[o.length]? = some (encS x) := by simp [encQ]
theorem encQ_set (o r : List Shown) (x y : Shown) : (encQ (o ++ x :: r)).set o.length (encS y) = encQ (o ++ y :: r) := by simp [encQ]
theorem encQ_len (q : List Shown) : (encQ q).length = q.length := by simp [encQ]
@[simp] theorem elemOk_int (n : Int) : elemOk false 1 (int n) = true := rfl
end Go.Lm
namespace Go.Lm
@[simp] theorem fold_V0' : SVal.agg [.sl 7 false false [], encI [], encI [], .sl 2 false false [], encI []] = encV vNil := rfl
end Go.Lm
namespace Go.Lm
section
variable (a0 a1 a2 a3 a4 a5 a6 a7 a8 a9 a10 a11 a12 a13 a14 a15 : SVal) (ls : List SVal) (os : List SVal) (st : Bool)
@[simp] theorem k7_mk : LS.k7 ⟨a0 :: a1 :: a2 :: a3 :: a4 :: a5 :: a6 :: a7 :: ls, os, st⟩ = a7 := rfl
@[simp] theorem k8_mk : LS.k8 ⟨a0 :: a1 :: a2 :: a3 :: a4 :: a5 :: a6 :: a7 :: a8 :: ls, os, st⟩ = a8 := rfl
@[simp] theorem k9_mk : LS.k9 ⟨a0 :: a1 :: a2 :: a3 :: a4 :: a5 :: a6 :: a7 :: a8 :: a9 :: ls, os, st⟩ = a9 := rfl
end
end Go.Lm
end
section
namespace Go.Lm
/-- So long are a view's rows. -/
structure SmB (b : Nat) (v : View) : Prop where
  tr : Sm v.tree
  op : v.op.length ≤ b
  mo : v.modal.length ≤ b
  po : v.popups.length ≤ b
  to : v.top.length ≤ 2 * b
theorem SmB.sm {b : Nat} {v : View} (h : SmB b v) (hb : b ≤ 60) : SmV v := ⟨h.tr, by have := h.op; omega, by have := h.mo; omega, by have := h.po; omega, by have := h.to; omega⟩
theorem SmB.up {b c : Nat} {v : View} (h : SmB b v) (hb : b ≤ c) : SmB c v := ⟨h.tr, by have := h.op; omega, by have := h.mo; omega, by have := h.po; omega, by have := h.to; omega⟩
theorem smallV_B {v : View} (h : smallV v = true) : SmB 40 v := by
  simp only [smallV, Bool.and_eq_true, decide_eq_true_eq] at h
  obtain ⟨⟨⟨⟨⟨h1, h2⟩, h3⟩, h4⟩, h5⟩, h6⟩ := h
  exact ⟨smallT_iff.1 h1, h3, h4, h5, by omega⟩
theorem sm_nil : Sm [] := ⟨by simp, by simp⟩
theorem B_nil (b : Nat) : SmB b vNil := ⟨sm_nil, by simp [vNil], by simp [vNil], by simp [vNil], by simp [vNil]⟩
theorem B_dlg {b : Nat} {v : View} (h : SmB b v) (n : Int) (m : Bool) : SmB (b + 1) (dlgR v n m).1 := by
  unfold dlgR
  have h' := h.up (Nat.le_succ b)
  split; exact B_nil _
  split; exact h'
  split; exact h'
  split; exact h'
  cases m
  · exact ⟨h.tr, by have := h.op; simp; omega, h'.mo, h'.po, h'.to⟩
  · exact ⟨h.tr, h'.op, by have := h.mo; simp; omega, h'.po, by have := h.to; simp; omega⟩
theorem B_pop {b : Nat} {v : View} (h : SmB b v) (x : Shown) : SmB (b + 1) (popR v x).1 := by
  unfold popR
  have h' := h.up (Nat.le_succ b)
  split; exact B_nil _
  split; exact h'
  split; exact h'
  split; exact h'
  exact ⟨h.tr, h'.op, h'.mo, by have := h.po; simp; omega, by have := h.to; simp; omega⟩
theorem B_cls {b : Nat} {v : View} (h : SmB b v) (n : Int) : SmB b (clsR v n).1 := by
  unfold clsR
  split; exact B_nil _
  split; exact h
  split
  · exact ⟨h.tr, Nat.le_trans (List.length_filter_le _ _) h.op, Nat.le_trans (List.length_filter_le _ _) h.mo, Nat.le_trans (List.length_filter_le _ _) h.po, Nat.le_trans (List.length_filter_le _ _) h.to⟩
  · exact h
theorem B_fix {b : Nat} {v : View} (h : SmB b v) : SmB b (fixR v).1 := by
  unfold fixR
  split
  · exact ⟨h.tr, Nat.le_trans (List.length_filter_le _ _) h.op, Nat.le_trans (List.length_filter_le _ _) h.mo, by simp only [fixV, List.length_map]; exact Nat.le_trans (List.length_filter_le _ _) h.po, Nat.le_trans (List.length_filter_le _ _) h.to⟩
  · exact B_nil _
theorem gone_len {b : Nat} {v : View} (h : SmB b v) : (fixR v).2.1.length ≤ 3 * b := by
  unfold fixR
  split
  · simp only [goneV, nodesP, List.length_append, List.length_map]
    have h1 := Nat.le_trans (List.length_filter_le (fun n => !dlg v.tree n) v.op) h.op
    have h2 := Nat.le_trans (List.length_filter_le (fun n => !dlg v.tree n) v.modal) h.mo
    have h3 := Nat.le_trans (List.length_filter_le (fun x : Shown => !pop v.tree x.node) v.popups) h.po
    omega
  · simp
/-! ### Whom may be -/
structure VOk (v : View) : Prop where
  op : ∀ n ∈ v.op, dlg v.tree n = true
  mo : ∀ n ∈ v.modal, dlg v.tree n = true
  po : ∀ x ∈ v.popups, popOk v.tree x = true
  once : (openL v).Nodup
  top : (highL v).Perm v.top
theorem mayV_iff {v : View} : mayV v = true ↔ VOk v := by
  simp only [mayV, Bool.and_eq_true, List.all_eq_true, onceI_iff, decide_eq_true_eq, sortI_iff, List.mem_append]
  constructor
  · rintro ⟨⟨⟨h1, h2⟩, h3⟩, h4⟩
    exact ⟨fun n hn => h1 n (.inl hn), fun n hn => h1 n (.inr hn), h2, h3, h4⟩
  · intro h
    exact ⟨⟨⟨fun n hn => hn.elim (h.op n) (h.mo n), h.po⟩, h.once⟩, h.top⟩
theorem chkV_iff {v : View} : chkV v = 0 ↔ mayT v.tree = true ∧ VOk v := by
  unfold chkV
  rw [← mayV_iff]
  split
  · split <;> simp_all
  · simp_all
theorem mem_high {v : View} {n : Int} : n ∈ highL v ↔ n ∈ v.modal ∨ n ∈ nodesP v.popups := by simp [highL]
theorem mem_open {v : View} {n : Int} : n ∈ openL v ↔ n ∈ v.op ∨ n ∈ v.modal ∨ n ∈ nodesP v.popups := by simp [openL, highL]
theorem perm_last (l : List Int) (n : Int) : (l ++ [n]).Perm (n :: l) := by simpa using List.perm_append_comm (l₁ := l) (l₂ := [n])
/-- What is opened: the view behind it. -/
theorem dlgR_ok {v : View} {n : Int} {m : Bool} (h : (dlgR v n m).2 = 0) : chkV v = 0 ∧ isN v.tree n = true ∧ dlg v.tree n = true ∧ n ∉ openL v ∧
    (dlgR v n m).1 = if m = true then { v with modal := v.modal ++ [n], top := v.top ++ [n] } else { v with op := v.op ++ [n] } := by
  unfold dlgR at h ⊢
  by_cases hc : chkV v = 0
  · by_cases hn : isN v.tree n = true
    · by_cases hd : dlg v.tree n = true
      · by_cases ho : n ∈ openL v
        · simp [hc, hn, hd, ho] at h
        · simp [hc, hn, hd, ho]
      · simp [hc, hn, hd] at h
    · simp [hc, hn] at h
  · simp [hc] at h
theorem popR_ok {v : View} {x : Shown} (h : (popR v x).2 = 0) : chkV v = 0 ∧ isN v.tree x.node = true ∧ popOk v.tree x = true ∧ x.node ∉ openL v ∧
    (popR v x).1 = { v with popups := v.popups ++ [x], top := v.top ++ [x.node] } := by
  unfold popR at h ⊢
  by_cases hc : chkV v = 0
  · by_cases hn : isN v.tree x.node = true
    · by_cases hi : (decide (x.invoker = -1) || isN v.tree x.invoker) = true
      · by_cases hd : pop v.tree x.node = true
        · by_cases ho : x.node ∈ openL v
          · simp only [hc, hn, hd, ho, hi] at h; simp at h
          · simp only [hc, hn, hd, ho, hi]; simp [popOk, hd]; simpa using hi
        · simp only [hc, hn, hd, hi] at h; simp at h
      · simp only [hc, hn, hi] at h; simp at h
    · simp [hc, hn] at h
  · simp [hc] at h
theorem nodesP_app (l r : List Shown) : nodesP (l ++ r) = nodesP l ++ nodesP r := by simp [nodesP]
theorem dlgR_may {v : View} {n : Int} {m : Bool} (h : (dlgR v n m).2 = 0) : VOk (dlgR v n m).1 := by
  obtain ⟨hc, hn, hd, ho, e⟩ := dlgR_ok h
  obtain ⟨_, hv⟩ := chkV_iff.1 hc
  rw [e]
  have hnd : (n :: openL v).Nodup := List.nodup_cons.2 ⟨ho, hv.once⟩
  cases m
  · refine ⟨fun x hx => ?_, hv.mo, hv.po, ?_, hv.top⟩
    · simp at hx
      rcases hx with hx | rfl
      · exact hv.op x hx
      · exact hd
    · refine (List.Perm.nodup_iff ?_).1 (show (n :: openL v).Nodup from hnd)
      have : openL { v with op := v.op ++ [n] } = v.op ++ n :: highL v := by simp [openL, highL]
      simp only [Bool.false_eq_true, if_false]
      rw [this]
      exact (List.perm_middle).symm
  · refine ⟨hv.op, fun x hx => ?_, hv.po, ?_, ?_⟩
    · simp at hx
      rcases hx with hx | rfl
      · exact hv.mo x hx
      · exact hd
    · refine (List.Perm.nodup_iff ?_).1 (show (n :: openL v).Nodup from hnd)
      have : openL { v with modal := v.modal ++ [n], top := v.top ++ [n] } = (v.op ++ v.modal) ++ n :: nodesP v.popups := by simp [openL, highL]
      simp only [if_true]
      rw [this]
      have e2 : openL v = (v.op ++ v.modal) ++ nodesP v.popups := by simp [openL, highL]
      rw [e2]
      exact (List.perm_middle).symm
    · have : highL { v with modal := v.modal ++ [n], top := v.top ++ [n] } = v.modal ++ n :: nodesP v.popups := by simp [highL]
      simp only [if_true]
      rw [this]
      exact (List.perm_middle).trans ((hv.top.cons n).trans (perm_last v.top n).symm)
theorem popR_may {v : View} {x : Shown} (h : (popR v x).2 = 0) : VOk (popR v x).1 := by
  obtain ⟨hc, hn, hd, ho, e⟩ := popR_ok h
  obtain ⟨_, hv⟩ := chkV_iff.1 hc
  rw [e]
  have hnd : (x.node :: openL v).Nodup := List.nodup_cons.2 ⟨ho, hv.once⟩
  refine ⟨hv.op, hv.mo, fun y hy => ?_, ?_, ?_⟩
  · simp at hy
    rcases hy with hy | rfl
    · exact hv.po y hy
    · exact hd
  · refine (List.Perm.nodup_iff ?_).1 (show (x.node :: openL v).Nodup from hnd)
    have : openL { v with popups := v.popups ++ [x], top := v.top ++ [x.node] } = openL v ++ [x.node] := by simp [openL, highL, nodesP]
    rw [this]
    exact (perm_last _ _).symm
  · have : highL { v with popups := v.popups ++ [x], top := v.top ++ [x.node] } = highL v ++ [x.node] := by simp [highL, nodesP]
    rw [this]
    exact hv.top.append_right _
theorem without_not {l : List Int} {n : Int} (h : n ∉ l) : without l n = l := by
  unfold without
  rw [List.filter_eq_self]
  intro x hx
  simp only [decide_eq_true_eq]
  exact fun e => h (e ▸ hx)
theorem withoutP_not {l : List Shown} {n : Int} (h : n ∉ nodesP l) : withoutP l n = l := by
  unfold withoutP
  rw [List.filter_eq_self]
  intro x hx
  simp only [decide_eq_true_eq]
  exact fun e => h (e ▸ List.mem_map_of_mem hx)
theorem without_last {l : List Int} {n : Int} (h : n ∉ l) : without (l ++ [n]) n = l := by
  have := without_not h
  simp [without] at this ⊢
  exact this
theorem withoutP_last {l : List Shown} {x : Shown} (h : x.node ∉ nodesP l) : withoutP (l ++ [x]) x.node = l := by
  have := withoutP_not h
  simp [withoutP] at this ⊢
  exact this
theorem not_top {v : View} (hv : VOk v) {n : Int} (h : n ∉ openL v) : n ∉ v.top := fun hm => h (by
  have := hv.top.mem_iff.2 hm
  simp [openL, this])
theorem dlgR_close {v : View} {n : Int} {m : Bool} (h : (dlgR v n m).2 = 0) : clsR (dlgR v n m).1 n = (v, 0) := by
  have hm := dlgR_may h
  obtain ⟨hc, hn, hd, ho, e⟩ := dlgR_ok h
  obtain ⟨ht, hv⟩ := chkV_iff.1 hc
  have hnt := not_top hv ho
  rw [mem_open] at ho
  have h1 : n ∉ v.op := fun x => ho (.inl x)
  have h2 : n ∉ v.modal := fun x => ho (.inr (.inl x))
  have h3 : n ∉ nodesP v.popups := fun x => ho (.inr (.inr x))
  have htr : (dlgR v n m).1.tree = v.tree := by rw [e]; cases m <;> rfl
  have hc2 : chkV (dlgR v n m).1 = 0 := chkV_iff.2 ⟨by rw [htr]; exact ht, hm⟩
  unfold clsR
  rw [hc2, htr, hn]
  have ho2 : n ∈ openL (dlgR v n m).1 := by
    rw [mem_open, e]; cases m <;> simp
  simp only [not_true, if_false, Bool.true_eq_false, ho2, if_true]
  rw [e]
  cases m
  · simp [without_last h1, without_not h2, withoutP_not h3, without_not hnt]
  · simp [without_not h1, without_last h2, withoutP_not h3, without_last hnt]
theorem popR_close {v : View} {x : Shown} (h : (popR v x).2 = 0) : clsR (popR v x).1 x.node = (v, 0) := by
  have hm := popR_may h
  obtain ⟨hc, hn, hd, ho, e⟩ := popR_ok h
  obtain ⟨ht, hv⟩ := chkV_iff.1 hc
  have hnt := not_top hv ho
  rw [mem_open] at ho
  have h1 : x.node ∉ v.op := fun y => ho (.inl y)
  have h2 : x.node ∉ v.modal := fun y => ho (.inr (.inl y))
  have h3 : x.node ∉ nodesP v.popups := fun y => ho (.inr (.inr y))
  have htr : (popR v x).1.tree = v.tree := by rw [e]
  have hc2 : chkV (popR v x).1 = 0 := chkV_iff.2 ⟨by rw [htr]; exact ht, hm⟩
  unfold clsR
  rw [hc2, htr, hn]
  have ho2 : x.node ∈ openL (popR v x).1 := by
    rw [mem_open, e]; simp [nodesP]
  simp only [not_true, if_false, Bool.true_eq_false, ho2, if_true]
  rw [e]
  simp [without_not h1, without_not h2, withoutP_last h3, without_last hnt]
theorem clsR_may {v : View} {n : Int} (h : (clsR v n).2 = 0) : VOk (clsR v n).1 ∧ n ∉ openL (clsR v n).1 ∧ n ∉ (clsR v n).1.top ∧ (clsR v n).1.tree = v.tree ∧ mayT v.tree = true := by
  unfold clsR at h ⊢
  by_cases hc : chkV v = 0
  · obtain ⟨ht, hv⟩ := chkV_iff.1 hc
    by_cases hn : isN v.tree n = true
    · by_cases ho : n ∈ openL v
      · simp only [hc, hn, ho, not_true, if_false, Bool.true_eq_false, if_true]
        have eN : nodesP (withoutP v.popups n) = without (nodesP v.popups) n := by
          simp only [nodesP, withoutP, without, List.filter_map]; rfl
        have eO : openL ⟨v.tree, without v.op n, without v.modal n, withoutP v.popups n, without v.top n⟩ = without (openL v) n := by
          simp only [openL, highL, eN, without, List.filter_append]
        have eH : highL ⟨v.tree, without v.op n, without v.modal n, withoutP v.popups n, without v.top n⟩ = without (highL v) n := by
          simp only [highL, eN, without, List.filter_append]
        have hno : ∀ l : List Int, n ∉ without l n := fun l hm => by simp [without] at hm
        refine ⟨⟨fun x hx => hv.op x (List.mem_filter.1 hx).1, fun x hx => hv.mo x (List.mem_filter.1 hx).1, fun x hx => hv.po x (List.mem_filter.1 hx).1, ?_, ?_⟩, ?_, hno _, trivial, ht⟩
        · rw [eO]; exact hv.once.filter _
        · rw [eH]; exact hv.top.filter _
        · rw [eO]; exact hno _
      · simp [hc, hn, ho] at h
    · simp [hc, hn] at h
  · simp [hc] at h
/-! ### The highest -/
theorem highF_take (modal top : List Int) : ∀ (i : Nat) (r : List Int), i ≤ top.length → highF modal (top ++ r) i = highF modal top i
  | 0, _, _ => rfl
  | i + 1, r, h => by
    have h1 : i < top.length := by omega
    have e : (top ++ r).getD i 0 = top.getD i 0 := by simp only [List.getD_eq_getElem?_getD, List.getElem?_append_left h1]
    simp only [highF, e, highF_take modal top i r (by omega)]
theorem highF_last (modal top : List Int) (n : Int) : highF modal (top ++ [n]) (top.length + 1) = if n ∈ modal then n else highF modal top top.length := by
  have e : (top ++ [n]).getD top.length 0 = n := by simp
  simp only [highF, e, highF_take modal top _ [n] (Nat.le_refl _)]
/-- The highest one is the last of those of the top layer that are modal. -/
theorem highF_spec (modal top : List Int) : ∀ i, i ≤ top.length → (highF modal top i = -1 ∧ ∀ j, j < i → top.getD j 0 ∉ modal) ∨
    (∃ j, j < i ∧ highF modal top i = top.getD j 0 ∧ top.getD j 0 ∈ modal ∧ ∀ q, j < q → q < i → top.getD q 0 ∉ modal)
  | 0, _ => .inl ⟨rfl, fun j hj => by omega⟩
  | i + 1, h => by
    simp only [highF]
    split
    · rename_i hm
      exact .inr ⟨i, by omega, rfl, hm, fun q h1 h2 => by omega⟩
    · rename_i hm
      rcases highF_spec modal top i (by omega) with ⟨h1, h2⟩ | ⟨j, h1, h2, h3, h4⟩
      · refine .inl ⟨h1, fun j hj => ?_⟩
        by_cases e : j = i
        · exact e ▸ hm
        · exact h2 j (by omega)
      · refine .inr ⟨j, by omega, h2, h3, fun q hq hq2 => ?_⟩
        by_cases e : q = i
        · exact e ▸ hm
        · exact h4 q hq (by omega)
theorem highF_congr {m m' : List Int} {top : List Int} : ∀ i, (∀ j, j < i → (top.getD j 0 ∈ m ↔ top.getD j 0 ∈ m')) → highF m top i = highF m' top i
  | 0, _ => rfl
  | i + 1, h => by
    simp only [highF]
    rw [highF_congr i fun j hj => h j (by omega)]
    by_cases h1 : top.getD i 0 ∈ m
    · rw [if_pos h1, if_pos ((h i (by omega)).1 h1)]
    · rw [if_neg h1, if_neg fun x => h1 ((h i (by omega)).2 x)]
theorem dlg_is {t : List Nod} {n : Int} (h : dlg t n = true) : isN t n = true := by
  simp only [dlg, isEl, Bool.and_eq_true] at h; exact con_is h.1.1
theorem high_none {v : View} (hv : VOk v) (h : highF v.modal v.top v.top.length = -1) : v.modal = [] := by
  cases hm : v.modal with
  | nil => rfl
  | cons n l =>
    exfalso
    have hn : n ∈ v.modal := by simp [hm]
    have ht : n ∈ v.top := hv.top.mem_iff.1 (by simp [highL, hm])
    obtain ⟨j, hj, e⟩ := List.getElem_of_mem ht
    have hg : v.top.getD j 0 = n := by simp [hj, e]
    rcases highF_spec v.modal v.top v.top.length (Nat.le_refl _) with ⟨_, h2⟩ | ⟨q, _, h2, h3, _⟩
    · exact h2 j hj (hg ▸ hn)
    · rw [h] at h2
      rw [← h2] at h3
      have := isN_iff.1 (dlg_is (hv.mo _ h3))
      omega
/-! ### What is fixed -/
theorem nodup_len : ∀ {a b : List Int}, a.Nodup → (∀ x ∈ a, x ∈ b) → a.length ≤ b.length
  | [], _, _, _ => Nat.zero_le _
  | x :: a, b, hn, hs => by
    have hx : x ∈ b := hs x (by simp)
    have hn' := List.nodup_cons.1 hn
    have := nodup_len (b := b.erase x) hn'.2 fun y hy => by
      have hyx : y ≠ x := fun e => hn'.1 (e ▸ hy)
      exact (List.mem_erase_of_ne hyx).2 (hs y (by simp [hy]))
    rw [List.length_erase_of_mem hx] at this
    have : 0 < b.length := List.length_pos_of_mem hx
    simp; omega
theorem nodup_perm {a b : List Int} (ha : a.Nodup) (hb : b.Nodup) (h : ∀ x, x ∈ a ↔ x ∈ b) : a.Perm b := perm_of_sub ha (fun x hx => (h x).1 hx) (nodup_len hb fun x hx => (h x).2 hx)
theorem fixP_node (t : List Nod) (x : Shown) : (fixP t x).node = x.node := by unfold fixP; split <;> rfl
theorem nodesP_fix (t : List Nod) (l : List Shown) : nodesP (l.map (fixP t)) = nodesP l := by simp [nodesP, fixP_node]
theorem fixP_ok {t : List Nod} {x : Shown} (h : pop t x.node = true) : popOk t (fixP t x) = true := by
  simp only [popOk, fixP_node, h, Bool.true_and, Bool.or_eq_true, decide_eq_true_eq]
  unfold fixP
  split
  · rename_i hk; exact .inr hk
  · exact .inl rfl
theorem fixP_twice (t : List Nod) (x : Shown) : fixP t (fixP t x) = fixP t x := by
  unfold fixP
  by_cases h : isN t x.invoker = true
  · simp [h]
  · simp only [if_neg h]
    split <;> rfl
theorem len_filter_not {α : Type} (p : α → Bool) : ∀ l : List α, (l.filter p).length + (l.filter fun x => !p x).length = l.length
  | [] => rfl
  | x :: l => by
    have := len_filter_not p l
    cases h : p x <;> simp [List.filter_cons, h] <;> omega
theorem fixV_may {v : View} (h1 : (openL v).Nodup) (h2 : v.top.Nodup) (h3 : v.top.length = (highL v).length) (h4 : ∀ n ∈ highL v, n ∈ v.top) : VOk (fixV v) := by
  have hp : ∀ n, n ∈ highL v ↔ n ∈ v.top := fun n => (perm_of_sub (List.nodup_append.1 h1).2.1 h4 (by omega)).mem_iff
  have eN : nodesP (fixV v).popups = nodesP (v.popups.filter fun x => pop v.tree x.node) := nodesP_fix _ _
  have sub : (openL (fixV v)).Sublist (openL v) := by
    simp only [openL, highL, eN]
    exact List.Sublist.append (List.filter_sublist) (List.Sublist.append (List.filter_sublist) ((List.filter_sublist).map _))
  have hnd := sub.nodup h1
  refine ⟨fun n hn => (List.mem_filter.1 hn).2, fun n hn => (List.mem_filter.1 hn).2, fun x hx => ?_, hnd, ?_⟩
  · obtain ⟨y, hy, rfl⟩ := List.mem_map.1 hx
    exact fixP_ok (List.mem_filter.1 hy).2
  · refine nodup_perm (List.nodup_append.1 hnd).2.1 (h2.filter _) fun n => ?_
    have e : (fixV v).top = v.top.filter fun n => decide (n ∈ highL (fixV v)) := rfl
    rw [e, List.mem_filter, decide_eq_true_eq]
    constructor
    · intro hn
      refine ⟨(hp n).1 ?_, hn⟩
      rw [mem_high] at hn ⊢
      rw [eN] at hn
      rcases hn with hn | hn
      · exact .inl (List.mem_filter.1 hn).1
      · obtain ⟨y, hy, rfl⟩ := List.mem_map.1 hn
        exact .inr (List.mem_map_of_mem (List.mem_filter.1 hy).1)
    · exact fun hn => hn.2
theorem filter_twice {α : Type} (p : α → Bool) (l : List α) : (l.filter p).filter p = l.filter p := List.filter_eq_self.2 fun x hx => (List.mem_filter.1 hx).2
theorem filter_none {α : Type} (p : α → Bool) (l : List α) : (l.filter p).filter (fun x => !p x) = [] := List.filter_eq_nil_iff.2 fun x hx => by simp [(List.mem_filter.1 hx).2]
theorem pop_filter (t : List Nod) (l : List Shown) : ((l.filter fun x => pop t x.node).map (fixP t)).filter (fun x => pop t x.node) = (l.filter fun x => pop t x.node).map (fixP t) :=
  List.filter_eq_self.2 fun x hx => by
    obtain ⟨y, hy, rfl⟩ := List.mem_map.1 hx
    rw [fixP_node]; exact (List.mem_filter.1 hy).2
theorem fixV_twice (v : View) : fixV (fixV v) = fixV v := by
  have e1 : (fixV v).tree = v.tree := rfl
  have e2 : (fixV v).op.filter (dlg v.tree) = (fixV v).op := filter_twice _ _
  have e3 : (fixV v).modal.filter (dlg v.tree) = (fixV v).modal := filter_twice _ _
  have e4 : (((fixV v).popups.filter fun x => pop v.tree x.node).map (fixP v.tree)) = (fixV v).popups := by
    show ((((v.popups.filter fun x => pop v.tree x.node).map (fixP v.tree)).filter fun x => pop v.tree x.node).map (fixP v.tree)) = _
    rw [pop_filter, List.map_map]
    show _ = (v.popups.filter fun x => pop v.tree x.node).map (fixP v.tree)
    congr 1
    funext x; exact fixP_twice _ _
  show (⟨v.tree, (fixV v).op.filter (dlg v.tree), (fixV v).modal.filter (dlg v.tree), ((fixV v).popups.filter fun x => pop v.tree x.node).map (fixP v.tree), (fixV v).top.filter fun n => decide (n ∈ (fixV v).modal.filter (dlg v.tree) ++ nodesP (((fixV v).popups.filter fun x => pop v.tree x.node).map (fixP v.tree)))⟩ : View) = fixV v
  rw [e2, e3, e4]
  have e5 : ((fixV v).top.filter fun n => decide (n ∈ (fixV v).modal ++ nodesP (fixV v).popups)) = (fixV v).top := filter_twice _ _
  rw [e5]
  rfl
theorem gone_twice (v : View) : goneV (fixV v) = [] := by
  have e1 : ((fixV v).op.filter fun n => !dlg v.tree n) = [] := filter_none _ _
  have e2 : ((fixV v).modal.filter fun n => !dlg v.tree n) = [] := filter_none _ _
  have e3 : ((fixV v).popups.filter fun x => !pop v.tree x.node) = [] := by
    rw [List.filter_eq_nil_iff]
    intro x hx
    obtain ⟨y, hy, rfl⟩ := List.mem_map.1 hx
    simp [fixP_node, (List.mem_filter.1 hy).2]
  show ((fixV v).op.filter fun n => !dlg v.tree n) ++ ((fixV v).modal.filter fun n => !dlg v.tree n) ++ nodesP ((fixV v).popups.filter fun x => !pop v.tree x.node) = []
  rw [e1, e2, e3]; rfl
theorem gone_count (v : View) : (goneV v).length + (fixV v).op.length + (fixV v).modal.length + (fixV v).popups.length = (openL v).length := by
  have h1 := len_filter_not (dlg v.tree) v.op
  have h2 := len_filter_not (dlg v.tree) v.modal
  have h3 := len_filter_not (fun x : Shown => pop v.tree x.node) v.popups
  simp only [goneV, fixV, openL, highL, nodesP, List.length_append, List.length_map]
  omega
end Go.Lm
end
section
namespace Go.Lm
open List
theorem flatMap_congr2 {f g : Int → List Int} : ∀ {l : List Int}, (∀ x ∈ l, f x = g x) → l.flatMap f = l.flatMap g
  | [], _ => rfl
  | x :: l, h => by rw [List.flatMap_cons, List.flatMap_cons, h x (by simp), flatMap_congr2 fun y hy => h y (by simp [hy])]
def preF (kids : Int → List Int) : Nat → Int → List Int
  | 0, _ => []
  | d + 1, n => n :: (kids n).flatMap (preF kids d)
/-- Kids, and whom one comes to, going up. -/
structure Tw (P : Int → Prop) (kids : Int → List Int) (par : Int → Int) (up : Int → List Int) (N : Nat) : Prop where
  kid : ∀ n k, P n → k ∈ kids n → P k ∧ par k = n
  nodup : ∀ n, P n → (kids n).Nodup
  mem : ∀ n, P n → P (par n) → n ∈ kids (par n)
  parP : ∀ n, P n → par n = -1 ∨ P (par n)
  none : ¬ P (-1)
  upc : ∀ n, P n → up n = n :: up (par n)
  up0 : up (-1) = []
  len : ∀ n, P n → (up n).length ≤ N
section
variable {P : Int → Prop} {kids : Int → List Int} {par : Int → Int} {up : Int → List Int} {N : Nat}
theorem Tw.up_kid (h : Tw P kids par up N) {n k : Int} (hn : P n) (hk : k ∈ kids n) : up k = k :: up n := by
  obtain ⟨h1, h2⟩ := h.kid n k hn hk
  rw [h.upc k h1, h2]
theorem Tw.stable (h : Tw P kids par up N) : ∀ (d : Nat) (n : Int), P n → N + 1 ≤ d + (up n).length → preF kids d n = preF kids (d + 1) n
  | 0, n, hn, hd => by have := h.len n hn; omega
  | d + 1, n, hn, hd => by
    rw [preF, preF, flatMap_congr2]
    intro k hk
    have h1 := h.up_kid hn hk
    have hk' := (h.kid n k hn hk).1
    have h2 : (up k).length = (up n).length + 1 := by rw [h1]; simp
    exact h.stable d k hk' (by omega)
theorem Tw.stable' (h : Tw P kids par up N) {n : Int} (hn : P n) {d : Nat} (hd : N + 1 ≤ d + (up n).length) : ∀ e, preF kids d n = preF kids (d + e) n
  | 0 => rfl
  | e + 1 => by rw [h.stable' hn hd e, h.stable (d + e) n hn (by omega)]; rfl
theorem Tw.pos (h : Tw P kids par up N) {n : Int} (hn : P n) : 0 < (up n).length := by rw [h.upc n hn]; simp
theorem Tw.pre_cons (h : Tw P kids par up N) {n : Int} (hn : P n) : preF kids (N + 1) n = n :: (kids n).flatMap (preF kids (N + 1)) := by
  rw [preF, flatMap_congr2]
  intro k hk
  have hk' := (h.kid n k hn hk).1
  have := h.pos hk'
  exact h.stable N k hk' (by omega)
theorem Tw.ind (h : Tw P kids par up N) {Q : Int → Prop} (hQ : ∀ n, P n → (∀ k ∈ kids n, Q k) → Q n) : ∀ n, P n → Q n := by
  have : ∀ (d : Nat) (n : Int), P n → N + 1 ≤ d + (up n).length → Q n := by
    intro d
    induction d with
    | zero => intro n hn hd; have := h.len n hn; omega
    | succ d ih =>
      intro n hn hd
      refine hQ n hn fun k hk => ih k (h.kid n k hn hk).1 ?_
      rw [h.up_kid hn hk]; simp; omega
  intro n hn
  exact this (N + 1) n hn (by omega)
/-- Going up. -/
theorem Tw.indUp (h : Tw P kids par up N) {Q : Int → Prop} (hQ : ∀ n, P n → (par n = -1 ∨ Q (par n)) → Q n) : ∀ n, P n → Q n := by
  have : ∀ (d : Nat) (n : Int), P n → (up n).length ≤ d → Q n := by
    intro d
    induction d with
    | zero => intro n hn hd; have := h.pos hn; omega
    | succ d ih =>
      intro n hn hd
      refine hQ n hn ?_
      rcases h.parP n hn with h1 | h1
      · exact .inl h1
      · refine .inr (ih _ h1 ?_)
        rw [h.upc n hn] at hd; simp at hd; omega
  intro n hn
  exact this _ n hn (Nat.le_refl _)
theorem Tw.upP (h : Tw P kids par up N) : ∀ n, P n → ∀ m ∈ up n, P m := h.indUp fun n hn ih m hm => by
  rw [h.upc n hn] at hm
  rcases List.mem_cons.1 hm with rfl | hm
  · exact hn
  · rcases ih with ih | ih
    · rw [ih, h.up0] at hm; simp at hm
    · exact ih m hm
theorem Tw.up_self (h : Tw P kids par up N) {n : Int} (hn : P n) : n ∈ up n := by rw [h.upc n hn]; simp
/-- What is above of one above is a tail. -/
theorem Tw.suffix (h : Tw P kids par up N) : ∀ n, P n → ∀ m ∈ up n, up m <:+ up n := h.indUp fun n hn ih m hm => by
  have hc := h.upc n hn
  rw [hc] at hm
  rcases List.mem_cons.1 hm with rfl | hm
  · exact List.suffix_refl _
  · rcases ih with ih | ih
    · rw [ih, h.up0] at hm; simp at hm
    · rw [hc]; exact (ih m hm).trans (List.suffix_cons _ _)
theorem Tw.trans (h : Tw P kids par up N) {a b c : Int} (hc : P c) (h1 : b ∈ up c) (h2 : a ∈ up b) : a ∈ up c := (h.suffix c hc b h1).subset h2
theorem Tw.up_len (h : Tw P kids par up N) {n m : Int} (hn : P n) (hm : m ∈ up n) : m = n ∨ (up m).length < (up n).length := by
  have hc := h.upc n hn
  rw [hc] at hm
  rcases List.mem_cons.1 hm with rfl | hm
  · exact .inl rfl
  · right
    rcases h.parP n hn with h1 | h1
    · rw [h1, h.up0] at hm; simp at hm
    · have := (h.suffix _ h1 m hm).length_le
      rw [hc]; simp; omega
theorem Tw.up_nodup (h : Tw P kids par up N) : ∀ n, P n → (up n).Nodup := h.indUp fun n hn ih => by
  rw [h.upc n hn, List.nodup_cons]
  rcases ih with ih | ih
  · rw [ih, h.up0]; simp
  · refine ⟨fun hm => ?_, ih⟩
    rcases h.parP n hn with h1 | h1
    · rw [h1, h.up0] at hm; simp at hm
    · have h2 := (h.suffix _ h1 n hm).length_le
      rw [h.upc n hn] at h2; simp at h2; omega
theorem Tw.antisymm (h : Tw P kids par up N) {a b : Int} (ha : P a) (hb : P b) (h1 : a ∈ up b) (h2 : b ∈ up a) : a = b := by
  rcases h.up_len hb h1 with e | e
  · exact e
  · rcases h.up_len ha h2 with e2 | e2
    · exact e2.symm
    · omega
/-- Of two above one, one is above the other. -/
theorem Tw.total (h : Tw P kids par up N) : ∀ n, P n → ∀ a b, a ∈ up n → b ∈ up n → a ∈ up b ∨ b ∈ up a := h.indUp fun n hn ih a b ha hb => by
  have hc := h.upc n hn
  rw [hc] at ha hb
  rcases List.mem_cons.1 ha with rfl | ha'
  · right; rw [hc]; exact hb
  · rcases List.mem_cons.1 hb with rfl | hb'
    · left; rw [hc]; exact ha
    · rcases ih with ih | ih
      · rw [ih, h.up0] at ha'; simp at ha'
      · exact ih a b ha' hb'
theorem Tw.same_len (h : Tw P kids par up N) {n a b : Int} (hn : P n) (ha : a ∈ up n) (hb : b ∈ up n) (hl : (up a).length = (up b).length) : a = b := by
  rcases h.total n hn a b ha hb with h1 | h1
  · rcases h.up_len (h.upP n hn b hb) h1 with e | e
    · exact e
    · omega
  · rcases h.up_len (h.upP n hn a ha) h1 with e | e
    · exact e.symm
    · omega
abbrev Tw.pre (_ : Tw P kids par up N) (n : Int) : List Int := preF kids (N + 1) n
theorem Tw.pre_self (h : Tw P kids par up N) {n : Int} (hn : P n) : n ∈ h.pre n := by rw [Tw.pre, h.pre_cons hn]; simp
theorem Tw.pre_kid (h : Tw P kids par up N) : ∀ a, P a → ∀ x k, x ∈ h.pre a → P x → k ∈ kids x → k ∈ h.pre a := h.ind fun a ha ih x k hx hp hk => by
  rw [Tw.pre, h.pre_cons ha] at hx ⊢
  rcases List.mem_cons.1 hx with rfl | hx
  · refine List.mem_cons_of_mem _ (List.mem_flatMap.2 ⟨k, hk, h.pre_self (h.kid _ _ hp hk).1⟩)
  · obtain ⟨q, hq, hx⟩ := List.mem_flatMap.1 hx
    exact List.mem_cons_of_mem _ (List.mem_flatMap.2 ⟨q, hq, ih q hq x k hx hp hk⟩)
theorem Tw.preP (h : Tw P kids par up N) : ∀ a, P a → ∀ m ∈ h.pre a, P m := h.ind fun a ha ih m hm => by
  rw [Tw.pre, h.pre_cons ha] at hm
  rcases List.mem_cons.1 hm with rfl | hm
  · exact ha
  · obtain ⟨q, hq, hx⟩ := List.mem_flatMap.1 hm
    exact ih q hq m hx
theorem Tw.pre_up (h : Tw P kids par up N) : ∀ a, P a → ∀ m ∈ h.pre a, a ∈ up m := h.ind fun a ha ih m hm => by
  rw [Tw.pre, h.pre_cons ha] at hm
  rcases List.mem_cons.1 hm with rfl | hm
  · exact h.up_self ha
  · obtain ⟨q, hq, hx⟩ := List.mem_flatMap.1 hm
    have hq' := (h.kid a q ha hq).1
    have h1 := ih q hq m hx
    exact h.trans (h.preP q hq' m hx) h1 (by rw [h.up_kid ha hq]; exact List.mem_cons_of_mem _ (h.up_self ha))
theorem Tw.mem_pre (h : Tw P kids par up N) {a : Int} (ha : P a) : ∀ m, P m → (m ∈ h.pre a ↔ a ∈ up m) := by
  intro m hm
  refine ⟨h.pre_up a ha m, ?_⟩
  revert hm
  revert m
  refine fun m hm => h.indUp (Q := fun m => a ∈ up m → m ∈ h.pre a) (fun m hm ih hu => ?_) m hm
  rw [h.upc m hm] at hu
  rcases List.mem_cons.1 hu with rfl | hu
  · exact h.pre_self ha
  · rcases ih with ih | ih
    · rw [ih, h.up0] at hu; simp at hu
    · rcases h.parP m hm with h1 | h1
      · rw [h1, h.up0] at hu; simp at hu
      · exact h.pre_kid a ha _ m (ih hu) h1 (h.mem m hm h1)
theorem nodup_flatMap {f : Int → List Int} : ∀ {l : List Int}, l.Nodup → (∀ k ∈ l, (f k).Nodup) → (∀ a ∈ l, ∀ b ∈ l, ∀ m, m ∈ f a → m ∈ f b → a = b) → (l.flatMap f).Nodup
  | [], _, _, _ => by simp
  | k :: l, hn, hf, hd => by
    rw [List.flatMap_cons, List.nodup_append]
    have hn' := List.nodup_cons.1 hn
    refine ⟨hf k (by simp), nodup_flatMap hn'.2 (fun q hq => hf q (by simp [hq])) (fun a ha b hb => hd a (by simp [ha]) b (by simp [hb])), ?_⟩
    intro x hx y hy e
    subst e
    obtain ⟨q, hq, hy⟩ := List.mem_flatMap.1 hy
    have := hd k (by simp) q (by simp [hq]) x hx hy
    exact hn'.1 (this ▸ hq)
theorem Tw.pre_nodup (h : Tw P kids par up N) : ∀ a, P a → (h.pre a).Nodup := h.ind fun a ha ih => by
  rw [Tw.pre, h.pre_cons ha, List.nodup_cons]
  constructor
  · intro hm
    obtain ⟨q, hq, hx⟩ := List.mem_flatMap.1 hm
    have hq' := (h.kid a q ha hq).1
    have h1 := h.pre_up q hq' a hx
    have h2 := (h.suffix a ha q h1).length_le
    rw [h.up_kid ha hq] at h2
    simp at h2; omega
  · refine nodup_flatMap (h.nodup a ha) ih fun x hx y hy m h1 h2 => ?_
    have hx' := (h.kid a x ha hx).1
    have hy' := (h.kid a y ha hy).1
    have hm := h.preP x hx' m h1
    exact h.same_len hm (h.pre_up x hx' m h1) (h.pre_up y hy' m h2) (by rw [h.up_kid ha hx, h.up_kid ha hy]; simp)
theorem sub_flatMap {f : Int → List Int} {l : List Int} {k : Int} (hk : k ∈ l) : f k <+ l.flatMap f := by
  obtain ⟨s, t, rfl⟩ := List.append_of_mem hk
  rw [List.flatMap_append, List.flatMap_cons]
  exact (List.sublist_append_left _ _).trans (List.sublist_append_right _ _)
theorem Tw.pre_sub (h : Tw P kids par up N) : ∀ a, P a → ∀ x, x ∈ h.pre a → h.pre x <+ h.pre a := h.ind fun a ha ih x hx => by
  have hc := h.pre_cons ha
  have hx' := h.preP a ha x hx
  rw [Tw.pre, hc] at hx
  rcases List.mem_cons.1 hx with rfl | hx
  · exact List.Sublist.refl _
  · obtain ⟨q, hq, hx⟩ := List.mem_flatMap.1 hx
    show h.pre x <+ preF kids (N + 1) a
    rw [hc]
    exact (ih q hq x hx).trans ((sub_flatMap (f := preF kids (N + 1)) hq).trans (List.sublist_cons_self _ _))
/-- One stands behind whom it is a kid of. -/
theorem Tw.pre_before (h : Tw P kids par up N) {a m : Int} (ha : P a) (hm : m ∈ h.pre a) (hne : m ≠ a) : par m ∈ h.pre a ∧ [par m, m] <+ h.pre a := by
  have hm' := h.preP a ha m hm
  have h1 := (h.mem_pre ha m hm').1 hm
  rw [h.upc m hm'] at h1
  rcases List.mem_cons.1 h1 with e | h1
  · exact absurd e.symm hne
  · rcases h.parP m hm' with h2 | h2
    · rw [h2, h.up0] at h1; simp at h1
    · have h3 : par m ∈ h.pre a := (h.mem_pre ha _ h2).2 h1
      refine ⟨h3, List.Sublist.trans ?_ (h.pre_sub a ha _ h3)⟩
      rw [Tw.pre, h.pre_cons h2]
      refine List.Sublist.cons_cons _ (List.singleton_sublist.2 (List.mem_flatMap.2 ⟨m, h.mem m hm' h2, h.pre_self hm'⟩))
end
theorem pl_sub {a b : Int} : ∀ {l : List Int} (i : Nat), l.Nodup → [a, b] <+ l → 0 ≤ plF a l i ∧ plF a l i < plF b l i
  | [], _, _, h => by simp at h
  | x :: l, i, hn, h => by
    have hn' := List.nodup_cons.1 hn
    rcases List.sublist_cons_iff.1 h with h' | ⟨r, e, h'⟩
    · have ha : a ∈ l := h'.subset (by simp)
      have hb : b ∈ l := h'.subset (by simp)
      have h1 : x ≠ a := fun e => hn'.1 (e ▸ ha)
      have h2 : x ≠ b := fun e => hn'.1 (e ▸ hb)
      simp only [plF, h1, h2, if_false]
      exact pl_sub (i + 1) hn'.2 h'
    · obtain ⟨e1, e2⟩ := List.cons.inj e
      subst e2
      subst e1
      have hb : b ∈ l := List.singleton_sublist.1 h'
      have h2 : a ≠ b := fun e => hn'.1 (e ▸ hb)
      simp only [plF, if_true, h2, if_false]
      obtain ⟨j, _, e, _⟩ := plF_get (i := i + 1) hb
      rw [e]; omega
end Go.Lm
end
section
namespace Go.Lm
open List
theorem nodup_cnt : ∀ {l : List Int}, (∀ k ∈ l, cntI k l = 1) → l.Nodup
  | [], _ => by simp
  | x :: l, h => by
    rw [List.nodup_cons]
    have h1 : x ∉ l := fun hm => by
      have h2 := h x (by simp)
      simp only [cntI, if_true] at h2
      have := cnt_mem.2 hm; omega
    refine ⟨h1, nodup_cnt fun k hk => ?_⟩
    have h2 := h k (by simp [hk])
    have h3 : x ≠ k := fun e => h1 (e ▸ hk)
    simpa [cntI, h3] using h2
/-- A node of a tree that may be. -/
structure NodeF (t : List Nod) (n : Int) : Prop where
  kid : ∀ k ∈ (nd t n).kids, isN t k = true ∧ cntI k (nd t n).kids = 1 ∧ (nd t k).parent = n ∧ ((nd t k).kind = 1 ∨ (nd t k).kind = 2)
  par : (nd t n).parent = -1 ∨ (isN t (nd t n).parent = true ∧ cntI n (nd t (nd t n).parent).kids = 1)
  shad : (nd t n).kind = 3 → (nd t n).root = -1 ∧ (nd t n).parent = -1 ∧ isN t (nd t n).host = true ∧ (nd t (nd t n).host).kind = 1 ∧ (nd t (nd t n).host).root = n
  plain : ¬ (nd t n).kind = 3 → (nd t n).host = -1 ∧ ((nd t n).root = -1 ∨ ((nd t n).kind = 1 ∧ isN t (nd t n).root = true ∧ (nd t (nd t n).root).kind = 3 ∧ (nd t (nd t n).root).host = n))
  doc : (nd t n).kind = 0 ↔ n = 0
  knd : 0 ≤ (nd t n).kind ∧ (nd t n).kind ≤ 3
  tag : if (nd t n).kind = 1 then 0 ≤ (nd t n).tag ∧ (nd t n).tag ≤ 4 else (nd t n).tag = 0
  text : (nd t n).kind = 2 → (nd t n).kids = []
  atts : attsOk (nd t n) = true
theorem May.f {t : List Nod} (h : May t) {n : Int} (hn : isN t n = true) : NodeF t n := by
  have h1 := h.node hn
  simp only [nodeOk, Bool.and_eq_true] at h1
  obtain ⟨⟨⟨h2, h3⟩, h4⟩, h5⟩ := h1
  simp only [kndOk, Bool.and_eq_true, decide_eq_true_eq, beq_iff_eq] at h2
  simp only [kidsOk, kidOk, Bool.and_eq_true, decide_eq_true_eq, List.all_eq_true, Bool.or_eq_true, Bool.not_eq_true', Bool.and_eq_false_iff, decide_eq_false_iff_not] at h4
  obtain ⟨⟨⟨h21, h22⟩, h23⟩, h24⟩ := h2
  refine ⟨fun k hk => ?_, h4.2, fun h6 => ?_, fun h6 => ?_, ?_, ⟨h22, h23⟩, ?_, fun h6 => ?_, h3⟩
  · have := h4.1.1 k hk; exact ⟨this.1.1.1, this.1.1.2, this.1.2, this.2⟩
  · simp only [shadOk, h6, if_true, Bool.and_eq_true, decide_eq_true_eq] at h5
    exact ⟨h5.1.1.1.1, h5.1.1.1.2, h5.1.1.2, h5.1.2, h5.2⟩
  · simp only [shadOk, h6, if_false, Bool.and_eq_true, Bool.or_eq_true, decide_eq_true_eq] at h5
    refine ⟨h5.1, ?_⟩
    rcases h5.2 with h7 | h7
    · exact .inl h7
    · exact .inr ⟨h7.1.1.1, h7.1.1.2, h7.1.2, h7.2⟩
  · simpa using h21
  · split
    · rename_i h6; simpa [h6] using h24
    · rename_i h6; simpa [h6] using h24
  · rcases h4.1.2 with h7 | h7
    · exact absurd h6 h7
    · exact List.length_eq_zero_iff.1 (by omega)
theorem not_m1 (t : List Nod) : ¬ isN t (-1) = true := fun h => isN_ne h rfl
/-- The tree without shadows. -/
theorem ordTr {t : List Nod} (h : May t) : Tw (fun n => isN t n = true) (fun n => (nd t n).kids) (fun n => (nd t n).parent) (fun n => parsO t (ups t n)) (t.length + 1) where
  kid n k hn hk := ⟨((h.f hn).kid k hk).1, ((h.f hn).kid k hk).2.2.1⟩
  nodup n hn := nodup_cnt fun k hk => ((h.f hn).kid k hk).2.1
  mem n hn hp := by
    rcases (h.f hn).par with e | e
    · rw [e] at hp; exact absurd hp (not_m1 t)
    · exact cnt_mem.1 (by omega)
  parP n hn := (h.f hn).par.imp_right (·.1)
  none := not_m1 t
  upc n hn := by
    simp only [ups_cons h hn, parsO]
    split
    · rename_i h3; rw [((h.f hn).shad h3).2.1, ups_nil]; rfl
    · rename_i h3; simp [upN, h3]
  up0 := by simp [ups_nil, parsO]
  len n _ := Nat.le_trans (pars_len t _) (ups_len t n)
/-- The tree with shadows. -/
def skids (t : List Nod) (n : Int) : List Int := (if (nd t n).root = -1 then [] else [(nd t n).root]) ++ (nd t n).kids
theorem shTr {t : List Nod} (h : May t) : Tw (fun n => isN t n = true) (skids t) (upN t) (ups t) (t.length + 1) where
  kid n k hn hk := by
    have hf := h.f hn
    simp only [skids, List.mem_append] at hk
    rcases hk with hk | hk
    · split at hk
      · simp at hk
      · rename_i hr
        simp only [List.mem_singleton] at hk
        subst hk
        have h3 : ¬ (nd t n).kind = 3 := fun h3 => hr (hf.shad h3).1
        rcases (hf.plain h3).2 with e | ⟨e1, e2, e3, e4⟩
        · exact absurd e hr
        · exact ⟨e2, by simp [upN, e3, e4]⟩
    · obtain ⟨e1, _, e2, e3⟩ := hf.kid k hk
      refine ⟨e1, ?_⟩
      have : ¬ (nd t k).kind = 3 := by omega
      simp [upN, this, e2]
  nodup n hn := by
    have hf := h.f hn
    have hk : (nd t n).kids.Nodup := nodup_cnt fun k hk => (hf.kid k hk).2.1
    unfold skids
    split
    · simpa using hk
    · rename_i hr
      have h3 : ¬ (nd t n).kind = 3 := fun h3 => hr (hf.shad h3).1
      rw [List.singleton_append, List.nodup_cons]
      refine ⟨fun hm => ?_, hk⟩
      rcases (hf.plain h3).2 with e | ⟨_, _, e3, _⟩
      · exact hr e
      · have := (hf.kid _ hm).2.2.2; omega
  mem n hn hp := by
    have hf := h.f hn
    unfold upN at hp ⊢
    unfold skids
    split
    · rename_i h3
      rw [if_neg (by rw [(hf.shad h3).2.2.2.2]; exact isN_ne hn), (hf.shad h3).2.2.2.2]; simp
    · rename_i h3
      rw [if_neg h3] at hp
      rcases hf.par with e | e
      · rw [e] at hp; exact absurd hp (not_m1 t)
      · exact List.mem_append_right _ (cnt_mem.1 (by omega))
  parP n hn := h.up hn
  none := not_m1 t
  upc n hn := ups_cons h hn
  up0 := ups_nil t
  len n _ := ups_len t n
theorem ord_sub {t : List Nod} {n m : Int} (hm : m ∈ parsO t (ups t n)) : m ∈ ups t n := by
  rw [pars_rest t (ups t n)]; exact List.mem_append_left _ hm
/-- The top of the tree that a node is in: it has no parent. -/
theorem top_of {t : List Nod} (h : May t) : ∀ n, isN t n = true → topN t n = (if (nd t n).parent = -1 then n else topN t (nd t n).parent) := fun n hn => by
  have h1 : parsO t (ups t n) = n :: parsO t (ups t (nd t n).parent) := (ordTr h).upc n hn
  unfold topN
  rw [h1]
  split
  · rename_i e; rw [e, ups_nil]; rfl
  · rename_i e
    have hp := ((ordTr h).parP n hn).resolve_left e
    have := pars_ne h hp
    exact getLastD_cons _ _ _ this
theorem top_root {t : List Nod} (h : May t) {r k : Int} (hr : isN t r = true) (h3 : (nd t r).kind = 3) (hk : isN t k = true) (hp : (nd t k).parent = r) : topN t k = r := by
  rw [top_of h k hk, hp, if_neg (isN_ne hr), top_of h r hr, ((h.f hr).shad h3).2.1, if_pos rfl]
/-- Whose top is a shadow lies below it. -/
theorem top_mem {t : List Nod} (h : May t) : ∀ n, isN t n = true → topN t n ∈ parsO t (ups t n) := (ordTr h).indUp fun n hn ih => by
  have h1 : parsO t (ups t n) = n :: parsO t (ups t (nd t n).parent) := (ordTr h).upc n hn
  rw [top_of h n hn, h1]
  split
  · simp
  · rename_i e
    exact List.mem_cons_of_mem _ (ih.resolve_left e)
theorem top_par {t : List Nod} (h : May t) : ∀ n, isN t n = true → (nd t (topN t n)).parent = -1 := (ordTr h).indUp fun n hn ih => by
  rw [top_of h n hn]
  split
  · assumption
  · rename_i e; exact ih.resolve_left e
theorem top_same {t : List Nod} (h : May t) : ∀ n, isN t n = true → ∀ m ∈ parsO t (ups t n), topN t m = topN t n := (ordTr h).indUp fun n hn ih m hm => by
  have h1 : parsO t (ups t n) = n :: parsO t (ups t (nd t n).parent) := (ordTr h).upc n hn
  rw [h1] at hm
  rcases List.mem_cons.1 hm with rfl | hm
  · rfl
  · by_cases e : (nd t n).parent = -1
    · rw [e, ups_nil] at hm; simp [parsO] at hm
    · rw [ih.resolve_left e m hm, top_of h n hn, if_neg e]
/-! ### Slots -/
def fstP (p : Int → Bool) : List Int → Int
  | [] => -1
  | x :: r => if p x = true then x else fstP p r
theorem fst_mem {p : Int → Bool} : ∀ {l : List Int}, fstP p l = -1 ∨ (fstP p l ∈ l ∧ p (fstP p l) = true)
  | [] => .inl rfl
  | x :: r => by
    unfold fstP
    split
    · rename_i h; exact .inr ⟨by simp, h⟩
    · rcases fst_mem (p := p) (l := r) with h | h
      · exact .inl h
      · exact .inr ⟨List.mem_cons_of_mem _ h.1, h.2⟩
def isSl (t : List Nod) (n : Int) : Bool := decide ((nd t n).kind = 1) && decide ((nd t n).tag = 3) && decide ((nd t (topN t n)).kind = 3)
def desL (t : List Nod) (n : Int) : List Int := preF (fun n => (nd t n).kids) (t.length + 2) n
def nameN (t : List Nod) (n : Int) : Int := (getA 4 (nd t n).attrs).getD 0
def slotsL (t : List Nod) (r : Int) : List Int := (desL t r).filter (isSl t)
def ofP (t : List Nod) (n r s : Int) : Bool := if hasA (nd t r) 8 = true then decide (getA 9 (nd t n).attrs = some s) else decide (nameN t s = nameN t n)
/-- The slot that a node is laid into. -/
def ofN (t : List Nod) (n : Int) : Int :=
  if (nd t n).parent = -1 then -1 else if (nd t (nd t n).parent).root = -1 then -1 else fstP (ofP t n (nd t (nd t n).parent).root) (slotsL t (nd t (nd t n).parent).root)
def asgL (t : List Nod) (s : Int) : List Int := if isSl t s = true then (nd t (nd t (topN t s)).host).kids.filter fun k => decide (ofN t k = s) else []
def fkids (t : List Nod) (n : Int) : List Int :=
  if (nd t n).kind = 3 then [] else if ¬ (nd t n).root = -1 then (nd t (nd t n).root).kids else if asgL t n = [] then (nd t n).kids else asgL t n
def overN (t : List Nod) (n : Int) : Int :=
  if (nd t n).parent = -1 then -1 else if (nd t (nd t n).parent).kind = 3 then (nd t (topN t n)).host else if ¬ (nd t (nd t n).parent).root = -1 then ofN t n else (nd t n).parent
def fpar (t : List Nod) (n : Int) : Int := if ¬ overN t n = -1 ∧ n ∈ fkids t (overN t n) then overN t n else -1
theorem kidN {t : List Nod} (h : May t) {n k : Int} (hn : isN t n = true) (hk : k ∈ fkids t n) : isN t k = true ∧ overN t k = n := by
  have hf := h.f hn
  unfold fkids at hk
  split at hk
  · simp at hk
  · rename_i h3
    split at hk
    · rename_i hr
      obtain ⟨_, e2, e3, e4⟩ := (hf.plain h3).2.resolve_left hr
      obtain ⟨g1, _, g2, _⟩ := (h.f e2).kid k hk
      refine ⟨g1, ?_⟩
      rw [overN, g2, if_neg (isN_ne e2), if_pos e3, top_root h e2 e3 g1 g2, e4]
    · rename_i hr
      have hr : (nd t n).root = -1 := Classical.not_not.1 hr
      split at hk
      · obtain ⟨g1, _, g2, _⟩ := hf.kid k hk
        refine ⟨g1, ?_⟩
        rw [overN, g2, if_neg (isN_ne hn), if_neg h3, hr]; simp
      · unfold asgL at hk
        split at hk
        · rename_i hs
          simp only [isSl, Bool.and_eq_true, decide_eq_true_eq] at hs
          obtain ⟨hk1, hk2⟩ := List.mem_filter.1 hk
          have hk2 : ofN t k = n := by simpa using hk2
          have hT := (host_top h hn).1
          obtain ⟨_, _, s3, s4, s5⟩ := (h.f hT).shad hs.2
          obtain ⟨g1, _, g2, _⟩ := (h.f s3).kid k hk1
          refine ⟨g1, ?_⟩
          rw [overN, g2, if_neg (isN_ne s3), if_neg (by omega), if_pos (by rw [s5]; exact isN_ne hT), hk2]
        · simp at hk
theorem fpar_kid {t : List Nod} (h : May t) {n k : Int} (hn : isN t n = true) (hk : k ∈ fkids t n) : isN t k = true ∧ fpar t k = n := by
  obtain ⟨h1, h2⟩ := kidN h hn hk
  refine ⟨h1, ?_⟩
  rw [fpar, h2, if_pos ⟨isN_ne hn, hk⟩]
theorem slot_in {t : List Nod} (h : May t) {r s : Int} (hr : isN t r = true) (hs : s ∈ slotsL t r) : isN t s = true ∧ r ∈ parsO t (ups t s) ∧ isSl t s = true := by
  obtain ⟨h1, h2⟩ := List.mem_filter.1 hs
  exact ⟨(ordTr h).preP r hr s h1, (ordTr h).pre_up r hr s h1, h2⟩
/-- Whom a node would be a kid of is a node. -/
theorem over_is {t : List Nod} (h : May t) {n : Int} (hn : isN t n = true) : overN t n = -1 ∨ isN t (overN t n) = true := by
  unfold overN
  split
  · exact .inl rfl
  · rename_i hp
    have hp' := ((h.f hn).par.resolve_left hp).1
    split
    · exact (host_top h hn).2.1
    · rename_i h3
      split
      · rename_i hr
        obtain ⟨_, e2, _, _⟩ := ((h.f hp').plain h3).2.resolve_left hr
        unfold ofN
        rw [if_neg hp, if_neg hr]
        rcases fst_mem (p := ofP t n (nd t (nd t n).parent).root) (l := slotsL t (nd t (nd t n).parent).root) with e | ⟨e, _⟩
        · exact .inl e
        · exact .inr (slot_in h e2 e).1
      · exact .inr hp'
/-! ### Going up in the flat tree ends -/
def wF (t : List Nod) (M : Nat) : List Int → Nat
  | [] => 0
  | n :: r => wF t M r + (if (nd t n).kind = 3 then 1 else 2) * 3 ^ (M - r.length)
def wT (t : List Nod) (n : Int) : Nat := wF t (t.length + 1) (ups t n)
def depN (t : List Nod) (n : Int) : Nat := (ups t n).length
theorem w_up {t : List Nod} (h : May t) {n : Int} (hn : isN t n = true) : wT t n = wT t (upN t n) + (if (nd t n).kind = 3 then 1 else 2) * 3 ^ (t.length + 1 - depN t (upN t n)) := by
  unfold wT depN
  rw [ups_cons h hn, wF]
theorem dep_up {t : List Nod} (h : May t) {n : Int} (hn : isN t n = true) : depN t n = depN t (upN t n) + 1 := by unfold depN; rw [ups_cons h hn]; rfl
theorem dep_le {t : List Nod} (n : Int) : depN t n ≤ t.length + 1 := ups_len t n
theorem pow3 (a : Nat) : 0 < 3 ^ a := Nat.pow_pos (by omega)
theorem w_below {t : List Nod} (h : May t) : ∀ s, isN t s = true → ∀ r ∈ ups t s, wT t s + 3 ^ (t.length + 2 - depN t s) ≤ wT t r + 3 ^ (t.length + 2 - depN t r) := (shTr h).indUp fun s hs ih r hr => by
  have hc := ups_cons h hs
  rw [hc] at hr
  rcases List.mem_cons.1 hr with rfl | hr
  · exact Nat.le_refl _
  · rcases ih with ih | ih
    · rw [ih, ups_nil] at hr; simp at hr
    · have h1 := ih r hr
      have h2 := dep_up h hs
      have h3 := dep_le (t := t) s
      refine Nat.le_trans ?_ h1
      rw [w_up h hs]
      have e1 : t.length + 2 - depN t s = t.length + 1 - depN t (upN t s) := by omega
      have e2 : t.length + 2 - depN t (upN t s) = (t.length + 1 - depN t (upN t s)) + 1 := by omega
      rw [e1, e2, Nat.pow_succ]
      have := pow3 (t.length + 1 - depN t (upN t s))
      split <;> omega
theorem w_lt {t : List Nod} (h : May t) {n : Int} (hn : isN t n = true) : wT t (upN t n) < wT t n := by
  rw [w_up h hn]
  have := pow3 (t.length + 1 - depN t (upN t n))
  split <;> omega
theorem w_none (t : List Nod) : wT t (-1) = 0 := by simp [wT, ups_nil, wF]
theorem over_w {t : List Nod} (h : May t) {n : Int} (hn : isN t n = true) : wT t (overN t n) < wT t n := by
  have hz : wT t (-1) < wT t n := by have := w_lt h hn; rw [w_none]; omega
  have hf := h.f hn
  unfold overN
  split
  · exact hz
  · rename_i hp
    have hp' := (hf.par.resolve_left hp).1
    have hk3 : ¬ (nd t n).kind = 3 := fun h3 => hp (hf.shad h3).2.1
    have hu : upN t n = (nd t n).parent := by simp [upN, hk3]
    have h1 := w_lt h hn
    rw [hu] at h1
    split
    · rename_i h3
      rw [top_root h hp' h3 hn rfl]
      have h2 := w_lt h hp'
      have hu2 : upN t (nd t n).parent = (nd t (nd t n).parent).host := by simp [upN, h3]
      rw [hu2] at h2
      omega
    · rename_i h3
      split
      · rename_i hr
        obtain ⟨_, e2, e3, e4⟩ := ((h.f hp').plain h3).2.resolve_left hr
        unfold ofN
        rw [if_neg hp, if_neg hr]
        generalize hq : (nd t n).parent = q at *
        rcases fst_mem (p := ofP t n (nd t q).root) (l := slotsL t (nd t q).root) with e | ⟨e, _⟩
        · rw [e]; exact hz
        · obtain ⟨s1, s2, _⟩ := slot_in h e2 e
          have h4 := w_below h _ s1 _ (ord_sub s2)
          have h5 := w_up h e2
          have h6 := dep_up h e2
          have hu3 : upN t (nd t q).root = q := by simp [upN, e3, e4]
          rw [hu3] at h5 h6
          rw [e3, if_pos rfl] at h5
          have h7 := w_up h hn
          rw [hu, if_neg hk3] at h7
          have h8 := pow3 (t.length + 2 - depN t (fstP (ofP t n (nd t q).root) (slotsL t (nd t q).root)))
          have e5 : t.length + 2 - depN t (nd t q).root = t.length + 1 - depN t q := by omega
          rw [e5] at h4
          omega
      · exact h1
theorem fpar_is {t : List Nod} (h : May t) {n : Int} (hn : isN t n = true) : fpar t n = -1 ∨ isN t (fpar t n) = true := by
  unfold fpar
  split
  · exact over_is h hn
  · exact .inl rfl
theorem fpar_w {t : List Nod} (h : May t) {n : Int} (hn : isN t n = true) : wT t (fpar t n) < wT t n := by
  unfold fpar
  split
  · exact over_w h hn
  · rw [w_none]; have := w_lt h hn; omega
def fups (t : List Nod) (n : Int) : List Int :=
  if _h : ¬ n = -1 ∧ wT t (fpar t n) < wT t n then n :: fups t (fpar t n) else []
termination_by wT t n
decreasing_by exact _h.2
theorem fups_nil (t : List Nod) : fups t (-1) = [] := by rw [fups]; simp
theorem fups_cons {t : List Nod} (h : May t) {n : Int} (hn : isN t n = true) : fups t n = n :: fups t (fpar t n) := by
  rw [fups, dif_pos ⟨isN_ne hn, fpar_w h hn⟩]
theorem fups_w {t : List Nod} (h : May t) : ∀ (d : Nat) (n : Int), isN t n = true → wT t n ≤ d → (fups t n).length ≤ d
  | 0, n, hn, hd => by have := w_lt h hn; omega
  | d + 1, n, hn, hd => by
    rw [fups_cons h hn, List.length_cons]
    rcases fpar_is h hn with e | e
    · rw [e, fups_nil]; simp
    · have h1 := fpar_w h hn
      have := fups_w h d _ e (by omega)
      omega
theorem w_max {t : List Nod} (h : May t) : ∀ n, isN t n = true → wT t n + 3 ^ (t.length + 2 - depN t n) ≤ 3 ^ (t.length + 2) := (shTr h).indUp fun s hs ih => by
  have h2 := dep_up h hs
  have h3 := dep_le (t := t) s
  have e1 : t.length + 2 - depN t s = t.length + 1 - depN t (upN t s) := by omega
  have e2 : t.length + 2 - depN t (upN t s) = (t.length + 1 - depN t (upN t s)) + 1 := by omega
  have hp := pow3 (t.length + 1 - depN t (upN t s))
  rcases ih with ih | ih
  · have h5 := w_up h hs
    rw [ih, w_none] at h5
    have h6 : depN t (-1) = 0 := by simp [depN, ups_nil]
    rw [ih, h6] at h2 hp e1
    rw [h6] at h5
    rw [e1, h5]
    have e3 : t.length + 2 = (t.length + 1 - 0) + 1 := by omega
    rw [e3, Nat.pow_succ]
    split <;> omega
  · refine Nat.le_trans ?_ ih
    rw [w_up h hs, e1, e2, Nat.pow_succ]
    split <;> omega
theorem flTr0 {t : List Nod} (h : May t) : Tw (fun n => isN t n = true) (fkids t) (fpar t) (fups t) (3 ^ (t.length + 2)) where
  kid n k hn hk := fpar_kid h hn hk
  nodup n hn := by
    have hk : ∀ n, isN t n = true → (nd t n).kids.Nodup := fun n hn => nodup_cnt fun k hk => ((h.f hn).kid k hk).2.1
    unfold fkids
    split
    · simp
    · rename_i h3
      split
      · rename_i hr
        obtain ⟨_, e2, _, _⟩ := ((h.f hn).plain h3).2.resolve_left hr
        exact hk _ e2
      · split
        · exact hk n hn
        · unfold asgL
          split
          · rename_i hs
            simp only [isSl, Bool.and_eq_true, decide_eq_true_eq] at hs
            have hT := (host_top h hn).1
            exact (hk _ ((h.f hT).shad hs.2).2.2.1).filter _
          · simp
  mem n hn hp := by
    unfold fpar at hp ⊢
    split
    · rename_i hh; exact hh.2
    · rename_i hh; rw [if_neg hh] at hp; exact absurd hp (not_m1 t)
  parP n hn := fpar_is h hn
  none := not_m1 t
  upc n hn := fups_cons h hn
  up0 := fups_nil t
  len n hn := Nat.le_trans (fups_w h _ n hn (Nat.le_refl _)) (Nat.le_trans (Nat.le_add_right _ _) (w_max h n hn))
theorem isN_mem {t : List Nod} {n : Int} (h : isN t n = true) : n ∈ (List.range t.length).map (fun i : Nat => (i : Int)) := by
  obtain ⟨h1, h2⟩ := isN_iff.1 h
  exact List.mem_map.2 ⟨n.toNat, by simp; omega, by omega⟩
theorem isN_count {t : List Nod} {l : List Int} (hn : l.Nodup) (h : ∀ m ∈ l, isN t m = true) : l.length ≤ t.length := by
  have := nodup_len (b := (List.range t.length).map (fun i : Nat => (i : Int))) hn fun m hm => isN_mem (h m hm)
  simpa using this
theorem flTr {t : List Nod} (h : May t) : Tw (fun n => isN t n = true) (fkids t) (fpar t) (fups t) t.length :=
  { flTr0 h with len := fun n hn => isN_count ((flTr0 h).up_nodup n hn) ((flTr0 h).upP n hn) }
/-- The flat tree, in order. -/
def flL (t : List Nod) : List Int := preF (fkids t) (t.length + 1) 0
theorem is0 {t : List Nod} (h : May t) : isN t 0 = true := by
  have := h.may
  simp only [mayT, Bool.and_eq_true, decide_eq_true_eq] at this
  exact isN_iff.2 ⟨by omega, by omega⟩
end Go.Lm
end
section
namespace Go.Lm
open List
/-- Is a node rendered by itself? -/
def ownV (v : View) (n : Int) : Bool :=
  if hasA (nd v.tree n) 2 = true then false else if n ∈ v.op ∨ n ∈ v.modal then true else if (nd v.tree n).tag = 2 then false else !hasA (nd v.tree n) 6 || decide (n ∈ nodesP v.popups)
def isR (v : View) (n : Int) : Bool := (fups v.tree n).all (ownV v) && decide (0 ∈ fups v.tree n)
def allRn (v : View) : List Int := (flL v.tree).filter (isR v)
theorem no_atts {t : List Nod} (h : May t) {n : Int} (hn : isN t n = true) (hk : ¬ (nd t n).kind = 1) (hk3 : ¬ (nd t n).kind = 3) : (nd t n).attrs = [] := by
  have h1 := (h.f hn).atts
  rw [← attsP_eq] at h1
  simp only [attsP, Bool.and_eq_true, Bool.or_eq_true, decide_eq_true_eq] at h1
  rcases h1.2 with (h2 | h2) | h2
  · exact List.length_eq_zero_iff.1 h2
  · exact absurd h2 hk
  · exact absurd h2 hk3
theorem kind0 {t : List Nod} (h : May t) : (nd t 0).kind = 0 := (h.f (is0 h)).doc.2 rfl
theorem par0 {t : List Nod} (h : May t) : (nd t 0).parent = -1 := by
  rcases (h.f (is0 h)).par with e | ⟨e1, e2⟩
  · exact e
  · have h1 := ((h.f e1).kid 0 (cnt_mem.1 (by omega))).2.2.2
    have := kind0 h
    omega
theorem fpar0 {t : List Nod} (h : May t) : fpar t 0 = -1 := by simp [fpar, overN, par0 h]
theorem fups0 {t : List Nod} (h : May t) : fups t 0 = [0] := by rw [fups_cons h (is0 h), fpar0 h, fups_nil]
theorem own0 {v : View} (h : May v.tree) : ownV v 0 = true := by
  have h0 := kind0 h
  have ha := no_atts h (is0 h) (by omega) (by omega)
  have ht := (h.f (is0 h)).tag
  rw [h0] at ht
  simp only [show ¬ (0 : Int) = 1 by omega, if_false] at ht
  simp [ownV, hasA, ha, ht]
theorem isR0 {v : View} (h : May v.tree) : isR v 0 = true := by simp [isR, fups0 h, own0 h]
theorem isR_iff {v : View} {n : Int} : isR v n = true ↔ (∀ k ∈ fups v.tree n, ownV v k = true) ∧ (0 : Int) ∈ fups v.tree n := by simp [isR]
theorem isR_own {v : View} (h : May v.tree) {n : Int} (hn : isN v.tree n = true) (hr : isR v n = true) : ownV v n = true := (isR_iff.1 hr).1 n ((flTr h).up_self hn)
theorem isR_par {v : View} (h : May v.tree) {n : Int} (hn : isN v.tree n = true) (hr : isR v n = true) (h0 : n ≠ 0) : isN v.tree (fpar v.tree n) = true ∧ isR v (fpar v.tree n) = true := by
  obtain ⟨h1, h2⟩ := isR_iff.1 hr
  rw [fups_cons h hn] at h1 h2
  have h3 : (0 : Int) ∈ fups v.tree (fpar v.tree n) := (List.mem_cons.1 h2).resolve_left fun e => h0 e.symm
  rcases fpar_is h hn with e | e
  · rw [e, fups_nil] at h3; simp at h3
  · exact ⟨e, isR_iff.2 ⟨fun k hk => h1 k (List.mem_cons_of_mem _ hk), h3⟩⟩
theorem isR_kid {v : View} (h : May v.tree) {n : Int} (hn : isN v.tree n = true) (hr : isR v (fpar v.tree n) = true) (ho : ownV v n = true) : isR v n = true := by
  obtain ⟨h1, h2⟩ := isR_iff.1 hr
  rw [isR_iff, fups_cons h hn]
  refine ⟨fun k hk => ?_, List.mem_cons_of_mem _ h2⟩
  rcases List.mem_cons.1 hk with rfl | hk
  · exact ho
  · exact h1 k hk
theorem mem_fl {t : List Nod} (h : May t) {n : Int} (hn : isN t n = true) : n ∈ flL t ↔ (0 : Int) ∈ fups t n := (flTr h).mem_pre (is0 h) n hn
theorem fl_is {t : List Nod} (h : May t) {n : Int} (hn : n ∈ flL t) : isN t n = true := (flTr h).preP 0 (is0 h) n hn
theorem fl_nodup {t : List Nod} (h : May t) : (flL t).Nodup := (flTr h).pre_nodup 0 (is0 h)
theorem fl_len {t : List Nod} (h : May t) : (flL t).length ≤ t.length := isN_count (fl_nodup h) fun _ hm => fl_is h hm
theorem fl_head {t : List Nod} (h : May t) : flL t = 0 :: (fkids t 0).flatMap (preF (fkids t) (t.length + 1)) := (flTr h).pre_cons (is0 h)
theorem mem_allR {v : View} (h : May v.tree) {n : Int} : n ∈ allRn v ↔ isN v.tree n = true ∧ isR v n = true := by
  unfold allRn
  rw [List.mem_filter]
  constructor
  · rintro ⟨h1, h2⟩; exact ⟨fl_is h h1, h2⟩
  · rintro ⟨h1, h2⟩; exact ⟨(mem_fl h h1).2 (isR_iff.1 h2).2, h2⟩
theorem allR_nodup {v : View} (h : May v.tree) : (allRn v).Nodup := (fl_nodup h).filter _
theorem allR_len {v : View} (h : May v.tree) : (allRn v).length ≤ v.tree.length := isN_count (allR_nodup h) fun _ hm => ((mem_allR h).1 hm).1
theorem allR_head {v : View} (h : May v.tree) : ∃ r, allRn v = 0 :: r := by
  refine ⟨((fkids v.tree 0).flatMap (preF (fkids v.tree) (v.tree.length + 1))).filter (isR v), ?_⟩
  unfold allRn
  rw [fl_head h, List.filter_cons, if_pos (isR0 h)]
/-- How many of so many there are. -/
def cntR (p : Nat → Bool) : Nat → Nat → Nat
  | 0, _ => 0
  | d + 1, i => (if p i = true then 1 else 0) + cntR p d (i + 1)
theorem cntR_le (p : Nat → Bool) : ∀ d i, cntR p d i ≤ d
  | 0, _ => Nat.le_refl _
  | d + 1, i => by have := cntR_le p d (i + 1); simp only [cntR]; split <;> omega
theorem cntR_filter (p : Nat → Bool) : ∀ d i, cntR p d i = ((List.range' i d).filter p).length
  | 0, _ => by simp [cntR]
  | d + 1, i => by
    rw [cntR, cntR_filter p d (i + 1), List.range'_succ, List.filter_cons]
    split <;> simp <;> omega
theorem len_count {t : List Nod} {l : List Int} {q : Int → Bool} (hn : l.Nodup) (h : ∀ n, n ∈ l ↔ isN t n = true ∧ q n = true) : l.length = cntR (fun i => q i) t.length 0 := by
  rw [cntR_filter]
  have hm : ((List.range' 0 t.length).filter fun i : Nat => q (i : Int)).map (fun i : Nat => (i : Int)) ~ l := by
    refine (List.perm_ext_iff_of_nodup ?_ hn).2 fun n => ?_
    · unfold List.Nodup
      rw [List.pairwise_map]
      exact (List.Pairwise.filter _ (List.nodup_range' (step := 1))).imp fun h e => h (Int.ofNat_inj.1 e)
    · rw [h]
      simp only [List.mem_map, List.mem_filter, List.mem_range'_1]
      constructor
      · rintro ⟨i, ⟨⟨_, h1⟩, h2⟩, rfl⟩
        exact ⟨isN_nat (by omega), h2⟩
      · rintro ⟨h1, h2⟩
        obtain ⟨h3, h4⟩ := isN_iff.1 h1
        exact ⟨n.toNat, ⟨⟨by omega, by omega⟩, by rw [show ((n.toNat : Nat) : Int) = n by omega]; exact h2⟩, by omega⟩
  rw [← hm.length_eq, List.length_map]
theorem plF_at {l : List Int} (hn : l.Nodup) {i : Nat} (hi : i < l.length) : plF l[i] l 0 = i := by
  have := (once_place l 0).2 hn i hi
  simpa using this
/-- Each one rendered stands behind whom it is a kid of. -/
theorem allR_before {v : View} (h : May v.tree) {i : Nat} (hi : i < (allRn v).length) (h1 : 1 ≤ i) : 0 ≤ plF (fpar v.tree (allRn v)[i]) (allRn v) 0 ∧ plF (fpar v.tree (allRn v)[i]) (allRn v) 0 < i := by
  have hm := (mem_allR h).1 (List.getElem_mem hi)
  have h0 : (allRn v)[i] ≠ 0 := fun e => by
    obtain ⟨r, hr⟩ := allR_head h
    have h2 := plF_at (allR_nodup h) hi
    rw [e] at h2
    rw [hr] at h2
    simp [plF] at h2; omega
  obtain ⟨hp, hr⟩ := isR_par h hm.1 hm.2 h0
  have hb := ((flTr h).pre_before (is0 h) ((mem_fl h hm.1).2 (isR_iff.1 hm.2).2) h0).2
  have hb' := hb.filter (isR v)
  rw [List.filter_cons, if_pos hr, List.filter_cons, if_pos hm.2, List.filter_nil] at hb'
  have := pl_sub 0 (allR_nodup h) hb'
  rw [plF_at (allR_nodup h) hi] at this
  exact this
/-- As the program goes: nothing below what is not rendered. -/
def rbF (v : View) : Nat → Int → List Int
  | 0, _ => []
  | d + 1, n => if ownV v n = true then n :: (fkids v.tree n).flatMap (rbF v d) else []
theorem rb_eq {v : View} (h : May v.tree) : ∀ (d : Nat) (n : Int), isN v.tree n = true → v.tree.length + 1 ≤ d + (fups v.tree n).length → (n = 0 ∨ isR v (fpar v.tree n) = true) →
    rbF v d n = (preF (fkids v.tree) d n).filter (isR v)
  | 0, n, hn, hd, _ => by have := (flTr h).len n hn; omega
  | d + 1, n, hn, hd, hp => by
    have hT := flTr h
    rw [rbF, preF]
    by_cases ho : ownV v n = true
    · have hr : isR v n = true := by
        rcases hp with e | hp
        · rw [e]; exact isR0 h
        · exact isR_kid h hn hp ho
      rw [if_pos ho, List.filter_cons, if_pos hr, List.filter_flatMap, flatMap_congr2]
      intro k hk
      obtain ⟨k1, k2⟩ := hT.kid n k hn hk
      refine rb_eq h d k k1 ?_ (.inr (by rw [k2]; exact hr))
      rw [hT.up_kid hn hk]; simp; omega
    · rw [if_neg ho]
      symm
      rw [List.filter_eq_nil_iff]
      intro m hm hr
      have e : preF (fkids v.tree) (d + 1) n = hT.pre n := by
        by_cases hle : d + 1 ≤ v.tree.length + 1
        · obtain ⟨j, hj⟩ := Nat.exists_eq_add_of_le hle
          rw [Tw.pre, hj]; exact hT.stable' hn (by omega) j
        · obtain ⟨j, hj⟩ := Nat.exists_eq_add_of_le (show v.tree.length + 1 ≤ d + 1 by omega)
          rw [Tw.pre, hj]
          exact (hT.stable' hn (by have := hT.pos hn; omega) j).symm
      have hm' : m ∈ hT.pre n := by rw [← e, preF]; exact hm
      exact ho ((isR_iff.1 hr).1 n (hT.pre_up n hn m hm'))
theorem rb_all {v : View} (h : May v.tree) : rbF v (v.tree.length + 1) 0 = allRn v := rb_eq h _ 0 (is0 h) (by omega) (.inl rfl)
/-! ### A tree whose node is marked -/
/-- Two trees that are alike but for who is marked as hidden. -/
structure Alike (t s : List Nod) : Prop where
  len : s.length = t.length
  nd : ∀ n, nd s n = { Go.Lm.nd t n with attrs := (Go.Lm.nd s n).attrs }
  get : ∀ n a, a ≠ 2 → getA a (Go.Lm.nd s n).attrs = getA a (Go.Lm.nd t n).attrs
section
variable {t s : List Nod} (h : Alike t s)
include h
theorem Alike.isN (n : Int) : isN s n = Go.Lm.isN t n := by unfold Go.Lm.isN; rw [h.len]
theorem Alike.kind (n : Int) : (Go.Lm.nd s n).kind = (Go.Lm.nd t n).kind := by rw [h.nd n]
theorem Alike.tag (n : Int) : (Go.Lm.nd s n).tag = (Go.Lm.nd t n).tag := by rw [h.nd n]
theorem Alike.parent (n : Int) : (Go.Lm.nd s n).parent = (Go.Lm.nd t n).parent := by rw [h.nd n]
theorem Alike.kids (n : Int) : (Go.Lm.nd s n).kids = (Go.Lm.nd t n).kids := by rw [h.nd n]
theorem Alike.host (n : Int) : (Go.Lm.nd s n).host = (Go.Lm.nd t n).host := by rw [h.nd n]
theorem Alike.root (n : Int) : (Go.Lm.nd s n).root = (Go.Lm.nd t n).root := by rw [h.nd n]
theorem Alike.up (n : Int) : upN s n = upN t n := by simp only [upN, h.kind, h.host, h.parent]
theorem Alike.walk : ∀ d n, walkF s d n = walkF t d n
  | 0, _ => rfl
  | d + 1, n => by simp only [walkF, h.up, Alike.walk d]
theorem Alike.ends : ∀ d n, endsF s d n = endsF t d n
  | 0, _ => rfl
  | d + 1, n => by simp only [endsF, h.up, Alike.ends d]
theorem Alike.ups (n : Int) : ups s n = Go.Lm.ups t n := by simp only [Go.Lm.ups, h.len, h.walk]
theorem Alike.pars : ∀ l, parsO s l = parsO t l
  | [] => rfl
  | n :: r => by simp only [parsO, h.kind, Alike.pars r]
theorem Alike.top (n : Int) : topN s n = topN t n := by simp only [topN, h.ups, h.pars]
theorem Alike.has {a : Int} (ha : a ≠ 2) (n : Int) : hasA (Go.Lm.nd s n) a = hasA (Go.Lm.nd t n) a := by
  unfold hasA; rw [← getA_has, ← getA_has, h.get n a ha]
theorem Alike.isSl (n : Int) : isSl s n = Go.Lm.isSl t n := by simp only [Go.Lm.isSl, h.kind, h.tag, h.top]
theorem Alike.name (n : Int) : nameN s n = nameN t n := by simp only [nameN, h.get n 4 (by omega)]
theorem Alike.pre : ∀ d n, preF (fun n => (Go.Lm.nd s n).kids) d n = preF (fun n => (Go.Lm.nd t n).kids) d n
  | 0, _ => rfl
  | d + 1, n => by
    simp only [preF, h.kids]
theorem Alike.slots (r : Int) : slotsL s r = slotsL t r := by
  have e : Go.Lm.isSl s = Go.Lm.isSl t := funext h.isSl
  simp only [slotsL, desL, h.len, h.pre, e]
theorem Alike.ofP (n r q : Int) : ofP s n r q = Go.Lm.ofP t n r q := by simp only [Go.Lm.ofP, h.has (a := 8) (by omega), h.get n 9 (by omega), h.name]
theorem Alike.ofN (n : Int) : ofN s n = Go.Lm.ofN t n := by
  have e : ∀ r, Go.Lm.ofP s n r = Go.Lm.ofP t n r := fun r => funext (h.ofP n r)
  simp only [Go.Lm.ofN, h.parent, h.root, h.slots, e]
theorem Alike.asg (n : Int) : asgL s n = asgL t n := by simp only [asgL, h.isSl, h.top, h.host, h.kids, h.ofN]
theorem Alike.fkids (n : Int) : fkids s n = Go.Lm.fkids t n := by simp only [Go.Lm.fkids, h.kind, h.root, h.kids, h.asg]
theorem Alike.over (n : Int) : overN s n = overN t n := by simp only [overN, h.parent, h.kind, h.top, h.host, h.root, h.ofN]
theorem Alike.fpar (n : Int) : fpar s n = Go.Lm.fpar t n := by simp only [Go.Lm.fpar, h.over, h.fkids]
theorem Alike.fups (hs : May s) (ht : May t) : ∀ n, Go.Lm.isN t n = true → fups s n = Go.Lm.fups t n := (flTr ht).indUp fun n hn ih => by
  rw [fups_cons hs (by rw [h.isN]; exact hn), fups_cons ht hn, h.fpar]
  rcases ih with ih | ih
  · rw [ih, fups_nil, fups_nil]
  · rw [ih]
theorem Alike.may (ha : ∀ n, Go.Lm.isN t n = true → attsOk (Go.Lm.nd s n) = attsOk (Go.Lm.nd t n)) : mayT s = mayT t := by
  have e1 : ∀ i : Nat, i < t.length → nodeOk s i = nodeOk t i := fun i hi => by
    have e2 : kidOk s i = kidOk t i := funext fun k => by simp only [kidOk, h.isN, h.kids, h.parent, h.kind]
    have e3 : kndOk (Go.Lm.nd s i) i = kndOk (Go.Lm.nd t i) i := by simp only [kndOk, h.kind, h.tag]
    have e4 : kidsOk s i = kidsOk t i := by simp only [kidsOk, e2, h.kids, h.kind, h.parent, h.isN]
    have e5 : shadOk s i = shadOk t i := by simp only [shadOk, h.kind, h.root, h.parent, h.host, h.isN]
    simp only [nodeOk, e3, e4, e5, ha i (isN_nat hi)]
  have e6 : ∀ (p q : Nat → Bool) d i, (∀ j, i ≤ j → j < i + d → p j = q j) → allR p d i = allR q d i := by
    intro p q d
    induction d with
    | zero => intro i _; rfl
    | succ d ih => intro i hh; rw [allR, allR, hh i (Nat.le_refl _) (by omega), ih (i + 1) fun j h1 h2 => hh j (by omega) (by omega)]
  simp only [mayT, h.len]
  rw [e6 _ _ _ _ fun j _ hj => e1 j (by omega), e6 (fun i => endsF s (t.length + 1) i) (fun i => endsF t (t.length + 1) i) _ _ fun j _ _ => h.ends _ _]
end
end Go.Lm
end
section
namespace Go.Lm
open List
def highN (v : View) : Int := highF v.modal v.top v.top.length
def blkN (v : View) (n : Int) : Bool := decide (¬ n = 0) && decide (¬ highN v = -1) && decide (¬ highN v ∈ fups v.tree n)
/-- Is anybody marked, up to one? -/
def mkF (t : List Nod) (h : Int) : List Int → Bool
  | [] => false
  | k :: r => hasA (nd t k) 3 || (decide (¬ k = h) && mkF t h r)
def isI (v : View) (n : Int) : Bool := blkN v n || mkF v.tree (highN v) (fups v.tree n)
def idxL (t : List Nod) : List Int := (List.range t.length).map (fun i : Nat => (i : Int))
def allIn (v : View) : List Int := (idxL v.tree).filter (isI v)
theorem mem_idx {t : List Nod} {n : Int} : n ∈ idxL t ↔ isN t n = true := by
  constructor
  · intro h
    obtain ⟨i, hi, rfl⟩ := List.mem_map.1 h
    exact isN_nat (by simpa using hi)
  · exact isN_mem
theorem idx_nodup (t : List Nod) : (idxL t).Nodup := by
  unfold idxL List.Nodup
  rw [List.pairwise_map]
  exact (List.nodup_range (n := t.length)).imp fun h e => h (Int.ofNat_inj.1 e)
theorem idx_len (t : List Nod) : (idxL t).length = t.length := by simp [idxL]
theorem mem_allI {v : View} {n : Int} : n ∈ allIn v ↔ isN v.tree n = true ∧ isI v n = true := by
  unfold allIn; rw [List.mem_filter, mem_idx]
theorem allI_len (v : View) : (allIn v).length ≤ v.tree.length := by
  unfold allIn; exact Nat.le_trans (List.length_filter_le _ _) (by rw [idx_len]; exact Nat.le_refl _)
theorem mkF_iff {t : List Nod} {h : Int} : ∀ {l : List Int}, h ∉ l → mkF t h l = l.any fun k => hasA (nd t k) 3
  | [], _ => rfl
  | k :: r, hn => by
    simp only [List.mem_cons, not_or] at hn
    have hk : ¬ k = h := fun e => hn.1 e.symm
    simp only [mkF, List.any_cons, hk, not_false_eq_true, decide_true, Bool.true_and, mkF_iff hn.2]
/-- As the document has it: so many of a list. -/
theorem mkF_take (t : List Nod) (h : Int) : ∀ (l : List Int) (i : Nat), mkF t h l = (l.take (if 0 ≤ plF h l i then (plF h l i - i).toNat + 1 else l.length)).any fun k => hasA (nd t k) 3
  | [], i => by simp [mkF]
  | k :: r, i => by
    by_cases e : k = h
    · have h1 : plF h (k :: r) i = i := by simp [plF, e]
      rw [h1, if_pos (by omega)]
      simp [mkF, e]
    · have h1 : plF h (k :: r) i = plF h r (i + 1) := by simp [plF, e]
      rw [h1]
      have ih := mkF_take t h r (i + 1)
      simp only [mkF, e, not_false_eq_true, decide_true, Bool.true_and]
      rw [ih]
      by_cases hm : h ∈ r
      · obtain ⟨j, hj, e2, _⟩ := plF_get (i := i + 1) hm
        rw [e2, if_pos (by omega), if_pos (by omega)]
        have e3 : (((i + 1 + j : Nat) : Int) - ((i + 1 : Nat) : Int)).toNat = j := by omega
        have e4 : (((i + 1 + j : Nat) : Int) - (i : Int)).toNat = j + 1 := by omega
        rw [e3, e4]
        simp
      · have : ¬ 0 ≤ plF h r (i + 1) := fun h2 => hm ((plF_ge h r (i + 1)).1 h2)
        rw [if_neg this, if_neg this]
        simp
theorem high_top {v : View} (hv : VOk v) (h : ¬ highN v = -1) : highN v ∈ v.modal ∧ dlg v.tree (highN v) = true := by
  rcases highF_spec v.modal v.top v.top.length (Nat.le_refl _) with ⟨e, _⟩ | ⟨j, _, e, hm, _⟩
  · exact absurd e h
  · have : highN v ∈ v.modal := by unfold highN; rw [e]; exact hm
    exact ⟨this, hv.mo _ this⟩
theorem high_nil {v : View} (h : v.modal = []) : highN v = -1 := by
  rcases highF_spec v.modal v.top v.top.length (Nat.le_refl _) with ⟨e, _⟩ | ⟨j, _, e, hm, _⟩
  · exact e
  · rw [h] at hm; simp at hm
theorem mk_none {t : List Nod} (h : May t) {n : Int} (hn : isN t n = true) : mkF t (-1) (fups t n) = (fups t n).any fun k => hasA (nd t k) 3 :=
  mkF_iff fun hm => isN_ne ((flTr h).upP n hn _ hm) rfl
/-- Within one: who is marked there. -/
theorem mk_within {t : List Nod} (h : May t) (x : Int) : ∀ n, isN t n = true → x ∈ fups t n → (mkF t x (fups t n) = true ↔ ∃ k, k ∈ fups t n ∧ hasA (nd t k) 3 = true ∧ x ∈ fups t k) := (flTr h).indUp fun n hn ih hx => by
  have hT := flTr h
  have hc := fups_cons h hn
  rw [hc]
  simp only [mkF, Bool.or_eq_true, Bool.and_eq_true, decide_eq_true_eq]
  by_cases e : n = x
  · subst e
    constructor
    · rintro (h1 | ⟨h1, _⟩)
      · exact ⟨n, by simp, h1, hx⟩
      · exact absurd rfl h1
    · rintro ⟨k, h1, h2, h3⟩
      rw [← hc] at h1
      have hk := hT.upP n hn k h1
      have := hT.antisymm hk hn h1 h3
      subst this
      exact .inl h2
  · have hx' : x ∈ fups t (fpar t n) := by
      rw [hc] at hx
      exact (List.mem_cons.1 hx).resolve_left fun e2 => e e2.symm
    have ih' : mkF t x (fups t (fpar t n)) = true ↔ ∃ k, k ∈ fups t (fpar t n) ∧ hasA (nd t k) 3 = true ∧ x ∈ fups t k := by
      rcases ih with ih | ih
      · rw [ih, fups_nil] at hx'; simp at hx'
      · exact ih hx'
    rw [ih']
    constructor
    · rintro (h1 | ⟨_, k, h1, h2, h3⟩)
      · exact ⟨n, by simp, h1, hx⟩
      · exact ⟨k, by simp [h1], h2, h3⟩
    · rintro ⟨k, h1, h2, h3⟩
      rcases List.mem_cons.1 h1 with rfl | h1
      · exact .inl h2
      · exact .inr ⟨e, k, h1, h2, h3⟩
theorem has0 {t : List Nod} (h : May t) (a : Int) : hasA (nd t 0) a = false := by
  have h0 := kind0 h
  have ha := no_atts h (is0 h) (by omega) (by omega)
  simp [hasA, ha]
theorem isI0 {v : View} (h : May v.tree) : isI v 0 = false := by simp [isI, blkN, fups0 h, mkF, has0 h]
theorem isI_below {v : View} (h : May v.tree) {a b : Int} (hb : isN v.tree b = true) (hab : a ∈ fups v.tree b) (ha : isI v a = true)
    (hx : ¬ (¬ highN v = -1 ∧ highN v ∈ fups v.tree b ∧ highN v ∉ fups v.tree a)) : isI v b = true := by
  have hT := flTr h
  have ha' := hT.upP b hb a hab
  by_cases hb0 : b = 0
  · subst hb0
    rw [fups0 h] at hab
    simp at hab
    subst hab
    exact ha
  by_cases h1 : highN v = -1
  · have hblk : ∀ n, blkN v n = false := fun n => by simp [blkN, h1]
    simp only [isI, hblk, Bool.false_or, h1] at ha ⊢
    rw [mk_none h ha', List.any_eq_true] at ha
    rw [mk_none h hb, List.any_eq_true]
    obtain ⟨k, h2, h3⟩ := ha
    exact ⟨k, hT.trans hb hab h2, h3⟩
  · by_cases h2 : highN v ∈ fups v.tree b
    · have h3 : highN v ∈ fups v.tree a := Classical.byContradiction fun h3 => hx ⟨h1, h2, h3⟩
      have e1 : blkN v a = false := by simp [blkN, h3]
      have e2 : blkN v b = false := by simp [blkN, h2]
      simp only [isI, e1, e2, Bool.false_or] at ha ⊢
      rw [mk_within h _ a ha' h3] at ha
      rw [mk_within h _ b hb h2]
      obtain ⟨k, k1, k2, k3⟩ := ha
      exact ⟨k, hT.trans hb hab k1, k2, k3⟩
    · have e2 : blkN v b = true := by simp [blkN, h1, h2, hb0]
      simp [isI, e2]
/-- Marked, as the statement asks. -/
def mkdP (v : View) (n : Int) (k : Int) : Bool := hasA (nd v.tree k) 3 && decide (k ∈ fups v.tree n) && (!(decide (highN v = -1) || decide (highN v ∈ fups v.tree n)) || decide (highN v = -1) || decide (highN v ∈ fups v.tree k))
theorem isI_marked {v : View} (h : May v.tree) {n : Int} (hn : isN v.tree n = true) (hw : n = 0 ∨ highN v = -1 ∨ highN v ∈ fups v.tree n) : isI v n = (idxL v.tree).any (mkdP v n) := by
  have hT := flTr h
  have any : (idxL v.tree).any (mkdP v n) = true ↔ ∃ k, k ∈ fups v.tree n ∧ mkdP v n k = true := by
    rw [List.any_eq_true]
    constructor
    · rintro ⟨k, h1, h2⟩
      refine ⟨k, ?_, h2⟩
      simp only [mkdP, Bool.and_eq_true, decide_eq_true_eq] at h2
      exact h2.1.2
    · rintro ⟨k, h1, h2⟩
      exact ⟨k, mem_idx.2 (hT.upP n hn k h1), h2⟩
  rw [Bool.eq_iff_iff, any]
  by_cases h0 : n = 0
  · subst h0
    rw [isI0 h, fups0 h]
    simp [mkdP, has0 h]
  · by_cases h1 : highN v = -1
    · have e1 : blkN v n = false := by simp [blkN, h1]
      simp only [isI, e1, Bool.false_or]
      rw [h1, mk_none h hn, List.any_eq_true]
      constructor
      · rintro ⟨k, k1, k2⟩; exact ⟨k, k1, by simp [mkdP, h1, k1, k2]⟩
      · rintro ⟨k, k1, k2⟩
        simp only [mkdP, Bool.and_eq_true] at k2
        exact ⟨k, k1, k2.1.1⟩
    · have h2 : highN v ∈ fups v.tree n := (hw.resolve_left h0).resolve_left h1
      have e1 : blkN v n = false := by simp [blkN, h2]
      simp only [isI, e1, Bool.false_or]
      rw [mk_within h _ n hn h2]
      constructor
      · rintro ⟨k, k1, k2, k3⟩; exact ⟨k, k1, by simp [mkdP, k1, k2, k3]⟩
      · rintro ⟨k, k1, k2⟩
        simp only [mkdP, Bool.and_eq_true] at k2
        refine ⟨k, k1, k2.1.1, ?_⟩
        simpa [h1, h2] using k2.2
theorem dlg_fact {t : List Nod} {n : Int} (h : dlg t n = true) : isN t n = true ∧ (nd t n).kind = 1 ∧ (nd t n).tag = 2 := by
  have := dlg_is h
  simp only [dlg, isEl, Bool.and_eq_true, decide_eq_true_eq] at h
  exact ⟨this, h.1.2, h.2⟩
theorem high_dlg {v : View} {n : Int} (h : (dlgR v n true).2 = 0) : highN (dlgR v n true).1 = n := by
  obtain ⟨_, _, _, _, e⟩ := dlgR_ok h
  rw [e]
  simp only [if_true, highN, List.length_append, List.length_singleton]
  rw [highF_last, if_pos (by simp)]
end Go.Lm
end
section
namespace Go.Lm
open List
def idxA (t : List Nod) (n : Int) : Int := (getA 0 (nd t n).attrs).getD 0
def hasI (t : List Nod) (n : Int) : Bool := hasA (nd t n) 0 || decide ((nd t n).tag = 1) || decide ((nd t n).tag = 4)
def disA (t : List Nod) (n : Int) : Bool := decide ((nd t n).tag = 1) && hasA (nd t n) 1
def delA (t : List Nod) (n : Int) : Bool := !decide ((nd t n).root = -1) && hasA (nd t (nd t n).root) 7
def isA (v : View) (n : Int) : Bool := hasI v.tree n && !disA v.tree n && !delA v.tree n && isR v n && !isI v n
def tabA (v : View) (n : Int) : Bool := isA v n && decide (0 ≤ idxA v.tree n)
def allA (v : View) : List Int := (idxL v.tree).filter (isA v)
theorem tag_kind {t : List Nod} (h : May t) {n : Int} (hn : isN t n = true) (ht : ¬ (nd t n).tag = 0) : (nd t n).kind = 1 := by
  have := (h.f hn).tag
  split at this
  · assumption
  · exact absurd this ht
theorem has_kind {t : List Nod} (h : May t) {n : Int} (hn : isN t n = true) {a : Int} (h7 : ¬ a = 7) (h8 : ¬ a = 8) (ha : hasA (nd t n) a = true) : (nd t n).kind = 1 := by
  have h1 := (h.f hn).atts
  simp only [attsOk, Bool.and_eq_true, List.all_eq_true] at h1
  simp only [hasA, List.any_eq_true, decide_eq_true_eq] at ha
  obtain ⟨x, hx, e⟩ := ha
  have h2 := h1.1 x hx
  simp only [attOk, Bool.and_eq_true, decide_eq_true_eq] at h2
  have h3 := h2.2
  split at h3
  · simp only [Bool.or_eq_true, decide_eq_true_eq] at h3; omega
  · simp only [Bool.and_eq_true, decide_eq_true_eq] at h3; exact h3.1
theorem hasI_kind {t : List Nod} (h : May t) {n : Int} (hn : isN t n = true) (hi : hasI t n = true) : (nd t n).kind = 1 := by
  simp only [hasI, Bool.or_eq_true, decide_eq_true_eq] at hi
  rcases hi with (hi | hi) | hi
  · exact has_kind h hn (by omega) (by omega) hi
  · exact tag_kind h hn (by omega)
  · exact tag_kind h hn (by omega)
theorem isA_kind {v : View} (h : May v.tree) {n : Int} (hn : isN v.tree n = true) (hi : isA v n = true) : (nd v.tree n).kind = 1 := by
  simp only [isA, Bool.and_eq_true] at hi
  exact hasI_kind h hn hi.1.1.1.1
theorem mem_allA {v : View} {n : Int} : n ∈ allA v ↔ isN v.tree n = true ∧ isA v n = true := by
  unfold allA; rw [List.mem_filter, mem_idx]
theorem allA_len (v : View) : (allA v).length ≤ v.tree.length := by
  unfold allA; exact Nat.le_trans (List.length_filter_le _ _) (by rw [idx_len]; exact Nat.le_refl _)
theorem allA_nodup (v : View) : (allA v).Nodup := (idx_nodup _).filter _
/-- What is opened as a dialog: the same tree, the same who is highest. -/
theorem shown_own {v : View} {n k : Int} (h : (dlgR v n false).2 = 0) (hk : ¬ k = n) : ownV (dlgR v n false).1 k = ownV v k := by
  obtain ⟨_, _, _, _, e⟩ := dlgR_ok h
  rw [e]
  simp [ownV, hk]
theorem shown_isA {v : View} (hm : May v.tree) {n k : Int} (h : (dlgR v n false).2 = 0) (hk : isN v.tree k = true) (hb : n ∉ fups v.tree k) : isA (dlgR v n false).1 k = isA v k := by
  obtain ⟨_, _, _, _, e⟩ := dlgR_ok h
  have ht : (dlgR v n false).1.tree = v.tree := by rw [e]; rfl
  have hh : highN (dlgR v n false).1 = highN v := by rw [e]; rfl
  have e1 : isI (dlgR v n false).1 k = isI v k := by simp only [isI, blkN, ht, hh]
  have e2 : isR (dlgR v n false).1 k = isR v k := by
    have e3 : (fups v.tree k).all (ownV (dlgR v n false).1) = (fups v.tree k).all (ownV v) := by
      rw [Bool.eq_iff_iff, List.all_eq_true, List.all_eq_true]
      constructor
      · intro hh m hm
        rw [← shown_own h (fun e => hb (e ▸ hm))]; exact hh m hm
      · intro hh m hm
        rw [shown_own h (fun e => hb (e ▸ hm))]; exact hh m hm
    simp only [isR, ht, e3]
  simp only [isA, ht, e1, e2]
theorem closed_isA {v : View} (hm : May v.tree) {n k : Int} (h : (dlgR v n false).2 = 0) (hk : isN v.tree k = true) (hb : n ∈ fups v.tree k) : isA v k = false := by
  obtain ⟨hc, hn, hd, ho, _⟩ := dlgR_ok h
  have h1 := (dlg_fact hd).2.2
  rw [mem_open] at ho
  have ho' : ownV v n = false := by
    unfold ownV
    split
    · rfl
    · have h2 : ¬ (n ∈ v.op ∨ n ∈ v.modal) := fun h => h.elim (fun h => ho (.inl h)) fun h => ho (.inr (.inl h))
      simp [h1, h2]
  have e : isR v k = false := by
    rw [← Bool.not_eq_true]
    intro hr
    have := (isR_iff.1 hr).1 n hb
    rw [ho'] at this; cases this
  simp [isA, e]
end Go.Lm
end
