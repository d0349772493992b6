/- Views, in plain words. -/
import Derived.Test.YtcdnmiaelaombaaGreatLmAF
set_option linter.unusedVariables false
set_option linter.unusedSimpArgs false
set_option linter.unnecessarySimpa false
set_option linter.all false
namespace Go.Lm
/-! ### Lists in order -/
theorem insI_perm (n : Int) : ∀ l, (insI n l).Perm (n :: l)
  | [] => .refl _
  | m :: l => by
    simp only [insI]
    split
    · exact .refl _
    · exact ((insI_perm n l).cons m).trans (.swap n m l)
theorem sortI_perm : ∀ l, (sortI l).Perm l
  | [] => .refl _
  | n :: l => (insI_perm n _).trans ((sortI_perm l).cons n)
theorem insI_comm (a b : Int) : ∀ l, insI a (insI b l) = insI b (insI a l)
  | [] => by
    simp only [insI]
    by_cases h1 : a ≤ b <;> by_cases h2 : b ≤ a <;> simp [h1, h2, insI] <;> omega
  | m :: l => by
    simp only [insI]
    by_cases h1 : b ≤ m <;> by_cases h2 : a ≤ m <;> by_cases h3 : a ≤ b <;> by_cases h4 : b ≤ a <;> simp [h1, h2, h3, h4, insI, insI_comm a b l] <;> omega
theorem sortI_eq {l l' : List Int} (h : l.Perm l') : sortI l = sortI l' := by
  induction h with
  | nil => rfl
  | cons x _ ih => simp only [sortI, ih]
  | swap x y l => simp only [sortI]; exact insI_comm y x _
  | trans _ _ h1 h2 => exact h1.trans h2
theorem sortI_iff {l l' : List Int} : sortI l = sortI l' ↔ l.Perm l' := ⟨fun h => (sortI_perm l).symm.trans (h ▸ sortI_perm l'), sortI_eq⟩
theorem onceI_iff : ∀ {l : List Int}, onceI l = true ↔ l.Nodup
  | [] => by simp [onceI]
  | n :: l => by simp [onceI, onceI_iff (l := l)]
theorem perm_of_sub : ∀ {a b : List Int}, a.Nodup → (∀ x ∈ a, x ∈ b) → b.length ≤ a.length → a.Perm b
  | [], b, _, _, h => by
    have : b = [] := List.length_eq_zero_iff.1 (by simpa using h)
    subst this; exact .refl _
  | x :: a, b, hn, hs, hl => by
    have hx : x ∈ b := hs x (by simp)
    have hn' := List.nodup_cons.1 hn
    have hp := List.perm_cons_erase hx
    refine ((perm_of_sub hn'.2 (fun y hy => ?_) ?_).cons x).trans hp.symm
    · have hyx : y ≠ x := fun e => hn'.1 (e ▸ hy)
      exact (List.mem_erase_of_ne hyx).2 (hs y (by simp [hy]))
    · rw [List.length_erase_of_mem hx]; simp at hl; omega
/-! ### Views -/
structure SmV (v : View) : Prop where
  tr : Sm v.tree
  op : v.op.length ≤ 60
  mo : v.modal.length ≤ 60
  po : v.popups.length ≤ 60
  to : v.top.length ≤ 120
def isEl (t : List Nod) (n : Int) : Bool := conN t n && decide ((nd t n).kind = 1)
def dlg (t : List Nod) (n : Int) : Bool := isEl t n && decide ((nd t n).tag = 2)
def pop (t : List Nod) (n : Int) : Bool := isEl t n && hasA (nd t n) 6
theorem con_may {t : List Nod} {n : Int} (h : conN t n = true) : mayN t n = true := by
  by_cases hm : mayN t n = true
  · exact hm
  · simp [conN, shUp, hm] at h
theorem con_is {t : List Nod} {n : Int} (h : conN t n = true) : isN t n = true := by
  have := con_may h; simp [mayN] at this; exact this.2
def nodesP (l : List Shown) : List Int := l.map (·.node)
def highL (v : View) : List Int := v.modal ++ nodesP v.popups
def openL (v : View) : List Int := v.op ++ highL v
def popOk (t : List Nod) (x : Shown) : Bool := pop t x.node && (decide (x.invoker = -1) || isN t x.invoker)
def mayV (v : View) : Bool := (v.op ++ v.modal).all (dlg v.tree) && v.popups.all (popOk v.tree) && onceI (openL v) && decide (sortI (highL v) = sortI v.top)
def chkV (v : View) : Int := if mayT v.tree = true then (if mayV v = true then 0 else 9) else 1
/-- From the last place on. -/
def highF (modal top : List Int) : Nat → Int
  | 0 => -1
  | i + 1 => if top.getD i 0 ∈ modal then top.getD i 0 else highF modal top i
def rpV (v : View) : SVal := .rp [encT v.tree, encI v.op, encI v.modal, encP v.popups, encI v.top]
@[simp] theorem fold_rpV (a : List Nod) (b c : List Int) (d : List Shown) (e : List Int) : SVal.rp [encT a, encI b, encI c, encP d, encI e] = rpV ⟨a, b, c, d, e⟩ := rfl
@[simp] theorem rpV_c0 (v : View) : SVal.cell (rpV v) 0 = encT v.tree := rfl
@[simp] theorem rpV_c1 (v : View) : SVal.cell (rpV v) 1 = encI v.op := rfl
@[simp] theorem rpV_c2 (v : View) : SVal.cell (rpV v) 2 = encI v.modal := rfl
@[simp] theorem rpV_c3 (v : View) : SVal.cell (rpV v) 3 = encP v.popups := rfl
@[simp] theorem rpV_c4 (v : View) : SVal.cell (rpV v) 4 = encI v.top := rfl
theorem encV_eq (v : View) : encV v = .agg [encT v.tree, encI v.op, encI v.modal, encP v.popups, encI v.top] := rfl
/-- Rows of rows. -/
def encL (ls : List (List Int)) : SVal := .sl 1 false false (ls.map encI)
@[simp] theorem weak_L (l : List (List Int)) : weak (encL l) = encL l := rfl
@[simp] theorem sLen_L (l : List (List Int)) : sLen (encL l) = some (int l.length) := by simp [encL]
theorem idx_L {l : List (List Int)} {i : Nat} (h : i < l.length) : sIdx false 1 (encL l) (int i) = some (encI l[i]) := sIdx_at (by simp [h]) rfl
def bwd (l : List Int) : Nat → List SVal
  | 0 => []
  | i + 1 => .tup [int i, int (l.getD i 0)] :: bwd l i
def smallV (v : View) : Bool := smallT v.tree && decide (v.tree.length ≤ 16) && decide (v.op.length ≤ 40) && decide (v.modal.length ≤ 40) && decide (v.popups.length ≤ 40) && decide (v.top.length ≤ 80)
theorem smallV_sm {v : View} (h : smallV v = true) : SmV v := by
  simp only [smallV, Bool.and_eq_true, decide_eq_true_eq] at h
  obtain ⟨⟨⟨⟨⟨h1, h2⟩, h3⟩, h4⟩, h5⟩, h6⟩ := h
  exact ⟨smallT_iff.1 h1, by omega, by omega, by omega, by omega⟩
/-! ### The document's way to ask whether a view may be -/
theorem once_place : ∀ (l : List Int) (i : Nat), (∀ (j : Nat) (hj : j < l.length), plF l[j] l i = ((i + j : Nat) : Int)) ↔ l.Nodup
  | [], i => by simp
  | x :: r, i => by
    rw [List.nodup_cons]
    constructor
    · intro h
      have h1 : x ∉ r := fun hm => by
        obtain ⟨j, hj, e⟩ := List.getElem_of_mem hm
        have := h (j + 1) (by simpa using hj)
        simp only [List.getElem_cons_succ, e, plF, if_true] at this
        omega
      refine ⟨h1, (once_place r (i + 1)).1 fun j hj => ?_⟩
      have := h (j + 1) (by simpa using hj)
      have hne : ¬ x = r[j] := fun e => h1 (e ▸ List.getElem_mem hj)
      simp only [List.getElem_cons_succ, plF, hne, if_false] at this
      rw [this]; congr 1; omega
    · rintro ⟨h1, h2⟩ j hj
      cases j with
      | zero => simp [plF]
      | succ j =>
        have hj' : j < r.length := by simpa using hj
        have hne : ¬ x = r[j] := fun e => h1 (e ▸ List.getElem_mem hj')
        simp only [List.getElem_cons_succ, plF, hne, if_false]
        rw [(once_place r (i + 1)).2 h2 j hj']; congr 1; omega
theorem mayV_ref (v : View) : ((v.op ++ v.modal).all (dlg v.tree) && (nodesP v.popups).all (pop v.tree) && v.popups.all (fun x => decide (x.invoker = -1) || isN v.tree x.invoker) &&
    (highL v).all (fun n => decide (n ∈ v.top)) && onceI (openL v) && onceI v.top && decide (v.top.length = (highL v).length)) = mayV v := by
  rw [Bool.eq_iff_iff]
  simp only [mayV, Bool.and_eq_true, decide_eq_true_eq, List.all_eq_true, onceI_iff, sortI_iff, popOk, nodesP, List.mem_map]
  constructor
  · rintro ⟨⟨⟨⟨⟨⟨h1, h2⟩, h3⟩, h4⟩, h5⟩, h6⟩, h7⟩
    refine ⟨⟨⟨h1, fun x hx => ⟨h2 _ ⟨x, hx, rfl⟩, h3 x hx⟩⟩, h5⟩, ?_⟩
    exact perm_of_sub (List.nodup_append.1 h5).2.1 h4 (by omega)
  · rintro ⟨⟨⟨h1, h2⟩, h3⟩, h4⟩
    refine ⟨⟨⟨⟨⟨⟨h1, ?_⟩, fun x hx => (h2 x hx).2⟩, fun x hx => h4.mem_iff.1 hx⟩, h3⟩, ?_⟩, h4.length_eq.symm⟩
    · rintro n ⟨x, hx, rfl⟩; exact (h2 x hx).1
    · exact h4.nodup_iff.1 (List.nodup_append.1 h3).2.1
end Go.Lm
namespace Go.Lm
@[simp high] theorem fold_Vv (v : View) : SVal.agg [encT v.tree, encI v.op, encI v.modal, encP v.popups, encI v.top] = encV v := rfl
@[simp high] theorem fold_rpVv (v : View) : SVal.rp [encT v.tree, encI v.op, encI v.modal, encP v.popups, encI v.top] = rpV v := rfl
@[simp] theorem fold_L2 (a b : List Int) : SVal.sl 1 false false [encI a, encI b] = encL [a, b] := rfl
@[simp] theorem fold_L3 (a b c : List Int) : SVal.sl 1 false false [encI a, encI b, encI c] = encL [a, b, c] := rfl
def vNil : View := ⟨[], [], [], [], []⟩
@[simp] theorem fold_V0 : SVal.agg [.sl 7 false false [], .sl 1 false false [], .sl 1 false false [], .sl 2 false false [], .sl 1 false false []] = encV vNil := rfl
@[simp] theorem fold_I0 : SVal.sl 1 false false [] = encI [] := rfl
theorem high_len {v : View} (h : SmV v) : (highL v).length ≤ 120 := by have := h.mo; have := h.po; simp [highL, nodesP]; omega
theorem open_len {v : View} (h : SmV v) : (openL v).length ≤ 180 := by have := h.op; have := high_len h; simp [openL]; omega
def sameV (a b : View) : Bool := decide (a = b)
theorem highF_mem {modal top : List Int} {i : Nat} (h : i < top.length) : highF modal top (i + 1) = if top[i] ∈ modal then top[i] else highF modal top i := by
  simp only [highF, List.getD_eq_getElem?_getD, List.getElem?_eq_getElem h, Option.getD_some]
end Go.Lm
namespace Go.Lm
end Go.Lm
