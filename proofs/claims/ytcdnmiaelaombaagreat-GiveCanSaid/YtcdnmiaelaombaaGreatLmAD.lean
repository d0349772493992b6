/- A loop over a list, place by place; what the program's functions tell, in plain words. -/
import Derived.Test.YtcdnmiaelaombaaGreatLmAC
set_option linter.unusedVariables false
set_option linter.unusedSimpArgs false
set_option linter.unnecessarySimpa false
set_option linter.all false
namespace Go.Lm
theorem wrap1 {i : Nat} (h : i ≤ 1000000) : IntKind.i64.wrap ((i : Int) + 1) = ((i + 1 : Nat) : Int) := by rw [wrapS (by omega) (by omega)]; omega
theorem for_list {α β σ : Type} {body : LS → (LS → Option α) → Option α} (l : List β) (S : Nat → σ → LS) (F : List β → Nat → σ → Option α) (Inv : Nat → σ → Prop) (hl : l.length ≤ 1000000)
    (h0 : ∀ s next, Inv l.length s → body (S l.length s) next = F [] l.length s)
    (h : ∀ (i : Nat) (s : σ) (x : β) (r : List β) (next : LS → Option α), (hi : i < l.length) → l[i] = x → l.drop i = x :: r → Inv i s → IntKind.i64.wrap ((i : Int) + 1) = ((i + 1 : Nat) : Int) → (∀ s', Inv (i + 1) s' → next (S (i + 1) s') = F r (i + 1) s') → body (S i s) next = F (x :: r) i s)
    (k : Nat) (s : σ) (hk : l.length < k) (hI : Inv 0 s) : loopN body k (S 0 s) = F l 0 s := by
  have := loop_wf (body := body) (fun p : Nat × σ => S p.1 p.2) (fun p => F (l.drop p.1) p.1 p.2) (fun p => l.length - p.1) (fun p => p.1 ≤ l.length ∧ Inv p.1 p.2) ?_ k (0, s) ⟨Nat.zero_le _, hI⟩ (by simpa using hk)
  · simpa using this
  · rintro ⟨i, s⟩ ⟨hi, hs⟩ next hn
    simp only at hi hs hn ⊢
    by_cases h1 : i < l.length
    · have hd : l.drop i = l[i] :: l.drop (i + 1) := List.drop_eq_getElem_cons h1
      rw [hd]
      exact h i s _ _ next h1 rfl hd hs (wrap1 (by omega)) fun s' hs' => hn (i + 1, s') ⟨h1, hs'⟩ (by simp only; omega)
    · have e : i = l.length := by omega
      subst e
      rw [List.drop_length]
      exact h0 s next hs
/-! ### Lists of numbers -/
/-- The place of a number. -/
def plF (n : Int) : List Int → Nat → Int
  | [], _ => -1
  | x :: r, i => if x = n then i else plF n r (i + 1)
theorem plF_ge (n : Int) : ∀ (l : List Int) (i : Nat), (0 ≤ plF n l i) ↔ n ∈ l
  | [], i => by simp [plF]
  | x :: r, i => by
    simp only [plF, List.mem_cons]
    split
    · rename_i h; simp [h]
    · rename_i h
      rw [plF_ge n r (i + 1)]
      simp [Ne.symm h]
def cntI (n : Int) : List Int → Nat
  | [] => 0
  | x :: r => (if x = n then 1 else 0) + cntI n r
/-- By a test of its elements. -/
def plP {β : Type} (p : β → Bool) : List β → Nat → Int
  | [], _ => -1
  | x :: r, i => if p x = true then i else plP p r (i + 1)
theorem plP_ge {β : Type} (p : β → Bool) : ∀ (l : List β) (i : Nat), (0 ≤ plP p l i) ↔ l.any p = true
  | [], i => by simp [plP]
  | x :: r, i => by
    simp only [plP, List.any_cons, Bool.or_eq_true]
    split
    · rename_i h; simp [h]
    · rename_i h
      rw [plP_ge p r (i + 1)]
      simp [h]
@[simp] theorem plP_ge' {β : Type} (p : β → Bool) (l : List β) (i : Nat) : decide (0 ≤ plP p l i) = l.any p := by rw [Bool.eq_iff_iff]; simp only [decide_eq_true_eq]; exact plP_ge p l i
@[simp] theorem fold_A (x : Attr) : SVal.agg [int x.name, int x.value] = encA x := rfl
@[simp] theorem fold_S (x : Shown) : SVal.agg [int x.node, int x.invoker] = encS x := rfl
@[simp] theorem fold_N (x : Nod) : SVal.agg [int x.kind, int x.tag, int x.parent, encI x.kids, int x.host, int x.root, encAs x.attrs] = encN x := rfl
@[simp] theorem fold_V (a : List Nod) (b c : List Int) (d : List Shown) (e : List Int) : SVal.agg [encT a, encI b, encI c, encP d, encI e] = encV ⟨a, b, c, d, e⟩ := rfl
@[simp] theorem encV_c0 (v : View) : SVal.cell (encV v) 0 = encT v.tree := rfl
@[simp] theorem encV_c1 (v : View) : SVal.cell (encV v) 1 = encI v.op := rfl
@[simp] theorem encV_c2 (v : View) : SVal.cell (encV v) 2 = encI v.modal := rfl
@[simp] theorem encV_c3 (v : View) : SVal.cell (encV v) 3 = encP v.popups := rfl
@[simp] theorem encV_c4 (v : View) : SVal.cell (encV v) 4 = encI v.top := rfl
@[simp] theorem sc1_i (n : Int) : isSc1 (int n) = true := rfl
@[simp] theorem sc1_b (b : Bool) : isSc1 (.bool b) = true := rfl
end Go.Lm
