/- Trees, in plain words. -/
import Derived.Test.YtcdnmiaelaombaaGreatLmAD
set_option linter.unusedVariables false
set_option linter.unusedSimpArgs false
set_option linter.unnecessarySimpa false
set_option linter.all false
namespace Go.Lm
/-! ### More steps -/
section
variable {α : Type}
@[simp] theorem guard_tt (p q r : Option α) : guardX (.bool true) true p q r = p := rfl
@[simp] theorem guard_ft (p q r : Option α) : guardX (.bool false) true p q r = q := rfl
@[simp] theorem guard_tf (p q r : Option α) : guardX (.bool true) false p q r = q := rfl
@[simp] theorem guard_ff (p q r : Option α) : guardX (.bool false) false p q r = p := rfl
@[simp] theorem pick_t (p q : Option α) : pickC (.bool true) p q = p := rfl
@[simp] theorem pick_f (p q : Option α) : pickC (.bool false) p q = q := rfl
end
@[simp] theorem guard_and (b c : Bool) (r : Option (List Bool)) : guardX (.bool b) true (some [c]) (some [false]) r = some [b && c] := by cases b <;> rfl
@[simp] theorem guard_or (b c : Bool) (r : Option (List Bool)) : guardX (.bool b) false (some [c]) (some [true]) r = some [b || c] := by cases b <;> rfl
@[simp] theorem guard_if (b c d : Bool) (r : Option (List Bool)) : guardX (.bool b) true (some [c]) (some [d]) r = some [if b = true then c else d] := by cases b <;> rfl
@[simp] theorem allOne_nil : allOne [] = true := rfl
@[simp] theorem allOne_one (x : SVal) : allOne [.v x] = oneS x := rfl
@[simp] theorem allOne_cons (x : SVal) (y : IVal) (r : List IVal) : allOne (.v x :: y :: r) = (oneS x && allOne (y :: r)) := rfl
@[simp] theorem sMax_int (a b : Int) : sMax (int a) (int b) = some (int (if a < b then b else a)) := rfl
@[simp] theorem elems_I (l : List Int) : elems 1 (encI l) = some (l.map (SVal.int .i64)) := by simp [elems, encI]
@[simp] theorem elemOk_aggn (n : Nat) (cs : List SVal) : elemOk true n (.agg cs) = (cs.length == n) := by simp [elemOk]
@[simp] theorem elemOk_N (x : Nod) : elemOk true 7 (encN x) = true := rfl
@[simp] theorem elemOk_S (x : Shown) : elemOk true 2 (encS x) = true := rfl
theorem app8 {n : Nat} (h : n ≤ 1000000) : n * 8 ≤ maxAppend := by unfold maxAppend; omega
theorem app16 {n : Nat} (h : n ≤ 1000000) : n * 16 ≤ maxAppend := by unfold maxAppend; omega
@[simp] theorem nat_eq_one (c : Nat) : ((c : Int) = 1) ↔ c = 1 := by omega
def rpN (x : Nod) : SVal := .rp [int x.kind, int x.tag, int x.parent, encI x.kids, int x.host, int x.root, encAs x.attrs]
@[simp] theorem fold_rpN (x : Nod) : SVal.rp [int x.kind, int x.tag, int x.parent, encI x.kids, int x.host, int x.root, encAs x.attrs] = rpN x := rfl
@[simp] theorem rpN_c0 (x : Nod) : SVal.cell (rpN x) 0 = int x.kind := rfl
@[simp] theorem rpN_c1 (x : Nod) : SVal.cell (rpN x) 1 = int x.tag := rfl
@[simp] theorem rpN_c2 (x : Nod) : SVal.cell (rpN x) 2 = int x.parent := rfl
@[simp] theorem rpN_c3 (x : Nod) : SVal.cell (rpN x) 3 = encI x.kids := rfl
@[simp] theorem rpN_c4 (x : Nod) : SVal.cell (rpN x) 4 = int x.host := rfl
@[simp] theorem rpN_c5 (x : Nod) : SVal.cell (rpN x) 5 = int x.root := rfl
@[simp] theorem rpN_c6 (x : Nod) : SVal.cell (rpN x) 6 = encAs x.attrs := rfl
/-! ### A loop that counts -/
theorem for_upto {α σ : Type} {body : LS → (LS → Option α) → Option α} (n : Nat) (S : Nat → σ → LS) (F : Nat → Nat → σ → Option α) (Inv : Nat → σ → Prop) (hn : n ≤ 1000000)
    (h0 : ∀ s next, Inv n s → body (S n s) next = F 0 n s)
    (h : ∀ (d i : Nat) (s : σ) (next : LS → Option α), i + d + 1 = n → i < n → Inv i s → IntKind.i64.wrap ((i : Int) + 1) = ((i + 1 : Nat) : Int) → (∀ s', Inv (i + 1) s' → next (S (i + 1) s') = F d (i + 1) s') → body (S i s) next = F (d + 1) i s)
    (k : Nat) (s : σ) (hk : n < k) (hI : Inv 0 s) : loopN body k (S 0 s) = F n 0 s := by
  have := loop_wf (body := body) (fun p : Nat × σ => S p.1 p.2) (fun p => F (n - p.1) p.1 p.2) (fun p => n - p.1) (fun p => p.1 ≤ n ∧ Inv p.1 p.2) ?_ k (0, s) ⟨Nat.zero_le _, hI⟩ (by simpa using hk)
  · simpa using this
  · rintro ⟨i, s⟩ ⟨hi, hs⟩ next hnx
    simp only at hi hs hnx ⊢
    by_cases h1 : i < n
    · obtain ⟨d, hd⟩ : ∃ d, i + d + 1 = n := ⟨n - i - 1, by omega⟩
      rw [show n - i = d + 1 by omega]
      refine h d i s next hd h1 hs (wrap1 (by omega)) fun s' hs' => ?_
      rw [hnx (i + 1, s') ⟨h1, hs'⟩ (by simp only; omega)]
      rw [show n - (i + 1) = d by omega]
    · have e : i = n := by omega
      subst e
      rw [Nat.sub_self]
      exact h0 s next hs
def allR (p : Nat → Bool) : Nat → Nat → Bool
  | 0, _ => true
  | d + 1, i => p i && allR p d (i + 1)
theorem allR_iff {p : Nat → Bool} : ∀ {d i : Nat}, allR p d i = true ↔ ∀ j, i ≤ j → j < i + d → p j = true
  | 0, i => by simp [allR]; omega
  | d + 1, i => by
    simp only [allR, Bool.and_eq_true, allR_iff (d := d)]
    constructor
    · rintro ⟨h1, h2⟩ j hj hj'
      by_cases e : j = i
      · exact e ▸ h1
      · exact h2 j (by omega) (by omega)
    · intro h
      exact ⟨h i (by omega) (by omega), fun j hj hj' => h j (by omega) (by omega)⟩
/-! ### Trees -/
def isN (t : List Nod) (n : Int) : Bool := decide (0 ≤ n) && decide (n < t.length)
def nd (t : List Nod) (n : Int) : Nod := t.getD n.toNat default
theorem isN_iff {t : List Nod} {n : Int} : isN t n = true ↔ 0 ≤ n ∧ n < t.length := by simp [isN]
theorem isN_nat {t : List Nod} {i : Nat} (h : i < t.length) : isN t i = true := isN_iff.2 ⟨by omega, by omega⟩
theorem nd_nat {t : List Nod} {i : Nat} (h : i < t.length) : nd t i = t[i] := by simp [nd, h]
theorem nd_mem {t : List Nod} {n : Int} (h : isN t n = true) : nd t n ∈ t := by
  obtain ⟨h1, h2⟩ := isN_iff.1 h
  have : n.toNat < t.length := by omega
  simp only [nd, List.getD_eq_getElem?_getD, List.getElem?_eq_getElem this, Option.getD_some]
  exact List.getElem_mem _
theorem idx_nd {t : List Nod} {n : Int} (h : isN t n = true) : sIdx true 7 (encT t) (int n) = some (encN (nd t n)) := by
  obtain ⟨h1, h2⟩ := isN_iff.1 h
  obtain ⟨i, rfl⟩ := Int.eq_ofNat_of_zero_le h1
  have hi : i < t.length := by omega
  rw [nd_nat hi, ← idx_T hi]
structure Sm (t : List Nod) : Prop where
  len : t.length ≤ 70
  each : ∀ x ∈ t, x.kids.length ≤ 80 ∧ x.attrs.length ≤ 20
theorem Sm.nd {t : List Nod} (h : Sm t) (n : Int) : (nd t n).kids.length ≤ 80 ∧ (Go.Lm.nd t n).attrs.length ≤ 20 := by
  by_cases hn : isN t n = true
  · exact h.each _ (nd_mem hn)
  · have : ¬ (0 ≤ n ∧ n < t.length) := fun h => hn (isN_iff.2 h)
    unfold Go.Lm.nd
    by_cases h0 : n.toNat < t.length
    · have := h.each t[n.toNat] (List.getElem_mem h0)
      simpa [List.getD_eq_getElem?_getD, h0] using this
    · simp only [List.getD_eq_getElem?_getD, List.getElem?_eq_none (by omega : t.length ≤ n.toNat), Option.getD_none]
      exact ⟨by show (0 : Nat) ≤ 80; omega, by show (0 : Nat) ≤ 20; omega⟩
def valOk (name v : Int) : Bool :=
  if name = 0 then decide (-2147483648 ≤ v) && decide (v < 2147483648) else if name = 4 then decide (0 ≤ v) && decide (v < 2147483648) else
  if name = 6 then decide (1 ≤ v) && decide (v ≤ 3) else if name = 9 then decide (0 ≤ v) && decide (v ≤ 63) else decide (v = 0)
def attOk (kind : Int) (a : Attr) : Bool :=
  decide (0 ≤ a.name) && decide (a.name ≤ 9) && valOk a.name a.value && (if kind = 3 then decide (a.name = 7) || decide (a.name = 8) else decide (kind = 1) && (!decide (a.name = 7) && !decide (a.name = 8)))
/-- The names rise, and from a bound on. -/
def incG : Option Int → List Attr → Bool
  | _, [] => true
  | p, a :: r => (match p with | none => true | some q => decide (q < a.name)) && incG (some a.name) r
def attsOk (x : Nod) : Bool := x.attrs.all (attOk x.kind) && incG none x.attrs
def kndOk (x : Nod) (n : Int) : Bool :=
  (decide (x.kind = 0) == decide (n = 0)) && decide (0 ≤ x.kind) && decide (x.kind ≤ 3) && (if x.kind = 1 then decide (0 ≤ x.tag) && decide (x.tag ≤ 4) else decide (x.tag = 0))
def kidOk (t : List Nod) (n k : Int) : Bool := isN t k && decide (cntI k (nd t n).kids = 1) && decide ((nd t k).parent = n) && (decide ((nd t k).kind = 1) || decide ((nd t k).kind = 2))
def kidsOk (t : List Nod) (n : Int) : Bool :=
  (nd t n).kids.all (kidOk t n) && !(decide ((nd t n).kind = 2) && decide (0 < (nd t n).kids.length)) && (decide ((nd t n).parent = -1) || (isN t (nd t n).parent && decide (cntI n (nd t (nd t n).parent).kids = 1)))
def shadOk (t : List Nod) (n : Int) : Bool :=
  if (nd t n).kind = 3 then decide ((nd t n).root = -1) && decide ((nd t n).parent = -1) && isN t (nd t n).host && decide ((nd t (nd t n).host).kind = 1) && decide ((nd t (nd t n).host).root = n)
  else decide ((nd t n).host = -1) && (decide ((nd t n).root = -1) || (decide ((nd t n).kind = 1) && isN t (nd t n).root && decide ((nd t (nd t n).root).kind = 3) && decide ((nd t (nd t n).root).host = n)))
def nodeOk (t : List Nod) (n : Int) : Bool := kndOk (nd t n) n && attsOk (nd t n) && kidsOk t n && shadOk t n
def upN (t : List Nod) (n : Int) : Int := if (nd t n).kind = 3 then (nd t n).host else (nd t n).parent
def endsF (t : List Nod) : Nat → Int → Bool
  | 0, _ => false
  | d + 1, n => if n = -1 then true else endsF t d (upN t n)
def mayT (t : List Nod) : Bool := decide (1 ≤ t.length) && decide (t.length ≤ 64) && allR (fun i => nodeOk t i) t.length 0 && allR (fun i => endsF t (t.length + 1) i) t.length 0
end Go.Lm
namespace Go.Lm
@[simp] theorem allOne_la (i v : Nat) : allOne [.la i v] = true := rfl
@[simp] theorem allOne_la' (i v : Nat) (y : IVal) (r : List IVal) : allOne (.la i v :: y :: r) = allOne (y :: r) := rfl
@[simp] theorem sEqA_2 (b : Bool) (a1 a2 b1 b2 : Int) : sEqA 2 b [int a1, int a2] [int b1, int b2] = some (.bool (decide (a1 = b1 ∧ a2 = b2) != b)) := by simp [sEqA, intsOf]
@[simp] theorem fold_I (l : List Int) : SVal.sl 1 false false (l.map (SVal.int .i64)) = encI l := rfl
@[simp] theorem fold_As (l : List Attr) : SVal.sl 2 false false (l.map encA) = encAs l := rfl
@[simp] theorem fold_P (l : List Shown) : SVal.sl 2 false false (l.map encS) = encP l := rfl
@[simp] theorem fold_T (l : List Nod) : SVal.sl 7 false false (l.map encN) = encT l := rfl
@[simp] theorem elems_As (l : List Attr) : elems 2 (encAs l) = some (l.map encA) := by show elems 2 (.sl 2 false false _) = _; simp [elems]
@[simp] theorem elems_P (l : List Shown) : elems 2 (encP l) = some (l.map encS) := by show elems 2 (.sl 2 false false _) = _; simp [elems]
@[simp] theorem weakE_int (k : IntKind) (n : Int) : weakE (.int k n) = .int k n := rfl
@[simp] theorem weakE_bool (b : Bool) : weakE (.bool b) = .bool b := rfl
@[simp] theorem weakE_N (x : Nod) : weakE (encN x) = encN x := rfl
@[simp] theorem weakE_S (x : Shown) : weakE (encS x) = encS x := rfl
@[simp] theorem weakE_A (x : Attr) : weakE (encA x) = encA x := rfl
@[simp] theorem weakE_I (l : List Int) : weakE (encI l) = encI l := rfl
@[simp] theorem weakE_agg (cs : List SVal) : weakE (.agg cs) = .agg (cs.map weak) := rfl
@[simp] theorem weak_int (k : IntKind) (n : Int) : weak (.int k n) = .int k n := rfl
@[simp] theorem weak_bool (b : Bool) : weak (.bool b) = .bool b := rfl
@[simp] theorem weak_agg (cs : List SVal) : weak (.agg cs) = .agg cs := rfl
theorem app88 {n : Nat} (h : n ≤ 1000000) : n * 88 ≤ maxAppend := by unfold maxAppend; omega
def smallN (x : Nod) : Bool := decide (x.kids.length ≤ 80) && decide (x.attrs.length ≤ 20)
def smallT (t : List Nod) : Bool := decide (t.length ≤ 70) && t.all smallN
theorem smallT_iff {t : List Nod} : smallT t = true ↔ Sm t := by
  simp only [smallT, smallN, Bool.and_eq_true, decide_eq_true_eq, List.all_eq_true]
  exact ⟨fun h => ⟨h.1, h.2⟩, fun h => ⟨h.len, h.each⟩⟩
/-- All nodes are as they must be, and so is whom one comes to from them. -/
theorem nodeOk_up {t : List Nod} {n : Int} (h : nodeOk t n = true) (hn : isN t n = true) : upN t n = -1 ∨ isN t (upN t n) = true := by
  simp only [nodeOk, kidsOk, shadOk, Bool.and_eq_true, Bool.or_eq_true, decide_eq_true_eq] at h
  unfold upN
  by_cases h3 : (nd t n).kind = 3
  · simp [h3] at h ⊢; exact .inr h.2.1.1.2
  · simp [h3] at h ⊢
    rcases h.1.2.2 with h | h
    · exact .inl h
    · exact .inr h.1
def allOk (t : List Nod) : Bool := allR (fun i => nodeOk t i) t.length 0
theorem allOk_at {t : List Nod} (h : allOk t = true) {n : Int} (hn : isN t n = true) : nodeOk t n = true := by
  obtain ⟨h1, h2⟩ := isN_iff.1 hn
  obtain ⟨i, rfl⟩ := Int.eq_ofNat_of_zero_le h1
  exact allR_iff.1 h i (by omega) (by omega)
end Go.Lm
namespace Go.Lm
/-! ### The same, as the program asks for it -/
theorem sSl_I (l : List Int) (i : Nat) (h : i ≤ l.length) : sSlice 1 (encI l) (some (int i)) none = some (encI (l.drop i)) := by
  show sSlice 1 (.sl 1 false false _) _ _ = _
  simp only [sSlice, List.length_map, Option.bind_some, sBnd_nat h, encI, if_true]
  rw [List.take_of_length_le (by simp)]
  simp
theorem cnt_mem {n : Int} : ∀ {l : List Int}, 0 < cntI n l ↔ n ∈ l
  | [] => by simp [cntI]
  | x :: r => by
    simp only [cntI, List.mem_cons, ← cnt_mem (l := r)]
    by_cases h : x = n
    · simp [h]; omega
    · simp [h, Ne.symm h]
theorem plF_get {n : Int} : ∀ {l : List Int} {i : Nat}, n ∈ l → ∃ j : Nat, j < l.length ∧ plF n l i = ((i + j : Nat) : Int) ∧ cntI n l = 1 + cntI n (l.drop (j + 1))
  | [], _, h => by simp at h
  | x :: r, i, h => by
    by_cases e : x = n
    · exact ⟨0, by simp, by simp [plF, e], by simp [cntI, e]⟩
    · have h' : n ∈ r := by simpa [Ne.symm e] using h
      obtain ⟨j, h1, h2, h3⟩ := plF_get (i := i + 1) h'
      exact ⟨j + 1, by simpa using h1, by simp only [plF, e, if_false]; rw [h2]; omega, by simp [cntI, e, h3]⟩
def attP (kind : Int) (a : Attr) : Bool := decide (a.name < 10) && valOk a.name a.value && ((decide (a.name = 7) || decide (a.name = 8)) == decide (kind = 3))
def attsP (x : Nod) : Bool := x.attrs.all (attP x.kind) && incG (some (-1)) x.attrs && (decide (x.attrs.length = 0) || decide (x.kind = 1) || decide (x.kind = 3))
theorem incG_ge : ∀ {l : List Attr} {p : Int}, 0 ≤ p → incG (some p) l = true → ∀ a ∈ l, p < a.name
  | [], _, _, _, a, h => by simp at h
  | b :: r, p, hp, h, a, ha => by
    simp only [incG, Bool.and_eq_true, decide_eq_true_eq] at h
    rcases List.mem_cons.1 ha with rfl | ha
    · exact h.1
    · have := incG_ge (by omega) h.2 a ha
      omega
theorem incG_all {l : List Attr} : incG (some (-1)) l = true ↔ incG none l = true ∧ ∀ a ∈ l, 0 ≤ a.name := by
  cases l with
  | nil => simp [incG]
  | cons a r =>
    simp only [incG, Bool.and_eq_true, decide_eq_true_eq, List.mem_cons, Bool.true_and]
    constructor
    · rintro ⟨h1, h2⟩
      refine ⟨h2, fun b hb => ?_⟩
      rcases hb with rfl | hb
      · omega
      · have := incG_ge (by omega) h2 b hb; omega
    · rintro ⟨h1, h2⟩
      exact ⟨by have := h2 a (.inl rfl); omega, h1⟩
theorem attsP_eq (x : Nod) : attsP x = attsOk x := by
  rw [Bool.eq_iff_iff]
  simp only [attsP, attsOk, Bool.and_eq_true, List.all_eq_true, incG_all]
  constructor
  · rintro ⟨⟨h1, h2, h3⟩, h4⟩
    refine ⟨fun a ha => ?_, h2⟩
    have := h1 a ha
    have h5 := h3 a ha
    have h6 : x.kind = 1 ∨ x.kind = 3 := by
      simp only [Bool.or_eq_true, decide_eq_true_eq] at h4
      rcases h4 with (h4 | h4) | h4
      · rw [List.length_eq_zero_iff.1 h4] at ha; simp at ha
      · exact .inl h4
      · exact .inr h4
    simp only [attP, Bool.and_eq_true, decide_eq_true_eq] at this
    obtain ⟨⟨h7, h8⟩, h9⟩ := this
    simp only [attOk, h8, Bool.and_true, Bool.and_eq_true, decide_eq_true_eq]
    refine ⟨⟨h5, by omega⟩, ?_⟩
    rcases h6 with h6 | h6
    · simpa [h6] using h9
    · simpa [h6] using h9
  · rintro ⟨h1, h2⟩
    have h0 : ∀ a ∈ x.attrs, attP x.kind a = true ∧ 0 ≤ a.name ∧ (x.kind = 1 ∨ x.kind = 3) := fun a ha => by
      have := h1 a ha
      simp only [attOk, Bool.and_eq_true, decide_eq_true_eq] at this
      obtain ⟨⟨⟨h3, h4⟩, h5⟩, h6⟩ := this
      by_cases h7 : x.kind = 3
      · simp [h7] at h6
        refine ⟨?_, h3, .inr h7⟩
        simp [attP, h5, h7, h6]; omega
      · simp [h7] at h6
        refine ⟨?_, h3, .inl h6.1⟩
        simp [attP, h5, h7, h6]; omega
    refine ⟨⟨fun a ha => (h0 a ha).1, h2, fun a ha => (h0 a ha).2.1⟩, ?_⟩
    cases hx : x.attrs with
    | nil => simp
    | cons a r =>
      have := (h0 a (by simp [hx])).2.2
      simpa using this
/-- One goes up as the program goes. -/
theorem up_max {t : List Nod} {n : Int} (h : nodeOk t n = true) : (if (nd t n).parent < (nd t n).host then (nd t n).host else (nd t n).parent) = upN t n := by
  simp only [nodeOk, kidsOk, shadOk, Bool.and_eq_true, Bool.or_eq_true, decide_eq_true_eq] at h
  unfold upN
  by_cases h3 : (nd t n).kind = 3
  · simp [h3] at h ⊢
    have h4 := h.2.1.1.1.2
    have h5 := isN_iff.1 h.2.1.1.2
    intro h6; omega
  · simp [h3] at h ⊢
    have h4 := h.2.1
    rcases h.1.2.2 with h5 | h5
    · rw [h4, h5]; simp
    · have h6 := isN_iff.1 h5.1
      rw [h4]; intro h7; omega
/-- Whom one comes to, so many steps. -/
def walkF (t : List Nod) : Nat → Int → List Int
  | 0, _ => []
  | d + 1, n => if n = -1 then [] else n :: walkF t d (upN t n)
theorem walk_ends {t : List Nod} : ∀ (d : Nat) (n : Int), endsF t (d + 1) n = decide ((walkF t (d + 1) n).length ≤ d)
  | 0, n => by
    simp only [endsF, walkF]
    by_cases h : n = -1 <;> simp [h]
  | d + 1, n => by
    rw [endsF, walkF]
    by_cases h : n = -1
    · simp [h]
    · rw [if_neg h, if_neg h, walk_ends d]
      simp
theorem walk_len {t : List Nod} : ∀ (d : Nat) (n : Int), (walkF t d n).length ≤ d
  | 0, _ => by simp [walkF]
  | d + 1, n => by
    rw [walkF]
    split
    · simp
    · have := walk_len (t := t) d (upN t n); simp; omega
end Go.Lm
namespace Go.Lm
@[simp] theorem both_l {α : Type} (p : Option α) (y : α) : both p (some y) = p := rfl
@[simp] theorem sIn_int {n i : Nat} : sIn n (int (i : Int)) = if i < n then some i else none := by
  by_cases h : i < n
  · rw [if_pos h, sIn_nat h]
  · rw [if_neg h]; simp [sIn, h]
theorem set_same {l : List SVal} {i : Nat} {x : SVal} (h : l[i]? = some x) : l.set i x = l := by
  obtain ⟨h1, h2⟩ := List.getElem?_eq_some_iff.1 h
  rw [← h2, List.set_getElem_self]
@[simp] theorem tup0 : ∀ n : Int, notTup (int n) = some (int n) := fun _ => rfl
end Go.Lm
namespace Go.Lm
theorem pick_and (b c : Bool) : pickC (.bool b) (some { r := SVal.bool false } : Option Res) (some { r := SVal.bool c }) = some { r := SVal.bool (!b && c) } := by cases b <;> rfl
theorem pick_or (b c : Bool) : pickC (.bool b) (some { r := SVal.bool true } : Option Res) (some { r := SVal.bool c }) = some { r := SVal.bool (b || c) } := by cases b <;> rfl
theorem bool_if (b c d : Bool) : (if b = true then c else d) = ((b && c) || (!b && d)) := by cases b <;> simp
end Go.Lm
