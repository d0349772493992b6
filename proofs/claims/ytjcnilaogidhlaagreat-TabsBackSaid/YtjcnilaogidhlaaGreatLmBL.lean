/- Scopes, in plain words; rows in order. -/
import Derived.Test.YtjcnilaogidhlaaGreatLmBK
import Derived.Test.YtjcnilaogidhlaaGreatLmAI
set_option linter.unusedVariables false
set_option linter.unusedSimpArgs false
set_option linter.unnecessarySimpa false
set_option linter.all false
section
namespace Go.Lm
open List
def ownsS (v : View) (n : Int) : Bool := decide (n = 0) || !decide ((nd v.tree n).root = -1) || isSl v.tree n || decide (n ∈ nodesP v.popups)
def ownerN (v : View) (n : Int) : Int := fstP (ownsS v) (fups v.tree n).tail
def placeP (v : View) (n : Int) (x : Shown) : Bool := decide (x.node = n) && !decide (x.invoker = -1) && !(isN v.tree x.invoker && decide (n ∈ fups v.tree x.invoker))
def placeN (v : View) (n : Int) : Int := ((v.popups.find? (placeP v n)).map (·.invoker)).getD (-1)
def rankA (i : Int) : Int := if i = 0 then 2147483648 else i
def rankN (v : View) (n : Int) : Int := rankA (idxA v.tree n)
def candP (v : View) (o k : Int) : Bool := decide ((nd v.tree k).kind = 1) && decide (ownerN v k = o) && decide (0 ≤ idxA v.tree k) && decide (placeN v k = -1) && (ownsS v k || tabA v k)
def candL (v : View) (o : Int) : List Int := (flL v.tree).filter (candP v o)
/-- One goes in behind all that need not be behind it. -/
def insR (r : Int → Int) (x : Int) : List Int → List Int
  | [] => [x]
  | y :: l => if r x < r y then x :: y :: l else y :: insR r x l
def sortR (r : Int → Int) (l : List Int) : List Int := l.foldl (fun a x => insR r x a) []
def itemsS (v : View) (o : Int) : List Int := if ownsS v o = true then sortR (rankN v) (candL v o) else []
abbrev Ord (r : Int → Int) (l : List Int) : Prop := l.Pairwise fun a b => r a ≤ r b
section
variable {r : Int → Int}
theorem ins_perm (x : Int) : ∀ l, (insR r x l).Perm (x :: l)
  | [] => Perm.refl _
  | y :: l => by
    unfold insR
    split
    · exact Perm.refl _
    · exact ((ins_perm x l).cons y).trans (Perm.swap x y l)
theorem ins_ord {x : Int} : ∀ {l : List Int}, Ord r l → Ord r (insR r x l)
  | [], _ => by simp [insR, Ord]
  | y :: l, h => by
    have h' := List.pairwise_cons.1 h
    unfold insR
    split
    · rename_i hlt
      refine List.pairwise_cons.2 ⟨fun b hb => ?_, h⟩
      rcases List.mem_cons.1 hb with rfl | hb
      · omega
      · have := h'.1 b hb; omega
    · rename_i hlt
      refine List.pairwise_cons.2 ⟨fun b hb => ?_, ins_ord h'.2⟩
      rcases List.mem_cons.1 ((ins_perm x l).mem_iff.1 hb) with rfl | hb
      · omega
      · exact h'.1 b hb
theorem ins_filter {x : Int} (c : Int) : ∀ {l : List Int}, Ord r l → (insR r x l).filter (fun y => decide (r y = c)) = l.filter (fun y => decide (r y = c)) ++ if r x = c then [x] else []
  | [], _ => by
    by_cases hc : r x = c <;> simp [insR, hc]
  | y :: l, h => by
    have h' := List.pairwise_cons.1 h
    unfold insR
    split
    · rename_i hlt
      by_cases hc : r x = c
      · have e : (y :: l).filter (fun z => decide (r z = c)) = [] := by
          rw [List.filter_eq_nil_iff]
          intro z hz
          rcases List.mem_cons.1 hz with rfl | hz
          · simp; omega
          · have := h'.1 z hz; simp; omega
        rw [List.filter_cons, if_pos (by simp [hc]), e]; simp [hc]
      · rw [List.filter_cons, if_neg (by simp [hc])]; simp [hc]
    · rw [List.filter_cons, List.filter_cons, ins_filter c h'.2]
      split <;> simp
theorem sort_go : ∀ (l acc : List Int), Ord r acc → Ord r (l.foldl (fun a x => insR r x a) acc) ∧ (l.foldl (fun a x => insR r x a) acc).Perm (acc ++ l) ∧
    ∀ c, (l.foldl (fun a x => insR r x a) acc).filter (fun y => decide (r y = c)) = acc.filter (fun y => decide (r y = c)) ++ l.filter (fun y => decide (r y = c))
  | [], acc, h => ⟨h, by simp, fun c => by simp⟩
  | x :: l, acc, h => by
    obtain ⟨h1, h2, h3⟩ := sort_go l (insR r x acc) (ins_ord h)
    rw [List.foldl_cons]
    refine ⟨h1, h2.trans ?_, fun c => ?_⟩
    · have := (ins_perm (r := r) x acc).append_right l
      exact this.trans (List.perm_middle.symm)
    · rw [h3 c, ins_filter c h, List.filter_cons]
      by_cases hc : r x = c <;> simp [hc]
theorem sort_ord (l : List Int) : Ord r (sortR r l) := (sort_go l [] List.Pairwise.nil).1
theorem sort_perm (l : List Int) : (sortR r l).Perm l := by unfold sortR; simpa using (sort_go (r := r) l [] List.Pairwise.nil).2.1
theorem sort_filter (l : List Int) (c : Int) : (sortR r l).filter (fun y => decide (r y = c)) = l.filter (fun y => decide (r y = c)) := by unfold sortR; simpa using (sort_go (r := r) l [] List.Pairwise.nil).2.2 c
theorem ord_unique : ∀ {a b : List Int}, Ord r a → Ord r b → (∀ c, a.filter (fun y => decide (r y = c)) = b.filter (fun y => decide (r y = c))) → a = b
  | [], [], _, _, _ => rfl
  | [], y :: b, _, _, h => by have := h (r y); simp at this
  | x :: a, [], _, _, h => by have := h (r x); simp at this
  | x :: a, y :: b, ha, hb, h => by
    have ha' := List.pairwise_cons.1 ha
    have hb' := List.pairwise_cons.1 hb
    have hx : x ∈ (y :: b) := by
      have h1 : x ∈ (x :: a).filter (fun z => decide (r z = r x)) := by simp
      rw [h (r x)] at h1
      exact (List.mem_filter.1 h1).1
    have hy : y ∈ (x :: a) := by
      have h1 : y ∈ (y :: b).filter (fun z => decide (r z = r y)) := by simp
      rw [← h (r y)] at h1
      exact (List.mem_filter.1 h1).1
    have e : r x = r y := by
      have h1 : r y ≤ r x := by
        rcases List.mem_cons.1 hx with rfl | hx
        · omega
        · exact hb'.1 x hx
      have h2 : r x ≤ r y := by
        rcases List.mem_cons.1 hy with rfl | hy
        · omega
        · exact ha'.1 y hy
      omega
    have h1 := h (r x)
    rw [List.filter_cons, if_pos (by simp), List.filter_cons, if_pos (by simp [e])] at h1
    injection h1 with h1 h2
    subst h1
    rw [ord_unique ha'.2 hb'.2 fun c => ?_]
    by_cases hc : r x = c
    · subst hc; exact h2
    · have := h c
      rw [List.filter_cons, if_neg (by simp [hc]), List.filter_cons, if_neg (by simp [hc])] at this
      exact this
/-! ### As the library sorts: one is moved ahead, place by place -/
theorem ins_back {x y : Int} (h : r x < r y) : ∀ (p : List Int), insR r x (p ++ [y]) = insR r x p ++ [y]
  | [] => by simp [insR, h]
  | z :: p => by
    rw [List.cons_append, insR, insR]
    split
    · simp
    · rw [ins_back h p]; simp
theorem ins_stay {x : Int} : ∀ {p : List Int}, (∀ y ∈ p, ¬ r x < r y) → insR r x p = p ++ [x]
  | [], _ => rfl
  | z :: p, h => by
    rw [insR, if_neg (h z (by simp)), ins_stay fun y hy => h y (by simp [hy])]; simp
theorem ins_stop {x y : Int} {p : List Int} (ho : Ord r (p ++ [y])) (h : ¬ r x < r y) : insR r x (p ++ [y]) = p ++ [y] ++ [x] := by
  refine ins_stay fun z hz => ?_
  rcases List.mem_append.1 hz with hz | hz
  · have := (List.pairwise_append.1 ho).2.2 z hz y (by simp); omega
  · simp at hz; subst hz; exact h
/-! ### As the document does: the least of those that are left, the first of them -/
def minO (r : Int → Int) : List Int → Option Int → Option Int
  | [], b => b
  | x :: l, b => minO r l (match b with | none => some x | some y => if r x < r y then some x else some y)
theorem min_go : ∀ (l acc : List Int), minO r l acc.head? = (l.foldl (fun a x => insR r x a) acc).head?
  | [], _ => rfl
  | x :: l, acc => by
    rw [List.foldl_cons, ← min_go l (insR r x acc)]
    cases acc with
    | nil => rfl
    | cons y a =>
      show minO r l (if r x < r y then some x else some y) = _
      congr 1
      unfold insR
      split <;> rfl
theorem min_head (l : List Int) : minO r l none = (sortR r l).head? := min_go l []
theorem sort_left {l : List Int} (hn : l.Nodup) (m : Nat) : sortR r (l.filter fun x => !decide (x ∈ (sortR r l).take m)) = (sortR r l).drop m := by
  have hs : (sortR r l).Nodup := (sort_perm l).nodup_iff.2 hn
  refine ord_unique (sort_ord _) ((sort_ord l).sublist (List.drop_sublist _ _)) fun c => ?_
  rw [sort_filter, List.filter_filter]
  have e1 : (sortR r l).drop m = (sortR r l).filter fun x => !decide (x ∈ (sortR r l).take m) := by
    have hs' : ((sortR r l).take m ++ (sortR r l).drop m).Nodup := by rw [List.take_append_drop]; exact hs
    conv => rhs; rw [← List.take_append_drop m (sortR r l)]
    rw [List.filter_append]
    have a1 : ((sortR r l).take m).filter (fun x => !decide (x ∈ (sortR r l).take m)) = [] := by
      rw [List.filter_eq_nil_iff]; intro x hx; simp [hx]
    have a2 : ((sortR r l).drop m).filter (fun x => !decide (x ∈ (sortR r l).take m)) = (sortR r l).drop m := by
      rw [List.filter_eq_self]; intro x hx
      have : x ∉ (sortR r l).take m := fun h => (List.nodup_append.1 hs').2.2 x h x hx rfl
      simp [this]
    conv at a1 => lhs; rw [show (fun x => !decide (x ∈ (sortR r l).take m)) = fun x => !decide (x ∈ (sortR r l).take m) from rfl]
    rw [List.take_append_drop]
    rw [a1, a2, List.nil_append]
  rw [e1, List.filter_filter]
  have e2 : ∀ (q : List Int), (q.filter fun a => decide (r a = c) && !decide (a ∈ (sortR r l).take m)) = ((q.filter fun a => decide (r a = c)).filter fun a => !decide (a ∈ (sortR r l).take m)) := fun q => by
    rw [List.filter_filter]; refine List.filter_congr fun a _ => ?_; rw [Bool.and_comm]
  rw [e2 l, e2 (sortR r l), sort_filter]
end
end Go.Lm
end
section
namespace Go.Lm
open List
theorem node_inj {l : List Shown} (hn : (nodesP l).Nodup) {x y : Shown} (hx : x ∈ l) (hy : y ∈ l) (h : x.node = y.node) : x = y := by
  unfold nodesP at hn
  induction l with
  | nil => simp at hx
  | cons z l ih =>
    rw [List.map_cons, List.nodup_cons] at hn
    rcases List.mem_cons.1 hx with e1 | hx2
    · rcases List.mem_cons.1 hy with e2 | hy2
      · rw [e1, e2]
      · exact absurd (by rw [← e1, h]; exact List.mem_map_of_mem (f := fun x : Shown => x.node) hy2) hn.1
    · rcases List.mem_cons.1 hy with e2 | hy2
      · exact absurd (by rw [← e2, ← h]; exact List.mem_map_of_mem (f := fun x : Shown => x.node) hx2) hn.1
      · exact ih hn.2 hx2 hy2
theorem place_first {v : View} (hn : (nodesP v.popups).Nodup) {x : Shown} (hx : x ∈ v.popups) : placeN v x.node = if (isN v.tree x.invoker && decide (x.node ∈ fups v.tree x.invoker)) = true then -1 else x.invoker := by
  unfold placeN
  cases hf : v.popups.find? (placeP v x.node) with
  | some z =>
    have h1 := List.find?_some hf
    have h2 := List.mem_of_find?_eq_some hf
    have h3 : z.node = x.node := by
      simp only [placeP, Bool.and_eq_true, decide_eq_true_eq] at h1; exact h1.1.1
    have h4 := node_inj hn h2 hx h3
    subst h4
    simp only [placeP, Bool.and_eq_true, Bool.not_eq_true'] at h1
    rw [if_neg (by rw [h1.2]; simp)]; rfl
  | none =>
    have h1 := List.find?_eq_none.1 hf x hx
    simp only [placeP, Bool.and_eq_true, decide_eq_true_eq, Bool.not_eq_true'] at h1
    by_cases hi : x.invoker = -1
    · split
      · rfl
      · rw [hi]; rfl
    · have h2 : (isN v.tree x.invoker && decide (x.node ∈ fups v.tree x.invoker)) = true := by
        rw [← Bool.not_eq_false]; intro h; exact h1 ⟨⟨trivial, by simpa using hi⟩, h⟩
      rw [if_pos h2]; rfl
theorem place_not {v : View} {n : Int} (h : n ∉ nodesP v.popups) : placeN v n = -1 := by
  unfold placeN
  cases hf : v.popups.find? (placeP v n) with
  | none => rfl
  | some z =>
    have h1 := List.find?_some hf
    have h2 := List.mem_of_find?_eq_some hf
    simp only [placeP, Bool.and_eq_true, decide_eq_true_eq] at h1
    exact absurd (List.mem_map.2 ⟨z, h2, h1.1.1⟩) h
theorem item_mem {v : View} {o k : Int} : k ∈ itemsS v o ↔ ownsS v o = true ∧ k ∈ flL v.tree ∧ candP v o k = true := by
  unfold itemsS
  split
  · rename_i h
    rw [(sort_perm _).mem_iff, candL, List.mem_filter]; simp [h]
  · rename_i h; simp [h]
theorem items_nodup {v : View} (ht : May v.tree) (o : Int) : (itemsS v o).Nodup := by
  unfold itemsS
  split
  · exact (sort_perm _).nodup_iff.2 ((fl_nodup ht).filter _)
  · exact List.nodup_nil
theorem items_len {v : View} (ht : May v.tree) (o : Int) : (itemsS v o).length ≤ v.tree.length := by
  unfold itemsS
  split
  · rw [(sort_perm _).length_eq]; exact Nat.le_trans (List.length_filter_le _ _) (fl_len ht)
  · simp
/-- An item is an item of one owner alone. -/
theorem item_owner {v : View} {o k : Int} (h : k ∈ itemsS v o) : ownerN v k = o ∧ 0 ≤ idxA v.tree k ∧ placeN v k = -1 ∧ (ownsS v k = true ∨ tabA v k = true) := by
  have := (item_mem.1 h).2.2
  simp only [candP, Bool.and_eq_true, decide_eq_true_eq, Bool.or_eq_true] at this
  exact ⟨this.1.1.1.2, this.1.1.2, this.1.2, this.2⟩
end Go.Lm
end
section
namespace Go.Lm
open List
theorem fst_some {p : Int → Bool} : ∀ {l : List Int} {x : Int}, x ∈ l → p x = true → fstP p l ∈ l ∧ p (fstP p l) = true
  | [], _, h, _ => by simp at h
  | y :: l, x, h, hp => by
    unfold fstP
    split
    · rename_i hy; exact ⟨by simp, hy⟩
    · rename_i hy
      rcases List.mem_cons.1 h with rfl | h
      · exact absurd hp hy
      · have := fst_some h hp; exact ⟨List.mem_cons_of_mem _ this.1, this.2⟩
theorem get_mem {a z : Int} : ∀ {l : List Attr}, getA a l = some z → ∃ x ∈ l, x.name = a ∧ x.value = z
  | [], h => by simp [getA] at h
  | x :: l, h => by
    rw [getA] at h
    split at h
    · rename_i e; cases h; exact ⟨x, by simp, e, rfl⟩
    · obtain ⟨y, h1, h2⟩ := get_mem h; exact ⟨y, by simp [h1], h2⟩
theorem idx_lt {t : List Nod} (ht : May t) {n : Int} (hn : isN t n = true) : idxA t n < 2147483648 := by
  unfold idxA
  cases hg : getA 0 (nd t n).attrs with
  | none => simp
  | some z =>
    obtain ⟨x, h1, h2, rfl⟩ := get_mem hg
    have h3 := (ht.f hn).atts
    simp only [attsOk, Bool.and_eq_true, List.all_eq_true] at h3
    have h4 := h3.1 x h1
    simp [attOk, valOk, h2] at h4
    simpa using h4.1.2
theorem two_sub {l : List Int} {i : Nat} (hi : i + 1 < l.length) : [l[i], l[i + 1]].Sublist l := by
  have e : l.drop i = l[i] :: l[i + 1] :: l.drop (i + 2) := by rw [List.drop_eq_getElem_cons (by omega), List.drop_eq_getElem_cons hi]
  have h : [l[i], l[i + 1]].Sublist (l.drop i) := by rw [e]; exact ((List.nil_sublist _).cons₂ _).cons₂ _
  exact h.trans (List.drop_sublist _ _)
/-- Two items, one behind the other. -/
theorem items_two {v : View} (ht : May v.tree) {o : Int} {i : Nat} (hi : i + 1 < (itemsS v o).length) :
    rankN v (itemsS v o)[i] ≤ rankN v (itemsS v o)[i + 1] ∧ (rankN v (itemsS v o)[i] = rankN v (itemsS v o)[i + 1] → plF (itemsS v o)[i] (flL v.tree) 0 < plF (itemsS v o)[i + 1] (flL v.tree) 0) := by
  have h2 := two_sub hi
  generalize ha : (itemsS v o)[i] = a at *
  generalize hb : (itemsS v o)[i + 1] = b at *
  unfold itemsS at h2 ha hb hi
  split at h2
  · have h3 := (sort_ord (r := rankN v) (candL v o)).sublist h2
    have h4 : rankN v a ≤ rankN v b := (List.pairwise_cons.1 h3).1 b (by simp)
    refine ⟨h4, fun e => ?_⟩
    have h5 := h2.filter fun y => decide (rankN v y = rankN v a)
    rw [sort_filter, List.filter_cons, if_pos (by simp), List.filter_cons, if_pos (by simp [e]), List.filter_nil] at h5
    have h6 : [a, b].Sublist (flL v.tree) := h5.trans (List.filter_sublist.trans List.filter_sublist)
    exact (pl_sub 0 (fl_nodup ht) h6).2
  · simp at h2
theorem items_order {v : View} (ht : May v.tree) {o : Int} {i : Nat} (hi : i + 1 < (itemsS v o).length) :
    ¬ (idxA v.tree (itemsS v o)[i] = 0 ∧ 0 < idxA v.tree (itemsS v o)[i + 1]) ∧ ¬ (0 < idxA v.tree (itemsS v o)[i + 1] ∧ idxA v.tree (itemsS v o)[i + 1] < idxA v.tree (itemsS v o)[i]) ∧
    ¬ (idxA v.tree (itemsS v o)[i] = idxA v.tree (itemsS v o)[i + 1] ∧ plF (itemsS v o)[i + 1] (flL v.tree) 0 < plF (itemsS v o)[i] (flL v.tree) 0) := by
  obtain ⟨h1, h2⟩ := items_two ht hi
  have hb := idx_lt ht (fl_is ht (item_mem.1 (List.getElem_mem hi)).2.1)
  simp only [rankN, rankA] at h1 h2
  refine ⟨fun ⟨e1, e2⟩ => ?_, fun ⟨e1, e2⟩ => ?_, fun ⟨e1, e2⟩ => ?_⟩
  · rw [if_pos e1, if_neg (by omega)] at h1; omega
  · rw [if_neg (by omega), if_neg (by omega)] at h1; omega
  · have := h2 (by rw [e1]); omega
/-- Whoever the tab key reaches is an item of its owner. -/
theorem tab_item {v : View} (ht : May v.tree) {n : Int} (hn : isN v.tree n = true) (h : tabA v n = true) (hp : placeN v n = -1) : n ∈ itemsS v (ownerN v n) ∧ isN v.tree (ownerN v n) = true := by
  simp only [tabA, Bool.and_eq_true, decide_eq_true_eq] at h
  have hk := isA_kind ht hn h.1
  have h0 : n ≠ 0 := fun e => by rw [e, kind0 ht] at hk; omega
  have hr : isR v n = true := by
    have := h.1; simp only [isA, Bool.and_eq_true] at this; exact this.1.2
  have hz := (isR_iff.1 hr).2
  have hc : fups v.tree n = n :: fups v.tree (fpar v.tree n) := fups_cons ht hn
  have hz' : (0 : Int) ∈ (fups v.tree n).tail := by
    rw [hc] at hz ⊢
    exact (List.mem_cons.1 hz).resolve_left fun e => h0 e.symm
  have ho := fst_some (p := ownsS v) hz' (by simp [ownsS])
  have hm : ownerN v n ∈ fups v.tree n := List.mem_of_mem_tail ho.1
  refine ⟨item_mem.2 ⟨ho.2, (mem_fl ht hn).2 hz, ?_⟩, (flTr ht).upP n hn _ hm⟩
  simp [candP, hk, h.2, hp, tabA, h.1]
/-- An owner's items where no index is above 0. -/
theorem items_flat {v : View} (ht : May v.tree) {o : Int} (h : ∀ k ∈ itemsS v o, ¬ 0 < idxA v.tree k) : (itemsS v o).Sublist (flL v.tree) := by
  unfold itemsS at h ⊢
  split
  · rename_i ho
    rw [if_pos ho] at h
    have e : sortR (rankN v) (candL v o) = candL v o := by
      have hz : ∀ k ∈ candL v o, rankN v k = 2147483648 := fun k hk => by
        have h1 := h k ((sort_perm _).mem_iff.2 hk)
        have h2 := (List.mem_filter.1 hk).2
        simp only [candP, Bool.and_eq_true, decide_eq_true_eq] at h2
        have : idxA v.tree k = 0 := by omega
        simp [rankN, rankA, this]
      refine ord_unique (sort_ord _) ?_ (sort_filter _)
      exact List.pairwise_iff_forall_sublist.2 fun {a b} hab => by
        have ha := hz a (hab.subset (by simp)); have hb := hz b (hab.subset (by simp))
        omega
    rw [e]; exact List.filter_sublist
  · exact List.nil_sublist _
end Go.Lm
end
