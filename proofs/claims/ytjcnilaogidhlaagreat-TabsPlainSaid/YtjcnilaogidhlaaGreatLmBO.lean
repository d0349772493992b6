/- Tabs: whom the tab key reaches, in plain words. -/
import Derived.Test.YtjcnilaogidhlaaGreatLmBL
set_option linter.unusedVariables false
set_option linter.unusedSimpArgs false
set_option linter.unnecessarySimpa false
set_option linter.all false
section
namespace Go.Lm
open List
/-- In whose scope a node is reached. -/
def parS (v : View) (n : Int) : Int := if isN v.tree n = true then (if placeN v n = -1 then ownerN v n else ownerN v (placeN v n)) else -1
def itP (v : View) : Nat → Int → Int
  | 0, n => n
  | d + 1, n => itP v d (parS v n)
def plcL (v : View) (n : Int) : List Int := ((v.popups.filter fun x => decide (placeN v x.node = n)).map (·.node))
def chS (v : View) (o : Int) : List Int := (itemsS v o).flatMap fun n => n :: plcL v n
def scP (v : View) : Nat → Int → List Int
  | 0, _ => []
  | f + 1, o => (chS v o).flatMap fun n => (if tabA v n = true then [n] else []) ++ scP v f n
def scL (v : View) : List Int := scP v (v.tree.length + 1) 0
def oneL (v : View) (f : Nat) (n : Int) : List Int := (if tabA v n = true then [n] else []) ++ scP v f n
theorem sc_succ (v : View) (f : Nat) (o : Int) : scP v (f + 1) o = (chS v o).flatMap (oneL v f) := rfl
theorem par_m1 (v : View) : parS v (-1) = -1 := by unfold parS; rw [if_neg (not_m1 _)]
theorem it_m1 (v : View) : ∀ d, itP v d (-1) = -1
  | 0 => rfl
  | d + 1 => by rw [itP, par_m1, it_m1 v d]
theorem fst_m1 {p : Int → Bool} {l : List Int} (h : ∀ x ∈ l, p x = false) : fstP p l = -1 := by
  rcases fst_mem (p := p) (l := l) with e | ⟨e1, e2⟩
  · exact e
  · exact absurd e2 (by rw [h _ e1]; simp)
section
variable {v : View} (ht : May v.tree)
include ht
omit ht in
theorem place0 (hp : ∀ x ∈ v.popups, isN v.tree x.node = true ∧ x.node ≠ 0) : placeN v 0 = -1 := by
  refine place_not fun hm => ?_
  obtain ⟨x, hx, e⟩ := List.mem_map.1 hm
  exact (hp x hx).2 e
theorem owner0 : ownerN v 0 = -1 := by unfold ownerN; rw [fups0 ht]; rfl
theorem parS0 (hp : ∀ x ∈ v.popups, isN v.tree x.node = true ∧ x.node ≠ 0) : parS v 0 = -1 := by
  unfold parS; rw [if_pos (is0 ht), if_pos (place0 hp), owner0 ht]
theorem it_uniq (hp : ∀ x ∈ v.popups, isN v.tree x.node = true ∧ x.node ≠ 0) : ∀ {d e : Nat} {n : Int}, itP v d n = 0 → itP v e n = 0 → d = e
  | 0, 0, _, _, _ => rfl
  | 0, e + 1, n, h1, h2 => by
    rw [itP] at h1; subst h1
    rw [itP, parS0 ht hp, it_m1] at h2; omega
  | d + 1, 0, n, h1, h2 => by
    rw [itP] at h2; subst h2
    rw [itP, parS0 ht hp, it_m1] at h1; omega
  | d + 1, e + 1, n, h1, h2 => by rw [itP] at h1 h2; rw [it_uniq hp h1 h2]
theorem it_is : ∀ {d : Nat} {n : Int}, itP v d n = 0 → isN v.tree n = true
  | 0, n, h => by rw [itP] at h; subst h; exact is0 ht
  | d + 1, n, h => by
    rw [itP] at h
    by_cases hn : isN v.tree n = true
    · exact hn
    · unfold parS at h; rw [if_neg hn, it_m1] at h; omega
omit ht in
theorem it_add : ∀ (d e : Nat) (n : Int), itP v (d + e) n = itP v d (itP v e n)
  | d, 0, n => rfl
  | d, e + 1, n => by
    show itP v (d + e) (parS v n) = itP v d (itP v e (parS v n))
    exact it_add d e _
def chL (v : View) : Nat → Int → List Int
  | 0, n => [n]
  | d + 1, n => n :: chL v d (parS v n)
omit ht in
theorem chL_mem : ∀ {d : Nat} {n m : Int}, itP v d n = 0 → m ∈ chL v d n → ∃ e, e ≤ d ∧ itP v e m = 0
  | 0, n, m, h, hm => by simp [chL] at hm; subst hm; exact ⟨0, Nat.le_refl _, h⟩
  | d + 1, n, m, h, hm => by
    rw [chL] at hm
    rcases List.mem_cons.1 hm with rfl | hm
    · exact ⟨d + 1, Nat.le_refl _, h⟩
    · obtain ⟨e, h1, h2⟩ := chL_mem (d := d) h hm
      exact ⟨e, by omega, h2⟩
theorem chL_nodup (hp : ∀ x ∈ v.popups, isN v.tree x.node = true ∧ x.node ≠ 0) : ∀ {d : Nat} {n : Int}, itP v d n = 0 → (chL v d n).Nodup
  | 0, n, h => by simp [chL]
  | d + 1, n, h => by
    rw [chL, List.nodup_cons]
    refine ⟨fun hm => ?_, chL_nodup hp (d := d) h⟩
    obtain ⟨e, h1, h2⟩ := chL_mem (d := d) h hm
    have := it_uniq ht hp h h2
    omega
omit ht in
theorem chL_len : ∀ (d : Nat) (n : Int), (chL v d n).length = d + 1
  | 0, _ => rfl
  | d + 1, n => by rw [chL, List.length_cons, chL_len d]
theorem it_le (hp : ∀ x ∈ v.popups, isN v.tree x.node = true ∧ x.node ≠ 0) {d : Nat} {n : Int} (h : itP v d n = 0) : d + 1 ≤ v.tree.length := by
  rw [← chL_len (v := v) d n]
  exact isN_count (chL_nodup ht hp h) fun m hm => by
    obtain ⟨e, _, h2⟩ := chL_mem h hm; exact it_is ht h2
/-- Who is reached in a scope has it for its own. -/
theorem ch_par (hp : ∀ x ∈ v.popups, isN v.tree x.node = true ∧ x.node ≠ 0) {o c : Int} (h : c ∈ chS v o) : isN v.tree c = true ∧ parS v c = o := by
  obtain ⟨n, h1, h2⟩ := List.mem_flatMap.1 h
  obtain ⟨i1, i2, i3⟩ := item_mem.1 h1
  obtain ⟨o1, o2, o3, o4⟩ := item_owner h1
  have hn := fl_is ht i2
  rcases List.mem_cons.1 h2 with rfl | h2
  · refine ⟨hn, ?_⟩
    unfold parS; rw [if_pos hn, if_pos o3, o1]
  · obtain ⟨x, hx, rfl⟩ := List.mem_map.1 h2
    obtain ⟨x1, x2⟩ := List.mem_filter.1 hx
    simp only [decide_eq_true_eq] at x2
    have hx := (hp x x1).1
    refine ⟨hx, ?_⟩
    have hne : placeN v x.node ≠ -1 := by rw [x2]; exact isN_ne hn
    unfold parS; rw [if_pos hx, if_neg hne, x2, o1]
theorem ch_nodup (hp : ∀ x ∈ v.popups, isN v.tree x.node = true ∧ x.node ≠ 0) (hnd : (nodesP v.popups).Nodup) (o : Int) : (chS v o).Nodup := by
  unfold chS
  have key : ∀ n ∈ itemsS v o, ∀ m ∈ plcL v n, placeN v m = n ∧ n ≠ -1 := fun n hn m hm => by
    obtain ⟨x, hx, rfl⟩ := List.mem_map.1 hm
    obtain ⟨x1, x2⟩ := List.mem_filter.1 hx
    exact ⟨by simpa using x2, isN_ne (fl_is ht (item_mem.1 hn).2.1)⟩
  refine nodup_flatMap (items_nodup ht o) (fun n hn => ?_) fun a ha b hb m hma hmb => ?_
  · rw [List.nodup_cons]
    refine ⟨fun hm => ?_, ?_⟩
    · have h1 := key n hn n hm
      have h2 := (item_owner hn).2.2.1
      exact h1.2 (by rw [← h1.1]; exact h2)
    · exact (List.Sublist.map _ List.filter_sublist).nodup hnd
  · rcases List.mem_cons.1 hma with rfl | hma
    · rcases List.mem_cons.1 hmb with rfl | hmb
      · rfl
      · have h1 := key b hb _ hmb; have h2 := (item_owner ha).2.2.1
        exact absurd (h1.1.symm.trans h2) h1.2
    · rcases List.mem_cons.1 hmb with rfl | hmb
      · have h1 := key a ha _ hma; have h2 := (item_owner hb).2.2.1
        exact absurd (h1.1.symm.trans h2) h1.2
      · rw [← (key a ha _ hma).1, (key b hb _ hmb).1]
/-- Who is told in a scope lies below it. -/
theorem sc_mem (hp : ∀ x ∈ v.popups, isN v.tree x.node = true ∧ x.node ≠ 0) : ∀ {f : Nat} {o m : Int}, m ∈ scP v f o → tabA v m = true ∧ ∃ c ∈ chS v o, ∃ e, itP v e m = c
  | 0, _, _, h => by simp [scP] at h
  | f + 1, o, m, h => by
    rw [sc_succ] at h
    obtain ⟨c, h1, h2⟩ := List.mem_flatMap.1 h
    rcases List.mem_append.1 h2 with h2 | h2
    · split at h2
      · rename_i ht'
        simp at h2; subst h2; exact ⟨ht', m, h1, 0, rfl⟩
      · simp at h2
    · obtain ⟨h3, c', h4, e, h5⟩ := sc_mem hp h2
      refine ⟨h3, c, h1, 1 + e, ?_⟩
      rw [it_add, h5]
      show parS v c' = c
      exact (ch_par ht hp h4).2
theorem one_mem (hp : ∀ x ∈ v.popups, isN v.tree x.node = true ∧ x.node ≠ 0) {f : Nat} {c m : Int} (h : m ∈ oneL v f c) : tabA v m = true ∧ ∃ e, itP v e m = c := by
  rcases List.mem_append.1 h with h | h
  · split at h
    · rename_i h'; simp at h; subst h; exact ⟨h', 0, rfl⟩
    · simp at h
  · obtain ⟨h3, c', h4, e, h5⟩ := sc_mem ht hp h
    refine ⟨h3, 1 + e, ?_⟩
    rw [it_add, h5]
    show parS v c' = c
    exact (ch_par ht hp h4).2
theorem sc_nodup (hp : ∀ x ∈ v.popups, isN v.tree x.node = true ∧ x.node ≠ 0) (hnd : (nodesP v.popups).Nodup) : ∀ {f d : Nat} {o : Int}, itP v d o = 0 → (scP v f o).Nodup
  | 0, _, _, _ => by simp [scP]
  | f + 1, d, o, h => by
    rw [sc_succ]
    refine nodup_flatMap (ch_nodup ht hp hnd o) (fun c hc => ?_) fun a ha b hb m hma hmb => ?_
    · have hcd : itP v (d + 1) c = 0 := by rw [itP, (ch_par ht hp hc).2]; exact h
      refine List.nodup_append.2 ⟨by split <;> simp, sc_nodup hp hnd hcd, ?_⟩
      rintro x hx y hy rfl
      split at hx
      · simp at hx; subst hx
        obtain ⟨_, c', h4, e, h5⟩ := sc_mem ht hp hy
        have h6 := (ch_par ht hp h4).2
        have : itP v (d + 1 + (1 + e)) x = 0 := by rw [it_add (d + 1) (1 + e), it_add 1 e, h5]; show itP v (d + 1) (parS v c') = 0; rw [h6]; exact hcd
        have := it_uniq ht hp hcd this
        omega
      · simp at hx
    · obtain ⟨_, e1, m1⟩ := one_mem ht hp hma
      obtain ⟨_, e2, m2⟩ := one_mem ht hp hmb
      have q1 : itP v (d + 1 + e1) m = 0 := by rw [it_add, m1, itP, (ch_par ht hp ha).2]; exact h
      have q2 : itP v (d + 1 + e2) m = 0 := by rw [it_add, m2, itP, (ch_par ht hp hb).2]; exact h
      have := it_uniq ht hp q1 q2
      have e : e1 = e2 := by omega
      rw [← m1, ← m2, e]
/-- More fuel changes nothing. -/
theorem sc_stable (hp : ∀ x ∈ v.popups, isN v.tree x.node = true ∧ x.node ≠ 0) : ∀ {f d : Nat} {o : Int}, itP v d o = 0 → v.tree.length ≤ d + f → scP v f o = scP v (f + 1) o
  | 0, d, o, h, hf => by have := it_le ht hp h; omega
  | f + 1, d, o, h, hf => by
    rw [sc_succ, sc_succ]
    refine flatMap_congr2 fun c hc => ?_
    unfold oneL
    have hcd : itP v (d + 1) c = 0 := by rw [itP, (ch_par ht hp hc).2]; exact h
    rw [sc_stable hp hcd (by omega)]
end
end Go.Lm
end
section
namespace Go.Lm
open List
def pcG (v : View) (f : Nat) (n : Int) (y : Shown) : List Int := if placeN v y.node = n then oneL v f y.node else []
def pcL (v : View) (f : Nat) (n : Int) : List Int := oneL v f n ++ v.popups.flatMap (pcG v f n)
theorem plc_flat (v : View) (n : Int) (g : Int → List Int) : ∀ l : List Shown, ((l.filter fun x => decide (placeN v x.node = n)).map (·.node)).flatMap g = l.flatMap fun y => if placeN v y.node = n then g y.node else []
  | [] => rfl
  | y :: l => by
    rw [List.filter_cons]
    by_cases h : placeN v y.node = n
    · rw [if_pos (by simp [h]), List.map_cons, List.flatMap_cons, List.flatMap_cons, plc_flat v n g l, if_pos h]
    · rw [if_neg (by simp [h]), List.flatMap_cons, plc_flat v n g l, if_neg h, List.nil_append]
theorem sc_pieces (v : View) (f : Nat) (o : Int) : scP v (f + 1) o = (itemsS v o).flatMap (pcL v f) := by
  rw [sc_succ, chS, List.flatMap_assoc]
  congr 1
  funext n
  rw [List.flatMap_cons, plcL, plc_flat]
  rfl
def PopsOk (v : View) : Prop := ∀ x ∈ v.popups, isN v.tree x.node = true ∧ x.node ≠ 0
theorem popsOk {v : View} (ht : May v.tree) (hv : VOk v) : PopsOk v := fun x hx => by
  have h1 := hv.po x hx
  simp only [popOk, pop, isEl, Bool.and_eq_true] at h1
  have h2 := con_is h1.1.1.1
  refine ⟨h2, fun e => ?_⟩
  have h3 := h1.1.1.2
  rw [e, kind0 ht] at h3
  simp at h3
section
variable {v : View} (ht : May v.tree)
include ht
theorem sc_isN (hp : PopsOk v) {f d : Nat} {o m : Int} (h : itP v d o = 0) (hm : m ∈ scP v f o) : isN v.tree m = true := by
  obtain ⟨_, c, h1, e, h2⟩ := sc_mem ht hp hm
  have : itP v (d + 1 + e) m = 0 := by rw [it_add, h2, itP, (ch_par ht hp h1).2]; exact h
  exact it_is ht this
theorem sc_len (hp : PopsOk v) (hnd : (nodesP v.popups).Nodup) {f d : Nat} {o : Int} (h : itP v d o = 0) : (scP v f o).length ≤ v.tree.length :=
  isN_count (sc_nodup ht hp hnd h) fun _ hm => sc_isN ht hp h hm
omit ht in
theorem it0 : itP v 0 0 = 0 := rfl
theorem scL_nodup (hp : PopsOk v) (hnd : (nodesP v.popups).Nodup) : (scL v).Nodup := sc_nodup ht hp hnd (it0)
theorem scL_len (hp : PopsOk v) (hnd : (nodesP v.popups).Nodup) : (scL v).length ≤ v.tree.length := sc_len ht hp hnd (it0)
theorem scL_mem (hp : PopsOk v) {m : Int} (h : m ∈ scL v) : isN v.tree m = true ∧ tabA v m = true ∧ m ≠ 0 ∧ m ∈ flL v.tree := by
  have h1 := sc_isN ht hp (it0) h
  have h2 := (sc_mem ht hp h).1
  have h3 := h2
  simp only [tabA, Bool.and_eq_true, decide_eq_true_eq] at h3
  have hk := isA_kind ht h1 h3.1
  have hr : isR v m = true := by
    have := h3.1; simp only [isA, Bool.and_eq_true] at this; exact this.1.2
  refine ⟨h1, h2, fun e => ?_, (mem_fl ht h1).2 (isR_iff.1 hr).2⟩
  rw [e, kind0 ht] at hk; omega
end
/-! ### Next -/
def turnB (b : Bool) (l : List Int) : List Int := if b = true then l.reverse else l
def behN (l : List Int) (n : Int) : List Int := l.drop (plF n l 0 + 1).toNat
def fst0 (p : Int → Bool) (l : List Int) : Int := (l.find? p).getD 0
def nextP (v : View) (n : Int) (b : Bool) : Int :=
  if n = 0 ∨ n ∈ scL v then (behN (turnB b (scL v)) n).headD 0
  else if n ∈ flL v.tree then fst0 (fun m => decide (m ∈ scL v)) (behN (turnB b (flL v.tree)) n) else (turnB b (scL v)).headD 0
theorem mem_turn {b : Bool} {l : List Int} {n : Int} : n ∈ turnB b l ↔ n ∈ l := by unfold turnB; split <;> simp
theorem behN_not {l : List Int} {n : Int} (h : n ∉ l) : behN l n = l := by
  unfold behN; rw [pl_none 0 h]; simp
theorem behN_at {l : List Int} (hn : l.Nodup) {i : Nat} (hi : i < l.length) : behN l l[i] = l.drop (i + 1) := by
  unfold behN; rw [plF_at hn hi]; rfl
theorem behN_rev {l : List Int} (hn : l.Nodup) {i : Nat} (hi : i < l.length) : behN l.reverse l[i] = (l.take i).reverse := by
  have hj : l.length - 1 - i < l.reverse.length := by rw [List.length_reverse]; omega
  have e : l.reverse[l.length - 1 - i] = l[i] := by
    rw [List.getElem_reverse]
    congr 1; omega
  rw [← e, behN_at ((List.reverse_perm l).nodup_iff.2 hn) hj, List.drop_reverse]
  congr 2; omega
/-- Forth from a place of the row. -/
theorem next_fwd {v : View} (hn : (scL v).Nodup) {i : Nat} (hi : i < (scL v).length) : nextP v (scL v)[i] false = ((scL v)[i + 1]?).getD 0 := by
  unfold nextP
  rw [if_pos (.inr (List.getElem_mem hi))]
  show (behN (scL v) _).headD 0 = _
  rw [behN_at hn hi, List.headD_eq_head?_getD, List.head?_drop]
theorem next_bwd {v : View} (hn : (scL v).Nodup) {i : Nat} (hi : i < (scL v).length) : nextP v (scL v)[i] true = if i = 0 then 0 else ((scL v)[i - 1]?).getD 0 := by
  unfold nextP
  rw [if_pos (.inr (List.getElem_mem hi))]
  show (behN (scL v).reverse _).headD 0 = _
  rw [behN_rev hn hi, List.headD_eq_head?_getD, List.head?_reverse, List.getLast?_eq_getElem?, List.length_take]
  have hm : min i (scL v).length = i := by omega
  rw [hm]
  split
  · rename_i h; subst h; simp
  · rw [List.getElem?_take_of_lt (by omega)]
theorem next_0 {v : View} (h0 : (0 : Int) ∉ scL v) (b : Bool) : nextP v 0 b = (turnB b (scL v)).headD 0 := by
  unfold nextP
  rw [if_pos (.inl rfl), behN_not (by rw [mem_turn]; exact h0)]
end Go.Lm
end
