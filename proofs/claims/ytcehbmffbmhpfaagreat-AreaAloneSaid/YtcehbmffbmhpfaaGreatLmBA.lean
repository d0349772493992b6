/- A node that is marked as hidden: what is rendered then. -/
import Derived.Test.YtcehbmffbmhpfaaGreatLmAI
set_option linter.unusedVariables false
set_option linter.unusedSimpArgs false
set_option linter.unnecessarySimpa false
set_option linter.all false
namespace Go.Lm
open List
/-- The row with the mark in its place. -/
def hideA : List Attr → List Attr
  | [] => [⟨2, 0⟩]
  | a :: r => if 2 < a.name then ⟨2, 0⟩ :: a :: r else if a.name = 2 then a :: r else a :: hideA r
theorem hide_len : ∀ l, (hideA l).length ≤ l.length + 1
  | [] => by simp [hideA]
  | a :: r => by
    have := hide_len r
    unfold hideA
    split
    · simp
    · split <;> simp; omega
theorem hide_get {a : Int} (ha : a ≠ 2) : ∀ l, getA a (hideA l) = getA a l
  | [] => by simp [hideA, getA, Ne.symm ha]
  | b :: r => by
    unfold hideA
    split
    · simp [getA, Ne.symm ha]
    · split
      · rfl
      · simp only [getA, hide_get ha r]
theorem hide_has : ∀ l, ((hideA l).any fun a => decide (a.name = 2)) = true
  | [] => by simp [hideA]
  | b :: r => by
    unfold hideA
    split
    · simp
    · split
      · rename_i h; simp [h]
      · rw [List.any_cons, hide_has r, Bool.or_true]
theorem hide_inc : ∀ (l : List Attr) (p : Option Int), (∀ q, p = some q → q < 2) → incG p l = true → incG p (hideA l) = true
  | [], none, _, _ => rfl
  | [], some q, hq, _ => by have := hq q rfl; simp [hideA, incG, this]
  | a :: r, p, hq, h => by
    simp only [incG, Bool.and_eq_true] at h
    unfold hideA
    split
    · rename_i h2
      simp only [incG, Bool.and_eq_true, decide_eq_true_eq, h2, h.2, and_true]
      cases p with
      | none => rfl
      | some q => simpa using hq q rfl
    · split
      · simp only [incG, Bool.and_eq_true, h, and_self]
      · simp only [incG, Bool.and_eq_true]
        exact ⟨h.1, hide_inc r (some a.name) (fun q e => by cases e; omega) h.2⟩
theorem hide_all {q : Attr → Bool} (h2 : q ⟨2, 0⟩ = true) : ∀ (l : List Attr), l.all q = true → (hideA l).all q = true
  | [], _ => by simp [hideA, h2]
  | a :: r, h => by
    unfold hideA
    simp only [List.all_cons, Bool.and_eq_true] at h
    split
    · simp [h2, h.1]; simpa using h.2
    · split
      · simp only [List.all_cons, h.1, h.2, Bool.and_self]
      · simp only [List.all_cons, h.1, hide_all h2 r h.2, Bool.and_self]
theorem hide_ok {x : Nod} (hk : x.kind = 1) (h : attsOk x = true) : attsOk { x with attrs := hideA x.attrs } = true := by
  simp only [attsOk, Bool.and_eq_true] at h ⊢
  refine ⟨hide_all ?_ _ h.1, hide_inc _ none (fun q e => by cases e) h.2⟩
  simp [attOk, valOk, hk]
theorem inc_len : ∀ {l : List Attr} {p : Int}, incG (some p) l = true → (∀ a ∈ l, a.name ≤ 9) → (l = [] ∨ (l.length : Int) ≤ 9 - p)
  | [], _, _, _ => .inl rfl
  | a :: r, p, h, hn => by
    simp only [incG, Bool.and_eq_true, decide_eq_true_eq] at h
    have h9 := hn a (by simp)
    right
    rcases inc_len h.2 (fun b hb => hn b (by simp [hb])) with e | e
    · subst e; simp; omega
    · simp; omega
theorem atts_len {x : Nod} (h : attsOk x = true) : x.attrs.length ≤ 10 := by
  rw [← attsP_eq] at h
  simp only [attsP, Bool.and_eq_true, List.all_eq_true] at h
  rcases inc_len h.1.2 (fun a ha => by have := h.1.1 a ha; simp [attP] at this; omega) with e | e
  · rw [e]; simp
  · omega
/-- The tree whose node is marked. -/
def hideT (t : List Nod) (n : Int) : List Nod := t.set n.toNat { nd t n with attrs := hideA (nd t n).attrs }
theorem hide_nd {t : List Nod} {n : Int} (hn : isN t n = true) (m : Int) : nd (hideT t n) m = if m.toNat = n.toNat then { nd t n with attrs := hideA (nd t n).attrs } else nd t m := by
  obtain ⟨n1, n2⟩ := isN_iff.1 hn
  unfold hideT
  conv => lhs; unfold nd
  rw [List.getD_eq_getElem?_getD, List.getElem?_set]
  by_cases e : m.toNat = n.toNat
  · rw [if_pos e.symm, if_pos (by omega), if_pos e]; rfl
  · rw [if_neg (fun h => e h.symm), if_neg e]; simp [nd, List.getD_eq_getElem?_getD]
theorem nd_toNat {t : List Nod} {n m : Int} (h : m.toNat = n.toNat) : nd t m = nd t n := by unfold nd; rw [h]
theorem hide_same {t : List Nod} {n m : Int} (hn : isN t n = true) (hm : isN t m = true) (h : m ≠ n) : nd (hideT t n) m = nd t m := by
  have h1 := isN_iff.1 hn; have h2 := isN_iff.1 hm
  rw [hide_nd hn, if_neg (by omega)]
theorem hide_at {t : List Nod} {n : Int} (hn : isN t n = true) : nd (hideT t n) n = { nd t n with attrs := hideA (nd t n).attrs } := by rw [hide_nd hn, if_pos rfl]
theorem hide_alike {t : List Nod} {n : Int} (hn : isN t n = true) : Alike t (hideT t n) where
  len := by simp [hideT]
  nd m := by
    rw [hide_nd hn]
    split
    · rename_i h; rw [nd_toNat h]
    · rfl
  get m a ha := by
    rw [hide_nd hn]
    split
    · rename_i h; rw [nd_toNat h]; exact hide_get ha _
    · rfl
theorem hide_may {t : List Nod} {n : Int} (ht : May t) (hn : isN t n = true) (hk : (nd t n).kind = 1) : mayT (hideT t n) = true := by
  rw [(hide_alike hn).may fun m hm => ?_]
  · exact ht.may
  · by_cases e : m = n
    · subst e
      rw [hide_at hn, hide_ok hk (ht.f hn).atts, (ht.f hn).atts]
    · rw [hide_same hn hm e]
theorem hide_sm {t : List Nod} {n : Int} (ht : May t) (hn : isN t n = true) : Sm (hideT t n) where
  len := by simp [hideT]; exact ht.sm.len
  each x hx := by
    unfold hideT at hx
    rcases List.mem_or_eq_of_mem_set hx with h | rfl
    · exact ht.sm.each x h
    · have h1 := (ht.sm.nd n).1
      have h2 := atts_len (ht.f hn).atts
      have h3 := hide_len (nd t n).attrs
      exact ⟨h1, by show (hideA (nd t n).attrs).length ≤ 20; omega⟩
/-- The view whose node is marked. -/
def hideV (v : View) (n : Int) : View := { v with tree := hideT v.tree n }
section
variable {t s : List Nod} (h : Alike t s)
include h
theorem Alike.con (hm : mayT s = mayT t) (n : Int) : conN s n = conN t n := by
  have e : shUp s n = shUp t n := by unfold shUp mayN; rw [hm, h.isN, h.ups]
  unfold conN; rw [e]
theorem Alike.el (hm : mayT s = mayT t) (n : Int) : isEl s n = isEl t n := by simp only [isEl, h.con hm, h.kind]
theorem Alike.dlg (hm : mayT s = mayT t) (n : Int) : dlg s n = Go.Lm.dlg t n := by simp only [Go.Lm.dlg, h.el hm, h.tag]
theorem Alike.pop (hm : mayT s = mayT t) (n : Int) : pop s n = Go.Lm.pop t n := by simp only [Go.Lm.pop, h.el hm, h.has (a := 6) (by omega)]
theorem Alike.popOk (hm : mayT s = mayT t) (x : Shown) : popOk s x = Go.Lm.popOk t x := by simp only [Go.Lm.popOk, h.pop hm, h.isN]
end
theorem hide_chk {v : View} {n : Int} (hc : chkV v = 0) (ht : May v.tree) (hn : isN v.tree n = true) (hk : (nd v.tree n).kind = 1) : chkV (hideV v n) = 0 := by
  have hA := hide_alike hn
  have hm := hide_may ht hn hk
  have hm2 : mayT (hideT v.tree n) = mayT v.tree := by rw [hm, ht.may]
  obtain ⟨h1, h2⟩ := chkV_iff.1 hc
  refine chkV_iff.2 ⟨hm, ?_⟩
  exact ⟨fun m hm => by show dlg (hideT v.tree n) m = true; rw [hA.dlg hm2]; exact h2.op m hm, fun m hm => by show dlg (hideT v.tree n) m = true; rw [hA.dlg hm2]; exact h2.mo m hm,
    fun x hx => by show popOk (hideT v.tree n) x = true; rw [hA.popOk hm2]; exact h2.po x hx, h2.once, h2.top⟩
theorem hide_own {v : View} {n m : Int} (hn : isN v.tree n = true) (hm : isN v.tree m = true) : ownV (hideV v n) m = (!decide (m = n) && ownV v m) := by
  unfold ownV hideV
  by_cases e : m = n
  · subst e
    have : hasA (nd (hideT v.tree m) m) 2 = true := by rw [hide_at hn]; exact hide_has _
    simp [this]
  · simp only [hide_same hn hm e, e, decide_false, Bool.not_false, Bool.true_and]
theorem hide_isR {v : View} {n m : Int} (ht : May v.tree) (hs : May (hideT v.tree n)) (hn : isN v.tree n = true) (hm : isN v.tree m = true) : isR (hideV v n) m = (!decide (n ∈ fups v.tree m) && isR v m) := by
  have hA := hide_alike hn
  have e : fups (hideV v n).tree m = fups v.tree m := hA.fups hs ht m hm
  have e2 : (fups v.tree m).all (ownV (hideV v n)) = (!decide (n ∈ fups v.tree m) && (fups v.tree m).all (ownV v)) := by
    rw [Bool.eq_iff_iff]
    simp only [List.all_eq_true, Bool.and_eq_true, Bool.not_eq_true', decide_eq_false_iff_not]
    constructor
    · intro h
      refine ⟨fun h2 => ?_, fun x hx => ?_⟩
      · have := h n h2; rw [hide_own hn hn] at this; simp at this
      · have := h x hx; rw [hide_own hn ((flTr ht).upP m hm x hx)] at this; simp at this; exact this.2
    · rintro ⟨h1, h2⟩ x hx
      rw [hide_own hn ((flTr ht).upP m hm x hx), h2 x hx]
      have : x ≠ n := fun e => h1 (e ▸ hx)
      simp [this]
  unfold isR
  rw [e, e2, Bool.and_assoc]
end Go.Lm
