/- Who gets the focus that is given to a node, in plain words. -/
import Derived.Test.YtcdnmiaelaombaaGreatLmAH
set_option linter.unusedVariables false
set_option linter.unusedSimpArgs false
set_option linter.unnecessarySimpa false
set_option linter.all false
namespace Go.Lm
open List
/-- The first that is told that is somebody. -/
def fstV (f : Int → Int) : List Int → Int
  | [] => -1
  | x :: l => if f x = -1 then fstV f l else f x
theorem fstV_congr {f g : Int → Int} : ∀ {l : List Int}, (∀ x ∈ l, f x = g x) → fstV f l = fstV g l
  | [], _ => rfl
  | x :: l, h => by rw [fstV, fstV, h x (by simp), fstV_congr fun y hy => h y (by simp [hy])]
theorem fstV_mem {f : Int → Int} : ∀ {l : List Int}, fstV f l = -1 ∨ ∃ x ∈ l, fstV f l = f x ∧ f x ≠ -1
  | [] => .inl rfl
  | x :: l => by
    unfold fstV
    split
    · rcases fstV_mem (f := f) (l := l) with h | ⟨y, h1, h2⟩
      · exact .inl h
      · exact .inr ⟨y, by simp [h1], h2⟩
    · rename_i h; exact .inr ⟨x, by simp, rfl, h⟩
theorem fstV_none {f : Int → Int} {l : List Int} (h : ∀ x ∈ l, f x = -1) : fstV f l = -1 := by
  rcases fstV_mem (f := f) (l := l) with h1 | ⟨x, h1, h2, h3⟩
  · exact h1
  · exact absurd (h x h1) h3
def fromN (t : List Nod) (n : Int) : Int := if (nd t n).root = -1 then n else (nd t n).root
def delF (v : View) : Nat → Int → Int
  | 0, _ => -1
  | d + 1, n =>
    if (nd v.tree n).root ≠ -1 ∧ delA v.tree n = false then -1
    else
      let a := fstV (fun k => if hasA (nd v.tree k) 5 = true then (if isA v k = true then k else if delA v.tree k = true then delF v d k else -1) else -1) (desL v.tree (fromN v.tree n))
      if a = -1 then fstV (fun k => if (tabA v k || (!decide ((nd v.tree n).tag = 2) && isA v k)) = true then k else if delA v.tree k = true then delF v d k else -1) (desL v.tree (fromN v.tree n)).tail else a
def arF (v : View) (d : Nat) (k : Int) : Int := if isA v k = true then k else if delA v.tree k = true then delF v d k else -1
def autF (v : View) (d : Nat) (k : Int) : Int := if hasA (nd v.tree k) 5 = true then arF v d k else -1
def ofF (v : View) (d : Nat) (dlg : Bool) (k : Int) : Int := if (tabA v k || (!dlg && isA v k)) = true then k else if delA v.tree k = true then delF v d k else -1
theorem delF_succ (v : View) (d : Nat) (n : Int) : delF v (d + 1) n = if (nd v.tree n).root ≠ -1 ∧ delA v.tree n = false then -1
    else if fstV (autF v d) (desL v.tree (fromN v.tree n)) = -1 then fstV (ofF v d (decide ((nd v.tree n).tag = 2))) (desL v.tree (fromN v.tree n)).tail else fstV (autF v d) (desL v.tree (fromN v.tree n)) := rfl
theorem delA_root {t : List Nod} {n : Int} (h : delA t n = true) : (nd t n).root ≠ -1 := by
  simp only [delA, Bool.and_eq_true, Bool.not_eq_true', decide_eq_false_iff_not] at h; exact h.1
section
variable {t : List Nod} (ht : May t)
include ht
theorem des_is {n k : Int} (hn : isN t n = true) (hk : k ∈ desL t n) : isN t k = true := (ordTr ht).preP n hn k hk
theorem des_up {n k : Int} (hn : isN t n = true) (hk : k ∈ desL t n) : n ∈ ups t k := ord_sub ((ordTr ht).pre_up n hn k hk)
theorem des_cons {n : Int} (hn : isN t n = true) : desL t n = n :: (desL t n).tail := by
  have := (ordTr ht).pre_cons hn
  show preF _ _ n = _
  rw [show desL t n = preF (fun n => (nd t n).kids) (t.length + 2) n from rfl, this]; rfl
theorem des_nodup {n : Int} (hn : isN t n = true) : (desL t n).Nodup := (ordTr ht).pre_nodup n hn
theorem des_len {n : Int} (hn : isN t n = true) : (desL t n).length ≤ t.length := isN_count (des_nodup ht hn) fun _ hm => des_is ht hn hm
theorem root_is {n : Int} (hn : isN t n = true) (hr : (nd t n).root ≠ -1) : isN t (nd t n).root = true ∧ upN t (nd t n).root = n := by
  have hf := ht.f hn
  by_cases h3 : (nd t n).kind = 3
  · exact absurd (hf.shad h3).1 hr
  · obtain ⟨h1, h2, h4, h5⟩ := (hf.plain h3).2.resolve_left hr
    exact ⟨h2, by simp [upN, h4, h5]⟩
theorem from_is {n : Int} (hn : isN t n = true) : isN t (fromN t n) = true ∧ n ∈ ups t (fromN t n) := by
  unfold fromN
  split
  · exact ⟨hn, (shTr ht).up_self hn⟩
  · rename_i hr
    obtain ⟨h1, h2⟩ := root_is ht hn hr
    refine ⟨h1, ?_⟩
    rw [ups_cons ht h1, h2]
    exact List.mem_cons_of_mem _ ((shTr ht).up_self hn)
/-- Who delegates below a node lies deeper. -/
theorem del_deep {n k : Int} (hn : isN t n = true) (hk : k ∈ desL t (fromN t n)) (hd : delA t k = true) : (ups t n).length < (ups t k).length := by
  obtain ⟨f1, f2⟩ := from_is ht hn
  have hkn := des_is ht f1 hk
  have h1 := (shTr ht).trans hkn (des_up ht f1 hk) f2
  rcases (shTr ht).up_len hkn h1 with e | e
  · subst e
    exfalso
    have hr := delA_root hd
    have hu := des_up ht f1 hk
    unfold fromN at hu f1
    rw [if_neg hr] at hu f1
    obtain ⟨h3, h4⟩ := root_is ht hn hr
    have h5 : n ∈ ups t (nd t n).root := by rw [ups_cons ht h3, h4]; exact List.mem_cons_of_mem _ ((shTr ht).up_self hn)
    have := (shTr ht).antisymm hn h3 h5 hu
    have h6 : (ups t (nd t n).root).length = (ups t n).length + 1 := by rw [ups_cons ht h3, h4]; rfl
    rw [← this] at h6; omega
  · exact e
end
section
variable {v : View} (ht : May v.tree)
include ht
theorem delF_stable : ∀ (d : Nat) (n : Int), isN v.tree n = true → v.tree.length + 2 ≤ d + (ups v.tree n).length → delF v d n = delF v (d + 1) n
  | 0, n, hn, hd => by have := ups_len v.tree n; omega
  | d + 1, n, hn, hd => by
    have f1 := (from_is ht hn).1
    have key : ∀ k ∈ desL v.tree (fromN v.tree n), delA v.tree k = true → delF v d k = delF v (d + 1) k := fun k hk hdk =>
      delF_stable d k (des_is ht f1 hk) (by have := del_deep ht hn hk hdk; omega)
    have e1 : fstV (autF v d) (desL v.tree (fromN v.tree n)) = fstV (autF v (d + 1)) (desL v.tree (fromN v.tree n)) := fstV_congr fun k hk => by
      unfold autF arF
      by_cases hdk : delA v.tree k = true
      · rw [key k hk hdk]
      · simp [hdk]
    have e2 : ∀ b, fstV (ofF v d b) (desL v.tree (fromN v.tree n)).tail = fstV (ofF v (d + 1) b) (desL v.tree (fromN v.tree n)).tail := fun b => fstV_congr fun k hk => by
      unfold ofF
      by_cases hdk : delA v.tree k = true
      · rw [key k (List.mem_of_mem_tail hk) hdk]
      · simp [hdk]
    rw [delF_succ, delF_succ, e1, e2]
/-- Who is told can be focused, and lies below. -/
theorem delF_can : ∀ (d : Nat) (n : Int), isN v.tree n = true → delF v d n = -1 ∨ (isN v.tree (delF v d n) = true ∧ isA v (delF v d n) = true ∧ fromN v.tree n ∈ ups v.tree (delF v d n))
  | 0, n, hn => .inl rfl
  | d + 1, n, hn => by
    have f1 := (from_is ht hn).1
    have ar : ∀ k ∈ desL v.tree (fromN v.tree n), arF v d k = -1 ∨ (isN v.tree (arF v d k) = true ∧ isA v (arF v d k) = true ∧ fromN v.tree n ∈ ups v.tree (arF v d k)) := fun k hk => by
      have hkn := des_is ht f1 hk
      have hku := des_up ht f1 hk
      unfold arF
      split
      · rename_i h; exact .inr ⟨hkn, h, hku⟩
      · split
        · rcases delF_can d k hkn with h | ⟨h1, h2, h3⟩
          · exact .inl h
          · exact .inr ⟨h1, h2, (shTr ht).trans h1 ((shTr ht).trans h1 h3 (from_is ht hkn).2) hku⟩
        · exact .inl rfl
    rw [delF_succ]
    split
    · exact .inl rfl
    · split
      · rcases fstV_mem (f := ofF v d (decide ((nd v.tree n).tag = 2))) (l := (desL v.tree (fromN v.tree n)).tail) with h | ⟨k, h1, h2, h3⟩
        · exact .inl h
        · rw [h2]
          have hk := List.mem_of_mem_tail h1
          have hkn := des_is ht f1 hk
          have hku := des_up ht f1 hk
          unfold ofF
          split
          · rename_i h
            refine .inr ⟨hkn, ?_, hku⟩
            rw [Bool.or_eq_true, Bool.and_eq_true] at h
            rcases h with h | h
            · simp only [tabA, Bool.and_eq_true] at h; exact h.1
            · exact h.2
          · split
            · rcases delF_can d k hkn with h | ⟨q1, q2, q3⟩
              · exact .inl h
              · exact .inr ⟨q1, q2, (shTr ht).trans q1 ((shTr ht).trans q1 q3 (from_is ht hkn).2) hku⟩
            · exact .inl rfl
      · rename_i hne
        rcases fstV_mem (f := autF v d) (l := desL v.tree (fromN v.tree n)) with h | ⟨k, h1, h2, h3⟩
        · exact absurd h hne
        · rw [h2]
          unfold autF at h3 ⊢
          split
          · exact ar k h1
          · exact .inl rfl
end
def delN (v : View) (n : Int) : Int := delF v (v.tree.length + 3) n
def arN (v : View) (n : Int) : Int := arF v (v.tree.length + 3) n
def fiN (v : View) (n : Int) : Int := fstV (autF v (v.tree.length + 3)) (desL v.tree n)
theorem del_at {v : View} (ht : May v.tree) {n : Int} (hn : isN v.tree n = true) : ∀ {d : Nat}, v.tree.length + 2 ≤ d + (ups v.tree n).length → delF v d n = delN v n := by
  have key : ∀ (e d : Nat), v.tree.length + 2 ≤ d + (ups v.tree n).length → delF v d n = delF v (d + e) n := fun e d hd => by
    induction e with
    | zero => rfl
    | succ e ih => rw [ih, delF_stable ht (d + e) n hn (by omega)]; rfl
  intro d hd
  unfold delN
  by_cases h : d ≤ v.tree.length + 3
  · obtain ⟨e, he⟩ : ∃ e, v.tree.length + 3 = d + e := ⟨v.tree.length + 3 - d, by omega⟩
    rw [he]; exact key e d hd
  · obtain ⟨e, he⟩ : ∃ e, d = v.tree.length + 3 + e := ⟨d - (v.tree.length + 3), by omega⟩
    rw [he]; exact (key e _ (by omega)).symm
end Go.Lm
namespace Go.Lm
section
variable {v : View} (ht : May v.tree)
include ht
def Can (v : View) (n x : Int) : Prop := x = -1 ∨ (isN v.tree x = true ∧ isA v x = true ∧ n ∈ ups v.tree x)
theorem del_can {n : Int} (hn : isN v.tree n = true) : Can v n (delN v n) := by
  rcases delF_can ht (v.tree.length + 3) n hn with h | ⟨h1, h2, h3⟩
  · exact .inl h
  · exact .inr ⟨h1, h2, (shTr ht).trans h1 h3 (from_is ht hn).2⟩
theorem ar_can {n : Int} (hn : isN v.tree n = true) : Can v n (arN v n) := by
  unfold arN arF
  split
  · rename_i h; exact .inr ⟨hn, h, (shTr ht).up_self hn⟩
  · split
    · exact del_can ht hn
    · exact .inl rfl
theorem fi_can {n : Int} (hn : isN v.tree n = true) : Can v n (fiN v n) := by
  unfold fiN
  rcases fstV_mem (f := autF v (v.tree.length + 3)) (l := desL v.tree n) with h | ⟨k, h1, h2, h3⟩
  · exact .inl h
  · rw [h2]
    have hkn := des_is ht hn h1
    unfold autF
    split
    · rcases ar_can ht hkn with h | ⟨q1, q2, q3⟩
      · exact .inl h
      · exact .inr ⟨q1, q2, (shTr ht).trans q1 q3 (des_up ht hn h1)⟩
    · exact .inl rfl
theorem fi_head {n : Int} (hn : isN v.tree n = true) (h5 : hasA (nd v.tree n) 5 = true) (ha : isA v n = true) : fiN v n = n := by
  unfold fiN
  rw [des_cons ht hn, fstV]
  have : autF v (v.tree.length + 3) n = n := by simp [autF, h5, arF, ha]
  rw [this, if_neg (isN_ne hn)]
theorem fi_none {n : Int} (hn : isN v.tree n = true) (h : ∀ k ∈ desL v.tree n, hasA (nd v.tree k) 5 = false) : fiN v n = -1 :=
  fstV_none fun k hk => by simp [autF, h k hk]
def isF (v : View) (k : Int) : Int := if isA v k = true then k else -1
theorem del_plain {n : Int} (hn : isN v.tree n = true) (hr : (nd v.tree n).root = -1) (ht2 : (nd v.tree n).tag ≠ 2) (h : ∀ k ∈ desL v.tree n, hasA (nd v.tree k) 5 = false ∧ delA v.tree k = false) : delN v n = fstV (isF v) (desL v.tree n).tail := by
  have ef : fromN v.tree n = n := by unfold fromN; rw [if_pos hr]
  have e := delF_stable ht (v.tree.length + 3) n hn (by omega)
  unfold delN
  rw [e, delF_succ, ef, if_neg (fun h => h.1 hr)]
  have e1 : fstV (autF v (v.tree.length + 3)) (desL v.tree n) = -1 := fi_none ht hn fun k hk => (h k hk).1
  rw [if_pos e1]
  refine fstV_congr fun k hk => ?_
  have h2 := (h k (List.mem_of_mem_tail hk)).2
  have h3 : decide ((nd v.tree n).tag = 2) = false := by simpa using ht2
  unfold ofF isF
  rw [h3]
  by_cases ha : isA v k = true
  · simp [ha]
  · simp [ha, tabA, h2]
end
end Go.Lm
