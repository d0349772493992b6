/- One element alone under the document: may it be focused? -/
import Derived.Test.YtcehbmffbmhpfaaGreatLmAJ
import Derived.Test.YtcehbmffbmhpfaaGreatLmBA
set_option linter.unusedVariables false
set_option linter.unusedSimpArgs false
set_option linter.unnecessarySimpa false
set_option linter.all false
namespace Go.Lm
open List
def aloneT (tag : Int) (l : List Attr) : List Nod := [⟨0, 0, -1, [1], -1, -1, []⟩, ⟨1, tag, 0, [], -1, -1, l⟩]
def aloneV (tag : Int) (l : List Attr) : View := ⟨aloneT tag l, [], [], [], []⟩
def canA (tag : Int) (l : List Attr) : Bool := decide (tag = 1) || decide (tag = 4) || l.any fun a => decide (a.name = 0)
def keepA (tag : Int) (a : Attr) : Bool := (decide (a.name = 1) && decide (tag = 1)) || decide (a.name = 2) || decide (a.name = 3) || decide (a.name = 6)
def keepsA (tag : Int) (l : List Attr) : Bool := decide (tag = 2) || l.any (keepA tag)
def lastV : List Attr → Int → Int
  | [], x => x
  | a :: r, x => lastV r (if a.name = 0 then a.value else x)
theorem lastV_none : ∀ {l : List Attr} {x : Int}, (∀ a ∈ l, ¬ a.name = 0) → lastV l x = x
  | [], _, _ => rfl
  | a :: r, x, h => by
    rw [lastV, if_neg (h a (by simp))]; exact lastV_none fun b hb => h b (by simp [hb])
theorem lastV_get : ∀ {l : List Attr} {p : Option Int} {x : Int}, incG p l = true → (∀ a ∈ l, 0 ≤ a.name) → lastV l x = (getA 0 l).getD x
  | [], _, _, _, _ => rfl
  | a :: r, p, x, h, h0 => by
    simp only [incG, Bool.and_eq_true] at h
    have ha := h0 a (by simp)
    by_cases e : a.name = 0
    · rw [lastV, if_pos e, lastV_none fun b hb => ?_]
      · simp [getA, e]
      · have := incG_ge ha h.2 b hb; omega
    · rw [lastV, if_neg e, getA, if_neg e]
      exact lastV_get h.2 fun b hb => h0 b (by simp [hb])
section
variable {tag : Int} {l : List Attr}
theorem alone0 : nd (aloneT tag l) 0 = ⟨0, 0, -1, [1], -1, -1, []⟩ := rfl
theorem alone1 : nd (aloneT tag l) 1 = ⟨1, tag, 0, [], -1, -1, l⟩ := rfl
theorem alone_is0 : isN (aloneT tag l) 0 = true := rfl
theorem alone_is1 : isN (aloneT tag l) 1 = true := rfl
theorem alone_kids : fkids (aloneT tag l) 0 = [1] := by
  have h1 : isSl (aloneT tag l) 0 = false := by simp [isSl, alone0]
  simp [fkids, alone0, asgL, h1]
theorem alone_par : fpar (aloneT tag l) 1 = 0 := by
  have h1 : overN (aloneT tag l) 1 = 0 := by simp [overN, alone1, alone0]
  simp [fpar, h1, alone_kids]
theorem alone_ups (h : May (aloneT tag l)) : fups (aloneT tag l) 1 = [1, 0] := by
  rw [fups_cons h alone_is1, alone_par, fups0 h]
theorem alone_isA (h : May (aloneT tag l)) : isA (aloneV tag l) 1 = (canA tag l && !keepsA tag l) := by
  have hv : (aloneV tag l).tree = aloneT tag l := rfl
  have hI : isI (aloneV tag l) 1 = hasA (nd (aloneT tag l) 1) 3 := by
    have hh : highN (aloneV tag l) = -1 := rfl
    have hb : blkN (aloneV tag l) 1 = false := by simp [blkN, hh]
    have h0 : hasA (nd (aloneT tag l) 0) 3 = false := by simp [hasA, alone0]
    simp [isI, hb, hh, hv, alone_ups h, mkF, h0]
  have hR : isR (aloneV tag l) 1 = ownV (aloneV tag l) 1 := by
    have h0 := own0 (v := aloneV tag l) h
    simp [isR, hv, alone_ups h, h0]
  have hO : ownV (aloneV tag l) 1 = (!hasA (nd (aloneT tag l) 1) 2 && !decide (tag = 2) && !hasA (nd (aloneT tag l) 1) 6) := by
    unfold ownV
    rw [hv]
    by_cases a2 : hasA (nd (aloneT tag l) 1) 2 = true
    · simp [a2]
    · by_cases a3 : tag = 2
      · simp [a2, a3, alone1, aloneV]
      · simp [a2, a3, alone1, aloneV, nodesP]
  have hD : delA (aloneT tag l) 1 = false := by simp [delA, alone1]
  have hK : ∀ a, hasA (nd (aloneT tag l) 1) a = l.any fun x => decide (x.name = a) := fun a => rfl
  have hk : keepsA tag l = (decide (tag = 2) || (decide (tag = 1) && l.any fun x => decide (x.name = 1)) || (l.any fun x => decide (x.name = 2)) || (l.any fun x => decide (x.name = 3)) || (l.any fun x => decide (x.name = 6))) := by
    rw [Bool.eq_iff_iff]
    simp only [keepsA, keepA, Bool.or_eq_true, Bool.and_eq_true, List.any_eq_true, decide_eq_true_eq]
    constructor
    · rintro (h | ⟨a, ha, ((⟨h, h'⟩ | h) | h) | h⟩)
      · exact .inl (.inl (.inl (.inl h)))
      · exact .inl (.inl (.inl (.inr ⟨h', a, ha, h⟩)))
      · exact .inl (.inl (.inr ⟨a, ha, h⟩))
      · exact .inl (.inr ⟨a, ha, h⟩)
      · exact .inr ⟨a, ha, h⟩
    · rintro ((((h | ⟨h', a, ha, h⟩) | ⟨a, ha, h⟩) | ⟨a, ha, h⟩) | ⟨a, ha, h⟩)
      · exact .inl h
      · exact .inr ⟨a, ha, .inl (.inl (.inl ⟨h, h'⟩))⟩
      · exact .inr ⟨a, ha, .inl (.inl (.inr h))⟩
      · exact .inr ⟨a, ha, .inl (.inr h)⟩
      · exact .inr ⟨a, ha, .inr h⟩
  rw [hk]
  unfold isA
  rw [hR, hI, hO, hv, hD]
  unfold hasI disA canA
  rw [hK, hK, hK, hK, hK, alone1]
  cases (l.any fun x => decide (x.name = 0)) <;> cases (l.any fun x => decide (x.name = 1)) <;> cases (l.any fun x => decide (x.name = 2)) <;> cases (l.any fun x => decide (x.name = 3)) <;> cases (l.any fun x => decide (x.name = 6)) <;> cases decide (tag = 1) <;> cases decide (tag = 2) <;> cases decide (tag = 4) <;> rfl
theorem alone_idx (h : May (aloneT tag l)) : lastV l 0 = idxA (aloneT tag l) 1 := by
  have h1 := (h.f alone_is1).atts
  rw [alone1, ← attsP_eq] at h1
  simp only [attsP, Bool.and_eq_true, incG_all] at h1
  exact lastV_get h1.1.2.1 h1.1.2.2
theorem alone_isA0 (h : May (aloneT tag l)) : isA (aloneV tag l) 0 = false := by
  have hv : (aloneV tag l).tree = aloneT tag l := rfl
  simp [isA, hv, hasI, hasA, alone0]
theorem alone_chk (h : May (aloneT tag l)) : chkV (aloneV tag l) = 0 := chkV_iff.2 ⟨h.may, ⟨by simp [aloneV], by simp [aloneV], by simp [aloneV], by simp [aloneV, openL, highL, nodesP], by simp [aloneV, highL, nodesP]⟩⟩
theorem alone_sm (hl : l.length ≤ 20) : Sm (aloneT tag l) := ⟨by simp [aloneT], fun x hx => by
  simp only [aloneT, List.mem_cons, List.not_mem_nil, or_false] at hx
  rcases hx with rfl | rfl
  · simp
  · simpa using hl⟩
theorem alone_smV (hl : l.length ≤ 20) : SmV (aloneV tag l) := ⟨alone_sm hl, by simp [aloneV], by simp [aloneV], by simp [aloneV], by simp [aloneV]⟩
end
end Go.Lm
