/- What becomes of views. -/
import Derived.Test.YtkebikngkeehfaaGreatLmAH
import Derived.Test.YtkebikngkeehfaaGreatLmAT
set_option linter.unusedVariables false
set_option linter.unusedSimpArgs false
set_option linter.unnecessarySimpa false
set_option linter.all false
section
namespace Go.Proofs.YtkebikngkeehfaaGreat.K
open Go Go.Lm
set_option linter.unusedSimpArgs false
theorem sPcpV : Ev fun k => ∀ (v : View), SmV v → T k 18 [encV v] = ok (copyE v) := by
  refine sPCopy.at 1000 fun k' hk' h v hv => ?_
  obtain ⟨k, rfl⟩ : ∃ j, k' = j + 1 := ⟨k' - 1, by omega⟩
  have l1 := hv.op; have l2 := hv.mo; have l3 := hv.po; have l4 := hv.to
  have e1 : ∀ l : List Int, l.length ≤ 1000 → T (k + 1) 55 [encI l] = ok (.sl 1 true false (l.map (SVal.int .i64))) := fun l hl => clone1 k _ (by simp; omega)
  have e2 : ∀ l : List Shown, l.length ≤ 1000 → T (k + 1) 56 [encP l] = ok (.sl 2 true false (l.map encS)) := fun l hl => cloneS k _ (by simp; omega)
  rw [encV_eq, t18]; unfold R18
  simp [h v.tree hv.tr, e1 v.op (by omega), e1 v.modal (by omega), e1 v.top (by omega), e2 v.popups (by omega), copyE]
theorem sRcpV : Ev fun k => ∀ (v : View), SmV v → T k 58 [encV v] = ok (copyE v) := by
  refine sRCopy.step fun k h v hv => ?_
  have l1 := hv.op; have l2 := hv.mo; have l3 := hv.po; have l4 := hv.to
  rw [encV_eq, t58]; unfold R58
  simp [h v.tree hv.tr, copyE, app8 (n := v.op.length) (by omega), app8 (n := v.modal.length) (by omega), app16 (n := v.popups.length) (by omega), app8 (n := v.top.length) (by omega)]
theorem sRsame : Ev fun k => ∀ (a b : View), SmV a → T k 17 [encV a, encV b] = ok (.bool (decide (a = b))) := by
  refine (sRSame.and sInts).at 1000 fun k hk ⟨h1, h2⟩ a b ha => ?_
  have l1 := ha.op; have l2 := ha.mo; have l3 := ha.po; have l4 := ha.to
  rw [encV_eq, encV_eq, t17]; unfold R17
  have e : decide (a = b) = (decide (a.popups = b.popups) && (decide (a.tree = b.tree) && (decide (a.op = b.op) && (decide (a.modal = b.modal) && decide (a.top = b.top))))) := by
    cases a; cases b; rw [Bool.eq_iff_iff]; simp; constructor
    · rintro ⟨h1, h2, h3, h4, h5⟩; exact ⟨h4, h1, h2, h3, h5⟩
    · rintro ⟨h4, h1, h2, h3, h5⟩; exact ⟨h1, h2, h3, h4, h5⟩
  rw [e]
  by_cases hab : a.popups.length = b.popups.length
  · simp [hab]
    refine for_list a.popups (fun i _ => ⟨[rpV a, rpV b, int i], [], false⟩) (fun r i _ => ok (.bool (decide (r = b.popups.drop i) && (decide (a.tree = b.tree) && (decide (a.op = b.op) && (decide (a.modal = b.modal) && decide (a.top = b.top))))))) (fun _ _ => True) (by omega) ?_ ?_ k () (by omega) trivial
    · intro s next _
      simp [hab, h1 _ _ ha.tr, h2 _ _ (show a.op.length ≤ 400 by omega), h2 _ _ (show a.modal.length ≤ 400 by omega), h2 _ _ (show a.top.length ≤ 400 by omega)]
    · intro i _ x r next hi hx _ _ hw hnx
      have hnx' := hnx () trivial
      have hb : i < b.popups.length := by omega
      have hd : b.popups.drop i = b.popups[i] :: b.popups.drop (i + 1) := List.drop_eq_getElem_cons hb
      have e7 : (x = b.popups[i]) ↔ (x.node = b.popups[i].node ∧ x.invoker = b.popups[i].invoker) := by
        cases x; cases b.popups[i]; simp
      by_cases hxx : x.node = b.popups[i].node ∧ x.invoker = b.popups[i].invoker
      · simpa [idx_P hi, idx_P hb, hx, hi, hb, hw, hd, e7, hxx.1, hxx.2, -List.getElem_cons_drop] using hnx'
      · have e8 : ((!decide (x.node = b.popups[i].node) || !decide (x.invoker = b.popups[i].invoker)) = true) := by
          rw [← Bool.not_and, Bool.not_eq_true', ← Bool.decide_and]; exact decide_eq_false hxx
        have e9 : ¬ x = b.popups[i] := fun h => hxx (e7.1 h)
        simp [idx_P hi, idx_P hb, hx, hi, hb, hw, hd, e8, e9, -List.getElem_cons_drop]
  · have : ¬ a.popups = b.popups := fun e => hab (by rw [e])
    simp [this]; omega
/-- What is wrong with somebody who is to be opened. -/
def wrongV (v : View) (n : Int) (p : Bool) : Int := if isN v.tree n = false then 2 else if p = false then 3 else if n ∈ openL v then 9 else 0
theorem sPwrong : Ev fun k => ∀ (v : View) (n : Int) (f : SVal) (p : Bool), SmV v → callV H (T k) f [encT v.tree, int n] = some (.bool p) → T (k + 1) 57 [encV v, int n, f] = ok (int (wrongV v n p)) := by
  refine (sPtis.and sPopen).mono fun k ⟨h1, h2⟩ v n f p hv hf => ?_
  rw [encV_eq, t57]; unfold R57
  by_cases hn : isN v.tree n = true
  · cases p
    · simp [h1, hn, hf, wrongV]
    · by_cases ho : n ∈ openL v
      · simp [h1, hn, hf, h2 v n hv, ho, wrongV]
      · simp [h1, hn, hf, h2 v n hv, ho, wrongV]
  · simp [h1, hn, wrongV]
theorem cDlg : Ev fun k => ∀ (t : List Nod) (n : Int), Sm t → callV H (T k) (.fn 37 []) [encT t, int n] = some (.bool (dlg t n)) := by
  refine sPdlg.mono fun k h t n ht => ?_
  have e : ∀ (T : Nat → List SVal → Option Res) (caps args : List SVal), callV H T (.fn 37 caps) args = (if shOks [.slc, .plain] (args ++ caps) = true then (T 37 (args ++ caps)).bind fun r => some r.r else none) := fun T caps args => by kernel_rfl
  rw [e, show [encT t, int n] ++ [] = [encT t, int n] from rfl, h t n ht]; rfl
theorem cPop : Ev fun k => ∀ (t : List Nod) (n : Int), Sm t → callV H (T k) (.fn 41 []) [encT t, int n] = some (.bool (pop t n)) := by
  refine sPpop.mono fun k h t n ht => ?_
  have e : ∀ (T : Nat → List SVal → Option Res) (caps args : List SVal), callV H T (.fn 41 caps) args = (if shOks [.slc, .plain] (args ++ caps) = true then (T 41 (args ++ caps)).bind fun r => some r.r else none) := fun T caps args => by kernel_rfl
  rw [e, show [encT t, int n] ++ [] = [encT t, int n] from rfl, h t n ht]; rfl
theorem sPdlgR : Ev fun k => ∀ (v : View) (n : Int) (m : Bool), SmV v → T k 20 [encV v, int n, .bool m] = ok (.tup [encV (dlgR v n m).1, int (dlgR v n m).2]) := by
  obtain ⟨k0, hall⟩ := sPchk.and (sPwrong.and (cDlg.and sPcpV))
  refine ⟨k0 + 2, fun k' hk' v n m hv => ?_⟩
  obtain ⟨k, rfl⟩ : ∃ j, k' = j + 2 := ⟨k' - 2, by omega⟩
  obtain ⟨h1, _, _, h4⟩ := hall (k + 1) (by omega)
  obtain ⟨_, h2, h3, _⟩ := hall k (by omega)
  have hw := h2 v n (.fn 37 []) (dlg v.tree n) hv (h3 v.tree n hv.tr)
  have l1 := hv.op; have l2 := hv.mo; have l4 := hv.to
  rw [encV_eq, t20]; unfold R20
  by_cases hc : chkV v = 0
  · by_cases hn : isN v.tree n = true
    · by_cases hd : dlg v.tree n = true
      · by_cases ho : n ∈ openL v
        · simp [h1 v hv, hc, hw, wrongV, hn, hd, ho, dlgR]
        · cases m
          · simp [h1 v hv, hc, hw, wrongV, hn, hd, ho, dlgR, h4 v hv, app8 (n := v.op.length + 1) (by omega)]
          · simp [h1 v hv, hc, hw, wrongV, hn, hd, ho, dlgR, h4 v hv, app8 (n := v.modal.length + 1) (by omega), app8 (n := v.top.length + 1) (by omega)]
      · simp [h1 v hv, hc, hw, wrongV, hn, hd, dlgR]
    · simp [h1 v hv, hc, hw, wrongV, hn, dlgR]
  · simp [h1 v hv, hc, dlgR]
theorem sRdlgR : Ev fun k => ∀ (v : View) (n : Int) (m : Bool), SmV v → T k 21 [encV v, int n, .bool m] = ok (.tup [encV (dlgR v n m).1, int (dlgR v n m).2]) := by
  refine (sRchk.and (sRIs.and (sRdlg.and (sRIsOpen.and sRcpV)))).step fun k ⟨h1, h2, h3, h4, h5⟩ v n m hv => ?_
  have l1 := hv.op; have l2 := hv.mo; have l4 := hv.to
  rw [encV_eq, t21]; unfold R21
  by_cases hc : chkV v = 0
  · have ht : May v.tree := ⟨hv.tr, by unfold chkV at hc; split at hc; assumption; omega⟩
    by_cases hn : isN v.tree n = true
    · by_cases hd : dlg v.tree n = true
      · by_cases ho : n ∈ openL v
        · simp [h1 v hv, hc, h2, h3 v.tree n ht, h4 v n hv, hn, hd, ho, dlgR]
        · cases m
          · simp [h1 v hv, hc, h2, h3 v.tree n ht, h4 v n hv, hn, hd, ho, dlgR, h5 v hv, app8 (n := v.op.length + 1) (by omega)]
          · simp [h1 v hv, hc, h2, h3 v.tree n ht, h4 v n hv, hn, hd, ho, dlgR, h5 v hv, app8 (n := v.modal.length + 1) (by omega), app8 (n := v.top.length + 1) (by omega)]
      · simp [h1 v hv, hc, h2, h3 v.tree n ht, hn, hd, dlgR]
    · simp [h1 v hv, hc, h2, hn, dlgR]
  · simp [h1 v hv, hc, dlgR]
theorem sPpopR : Ev fun k => ∀ (v : View) (x : Shown), SmV v → T k 22 [encV v, encS x] = ok (.tup [encV (popR v x).1, int (popR v x).2]) := by
  obtain ⟨k0, hall⟩ := sPchk.and (sPwrong.and (cPop.and (sPcpV.and sPtis)))
  refine ⟨k0 + 2, fun k' hk' v x hv => ?_⟩
  obtain ⟨k, rfl⟩ : ∃ j, k' = j + 2 := ⟨k' - 2, by omega⟩
  obtain ⟨h1, _, _, h4, h5⟩ := hall (k + 1) (by omega)
  obtain ⟨_, h2, h3, _⟩ := hall k (by omega)
  have hw := h2 v x.node (.fn 41 []) (pop v.tree x.node) hv (h3 v.tree x.node hv.tr)
  have l3 := hv.po; have l4 := hv.to
  rw [encV_eq, show encS x = .agg [int x.node, int x.invoker] from rfl, t22]; unfold R22
  by_cases hc : chkV v = 0
  · by_cases hi : x.invoker = -1 ∨ isN v.tree x.invoker = true
    · have hi2 : (decide (x.invoker = -1) || isN v.tree x.invoker) = true := by simpa using hi
      have hi3 : (!decide (x.invoker = -1) && !isN v.tree x.invoker) = false := by rw [← Bool.not_or, hi2]; rfl
      by_cases hn : isN v.tree x.node = true
      · by_cases hd : pop v.tree x.node = true
        · by_cases ho : x.node ∈ openL v
          · simp only [weak_T, weak_I, weak_P, fold_Vv, h1 v hv, hc, Option.bind_some, h5, sBin_neq, sNot_b, asB_b, guard_and, hi3, hw, wrongV, hn, hd, ho, popR]
            simp [hi2, h1 v hv, hc, h5, hw, wrongV, hn, hd, ho]
          · simp only [weak_T, weak_I, weak_P, fold_Vv, h1 v hv, hc, Option.bind_some, h5, sBin_neq, sNot_b, asB_b, guard_and, hi3, hw, wrongV, hn, hd, ho, popR]
            simp [hi2, h1 v hv, hc, h5, hw, wrongV, hn, hd, ho, h4 v hv, app16 (n := v.popups.length + 1) (by omega), app8 (n := v.top.length + 1) (by omega)]
        · simp only [weak_T, weak_I, weak_P, fold_Vv, h1 v hv, hc, Option.bind_some, h5, sBin_neq, sNot_b, asB_b, guard_and, hi3, hw, wrongV, hn, hd, popR]
          simp [hi2, h1 v hv, hc, h5, hw, wrongV, hn, hd]
      · simp only [weak_T, weak_I, weak_P, fold_Vv, h1 v hv, hc, Option.bind_some, h5, sBin_neq, sNot_b, asB_b, guard_and, hi3, hw, wrongV, hn, popR]
        simp [hi2, h1 v hv, hc, h5, hw, wrongV, hn]
    · have hi1 : ¬ x.invoker = -1 := fun h => hi (.inl h)
      have hi2 : isN v.tree x.invoker = false := by rw [← Bool.not_eq_true]; exact fun h => hi (.inr h)
      simp [h1 v hv, hc, h5, hi1, hi2, popR]
  · simp [h1 v hv, hc, popR]
theorem sRpopR : Ev fun k => ∀ (v : View) (x : Shown), SmV v → T k 23 [encV v, encS x] = ok (.tup [encV (popR v x).1, int (popR v x).2]) := by
  refine (sRchk.and (sRIs.and (sRpop.and (sRIsOpen.and sRcpV)))).step fun k ⟨h1, h2, h3, h4, h5⟩ v x hv => ?_
  have l3 := hv.po; have l4 := hv.to
  rw [encV_eq, show encS x = .agg [int x.node, int x.invoker] from rfl, t23]; unfold R23
  by_cases hc : chkV v = 0
  · have ht : May v.tree := ⟨hv.tr, by unfold chkV at hc; split at hc; assumption; omega⟩
    by_cases hn : isN v.tree x.node = true
    · by_cases hi : x.invoker = -1 ∨ isN v.tree x.invoker = true
      · have hi2 : (decide (x.invoker = -1) || isN v.tree x.invoker) = true := by simpa using hi
        have hi3 : (!decide (x.invoker = -1) && !isN v.tree x.invoker) = false := by rw [← Bool.not_or, hi2]; rfl
        by_cases hd : pop v.tree x.node = true
        · by_cases ho : x.node ∈ openL v
          · simp only [weak_T, weak_I, weak_P, fold_Vv, h1 v hv, hc, Option.bind_some, h2, sBin_neq, sNot_b, asB_b, guard_and, hi3]
            simp [hi2, hc, h2, h3 v.tree x.node ht, h4 v x.node hv, hn, hd, ho, popR]
          · simp only [weak_T, weak_I, weak_P, fold_Vv, h1 v hv, hc, Option.bind_some, h2, sBin_neq, sNot_b, asB_b, guard_and, hi3]
            simp [hi2, hc, h2, h3 v.tree x.node ht, h4 v x.node hv, hn, hd, ho, popR, h5 v hv, app16 (n := v.popups.length + 1) (by omega), app8 (n := v.top.length + 1) (by omega)]
        · simp only [weak_T, weak_I, weak_P, fold_Vv, h1 v hv, hc, Option.bind_some, h2, sBin_neq, sNot_b, asB_b, guard_and, hi3]
          simp [hi2, hc, h2, h3 v.tree x.node ht, hn, hd, popR]
      · have hi1 : ¬ x.invoker = -1 := fun h => hi (.inl h)
        have hi2 : isN v.tree x.invoker = false := by rw [← Bool.not_eq_true]; exact fun h => hi (.inr h)
        simp [h1 v hv, hc, h2, hn, hi1, hi2, popR]
    · simp [h1 v hv, hc, h2, hn, popR]
  · simp [h1 v hv, hc, popR]
theorem sPcl1 : Ev fun k => ∀ (n x : Int), callV H (T k) (.fn 60 [.rp [int n]]) [int x] = some (.bool (decide (¬ x = n))) := by
  refine Ev.pure 1000 fun k hk n x => ?_
  have e : ∀ (T : Nat → List SVal → Option Res) (caps args : List SVal), callV H T (.fn 60 caps) args = (if shOks [.plain, .rp 1] (args ++ caps) = true then (T 60 (args ++ caps)).bind fun r => some r.r else none) := fun T caps args => by kernel_rfl
  rw [e]
  have : T (k + 1) 60 ([int x] ++ [.rp [int n]]) = ok (.bool (decide (¬ x = n))) := by
    show T (k + 1) 60 [int x, .rp [int n]] = _
    rw [t60]; unfold R60
    simp
  rw [this]; rfl
theorem sPcl2 : Ev fun k => ∀ (n : Int) (x : Shown), callV H (T k) (.fn 61 [.rp [int n]]) [encS x] = some (.bool (decide (¬ x.node = n))) := by
  refine Ev.pure 1000 fun k hk n x => ?_
  have e : ∀ (T : Nat → List SVal → Option Res) (caps args : List SVal), callV H T (.fn 61 caps) args = (if shOks [.agg [.plain, .plain], .rp 1] (args ++ caps) = true then (T 61 (args ++ caps)).bind fun r => some r.r else none) := fun T caps args => by kernel_rfl
  rw [e]
  have : T (k + 1) 61 ([encS x] ++ [.rp [int n]]) = ok (.bool (decide (¬ x.node = n))) := by
    show T (k + 1) 61 [.agg [int x.node, int x.invoker], .rp [int n]] = _
    rw [t61]; unfold R61
    simp
  rw [this]; rfl
theorem sPclsR : Ev fun k => ∀ (v : View) (n : Int), SmV v → T k 24 [encV v, int n] = ok (.tup [encV (clsR v n).1, int (clsR v n).2]) := by
  obtain ⟨k0, hall⟩ := sPchk.and (sPtis.and (sPopen.and (sPcpV.and (sPcl1.and (sPcl2.and (sOnly.and sOnlyS))))))
  refine ⟨k0 + 2, fun k' hk' v n hv => ?_⟩
  obtain ⟨k, rfl⟩ : ∃ j, k' = j + 2 := ⟨k' - 2, by omega⟩
  obtain ⟨h1, h2, h3, h4, _⟩ := hall (k + 1) (by omega)
  obtain ⟨_, _, _, _, h5, h6, h7, h8⟩ := hall k (by omega)
  have l1 := hv.op; have l2 := hv.mo; have l3 := hv.po; have l4 := hv.to
  have e : ∀ l : List Int, l.length ≤ 400 → T (k + 1) 38 [encI l, .fn 60 [.rp [int n]]] = ok (.tup [encI (without l n), encI (l.filter fun x => !decide (¬ x = n))]) := fun l hl => h7 l _ (fun x => decide (¬ x = n)) hl fun x _ => h5 n x
  have e2 := h8 v.popups (.fn 61 [.rp [int n]]) (fun x => decide (¬ x.node = n)) (by omega) fun x _ => h6 n x
  have e2' : T (k + 1) 39 [encP v.popups, .fn 61 [.rp [int n]]] = ok (.tup [.sl 2 true false ((withoutP v.popups n).map encS), encP (v.popups.filter fun x => !decide (¬ x.node = n))]) := e2
  rw [encV_eq, t24]; unfold R24
  by_cases hc : chkV v = 0
  · by_cases hn : isN v.tree n = true
    · by_cases ho : n ∈ openL v
      · simp [h1 v hv, hc, h2, hn, h3 v n hv, ho, clsR, h4 v hv, e v.op (by omega), e v.modal (by omega), e v.top (by omega), e2']
      · simp [h1 v hv, hc, h2, hn, h3 v n hv, ho, clsR]
    · simp [h1 v hv, hc, h2, hn, clsR]
  · simp [h1 v hv, hc, clsR]
theorem sRwithout : Ev fun k => ∀ (l : List Int) (n : Int), l.length ≤ 400 → T k 62 [encI l, int n] = ok (encI (without l n)) := by
  refine Ev.pure 1000 fun k hk l n hl => ?_
  rw [t62]; unfold R62; simp only [weak_I]
  refine for_list l (fun i (o : List Int) => ⟨[encI l, int n, .sl 1 true false (o.map (SVal.int .i64)), int i], [], false⟩) (fun r i o => ok (encI (o ++ without r n))) (fun i o => o.length ≤ i) (by omega) ?_ ?_ k [] (by omega) (by simp)
  · intro o next _; simp [without]
  · intro i o x r next hi hx _ hI hw hnx
    have a1 := app8 (n := o.length + 1) (by omega)
    by_cases h : x = n
    · have hnx' := hnx o (by omega)
      simp only [without, List.filter_cons, h, not_true, decide_false, Bool.false_eq_true, if_false]
      simpa [hi, idx_I hi, hx, hw, h, without] using hnx'
    · have hnx' := hnx (o ++ [x]) (by simp; omega)
      simp only [without, List.filter_cons, h, not_false_iff, decide_true, if_true]
      simpa [hi, idx_I hi, hx, hw, h, a1, without] using hnx'
theorem sRclsR : Ev fun k => ∀ (v : View) (n : Int), SmV v → T k 25 [encV v, int n] = ok (.tup [encV (clsR v n).1, int (clsR v n).2]) := by
  refine (sRchk.and (sRIs.and (sRIsOpen.and (sRcpV.and sRwithout)))).at 1000 fun k hk ⟨h1, h2, h3, h4, h5⟩ v n hv => ?_
  have l1 := hv.op; have l2 := hv.mo; have l3 := hv.po; have l4 := hv.to
  rw [encV_eq, t25]; unfold R25
  by_cases hc : chkV v = 0
  · by_cases hn : isN v.tree n = true
    · by_cases ho : n ∈ openL v
      · simp [h1 v hv, hc, h2, hn, h3 v n hv, ho, clsR, h4 v hv, h5 v.op n (by omega), h5 v.modal n (by omega), h5 v.top n (by omega)]
        refine for_list v.popups (fun i (o : List Shown) => ⟨[int n, rpV v, .mb [.sl 7 false false [], encI [], encI [], .sl 2 false false [], encI []], .mb [encT v.tree, encI (without v.op n), encI (without v.modal n), .sl 2 true false (o.map encS), encI (without v.top n)], int i], [], false⟩) (fun r i o => ok (.tup [encV ⟨v.tree, without v.op n, without v.modal n, o ++ withoutP r n, without v.top n⟩, int 0])) (fun i o => o.length ≤ i) (by omega) ?_ ?_ k [] (by omega) (by simp)
        · intro o next _; simp [withoutP]
        · intro i o x r next hi hx _ hI hw hnx
          have a1 := app16 (n := o.length + 1) (by omega)
          by_cases h : x.node = n
          · have hnx' := hnx o (by omega)
            simp only [withoutP, List.filter_cons, h, not_true, decide_false, Bool.false_eq_true, if_false]
            simpa [hi, idx_P hi, hx, hw, h, withoutP] using hnx'
          · have hnx' := hnx (o ++ [x]) (by simp; omega)
            simp only [withoutP, List.filter_cons, h, not_false_iff, decide_true, if_true]
            simpa [hi, idx_P hi, hx, hw, h, a1, withoutP] using hnx'
      · simp [h1 v hv, hc, h2, hn, h3 v n hv, ho, clsR]
    · simp [h1 v hv, hc, h2, hn, clsR]
  · simp [h1 v hv, hc, clsR]
end Go.Proofs.YtkebikngkeehfaaGreat.K
end
section
namespace Go.Proofs.YtkebikngkeehfaaGreat.K
open Go Go.Lm
set_option linter.unusedSimpArgs false
theorem sPfx1 : Ev fun k => ∀ (t : List Nod) (n : Int), Sm t → callV H (T k) (.fn 36 [.rp [encT t]]) [int n] = some (.bool (dlg t n)) := by
  refine sPdlg.step fun k h t n ht => ?_
  have e : ∀ (T : Nat → List SVal → Option Res) (caps args : List SVal), callV H T (.fn 36 caps) args = (if shOks [.plain, .rp 1] (args ++ caps) = true then (T 36 (args ++ caps)).bind fun r => some r.r else none) := fun T caps args => by kernel_rfl
  rw [e]
  have : T (k + 1) 36 ([int n] ++ [.rp [encT t]]) = ok (.bool (dlg t n)) := by
    show T (k + 1) 36 [int n, .rp [encT t]] = _
    rw [t36]; unfold R36
    simp [h t n ht]
  rw [this]; rfl
theorem sPfx2 : Ev fun k => ∀ (t : List Nod) (x : Shown), Sm t → callV H (T k) (.fn 40 [.rp [encT t]]) [encS x] = some (.bool (pop t x.node)) := by
  refine sPpop.step fun k h t x ht => ?_
  have e : ∀ (T : Nat → List SVal → Option Res) (caps args : List SVal), callV H T (.fn 40 caps) args = (if shOks [.agg [.plain, .plain], .rp 1] (args ++ caps) = true then (T 40 (args ++ caps)).bind fun r => some r.r else none) := fun T caps args => by kernel_rfl
  rw [e]
  have : T (k + 1) 40 ([encS x] ++ [.rp [encT t]]) = ok (.bool (pop t x.node)) := by
    show T (k + 1) 40 [.agg [int x.node, int x.invoker], .rp [encT t]] = _
    rw [t40]; unfold R40
    simp [h t x.node ht]
  rw [this]; rfl
theorem sPfx3 : Ev fun k => ∀ (l : List Int) (n : Int), l.length ≤ 400 → callV H (T k) (.fn 44 [.rp [encI l]]) [int n] = some (.bool (decide (n ∈ l))) := by
  refine sContains.step fun k h l n hl => ?_
  have e : ∀ (T : Nat → List SVal → Option Res) (caps args : List SVal), callV H T (.fn 44 caps) args = (if shOks [.plain, .rp 1] (args ++ caps) = true then (T 44 (args ++ caps)).bind fun r => some r.r else none) := fun T caps args => by kernel_rfl
  rw [e]
  have : T (k + 1) 44 ([int n] ++ [.rp [encI l]]) = ok (.bool (decide (n ∈ l))) := by
    show T (k + 1) 44 [int n, .rp [encI l]] = _
    rw [t44]; unfold R44
    simp [h l n hl]
  rw [this]; rfl
theorem sPfix : Ev fun k => ∀ (v : View), SmV v → T k 13 [encV v] = ok (.tup [encV (fixR v).1, encI (fixR v).2.1, int (fixR v).2.2]) := by
  obtain ⟨k0, hall⟩ := sPCheck.and (sPCopy.and (sPtis.and (sPhigh.and (sEachNode.and (sConcat.and (sPfx1.and (sPfx2.and (sPfx3.and (sOnly.and sOnlyS)))))))))
  refine ⟨k0 + 1002, fun k' hk' v hv => ?_⟩
  obtain ⟨k, rfl⟩ : ∃ j, k' = j + 2 := ⟨k' - 2, by omega⟩
  obtain ⟨h1, h2, h3, h4, h5, h6, _⟩ := hall (k + 1) (by omega)
  obtain ⟨_, _, _, _, _, _, f1, f2, f3, f4, f5⟩ := hall k (by omega)
  have l1 := hv.op; have l2 := hv.mo; have l3 := hv.po; have l4 := hv.to
  rw [encV_eq, t13]; unfold R13
  by_cases hm : mayT v.tree = true
  · have eO := f4 v.op (.fn 36 [.rp [encT v.tree]]) (dlg v.tree) (by omega) fun x _ => f1 v.tree x hv.tr
    have eM := f4 v.modal (.fn 36 [.rp [encT v.tree]]) (dlg v.tree) (by omega) fun x _ => f1 v.tree x hv.tr
    have eP := f5 v.popups (.fn 40 [.rp [encT v.tree]]) (fun x => pop v.tree x.node) (by omega) fun x _ => f2 v.tree x hv.tr
    have eC := h2 v.tree hv.tr
    simp only [weak_T, weak_I, weak_P, h1 v.tree hv.tr, hm, if_true, Option.bind_some, sBin_neq, decide_true, Bool.not_true, pick_f, one_T, eC, eO, eM, eP, allOne_cons, allOne_one, oneS_sl, Bool.and_true, Nat.reduceLeDiff, true_and, c0_tup, c1_tup, one_I, sv_xs, List.length_map, fold_I0]
    let P := v.popups.filter fun x => pop v.tree x.node
    have hP : P.length ≤ 60 := Nat.le_trans (List.length_filter_le _ _) l3
    show loopN _ _ _ = _
    refine for_list P (fun i (o : List Shown) => ⟨[rpV v, .mb [.sl 7 false false [], encI [], encI [], .sl 2 true false [], encI []], .rp [encT v.tree], .mb [encT v.tree, encI (v.op.filter (dlg v.tree)), encI (v.modal.filter (dlg v.tree)), .sl 2 true false (encQ (o ++ P.drop i)), encI []], encI (v.op.filter fun x => !dlg v.tree x), encI (v.modal.filter fun x => !dlg v.tree x), encP (v.popups.filter fun x => !pop v.tree x.node), int P.length, int i], [], false⟩)
      (fun r i o => ok (.tup [encV ⟨v.tree, v.op.filter (dlg v.tree), v.modal.filter (dlg v.tree), o ++ r.map (fixP v.tree), v.top.filter fun n => decide (n ∈ v.modal.filter (dlg v.tree) ++ nodesP (o ++ r.map (fixP v.tree)))⟩, encI (goneV v), int 0])) (fun i o => o.length = i) (by omega) ?_ ?_ _ [] (by omega) rfl |>.trans ?_
    · intro o next hI
      have hQ : SmV ⟨v.tree, v.op.filter (dlg v.tree), v.modal.filter (dlg v.tree), o, []⟩ := ⟨hv.tr, Nat.le_trans (List.length_filter_le _ _) l1, Nat.le_trans (List.length_filter_le _ _) l2, by simp only; omega, by simp⟩
      have eH := h4 _ hQ
      have hhl := high_len hQ
      have eT := f4 v.top (.fn 44 [.rp [encI (highL ⟨v.tree, v.op.filter (dlg v.tree), v.modal.filter (dlg v.tree), o, []⟩)]]) _ (by omega) fun x _ => f3 _ x (by omega)
      have eN := h5 (v.popups.filter fun x => !pop v.tree x.node) (Nat.le_trans (List.length_filter_le _ _) (by omega))
      have b1 : (v.op.filter fun x => !dlg v.tree x).length ≤ 60 := Nat.le_trans (List.length_filter_le _ _) l1
      have b2 : (v.modal.filter fun x => !dlg v.tree x).length ≤ 60 := Nat.le_trans (List.length_filter_le _ _) l2
      have b3 : (nodesP (v.popups.filter fun x => !pop v.tree x.node)).length ≤ 60 := by simp only [nodesP, List.length_map]; exact Nat.le_trans (List.length_filter_le _ _) l3
      have eL := h6 [v.op.filter fun x => !dlg v.tree x, v.modal.filter fun x => !dlg v.tree x, nodesP (v.popups.filter fun x => !pop v.tree x.node)] (by simp) (by simp only [List.flatten_cons, List.flatten_nil, List.append_nil, List.length_append]; omega)
      simp only [List.flatten_cons, List.flatten_nil, List.append_nil] at eL
      simp only [highL] at eT
      simp [eH, eT, eN, eL, highL, goneV]
    · intro i o x r next hi hx hd hI hw hnx
      have hd' : P.drop (i + 1) = r := by rw [← List.drop_drop, hd]; rfl
      have hlen : i < (encQ (o ++ x :: r)).length := by rw [encQ_len]; simp; omega
      have hget : (encQ (o ++ x :: r))[i]? = some (encS x) := hI ▸ encQ_at o r x
      have hge : (encQ (o ++ x :: r))[i]'hlen = encS x := by
        have := List.getElem?_eq_getElem hlen; rw [hget] at this; exact (Option.some.inj this).symm
      rw [hd]
      rw [hd'] at hnx
      have hnx' := hnx (o ++ [fixP v.tree x]) (by simp [hI])
      by_cases hk : isN v.tree x.invoker = true
      · have hf : fixP v.tree x = x := by simp [fixP, hk]
        simp only [hf, List.append_assoc, List.singleton_append] at hnx'
        simp only [List.map_cons, hf]
        simpa [hi, hlen, hget, hge, h3, hk, hw] using hnx'
      · have hf : fixP v.tree x = ⟨x.node, -1⟩ := by simp [fixP, hk]
        have hset := encQ_set o r x ⟨x.node, -1⟩
        rw [hI, show encS ⟨x.node, -1⟩ = .agg [int x.node, int (-1)] from rfl] at hset
        simp only [hf, List.append_assoc, List.singleton_append] at hnx'
        simp only [List.map_cons, hf]
        simpa [hi, hlen, hget, hge, h3, hk, hw, hset] using hnx'
    · simp [fixR, hm, fixV, P]
  · simp [h1 v.tree hv.tr, hm, fixR]
theorem sRfix : Ev fun k => ∀ (v : View), SmV v → T k 14 [encV v] = ok (.tup [encV (fixR v).1, encI (fixR v).2.1, int (fixR v).2.2]) := by
  refine (sRMay.and (sRdlg.and (sRpop.and (sRIs.and (sIn.and sNodes))))).at 1000 fun k hk ⟨h1, h2, h3, h4, h5, h6⟩ v hv => ?_
  have l1 := hv.op; have l2 := hv.mo; have l3 := hv.po; have l4 := hv.to
  rw [encV_eq, t14]; unfold R14
  by_cases hm : mayT v.tree = true
  · have ht : May v.tree := ⟨hv.tr, hm⟩
    simp only [weak_T, weak_I, weak_P, h1 v.tree hv.tr, hm, Option.bind_some, sNot_b, Bool.not_true, pick_f, one_T, allOne_cons, allOne_one, oneS_sl, Bool.and_true, Nat.reduceLeDiff, true_and, if_true, fold_rpVv]
    let Z : SVal := .mb [.sl 7 false false [], .sl 1 true false [], .sl 1 true false [], .sl 2 true false [], .sl 1 true false []]
    let N : List Int → SVal := fun l => .sl 1 true false (l.map (SVal.int .i64))
    let Q : List Shown → SVal := fun l => .sl 2 true false (l.map encS)
    let fin : List Int → List Int → List Shown → List Int → Option Res := fun a m p g => ok (.tup [encV ⟨v.tree, a, m, p, v.top.filter fun n => decide (n ∈ m ++ nodesP p)⟩, encI g, int 0])
    let fp : List Shown → List Shown := fun l => (l.filter fun x => pop v.tree x.node).map (fixP v.tree)
    let fg : List Shown → List Int := fun l => nodesP (l.filter fun x => !pop v.tree x.node)
    refine for_list v.op (fun i (o : List Int × List Int) => ⟨[rpV v, Z, .mb [encT v.tree, N o.1, N [], Q [], N []], N o.2, int i], [], false⟩)
      (fun r i o => fin (o.1 ++ r.filter (dlg v.tree)) (v.modal.filter (dlg v.tree)) (fp v.popups) (o.2 ++ (r.filter fun n => !dlg v.tree n) ++ (v.modal.filter fun n => !dlg v.tree n) ++ fg v.popups)) (fun i o => o.1.length ≤ i ∧ o.2.length ≤ i) (by omega) ?_ ?_ k ([], []) (by omega) (by simp) |>.trans ?_
    · rintro ⟨a, g⟩ next hI
      simp only at hI
      simp [Z, N, Q]
      refine for_list v.modal (fun i (o : List Int × List Int) => ⟨[rpV v, Z, .mb [encT v.tree, N a, N o.1, Q [], N []], N o.2, int i], [], false⟩)
        (fun r i o => fin a (o.1 ++ r.filter (dlg v.tree)) (fp v.popups) (o.2 ++ (r.filter fun n => !dlg v.tree n) ++ fg v.popups)) (fun i o => o.1.length ≤ i ∧ o.2.length ≤ 60 + i) (by omega) ?_ ?_ k ([], g) (by omega) (by simp only [List.length_nil]; omega) |>.trans (by simp [Z, N, Q])
      · rintro ⟨m, g⟩ next hI
        simp only at hI
        simp [Z, N, Q]
        refine for_list v.popups (fun i (o : List Shown × List Int) => ⟨[rpV v, Z, .mb [encT v.tree, N a, N m, Q o.1, N []], N o.2, int i], [], false⟩)
          (fun r i o => fin a m (o.1 ++ fp r) (o.2 ++ fg r)) (fun i o => o.1.length ≤ i ∧ o.2.length ≤ 120 + i) (by omega) ?_ ?_ k ([], g) (by omega) (by simp only [List.length_nil]; omega) |>.trans (by simp [Z, N, Q])
        · rintro ⟨p, g⟩ next hI
          simp only at hI
          simp [Z, N, Q, fp, fg]
          refine for_list v.top (fun i (o : List Int) => ⟨[rpV v, Z, .mb [encT v.tree, N a, N m, Q p, N o], N g, int i], [], false⟩)
            (fun r i o => ok (.tup [encV ⟨v.tree, a, m, p, o ++ r.filter fun n => decide (n ∈ m ++ nodesP p)⟩, encI g, int 0])) (fun i o => o.length ≤ i) (by omega) ?_ ?_ k [] (by omega) (by simp) |>.trans (by simp [fin, nodesP])
          · intro o next _; simp [Z, N, Q]
          · intro i o x r next hi hx _ hI2 hw hnx
            have a1 := app8 (n := o.length + 1) (by omega)
            have e1 := h5 m x (by omega)
            have e2 := h6 p (by omega)
            have e3 := h5 (nodesP p) x (by simp [nodesP]; omega)
            by_cases hx2 : x ∈ m ++ nodesP p
            · have hnx' := hnx (o ++ [x]) (by simp; omega)
              have hb : (decide (x ∈ m) || decide (x ∈ nodesP p)) = true := by simpa using hx2
              simp only [List.filter_cons, hx2, decide_true, if_true]
              simp [Z, N, Q, hi, idx_I hi, hx, e1, e2, e3, hw, a1]
              rw [if_pos (by simpa using hx2)]
              simpa [Z, N, Q] using hnx'
            · have hnx' := hnx o (by omega)
              simp only [List.filter_cons, hx2, decide_false, Bool.false_eq_true, if_false]
              simp [Z, N, Q, hi, idx_I hi, hx, e1, e2, e3, hw]
              rw [if_neg (by simpa using hx2)]
              simpa [Z, N, Q] using hnx'
        · rintro i ⟨p, g⟩ x r next hi hx _ hI2 hw hnx
          simp only at hI2 hnx
          have a1 := app16 (n := p.length + 1) (by omega)
          have a2 := app8 (n := g.length + 1) (by omega)
          by_cases hp : pop v.tree x.node = true
          · by_cases hk : isN v.tree x.invoker = true
            · have hf : fixP v.tree x = x := by simp [fixP, hk]
              have hnx' := hnx (p ++ [x], g) ⟨by simp; omega, by simp only; omega⟩
              simp only [fp, fg, List.filter_cons, hp, if_true, Bool.not_true, Bool.false_eq_true, if_false, List.map_cons, hf]
              simpa [Z, N, Q, fp, fg, hi, idx_P hi, hx, h3 _ _ ht, h4, hp, hk, hw, a1] using hnx'
            · have hf : fixP v.tree x = ⟨x.node, -1⟩ := by simp [fixP, hk]
              have hnx' := hnx (p ++ [⟨x.node, -1⟩], g) ⟨by simp; omega, by simp only; omega⟩
              simp only [fp, fg, List.filter_cons, hp, if_true, Bool.not_true, Bool.false_eq_true, if_false, List.map_cons, hf]
              simp only [Z, N, Q, fp, fg, List.map_append, List.map_cons, List.map_nil, show encS ⟨x.node, -1⟩ = .agg [int x.node, int (-1)] from rfl] at hnx'
              simpa [Z, N, Q, fp, fg, hi, idx_P hi, hx, h3 _ _ ht, h4, hp, hk, hw, a1] using hnx'
          · have hnx' := hnx (p, g ++ [x.node]) ⟨by simp only; omega, by simp; omega⟩
            simp only [Bool.not_eq_true] at hp
            simp only [fp, fg, List.filter_cons, hp, Bool.not_false, if_true, Bool.false_eq_true, if_false]
            simpa [Z, N, Q, fp, fg, nodesP, hi, idx_P hi, hx, h3 _ _ ht, h4, hp, hw, a2] using hnx'
      · rintro i ⟨m, g⟩ x r next hi hx _ hI2 hw hnx
        simp only at hI2 hnx
        have a1 := app8 (n := m.length + 1) (by omega)
        have a2 := app8 (n := g.length + 1) (by omega)
        by_cases hp : dlg v.tree x = true
        · have hnx' := hnx (m ++ [x], g) ⟨by simp; omega, by simp only; omega⟩
          simp only [List.filter_cons, hp, if_true, Bool.not_true, Bool.false_eq_true, if_false]
          simpa [Z, N, Q, hi, idx_I hi, hx, h2 _ _ ht, hp, hw, a1] using hnx'
        · have hnx' := hnx (m, g ++ [x]) ⟨by simp only; omega, by simp; omega⟩
          simp only [Bool.not_eq_true] at hp
          simp only [List.filter_cons, hp, Bool.not_false, if_true, Bool.false_eq_true, if_false]
          simpa [Z, N, Q, hi, idx_I hi, hx, h2 _ _ ht, hp, hw, a2] using hnx'
    · rintro i ⟨a, g⟩ x r next hi hx _ hI2 hw hnx
      simp only at hI2 hnx
      have a1 := app8 (n := a.length + 1) (by omega)
      have a2 := app8 (n := g.length + 1) (by omega)
      by_cases hp : dlg v.tree x = true
      · have hnx' := hnx (a ++ [x], g) ⟨by simp; omega, by simp only; omega⟩
        simp only [List.filter_cons, hp, if_true, Bool.not_true, Bool.false_eq_true, if_false]
        simpa [Z, N, Q, hi, idx_I hi, hx, h2 _ _ ht, hp, hw, a1] using hnx'
      · have hnx' := hnx (a, g ++ [x]) ⟨by simp only; omega, by simp; omega⟩
        simp only [Bool.not_eq_true] at hp
        simp only [List.filter_cons, hp, Bool.not_false, if_true, Bool.false_eq_true, if_false]
        simpa [Z, N, Q, hi, idx_I hi, hx, h2 _ _ ht, hp, hw, a2] using hnx'
    · simp [fixR, hm, fixV, goneV, fin, fp, fg]
  · simp [h1 v.tree hv.tr, hm, fixR]
end Go.Proofs.YtkebikngkeehfaaGreat.K
end
