/- The statements of chapter 19, of what is told. -/
import Derived.Test.YtcehbmffbmhpfaaGreatLmAY
import Derived.Test.YtcehbmffbmhpfaaGreatLmAZ
set_option linter.unusedVariables false
set_option linter.unusedSimpArgs false
set_option linter.unnecessarySimpa false
set_option linter.all false
namespace Go.Proofs.YtcehbmffbmhpfaaGreat.K
open Go Go.Lm
set_option linter.unusedSimpArgs false
theorem xPopupTells : Ev fun k => ∀ (v : View) (x : Shown), T k 3 [encV v, encS x] = ok (.bool true) := by
  refine (sRsmallV.and (sLive19.and (sRchk.and (sRIs.and (sPKind.and (sPOver.and (sPBefore.and (sPAbove.and (sPLight.and (sRKind.and (sRover.and (sRBefore.and (sRAbove.and (sRLight.and sInts)))))))))))))).step fun k ⟨h1, h2, h3, h4, h5, h6, h7, h8, h9, h10, h11, h12, h13, h14, h15⟩ v x => ?_
  rw [encV_eq, show encS x = .agg [int x.node, int x.invoker] from rfl, t3]; unfold R3
  by_cases hs : smallV v = true
  · have hv := smallV_sm hs
    have l3 := hv.po
    by_cases ho : okV v x.node = true
    · obtain ⟨hc, hn⟩ := okV_iff.1 ho
      have b1 := bef_len v x; have b2 := abv_len v x.node; have b3 := lit_len v x.node
      simp [h1, hs, h3 v hv, hc, h4, hn, h5 v _ hv, h6 v x hv, h7 v x hv, h8 v _ hv, h9 v _ hv, kindV, ho, overV, befV, abvV, litV, h10 v _ hv hn, h11 v x hv hc hn, h12 v x hv hc hn, h13 v _ hv hc, h14 v _ hv hc hn, h15 (befL' v x) _ (by omega), h15 (abvL v x.node) _ (by omega), h15 (litL v x.node) _ (by omega), h2]
    · by_cases hc : chkV v = 0
      · have hn : isN v.tree x.node = false := by simpa [okV, hc] using ho
        simp [h1, hs, h3 v hv, hc, h4, hn, h5 v _ hv, h6 v x hv, h7 v x hv, h8 v _ hv, h9 v _ hv, kindV, ho, overV, befV, abvV, litV, h2]
      · simp [h1, hs, h3 v hv, hc, h5 v _ hv, h6 v x hv, h7 v x hv, h8 v _ hv, h9 v _ hv, kindV, ho, overV, befV, abvV, litV, h2]
  · simp [h1, hs, h2]
theorem xPopupSpares : Ev fun k => ∀ (v : View) (x : Shown), T k 4 [encV v, encS x] = ok (.bool true) := by
  refine (sRsmallV.and (sLive19.and (sRchk.and (sRIs.and (sPKind.and (sPOver.and (sPBefore.and (sNodes.and (sIn.and (sPlace.and sRfAbove)))))))))).at 1000 fun k hk ⟨h1, h2, h3, h4, h5, h6, h7, h8, h9, h10, h11⟩ v x => ?_
  rw [encV_eq, show encS x = .agg [int x.node, int x.invoker] from rfl, t4]; unfold R4
  by_cases hs : smallV v = true
  · have hv := smallV_sm hs
    have l3 := hv.po
    by_cases hc : chkV v = 0
    · by_cases hn : isN v.tree x.node = true
      · have ht := vmay hv hc
        have hVO := (chkV_iff.1 hc).2
        have ho : okV v x.node = true := okV_iff.2 ⟨hc, hn⟩
        have b1 := bef_len v x
        have l4 : (nodesP v.popups).length ≤ 400 := by simp [nodesP]; omega
        have hnd := bef_nodup hVO x
        simp only [weak_T, weak_I, weak_P, fold_Vv, fold_rpVv, fold_S, h1, hs, h3 v hv, hc, h4, hn, Option.bind_some, sNot_b, Bool.not_true, sBin_neq, decide_true, asB_b, guard_or, Bool.or_self, List.getD_cons_zero, pick_f, h7 v x hv, befV, ho, if_true, h8 v.popups (by omega)]
        refine for_list (befL' v x) (fun i (_ : Unit) => ⟨[rpV v, .rp [int x.node, int x.invoker], encI (befL' v x), encI (nodesP v.popups), int i], [], false⟩) (fun _ _ _ => ok (.bool true)) (fun _ _ => True) (by omega) ?_ ?_ k () (by omega) trivial
        · intro _ next _; simp [h2]
        · intro i _ y r next hi hx _ _ hw hnx
          have hnx' := hnx () trivial
          have hy : y ∈ befL' v x := hx ▸ List.getElem_mem hi
          obtain ⟨f1, f2, f3, f4, f5, f6⟩ := bef_spares hVO ht hy
          have hpl : plF y (befL' v x) 0 = i := by rw [← hx]; exact plF_at hnd hi
          have hoy := pop_ok hc f1
          have hny := (okV_iff.1 hoy).2
          by_cases hiv : isN v.tree x.invoker = true
          · have f6' := f6 hiv
            simp [hi, idx_I hi, hx, h9 _ _ l4, f1, h5 v _ hv, kindV_of hoy, f2, f3, h10 _ _ (show (befL' v x).length ≤ 400 by omega), hpl, h6 v x hv, overV, ho, f4, h11 v.tree _ _ ht hn, f5, h4, hiv, h11 v.tree _ _ ht hiv, f6', hw]
            simpa using hnx'
          · simp [hi, idx_I hi, hx, h9 _ _ l4, f1, h5 v _ hv, kindV_of hoy, f2, f3, h10 _ _ (show (befL' v x).length ≤ 400 by omega), hpl, h6 v x hv, overV, ho, f4, h11 v.tree _ _ ht hn, f5, h4, hiv, hw]
            simpa using hnx'
      · simp [h1, hs, h3 v hv, hc, h4, hn, h2]
    · simp [h1, hs, h3 v hv, hc, h2]
  · simp [h1, hs, h2]
theorem lit_at {v : View} (hv : VOk v) (n : Int) : ((litL v n).length : Int) = (stkL v).length - 1 - lastI (fun k => decide (k ∈ fups v.tree n)) (stkL v) 0 (-1) ∧ (∀ (j : Nat) (hj : j < (litL v n).length), ∃ h : (stkL v).length - 1 - j < (stkL v).length, (litL v n)[j] = (stkL v)[(stkL v).length - 1 - j] ∧ j + 1 ≤ (stkL v).length) ∧
    (lastI (fun k => decide (k ∈ fups v.tree n)) (stkL v) 0 (-1) = -1 ∨ ∃ (i : Nat) (hi : i < (stkL v).length), lastI (fun k => decide (k ∈ fups v.tree n)) (stkL v) 0 (-1) = i ∧ behL (stkL v) (stkL v)[i] = litL v n) := by
  rcases lit_last hv n with ⟨h1, h2⟩ | ⟨i, hi, h1, h2, h3⟩
  · rw [h1]
    refine ⟨by rw [h2, List.length_reverse]; omega, fun j hj => ?_, .inl rfl⟩
    have hj' : j < (stkL v).length := by rw [h2, List.length_reverse] at hj; exact hj
    refine ⟨by omega, ?_, by omega⟩
    simp only [h2, List.getElem_reverse]
  · rw [h1]
    have hl : (litL v n).length = (stkL v).length - (i + 1) := by rw [h2, List.length_reverse, List.length_drop]
    refine ⟨by rw [hl]; omega, fun j hj => ?_, .inr ⟨i, hi, rfl, h3.symm⟩⟩
    rw [hl] at hj
    refine ⟨by omega, ?_, by omega⟩
    simp only [h2, List.getElem_reverse, List.getElem_drop, List.length_drop]
    congr 1
    omega
theorem xPopupLight : Ev fun k => ∀ (v : View) (n : Int), T k 5 [encV v, int n] = ok (.bool true) := by
  refine (sRsmallV.and (sLive19.and (sRchk.and (sRIs.and (sPLight.and (sRstk.and (sRfAbove.and (sPAbove.and sInts)))))))).at 1000 fun k hk ⟨h1, h2, h3, h4, h5, h6, h7, h8, h9⟩ v n => ?_
  rw [encV_eq, t5]; unfold R5
  by_cases hs : smallV v = true
  · have hv := smallV_sm hs
    have l3 := hv.po; have hl := stk_len v
    by_cases hc : chkV v = 0
    · by_cases hn : isN v.tree n = true
      · have ht := vmay hv hc
        have hVO := (chkV_iff.1 hc).2
        have ho : okV v n = true := okV_iff.2 ⟨hc, hn⟩
        have b3 := lit_len v n
        obtain ⟨g1, g2, g3⟩ := lit_at hVO n
        generalize hL : lastI (fun k => decide (k ∈ fups v.tree n)) (stkL v) 0 (-1) = L at *
        simp only [weak_T, weak_I, weak_P, fold_Vv, fold_rpVv, fold_S, h1, hs, h3 v hv, hc, h4, hn, Option.bind_some, sNot_b, Bool.not_true, sBin_neq, decide_true, asB_b, guard_or, Bool.or_self, List.getD_cons_zero, pick_f, h5 v n hv, litV, ho, if_true, h6 v hv hc]
        refine for_list (stkL v) (fun i (a : Int) => ⟨[int n, rpV v, encI (litL v n), encI (stkL v), int a, int i], [], false⟩) (fun _ _ _ => ok (.bool true)) (fun i a => lastI (fun k => decide (k ∈ fups v.tree n)) ((stkL v).drop i) i a = L) (by omega) ?_ ?_ k (-1) (by omega) (by simpa using hL)
        · intro a next ha
          rw [List.drop_length] at ha
          simp only [lastI] at ha
          subst ha
          have w1 : IntKind.i64.wrap (((stkL v).length : Int) - 1) = (stkL v).length - 1 := wrapS (by omega) (by omega)
          have w2 : IntKind.i64.wrap (((stkL v).length : Int) - 1 - a) = (stkL v).length - 1 - a := by
            rcases g3 with g3 | ⟨i, hi, g3, _⟩
            · exact wrapS (by omega) (by omega)
            · exact wrapS (by omega) (by omega)
          simp [w1, w2, g1]
          refine for_list (litL v n) (fun i (_ : Unit) => ⟨[rpV v, encI (litL v n), encI (stkL v), int a, int i], [], false⟩) (fun _ _ _ => ok (.bool true)) (fun _ _ => True) (by omega) ?_ ?_ k () (by omega) trivial
          · intro _ next' _
            rcases g3 with g3 | ⟨i, hi, g3, g4⟩
            · subst g3; simp [h2]
            · have hst : okV v (stkL v)[i] = true := stk_ok hc (List.getElem_mem hi)
              have hab : abvV v (stkL v)[i] = litL v n := by rw [abvV, if_pos hst, abvL, if_pos (List.getElem_mem hi), g4]
              rw [g3]
              simp [hi, idx_I hi, h8 v _ hv, hab, h9 _ _ (show (litL v n).length ≤ 400 by omega), h2]
          · intro j _ y r next' hj hx _ _ hw hnx
            have hnx' := hnx () trivial
            obtain ⟨q1, q2, q3⟩ := g2 j hj
            have w3 : IntKind.i64.wrap (((stkL v).length : Int) - 1 - j) = (((stkL v).length - 1 - j : Nat) : Int) := by rw [wrapS (by omega) (by omega)]; omega
            simp [hj, idx_I hj, w1, w3, idx_I q1, q2, hw]
            simpa using hnx'
        · intro i a y r next hi hx hd ha hw hnx
          rw [hd] at ha
          simp only [lastI] at ha
          have hd' : (stkL v).drop (i + 1) = r := by rw [← List.drop_drop, hd]; rfl
          by_cases c1 : y ∈ fups v.tree n
          · have hnx' := hnx i (by rw [hd']; simpa [c1] using ha)
            simp [hi, idx_I hi, hx, h7 v.tree _ _ ht hn, c1, hw]
            simpa using hnx'
          · have hnx' := hnx a (by rw [hd']; simpa [c1] using ha)
            simp [hi, idx_I hi, hx, h7 v.tree _ _ ht hn, c1, hw]
            simpa using hnx'
      · simp [h1, hs, h3 v hv, hc, h4, hn, h2]
    · simp [h1, hs, h3 v hv, hc, h2]
  · simp [h1, hs, h2]
theorem xPopupHands : Ev fun k => ∀ (v : View) (x : Shown), T k 6 [encV v, encS x] = ok (.bool true) := by
  refine (sRsmallV.and (sLive19.and (sRchk.and (sRIs.and (sPKind.and (sPOver.and (sPBefore.and (sPAbove.and sPLight)))))))).at 1000 fun k hk ⟨h1, h2, h3, h4, h5, h6, h7, h8, h9⟩ v x => ?_
  rw [encV_eq, show encS x = .agg [int x.node, int x.invoker] from rfl, t6]; unfold R6
  by_cases hs : smallV v = true
  · have hv := smallV_sm hs
    have l3 := hv.po
    by_cases hc : chkV v = 0
    · by_cases hn : isN v.tree x.node = true
      · have ht := vmay hv hc
        have hVO := (chkV_iff.1 hc).2
        have ho : okV v x.node = true := okV_iff.2 ⟨hc, hn⟩
        have b1 := bef_len v x; have b3 := lit_len v x.node
        have e3 : (if decide (kindP v x.node = 3) = true then (decide (0 < ((befL' v x).length : Int)) || decide (0 < ((abvL v x.node).length : Int))) else false) = false := by
          by_cases k3 : kindP v x.node = 3
          · have f1 : befL' v x = [] := by simp [befL', k3]
            have f2 : abvL v x.node = [] := by
              unfold abvL
              rw [if_neg fun hm => ?_]
              rcases (stk_mem.1 hm).2 with e | e <;> omega
            simp [f1, f2]
          · simp [k3]
        have hgo : (decide (kindP v x.node = 3) && (decide (0 < ((befL' v x).length : Int)) || decide (0 < ((abvL v x.node).length : Int)))) = false := by
          cases h : decide (kindP v x.node = 3) with
          | false => rfl
          | true => rw [h] at e3; simpa using e3
        simp only [weak_T, weak_I, weak_P, fold_Vv, fold_rpVv, fold_S, h1, hs, h3 v hv, hc, h4, hn, Option.bind_some, sNot_b, Bool.not_true, sBin_neq, sBin_eql, sBin_gtr, decide_true, asB_b, guard_or, guard_and, Bool.or_self, List.getD_cons_zero, pick_f, h7 v x hv, befV, ho, if_true, h9 v _ hv, litV, h5 v _ hv, kindV_of ho, h8 v _ hv, abvV, sLen_I, gt_iff_lt, hgo]
        refine for_list (befL' v x) (fun i (_ : Unit) => ⟨[rpV v, .rp [int x.node, int x.invoker], encI (befL' v x), encI (litL v x.node), int i], [], false⟩) (fun _ _ _ => ok (.bool true)) (fun _ _ => True) (by omega) ?_ ?_ k () (by omega) trivial
        · intro _ next _
          simp
          refine for_list (litL v x.node) (fun i (_ : Unit) => ⟨[rpV v, .rp [int x.node, int x.invoker], encI (litL v x.node), int i], [], false⟩) (fun _ _ _ => ok (.bool true)) (fun _ _ => True) (by omega) ?_ ?_ k () (by omega) trivial
          · intro _ next' _
            rcases over_kind (v := v) x with e | ⟨e1, e2⟩
            · simp [h6 v x hv, overV, ho, e, h2]
            · have hoo := stk_ok hc e1
              have hne : ¬ overL v x = -1 := fun e => stk_ne hVO (e ▸ e1)
              rcases e2 with e2 | e2
              · simp [h6 v x hv, overV, ho, hne, h5 v _ hv, kindV_of hoo, e2, h2]
              · simp [h6 v x hv, overV, ho, hne, h5 v _ hv, kindV_of hoo, e2, h2]
          · intro i _ y r next' hi hx _ _ hw hnx
            have hnx' := hnx () trivial
            obtain ⟨q1, q2⟩ := lit_kind (hx ▸ List.getElem_mem hi : y ∈ litL v x.node)
            have hoy := stk_ok hc q1
            have q3 : ¬ kindP v y = 3 := by omega
            simp [hi, idx_I hi, hx, h5 v _ hv, kindV_of hoy, q3, hw]
            simpa using hnx'
        · intro i _ y r next hi hx _ _ hw hnx
          have hnx' := hnx () trivial
          have hy : y ∈ befL' v x := hx ▸ List.getElem_mem hi
          obtain ⟨f1, f2, _⟩ := bef_spares hVO ht hy
          have hoy := pop_ok hc f1
          simp [hi, idx_I hi, hx, h5 v _ hv, kindV_of hoy, f2, hw]
          simpa using hnx'
      · simp [h1, hs, h3 v hv, hc, h4, hn, h2]
    · simp [h1, hs, h3 v hv, hc, h2]
  · simp [h1, hs, h2]
theorem xPopupHints : Ev fun k => ∀ (v : View) (x : Shown), T k 7 [encV v, encS x] = ok (.bool true) := by
  refine (sRsmallV.and (sLive19.and (sRchk.and (sRIs.and (sPKind.and (sPOver.and (sPBefore.and (sRstk.and (sIn.and sPlace))))))))).at 1000 fun k hk ⟨h1, h2, h3, h4, h5, h6, h7, h8, h9, h10⟩ v x => ?_
  rw [encV_eq, show encS x = .agg [int x.node, int x.invoker] from rfl, t7]; unfold R7
  by_cases hs : smallV v = true
  · have hv := smallV_sm hs
    have l3 := hv.po; have hl := stk_len v
    by_cases hc : chkV v = 0
    · by_cases hn : isN v.tree x.node = true
      · have ht := vmay hv hc
        have hVO := (chkV_iff.1 hc).2
        have ho : okV v x.node = true := okV_iff.2 ⟨hc, hn⟩
        have b1 := bef_len v x
        simp only [weak_T, weak_I, weak_P, fold_Vv, fold_rpVv, fold_S, h1, hs, h3 v hv, hc, h4, hn, Option.bind_some, sNot_b, Bool.not_true, sBin_neq, decide_true, asB_b, guard_or, Bool.or_self, List.getD_cons_zero, pick_f, h7 v x hv, befV, ho, if_true, h5 v _ hv, kindV_of ho, h6 v x hv, overV, h8 v hv hc]
        refine for_list (stkL v) (fun i (_ : Unit) => ⟨[rpV v, .rp [int x.node, int x.invoker], encI (befL' v x), int (kindP v x.node), int (overL v x), encI (stkL v), int i], [], false⟩) (fun _ _ _ => ok (.bool true)) (fun _ _ => True) (by omega) ?_ ?_ k () (by omega) trivial
        · intro _ next _; simp [h2]
        · intro i _ y r next hi hx _ _ hw hnx
          have hnx' := hnx () trivial
          have hy : y ∈ stkL v := hx ▸ List.getElem_mem hi
          have hoy := stk_ok hc hy
          have l4 : (befL' v x).length ≤ 400 := by omega
          by_cases k2 : kindP v x.node = 2
          · have q : ¬ (kindP v y = 1 ∧ y ∈ befL' v x) := fun ⟨q1, q2⟩ => by have := (bef_mem q2).2.2.2 k2; omega
            by_cases q1 : kindP v y = 1
            · have q2 : y ∉ befL' v x := fun h => q ⟨q1, h⟩
              by_cases c1 : overL v x = -1
              · simp [hi, idx_I hi, hx, h9 _ _ l4, k2, h5 v _ hv, kindV_of hoy, q1, q2, c1, hw]
                simpa [k2, c1] using hnx'
              · simp [hi, idx_I hi, hx, h9 _ _ l4, k2, h5 v _ hv, kindV_of hoy, q1, q2, c1, h10 (stkL v) _ (by omega), hw]
                simpa [k2, c1] using hnx'
            · by_cases c1 : overL v x = -1
              · simp [hi, idx_I hi, hx, h9 _ _ l4, k2, h5 v _ hv, kindV_of hoy, q1, c1, hw]
                simpa [k2, c1] using hnx'
              · simp [hi, idx_I hi, hx, h9 _ _ l4, k2, h5 v _ hv, kindV_of hoy, q1, c1, h10 (stkL v) _ (by omega), hw]
                simpa [k2, c1] using hnx'
          · by_cases k1 : kindP v x.node = 1
            · by_cases c0 : y = x.node
              · by_cases c1 : overL v x = -1
                · simp [hi, idx_I hi, hx, h9 _ _ l4, k1, c0, c1, hw]
                  simpa [k1, c1] using hnx'
                · simp [hi, idx_I hi, hx, h9 _ _ l4, k1, c0, c1, h10 (stkL v) _ (by omega), hw]
                  simpa [k1, c1] using hnx'
              · have q := bef_auto hVO hi k1 (by rw [hx]; exact c0)
                rw [hx] at q
                by_cases c1 : overL v x = -1
                · have q2 : y ∈ befL' v x := q.2 (by rw [over_pl hVO x c1]; omega)
                  simp [hi, idx_I hi, hx, h9 _ _ l4, k1, c0, c1, q2, hw]
                  simpa [k1, c1] using hnx'
                · by_cases c2 : plF (overL v x) (stkL v) 0 < i
                  · have q2 : y ∈ befL' v x := q.2 c2
                    simp [hi, idx_I hi, hx, h9 _ _ l4, k1, c0, c1, q2, h10 (stkL v) _ (by omega), c2, hw]
                    simpa [k1, c1] using hnx'
                  · have q2 : y ∉ befL' v x := fun h => c2 (q.1 h)
                    simp [hi, idx_I hi, hx, h9 _ _ l4, k1, c0, c1, q2, h10 (stkL v) _ (by omega), c2, hw]
                    simpa [k1, c1] using hnx'
            · by_cases c1 : overL v x = -1
              · simp [hi, idx_I hi, hx, h9 _ _ l4, k1, k2, c1, hw]
                simpa [c1] using hnx'
              · simp [hi, idx_I hi, hx, h9 _ _ l4, k1, k2, c1, h10 (stkL v) _ (by omega), hw]
                simpa using hnx'
      · simp [h1, hs, h3 v hv, hc, h4, hn, h2]
    · simp [h1, hs, h3 v hv, hc, h2]
  · simp [h1, hs, h2]
theorem xPopupLone : Ev fun k => ∀ (v : View) (x : Shown), T k 8 [encV v, encS x] = ok (.bool true) := by
  refine (sRsmallV.and (sLive19.and (sRchk.and (sRIs.and (sPOver.and (sPBefore.and (sPLight.and (sRstk.and (sIn.and sPlace))))))))).at 1000 fun k hk ⟨h1, h2, h3, h4, h6, h7, h5, h8, h9, h10⟩ v x => ?_
  rw [encV_eq, show encS x = .agg [int x.node, int x.invoker] from rfl, t8]; unfold R8
  by_cases hs : smallV v = true
  · have hv := smallV_sm hs
    have l3 := hv.po; have hl := stk_len v
    by_cases hc : chkV v = 0
    · by_cases hn : isN v.tree x.node = true
      · have ht := vmay hv hc
        have hVO := (chkV_iff.1 hc).2
        have ho : okV v x.node = true := okV_iff.2 ⟨hc, hn⟩
        have b1 := bef_len v x
        by_cases hp : v.popups = []
        · have e0 := stk_none hp
          have e1 : overL v x = -1 := by simp [overL, e0, fstP]
          have e2 : litL v x.node = [] := by simp [litL, e0, behL]
          have e3 : befL' v x = [] := by simp [befL', e0, behL]
          have hp1 : v.popups.length = 0 := by simp [hp]
          simp [h1, hs, h3 v hv, hc, h4, hn, h7 v x hv, befV, ho, hp1, e3, h6 v x hv, overV, e1, h5 v _ hv, litV, e2, h2]
        · have hp1 : ¬ ((v.popups.length : Int) = 0) := by
            have := List.length_pos_iff.2 hp; omega
          obtain ⟨p1, p2⟩ := plF_lt (stkL v) (overL v x) 0
          simp only [weak_T, weak_I, weak_P, fold_Vv, fold_rpVv, fold_S, h1, hs, h3 v hv, hc, h4, hn, Option.bind_some, sNot_b, Bool.not_true, sBin_neq, sBin_eql, decide_true, asB_b, guard_or, Bool.or_self, List.getD_cons_zero, pick_f, h7 v x hv, befV, ho, if_true, sLen_P, hp1, decide_false, h8 v hv hc, h6 v x hv, overV, h10 (stkL v) _ (show (stkL v).length ≤ 400 by omega)]
          have p3 : plF (overL v x) (stkL v) 0 < (stkL v).length := by
            by_cases hm : overL v x ∈ stkL v
            · obtain ⟨j, q1, q2, _⟩ := plF_get (i := 0) hm
              rw [q2]; omega
            · rw [pl_none 0 hm]; omega
          refine loop_wf (fun i : Nat => ⟨[encI (befL' v x), encI (stkL v), int (plF (overL v x) (stkL v) 0), int i], [], false⟩) (fun _ => ok (.bool true)) (fun i => (stkL v).length - i) (fun i => (i : Int) ≤ plF (overL v x) (stkL v) 0 + 1) ?_ k 0 (by omega) (by omega)
          intro i hi next hnx
          by_cases hle : (i : Int) ≤ plF (overL v x) (stkL v) 0
          · have hlt : i < (stkL v).length := by omega
            have hw : IntKind.i64.wrap ((i : Int) + 1) = ((i + 1 : Nat) : Int) := wrap1 (by omega)
            have hnot := bef_ahead hVO (x := x) hlt hle
            have hnx' := hnx (i + 1) (by omega) (by omega)
            simp [hle, idx_I hlt, h9 _ _ (show (befL' v x).length ≤ 400 by omega), hnot, hw]
            simpa using hnx'
          · simp [hle, h2]
      · simp [h1, hs, h3 v hv, hc, h4, hn, h2]
    · simp [h1, hs, h3 v hv, hc, h2]
  · simp [h1, hs, h2]
end Go.Proofs.YtcehbmffbmhpfaaGreat.K
