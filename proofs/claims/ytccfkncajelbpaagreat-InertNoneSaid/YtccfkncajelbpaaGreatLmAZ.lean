/- The statements of chapter 12, of what is told. -/
import Derived.Test.YtccfkncajelbpaaGreatLmAW
import Derived.Test.YtccfkncajelbpaaGreatLmAX
import Derived.Test.YtccfkncajelbpaaGreatLmAY
set_option linter.unusedVariables false
set_option linter.unusedSimpArgs false
set_option linter.unnecessarySimpa false
set_option linter.all false
namespace Go.Proofs.YtccfkncajelbpaaGreat.K
open Go Go.Lm
set_option linter.unusedSimpArgs false
theorem sRboth : Ev fun k => ∀ (t : List Nod) (a b : Int), Sm t → T k 37 [encT t, int a, int b] = ok (.bool (mayT t && (isN t a && isN t b))) := by
  refine (sRMay.and sRIs).step fun k ⟨h1, h2⟩ t a b ht => ?_
  rw [t37]; unfold R37
  simp [h1 t ht, h2]
theorem xInertTells : Ev fun k => ∀ (v : View) (n : Int), T k 7 [encV v, int n] = ok (.bool true) := by
  refine (sRsmallV.and (sLive12.and (sRchk.and (sPiIs.and (sPblk.and (sPiAll.and (sRIs.and (sRiIs.and (sRblk.and (sRiAll.and sInts)))))))))).step fun k ⟨h1, h2, h3, h4, h5, h6, h7, h8, h9, h10, h11⟩ v n => ?_
  rw [encV_eq, t7]; unfold R7
  by_cases hs : smallV v = true
  · have hv := smallV_sm hs
    by_cases hc : chkV v = 0
    · have ht := vmay hv hc
      have hl := allI_len v; have hl2 := hv.tr.len
      have e : allIv v = allIn v := by simp [allIv, hc]
      by_cases hn : isN v.tree n = true
      · simp [h1, hs, h2, h3 v hv, hc, h4 v n hv, h5 v n hv, h6 v hv, e, h7, hn, h8 v n hv ht hn, h9 v n hv ht hn, h10 v hv ht, okV, h11 (allIn v) (allIn v) (by omega)]
      · simp [h1, hs, h2, h3 v hv, hc, h4 v n hv, h5 v n hv, h7, hn, okV]
    · have e : allIv v = [] := by simp [allIv, hc]
      simp [h1, hs, h2, h3 v hv, hc, h4 v n hv, h5 v n hv, h6 v hv, e, okV]
  · simp [h1, hs, h2]
theorem xInertNone : Ev fun k => ∀ (v : View), T k 9 [encV v] = ok (.bool true) := by
  refine (sRsmallV.and (sLive12.and (sRchk.and (sPiAll.and (sPblk.and (sRHas.and sIn)))))).at 1000 fun k hk ⟨h1, h2, h3, h4, h5, h6, h7⟩ v => ?_
  rw [encV_eq, t9]; unfold R9
  by_cases hs : smallV v = true
  · have hv := smallV_sm hs
    by_cases hc : chkV v = 0
    · have ht := vmay hv hc
      have hl := allI_len v; have hl2 := hv.tr.len
      have e : allIv v = allIn v := by simp [allIv, hc]
      have hVO := (chkV_iff.1 hc).2
      simp only [weak_T, weak_I, weak_P, fold_Vv, fold_rpVv, h1, hs, h3 v hv, hc, Option.bind_some, sNot_b, Bool.not_true, sBin_neq, decide_true, asB_b, guard_or, Bool.or_self, List.getD_cons_zero, pick_f]
      refine for_upto v.tree.length (fun i (b : Bool) => ⟨[rpV v, .bool b, int i], [], false⟩) (fun d i b => ok (.bool true)) (fun i b => b = false → ∀ j : Nat, j < i → hasA (nd v.tree j) 3 = false) (by omega) ?_ ?_ k false (by omega) (fun _ j hj => by omega)
      · intro b next hI
        have h0 : (0 : Int) ∉ allIn v := fun h => by
          have := (mem_allI.1 h).2; rw [isI0 ht] at this; cases this
        have hb0 : blkN v 0 = false := by simp [blkN]
        by_cases hq : b = false ∧ v.modal = []
        · obtain ⟨rfl, hm⟩ := hq
          have hnone := hI rfl
          have hh := high_nil hm
          have hemp : allIn v = [] := by
            unfold allIn
            rw [List.filter_eq_nil_iff]
            intro n hn
            have hn' := mem_idx.1 hn
            have hb : blkN v n = false := by simp [blkN, hh]
            simp only [isI, hb, Bool.false_or, hh]
            rw [mk_none ht hn', Bool.not_eq_true, List.any_eq_false]
            intro x hx
            have hx' := (flTr ht).upP n hn' x hx
            obtain ⟨x1, x2⟩ := isN_iff.1 hx'
            have := hnone x.toNat (by omega)
            rw [show ((x.toNat : Nat) : Int) = x by omega] at this
            simp [this]
          have hm1 : v.modal.length = 0 := by simp [hm]
          simp [h4 v hv, e, hemp, hm1, h7 _ _ (show ([] : List Int).length ≤ 400 by simp), h5 v _ hv, hb0, h2]
        · have hq' : (!b && decide (v.modal.length = 0)) = false := by
            rw [← Bool.not_eq_true]
            intro h
            simp only [Bool.and_eq_true, Bool.not_eq_true', decide_eq_true_eq, List.length_eq_zero_iff] at h
            exact hq h
          have key : ∀ q : Bool, (!b && (decide ((v.modal.length : Int) = 0) && q)) = false := fun q => by
            have : decide ((v.modal.length : Int) = 0) = decide (v.modal.length = 0) := decide_eq_decide.2 (by omega)
            rw [this, ← Bool.and_assoc, hq', Bool.false_and]
          simp only [k0_mk, k1_mk, k2_mk, sLen_T, rpV_c0, rpV_c1, rpV_c2, rpV_c3, rpV_c4, Option.bind_some, sBin_lss, Int.lt_irrefl, decide_false, pick_f, weak_T, weak_I, weak_P, fold_Vv, h4 v hv, e, sNot_b, sLen_I, sBin_eql, sBin_gtr, asB_b, guard_and, key, List.getD_cons_zero, h7 _ 0 (show (allIn v).length ≤ 400 by omega), h0, sc1_b, if_true, Bool.not_false, h5 v 0 hv, hb0, Bool.and_false, h2, Bool.and_self]
      · intro d i b next hd hi hI hw hnx
        have hin := isN_nat hi
        have hnx' := hnx (b || hasA (nd v.tree i) 3) (fun hb j hj => by
          simp only [Bool.or_eq_false_iff] at hb
          by_cases e : j = i
          · subst e; exact hb.2
          · exact hI hb.1 j (by omega))
        simp [hi, h6 v.tree i 3 hv.tr, hin, hw]
        simpa using hnx'
    · simp [h1, hs, h2, h3 v hv, hc]
  · simp [h1, hs, h2]
theorem xInertBelow : Ev fun k => ∀ (v : View) (a b : Int), T k 10 [encV v, int a, int b] = ok (.bool true) := by
  refine (sRsmallV.and (sLive12.and (sRchk.and (sRboth.and (sRfAbove.and (sPiIs.and sRhst)))))).step fun k ⟨h1, h2, h3, h4, h5, h6, h7⟩ v a b => ?_
  rw [encV_eq, t10]; unfold R10
  by_cases hs : smallV v = true
  · have hv := smallV_sm hs
    by_cases hc : chkV v = 0
    · have ht := vmay hv hc
      have e7 : T k 35 [encV v] = ok (int (highN v)) := h7 v hv
      by_cases hab : isN v.tree a = true ∧ isN v.tree b = true
      · obtain ⟨ha, hb⟩ := hab
        have hO : ∀ n, okV v n = isN v.tree n := fun n => by simp [okV, hc]
        by_cases hm : a ∈ fups v.tree b
        · by_cases hi : isI v a = true
          · by_cases q1 : highN v = -1
            · have := isI_below ht hb hm hi (fun h => h.1 q1)
              simp [h1, hs, h2, h3 v hv, hc, h4 v.tree a b hv.tr, ht.may, ha, hb, h5 v.tree _ _ ht hb, h5 v.tree _ _ ht ha, hm, h6 v _ hv, hO, hi, e7, q1, this]
            · by_cases q2 : highN v ∈ fups v.tree b
              · by_cases q3 : highN v ∈ fups v.tree a
                · have := isI_below ht hb hm hi (fun h => h.2.2 q3)
                  simp [h1, hs, h2, h3 v hv, hc, h4 v.tree a b hv.tr, ht.may, ha, hb, h5 v.tree _ _ ht hb, h5 v.tree _ _ ht ha, hm, h6 v _ hv, hO, hi, e7, q1, q2, q3, this]
                · simp [h1, hs, h2, h3 v hv, hc, h4 v.tree a b hv.tr, ht.may, ha, hb, h5 v.tree _ _ ht hb, h5 v.tree _ _ ht ha, hm, h6 v _ hv, hO, hi, e7, q1, q2, q3]
              · have := isI_below ht hb hm hi (fun h => q2 h.2.1)
                simp [h1, hs, h2, h3 v hv, hc, h4 v.tree a b hv.tr, ht.may, ha, hb, h5 v.tree _ _ ht hb, h5 v.tree _ _ ht ha, hm, h6 v _ hv, hO, hi, e7, q1, q2, this]
          · simp [h1, hs, h2, h3 v hv, hc, h4 v.tree a b hv.tr, ht.may, ha, hb, h5 v.tree _ _ ht hb, hm, h6 v _ hv, hO, hi]
        · simp [h1, hs, h2, h3 v hv, hc, h4 v.tree a b hv.tr, ht.may, ha, hb, h5 v.tree _ _ ht hb, hm]
      · have : (isN v.tree a && isN v.tree b) = false := by
          rw [← Bool.not_eq_true, Bool.and_eq_true]; exact hab
        simp [h1, hs, h2, h3 v hv, hc, h4 v.tree a b hv.tr, this]
    · simp [h1, hs, h2, h3 v hv, hc]
  · simp [h1, hs, h2]
theorem xInertHighest : Ev fun k => ∀ (v : View) (n : Int), T k 11 [encV v, int n] = ok (.bool true) := by
  refine (sRsmallV.and (sLive12.and (sRchk.and (sRhst.and (sRfAbove.and (sPblk.and sRdlgR)))))).at 1000 fun k hk ⟨h1, h2, h3, h4, h5, h6, h7⟩ v n => ?_
  rw [encV_eq, t11]; unfold R11
  by_cases hs : smallV v = true
  · have hB := smallV_B hs
    have hv := hB.sm (by omega)
    by_cases hc : chkV v = 0
    · have ht := vmay hv hc
      have hVO := (chkV_iff.1 hc).2
      have hl2 := hv.tr.len
      have hO : ∀ n, okV v n = isN v.tree n := fun n => by simp [okV, hc]
      have e4 : T k 35 [encV v] = ok (int (highN v)) := h4 v hv
      simp only [weak_T, weak_I, weak_P, fold_Vv, fold_rpVv, h1, hs, h3 v hv, hc, Option.bind_some, sNot_b, Bool.not_true, sBin_neq, decide_true, asB_b, guard_or, Bool.or_self, List.getD_cons_zero, pick_f, e4]
      have fin : ∀ R : Option Res, R = ((T k 38 [encV v, int n, (.bool true)]).bind fun r20 =>
     if (allOne [.v r20.r.c0.c0, .v r20.r.c0.c1, .v r20.r.c0.c2, .v r20.r.c0.c3, .v r20.r.c0.c4]) = true then
     (sBin .neq r20.r.c1 (.int .i64 0)).bind fun r21 =>
     pickC r21
     ((T k 28 []).bind fun r22 =>
      some { r := r22.r })
     (((sBin .neq (int (highN v)) (.int .i64 (-1))).bind fun r23 =>
       guardX r23 true
       ((T k 30 [(.agg [(weak r20.r.c0.c0), (weak r20.r.c0.c1), (weak r20.r.c0.c2), (weak r20.r.c0.c3), (weak r20.r.c0.c4)]), int (highN v)]).bind fun r24 =>
        (T k 26 [encT v.tree, int n, int (highN v)]).bind fun r25 =>
        (sBinB .eql r24.r r25.r).bind fun r26 =>
        (asB r26).bind fun b27 =>
        some [b27])
       (some [false])
       (none)).bind fun vs28 =>
      pickC (.bool (vs28.getD 0 false))
      (some { r := (.bool false) })
      (((T k 30 [(.agg [(weak r20.r.c0.c0), (weak r20.r.c0.c1), (weak r20.r.c0.c2), (weak r20.r.c0.c3), (weak r20.r.c0.c4)]), int n]).bind fun r29 =>
        (sNot r29.r).bind fun r30 =>
        guardX r30 true
        ((T k 28 []).bind fun r31 =>
         (asB r31.r).bind fun b32 =>
         some [b32])
        (some [false])
        (none)).bind fun vs33 =>
       some { r := (.bool (vs33.getD 0 false)) }))
     else none) → R = ok (.bool true) := by
        intro R e
        rw [e, h7 v n true hv]
        have hD := (B_dlg hB n true).sm (by omega)
        by_cases h0 : (dlgR v n true).2 = 0
        · have hmay := dlgR_may h0
          obtain ⟨_, dn, dd, _, b5⟩ := dlgR_ok h0
          have htr : (dlgR v n true).1.tree = v.tree := by rw [b5]; rfl
          have hcw : chkV (dlgR v n true).1 = 0 := chkV_iff.2 ⟨by rw [htr]; exact ht.may, hmay⟩
          have hOw : ∀ m, okV (dlgR v n true).1 m = isN v.tree m := fun m => by simp [okV, hcw, htr]
          have hhw := high_dlg h0
          have hn1 := isN_ne dn
          have hkn := (dlg_fact dd).2.1
          have hb1 : blkN (dlgR v n true).1 n = false := by simp [blkN, hhw, htr, (flTr ht).up_self dn]
          by_cases q1 : highN v = -1
          · simp [h0, q1, h6 _ _ hD, hOw, dn, hb1, h2]
          · obtain ⟨_, hd2⟩ := high_top hVO q1
            obtain ⟨g1, g2, _⟩ := dlg_fact hd2
            have g0 : ¬ highN v = 0 := fun e => by rw [e, kind0 ht] at g2; omega
            have hb2 : blkN (dlgR v n true).1 (highN v) = !decide (n ∈ fups v.tree (highN v)) := by simp [blkN, hhw, htr, g0, hn1]
            by_cases hm : n ∈ fups v.tree (highN v)
            · simp [h0, q1, h6 _ _ hD, hOw, dn, g1, hb1, hb2, h5 v.tree _ _ ht g1, hm, h2]
            · simp [h0, q1, h6 _ _ hD, hOw, dn, g1, hb1, hb2, h5 v.tree _ _ ht g1, hm, h2]
        · simp [h0, h2]
      have hfin := fin _ rfl
      refine for_upto v.tree.length (fun i (_ : Unit) => ⟨[int n, rpV v, int (highN v), int i], [], false⟩) (fun d i _ => ok (.bool true)) (fun _ _ => True) (by omega) ?_ ?_ k () (by omega) trivial
      · intro _ next _
        simp only [k0_mk, k1_mk, k2_mk, k3_mk, rpV_c0, rpV_c1, rpV_c2, rpV_c3, rpV_c4, sLen_T, Option.bind_some, sBin_lss, Int.lt_irrefl, decide_false, guard_ft, guard_and, Bool.false_and, List.getD_cons_zero, pick_f, weak_T, weak_I, weak_P, fold_Vv]
        exact hfin
      · intro d i _ next hd hi _ hw hnx
        have hnx' := hnx () trivial
        have hin := isN_nat hi
        by_cases q1 : highN v = -1
        · simp only [k0_mk, k1_mk, k2_mk, k3_mk, rpV_c0, rpV_c1, rpV_c2, rpV_c3, rpV_c4, sLen_T, Option.bind_some, sBin_lss, sBin_neq, q1, decide_true, Bool.not_true, asB_b, guard_and, Bool.and_false, List.getD_cons_zero, pick_f, weak_T, weak_I, weak_P, fold_Vv]
          rw [q1] at hfin
          exact hfin
        · by_cases hm : highN v ∈ fups v.tree i
          · have hb : blkN v i = false := by simp [blkN, hm]
            simp [hi, q1, h5 v.tree _ _ ht hin, hm, h6 v _ hv, hO, hin, hb, hw]
            simpa using hnx'
          · simp [hi, q1, h5 v.tree _ _ ht hin, hm, hw]
            simpa using hnx'
    · simp [h1, hs, h2, h3 v hv, hc]
  · simp [h1, hs, h2]
theorem rng_any (p : Int → Bool) : ∀ d i : Nat, (rngI (d + 1) i).any p = (p i || (rngI d (i + 1)).any p) := fun d i => by rw [rngI_succ, List.any_cons]
theorem xInertModal : Ev fun k => ∀ (v : View), T k 8 [encV v] = ok (.bool true) := by
  refine (sRsmallV.and (sLive12.and (sRchk.and (sRhst.and (sRfAbove.and (sPblk.and (sPiIs.and (sPiAll.and (sRHas.and sIn))))))))).at 1000 fun k hk ⟨h1, h2, h3, h4, h5, h6, h7, h8, h9, h10⟩ v => ?_
  rw [encV_eq, t8]; unfold R8
  by_cases hs : smallV v = true
  · have hv := smallV_sm hs
    by_cases hc : chkV v = 0
    · have ht := vmay hv hc
      have hVO := (chkV_iff.1 hc).2
      have hl := allI_len v; have hl2 := hv.tr.len
      have e : allIv v = allIn v := by simp [allIv, hc]
      have hO : ∀ n, okV v n = isN v.tree n := fun n => by simp [okV, hc]
      have e4 : T k 35 [encV v] = ok (int (highN v)) := h4 v hv
      simp only [weak_T, weak_I, weak_P, fold_Vv, fold_rpVv, h1, hs, h3 v hv, hc, Option.bind_some, sNot_b, Bool.not_true, sBin_neq, decide_true, asB_b, guard_or, Bool.or_self, List.getD_cons_zero, pick_f, e4]
      refine for_upto v.tree.length (fun i (_ : Unit) => ⟨[rpV v, int (highN v), int i], [], false⟩) (fun d i _ => ok (.bool true)) (fun _ _ => True) (by omega) ?_ ?_ k () (by omega) trivial
      · intro _ next _; simp [h2]
      · intro d i _ next hd hi _ hw hnx
        have hnx' := hnx () trivial
        have hin := isN_nat hi
        have hwi : (decide (highN v = -1) || decide (highN v ∈ fups v.tree i)) = true ∨ (decide (highN v = -1) || decide (highN v ∈ fups v.tree i)) = false := by cases (decide (highN v = -1) || decide (highN v ∈ fups v.tree i)) <;> simp
        by_cases hcont : (¬ highN v = -1 ∧ highN v ∉ fups v.tree i) ∧ ¬ i = 0
        · obtain ⟨⟨q1, q2⟩, q3⟩ := hcont
          have hb : blkN v i = true := by simp [blkN, q1, q2]; omega
          have hI : isI v i = true := by simp [isI, hb]
          simp [hi, q1, h5 v.tree _ _ ht hin, q2, q3, h7 v _ hv, hO, hin, hI, h6 v _ hv, hb, hw]
          simpa using hnx'
        · have hww : (i : Int) = 0 ∨ highN v = -1 ∨ highN v ∈ fups v.tree i := by
            by_cases q0 : i = 0
            · left; omega
            · right
              by_cases q1 : highN v = -1
              · exact .inl q1
              · right
                exact Classical.byContradiction fun q2 => hcont ⟨⟨q1, q2⟩, q0⟩
          have hmk := isI_marked ht hin hww
          rw [idxL_rng] at hmk
          generalize hwb : (decide (highN v = -1) || decide (highN v ∈ fups v.tree i)) = wb at hwi
          have hskip : (!wb && !decide ((i : Int) = 0)) = false := by
            rw [← hwb]
            rcases hww with h | h | h <;> simp [h]
          simp only [k0_mk, k1_mk, k2_mk, rpV_c0, rpV_c1, rpV_c2, rpV_c3, rpV_c4, sLen_T, Option.bind_some, sBin_lss, Int.ofNat_lt, hi, decide_true, pick_t, sBin_eql, weak_T, weak_I, weak_P, fold_Vv, h5 v.tree _ _ ht hin, asB_b, guard_or, hwb, List.getD_cons_zero, sNot_b, sBin_neq, guard_and, hskip, pick_f]
          refine (for_upto v.tree.length (fun j (b : Bool) => ⟨[rpV v, int (highN v), int i, .bool wb, .bool b, int j], [], false⟩) (fun d j b => if (b || (rngI d j).any (mkdP v i)) = isI v i then next ⟨[rpV v, int (highN v), int (i + 1 : Nat)], [], false⟩ else ok (.bool false)) (fun _ _ => True) (by omega) ?_ ?_ k false (by omega) trivial).trans ?_
          · intro b next2 _
            have hmem : ((i : Int) ∈ allIn v) ↔ isI v i = true := by rw [mem_allI]; simp [hin]
            have hdm : decide ((i : Int) ∈ allIn v) = isI v i := by rw [Bool.eq_iff_iff]; simpa using hmem
            simp only [k0_mk, k1_mk, k2_mk, k3_mk, k4_mk, k5_mk, rpV_c0, rpV_c1, rpV_c2, rpV_c3, rpV_c4, sLen_T, Option.bind_some, sBin_lss, Int.lt_irrefl, decide_false, pick_f, weak_T, weak_I, weak_P, fold_Vv, fold_rpVv, h7 v i hv, hO, hin, Bool.true_and, sBinB_neq, h8 v hv, e, h10 _ (i : Int) (show (allIn v).length ≤ 400 by omega), hdm, sc1_b, if_true, asB_b, guard_or, List.getD_cons_zero, rngI_zero, List.any_nil, Bool.or_false, sBin_add, hw]
            cases b <;> cases isI v i <;> simp
          · intro d2 j b next2 hd2 hj _ hw2 hnx2
            have hjn := isN_nat hj
            rw [rng_any]
            have hp : mkdP v i j = (hasA (nd v.tree j) 3 && (decide ((j : Int) ∈ fups v.tree i) && (!wb || (decide (highN v = -1) || decide (highN v ∈ fups v.tree j))))) := by
              simp only [mkdP, hwb, Bool.and_assoc, Bool.or_assoc]
            have hA : T k 36 [encT v.tree, int j, int 3] = ok (.bool (hasA (nd v.tree j) 3)) := by rw [h9 v.tree j 3 hv.tr, hjn, Bool.true_and]
            simp only [k0_mk, k1_mk, k2_mk, k3_mk, k4_mk, k5_mk, rpV_c0, rpV_c1, rpV_c2, rpV_c3, rpV_c4, sLen_T, Option.bind_some, sBin_lss, Int.ofNat_lt, hj, decide_true, pick_t, weak_T, weak_I, weak_P, fold_Vv, fold_rpVv, hA, h5 v.tree _ _ ht hin, h5 v.tree _ _ ht hjn, sNot_b, sBin_eql, asB_b, guard_or, guard_and, ← hp, List.getD_cons_zero, sBin_add, hw2]
            cases hq : mkdP v i j with
            | true =>
              have := hnx2 true trivial
              simpa using this
            | false =>
              have := hnx2 b trivial
              simpa using this
          · rw [Bool.false_or, ← hmk, if_pos rfl]
            exact hnx'
    · simp [h1, hs, h2, h3 v hv, hc]
  · simp [h1, hs, h2]
end Go.Proofs.YtccfkncajelbpaaGreat.K
