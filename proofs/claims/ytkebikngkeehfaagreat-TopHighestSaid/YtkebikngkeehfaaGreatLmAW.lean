/- The statements of chapter 10, of what is told. -/
import Derived.Test.YtkebikngkeehfaaGreatLmAI
import Derived.Test.YtkebikngkeehfaaGreatLmAU
import Derived.Test.YtkebikngkeehfaaGreatLmAV
set_option linter.unusedVariables false
set_option linter.unusedSimpArgs false
set_option linter.unnecessarySimpa false
set_option linter.all false
namespace Go.Proofs.YtkebikngkeehfaaGreat.K
open Go Go.Lm
set_option linter.unusedSimpArgs false
theorem xTells : Ev fun k => ∀ (v : View), T k 3 [encV v] = ok (.bool true) := by
  refine (sRsmallV.and (sLive.and (sRchk.and (sRhst.and (sPfix.and (sRfix.and (sPchk.and (sPhst.and (sPcpV.and (sRsame.and sInts)))))))))).step fun k ⟨h1, h2, h3, h4, h5, h6, h7, h8, h9, h10, h11⟩ v => ?_
  rw [encV_eq, t3]; unfold R3
  by_cases hs : smallV v = true
  · have hB := smallV_B hs
    have hv := hB.sm (by omega)
    have hF := (B_fix hB).sm (by omega)
    have hg := gone_len hB
    by_cases hc : chkV v = 0
    · simp [h1, hs, h2, h3 v hv, hc, h4 v hv, h5 v hv, h6 v hv, h7 v hv, h8 v hv, h9 v hv, h10 v v hv, h10 _ (fixR v).1 hF, h11 _ (fixR v).2.1 (show (fixR v).2.1.length ≤ 400 by omega)]
    · simp [h1, hs, h2, h3 v hv, hc, h4 v hv, h5 v hv, h6 v hv, h7 v hv, h8 v hv, h9 v hv, h10 v v hv, h10 _ (fixR v).1 hF, h11 _ (fixR v).2.1 (show (fixR v).2.1.length ≤ 400 by omega)]
  · simp [h1, hs, h2]
theorem xOpens : Ev fun k => ∀ (v : View) (x : Shown) (m : Bool), T k 4 [encV v, encS x, .bool m] = ok (.bool true) := by
  refine (sRsmallV.and (sLive.and (sPdlgR.and (sRdlgR.and (sPpopR.and (sRpopR.and (sPclsR.and (sRclsR.and sRsame)))))))).step fun k ⟨h1, h2, h3, h4, h5, h6, h7, h8, h9⟩ v x m => ?_
  rw [encV_eq, show encS x = .agg [int x.node, int x.invoker] from rfl, t4]; unfold R4
  by_cases hs : smallV v = true
  · have hB := smallV_B hs
    have hv := hB.sm (by omega)
    have hD := (B_dlg hB x.node m).sm (by omega)
    have hP := (B_pop hB x).sm (by omega)
    have hC := (B_cls hB x.node).sm (by omega)
    simp [h1, hs, h2, h3 v x.node m hv, h4 v x.node m hv, h5 v x hv, h6 v x hv, h7 v x.node hv, h8 v x.node hv, h9 _ (dlgR v x.node m).1 hD, h9 _ (popR v x).1 hP, h9 _ (clsR v x.node).1 hC]
  · simp [h1, hs, h2]
theorem idx_last {l : List Int} {n : Int} {l' : List Int} (h : l = l' ++ [n]) (hl : l.length ≤ 400) : ∃ (i : Nat) (hi : i < l.length), IntKind.i64.wrap ((l.length : Int) - 1) = i ∧ l[i] = n := by
  subst h
  refine ⟨l'.length, by simp, ?_, by simp⟩
  rw [wrapS (by omega) (by omega)]; simp
theorem xStays : Ev fun k => ∀ (v : View) (x : Shown) (m : Bool), T k 5 [encV v, encS x, .bool m] = ok (.bool true) := by
  refine (sRsmallV.and (sLive.and (sRchk.and (sPdlgR.and (sPpopR.and (sPclsR.and (sRsame.and (sRmayV.and (sPhst.and (sRIsOpen.and sIn)))))))))).step fun k ⟨h1, h2, h3, h4, h5, h6, h7, h8, h9, h10, h11⟩ v x m => ?_
  rw [encV_eq, show encS x = .agg [int x.node, int x.invoker] from rfl, t5]; unfold R5
  by_cases hs : smallV v = true
  · have hB := smallV_B hs
    have hv := hB.sm (by omega)
    by_cases hc : chkV v = 0
    · obtain ⟨ht, hV⟩ := chkV_iff.1 hc
      have hM : May v.tree := ⟨hv.tr, ht⟩
      have hD := (B_dlg hB x.node m).sm (by omega)
      have hP := (B_pop hB x).sm (by omega)
      have hC := (B_cls hB x.node).sm (by omega)
      -- what is closed
      have closed : ∀ R : Option Res, R = ((T k 24 [encV v, int x.node]).bind fun r49 =>
         if (allOne [.v r49.r.c0.c0, .v r49.r.c0.c1, .v r49.r.c0.c2, .v r49.r.c0.c3, .v r49.r.c0.c4]) = true then
         ((sBin .eql r49.r.c1 (.int .i64 0)).bind fun r50 =>
          guardX r50 true
          ((T k 26 [(.agg [(weak r49.r.c0.c0), (weak r49.r.c0.c1), (weak r49.r.c0.c2), (weak r49.r.c0.c3), (weak r49.r.c0.c4)])]).bind fun r51 =>
           (sNot r51.r).bind fun r52 =>
           guardX r52 false
           ((T k 27 [(.agg [(weak r49.r.c0.c0), (weak r49.r.c0.c1), (weak r49.r.c0.c2), (weak r49.r.c0.c3), (weak r49.r.c0.c4)]), int x.node]).bind fun r53 =>
            guardX r53.r false
            ((T k 28 [(weak r49.r.c0.c4), int x.node]).bind fun r54 =>
             (asB r54.r).bind fun b55 =>
             some [b55])
            (some [true])
            (none))
           (some [true])
           (none))
          (some [false])
          (none)).bind fun vs56 =>
         pickC (.bool (vs56.getD 0 false))
         (some { r := (.bool false) })
         ((T k 10 []).bind fun r57 =>
          some { r := r57.r })
         else none) → R = ok (.bool true) := fun R e => by
        rw [e, h6 v x.node hv]
        by_cases h0 : (clsR v x.node).2 = 0
        · obtain ⟨a1, a2, a3, a4, a5⟩ := clsR_may h0
          have hMc : May (clsR v x.node).1.tree := ⟨hC.tr, by rw [a4]; exact a5⟩
          have ht4 := hC.to
          simp [h0, h8 _ hC hMc, mayV_iff.2 a1, h10 _ x.node hC, a2, h11 (clsR v x.node).1.top x.node (by omega), a3, h2]
        · simp [h0, h2]
      have popped : ∀ R : Option Res, R = ((T k 22 [encV v, encS x]).bind fun r28 =>
      if (allOne [.v r28.r.c0.c0, .v r28.r.c0.c1, .v r28.r.c0.c2, .v r28.r.c0.c3, .v r28.r.c0.c4]) = true then
      (sBin .eql r28.r.c1 (.int .i64 0)).bind fun r29 =>
      pickC r29
      (((T k 26 [(.agg [(weak r28.r.c0.c0), (weak r28.r.c0.c1), (weak r28.r.c0.c2), (weak r28.r.c0.c3), (weak r28.r.c0.c4)])]).bind fun r30 =>
        (sNot r30.r).bind fun r31 =>
        guardX r31 false
        ((sLen r28.r.c0.c4).bind fun r32 =>
         (sBin .eql r32 (.int .i64 0)).bind fun r33 =>
         guardX r33 false
         ((sLen r28.r.c0.c4).bind fun r34 =>
          (sBin .sub r34 (.int .i64 1)).bind fun r35 =>
          (sIdx false 1 r28.r.c0.c4 r35).bind fun e36 =>
          (sBin .neq e36 (int x.node)).bind fun r37 =>
          guardX r37 false
          ((T k 16 [(.agg [(weak r28.r.c0.c0), (weak r28.r.c0.c1), (weak r28.r.c0.c2), (weak r28.r.c0.c3), (weak r28.r.c0.c4)])]).bind fun r38 =>
           (T k 16 [encV v]).bind fun r39 =>
           (sBin .neq r38.r r39.r).bind fun r40 =>
           (asB r40).bind fun b41 =>
           some [b41])
          (some [true])
          (none))
         (some [true])
         (none))
        (some [true])
        (none)).bind fun vs42 =>
       pickC (.bool (vs42.getD 0 false))
       (some { r := (.bool false) })
       ((T k 24 [(.agg [(weak r28.r.c0.c0), (weak r28.r.c0.c1), (weak r28.r.c0.c2), (weak r28.r.c0.c3), (weak r28.r.c0.c4)]), int x.node]).bind fun r43 =>
        if (allOne [.v r43.r.c0.c0, .v r43.r.c0.c1, .v r43.r.c0.c2, .v r43.r.c0.c3, .v r43.r.c0.c4]) = true then
        ((sBin .neq r43.r.c1 (.int .i64 0)).bind fun r44 =>
         guardX r44 false
         ((T k 17 [(.agg [(weak r43.r.c0.c0), (weak r43.r.c0.c1), (weak r43.r.c0.c2), (weak r43.r.c0.c3), (weak r43.r.c0.c4)]), encV v]).bind fun r45 =>
          (sNot r45.r).bind fun r46 =>
          (asB r46).bind fun b47 =>
          some [b47])
         (some [true])
         (none)).bind fun vs48 =>
        pickC (.bool (vs48.getD 0 false))
        (some { r := (.bool false) })
        (ok (.bool true))
        else none))
      (ok (.bool true)) else none) → R = ok (.bool true) := fun R e => by
        rw [e, h5 v x hv]
        by_cases h0 : (popR v x).2 = 0
        · have a1 := popR_may h0
          have a2 := popR_close h0
          obtain ⟨b1, b2, b3, b4, b5⟩ := popR_ok h0
          have hMc : May (popR v x).1.tree := ⟨hP.tr, by rw [b5]; exact ht⟩
          have hcc : chkV (popR v x).1 = 0 := chkV_iff.2 ⟨hMc.may, a1⟩
          have etop : (popR v x).1.top = v.top ++ [x.node] := by rw [b5]
          have ht4 := hP.to
          obtain ⟨i, hi, e1, e2⟩ := idx_last etop (by omega)
          have hpos : ¬ ((popR v x).1.top.length : Int) = 0 := by omega
          have hnm : x.node ∉ v.modal := fun hm => b4 (mem_open.2 (.inr (.inl hm)))
          have ehi : highF (popR v x).1.modal (popR v x).1.top (popR v x).1.top.length = highF v.modal v.top v.top.length := by
            rw [b5]; simp only [List.length_append, List.length_singleton]
            rw [highF_last, if_neg hnm]
          simp only [Option.bind_some, c0_tup, c1_tup, c0_V, c1_V, c2_V, c3_V, c4_V, weak_T, weak_I, weak_P, fold_Vv, h0, sBin_eql, decide_true, pick_t, h8 _ hP hMc, mayV_iff.2 a1, sNot_b, Bool.not_true, guard_ff, sLen_I, hpos, decide_false, sBin_sub, e1, idx_I hi, e2, sBin_neq, h9 _ hP, hcc, if_true, ehi, h9 _ hv, hc, h6 _ _ hP, a2, h7 _ _ hv]
          simp
        · simp [h0]
      have hcl := closed _ rfl
      have hpo := popped _ rfl
      simp only [weak_T, weak_I, weak_P, fold_Vv, fold_S, h1, hs, h3 v hv, hc, Option.bind_some, sNot_b, Bool.not_true, sBin_neq, decide_true, asB_b, guard_or, Bool.or_self, List.getD_cons_zero, pick_f, hcl, hpo, h4 v x.node m hv]
      by_cases h0 : (dlgR v x.node m).2 = 0
      · have a1 := dlgR_may h0
        have a2 := dlgR_close h0
        obtain ⟨b1, b2, b3, b4, b5⟩ := dlgR_ok h0
        have htr : (dlgR v x.node m).1.tree = v.tree := by rw [b5]; cases m <;> rfl
        have hMc : May (dlgR v x.node m).1.tree := ⟨hD.tr, by rw [htr]; exact ht⟩
        have hcc : chkV (dlgR v x.node m).1 = 0 := chkV_iff.2 ⟨hMc.may, a1⟩
        have ht4 := hD.to
        cases m
        · simp only [Option.bind_some, c0_tup, c1_tup, c0_V, c1_V, c2_V, c3_V, c4_V, weak_T, weak_I, weak_P, fold_Vv, h0, sBin_eql, decide_true, pick_t, h8 _ hD hMc, mayV_iff.2 a1, sNot_b, Bool.not_true, guard_ff, guard_ft, h6 _ _ hD, a2, h7 _ _ hv]
          simp
        · have etop : (dlgR v x.node true).1.top = v.top ++ [x.node] := by rw [b5]; rfl
          obtain ⟨i, hi, e1, e2⟩ := idx_last etop (by omega)
          have hpos : ¬ ((dlgR v x.node true).1.top.length : Int) = 0 := by omega
          have ehi : highF (dlgR v x.node true).1.modal (dlgR v x.node true).1.top (dlgR v x.node true).1.top.length = x.node := by
            rw [b5]; simp only [if_true, List.length_append, List.length_singleton]
            rw [highF_last, if_pos (by simp)]
          simp only [Option.bind_some, c0_tup, c1_tup, c0_V, c1_V, c2_V, c3_V, c4_V, weak_T, weak_I, weak_P, fold_Vv, h0, sBin_eql, decide_true, pick_t, h8 _ hD hMc, mayV_iff.2 a1, sNot_b, Bool.not_true, guard_ff, guard_tt, sLen_I, hpos, decide_false, sBin_sub, e1, idx_I hi, e2, sBin_neq, h9 _ hD, hcc, if_true, ehi, h6 _ _ hD, a2, h7 _ _ hv]
          simp
      · simp [h0]
    · simp [h1, hs, h2, h3 v hv, hc]
  · simp [h1, hs, h2]
theorem xHighest : Ev fun k => ∀ (v : View), T k 7 [encV v] = ok (.bool true) := by
  refine (sRsmallV.and (sLive.and (sRchk.and (sPhst.and (sPlace.and sIn))))).at 1000 fun k hk ⟨h1, h2, h3, h4, h5, h6⟩ v => ?_
  rw [encV_eq, t7]; unfold R7
  by_cases hs : smallV v = true
  · have hv := smallV_sm hs
    have l2 := hv.mo; have l4 := hv.to
    by_cases hc : chkV v = 0
    · obtain ⟨ht, hV⟩ := chkV_iff.1 hc
      by_cases hn : highF v.modal v.top v.top.length = -1
      · have hl0 : v.modal.length = 0 := by rw [high_none hV hn]; rfl
        simp [h1, hs, h2, h3 v hv, hc, h4 v hv, hn, hl0]
      · rcases highF_spec v.modal v.top v.top.length (Nat.le_refl _) with ⟨e, _⟩ | ⟨j, hj, e, hm, hq⟩
        · exact absurd e hn
        · have hnd : v.top.Nodup := hV.top.nodup_iff.1 (List.nodup_append.1 hV.once).2.1
          have hg : v.top.getD j 0 = v.top[j] := by simp [hj]
          have hpl := (once_place v.top 0).2 hnd j hj
          rw [Nat.zero_add] at hpl
          rw [hg] at e hm
          have hw : IntKind.i64.wrap ((j : Int) + 1) = ((j + 1 : Nat) : Int) := wrap1 (by omega)
          simp [h1, hs, h2, h3 v hv, hc, h4 v hv, e, hpl, h5 v.top _ (by omega), h6 v.modal _ (by omega), hm, show ¬ (j : Int) < 0 by omega, hw]
          rw [e] at hn
          rw [if_neg hn]
          refine loop_wf (fun i : Nat => ⟨[rpV v, int i], [], false⟩) (fun _ => ok (.bool true)) (fun i => v.top.length - i) (fun i => j < i ∧ i ≤ v.top.length) ?_ k (j + 1) ⟨by omega, by omega⟩ (by omega)
          intro i hi next hnx
          by_cases hlt : i < v.top.length
          · have hw2 : IntKind.i64.wrap ((i : Int) + 1) = ((i + 1 : Nat) : Int) := wrap1 (by omega)
            have hno := hq i hi.1 hlt
            have hg2 : v.top.getD i 0 = v.top[i] := by simp [hlt]
            rw [hg2] at hno
            have hnx' := hnx (i + 1) ⟨by omega, by omega⟩ (by omega)
            simp [hlt, idx_I hlt, h6 v.modal _ (show v.modal.length ≤ 400 by omega), hno, hw2]
            simpa using hnx'
          · simp [hlt, h2]
    · simp [h1, hs, h2, h3 v hv, hc]
  · simp [h1, hs, h2]
theorem xFix : Ev fun k => ∀ (v : View), T k 6 [encV v] = ok (.bool true) := by
  refine (sRsmallV.and (sLive.and (sRMay.and (sNodes.and (sOnce.and (sIn.and (sPfix.and (sRmayV.and sRsame)))))))).at 1000 fun k hk ⟨h1, h2, h3, h4, h5, h6, h7, h8, h9⟩ v => ?_
  rw [encV_eq, t6]; unfold R6
  by_cases hs : smallV v = true
  · have hB := smallV_B hs
    have hv := hB.sm (by omega)
    by_cases hm : mayT v.tree = true
    · have l1 := hv.op; have l2 := hv.mo; have l3 := hv.po; have l4 := hv.to
      have hol := open_len hv
      have hhl := high_len hv
      have hM : May v.tree := ⟨hv.tr, hm⟩
      have a1 := app8 (n := v.op.length) (by omega)
      have a2 := app8 (n := v.op.length + v.modal.length) (by omega)
      have a3 := app8 (n := v.op.length + v.modal.length + (nodesP v.popups).length) (by simp [nodesP]; omega)
      have e0 : SVal.sl 1 false false ((v.op.map (SVal.int .i64) ++ v.modal.map (SVal.int .i64)) ++ (nodesP v.popups).map (SVal.int .i64)) = encI (openL v) := by simp [encI, openL, highL]
      have hdr : (openL v).drop v.op.length = highL v := by simp [openL]
      have e1 := sSl_I (openL v) v.op.length (by simp [openL])
      rw [hdr] at e1
      simp only [weak_T, weak_I, weak_P, fold_Vv, fold_rpVv, h1, hs, h3 v.tree hv.tr, hm, Option.bind_some, sNot_b, Bool.not_true, asB_b, guard_or, Bool.or_self, List.getD_cons_zero, pick_f, elems_I, List.length_map, if_pos a1, List.length_append, if_pos a2, h4 v.popups (by omega), if_pos a3, e0, sLen_I, e1, h5 _ (show (openL v).length ≤ 400 by omega), h5 _ (show v.top.length ≤ 400 by omega), sBin_neq]
      by_cases c1 : onceI (openL v) = true
      · by_cases c2 : onceI v.top = true
        · by_cases c3 : v.top.length = (highL v).length
          · have c3' : ((v.top.length : Int) = (highL v).length) := by omega
            simp only [c1, c2, c3', Bool.not_true, decide_true, Bool.or_self, pick_f]
            refine for_list (highL v) (fun i (_ : Unit) => ⟨[rpV v, encI (openL v), encI (highL v), int i], [], false⟩) (fun _ _ _ => ok (.bool true)) (fun i _ => ∀ j (hj : j < (highL v).length), j < i → (highL v)[j] ∈ v.top) (by omega) ?_ ?_ k () (by omega) (fun j _ h => by omega)
            · intro _ next hI
              have hall : ∀ n ∈ highL v, n ∈ v.top := fun n hn => by
                obtain ⟨j, hj, e⟩ := List.getElem_of_mem hn
                exact e ▸ hI j hj hj
              have hf : fixR v = (fixV v, goneV v, 0) := by simp [fixR, hm]
              have hF := (B_fix hB).sm (by omega)
              have hgl := gone_len hB
              rw [hf] at hF hgl
              have hok := fixV_may (onceI_iff.1 c1) (onceI_iff.1 c2) c3 hall
              have hf2 : fixR (fixV v) = (fixV v, [], 0) := by
                show (if mayT v.tree = true then (fixV (fixV v), goneV (fixV v), (0 : Int)) else (vNil, [], 1)) = _
                rw [if_pos hm, fixV_twice, gone_twice]
              have hM2 : May (fixV v).tree := hM
              have hcount := gone_count v
              have b1 := hF.op; have b2 := hF.mo; have b3 := hF.po
              simp only at b1 b2 b3 hgl
              have w1 : IntKind.i64.wrap (((goneV v).length : Int) + (fixV v).op.length) = ((goneV v).length + (fixV v).op.length : Nat) := by rw [wrapS (by omega) (by omega)]; omega
              have w2 : IntKind.i64.wrap ((((goneV v).length + (fixV v).op.length : Nat) : Int) + (fixV v).modal.length) = ((goneV v).length + (fixV v).op.length + (fixV v).modal.length : Nat) := by rw [wrapS (by omega) (by omega)]; omega
              have w3 : IntKind.i64.wrap ((((goneV v).length + (fixV v).op.length + (fixV v).modal.length : Nat) : Int) + (fixV v).popups.length) = ((openL v).length : Nat) := by rw [wrapS (by omega) (by omega)]; omega
              simp only [k0_mk, k1_mk, k2_mk, k3_mk, weak_T, weak_I, weak_P, rpV_c0, rpV_c1, rpV_c2, rpV_c3, rpV_c4, fold_Vv, sLen_I, sLen_P, Option.bind_some, sBin_lss, Int.lt_irrefl, decide_false, pick_f, h7 v hv, hf, c0_tup, c1_tup, c2_tup, c0_V, c1_V, c2_V, c3_V, c4_V, one_T, one_I, one_P, allOne_cons, allOne_one, Bool.and_self, if_true, h7 _ hF, hf2, sBin_eql, decide_true, guard_tt, h8 _ hF hM2, mayV_iff.2 hok, h9 _ _ hF, sBin_add, w1, w2, w3, List.length_nil, h2, asB_b]
              simp
            · intro i _ x r next hi hx _ hI hw hnx
              by_cases hmm : x ∈ v.top
              · have hnx' := hnx () (fun j hj hji => by
                  by_cases e : j = i
                  · subst e; rw [hx]; exact hmm
                  · exact hI j hj (by omega))
                simp [hi, idx_I hi, hx, hw, h6 v.top _ (show v.top.length ≤ 400 by omega), hmm]
                simpa using hnx'
              · simp [hi, idx_I hi, hx, hw, h6 v.top _ (show v.top.length ≤ 400 by omega), hmm, h2]
          · have c3' : ¬ ((v.top.length : Int) = (highL v).length) := by omega
            simp [c1, c2, c3', h2]
        · simp [c1, c2, h2]
      · simp [c1, h2]
    · simp [h1, hs, h2, h3 v.tree hv.tr, hm]
  · simp [h1, hs, h2]
theorem xOrder : Ev fun k => ∀ (t : List Nod) (l : List Shown), T k 8 [encT t, encP l] = ok (.bool true) := by
  refine (sRSmall.and (sLive.and (sRMay.and (sPdlgR.and (sPpopR.and (sInts.and sPchk)))))).at 1000 fun k hk ⟨h1, h2, h3, h4, h5, h6, h7⟩ t l => ?_
  rw [t8]; unfold R8
  by_cases hs : smallT t = true
  · have ht := smallT_iff.1 hs
    by_cases hl1 : t.length ≤ 16
    · by_cases hl2 : l.length ≤ 20
      · by_cases hm : mayT t = true
        · have g1 : ¬ (16 : Int) < t.length := by omega
          have g2 : ¬ (20 : Int) < l.length := by omega
          simp only [weak_T, weak_P, h1, hs, Option.bind_some, sNot_b, Bool.not_true, sLen_T, sLen_P, sBin_gtr, g1, g2, decide_false, h3 t ht, hm, asB_b, guard_or, Bool.or_self, List.getD_cons_zero, pick_f, one_T, allOne_cons, allOne_one, oneS_sl, Bool.and_true, Nat.reduceLeDiff, true_and, if_true]
          refine for_list l (fun i (v : View) => ⟨[encP l, .mb [encT v.tree, encI v.op, encI v.modal, encP v.popups, encI v.top], .sl 1 true false (v.top.map (SVal.int .i64)), int i], [], false⟩) (fun _ _ _ => ok (.bool true)) (fun i v => SmB i v ∧ chkV v = 0) (by omega) ?_ ?_ k ⟨t, [], [], [], []⟩ (by omega) ⟨⟨ht, by simp, by simp, by simp, by simp⟩, ?_⟩
          · rintro v next ⟨hB, hc⟩
            have hv := hB.sm (by omega)
            have h4' := hv.to
            simp [h6 v.top v.top (by omega), h7 v hv, hc, h2]
          · rintro i v x r next hi hx _ ⟨hB, hc⟩ hw hnx
            have hv := hB.sm (by omega)
            have hto := hv.to
            have hrem : sBin .rem (int (i : Int)) (int 2) = some (int ((i : Int).tmod 2)) := rfl
            have hD := (B_dlg hB x.node (decide ((i : Int).tmod 2 = 0)))
            have a1 := app8 (n := v.top.length + 1) (by omega)
            by_cases h0 : (dlgR v x.node (decide ((i : Int).tmod 2 = 0))).2 = 0
            · have hmay := dlgR_may h0
              obtain ⟨_, _, _, _, b5⟩ := dlgR_ok h0
              have htr : (dlgR v x.node (decide ((i : Int).tmod 2 = 0))).1.tree = v.tree := by rw [b5]; split <;> rfl
              have hcc : chkV (dlgR v x.node (decide ((i : Int).tmod 2 = 0))).1 = 0 := chkV_iff.2 ⟨by rw [htr]; exact (chkV_iff.1 hc).1, hmay⟩
              have hnx' := hnx _ ⟨hD, hcc⟩
              have e4 := h4 v x.node (decide ((i : Int).tmod 2 = 0)) hv
              by_cases hr : (i : Int).tmod 2 = 0
              · simp only [hr, decide_true] at h0 b5 hnx' e4
                have etop : (dlgR v x.node true).1.top = v.top ++ [x.node] := by rw [b5]; rfl
                rw [etop] at hnx'
                simp [hi, idx_P hi, hx, hrem, hr, e4, h0, a1, hw, etop]
                simpa using hnx'
              · simp only [hr, decide_false] at h0 b5 hnx' e4
                have etop : (dlgR v x.node false).1.top = v.top := by rw [b5]; rfl
                rw [etop] at hnx'
                simp [hi, idx_P hi, hx, hrem, hr, e4, h0, a1, hw, etop]
                simpa using hnx'
            · have e4 := h4 v x.node (decide ((i : Int).tmod 2 = 0)) hv
              have e5 := h5 v x hv
              have hP := B_pop hB x
              by_cases h9 : (popR v x).2 = 0
              · have hmay := popR_may h9
                obtain ⟨_, _, _, _, b5⟩ := popR_ok h9
                have htr : (popR v x).1.tree = v.tree := by rw [b5]
                have etop : (popR v x).1.top = v.top ++ [x.node] := by rw [b5]
                have hcc : chkV (popR v x).1 = 0 := chkV_iff.2 ⟨by rw [htr]; exact (chkV_iff.1 hc).1, hmay⟩
                have hnx' := hnx _ ⟨hP, hcc⟩
                rw [etop] at hnx'
                simp [hi, idx_P hi, hx, hrem, e4, h0, e5, h9, a1, hw, etop]
                simpa using hnx'
              · have hnx' := hnx v ⟨hB.up (Nat.le_succ _), hc⟩
                simp [hi, idx_P hi, hx, hrem, e4, h0, e5, h9, a1, hw]
                simpa using hnx'
          · exact chkV_iff.2 ⟨hm, by simp, by simp, by simp, by simp [openL, highL, nodesP], by simp [highL, nodesP]⟩
        · have g1 : ¬ (16 : Int) < t.length := by omega
          have g2 : ¬ (20 : Int) < l.length := by omega
          simp [h1, hs, h2, g1, g2, h3 t ht, hm]
      · have g1 : ¬ (16 : Int) < t.length := by omega
        have g2 : (20 : Int) < l.length := by omega
        simp [h1, hs, h2, g1, g2, h3 t ht]
    · have g1 : (16 : Int) < t.length := by omega
      simp [h1, hs, h2, g1, h3 t ht]
  · simp [h1, hs, h2]
end Go.Proofs.YtkebikngkeehfaaGreat.K
