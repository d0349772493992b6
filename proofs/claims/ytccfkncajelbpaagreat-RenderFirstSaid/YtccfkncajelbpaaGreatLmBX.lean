/- The statements of chapter 11, of what is told. -/
import Derived.Test.YtccfkncajelbpaaGreatLmAV
import Derived.Test.YtccfkncajelbpaaGreatLmBV
import Derived.Test.YtccfkncajelbpaaGreatLmBW
set_option linter.unusedVariables false
set_option linter.unusedSimpArgs false
set_option linter.unnecessarySimpa false
set_option linter.all false
namespace Go.Proofs.YtccfkncajelbpaaGreat.K
open Go Go.Lm
set_option linter.unusedSimpArgs false
theorem allRv_of {v : View} (hv : SmV v) (hc : chkV v = 0) : allRv v = allRn v := by simp [allRv, okV, hc, is0 (vmay hv hc)]
theorem xRenderTells : Ev fun k => ∀ (v : View) (n : Int), T k 3 [encV v, int n] = ok (.bool true) := by
  refine (sRsmallV.and (sLive11.and (sRchk.and (sPrIs.and (sPOwn.and (sPrAll.and (sRIs.and (sRrIs.and (sRown.and (sRrAll.and sInts)))))))))).step fun k ⟨h1, h2, h3, h4, h5, h6, h7, h8, h9, h10, h11⟩ v n => ?_
  rw [encV_eq, t3]; unfold R3
  by_cases hs : smallV v = true
  · have hv := smallV_sm hs
    by_cases hc : chkV v = 0
    · have ht := vmay hv hc
      have hl := allR_len ht; have hl2 := hv.tr.len
      by_cases hn : isN v.tree n = true
      · simp [h1, hs, h2, h3 v hv, hc, h4 v n hv, h5 v n hv, h6 v hv, allRv_of hv hc, h7, hn, h8 v n hv ht hn, h9 v n hv ht hn, h10 v hv ht, okV, h11 (allRn v) (allRn v) (by omega)]
      · simp [h1, hs, h2, h3 v hv, hc, h4 v n hv, h5 v n hv, h7, hn, okV]
    · have e : allRv v = [] := by simp [allRv, okV, hc]
      simp [h1, hs, h2, h3 v hv, hc, h4 v n hv, h5 v n hv, h6 v hv, e, okV]
  · simp [h1, hs, h2]
theorem xRenderBelow : Ev fun k => ∀ (v : View), T k 4 [encV v] = ok (.bool true) := by
  refine (sRsmallV.and (sLive11.and (sRchk.and (sPrIs.and (sPOwn.and (sPrAll.and (sRfpar.and sIn))))))).at 1000 fun k hk ⟨h1, h2, h3, h4, h5, h6, h7, h8⟩ v => ?_
  rw [encV_eq, t4]; unfold R4
  by_cases hs : smallV v = true
  · have hv := smallV_sm hs
    by_cases hc : chkV v = 0
    · have ht := vmay hv hc
      have hl := allR_len ht; have hl2 := hv.tr.len
      have hcnt := len_count (allR_nodup ht) (fun n => mem_allR (v := v) ht (n := n))
      simp only [weak_T, weak_I, weak_P, fold_Vv, fold_rpVv, h1, hs, h3 v hv, hc, Option.bind_some, sNot_b, Bool.not_true, sBin_neq, decide_true, asB_b, guard_or, Bool.or_self, List.getD_cons_zero, pick_f, h6 v hv, allRv_of hv hc]
      refine for_upto v.tree.length (fun i (c : Nat) => ⟨[rpV v, encI (allRn v), int c, int i], [], false⟩) (fun d i c => ok (.bool true)) (fun i c => c ≤ i ∧ c + cntR (fun j => isR v j) (v.tree.length - i) i = (allRn v).length) (by omega) ?_ ?_ k 0 (by omega) ⟨Nat.le_refl _, by rw [hcnt]; simp⟩
      · rintro c next ⟨_, hI⟩
        rw [Nat.sub_self, cntR, Nat.add_zero] at hI
        simp [hI, h2]
      · rintro d i c next hd hi ⟨hci, hI⟩ hw hnx
        have hin := isN_nat hi
        have hwc : IntKind.i64.wrap ((c : Int) + 1) = ((c + 1 : Nat) : Int) := wrap1 (by omega)
        rw [show v.tree.length - i = (v.tree.length - (i + 1)) + 1 by omega, cntR] at hI
        have hO : ∀ n, okV v n = isN v.tree n := fun n => by simp [okV, hc]
        have hmem : ((i : Int) ∈ allRn v) ↔ isR v i = true := by rw [mem_allR ht]; simp [hin]
        by_cases hr : isR v i = true
        · rw [if_pos hr] at hI
          have hnx' := hnx (c + 1) ⟨by omega, by omega⟩
          have hown := isR_own ht hin hr
          by_cases h0 : i = 0
          · subst h0
            simp at hin hr hown hmem
            simp [hi, h7 v.tree 0 ht hin, h4 v _ hv, hO, hin, hr, hwc, h8 _ _ (show (allRn v).length ≤ 400 by omega), hmem, h5 v _ hv, hown, hw, show IntKind.i64.wrap 1 = 1 from by decide]
            simpa using hnx'
          · obtain ⟨p1, p2⟩ := isR_par ht hin hr (by omega)
            have p3 := isN_iff.1 p1
            simp [hi, h7 v.tree i ht hin, h4 v _ hv, hO, hin, hr, hwc, h8 _ _ (show (allRn v).length ≤ 400 by omega), hmem, h5 v _ hv, hown, hw, p1, p2, show ¬ fpar v.tree i < 0 by omega, Nat.pos_of_ne_zero h0]
            simpa using hnx'
        · rw [if_neg hr] at hI
          have hnx' := hnx c ⟨by omega, by omega⟩
          rcases fpar_is ht hin with e | e
          · simp [hi, h7 v.tree i ht hin, h4 v _ hv, hO, hin, hr, e, hw]
            simpa using hnx'
          · have p3 := isN_iff.1 e
            by_cases hp : isR v (fpar v.tree i) = true
            · have hown : ownV v i = false := by
                rw [← Bool.not_eq_true]; intro ho; exact hr (isR_kid ht hin hp ho)
              simp [hi, h7 v.tree i ht hin, h4 v _ hv, hO, hin, hr, e, hp, p3.1, h5 v _ hv, hown, hw]
              simpa using hnx'
            · simp [hi, h7 v.tree i ht hin, h4 v _ hv, hO, hin, hr, e, hp, p3.1, hw]
              simpa using hnx'
    · simp [h1, hs, h2, h3 v hv, hc]
  · simp [h1, hs, h2]
theorem xRenderFirst : Ev fun k => ∀ (v : View), T k 6 [encV v] = ok (.bool true) := by
  refine (sRsmallV.and (sLive11.and (sRchk.and (sPrIs.and (sPrAll.and (sRfpar.and sPlace)))))).at 1000 fun k hk ⟨h1, h2, h3, h4, h6, h7, h8⟩ v => ?_
  rw [encV_eq, t6]; unfold R6
  by_cases hs : smallV v = true
  · have hv := smallV_sm hs
    by_cases hc : chkV v = 0
    · have ht := vmay hv hc
      have hl := allR_len ht; have hl2 := hv.tr.len
      obtain ⟨r, hr⟩ := allR_head ht
      have hpos : 0 < (allRn v).length := by rw [hr]; simp
      have e0 : sIdx false 1 (encI (allRn v)) (int 0) = some (int 0) := by
        have := idx_I hpos
        have e : (allRn v)[0] = 0 := by simp [hr]
        rw [e] at this
        exact this
      have hne : ¬ (((allRn v).length : Int) = 0) := by omega
      simp only [weak_T, weak_I, weak_P, fold_Vv, fold_rpVv, h1, hs, h3 v hv, hc, Option.bind_some, sNot_b, Bool.not_true, sBin_neq, sBin_eql, decide_true, asB_b, guard_or, Bool.or_self, List.getD_cons_zero, pick_f, h6 v hv, allRv_of hv hc, sLen_I, hne, decide_false, e0, h4 v 0 hv, okV, is0 ht, isR0 ht, Bool.and_self]
      refine loop_wf (fun i : Nat => ⟨[rpV v, encI (allRn v), int i], [], false⟩) (fun _ => ok (.bool true)) (fun i => (allRn v).length - i) (fun i => 1 ≤ i ∧ i ≤ (allRn v).length) ?_ k 1 ⟨Nat.le_refl _, hpos⟩ (by omega)
      intro i hi next hnx
      by_cases hlt : i < (allRn v).length
      · have hw : IntKind.i64.wrap ((i : Int) + 1) = ((i + 1 : Nat) : Int) := wrap1 (by omega)
        have hm := (mem_allR ht).1 (List.getElem_mem hlt)
        obtain ⟨b1, b2⟩ := allR_before ht hlt hi.1
        have hnx' := hnx (i + 1) ⟨by omega, by omega⟩ (by omega)
        simp [hlt, idx_I hlt, h7 v.tree _ ht hm.1, h8 _ _ (show (allRn v).length ≤ 400 by omega), show ¬ plF (fpar v.tree (allRn v)[i]) (allRn v) 0 < 0 by omega, show ¬ (i : Int) ≤ plF (fpar v.tree (allRn v)[i]) (allRn v) 0 by omega, hw]
        simpa using hnx'
      · simp [hlt, h2]
    · simp [h1, hs, h2, h3 v hv, hc]
  · simp [h1, hs, h2]
theorem hide_set {t : List Nod} {i : Nat} : (t.map encN).set i (.agg [int (nd t i).kind, int (nd t i).tag, int (nd t i).parent, encI (nd t i).kids, int (nd t i).host, int (nd t i).root, encAs (hideA (nd t i).attrs)]) = (hideT t i).map encN := by
  unfold hideT; rw [List.map_set]; rfl
theorem xRenderHides : Ev fun k => ∀ (v : View) (n : Int), T k 5 [encV v, int n] = ok (.bool true) := by
  refine (sRsmallV.and (sLive11.and (sRchk.and (sRIs.and (sRCopy.and (sRfAbove.and sPrIs)))))).at 1000 fun k hk ⟨h1, h2, h3, h4, h5, h6, h7⟩ v n => ?_
  rw [encV_eq, t5]; unfold R5
  by_cases hs : smallV v = true
  · have hv := smallV_sm hs
    by_cases hc : chkV v = 0
    · have ht := vmay hv hc
      have hl2 := hv.tr.len
      by_cases hn : isN v.tree n = true
      · by_cases hkd : (nd v.tree n).kind = 1
        · obtain ⟨n1, n2⟩ := isN_iff.1 hn
          obtain ⟨i0, rfl⟩ := Int.eq_ofNat_of_zero_le n1
          have hi0 : i0 < v.tree.length := by omega
          have hms : May (hideT v.tree i0) := ⟨hide_sm ht hn, hide_may ht hn hkd⟩
          have hvs : SmV (hideV v i0) := ⟨hms.sm, hv.op, hv.mo, hv.po, hv.to⟩
          have hcs := hide_chk hc ht hn hkd
          have hal := atts_len (ht.f hn).atts
          have e7 : ∀ m, isN v.tree m = true → T k 15 [encV ⟨hideT v.tree i0, v.op, v.modal, v.popups, v.top⟩, int m] = ok (.bool (!decide ((i0 : Int) ∈ fups v.tree m) && isR v m)) := fun m hm => by
            have := h7 (hideV v i0) m hvs
            rw [hide_isR ht hms hn hm, show okV (hideV v i0) m = true by rw [okV_iff]; exact ⟨hcs, by show isN (hideT v.tree i0) m = true; rw [(hide_alike hn).isN]; exact hm⟩, Bool.true_and] at this
            exact this
          have hX0 : v.tree[i0] = nd v.tree i0 := (nd_nat hi0).symm
          simp only [weak_T, weak_I, weak_P, fold_Vv, fold_rpVv, h1, hs, h3 v hv, hc, h4, hn, Option.bind_some, sNot_b, Bool.not_true, sBin_neq, decide_true, decide_false, asB_b, guard_or, Bool.or_self, List.getD_cons_zero, pick_f, idx_nd hn, encN_c0, hkd, h5 v.tree hv.tr]
          refine for_upto (nd v.tree i0).attrs.length (fun i (st : List Attr × Bool) => ⟨[int i0, rpV v, .mb [.sl 7 true false (v.tree.map encN), encI v.op, encI v.modal, encP v.popups, encI v.top], .sl 2 true false (st.1.map encA), .bool st.2, int i], [], false⟩) (fun d i st => ok (.bool true))
            (fun i st => st.1 ++ (if st.2 = true then (nd v.tree i0).attrs.drop i else hideA ((nd v.tree i0).attrs.drop i)) = hideA (nd v.tree i0).attrs ∧ st.1.length ≤ 2 * i) (by omega) ?_ ?_ k ([], false) (by omega) ⟨by simp, by simp⟩
          · rintro ⟨o, b⟩ next ⟨hI, hI2⟩
            simp only at hI hI2
            have ha := app16 (n := o.length + 1) (by omega)
            by_cases hb : b = true
            · subst hb
              have hI' : o = hideA (nd v.tree i0).attrs := by simpa using hI
              subst hI'
              simp [hi0, hX0, ha]
              rw [hide_set]
              refine for_upto v.tree.length (fun i (_ : Unit) => ⟨[int i0, rpV v, .mb [.sl 7 true false ((hideT v.tree i0).map encN), encI v.op, encI v.modal, encP v.popups, encI v.top], int i], [], false⟩) (fun _ _ _ => ok (.bool true)) (fun _ _ => True) (by omega) ?_ ?_ k () (by omega) trivial
              · intro _ next _; simp [h2]
              · intro d j _ next hd hj _ hw hnx
                have hjn := isN_nat hj
                have hnx' := hnx () trivial
                by_cases hb : (i0 : Int) ∈ fups v.tree j
                · simp [hj, h6 v.tree _ _ ht hjn, hb, e7 j hjn, hw]
                  simpa using hnx'
                · simp [hj, h6 v.tree _ _ ht hjn, hb, e7 j hjn, h7 v _ hv, okV, hc, hjn, hw]
                  simpa using hnx'
            · simp only [Bool.not_eq_true] at hb; subst hb
              have hI' : o ++ [⟨2, 0⟩] = hideA (nd v.tree i0).attrs := by simpa [hideA] using hI
              have hI2 : o.map encA ++ [SVal.agg [.int .i64 2, .int .i64 0]] = (hideA (nd v.tree i0).attrs).map encA := by rw [← hI', List.map_append]; rfl
              simp [hi0, hX0, ha]
              rw [hI2, fold_As]
              rw [hide_set]
              refine for_upto v.tree.length (fun i (_ : Unit) => ⟨[int i0, rpV v, .mb [.sl 7 true false ((hideT v.tree i0).map encN), encI v.op, encI v.modal, encP v.popups, encI v.top], int i], [], false⟩) (fun _ _ _ => ok (.bool true)) (fun _ _ => True) (by omega) ?_ ?_ k () (by omega) trivial
              · intro _ next _; simp [h2]
              · intro d j _ next hd hj _ hw hnx
                have hjn := isN_nat hj
                have hnx' := hnx () trivial
                by_cases hb : (i0 : Int) ∈ fups v.tree j
                · simp [hj, h6 v.tree _ _ ht hjn, hb, e7 j hjn, hw]
                  simpa using hnx'
                · simp [hj, h6 v.tree _ _ ht hjn, hb, e7 j hjn, h7 v _ hv, okV, hc, hjn, hw]
                  simpa using hnx'
          · rintro d i ⟨o, b⟩ next hd hi ⟨hI, hI2⟩ hw hnx
            simp only at hI hI2
            have ha := app16 (n := o.length + 1) (by omega)
            have ha2 := app16 (n := o.length + 1 + 1) (by omega)
            rw [List.drop_eq_getElem_cons hi] at hI
            cases b
            · by_cases h2 : 2 < (nd v.tree i0).attrs[i].name
              · have hnx' := hnx (o ++ [⟨2, 0⟩, (nd v.tree i0).attrs[i]], true) ⟨by rw [← hI]; simp [hideA, h2], by simp; omega⟩
                simp [hi0, hX0, idx_As hi, ha, ha2, hi, h2, hw]
                simpa [show encA ⟨2, 0⟩ = .agg [.int .i64 2, .int .i64 0] from rfl] using hnx'
              · by_cases h3 : (nd v.tree i0).attrs[i].name = 2
                · have hnx' := hnx (o ++ [(nd v.tree i0).attrs[i]], true) ⟨by rw [← hI]; simp [hideA, h2, h3], by simp; omega⟩
                  simp [hi0, hX0, idx_As hi, ha, ha2, hi, h2, h3, hw]
                  have eA : encA (nd v.tree i0).attrs[i] = .agg [.int .i64 2, .int .i64 (nd v.tree i0).attrs[i].value] := by unfold encA; rw [h3]
                  simpa [eA] using hnx'
                · have hnx' := hnx (o ++ [(nd v.tree i0).attrs[i]], false) ⟨by rw [← hI]; simp [hideA, h2, h3], by simp; omega⟩
                  simp [hi0, hX0, idx_As hi, ha, ha2, hi, h2, h3, hw]
                  simpa using hnx'
            · have hnx' := hnx (o ++ [(nd v.tree i0).attrs[i]], true) ⟨by rw [← hI]; simp, by simp; omega⟩
              simp [hi0, hX0, idx_As hi, ha, ha2, hi, hw]
              simpa using hnx'
        · simp [h1, hs, h2, h3 v hv, hc, h4, hn, idx_nd hn, hkd]
      · simp [h1, hs, h2, h3 v hv, hc, h4, hn]
    · simp [h1, hs, h2, h3 v hv, hc]
  · simp [h1, hs, h2]
end Go.Proofs.YtccfkncajelbpaaGreat.K
