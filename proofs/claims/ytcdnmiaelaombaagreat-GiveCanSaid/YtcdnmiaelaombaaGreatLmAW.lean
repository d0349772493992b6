/- The statements of chapter 14, of what is told. -/
import Derived.Test.YtcdnmiaelaombaaGreatLmAU
import Derived.Test.YtcdnmiaelaombaaGreatLmAV
set_option linter.unusedVariables false
set_option linter.unusedSimpArgs false
set_option linter.unnecessarySimpa false
set_option linter.all false
namespace Go.Proofs.YtcdnmiaelaombaaGreat.K
open Go Go.Lm
set_option linter.unusedSimpArgs false
theorem sRabv : Ev fun k => ∀ (t : List Nod) (a n : Int), May t → isN t n = true → T k 19 [encT t, int a, int n] = ok (.bool (decide (a ∈ ups t n))) := (sRUps.and sIn).step fun k ⟨h1, h2⟩ t a n ht hn => by
  rw [t19]; unfold R19
  have hl := ups_len t n
  have hl2 := ht.sm.len
  simp [h1 t n ht (.inr hn), h2 (ups t n) a (show (ups t n).length ≤ 400 by omega)]
theorem xGiveTells : Ev fun k => ∀ (v : View) (n : Int), T k 3 [encV v, int n] = ok (.bool true) := by
  refine (sRsmallV.and (sLive14.and (sRchk.and (sRIs.and (sGArea.and (sGDelegate.and (sGFirst.and (sGRarea.and (sGRdelE.and sGRfirst))))))))).step fun k ⟨h1, h2, h3, h4, h5, h6, h7, h8, h9, h10⟩ v n => ?_
  rw [encV_eq, t3]; unfold R3
  by_cases hs : smallV v = true
  · have hv := smallV_sm hs
    by_cases ho : okV v n = true
    · obtain ⟨hc, hn⟩ := okV_iff.1 ho
      simp [h1, hs, h3 v hv, hc, h4, hn, h5 v n hv, h6 v n hv, h7 v n hv, gAreaV, gDelV, gFirV, ho, h8 v n hv hc hn, h9 v n hv hc hn, h10 v n hv hc hn, h2]
    · by_cases hc : chkV v = 0
      · have hn : isN v.tree n = false := by simpa [okV, hc] using ho
        simp [h1, hs, h3 v hv, hc, h4, hn, h5 v n hv, h6 v n hv, h7 v n hv, gAreaV, gDelV, gFirV, ho, h2]
      · simp [h1, hs, h3 v hv, hc, h5 v n hv, h6 v n hv, h7 v n hv, gAreaV, gDelV, gFirV, ho, h2]
  · simp [h1, hs, h2]
theorem xGiveCan : Ev fun k => ∀ (v : View), T k 4 [encV v] = ok (.bool true) := by
  refine (sRsmallV.and (sLive14.and (sRchk.and (sRIs.and (sGArea.and (sGDelegate.and (sGFirst.and (sRaIs.and (sRabv.and sRdel))))))))).at 1000 fun k hk ⟨h1, h2, h3, h4, h5, h6, h7, h8, h9, h10⟩ v => ?_
  rw [encV_eq, t4]; unfold R4
  by_cases hs : smallV v = true
  · have hv := smallV_sm hs
    have hlen := hv.tr.len
    by_cases hc : chkV v = 0
    · have ht := vmay hv hc
      simp [h1, hs, h3 v hv, hc]
      refine for_upto v.tree.length (fun i (_ : Unit) => ⟨[rpV v, int i], [], false⟩) (fun _ _ _ => ok (.bool true)) (fun _ _ => True) (by omega) ?_ ?_ k () (by omega) trivial
      · intro _ next _; simp [h2]
      · intro d n _ next _ hn' _ hw hnx
        have hnx' := hnx () trivial
        have hn : isN v.tree (n : Int) = true := isN_nat hn'
        have ho : okV v n = true := okV_iff.2 ⟨hc, hn⟩
        have g1 : gAreaV v n = arN v n := by simp [gAreaV, ho]
        have g2 : gDelV v n = delN v n := by simp [gDelV, ho]
        have g3 : gFirV v n = fiN v n := by simp [gFirV, ho]
        have hcan : ∀ x ∈ [arN v n, delN v n, fiN v n], Go.Lm.Can v n x := fun x hx => by
          simp only [List.mem_cons, List.not_mem_nil, or_false] at hx
          rcases hx with rfl | rfl | rfl
          · exact ar_can ht hn
          · exact del_can ht hn
          · exact fi_can ht hn
        have i0 : ((n : Int) < v.tree.length) := by omega
        simp [hn', h5 v n hv, h6 v n hv, h7 v n hv, g1, g2, g3]
        refine for_list [arN v n, delN v n, fiN v n] (fun i (_ : Unit) => ⟨[rpV v, int n, .sl 1 true false [int (arN v n), int (delN v n), int (fiN v n)], int i], [], false⟩) (fun _ _ _ => ok (.bool true)) (fun _ _ => True) (by simp) ?_ ?_ k () (by simp; omega) trivial
        · intro _ next' _
          have s0 : Go.Lm.sIn 3 (.int .i64 0) = some 0 := rfl
          have s1 : Go.Lm.sIn 3 (.int .i64 1) = some 1 := rfl
          by_cases ca : isA v n = true
          · have e1 : arN v n = n := by simp [arN, arF, ca]
            have e2 : ¬ (n : Int) = -1 := by omega
            simp [h8 v n hv ht hn, ca, s0, s1, e1, e2, hw]
            simpa using hnx'
          · by_cases cd : delA v.tree n = true
            · have e1 : arN v n = delN v n := by simp [arN, arF, ca, cd, delN]
              by_cases cx : delN v n = -1
              · simp [h8 v n hv ht hn, ca, s0, s1, e1, cx, h10 v.tree n ht hn, cd, hw]
                simpa using hnx'
              · simp [h8 v n hv ht hn, ca, s0, s1, e1, cx, h10 v.tree n ht hn, cd, hw]
                simpa using hnx'
            · have e1 : arN v n = -1 := by simp [arN, arF, ca, cd]
              simp [h8 v n hv ht hn, ca, s0, s1, e1, h10 v.tree n ht hn, cd, hw]
              simpa using hnx'
        · intro i _ x r next' hi hx _ _ hw' hnx2
          have hnx2' := hnx2 () trivial
          have hxm : x ∈ [arN v n, delN v n, fiN v n] := hx ▸ List.getElem_mem hi
          have hi3 : i < 3 := hi
          have hg : ([int (arN v n), int (delN v n), int (fiN v n)] : List SVal)[i]? = some (int x) := by
            have : ([arN v n, delN v n, fiN v n].map (SVal.int .i64))[i]? = some (int x) := by rw [List.getElem?_map, List.getElem?_eq_getElem hi, hx]; rfl
            simpa using this
          have s0 : Go.Lm.sIn 3 (.int .i64 0) = some 0 := rfl
          have s1 : Go.Lm.sIn 3 (.int .i64 1) = some 1 := rfl
          have hA3 : ([int (arN v n), int (delN v n), int (fiN v n)] : List SVal).length = 3 := rfl
          generalize hA : ([int (arN v n), int (delN v n), int (fiN v n)] : List SVal) = A at hg hnx2' hA3 ⊢
          have hgx : A[i]'(by omega) = int x := by rw [List.getElem?_eq_getElem (by omega)] at hg; exact Option.some.inj hg
          have hi3' : (i : Int) < 3 := by omega
          rcases hcan x hxm with rfl | ⟨q1, q2, q3⟩
          · simp [hA3, hi3, hi3', hg, hgx, s0, s1, hw']
            simpa using hnx2'
          · have hne := isN_ne q1
            simp [hA3, hi3, hi3', hg, hgx, hne, h4, q1, h8 v x hv ht q1, q2, h9 v.tree _ _ ht q1, q3, hw']
            simpa using hnx2'
    · simp [h1, hs, h3 v hv, hc, h2]
  · simp [h1, hs, h2]
theorem xGiveHosts : Ev fun k => ∀ (v : View) (n : Int), T k 7 [encV v, int n] = ok (.bool true) := by
  refine (sRsmallV.and (sLive14.and (sRchk.and (sRIs.and (sGArea.and (sGDelegate.and (sRabv.and sRdel))))))).step fun k ⟨h1, h2, h3, h4, h5, h6, h9, h10⟩ v n => ?_
  rw [encV_eq, t7]; unfold R7
  by_cases hs : smallV v = true
  · have hv := smallV_sm hs
    by_cases hc : chkV v = 0
    · by_cases hn : isN v.tree n = true
      · have ht := vmay hv hc
        have ho : okV v n = true := okV_iff.2 ⟨hc, hn⟩
        have g1 : gAreaV v n = arN v n := by simp [gAreaV, ho]
        have g2 : gDelV v n = delN v n := by simp [gDelV, ho]
        by_cases hr : (nd v.tree n).root = -1
        · simp [h1, hs, h3 v hv, hc, h4, hn, idx_nd hn, hr, h2]
        · by_cases cd : delA v.tree n = true
          · have ca : isA v n = false := by simp [isA, cd]
            have e1 : arN v n = delN v n := by simp [arN, arF, ca, cd, delN]
            by_cases cx : delN v n = -1
            · simp [h1, hs, h3 v hv, hc, h4, hn, idx_nd hn, hr, h6 v n hv, g2, h10 v.tree n ht hn, cd, cx, h5 v n hv, g1, e1, h2]
            · have hcan := (delF_can ht (v.tree.length + 3) n hn).resolve_left cx
              have ef : fromN v.tree n = (nd v.tree n).root := by unfold fromN; rw [if_neg hr]
              rw [ef] at hcan
              have q1 : isN v.tree (delN v n) = true := hcan.1
              have q3 : (nd v.tree n).root ∈ ups v.tree (delN v n) := hcan.2.2
              simp [h1, hs, h3 v hv, hc, h4, hn, idx_nd hn, hr, h6 v n hv, g2, h10 v.tree n ht hn, cd, cx, h9 v.tree _ _ ht q1, q3, h5 v n hv, g1, e1, h2]
          · have e1 : delN v n = -1 := by rw [delN_eq ht hn, if_pos ⟨hr, Bool.eq_false_iff.2 cd⟩]
            simp [h1, hs, h3 v hv, hc, h4, hn, idx_nd hn, hr, h6 v n hv, g2, h10 v.tree n ht hn, cd, e1, h2]
      · simp [h1, hs, h3 v hv, hc, h4, hn, h2]
    · simp [h1, hs, h3 v hv, hc, h2]
  · simp [h1, hs, h2]
theorem xGivePlain : Ev fun k => ∀ (v : View) (n : Int), T k 6 [encV v, int n] = ok (.bool true) := by
  refine (sRsmallV.and (sLive14.and (sRchk.and (sRIs.and (sRoList.and (sRHas.and (sRdel.and (sRaIs.and (sGDelegate.and sGFirst))))))))).at 1000 fun k hk ⟨h1, h2, h3, h4, h5, h6, h7, h8, h9, h10⟩ v n => ?_
  rw [encV_eq, t6]; unfold R6
  by_cases hs : smallV v = true
  · have hv := smallV_sm hs
    have hlen := hv.tr.len
    by_cases hc : chkV v = 0
    · by_cases hn : isN v.tree n = true
      · have ht := vmay hv hc
        have ho : okV v n = true := okV_iff.2 ⟨hc, hn⟩
        have g2 : gDelV v n = delN v n := by simp [gDelV, ho]
        have g3 : gFirV v n = fiN v n := by simp [gFirV, ho]
        by_cases hr : (nd v.tree n).root = -1
        · by_cases h22 : (nd v.tree n).tag = 2
          · simp [h1, hs, h3 v hv, hc, h4, hn, idx_nd hn, hr, h22, h2]
          · have hl := des_len ht hn
            have hpos : 1 ≤ (desL v.tree n).length := by rw [des_cons ht hn]; simp
            simp [h1, hs, h3 v hv, hc, h4, hn, idx_nd hn, hr, h22, h5 v.tree n ht hn]
            have hdis := fun x (hx : x ∈ desL v.tree n) => des_is ht hn hx
            have hfin : (∀ x ∈ desL v.tree n, hasA (nd v.tree x) 5 = false ∧ delA v.tree x = false) → delN v n = fstV (isF v) (desL v.tree n).tail ∧ fiN v n = -1 := fun h => ⟨del_plain ht hn hr h22 h, fi_none ht hn fun x hx => (h x hx).1⟩
            generalize hL : desL v.tree n = L at *
            refine for_list L (fun i (w : Int) => ⟨[int n, rpV v, encI L, int w, int i], [], false⟩) (fun _ _ _ => ok (.bool true)) (fun i w => (∀ (j : Nat) (hj : j < L.length), j < i → hasA (nd v.tree L[j]) 5 = false ∧ delA v.tree L[j] = false) ∧ (i = 0 → w = -1) ∧ (if w = -1 then fstV (isF v) (L.drop (max i 1)) else w) = fstV (isF v) L.tail) (by omega) ?_ ?_ k (-1) (by omega) ⟨fun j hj h => by omega, fun _ => rfl, by simp [List.drop_one]⟩
            · intro w next ⟨q1, _, q3⟩
              obtain ⟨d1, d2⟩ := hfin fun x hx => by
                obtain ⟨j, hj, rfl⟩ := List.mem_iff_getElem.1 hx
                exact q1 j hj hj
              have hm : max L.length 1 = L.length := by omega
              rw [hm, List.drop_length] at q3
              have hw : delN v n = w := by
                rw [d1, ← q3]
                split
                · rename_i h; rw [h]; rfl
                · rfl
              simp [h9 v n hv, g2, hw, h10 v n hv, g3, d2, h2]
            · intro i w x r next hi hx hd ⟨q1, q2, q3⟩ hw hnx
              have hxm : x ∈ L := hx ▸ List.getElem_mem hi
              have hxn := hdis x hxm
              have hlt : ((i : Int) < L.length) := by omega
              by_cases c5 : hasA (nd v.tree x) 5 = true
              · simp [hi, idx_I hi, hx, h6 v.tree x 5 hv.tr, hxn, c5, h2]
              · by_cases cd : delA v.tree x = true
                · simp [hi, idx_I hi, hx, h6 v.tree x 5 hv.tr, hxn, c5, h7 v.tree x ht hxn, cd, h2]
                · have q1' : ∀ (j : Nat) (hj : j < L.length), j < i + 1 → hasA (nd v.tree L[j]) 5 = false ∧ delA v.tree L[j] = false := fun j hj hji => by
                    by_cases e : j = i
                    · subst e; rw [hx]; exact ⟨Bool.eq_false_iff.2 c5, Bool.eq_false_iff.2 cd⟩
                    · exact q1 j hj (by omega)
                  have hm1 : max (i + 1) 1 = i + 1 := by omega
                  have hdr : L.drop (i + 1) = r := by rw [← List.drop_drop, hd]; rfl
                  by_cases c0 : 0 < i
                  · have hm0 : max i 1 = i := by omega
                    rw [hm0, hd] at q3
                    have c0' : (0 : Int) < i := by omega
                    by_cases cw : w = -1
                    · rw [if_pos cw, fstV] at q3
                      by_cases ca : isA v x = true
                      · have e1 : isF v x = x := by simp [isF, ca]
                        rw [e1, if_neg (isN_ne hxn)] at q3
                        have hnx' := hnx x ⟨q1', fun h => by omega, by rw [if_neg (isN_ne hxn)]; exact q3⟩
                        simp [hi, idx_I hi, hx, h6 v.tree x 5 hv.tr, hxn, c5, h7 v.tree x ht hxn, cd, c0, c0', cw, h8 v x hv ht hxn, ca, hw]
                        simpa using hnx'
                      · have e1 : isF v x = -1 := by simp [isF, ca]
                        rw [if_pos e1] at q3
                        have hnx' := hnx w ⟨q1', fun h => by omega, by rw [if_pos cw, hm1, hdr]; exact q3⟩
                        simp [hi, idx_I hi, hx, h6 v.tree x 5 hv.tr, hxn, c5, h7 v.tree x ht hxn, cd, c0, c0', cw, h8 v x hv ht hxn, ca, hw]
                        simpa [cw] using hnx'
                    · rw [if_neg cw] at q3
                      have hnx' := hnx w ⟨q1', fun h => by omega, by rw [if_neg cw]; exact q3⟩
                      simp [hi, idx_I hi, hx, h6 v.tree x 5 hv.tr, hxn, c5, h7 v.tree x ht hxn, cd, c0, c0', cw, hw]
                      simpa using hnx'
                  · have hi0 : i = 0 := by omega
                    subst hi0
                    have cw := q2 rfl
                    subst cw
                    have hnx' := hnx (-1) ⟨q1', fun h => by omega, by simpa using q3⟩
                    have hid : sIdx false 1 (encI L) (int 0) = some (int x) := by have := idx_I hi; rw [hx] at this; simpa using this
                    have w0 : IntKind.i64.wrap (0 + 1) = 1 := by decide
                    have w0' : IntKind.i64.wrap 1 = 1 := by decide
                    simp [hi, hid, h6 v.tree x 5 hv.tr, hxn, c5, h7 v.tree x ht hxn, cd, w0, w0']
                    simpa using hnx'
        · simp [h1, hs, h3 v hv, hc, h4, hn, idx_nd hn, hr, h2]
      · simp [h1, hs, h3 v hv, hc, h4, hn, h2]
    · simp [h1, hs, h3 v hv, hc, h2]
  · simp [h1, hs, h2]
theorem xGiveFirst : Ev fun k => ∀ (v : View) (n : Int), T k 5 [encV v, int n] = ok (.bool true) := by
  refine (sRsmallV.and (sLive14.and (sRchk.and (sRIs.and (sGFirst.and sRaIs))))).at 1000 fun k hk ⟨h1, h2, h3, h4, h5, h6⟩ v n => ?_
  rw [encV_eq, t5]; unfold R5
  by_cases hs : smallV v = true
  · have hv := smallV_sm hs
    have hlen := hv.tr.len
    by_cases hc : chkV v = 0
    · by_cases hn : isN v.tree n = true
      · have ht := vmay hv hc
        have ho : okV v n = true := okV_iff.2 ⟨hc, hn⟩
        have g3 : gFirV v n = fiN v n := by simp [gFirV, ho]
        simp [h1, hs, h3 v hv, hc, h4, hn, h5 v n hv, g3]
        refine for_upto v.tree.length (fun i (a : Nat) => ⟨[int n, rpV v, int (fiN v n), int (a : Int), int i], [], false⟩) (fun _ _ _ => ok (.bool true)) (fun i a => a ≤ 400 * i ∧ (a = 0 → ∀ j : Nat, j < i → hasA (nd v.tree j) 5 = false)) (by omega) ?_ ?_ k 0 (by omega) ⟨by omega, fun _ j h => by omega⟩
        · intro a next ⟨_, q2⟩
          by_cases ha : a = 0
          · have e := fi_none ht hn fun x hx => by
              obtain ⟨j1, j2⟩ := isN_iff.1 (des_is ht hn hx)
              have := q2 ha x.toNat (by omega)
              rwa [show ((x.toNat : Nat) : Int) = x by omega] at this
            simp [ha, e, h2]
          · have ha' : 0 < a := by omega
            simp [ha', h2]
        · intro d i a next _ hi ⟨q1, q2⟩ hw hnx
          have hin : isN v.tree (i : Int) = true := isN_nat hi
          have hal := (hv.tr.nd i).2
          simp [hi]
          refine for_list (nd v.tree i).attrs (fun j (b : Nat) => ⟨[int n, rpV v, int (fiN v n), int (b : Int), int (i : Int), int j], [], false⟩) (fun _ _ _ => ok (.bool true)) (fun j b => a ≤ b ∧ b ≤ a + j ∧ (b = 0 → ∀ y ∈ (nd v.tree i).attrs.take j, y.name ≠ 5)) (by omega) ?_ ?_ k a (by omega) ⟨Nat.le_refl _, by omega, fun _ y hy => by simp at hy⟩
          · intro b next' ⟨r1, r2, r3⟩
            rw [List.take_length] at r3
            have hnx' := hnx b ⟨by omega, fun hb j hj => by
              by_cases e : j = i
              · subst e
                rw [Bool.eq_false_iff]
                intro h
                simp only [hasA, List.any_eq_true] at h
                obtain ⟨y, y1, y2⟩ := h
                exact r3 hb y y1 (by simpa using y2)
              · exact q2 (by omega) j (by omega)⟩
            simp [idx_nd hin, hw]
            simpa using hnx'
          · intro j b y r next' hj hy _ ⟨r1, r2, r3⟩ hw' hnx2
            have ym : y ∈ (nd v.tree i).attrs := hy ▸ List.getElem_mem hj
            by_cases c5 : y.name = 5
            · have wb : IntKind.i64.wrap ((b : Int) + 1) = ((b + 1 : Nat) : Int) := wrap1 (by omega)
              have hnx2' := hnx2 (b + 1) ⟨by omega, by omega, fun h => by omega⟩
              by_cases ce : (i : Int) = n
              · subst ce
                have h5' : hasA (nd v.tree i) 5 = true := by
                  simp only [hasA, List.any_eq_true]; exact ⟨y, ym, by simp [c5]⟩
                by_cases ca : isA v i = true
                · have e := fi_head ht hn h5' ca
                  simp [idx_nd hin, hj, idx_As hj, hy, c5, h6 v i hv ht hn, ca, e, wb, hw']
                  simpa [e] using hnx2'
                · simp [idx_nd hin, hj, idx_As hj, hy, c5, h6 v i hv ht hn, ca, wb, hw']
                  simpa using hnx2'
              · simp [idx_nd hin, hj, idx_As hj, hy, c5, ce, wb, hw']
                simpa using hnx2'
            · have hnx2' := hnx2 b ⟨r1, by omega, fun hb z hz => by
                rw [List.take_succ_eq_append_getElem hj] at hz
                rcases List.mem_append.1 hz with hz | hz
                · exact r3 hb z hz
                · simp at hz; rw [hz, hy]; exact c5⟩
              simp [idx_nd hin, hj, idx_As hj, hy, c5, hw']
              simpa using hnx2'
      · simp [h1, hs, h3 v hv, hc, h4, hn, h2]
    · simp [h1, hs, h3 v hv, hc, h2]
  · simp [h1, hs, h2]
end Go.Proofs.YtcdnmiaelaombaaGreat.K
