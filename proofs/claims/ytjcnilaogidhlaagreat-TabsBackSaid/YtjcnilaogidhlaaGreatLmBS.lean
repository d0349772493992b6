/- The statements of chapter 17, of what is told. -/
import Derived.Test.YtjcnilaogidhlaaGreatLmBP
import Derived.Test.YtjcnilaogidhlaaGreatLmBQ
import Derived.Test.YtjcnilaogidhlaaGreatLmBR
set_option linter.unusedVariables false
set_option linter.unusedSimpArgs false
set_option linter.unnecessarySimpa false
set_option linter.all false
namespace Go.Proofs.YtjcnilaogidhlaaGreat.K
open Go Go.Lm
set_option linter.unusedSimpArgs false
theorem xTabsTell : Ev fun k => ∀ (v : View) (n : Int), T k 8 [encV v, int n] = ok (.bool true) := by
  refine (sRsmallV.and (sLive17.and (sRchk.and (sRIs.and (sTList.and (sTNext.and (sRTList.and (sRTNext.and sInts)))))))).step fun k ⟨h1, h2, h3, h4, h5, h6, h7, h8, h9⟩ v n => ?_
  rw [encV_eq, t8]; unfold R8
  by_cases hs : smallV v = true
  · have hv := smallV_sm hs
    by_cases hl : (12 : Int) < v.tree.length
    · simp [h1, hs, hl, h2]
    · have hl' : v.tree.length ≤ 19 := by omega
      by_cases hc : chkV v = 0
      · have ht := vmay hv hc
        have hll := scL_len ht (popsOk ht (chkV_iff.1 hc).2) (pops_nodup (chkV_iff.1 hc).2)
        by_cases hn : isN v.tree n = true
        · have ho : okV v n = true := okV_iff.2 ⟨hc, hn⟩
          simp [h1, hs, hl, h3 v hv, hc, h4, hn, h5 v hv hl', h6 v n _ hv hl', listV, nextV, ho, h7 v hv hc, h8 v n _ hv hc, h9 (scL v) _ (show (scL v).length ≤ 400 by omega), h2]
        · have ho : ¬ okV v n = true := fun h => hn (okV_iff.1 h).2
          simp [h1, hs, hl, h3 v hv, hc, h4, hn, h5 v hv hl', h6 v n _ hv hl', listV, nextV, ho, h2]
      · have ho : ¬ okV v n = true := fun h => hc (okV_iff.1 h).1
        simp [h1, hs, hl, h3 v hv, hc, h5 v hv hl', h6 v n _ hv hl', listV, nextV, ho, h2]
  · simp [h1, hs, h2]
theorem xTabsRound : Ev fun k => ∀ (v : View), T k 9 [encV v] = ok (.bool true) := by
  refine (sRsmallV.and (sLive17.and (sRchk.and (sRIs.and (sTList.and (sTNext.and (sRaTabs.and sPlace))))))).at 1000 fun k hk ⟨h1, h2, h3, h4, h5, h6, h7, h8⟩ v => ?_
  rw [encV_eq, t9]; unfold R9
  by_cases hs : smallV v = true
  · have hv := smallV_sm hs
    by_cases hl : (12 : Int) < v.tree.length
    · simp [h1, hs, hl, h2]
    · have hl' : v.tree.length ≤ 19 := by omega
      by_cases hc : chkV v = 0
      · have ht := vmay hv hc
        have hp := popsOk ht (chkV_iff.1 hc).2
        have hnp := pops_nodup (chkV_iff.1 hc).2
        have hll := scL_len ht hp hnp
        have hLn := scL_nodup ht hp hnp
        have h0 : (0 : Int) ∉ scL v := fun h => (scL_mem ht hp h).2.2.1 rfl
        have ok0 : okV v 0 = true := okV_iff.2 ⟨hc, is0 ht⟩
        have okm : ∀ i, okV v ((scL v).getD i 0) = true := fun i => by
          by_cases hi : i < (scL v).length
          · have e : (scL v).getD i 0 = (scL v)[i] := by simp [hi]
            rw [e]; exact okV_iff.2 ⟨hc, (scL_mem ht hp (List.getElem_mem hi)).1⟩
          · have e : (scL v).getD i 0 = 0 := by rw [List.getD_eq_getElem?_getD, List.getElem?_eq_none (by omega)]; rfl
            rw [e]; exact ok0
        have okf : ∀ i, okV v (if i = 0 then 0 else (scL v).getD (i - 1) 0) = true := fun i => by
          split
          · exact ok0
          · exact okm _
        have nf : ∀ i, i ≤ (scL v).length → nextV v (if i = 0 then 0 else (scL v).getD (i - 1) 0) false = (scL v).getD i 0 := fun i hi => by
          rw [nextV, if_pos (okf i), rnd_f hLn h0 hi]
        have nb : ∀ i, i ≤ (scL v).length → nextV v ((scL v).getD i 0) true = if i = 0 then 0 else (scL v).getD (i - 1) 0 := fun i hi => by
          rw [nextV, if_pos (okm i), rnd_b hLn h0 hi]
        have hL : listV v = scL v := by simp [listV, hc]
        have hmem : ∀ x ∈ scL v, isN v.tree x = true ∧ tabA v x = true := fun x hx => ⟨(scL_mem ht hp hx).1, (scL_mem ht hp hx).2.1⟩
        generalize scL v = L at *
        simp [h1, hs, hl, h3 v hv, hc, h5 v hv hl', hL]
        refine for_list L (fun i (a : Int) => ⟨[rpV v, encI L, int a, int i], [], false⟩) (fun _ _ _ => ok (.bool true)) (fun i a => a = if i = 0 then 0 else L.getD (i - 1) 0) (by omega) ?_ ?_ k 0 (by omega) rfl
        · intro a next ha
          have hnl := nf L.length (Nat.le_refl _)
          rw [← ha] at hnl
          have e : L.getD L.length 0 = 0 := by rw [List.getD_eq_getElem?_getD, List.getElem?_eq_none (Nat.le_refl _)]; rfl
          rw [e] at hnl
          have w : IntKind.i64.wrap ((L.length : Int) - 1) = (L.length : Int) - 1 := wrapS (by omega) (by omega)
          simp [h6 v a false hv hl', hnl, w]
          refine Eq.trans (congrArg (loopN _ k) (a₂ := ⟨[rpV v, encI L, int (L.getD L.length 0), int ((L.length : Int) - 1)], [], false⟩) ?_) (loop_wf (fun i : Nat => ⟨[rpV v, encI L, int (L.getD i 0), int ((i : Int) - 1)], [], false⟩) (fun _ => ok (.bool true)) (fun i => i) (fun i => i ≤ L.length) ?_ k L.length (Nat.le_refl _) (by omega))
          · rw [e]
          · intro i hi nx hnx
            have hb := nb i hi
            cases i with
            | zero =>
              rw [if_pos rfl] at hb
              generalize L.getD 0 0 = q at *
              simp [h6 v q true hv hl', hb, h2]
            | succ i =>
              rw [if_neg (by omega)] at hb
              have hil : i < L.length := by omega
              have eg : L.getD (i + 1 - 1) 0 = L[i] := by simp [hil]
              rw [eg] at hb
              have hnx' := hnx i (by omega) (by omega)
              have eg2 : L.getD i 0 = L[i] := by simp [hil]
              rw [eg2] at hnx'
              have hw : IntKind.i64.wrap ((i : Int) - 1) = (i : Int) - 1 := wrapS (by omega) (by omega)
              have ei : ((i + 1 : Nat) : Int) - 1 = i := by omega
              simp only [ei]
              generalize L.getD (i + 1) 0 = q at *
              simp [h6 v q true hv hl', hb, idx_I hil, hw]
              simpa using hnx'
        · intro i a x r next hi hx _ ha hw hnx
          have hxm : x ∈ L := hx ▸ List.getElem_mem hi
          obtain ⟨x1, x2⟩ := hmem x hxm
          have hpl := plF_at hLn hi
          rw [hx] at hpl
          have hnx' := hnx x (by simp [hi, hx])
          have hn := nf i (by omega)
          rw [← ha] at hn
          have e : L.getD i 0 = x := by simp [hi, hx]
          rw [e] at hn
          simp [hi, idx_I hi, hx, h8 L x (show L.length ≤ 400 by omega), hpl, h4, x1, h7 v x hv ht x1, x2, h6 v a false hv hl', hn, hw]
          simpa using hnx'
      · simp [h1, hs, hl, h3 v hv, hc, h2]
  · simp [h1, hs, h2]
theorem xTabsBack : Ev fun k => ∀ (v : View) (n : Int) (b : Bool), T k 10 [encV v, int n, .bool b] = ok (.bool true) := by
  refine (sRsmallV.and (sLive17.and (sRchk.and (sTList.and (sTNext.and sIn))))).step fun k ⟨h1, h2, h3, h4, h5, h6⟩ v n b => ?_
  rw [encV_eq, t10]; unfold R10
  by_cases hs : smallV v = true
  · have hv := smallV_sm hs
    by_cases hl : (12 : Int) < v.tree.length
    · simp [h1, hs, hl, h2]
    · have hl' : v.tree.length ≤ 19 := by omega
      by_cases hc : chkV v = 0
      · have ht := vmay hv hc
        have hp := popsOk ht (chkV_iff.1 hc).2
        have hnp := pops_nodup (chkV_iff.1 hc).2
        have hll := scL_len ht hp hnp
        have hLn := scL_nodup ht hp hnp
        have h0 : (0 : Int) ∉ scL v := fun h => (scL_mem ht hp h).2.2.1 rfl
        have hL : listV v = scL v := by simp [listV, hc]
        by_cases hm : n ∈ scL v
        · have ho : okV v n = true := okV_iff.2 ⟨hc, (scL_mem ht hp hm).1⟩
          have e1 : nextV v n b = nextP v n b := by simp [nextV, ho]
          by_cases hz : nextP v n b = 0
          · simp [h1, hs, hl, h3 v hv, hc, h4 v hv hl', hL, h5 v n b hv hl', e1, h6 (scL v) n (show (scL v).length ≤ 400 by omega), hm, hz, h2]
          · obtain ⟨t1, t2⟩ := there_back hLn h0 hm b hz
            have ho2 : okV v (nextP v n b) = true := okV_iff.2 ⟨hc, (scL_mem ht hp t1).1⟩
            have e2 : nextV v (nextP v n b) (!b) = n := by simp [nextV, ho2, t2]
            simp [h1, hs, hl, h3 v hv, hc, h4 v hv hl', hL, h5 v n b hv hl', e1, h6 (scL v) n (show (scL v).length ≤ 400 by omega), hm, hz, h6 (scL v) (nextP v n b) (show (scL v).length ≤ 400 by omega), t1, h5 v (nextP v n b) (!b) hv hl', e2, h2]
        · simp [h1, hs, hl, h3 v hv, hc, h4 v hv hl', hL, h5 v n b hv hl', h6 (scL v) n (show (scL v).length ≤ 400 by omega), hm, h2]
      · simp [h1, hs, hl, h3 v hv, hc, h2]
  · simp [h1, hs, h2]
theorem xTabsPlain : Ev fun k => ∀ (v : View), T k 11 [encV v] = ok (.bool true) := by
  refine (sRsmallV.and (sLive17.and (sRchk.and (sRidx.and (sRfList.and (sRaTabs.and (sTList.and sInts))))))).at 1000 fun k hk ⟨h1, h2, h3, h4, h5, h6, h7, h8⟩ v => ?_
  rw [encV_eq, t11]; unfold R11
  by_cases hs : smallV v = true
  · have hv := smallV_sm hs
    by_cases hl : (12 : Int) < v.tree.length
    · simp [h1, hs, hl, h2]
    · have hl' : v.tree.length ≤ 19 := by omega
      by_cases hc : chkV v = 0
      · have ht := vmay hv hc
        have hfl := fl_len ht
        have hll := scL_len ht (popsOk ht (chkV_iff.1 hc).2) (pops_nodup (chkV_iff.1 hc).2)
        have hL : listV v = scL v := by simp [listV, hc]
        by_cases hpp : 0 < v.popups.length
        · have hne : ¬ v.popups = [] := List.length_pos_iff.1 hpp
          simp [h1, hs, hl, h3 v hv, hc, hpp, hne, h2]
        · have hpe : v.popups = [] := List.length_eq_zero_iff.1 (by omega)
          simp [h1, hs, hl, h3 v hv, hc, hpp]
          refine for_upto v.tree.length (fun i (_ : Unit) => ⟨[rpV v, int i], [], false⟩) (fun _ _ _ => ok (.bool true)) (fun i _ => ∀ j : Nat, j < i → (nd v.tree j).kind ≠ 3 ∧ ¬ 0 < idxA v.tree j) (by omega) ?_ ?_ k () (by omega) (fun j hj => by omega)
          · intro _ next hI
            have hall : ∀ n, isN v.tree n = true → (nd v.tree n).kind ≠ 3 ∧ ¬ 0 < idxA v.tree n := fun n hn => by
              obtain ⟨j1, j2⟩ := isN_iff.1 hn
              have := hI n.toNat (by omega)
              rwa [show ((n.toNat : Nat) : Int) = n by omega] at this
            have hpl := scL_plain ht hpe (fun n hn => (hall n hn).1) fun n hn => (hall n hn).2
            simp [h5 v.tree ht]
            refine for_list (flL v.tree) (fun i (o : List Int) => ⟨[rpV v, .sl 1 true false (o.map (SVal.int .i64)), encI (flL v.tree), int i], [], false⟩) (fun _ _ _ => ok (.bool true)) (fun i o => o ++ ((flL v.tree).drop i).filter (tabA v) = scL v) (by omega) ?_ ?_ k [] (by omega) (by simp [hpl])
            · intro o next' ho
              rw [List.drop_length] at ho
              simp only [List.filter_nil, List.append_nil] at ho
              subst ho
              have hen : (SVal.sl 1 false false ((scL v).map (SVal.int .i64))) = encI (scL v) := rfl
              simp [h7 v hv hl', hL, hen, h8 (scL v) (scL v) (show (scL v).length ≤ 400 by omega), h2]
            · intro i o x r next' hi hx hd ho hw hnx
              rw [hd] at ho
              have hd' : (flL v.tree).drop (i + 1) = r := by rw [← List.drop_drop, hd]; rfl
              have hxn := fl_is ht (hx ▸ List.getElem_mem hi : x ∈ flL v.tree)
              have hle : o.length + 1 ≤ 400 := by
                have := congrArg List.length ho
                simp only [List.length_append] at this; omega
              have a1 := app8 (n := o.length + 1) (by omega)
              by_cases c1 : tabA v x = true
              · have hnx' := hnx (o ++ [x]) (by rw [hd', ← ho, List.filter_cons, if_pos c1]; simp)
                simp [hi, idx_I hi, hx, h6 v x hv ht hxn, c1, a1, hw]
                simpa using hnx'
              · have hnx' := hnx o (by rw [hd', ← ho, List.filter_cons, if_neg c1])
                simp [hi, idx_I hi, hx, h6 v x hv ht hxn, c1, hw]
                simpa using hnx'
          · intro d n _ next _ hn' hI hw hnx
            have hn : isN v.tree (n : Int) = true := isN_nat hn'
            have e0 : SVal.c0 (.tup [int (idxA v.tree n), .bool (hasI v.tree n)]) = int (idxA v.tree n) := rfl
            by_cases c1 : (nd v.tree n).kind = 3
            · simp [hn', h4 v.tree n hv.tr hn, idx_nd hn, c1, h2]
            · by_cases c2 : 0 < idxA v.tree n
              · simp [hn', h4 v.tree n hv.tr hn, idx_nd hn, c1, e0, c2, h2]
              · have hnx' := hnx () fun j hj => by
                  by_cases e : j = n
                  · subst e; exact ⟨c1, c2⟩
                  · exact hI j (by omega)
                simp [hn', h4 v.tree n hv.tr hn, idx_nd hn, c1, e0, c2, hw]
                simpa using hnx'
      · simp [h1, hs, hl, h3 v hv, hc, h2]
  · simp [h1, hs, h2]
theorem xTabsReach : Ev fun k => ∀ (v : View), T k 12 [encV v] = ok (.bool true) := by
  refine (sRsmallV.and (sLive17.and (sRchk.and (sRidx.and (sRfUp.and (sRaTabs.and (sTList.and (sIn.and (sRfAbove.and sRhst))))))))).at 1000 fun k hk ⟨h1, h2, h3, h4, h5, h6, h7, h8, h9, h10⟩ v => ?_
  rw [encV_eq, t12]; unfold R12
  by_cases hs : smallV v = true
  · have hv := smallV_sm hs
    by_cases hl : (12 : Int) < v.tree.length
    · simp [h1, hs, hl, h2]
    · have hl' : v.tree.length ≤ 19 := by omega
      by_cases hc : chkV v = 0
      · have ht := vmay hv hc
        have hp := popsOk ht (chkV_iff.1 hc).2
        have hll := scL_len ht hp (pops_nodup (chkV_iff.1 hc).2)
        have hL : listV v = scL v := by simp [listV, hc]
        have hH : T k 40 [encV v] = ok (int (highN v)) := h10 v hv
        simp [h1, hs, hl, h3 v hv, hc, h7 v hv hl', hL, hH]
        refine for_list (scL v) (fun i (_ : Unit) => ⟨[rpV v, encI (scL v), int (highN v), int i], [], false⟩) (fun _ _ _ => ok (.bool true)) (fun _ _ => True) (by omega) ?_ ?_ k () (by omega) trivial
        · intro _ next _
          simp
          refine for_upto v.tree.length (fun i (_ : Unit) => ⟨[rpV v, encI (scL v), int i], [], false⟩) (fun _ _ _ => ok (.bool true)) (fun _ _ => True) (by omega) ?_ ?_ k () (by omega) trivial
          · intro _ next' _; simp [h2]
          · intro d n _ next' _ hn' _ hw hnx
            have hn : isN v.tree (n : Int) = true := isN_nat hn'
            have hnx' := hnx () trivial
            by_cases hpp : v.popups.length = 0
            · have hpe : v.popups = [] := List.length_eq_zero_iff.1 hpp
              have hul := fups_le ht hn
              have hc1 : fups v.tree n = (n : Int) :: (fups v.tree n).tail := by rw [fups_cons ht hn]; rfl
              have hlen : 1 ≤ (fups v.tree n).length := by rw [hc1]; simp
              simp [hn', hpp, h5 v.tree n ht (.inr hn)]
              refine loop_wf (fun q : Nat × Bool => ⟨[rpV v, encI (scL v), int n, encI (fups v.tree n), .bool q.2, int q.1], [], false⟩) (fun _ => ok (.bool true)) (fun q => (fups v.tree n).length - q.1) (fun q => 1 ≤ q.1 ∧ q.1 ≤ (fups v.tree n).length ∧ (q.2 = false → ∀ (j : Nat) (h : j < (fups v.tree n).length), 1 ≤ j → j < q.1 → ¬ (hasI v.tree (fups v.tree n)[j] = true ∧ idxA v.tree (fups v.tree n)[j] < 0))) ?_ k (1, false) ⟨Nat.le_refl _, hlen, fun _ j _ h1 h2 => absurd h2 (by simp only; omega)⟩ (by simp only; omega)
              rintro ⟨i, b⟩ ⟨i1, i2, i3⟩ nx hnx2
              simp only at i1 i2 i3 hnx2 ⊢
              by_cases hi : i < (fups v.tree n).length
              · have hxn := (flTr ht).upP n hn _ (List.getElem_mem hi)
                have hw2 : IntKind.i64.wrap ((i : Int) + 1) = ((i + 1 : Nat) : Int) := wrap1 (by omega)
                have e0 : SVal.c0 (.tup [int (idxA v.tree (fups v.tree n)[i]), .bool (hasI v.tree (fups v.tree n)[i])]) = int (idxA v.tree (fups v.tree n)[i]) := rfl
                have e1 : SVal.c1 (.tup [int (idxA v.tree (fups v.tree n)[i]), .bool (hasI v.tree (fups v.tree n)[i])]) = .bool (hasI v.tree (fups v.tree n)[i]) := rfl
                have hnx2' := hnx2 (i + 1, b || (hasI v.tree (fups v.tree n)[i] && decide (idxA v.tree (fups v.tree n)[i] < 0))) ⟨by simp only; omega, by simp only; omega, fun hb j h j1 j2 => by
                  simp only [Bool.or_eq_false_iff] at hb
                  by_cases e : j = i
                  · subst e
                    intro ⟨q1, q2⟩
                    have := hb.2
                    simp [q1, q2] at this
                  · exact i3 hb.1 j h j1 (by simp only at j2; omega)⟩ (by simp only; omega)
                simp only at hnx2'
                simp [hi, idx_I hi, h4 v.tree _ hv.tr hxn, e0, e1, hw2]
                simpa using hnx2'
              · have hie : i = (fups v.tree n).length := by omega
                have key : (tabA v n && (!b && !decide ((n : Int) ∈ scL v))) = false := by
                  cases hb : b with
                  | true => simp
                  | false =>
                    by_cases h : tabA v n = true
                    · have := scL_reach ht hpe hn h fun m hm => by
                        obtain ⟨j, hj, rfl⟩ := List.mem_iff_getElem.1 hm
                        rw [List.getElem_tail]
                        rw [List.length_tail] at hj
                        exact i3 hb (j + 1) (by omega) (by omega) (by omega)
                      simp [this]
                    · simp [h]
                simp only [Bool.and_eq_false_iff] at key
                have hi' : ¬ ((i : Int) < (fups v.tree n).length) := by omega
                have hin := h8 (scL v) n (show (scL v).length ≤ 400 by omega)
                rcases key with key | key | key
                · simp [hi, h6 v n hv ht hn, key, hw]
                  simpa using hnx'
                · simp [hi, h6 v n hv ht hn, key, hin, hw]
                  simpa using hnx'
                · simp [hi, h6 v n hv ht hn, key, hin, hw]
                  simpa using hnx'
            · simp [hpp, h2]
        · intro i _ x r next hi hx _ _ hw hnx
          have hnx' := hnx () trivial
          have hxm : x ∈ scL v := hx ▸ List.getElem_mem hi
          have hxn := (scL_mem ht hp hxm).1
          by_cases hh : highN v = -1
          · simp [hi, idx_I hi, hx, hh, hw]
            simpa [hh] using hnx'
          · have hab := scL_high ht hp hh hxm
            simp [hi, idx_I hi, hx, hh, h9 v.tree _ _ ht hxn, hab, hw]
            simpa using hnx'
      · simp [h1, hs, hl, h3 v hv, hc, h2]
  · simp [h1, hs, h2]
end Go.Proofs.YtjcnilaogidhlaaGreat.K
