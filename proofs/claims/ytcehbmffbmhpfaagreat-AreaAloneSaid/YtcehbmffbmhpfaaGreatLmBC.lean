/- The statements of chapter 13, of what is told. -/
import Derived.Test.YtcehbmffbmhpfaaGreatLmAX
import Derived.Test.YtcehbmffbmhpfaaGreatLmAY
import Derived.Test.YtcehbmffbmhpfaaGreatLmAZ
import Derived.Test.YtcehbmffbmhpfaaGreatLmBB
set_option linter.unusedVariables false
set_option linter.unusedSimpArgs false
set_option linter.unnecessarySimpa false
set_option linter.all false
namespace Go.Proofs.YtcehbmffbmhpfaaGreat.K
open Go Go.Lm
set_option linter.unusedSimpArgs false
theorem both_may (t : List Nod) (n : Int) : (mayT t && (isN t n && isN t n)) = mayN t n := by simp [mayN]
theorem sRFew : Ev fun k => ∀ (t : List Nod), T k 50 [encT t] = ok (.bool (smallT t && decide (t.length ≤ 30))) := by
  refine sRSmall.step fun k h t => ?_
  have c : decide ((t.length : Int) ≤ 30) = decide (t.length ≤ 30) := by
    rw [decide_eq_decide]; omega
  rw [t50]; unfold R50
  by_cases hs : smallT t = true
  · simp [h, hs, c]
  · simp [h, hs]
theorem xAreaTells : Ev fun k => ∀ (v : View) (n : Int), T k 9 [encV v, int n] = ok (.bool true) := by
  refine (sRsmallV.and (sLive13.and (sRchk.and (sRboth1.and (sAIndex.and (sADis.and (sADel.and (sAIs.and (sATabs.and (sAAll.and (sRidx.and (sRdis.and (sRdel.and (sRaIs.and (sRaTabs.and (sRaAll.and sInts)))))))))))))))).step fun k ⟨h1, h2, h3, h4, h5, h6, h7, h8, h9, h10, h11, h12, h13, h14, h15, h16, h17⟩ v n => ?_
  rw [encV_eq, t9]; unfold R9
  by_cases hs : smallV v = true
  · have hv := smallV_sm hs
    have e4 : T k 36 [encT v.tree, int n, int n] = ok (.bool (mayN v.tree n)) := by rw [h4 v.tree n n hv.tr, both_may]
    by_cases hm : mayN v.tree n = true
    · obtain ⟨ht, hn⟩ := mayN_of hv.tr hm
      by_cases hc : chkV v = 0
      · have ho : okV v n = true := okV_iff.2 ⟨hc, hn⟩
        have ea : allAv v = allA v := by simp [allAv, hc]
        have hl := allA_len v; have hl2 := hv.tr.len
        simp [h1, hs, h5 v.tree n hv.tr, e4, hm, idxV, h11 v.tree n hv.tr hn, h6 v.tree n hv.tr, h12 v.tree n hv.tr hn, h7 v.tree n hv.tr, h13 v.tree n ht hn, h3 v hv, hc, h8 v n hv, ho, h14 v n hv ht hn, h9 v n hv, h15 v n hv ht hn, h10 v hv, h16 v hv ht, ea, h17 (allA v) (allA v) (by omega), h2]
      · have ho : okV v n = false := by simp [okV, hc]
        have ea : allAv v = [] := by simp [allAv, hc]
        simp [h1, hs, h5 v.tree n hv.tr, e4, hm, idxV, h11 v.tree n hv.tr hn, h6 v.tree n hv.tr, h12 v.tree n hv.tr hn, h7 v.tree n hv.tr, h13 v.tree n ht hn, h3 v hv, hc, h8 v n hv, ho, h9 v n hv, h10 v hv, ea, h2]
    · have ho : okV v n = false := by
        rw [← Bool.not_eq_true]; exact fun h => hm (ok_may h)
      simp [h1, hs, h5 v.tree n hv.tr, e4, hm, idxV, h6 v.tree n hv.tr, h7 v.tree n hv.tr, h8 v n hv, ho, h9 v n hv, h2]
  · simp [h1, hs, h2]
theorem xAreaLaws : Ev fun k => ∀ (v : View), T k 10 [encV v] = ok (.bool true) := by
  refine (sRsmallV.and (sLive13.and (sRchk.and (sADis.and (sADel.and (sAIs.and (sATabs.and (sAAll.and (sRrIs.and (sRiIs.and sIn)))))))))).at 1000 fun k hk ⟨h1, h2, h3, h4, h5, h6, h7, h8, h9, h10, h11⟩ v => ?_
  rw [encV_eq, t10]; unfold R10
  by_cases hs : smallV v = true
  · have hv := smallV_sm hs
    by_cases hc : chkV v = 0
    · have ht := vmay hv hc
      have hl := allA_len v; have hl2 := hv.tr.len
      have ea : allAv v = allA v := by simp [allAv, hc]
      have hcnt := len_count (allA_nodup v) (fun n => mem_allA (v := v) (n := n))
      simp only [weak_T, weak_I, weak_P, fold_Vv, fold_rpVv, h1, hs, h3 v hv, hc, Option.bind_some, sNot_b, Bool.not_true, sBin_neq, decide_true, asB_b, guard_or, Bool.or_self, List.getD_cons_zero, pick_f, h8 v hv, ea]
      refine for_upto v.tree.length (fun i (c : Nat) => ⟨[rpV v, encI (allA v), int c, int i], [], false⟩) (fun d i c => ok (.bool true)) (fun i c => c ≤ i ∧ c + cntR (fun j => isA v j) (v.tree.length - i) i = (allA v).length) (by omega) ?_ ?_ k 0 (by omega) ⟨Nat.le_refl _, by rw [hcnt]; simp⟩
      · rintro c next ⟨_, hI⟩
        rw [Nat.sub_self, cntR, Nat.add_zero] at hI
        simp [hI, h2]
      · rintro d i c next hd hi ⟨hci, hI⟩ hw hnx
        have hin := isN_nat hi
        have ho : okV v i = true := okV_iff.2 ⟨hc, hin⟩
        have hm := ok_may ho
        have hwc : IntKind.i64.wrap ((c : Int) + 1) = ((c + 1 : Nat) : Int) := wrap1 (by omega)
        rw [show v.tree.length - i = (v.tree.length - (i + 1)) + 1 by omega, cntR] at hI
        have hmem : ((i : Int) ∈ allA v) ↔ isA v i = true := by rw [mem_allA]; simp [hin]
        by_cases hr : isA v i = true
        · rw [if_pos hr] at hI
          have hnx' := hnx (c + 1) ⟨by omega, by omega⟩
          have hkd := isA_kind ht hin hr
          have hr' := hr
          simp only [isA, Bool.and_eq_true, Bool.not_eq_true'] at hr'
          obtain ⟨⟨⟨⟨a1, a2⟩, a3⟩, a4⟩, a5⟩ := hr'
          have hme := hmem.2 hr
          simp [hi, h6 v _ hv, ho, hr, hwc, idx_nd hin, hkd, h9 v _ hv ht hin, a4, h10 v _ hv ht hin, a5, h4 v.tree _ hv.tr, a2, h5 v.tree _ hv.tr, a3, h11 _ _ (show (allA v).length ≤ 400 by omega), hme, h7 v _ hv, hw]
          simpa using hnx'
        · rw [if_neg hr] at hI
          have hnx' := hnx c ⟨by omega, by omega⟩
          have hme : (i : Int) ∉ allA v := fun h => hr (hmem.1 h)
          have htb : tabA v i = false := by simp [tabA, hr]
          simp [hi, h6 v _ hv, ho, hr, h11 _ _ (show (allA v).length ≤ 400 by omega), hme, h7 v _ hv, htb, hw]
          simpa using hnx'
    · simp [h1, hs, h2, h3 v hv, hc]
  · simp [h1, hs, h2]
theorem xAreaIndex : Ev fun k => ∀ (t : List Nod) (n : Int), T k 11 [encT t, int n] = ok (.bool true) := by
  refine (sRFew.and (sLive13.and (sRboth1.and sAIndex))).at 1000 fun k hk ⟨h1, h2, h4, h5⟩ t n => ?_
  rw [t11]; unfold R11
  by_cases hs : (smallT t && decide (t.length ≤ 30)) = true
  · have ht := smallT_iff.1 (Bool.and_eq_true_iff.1 hs).1
    have e4 : T k 36 [encT t, int n, int n] = ok (.bool (mayN t n)) := by rw [h4 t n n ht, both_may]
    by_cases hm : mayN t n = true
    · obtain ⟨hy, hn⟩ := mayN_of ht hm
      have hal := (ht.nd n).2
      have hh : (getA 0 (nd t n).attrs).isSome = hasA (nd t n) 0 := getA_has 0 _
      simp only [weak_T, weak_I, weak_P, h1, hs, e4, hm, Option.bind_some, sNot_b, Bool.not_true, asB_b, guard_or, Bool.or_self, List.getD_cons_zero, pick_f, h5 t n ht, idxV, if_true, Bool.true_and]
      refine for_list (nd t n).attrs (fun i (_ : Unit) => ⟨[encT t, int n, int (idxA t n), .bool (hasI t n), int i], [], false⟩) (fun _ _ _ => ok (.bool true)) (fun i _ => getA 0 ((nd t n).attrs.drop i) = getA 0 (nd t n).attrs) (by omega) ?_ ?_ k () (by omega) (by simp)
      · intro _ next hI
        rw [List.drop_length] at hI
        have hg : getA 0 (nd t n).attrs = none := hI.symm
        rw [hg] at hh
        have hh' : hasA (nd t n) 0 = false := by simpa using hh.symm
        have e1 : idxA t n = 0 := by simp [idxA, hg]
        by_cases t1 : (nd t n).tag = 1
        · have kd := tag_kind hy hn (by omega)
          simp [idx_nd hn, e1, hasI, hh', t1, kd, h2]
        · by_cases t4 : (nd t n).tag = 4
          · have kd := tag_kind hy hn (by omega)
            simp [idx_nd hn, e1, hasI, hh', t4, kd, h2]
          · simp [idx_nd hn, e1, hasI, hh', t1, t4, h2]
      · intro i _ x r next hi hx hd hI hw hnx
        rw [hd] at hI
        by_cases h0 : x.name = 0
        · simp only [getA, h0, if_true] at hI
          rw [← hI] at hh
          have hh' : hasA (nd t n) 0 = true := by simpa using hh.symm
          have e1 : idxA t n = x.value := by simp [idxA, ← hI]
          simp [idx_nd hn, hi, idx_As hi, hx, h0, e1, hasI, hh', h2]
        · simp only [getA, h0, if_false] at hI
          have hd' : (nd t n).attrs.drop (i + 1) = r := by rw [← List.drop_drop, hd]; rfl
          have hnx' := hnx () (by rw [hd']; exact hI)
          simp [idx_nd hn, hi, idx_As hi, hx, h0, hw]
          simpa using hnx'
    · simp [h1, hs, e4, hm, h2]
  · simp [h1, hs, h2]
theorem xAreaShown : Ev fun k => ∀ (v : View) (n : Int), T k 12 [encV v, int n] = ok (.bool true) := by
  refine (sRsmallV.and (sLive13.and (sRchk.and (sRIs.and (sRdlgR.and (sRfAbove.and sAIs)))))).at 1000 fun k hk ⟨h1, h2, h3, h4, h5, h6, h7⟩ v n => ?_
  rw [encV_eq, t12]; unfold R12
  by_cases hs : smallV v = true
  · have hv := smallV_sm hs
    by_cases hc : chkV v = 0
    · by_cases hn : isN v.tree n = true
      · have ht := vmay hv hc
        have hl2 := hv.tr.len
        by_cases h0 : (dlgR v n false).2 = 0
        · obtain ⟨_, _, _, _, b5⟩ := dlgR_ok h0
          have b5 : (dlgR v n false).1 = { v with op := v.op ++ [n] } := b5
          have htr : (dlgR v n false).1.tree = v.tree := by rw [b5]
          have hcc : chkV (dlgR v n false).1 = 0 := chkV_iff.2 ⟨by rw [htr]; exact (chkV_iff.1 hc).1, dlgR_may h0⟩
          have hvs : SmV (dlgR v n false).1 := by
            rw [b5]
            have := hs
            simp only [smallV, Bool.and_eq_true, decide_eq_true_eq] at this
            exact ⟨hv.tr, by simp only [List.length_append, List.length_cons, List.length_nil]; omega, hv.mo, hv.po, hv.to⟩
          have hok : ∀ m, isN v.tree m = true → okV v m = true ∧ okV (dlgR v n false).1 m = true := fun m hm => ⟨okV_iff.2 ⟨hc, hm⟩, okV_iff.2 ⟨hcc, by rw [htr]; exact hm⟩⟩
          have e5 := h5 v n false hv
          generalize hw' : (dlgR v n false).1 = w at *
          simp [h1, hs, h3 v hv, hc, h4, hn, e5, h0]
          refine for_upto v.tree.length (fun i (_ : Unit) => ⟨[int n, rpV v, rpV w, int i], [], false⟩) (fun _ _ _ => ok (.bool true)) (fun _ _ => True) (by omega) ?_ ?_ k () (by omega) trivial
          · intro _ next _; simp [h2]
          · intro d i _ next hd hi _ hw hnx
            have hnx' := hnx () trivial
            have hin := isN_nat hi
            obtain ⟨o1, o2⟩ := hok i hin
            by_cases hb : n ∈ fups v.tree i
            · have hcl := closed_isA ht h0 hin hb
              simp [hi, h6 v.tree _ _ ht hin, hb, h7 v _ hv, hcl, hw]
              simpa using hnx'
            · have hsh := shown_isA ht h0 hin hb
              rw [hw'] at hsh
              simp [hi, h6 v.tree _ _ ht hin, hb, h7 v _ hv, h7 w _ hvs, o1, o2, hsh, hw]
              simpa using hnx'
        · simp [h1, hs, h3 v hv, hc, h4, hn, h5 v n false hv, h0, h2]
      · simp [h1, hs, h3 v hv, hc, h4, hn, h2]
    · simp [h1, hs, h2, h3 v hv, hc]
  · simp [h1, hs, h2]
theorem xAreaAlone : Ev fun k => ∀ (tag : Int) (l : List Attr), T k 13 [int tag, encAs l] = ok (.bool true) := by
  refine (sRMay.and (sLive13.and (sAIs.and sATabs))).at 1000 fun k hk ⟨h1, h2, h3, h4⟩ tag l => ?_
  rw [t13]; unfold R13
  by_cases hlen : l.length ≤ 20
  · have hsm := alone_sm (tag := tag) hlen
    have hlen' : ¬ (20 < (l.length : Int)) := by omega
    have hlen2 : ¬ (20 < l.length) := by omega
    have e1 := h1 _ hsm
    have e1' : T k 52 [.sl 7 false false [.agg [.int .i64 0, .int .i64 0, .int .i64 (-1), .sl 1 false false [.int .i64 1], .int .i64 (-1), .int .i64 (-1), .sl 2 false false []], .agg [.int .i64 1, .int .i64 tag, .int .i64 0, encI [], .int .i64 (-1), .int .i64 (-1), encAs l]]] = ok (.bool (mayT (aloneT tag l))) := e1
    by_cases hm : mayT (aloneT tag l) = true
    · have hM : May (aloneT tag l) := ⟨hsm, hm⟩
      have hv := alone_smV (tag := tag) hlen
      have hc := alone_chk hM
      have o1 : okV (aloneV tag l) 1 = true := okV_iff.2 ⟨hc, alone_is1⟩
      have o0 : okV (aloneV tag l) 0 = true := okV_iff.2 ⟨hc, alone_is0⟩
      have q1 : T k 37 [encV (aloneV tag l), int 1] = ok (.bool (canA tag l && !keepsA tag l)) := by rw [h3 _ 1 hv, o1, alone_isA hM, Bool.true_and]
      have q0 : T k 37 [encV (aloneV tag l), int 0] = ok (.bool false) := by rw [h3 _ 0 hv, o0, alone_isA0 hM, Bool.true_and]
      have q2 : T k 38 [encV (aloneV tag l), int 1] = ok (.bool ((canA tag l && !keepsA tag l) && decide (0 ≤ lastV l 0))) := by
        rw [h4 _ 1 hv, o1, tabA, alone_isA hM, Bool.true_and, alone_idx hM]; rfl
      have q1' : T k 37 [.agg [encT (aloneT tag l), encI [], encI [], .sl 2 false false [], encI []], .int .i64 1] = ok (.bool (canA tag l && !keepsA tag l)) := q1
      have q0' : T k 37 [.agg [encT (aloneT tag l), encI [], encI [], .sl 2 false false [], encI []], .int .i64 0] = ok (.bool false) := q0
      have q2' : T k 38 [.agg [encT (aloneT tag l), encI [], encI [], .sl 2 false false [], encI []], .int .i64 1] = ok (.bool ((canA tag l && !keepsA tag l) && decide (0 ≤ lastV l 0))) := q2
      simp [hlen', hlen2, e1', hm]
      refine for_list l (fun i (s : Bool × Int × Bool) => ⟨[int tag, encAs l, .sl 7 true false ((aloneT tag l).map encN), .bool s.1, int s.2.1, .bool s.2.2, int i], [], false⟩) (fun _ _ _ => ok (.bool true)) (fun i s => (s.1 || (l.drop i).any fun a => decide (a.name = 0)) = canA tag l ∧ lastV (l.drop i) s.2.1 = lastV l 0 ∧ (s.2.2 || (l.drop i).any (keepA tag)) = keepsA tag l) (by omega) ?_ ?_ k (decide (tag = 1) || decide (tag = 4), 0, decide (tag = 2)) (by omega) ⟨by simp [canA], by simp, by simp [keepsA]⟩
      · rintro ⟨c, x, kp⟩ next ⟨i1, i2, i3⟩
        rw [List.drop_length] at i1 i2 i3
        simp only [List.any_nil, Bool.or_false, lastV] at i1 i2 i3
        subst i1 i2 i3
        cases hz : (canA tag l && !keepsA tag l) with
        | true =>
          rw [hz] at q1' q2'
          simp only [Bool.and_eq_true, Bool.not_eq_true'] at hz
          simp [q1', q2', q0', hz.1, hz.2, h2]
        | false =>
          rw [hz] at q1' q2'
          cases hc1 : canA tag l with
          | false => simp [q1', q2', q0', h2]
          | true =>
            have : keepsA tag l = true := by rw [hc1] at hz; simpa using hz
            simp [q1', q2', q0', this, h2]
      · rintro i ⟨c, x, kp⟩ a r next hi hx hd ⟨i1, i2, i3⟩ hw hnx
        have hd' : l.drop (i + 1) = r := by rw [← List.drop_drop, hd]; rfl
        rw [hd] at i1 i2 i3
        simp only [List.any_cons, lastV] at i1 i2 i3
        by_cases n0 : a.name = 0
        · have hnx' := hnx (true, a.value, kp) ⟨by rw [hd', ← i1]; simp [n0], by rw [hd', ← i2]; simp [n0], by rw [hd', ← i3]; simp [keepA, n0]⟩
          simp [hi, idx_As hi, hx, n0, hw]
          simpa using hnx'
        · by_cases n1 : a.name = 1
          · have hnx' := hnx (c, x, kp || decide (tag = 1)) ⟨by rw [hd', ← i1]; simp [n0], by rw [hd', ← i2]; simp [n0], by rw [hd', ← i3]; simp [keepA, n1, Bool.or_assoc]⟩
            simp [hi, idx_As hi, hx, n0, n1, hw]
            simpa using hnx'
          · by_cases n2 : a.name = 2
            · have hnx' := hnx (c, x, true) ⟨by rw [hd', ← i1]; simp [n0], by rw [hd', ← i2]; simp [n0], by rw [hd', ← i3]; simp [keepA, n2]⟩
              simp [hi, idx_As hi, hx, n0, n1, n2, hw]
              simpa using hnx'
            · by_cases n3 : a.name = 3
              · have hnx' := hnx (c, x, true) ⟨by rw [hd', ← i1]; simp [n0], by rw [hd', ← i2]; simp [n0], by rw [hd', ← i3]; simp [keepA, n3]⟩
                simp [hi, idx_As hi, hx, n0, n1, n2, n3, hw]
                simpa using hnx'
              · by_cases n6 : a.name = 6
                · have hnx' := hnx (c, x, true) ⟨by rw [hd', ← i1]; simp [n0], by rw [hd', ← i2]; simp [n0], by rw [hd', ← i3]; simp [keepA, n6]⟩
                  simp [hi, idx_As hi, hx, n0, n1, n2, n3, n6, hw]
                  simpa using hnx'
                · have hnx' := hnx (c, x, kp) ⟨by rw [hd', ← i1]; simp [n0], by rw [hd', ← i2]; simp [n0], by rw [hd', ← i3]; simp [keepA, n1, n2, n3, n6]⟩
                  simp [hi, idx_As hi, hx, n0, n1, n2, n3, n6, hw]
                  simpa using hnx'
    · simp [hlen', hlen2, e1', hm, h2]
  · have hlen' : 20 < (l.length : Int) := by omega
    have hlen2 : 20 < l.length := by omega
    simp [hlen', hlen2, h2]
end Go.Proofs.YtcehbmffbmhpfaaGreat.K
