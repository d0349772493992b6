/- What is inert: what is told of it. -/
import Derived.Test.YtccfkncajelbpaaGreatLmAV
set_option linter.unusedVariables false
set_option linter.unusedSimpArgs false
set_option linter.unnecessarySimpa false
set_option linter.all false
namespace Go.Proofs.YtccfkncajelbpaaGreat.K
open Go Go.Lm
set_option linter.unusedSimpArgs false
def rngI (d i : Nat) : List Int := (List.range' i d).map fun j : Nat => (j : Int)
theorem rngI_succ (d i : Nat) : rngI (d + 1) i = (i : Int) :: rngI d (i + 1) := by simp [rngI, List.range'_succ]
theorem rngI_zero (i : Nat) : rngI 0 i = [] := rfl
theorem idxL_rng (t : List Nod) : idxL t = rngI t.length 0 := by simp [idxL, rngI, List.range_eq_range']
theorem sPimay : Ev fun k => ∀ (v : View) (n : Int), SmV v → T k 55 [encV v, int n] = ok (.bool (okV v n)) := by
  refine sPchk.step fun k h v n hv => ?_
  rw [encV_eq, t55]; unfold R55
  by_cases hc : chkV v = 0
  · simp [h v hv, hc, okV, isN]
  · simp [h v hv, hc, okV]
theorem sPblk : Ev fun k => ∀ (v : View) (n : Int), SmV v → T k 30 [encV v, int n] = ok (.bool (okV v n && blkN v n)) := by
  refine (sPimay.and (sPhst.and sPfAbove)).step fun k ⟨h1, h2, h3⟩ v n hv => ?_
  rw [encV_eq, t30]; unfold R30
  by_cases ho : okV v n = true
  · obtain ⟨ht, hn⟩ := may_of_ok hv ho
    have hc := (okV_iff.1 ho).1
    have e2 : T k 57 [encV v] = ok (int (highN v)) := by rw [h2 v hv, if_pos hc]; rfl
    by_cases h0 : n = 0
    · subst h0
      simp [h1 v 0 hv, ho, blkN]
    · by_cases h5 : highN v = -1
      · simp [h1 v n hv, ho, h0, e2, h5, blkN]
      · simp [h1 v n hv, ho, h0, e2, h5, h3 v.tree _ n hv.tr, fUp_of ht hn, blkN]
  · simp [h1 v n hv, ho]
theorem sPmarked : Ev fun k => ∀ (v : View) (n : Int), SmV v → chkV v = 0 → isN v.tree n = true → T k 56 [encV v, int n] = ok (.bool (mkF v.tree (highN v) (fups v.tree n))) := by
  refine (sPhst.and (sPfUp.and sPHas)).at 1000 fun k hk ⟨h1, h2, h3⟩ v n hv hc hn => ?_
  have ht := vmay hv hc
  have hl := fups_le ht hn; have hl2 := hv.tr.len
  have e1 : T k 57 [encV v] = ok (int (highN v)) := by rw [h1 v hv, if_pos hc]; rfl
  rw [encV_eq, t56]; unfold R56
  simp only [weak_T, weak_I, weak_P, fold_Vv, fold_rpVv, e1, h2 v.tree n hv.tr, fUp_of ht hn, Option.bind_some, sLen_I]
  refine (for_list (fups v.tree n) (fun i (b : Bool) => ⟨[rpV v, int (highN v), .bool b, encI (fups v.tree n), int (fups v.tree n).length, int i], [], false⟩) (fun r i b => ok (.bool (b || mkF v.tree (highN v) r))) (fun _ b => b = false) (by omega) ?_ ?_ k false (by omega) rfl).trans (by simp)
  · intro b next hb; simp [mkF, hb]
  · intro i b x r next hi hx _ hb hw hnx
    subst hb
    have hx' := (flTr ht).upP n hn x (hx ▸ List.getElem_mem hi)
    have hA : T k 77 [encT v.tree, int x, int 3] = ok (.bool (hasA (nd v.tree x) 3)) := by rw [h3 v.tree x 3 hv.tr, may_is ht hx', Bool.true_and]
    by_cases ha : hasA (nd v.tree x) 3 = true
    · simp [hi, idx_I hi, hx, hA, ha, mkF]
    · simp only [Bool.not_eq_true] at ha
      by_cases hh : x = highN v
      · simp [hi, idx_I hi, hx, hA, ha, ← hh, mkF]
      · have hnx' := hnx false rfl
        simp [hi, idx_I hi, hx, hA, ha, hh, hw, mkF]
        simpa using hnx'
theorem sPiIs : Ev fun k => ∀ (v : View) (n : Int), SmV v → T k 29 [encV v, int n] = ok (.bool (okV v n && isI v n)) := by
  refine (sPimay.and (sPblk.and sPmarked)).step fun k ⟨h1, h2, h3⟩ v n hv => ?_
  rw [encV_eq, t29]; unfold R29
  by_cases ho : okV v n = true
  · have hc := okV_iff.1 ho
    simp [h1 v n hv, ho, h2 v n hv, h3 v n hv hc.1 hc.2, isI]
  · simp [h1 v n hv, ho]
theorem sClip : Ev fun k => ∀ (l : List Int), T k 59 [encI l] = ok (encI l) := by
  refine Ev.pure 1000 fun k hk l => ?_
  rw [t59]; unfold R59
  have e : sSlice3 1 (encI l) (int l.length) (int l.length) = some (.sl 1 false true (l.map (SVal.int .i64))) := by
    show sSlice3 1 (.sl 1 false false _) _ _ = _
    simp only [sSlice3, List.length_map, sBnd_nat (Nat.le_refl l.length)]
    have e2 : List.take l.length (l.map (SVal.int .i64)) = l.map (SVal.int .i64) := List.take_of_length_le (by simp)
    simp [e2]
  simp [e]
def allIv (v : View) : List Int := if chkV v = 0 then allIn v else []
theorem allIv_len (v : View) : (allIv v).length ≤ v.tree.length := by unfold allIv; split; exact allI_len v; simp
theorem sPiAll : Ev fun k => ∀ (v : View), SmV v → T k 31 [encV v] = ok (encI (allIv v)) := by
  refine (sPiIs.and sClip).at 1000 fun k hk ⟨h1, h2⟩ v hv => ?_
  have hl := hv.tr.len
  rw [encV_eq, t31]; unfold R31
  simp only [sLen_T, Option.bind_some, fold_rpVv]
  have e : allIv v = (rngI v.tree.length 0).filter fun n => okV v n && isI v n := by
    unfold allIv allIn
    rw [← idxL_rng]
    split
    · rename_i hc
      apply List.filter_congr
      intro n hn
      simp [okV, hc, mem_idx.1 hn]
    · rename_i hc
      symm
      rw [List.filter_eq_nil_iff]
      intro n _
      simp [okV, hc]
  rw [e]
  refine (for_upto v.tree.length (fun i (o : List Int) => ⟨[rpV v, .sl 1 true false (o.map (SVal.int .i64)), int v.tree.length, int i], [], false⟩) (fun d i o => ok (encI (o ++ (rngI d i).filter fun n => okV v n && isI v n))) (fun i o => o.length ≤ i) (by omega) ?_ ?_ k [] (by omega) (by simp)).trans (by simp)
  · intro o next _; simp [h2, rngI_zero]
  · intro d i o next hd hi hI hw hnx
    have ha := app8 (n := o.length + 1) (by omega)
    rw [rngI_succ, List.filter_cons]
    by_cases ho : (okV v i && isI v i) = true
    · have hnx' := hnx (o ++ [(i : Int)]) (by simp; omega)
      rw [if_pos ho]
      simpa [hi, hw, h1 v i hv, ho, ha] using hnx'
    · have hnx' := hnx o (by omega)
      rw [if_neg ho]
      simp only [Bool.not_eq_true] at ho
      simpa [hi, hw, h1 v i hv, ho] using hnx'
/-! ### The document's answer -/
theorem sRblk : Ev fun k => ∀ (v : View) (n : Int), SmV v → May v.tree → isN v.tree n = true → T k 33 [encV v, int n] = ok (.bool (blkN v n)) := by
  refine (sRhst.and sRfAbove).step fun k ⟨h1, h2⟩ v n hv ht hn => ?_
  have e1 : T k 35 [encV v] = ok (int (highN v)) := h1 v hv
  rw [encV_eq, t33]; unfold R33
  by_cases h0 : n = 0
  · simp [e1, h0, blkN]
  · by_cases h5 : highN v = -1
    · simp [e1, h0, h5, blkN]
    · simp [e1, h0, h5, h2 v.tree _ n ht hn, blkN]
theorem sRiIs : Ev fun k => ∀ (v : View) (n : Int), SmV v → May v.tree → isN v.tree n = true → T k 32 [encV v, int n] = ok (.bool (isI v n)) := by
  refine (sRblk.and (sRfUp.and (sRhst.and (sPlace.and sRHas)))).at 1000 fun k hk ⟨h1, h2, h3, h4, h5⟩ v n hv ht hn => ?_
  have hl := fups_le ht hn; have hl2 := hv.tr.len
  have e3 : T k 35 [encV v] = ok (int (highN v)) := h3 v hv
  rw [encV_eq, t32]; unfold R32
  by_cases hb : blkN v n = true
  · simp [h1 v n hv ht hn, hb, isI]
  · simp only [Bool.not_eq_true] at hb
    have key : ∀ e : Nat, e ≤ (fups v.tree n).length → loopN (fun s13 next13 =>
     (sBin .lss s13.k3 s13.k2).bind fun r14 =>
     pickC r14
     ((sIdx false 1 s13.k1 s13.k3).bind fun e15 =>
      (T k 36 [(weak (SVal.cell s13.k0 0)), e15, (.int .i64 3)]).bind fun r16 =>
      pickC r16.r
      (some { r := (.bool true) })
      ((sBin .add s13.k3 (.int .i64 1)).bind fun r17 =>
       next13 ⟨[(.rp [(SVal.cell s13.k0 0), (SVal.cell s13.k0 1), (SVal.cell s13.k0 2), (SVal.cell s13.k0 3), (SVal.cell s13.k0 4)]), (weak s13.k1), s13.k2, r17], [], false⟩))
     (some { r := (.bool false) })) k ⟨[rpV v, encI (fups v.tree n), int e, int (0 : Nat)], [], false⟩ = ok (.bool (((fups v.tree n).take e).any fun k => hasA (nd v.tree k) 3)) := by
      intro e he
      refine for_list ((fups v.tree n).take e) (fun i (_ : Unit) => ⟨[rpV v, encI (fups v.tree n), int e, int i], [], false⟩) (fun r i _ => ok (.bool (r.any fun k => hasA (nd v.tree k) 3))) (fun _ _ => True) (by simp; omega) ?_ ?_ k () (by simp; omega) trivial
      · intro o next _; simp [Nat.min_eq_left he]
      · intro i o x r next hi hx _ _ hw hnx
        have hnx' := hnx () trivial
        have hi2 : i < e := by simp at hi; omega
        have hi3 : i < (fups v.tree n).length := by omega
        have hx2 : (fups v.tree n)[i] = x := by simpa using hx
        have hx' := (flTr ht).upP n hn x (hx2 ▸ List.getElem_mem hi3)
        have hA : T k 36 [encT v.tree, int x, int 3] = ok (.bool (hasA (nd v.tree x) 3)) := by rw [h5 v.tree x 3 hv.tr, hx', Bool.true_and]
        by_cases ha : hasA (nd v.tree x) 3 = true
        · simp [hi2, idx_I hi3, hx2, hA, ha]
        · simp only [Bool.not_eq_true] at ha
          simpa [hi2, idx_I hi3, hx2, hA, ha, hw, -List.any_eq_true] using hnx'
    have hmt := mkF_take v.tree (highN v) (fups v.tree n) 0
    simp only [weak_T, weak_I, weak_P, fold_Vv, fold_rpVv, h1 v n hv ht hn, hb, Option.bind_some, pick_f, h2 v.tree n ht (.inr hn), sLen_I, e3, h4 _ _ (show (fups v.tree n).length ≤ 400 by omega), sBin_geq]
    by_cases hp : 0 ≤ plF (highN v) (fups v.tree n) 0
    · obtain ⟨j, hj, e, _⟩ := plF_get (i := 0) ((plF_ge _ _ 0).1 hp)
      rw [Nat.zero_add] at e
      rw [if_pos hp] at hmt
      have hw : IntKind.i64.wrap ((j : Int) + 1) = ((j + 1 : Nat) : Int) := wrap1 (by omega)
      have e4 : ((plF (highN v) (fups v.tree n) 0 - ((0 : Nat) : Int)).toNat + 1) = j + 1 := by rw [e]; omega
      rw [e4] at hmt
      simp only [e, show (0 : Int) ≤ j by omega, decide_true, pick_t, sBin_add, hw, Option.bind_some]
      refine (key (j + 1) (by omega)).trans ?_
      rw [isI, hb, hmt, Bool.false_or]
    · rw [if_neg hp] at hmt
      simp only [hp, decide_false, pick_f]
      refine (key _ (Nat.le_refl _)).trans ?_
      rw [isI, hb, hmt, Bool.false_or]
theorem sRiAll : Ev fun k => ∀ (v : View), SmV v → May v.tree → T k 34 [encV v] = ok (encI (allIn v)) := by
  refine sRiIs.at 1000 fun k hk h1 v hv ht => ?_
  have hl := hv.tr.len
  rw [encV_eq, t34]; unfold R34
  simp only [fold_rpVv]
  rw [show allIn v = (rngI v.tree.length 0).filter (isI v) by rw [← idxL_rng]; rfl]
  refine (for_upto v.tree.length (fun i (o : List Int) => ⟨[rpV v, .sl 1 true false (o.map (SVal.int .i64)), int i], [], false⟩) (fun d i o => ok (encI (o ++ (rngI d i).filter (isI v)))) (fun i o => o.length ≤ i) (by omega) ?_ ?_ k [] (by omega) (by simp)).trans (by simp)
  · intro o next _; simp [rngI_zero]
  · intro d i o next hd hi hI hw hnx
    have ha := app8 (n := o.length + 1) (by omega)
    have hin := isN_nat hi
    rw [rngI_succ, List.filter_cons]
    by_cases ho : isI v i = true
    · have hnx' := hnx (o ++ [(i : Int)]) (by simp; omega)
      rw [if_pos ho]
      simpa [hi, hw, h1 v i hv ht hin, ho, ha] using hnx'
    · have hnx' := hnx o (by omega)
      rw [if_neg ho]
      simp only [Bool.not_eq_true] at ho
      simpa [hi, hw, h1 v i hv ht hin, ho] using hnx'
end Go.Proofs.YtccfkncajelbpaaGreat.K
