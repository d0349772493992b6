/- The statements of chapter 16, of what is told. -/
import Derived.Test.YtjcnilaogidhlaaGreatLmBO
import Derived.Test.YtjcnilaogidhlaaGreatLmBP
set_option linter.unusedVariables false
set_option linter.unusedSimpArgs false
set_option linter.unnecessarySimpa false
set_option linter.all false
namespace Go.Proofs.YtjcnilaogidhlaaGreat.K
open Go Go.Lm
set_option linter.unusedSimpArgs false
theorem xScopesTell : Ev fun k => ∀ (v : View) (n : Int), T k 3 [encV v, int n] = ok (.bool true) := by
  refine (sRsmallV.and (sLive16.and (sRchk.and (sRIs.and (sSItems.and (sSOwner.and (sSIndex.and (sSPlace.and (sRiItems.and (sRiOwner.and (sRiIndex.and (sRiPlace.and sInts)))))))))))).step fun k ⟨h1, h2, h3, h4, h5, h6, h7, h8, h9, h10, h11, h12, h13⟩ v n => ?_
  rw [encV_eq, t3]; unfold R3
  by_cases hs : smallV v = true
  · have hv := smallV_sm hs
    by_cases hl : (12 : Int) < v.tree.length
    · simp [h1, hs, hl, h2]
    · have hl' : v.tree.length ≤ 19 := by omega
      by_cases ho : okV v n = true
      · obtain ⟨hc, hn⟩ := okV_iff.1 ho
        have ht := vmay hv hc
        have hil := items_len ht n
        simp [h1, hs, hl, h3 v hv, hc, h4, hn, h5 v n hv hl', h6 v n hv, h7 v n hv, h8 v n hv, itemsV, ownerV, indexV, placeV, ho, h9 v n hv hc hn, h10 v n hv ht hn, h11 v n hv hn, h12 v n hv hc, h13 _ _ (show (itemsS v n).length ≤ 400 by omega), h2]
      · by_cases hc : chkV v = 0
        · have hn : isN v.tree n = false := by simpa [okV, hc] using ho
          simp [h1, hs, hl, h3 v hv, hc, h4, hn, h5 v n hv hl', h6 v n hv, h7 v n hv, h8 v n hv, itemsV, ownerV, indexV, placeV, ho, h2]
        · simp [h1, hs, hl, h3 v hv, hc, h5 v n hv hl', h6 v n hv, h7 v n hv, h8 v n hv, itemsV, ownerV, indexV, placeV, ho, h2]
  · simp [h1, hs, h2]
def allS (v : View) : Nat → List Int
  | 0 => []
  | i + 1 => allS v i ++ itemsS v i
theorem mem_allS {v : View} {x : Int} : ∀ {i : Nat}, x ∈ allS v i ↔ ∃ j : Nat, j < i ∧ x ∈ itemsS v j
  | 0 => by simp [allS]
  | i + 1 => by
    rw [allS, List.mem_append, mem_allS]
    constructor
    · rintro (⟨j, h1, h2⟩ | h)
      · exact ⟨j, by omega, h2⟩
      · exact ⟨i, by omega, h⟩
    · rintro ⟨j, h1, h2⟩
      by_cases e : j = i
      · subst e; exact .inr h2
      · exact .inl ⟨j, by omega, h2⟩
theorem allS_len {v : View} (ht : May v.tree) : ∀ i, (allS v i).length ≤ i * v.tree.length
  | 0 => by simp [allS]
  | i + 1 => by
    have := allS_len ht i; have := items_len ht (v := v) i
    rw [allS, List.length_append, Nat.succ_mul]; omega
theorem xScopesOnce : Ev fun k => ∀ (v : View), T k 4 [encV v] = ok (.bool true) := by
  refine (sRsmallV.and (sLive16.and (sRchk.and (sRfList.and (sSItems.and (sSOwner.and (sSIndex.and (sSPlace.and (sRaTabs.and (sIn.and sPlace)))))))))).at 1000 fun k hk ⟨h1, h2, h3, h4, h5, h6, h7, h8, h9, h10, h11⟩ v => ?_
  rw [encV_eq, t4]; unfold R4
  by_cases hs : smallV v = true
  · have hv := smallV_sm hs
    by_cases hl : (12 : Int) < v.tree.length
    · simp [h1, hs, hl, h2]
    · have hl' : v.tree.length ≤ 19 := by omega
      by_cases hc : chkV v = 0
      · have ht := vmay hv hc
        have hfl := fl_len ht
        simp [h1, hs, hl, h3 v hv, hc, h4 v.tree ht]
        refine for_upto v.tree.length (fun i (_ : Unit) => ⟨[rpV v, encI (flL v.tree), .sl 1 true false ((allS v i).map (SVal.int .i64)), int i], [], false⟩) (fun _ _ _ => ok (.bool true)) (fun _ _ => True) (by omega) ?_ ?_ k () (by omega) trivial
        · intro _ next _
          have hal := allS_len ht (v := v) v.tree.length
          have hal2 : v.tree.length * v.tree.length ≤ 12 * 12 := Nat.mul_le_mul (by omega) (by omega)
          simp
          refine for_upto v.tree.length (fun i (_ : Unit) => ⟨[rpV v, .sl 1 true false ((allS v v.tree.length).map (SVal.int .i64)), int i], [], false⟩) (fun _ _ _ => ok (.bool true)) (fun _ _ => True) (by omega) ?_ ?_ k () (by omega) trivial
          · intro _ next' _; simp [h2]
          · intro d i _ next' _ hi _ hw hnx
            have hn : isN v.tree (i : Int) = true := isN_nat hi
            have ho : okV v i = true := okV_iff.2 ⟨hc, hn⟩
            have o3 : placeV v (i : Int) = placeN v i := by simp [placeV, ho]
            have hen : (SVal.sl 1 false false ((allS v v.tree.length).map (SVal.int .i64))) = encI (allS v v.tree.length) := rfl
            have hin := h10 (allS v v.tree.length) i (by omega)
            have hnx' := hnx () trivial
            by_cases b1 : tabA v i = true
            · by_cases b2 : placeN v i = -1
              · obtain ⟨e1, e2⟩ := tab_item ht hn b1 b2
                have hm : (i : Int) ∈ allS v v.tree.length := by
                  obtain ⟨j1, j2⟩ := isN_iff.1 e2
                  exact mem_allS.2 ⟨(ownerN v i).toNat, by omega, by rw [show (((ownerN v i).toNat : Nat) : Int) = ownerN v i by omega]; exact e1⟩
                simp [hi, h9 v i hv ht hn, b1, h8 v i hv, o3, b2, hen, hin, hm, hw]
                simpa using hnx'
              · simp [hi, h9 v i hv ht hn, b1, h8 v i hv, o3, b2, hw]
                simpa using hnx'
            · simp [hi, h9 v i hv ht hn, b1, hw]
              simpa using hnx'
        · intro d n _ next _ hn' _ hw hnx
          have hn : isN v.tree (n : Int) = true := isN_nat hn'
          have ho : okV v n = true := okV_iff.2 ⟨hc, hn⟩
          have hnx' := hnx () trivial
          have hal := allS_len ht (v := v) n
          have hal2 : n * v.tree.length ≤ 12 * 12 := Nat.mul_le_mul (by omega) (by omega)
          have hil := items_len ht (v := v) n
          have hiv : itemsV v n = itemsS v n := by simp [itemsV, ho]
          simp [hn', h5 v n hv hl', hiv]
          refine for_list (itemsS v n) (fun i (a : List Int) => ⟨[rpV v, encI (flL v.tree), .sl 1 true false (a.map (SVal.int .i64)), int n, encI (itemsS v n), int i], [], false⟩) (fun _ _ _ => ok (.bool true)) (fun i a => a = allS v n ++ (itemsS v n).take i) (by omega) ?_ ?_ k (allS v n) (by omega) (by simp)
          · intro a next' ha
            rw [List.take_length] at ha
            subst ha
            simp [hw]
            rw [allS] at hnx'
            simpa using hnx'
          · intro i a x r next' hi hx _ ha hw' hnx2
            have hnx2' := hnx2 (a ++ [x]) (by rw [ha, List.append_assoc, ← hx, List.take_succ_eq_append_getElem hi])
            have hxm : x ∈ itemsS v n := hx ▸ List.getElem_mem hi
            obtain ⟨w1, w2, w3, w4⟩ := item_owner hxm
            have hxn := fl_is ht (item_mem.1 hxm).2.1
            have hox : okV v x = true := okV_iff.2 ⟨hc, hxn⟩
            have o1 : ownerV v x = ownerN v x := by simp [ownerV, hox]
            have o2 : indexV v x = idxA v.tree x := by simp [indexV, hox]
            have hal3 : a.length ≤ 399 := by rw [ha, List.length_append, List.length_take]; omega
            have hnot : x ∉ a := fun h => by
              rw [ha] at h
              rcases List.mem_append.1 h with h | h
              · obtain ⟨j, q1, q2⟩ := mem_allS.1 h
                have := (item_owner q2).1
                omega
              · have hnd := items_nodup ht (v := v) n
                rw [← List.take_append_drop i (itemsS v n), List.drop_eq_getElem_cons hi, hx] at hnd
                exact (List.nodup_append.1 hnd).2.2 x h x (by simp) rfl
            have hen : (SVal.sl 1 false false (a.map (SVal.int .i64))) = encI a := rfl
            have hin := h10 a x (by omega)
            have a1 := app8 (n := a.length + 1) (by omega)
            have hlt0 : ¬ idxA v.tree x < 0 := by omega
            cases i with
            | zero =>
              have hi0 : 0 < (itemsS v n).length := hi
              have hid : sIdx false 1 (encI (itemsS v n)) (int 0) = some (int x) := by have := idx_I hi; rw [hx] at this; simpa using this
              have w0 : IntKind.i64.wrap (0 + 1) = 1 := by decide
              have w0' : IntKind.i64.wrap 1 = 1 := by decide
              simp [hi0, hid, hen, hin, hnot, h6 v x hv, o1, w1, h7 v x hv, o2, hlt0, a1, w0, w0']
              simpa using hnx2'
            | succ j =>
              have hj : j < (itemsS v n).length := by omega
              have hid : sIdx false 1 (encI (itemsS v n)) (int ((j : Int) + 1)) = some (int x) := by have := idx_I hi; rw [hx] at this; simpa using this
              have hid0 := idx_I hj
              have wj : IntKind.i64.wrap (j : Int) = j := wrapS (by omega) (by omega)
              have wj1 : IntKind.i64.wrap ((j : Int) + 1 + 1) = (j : Int) + 1 + 1 := wrapS (by omega) (by omega)
              have hlt : (j : Int) + 1 < (itemsS v n).length := by omega
              have hj1 : ¬ (j : Int) + 1 = 0 := by omega
              obtain ⟨q1, q2, q3⟩ := items_order ht hi
              rw [hx] at q1 q2 q3
              have hym : (itemsS v n)[j] ∈ itemsS v n := List.getElem_mem hj
              generalize (itemsS v n)[j] = y at *
              have hoy : okV v y = true := okV_iff.2 ⟨hc, fl_is ht (item_mem.1 hym).2.1⟩
              have o2y : indexV v y = idxA v.tree y := by simp [indexV, hoy]
              have p1 := h11 (flL v.tree) x (by omega)
              have p2 := h11 (flL v.tree) y (by omega)
              generalize idxA v.tree x = b at *
              generalize idxA v.tree y = c at *
              simp [hlt, hid, hid0, hen, hin, hnot, h6 v x hv, o1, w1, h7 v x hv, h7 v y hv, o2, o2y, hlt0, a1, wj, wj1, hj1, p1, p2]
              refine (if_neg fun h => ?_).trans (by simpa using hnx2')
              by_cases c1 : c = 0
              · rw [if_pos c1] at h
                by_cases c2 : 0 < b
                · exact q1 ⟨c1, c2⟩
                · rw [if_neg c2] at h; omega
              · rw [if_neg c1] at h
                by_cases c2 : 0 < b
                · rw [if_pos c2] at h; omega
                · rw [if_neg c2] at h; omega
      · simp [h1, hs, hl, h3 v hv, hc, h2]
  · simp [h1, hs, h2]
theorem fst_before {p : Int → Bool} : ∀ (l : List Int), (fstP p l = -1 ∧ ∀ x ∈ l, p x = false) ∨ ∃ (j : Nat) (h : j < l.length), fstP p l = l[j] ∧ p l[j] = true ∧ ∀ (i : Nat) (hi : i < j), p (l[i]'(by omega)) = false
  | [] => .inl ⟨rfl, by simp⟩
  | x :: l => by
    by_cases hx : p x = true
    · exact .inr ⟨0, by simp, by simp [fstP, hx], hx, fun i hi => by omega⟩
    · rcases fst_before (p := p) l with ⟨h1, h2⟩ | ⟨j, h, h1, h2, h3⟩
      · refine .inl ⟨by simp [fstP, hx, h1], fun y hy => ?_⟩
        rcases List.mem_cons.1 hy with rfl | hy
        · simpa using hx
        · exact h2 y hy
      · refine .inr ⟨j + 1, by simpa using h, by simp [fstP, hx, h1], by simpa using h2, fun i hi => ?_⟩
        cases i with
        | zero => simpa using hx
        | succ i => simpa using h3 i (by omega)
theorem owner_at {v : View} (ht : May v.tree) {n : Int} (hn : isN v.tree n = true) : ∃ A : Nat, 1 ≤ A ∧ A ≤ (fups v.tree n).length ∧ (∀ (i : Nat) (h1 : 1 ≤ i) (h2 : i < A), ∀ h : i < (fups v.tree n).length, ownsS v (fups v.tree n)[i] = false) ∧
    ((ownerN v n = -1 ∧ A = (fups v.tree n).length) ∨ (ownerN v n ≠ -1 ∧ isN v.tree (ownerN v n) = true ∧ plF (ownerN v n) (fups v.tree n) 0 = A ∧ ownsS v (ownerN v n) = true)) := by
  have hc : fups v.tree n = n :: fups v.tree (fpar v.tree n) := fups_cons ht hn
  have hnd := (flTr ht).up_nodup n hn
  have hup := (flTr ht).upP n hn
  unfold ownerN
  generalize fups v.tree (fpar v.tree n) = q at hc
  simp only [hc, List.tail_cons, List.length_cons] at hnd hup ⊢
  rcases fst_before (p := ownsS v) q with ⟨h1, h2⟩ | ⟨j, hj, h1, h2, h3⟩
  · refine ⟨q.length + 1, by omega, Nat.le_refl _, fun i i1 i2 h => ?_, .inl ⟨h1, rfl⟩⟩
    obtain ⟨i', rfl⟩ : ∃ i', i = i' + 1 := ⟨i - 1, by omega⟩
    exact h2 _ (by simp)
  · refine ⟨j + 1, by omega, by omega, fun i i1 i2 h => ?_, .inr ?_⟩
    · obtain ⟨i', rfl⟩ : ∃ i', i = i' + 1 := ⟨i - 1, by omega⟩
      simpa using h3 i' (by omega)
    · have hm : isN v.tree q[j] = true := hup _ (List.mem_cons_of_mem _ (List.getElem_mem hj))
      rw [h1]
      refine ⟨isN_ne hm, hm, ?_, h2⟩
      have := plF_at hnd (i := j + 1) (by simpa using hj)
      simpa using this
theorem xScopesOwn : Ev fun k => ∀ (v : View) (n : Int), T k 5 [encV v, int n] = ok (.bool true) := by
  refine (sRsmallV.and (sLive16.and (sRchk.and (sRIs.and (sSOwner.and (sRiOwns.and (sSItems.and (sRaTabs.and (sRfUp.and sPlace))))))))).at 1000 fun k hk ⟨h1, h2, h3, h4, h5, h6, h7, h8, h9, h10⟩ v n => ?_
  rw [encV_eq, t5]; unfold R5
  by_cases hs : smallV v = true
  · have hv := smallV_sm hs
    by_cases hl : (12 : Int) < v.tree.length
    · simp [h1, hs, hl, h2]
    · have hl' : v.tree.length ≤ 19 := by omega
      by_cases ho : okV v n = true
      · obtain ⟨hc, hn⟩ := okV_iff.1 ho
        have ht := vmay hv hc
        have hil := items_len ht (v := v) n
        have hul := fups_le ht hn
        have hiv : itemsV v n = itemsS v n := by simp [itemsV, ho]
        have hov : ownerV v n = ownerN v n := by simp [ownerV, ho]
        obtain ⟨A, a1, a2, a3', a4⟩ := owner_at ht hn
        have a3 : ∀ (i : Nat) (h1 : 1 ≤ i) (h2 : i < A), ownsS v ((fups v.tree n)[i]'(by omega)) = false := fun i i1 i2 => a3' i i1 i2 (by omega)
        have hpl := h10 (fups v.tree n) (ownerN v n) (by omega)
        have n1 : ¬ ((fups v.tree n).length : Int) < 1 := by omega
        have n2 : ¬ ((A : Int) < 1) := by omega
        have n3 : ¬ ((fups v.tree n).length < 1) := by omega
        rcases a4 with ⟨e1, e2⟩ | ⟨e1, e0, e2, e3⟩
        · rw [e1] at hpl
          simp [h1, hs, hl, h3 v hv, hc, h4, hn, h5 v n hv, hov, h9 v.tree n ht (.inr hn), hpl, e1, n1, n3]
          rw [← e2]
          refine loop_wf (fun i : Nat => ⟨[int n, rpV v, int ((-1)), encI (fups v.tree n), int (A : Int), int i], [], false⟩) (fun _ => ok (.bool true)) (fun i => A - i) (fun i => 1 ≤ i ∧ i ≤ A) ?_ k 1 ⟨Nat.le_refl _, a1⟩ (by omega)
          rintro i ⟨i1, i2⟩ next hnx
          by_cases hi : i < A
          · have hil : i < (fups v.tree n).length := by omega
            have hxn := (flTr ht).upP n hn _ (List.getElem_mem hil)
            have hw : IntKind.i64.wrap ((i : Int) + 1) = ((i + 1 : Nat) : Int) := wrap1 (by omega)
            have hnx' := hnx (i + 1) ⟨by omega, by omega⟩ (by omega)
            simp [hi, idx_I hil, h6 v _ hv ht hxn, a3 i i1 hi, hw]
            simpa using hnx'
          · simp [hi, h7 v n hv hl', hiv]
            refine for_list (itemsS v n) (fun i (_ : Unit) => ⟨[rpV v, int ((-1)), encI (itemsS v n), int i], [], false⟩) (fun _ _ _ => ok (.bool true)) (fun _ _ => True) (by omega) ?_ ?_ k () (by omega) trivial
            · intro _ next' _
              simp [h2]
            · intro i _ x r next' hi hx _ _ hw hnx2
              have hnx2' := hnx2 () trivial
              have hxm : x ∈ itemsS v n := hx ▸ List.getElem_mem hi
              have hxn := fl_is ht (item_mem.1 hxm).2.1
              rcases (item_owner hxm).2.2.2 with w | w
              · simp [hi, idx_I hi, hx, h8 v x hv ht hxn, h6 v x hv ht hxn, w, hw]
                simpa using hnx2'
              · simp [hi, idx_I hi, hx, h8 v x hv ht hxn, h6 v x hv ht hxn, w, hw]
                simpa using hnx2'
        · simp [h1, hs, hl, h3 v hv, hc, h4, hn, h5 v n hv, hov, h9 v.tree n ht (.inr hn), hpl, e1, e2, n2]
          refine loop_wf (fun i : Nat => ⟨[int n, rpV v, int (ownerN v n), encI (fups v.tree n), int (A : Int), int i], [], false⟩) (fun _ => ok (.bool true)) (fun i => A - i) (fun i => 1 ≤ i ∧ i ≤ A) ?_ k 1 ⟨Nat.le_refl _, a1⟩ (by omega)
          rintro i ⟨i1, i2⟩ next hnx
          by_cases hi : i < A
          · have hil : i < (fups v.tree n).length := by omega
            have hxn := (flTr ht).upP n hn _ (List.getElem_mem hil)
            have hw : IntKind.i64.wrap ((i : Int) + 1) = ((i + 1 : Nat) : Int) := wrap1 (by omega)
            have hnx' := hnx (i + 1) ⟨by omega, by omega⟩ (by omega)
            simp [hi, idx_I hil, h6 v _ hv ht hxn, a3 i i1 hi, hw]
            simpa using hnx'
          · simp [hi, h7 v n hv hl', hiv]
            refine for_list (itemsS v n) (fun i (_ : Unit) => ⟨[rpV v, int (ownerN v n), encI (itemsS v n), int i], [], false⟩) (fun _ _ _ => ok (.bool true)) (fun _ _ => True) (by omega) ?_ ?_ k () (by omega) trivial
            · intro _ next' _
              simp [e1, h6 v _ hv ht e0, e3, h2]
            · intro i _ x r next' hi hx _ _ hw hnx2
              have hnx2' := hnx2 () trivial
              have hxm : x ∈ itemsS v n := hx ▸ List.getElem_mem hi
              have hxn := fl_is ht (item_mem.1 hxm).2.1
              rcases (item_owner hxm).2.2.2 with w | w
              · simp [hi, idx_I hi, hx, h8 v x hv ht hxn, h6 v x hv ht hxn, w, hw]
                simpa using hnx2'
              · simp [hi, idx_I hi, hx, h8 v x hv ht hxn, h6 v x hv ht hxn, w, hw]
                simpa using hnx2'
      · by_cases hc : chkV v = 0
        · have hn : isN v.tree n = false := by simpa [okV, hc] using ho
          simp [h1, hs, hl, h3 v hv, hc, h4, hn, h2]
        · simp [h1, hs, hl, h3 v hv, hc, h2]
  · simp [h1, hs, h2]
theorem xScopesPlaces : Ev fun k => ∀ (v : View), T k 6 [encV v] = ok (.bool true) := by
  refine (sRsmallV.and (sLive16.and (sRchk.and (sNodes.and (sSPlace.and (sPlace.and (sRfAbove.and (sSItems.and sIn)))))))).at 1000 fun k hk ⟨h1, h2, h3, h4, h5, h6, h7, h8, h9⟩ v => ?_
  rw [encV_eq, t6]; unfold R6
  by_cases hs : smallV v = true
  · have hv := smallV_sm hs
    have l3 := hv.po
    by_cases hl : (12 : Int) < v.tree.length
    · simp [h1, hs, hl, h2]
    · have hl' : v.tree.length ≤ 19 := by omega
      by_cases hc : chkV v = 0
      · have ht := vmay hv hc
        have l4 : (nodesP v.popups).length ≤ 400 := by simp [nodesP]; omega
        have hnd := pops_nodup (chkV_iff.1 hc).2
        simp [h1, hs, hl, h3 v hv, hc, h4 v.popups (by omega)]
        refine for_upto v.tree.length (fun i (_ : Unit) => ⟨[rpV v, encI (nodesP v.popups), int i], [], false⟩) (fun _ _ _ => ok (.bool true)) (fun _ _ => True) (by omega) ?_ ?_ k () (by omega) trivial
        · intro _ next _; simp [h2]
        · intro d n _ next _ hn' _ hw hnx
          have hnx' := hnx () trivial
          have hn : isN v.tree (n : Int) = true := isN_nat hn'
          have ho : okV v n = true := okV_iff.2 ⟨hc, hn⟩
          have o3 : placeV v (n : Int) = placeN v n := by simp [placeV, ho]
          have key : ∀ nx : LS → Option Res, True := fun _ => trivial
          by_cases hm : (n : Int) ∈ nodesP v.popups
          · obtain ⟨j, q1, q3⟩ := List.mem_iff_getElem.1 hm
            have q2' := plF_at hnd q1
            rw [q3] at q2'
            have hj : j < v.popups.length := by simpa [nodesP] using q1
            have hz : v.popups[j].node = n := by rw [← q3]; simp [nodesP]
            have hpf := place_first hnd (List.getElem_mem hj)
            rw [hz] at hpf
            have hj0 : ¬ (j : Int) < 0 := by omega
            by_cases hp : placeN v n = -1
            · simp [hn', h5 v n hv, o3, h6 _ _ l4, q2', hj0, hp, hw]
              simpa using hnx'
            · have hin : isN v.tree v.popups[j].invoker = true ∧ (n : Int) ∉ fups v.tree v.popups[j].invoker ∧ placeN v n = v.popups[j].invoker := by
                have hpo := (chkV_iff.1 hc).2.po _ (List.getElem_mem hj)
                simp only [popOk, Bool.and_eq_true, Bool.or_eq_true, decide_eq_true_eq] at hpo
                split at hpf
                · exact absurd hpf hp
                · rename_i h
                  rcases hpo.2 with e | e
                  · exact absurd (by rw [hpf, e]) hp
                  · exact ⟨e, fun h' => h (by simp [e, h']), hpf⟩
              obtain ⟨r1, r2, r3⟩ := hin
              have hidx := idx_P hj
              have hp' : ¬ v.popups[j].invoker = -1 := by rw [← r3]; exact hp
              simp [hn', h5 v n hv, o3, h6 _ _ l4, q2', hj0, hidx, r3, hp', h7 v.tree n _ ht r1, r2, hw]
              refine for_upto v.tree.length (fun i (_ : Unit) => ⟨[rpV v, encI (nodesP v.popups), int n, int i], [], false⟩) (fun _ _ _ => ok (.bool true)) (fun _ _ => True) (by omega) ?_ ?_ k () (by omega) trivial
              · intro _ next2 _
                simp [hw]
                simpa using hnx'
              · intro d2 i _ next2 _ hi _ hw2 hnx2
                have hnx2' := hnx2 () trivial
                have hi2 : isN v.tree (i : Int) = true := isN_nat hi
                have hoi : okV v i = true := okV_iff.2 ⟨hc, hi2⟩
                have hiv : itemsV v i = itemsS v i := by simp [itemsV, hoi]
                have hil := items_len ht (v := v) i
                have hnot : (n : Int) ∉ itemsS v i := fun h => hp (item_owner h).2.2.1
                simp [hi, h8 v i hv hl', hiv, h9 (itemsS v i) n (by omega), hnot, hw2]
                simpa using hnx2'
          · have hp := place_not hm
            have hpl := pl_none 0 hm
            simp [hn', h5 v n hv, o3, h6 _ _ l4, hpl, hp, hw]
            simpa using hnx'
      · simp [h1, hs, hl, h3 v hv, hc, h2]
  · simp [h1, hs, h2]
theorem xScopesFlat : Ev fun k => ∀ (v : View) (n : Int), T k 7 [encV v, int n] = ok (.bool true) := by
  refine (sRsmallV.and (sLive16.and (sRchk.and (sSItems.and (sRfList.and (sSIndex.and sPlace)))))).at 1000 fun k hk ⟨h1, h2, h3, h4, h5, h6, h7⟩ v n => ?_
  rw [encV_eq, t7]; unfold R7
  by_cases hs : smallV v = true
  · have hv := smallV_sm hs
    by_cases hl : (12 : Int) < v.tree.length
    · simp [h1, hs, hl, h2]
    · have hl' : v.tree.length ≤ 19 := by omega
      by_cases hc : chkV v = 0
      · have ht := vmay hv hc
        have hfl := fl_len ht
        have hm : ∀ x ∈ itemsV v n, okV v x = true ∧ x ∈ flL v.tree := fun x hx => by
          unfold itemsV at hx
          split at hx
          · have := (item_mem.1 hx).2.1; exact ⟨okV_iff.2 ⟨hc, fl_is ht this⟩, this⟩
          · simp at hx
        have hil : (itemsV v n).length ≤ v.tree.length := by
          unfold itemsV
          split
          · exact items_len ht n
          · simp
        have hsub : (∀ x ∈ itemsV v n, ¬ 0 < idxA v.tree x) → (itemsV v n).Sublist (flL v.tree) := fun h => by
          unfold itemsV at h ⊢
          split
          · rename_i ho; rw [if_pos ho] at h; exact items_flat ht h
          · exact List.nil_sublist _
        generalize hL : itemsV v n = L at *
        simp [h1, hs, hl, h3 v hv, hc, h4 v n hv hl', hL, h5 v.tree ht]
        refine for_list L (fun i (_ : Unit) => ⟨[rpV v, encI L, encI (flL v.tree), int i], [], false⟩) (fun _ _ _ => ok (.bool true)) (fun i _ => ∀ (j : Nat) (hj : j < L.length), j < i → ¬ 0 < idxA v.tree L[j]) (by omega) ?_ ?_ k () (by omega) (fun j hj h => by omega)
        · intro _ next hno
          have hS := hsub fun x hx => by
            obtain ⟨j, hj, rfl⟩ := List.mem_iff_getElem.1 hx
            exact hno j hj hj
          simp
          refine for_list L (fun i (_ : Unit) => ⟨[encI L, encI (flL v.tree), int i], [], false⟩) (fun _ _ _ => ok (.bool true)) (fun _ _ => True) (by omega) ?_ ?_ k () (by omega) trivial
          · intro _ next' _; simp [h2]
          · intro i _ x r next' hi hx _ _ hw hnx
            have hnx' := hnx () trivial
            have hxf := (hm x (hx ▸ List.getElem_mem hi)).2
            obtain ⟨p, p1, p2, _⟩ := plF_get (i := 0) hxf
            have p0 : ¬ plF x (flL v.tree) 0 < 0 := by rw [p2]; omega
            cases i with
            | zero =>
              have hi0 : 0 < L.length := hi
              have hid : sIdx false 1 (encI L) (int 0) = some (int x) := by have := idx_I hi; rw [hx] at this; simpa using this
              have w0 : IntKind.i64.wrap (0 + 1) = 1 := by decide
              have w0' : IntKind.i64.wrap 1 = 1 := by decide
              simp [hi0, hid, h7 (flL v.tree) x (by omega), p0, w0, w0']
              simpa using hnx'
            | succ j =>
              have hj : j < L.length := by omega
              have hid : sIdx false 1 (encI L) (int ((j : Int) + 1)) = some (int x) := by have := idx_I hi; rw [hx] at this; simpa using this
              have hid0 := idx_I hj
              have wj : IntKind.i64.wrap (j : Int) = j := wrapS (by omega) (by omega)
              have wj1 : IntKind.i64.wrap ((j : Int) + 1 + 1) = (j : Int) + 1 + 1 := wrapS (by omega) (by omega)
              have hlt : (j : Int) + 1 < L.length := by omega
              have hj1 : (0 : Int) < (j : Int) + 1 := by omega
              have h2s := (two_sub hi).trans hS
              rw [hx] at h2s
              have hps := (pl_sub 0 (fl_nodup ht) h2s).2
              generalize L[j] = y at *
              have p3 := h7 (flL v.tree) y (by omega)
              have p4 : ¬ plF x (flL v.tree) 0 ≤ plF y (flL v.tree) 0 := by omega
              simp [hlt, hid, hid0, h7 (flL v.tree) x (by omega), p0, p3, p4, hj1, wj, wj1]
              simpa using hnx'
        · intro i _ x r next hi hx _ hI hw hnx
          have hxo := (hm x (hx ▸ List.getElem_mem hi)).1
          have o2 : indexV v x = idxA v.tree x := by simp [indexV, hxo]
          by_cases c1 : 0 < idxA v.tree x
          · simp [hi, idx_I hi, hx, h6 v x hv, o2, c1, h2]
          · have hnx' := hnx () fun j hj hji => by
              by_cases e : j = i
              · subst e; rw [hx]; exact c1
              · exact hI j hj (by omega)
            simp [hi, idx_I hi, hx, h6 v x hv, o2, c1, hw]
            simpa using hnx'
      · simp [h1, hs, hl, h3 v hv, hc, h2]
  · simp [h1, hs, h2]
end Go.Proofs.YtjcnilaogidhlaaGreat.K
