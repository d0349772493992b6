/- Rows of rows, rows in order, what is told backwards. -/
import Derived.Test.YtcdnmiaelaombaaGreatLmAG
import Derived.Test.YtcdnmiaelaombaaGreatLmAQ
set_option linter.unusedVariables false
set_option linter.unusedSimpArgs false
set_option linter.unnecessarySimpa false
set_option linter.all false
section
namespace Go.Proofs.YtcdnmiaelaombaaGreat.K
open Go Go.Lm
set_option linter.unusedSimpArgs false
theorem sGrow : Ev fun k => ∀ (n : Nat), n ≤ 1000 → T k 116 [.sl 1 false true [], int n] = ok (.sl 1 true false []) := by
  refine Ev.pure 1000 fun k hk n hn => ?_
  rw [t116]; unfold R116
  have e0 : IntKind.i64.wrap (n : Int) = n := wrapS (by omega) (by omega)
  have e1 : IntKind.i64.wrap 0 = 0 := wrapS (by omega) (by omega)
  by_cases h : n = 0
  · subst h; simp [e1]
  · have hM : ∀ m : Nat, 0 < m → elemsM P 24 3 (.v (.sl 1 false true [])) (int m) = some (List.replicate m (int 0)) := fun m hm => by
      have a1 : isSliceT P 3 = false := by kernel_rfl
      have a2 : makeOk P 24 3 = true := by kernel_rfl
      unfold elemsM
      rw [a1, a2]
      simp [isNilS, hm]
    have hb : n * 8 ≤ maxAppend := app8 (by omega)
    have hs : sSlice 1 (.sl 1 false true []) none (some (int 0)) = some (.sl 1 false true []) := by rfl
    have hp : (0 : Int) < n := by omega
    have hz : sBnd n (int 0) = some 0 := by simp [sBnd]
    simp [show ¬ (n : Int) < 0 by omega, e0, e1, hp, hs, hM n (by omega), isNilS, hb, hz]
theorem sConcat : Ev fun k => ∀ (ls : List (List Int)), ls.length ≤ 100 → ls.flatten.length ≤ 1000 → T k 86 [encL ls] = ok (encI ls.flatten) := by
  refine sGrow.at 1000 fun k hk hg ls hl hf => ?_
  rw [t86]; unfold R86
  simp only [weak_L, sLen_L, Option.bind_some]
  refine for_list ls (fun i (c : Nat) => ⟨[encL ls, int c, encL ls, int ls.length, int i], [], false⟩) (fun r i c => ok (encI ls.flatten)) (fun i c => c + (ls.drop i).flatten.length = ls.flatten.length) (by omega) ?_ ?_ k 0 (by omega) (by simp)
  · intro c next hI
    simp only [List.drop_length, List.flatten_nil, List.length_nil] at hI
    have hgc := hg c (by omega)
    simp [hgc]
    refine for_list ls (fun i (o : List Int) => ⟨[.sl 1 true false (o.map (SVal.int .i64)), encL ls, int ls.length, int i], [], false⟩) (fun r i o => ok (encI (o ++ r.flatten))) (fun i o => o.length + (ls.drop i).flatten.length = ls.flatten.length) (by omega) ?_ ?_ k [] (by omega) (by simp) |>.trans (by simp)
    · intro o next _; simp
    · intro i o x r next hi hx hd hI2 hw hnx
      rw [hd] at hI2
      simp only [List.flatten_cons, List.length_append] at hI2
      have hd' : ls.drop (i + 1) = r := by rw [← List.drop_drop, hd]; rfl
      have hnx' := hnx (o ++ x) (by rw [hd']; simp only [List.length_append]; omega)
      have ha := app8 (n := o.length + x.length) (by omega)
      simpa [hi, idx_L hi, hx, ha, hw] using hnx'
  · intro i c x r next hi hx hd hI hw hnx
    rw [hd] at hI
    simp only [List.flatten_cons, List.length_append] at hI
    have hd' : ls.drop (i + 1) = r := by rw [← List.drop_drop, hd]; rfl
    have hnx' := hnx (c + x.length) (by rw [hd']; omega)
    have hw2 : IntKind.i64.wrap ((c : Int) + x.length) = ((c + x.length : Nat) : Int) := by rw [wrapS (by omega) (by omega)]; omega
    simp [hi, idx_L hi, hx, hw, hw2, show ¬ ((c : Int) + x.length < 0) by omega]
    simpa using hnx'
theorem sBackward1 : Ev fun k => ∀ (l : List Int), l.length ≤ 400 → T k 196 [.yld, .rp [encI l]] = some { r := .tup [], out := bwd l l.length } := by
  refine Ev.pure 1000 fun k hk l hl => ?_
  rw [t196]; unfold R196
  have e0 : IntKind.i64.wrap ((l.length : Int) - 1) = (l.length : Int) - 1 := wrapS (by omega) (by omega)
  simp only [sLen_I, Option.bind_some, sBin_sub, e0]
  refine loop_wf (fun p : Nat × List SVal => ⟨[.yld, .rp [encI l], int ((p.1 : Int) - 1)], p.2, false⟩) (fun p => (some { r := .tup [], out := p.2 ++ bwd l p.1 } : Option Res)) (fun p => p.1) (fun p => p.1 ≤ l.length) ?_ k (l.length, []) (Nat.le_refl _) (by simp only; omega)
  rintro ⟨i, o⟩ hi next hnx
  simp only at hi hnx ⊢
  cases i with
  | zero => simp [bwd]
  | succ i =>
    have hi' : i < l.length := by omega
    have hw : IntKind.i64.wrap ((i : Int) - 1) = (i : Int) - 1 := wrapS (by omega) (by omega)
    have hnx' := hnx (i, o ++ [.tup [int i, int (l.getD i 0)]]) (by omega) (by omega)
    have hg : l.getD i 0 = l[i] := by simp [hi']
    rw [hg] at hnx'
    have hii : ((i : Int) + 1 - 1) = i := by omega
    simp [hii, idx_I hi', hw, bwd, hi']
    simpa [hi'] using hnx'
theorem sBackward : Ev fun k => ∀ (l : List Int), T k 189 [encI l] = ok (.fn 196 [.rp [encI l]]) := by
  refine Ev.pure 1000 fun k hk l => ?_
  rw [t189]; unfold R189
  simp
theorem sValues1 : Ev fun k => ∀ (l : List Int), l.length ≤ 400 → T k 121 [.yld, .rp [encI l]] = some { r := .tup [], out := l.map (SVal.int .i64) } := by
  refine Ev.pure 1000 fun k hk l hl => ?_
  rw [t121]; unfold R121
  simp only [weak_I, sLen_I, Option.bind_some]
  refine for_list l (fun i (o : List Int) => ⟨[.yld, encI l, int l.length, int i], o.map (SVal.int .i64), false⟩) (fun r i o => (some { r := .tup [], out := (o ++ r).map (SVal.int .i64) } : Option Res)) (fun _ _ => True) (by omega) ?_ ?_ k [] (by omega) trivial
  · intro o next _; simp
  · intro i o x r next hi hx _ _ hw hnx
    have hnx' := hnx (o ++ [x]) trivial
    simpa [hi, idx_I hi, hx, hw] using hnx'
theorem sValues : Ev fun k => ∀ (l : List Int), T k 95 [encI l] = ok (.fn 121 [.rp [encI l]]) := by
  refine Ev.pure 1000 fun k hk l => ?_
  rw [t95]; unfold R95
  simp
theorem sort98 (k : Nat) (l : List Int) (hl : l.length ≤ 1000000) : T (k + 1) 120 [.sl 1 true false (l.map (SVal.int .i64))] = some { r := .tup [], outs := [.sl 1 true false ((sortI l).map (SVal.int .i64))] } := by
  have e : ∀ xs, T (k + 1) 120 [.sl 1 true false xs] = primSort [.sl 1 true false xs] := fun xs => by kernel_rfl
  rw [e]
  simp [primSort, intList_map, hl]
theorem sSorted : Ev fun k => ∀ (l : List Int), l.length ≤ 400 → T k 94 [.fn 121 [.rp [encI l]]] = ok (encI (sortI l)) := by
  obtain ⟨k0, hall⟩ := sValues1.and sCollect
  refine ⟨k0 + 3, fun k' hk' l hl => ?_⟩
  obtain ⟨k, rfl⟩ : ∃ j, k' = j + 3 := ⟨k' - 3, by omega⟩
  obtain ⟨h1, h2⟩ := hall k (by omega)
  have e := h2 (.fn 121 [.rp [encI l]]) l (by omega) (by simp only [callIt, h1 l hl, Option.bind_some])
  rw [t94]; unfold R94
  have e2 := sort98 (k + 1) l (by omega)
  simp [e, e2]
theorem sApart (k : Nat) (l : List Int) (hl : l.length ≤ 1000000) : T (k + 1) 96 [encI l] = ok (.bool (onceI l)) := by
  have e : ∀ xs, T (k + 1) 96 [.sl 1 false false xs] = primApart [.sl 1 false false xs] := fun xs => by kernel_rfl
  show T (k + 1) 96 [.sl 1 false false _] = _
  rw [e]
  simp only [primApart, intList_map, Option.bind_some, hl, if_true]
theorem sOnly : Ev fun k => ∀ (l : List Int) (f : SVal) (p : Int → Bool), l.length ≤ 400 → (∀ x ∈ l, callV H (T k) f [int x] = some (.bool (p x))) → T (k + 1) 85 [encI l, f] = ok (.tup [encI (l.filter p), encI (l.filter fun x => !p x)]) := by
  refine (Ev.ge 1000).mono fun k hk l f p hl hf => ?_
  rw [t85]; unfold R85; simp only [weak_I, sLen_I, Option.bind_some]
  refine for_list l (fun i (o : List Int × List Int) => ⟨[f, .sl 1 true false (o.1.map (SVal.int .i64)), .sl 1 true false (o.2.map (SVal.int .i64)), encI l, int l.length, int i], [], false⟩) (fun r i o => ok (.tup [encI (o.1 ++ r.filter p), encI (o.2 ++ r.filter fun x => !p x)])) (fun i o => o.1.length ≤ i ∧ o.2.length ≤ i) (by omega) ?_ ?_ k ([], []) (by omega) (by simp)
  · rintro ⟨o1, o2⟩ next _; simp
  · rintro i ⟨o1, o2⟩ x r next hi hx _ hI hw hnx
    simp only at hI hnx
    have hfx := hf x (hx ▸ List.getElem_mem hi)
    have a1 := app8 (n := o1.length + 1) (by omega)
    have a2 := app8 (n := o2.length + 1) (by omega)
    by_cases h : p x = true
    · have hnx' := hnx (o1 ++ [x], o2) ⟨by simp; omega, by simp only; omega⟩
      simp only [List.filter_cons, h, if_true, Bool.not_true, if_false]
      simpa [idx_I hi, hx, hi, hw, hfx, h, a1, a2] using hnx'
    · have hnx' := hnx (o1, o2 ++ [x]) ⟨by simp only; omega, by simp; omega⟩
      simp only [Bool.not_eq_true] at h
      simp only [List.filter_cons, h, Bool.false_eq_true, if_true, Bool.not_false, if_false]
      simpa [idx_I hi, hx, hi, hw, hfx, h, a1, a2] using hnx'
theorem sOnlyS : Ev fun k => ∀ (l : List Shown) (f : SVal) (p : Shown → Bool), l.length ≤ 400 → (∀ x ∈ l, callV H (T k) f [encS x] = some (.bool (p x))) → T (k + 1) 89 [encP l, f] = ok (.tup [.sl 2 true false ((l.filter p).map encS), encP (l.filter fun x => !p x)]) := by
  refine (Ev.ge 1000).mono fun k hk l f p hl hf => ?_
  rw [t89]; unfold R89; simp only [weak_P, sLen_P, Option.bind_some]
  refine for_list l (fun i (o : List Shown × List Shown) => ⟨[f, .sl 2 true false (o.1.map encS), .sl 2 true false (o.2.map encS), encP l, int l.length, int i], [], false⟩) (fun r i o => ok (.tup [.sl 2 true false ((o.1 ++ r.filter p).map encS), encP (o.2 ++ r.filter fun x => !p x)])) (fun i o => o.1.length ≤ i ∧ o.2.length ≤ i) (by omega) ?_ ?_ k ([], []) (by omega) (by simp)
  · rintro ⟨o1, o2⟩ next _; simp
  · rintro i ⟨o1, o2⟩ x r next hi hx _ hI hw hnx
    simp only at hI hnx
    have hfx := hf x (hx ▸ List.getElem_mem hi)
    have a1 := app16 (n := o1.length + 1) (by omega)
    have a2 := app16 (n := o2.length + 1) (by omega)
    by_cases h : p x = true
    · have hnx' := hnx (o1 ++ [x], o2) ⟨by simp; omega, by simp only; omega⟩
      simp only [List.filter_cons, h, if_true, Bool.not_true, if_false]
      simpa [idx_P hi, hx, hi, hw, hfx, h, a1, a2] using hnx'
    · have hnx' := hnx (o1, o2 ++ [x]) ⟨by simp only; omega, by simp; omega⟩
      simp only [Bool.not_eq_true] at h
      simp only [List.filter_cons, h, Bool.false_eq_true, if_true, Bool.not_false, if_false]
      simpa [idx_P hi, hx, hi, hw, hfx, h, a1, a2] using hnx'
theorem sEachNode : Ev fun k => ∀ (l : List Shown), l.length ≤ 400 → T k 118 [encP l, .fn 119 []] = ok (encI (nodesP l)) := by
  refine Ev.pure 1000 fun k' hk' l hl => ?_
  obtain ⟨k, rfl⟩ : ∃ j, k' = j + 1 := ⟨k' - 1, by omega⟩
  have hf : ∀ x : Shown, callV H (T (k + 1)) (.fn 119 []) [encS x] = some (int x.node) := fun x => by
    have e : ∀ (T : Nat → List SVal → Option Res) (caps args : List SVal), callV H T (.fn 119 caps) args = (if shOks [.agg [.plain, .plain]] (args ++ caps) = true then (T 119 (args ++ caps)).bind fun r => some r.r else none) := fun T caps args => by kernel_rfl
    rw [e]
    have : T (k + 1) 119 ([encS x] ++ []) = ok (int x.node) := by
      show T (k + 1) 119 [.agg [int x.node, int x.invoker]] = _
      rw [t119]; unfold R119; rfl
    rw [this]; rfl
  rw [t118]; unfold R118; simp only [weak_P, sLen_P, Option.bind_some]
  refine for_list l (fun i (o : List Int) => ⟨[.fn 119 [], .sl 1 true false (o.map (SVal.int .i64)), encP l, int l.length, int i], [], false⟩) (fun r i o => ok (encI (o ++ nodesP r))) (fun i o => o.length ≤ i) (by omega) ?_ ?_ (k + 1) [] (by omega) (by simp)
  · intro o next _; simp [nodesP]
  · intro i o x r next hi hx _ hI hw hnx
    have a1 := app8 (n := o.length + 1) (by omega)
    have hnx' := hnx (o ++ [x.node]) (by simp; omega)
    simpa [idx_P hi, hx, hi, hw, hf, a1, nodesP] using hnx'
theorem sNodes : Ev fun k => ∀ (l : List Shown), l.length ≤ 400 → T k 66 [encP l] = ok (encI (nodesP l)) := by
  refine Ev.pure 1000 fun k hk l hl => ?_
  rw [t66]; unfold R66; simp only [weak_P]
  refine for_list l (fun i (o : List Int) => ⟨[encP l, .sl 1 true false (o.map (SVal.int .i64)), int i], [], false⟩) (fun r i o => ok (encI (o ++ nodesP r))) (fun i o => o.length ≤ i) (by omega) ?_ ?_ k [] (by omega) (by simp)
  · intro o next _; simp [nodesP]
  · intro i o x r next hi hx _ hI hw hnx
    have a1 := app8 (n := o.length + 1) (by omega)
    have hnx' := hnx (o ++ [x.node]) (by simp; omega)
    simpa [idx_P hi, hx, hi, hw, a1, nodesP] using hnx'
theorem sOnce : Ev fun k => ∀ (l : List Int), l.length ≤ 400 → T k 46 [encI l] = ok (.bool (onceI l)) := by
  refine sPlace.at 1000 fun k hk h l hl => ?_
  rw [t46]; unfold R46; simp only [weak_I]
  refine for_upto l.length (fun i (_ : Unit) => ⟨[encI l, int i], [], false⟩) (fun d i _ => ok (.bool (allR (fun j => decide (plF (l.getD j 0) l 0 = j)) d i))) (fun _ _ => True) (by omega) ?_ ?_ k () (by omega) trivial |>.trans ?_
  · intro s next _; simp [allR]
  · intro d i _ next hd hi _ hw hnx
    have hnx' := hnx () trivial
    by_cases e : plF l[i] l 0 = i
    · simpa [idx_I hi, hi, hw, h _ _ hl, e, allR] using hnx'
    · simp [idx_I hi, hi, hw, h _ _ hl, e, allR]
  · have : allR (fun j => decide (plF (l.getD j 0) l 0 = j)) l.length 0 = onceI l := by
      rw [Bool.eq_iff_iff, allR_iff, onceI_iff, ← once_place l 0]
      constructor
      · intro hh j hj
        have := hh j (by omega) (by omega)
        simpa [hj] using this
      · intro hh j _ hj
        have hj' : j < l.length := by omega
        have := hh j hj'
        simpa [hj'] using this
    rw [this]
end Go.Proofs.YtcdnmiaelaombaaGreat.K
end
section
namespace Go.Proofs.YtcdnmiaelaombaaGreat.K
open Go Go.Lm
set_option linter.unusedSimpArgs false
theorem sPel : Ev fun k => ∀ (t : List Nod) (n : Int), Sm t → T k 117 [encT t, int n] = ok (.bool (isEl t n)) := by
  refine sPCon.step fun k h t n ht => ?_
  rw [t117]; unfold R117
  by_cases hc : conN t n = true
  · simp [h t n ht, hc, idx_nd (con_is hc), isEl]
  · simp [h t n ht, hc, isEl]
theorem el_is {t : List Nod} {n : Int} (h : isEl t n = true) : isN t n = true := by simp [isEl] at h; exact con_is h.1
theorem el_may {t : List Nod} {n : Int} (h : isEl t n = true) : mayN t n = true := by simp [isEl] at h; exact con_may h.1
theorem sPdlg : Ev fun k => ∀ (t : List Nod) (n : Int), Sm t → T k 88 [encT t, int n] = ok (.bool (dlg t n)) := by
  refine sPel.step fun k h t n ht => ?_
  rw [t88]; unfold R88
  by_cases hc : isEl t n = true
  · simp [h t n ht, hc, idx_nd (el_is hc), dlg]
  · simp [h t n ht, hc, dlg]
theorem sPpop : Ev fun k => ∀ (t : List Nod) (n : Int), Sm t → T k 91 [encT t, int n] = ok (.bool (pop t n)) := by
  refine (sPel.and sPHas).step fun k ⟨h, h2⟩ t n ht => ?_
  rw [t91]; unfold R91
  by_cases hc : isEl t n = true
  · simp [h t n ht, hc, h2 t n 6 ht, el_may hc, pop]
  · simp [h t n ht, hc, h2 t n 6 ht, pop]
theorem sPtis : Ev fun k => ∀ (t : List Nod) (n : Int), T k 92 [encT t, int n] = ok (.bool (isN t n)) := by
  refine Ev.pure 1000 fun k hk t n => ?_
  rw [t92]; unfold R92
  simp [isN]
theorem sPhigh : Ev fun k => ∀ (v : View), SmV v → T k 93 [encV v] = ok (encI (highL v)) := by
  refine (sEachNode.and sConcat).step fun k ⟨h1, h2⟩ v hv => ?_
  have hl := high_len hv
  have hp := hv.po
  rw [encV_eq, t93]; unfold R93
  have e := h2 [v.modal, nodesP v.popups] (by simp) (by simpa [highL] using (show (highL v).length ≤ 1000 by omega))
  simp [h1 v.popups (by omega), e, highL]
theorem sPmay1 : Ev fun k => ∀ (t : List Nod) (n : Int), Sm t → callV H (T k) (.fn 87 [.rp [encT t]]) [int n] = some (.bool (dlg t n)) := by
  refine sPdlg.step fun k h t n ht => ?_
  have e : ∀ (T : Nat → List SVal → Option Res) (caps args : List SVal), callV H T (.fn 87 caps) args = (if shOks [.plain, .rp 1] (args ++ caps) = true then (T 87 (args ++ caps)).bind fun r => some r.r else none) := fun T caps args => by kernel_rfl
  rw [e]
  have : T (k + 1) 87 ([int n] ++ [.rp [encT t]]) = ok (.bool (dlg t n)) := by
    show T (k + 1) 87 [int n, .rp [encT t]] = _
    rw [t87]; unfold R87
    simp [h t n ht]
  rw [this]; rfl
theorem sPmay2 : Ev fun k => ∀ (t : List Nod) (x : Shown), Sm t → callV H (T k) (.fn 90 [.rp [encT t]]) [encS x] = some (.bool (popOk t x)) := by
  refine (sPpop.and sPtis).step fun k ⟨h, h2⟩ t x ht => ?_
  have e : ∀ (T : Nat → List SVal → Option Res) (caps args : List SVal), callV H T (.fn 90 caps) args = (if shOks [.agg [.plain, .plain], .rp 1] (args ++ caps) = true then (T 90 (args ++ caps)).bind fun r => some r.r else none) := fun T caps args => by kernel_rfl
  rw [e]
  have : T (k + 1) 90 ([encS x] ++ [.rp [encT t]]) = ok (.bool (popOk t x)) := by
    show T (k + 1) 90 [.agg [int x.node, int x.invoker], .rp [encT t]] = _
    rw [t90]; unfold R90
    simp [h t x.node ht, h2, popOk]
  rw [this]; rfl
theorem sPmayV : Ev fun k => ∀ (v : View), SmV v → T k 69 [encV v] = ok (.bool (mayV v)) := by
  obtain ⟨k0, hall⟩ := sPmay1.and (sPmay2.and (sOnly.and (sOnlyS.and (sPhigh.and (sConcat.and (sValues.and (sSorted.and sEqual)))))))
  refine ⟨k0 + 3, fun k' hk' v hv => ?_⟩
  obtain ⟨k, rfl⟩ : ∃ j, k' = j + 3 := ⟨k' - 3, by omega⟩
  obtain ⟨_, _, _, _, h5, h6, h7, h8, h9⟩ := hall (k + 2) (by omega)
  obtain ⟨h1, h2, h3, h4, _⟩ := hall (k + 1) (by omega)
  have hl := high_len hv
  have ho := open_len hv
  have l1 := hv.op; have l2 := hv.mo; have l3 := hv.po; have l4 := hv.to
  have e1 := h6 [v.op, v.modal] (by simp) (by simp; omega)
  have e2 := h3 (v.op ++ v.modal) (.fn 87 [.rp [encT v.tree]]) (dlg v.tree) (by simp; omega) fun x _ => h1 v.tree x hv.tr
  have e3 := h4 v.popups (.fn 90 [.rp [encT v.tree]]) (popOk v.tree) (by omega) fun x _ => h2 v.tree x hv.tr
  have e4 := h6 [v.op, highL v] (by simp) (by simp only [List.flatten_cons, List.flatten_nil, List.append_nil, List.length_append]; omega)
  have e5 := sApart (k + 1) (v.op ++ highL v) (by have : (v.op ++ highL v).length ≤ 180 := ho; omega)
  have e6 := h9 (sortI (highL v)) (sortI v.top) (by rw [(sortI_perm _).length_eq]; omega)
  simp only [List.flatten_cons, List.flatten_nil, List.append_nil] at e1 e4
  rw [encV_eq, t69]; unfold R69
  simp [e1, e2, e3, h5 v hv, h7, h8 (highL v) (by omega), e4, e5, h8 v.top (by omega), e6]
  have f1 : decide (((v.op.filter fun x => !dlg v.tree x).length : Int) + (v.modal.filter fun x => !dlg v.tree x).length = 0) = (v.op ++ v.modal).all (dlg v.tree) := by
    rw [Bool.eq_iff_iff, decide_eq_true_eq, show ∀ a b : Nat, ((a : Int) + b = 0) ↔ (a = 0 ∧ b = 0) from fun a b => by omega]
    simp
  have f2 : decide (∀ a : Shown, a ∈ v.popups → popOk v.tree a = true) = v.popups.all (popOk v.tree) := by rw [Bool.eq_iff_iff]; simp
  rw [f1, f2]
  simp [mayV, openL, Bool.and_assoc]
theorem sPchk : Ev fun k => ∀ (v : View), SmV v → T k 47 [encV v] = ok (int (chkV v)) := by
  refine (sPCheck.and sPmayV).step fun k ⟨h1, h2⟩ v hv => ?_
  rw [encV_eq, t47]; unfold R47
  by_cases hm : mayT v.tree = true
  · by_cases hv2 : mayV v = true
    · simp [h1 v.tree hv.tr, h2 v hv, hm, hv2, chkV]
    · simp [h1 v.tree hv.tr, h2 v hv, hm, hv2, chkV]
  · simp [h1 v.tree hv.tr, hm, chkV]
theorem sPhst : Ev fun k => ∀ (v : View), SmV v → T k 174 [encV v] = ok (int (if chkV v = 0 then highF v.modal v.top v.top.length else -1)) := by
  refine (sPchk.and (sBackward.and (sBackward1.and sContains))).step fun k ⟨h1, h2, h3, h4⟩ v hv => ?_
  have l2 := hv.mo; have l4 := hv.to
  rw [encV_eq, t174]; unfold R174
  by_cases hc : chkV v = 0
  · have e : callIt (T k) (.fn 196 [.rp [encI v.top]]) = some (bwd v.top v.top.length) := by simp only [callIt, h3 v.top (by omega), Option.bind_some]
    simp [h1 v hv, hc, h2, e]
    have key : ∀ i, i ≤ v.top.length → rangeN (fun s5 y5 next5 =>
    (tup2 y5).bind fun z6 =>
    (T k 154 [(weak (SVal.cell s5.k0 2)), z6.2]).bind fun r7 =>
    pickC r7.r
    (if (oneS z6.2) = true then
     some { r := z6.2 }
     else none)
    (next5 ⟨[(.rp [(SVal.cell s5.k0 0), (SVal.cell s5.k0 1), (SVal.cell s5.k0 2), (SVal.cell s5.k0 3), (SVal.cell s5.k0 4)]), (.mb [s5.k1.c0])], [], false⟩)) (fun s8 =>
    some { r := (int (-1)) }) (bwd v.top i) ⟨[rpV v, (.mb [(int 0)])], [], false⟩ = ok (int (highF v.modal v.top i)) := by
      intro i
      induction i with
      | zero => intro _; simp [bwd, rangeN, highF]
      | succ i ih =>
        intro hi
        have hi' : i < v.top.length := by omega
        have ih' := ih (by omega)
        rw [highF_mem hi']
        by_cases hm : v.top[i] ∈ v.modal
        · simp [bwd, rangeN, hi', h4 _ _ (show v.modal.length ≤ 400 by omega), hm]
        · simp [bwd, rangeN, hi', h4 _ _ (show v.modal.length ≤ 400 by omega), hm]
          simpa using ih'
    exact key _ (Nat.le_refl _)
  · simp [h1 v hv, hc]
theorem sRdlg : Ev fun k => ∀ (t : List Nod) (n : Int), May t → T k 44 [encT t, int n] = ok (.bool (dlg t n)) := by
  refine (sRIs.and sRCon).step fun k ⟨h1, h2⟩ t n ht => ?_
  rw [t44]; unfold R44
  by_cases hn : isN t n = true
  · simp [h1, hn, idx_nd hn, h2 t n ht hn, dlg, isEl]
    cases conN t n <;> simp [Bool.and_comm]
  · have : conN t n = false := by rw [← Bool.not_eq_true]; exact fun h => hn (con_is h)
    simp [h1, hn, dlg, isEl, this]
theorem sRpop : Ev fun k => ∀ (t : List Nod) (n : Int), May t → T k 45 [encT t, int n] = ok (.bool (pop t n)) := by
  refine (sRIs.and (sRCon.and sRHas)).step fun k ⟨h1, h2, h3⟩ t n ht => ?_
  rw [t45]; unfold R45
  by_cases hn : isN t n = true
  · simp [h1, hn, idx_nd hn, h2 t n ht hn, h3 t n 6 ht.sm, pop, isEl]
    cases conN t n <;> simp [Bool.and_comm]
  · have : conN t n = false := by rw [← Bool.not_eq_true]; exact fun h => hn (con_is h)
    simp [h1, hn, pop, isEl, this]
theorem sRopen : Ev fun k => ∀ (v : View), SmV v → T k 43 [encV v] = ok (encI (openL v)) := by
  refine sNodes.step fun k h v hv => ?_
  have l1 := hv.op; have l2 := hv.mo; have l3 := hv.po
  rw [encV_eq, t43]; unfold R43
  have a1 := app8 (n := v.op.length) (by omega)
  have a2 := app8 (n := v.op.length + v.modal.length) (by omega)
  have a3 := app8 (n := v.op.length + v.modal.length + (nodesP v.popups).length) (by simp [nodesP]; omega)
  simp [a1, a2, h v.popups (by omega), a3]
  simp [openL, highL, encI]
theorem sRmayV : Ev fun k => ∀ (v : View), SmV v → May v.tree → T k 25 [encV v] = ok (.bool (mayV v)) := by
  refine (sRopen.and (sRdlg.and (sRpop.and (sRIs.and (sIn.and sOnce))))).at 1000 fun k hk ⟨h1, h2, h3, h4, h5, h6⟩ v hv ht => ?_
  have l1 := hv.op; have l2 := hv.mo; have l3 := hv.po; have l4 := hv.to
  have hol := open_len hv
  have hhl := high_len hv
  rw [encV_eq, t25]; unfold R25
  simp only [weak_T, weak_I, weak_P, fold_Vv, fold_rpVv, h1 v hv, Option.bind_some]
  have hw2 : IntKind.i64.wrap ((v.op.length : Int) + v.modal.length) = ((v.op.length + v.modal.length : Nat) : Int) := by rw [wrapS (by omega) (by omega)]; omega
  rw [← mayV_ref]
  have hdr : (openL v).drop v.op.length = highL v := by simp [openL]
  let tst : Nat → Int → Bool := fun i n => if i < v.op.length + v.modal.length then dlg v.tree n else pop v.tree n
  let tl : Bool := v.popups.all (fun x => decide (x.invoker = -1) || isN v.tree x.invoker) && ((highL v).all (fun n => decide (n ∈ v.top)) && (onceI (openL v) && (onceI v.top && decide (v.top.length = (highL v).length))))
  refine for_list (openL v) (fun i (_ : Unit) => ⟨[rpV v, encI (openL v), int i], [], false⟩) (fun r i _ => ok (.bool (allR (fun j => tst j ((openL v).getD j 0)) r.length i && tl))) (fun i _ => True) (by omega) ?_ ?_ k () (by omega) trivial |>.trans ?_
  · intro _ next _
    simp [allR]
    refine for_list v.popups (fun i (_ : Unit) => ⟨[rpV v, encI (openL v), int i], [], false⟩) (fun r i _ => ok (.bool (r.all (fun x => decide (x.invoker = -1) || isN v.tree x.invoker) && ((highL v).all (fun n => decide (n ∈ v.top)) && (onceI (openL v) && (onceI v.top && decide (v.top.length = (highL v).length))))))) (fun i _ => True) (by omega) ?_ ?_ k () (by omega) trivial
    · intro _ next _
      simp [sSl_I _ _ (show v.op.length ≤ (openL v).length by simp [openL]), hdr, -List.all_eq_true]
      refine for_list (highL v) (fun i (_ : Unit) => ⟨[rpV v, encI (openL v), encI (highL v), int i], [], false⟩) (fun r i _ => ok (.bool (r.all (fun n => decide (n ∈ v.top)) && (onceI (openL v) && (onceI v.top && decide (v.top.length = (highL v).length)))))) (fun i _ => True) (by omega) ?_ ?_ k () (by omega) trivial
      · intro _ next _
        have c : decide ((v.top.length : Int) = (highL v).length) = decide (v.top.length = (highL v).length) := decide_eq_decide.2 (by omega)
        simp [h6 _ (show (openL v).length ≤ 400 by omega), h6 _ (show v.top.length ≤ 400 by omega), c]
      · intro i _ x r next hi hx _ _ hw hnx
        have hnx' := hnx () trivial
        by_cases hm : x ∈ v.top
        · simpa [hi, idx_I hi, hx, hw, h5 _ _ (show v.top.length ≤ 400 by omega), hm, -List.all_eq_true] using hnx'
        · simp [hi, idx_I hi, hx, hw, h5 _ _ (show v.top.length ≤ 400 by omega), hm]
    · intro i _ x r next hi hx _ _ hw hnx
      have hnx' := hnx () trivial
      by_cases hm : x.invoker = -1
      · simpa [hi, idx_P hi, hx, hw, hm, -List.all_eq_true] using hnx'
      · by_cases hm2 : isN v.tree x.invoker = true
        · simpa [hi, idx_P hi, hx, hw, h4, hm, hm2, -List.all_eq_true] using hnx'
        · simp [hi, idx_P hi, hx, hw, h4, hm, hm2]
  · intro i _ x r next hi hx _ _ hw hnx
    have hnx' := hnx () trivial
    have hg : (openL v).getD i 0 = x := by simp [hi, hx]
    simp only [List.length_cons, allR, hg]
    by_cases hlt : i < v.op.length + v.modal.length
    · have ht1 : tst i x = dlg v.tree x := by simp [tst, hlt]
      rw [ht1]
      by_cases hm : dlg v.tree x = true
      · simpa [hi, idx_I hi, hx, hw, hw2, hlt, h2 v.tree x ht, hm, show (i : Int) < (v.op.length : Int) + v.modal.length by omega] using hnx'
      · simp [hi, idx_I hi, hx, hw, hw2, hlt, h2 v.tree x ht, hm, show (i : Int) < (v.op.length : Int) + v.modal.length by omega]
    · have ht1 : tst i x = pop v.tree x := by simp [tst, hlt]
      rw [ht1]
      by_cases hm : pop v.tree x = true
      · simpa [hi, idx_I hi, hx, hw, hw2, hlt, h3 v.tree x ht, hm, show ¬ (i : Int) < (v.op.length : Int) + v.modal.length by omega] using hnx'
      · simp [hi, idx_I hi, hx, hw, hw2, hlt, h3 v.tree x ht, hm, show ¬ (i : Int) < (v.op.length : Int) + v.modal.length by omega]
  · have hsp : allR (fun j => tst j ((openL v).getD j 0)) (openL v).length 0 = ((v.op ++ v.modal).all (dlg v.tree) && (nodesP v.popups).all (pop v.tree)) := by
      rw [Bool.eq_iff_iff, allR_iff, Bool.and_eq_true, List.all_eq_true, List.all_eq_true]
      have ho : openL v = (v.op ++ v.modal) ++ nodesP v.popups := by simp [openL, highL]
      constructor
      · intro hh
        refine ⟨fun x hx => ?_, fun x hx => ?_⟩
        · obtain ⟨j, hj, e⟩ := List.getElem_of_mem hx
          have hj' : j < v.op.length + v.modal.length := by simpa using hj
          have := hh j (by omega) (by rw [ho]; simp; omega)
          have hg : (openL v).getD j 0 = x := by
            rw [ho, List.getD_eq_getElem?_getD, List.getElem?_append_left hj, List.getElem?_eq_getElem hj, e]; rfl
          rw [hg] at this
          simpa [tst, hj'] using this
        · obtain ⟨j, hj, e⟩ := List.getElem_of_mem hx
          have := hh ((v.op ++ v.modal).length + j) (by omega) (by rw [ho]; simp; omega)
          have hg : (openL v).getD ((v.op ++ v.modal).length + j) 0 = x := by
            rw [ho, List.getD_eq_getElem?_getD, List.getElem?_append_right (by omega), Nat.add_sub_cancel_left, List.getElem?_eq_getElem hj, e]; rfl
          rw [hg] at this
          have hn : ¬ (v.op ++ v.modal).length + j < v.op.length + v.modal.length := by simp
          simpa only [tst, hn, if_false] using this
      · rintro ⟨ha, hb⟩ j _ hj
        have hj' : j < (openL v).length := by omega
        by_cases hlt : j < v.op.length + v.modal.length
        · have hm : (openL v).getD j 0 ∈ v.op ++ v.modal := by
            have h9 : j < (v.op ++ v.modal).length := by simpa using hlt
            rw [ho, List.getD_eq_getElem?_getD, List.getElem?_append_left h9, List.getElem?_eq_getElem h9, Option.getD_some]
            exact List.getElem_mem _
          simpa only [tst, hlt, if_true] using ha _ hm
        · have hm : (openL v).getD j 0 ∈ nodesP v.popups := by
            have h9 : (v.op ++ v.modal).length ≤ j := by simpa using hlt
            have h10 : j - (v.op ++ v.modal).length < (nodesP v.popups).length := by rw [ho] at hj'; simp only [List.length_append] at hj' ⊢; omega
            rw [ho, List.getD_eq_getElem?_getD, List.getElem?_append_right h9, List.getElem?_eq_getElem h10, Option.getD_some]
            exact List.getElem_mem _
          simpa only [tst, hlt, if_false] using hb _ hm
    rw [hsp]
    simp [tl, Bool.and_assoc]
theorem sRchk : Ev fun k => ∀ (v : View), SmV v → T k 10 [encV v] = ok (int (chkV v)) := by
  refine (sRMay.and sRmayV).step fun k ⟨h1, h2⟩ v hv => ?_
  rw [encV_eq, t10]; unfold R10
  by_cases hm : mayT v.tree = true
  · by_cases hv2 : mayV v = true
    · simp [h1 v.tree hv.tr, h2 v hv ⟨hv.tr, hm⟩, hm, hv2, chkV]
    · simp [h1 v.tree hv.tr, h2 v hv ⟨hv.tr, hm⟩, hm, hv2, chkV]
  · simp [h1 v.tree hv.tr, hm, chkV]
theorem sRhst : Ev fun k => ∀ (v : View), SmV v → T k 62 [encV v] = ok (int (highF v.modal v.top v.top.length)) := by
  refine sIn.at 1000 fun k hk h v hv => ?_
  have l2 := hv.mo; have l4 := hv.to
  have e0 : IntKind.i64.wrap ((v.top.length : Int) - 1) = (v.top.length : Int) - 1 := wrapS (by omega) (by omega)
  rw [encV_eq, t62]; unfold R62
  simp only [sLen_I, Option.bind_some, sBin_sub, e0, fold_rpVv]
  refine loop_wf (fun i : Nat => ⟨[rpV v, int ((i : Int) - 1)], [], false⟩) (fun i => ok (int (highF v.modal v.top i))) (fun i => i) (fun i => i ≤ v.top.length) ?_ k v.top.length (Nat.le_refl _) (by omega)
  intro i hi next hnx
  cases i with
  | zero => simp [highF]
  | succ i =>
    have hi' : i < v.top.length := by omega
    have hw : IntKind.i64.wrap ((i : Int) - 1) = (i : Int) - 1 := wrapS (by omega) (by omega)
    have hnx' := hnx i (by omega) (by omega)
    have hii : ((i : Int) + 1 - 1) = i := by omega
    rw [highF_mem hi']
    by_cases hm : v.top[i] ∈ v.modal
    · simp [hii, idx_I hi', hw, h _ _ (show v.modal.length ≤ 400 by omega), hm]
    · simp [hii, idx_I hi', hw, h _ _ (show v.modal.length ≤ 400 by omega), hm]
      simpa using hnx'
theorem sRsmallV : Ev fun k => ∀ (v : View), T k 8 [encV v] = ok (.bool (smallV v)) := by
  refine sRSmall.step fun k h v => ?_
  rw [encV_eq, t8]; unfold R8
  have c : ∀ (a b : Nat), decide ((a : Int) ≤ (b : Int)) = decide (a ≤ b) := fun a b => by simp
  have c16 := c v.tree.length 16; have c1 := c v.op.length 40; have c2 := c v.modal.length 40; have c3 := c v.popups.length 40; have c4 := c v.top.length 80
  simp only [Int.cast_ofNat_Int] at c16 c1 c2 c3 c4
  simp [h, c16, c1, c2, c3, c4, smallV, Bool.and_assoc]
end Go.Proofs.YtcdnmiaelaombaaGreat.K
end
