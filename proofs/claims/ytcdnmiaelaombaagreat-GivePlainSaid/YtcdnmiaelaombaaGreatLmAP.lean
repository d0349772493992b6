/- What the document's answer for trees tells. -/
import Derived.Test.YtcdnmiaelaombaaGreatLmAE
import Derived.Test.YtcdnmiaelaombaaGreatLmAO
set_option linter.unusedVariables false
set_option linter.unusedSimpArgs false
set_option linter.unnecessarySimpa false
set_option linter.all false
section
namespace Go.Proofs.YtcdnmiaelaombaaGreat.K
open Go Go.Lm
set_option linter.unusedSimpArgs false
theorem sRIs : Ev fun k => ∀ (t : List Nod) (n : Int), T k 11 [encT t, int n] = ok (.bool (isN t n)) := by
  refine Ev.pure 1000 fun k hk t n => ?_
  rw [t11]; unfold R11
  simp [isN]
theorem sRvalue : Ev fun k => ∀ (n v : Int), T k 83 [int n, int v] = ok (.bool (valOk n v)) := by
  refine Ev.pure 1000 fun k hk n v => ?_
  rw [t83]; unfold R83
  by_cases h0 : n = 0
  · simp [valOk, h0]
  by_cases h4 : n = 4
  · simp [valOk, h4]
  by_cases h6 : n = 6
  · simp [valOk, h6]
  by_cases h9 : n = 9
  · simp [valOk, h9]
  simp [valOk, h0, h4, h6, h9]
theorem sRAttr : Ev fun k => ∀ (n : Int) (a : Attr), T k 64 [int n, encA a] = ok (.bool (attOk n a)) := by
  refine sRvalue.step fun k h n a => ?_
  rw [show encA a = .agg [int a.name, int a.value] from rfl, t64]; unfold R64
  by_cases h1 : a.name < 0
  · simp [h, attOk, h1, show ¬ (0 ≤ a.name) by omega]
  by_cases h2 : 9 < a.name
  · simp [h, attOk, h1, h2, show ¬ (a.name ≤ 9) by omega]
  by_cases h3 : valOk a.name a.value = true
  · simp [h, attOk, h1, h2, h3, show 0 ≤ a.name by omega, show a.name ≤ 9 by omega]
    by_cases h4 : n = 3
    · simp [h4]
    · simp [h4]
  · simp [h, attOk, h1, h2, h3]
theorem sRattrs : Ev fun k => ∀ (x : Nod), x.attrs.length ≤ 400 → T k 39 [encN x] = ok (.bool (attsOk x)) := by
  refine sRAttr.at 1000 fun k hk h x hl => ?_
  rw [show encN x = .agg [int x.kind, int x.tag, int x.parent, encI x.kids, int x.host, int x.root, encAs x.attrs] from rfl, t39]; unfold R39
  simp only [fold_rpN]
  refine for_list x.attrs (fun i _ => ⟨[rpN x, int i], [], false⟩) (fun r i _ => ok (.bool (r.all (attOk x.kind) && incG (if i = 0 then none else x.attrs[i-1]?.map (·.name)) r))) (fun _ _ => True) (by omega) ?_ ?_ k () (by omega) trivial
  · intro s next _; simp [incG]
  · intro i s a r next hi hx _ _ hw hn
    have hn' := hn () trivial
    simp only [Nat.succ_ne_zero, if_false, Nat.add_sub_cancel, List.getElem?_eq_getElem hi, Option.map_some, hx] at hn'
    by_cases h0 : i = 0
    · rw [if_pos h0]
      simp [idx_As hi, hx, hi, hw, h, incG, show ¬ 0 < i by omega]
      by_cases h1 : attOk x.kind a = true
      · simpa [h1] using hn'
      · simp [h1]
    · have hp : i - 1 < x.attrs.length := by omega
      have hs : IntKind.i64.wrap ((i : Int) - 1) = ((i - 1 : Nat) : Int) := by rw [wrapS (by omega) (by omega)]; omega
      simp [idx_As hi, hx, hi, hw, h, incG, h0, hs, idx_As hp, Nat.pos_of_ne_zero h0, List.getElem?_eq_getElem hp]
      by_cases h1 : attOk x.kind a = true
      · by_cases h2 : x.attrs[i-1].name < a.name
        · simpa [h1, h2, show ¬ a.name ≤ x.attrs[i-1].name by omega] using hn'
        · simp [h1, h2, show a.name ≤ x.attrs[i-1].name by omega]
      · simp [h1]
theorem sRkids : Ev fun k => ∀ (t : List Nod) (n : Int), Sm t → isN t n = true → T k 40 [encT t, int n] = ok (.bool (kidsOk t n)) := by
  refine (sRIs.and sCount).at 1000 fun k hk ⟨hIs, hC⟩ t n ht hn => ?_
  have hkl : ∀ m, (nd t m).kids.length ≤ 400 := fun m => by have := (ht.nd m).1; omega
  rw [t40]; unfold R40
  simp only [idx_nd hn, Option.bind_some, encN_c0, encN_c1, encN_c2, encN_c3, encN_c4, encN_c5, encN_c6, weak_T, fold_rpN]
  simp
  refine for_list (nd t n).kids (fun i _ => ⟨[encT t, int n, rpN (nd t n), int i], [], false⟩) (fun r i _ => ok (.bool (r.all (kidOk t n) && (!(decide ((nd t n).kind = 2) && decide (0 < (nd t n).kids.length)) && (decide ((nd t n).parent = -1) || (isN t (nd t n).parent && decide (cntI n (nd t (nd t n).parent).kids = 1))))))) (fun _ _ => True) (by have := hkl n; omega) ?_ ?_ k () (by have := hkl n; omega) trivial |>.trans (by simp [kidsOk, Bool.and_assoc])
  · intro s next _
    simp [hIs]
    by_cases h2 : (nd t n).kind = 2 ∧ 0 < (nd t n).kids.length
    · simp [h2.1, h2.2]
    · have h2' : (!decide ((nd t n).kind = 2) || !decide (0 < (nd t n).kids.length)) = true := by
        rw [← Bool.not_and, Bool.not_eq_true', ← Bool.decide_and]; exact decide_eq_false h2
      rw [if_neg h2, h2']
      by_cases h3 : (nd t n).parent = -1
      · simp [h3]
      · by_cases h4 : isN t (nd t n).parent = true
        · simp [h3, h4, idx_nd h4, hC _ _ (hkl _)]
        · simp [h3, h4]
  · intro i s x r next hi hx _ _ hw hnx
    have hnx' := hnx () trivial
    simp [idx_I hi, hx, hi, hw, hIs, hC _ _ (hkl _)]
    by_cases h1 : isN t x = true
    · by_cases h2 : cntI x (nd t n).kids = 1
      · by_cases h3 : (nd t x).parent = n
        · by_cases h4 : (nd t x).kind = 1
          · simpa [h1, h2, idx_nd h1, h3, h4, kidOk] using hnx'
          · by_cases h5 : (nd t x).kind = 2
            · simpa [h1, h2, idx_nd h1, h3, h4, h5, kidOk] using hnx'
            · simp [h1, h2, idx_nd h1, h3, h4, h5, kidOk]
        · simp [h1, h2, idx_nd h1, h3, kidOk]
      · have h2' : ¬ ((cntI x (nd t n).kids : Int) = 1) := by omega
        simp [h1, h2, h2', kidOk]
    · simp [h1, kidOk]
end Go.Proofs.YtcdnmiaelaombaaGreat.K
end
section
namespace Go.Proofs.YtcdnmiaelaombaaGreat.K
open Go Go.Lm
set_option linter.unusedSimpArgs false
theorem sRshadow : Ev fun k => ∀ (t : List Nod) (n : Int), isN t n = true → T k 41 [encT t, int n] = ok (.bool (shadOk t n)) := by
  refine sRIs.at 1000 fun k hk hIs t n hn => ?_
  rw [t41]; unfold R41
  simp [idx_nd hn, hIs]
  by_cases h3 : (nd t n).kind = 3
  · by_cases h4 : isN t (nd t n).host = true
    · simp [shadOk, h3, h4, idx_nd h4, Bool.and_assoc]
    · simp [shadOk, h3, h4]
  · by_cases h5 : (nd t n).host = -1
    · by_cases h6 : (nd t n).root = -1
      · simp [shadOk, h3, h5, h6]
      · by_cases h4 : isN t (nd t n).root = true
        · simp [shadOk, h3, h5, h6, h4, idx_nd h4, Bool.and_assoc]
        · simp [shadOk, h3, h5, h6, h4]
    · simp [shadOk, h3, h5]
theorem sRUp : Ev fun k => ∀ (t : List Nod) (n : Int), isN t n = true → T k 63 [encT t, int n] = ok (int (upN t n)) := by
  refine Ev.pure 1000 fun k hk t n hn => ?_
  rw [t63]; unfold R63
  simp [idx_nd hn, upN]
  split <;> rfl
theorem sRends : Ev fun k => ∀ (t : List Nod) (n : Int), t.length ≤ 400 → allOk t = true → (n = -1 ∨ isN t n = true) → T k 42 [encT t, int n] = ok (.bool (endsF t (t.length + 1) n)) := by
  refine sRUp.at 1000 fun k hk hU t n hl ha hn => ?_
  rw [t42]; unfold R42; simp only [weak_T]
  refine for_upto (t.length + 1) (fun i (m : Int) => ⟨[encT t, int m, int i], [], false⟩) (fun d i m => ok (.bool (endsF t d m))) (fun i m => m = -1 ∨ isN t m = true) (by omega) ?_ ?_ k n (by omega) hn
  · intro s next _
    simp [endsF, show ¬ ((t.length : Int) + 1 ≤ t.length) by omega]
  · intro d i m next hd hi hI hw hnx
    simp [show (i : Int) ≤ t.length by omega, endsF, hw]
    by_cases h1 : m = -1
    · simp [h1]
    · have hm : isN t m = true := by rcases hI with h | h; exact absurd h h1; exact h
      have h := hnx (upN t m) (nodeOk_up (allOk_at ha hm) hm)
      simp [h1, hU t m hm, show i ≤ t.length by omega]
      simpa using h
theorem sRkind : Ev fun k => ∀ (x : Nod) (n : Int), T k 38 [encN x, int n] = ok (.bool (kndOk x n)) := by
  refine Ev.pure 1000 fun k hk x n => ?_
  rw [show encN x = .agg [int x.kind, int x.tag, int x.parent, encI x.kids, int x.host, int x.root, encAs x.attrs] from rfl, t38]; unfold R38
  by_cases h1 : x.kind < 0
  · simp [kndOk, h1, show ¬ 0 ≤ x.kind by omega]
  by_cases h2 : 3 < x.kind
  · simp [kndOk, h1, h2, show ¬ x.kind ≤ 3 by omega]
  by_cases h3 : x.kind = 1
  · simp [kndOk, h3]; by_cases h4 : n = 0 <;> simp [h4]
  · simp [kndOk, h1, h2, h3, show 0 ≤ x.kind by omega, show x.kind ≤ 3 by omega]
    by_cases h4 : n = 0 <;> by_cases h5 : x.kind = 0 <;> simp [h4, h5]
theorem sRMay : Ev fun k => ∀ (t : List Nod), Sm t → T k 24 [encT t] = ok (.bool (mayT t)) := by
  refine (sRkind.and (sRattrs.and (sRkids.and (sRshadow.and sRends)))).at 1000 fun k hk ⟨h1, h2, h3, h4, h5⟩ t ht => ?_
  rw [t24]; unfold R24
  have hl := ht.len
  by_cases ha : t.length < 1
  · simp [mayT, ha, show ¬ 1 ≤ t.length by omega, show (t.length : Int) < 1 by omega]
  by_cases hb : 64 < t.length
  · simp [mayT, ha, hb, show ¬ t.length ≤ 64 by omega, show ¬ (t.length : Int) < 1 by omega, show (64 : Int) < t.length by omega]
  simp [show ¬ (t.length : Int) < 1 by omega, show ¬ (64 : Int) < t.length by omega]
  refine for_upto t.length (fun i (_ : Unit) => ⟨[encT t, int i], [], false⟩) (fun d i _ => ok (.bool (allR (fun i => nodeOk t i) d i && allR (fun i => endsF t (t.length + 1) i) t.length 0))) (fun i _ => allR (fun j => nodeOk t j) i 0 = true) (by omega) ?_ ?_ k () (by omega) rfl |>.trans (by simp [mayT, show 1 ≤ t.length by omega, show t.length ≤ 64 by omega])
  · intro s next hI
    have hok : allOk t = true := hI
    simp [allR]
    refine for_upto t.length (fun i (_ : Unit) => ⟨[encT t, int i], [], false⟩) (fun d i _ => ok (.bool (allR (fun i => endsF t (t.length + 1) i) d i))) (fun i _ => True) (by omega) ?_ ?_ k () (by omega) trivial
    · intro s next _; simp [allR]
    · intro d i _ next hd hi _ hw hnx
      have hnx' := hnx () trivial
      simp [hi, hw, h5 t i (by omega) hok (.inr (isN_nat hi)), allR]
      by_cases h : endsF t (t.length + 1) i = true
      · simpa [h] using hnx'
      · simp [h]
  · intro d i _ next hd hi hI hw hnx
    have hn := isN_nat hi
    simp [hi, hw, idx_nd hn, h1, h2 (nd t i) (by have := (ht.nd i).2; omega), h3 t i ht hn, h4 t i hn, allR]
    by_cases hk1 : kndOk (nd t i) i = true
    · by_cases hk2 : attsOk (nd t i) = true
      · by_cases hk3 : kidsOk t i = true
        · by_cases hk4 : shadOk t i = true
          · have hno : nodeOk t i = true := by simp [nodeOk, hk1, hk2, hk3, hk4]
            have hnx' := hnx () (allR_iff.2 fun j _ hj => by
              by_cases e : j = i
              · exact e ▸ hno
              · exact allR_iff.1 hI j (by omega) (by omega))
            simpa [hk1, hk2, hk3, hk4, hno] using hnx'
          · simp [nodeOk, hk1, hk2, hk3, hk4]
        · simp [nodeOk, hk1, hk2, hk3]
      · simp [nodeOk, hk1, hk2]
    · simp [nodeOk, hk1]
theorem sRSmall : Ev fun k => ∀ (t : List Nod), T k 23 [encT t] = ok (.bool (smallT t)) := by
  refine Ev.pure 1000 fun k hk t => ?_
  rw [t23]; unfold R23; simp only [weak_T]
  by_cases hl : t.length ≤ 70
  · refine for_list t (fun i _ => ⟨[encT t, int i], [], false⟩) (fun r i _ => ok (.bool (r.all smallN))) (fun _ _ => True) (by omega) ?_ ?_ k () (by omega) trivial |>.trans (by simp [smallT, hl])
    · intro s next _; simp [hl]; omega
    · intro i _ x r next hi hx _ _ hw hnx
      have hnx' := hnx () trivial
      simp [hi, hw, idx_T hi, hx, show (t.length : Int) ≤ 70 by omega]
      by_cases h1 : x.kids.length ≤ 80
      · by_cases h2 : x.attrs.length ≤ 20
        · simpa [smallN, h1, h2, show ¬ (80 : Int) < x.kids.length by omega, show ¬ (20 : Int) < x.attrs.length by omega] using hnx'
        · simp [smallN, h1, h2, show ¬ (80 : Int) < x.kids.length by omega, show (20 : Int) < x.attrs.length by omega]
      · simp [smallN, h1, show (80 : Int) < x.kids.length by omega]
  · obtain ⟨k, rfl⟩ : ∃ j, k = j + 1 := ⟨k - 1, by omega⟩
    simp [loopN, smallT, hl, show ¬ (t.length : Int) ≤ 70 by omega]
end Go.Proofs.YtcdnmiaelaombaaGreat.K
end
section
namespace Go.Proofs.YtcdnmiaelaombaaGreat.K
open Go Go.Lm
set_option linter.unusedSimpArgs false
theorem sPin : Ev fun k => ∀ (a b c : Int), T k 113 [int a, int b, int c] = ok (.bool (decide (b ≤ a) && decide (a ≤ c))) := by
  refine Ev.pure 1000 fun k hk a b c => ?_
  rw [t113]; unfold R113
  simp
theorem sPis : Ev fun k => ∀ (t : List Nod) (n : Int), t.length ≤ 400 → T k 132 [encT t, int n] = ok (.bool (isN t n)) := by
  refine sPin.step fun k h t n hl => ?_
  rw [t132]; unfold R132
  have e : (n ≤ (t.length : Int) - 1) = (n < t.length) := by apply propext; omega
  simp [h, wrapS (n := (t.length : Int) - 1) (by omega) (by omega), isN, e]
theorem sPvalue : Ev fun k => ∀ (a : Attr), T k 155 [encA a] = ok (.bool (valOk a.name a.value)) := by
  refine sPin.step fun k h a => ?_
  rw [show encA a = .agg [int a.name, int a.value] from rfl, t155]; unfold R155
  have e : (a.value ≤ 2147483647) = (a.value < 2147483648) := by apply propext; omega
  by_cases h0 : a.name = 0
  · simp [h, valOk, h0, e]
  by_cases h4 : a.name = 4
  · simp [h, valOk, h4, e]
  by_cases h6 : a.name = 6
  · simp [h, valOk, h6]
  by_cases h9 : a.name = 9
  · simp [h, valOk, h9]
  simp [h, valOk, h0, h4, h6, h9]
theorem sPonce : Ev fun k => ∀ (l : List Int) (n : Int), l.length ≤ 400 → T k 133 [encI l, int n] = ok (.bool (decide (cntI n l = 1))) := by
  refine (sIndex.and sContains).step fun k ⟨h1, h2⟩ l n hl => ?_
  rw [t133]; unfold R133
  by_cases hm : n ∈ l
  · obtain ⟨j, hj, he, hc⟩ := plF_get (i := 0) hm
    rw [Nat.zero_add] at he
    have hw : IntKind.i64.wrap ((j : Int) + 1) = ((j + 1 : Nat) : Int) := wrap1 (by omega)
    simp only [weak_I, h1 l n hl, he, Option.bind_some, sBin_geq, sBin_add, hw, sSl_I l (j + 1) (by omega), h2 (l.drop (j + 1)) n (by simp; omega)]
    simp [show (0 : Int) ≤ j by omega, hc]
    have h5 := cnt_mem (n := n) (l := l.drop (j + 1))
    rw [Bool.eq_iff_iff]; simp [← h5]; omega
  · have : ¬ 0 ≤ plF n l 0 := fun h => hm ((plF_ge n l 0).1 h)
    have h3 : ¬ cntI n l = 1 := fun h => hm (cnt_mem.1 (by omega))
    simp [h1 l n hl, this, h3]
theorem sPbelow : Ev fun k => ∀ (t : List Nod) (n m : Int), Sm t → isN t n = true → T k 137 [encT t, int n, int m] = ok (.bool (kidOk t n m)) := by
  refine (sPis.and sPonce).step fun k ⟨h1, h2⟩ t n m ht hn => ?_
  have hl := ht.len
  rw [t137]; unfold R137
  by_cases h3 : isN t m = true
  · simp [h1 t m (by omega), h3, idx_nd hn, idx_nd h3, h2 (nd t n).kids m (by have := (ht.nd n).1; omega), kidOk, Bool.and_assoc]
  · simp [h1 t m (by omega), h3, kidOk]
theorem sPshadow : Ev fun k => ∀ (t : List Nod) (n : Int), Sm t → isN t n = true → T k 135 [encT t, int n] = ok (.bool (shadOk t n)) := by
  refine sPis.at 1000 fun k hk hIs' t n ht hn => ?_
  have hl := ht.len
  have hIs : ∀ m, T k 132 [encT t, int m] = ok (.bool (isN t m)) := fun m => hIs' t m (by omega)
  rw [t135]; unfold R135
  simp [idx_nd hn, hIs]
  by_cases h3 : (nd t n).kind = 3
  · by_cases h4 : isN t (nd t n).host = true
    · simp [shadOk, h3, h4, idx_nd h4, Bool.and_assoc]
    · simp [shadOk, h3, h4]
  · by_cases h5 : (nd t n).host = -1
    · by_cases h6 : (nd t n).root = -1
      · simp [shadOk, h3, h5, h6]
      · by_cases h4 : isN t (nd t n).root = true
        · simp [shadOk, h3, h5, h6, h4, idx_nd h4, Bool.and_assoc]
        · simp [shadOk, h3, h5, h6, h4]
    · simp [shadOk, h3, h5]
theorem sPattrs : Ev fun k => ∀ (x : Nod), x.attrs.length ≤ 400 → T k 134 [encN x] = ok (.bool (attsOk x)) := by
  refine sPvalue.at 1000 fun k hk h x hl => ?_
  rw [show encN x = .agg [int x.kind, int x.tag, int x.parent, encI x.kids, int x.host, int x.root, encAs x.attrs] from rfl, t134]; unfold R134
  simp only [fold_rpN, weak_As, sLen_As, Option.bind_some]
  refine for_list x.attrs (fun i (p : Int) => ⟨[rpN x, int p, encAs x.attrs, int x.attrs.length, int i], [], false⟩) (fun r i p => ok (.bool (r.all (attP x.kind) && incG (some p) r && (decide (x.attrs.length = 0) || decide (x.kind = 1) || decide (x.kind = 3))))) (fun _ _ => True) (by omega) ?_ ?_ k (-1) (by omega) trivial |>.trans (by rw [← attsP_eq]; rfl)
  · intro s next _
    simp [incG, Bool.or_assoc]
  · intro i p a r next hi hx _ _ hw hn
    have hn' := hn a.name trivial
    simp only [k0_mk, k1_mk, k2_mk, k3_mk, k4_mk, sBin_lss, Int.ofNat_lt, hi, decide_true, Option.bind_some, pick_t, idx_As hi, hx]
    simp [h]
    by_cases h1 : p < a.name
    · by_cases h2 : a.name < 10
      · by_cases h3 : valOk a.name a.value = true
        · by_cases h4 : (decide (a.name = 7) || decide (a.name = 8)) = decide (x.kind = 3)
          · simpa [incG, attP, h1, h2, h3, h4, hw, show ¬ a.name ≤ p by omega, show ¬ 10 ≤ a.name by omega] using hn'
          · simp [incG, attP, h1, h2, h3, h4, show ¬ a.name ≤ p by omega, show ¬ 10 ≤ a.name by omega]
        · simp [incG, attP, h1, h2, h3, show ¬ a.name ≤ p by omega, show ¬ 10 ≤ a.name by omega]
      · simp [incG, attP, h1, h2, show ¬ a.name ≤ p by omega, show 10 ≤ a.name by omega]
    · simp [incG, h1, show a.name ≤ p by omega]
theorem sPnode1 : Ev fun k => ∀ (t : List Nod) (n m : Int), Sm t → isN t n = true → callV H (T k) (.fn 136 [.rp [encT t], .rp [int n]]) [int m] = some (.bool (!kidOk t n m)) := by
  refine sPbelow.step fun k h t n m ht hn => ?_
  have e : ∀ (T : Nat → List SVal → Option Res) (caps args : List SVal), callV H T (.fn 136 caps) args = (if shOks [.plain, .rp 1, .rp 1] (args ++ caps) = true then (T 136 (args ++ caps)).bind fun r => some r.r else none) := fun T caps args => by kernel_rfl
  rw [e]
  have : T (k + 1) 136 ([int m] ++ [.rp [encT t], .rp [int n]]) = ok (.bool (!kidOk t n m)) := by
    show T (k + 1) 136 [int m, .rp [encT t], .rp [int n]] = _
    rw [t136]; unfold R136
    simp [h t n m ht hn]
  rw [this]
  simp [shOks, shOk]
theorem sPnode : Ev fun k => ∀ (t : List Nod) (n : Int), Sm t → isN t n = true → T k 114 [encT t, int n] = ok (.bool (nodeOk t n)) := by
  obtain ⟨k0, hall⟩ := sPin.and (sPis.and (sPonce.and (sPattrs.and (sPshadow.and (sPnode1.and sContainsFunc)))))
  refine ⟨k0 + 3, fun k' hk' t n ht hn => ?_⟩
  obtain ⟨k, rfl⟩ : ∃ j, k' = j + 3 := ⟨k' - 3, by omega⟩
  obtain ⟨h1, h2', h3, h4, h5, _, _⟩ := hall (k + 2) (by omega)
  obtain ⟨_, _, _, _, _, h6, h7⟩ := hall k (by omega)
  have hl := ht.len
  have h2 : ∀ m, T (k + 2) 132 [encT t, int m] = ok (.bool (isN t m)) := fun m => h2' t m (by omega)
  have hkl : ∀ m, (nd t m).kids.length ≤ 400 := fun m => by have := (ht.nd m).1; omega
  have hal : (nd t n).attrs.length ≤ 400 := by have := (ht.nd n).2; omega
  rw [t114]; unfold R114
  have e7 := h7 (nd t n).kids (.fn 136 [.rp [encT t], .rp [int n]]) (fun m => !kidOk t n m) (hkl n) (fun x _ => h6 t n x ht hn)
  have e8 : (!(nd t n).kids.any fun m => !kidOk t n m) = (nd t n).kids.all (kidOk t n) := by
    rw [← List.all_eq_not_any_not]
  simp only [one_T, oneS_int, if_true, idx_nd hn, Option.bind_some, encN_c0, encN_c1, encN_c2, encN_c3, encN_c4, encN_c5, encN_c6, weak_I, weak_As, weak_T, fold_N, e7, h4 _ hal, h5 t n ht hn]
  have fin : nodeOk t n = (kndOk (nd t n) n && attsOk (nd t n) && (!(decide ((nd t n).kind = 2) && decide (0 < (nd t n).kids.length)) && (decide ((nd t n).parent = -1) || (isN t (nd t n).parent && decide (cntI n (nd t (nd t n).parent).kids = 1)))) && (shadOk t n && (nd t n).kids.all (kidOk t n))) := by
    simp only [nodeOk, kidsOk]
    cases (nd t n).kids.all (kidOk t n) <;> cases shadOk t n <;> simp
  rw [fin, ← e8]
  clear fin h7 h6 hall
  have hpar : (((sBin .neq (int (nd t n).parent) (int (-1))).bind fun r24 => guardX r24 true ((T (k + 2) 132 [encT t, int (nd t n).parent]).bind fun r25 => (sNot r25.r).bind fun r26 => guardX r26 false ((sIdx true 7 (encT t) (int (nd t n).parent)).bind fun e27 => (T (k + 2) 133 [weak (SVal.cell e27 3), int n]).bind fun r28 => (sNot r28.r).bind fun r29 => (asB r29).bind fun b30 => some [b30]) (some [true]) none) (some [false]) none) : Option (List Bool)) = some [!(decide ((nd t n).parent = -1) || (isN t (nd t n).parent && decide (cntI n (nd t (nd t n).parent).kids = 1)))] := by
    by_cases h8 : (nd t n).parent = -1
    · simp [h8]
    · by_cases h9 : isN t (nd t n).parent = true
      · simp [h8, h2, h9, idx_nd h9, h3 _ _ (hkl _)]
      · simp [h8, h2, h9]
  rw [hpar]
  generalize hk9 : (decide ((nd t n).parent = -1) || (isN t (nd t n).parent && decide (cntI n (nd t (nd t n).parent).kids = 1))) = bp
  generalize hk10 : ((nd t n).kids.any fun m => !kidOk t n m) = ba
  simp only [h1, Option.bind_some, sNot_b, asB_b, sBin_eql, sBin_neq, sBinB_neq, sLen_I, sBin_gtr, guard_or, guard_and, guard_if, List.getD_cons_zero, kndOk]
  rw [if_pos (by simp)]
  simp only [pick_and]
  have e9 : (0 < ((nd t n).kids.length : Int)) = (0 < (nd t n).kids.length) := by apply propext; omega
  simp only [e9]
  by_cases q1 : (nd t n).kind = 1
  · simp only [q1, bne]
    simp [Bool.and_assoc]
    cases attsOk (nd t n) <;> cases shadOk t n <;> simp
  · simp only [q1, bne, bool_if]
    generalize (decide ((nd t n).kind = 2) && decide (0 < (nd t n).kids.length)) = c1
    generalize decide ((nd t n).kind = 2) = c2
    generalize decide (0 < (nd t n).kids.length) = c3
    generalize (decide ((nd t n).kind = 0) == decide (n = 0)) = c4
    generalize decide ((nd t n).tag = 0) = c5
    generalize decide (0 ≤ (nd t n).kind) = c6
    generalize decide ((nd t n).kind ≤ 3) = c7
    simp
    cases c4 <;> cases c5 <;> cases c6 <;> cases c7 <;> cases attsOk (nd t n) <;> cases shadOk t n <;> simp [Bool.and_assoc]
theorem sPup1 : Ev fun k => ∀ (t : List Nod) (n : Int), Sm t → allOk t = true → (n = -1 ∨ isN t n = true) → T k 156 [.yld, .rp [encT t], .mb [int n]] = some { r := .tup [], out := (walkF t (t.length + 1) n).map (SVal.int .i64) } := by
  refine Ev.pure 1000 fun k hk t n ht ha hn => ?_
  have hl := ht.len
  rw [t156]; unfold R156
  simp only [sLen_T, Option.bind_some, sBin_add, wrap1 (i := t.length) (by omega)]
  refine for_upto (t.length + 1) (fun i (p : Int × List Int) => ⟨[.yld, .rp [encT t], .mb [int p.1], int (t.length + 1 : Nat), int i], p.2.map (SVal.int .i64), false⟩) (fun d i p => some { r := .tup [], out := (p.2 ++ walkF t d p.1).map (SVal.int .i64) }) (fun i p => p.1 = -1 ∨ isN t p.1 = true) (by omega) ?_ ?_ k (n, []) (by omega) hn |>.trans (by simp)
  · rintro ⟨m, o⟩ next _
    simp [walkF]
  · rintro d i ⟨m, o⟩ next hd hi hI hw hnx
    simp only at hI hnx ⊢
    by_cases h1 : m = -1
    · simp [h1, walkF, show (i : Int) < t.length + 1 by omega]
    · have hm : isN t m = true := by rcases hI with h | h; exact absurd h h1; exact h
      have hno := allOk_at ha hm
      have hnx' := hnx (upN t m, o ++ [m]) (nodeOk_up hno hm)
      have hmx := up_max hno
      simp [show (i : Int) < t.length + 1 by omega, h1, idx_nd hm, hw, hmx, walkF]
      simpa using hnx'
theorem sPup : Ev fun k => ∀ (t : List Nod) (n : Int), T k 138 [encT t, int n] = ok (.fn 156 [.rp [encT t], .mb [int n]]) := by
  refine Ev.pure 1000 fun k hk t n => ?_
  rw [t138]; unfold R138
  simp
theorem sPturns : Ev fun k => ∀ (t : List Nod) (n : Int), Sm t → allOk t = true → (n = -1 ∨ isN t n = true) → T k 115 [encT t, int n] = ok (.bool (!endsF t (t.length + 1) n)) := by
  refine (sPup.and sPup1).at 1000 fun k hk ⟨h1, h2⟩ t n ht ha hn => ?_
  have hl := ht.len
  rw [t115]; unfold R115
  have e : callIt (T k) (.fn 156 [.rp [encT t], .mb [int n]]) = some ((walkF t (t.length + 1) n).map (SVal.int .i64)) := by
    simp only [callIt, h2 t n ht ha hn, Option.bind_some]
  simp only [weak_T, h1, Option.bind_some, e]
  have hlen := walk_len (t := t) (t.length + 1) n
  have key : ∀ (l : List Int) (c : Nat), c + l.length ≤ 1000 → rangeN (fun s3 y3 next3 => (notTup y3).bind fun z4 => (sBin .add s3.k1.c0 (.int .i64 1)).bind fun r5 => if (oneS r5) = true then next3 ⟨[(weak s3.k0), (.mb [r5])], [], false⟩ else none) (fun s6 => (sLen s6.k0).bind fun r7 => (sBin .gtr s6.k1.c0 r7).bind fun r8 => some { r := r8 }) (l.map (SVal.int .i64)) ⟨[encT t, .mb [int c]], [], false⟩ = ok (.bool (decide (t.length < c + l.length))) := by
    intro l
    induction l with
    | nil => intro c _; simp [rangeN]
    | cons x l ih =>
      intro c hc
      simp only [List.length_cons] at hc
      simp [rangeN, wrap1 (i := c) (by omega)]
      have := ih (c + 1) (by omega)
      simpa [Nat.add_assoc, Nat.add_comm 1] using this
  refine (key _ 0 (by omega)).trans ?_
  rw [walk_ends]
  have e2 : ∀ a b : Nat, decide (a < 0 + b) = !decide (b ≤ a) := fun a b => by rw [Bool.eq_iff_iff]; simp
  rw [e2]
theorem sPmay : Ev fun k => ∀ (t : List Nod), Sm t → T k 84 [encT t] = ok (.bool (mayT t)) := by
  refine (sPin.and (sPnode.and sPturns)).at 1000 fun k hk ⟨h1, h2, h3⟩ t ht => ?_
  rw [t84]; unfold R84
  have hl := ht.len
  simp only [sLen_T, Option.bind_some, h1, sNot_b]
  by_cases ha : t.length < 1
  · simp [mayT, show ¬ 1 ≤ t.length by omega, show ¬ (1 : Int) ≤ t.length by omega]
  by_cases hb : 64 < t.length
  · simp [mayT, show ¬ t.length ≤ 64 by omega, show ¬ (t.length : Int) ≤ 64 by omega]
  simp [show (1 : Int) ≤ t.length by omega, show (t.length : Int) ≤ 64 by omega]
  refine for_upto t.length (fun i (_ : Unit) => ⟨[encT t, int t.length, int i], [], false⟩) (fun d i _ => ok (.bool (allR (fun i => nodeOk t i) d i && allR (fun i => endsF t (t.length + 1) i) t.length 0))) (fun i _ => allR (fun j => nodeOk t j) i 0 = true) (by omega) ?_ ?_ k () (by omega) rfl |>.trans (by simp [mayT, show 1 ≤ t.length by omega, show t.length ≤ 64 by omega])
  · intro s next hI
    have hok : allOk t = true := hI
    simp [allR]
    refine for_upto t.length (fun i (_ : Unit) => ⟨[encT t, int t.length, int i], [], false⟩) (fun d i _ => ok (.bool (allR (fun i => endsF t (t.length + 1) i) d i))) (fun i _ => True) (by omega) ?_ ?_ k () (by omega) trivial
    · intro s next _; simp [allR]
    · intro d i _ next hd hi _ hw hnx
      have hnx' := hnx () trivial
      simp [hi, hw, h3 t i ht hok (.inr (isN_nat hi)), allR]
      by_cases h : endsF t (t.length + 1) i = true
      · simpa [h] using hnx'
      · simp [h]
  · intro d i _ next hd hi hI hw hnx
    have hn := isN_nat hi
    simp [hi, hw, h2 t i ht hn, allR]
    by_cases hno : nodeOk t i = true
    · have hnx' := hnx () (allR_iff.2 fun j _ hj => by
        by_cases e : j = i
        · exact e ▸ hno
        · exact allR_iff.1 hI j (by omega) (by omega))
      simpa [hno] using hnx'
    · simp [hno]
theorem sPCheck : Ev fun k => ∀ (t : List Nod), Sm t → T k 68 [encT t] = ok (int (if mayT t = true then 0 else 1)) := by
  refine sPmay.step fun k h t ht => ?_
  rw [t68]; unfold R68
  simp [h t ht]
  split <;> simp_all
theorem clone1 (k : Nat) (xs : List SVal) (h : xs.length ≤ 1000000) : T (k + 1) 73 [.sl 1 false false xs] = ok (.sl 1 true false xs) := by
  have e : T (k + 1) 73 [.sl 1 false false xs] = primClone 1 [.sl 1 false false xs] := by kernel_rfl
  rw [e]; simp [primClone, h]
end Go.Proofs.YtcdnmiaelaombaaGreat.K
end
