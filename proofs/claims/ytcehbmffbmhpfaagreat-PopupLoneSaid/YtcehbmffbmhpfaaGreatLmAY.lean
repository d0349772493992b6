/- Which popups give way: what is told of it. -/
import Derived.Test.YtcehbmffbmhpfaaGreatLmAW
import Derived.Test.YtcehbmffbmhpfaaGreatLmAX
set_option linter.unusedVariables false
set_option linter.unusedSimpArgs false
set_option linter.unnecessarySimpa false
set_option linter.all false
namespace Go.Proofs.YtcehbmffbmhpfaaGreat.K
open Go Go.Lm
set_option linter.unusedSimpArgs false
theorem range_bwd {α σ : Type} {body : LS → SVal → (LS → Option α) → Option α} {done : LS → Option α} (l : List Int) (S : σ → LS) (F : List Int → σ → Option α) (Inv : Nat → σ → Prop)
    (h0 : ∀ s, Inv 0 s → done (S s) = F [] s)
    (h : ∀ (i : Nat) (s : σ) (x : Int) (r : List Int) (next : LS → Option α), x ∈ l → Inv (i + 1) s → (∀ s', Inv i s' → next (S s') = F r s') → body (S s) (.tup [int i, int x]) next = F (x :: r) s) :
    ∀ (i : Nat), i ≤ l.length → ∀ s, Inv i s → rangeN body done (bwd l i) (S s) = F (l.take i).reverse s
  | 0, _, s, hI => by simpa [bwd, rangeN] using h0 s hI
  | i + 1, hi, s, hI => by
    have hi' : i < l.length := by omega
    have hg : l.getD i 0 = l[i] := by simp [hi']
    rw [bwd, rangeN, hg, List.take_succ_eq_append_getElem hi', List.reverse_append]
    exact h i s l[i] _ _ (List.getElem_mem hi') hI fun s' hs' => range_bwd l S F Inv h0 h i (by omega) s' hs'
def kindV (v : View) (n : Int) : Int := if okV v n = true then kindP v n else 0
theorem kindV_of {v : View} {n : Int} (h : okV v n = true) : kindV v n = kindP v n := by simp [kindV, h]
theorem pop_ok {v : View} (hc : chkV v = 0) {n : Int} (h : n ∈ nodesP v.popups) : okV v n = true := by
  obtain ⟨x, hx, rfl⟩ := List.mem_map.1 h
  have h1 := (chkV_iff.1 hc).2.po x hx
  simp only [popOk, pop, isEl, Bool.and_eq_true] at h1
  exact okV_iff.2 ⟨hc, con_is h1.1.1.1⟩
theorem stk_ok {v : View} (hc : chkV v = 0) {n : Int} (h : n ∈ stkL v) : okV v n = true := pop_ok hc (stk_mem.1 h).1
theorem sPumay : Ev fun k => ∀ (v : View) (n : Int), SmV v → T k 55 [encV v, int n] = ok (.bool (okV v n)) := by
  refine sPchk.step fun k h v n hv => ?_
  rw [encV_eq, t55]; unfold R55
  by_cases hc : chkV v = 0
  · simp [h v hv, hc, okV, isN]
  · simp [h v hv, hc, okV]
theorem sPKind : Ev fun k => ∀ (v : View) (n : Int), SmV v → T k 18 [encV v, int n] = ok (int (kindV v n)) := by
  refine (sPumay.and sPGet).step fun k ⟨h1, h2⟩ v n hv => ?_
  rw [encV_eq, t18]; unfold R18
  by_cases ho : okV v n = true
  · obtain ⟨ht, hn⟩ := may_of_ok hv ho
    cases hg : getA 6 (nd v.tree n).attrs <;> simp [h1 v n hv, ho, h2 v.tree n 6 hv.tr, may_is ht hn, kindV, kindP, hg, tupG]
  · simp [h1 v n hv, ho, kindV]
theorem sRKind : Ev fun k => ∀ (v : View) (n : Int), SmV v → isN v.tree n = true → T k 23 [encV v, int n] = ok (int (kindP v n)) := by
  refine sRGet.step fun k h2 v n hv hn => ?_
  rw [encV_eq, t23]; unfold R23
  cases hg : getA 6 (nd v.tree n).attrs <;> simp [h2 v.tree n 6 hv.tr, hn, kindP, hg, tupG]
theorem sPstk : Ev fun k => ∀ (v : View), SmV v → chkV v = 0 → T k 64 [encV v] = ok (encI (stkL v)) := by
  refine sPKind.at 1000 fun k hk h1 v hv hc => ?_
  have l3 := hv.po
  rw [encV_eq, t64]; unfold R64
  simp only [weak_T, weak_I, weak_P, fold_Vv, fold_rpVv, sLen_P, Option.bind_some]
  refine (for_list v.popups (fun i (o : List Int × List Int) => ⟨[rpV v, .sl 1 true false (o.1.map (SVal.int .i64)), .sl 1 true false (o.2.map (SVal.int .i64)), encP v.popups, int v.popups.length, int i], [], false⟩) (fun r i o => ok (encI ((o.1 ++ (nodesP r).filter fun n => decide (kindP v n = 1)) ++ (o.2 ++ (nodesP r).filter fun n => decide (kindP v n = 2))))) (fun i o => o.1.length ≤ i ∧ o.2.length ≤ i) (by omega) ?_ ?_ k ([], []) (by omega) (by simp)).trans (by simp [stkL])
  · rintro ⟨a, b⟩ next ⟨ha, hb⟩
    simp only at ha hb
    have := app8 (n := a.length + b.length) (by omega)
    simp [this, nodesP]
  · rintro i ⟨a, b⟩ x r next hi hx _ ⟨ha, hb⟩ hw hnx
    simp only at ha hb
    have hxm : x.node ∈ nodesP v.popups := List.mem_map.2 ⟨x, hx ▸ List.getElem_mem hi, rfl⟩
    have hkx := kindV_of (pop_ok hc hxm)
    have a1 := app8 (n := a.length + 1) (by omega)
    have a2 := app8 (n := b.length + 1) (by omega)
    by_cases k1 : kindP v x.node = 1
    · have hnx' := hnx (a ++ [x.node], b) (by simp; omega)
      simp [hi, idx_P hi, hx, h1 v _ hv, hkx, k1, a1, hw]
      simpa [nodesP, k1] using hnx'
    · by_cases k2 : kindP v x.node = 2
      · have hnx' := hnx (a, b ++ [x.node]) (by simp; omega)
        simp [hi, idx_P hi, hx, h1 v _ hv, hkx, k2, a2, hw]
        simpa [nodesP, k2] using hnx'
      · have hnx' := hnx (a, b) (by simp; omega)
        simp [hi, idx_P hi, hx, h1 v _ hv, hkx, k1, k2, hw]
        simpa [nodesP, k1, k2] using hnx'
theorem sPlast : Ev fun k => ∀ (v : View) (f : SVal) (p : Int → Bool), SmV v → chkV v = 0 → oneS f = true → (∀ x ∈ stkL v, callV H (T k) f [int x] = some (.bool (p x))) → T (k + 1) 57 [encV v, f] = ok (int (fstP p (stkL v).reverse)) := by
  refine (sPstk.and (sBackward.and sBackward1)).mono fun k ⟨h1, h2, h3⟩ v f p hv hc hone hf => ?_
  have l3 := hv.po; have hl := stk_len v
  rw [encV_eq, t57]; unfold R57
  have e : callIt (T k) (.fn 114 [.rp [encI (stkL v)]]) = some (bwd (stkL v) (stkL v).length) := by simp only [callIt, h3 (stkL v) (by omega), Option.bind_some]
  simp only [hone, if_true, weak_T, weak_I, weak_P, fold_Vv, h1 v hv hc, h2, Option.bind_some, e]
  refine (range_bwd (stkL v) (fun _ : Unit => ⟨[.rp [f], .mb [int 0]], [], false⟩) (fun r _ => ok (int (fstP p r))) (fun _ _ => True) ?_ ?_ _ (Nat.le_refl _) () trivial).trans (by simp)
  · intro s _; simp [fstP]
  · intro i s x r next hx _ hnx
    have hfx := hf x hx
    by_cases hp : p x = true
    · simp [hfx, hp, fstP]
    · have hnx' := hnx () trivial
      simp [hfx, hp, fstP]
      simpa using hnx'
theorem sPbehind : Ev fun k => ∀ (v : View) (n : Int), SmV v → chkV v = 0 → T k 61 [encV v, int n] = ok (.sl 1 true false ((behL (stkL v) n).map (SVal.int .i64))) := by
  refine (sPstk.and (sBackward.and sBackward1)).step fun k ⟨h1, h2, h3⟩ v n hv hc => ?_
  have l3 := hv.po; have hl := stk_len v
  rw [encV_eq, t61]; unfold R61
  have e : callIt (T k) (.fn 114 [.rp [encI (stkL v)]]) = some (bwd (stkL v) (stkL v).length) := by simp only [callIt, h3 (stkL v) (by omega), Option.bind_some]
  simp only [oneS_int, if_true, weak_T, weak_I, weak_P, fold_Vv, h1 v hv hc, h2, Option.bind_some, e]
  refine (range_bwd (stkL v) (fun o : List Int => ⟨[.rp [int n], .mb [.sl 1 true false (o.map (SVal.int .i64))]], [], false⟩) (fun r o => ok (.sl 1 true false ((o ++ r.takeWhile fun k => decide (¬ k = n)).map (SVal.int .i64)))) (fun i o => o.length + i ≤ (stkL v).length) ?_ ?_ _ (Nat.le_refl _) [] (by simp)).trans (by simp [behL])
  · intro s _; simp
  · intro i s x r next hx hI hnx
    have a1 := app8 (n := s.length + 1) (by omega)
    by_cases hp : x = n
    · simp [hp]
    · have hnx' := hnx (s ++ [x]) (by simp; omega)
      simp [hp, a1]
      simpa [hp] using hnx'
theorem sPOver1 : Ev fun k => ∀ (v : View) (x : Shown) (n : Int), SmV v → callV H (T k) (.fn 58 [.rp [int x.node, int x.invoker], rpV v]) [int n] = some (.bool ((decide (¬ n = x.node) && decide (n ∈ fUp v.tree x.node)) || decide (n ∈ fUp v.tree x.invoker))) := by
  refine sPfAbove.step fun k h v x n hv => ?_
  have e : ∀ (T : Nat → List SVal → Option Res) (caps args : List SVal), callV H T (.fn 58 caps) args = (if shOks [.plain, .rp 2, .rp 5] (args ++ caps) = true then (T 58 (args ++ caps)).bind fun r => some r.r else none) := fun T caps args => by kernel_rfl
  rw [e]
  have : T (k + 1) 58 ([int n] ++ [.rp [int x.node, int x.invoker], rpV v]) = ok (.bool ((decide (¬ n = x.node) && decide (n ∈ fUp v.tree x.node)) || decide (n ∈ fUp v.tree x.invoker))) := by
    show T (k + 1) 58 [int n, .rp [int x.node, int x.invoker], .rp [encT v.tree, encI v.op, encI v.modal, encP v.popups, encI v.top]] = _
    rw [t58]; unfold R58
    by_cases h0 : n = x.node
    · simp [h v.tree _ _ hv.tr, h0]
    · by_cases h1 : n ∈ fUp v.tree x.node
      · simp [h v.tree _ _ hv.tr, h0, h1]
      · simp [h v.tree _ _ hv.tr, h0, h1]
  rw [this]; rfl
theorem over_eq {v : View} (ht : May v.tree) {x : Shown} (hn : isN v.tree x.node = true) (n : Int) : ((decide (¬ n = x.node) && decide (n ∈ fUp v.tree x.node)) || decide (n ∈ fUp v.tree x.invoker)) = overP v x n := by
  unfold overP
  rw [fUp_of ht hn]
  congr 1
  by_cases hi : isN v.tree x.invoker = true
  · rw [fUp_of ht hi, hi, Bool.true_and]
  · simp [fUp, mayN, hi]
def overV (v : View) (x : Shown) : Int := if okV v x.node = true then overL v x else -1
theorem sPOver : Ev fun k => ∀ (v : View) (x : Shown), SmV v → T k 19 [encV v, encS x] = ok (int (overV v x)) := by
  obtain ⟨k0, hall⟩ := sPumay.and (sPOver1.and sPlast)
  refine ⟨k0 + 3, fun k' hk' v x hv => ?_⟩
  obtain ⟨k, rfl⟩ : ∃ j, k' = j + 2 := ⟨k' - 2, by omega⟩
  obtain ⟨h1, _, _⟩ := hall (k + 1) (by omega)
  obtain ⟨_, h2, h3⟩ := hall k (by omega)
  rw [encV_eq, show encS x = .agg [int x.node, int x.invoker] from rfl, t19]; unfold R19
  by_cases ho : okV v x.node = true
  · obtain ⟨ht, hn⟩ := may_of_ok hv ho
    have e := h3 v (.fn 58 [.rp [int x.node, int x.invoker], rpV v]) (overP v x) hv (okV_iff.1 ho).1 rfl fun n _ => by rw [h2 v x n hv, over_eq ht hn]
    simp [h1 v _ hv, ho, e, overV, overL]
  · simp [h1 v _ hv, ho, overV]
theorem sPBefore1 : Ev fun k => ∀ (v : View) (x : Shown) (d n : Int), SmV v → callV H (T k) (.fn 62 [.rp [int x.node, int x.invoker], .rp [int d], rpV v]) [int n] = some (.bool (decide (n = x.node) || (decide (d = 2) && !decide (kindV v n = 2)))) := by
  refine sPKind.step fun k h v x d n hv => ?_
  have e : ∀ (T : Nat → List SVal → Option Res) (caps args : List SVal), callV H T (.fn 62 caps) args = (if shOks [.plain, .rp 2, .rp 1, .rp 5] (args ++ caps) = true then (T 62 (args ++ caps)).bind fun r => some r.r else none) := fun T caps args => by kernel_rfl
  rw [e]
  have : T (k + 1) 62 ([int n] ++ [.rp [int x.node, int x.invoker], .rp [int d], rpV v]) = ok (.bool (decide (n = x.node) || (decide (d = 2) && !decide (kindV v n = 2)))) := by
    show T (k + 1) 62 [int n, .rp [int x.node, int x.invoker], .rp [int d], .rp [encT v.tree, encI v.op, encI v.modal, encP v.popups, encI v.top]] = _
    rw [t62]; unfold R62
    by_cases h0 : n = x.node
    · simp [h0]
    · by_cases h1 : d = 2
      · simp [h v _ hv, h0, h1]
      · simp [h0, h1]
  rw [this]; rfl
def befV (v : View) (x : Shown) : List Int := if okV v x.node = true then befL' v x else []
theorem sPBefore : Ev fun k => ∀ (v : View) (x : Shown), SmV v → T k 20 [encV v, encS x] = ok (encI (befV v x)) := by
  obtain ⟨k0, hall⟩ := sPKind.and (sPOver.and (sPbehind.and (sPBefore1.and sDel)))
  refine ⟨k0 + 4, fun k' hk' v x hv => ?_⟩
  obtain ⟨k, rfl⟩ : ∃ j, k' = j + 3 := ⟨k' - 3, by omega⟩
  obtain ⟨h1, h2, h3, _, _⟩ := hall (k + 2) (by omega)
  obtain ⟨_, _, _, h4, h5⟩ := hall k (by omega)
  obtain ⟨_, _, _, h4', _⟩ := hall (k + 1) (by omega)
  have l3 := hv.po; have hl := stk_len v
  rw [encV_eq, show encS x = .agg [int x.node, int x.invoker] from rfl, t20]; unfold R20
  by_cases ho : okV v x.node = true
  · have hc := (okV_iff.1 ho).1
    have hlb := beh_len (stkL v) (overL v x)
    have e5 := h5 (behL (stkL v) (overL v x)) (.fn 62 [.rp [int x.node, int x.invoker], .rp [int (kindV v x.node)], rpV v]) (fun n => decide (n = x.node) || (decide (kindV v x.node = 2) && !decide (kindV v n = 2))) (by omega) (fun n _ => h4 v x _ n hv) (fun n _ => h4' v x _ n hv)
    have hkx := kindV_of ho
    have eb : ((behL (stkL v) (overL v x)).filter fun n => !(decide (n = x.node) || (decide (kindV v x.node = 2) && !decide (kindV v n = 2)))) = (behL (stkL v) (overL v x)).filter fun n => !(decide (n = x.node) || (decide (kindP v x.node = 2) && !decide (kindP v n = 2))) := by
      refine List.filter_congr fun n hn => ?_
      rw [hkx, kindV_of (stk_ok hc (beh_sub hn))]
    rw [eb] at e5
    simp only [hkx] at e5
    by_cases k1 : kindP v x.node = 1 ∨ kindP v x.node = 2
    · rcases k1 with k1 | k1
      · rw [k1] at e5
        simp [h1 v _ hv, hkx, k1, h2 v x hv, overV, ho, h3 v _ hv hc, e5, befV, befL']
      · rw [k1] at e5
        simp [h1 v _ hv, hkx, k1, h2 v x hv, overV, ho, h3 v _ hv hc, e5, befV, befL']
    · obtain ⟨k1a, k1b⟩ := not_or.1 k1
      simp [h1 v _ hv, hkx, k1a, k1b, befV, ho, befL']
  · have : kindV v x.node = 0 := by simp [kindV, ho]
    simp [h1 v _ hv, this, befV, ho]
def abvV (v : View) (n : Int) : List Int := if okV v n = true then abvL v n else []
theorem sPAbove : Ev fun k => ∀ (v : View) (n : Int), SmV v → T k 21 [encV v, int n] = ok (encI (abvV v n)) := by
  refine (sPumay.and (sPstk.and (sContains.and sPbehind))).step fun k ⟨h1, h2, h3, h4⟩ v n hv => ?_
  have l3 := hv.po; have hl := stk_len v
  rw [encV_eq, t21]; unfold R21
  by_cases ho : okV v n = true
  · have hc := (okV_iff.1 ho).1
    by_cases hm : n ∈ stkL v
    · simp [h1 v n hv, ho, h2 v hv hc, h3 (stkL v) n (by omega), hm, h4 v n hv hc, abvV, abvL]
    · simp [h1 v n hv, ho, h2 v hv hc, h3 (stkL v) n (by omega), hm, abvV, abvL]
  · simp [h1 v n hv, ho, abvV]
theorem sPLight1 : Ev fun k => ∀ (v : View) (n m : Int), SmV v → callV H (T k) (.fn 65 [rpV v, .rp [int n]]) [int m] = some (.bool (decide (m ∈ fUp v.tree n))) := by
  refine sPfAbove.step fun k h v n m hv => ?_
  have e : ∀ (T : Nat → List SVal → Option Res) (caps args : List SVal), callV H T (.fn 65 caps) args = (if shOks [.plain, .rp 5, .rp 1] (args ++ caps) = true then (T 65 (args ++ caps)).bind fun r => some r.r else none) := fun T caps args => by kernel_rfl
  rw [e]
  have : T (k + 1) 65 ([int m] ++ [rpV v, .rp [int n]]) = ok (.bool (decide (m ∈ fUp v.tree n))) := by
    show T (k + 1) 65 [int m, .rp [encT v.tree, encI v.op, encI v.modal, encP v.popups, encI v.top], .rp [int n]] = _
    rw [t65]; unfold R65
    simp [h v.tree _ _ hv.tr]
  rw [this]; rfl
def litV (v : View) (n : Int) : List Int := if okV v n = true then litL v n else []
theorem sPLight : Ev fun k => ∀ (v : View) (n : Int), SmV v → T k 22 [encV v, int n] = ok (encI (litV v n)) := by
  obtain ⟨k0, hall⟩ := sPumay.and (sPbehind.and (sPLight1.and sPlast))
  refine ⟨k0 + 3, fun k' hk' v n hv => ?_⟩
  obtain ⟨k, rfl⟩ : ∃ j, k' = j + 2 := ⟨k' - 2, by omega⟩
  obtain ⟨h1, h2, _, _⟩ := hall (k + 1) (by omega)
  obtain ⟨_, _, h3, h4⟩ := hall k (by omega)
  rw [encV_eq, t22]; unfold R22
  by_cases ho : okV v n = true
  · obtain ⟨ht, hn⟩ := may_of_ok hv ho
    have hc := (okV_iff.1 ho).1
    have e := h4 v (.fn 65 [rpV v, .rp [int n]]) (fun k => decide (k ∈ fups v.tree n)) hv hc rfl fun m _ => by rw [h3 v n m hv, fUp_of ht hn]
    simp [h1 v n hv, ho, e, h2 v _ hv hc, litV, litL]
  · simp [h1 v n hv, ho, litV]
/-! ### The document's answer -/
theorem sRstk : Ev fun k => ∀ (v : View), SmV v → chkV v = 0 → T k 33 [encV v] = ok (encI (stkL v)) := by
  refine sRKind.at 1000 fun k hk h1 v hv hc => ?_
  have l3 := hv.po
  rw [encV_eq, t33]; unfold R33
  simp only [fold_rpVv]
  have hlen : ∀ (q : Int), ((nodesP v.popups).filter fun n => decide (kindP v n = q)).length ≤ v.popups.length := fun q => Nat.le_trans (List.length_filter_le _ _) (by simp [nodesP])
  refine (loop_wf (fun p : Nat × List Int => ⟨[rpV v, .sl 1 true false (p.2.map (SVal.int .i64)), int p.1], [], false⟩) (fun p => ok (encI (p.2 ++ if p.1 = 1 then stkL v else if p.1 = 2 then (nodesP v.popups).filter (fun n => decide (kindP v n = 2)) else []))) (fun p => 3 - p.1) (fun p => (p.1 = 1 ∧ p.2 = []) ∨ (p.1 = 2 ∧ p.2.length ≤ v.popups.length) ∨ p.1 = 3) ?_ k (1, []) (.inl ⟨rfl, rfl⟩) (by simp only; omega)).trans (by simp)
  rintro ⟨q, o⟩ hq next hnx
  have key : ∀ (q : Nat), (q = 1 ∨ q = 2) → ∀ (o : List Int), o.length ≤ v.popups.length * 2 → (q = 1 → o = []) → q ≤ 2 → (∀ o', next ⟨[rpV v, .sl 1 true false (o'.map (SVal.int .i64)), int ((q + 1 : Nat) : Int)], [], false⟩ = ok (encI (o' ++ if q + 1 = 1 then stkL v else if q + 1 = 2 then (nodesP v.popups).filter (fun n => decide (kindP v n = 2)) else [])) ∨ True) → True := fun _ _ _ _ _ _ _ => trivial
  rcases hq with ⟨hq, ho⟩ | ⟨hq, ho⟩ | hq
  · simp only at hq ho
    subst hq ho
    simp only [sBin_leq, Option.bind_some]
    refine (for_list v.popups (fun i (o : List Int) => ⟨[rpV v, .sl 1 true false (o.map (SVal.int .i64)), int 1, int i], [], false⟩) (fun r i o => ok (encI (o ++ (nodesP r).filter (fun n => decide (kindP v n = 1)) ++ (nodesP v.popups).filter fun n => decide (kindP v n = 2)))) (fun i o => o.length ≤ i) (by omega) ?_ ?_ k [] (by omega) (by simp)).trans (by simp [stkL])
    · intro o next' ho
      have := hnx (2, o) (.inr (.inl ⟨rfl, ho⟩)) (by simp)
      simpa [nodesP, show IntKind.i64.wrap 2 = 2 from by decide] using this
    · intro i o x r next' hi hx _ ho hw hnx'
      have hxm : x.node ∈ nodesP v.popups := List.mem_map.2 ⟨x, hx ▸ List.getElem_mem hi, rfl⟩
      have hn := (okV_iff.1 (pop_ok hc hxm)).2
      have a1 := app8 (n := o.length + 1) (by omega)
      by_cases k1 : kindP v x.node = 1
      · have hnx2 := hnx' (o ++ [x.node]) (by simp; omega)
        simp [hi, idx_P hi, hx, h1 v _ hv hn, k1, a1, hw]
        simpa [nodesP, k1] using hnx2
      · have hnx2 := hnx' o (by omega)
        simp [hi, idx_P hi, hx, h1 v _ hv hn, k1, hw]
        simpa [nodesP, k1] using hnx2
  · simp only at hq ho
    subst hq
    simp only [sBin_leq, Option.bind_some]
    refine (for_list v.popups (fun i (o' : List Int) => ⟨[rpV v, .sl 1 true false (o'.map (SVal.int .i64)), int 2, int i], [], false⟩) (fun r i o' => ok (encI (o' ++ (nodesP r).filter (fun n => decide (kindP v n = 2))))) (fun i o' => o'.length ≤ o.length + i) (by omega) ?_ ?_ k o (by omega) (by simp)).trans (by simp)
    · intro o' next' ho'
      have := hnx (3, o') (.inr (.inr rfl)) (by simp)
      simpa [nodesP, show IntKind.i64.wrap 3 = 3 from by decide] using this
    · intro i o' x r next' hi hx _ ho' hw hnx'
      have hxm : x.node ∈ nodesP v.popups := List.mem_map.2 ⟨x, hx ▸ List.getElem_mem hi, rfl⟩
      have hn := (okV_iff.1 (pop_ok hc hxm)).2
      have a1 := app8 (n := o'.length + 1) (by omega)
      by_cases k1 : kindP v x.node = 2
      · have hnx2 := hnx' (o' ++ [x.node]) (by simp; omega)
        simp [hi, idx_P hi, hx, h1 v _ hv hn, k1, a1, hw]
        simpa [nodesP, k1] using hnx2
      · have hnx2 := hnx' o' (by omega)
        simp [hi, idx_P hi, hx, h1 v _ hv hn, k1, hw]
        simpa [nodesP, k1] using hnx2
  · simp only at hq
    subst hq
    simp
theorem fst_app {p : Int → Bool} : ∀ (a : List Int) (x : Int), fstP p (a ++ [x]) = if a.any p = true then fstP p a else if p x = true then x else -1
  | [], x => by simp [fstP]
  | y :: a, x => by
    rw [List.cons_append, fstP, fstP, fst_app a x, List.any_cons]
    by_cases hy : p y = true
    · simp [hy]
    · simp [hy]
/-- The last one, from the front. -/
def lastO (p : Int → Bool) : List Int → Int → Int
  | [], o => o
  | x :: r, o => lastO p r (if p x = true then x else o)
theorem last_eq {p : Int → Bool} : ∀ (l : List Int) (o : Int), lastO p l o = if l.any p = true then fstP p l.reverse else o
  | [], o => by simp [lastO]
  | x :: r, o => by
    rw [lastO, last_eq r, List.reverse_cons, fst_app, List.any_cons, List.any_reverse]
    by_cases hr : r.any p = true
    · simp only [hr, if_true, Bool.or_true]
    · by_cases hx : p x = true <;> simp [hr, hx]
theorem fst_none {p : Int → Bool} : ∀ {l : List Int}, ¬ l.any p = true → fstP p l = -1
  | [], _ => rfl
  | x :: r, h => by
    simp only [List.any_cons, Bool.or_eq_true, not_or] at h
    rw [fstP, if_neg h.1]; exact fst_none h.2
theorem last_fst (p : Int → Bool) (l : List Int) : lastO p l (-1) = fstP p l.reverse := by
  rw [last_eq]
  split
  · rfl
  · rename_i h; rw [fst_none (by rw [List.any_reverse]; exact h)]
theorem sRover : Ev fun k => ∀ (v : View) (x : Shown), SmV v → chkV v = 0 → isN v.tree x.node = true → T k 24 [encV v, encS x] = ok (int (overL v x)) := by
  refine (sRstk.and (sRfAbove.and sRIs)).at 1000 fun k hk ⟨h1, h2, h3⟩ v x hv hc hn => ?_
  have ht := vmay hv hc
  have l3 := hv.po; have hl := stk_len v
  rw [encV_eq, show encS x = .agg [int x.node, int x.invoker] from rfl, t24]; unfold R24
  simp only [weak_T, weak_I, weak_P, fold_Vv, fold_rpVv, h1 v hv hc, Option.bind_some]
  refine (for_list (stkL v) (fun i (o : Int) => ⟨[rpV v, .rp [int x.node, int x.invoker], int o, encI (stkL v), int i], [], false⟩) (fun r i o => ok (int (lastO (overP v x) r o))) (fun _ _ => True) (by omega) ?_ ?_ k (-1) (by omega) trivial).trans (by rw [last_fst]; rfl)
  · intro o next _; simp [lastO]
  · intro i o y r next hi hx _ _ hw hnx
    have hy : okV v y = true := stk_ok hc (hx ▸ List.getElem_mem hi)
    by_cases c1 : y = x.node
    · by_cases c3 : isN v.tree x.invoker = true
      · by_cases c4 : y ∈ fups v.tree x.invoker
        · have hp : overP v x y = true := by simp [overP, c3, c4]
          have hnx' := hnx y trivial
          rw [c1] at c4 hnx' hp
          simp [hi, idx_I hi, hx, c1, h2 v.tree _ _ ht c3, h3, c3, c4, hw, lastO, hp]
          simpa using hnx'
        · have hp : overP v x y = false := by simp [overP, c1]; intro _; rw [← c1]; exact c4
          have hnx' := hnx o trivial
          rw [c1] at c4 hp
          simp [hi, idx_I hi, hx, c1, h2 v.tree _ _ ht c3, h3, c3, c4, hw, lastO, hp]
          simpa using hnx'
      · have hp : overP v x y = false := by simp [overP, c1, c3]
        have hnx' := hnx o trivial
        rw [c1] at hp
        simp [hi, idx_I hi, hx, c1, h3, c3, hw, lastO, hp]
        simpa using hnx'
    · by_cases c2 : y ∈ fups v.tree x.node
      · have hp : overP v x y = true := by simp [overP, c1, c2]
        have hnx' := hnx y trivial
        by_cases c3 : isN v.tree x.invoker = true
        · by_cases c4 : y ∈ fups v.tree x.invoker
          · simp [hi, idx_I hi, hx, c1, h2 v.tree _ _ ht hn, c2, h2 v.tree _ _ ht c3, h3, c3, c4, hw, lastO, hp]
            simpa using hnx'
          · simp [hi, idx_I hi, hx, c1, h2 v.tree _ _ ht hn, c2, h2 v.tree _ _ ht c3, h3, c3, c4, hw, lastO, hp]
            simpa using hnx'
        · simp [hi, idx_I hi, hx, c1, h2 v.tree _ _ ht hn, c2, h3, c3, hw, lastO, hp]
          simpa using hnx'
      · by_cases c3 : isN v.tree x.invoker = true
        · by_cases c4 : y ∈ fups v.tree x.invoker
          · have hp : overP v x y = true := by simp [overP, c3, c4]
            have hnx' := hnx y trivial
            simp [hi, idx_I hi, hx, c1, h2 v.tree _ _ ht hn, c2, h2 v.tree _ _ ht c3, h3, c3, c4, hw, lastO, hp]
            simpa using hnx'
          · have hp : overP v x y = false := by simp [overP, c2, c4]
            have hnx' := hnx o trivial
            simp [hi, idx_I hi, hx, c1, h2 v.tree _ _ ht hn, c2, h2 v.tree _ _ ht c3, h3, c3, c4, hw, lastO, hp]
            simpa using hnx'
        · have hp : overP v x y = false := by simp [overP, c2, c3]
          have hnx' := hnx o trivial
          simp [hi, idx_I hi, hx, c1, h2 v.tree _ _ ht hn, c2, h3, c3, hw, lastO, hp]
          simpa using hnx'
theorem plF_lt : ∀ (l : List Int) (n : Int) (i : Nat), -1 ≤ plF n l i ∧ plF n l i < ((i + l.length : Nat) : Int) + 1
  | [], n, i => by simp only [plF, List.length_nil]; omega
  | x :: r, n, i => by
    have := plF_lt r n (i + 1)
    simp only [plF, List.length_cons]
    split <;> omega
theorem sRbehind : Ev fun k => ∀ (l : List Int) (n : Int), l.length ≤ 300 → l.Nodup → T k 67 [encI l, int n] = ok (encI (behL l n)) := by
  refine sPlace.at 1000 fun k hk h1 l n hl hnd => ?_
  rw [t67]; unfold R67
  obtain ⟨p1, p2⟩ := plF_lt l n 0
  have e0 : IntKind.i64.wrap ((l.length : Int) - 1) = (l.length : Int) - 1 := wrapS (by omega) (by omega)
  simp only [weak_I, sLen_I, Option.bind_some, sBin_sub, e0]
  refine (loop_wf (fun p : Nat × List Int => ⟨[encI l, int n, .sl 1 true false (p.2.map (SVal.int .i64)), int ((p.1 : Int) - 1)], [], false⟩) (fun p => ok (encI (p.2 ++ ((l.take p.1).drop (plF n l 0 + 1).toNat).reverse))) (fun p => p.1) (fun p => p.1 ≤ l.length ∧ p.2.length + p.1 ≤ l.length) ?_ k (l.length, []) (by simp) (by simp only; omega)).trans (by rw [beh_take hnd]; simp)
  rintro ⟨i, o⟩ ⟨hi, ho⟩ next hnx
  simp only at hi ho hnx ⊢
  have e1 := h1 l n (by omega)
  cases i with
  | zero =>
    have : ¬ plF n l 0 < -1 := by omega
    simp [e1, this]
  | succ i =>
    have hi' : i < l.length := by omega
    have hw : IntKind.i64.wrap ((i : Int) - 1) = (i : Int) - 1 := wrapS (by omega) (by omega)
    have hii : (((i + 1 : Nat) : Int) - 1) = i := by omega
    have a1 := app8 (n := o.length + 1) (by omega)
    by_cases hp : plF n l 0 < i
    · have hnx' := hnx (i, o ++ [l[i]]) (by simp only [List.length_append, List.length_cons, List.length_nil]; omega) (by simp)
      have e2 : ((l.take (i + 1)).drop (plF n l 0 + 1).toNat).reverse = l[i] :: ((l.take i).drop (plF n l 0 + 1).toNat).reverse := by
        rw [List.take_succ_eq_append_getElem hi', List.drop_append_of_le_length (by rw [List.length_take]; omega), List.reverse_append]; rfl
      rw [hii, e2]
      simp [e1, hp, idx_I hi', a1, hw]
      simpa using hnx'
    · have e2 : (l.take (i + 1)).drop (plF n l 0 + 1).toNat = [] := by
        rw [List.drop_eq_nil_iff, List.length_take]; omega
      rw [hii, e2]
      simp [e1, hp]
theorem sRBefore : Ev fun k => ∀ (v : View) (x : Shown), SmV v → chkV v = 0 → isN v.tree x.node = true → T k 26 [encV v, encS x] = ok (encI (befL' v x)) := by
  refine (sRKind.and (sRstk.and (sRover.and sRbehind))).at 1000 fun k hk ⟨h1, h2, h3, h4⟩ v x hv hc hn => ?_
  have l3 := hv.po; have hl := stk_len v
  have hlb := beh_len (stkL v) (overL v x)
  have e4 := h4 (stkL v) (overL v x) (by omega) (stk_nodup (chkV_iff.1 hc).2)
  rw [encV_eq, show encS x = .agg [int x.node, int x.invoker] from rfl, t26]; unfold R26
  by_cases k1 : kindP v x.node = 1 ∨ kindP v x.node = 2
  · have ek : (!decide (kindP v x.node = 1) && !decide (kindP v x.node = 2)) = false := by rcases k1 with e | e <;> simp [e]
    simp only [weak_T, weak_I, weak_P, fold_Vv, fold_rpVv, fold_S, h1 v _ hv hn, Option.bind_some, sBin_neq, asB_b, guard_and, ek, List.getD_cons_zero, pick_f, h2 v hv hc, h3 v x hv hc hn, e4]
    refine (for_list (behL (stkL v) (overL v x)) (fun i (o : List Int) => ⟨[rpV v, .rp [int x.node, int x.invoker], .sl 1 true false (o.map (SVal.int .i64)), int (kindP v x.node), encI (behL (stkL v) (overL v x)), int i], [], false⟩) (fun r i o => ok (encI (o ++ r.filter fun k => !(decide (k = x.node) || (decide (kindP v x.node = 2) && !decide (kindP v k = 2)))))) (fun i o => o.length ≤ i) (by omega) ?_ ?_ k [] (by omega) (by simp)).trans (by simp [befL', k1])
    · intro o next _; simp
    · intro i o y r next hi hx _ ho hw hnx
      have hy := (okV_iff.1 (stk_ok hc (beh_sub (hx ▸ List.getElem_mem hi)))).2
      have a1 := app8 (n := o.length + 1) (by omega)
      by_cases c1 : y = x.node
      · have hnx' := hnx o (by omega)
        simp [hi, idx_I hi, hx, c1, hw]
        simpa [c1] using hnx'
      · rcases k1 with k1 | k1
        · have hnx' := hnx (o ++ [y]) (by simp; omega)
          simp [hi, idx_I hi, hx, c1, k1, a1, hw]
          simpa [c1, k1] using hnx'
        · by_cases c2 : kindP v y = 2
          · have hnx' := hnx (o ++ [y]) (by simp; omega)
            simp [hi, idx_I hi, hx, c1, k1, h1 v _ hv hy, c2, a1, hw]
            simpa [c1, k1, c2] using hnx'
          · have hnx' := hnx o (by omega)
            simp [hi, idx_I hi, hx, c1, k1, h1 v _ hv hy, c2, hw]
            simpa [c1, k1, c2] using hnx'
  · obtain ⟨k1a, k1b⟩ := not_or.1 k1
    simp [h1 v _ hv hn, k1a, k1b, befL']
theorem sRAbove : Ev fun k => ∀ (v : View) (n : Int), SmV v → chkV v = 0 → T k 27 [encV v, int n] = ok (encI (abvL v n)) := by
  refine (sRstk.and (sIn.and sRbehind)).step fun k ⟨h1, h2, h3⟩ v n hv hc => ?_
  have l3 := hv.po; have hl := stk_len v
  have e3 := h3 (stkL v) n (by omega) (stk_nodup (chkV_iff.1 hc).2)
  rw [encV_eq, t27]; unfold R27
  by_cases hm : n ∈ stkL v
  · simp [h1 v hv hc, h2 (stkL v) n (by omega), hm, e3, abvL]
  · simp [h1 v hv hc, h2 (stkL v) n (by omega), hm, abvL]
theorem sRLight : Ev fun k => ∀ (v : View) (n : Int), SmV v → chkV v = 0 → isN v.tree n = true → T k 28 [encV v, int n] = ok (encI (litL v n)) := by
  refine (sRstk.and (sRfAbove.and sRbehind)).at 1000 fun k hk ⟨h1, h2, h3⟩ v n hv hc hn => ?_
  have ht := vmay hv hc
  have l3 := hv.po; have hl := stk_len v
  rw [encV_eq, t28]; unfold R28
  simp only [weak_T, weak_I, weak_P, fold_Vv, fold_rpVv, h1 v hv hc, Option.bind_some]
  refine (for_list (stkL v) (fun i (o : Int) => ⟨[int n, rpV v, encI (stkL v), int o, int i], [], false⟩) (fun r i o => ok (encI (behL (stkL v) (lastO (fun k => decide (k ∈ fups v.tree n)) r o)))) (fun _ _ => True) (by omega) ?_ ?_ k (-1) (by omega) trivial).trans (by rw [last_fst]; rfl)
  · intro o next _
    simp [lastO, h3 (stkL v) o (by omega) (stk_nodup (chkV_iff.1 hc).2)]
  · intro i o y r next hi hx _ _ hw hnx
    by_cases c1 : y ∈ fups v.tree n
    · have hnx' := hnx y trivial
      simp [hi, idx_I hi, hx, h2 v.tree _ _ ht hn, c1, hw, lastO]
      simpa using hnx'
    · have hnx' := hnx o trivial
      simp [hi, idx_I hi, hx, h2 v.tree _ _ ht hn, c1, hw, lastO]
      simpa using hnx'
end Go.Proofs.YtcehbmffbmhpfaaGreat.K
