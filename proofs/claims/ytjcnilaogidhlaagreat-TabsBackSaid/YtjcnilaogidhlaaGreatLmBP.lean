/- Tabs: whom the tab key reaches; the program's answer. -/
import Derived.Test.YtjcnilaogidhlaaGreatLmBN
import Derived.Test.YtjcnilaogidhlaaGreatLmBO
set_option linter.unusedVariables false
set_option linter.unusedSimpArgs false
set_option linter.unnecessarySimpa false
set_option linter.all false
section
namespace Go.Proofs.YtjcnilaogidhlaaGreat.K
open Go Go.Lm
set_option linter.unusedSimpArgs false
theorem sTone1 {k0 f k : Nat} {v : View} {c : Int} (h7 : T k 45 [encV v, int c] = ok (.bool (tabA v c))) (hs : T k 109 [encV v, int c, .yld] = some { r := .bool true, out := (scP v f c).map (SVal.int .i64) }) : T (k + 1) 155 [encV v, int c, .yld] = some { r := .bool true, out := (oneL v f c).map (SVal.int .i64) } := by
  rw [encV_eq, t155]; unfold R155
  by_cases b1 : tabA v c = true
  · simp [h7, b1, hs, oneL]
  · simp [h7, b1, hs, oneL]
theorem sTscope : ∃ k0, ∀ (f d k : Nat) (v : View) (o : Int), k0 + 2 * f ≤ k → SmV v → chkV v = 0 → v.tree.length ≤ 19 → itP v d o = 0 → v.tree.length ≤ d + f → T k 109 [encV v, int o, .yld] = some { r := .bool true, out := (scP v f o).map (SVal.int .i64) } := by
  obtain ⟨k1, h1⟩ := sSItems.and (sSPlace.and sATabs)
  refine ⟨k1 + 1000, fun f => ?_⟩
  induction f with
  | zero => intro d k v o _ hv hc hl hd hle; have := it_le (vmay hv hc) (popsOk (vmay hv hc) (chkV_iff.1 hc).2) hd; omega
  | succ f ih =>
    intro d k' v o hk hv hc hlen hd hle
    obtain ⟨k, rfl⟩ : ∃ j, k' = j + 2 := ⟨k' - 2, by omega⟩
    obtain ⟨q1, q2, _⟩ := h1 (k + 1) (by omega)
    obtain ⟨_, _, q3⟩ := h1 k (by omega)
    have ht := vmay hv hc
    have hp := popsOk ht (chkV_iff.1 hc).2
    have hnd := pops_nodup (chkV_iff.1 hc).2
    have hn := it_is ht hd
    have ho : okV v o = true := okV_iff.2 ⟨hc, hn⟩
    have hiv : itemsV v o = itemsS v o := by simp [itemsV, ho]
    have hil := items_len ht (v := v) o
    have l3 := hv.po
    have one : ∀ c, c ∈ chS v o → T (k + 1) 155 [encV v, int c, .yld] = some { r := .bool true, out := (oneL v f c).map (SVal.int .i64) } := fun c hcm => by
      obtain ⟨c1, c2⟩ := ch_par ht hp hcm
      have hdc : itP v (d + 1) c = 0 := by rw [itP, c2]; exact hd
      have hoc : okV v c = true := okV_iff.2 ⟨hc, c1⟩
      exact sTone1 (k0 := 0) (by rw [q3 v c hv]; simp [hoc]) (ih (d + 1) k v c (by omega) hv hc hlen hdc (by omega))
    rw [encV_eq, t109]; unfold R109
    simp only [weak_T, weak_I, weak_P, fold_Vv, fold_rpVv, q1 v o hv hlen, hiv, Option.bind_some, sLen_I]
    have htot := sc_pieces v f o
    generalize hTOT : scP v (f + 1) o = TOT at *
    refine for_list (itemsS v o) (fun i (a : List SVal) => ⟨[.yld, rpV v, encI (itemsS v o), int (itemsS v o).length, int i], a, false⟩) (fun _ _ _ => (some { r := .bool true, out := TOT.map (SVal.int .i64) } : Option Res)) (fun i a => a ++ (((itemsS v o).drop i).flatMap (pcL v f)).map (SVal.int .i64) = TOT.map (SVal.int .i64)) (by omega) ?_ ?_ (k + 1) [] (by omega) (by simp [htot])
    · intro a next ha
      rw [List.drop_length] at ha
      simp only [List.flatMap_nil, List.map_nil, List.append_nil] at ha
      subst ha
      simp
    · intro i a x r next hi hx hd' ha hw hnx
      rw [hd'] at ha
      have hr : (itemsS v o).drop (i + 1) = r := by rw [← List.drop_drop, hd']; rfl
      rw [hr] at hnx
      have hxm : x ∈ itemsS v o := hx ▸ List.getElem_mem hi
      have hxc : x ∈ chS v o := List.mem_flatMap.2 ⟨x, hxm, by simp⟩
      have hxn := (ch_par ht hp hxc).1
      have hlt : ((i : Int) < (itemsS v o).length) := by omega
      simp [hi, idx_I hi, hx, one x hxc]
      refine for_list v.popups (fun j (b : List SVal) => ⟨[.yld, rpV v, int x, encI (itemsS v o), int (itemsS v o).length, int i, encP v.popups, int v.popups.length, int j], b, false⟩) (fun _ _ _ => (some { r := .bool true, out := TOT.map (SVal.int .i64) } : Option Res)) (fun j b => b ++ ((v.popups.drop j).flatMap (pcG v f x)).map (SVal.int .i64) ++ (r.flatMap (pcL v f)).map (SVal.int .i64) = TOT.map (SVal.int .i64)) (by omega) ?_ ?_ (k + 1) _ (by omega) ?_
      · intro b next2 hb
        rw [List.drop_length] at hb
        simp only [List.flatMap_nil, List.map_nil, List.append_nil] at hb
        have hnx' := hnx b hb
        simp [hw]
        simpa using hnx'
      · intro j b y r2 next2 hj hy hdj hb hwj hnx2
        rw [hdj] at hb
        have hr2 : v.popups.drop (j + 1) = r2 := by rw [← List.drop_drop, hdj]; rfl
        rw [hr2] at hnx2
        have hym : y ∈ v.popups := hy ▸ List.getElem_mem hj
        have hyn := (hp y hym).1
        have hoy : okV v y.node = true := okV_iff.2 ⟨hc, hyn⟩
        have opl : placeV v y.node = placeN v y.node := by simp [placeV, hoy]
        have hltj : ((j : Int) < v.popups.length) := by omega
        by_cases b1 : placeN v y.node = x
        · have hyc : y.node ∈ chS v o := List.mem_flatMap.2 ⟨x, hxm, List.mem_cons_of_mem _ (List.mem_map.2 ⟨y, List.mem_filter.2 ⟨hym, by simp [b1]⟩, rfl⟩)⟩
          have hnx2' := hnx2 (b ++ (oneL v f y.node).map (SVal.int .i64)) (by rw [← hb]; simp [pcG, b1])
          simp [hj, idx_P hj, hy, q2 v _ hv, opl, b1, one _ hyc, hwj]
          simpa using hnx2'
        · have hnx2' := hnx2 b (by rw [← hb]; simp [pcG, b1])
          simp [hj, idx_P hj, hy, q2 v _ hv, opl, b1, hwj]
          simpa using hnx2'
      · rw [← ha]; simp [pcL]
theorem sTall1 : Ev fun k => ∀ (v : View), SmV v → chkV v = 0 → v.tree.length ≤ 19 → T k 108 [.yld, rpV v] = some { r := .tup [], out := (scL v).map (SVal.int .i64) } := by
  obtain ⟨k0, h⟩ := sTscope
  refine Ev.pure (k0 + 1000) fun k hk v hv hc hlen => ?_
  have e := h (v.tree.length + 1) 0 k v 0 (by omega) hv hc hlen it0 (by omega)
  rw [show rpV v = .rp [encT v.tree, encI v.op, encI v.modal, encP v.popups, encI v.top] from rfl, t108]; unfold R108
  simp [e, scL]
theorem sTall : Ev fun k => ∀ (v : View), T k 67 [encV v] = ok (.fn 108 [rpV v]) := by
  refine Ev.pure 1000 fun k hk v => ?_
  rw [encV_eq, t67]; unfold R67
  simp
def listV (v : View) : List Int := if chkV v = 0 then scL v else []
theorem sTList : Ev fun k => ∀ (v : View), SmV v → v.tree.length ≤ 19 → T k 35 [encV v] = ok (encI (listV v)) := by
  obtain ⟨k0, hall⟩ := sPchk.and (sTall.and (sTall1.and sCollect))
  refine ⟨k0 + 3, fun k' hk' v hv hlen => ?_⟩
  obtain ⟨k, rfl⟩ : ∃ j, k' = j + 3 := ⟨k' - 3, by omega⟩
  obtain ⟨h1, h2, _, _⟩ := hall (k + 2) (by omega)
  obtain ⟨_, _, h3, h4⟩ := hall k (by omega)
  rw [encV_eq, t35]; unfold R35
  by_cases hc : chkV v = 0
  · have ht := vmay hv hc
    have hle := scL_len ht (popsOk ht (chkV_iff.1 hc).2) (pops_nodup (chkV_iff.1 hc).2)
    have e2 := h4 (.fn 108 [rpV v]) (scL v) (by omega) (by simp only [callIt, h3 v hv hc hlen, Option.bind_some])
    simp [h1 v hv, hc, h2, e2, listV]
  · simp [h1 v hv, hc, listV]
/-! ### Reverse -/
theorem rev_step (A M B : List SVal) (x y : SVal) : ((A ++ x :: M ++ y :: B).set A.length y).set (A.length + M.length + 1) x = A ++ y :: M ++ x :: B := by
  rw [List.append_assoc, List.set_append_right _ _ (by omega), List.set_append_right _ _ (by omega)]
  simp only [Nat.sub_self, List.cons_append, List.set_cons_zero]
  rw [show A.length + M.length + 1 - A.length = M.length + 1 by omega, List.set_cons_succ, List.set_append_right _ _ (by omega)]
  simp
theorem rev_get0 (A M B : List SVal) (x y : SVal) : (A ++ x :: M ++ y :: B)[A.length]? = some x := by
  rw [List.append_assoc, List.getElem?_append_right (by omega)]; simp
theorem rev_get1 (A M B : List SVal) (x y : SVal) : (A ++ x :: M ++ y :: B)[A.length + M.length + 1]? = some y := by
  rw [List.getElem?_append_right (by simp; omega)]
  have e : A.length + M.length + 1 - (A ++ x :: M).length = 0 := by simp; omega
  rw [e]; rfl
theorem rev_get2 (A M B : List SVal) (x y z : SVal) : ((A ++ x :: M ++ y :: B).set A.length z)[A.length + M.length + 1]? = some y := by
  rw [List.getElem?_set_ne (by omega), rev_get1]
theorem sReverse : Ev fun k => ∀ (l : List Int), l.length ≤ 400 → T k 111 [.sl 1 true false (l.map (SVal.int .i64))] = some { r := .tup [], outs := [.sl 1 true false (l.reverse.map (SVal.int .i64))] } := by
  refine Ev.pure 1000 fun k hk l hl => ?_
  rw [t111]; unfold R111
  have w0 : IntKind.i64.wrap ((l.length : Int) - 1) = (l.length : Int) - 1 := wrapS (by omega) (by omega)
  simp only [List.length_map, sBin_sub, w0, Option.bind_some]
  refine Eq.trans (congrArg (loopN _ k) (a₂ := ⟨[.sl 1 true false (([] ++ l ++ []).map (SVal.int .i64)), int ((0 : Nat) : Int), int (((0 + l.length : Nat) : Int) - 1)], [], false⟩) ?_) (loop_wf (fun q : List Int × List Int × List Int => ⟨[.sl 1 true false ((q.1 ++ q.2.1 ++ q.2.2).map (SVal.int .i64)), int (q.1.length : Int), int (((q.1.length + q.2.1.length : Nat) : Int) - 1)], [], false⟩) (fun _ => (some { r := .tup [], outs := [.sl 1 true false (l.reverse.map (SVal.int .i64))] } : Option Res)) (fun q => q.2.1.length)
    (fun q => q.1 ++ q.2.1.reverse ++ q.2.2 = l.reverse ∧ q.1.length + q.2.1.length + q.2.2.length ≤ 400) ?_ k ([], l, []) ⟨by simp, by simpa using hl⟩ (by simp only; omega))
  · simp
  · rintro ⟨A, M, B⟩ ⟨hi, hle⟩ next hnx
    simp only at hi hle hnx ⊢
    rcases M with _ | ⟨x, M1⟩
    · simp only [List.reverse_nil, List.append_nil] at hi
      have hn : ¬ ((A.length : Int) < (A.length : Int) - 1) := by omega
      simp [hn, ← hi]
    · rcases List.eq_nil_or_concat M1 with rfl | ⟨M', y, rfl⟩
      · simp only [List.reverse_cons, List.reverse_nil, List.nil_append] at hi
        simp [← hi]
      · simp only [List.concat_eq_append] at hi hle hnx ⊢
        simp only [List.length_cons, List.length_append, List.length_nil] at hle
        have e0 : (A ++ (x :: (M' ++ [y])) ++ B).map (SVal.int .i64) = A.map (SVal.int .i64) ++ int x :: M'.map (SVal.int .i64) ++ int y :: B.map (SVal.int .i64) := by simp
        have e1 : (A.map (SVal.int .i64)).length = A.length := by simp
        have e2 : (M'.map (SVal.int .i64)).length = M'.length := by simp
        have g0 := rev_get0 (A.map (SVal.int .i64)) (M'.map (SVal.int .i64)) (B.map (SVal.int .i64)) (int x) (int y)
        have g1 := rev_get1 (A.map (SVal.int .i64)) (M'.map (SVal.int .i64)) (B.map (SVal.int .i64)) (int x) (int y)
        have g2 := rev_get2 (A.map (SVal.int .i64)) (M'.map (SVal.int .i64)) (B.map (SVal.int .i64)) (int x) (int y) (int y)
        have g3 := rev_step (A.map (SVal.int .i64)) (M'.map (SVal.int .i64)) (B.map (SVal.int .i64)) (int x) (int y)
        have hD : (A.map (SVal.int .i64) ++ int x :: M'.map (SVal.int .i64) ++ int y :: B.map (SVal.int .i64)).length = A.length + M'.length + B.length + 2 := by simp; omega
        have hnx' := hnx (A ++ [y], M', x :: B) ⟨by rw [← hi]; simp, by simp; omega⟩ (by simp; omega)
        have e3 : (A ++ [y] ++ M' ++ x :: B).map (SVal.int .i64) = A.map (SVal.int .i64) ++ int y :: M'.map (SVal.int .i64) ++ int x :: B.map (SVal.int .i64) := by simp
        have e4 : A.length + (x :: (M' ++ [y])).length = A.length + M'.length + 1 + 1 := by simp; omega
        have e5 : ((A.length + M'.length + 1 + 1 : Nat) : Int) - 1 = ((A.length + M'.length + 1 : Nat) : Int) := by omega
        have e6 : (A ++ [y]).length = A.length + 1 := by simp
        have e7 : (((A.length + 1 + M'.length : Nat) : Int) - 1) = ((A.length + M'.length : Nat) : Int) := by omega
        have w1 : IntKind.i64.wrap ((A.length : Int) + 1) = ((A.length + 1 : Nat) : Int) := wrap1 (by omega)
        have w2 : IntKind.i64.wrap (((A.length + M'.length + 1 : Nat) : Int) - 1) = ((A.length + M'.length : Nat) : Int) := by rw [wrapS (by omega) (by omega)]; omega
        rw [e0, e4, e5]
        simp only [e3, e6, e7] at hnx'
        rw [e1] at g0
        rw [e1, e2] at g1 g2 g3
        have i0 : A.length < A.length + M'.length + B.length + 2 := by omega
        have i1 : A.length + M'.length + 1 < A.length + M'.length + B.length + 2 := by omega
        have c0 : A.length < A.length + M'.length + 1 := by omega
        generalize (A.map (SVal.int .i64) ++ int x :: M'.map (SVal.int .i64) ++ int y :: B.map (SVal.int .i64)) = D at *
        generalize (A.map (SVal.int .i64) ++ int y :: M'.map (SVal.int .i64) ++ int x :: B.map (SVal.int .i64)) = D' at *
        generalize A.length + M'.length + B.length + 2 = N at *
        generalize A.length + M'.length + 1 = J at *
        generalize A.length + M'.length = J' at *
        generalize A.length + 1 = I' at *
        generalize A.length = I at *
        have g0' : ∀ h : I < D.length, D[I]'h = int x := fun h => (List.getElem?_eq_some_iff.1 g0).2
        have g1' : ∀ h : J < D.length, D[J]'h = int y := fun h => (List.getElem?_eq_some_iff.1 g1).2
        have g2' : ∀ h : J < (D.set I (int y)).length, (D.set I (int y))[J]'h = int y := fun h => (List.getElem?_eq_some_iff.1 g2).2
        have hD2 : (D.set I (int y)).length = N := by rw [List.length_set, hD]
        simp [c0, hD, i0, i1, g0', g1', g2', g3, w1, w2]
        simpa using hnx'
end Go.Proofs.YtjcnilaogidhlaaGreat.K
end
section
namespace Go.Proofs.YtjcnilaogidhlaaGreat.K
open Go Go.Lm
set_option linter.unusedSimpArgs false
theorem sTturned : Ev fun k => ∀ (l : List Int) (b : Bool), l.length ≤ 400 → T k 68 [encI l, .bool b] = ok (encI (turnB b l)) := by
  refine sReverse.at 1000 fun k' hk h l b hl => ?_
  obtain ⟨k, rfl⟩ : ∃ j, k' = j + 1 := ⟨k' - 1, by omega⟩
  have e1 : T (k + 1) 110 [encI l] = ok (.sl 1 true false (l.map (SVal.int .i64))) := clone1 k _ (by simp; omega)
  have e2 := h l hl
  rw [t68]; unfold R68
  cases b with
  | true =>
    have e3 : (SVal.sl 1 true false (l.map (SVal.int .i64))).xs = l.map (SVal.int .i64) := rfl
    simp only [weak_I, e1, Option.bind_some, pick_t, e3, e2]
    rfl
  | false => simp [e1, turnB]
theorem sTbehind : Ev fun k => ∀ (l : List Int) (n : Int), l.length ≤ 400 → T k 72 [encI l, int n] = ok (encI (behN l n)) := by
  refine sIndex.step fun k h l n hl => ?_
  rw [t72]; unfold R72
  have hb : -1 ≤ plF n l 0 ∧ plF n l 0 < l.length := by
    by_cases hm : n ∈ l
    · obtain ⟨j, q1, q2, _⟩ := plF_get (i := 0) hm
      rw [q2]; omega
    · rw [pl_none 0 hm]; omega
  have w : IntKind.i64.wrap (plF n l 0 + 1) = plF n l 0 + 1 := wrapS (by omega) (by omega)
  have e := sSl_I l (plF n l 0 + 1).toNat (by omega)
  rw [show (((plF n l 0 + 1).toNat : Nat) : Int) = plF n l 0 + 1 by omega] at e
  simp [h l n hl, w, e, behN]
theorem pl_fnd {p : Int → Bool} : ∀ (l : List Int) (i : Nat), (∃ j, ∃ h : j < l.length, plP p l i = ((i + j : Nat) : Int) ∧ l.find? p = some l[j]) ∨ (plP p l i = -1 ∧ l.find? p = none)
  | [], _ => .inr ⟨rfl, rfl⟩
  | x :: r, i => by
    by_cases hx : p x = true
    · exact .inl ⟨0, by simp, by simp [plP, hx], by simp [hx]⟩
    · rcases pl_fnd (p := p) r (i + 1) with ⟨j, h, h1, h2⟩ | ⟨h1, h2⟩
      · exact .inl ⟨j + 1, by simpa using h, by simp only [plP, hx, if_false, h1]; simp; omega, by simp [hx, h2]⟩
      · exact .inr ⟨by simp [plP, hx, h1], by simp [hx, h2]⟩
theorem sTfirst : Ev fun k => ∀ (l : List Int) (f : SVal) (p : Int → Bool), l.length ≤ 400 → (∀ x ∈ l, callV H (T k) f [int x] = some (.bool (p x))) → T (k + 2) 71 [encI l, f] = ok (int (fst0 p l)) := by
  refine sIndexFunc.mono fun k h l f p hl hf => ?_
  have e := h l f p hl hf
  rw [t71]; unfold R71
  rcases pl_fnd (p := p) l 0 with ⟨j, hj, p1, p2⟩ | ⟨p1, p2⟩
  · have p1' : plP p l 0 = (j : Int) := by rw [p1]; simp
    rw [p1'] at e
    simp [e, idx_I hj, fst0, p2]
  · rw [p1] at e
    simp [e, fst0, p2]
theorem sTn1 : Ev fun k => ∀ (x : Int), callV H (T k) (.fn 69 []) [int x] = some (.bool true) := by
  refine Ev.pure 1000 fun k hk x => ?_
  have e : ∀ (T : Nat → List SVal → Option Res) (caps args : List SVal), callV H T (.fn 69 caps) args = (if shOks [.plain] (args ++ caps) = true then (T 69 (args ++ caps)).bind fun r => some r.r else none) := fun T caps args => by kernel_rfl
  rw [e]
  have : T (k + 1) 69 ([int x] ++ []) = ok (.bool true) := by
    show T (k + 1) 69 [int x] = _
    rw [t69]; rfl
  rw [this]; rfl
theorem sTn2 : Ev fun k => ∀ (l : List Int) (x : Int), l.length ≤ 400 → callV H (T k) (.fn 73 [.rp [encI l]]) [int x] = some (.bool (decide (x ∈ l))) := by
  refine sContains.step fun k h l x hl => ?_
  have e : ∀ (T : Nat → List SVal → Option Res) (caps args : List SVal), callV H T (.fn 73 caps) args = (if shOks [.plain, .rp 1] (args ++ caps) = true then (T 73 (args ++ caps)).bind fun r => some r.r else none) := fun T caps args => by kernel_rfl
  rw [e]
  have : T (k + 1) 73 ([int x] ++ [.rp [encI l]]) = ok (.bool (decide (x ∈ l))) := by
    show T (k + 1) 73 [int x, .rp [encI l]] = _
    rw [t73]; unfold R73
    simp [h l x hl]
  rw [this]; rfl
theorem fst0_true (l : List Int) : fst0 (fun _ => true) l = l.headD 0 := by cases l <;> rfl
theorem turn_len (b : Bool) (l : List Int) : (turnB b l).length = l.length := by unfold turnB; split <;> simp
theorem beh_len (l : List Int) (n : Int) : (behN l n).length ≤ l.length := by unfold behN; rw [List.length_drop]; omega
def nextV (v : View) (n : Int) (b : Bool) : Int := if okV v n = true then nextP v n b else -1
theorem sTNext : Ev fun k => ∀ (v : View) (n : Int) (b : Bool), SmV v → v.tree.length ≤ 19 → T k 36 [encV v, int n, .bool b] = ok (int (nextV v n b)) := by
  obtain ⟨k0, hall⟩ := sPchk.and (sTList.and (sTturned.and (sContains.and (sTbehind.and (sFList.and (sTn1.and (sTn2.and sTfirst)))))))
  refine ⟨k0 + 1000, fun k' hk' v n b hv hlen => ?_⟩
  obtain ⟨k, rfl⟩ : ∃ j, k' = j + 3 := ⟨k' - 3, by omega⟩
  obtain ⟨h1, h2, h3, h4, h5, h6, _⟩ := hall (k + 2) (by omega)
  obtain ⟨_, _, _, _, _, _, h7, h8, h9⟩ := hall k (by omega)
  rw [encV_eq, t36]; unfold R36
  by_cases hc : chkV v = 0
  · by_cases hn : isN v.tree n = true
    · have ht := vmay hv hc
      have ho : okV v n = true := okV_iff.2 ⟨hc, hn⟩
      have hfl := fl_len ht
      have hll := scL_len ht (popsOk ht (chkV_iff.1 hc).2) (pops_nodup (chkV_iff.1 hc).2)
      obtain ⟨n0, n1⟩ := isN_iff.1 hn
      have n2 : ¬ n < 0 := by omega
      have n3 : ¬ (v.tree.length : Int) ≤ n := by omega
      have hL : listV v = scL v := by simp [listV, hc]
      have l1 := turn_len b (scL v); have l2 := turn_len b (flL v.tree)
      have l3 := beh_len (turnB b (scL v)) n; have l4 := beh_len (turnB b (flL v.tree)) n
      have t1 := h3 (scL v) b (by omega)
      have t2 := h3 (flL v.tree) b (by omega)
      have c1 := h4 (turnB b (scL v)) n (by omega)
      have c2 := h4 (turnB b (flL v.tree)) n (by omega)
      have m1 : decide (n ∈ turnB b (scL v)) = decide (n ∈ scL v) := by simp [mem_turn]
      have m2 : decide (n ∈ turnB b (flL v.tree)) = decide (n ∈ flL v.tree) := by simp [mem_turn]
      rw [m1] at c1; rw [m2] at c2
      have f1 := h9 (behN (turnB b (scL v)) n) (.fn 69 []) (fun _ => true) (by omega) fun x _ => h7 x
      have f2 := h9 (turnB b (scL v)) (.fn 69 []) (fun _ => true) (by omega) fun x _ => h7 x
      have f3 := h9 (behN (turnB b (flL v.tree)) n) (.fn 73 [.rp [encI (turnB b (scL v))]]) (fun m => decide (m ∈ scL v)) (by omega) fun x _ => by
        rw [h8 _ x (by omega)]; simp [mem_turn]
      rw [fst0_true] at f1 f2
      have hone : ∀ l : List Int, oneS (encI l) = true := fun _ => rfl
      by_cases b1 : n = 0 ∨ n ∈ scL v
      · have e : (decide (n = 0) || decide (n ∈ scL v)) = true := by simpa using b1
        simp only [weak_T, weak_I, weak_P, fold_Vv, fold_rpVv, h1 v hv, hc, n2, n3, sBin_neq, sBin_lss, sBin_geq, sBin_eql, sLen_T, Option.bind_some, asB_b, guard_or, ge_iff_le, decide_false, decide_true, Bool.not_true, Bool.or_self, List.getD_cons_zero, pick_f, pick_t, h2 v hv hlen, hL, t1, hone, if_true, c1, e, h5 _ n (show (turnB b (scL v)).length ≤ 400 by omega), f1]
        simp [nextV, ho, nextP, b1]
      · have e : (decide (n = 0) || decide (n ∈ scL v)) = false := by simpa using b1
        by_cases b2 : n ∈ flL v.tree
        · simp only [weak_T, weak_I, weak_P, fold_Vv, fold_rpVv, h1 v hv, hc, n2, n3, sBin_neq, sBin_lss, sBin_geq, sBin_eql, sLen_T, Option.bind_some, asB_b, guard_or, ge_iff_le, decide_false, decide_true, Bool.not_true, Bool.or_self, List.getD_cons_zero, pick_f, pick_t, h2 v hv hlen, hL, t1, hone, if_true, c1, e, h6 v.tree ht, t2, c2, b2, sNot_b, h5 _ n (show (turnB b (flL v.tree)).length ≤ 400 by omega), f3]
          simp [nextV, ho, nextP, b1, b2]
        · simp only [weak_T, weak_I, weak_P, fold_Vv, fold_rpVv, h1 v hv, hc, n2, n3, sBin_neq, sBin_lss, sBin_geq, sBin_eql, sLen_T, Option.bind_some, asB_b, guard_or, ge_iff_le, decide_false, decide_true, Bool.not_true, Bool.or_self, List.getD_cons_zero, pick_f, pick_t, h2 v hv hlen, hL, t1, hone, if_true, c1, e, h6 v.tree ht, t2, c2, b2, sNot_b, Bool.not_false, f2]
          simp [nextV, ho, nextP, b1, b2]
    · have ho : ¬ okV v n = true := fun h => hn (okV_iff.1 h).2
      simp [h1 v hv, hc]
      have : n < 0 ∨ (v.tree.length : Int) ≤ n := by
        by_cases c : n < 0
        · exact .inl c
        · right
          have := hn; rw [isN_iff] at this; omega
      simp [this, nextV, ho]
  · have ho : ¬ okV v n = true := fun h => hc (okV_iff.1 h).1
    simp [h1 v hv, hc, nextV, ho]
end Go.Proofs.YtjcnilaogidhlaaGreat.K
end
section
namespace Go.Proofs.YtjcnilaogidhlaaGreat.K
open Go Go.Lm
set_option linter.unusedSimpArgs false
theorem sc_not {v : View} {f : Nat} {x : Int} (h : ownsS v x = false) : scP v f x = [] := by
  cases f with
  | zero => rfl
  | succ f => rw [sc_pieces, itemsS, if_neg (by rw [h]; simp)]; rfl
theorem sRscope : ∃ k0, ∀ (f d k : Nat) (v : View) (o : Int), k0 + f ≤ k → SmV v → chkV v = 0 → itP v d o = 0 → v.tree.length ≤ d + f → T k 74 [encV v, int o] = ok (encI (scP v f o)) := by
  obtain ⟨k1, h1⟩ := sRiItems.and (sRaTabs.and (sRiOwns.and sRiPlace))
  refine ⟨k1 + 1000, fun f => ?_⟩
  induction f with
  | zero => intro d k v o _ hv hc hd hle; have := it_le (vmay hv hc) (popsOk (vmay hv hc) (chkV_iff.1 hc).2) hd; omega
  | succ f ih =>
    intro d k' v o hk hv hc hd hle
    obtain ⟨k, rfl⟩ : ∃ j, k' = j + 1 := ⟨k' - 1, by omega⟩
    obtain ⟨q1, q2, q3, q4⟩ := h1 k (by omega)
    have ht := vmay hv hc
    have hp := popsOk ht (chkV_iff.1 hc).2
    have hnd := pops_nodup (chkV_iff.1 hc).2
    have hn := it_is ht hd
    have hil := items_len ht (v := v) o
    have l3 := hv.po
    have l1 := hv.tr.len
    have hit : ∀ c, c ∈ chS v o → itP v (d + 1) c = 0 := fun c hcm => by rw [itP, (ch_par ht hp hcm).2]; exact hd
    have hrec : ∀ c, c ∈ chS v o → T k 74 [encV v, int c] = ok (encI (scP v f c)) := fun c hcm => ih (d + 1) k v c (by omega) hv hc (hit c hcm) (by omega)
    have rlen : ∀ c, c ∈ chS v o → (scP v f c).length ≤ 70 := fun c hcm => by have := sc_len ht hp hnd (f := f) (hit c hcm); omega
    have hTl : (scP v (f + 1) o).length ≤ 70 := by have := sc_len ht hp hnd (f := f + 1) hd; omega
    rw [encV_eq, t74]; unfold R74
    simp only [weak_T, weak_I, weak_P, fold_Vv, fold_rpVv, q1 v o hv hc hn, Option.bind_some]
    have htot := sc_pieces v f o
    generalize hTOT : scP v (f + 1) o = TOT at *
    refine for_list (itemsS v o) (fun i (a : List SVal) => ⟨[rpV v, .sl 1 true false a, encI (itemsS v o), int i], [], false⟩) (fun _ _ _ => ok (encI TOT)) (fun i a => a ++ (((itemsS v o).drop i).flatMap (pcL v f)).map (SVal.int .i64) = TOT.map (SVal.int .i64)) (by omega) ?_ ?_ k [] (by omega) (by simp [htot])
    · intro a next ha
      rw [List.drop_length] at ha
      simp only [List.flatMap_nil, List.map_nil, List.append_nil] at ha
      subst ha
      simp
    · intro i a x r next hi hx hd' ha hw hnx
      rw [hd'] at ha
      have hr : (itemsS v o).drop (i + 1) = r := by rw [← List.drop_drop, hd']; rfl
      rw [hr] at hnx
      have hxm : x ∈ itemsS v o := hx ▸ List.getElem_mem hi
      have hxc : x ∈ chS v o := List.mem_flatMap.2 ⟨x, hxm, by simp⟩
      have hxn := (ch_par ht hp hxc).1
      have hal : a.length ≤ 70 := by
        have := congrArg List.length ha
        simp only [List.length_append, List.length_map] at this; omega
      have hrl := rlen x hxc
      have inner : ∀ (body : LS → (LS → Option Res) → Option Res) (b0 : List SVal),
          b0 ++ (v.popups.flatMap (pcG v f x)).map (SVal.int .i64) ++ (r.flatMap (pcL v f)).map (SVal.int .i64) = TOT.map (SVal.int .i64) →
          (∀ (b : List SVal) (nx : LS → Option Res), body ⟨[rpV v, .sl 1 true false b, encI (itemsS v o), int i, int x, int v.popups.length], [], false⟩ nx = next ⟨[rpV v, .sl 1 true false b, encI (itemsS v o), int ((i + 1 : Nat) : Int)], [], false⟩) →
          (∀ (j : Nat) (y : Shown) (b : List SVal) (nx : LS → Option Res) (hj : j < v.popups.length), v.popups[j] = y → b.length ≤ 70 → IntKind.i64.wrap ((j : Int) + 1) = ((j + 1 : Nat) : Int) →
            body ⟨[rpV v, .sl 1 true false b, encI (itemsS v o), int i, int x, int j], [], false⟩ nx = nx ⟨[rpV v, .sl 1 true false (b ++ (pcG v f x y).map (SVal.int .i64)), encI (itemsS v o), int i, int x, int ((j + 1 : Nat) : Int)], [], false⟩) →
          loopN body k ⟨[rpV v, .sl 1 true false b0, encI (itemsS v o), int i, int x, int ((0 : Nat) : Int)], [], false⟩ = ok (encI TOT) := by
        intro body b0 h0 hend hstep
        refine for_list v.popups (fun j (b : List SVal) => ⟨[rpV v, .sl 1 true false b, encI (itemsS v o), int i, int x, int j], [], false⟩) (fun _ _ _ => ok (encI TOT)) (fun j b => b ++ ((v.popups.drop j).flatMap (pcG v f x)).map (SVal.int .i64) ++ (r.flatMap (pcL v f)).map (SVal.int .i64) = TOT.map (SVal.int .i64)) (by omega) ?_ ?_ k b0 (by omega) (by simpa using h0)
        · intro b nx hb
          rw [List.drop_length] at hb
          simp only [List.flatMap_nil, List.map_nil, List.append_nil] at hb
          rw [hend b nx]
          exact hnx b hb
        · intro j b y r2 nx hj hy hdj hb hwj hnx2
          rw [hdj] at hb
          have hr2 : v.popups.drop (j + 1) = r2 := by rw [← List.drop_drop, hdj]; rfl
          rw [hr2] at hnx2
          have hbl : b.length ≤ 70 := by
            have := congrArg List.length hb
            simp only [List.length_append, List.length_map] at this; omega
          rw [hstep j y b nx hj hy hbl hwj]
          exact hnx2 _ (by rw [← hb]; simp)
      have hstepY : ∀ (y : Shown), y ∈ v.popups → placeN v y.node = x → y.node ∈ chS v o := fun y hym b1 => List.mem_flatMap.2 ⟨x, hxm, List.mem_cons_of_mem _ (List.mem_map.2 ⟨y, List.mem_filter.2 ⟨hym, by simp [b1]⟩, rfl⟩)⟩
      have hsc := @sc_not v f x
      have p1 := app8 (n := a.length + 1) (by omega)
      have p2 := app8 (n := a.length + 1 + (scP v f x).length) (by omega)
      have p3 := app8 (n := a.length + (scP v f x).length) (by omega)
      have p4 := app8 (n := a.length + ((scP v f x).length + 1)) (by omega)
      by_cases b1 : tabA v x = true <;> by_cases b2 : ownsS v x = true
      all_goals
        simp [hi, idx_I hi, hx, q2 v x hv ht hxn, q3 v x hv ht hxn, b1, b2, hrec x hxc, p1, p2, p3, p4]
        refine inner _ _ ?_ ?_ ?_
        · rw [← ha]; simp [pcL, oneL, b1, b2, hsc]
        · intro b nx; simp [hw]
        · intro j y b nx hj hy hbl hwj
          have hym : y ∈ v.popups := hy ▸ List.getElem_mem hj
          have hyn := (hp y hym).1
          by_cases c1 : placeN v y.node = x
          · have hyc := hstepY y hym c1
            have hyl := rlen _ hyc
            have p1 := app8 (n := b.length + 1) (by omega)
            have p2 := app8 (n := b.length + 1 + (scP v f y.node).length) (by omega)
            have p3 := app8 (n := b.length + (scP v f y.node).length) (by omega)
            have p4 := app8 (n := b.length + ((scP v f y.node).length + 1)) (by omega)
            by_cases c2 : tabA v y.node = true
            · simp [hj, idx_P hj, hy, q4 v _ hv hc, c1, q2 v _ hv ht hyn, c2, hrec _ hyc, p1, p2, p3, p4, hwj, pcG, oneL]
            · simp [hj, idx_P hj, hy, q4 v _ hv hc, c1, q2 v _ hv ht hyn, c2, hrec _ hyc, p1, p2, p3, p4, hwj, pcG, oneL]
          · simp [hj, idx_P hj, hy, q4 v _ hv hc, c1, hwj, pcG]
theorem sRTList : Ev fun k => ∀ (v : View), SmV v → chkV v = 0 → T k 37 [encV v] = ok (encI (scL v)) := by
  obtain ⟨k0, h⟩ := sRscope
  refine Ev.pure (k0 + 1000) fun k hk v hv hc => ?_
  have l1 := hv.tr.len
  have e := h (v.tree.length + 1) 0 k v 0 (by omega) hv hc it0 (by omega)
  rw [encV_eq, t37]; unfold R37
  simp [e, scL]
theorem next_nil {v : View} (h : scL v = []) (n : Int) (b : Bool) : nextP v n b = 0 := by
  unfold nextP
  rw [h]
  have e : turnB b ([] : List Int) = [] := by cases b <;> rfl
  rw [e]
  have e2 : fst0 (fun m => decide (m ∈ ([] : List Int))) (behN (turnB b (flL v.tree)) n) = 0 := by
    unfold fst0
    rw [List.find?_eq_none.2 (by simp)]; rfl
  rw [e2]
  have e3 : (behN ([] : List Int) n).headD 0 = 0 := by unfold behN; simp
  rw [e3]
  split
  · rfl
  · split <;> rfl
theorem sRTNext : Ev fun k => ∀ (v : View) (n : Int) (b : Bool), SmV v → chkV v = 0 → T k 38 [encV v, int n, .bool b] = ok (int (nextP v n b)) := by
  refine (sRTList.and (sPlace.and (sRfList.and sIn))).at 1000 fun k hk ⟨h1, h2, h3, h4⟩ v n b hv hc => ?_
  have ht := vmay hv hc
  have hp := popsOk ht (chkV_iff.1 hc).2
  have hnp := pops_nodup (chkV_iff.1 hc).2
  have hll := scL_len ht hp hnp
  have hfl := fl_len ht
  have l1 := hv.tr.len
  have hLn := scL_nodup ht hp hnp
  have hFn := fl_nodup ht
  rw [encV_eq, t38]; unfold R38
  by_cases hL0 : (scL v).length = 0
  · have : scL v = [] := List.length_eq_zero_iff.1 hL0
    simp [h1 v hv hc, next_nil this, hL0]
  · by_cases hm : n ∈ scL v
    · obtain ⟨j, hj, rfl⟩ := List.mem_iff_getElem.1 hm
      have hpl := plF_at hLn hj
      have w1 : IntKind.i64.wrap ((j : Int) + 1) = (j : Int) + 1 := wrapS (by omega) (by omega)
      have w2 : IntKind.i64.wrap ((j : Int) - 1) = (j : Int) - 1 := wrapS (by omega) (by omega)
      have g0 : ¬ ((j : Int) + 1 < 0) := by omega
      cases b with
      | false =>
        rw [next_fwd hLn hj]
        by_cases c1 : j + 1 = (scL v).length
        · have c2 : (j : Int) + 1 = (scL v).length := by omega
          have e : (scL v)[j + 1]? = none := List.getElem?_eq_none (by omega)
          have wl : IntKind.i64.wrap (((scL v).length : Nat) : Int) = ((scL v).length : Nat) := wrapS (by omega) (by omega)
          simp [h1 v hv hc, hL0, h2 (scL v) _ (by omega), hpl, w1, c2, e, wl]
        · have c2 : ¬ (j : Int) + 1 = (scL v).length := by omega
          have c3 : j + 1 < (scL v).length := by omega
          have hid : sIdx false 1 (encI (scL v)) (int ((j : Int) + 1)) = some (int (scL v)[j + 1]) := by simpa using idx_I c3
          simp [h1 v hv hc, hL0, h2 (scL v) _ (by omega), hpl, w1, c2, g0, hid, c3]
      | true =>
        rw [next_bwd hLn hj]
        cases j with
        | zero =>
          have w3 : IntKind.i64.wrap (0 - 1) = -1 := by decide
          have w4 : IntKind.i64.wrap (-1) = -1 := by decide
          have hpl' : plF (scL v)[0] (scL v) 0 = 0 := by simpa using hpl
          simp [h1 v hv hc, hL0, h2 (scL v) _ (by omega), hpl', w3, w4]
        | succ j =>
          have c3 : j < (scL v).length := by omega
          have w3 : IntKind.i64.wrap (j : Int) = j := wrapS (by omega) (by omega)
          have c2 : ¬ j = (scL v).length := by omega
          have g1 : ¬ ((j : Int) + 1 < 0) := by omega
          have g2 : (0 : Int) ≤ (j : Int) + 1 := by omega
          have g3 : ¬ ((j : Int) < 0) := by omega
          have g4 : ¬ ((j : Int) = (scL v).length) := by omega
          have hpl' : plF (scL v)[j + 1] (scL v) 0 = (j : Int) + 1 := by simpa using hpl
          simp [h1 v hv hc, hL0, h2 (scL v) _ (by omega), hpl', w3, c2, idx_I c3, g1, g2, g3, g4, c3]
    · have hpl := pl_none 0 hm
      have hpos : 0 < (scL v).length := by omega
      by_cases b1 : n = 0 ∨ n ∉ flL v.tree
      · have en : nextP v n b = (turnB b (scL v)).headD 0 := by
          unfold nextP
          rcases b1 with b1 | b1
          · rw [if_pos (.inl b1), behN_not (by rw [mem_turn]; exact hm)]
          · by_cases c0 : n = 0
            · rw [if_pos (.inl c0), behN_not (by rw [mem_turn]; exact hm)]
            · rw [if_neg (by rintro (h | h); exact c0 h; exact hm h), if_neg b1]
        have hcond : (decide (n = 0) || decide (plF n (flL v.tree) 0 < 0)) = true := by
          rcases b1 with b1 | b1
          · simp [b1]
          · rw [pl_none 0 b1]; simp
        rw [en]
        simp only [weak_T, weak_I, weak_P, fold_Vv, fold_rpVv, h1 v hv hc, h2 (scL v) n (show (scL v).length ≤ 400 by omega), h3 v.tree ht, h2 (flL v.tree) n (show (flL v.tree).length ≤ 400 by omega), Option.bind_some, sLen_I, sBin_eql, sBin_geq, sBin_lss, hpl, asB_b, guard_or, hcond, List.getD_cons_zero, pick_t]
        have hz : ¬ (((scL v).length : Int) = 0) := by omega
        cases b with
        | false =>
          have hid : sIdx false 1 (encI (scL v)) (int 0) = some (int (scL v)[0]) := by simpa using idx_I hpos
          have : (turnB false (scL v)).headD 0 = (scL v)[0] := by
            show (scL v).headD 0 = _
            rw [List.headD_eq_head?_getD, List.head?_eq_getElem?]; simp [hpos]
          rw [this]
          simp [hz, hid]
          intro h; exact absurd (by rw [h]; rfl) hL0
        | true =>
          have hw : IntKind.i64.wrap (((scL v).length : Int) - 1) = (((scL v).length - 1 : Nat) : Int) := by rw [wrapS (by omega) (by omega)]; omega
          have hlt : (scL v).length - 1 < (scL v).length := by omega
          have : (turnB true (scL v)).headD 0 = (scL v)[(scL v).length - 1] := by
            show (scL v).reverse.headD 0 = _
            rw [List.headD_eq_head?_getD, List.head?_reverse, List.getLast?_eq_getElem?, List.getElem?_eq_getElem hlt]; rfl
          rw [this]
          simp [hz, hw, idx_I hlt]
          intro h; exact absurd (by rw [h]; rfl) hL0
      · have n0 : ¬ n = 0 := fun h => b1 (.inl h)
        have nf : n ∈ flL v.tree := by
          by_cases h : n ∈ flL v.tree
          · exact h
          · exact absurd (.inr h) b1
        obtain ⟨j, hj, rfl⟩ := List.mem_iff_getElem.1 nf
        have hpf := plF_at hFn hj
        have en : nextP v (flL v.tree)[j] b = fst0 (fun m => decide (m ∈ scL v)) (behN (turnB b (flL v.tree)) (flL v.tree)[j]) := by
          unfold nextP
          rw [if_neg (by rintro (h | h); exact n0 h; exact hm h), if_pos nf]
        rw [en]
        have w1 : IntKind.i64.wrap ((j : Int) + 1) = ((j + 1 : Nat) : Int) := wrap1 (by omega)
        have w2 : IntKind.i64.wrap ((j : Int) - 1) = (j : Int) - 1 := wrapS (by omega) (by omega)
        have hz : ¬ (((scL v).length : Int) = 0) := by omega
        have hcond : (decide ((flL v.tree)[j] = 0) || decide ((j : Int) < 0)) = false := by simp [n0]
        cases b with
        | false =>
          show _ = ok (int (fst0 _ (behN (flL v.tree) _)))
          rw [behN_at hFn hj]
          simp only [weak_T, weak_I, weak_P, fold_Vv, fold_rpVv, h1 v hv hc, h2 (scL v) _ (show (scL v).length ≤ 400 by omega), h3 v.tree ht, h2 (flL v.tree) _ (show (flL v.tree).length ≤ 400 by omega), Option.bind_some, sLen_I, sBin_eql, sBin_geq, sBin_lss, hpl, hpf, asB_b, guard_or, hcond, List.getD_cons_zero, pick_f, hz, decide_false, sBin_add, w1]
          refine loop_wf (fun i : Nat => ⟨[encI (scL v), encI (flL v.tree), int i], [], false⟩) (fun i => ok (int (fst0 (fun m => decide (m ∈ scL v)) ((flL v.tree).drop i)))) (fun i => (flL v.tree).length - i) (fun i => i ≤ (flL v.tree).length) ?_ k (j + 1) (by omega) (by omega)
          intro i hi next hnx
          by_cases hlt : i < (flL v.tree).length
          · have hw : IntKind.i64.wrap ((i : Int) + 1) = ((i + 1 : Nat) : Int) := wrap1 (by omega)
            by_cases c : (flL v.tree)[i] ∈ scL v
            · have e : fst0 (fun m => decide (m ∈ scL v)) ((flL v.tree).drop i) = (flL v.tree)[i] := by
                unfold fst0; rw [List.drop_eq_getElem_cons hlt, List.find?_cons_of_pos (by simpa using c)]; rfl
              rw [e]
              simp [hlt, idx_I hlt, h4 (scL v) _ (show (scL v).length ≤ 400 by omega), c]
            · have hnx' := hnx (i + 1) (by omega) (by omega)
              have e : fst0 (fun m => decide (m ∈ scL v)) ((flL v.tree).drop i) = fst0 (fun m => decide (m ∈ scL v)) ((flL v.tree).drop (i + 1)) := by
                unfold fst0; rw [List.drop_eq_getElem_cons hlt, List.find?_cons_of_neg (by simpa using c)]
              rw [e]
              simp [hlt, idx_I hlt, h4 (scL v) _ (show (scL v).length ≤ 400 by omega), c, hw]
              simpa using hnx'
          · have hie : i = (flL v.tree).length := by omega
            subst hie
            simp [fst0]
        | true =>
          show _ = ok (int (fst0 _ (behN (flL v.tree).reverse _)))
          rw [behN_rev hFn hj]
          simp only [weak_T, weak_I, weak_P, fold_Vv, fold_rpVv, h1 v hv hc, h2 (scL v) _ (show (scL v).length ≤ 400 by omega), h3 v.tree ht, h2 (flL v.tree) _ (show (flL v.tree).length ≤ 400 by omega), Option.bind_some, sLen_I, sBin_eql, sBin_geq, sBin_lss, hpl, hpf, asB_b, guard_or, hcond, List.getD_cons_zero, pick_f, pick_t, hz, decide_false, sBin_sub, w2]
          refine loop_wf (fun i : Nat => ⟨[encI (scL v), encI (flL v.tree), int ((i : Int) - 1)], [], false⟩) (fun i => ok (int (fst0 (fun m => decide (m ∈ scL v)) ((flL v.tree).take i).reverse))) (fun i => i) (fun i => i ≤ (flL v.tree).length) ?_ k j (by omega) (by omega)
          intro i hi next hnx
          cases i with
          | zero => simp [fst0]
          | succ i =>
            have hlt : i < (flL v.tree).length := by omega
            have hw : IntKind.i64.wrap ((i : Int) - 1) = (i : Int) - 1 := wrapS (by omega) (by omega)
            have ei : ((i + 1 : Nat) : Int) - 1 = i := by omega
            have et : ((flL v.tree).take (i + 1)).reverse = (flL v.tree)[i] :: ((flL v.tree).take i).reverse := by rw [List.take_succ_eq_append_getElem hlt]; simp
            rw [et]
            simp only [ei]
            by_cases c : (flL v.tree)[i] ∈ scL v
            · simp [hlt, idx_I hlt, h4 (scL v) _ (show (scL v).length ≤ 400 by omega), c, fst0]
            · have hnx' := hnx i (by omega) (by omega)
              have e : fst0 (fun m => decide (m ∈ scL v)) ((flL v.tree)[i] :: ((flL v.tree).take i).reverse) = fst0 (fun m => decide (m ∈ scL v)) ((flL v.tree).take i).reverse := by
                unfold fst0; rw [List.find?_cons_of_neg (by simpa using c)]
              rw [e]
              simp [hlt, idx_I hlt, h4 (scL v) _ (show (scL v).length ≤ 400 by omega), c, hw]
              simpa using hnx'
end Go.Proofs.YtjcnilaogidhlaaGreat.K
end
