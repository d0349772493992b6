/- What is told of slots, and of the flat tree. -/
import Derived.Test.YtcdnmiaelaombaaGreatLmAH
import Derived.Test.YtcdnmiaelaombaaGreatLmAR
set_option linter.unusedVariables false
set_option linter.unusedSimpArgs false
set_option linter.unnecessarySimpa false
set_option linter.all false
section
namespace Go.Proofs.YtcdnmiaelaombaaGreat.K
open Go Go.Lm
set_option linter.unusedSimpArgs false
theorem both_of {α : Type} {p : Option α} {x y : α} (h : p = some x) : both p (some y) = some x := h ▸ rfl
theorem range_ints {α σ : Type} {body : LS → SVal → (LS → Option α) → Option α} {done : LS → Option α} (S : σ → LS) (F : List Int → σ → Option α) (Inv : List Int → σ → Prop)
    (h0 : ∀ s, Inv [] s → done (S s) = F [] s) (h : ∀ x xs s, Inv (x :: xs) s → ∀ next, (∀ s', Inv xs s' → next (S s') = F xs s') → body (S s) (int x) next = F (x :: xs) s) :
    ∀ (xs : List Int) (s : σ), Inv xs s → rangeN body done (xs.map (SVal.int .i64)) (S s) = F xs s
  | [], s, hi => by simp only [List.map_nil, rangeN]; exact h0 s hi
  | x :: xs, s, hi => by
    simp only [List.map_cons, rangeN]
    exact h x xs s hi _ fun s' hi' => range_ints S F Inv h0 h xs s' hi'
theorem may_is {t : List Nod} {n : Int} (h : May t) (hn : isN t n = true) : mayN t n = true := by simp [mayN, h.may, hn]
theorem fkids_is {t : List Nod} (h : May t) {n k : Int} (hn : isN t n = true) (hk : k ∈ fkids t n) : isN t k = true := (kidN h hn hk).1
theorem kids_len {t : List Nod} (h : Sm t) (n : Int) : (nd t n).kids.length ≤ 80 := (h.nd n).1
theorem fkids_len {t : List Nod} (h : Sm t) (n : Int) : (fkids t n).length ≤ 80 := by
  unfold fkids
  split; · simp
  split; · exact kids_len h _
  split; · exact kids_len h _
  unfold asgL
  split
  · exact Nat.le_trans (List.length_filter_le _ _) (kids_len h _)
  · simp
theorem host_eq {t : List Nod} (h : May t) {n : Int} (hn : isN t n = true) : hostN t n = (nd t (topN t n)).host := by simp [hostN, may_is h hn]
theorem host_shadow {t : List Nod} (h : May t) {n : Int} (hn : isN t n = true) : decide (¬ hostN t n = -1) = decide ((nd t (topN t n)).kind = 3) := by
  have hT := (host_top h hn).1
  rw [host_eq h hn, Bool.eq_iff_iff]
  simp only [decide_eq_true_eq]
  constructor
  · intro h1
    exact Classical.byContradiction fun h3 => h1 ((h.f hT).plain h3).1
  · intro h3
    exact isN_ne ((h.f hT).shad h3).2.2.1
/-! ### The tree in order -/
theorem des_cons {t : List Nod} (h : May t) {n : Int} (hn : isN t n = true) : desL t n = n :: (nd t n).kids.flatMap (desL t) := (ordTr h).pre_cons hn
theorem des_len {t : List Nod} (h : May t) {n : Int} (hn : isN t n = true) : (desL t n).length ≤ t.length := isN_count ((ordTr h).pre_nodup n hn) ((ordTr h).preP n hn)
theorem drop_flat {f : Int → List Int} {l : List Int} {i : Nat} {x : Int} {r : List Int} (h : l.drop i = x :: r) : (l.drop i).flatMap f = f x ++ r.flatMap f := by rw [h, List.flatMap_cons]
/-- Down, one behind the other: each subtree with its fuel. -/
theorem sPdown : ∃ k0, ∀ (d k : Nat) (t : List Nod) (n : Int), k0 + d ≤ k → May t → isN t n = true → t.length + 2 ≤ d + (parsO t (ups t n)).length → T k 109 [encT t, int n, .yld] = some { r := .bool true, out := (desL t n).map (SVal.int .i64) } := by
  refine ⟨1000, fun d => ?_⟩
  induction d with
  | zero => intro k t n _ ht hn hd; have := (ordTr ht).len n hn; omega
  | succ d ih =>
    intro k' t n hk ht hn hd
    obtain ⟨k, rfl⟩ : ∃ j, k' = j + 1 := ⟨k' - 1, by omega⟩
    have hl := ht.sm.len
    rw [t109]; unfold R109
    have hkl := kids_len ht.sm n
    simp only [notTup_int, Option.bind_some, idx_nd hn, encN_c3, sLen_I, weak_T, weak_I, List.nil_append]
    rw [des_cons ht hn]
    refine both_of ?_
    refine (for_list (nd t n).kids (fun i (o : List Int) => ⟨[encT t, .yld, encI (nd t n).kids, int (nd t n).kids.length, int i], o.map (SVal.int .i64), false⟩) (fun r i o => (some { r := .bool true, out := (o ++ r.flatMap (desL t)).map (SVal.int .i64) } : Option Res)) (fun _ _ => True) (by omega) ?_ ?_ k [n] (by omega) trivial).trans rfl
    · intro o next _; simp
    · intro i o x r next hi hx _ _ hw hnx
      have hxm : x ∈ (nd t n).kids := hx ▸ List.getElem_mem hi
      have hx' := ((ordTr ht).kid n x hn hxm).1
      have hup : (parsO t (ups t x)).length = (parsO t (ups t n)).length + 1 := by rw [(ordTr ht).up_kid hn hxm]; simp
      have e := ih k t x (by omega) ht hx' (by omega)
      have hnx' := hnx (o ++ desL t x) trivial
      simp [hi, idx_I hi, hx, hw, e, both_l]
      simpa [List.flatMap_cons] using hnx'
theorem sPolist1 : Ev fun k => ∀ (t : List Nod) (n : Int), May t → isN t n = true → T k 108 [.yld, .rp [encT t], .rp [int n]] = some { r := .tup [], out := (desL t n).map (SVal.int .i64) } := by
  obtain ⟨k0, h⟩ := sPdown
  refine Ev.pure (k0 + 1000) fun k hk t n ht hn => ?_
  have hl := ht.sm.len
  have e := h (t.length + 2) k t n (by omega) ht hn (by omega)
  rw [t108]; unfold R108
  simp [e]
theorem sPolist : Ev fun k => ∀ (t : List Nod) (n : Int), T k 79 [encT t, int n] = ok (.fn 108 [.rp [encT t], .rp [int n]]) := by
  refine Ev.pure 1000 fun k hk t n => ?_
  rw [t79]; unfold R79
  simp
theorem sPoList : Ev fun k => ∀ (t : List Nod) (n : Int), Sm t → T k 53 [encT t, int n] = ok (encI (if mayN t n = true then desL t n else [])) := by
  obtain ⟨k0, hall⟩ := sPall.and (sPolist.and (sPolist1.and sCollect))
  refine ⟨k0 + 3, fun k' hk' t n ht => ?_⟩
  obtain ⟨k, rfl⟩ : ∃ j, k' = j + 3 := ⟨k' - 3, by omega⟩
  obtain ⟨h1, h2, _, _⟩ := hall (k + 2) (by omega)
  obtain ⟨_, _, h3, h4⟩ := hall k (by omega)
  have e1 : T (k + 2) 77 [encT t, .sl 1 false false [int n]] = ok (.bool (mayN t n)) := by
    have := h1 t [n] ht (by simp)
    simpa [encI, mayN] using this
  rw [t53]; unfold R53
  by_cases hm : mayN t n = true
  · have hm' : mayT t = true ∧ isN t n = true := by simpa [mayN] using hm
    have hM : May t := ⟨ht, hm'.1⟩
    have hl := ht.len
    have hle := des_len hM hm'.2
    have e2 := h4 (.fn 108 [.rp [encT t], .rp [int n]]) (desL t n) (by omega) (by simp only [callIt, h3 t n hM hm'.2, Option.bind_some])
    simp [e1, hm, h2, e2]
  · simp [e1, hm]
theorem sRlist3 : ∃ k0, ∀ (d k : Nat) (t : List Nod) (n : Int), k0 + d ≤ k → May t → isN t n = true → t.length + 2 ≤ d + (parsO t (ups t n)).length → T k 21 [encT t, int n] = ok (encI (desL t n)) := by
  refine ⟨1000, fun d => ?_⟩
  induction d with
  | zero => intro k t n _ ht hn hd; have := (ordTr ht).len n hn; omega
  | succ d ih =>
    intro k' t n hk ht hn hd
    obtain ⟨k, rfl⟩ : ∃ j, k' = j + 1 := ⟨k' - 1, by omega⟩
    have hl := ht.sm.len
    rw [t21]; unfold R21
    have hkl := kids_len ht.sm n
    simp only [List.all_cons, List.all_nil, Bool.and_true, allOne_one, oneS_int, if_true, weak_T]
    have hlen := des_len ht hn
    rw [des_cons ht hn] at hlen ⊢
    refine (for_list (nd t n).kids (fun i (o : List Int) => ⟨[encT t, int n, .sl 1 true false (o.map (SVal.int .i64)), int i], [], false⟩) (fun r i o => ok (encI (o ++ r.flatMap (desL t)))) (fun i o => o.length + (((nd t n).kids.drop i).flatMap (desL t)).length ≤ 100) (by omega) ?_ ?_ k [n] (by omega) ?_).trans ?_
    · intro o next _; simp [idx_nd hn]
    · intro i o x r next hi hx hd2 hI hw hnx
      have hxm : x ∈ (nd t n).kids := hx ▸ List.getElem_mem hi
      have hx' := ((ordTr ht).kid n x hn hxm).1
      have hup : (parsO t (ups t x)).length = (parsO t (ups t n)).length + 1 := by rw [(ordTr ht).up_kid hn hxm]; simp
      have e := ih k t x (by omega) ht hx' (by omega)
      have hd' : (nd t n).kids.drop (i + 1) = r := by rw [← List.drop_drop, hd2]; rfl
      rw [hd2, List.flatMap_cons] at hI
      simp only [List.length_append] at hI
      have ha := app8 (n := o.length + (desL t x).length) (by omega)
      have hnx' := hnx (o ++ desL t x) (by rw [hd']; simp only [List.length_append]; omega)
      simp [idx_nd hn, hi, idx_I hi, hx, hw, e, ha]
      simpa [List.flatMap_cons] using hnx'
    · simp only [List.drop_zero, List.length_append, List.length_singleton]
      simp only [List.length_cons] at hlen; omega
    · rfl
theorem sRoList : Ev fun k => ∀ (t : List Nod) (n : Int), May t → isN t n = true → T k 21 [encT t, int n] = ok (encI (desL t n)) := by
  obtain ⟨k0, h⟩ := sRlist3
  refine ⟨k0 + 1000, fun k hk t n ht hn => ?_⟩
  have hl := ht.sm.len
  exact h (t.length + 2) k t n (by omega) ht hn (by omega)
theorem sRoUp : Ev fun k => ∀ (t : List Nod) (n : Int), May t → (n = -1 ∨ isN t n = true) → T k 175 [encT t, int n] = ok (encI (parsO t (ups t n))) := by
  refine Ev.pure 1000 fun k hk t n ht hn => ?_
  have hl := ht.sm.len
  have hT := ordTr ht
  rw [t175]; unfold R175; simp only [weak_T]
  refine loop_wf (fun p : Int × List Int => ⟨[encT t, int p.1, .sl 1 true false (p.2.map (SVal.int .i64))], [], false⟩) (fun p => ok (encI (p.2 ++ parsO t (ups t p.1)))) (fun p => (parsO t (ups t p.1)).length) (fun p => (p.1 = -1 ∨ isN t p.1 = true) ∧ p.2.length + (parsO t (ups t p.1)).length ≤ 100) ?_ k (n, []) ⟨hn, ?_⟩ ?_
  · rintro ⟨m, o⟩ ⟨hm, ho⟩ next hnx
    simp only at hm ho hnx ⊢
    by_cases h1 : m = -1
    · simp [h1, ups_nil, parsO]
    · have hm' := hm.resolve_left h1
      have hc : parsO t (ups t m) = m :: parsO t (ups t (nd t m).parent) := hT.upc m hm'
      rw [hc] at ho ⊢
      simp only [List.length_cons] at ho
      have ha := app8 (n := o.length + 1) (by omega)
      have hnx' := hnx ((nd t m).parent, o ++ [m]) ⟨hT.parP m hm', by simp; omega⟩ (by rw [hc]; simp)
      simpa [h1, ha, idx_nd hm'] using hnx'
  · have := pars_len t (ups t n); have := ups_len t n; simp; omega
  · have := pars_len t (ups t n); have := ups_len t n; simp; omega
theorem sRoTop : Ev fun k => ∀ (t : List Nod) (n : Int), May t → isN t n = true → T k 151 [encT t, int n] = ok (int (topN t n)) := by
  refine sRoUp.step fun k h t n ht hn => ?_
  rw [t151]; unfold R151
  have hl := ht.sm.len
  have hle := pars_len t (ups t n); have hle2 := ups_len t n
  have hne := pars_ne ht hn
  have hpos : 0 < (parsO t (ups t n)).length := List.length_pos_iff.2 hne
  have hw : IntKind.i64.wrap (((parsO t (ups t n)).length : Int) - 1) = (((parsO t (ups t n)).length - 1 : Nat) : Int) := by rw [wrapS (by omega) (by omega)]; omega
  have hi : (parsO t (ups t n)).length - 1 < (parsO t (ups t n)).length := by omega
  have e : (parsO t (ups t n))[(parsO t (ups t n)).length - 1] = topN t n := by
    unfold topN
    rw [List.getLastD_eq_getLast?, List.getLast?_eq_getElem?, List.getElem?_eq_getElem hi]
    rfl
  simp only [weak_T, h t n ht (.inr hn), Option.bind_some, sLen_I, sBin_sub, hw, idx_I hi, e]
end Go.Proofs.YtcdnmiaelaombaaGreat.K
end
section
namespace Go.Proofs.YtcdnmiaelaombaaGreat.K
open Go Go.Lm
set_option linter.unusedSimpArgs false
theorem tupG_0 (o : Option Int) : SVal.c0 (tupG o) = int (o.getD 0) := by cases o <;> rfl
theorem tupG_1 (o : Option Int) : SVal.c1 (tupG o) = .bool o.isSome := by cases o <;> rfl
theorem top_ne {t : List Nod} (h : May t) {n : Int} (hn : isN t n = true) : topN t n ≠ -1 := isN_ne (host_top h hn).1
theorem sPsis : Ev fun k => ∀ (t : List Nod) (n : Int), Sm t → T k 203 [encT t, int n] = ok (.bool (mayN t n)) := by
  refine sPoTop.step fun k h t n ht => ?_
  rw [t203]; unfold R203
  by_cases hm : mayN t n = true
  · have hm' : mayT t = true ∧ isN t n = true := by simpa [mayN] using hm
    simp [h t n ht, hm, top_ne ⟨ht, hm'.1⟩ hm'.2]
  · simp [h t n ht, hm]
theorem sPfis : Ev fun k => ∀ (t : List Nod) (n : Int), Sm t → T k 170 [encT t, int n] = ok (.bool (mayN t n)) := by
  refine sPoTop.step fun k h t n ht => ?_
  rw [t170]; unfold R170
  by_cases hm : mayN t n = true
  · have hm' : mayT t = true ∧ isN t n = true := by simpa [mayN] using hm
    simp [h t n ht, hm, top_ne ⟨ht, hm'.1⟩ hm'.2]
  · simp [h t n ht, hm]
theorem sPslot : Ev fun k => ∀ (t : List Nod) (n : Int), May t → isN t n = true → T k 204 [encT t, int n] = ok (.bool (isSl t n)) := by
  refine sPHost.step fun k h t n ht hn => ?_
  rw [t204]; unfold R204
  have hs := host_shadow ht hn
  rw [decide_not] at hs
  by_cases h1 : (nd t n).kind = 1
  · by_cases h2 : (nd t n).tag = 3
    · simp [idx_nd hn, h1, h2, h t n ht.sm, isSl, hs]
    · simp [idx_nd hn, h1, h2, isSl]
  · simp [idx_nd hn, h1, isSl]
theorem sRslot : Ev fun k => ∀ (t : List Nod) (n : Int), May t → isN t n = true → T k 150 [encT t, int n] = ok (.bool (isSl t n)) := by
  refine sRoTop.step fun k h t n ht hn => ?_
  rw [t150]; unfold R150
  have hT := (host_top ht hn).1
  by_cases h1 : (nd t n).kind = 1
  · by_cases h2 : (nd t n).tag = 3
    · simp [idx_nd hn, h1, h2, h t n ht hn, idx_nd hT, isSl]
    · simp [idx_nd hn, h1, h2, isSl]
  · simp [idx_nd hn, h1, isSl]
theorem sPname : Ev fun k => ∀ (t : List Nod) (n : Int), May t → isN t n = true → T k 201 [encT t, int n] = ok (int (nameN t n)) := by
  refine sPGet.step fun k h t n ht hn => ?_
  rw [t201]; unfold R201
  simp [h t n 4 ht.sm, may_is ht hn, tupG_0, nameN]
theorem sRname : Ev fun k => ∀ (t : List Nod) (n : Int), May t → isN t n = true → T k 177 [encT t, int n] = ok (int (nameN t n)) := by
  refine sRGet.step fun k h t n ht hn => ?_
  rw [t177]; unfold R177
  simp [h t n 4 ht.sm, hn, tupG_0, nameN]
theorem slots_len {t : List Nod} (h : May t) {r : Int} (hr : isN t r = true) : (slotsL t r).length ≤ t.length := Nat.le_trans (List.length_filter_le _ _) (des_len h hr)
theorem sPwithin1 : Ev fun k => ∀ (t : List Nod) (r : Int), May t → isN t r = true → T k 207 [.yld, .rp [encT t], .rp [int r]] = some { r := .tup [], out := (slotsL t r).map (SVal.int .i64) } := by
  refine (sPoList.and sPslot).at 1000 fun k hk ⟨h1, h2⟩ t r ht hr => ?_
  have hl := ht.sm.len
  have hdl := des_len ht hr
  rw [t207]; unfold R207
  simp only [weak_T, h1 t r ht.sm, may_is ht hr, if_true, Option.bind_some, sLen_I, weak_I]
  refine for_list (desL t r) (fun i (o : List Int) => ⟨[.yld, .rp [encT t], encI (desL t r), int (desL t r).length, int i], o.map (SVal.int .i64), false⟩) (fun q i o => (some { r := .tup [], out := (o ++ q.filter (isSl t)).map (SVal.int .i64) } : Option Res)) (fun _ _ => True) (by omega) ?_ ?_ k [] (by omega) trivial
  · intro o next _; simp
  · intro i o x q next hi hx _ _ hw hnx
    have hx' : isN t x = true := (ordTr ht).preP r hr x (hx ▸ List.getElem_mem hi)
    by_cases hs : isSl t x = true
    · have hnx' := hnx (o ++ [x]) trivial
      simp only [List.filter_cons, hs, if_true]
      simpa [hi, idx_I hi, hx, hw, h2 t x ht hx', hs] using hnx'
    · have hnx' := hnx o trivial
      simp only [List.filter_cons, hs, if_false]
      simpa [hi, idx_I hi, hx, hw, h2 t x ht hx', hs] using hnx'
theorem sPwithin : Ev fun k => ∀ (t : List Nod) (n : Int), T k 202 [encT t, int n] = ok (.fn 207 [.rp [encT t], .rp [int n]]) := by
  refine Ev.pure 1000 fun k hk t n => ?_
  rw [t202]; unfold R202
  simp
theorem sRall5 : Ev fun k => ∀ (t : List Nod) (r : Int), May t → isN t r = true → (nd t r).kind = 3 → T k 176 [encT t, int r] = ok (encI (slotsL t r)) := by
  refine (sRoList.and sRslot).at 1000 fun k hk ⟨h1, h2⟩ t r ht hr h3 => ?_
  have hl := ht.sm.len
  have hdl := des_len ht hr
  rw [t176]; unfold R176
  simp only [idx_nd hr, Option.bind_some, encN_c0, h3, sBin_neq, decide_true, Bool.not_true, pick_f, weak_T, h1 t r ht hr, weak_I]
  refine for_list (desL t r) (fun i (o : List Int) => ⟨[encT t, .sl 1 true false (o.map (SVal.int .i64)), encI (desL t r), int i], [], false⟩) (fun q i o => ok (encI (o ++ q.filter (isSl t)))) (fun i o => o.length ≤ i) (by omega) ?_ ?_ k [] (by omega) (by simp)
  · intro o next _; simp
  · intro i o x q next hi hx _ hI hw hnx
    have hx' : isN t x = true := (ordTr ht).preP r hr x (hx ▸ List.getElem_mem hi)
    have ha := app8 (n := o.length + 1) (by omega)
    by_cases hs : isSl t x = true
    · have hnx' := hnx (o ++ [x]) (by simp; omega)
      simp only [List.filter_cons, hs, if_true]
      simpa [hi, idx_I hi, hx, hw, h2 t x ht hx', hs, ha] using hnx'
    · have hnx' := hnx o (by omega)
      simp only [List.filter_cons, hs, if_false]
      simpa [hi, idx_I hi, hx, hw, h2 t x ht hx', hs] using hnx'
theorem sProot : Ev fun k => ∀ (t : List Nod) (n : Int), May t → isN t n = true → T k 200 [encT t, int n] = ok (int (if (nd t n).parent = -1 then -1 else (nd t (nd t n).parent).root)) := by
  refine sPsis.step fun k h t n ht hn => ?_
  rw [t200]; unfold R200
  by_cases hp : (nd t n).parent = -1
  · simp [h t n ht.sm, may_is ht hn, idx_nd hn, hp]
  · have hp' := ((ordTr ht).parP n hn).resolve_left hp
    simp [h t n ht.sm, may_is ht hn, idx_nd hn, hp, idx_nd hp']
/-- The root that a parent has is one. -/
theorem root_is {t : List Nod} (ht : May t) {q : Int} (hq : isN t q = true) (hr : ¬ (nd t q).root = -1) : isN t (nd t q).root = true ∧ (nd t (nd t q).root).kind = 3 := by
  have h3 : ¬ (nd t q).kind = 3 := fun h3 => hr ((ht.f hq).shad h3).1
  have := ((ht.f hq).plain h3).2.resolve_left hr
  exact ⟨this.2.1, this.2.2.1⟩
theorem sPOf : Ev fun k => ∀ (t : List Nod) (n : Int), May t → isN t n = true → T k 198 [encT t, int n] = ok (int (ofN t n)) := by
  refine (sProot.and (sPGet.and (sPHas.and (sPname.and (sPwithin.and sPwithin1))))).at 1000 fun k hk ⟨h1, h2, h3, h4, h5, h6⟩ t n ht hn => ?_
  rw [t198]; unfold R198
  by_cases hp : (nd t n).parent = -1
  · simp [h1 t n ht hn, hp, ofN]
  · have hp' := ((ordTr ht).parP n hn).resolve_left hp
    by_cases hr : (nd t (nd t n).parent).root = -1
    · simp [h1 t n ht hn, hp, hr, ofN]
    · obtain ⟨r1, r2⟩ := root_is ht hp' hr
      have e : ofN t n = fstP (ofP t n (nd t (nd t n).parent).root) (slotsL t (nd t (nd t n).parent).root) := by rw [ofN, if_neg hp, if_neg hr]
      have hl := ht.sm.len
      have hsl := slots_len ht r1
      have hin : ∀ x ∈ slotsL t (nd t (nd t n).parent).root, isN t x = true := fun x hx => (slot_in ht r1 hx).1
      have e6 : callIt (T k) (.fn 207 [.rp [encT t], .rp [int (nd t (nd t n).parent).root]]) = some ((slotsL t (nd t (nd t n).parent).root).map (SVal.int .i64)) := by simp only [callIt, h6 t _ ht r1, Option.bind_some]
      rw [e]
      simp only [one_T, if_true, weak_T, h1 t n ht hn, if_neg hp, Option.bind_some, sBin_eql, hr, decide_false, pick_f, h2 t n 9 ht.sm, may_is ht hn, tupG_0, tupG_1, oneS_int, oneS_bool, h3 t _ 8 ht.sm, may_is ht r1, Bool.true_and, h4 t n ht hn, h5, e6]
      clear e e6
      generalize (nd t (nd t n).parent).root = r at r1 r2 hr hsl hin
      refine range_ints (fun _ : Unit => ⟨[.rp [encT t], .mb [int 0], .rp [int ((getA 9 (nd t n).attrs).getD 0)], .rp [.bool (getA 9 (nd t n).attrs).isSome], .rp [.bool (hasA (nd t r) 8)], .rp [int (nameN t n)]], [], false⟩) (fun xs _ => ok (int (fstP (ofP t n r) xs))) (fun xs _ => ∀ x ∈ xs, isN t x = true) (fun _ _ => by simp [fstP]) (fun x xs _ hI next hnx => ?_) _ () hin
      have hx := hI x (by simp)
      have hnx' := hnx () fun y hy => hI y (by simp [hy])
      have hnm := h4 t x ht hx
      cases hm : hasA (nd t r) 8 with
      | true =>
        cases hg : getA 9 (nd t n).attrs with
        | none => simpa [fstP, ofP, hm, hg] using hnx'
        | some a =>
          by_cases hxa : x = a
          · simp [fstP, ofP, hm, hg, hxa]
          · simpa [fstP, ofP, hm, hg, hxa, Ne.symm hxa, eq_comm (a := a)] using hnx'
      | false =>
        by_cases hxa : nameN t x = nameN t n
        · simp [fstP, ofP, hm, hnm, hxa]
        · simpa [fstP, ofP, hm, hnm, hxa] using hnx'
theorem sROf : Ev fun k => ∀ (t : List Nod) (n : Int), May t → isN t n = true → T k 152 [encT t, int n] = ok (int (ofN t n)) := by
  refine (sRall5.and (sRHas.and (sRGet.and (sRname.and sIn)))).at 1000 fun k hk ⟨h1, h2, h3, h4, h5⟩ t n ht hn => ?_
  rw [t152]; unfold R152
  by_cases hp : (nd t n).parent = -1
  · simp [idx_nd hn, hp, ofN]
  · have hp' := ((ordTr ht).parP n hn).resolve_left hp
    by_cases hr : (nd t (nd t n).parent).root = -1
    · simp [idx_nd hn, hp, idx_nd hp', hr, ofN]
    · obtain ⟨r1, r2⟩ := root_is ht hp' hr
      have e : ofN t n = fstP (ofP t n (nd t (nd t n).parent).root) (slotsL t (nd t (nd t n).parent).root) := by rw [ofN, if_neg hp, if_neg hr]
      have hl := ht.sm.len
      have hsl := slots_len ht r1
      have hin : ∀ x ∈ slotsL t (nd t (nd t n).parent).root, isN t x = true := fun x hx => (slot_in ht r1 hx).1
      rw [e]
      simp only [weak_T, weak_I, idx_nd hn, encN_c2, Option.bind_some, sBin_eql, hp, decide_false, pick_f, idx_nd hp', encN_c5, hr, h1 t _ ht r1 r2, h2 t _ 8 ht.sm, r1, Bool.true_and, h3 t n 9 ht.sm, hn, if_true, tupG_0, tupG_1]
      clear e
      generalize (nd t (nd t n).parent).root = r at r1 r2 hr hsl hin
      cases hm : hasA (nd t r) 8 with
      | true =>
        have key : ∀ l : List Int, fstP (ofP t n r) l = match getA 9 (nd t n).attrs with | some a => if a ∈ l then a else -1 | none => -1 := by
          intro l
          induction l with
          | nil => cases getA 9 (nd t n).attrs <;> simp [fstP]
          | cons x l ih =>
            simp only [fstP, ih, ofP, hm, if_true]
            cases hg : getA 9 (nd t n).attrs with
            | none => simp
            | some a =>
              by_cases hxa : a = x
              · simp [hxa]
              · simp [hxa]
        rw [key]
        cases hg : getA 9 (nd t n).attrs with
        | none => simp
        | some a =>
          simp only [Option.getD_some, Option.isSome_some, h5 _ a (show (slotsL t r).length ≤ 400 by omega)]
          by_cases hma : a ∈ slotsL t r
          · simp [hma]
          · simp [hma]
      | false =>
        simp only [pick_f]
        refine for_list (slotsL t r) (fun i (_ : Unit) => ⟨[encT t, int n, encI (slotsL t r), int i], [], false⟩) (fun q i _ => ok (int (fstP (ofP t n r) q))) (fun _ _ => True) (by omega) ?_ ?_ k () (by omega) trivial
        · intro o next _; simp [fstP]
        · intro i o x q next hi hx _ _ hw hnx
          have hx' := hin x (hx ▸ List.getElem_mem hi)
          have hnx' := hnx () trivial
          by_cases hxa : nameN t x = nameN t n
          · simp [hi, idx_I hi, hx, h4 t x ht hx', h4 t n ht hn, hxa, fstP, ofP, hm]
          · simpa [hi, idx_I hi, hx, hw, h4 t x ht hx', h4 t n ht hn, hxa, fstP, ofP, hm] using hnx'
/-- Whom something is so of goes. -/
theorem sDel : Ev fun k => ∀ (l : List Int) (f : SVal) (p : Int → Bool), l.length ≤ 400 → (∀ x ∈ l, callV H (T k) f [int x] = some (.bool (p x))) → (∀ x ∈ l, callV H (T (k + 1)) f [int x] = some (.bool (p x))) →
    T (k + 2) 205 [.sl 1 true false (l.map (SVal.int .i64)), f] = ok (.sl 1 true false ((l.filter fun x => !p x).map (SVal.int .i64))) := by
  refine ((Ev.ge 1000).and sIndexFunc).mono fun k ⟨hk, h1⟩ l f p hl hf hf2 => ?_
  rw [t205]; unfold R205
  have e1 := h1 l f p hl hf
  have e0 : SVal.sl 1 false false (l.map (SVal.int .i64)) = encI l := rfl
  simp only [e0, e1, Option.bind_some, sc1_i, if_true, sBin_eql]
  cases ha : l.any p with
  | false =>
    have hneg : plP p l 0 = -1 := by
      have : ∀ (l : List Int) (i : Nat), l.any p = false → plP p l i = -1 := by
        intro l
        induction l with
        | nil => intro i _; rfl
        | cons x l ih => intro i h; simp only [List.any_cons, Bool.or_eq_false_iff] at h; simp [plP, h.1, ih (i + 1) h.2]
      exact this l 0 ha
    have hfil : (l.filter fun x => !p x) = l := by
      rw [List.filter_eq_self]
      intro x hx
      have := List.any_eq_false.1 ha x hx
      simpa using this
    simp [hneg, hfil]
  | true =>
    have hfirst : ∀ (l : List Int) (i : Nat), l.any p = true → ∃ j, ∃ (h : j < l.length), plP p l i = ((i + j : Nat) : Int) ∧ p l[j] = true ∧ ∀ x ∈ l.take j, p x = false := by
      intro l
      induction l with
      | nil => intro i h; simp at h
      | cons x l ih =>
        intro i h
        by_cases hx : p x = true
        · exact ⟨0, by simp, by simp [plP, hx], by simpa using hx, by simp⟩
        · simp only [List.any_cons, hx, Bool.false_or] at h
          obtain ⟨j, hj, e, hp, ht⟩ := ih (i + 1) h
          refine ⟨j + 1, by simpa using hj, by simp only [plP, hx, if_false]; rw [if_neg Bool.false_ne_true, e]; omega, by simpa using hp, fun y hy => ?_⟩
          simp only [List.take_succ_cons, List.mem_cons] at hy
          rcases hy with rfl | hy
          · simpa using hx
          · exact ht y hy
    obtain ⟨j0, hj0, ej, hpj, hpre⟩ := hfirst l 0 ha
    rw [Nat.zero_add] at ej
    have hw0 := wrap1 (i := j0) (by omega)
    simp only [ej, show ¬ ((j0 : Int) = -1) by omega, decide_false, pick_f, sBin_add, Option.bind_some, hw0]
    -- what is kept lies ahead, the rest as it was
    refine (loop_wf (fun s : List Int × Nat × Nat => ⟨[.sl 1 true false (s.1.map (SVal.int .i64)), f, int s.2.1, int s.2.2], [], false⟩) (fun _ => ok (.sl 1 true false ((l.filter fun x => !p x).map (SVal.int .i64)))) (fun s => l.length - s.2.2)
      (fun s => s.1.length = l.length ∧ s.2.1 < s.2.2 ∧ s.2.2 ≤ l.length ∧ s.1.take s.2.1 = (l.take s.2.2).filter (fun x => !p x) ∧ s.1.drop s.2.2 = l.drop s.2.2) ?_ (k + 1) (l, j0, j0 + 1) ⟨rfl, Nat.lt_succ_self _, hj0, ?_, rfl⟩ (by simp only; omega))
    · rintro ⟨cur, i, j⟩ ⟨c1, c2, c3, c4, c5⟩ next hnx
      simp only at c1 c2 c3 c4 c5 hnx ⊢
      by_cases hlt : j < l.length
      · have hjc : j < cur.length := by omega
        have hcj : cur[j] = l[j] := by
          have h2 := congrArg (fun q => q[0]?) c5
          simp only [List.getElem?_drop, Nat.add_zero, List.getElem?_eq_getElem hjc, List.getElem?_eq_getElem hlt, Option.some.injEq] at h2
          exact h2
        have hfx := hf2 l[j] (List.getElem_mem hlt)
        have hwj := wrap1 (i := j) (by omega)
        have hwi := wrap1 (i := i) (by omega)
        have hd : l.drop j = l[j] :: l.drop (j + 1) := List.drop_eq_getElem_cons hlt
        have htk : l.take (j + 1) = l.take j ++ [l[j]] := by rw [List.take_append_getElem hlt]
        have hic : i < cur.length := by omega
        by_cases hp : p l[j] = true
        · have hnx' := hnx (cur, i, j + 1) ⟨c1, Nat.lt_succ_of_lt c2, hlt, by rw [htk, List.filter_append, c4]; simp [hp], by
            rw [← List.drop_drop, c5, ← List.drop_drop]⟩ (by simp only; omega)
          simp [c1, hlt, hjc, hcj, hfx, hp, hwj]
          simpa using hnx'
        · have hset : (cur.map (SVal.int .i64)).set i (int l[j]) = (cur.set i l[j]).map (SVal.int .i64) := by rw [List.map_set]
          have hnx' := hnx (cur.set i l[j], i + 1, j + 1) ⟨by simp only [List.length_set]; exact c1, Nat.succ_lt_succ c2, hlt, by
            rw [htk, List.filter_append, ← c4, List.take_add_one, List.take_set_of_le (Nat.le_refl _)]
            simp [hic, hp], by
            rw [List.drop_set_of_lt (show i < j + 1 by omega), ← List.drop_drop, c5, ← List.drop_drop]⟩ (by simp only; omega)
          simp [c1, hlt, hjc, hcj, hfx, hp, hwj, hwi, hic, show i < l.length by omega]
          rw [hset] at *
          simpa using hnx'
      · have ej : j = l.length := by omega
        subst ej
        have hil : i ≤ l.length := by omega
        have hb1 : sBnd l.length (int i) = some i := sBnd_nat hil
        have ct : cur.take i = l.filter fun x => !p x := by rw [c4, List.take_length]
        have hmin : min i l.length + (l.length - i) = l.length := by omega
        simp [c1, hb1, hil, hmin]
        rw [← List.map_take, ct]
    · simp only
      rw [List.take_succ_eq_append_getElem hj0, List.filter_append]
      have : (l.take j0).filter (fun x => !p x) = l.take j0 := by
        rw [List.filter_eq_self]
        intro x hx; simp [hpre x hx]
      rw [this]
      simp [hpj]
theorem sPasg1 : Ev fun k => ∀ (t : List Nod) (s n : Int), May t → isN t n = true → callV H (T k) (.fn 206 [.rp [encT t], .rp [int s]]) [int n] = some (.bool (!decide (ofN t n = s))) := by
  refine sPOf.step fun k h t s n ht hn => ?_
  have e : ∀ (T : Nat → List SVal → Option Res) (caps args : List SVal), callV H T (.fn 206 caps) args = (if shOks [.plain, .rp 1, .rp 1] (args ++ caps) = true then (T 206 (args ++ caps)).bind fun r => some r.r else none) := fun T caps args => by kernel_rfl
  rw [e]
  have : T (k + 1) 206 ([int n] ++ [.rp [encT t], .rp [int s]]) = ok (.bool (!decide (ofN t n = s))) := by
    show T (k + 1) 206 [int n, .rp [encT t], .rp [int s]] = _
    rw [t206]; unfold R206
    simp [h t n ht hn]
  rw [this]; rfl
theorem sPAsg : Ev fun k => ∀ (t : List Nod) (s : Int), May t → isN t s = true → T k 199 [encT t, int s] = ok (encI (asgL t s)) := by
  obtain ⟨k0, hall⟩ := sPsis.and (sPslot.and (sPHost.and (sPasg1.and sDel)))
  refine ⟨k0 + 4, fun k' hk' t s ht hs => ?_⟩
  obtain ⟨k, rfl⟩ : ∃ j, k' = j + 3 := ⟨k' - 3, by omega⟩
  obtain ⟨h1, h2, h3, _, _⟩ := hall (k + 2) (by omega)
  obtain ⟨_, _, _, h4, h5⟩ := hall k (by omega)
  obtain ⟨_, _, _, h6, _⟩ := hall (k + 1) (by omega)
  rw [t199]; unfold R199
  by_cases hsl : isSl t s = true
  · have hT := (host_top ht hs).1
    have h3' : (nd t (topN t s)).kind = 3 := by simp only [isSl, Bool.and_eq_true, decide_eq_true_eq] at hsl; exact hsl.2
    have hH := ((ht.f hT).shad h3').2.2.1
    have hkl := kids_len ht.sm (nd t (topN t s)).host
    have hin : ∀ x ∈ (nd t (nd t (topN t s)).host).kids, isN t x = true := fun x hx => ((ht.f hH).kid x hx).1
    have e1 : T (k + 2) 73 [encI (nd t (nd t (topN t s)).host).kids] = ok (.sl 1 true false ((nd t (nd t (topN t s)).host).kids.map (SVal.int .i64))) := clone1 (k + 1) _ (by simp; omega)
    have e2 := h5 (nd t (nd t (topN t s)).host).kids (.fn 206 [.rp [encT t], .rp [int s]]) (fun n => !decide (ofN t n = s)) (by omega) (fun x hx => h4 t s x ht (hin x hx)) (fun x hx => h6 t s x ht (hin x hx))
    simp only [Bool.not_not] at e2
    simp only [one_T, oneS_int, if_true, weak_T, h1 t s ht.sm, may_is ht hs, Option.bind_some, sNot_b, Bool.not_true, guard_ff, h2 t s ht hs, hsl, asB_b, List.getD_cons_zero, pick_f, h3 t s ht.sm, host_eq ht hs, idx_nd hH, encN_c3, weak_I, e1, sv_xs, e2]
    simp [asgL, hsl]
  · simp [h1 t s ht.sm, may_is ht hs, h2 t s ht hs, hsl, asgL]
theorem sRAsg : Ev fun k => ∀ (t : List Nod) (s : Int), May t → isN t s = true → T k 131 [encT t, int s] = ok (encI (asgL t s)) := by
  refine (sRslot.and (sRoTop.and sROf)).at 1000 fun k hk ⟨h1, h2, h3⟩ t s ht hs => ?_
  rw [t131]; unfold R131
  by_cases hsl : isSl t s = true
  · have hT := (host_top ht hs).1
    have h3' : (nd t (topN t s)).kind = 3 := by simp only [isSl, Bool.and_eq_true, decide_eq_true_eq] at hsl; exact hsl.2
    have hH := ((ht.f hT).shad h3').2.2.1
    have e : asgL t s = (nd t (nd t (topN t s)).host).kids.filter fun k => decide (ofN t k = s) := by simp [asgL, hsl]
    rw [e]
    simp only [weak_T, h1 t s ht hs, hsl, Option.bind_some, sNot_b, Bool.not_true, pick_f, h2 t s ht hs, idx_nd hT, encN_c4]
    generalize (nd t (topN t s)).host = q at hH
    have hkl := kids_len ht.sm q
    refine for_list (nd t q).kids (fun i (o : List Int) => ⟨[encT t, int s, .sl 1 true false (o.map (SVal.int .i64)), int q, int i], [], false⟩) (fun r i o => ok (encI (o ++ r.filter fun k => decide (ofN t k = s)))) (fun i o => o.length ≤ i) (by omega) ?_ ?_ k [] (by omega) (by simp)
    · intro o next _; simp [idx_nd hH]
    · intro i o x r next hi hx _ hI hw hnx
      have hx' : isN t x = true := ((ht.f hH).kid x (hx ▸ List.getElem_mem hi)).1
      have ha := app8 (n := o.length + 1) (by omega)
      by_cases ho : ofN t x = s
      · have hnx' := hnx (o ++ [x]) (by simp; omega)
        simp only [List.filter_cons, ho, decide_true, if_true]
        simpa [idx_nd hH, hi, idx_I hi, hx, hw, h3 t x ht hx', ho, ha] using hnx'
      · have hnx' := hnx o (by omega)
        simp only [List.filter_cons, ho, decide_false, Bool.false_eq_true, if_false]
        simpa [idx_nd hH, hi, idx_I hi, hx, hw, h3 t x ht hx', ho] using hnx'
  · simp [h1 t s ht hs, hsl, asgL]
/-! ### The flat tree -/
theorem sPfkids : Ev fun k => ∀ (t : List Nod) (n : Int), May t → isN t n = true → T k 195 [encT t, int n] = ok (encI (fkids t n)) := by
  refine sPAsg.step fun k h t n ht hn => ?_
  rw [t195]; unfold R195
  by_cases h3 : (nd t n).kind = 3
  · simp [idx_nd hn, h3, fkids]
  · by_cases hr : (nd t n).root = -1
    · by_cases ha : asgL t n = []
      · simp [idx_nd hn, h3, fkids, hr, h t n ht hn, ha]
      · have : 0 < (asgL t n).length := List.length_pos_iff.2 ha
        simp [idx_nd hn, h3, fkids, hr, h t n ht hn, ha]
    · have := (root_is ht hn hr).1
      simp [idx_nd hn, h3, fkids, hr, idx_nd this]
theorem sRfkids : Ev fun k => ∀ (t : List Nod) (n : Int), May t → isN t n = true → T k 112 [encT t, int n] = ok (encI (fkids t n)) := by
  refine sRAsg.step fun k h t n ht hn => ?_
  rw [t112]; unfold R112
  by_cases h3 : (nd t n).kind = 3
  · simp [idx_nd hn, h3, fkids]
  · by_cases hr : (nd t n).root = -1
    · by_cases ha : asgL t n = []
      · simp [idx_nd hn, h3, fkids, hr, h t n ht hn, ha]
      · have : 0 < (asgL t n).length := List.length_pos_iff.2 ha
        simp [idx_nd hn, h3, fkids, hr, h t n ht hn, ha]
    · have := (root_is ht hn hr).1
      simp [idx_nd hn, h3, fkids, hr, idx_nd this]
theorem sPover : Ev fun k => ∀ (t : List Nod) (n : Int), May t → isN t n = true → T k 194 [encT t, int n] = ok (int (overN t n)) := by
  refine (sPHost.and sPOf).step fun k ⟨h1, h2⟩ t n ht hn => ?_
  rw [t194]; unfold R194
  by_cases hp : (nd t n).parent = -1
  · simp [idx_nd hn, hp, overN]
  · have hp' := ((ordTr ht).parP n hn).resolve_left hp
    by_cases h3 : (nd t (nd t n).parent).kind = 3
    · simp [idx_nd hn, hp, idx_nd hp', h3, h1 t n ht.sm, host_eq ht hn, overN]
    · by_cases hr : (nd t (nd t n).parent).root = -1
      · simp [idx_nd hn, hp, idx_nd hp', h3, hr, overN]
      · simp [idx_nd hn, hp, idx_nd hp', h3, hr, h2 t n ht hn, overN]
theorem sPfpar : Ev fun k => ∀ (t : List Nod) (n : Int), May t → isN t n = true → T k 187 [encT t, int n] = ok (int (fpar t n)) := by
  refine (sPfis.and (sPover.and (sPfkids.and sContains))).step fun k ⟨h1, h2, h3, h4⟩ t n ht hn => ?_
  rw [t187]; unfold R187
  by_cases ho : overN t n = -1
  · simp [h1 t n ht.sm, may_is ht hn, h2 t n ht hn, ho, fpar]
  · have ho' := (over_is ht hn).resolve_left ho
    have hl := fkids_len ht.sm (overN t n)
    by_cases hm : n ∈ fkids t (overN t n)
    · simp [h1 t n ht.sm, may_is ht hn, h2 t n ht hn, ho, h3 t _ ht ho', h4 _ n (show (fkids t (overN t n)).length ≤ 400 by omega), hm, fpar]
    · simp [h1 t n ht.sm, may_is ht hn, h2 t n ht hn, ho, h3 t _ ht ho', h4 _ n (show (fkids t (overN t n)).length ≤ 400 by omega), hm, fpar]
theorem sRfpar : Ev fun k => ∀ (t : List Nod) (n : Int), May t → isN t n = true → T k 81 [encT t, int n] = ok (int (fpar t n)) := by
  refine (sRfkids.and sIn).at 1000 fun k hk ⟨h1, h2⟩ t n ht hn => ?_
  have hl := ht.sm.len
  rw [t81]; unfold R81; simp only [weak_T]
  refine for_upto t.length (fun i (_ : Unit) => ⟨[encT t, int n, int i], [], false⟩) (fun d i _ => ok (int (fpar t n))) (fun i _ => fpar t n = -1 ∨ (i : Int) ≤ fpar t n) (by omega) ?_ ?_ k () (by omega) ?_
  · intro _ next hI
    have : fpar t n = -1 := by
      rcases hI with h | h
      · exact h
      · rcases fpar_is ht hn with e | e
        · exact e
        · have := isN_iff.1 e; omega
    simp [this]
  · intro d i _ next hd hi hI hw hnx
    have hin := isN_nat hi
    have hkl := fkids_len ht.sm i
    by_cases hm : n ∈ fkids t i
    · have := (fpar_kid ht hin hm).2
      simp [hi, h1 t i ht hin, h2 _ n (show (fkids t i).length ≤ 400 by omega), hm, this]
    · have hne : fpar t n ≠ i := fun e => by
        unfold fpar at e
        split at e
        · rename_i hc; rw [e] at hc; exact hm hc.2
        · omega
      have hnx' := hnx () (hI.imp_right fun h => by omega)
      simpa [hi, h1 t i ht hin, h2 _ n (show (fkids t i).length ≤ 400 by omega), hm, hw] using hnx'
  · rcases fpar_is ht hn with e | e
    · exact .inl e
    · right; have := isN_iff.1 e; simp; omega
theorem fups_le {t : List Nod} (h : May t) {n : Int} (hn : isN t n = true) : (fups t n).length ≤ t.length := (flTr h).len n hn
theorem sPfup1 : Ev fun k => ∀ (t : List Nod) (n : Int), May t → isN t n = true → T k 186 [.yld, .mb [int n], .rp [encT t]] = some { r := .tup [], out := (fups t n).map (SVal.int .i64) } := by
  refine sPfpar.at 1000 fun k hk h t n ht hn => ?_
  have hl := ht.sm.len
  rw [t186]; unfold R186
  refine loop_wf (fun p : Int × List Int => ⟨[.yld, .mb [int p.1], .rp [encT t]], p.2.map (SVal.int .i64), false⟩) (fun p => (some { r := .tup [], out := (p.2 ++ fups t p.1).map (SVal.int .i64) } : Option Res)) (fun p => (fups t p.1).length) (fun p => p.1 = -1 ∨ isN t p.1 = true) ?_ k (n, []) (.inr hn) ?_
  · rintro ⟨m, o⟩ hm next hnx
    simp only at hm hnx ⊢
    by_cases h1 : m = -1
    · simp [h1, fups_nil]
    · have hm' := hm.resolve_left h1
      have hc := fups_cons ht hm'
      have hnx' := hnx (fpar t m, o ++ [m]) (fpar_is ht hm') (by rw [hc]; simp)
      simp [h1, h t m ht hm', hc]
      simpa using hnx'
  · have := fups_le ht hn; simp; omega
theorem sPfup : Ev fun k => ∀ (t : List Nod) (n : Int), T k 171 [encT t, int n] = ok (.fn 186 [.mb [int n], .rp [encT t]]) := by
  refine Ev.pure 1000 fun k hk t n => ?_
  rw [t171]; unfold R171
  simp
def fUp (t : List Nod) (n : Int) : List Int := if mayN t n = true then fups t n else []
theorem fUp_len {t : List Nod} (h : Sm t) (n : Int) : (fUp t n).length ≤ 70 := by
  unfold fUp
  split
  · rename_i hm
    have hm' : mayT t = true ∧ isN t n = true := by simpa [mayN] using hm
    have := fups_le ⟨h, hm'.1⟩ hm'.2
    have := h.len; omega
  · simp
theorem sPfUp : Ev fun k => ∀ (t : List Nod) (n : Int), Sm t → T k 144 [encT t, int n] = ok (encI (fUp t n)) := by
  obtain ⟨k0, hall⟩ := sPfis.and (sPfup.and (sPfup1.and sCollect))
  refine ⟨k0 + 3, fun k' hk' t n ht => ?_⟩
  obtain ⟨k, rfl⟩ : ∃ j, k' = j + 3 := ⟨k' - 3, by omega⟩
  obtain ⟨h1, h2, _, _⟩ := hall (k + 2) (by omega)
  obtain ⟨_, _, h3, h4⟩ := hall k (by omega)
  rw [t144]; unfold R144
  by_cases hm : mayN t n = true
  · have hm' : mayT t = true ∧ isN t n = true := by simpa [mayN] using hm
    have hM : May t := ⟨ht, hm'.1⟩
    have hl := ht.len
    have hle := fups_le hM hm'.2
    have e2 := h4 (.fn 186 [.mb [int n], .rp [encT t]]) (fups t n) (by omega) (by simp only [callIt, h3 t n hM hm'.2, Option.bind_some])
    simp [h1 t n ht, hm, h2, e2, fUp]
  · simp [h1 t n ht, hm, fUp]
theorem sPfAbove : Ev fun k => ∀ (t : List Nod) (a n : Int), Sm t → T k 169 [encT t, int a, int n] = ok (.bool (decide (a ∈ fUp t n))) := by
  refine (sPfUp.and sContains).step fun k ⟨h1, h2⟩ t a n ht => ?_
  rw [t169]; unfold R169
  have := fUp_len ht n
  simp [h1 t n ht, h2 _ a (show (fUp t n).length ≤ 400 by omega)]
theorem sPfHas : Ev fun k => ∀ (t : List Nod) (n : Int), Sm t → T k 143 [encT t, int n] = ok (.bool (decide ((0 : Int) ∈ fUp t n))) := by
  refine sPfAbove.step fun k h t n ht => ?_
  rw [t143]; unfold R143
  simp [h t 0 n ht]
theorem sRfUp : Ev fun k => ∀ (t : List Nod) (n : Int), May t → (n = -1 ∨ isN t n = true) → T k 57 [encT t, int n] = ok (encI (fups t n)) := by
  refine sRfpar.at 1000 fun k hk h t n ht hn => ?_
  have hl := ht.sm.len
  have hT := flTr ht
  rw [t57]; unfold R57; simp only [weak_T]
  have hle : (fups t n).length ≤ 80 := by
    rcases hn with rfl | hn
    · rw [fups_nil]; simp
    · have := fups_le ht hn; omega
  refine loop_wf (fun p : Int × List Int => ⟨[encT t, int p.1, .sl 1 true false (p.2.map (SVal.int .i64))], [], false⟩) (fun p => ok (encI (p.2 ++ fups t p.1))) (fun p => (fups t p.1).length) (fun p => (p.1 = -1 ∨ isN t p.1 = true) ∧ p.2.length + (fups t p.1).length ≤ 100) ?_ k (n, []) ⟨hn, by simp only [List.length_nil]; omega⟩ (by simp only; omega)
  · rintro ⟨m, o⟩ ⟨hm, ho⟩ next hnx
    simp only at hm ho hnx ⊢
    by_cases h1 : m = -1
    · simp [h1, fups_nil]
    · have hm' := hm.resolve_left h1
      have hc := fups_cons ht hm'
      rw [hc] at ho ⊢
      simp only [List.length_cons] at ho
      have ha := app8 (n := o.length + 1) (by omega)
      have hnx' := hnx (fpar t m, o ++ [m]) ⟨fpar_is ht hm', by simp; omega⟩ (by rw [hc]; simp)
      simpa [h1, ha, h t m ht hm'] using hnx'
theorem sRfHas : Ev fun k => ∀ (t : List Nod) (n : Int), May t → isN t n = true → T k 59 [encT t, int n] = ok (.bool (decide ((0 : Int) ∈ fups t n))) := by
  refine (sRfUp.and sIn).step fun k ⟨h1, h2⟩ t n ht hn => ?_
  rw [t59]; unfold R59
  have := fups_le ht hn; have := ht.sm.len
  simp [h1 t n ht (.inr hn), h2 _ 0 (show (fups t n).length ≤ 400 by omega)]
theorem sRfAbove : Ev fun k => ∀ (t : List Nod) (a n : Int), May t → isN t n = true → T k 82 [encT t, int a, int n] = ok (.bool (decide (a ∈ fups t n))) := by
  refine (sRfUp.and sIn).step fun k ⟨h1, h2⟩ t a n ht hn => ?_
  rw [t82]; unfold R82
  have := fups_le ht hn; have := ht.sm.len
  simp [h1 t n ht (.inr hn), h2 _ a (show (fups t n).length ≤ 400 by omega)]
def fdL (t : List Nod) (n : Int) : List Int := preF (fkids t) (t.length + 1) n
theorem fd_cons {t : List Nod} (h : May t) {n : Int} (hn : isN t n = true) : fdL t n = n :: (fkids t n).flatMap (fdL t) := (flTr h).pre_cons hn
theorem fd_len {t : List Nod} (h : May t) {n : Int} (hn : isN t n = true) : (fdL t n).length ≤ t.length := isN_count ((flTr h).pre_nodup n hn) ((flTr h).preP n hn)
end Go.Proofs.YtcdnmiaelaombaaGreat.K
end
section
namespace Go.Proofs.YtcdnmiaelaombaaGreat.K
open Go Go.Lm
set_option linter.unusedSimpArgs false
def okV (v : View) (n : Int) : Bool := decide (chkV v = 0) && isN v.tree n
theorem vmay {v : View} (hv : SmV v) (hc : chkV v = 0) : May v.tree := ⟨hv.tr, (chkV_iff.1 hc).1⟩
theorem okV_iff {v : View} {n : Int} : okV v n = true ↔ chkV v = 0 ∧ isN v.tree n = true := by simp [okV]
theorem may_of_ok {v : View} (hv : SmV v) {n : Int} (h : okV v n = true) : May v.tree ∧ isN v.tree n = true := ⟨vmay hv (okV_iff.1 h).1, (okV_iff.1 h).2⟩
theorem fUp_of {t : List Nod} (h : May t) {n : Int} (hn : isN t n = true) : fUp t n = fups t n := by simp [fUp, may_is h hn]
theorem sIndexFuncS : Ev fun k => ∀ (l : List Shown) (f : SVal) (p : Shown → Bool), l.length ≤ 400 → (∀ x ∈ l, callV H (T k) f [encS x] = some (.bool (p x))) → T (k + 1) 188 [encP l, f] = ok (int (plP p l 0)) := by
  refine (Ev.ge 1000).mono fun k hk l f p hl hf => ?_
  rw [t188]; unfold R188; simp only [weak_P, sLen_P, Option.bind_some]
  refine for_list l (fun i _ => ⟨[encP l, f, int l.length, int i], [], false⟩) (fun r i _ => ok (int (plP p r i))) (fun _ _ => True) (by omega) ?_ ?_ k () (by omega) trivial
  · intro s next _; simp [plP]
  · intro i s x r next hi hx _ _ hw hn
    have hfx := hf x (hx ▸ List.getElem_mem hi)
    simp [idx_P hi, hx, hi, hw, plP, hfx]
    split
    · rfl
    · exact hn () trivial
theorem sContainsFuncS : Ev fun k => ∀ (l : List Shown) (f : SVal) (p : Shown → Bool), l.length ≤ 400 → (∀ x ∈ l, callV H (T k) f [encS x] = some (.bool (p x))) → T (k + 2) 173 [encP l, f] = ok (.bool (l.any p)) := by
  refine sIndexFuncS.mono fun k h l f p hl hf => ?_
  rw [t173]; unfold R173
  simp [h l f p hl hf, -List.any_eq_true]
theorem sPrmay : Ev fun k => ∀ (v : View) (n : Int), SmV v → T k 142 [encV v, int n] = ok (.bool (okV v n)) := by
  refine sPchk.step fun k h v n hv => ?_
  rw [encV_eq, t142]; unfold R142
  by_cases hc : chkV v = 0
  · simp [h v hv, hc, okV, isN]
  · simp [h v hv, hc, okV]
theorem sPown1 : Ev fun k => ∀ (n : Int) (x : Shown), callV H (T k) (.fn 172 [.rp [int n]]) [encS x] = some (.bool (decide (x.node = n))) := by
  refine Ev.pure 1000 fun k hk n x => ?_
  have e : ∀ (T : Nat → List SVal → Option Res) (caps args : List SVal), callV H T (.fn 172 caps) args = (if shOks [.agg [.plain, .plain], .rp 1] (args ++ caps) = true then (T 172 (args ++ caps)).bind fun r => some r.r else none) := fun T caps args => by kernel_rfl
  rw [e]
  have : T (k + 1) 172 ([encS x] ++ [.rp [int n]]) = ok (.bool (decide (x.node = n))) := by
    show T (k + 1) 172 [.agg [int x.node, int x.invoker], .rp [int n]] = _
    rw [t172]; unfold R172
    simp
  rw [this]; rfl
theorem pops_any (l : List Shown) (n : Int) : (l.any fun x => decide (x.node = n)) = decide (n ∈ nodesP l) := by
  rw [Bool.eq_iff_iff]
  simp [nodesP]
theorem sPown : Ev fun k => ∀ (v : View) (n : Int), SmV v → May v.tree → isN v.tree n = true → T k 146 [encV v, int n] = ok (.bool (ownV v n)) := by
  obtain ⟨k0, hall⟩ := sPHas.and (sContains.and (sPown1.and sContainsFuncS))
  refine ⟨k0 + 4, fun k' hk' v n hv ht hn => ?_⟩
  obtain ⟨k, rfl⟩ : ∃ j, k' = j + 3 := ⟨k' - 3, by omega⟩
  obtain ⟨h1, h2, _, _⟩ := hall (k + 2) (by omega)
  obtain ⟨_, _, h3, h4⟩ := hall k (by omega)
  have l1 := hv.op; have l2 := hv.mo; have l3 := hv.po
  have e4 := h4 v.popups (.fn 172 [.rp [int n]]) (fun x => decide (x.node = n)) (by omega) fun x _ => h3 n x
  rw [pops_any] at e4
  have hA : ∀ a, T (k + 2) 55 [encT v.tree, int n, int a] = ok (.bool (hasA (nd v.tree n) a)) := fun a => by rw [h1 v.tree n a hv.tr, may_is ht hn, Bool.true_and]
  rw [encV_eq, t146]; unfold R146
  by_cases b1 : hasA (nd v.tree n) 2 = true
  · simp [hA, b1, ownV]
  · by_cases b2 : n ∈ v.op ∨ n ∈ v.modal
    · have : (decide (n ∈ v.op) || decide (n ∈ v.modal)) = true := by simpa using b2
      simp only [oneS_int, if_true, weak_T, weak_I, hA, b1, Option.bind_some, pick_f, h2 v.op n (by omega), h2 v.modal n (by omega), asB_b, guard_or, this, List.getD_cons_zero, pick_t]
      simp [ownV, b1, b2]
    · have : (decide (n ∈ v.op) || decide (n ∈ v.modal)) = false := by simpa using b2
      simp only [oneS_int, if_true, weak_T, weak_I, weak_P, hA, b1, Option.bind_some, pick_f, h2 v.op n (by omega), h2 v.modal n (by omega), asB_b, guard_or, this, List.getD_cons_zero, idx_nd hn, encN_c0, encN_c1, sBin_eql, guard_and, e4, sNot_b]
      by_cases b3 : (nd v.tree n).tag = 2
      · have hk := tag_kind ht hn (by omega)
        simp [ownV, b1, b2, b3, hk]
      · have : (decide ((nd v.tree n).kind = 1) && decide ((nd v.tree n).tag = 2)) = false := by simp [b3]
        rw [this]
        simp only [pick_f]
        simp [ownV, b1, b2, b3]
theorem sPIs1 : Ev fun k => ∀ (v : View) (n : Int), SmV v → May v.tree → isN v.tree n = true → callV H (T k) (.fn 145 [rpV v]) [int n] = some (.bool (!ownV v n)) := by
  refine sPown.step fun k h v n hv ht hn => ?_
  have e : ∀ (T : Nat → List SVal → Option Res) (caps args : List SVal), callV H T (.fn 145 caps) args = (if shOks [.plain, .rp 5] (args ++ caps) = true then (T 145 (args ++ caps)).bind fun r => some r.r else none) := fun T caps args => by kernel_rfl
  rw [e]
  have : T (k + 1) 145 ([int n] ++ [rpV v]) = ok (.bool (!ownV v n)) := by
    show T (k + 1) 145 [int n, .rp [encT v.tree, encI v.op, encI v.modal, encP v.popups, encI v.top]] = _
    rw [t145]; unfold R145
    simp [h v n hv ht hn]
  rw [this]; rfl
theorem sPrIs : Ev fun k => ∀ (v : View) (n : Int), SmV v → T k 126 [encV v, int n] = ok (.bool (okV v n && isR v n)) := by
  obtain ⟨k0, hall⟩ := sPrmay.and (sPfHas.and (sPfUp.and (sPIs1.and sContainsFunc)))
  refine ⟨k0 + 4, fun k' hk' v n hv => ?_⟩
  obtain ⟨k, rfl⟩ : ∃ j, k' = j + 3 := ⟨k' - 3, by omega⟩
  obtain ⟨h1, h2, h3, _, _⟩ := hall (k + 2) (by omega)
  obtain ⟨_, _, _, h4, h5⟩ := hall k (by omega)
  rw [encV_eq, t126]; unfold R126
  by_cases ho : okV v n = true
  · obtain ⟨ht, hn⟩ := may_of_ok hv ho
    have hl := fups_le ht hn; have hl2 := hv.tr.len
    have e5 := h5 (fups v.tree n) (.fn 145 [rpV v]) (fun m => !ownV v m) (by omega) fun x hx => h4 v x hv ht ((flTr ht).upP n hn x hx)
    have e6 : (!(fups v.tree n).any fun m => !ownV v m) = (fups v.tree n).all (ownV v) := by rw [← List.all_eq_not_any_not]
    simp only [weak_T, weak_I, weak_P, fold_Vv, fold_rpVv, h1 v n hv, ho, Option.bind_some, sNot_b, Bool.not_true, guard_ff, h2 v.tree n hv.tr, h3 v.tree n hv.tr, fUp_of ht hn, asB_b, List.getD_cons_zero, e5, e6, Bool.true_and, isR]
    by_cases h0 : (0 : Int) ∈ fups v.tree n
    · simp [h0]
    · simp [h0]
  · simp [h1 v n hv, ho]
/-! ### All that are rendered -/
def rbL (v : View) (n : Int) : List Int := rbF v (v.tree.length + 1) n
theorem rb_stable {v : View} (h : May v.tree) : ∀ (d : Nat) (n : Int), isN v.tree n = true → v.tree.length + 1 ≤ d + (fups v.tree n).length → rbF v d n = rbF v (d + 1) n
  | 0, n, hn, hd => by have := (flTr h).len n hn; omega
  | d + 1, n, hn, hd => by
    rw [rbF, rbF]
    split
    · rw [flatMap_congr2]
      intro k hk
      refine rb_stable h d k ((flTr h).kid n k hn hk).1 ?_
      rw [(flTr h).up_kid hn hk]; simp; omega
    · rfl
theorem rb_cons {v : View} (h : May v.tree) {n : Int} (hn : isN v.tree n = true) : rbL v n = if ownV v n = true then n :: (fkids v.tree n).flatMap (rbL v) else [] := by
  unfold rbL
  rw [rbF]
  split
  · rw [flatMap_congr2]
    intro k hk
    refine rb_stable h _ k ((flTr h).kid n k hn hk).1 ?_
    rw [(flTr h).up_kid hn hk]; simp
  · rfl
def allRv (v : View) : List Int := if okV v 0 = true then allRn v else []
/-! ### The document's answer -/
theorem sRown : Ev fun k => ∀ (v : View) (n : Int), SmV v → May v.tree → isN v.tree n = true → T k 58 [encV v, int n] = ok (.bool (ownV v n)) := by
  refine (sRHas.and (sIn.and sNodes)).step fun k ⟨h1, h2, h3⟩ v n hv ht hn => ?_
  have l1 := hv.op; have l2 := hv.mo; have l3 := hv.po
  have l4 : (nodesP v.popups).length ≤ 400 := by simp [nodesP]; omega
  have hA : ∀ a, T k 22 [encT v.tree, int n, int a] = ok (.bool (hasA (nd v.tree n) a)) := fun a => by rw [h1 v.tree n a hv.tr, hn, Bool.true_and]
  rw [encV_eq, t58]; unfold R58
  by_cases b1 : hasA (nd v.tree n) 2 = true
  · simp [hA, b1, ownV]
  · by_cases b2 : n ∈ v.op
    · simp [hA, b1, h2 v.op n (by omega), b2, ownV]
    · by_cases b3 : n ∈ v.modal
      · simp [hA, b1, h2 v.op n (by omega), h2 v.modal n (by omega), b2, b3, ownV]
      · by_cases b4 : (nd v.tree n).tag = 2
        · simp [hA, b1, h2 v.op n (by omega), h2 v.modal n (by omega), b2, b3, idx_nd hn, b4, ownV]
        · by_cases b5 : hasA (nd v.tree n) 6 = true
          · simp [hA, b1, h2 v.op n (by omega), h2 v.modal n (by omega), b2, b3, idx_nd hn, b4, b5, h3 v.popups (by omega), h2 _ n l4, ownV]
          · simp [hA, b1, h2 v.op n (by omega), h2 v.modal n (by omega), b2, b3, idx_nd hn, b4, b5, ownV]
theorem sRrIs : Ev fun k => ∀ (v : View) (n : Int), SmV v → May v.tree → isN v.tree n = true → T k 33 [encV v, int n] = ok (.bool (isR v n)) := by
  refine (sRfUp.and (sRown.and sRfHas)).at 1000 fun k hk ⟨h1, h2, h3⟩ v n hv ht hn => ?_
  have hl := fups_le ht hn; have hl2 := hv.tr.len
  rw [encV_eq, t33]; unfold R33
  simp only [weak_T, weak_I, fold_rpVv, h1 v.tree n ht (.inr hn), Option.bind_some]
  refine for_list (fups v.tree n) (fun i (_ : Unit) => ⟨[int n, rpV v, encI (fups v.tree n), int i], [], false⟩) (fun r i _ => ok (.bool (r.all (ownV v) && decide ((0 : Int) ∈ fups v.tree n)))) (fun _ _ => True) (by omega) ?_ ?_ k () (by omega) trivial
  · intro o next _; simp [h3 v.tree n ht hn]
  · intro i o x r next hi hx _ _ hw hnx
    have hx' := (flTr ht).upP n hn x (hx ▸ List.getElem_mem hi)
    have hnx' := hnx () trivial
    by_cases ho : ownV v x = true
    · simpa [hi, idx_I hi, hx, hw, h2 v x hv ht hx', ho, -List.all_eq_true] using hnx'
    · simp [hi, idx_I hi, hx, h2 v x hv ht hx', ho]
end Go.Proofs.YtcdnmiaelaombaaGreat.K
end
section
namespace Go.Proofs.YtcdnmiaelaombaaGreat.K
open Go Go.Lm
set_option linter.unusedSimpArgs false
def rngI (d i : Nat) : List Int := (List.range' i d).map fun j : Nat => (j : Int)
theorem rngI_succ (d i : Nat) : rngI (d + 1) i = (i : Int) :: rngI d (i + 1) := by simp [rngI, List.range'_succ]
theorem rngI_zero (i : Nat) : rngI 0 i = [] := rfl
theorem idxL_rng (t : List Nod) : idxL t = rngI t.length 0 := by simp [idxL, rngI, List.range_eq_range']
theorem sPimay : Ev fun k => ∀ (v : View) (n : Int), SmV v → T k 147 [encV v, int n] = ok (.bool (okV v n)) := by
  refine sPchk.step fun k h v n hv => ?_
  rw [encV_eq, t147]; unfold R147
  by_cases hc : chkV v = 0
  · simp [h v hv, hc, okV, isN]
  · simp [h v hv, hc, okV]
theorem sPblk : Ev fun k => ∀ (v : View) (n : Int), SmV v → T k 148 [encV v, int n] = ok (.bool (okV v n && blkN v n)) := by
  refine (sPimay.and (sPhst.and sPfAbove)).step fun k ⟨h1, h2, h3⟩ v n hv => ?_
  rw [encV_eq, t148]; unfold R148
  by_cases ho : okV v n = true
  · obtain ⟨ht, hn⟩ := may_of_ok hv ho
    have hc := (okV_iff.1 ho).1
    have e2 : T k 174 [encV v] = ok (int (highN v)) := by rw [h2 v hv, if_pos hc]; rfl
    by_cases h0 : n = 0
    · subst h0
      simp [h1 v 0 hv, ho, blkN]
    · by_cases h5 : highN v = -1
      · simp [h1 v n hv, ho, h0, e2, h5, blkN]
      · simp [h1 v n hv, ho, h0, e2, h5, h3 v.tree _ n hv.tr, fUp_of ht hn, blkN]
  · simp [h1 v n hv, ho]
theorem sPmarked : Ev fun k => ∀ (v : View) (n : Int), SmV v → chkV v = 0 → isN v.tree n = true → T k 149 [encV v, int n] = ok (.bool (mkF v.tree (highN v) (fups v.tree n))) := by
  refine (sPhst.and (sPfUp.and sPHas)).at 1000 fun k hk ⟨h1, h2, h3⟩ v n hv hc hn => ?_
  have ht := vmay hv hc
  have hl := fups_le ht hn; have hl2 := hv.tr.len
  have e1 : T k 174 [encV v] = ok (int (highN v)) := by rw [h1 v hv, if_pos hc]; rfl
  rw [encV_eq, t149]; unfold R149
  simp only [weak_T, weak_I, weak_P, fold_Vv, fold_rpVv, e1, h2 v.tree n hv.tr, fUp_of ht hn, Option.bind_some, sLen_I]
  refine (for_list (fups v.tree n) (fun i (b : Bool) => ⟨[rpV v, int (highN v), .bool b, encI (fups v.tree n), int (fups v.tree n).length, int i], [], false⟩) (fun r i b => ok (.bool (b || mkF v.tree (highN v) r))) (fun _ b => b = false) (by omega) ?_ ?_ k false (by omega) rfl).trans (by simp)
  · intro b next hb; simp [mkF, hb]
  · intro i b x r next hi hx _ hb hw hnx
    subst hb
    have hx' := (flTr ht).upP n hn x (hx ▸ List.getElem_mem hi)
    have hA : T k 55 [encT v.tree, int x, int 3] = ok (.bool (hasA (nd v.tree x) 3)) := by rw [h3 v.tree x 3 hv.tr, may_is ht hx', Bool.true_and]
    by_cases ha : hasA (nd v.tree x) 3 = true
    · simp [hi, idx_I hi, hx, hA, ha, mkF]
    · simp only [Bool.not_eq_true] at ha
      by_cases hh : x = highN v
      · simp [hi, idx_I hi, hx, hA, ha, ← hh, mkF]
      · have hnx' := hnx false rfl
        simp [hi, idx_I hi, hx, hA, ha, hh, hw, mkF]
        simpa using hnx'
theorem sPiIs : Ev fun k => ∀ (v : View) (n : Int), SmV v → T k 127 [encV v, int n] = ok (.bool (okV v n && isI v n)) := by
  refine (sPimay.and (sPblk.and sPmarked)).step fun k ⟨h1, h2, h3⟩ v n hv => ?_
  rw [encV_eq, t127]; unfold R127
  by_cases ho : okV v n = true
  · have hc := okV_iff.1 ho
    simp [h1 v n hv, ho, h2 v n hv, h3 v n hv hc.1 hc.2, isI]
  · simp [h1 v n hv, ho]
def allIv (v : View) : List Int := if chkV v = 0 then allIn v else []
theorem allIv_len (v : View) : (allIv v).length ≤ v.tree.length := by unfold allIv; split; exact allI_len v; simp
/-! ### The document's answer -/
theorem sRblk : Ev fun k => ∀ (v : View) (n : Int), SmV v → May v.tree → isN v.tree n = true → T k 60 [encV v, int n] = ok (.bool (blkN v n)) := by
  refine (sRhst.and sRfAbove).step fun k ⟨h1, h2⟩ v n hv ht hn => ?_
  have e1 : T k 62 [encV v] = ok (int (highN v)) := h1 v hv
  rw [encV_eq, t60]; unfold R60
  by_cases h0 : n = 0
  · simp [e1, h0, blkN]
  · by_cases h5 : highN v = -1
    · simp [e1, h0, h5, blkN]
    · simp [e1, h0, h5, h2 v.tree _ n ht hn, blkN]
theorem sRiIs : Ev fun k => ∀ (v : View) (n : Int), SmV v → May v.tree → isN v.tree n = true → T k 34 [encV v, int n] = ok (.bool (isI v n)) := by
  refine (sRblk.and (sRfUp.and (sRhst.and (sPlace.and sRHas)))).at 1000 fun k hk ⟨h1, h2, h3, h4, h5⟩ v n hv ht hn => ?_
  have hl := fups_le ht hn; have hl2 := hv.tr.len
  have e3 : T k 62 [encV v] = ok (int (highN v)) := h3 v hv
  rw [encV_eq, t34]; unfold R34
  by_cases hb : blkN v n = true
  · simp [h1 v n hv ht hn, hb, isI]
  · simp only [Bool.not_eq_true] at hb
    have key : ∀ e : Nat, e ≤ (fups v.tree n).length → loopN (fun s13 next13 =>
     (sBin .lss s13.k3 s13.k2).bind fun r14 =>
     pickC r14
     ((sIdx false 1 s13.k1 s13.k3).bind fun e15 =>
      (T k 22 [(weak (SVal.cell s13.k0 0)), e15, (.int .i64 3)]).bind fun r16 =>
      pickC r16.r
      (some { r := (.bool true) })
      ((sBin .add s13.k3 (.int .i64 1)).bind fun r17 =>
       next13 ⟨[(.rp [(SVal.cell s13.k0 0), (SVal.cell s13.k0 1), (SVal.cell s13.k0 2), (SVal.cell s13.k0 3), (SVal.cell s13.k0 4)]), (weak s13.k1), s13.k2, r17], [], false⟩))
     (some { r := (.bool false) })) k ⟨[rpV v, encI (fups v.tree n), int e, int (0 : Nat)], [], false⟩ = ok (.bool (((fups v.tree n).take e).any fun k => hasA (nd v.tree k) 3)) := by
      intro e he
      refine for_list ((fups v.tree n).take e) (fun i (_ : Unit) => ⟨[rpV v, encI (fups v.tree n), int e, int i], [], false⟩) (fun r i _ => ok (.bool (r.any fun k => hasA (nd v.tree k) 3))) (fun _ _ => True) (by simp; omega) ?_ ?_ k () (by simp; omega) trivial
      · intro o next _; simp [Nat.min_eq_left he]
      · intro i o x r next hi hx _ _ hw hnx
        have hnx' := hnx () trivial
        have hi2 : i < e := by simp at hi; omega
        have hi3 : i < (fups v.tree n).length := by omega
        have hx2 : (fups v.tree n)[i] = x := by simpa using hx
        have hx' := (flTr ht).upP n hn x (hx2 ▸ List.getElem_mem hi3)
        have hA : T k 22 [encT v.tree, int x, int 3] = ok (.bool (hasA (nd v.tree x) 3)) := by rw [h5 v.tree x 3 hv.tr, hx', Bool.true_and]
        by_cases ha : hasA (nd v.tree x) 3 = true
        · simp [hi2, idx_I hi3, hx2, hA, ha]
        · simp only [Bool.not_eq_true] at ha
          simpa [hi2, idx_I hi3, hx2, hA, ha, hw, -List.any_eq_true] using hnx'
    have hmt := mkF_take v.tree (highN v) (fups v.tree n) 0
    simp only [weak_T, weak_I, weak_P, fold_Vv, fold_rpVv, h1 v n hv ht hn, hb, Option.bind_some, pick_f, h2 v.tree n ht (.inr hn), sLen_I, e3, h4 _ _ (show (fups v.tree n).length ≤ 400 by omega), sBin_geq]
    by_cases hp : 0 ≤ plF (highN v) (fups v.tree n) 0
    · obtain ⟨j, hj, e, _⟩ := plF_get (i := 0) ((plF_ge _ _ 0).1 hp)
      rw [Nat.zero_add] at e
      rw [if_pos hp] at hmt
      have hw : IntKind.i64.wrap ((j : Int) + 1) = ((j + 1 : Nat) : Int) := wrap1 (by omega)
      have e4 : ((plF (highN v) (fups v.tree n) 0 - ((0 : Nat) : Int)).toNat + 1) = j + 1 := by rw [e]; omega
      rw [e4] at hmt
      simp only [e, show (0 : Int) ≤ j by omega, decide_true, pick_t, sBin_add, hw, Option.bind_some]
      refine (key (j + 1) (by omega)).trans ?_
      rw [isI, hb, hmt, Bool.false_or]
    · rw [if_neg hp] at hmt
      simp only [hp, decide_false, pick_f]
      refine (key _ (Nat.le_refl _)).trans ?_
      rw [isI, hb, hmt, Bool.false_or]
end Go.Proofs.YtcdnmiaelaombaaGreat.K
end
section
namespace Go.Proofs.YtcdnmiaelaombaaGreat.K
open Go Go.Lm
set_option linter.unusedSimpArgs false
def nodA (v : View) (n : Int) : SVal := .agg [encT v.tree, encI v.op, encI v.modal, encP v.popups, encI v.top, int n]
@[simp] theorem fold_A (t : List Nod) (a b : List Int) (d : List Shown) (e : List Int) (n : Int) : SVal.agg [encT t, encI a, encI b, encP d, encI e, int n] = nodA ⟨t, a, b, d, e⟩ n := rfl
@[simp] theorem fold_Av (v : View) (n : Int) : SVal.agg [encT v.tree, encI v.op, encI v.modal, encP v.popups, encI v.top, int n] = nodA v n := rfl
@[simp] theorem nodA_eta (v : View) (n : Int) : nodA ⟨v.tree, v.op, v.modal, v.popups, v.top⟩ n = nodA v n := rfl
theorem nodA_eq (v : View) (n : Int) : nodA v n = .agg [encT v.tree, encI v.op, encI v.modal, encP v.popups, encI v.top, int n] := rfl
@[simp] theorem nodA_0 (v : View) (n : Int) : (nodA v n).c0 = encT v.tree := rfl
@[simp] theorem nodA_1 (v : View) (n : Int) : (nodA v n).c1 = encI v.op := rfl
@[simp] theorem nodA_2 (v : View) (n : Int) : (nodA v n).c2 = encI v.modal := rfl
@[simp] theorem nodA_3 (v : View) (n : Int) : (nodA v n).c3 = encP v.popups := rfl
@[simp] theorem nodA_4 (v : View) (n : Int) : (nodA v n).c4 = encI v.top := rfl
@[simp] theorem nodA_5 (v : View) (n : Int) : (nodA v n).c5 = int n := rfl
theorem sAtag : Ev fun k => ∀ (v : View) (n g : Int), isN v.tree n = true → T k 125 [nodA v n, int g] = ok (.bool (decide ((nd v.tree n).kind = 1) && decide ((nd v.tree n).tag = g))) := by
  refine Ev.pure 1000 fun k hk v n g hn => ?_
  rw [nodA_eq, t125]; unfold R125
  simp [idx_nd hn]
theorem tag_b {t : List Nod} (h : May t) {n : Int} (hn : isN t n = true) {g : Int} (hg : ¬ g = 0) : (decide ((nd t n).kind = 1) && decide ((nd t n).tag = g)) = decide ((nd t n).tag = g) := by
  by_cases e : (nd t n).tag = g
  · have := tag_kind h hn (by rw [e]; exact hg)
    simp [e, this]
  · simp [e]
theorem sAidx : Ev fun k => ∀ (v : View) (n : Int), May v.tree → isN v.tree n = true → T k 124 [nodA v n] = ok (.tup [int (idxA v.tree n), .bool (hasI v.tree n)]) := by
  refine (sPGet.and sAtag).step fun k ⟨h1, h2⟩ v n ht hn => ?_
  have e0 : ∀ g, ¬ g = 0 → T k 125 [nodA v n, int g] = ok (.bool (decide ((nd v.tree n).tag = g))) := fun g hg => by rw [h2 v n g hn, tag_b ht hn hg]
  rw [nodA_eq, t124]; unfold R124
  have hh : (getA 0 (nd v.tree n).attrs).isSome = hasA (nd v.tree n) 0 := getA_has 0 _
  cases hg : getA 0 (nd v.tree n).attrs with
  | some z =>
    rw [hg] at hh
    simp at hh
    simp [h1 v.tree n 0 ht.sm, may_is ht hn, hg, tupG, idxA, hasI, hh]
  | none =>
    rw [hg] at hh
    simp at hh
    by_cases t1 : (nd v.tree n).tag = 1
    · simp [h1 v.tree n 0 ht.sm, may_is ht hn, hg, tupG, idxA, hasI, hh, e0 1 (by omega), t1]
    · simp [h1 v.tree n 0 ht.sm, may_is ht hn, hg, tupG, idxA, hasI, hh, e0 1 (by omega), t1, e0 4 (by omega)]
theorem sAplain : Ev fun k => ∀ (v : View) (n : Int), May v.tree → isN v.tree n = true → T k 99 [nodA v n] = ok (.bool (!hasI v.tree n)) := by
  refine sAidx.step fun k h v n ht hn => ?_
  rw [nodA_eq, t99]; unfold R99
  simp [h v n ht hn]
theorem sAdis : Ev fun k => ∀ (v : View) (n : Int), May v.tree → isN v.tree n = true → T k 100 [nodA v n] = ok (.bool (disA v.tree n)) := by
  refine (sAtag.and sPHas).step fun k ⟨h1, h2⟩ v n ht hn => ?_
  have e1 : T k 125 [nodA v n, int 1] = ok (.bool (decide ((nd v.tree n).tag = 1))) := by rw [h1 v n 1 hn, tag_b ht hn (by omega)]
  rw [nodA_eq, t100]; unfold R100
  simp [e1, h2 v.tree n 1 ht.sm, may_is ht hn, disA]
theorem sAdel : Ev fun k => ∀ (v : View) (n : Int), May v.tree → isN v.tree n = true → T k 72 [nodA v n] = ok (.bool (delA v.tree n)) := by
  refine sPHas.step fun k h2 v n ht hn => ?_
  rw [nodA_eq, t72]; unfold R72
  by_cases hr : (nd v.tree n).root = -1
  · simp [idx_nd hn, hr, delA]
  · have hm := may_is ht (root_is ht hn hr).1
    simp [idx_nd hn, hr, delA, h2 v.tree _ 7 ht.sm, hm]
theorem sAuns : Ev fun k => ∀ (v : View) (n : Int), SmV v → okV v n = true → T k 101 [nodA v n] = ok (.bool (!isR v n)) := by
  refine sPrIs.step fun k h v n hv ho => ?_
  rw [nodA_eq, t101]; unfold R101
  simp [h v n hv, ho]
theorem sAin : Ev fun k => ∀ (v : View) (n : Int), SmV v → okV v n = true → T k 102 [nodA v n] = ok (.bool (isI v n)) := by
  refine sPiIs.step fun k h v n hv ho => ?_
  rw [nodA_eq, t102]; unfold R102
  simp [h v n hv, ho]
theorem call_bf (f : Nat) (hp : (H f).params = [.agg [.slc, .slc, .slc, .slc, .slc, .plain]]) (hr : (H f).res = .plain) (T : Nat → List SVal → Option Res) (v : View) (n : Int) {b : Bool} (h : T f [nodA v n] = ok (.bool b)) : callV H T (.bf f [nodA v n]) [] = some (.bool b) := by
  unfold callV
  simp only [hr, hp, List.append_nil]
  rw [if_pos (by rfl), h]; rfl
theorem sIdxF : Ev fun k => ∀ (l : List SVal) (g : SVal) (p : SVal → Bool), l.length ≤ 400 → (∀ x ∈ l, elemOk false 1 x = true ∧ callV H (T k) g [x] = some (.bool (p x))) → T (k + 1) 123 [.sl 1 false false l, g] = ok (int (plP p l 0)) := by
  refine (Ev.ge 1000).mono fun k hk l g p hl hf => ?_
  rw [t123]; unfold R123
  have e1 : sLen (.sl 1 false false l) = some (int l.length) := rfl
  have e2 : weak (.sl 1 false false l) = .sl 1 false false l := rfl
  simp only [e1, e2, Option.bind_some]
  refine for_list l (fun i _ => ⟨[.sl 1 false false l, g, int l.length, int i], [], false⟩) (fun r i _ => ok (int (plP p r i))) (fun _ _ => True) (by omega) ?_ ?_ k () (by omega) trivial
  · intro s next _; simp [plP]
  · intro i s x r next hi hx _ _ hw hn
    obtain ⟨f1, f2⟩ := hf x (hx ▸ List.getElem_mem hi)
    have e3 : sIdx false 1 (.sl 1 false false l) (int i) = some x := sIdx_at (by simp [hi, hx]) f1
    by_cases hp : p x = true
    · simp [hi, e3, f2, hp, plP]
    · have hn' := hn () trivial
      simp [hi, e3, f2, hp, plP, hw, e2]
      simpa using hn'
theorem sConF : Ev fun k => ∀ (l : List SVal) (g : SVal) (p : SVal → Bool), l.length ≤ 400 → (∀ x ∈ l, elemOk false 1 x = true ∧ callV H (T k) g [x] = some (.bool (p x))) → T (k + 2) 98 [.sl 1 false false l, g] = ok (.bool (l.any p)) := by
  refine sIdxF.mono fun k h l g p hl hf => ?_
  rw [t98]; unfold R98
  have e2 : weak (.sl 1 false false l) = .sl 1 false false l := rfl
  simp [e2, h l g p hl hf, -List.any_eq_true]
theorem sAis1 : Ev fun k => ∀ (x : SVal) (b : Bool), callV H (T k) x [] = some (.bool b) → callV H (T (k + 1)) (.fn 103 []) [x] = some (.bool b) := by
  refine (Ev.ge 1000).mono fun k hk x b h => ?_
  have e : ∀ (T : Nat → List SVal → Option Res) (args : List SVal), callV H T (.fn 103 []) args = (if shOks [.plain] (args ++ []) = true then (T 103 (args ++ [])).bind fun r => some r.r else none) := fun T args => by kernel_rfl
  rw [e]
  have : T (k + 1) 103 ([x] ++ []) = ok (.bool b) := by
    show T (k + 1) 103 [x] = _
    rw [t103]; unfold R103
    simp [h]
  rw [this]; rfl
theorem sAis : Ev fun k => ∀ (v : View) (n : Int), SmV v → okV v n = true → T k 71 [nodA v n] = ok (.bool (isA v n)) := by
  obtain ⟨k0, hall⟩ := sAplain.and (sAdis.and (sAdel.and (sAuns.and (sAin.and (sAis1.and sConF)))))
  refine ⟨k0 + 5, fun k' hk' v n hv ho => ?_⟩
  obtain ⟨k, rfl⟩ : ∃ j, k' = j + 4 := ⟨k' - 4, by omega⟩
  obtain ⟨h1, h2, h3, h4, h5, h6, _⟩ := hall k (by omega)
  obtain ⟨_, _, _, _, _, _, h7⟩ := hall (k + 1) (by omega)
  obtain ⟨ht, hn⟩ := may_of_ok hv ho
  rw [nodA_eq, t71]; unfold R71
  have c1 := call_bf 99 rfl rfl (T k) v n (h1 v n ht hn)
  have c2 := call_bf 100 rfl rfl (T k) v n (h2 v n ht hn)
  have c3 := call_bf 72 rfl rfl (T k) v n (h3 v n ht hn)
  have c4 := call_bf 101 rfl rfl (T k) v n (h4 v n hv ho)
  have c5 := call_bf 102 rfl rfl (T k) v n (h5 v n hv ho)
  have key := h7 [.bf 99 [nodA v n], .bf 100 [nodA v n], .bf 72 [nodA v n], .bf 101 [nodA v n], .bf 102 [nodA v n]] (.fn 103 [])
    (fun x => match x with
      | .bf f _ => if f = 99 then !hasI v.tree n else if f = 100 then disA v.tree n else if f = 72 then delA v.tree n else if f = 101 then !isR v n else isI v n
      | _ => false) (by simp) (by
        intro x hx
        simp only [List.mem_cons, List.not_mem_nil, or_false] at hx
        rcases hx with rfl | rfl | rfl | rfl | rfl
        · exact ⟨rfl, h6 _ _ c1⟩
        · exact ⟨rfl, h6 _ _ c2⟩
        · exact ⟨rfl, h6 _ _ c3⟩
        · exact ⟨rfl, h6 _ _ c4⟩
        · exact ⟨rfl, h6 _ _ c5⟩)
  simp only [fold_Av, key, Option.bind_some, sNot_b]
  simp [isA, Bool.and_assoc]
theorem sAof : Ev fun k => ∀ (t : List Nod) (n : Int), Sm t → T k 70 [encT t, int n] = ok (.tup [nodA ⟨t, [], [], [], []⟩ n, .bool (mayN t n)]) := by
  refine sPCheck.step fun k h t n ht => ?_
  rw [t70]; unfold R70
  have q1 : ∀ (z : Bool), (SVal.tup [SVal.agg [encT t, .sl 1 false false [], .sl 1 false false [], .sl 2 false false [], .sl 1 false false [], int n], .bool z]) = .tup [nodA ⟨t, [], [], [], []⟩ n, .bool z] := fun _ => rfl
  by_cases hm : mayT t = true
  · by_cases h0 : 0 ≤ n
    · simp [h t ht, hm, h0, mayN, isN]
      rfl
    · simp [h t ht, hm, h0, mayN, isN]
      rfl
  · simp [h t ht, hm, mayN]
    rfl
def idxV (t : List Nod) (n : Int) : Int := if mayN t n = true then idxA t n else 0
theorem mayN_of {t : List Nod} (ht : Sm t) {n : Int} (h : mayN t n = true) : May t ∧ isN t n = true := by
  simp only [mayN, Bool.and_eq_true] at h; exact ⟨⟨ht, h.1⟩, h.2⟩
theorem sAIndex : Ev fun k => ∀ (t : List Nod) (n : Int), Sm t → T k 104 [encT t, int n] = ok (.tup [int (idxV t n), .bool (mayN t n && hasI t n)]) := by
  refine (sAof.and sAidx).step fun k ⟨h1, h2⟩ t n ht => ?_
  rw [t104]; unfold R104
  by_cases hm : mayN t n = true
  · obtain ⟨hy, hn⟩ := mayN_of ht hm
    have e := h2 ⟨t, [], [], [], []⟩ n hy hn
    simp [h1 t n ht, hm, e, idxV]
  · simp [h1 t n ht, hm, idxV]
theorem sADel : Ev fun k => ∀ (t : List Nod) (n : Int), Sm t → T k 49 [encT t, int n] = ok (.bool (mayN t n && delA t n)) := by
  refine (sAof.and sAdel).step fun k ⟨h1, h2⟩ t n ht => ?_
  rw [t49]; unfold R49
  by_cases hm : mayN t n = true
  · obtain ⟨hy, hn⟩ := mayN_of ht hm
    have e := h2 ⟨t, [], [], [], []⟩ n hy hn
    simp [h1 t n ht, hm, e]
  · simp [h1 t n ht, hm]
theorem ok_may {v : View} {n : Int} (h : okV v n = true) : mayN v.tree n = true := by
  obtain ⟨hc, hn⟩ := okV_iff.1 h
  simp [mayN, hn, (chkV_iff.1 hc).1]
theorem sAIs : Ev fun k => ∀ (v : View) (n : Int), SmV v → T k 48 [encV v, int n] = ok (.bool (okV v n && isA v n)) := by
  refine (sAof.and (sPchk.and sAis)).step fun k ⟨h1, h2, h3⟩ v n hv => ?_
  rw [encV_eq, t48]; unfold R48
  by_cases ho : okV v n = true
  · have hc := (okV_iff.1 ho).1
    simp [h1 v.tree n hv.tr, ok_may ho, h2 v hv, hc, h3 v n hv ho, ho]
  · by_cases hm : mayN v.tree n = true
    · have hc : ¬ chkV v = 0 := fun hc => ho (okV_iff.2 ⟨hc, (mayN_of hv.tr hm).2⟩)
      simp [h1 v.tree n hv.tr, hm, h2 v hv, hc, ho]
    · simp [h1 v.tree n hv.tr, hm, ho]
theorem sATabs : Ev fun k => ∀ (v : View) (n : Int), SmV v → T k 75 [encV v, int n] = ok (.bool (okV v n && tabA v n)) := by
  refine (sAIndex.and sAIs).step fun k ⟨h1, h2⟩ v n hv => ?_
  rw [encV_eq, t75]; unfold R75
  by_cases ho : okV v n = true
  · simp [h1 v.tree n hv.tr, h2 v n hv, ho, idxV, ok_may ho, tabA, Bool.and_comm]
  · simp [h1 v.tree n hv.tr, h2 v n hv, ho]
def allAv (v : View) : List Int := if chkV v = 0 then allA v else []
theorem allAv_len (v : View) : (allAv v).length ≤ v.tree.length := by unfold allAv; split; exact allA_len v; simp
theorem allAv_eq (v : View) : allAv v = (rngI v.tree.length 0).filter fun n => okV v n && isA v n := by
  unfold allAv allA
  rw [← idxL_rng]
  split
  · rename_i hc
    refine List.filter_congr fun n hn => ?_
    have : okV v n = true := okV_iff.2 ⟨hc, mem_idx.1 hn⟩
    rw [this, Bool.true_and]
  · rename_i hc
    symm
    rw [List.filter_eq_nil_iff]
    intro n _
    simp [okV, hc]
/-! ### The document's answer -/
theorem sRidx : Ev fun k => ∀ (t : List Nod) (n : Int), Sm t → isN t n = true → T k 31 [encT t, int n] = ok (.tup [int (idxA t n), .bool (hasI t n)]) := by
  refine sRGet.step fun k h1 t n ht hn => ?_
  rw [t31]; unfold R31
  have hh : (getA 0 (nd t n).attrs).isSome = hasA (nd t n) 0 := getA_has 0 _
  cases hg : getA 0 (nd t n).attrs with
  | some z =>
    rw [hg] at hh
    simp at hh
    simp [h1 t n 0 ht, hn, hg, tupG, idxA, hasI, hh]
  | none =>
    rw [hg] at hh
    simp at hh
    by_cases t1 : (nd t n).tag = 1
    · simp [h1 t n 0 ht, hn, hg, tupG, idxA, hasI, hh, idx_nd hn, t1]
    · simp [h1 t n 0 ht, hn, hg, tupG, idxA, hasI, hh, idx_nd hn, t1]
theorem sRdis : Ev fun k => ∀ (t : List Nod) (n : Int), Sm t → isN t n = true → T k 32 [encT t, int n] = ok (.bool (disA t n)) := by
  refine sRHas.step fun k h t n ht hn => ?_
  rw [t32]; unfold R32
  simp [idx_nd hn, h t n 1 ht, hn, disA]
theorem sRdel : Ev fun k => ∀ (t : List Nod) (n : Int), May t → isN t n = true → T k 20 [encT t, int n] = ok (.bool (delA t n)) := by
  refine sRHas.step fun k h t n ht hn => ?_
  rw [t20]; unfold R20
  by_cases hr : (nd t n).root = -1
  · simp [idx_nd hn, hr, delA]
  · simp [idx_nd hn, hr, delA, h t _ 7 ht.sm, (root_is ht hn hr).1]
theorem sRaIs : Ev fun k => ∀ (v : View) (n : Int), SmV v → May v.tree → isN v.tree n = true → T k 18 [encV v, int n] = ok (.bool (isA v n)) := by
  refine (sRidx.and (sRdis.and (sRdel.and (sRrIs.and sRiIs)))).step fun k ⟨h1, h2, h3, h4, h5⟩ v n hv ht hn => ?_
  rw [encV_eq, t18]; unfold R18
  by_cases b1 : hasI v.tree n = true
  · by_cases b2 : disA v.tree n = true
    · simp [h1 v.tree n hv.tr hn, h2 v.tree n hv.tr hn, b1, b2, isA]
    · by_cases b3 : delA v.tree n = true
      · simp [h1 v.tree n hv.tr hn, h2 v.tree n hv.tr hn, h3 v.tree n ht hn, b1, b2, b3, isA]
      · simp [h1 v.tree n hv.tr hn, h2 v.tree n hv.tr hn, h3 v.tree n ht hn, b1, b2, b3, h4 v n hv ht hn, h5 v n hv ht hn, isA]
  · simp [h1 v.tree n hv.tr hn, b1, isA]
theorem sRaTabs : Ev fun k => ∀ (v : View) (n : Int), SmV v → May v.tree → isN v.tree n = true → T k 56 [encV v, int n] = ok (.bool (tabA v n)) := by
  refine (sRidx.and sRaIs).step fun k ⟨h1, h2⟩ v n hv ht hn => ?_
  rw [encV_eq, t56]; unfold R56
  simp [h1 v.tree n hv.tr hn, h2 v n hv ht hn, tabA]
end Go.Proofs.YtcdnmiaelaombaaGreat.K
end
