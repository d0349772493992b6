/- Attributes and ancestors: what is told of them. -/
import Derived.Test.YtcdnmiaelaombaaGreatLmAF
import Derived.Test.YtcdnmiaelaombaaGreatLmAP
set_option linter.unusedVariables false
set_option linter.unusedSimpArgs false
set_option linter.unnecessarySimpa false
set_option linter.all false
namespace Go.Proofs.YtcdnmiaelaombaaGreat.K
open Go Go.Lm
set_option linter.unusedSimpArgs false
theorem sPat : Ev fun k => ∀ (x : Nod) (name : Int), x.attrs.length ≤ 400 → T k 111 [encN x, int name] = ok (int (plP (fun a => decide (a.name = name)) x.attrs 0)) := by
  obtain ⟨k0, hall⟩ := sIndexFuncA
  refine ⟨k0 + 3, fun k' hk' x name hl => ?_⟩
  obtain ⟨k, rfl⟩ : ∃ j, k' = j + 3 := ⟨k' - 3, by omega⟩
  have h := hall (k + 1) (by omega) x.attrs (.fn 130 [.rp [int name]]) (fun a => decide (a.name = name)) hl fun a _ => by
    have e : ∀ (T : Nat → List SVal → Option Res) (caps args : List SVal), callV H T (.fn 130 caps) args = (if shOks [.agg [.plain, .plain], .rp 1] (args ++ caps) = true then (T 130 (args ++ caps)).bind fun r => some r.r else none) := fun T caps args => by kernel_rfl
    rw [e]
    have : T (k + 1) 130 ([encA a] ++ [.rp [int name]]) = ok (.bool (decide (a.name = name))) := by
      show T (k + 1) 130 [.agg [int a.name, int a.value], .rp [int name]] = _
      rw [t130]; unfold R130
      simp
    rw [this]
    rfl
  rw [show encN x = .agg [int x.kind, int x.tag, int x.parent, encI x.kids, int x.host, int x.root, encAs x.attrs] from rfl, t111]; unfold R111
  simp [h]
theorem sPanode : Ev fun k => ∀ (t : List Nod) (n : Int), Sm t → T k 110 [encT t, int n] = ok (.bool (mayN t n)) := by
  refine sPCheck.step fun k h t n ht => ?_
  rw [t110]; unfold R110
  by_cases hm : mayT t = true
  · simp [h t ht, hm, mayN, isN]
  · simp [h t ht, hm, mayN]
theorem sPGet : Ev fun k => ∀ (t : List Nod) (n name : Int), Sm t → T k 80 [encT t, int n, int name] = ok (tupG (if mayN t n = true then getA name (nd t n).attrs else none)) := by
  refine (sPanode.and sPat).step fun k ⟨h1, h2⟩ t n name ht => ?_
  rw [t80]; unfold R80
  by_cases hm : mayN t n = true
  · have hn : isN t n = true := by simp [mayN] at hm; exact hm.2
    have hal : (nd t n).attrs.length ≤ 400 := by have := (ht.nd n).2; omega
    simp [h1 t n ht, hm, idx_nd hn, h2 (nd t n) name hal]
    cases ha : (nd t n).attrs.any fun a => decide (a.name = name) with
    | true =>
      obtain ⟨j, hj, e, hp⟩ := plP_find (i := 0) ha
      have hg := getA_at name _ 0 j hj e (by simpa using hp)
      rw [Nat.zero_add] at e
      simp [e, idx_As hj, hg, tupG, show ¬ (j : Int) < 0 by omega]
    | false =>
      have hg := getA_has name (nd t n).attrs
      rw [ha] at hg
      simp [plP_none ha, Option.not_isSome_iff_eq_none.1 (by rw [hg]; simp), tupG]
  · simp [h1 t n ht, hm, tupG]
theorem sPHas : Ev fun k => ∀ (t : List Nod) (n name : Int), Sm t → T k 55 [encT t, int n, int name] = ok (.bool (mayN t n && hasA (nd t n) name)) := by
  refine sPGet.step fun k h t n name ht => ?_
  rw [t55]; unfold R55
  simp only [weak_T, h t n name ht, Option.bind_some]
  by_cases hm : mayN t n = true
  · simp only [hm, if_true, Bool.true_and, hasA, ← getA_has]
    cases getA name (nd t n).attrs <;> rfl
  · simp [hm, tupG]
theorem sRGet : Ev fun k => ∀ (t : List Nod) (n name : Int), Sm t → T k 37 [encT t, int n, int name] = ok (tupG (if isN t n = true then getA name (nd t n).attrs else none)) := by
  refine sRIs.at 1000 fun k hk h t n name ht => ?_
  rw [t37]; unfold R37
  by_cases hn : isN t n = true
  · simp [h, hn]
    have hal := (ht.nd n).2
    refine for_list (nd t n).attrs (fun i _ => ⟨[encT t, int n, int name, int i], [], false⟩) (fun r i _ => ok (tupG (getA name r))) (fun _ _ => True) (by omega) ?_ ?_ k () (by omega) trivial
    · intro s next _; simp [idx_nd hn, getA, tupG]
    · intro i _ a r next hi hx _ _ hw hnx
      have hnx' := hnx () trivial
      by_cases ha : a.name = name
      · simp [idx_nd hn, hi, idx_As hi, hx, ha, getA, tupG]
      · simpa [idx_nd hn, hi, idx_As hi, hx, ha, getA, hw] using hnx'
  · simp [h, hn, tupG]
theorem sRHas : Ev fun k => ∀ (t : List Nod) (n name : Int), Sm t → T k 22 [encT t, int n, int name] = ok (.bool (isN t n && hasA (nd t n) name)) := by
  refine sRGet.step fun k h t n name ht => ?_
  rw [t22]; unfold R22
  simp only [weak_T, h t n name ht, Option.bind_some]
  by_cases hm : isN t n = true
  · simp only [hm, if_true, Bool.true_and, hasA, ← getA_has]
    cases getA name (nd t n).attrs <;> rfl
  · simp [hm, tupG]
/-! ### Ancestors -/
theorem sRUps : Ev fun k => ∀ (t : List Nod) (n : Int), May t → (n = -1 ∨ isN t n = true) → T k 36 [encT t, int n] = ok (encI (ups t n)) := by
  refine sRUp.at 1000 fun k hk h t n ht hn => ?_
  have hl := ht.sm.len
  rw [t36]; unfold R36; simp only [weak_T]
  refine loop_wf (fun p : Int × List Int => ⟨[encT t, int p.1, .sl 1 true false (p.2.map (SVal.int .i64))], [], false⟩) (fun p => ok (encI (p.2 ++ ups t p.1))) (fun p => (ups t p.1).length) (fun p => (p.1 = -1 ∨ isN t p.1 = true) ∧ p.2.length + (ups t p.1).length ≤ 100) ?_ k (n, []) ⟨hn, ?_⟩ ?_
  · rintro ⟨m, o⟩ ⟨hm, ho⟩ next hnx
    simp only at hm ho hnx ⊢
    by_cases h1 : m = -1
    · simp [h1, ups_nil]
    · have hm' := hm.resolve_left h1
      rw [ups_cons ht hm'] at ho ⊢
      simp only [List.length_cons] at ho
      have ha := app8 (n := o.length + 1) (by omega)
      have hnx' := hnx (upN t m, o ++ [m]) ⟨ht.up hm', by simp; omega⟩ (by rw [ups_cons ht hm']; simp)
      simpa [h1, ha, h t m hm'] using hnx'
  · have := ups_len t n; simp; omega
  · have := ups_len t n; simp; omega
theorem sRCon : Ev fun k => ∀ (t : List Nod) (n : Int), May t → isN t n = true → T k 67 [encT t, int n] = ok (.bool (conN t n)) := by
  have h95 : Ev fun k => ∀ (t : List Nod) (a n : Int), May t → isN t n = true → T k 19 [encT t, int a, int n] = ok (.bool (decide (a ∈ ups t n))) := (sRUps.and sIn).step fun k ⟨h1, h2⟩ t a n ht hn => by
    rw [t19]; unfold R19
    have hl := ht.sm.len
    have := ups_len t n
    simp [h1 t n ht (.inr hn), h2 _ _ (show (ups t n).length ≤ 400 by omega)]
  refine h95.step fun k h t n ht hn => ?_
  rw [t67]; unfold R67
  simp [h t 0 n ht hn, conN, shUp, mayN, ht.may, hn]
theorem sPall1 : Ev fun k => ∀ (t : List Nod) (n : Int), callV H (T k) (.fn 106 [.rp [encT t]]) [int n] = some (.bool (!isN t n)) := by
  refine Ev.pure 1000 fun k hk t n => ?_
  have e : ∀ (T : Nat → List SVal → Option Res) (caps args : List SVal), callV H T (.fn 106 caps) args = (if shOks [.plain, .rp 1] (args ++ caps) = true then (T 106 (args ++ caps)).bind fun r => some r.r else none) := fun T caps args => by kernel_rfl
  rw [e]
  have : T (k + 1) 106 ([int n] ++ [.rp [encT t]]) = ok (.bool (!isN t n)) := by
    show T (k + 1) 106 [int n, .rp [encT t]] = _
    rw [t106]; unfold R106
    simp [isN]
    by_cases h : n < 0
    · simp [h, show ¬ 0 ≤ n by omega]
    · by_cases h2 : n < t.length
      · simp [h, h2, show 0 ≤ n by omega, show ¬ (t.length : Int) ≤ n by omega]
      · simp [h, h2, show 0 ≤ n by omega, show (t.length : Int) ≤ n by omega]
  rw [this]
  simp [shOks, shOk]
theorem sPall : Ev fun k => ∀ (t : List Nod) (l : List Int), Sm t → l.length ≤ 400 → T k 77 [encT t, encI l] = ok (.bool (mayT t && l.all (isN t))) := by
  obtain ⟨k0, hall⟩ := sPCheck.and (sPall1.and sContainsFunc)
  refine ⟨k0 + 3, fun k' hk' t l ht hl => ?_⟩
  obtain ⟨k, rfl⟩ : ∃ j, k' = j + 3 := ⟨k' - 3, by omega⟩
  obtain ⟨h1, _, _⟩ := hall (k + 2) (by omega)
  obtain ⟨_, h2, h3⟩ := hall k (by omega)
  have e := h3 l (.fn 106 [.rp [encT t]]) (fun n => !isN t n) hl fun x _ => h2 t x
  have e8 : (!l.any fun m => !isN t m) = l.all (isN t) := by rw [← List.all_eq_not_any_not]
  rw [t77]; unfold R77
  simp only [one_T, if_true, weak_T, weak_I, h1 t ht, e, Option.bind_some]
  by_cases hm : mayT t = true
  · simp [hm, ← e8, -List.any_eq_true]
  · simp [hm]
theorem sPoup1 : Ev fun k => ∀ (t : List Nod) (n : Int), May t → isN t n = true → T k 197 [.yld, .mb [int n], .rp [encT t]] = some { r := .tup [], out := (parsO t (ups t n)).map (SVal.int .i64) } := by
  refine Ev.pure 1000 fun k hk t n ht hn => ?_
  have hl := ht.sm.len
  rw [t197]; unfold R197
  refine loop_wf (fun p : Int × List Int => ⟨[.yld, .mb [int p.1], .rp [encT t]], p.2.map (SVal.int .i64), false⟩) (fun p => (some { r := .tup [], out := (p.2 ++ parsO t (ups t p.1)).map (SVal.int .i64) } : Option Res)) (fun p => (ups t p.1).length) (fun p => p.1 = -1 ∨ isN t p.1 = true) ?_ k (n, []) (.inr hn) ?_
  · rintro ⟨m, o⟩ hm next hnx
    simp only at hm hnx ⊢
    by_cases h1 : m = -1
    · simp [h1, ups_nil, parsO]
    · have hm' := hm.resolve_left h1
      have hc := ups_cons ht hm'
      by_cases h3 : (nd t m).kind = 3
      · have hp := kind3 ht hm' h3
        have hnx' := hnx (-1, o ++ [m]) (.inl rfl) (by rw [hc, ups_nil]; simp)
        simp [h1, idx_nd hm', hp, hc, parsO, h3]
        simpa [ups_nil, parsO] using hnx'
      · have hu : upN t m = (nd t m).parent := by simp [upN, h3]
        have hnx' := hnx (upN t m, o ++ [m]) (ht.up hm') (by rw [hc]; simp)
        simp [h1, idx_nd hm', hc, parsO, h3, ← hu]
        simpa using hnx'
  · have := ups_len t n; simp; omega
theorem sPoup : Ev fun k => ∀ (t : List Nod) (n : Int), T k 193 [encT t, int n] = ok (.fn 197 [.mb [int n], .rp [encT t]]) := by
  refine Ev.pure 1000 fun k hk t n => ?_
  rw [t193]; unfold R193
  simp
/-- What is told is collected. -/
theorem sAppendSeq : Ev fun k => ∀ (f : SVal) (l : List Int) (o : List Int), o.length + l.length ≤ 1000 → callIt (T k) f = some (l.map (SVal.int .i64)) → T (k + 1) 107 [.sl 1 true false (o.map (SVal.int .i64)), f] = ok (.sl 1 true false ((o ++ l).map (SVal.int .i64))) := by
  refine (Ev.ge 1000).mono fun k hk f l o hl hf => ?_
  rw [t107]; unfold R107
  simp only [hf, Option.bind_some]
  have key : ∀ (l o : List Int), o.length + l.length ≤ 1000 → rangeN (fun s2 y2 next2 =>
   (notTup y2).bind fun z3 =>
   if (List.all [[.v z3]] allOne) = true then
   if (s2.k0.c0.xs.length + ([z3] : List SVal).length) * 8 ≤ maxAppend then
   next2 ⟨[(.mb [(.sl 1 true false (s2.k0.c0.xs ++ [z3]))])], [], false⟩
   else none
   else none) (fun s4 =>
   some { r := (.sl 1 true false s4.k0.c0.xs) }) (l.map (SVal.int .i64)) ⟨[(.mb [(.sl 1 true false (o.map (SVal.int .i64)))])], [], false⟩ = ok (.sl 1 true false ((o ++ l).map (SVal.int .i64))) := by
    intro l
    induction l with
    | nil => intro o _; simp [rangeN]
    | cons x l ih =>
      intro o ho
      simp only [List.length_cons] at ho
      have ha := app8 (n := o.length + 1) (by omega)
      have := ih (o ++ [x]) (by simp; omega)
      simpa [rangeN, ha] using this
  exact key l o hl
theorem sCollect : Ev fun k => ∀ (f : SVal) (l : List Int), l.length ≤ 1000 → callIt (T k) f = some (l.map (SVal.int .i64)) → T (k + 2) 78 [f] = ok (.sl 1 true false (l.map (SVal.int .i64))) := by
  refine sAppendSeq.mono fun k h f l hl hf => ?_
  rw [t78]; unfold R78
  have := h f l [] (by simpa using hl) hf
  simp only [List.map_nil, List.nil_append] at this
  simp [this]
theorem sPoUp : Ev fun k => ∀ (t : List Nod) (n : Int), Sm t → T k 190 [encT t, int n] = ok (encI (if mayN t n = true then parsO t (ups t n) else [])) := by
  obtain ⟨k0, hall⟩ := sPall.and (sPoup.and (sPoup1.and sCollect))
  refine ⟨k0 + 3, fun k' hk' t n ht => ?_⟩
  obtain ⟨k, rfl⟩ : ∃ j, k' = j + 3 := ⟨k' - 3, by omega⟩
  obtain ⟨h1, h2, _, _⟩ := hall (k + 2) (by omega)
  obtain ⟨_, _, h3, h4⟩ := hall k (by omega)
  have e1 : T (k + 2) 77 [encT t, .sl 1 false false [int n]] = ok (.bool (mayN t n)) := by
    have := h1 t [n] ht (by simp)
    simpa [encI, mayN] using this
  rw [t190]; unfold R190
  by_cases hm : mayN t n = true
  · have hm' : mayT t = true ∧ isN t n = true := by simpa [mayN] using hm
    have hM : May t := ⟨ht, hm'.1⟩
    have hl := ht.len
    have hle : (parsO t (ups t n)).length ≤ 1000 := by have := pars_len t (ups t n); have := ups_len t n; omega
    have e2 := h4 (.fn 197 [.mb [int n], .rp [encT t]]) (parsO t (ups t n)) hle (by simp only [callIt, h3 t n hM hm'.2, Option.bind_some])
    simp [e1, hm, h2, e2]
  · simp [e1, hm, encI]
theorem sPoTop : Ev fun k => ∀ (t : List Nod) (n : Int), Sm t → T k 185 [encT t, int n] = ok (int (if mayN t n = true then topN t n else -1)) := by
  refine (sPall.and (sPoup.and sPoup1)).step fun k ⟨h1, h2, h3⟩ t n ht => ?_
  have e1 : T k 77 [encT t, .sl 1 false false [int n]] = ok (.bool (mayN t n)) := by
    have := h1 t [n] ht (by simp)
    simpa [encI, mayN] using this
  rw [t185]; unfold R185
  by_cases hm : mayN t n = true
  · have hm' : mayT t = true ∧ isN t n = true := by simpa [mayN] using hm
    have hM : May t := ⟨ht, hm'.1⟩
    have e2 : callIt (T k) (.fn 197 [.mb [int n], .rp [encT t]]) = some ((parsO t (ups t n)).map (SVal.int .i64)) := by simp only [callIt, h3 t n hM hm'.2, Option.bind_some]
    have key : ∀ (l : List Int) (a : Int), rangeN (fun s4 y4 next4 => (notTup y4).bind fun z5 => if (oneS z5) = true then next4 ⟨[(.mb [z5])], [], false⟩ else none) (fun s6 => some { r := s6.k0.c0 }) (l.map (SVal.int .i64)) ⟨[.mb [int a]], [], false⟩ = ok (int (l.getLastD a)) := by
      intro l
      induction l with
      | nil => intro a; simp [rangeN]
      | cons x l ih =>
        intro a
        have := ih x
        rw [List.getLastD_cons]
        simpa [rangeN, -List.getLastD_eq_getLast?] using this
    simp only [List.all_cons, allOne_one, oneS_int, List.all_nil, Bool.and_true, if_true, weak_T, e1, hm, Option.bind_some, pick_t, h2, e2]
    exact key _ _
  · simp [e1, hm]
theorem sPHost : Ev fun k => ∀ (t : List Nod) (n : Int), Sm t → T k 191 [encT t, int n] = ok (int (hostN t n)) := by
  refine sPoTop.step fun k h t n ht => ?_
  rw [t191]; unfold R191
  by_cases hm : mayN t n = true
  · have hm' : mayT t = true ∧ isN t n = true := by simpa [mayN] using hm
    have hs := host_top ⟨ht, hm'.1⟩ hm'.2
    simp [h t n ht, hm, isN_ne hs.1, idx_nd hs.1, hostN]
  · simp [h t n ht, hm, hostN]
theorem sPsUp : Ev fun k => ∀ (t : List Nod) (n : Int), Sm t → T k 178 [encT t, int n] = ok (encI (shUp t n)) := by
  refine (sPoUp.and sPHost).at 1000 fun k hk ⟨h1, h2⟩ t n ht => ?_
  have hl := ht.len
  rw [t178]; unfold R178
  by_cases hm : mayN t n = true
  · have hm' : mayT t = true ∧ isN t n = true := by simpa [mayN] using hm
    have hM : May t := ⟨ht, hm'.1⟩
    obtain ⟨a1, a2, a3⟩ := host_top hM hm'.2
    have ha := app8 (n := (parsO t (ups t n)).length) (by have := pars_len t (ups t n); have := ups_len t n; omega)
    have hlen := ups_len t n
    simp only [weak_T, h1 t n ht, hm, if_true, Option.bind_some, elems_I, List.length_map, if_pos ha, h2 t n ht, hostN, sBin_neq, shUp]
    generalize parsO t (ups t n) = P at a3 ha ⊢
    by_cases h5 : (nd t (topN t n)).host = -1
    · rw [a3, h5, ups_nil]; simp
    · have h6 := a2.resolve_left h5
      rw [a3] at hlen ⊢
      simp [h5]
      refine (loop_wf (fun p : Int × List Int => ⟨[encT t, int p.1, .sl 1 true false (p.2.map (SVal.int .i64))], [], false⟩) (fun p => ok (encI (p.2 ++ ups t p.1))) (fun p => (ups t p.1).length) (fun p => isN t p.1 = true ∧ p.2.length + (ups t p.1).length ≤ 100) ?_ k ((nd t (topN t n)).host, P) ⟨h6, ?_⟩ ?_)
      · rintro ⟨m, o⟩ ⟨hm1, ho⟩ next hnx
        simp only at hm1 ho hnx ⊢
        have hmm : mayN t m = true := by simp [mayN, hm'.1, hm1]
        obtain ⟨b1, b2, b3⟩ := host_top hM hm1
        have hlen2 : (ups t m).length = (parsO t (ups t m)).length + (ups t (nd t (topN t m)).host).length := by
          conv => lhs; rw [b3]
          simp
        have hb := app8 (n := o.length + (parsO t (ups t m)).length) (by omega)
        have hpos : 0 < (parsO t (ups t m)).length := List.length_pos_iff.2 (pars_ne hM hm1)
        rw [b3]
        by_cases h7 : (nd t (topN t m)).host = -1
        · simp [h1 t m ht, h2 t m ht, hmm, hb, hostN, h7, ups_nil]
        · have h8 := b2.resolve_left h7
          have hnx' := hnx ((nd t (topN t m)).host, o ++ parsO t (ups t m)) ⟨h8, by simp; omega⟩ (by simp only; omega)
          simp [h1 t m ht, h2 t m ht, hmm, hb, hostN, h7]
          simpa using hnx'
      · simp at hlen; simp; omega
      · simp at hlen; simp; omega
  · simp [h1 t n ht, h2 t n ht, hm, hostN, shUp, encI, elems, maxAppend]
theorem sPCon : Ev fun k => ∀ (t : List Nod) (n : Int), Sm t → T k 139 [encT t, int n] = ok (.bool (conN t n)) := by
  have h110 : Ev fun k => ∀ (t : List Nod) (a n : Int), Sm t → T k 157 [encT t, int a, int n] = ok (.bool (decide (a ∈ shUp t n))) := (sPsUp.and sContains).step fun k ⟨h1, h2⟩ t a n ht => by
    rw [t157]; unfold R157
    have hl := ht.len
    have hle : (shUp t n).length ≤ 400 := by
      unfold shUp; split
      · have := ups_len t n; omega
      · simp
    simp [h1 t n ht, h2 _ _ hle]
  refine h110.step fun k h t n ht => ?_
  rw [t139]; unfold R139
  simp [h t 0 n ht, conN]
end Go.Proofs.YtcdnmiaelaombaaGreat.K
