/- Scopes: what is told of them. -/
import Derived.Test.YtjcnilaogidhlaaGreatLmAU
import Derived.Test.YtjcnilaogidhlaaGreatLmBM
set_option linter.unusedVariables false
set_option linter.unusedSimpArgs false
set_option linter.unnecessarySimpa false
set_option linter.all false
section
namespace Go.Proofs.YtjcnilaogidhlaaGreat.K
open Go Go.Lm
set_option linter.unusedSimpArgs false
theorem sSmay : Ev fun k => ∀ (v : View) (n : Int), SmV v → T k 42 [encV v, int n] = ok (.bool (okV v n)) := by
  refine sPchk.step fun k h v n hv => ?_
  rw [encV_eq, t42]; unfold R42
  by_cases hc : chkV v = 0
  · simp [h v hv, hc, okV, isN]
  · simp [h v hv, hc, okV]
def indexV (v : View) (n : Int) : Int := if okV v n = true then idxA v.tree n else -1
theorem sSIndex : Ev fun k => ∀ (v : View) (n : Int), SmV v → T k 19 [encV v, int n] = ok (int (indexV v n)) := by
  refine (sSmay.and sPGet).step fun k ⟨h1, h2⟩ v n hv => ?_
  rw [encV_eq, t19]; unfold R19
  by_cases ho : okV v n = true
  · obtain ⟨ht, hn⟩ := may_of_ok hv ho
    cases hg : getA 0 (nd v.tree n).attrs <;> simp [h1 v n hv, ho, h2 v.tree n 0 hv.tr, may_is ht hn, indexV, idxA, hg, tupG]
  · simp [h1 v n hv, ho, indexV]
theorem sSrank : Ev fun k => ∀ (i : Int), T k 49 [int i] = ok (int (rankA i)) := by
  refine Ev.pure 1000 fun k hk i => ?_
  rw [t49]; unfold R49
  by_cases h0 : i = 0
  · simp [h0, rankA]
  · simp [h0, rankA]
theorem sSk1 : Ev fun k => ∀ (v : View) (n : Int), T k 114 [encV v, int n] = ok (.bool (decide (n = 0))) := by
  refine Ev.pure 1000 fun k hk v n => ?_
  rw [encV_eq, t114]; unfold R114
  simp
theorem sSk2 : Ev fun k => ∀ (v : View) (n : Int), isN v.tree n = true → T k 115 [encV v, int n] = ok (.bool (!decide ((nd v.tree n).root = -1))) := by
  refine Ev.pure 1000 fun k hk v n hn => ?_
  rw [encV_eq, t115]; unfold R115
  simp [idx_nd hn]
theorem sRiIndex : Ev fun k => ∀ (v : View) (n : Int), SmV v → isN v.tree n = true → T k 24 [encV v, int n] = ok (int (idxA v.tree n)) := by
  refine sRGet.step fun k h2 v n hv hn => ?_
  rw [encV_eq, t24]; unfold R24
  cases hg : getA 0 (nd v.tree n).attrs <;> simp [h2 v.tree n 0 hv.tr, hn, idxA, hg, tupG]
theorem sSpop1 : Ev fun k => ∀ (n : Int) (x : Shown), callV H (T k) (.fn 98 [.rp [int n]]) [encS x] = some (.bool (decide (x.node = n))) := by
  refine Ev.pure 1000 fun k hk n x => ?_
  have e : ∀ (T : Nat → List SVal → Option Res) (caps args : List SVal), callV H T (.fn 98 caps) args = (if shOks [.agg [.plain, .plain], .rp 1] (args ++ caps) = true then (T 98 (args ++ caps)).bind fun r => some r.r else none) := fun T caps args => by kernel_rfl
  rw [e]
  have : T (k + 1) 98 ([encS x] ++ [.rp [int n]]) = ok (.bool (decide (x.node = n))) := by
    show T (k + 1) 98 [.agg [int x.node, int x.invoker], .rp [int n]] = _
    rw [t98]; unfold R98
    simp
  rw [this]; rfl
def popV (v : View) (n : Int) : Shown := (v.popups.find? fun x => decide (x.node = n)).getD ⟨0, 0⟩
theorem sSpop : Ev fun k => ∀ (v : View) (n : Int), SmV v → chkV v = 0 → T k 56 [encV v, int n] = ok (.tup [encS (popV v n), .bool (decide (n ∈ nodesP v.popups))]) := by
  obtain ⟨k0, hall⟩ := sSpop1.and sIndexFuncS
  refine ⟨k0 + 4, fun k' hk' v n hv hc => ?_⟩
  obtain ⟨k, rfl⟩ : ∃ j, k' = j + 2 := ⟨k' - 2, by omega⟩
  obtain ⟨h1, h2⟩ := hall k (by omega)
  have l3 := hv.po
  have e := h2 v.popups (.fn 98 [.rp [int n]]) (fun x => decide (x.node = n)) (by omega) fun x _ => h1 n x
  have hany := pops_any v.popups n
  rw [encV_eq, t56]; unfold R56
  by_cases hm : n ∈ nodesP v.popups
  · have ha : (v.popups.any fun x => decide (x.node = n)) = true := by rw [hany]; simp [hm]
    obtain ⟨j, hj, q1, q2⟩ := plP_find (i := 0) ha
    have hz : popV v n = v.popups[j] := by
      unfold popV
      cases hf : v.popups.find? fun x => decide (x.node = n) with
      | none => have := List.find?_eq_none.1 hf v.popups[j] (List.getElem_mem hj); exact absurd q2 this
      | some z =>
        have z1 := List.find?_some hf
        have z2 := List.mem_of_find?_eq_some hf
        simp only [decide_eq_true_eq] at z1 q2
        exact node_inj (pops_nodup (chkV_iff.1 hc).2) z2 (List.getElem_mem hj) (by show z.node = _; rw [z1, q2])
    have q0 : plP (fun x => decide (x.node = n)) v.popups 0 = (j : Int) := by rw [q1]; simp
    simp [e, q0, idx_P hj, hm, hz]
  · have ha : ¬ (v.popups.any fun x => decide (x.node = n)) = true := by rw [hany]; simp [hm]
    have q0 := plP_none (i := 0) (Bool.eq_false_iff.2 ha)
    simp [e, q0, hm]
    have : popV v n = ⟨0, 0⟩ := by
      unfold popV
      rw [List.find?_eq_none.2 fun x hx h => ha (List.any_eq_true.2 ⟨x, hx, h⟩)]; rfl
    rw [this]; rfl
theorem host_sl {t : List Nod} (h : May t) {n : Int} (hn : isN t n = true) : (!decide (hostN t n = -1)) = decide ((nd t (topN t n)).kind = 3) := by
  have ht : isN t (topN t n) = true := (shTr h).upP n hn _ (ord_sub (top_mem h n hn))
  have hf := h.f ht
  rw [hostN, if_pos (may_is h hn)]
  by_cases h3 : (nd t (topN t n)).kind = 3
  · have := isN_ne (hf.shad h3).2.2.1
    simp [h3, this]
  · simp [h3, (hf.plain h3).1]
theorem sSk3 : Ev fun k => ∀ (v : View) (n : Int), SmV v → May v.tree → isN v.tree n = true → T k 116 [encV v, int n] = ok (.bool (isSl v.tree n)) := by
  refine sPHost.step fun k h v n hv ht hn => ?_
  rw [encV_eq, t116]; unfold R116
  have e := host_sl ht hn
  simp [idx_nd hn, h v.tree n hv.tr, isSl, e, Bool.and_assoc]
theorem sSk4 : Ev fun k => ∀ (v : View) (n : Int), SmV v → chkV v = 0 → T k 118 [encV v, int n] = ok (.bool (decide (n ∈ nodesP v.popups))) := by
  refine sSpop.step fun k h v n hv hc => ?_
  rw [encV_eq, t118]; unfold R118
  have o0 : oneS (encS (popV v n)).c0 = true := rfl
  have o1 : oneS (encS (popV v n)).c1 = true := rfl
  simp [h v n hv hc, o0, o1]
theorem sIdxK : Ev fun k => ∀ (l : List SVal) (g : SVal) (p : SVal → Bool), l.length ≤ 400 → (∀ x ∈ l, callV H (T k) g [.agg [x]] = some (.bool (p x))) → T (k + 1) 113 [.sl 1 false false (l.map fun x => .agg [x]), g] = ok (int (plP p l 0)) := by
  refine (Ev.ge 1000).mono fun k hk l g p hl hf => ?_
  rw [t113]; unfold R113
  have e1 : sLen (.sl 1 false false (l.map fun x => SVal.agg [x])) = some (int l.length) := by show some (int ((l.map fun x => SVal.agg [x]).length : Nat)) = _; rw [List.length_map]
  have e2 : weak (.sl 1 false false (l.map fun x => SVal.agg [x])) = .sl 1 false false (l.map fun x => SVal.agg [x]) := rfl
  simp only [e1, e2, Option.bind_some]
  refine for_list l (fun i _ => ⟨[.sl 1 false false (l.map fun x => SVal.agg [x]), g, int l.length, int i], [], false⟩) (fun r i _ => ok (int (plP p r i))) (fun _ _ => True) (by omega) ?_ ?_ k () (by omega) trivial
  · intro s next _; simp [plP]
  · intro i s x r next hi hx _ _ hw hn
    have f2 := hf x (hx ▸ List.getElem_mem hi)
    have e3 : sIdx true 1 (.sl 1 false false (l.map fun x => SVal.agg [x])) (int i) = some (.agg [x]) := sIdx_at (by simp [hi, hx]) rfl
    have e4 : SVal.cell (.agg [x]) 0 = x := rfl
    by_cases hp : p x = true
    · simp [hi, e3, e4, f2, hp, plP]
    · have hn' := hn () trivial
      simp [hi, e3, e4, f2, hp, plP, hw, e2]
      simpa using hn'
theorem call_k (f : Nat) (hp : (H f).params = [.agg [.slc, .slc, .slc, .slc, .slc], .plain]) (hr : (H f).res = .plain) (T : Nat → List SVal → Option Res) (v : View) (n : Int) {b : Bool} (h : T f [encV v, int n] = ok (.bool b)) : callV H T (.fn f []) [encV v, int n] = some (.bool b) := by
  unfold callV
  simp only [hr, hp, List.append_nil]
  rw [if_pos (by rfl), h]; rfl
theorem sSow1 : Ev fun k => ∀ (v : View) (n : Int) (x : SVal) (b : Bool), callV H (T k) x [encV v, int n] = some (.bool b) → callV H (T (k + 1)) (.fn 77 [rpV v, .rp [int n]]) [.agg [x]] = some (.bool b) := by
  refine (Ev.ge 1000).mono fun k hk v n x b h => ?_
  have e : ∀ (T : Nat → List SVal → Option Res) (caps args : List SVal), callV H T (.fn 77 caps) args = (if shOks [.agg [.plain], .rp 5, .rp 1] (args ++ caps) = true then (T 77 (args ++ caps)).bind fun r => some r.r else none) := fun T caps args => by kernel_rfl
  rw [e]
  have : T (k + 1) 77 ([.agg [x]] ++ [rpV v, .rp [int n]]) = ok (.bool b) := by
    show T (k + 1) 77 [.agg [x], .rp [encT v.tree, encI v.op, encI v.modal, encP v.popups, encI v.top], .rp [int n]] = _
    rw [t77]; unfold R77
    simp [h]
  rw [this]; rfl
theorem sSkinds : Ev fun k => T k 76 [] = ok (.sl 1 false false ([.fn 114 [], .fn 115 [], .fn 116 [], .fn 118 []].map fun x => SVal.agg [x])) := by
  refine Ev.pure 1000 fun k hk => ?_
  rw [t76]; unfold R76
  rfl
theorem sSowns : Ev fun k => ∀ (v : View) (n : Int), SmV v → okV v n = true → T k 43 [encV v, int n] = ok (.bool (ownsS v n)) := by
  obtain ⟨k0, hall⟩ := sSk1.and (sSk2.and (sSk3.and (sSk4.and (sSow1.and (sIdxK.and sSkinds)))))
  refine ⟨k0 + 6, fun k' hk' v n hv ho => ?_⟩
  obtain ⟨k, rfl⟩ : ∃ j, k' = j + 4 := ⟨k' - 4, by omega⟩
  obtain ⟨h1, h2, h3, h4, h5, _, _⟩ := hall k (by omega)
  obtain ⟨_, _, _, _, _, h6, _⟩ := hall (k + 1) (by omega)
  obtain ⟨_, _, _, _, _, _, h7⟩ := hall (k + 3) (by omega)
  obtain ⟨ht, hn⟩ := may_of_ok hv ho
  have hc := (okV_iff.1 ho).1
  have c1 := call_k 114 rfl rfl (T k) v n (h1 v n)
  have c2 := call_k 115 rfl rfl (T k) v n (h2 v n hn)
  have c3 := call_k 116 rfl rfl (T k) v n (h3 v n hv ht hn)
  have c4 := call_k 118 rfl rfl (T k) v n (h4 v n hv hc)
  have key := h6 [.fn 114 [], .fn 115 [], .fn 116 [], .fn 118 []] (.fn 77 [rpV v, .rp [int n]])
    (fun x => match x with
      | .fn f _ => if f = 114 then decide (n = 0) else if f = 115 then !decide ((nd v.tree n).root = -1) else if f = 116 then isSl v.tree n else decide (n ∈ nodesP v.popups)
      | _ => false) (by simp) (by
        intro x hx
        simp only [List.mem_cons, List.not_mem_nil, or_false] at hx
        rcases hx with rfl | rfl | rfl | rfl
        · exact h5 _ _ _ _ c1
        · exact h5 _ _ _ _ c2
        · exact h5 _ _ _ _ c3
        · exact h5 _ _ _ _ c4)
  have con : T (k + 3) 75 [.sl 1 false false ([.fn 114 [], .fn 115 [], .fn 116 [], .fn 118 []].map fun x => SVal.agg [x]), .fn 77 [rpV v, .rp [int n]]] = ok (.bool (ownsS v n)) := by
    rw [t75]; unfold R75
    simp only [weak_sl, key, Option.bind_some, sBin_geq, plP_ge']
    simp [ownsS, Bool.or_assoc]
  rw [encV_eq, t43]; unfold R43
  simp only [oneS_int, if_true, h7, Option.bind_some, weak_sl, fold_rpVv]
  rw [con]; rfl
theorem popV_mem {v : View} {n : Int} (hm : n ∈ nodesP v.popups) : popV v n ∈ v.popups ∧ (popV v n).node = n := by
  obtain ⟨x, hx, h⟩ := List.mem_map.1 hm
  unfold popV
  cases hf : v.popups.find? fun x => decide (x.node = n) with
  | none => have := List.find?_eq_none.1 hf x hx; exact absurd (by simpa using h) this
  | some z => exact ⟨List.mem_of_find?_eq_some hf, by simpa using List.find?_some hf⟩
def placeV (v : View) (n : Int) : Int := if okV v n = true then placeN v n else -1
theorem sSPlace : Ev fun k => ∀ (v : View) (n : Int), SmV v → T k 20 [encV v, int n] = ok (int (placeV v n)) := by
  refine (sSmay.and (sSpop.and sPfAbove)).step fun k ⟨h1, h2, h3⟩ v n hv => ?_
  rw [encV_eq, t20]; unfold R20
  by_cases ho : okV v n = true
  · obtain ⟨ht, hn⟩ := may_of_ok hv ho
    have hc := (okV_iff.1 ho).1
    have o0 : oneS (encS (popV v n)).c0 = true := rfl
    have o1 : oneS (encS (popV v n)).c1 = true := rfl
    have o2 : (encS (popV v n)).c1 = int (popV v n).invoker := rfl
    by_cases hm : n ∈ nodesP v.popups
    · obtain ⟨m1, m2⟩ := popV_mem hm
      have hp := place_first (pops_nodup (chkV_iff.1 hc).2) m1
      rw [m2] at hp
      by_cases hi : isN v.tree (popV v n).invoker = true
      · by_cases ha : n ∈ fups v.tree (popV v n).invoker
        · simp [h1 v n hv, ho, h2 v n hv hc, o0, o1, o2, hm, h3 v.tree _ _ hv.tr, fUp_of ht hi, ha, placeV, hp, hi]
        · simp [h1 v n hv, ho, h2 v n hv hc, o0, o1, o2, hm, h3 v.tree _ _ hv.tr, fUp_of ht hi, ha, placeV, hp, hi]
      · have hf : fUp v.tree (popV v n).invoker = [] := by simp [fUp, mayN, hi]
        simp [h1 v n hv, ho, h2 v n hv hc, o0, o1, o2, hm, h3 v.tree _ _ hv.tr, hf, placeV, hp, hi]
    · simp [h1 v n hv, ho, h2 v n hv hc, o0, o1, o2, hm, placeV, place_not hm]
  · simp [h1 v n hv, ho, placeV]
theorem pl_fst {p : Int → Bool} : ∀ (l : List Int) (i : Nat), (∃ j, ∃ h : j < l.length, plP p l i = ((i + j : Nat) : Int) ∧ fstP p l = l[j]) ∨ (plP p l i = -1 ∧ fstP p l = -1)
  | [], _ => .inr ⟨rfl, rfl⟩
  | x :: r, i => by
    by_cases hx : p x = true
    · exact .inl ⟨0, by simp, by simp [plP, hx], by simp [fstP, hx]⟩
    · rcases pl_fst (p := p) r (i + 1) with ⟨j, h, h1, h2⟩ | ⟨h1, h2⟩
      · exact .inl ⟨j + 1, by simpa using h, by simp only [plP, hx, if_false, h1]; simp; omega, by simp [fstP, hx, h2]⟩
      · exact .inr ⟨by simp [plP, hx, h1], by simp [fstP, hx, h2]⟩
theorem sSowner1 : Ev fun k => ∀ (v : View) (n : Int), SmV v → okV v n = true → callV H (T k) (.fn 54 [rpV v]) [int n] = some (.bool (ownsS v n)) := by
  refine sSowns.step fun k h v n hv ho => ?_
  have e : ∀ (T : Nat → List SVal → Option Res) (caps args : List SVal), callV H T (.fn 54 caps) args = (if shOks [.plain, .rp 5] (args ++ caps) = true then (T 54 (args ++ caps)).bind fun r => some r.r else none) := fun T caps args => by kernel_rfl
  rw [e]
  have : T (k + 1) 54 ([int n] ++ [rpV v]) = ok (.bool (ownsS v n)) := by
    show T (k + 1) 54 [int n, .rp [encT v.tree, encI v.op, encI v.modal, encP v.popups, encI v.top]] = _
    rw [t54]; unfold R54
    simp [h v n hv ho]
  rw [this]; rfl
def ownerV (v : View) (n : Int) : Int := if okV v n = true then ownerN v n else -1
theorem sSOwner : Ev fun k => ∀ (v : View) (n : Int), SmV v → T k 18 [encV v, int n] = ok (int (ownerV v n)) := by
  obtain ⟨k0, hall⟩ := sSmay.and (sPfUp.and (sSowner1.and sIndexFunc))
  refine ⟨k0 + 4, fun k' hk' v n hv => ?_⟩
  obtain ⟨k, rfl⟩ : ∃ j, k' = j + 2 := ⟨k' - 2, by omega⟩
  obtain ⟨h1, h2, _, _⟩ := hall (k + 1) (by omega)
  obtain ⟨_, _, h3, h4⟩ := hall k (by omega)
  rw [encV_eq, t18]; unfold R18
  by_cases ho : okV v n = true
  · obtain ⟨ht, hn⟩ := may_of_ok hv ho
    have hl := fups_le ht hn; have hl2 := hv.tr.len
    have hlt : (fups v.tree n).tail.length ≤ 400 := by rw [List.length_tail]; omega
    have e := h4 (fups v.tree n).tail (.fn 54 [rpV v]) (ownsS v) hlt fun x hx => h3 v x hv (okV_iff.2 ⟨(okV_iff.1 ho).1, (flTr ht).upP n hn x (List.mem_of_mem_tail hx)⟩)
    have hs : sSlice 1 (encI (fups v.tree n)) (some (int 1)) none = some (encI (fups v.tree n).tail) := by
      have := sSl_I (fups v.tree n) 1 (by rw [fups_cons ht hn]; simp)
      rw [List.drop_one] at this; exact this
    have hs' : sSlice 1 (encI (fups v.tree n)) (some (.int .i64 1)) none = some (encI (fups v.tree n).tail) := hs
    rcases pl_fst (p := ownsS v) (fups v.tree n).tail 0 with ⟨j, hj, p1, p2⟩ | ⟨p1, p2⟩
    · have p1' : plP (ownsS v) (fups v.tree n).tail 0 = (j : Int) := by rw [p1]; simp
      rw [p1'] at e
      have hidx := idx_I hj
      simp only [weak_T, weak_I, weak_P, fold_Vv, fold_rpVv, h1 v n hv, ho, Option.bind_some, sNot_b, Bool.not_true, pick_f, h2 v.tree n hv.tr, fUp_of ht hn, hs', e]
      simp [hidx, ownerV, ho, ownerN, p2]
    · rw [p1] at e
      simp only [weak_T, weak_I, weak_P, fold_Vv, fold_rpVv, h1 v n hv, ho, Option.bind_some, sNot_b, Bool.not_true, pick_f, h2 v.tree n hv.tr, fUp_of ht hn, hs', e]
      simp [ownerV, ho, ownerN, p2]
  · simp [h1 v n hv, ho, ownerV]
end Go.Proofs.YtjcnilaogidhlaaGreat.K
end
section
namespace Go.Proofs.YtjcnilaogidhlaaGreat.K
open Go Go.Lm
set_option linter.unusedSimpArgs false
theorem range_back {α σ : Type} {body : LS → SVal → (LS → Option α) → Option α} {done : LS → Option α} (l : List Int) (S : σ → LS) (F : List Int → σ → Option α) (Inv : Nat → σ → Prop)
    (h0 : ∀ s, Inv 0 s → done (S s) = F [] s)
    (h : ∀ (i : Nat) (s : σ) (x : Int) (r : List Int) (next : LS → Option α), x ∈ l → (∃ hi : i < l.length, l[i] = x) → Inv (i + 1) s → (∀ s', Inv i s' → next (S s') = F r s') → body (S s) (.tup [int i, int x]) next = F (x :: r) s) :
    ∀ (i : Nat), i ≤ l.length → ∀ s, Inv i s → rangeN body done (bwd l i) (S s) = F (l.take i).reverse s
  | 0, _, s, hI => by simpa [bwd, rangeN] using h0 s hI
  | i + 1, hi, s, hI => by
    have hi' : i < l.length := by omega
    have hg : l.getD i 0 = l[i] := by simp [hi']
    rw [bwd, rangeN, hg, List.take_succ_eq_append_getElem hi', List.reverse_append]
    exact h i s l[i] _ _ (List.getElem_mem hi') ⟨hi', rfl⟩ hI fun s' hs' => range_back l S F Inv h0 h i (by omega) s' hs'
theorem pre_pos {t : List Nod} (ht : May t) : ∀ (s : List Int), (∀ x ∈ s, isN t x = true) → s.length ≤ (s.flatMap (preF (fkids t) (t.length + 1))).length
  | [], _ => by simp
  | x :: s, h => by
    have := pre_pos ht s fun y hy => h y (by simp [hy])
    have h2 := (flTr ht).pre_cons (h x (by simp))
    rw [List.flatMap_cons, List.length_append, h2]
    simp only [List.length_cons]; omega
theorem sFList : Ev fun k => ∀ (t : List Nod), May t → T k 44 [encT t] = ok (encI (flL t)) := by
  refine (sPfis.and (sPfkids.and (sBackward.and sBackward1))).at 1000 fun k hk ⟨h1, h2, h3, h4⟩ t ht => ?_
  have hl := ht.sm.len
  have hfl := fl_len ht
  have h0 : mayN t 0 = true := by rw [may_is ht (is0 ht)]
  rw [t44]; unfold R44
  simp only [weak_T, h1 t 0 ht.sm, h0, Option.bind_some, sNot_b, Bool.not_true, pick_f]
  refine loop_wf (fun q : List Int × List Int => ⟨[encT t, .sl 1 true false (q.1.map (SVal.int .i64)), .mb [.sl 1 true false (q.2.map (SVal.int .i64))]], [], false⟩) (fun _ => ok (encI (flL t))) (fun q => (flL t).length - q.1.length)
    (fun q => q.1 ++ q.2.reverse.flatMap (preF (fkids t) (t.length + 1)) = flL t ∧ ∀ x ∈ q.2, isN t x = true) ?_ k ([], [0]) ⟨by simp [flL], by simp [is0 ht]⟩ (by simp only [List.length_nil]; omega)
  rintro ⟨o, s⟩ ⟨hi, hs⟩ next hnx
  simp only at hi hs hnx ⊢
  rcases List.eq_nil_or_concat s with rfl | ⟨s', n, rfl⟩
  · simp only [List.reverse_nil, List.flatMap_nil, List.append_nil] at hi
    subst hi
    simp
  · simp only [List.concat_eq_append] at hi hs hnx ⊢
    have hn : isN t n = true := hs n (by simp)
    have hs' : ∀ x ∈ s', isN t x = true := fun x hx => hs x (by simp [hx])
    have hkid : ∀ x ∈ fkids t n, isN t x = true := fun x hx => ((flTr ht).kid n x hn hx).1
    rw [List.reverse_append, List.flatMap_append, List.reverse_singleton, List.flatMap_singleton, (flTr ht).pre_cons hn] at hi
    have hle : o.length + 1 + (fkids t n).length + s'.length ≤ (flL t).length := by
      have e1 := pre_pos ht (fkids t n) hkid
      have e2 := pre_pos ht s'.reverse fun x hx => hs' x (List.mem_reverse.1 hx)
      rw [← hi]
      simp only [List.length_append, List.length_cons, List.length_reverse] at e2 ⊢
      omega
    have w1 : IntKind.i64.wrap ((s'.length : Nat) : Int) = ((s'.length : Nat) : Int) := wrapS (by omega) (by omega)
    have b1 : sBnd (s'.length + 1) (int s'.length) = some s'.length := sBnd_nat (by omega)
    have g1 : (s'.map (SVal.int .i64) ++ [int n])[s'.length]? = some (int n) := by
      rw [List.getElem?_append_right (by simp)]; simp
    have g2 : (s'.map (SVal.int .i64) ++ [int n]).take s'.length = s'.map (SVal.int .i64) := by
      rw [List.take_append_of_le_length (by simp)]; rw [List.take_of_length_le (by simp)]
    have a1 := app8 (n := o.length + 1) (by omega)
    have e4 : callIt (T k) (.fn 120 [.rp [encI (fkids t n)]]) = some (bwd (fkids t n) (fkids t n).length) := by simp only [callIt, h4 (fkids t n) (by omega), Option.bind_some]
    have key : ∀ (body : LS → SVal → (LS → Option Res) → Option Res) (done : LS → Option Res), (∀ st : List Int, done ⟨[encT t, .sl 1 true false ((o ++ [n]).map (SVal.int .i64)), .mb [.sl 1 true false (st.map (SVal.int .i64))]], [], false⟩ = next ⟨[encT t, .sl 1 true false ((o ++ [n]).map (SVal.int .i64)), .mb [.sl 1 true false (st.map (SVal.int .i64))]], [], false⟩) → (∀ (st : List Int) (i : Nat) (x : Int) (nx : LS → Option Res), st.length ≤ 399 → body ⟨[encT t, .sl 1 true false ((o ++ [n]).map (SVal.int .i64)), .mb [.sl 1 true false (st.map (SVal.int .i64))]], [], false⟩ (.tup [int i, int x]) nx = nx ⟨[encT t, .sl 1 true false ((o ++ [n]).map (SVal.int .i64)), .mb [.sl 1 true false ((st ++ [x]).map (SVal.int .i64))]], [], false⟩) →
        rangeN body done (bwd (fkids t n) (fkids t n).length) ⟨[encT t, .sl 1 true false ((o ++ [n]).map (SVal.int .i64)), .mb [.sl 1 true false (s'.map (SVal.int .i64))]], [], false⟩ = ok (encI (flL t)) := by
      intro body done hd hb
      refine (range_back (fkids t n) (fun st : List Int => ⟨[encT t, .sl 1 true false ((o ++ [n]).map (SVal.int .i64)), .mb [.sl 1 true false (st.map (SVal.int .i64))]], [], false⟩) (fun _ _ => ok (encI (flL t))) (fun i st => st = s' ++ ((fkids t n).drop i).reverse) ?_ ?_ _ (Nat.le_refl _) s' (by simp))
      · intro st hst
        rw [List.drop_zero] at hst
        subst hst
        rw [hd]
        refine hnx (o ++ [n], s' ++ (fkids t n).reverse) ⟨?_, ?_⟩ ?_
        · rw [← hi]; simp
        · intro x hx
          rcases List.mem_append.1 hx with hx | hx
          · exact hs' x hx
          · exact hkid x (List.mem_reverse.1 hx)
        · simp only [List.length_append, List.length_cons, List.length_nil]; omega
      · intro i st x r nx hx ⟨hi', hx'⟩ hst hnx2
        subst hst
        rw [hb _ _ _ _ (by simp; omega)]
        refine hnx2 _ ?_
        rw [List.drop_eq_getElem_cons hi', hx']; simp
    have z : ∀ x : Int, allOne [.v (int x)] = true := fun _ => rfl
    simp [w1, b1, g2, a1, h2 t n ht hn, h3, e4]
    have key2 := key
    simp only [List.map_append, List.map_cons, List.map_nil] at key2
    refine key2 _ _ (fun st => by simp) ?_
    · intro st i x nx hst
      have a2 := app8 (n := st.length + 1) (by omega)
      simp [tup2, a2]
def cmpI (a b : Int) : Int := if a < b then -1 else if b < a then 1 else 0
theorem cmp_lt {a b : Int} : cmpI a b < 0 ↔ a < b := by unfold cmpI; split <;> (try split) <;> omega
theorem sNaN : Ev fun k => ∀ (a : Int), T k 84 [int a] = ok (.bool false) := by
  refine Ev.pure 1000 fun k hk a => ?_
  rw [t84]; unfold R84
  simp
theorem sCmp : Ev fun k => ∀ (a b : Int), T k 48 [int a, int b] = ok (int (cmpI a b)) := by
  refine sNaN.step fun k h a b => ?_
  rw [t48]; unfold R48
  by_cases h1 : a < b
  · simp [h, h1, cmpI]
  · by_cases h2 : b < a
    · simp [h, h1, h2, cmpI]
    · simp [h, h1, h2, cmpI]
theorem sSit1 : Ev fun k => ∀ (v : View) (a b : Int), SmV v → callV H (T k) (.fn 47 [rpV v]) [int a, int b] = some (int (cmpI (rankA (indexV v a)) (rankA (indexV v b)))) := by
  refine (sSIndex.and (sSrank.and sCmp)).step fun k ⟨h1, h2, h3⟩ v a b hv => ?_
  have e : ∀ (T : Nat → List SVal → Option Res) (caps args : List SVal), callV H T (.fn 47 caps) args = (if shOks [.plain, .plain, .rp 5] (args ++ caps) = true then (T 47 (args ++ caps)).bind fun r => some r.r else none) := fun T caps args => by kernel_rfl
  rw [e]
  have : T (k + 1) 47 ([int a, int b] ++ [rpV v]) = ok (int (cmpI (rankA (indexV v a)) (rankA (indexV v b)))) := by
    show T (k + 1) 47 [int a, int b, .rp [encT v.tree, encI v.op, encI v.modal, encP v.popups, encI v.top]] = _
    rw [t47]; unfold R47
    simp [h1 v _ hv, h2, h3]
  rw [this]; rfl
def itemsV (v : View) (n : Int) : List Int := if okV v n = true then itemsS v n else []
theorem sSItems : Ev fun k => ∀ (v : View) (n : Int), SmV v → v.tree.length ≤ 19 → T k 15 [encV v, int n] = ok (encI (itemsV v n)) := by
  obtain ⟨k0, hall⟩ := sSmay.and (sSowns.and (sFList.and (sSOwner.and (sSIndex.and (sSPlace.and (sATabs.and (sSit1.and sSortS)))))))
  refine ⟨k0 + 1000, fun k' hk' v n hv hlen => ?_⟩
  obtain ⟨k, rfl⟩ : ∃ j, k' = j + 4 := ⟨k' - 4, by omega⟩
  obtain ⟨h1, h2, h3, h4, h5, h6, h7, _, _⟩ := hall (k + 3) (by omega)
  obtain ⟨_, _, _, _, _, _, _, h8, h9⟩ := hall k (by omega)
  rw [encV_eq, t15]; unfold R15
  by_cases ho : okV v n = true
  · obtain ⟨ht, hn⟩ := may_of_ok hv ho
    by_cases hw : ownsS v n = true
    · have hfl := fl_len ht
      simp only [weak_T, weak_I, weak_P, fold_Vv, fold_rpVv, h1 v n hv, ho, h2 v n hv ho, hw, Option.bind_some, sNot_b, Bool.not_true, guard_ff, asB_b, List.getD_cons_zero, pick_f, h3 v.tree ht, sLen_I]
      refine (for_list (flL v.tree) (fun i (o : List Int) => ⟨[int n, rpV v, .sl 1 true false (o.map (SVal.int .i64)), encI (flL v.tree), int (flL v.tree).length, int i], [], false⟩) (fun r _ o => ok (encI (sortR (rankN v) (o ++ r.filter (candP v n))))) (fun i o => o.length ≤ i ∧ ∀ x ∈ o, x ∈ flL v.tree) (by omega) ?_ ?_ (k + 3) [] (by omega) ⟨Nat.le_refl _, by simp⟩).trans (by simp [itemsV, ho, itemsS, hw, candL])
      · intro o next ⟨hol, hom⟩
        have e9 := h9 o (.fn 47 [rpV v]) (fun a b => cmpI (rankA (indexV v a)) (rankA (indexV v b))) (rankN v) (by omega) fun x hx y hy => ⟨h8 v x y hv, by
          have hx' : okV v x = true := okV_iff.2 ⟨(okV_iff.1 ho).1, fl_is ht (hom x hx)⟩
          have hy' : okV v y = true := okV_iff.2 ⟨(okV_iff.1 ho).1, fl_is ht (hom y hy)⟩
          simp only [indexV, hx', hy', if_true, rankN, cmp_lt]⟩
        simp [e9]
      · intro i o x r next hi hx _ ⟨hol, hom⟩ hww hnx
        have hxm : x ∈ flL v.tree := hx ▸ List.getElem_mem hi
        have hxn := fl_is ht hxm
        have hox : okV v x = true := okV_iff.2 ⟨(okV_iff.1 ho).1, hxn⟩
        have a1 := app8 (n := o.length + 1) (by omega)
        have e : (decide ((nd v.tree x).kind = 1) && (decide (ownerN v x = n) && (decide (0 ≤ idxA v.tree x) && (decide (placeN v x = -1) && (ownsS v x || tabA v x))))) = candP v n x := by simp [candP, Bool.and_assoc]
        have o1 : ownerV v x = ownerN v x := by simp [ownerV, hox]
        have o2 : indexV v x = idxA v.tree x := by simp [indexV, hox]
        have o3 : placeV v x = placeN v x := by simp [placeV, hox]
        have hlt : ((i : Int) < (flL v.tree).length) := by omega
        by_cases hc : candP v n x = true
        · have hnx' := hnx (o ++ [x]) ⟨by simp; omega, fun y hy => by
            rcases List.mem_append.1 hy with hy | hy
            · exact hom y hy
            · simp at hy; subst hy; exact hxm⟩
          simp [hlt, hi, idx_I hi, hx, idx_nd hxn, h4 v x hv, h5 v x hv, h6 v x hv, h2 v x hv hox, h7 v x hv, hox, o1, o2, o3, e, hc, a1, hww]
          simpa [hc] using hnx'
        · have hnx' := hnx o ⟨by omega, hom⟩
          simp [hlt, hi, idx_I hi, hx, idx_nd hxn, h4 v x hv, h5 v x hv, h6 v x hv, h2 v x hv hox, h7 v x hv, hox, o1, o2, o3, e, hc, hww]
          simpa [hc] using hnx'
    · simp [h1 v n hv, ho, h2 v n hv ho, hw, itemsV, itemsS]
  · simp [h1 v n hv, ho, itemsV]
end Go.Proofs.YtjcnilaogidhlaaGreat.K
end
section
namespace Go.Proofs.YtjcnilaogidhlaaGreat.K
open Go Go.Lm
set_option linter.unusedSimpArgs false
theorem sRiOwns : Ev fun k => ∀ (v : View) (n : Int), SmV v → May v.tree → isN v.tree n = true → T k 31 [encV v, int n] = ok (.bool (ownsS v n)) := by
  refine (sRslot.and (sNodes.and sIn)).step fun k ⟨h1, h2, h3⟩ v n hv ht hn => ?_
  have l3 := hv.po
  have l4 : (nodesP v.popups).length ≤ 400 := by simp [nodesP]; omega
  rw [encV_eq, t31]; unfold R31
  by_cases b1 : n = 0
  · simp [b1, ownsS]
  · by_cases b2 : (nd v.tree n).root = -1
    · simp [b1, b2, idx_nd hn, h1 v.tree n ht hn, h2 v.popups (by omega), h3 _ _ l4, ownsS]
    · simp [b1, b2, idx_nd hn, ownsS]
theorem sRiOwner : Ev fun k => ∀ (v : View) (n : Int), SmV v → May v.tree → isN v.tree n = true → T k 23 [encV v, int n] = ok (int (ownerN v n)) := by
  refine (sRfUp.and sRiOwns).at 1000 fun k hk ⟨h1, h2⟩ v n hv ht hn => ?_
  have hl := fups_le ht hn; have hl2 := hv.tr.len
  have hc : fups v.tree n = n :: fups v.tree (fpar v.tree n) := fups_cons ht hn
  rw [encV_eq, t23]; unfold R23
  simp only [weak_T, weak_I, weak_P, fold_Vv, fold_rpVv, h1 v.tree n ht (.inr hn), Option.bind_some]
  have main := for_list (body := fun (s2 : LS) (next2 : LS → Option Res) =>
   (sLen s2.k1).bind fun r3 =>
   (sBin .lss s2.k2 r3).bind fun r4 =>
   pickC r4
   ((sIdx false 1 s2.k1 s2.k2).bind fun e5 =>
    (T k 31 [(.agg [(weak (SVal.cell s2.k0 0)), (weak (SVal.cell s2.k0 1)), (weak (SVal.cell s2.k0 2)), (weak (SVal.cell s2.k0 3)), (weak (SVal.cell s2.k0 4))]), e5]).bind fun r6 =>
    pickC r6.r
    ((sIdx false 1 s2.k1 s2.k2).bind fun e7 =>
     some { r := e7 })
    ((sBin .add s2.k2 (.int .i64 1)).bind fun r8 =>
     next2 ⟨[(.rp [(SVal.cell s2.k0 0), (SVal.cell s2.k0 1), (SVal.cell s2.k0 2), (SVal.cell s2.k0 3), (SVal.cell s2.k0 4)]), (weak s2.k1), r8], [], false⟩))
   (some { r := (.int .i64 (-1)) })) (fups v.tree n).tail (fun i (_ : Unit) => ⟨[rpV v, encI (fups v.tree n), int ((i + 1 : Nat) : Int)], [], false⟩) (fun r _ _ => ok (int (fstP (ownsS v) r))) (fun _ _ => True) (by rw [List.length_tail]; omega) ?_ ?_ k () (by rw [List.length_tail]; omega) trivial
  · exact main
  · intro _ next _
    have : (fups v.tree n).tail.length + 1 = (fups v.tree n).length := by rw [hc]; simp
    rw [this]
    simp [fstP]
  · intro i _ x r next hi hx _ _ hw hnx
    have hi' : i + 1 < (fups v.tree n).length := by rw [List.length_tail] at hi; omega
    have hx' : (fups v.tree n)[i + 1] = x := by rw [← hx, List.getElem_tail]
    have hxm : x ∈ fups v.tree n := hx' ▸ List.getElem_mem hi'
    have hxn := (flTr ht).upP n hn x hxm
    have hnx' := hnx () trivial
    have hw2 : IntKind.i64.wrap ((i : Int) + 1 + 1) = (i : Int) + 1 + 1 := wrapS (by omega) (by omega)
    have hid : sIdx false 1 (encI (fups v.tree n)) (int ((i : Int) + 1)) = some (int x) := by have := idx_I hi'; rw [hx'] at this; simpa using this
    have hlt : (i : Int) + 1 < (fups v.tree n).length := by omega
    by_cases ho : ownsS v x = true
    · simp [hlt, hid, h2 v x hv ht hxn, ho, fstP]
    · simp [hlt, hid, h2 v x hv ht hxn, ho, fstP, hw2]
      simpa [ho, fstP] using hnx'
theorem sRiPlace : Ev fun k => ∀ (v : View) (n : Int), SmV v → chkV v = 0 → T k 25 [encV v, int n] = ok (int (placeN v n)) := by
  refine sRfAbove.at 1000 fun k hk h v n hv hc => ?_
  have l3 := hv.po
  have ht := vmay hv hc
  rw [encV_eq, t25]; unfold R25
  refine for_list v.popups (fun i (_ : Unit) => ⟨[int n, rpV v, int i], [], false⟩) (fun r _ _ => ok (int (((r.find? (placeP v n)).map (·.invoker)).getD (-1)))) (fun _ _ => True) (by omega) ?_ ?_ k () (by omega) trivial
  · intro _ next _; simp
  · intro i _ x r next hi hx _ _ hw hnx
    have hnx' := hnx () trivial
    have hxm : x ∈ v.popups := hx ▸ List.getElem_mem hi
    have hpo := (chkV_iff.1 hc).2.po x hxm
    simp only [popOk, Bool.and_eq_true, Bool.or_eq_true, decide_eq_true_eq] at hpo
    by_cases b1 : x.node = n
    · by_cases b2 : x.invoker = -1
      · simp [hi, idx_P hi, hx, b1, b2, hw]
        simpa [placeP, b1, b2] using hnx'
      · have hin := hpo.2.resolve_left b2
        by_cases b3 : n ∈ fups v.tree x.invoker
        · simp [hi, idx_P hi, hx, b1, b2, h v.tree n _ ht hin, b3, hw]
          simpa [placeP, b1, b2, hin, b3] using hnx'
        · simp [hi, idx_P hi, hx, b1, b2, h v.tree n _ ht hin, b3, hw, placeP, hin]
    · simp [hi, idx_P hi, hx, b1, hw]
      simpa [placeP, b1] using hnx'
theorem sRiItem : Ev fun k => ∀ (v : View) (n o : Int), SmV v → chkV v = 0 → isN v.tree n = true → T k 58 [encV v, int n, int o] = ok (.bool (candP v o n)) := by
  refine (sRiOwner.and (sRiIndex.and (sRiPlace.and (sRiOwns.and sRaTabs)))).step fun k ⟨h1, h2, h3, h4, h5⟩ v n o hv hc hn => ?_
  have ht := vmay hv hc
  rw [encV_eq, t58]; unfold R58
  simp [idx_nd hn, h1 v n hv ht hn, h2 v n hv hn, h3 v n hv hc, h4 v n hv ht hn, h5 v n hv ht hn, candP, Bool.and_assoc]
def ahd (a b : Int) : Bool := decide (0 < a) && (decide (b = 0) || decide (a < b))
theorem sRahead : Ev fun k => ∀ (a b : Int), T k 59 [int a, int b] = ok (.bool (ahd a b)) := by
  refine Ev.pure 1000 fun k hk a b => ?_
  rw [t59]; unfold R59
  simp [ahd]
theorem ahd_rank {a b : Int} (ha : 0 ≤ a) (hb : 0 ≤ b) (ha2 : a < 2147483648) (hb2 : b < 2147483648) : ahd a b = decide (rankA a < rankA b) := by
  have e : (0 < a ∧ (b = 0 ∨ a < b)) ↔ rankA a < rankA b := by
    unfold rankA
    by_cases h1 : a = 0
    · by_cases h2 : b = 0
      · rw [if_pos h1, if_pos h2]; omega
      · rw [if_pos h1, if_neg h2]; omega
    · by_cases h2 : b = 0
      · rw [if_neg h1, if_pos h2]; omega
      · rw [if_neg h1, if_neg h2]; omega
  rw [Bool.eq_iff_iff, decide_eq_true_iff, ← e]; simp [ahd]
theorem minO_notin_head {r : Int → Int} {l : List Int} (hn : l.Nodup) {m : Nat} (hm : m < (sortR r l).length) : minO r (l.filter fun x => !decide (x ∈ (sortR r l).take m)) none = some (sortR r l)[m] := by
  rw [min_head, sort_left hn, List.drop_eq_getElem_cons hm]; rfl
theorem sRiItems : Ev fun k => ∀ (v : View) (n : Int), SmV v → chkV v = 0 → isN v.tree n = true → T k 22 [encV v, int n] = ok (encI (itemsS v n)) := by
  refine (sRiOwns.and (sRfList.and (sRiItem.and (sRiIndex.and (sRahead.and sIn))))).at 1000 fun k hk ⟨h1, h2, h3, h4, h5, h6⟩ v n hv hc hn => ?_
  have ht := vmay hv hc
  have hl := hv.tr.len
  have hfl := fl_len ht
  rw [encV_eq, t22]; unfold R22
  by_cases hw : ownsS v n = true
  · simp only [weak_T, weak_I, weak_P, fold_Vv, fold_rpVv, h1 v n hv ht hn, hw, Option.bind_some, sNot_b, Bool.not_true, pick_f, h2 v.tree ht]
    refine (for_list (flL v.tree) (fun i (o : List Int) => ⟨[int n, rpV v, .sl 1 true false [], .sl 1 true false (o.map (SVal.int .i64)), encI (flL v.tree), int i], [], false⟩) (fun _ _ _ => ok (encI (sortR (rankN v) (candL v n)))) (fun i o => o ++ ((flL v.tree).drop i).filter (candP v n) = candL v n) (by omega) ?_ ?_ k [] (by omega) (by simp [candL])).trans (by simp [itemsS, hw])
    · intro o next ho
      rw [List.drop_length] at ho
      simp only [List.filter_nil, List.append_nil] at ho
      subst ho
      have hnd : (candL v n).Nodup := (fl_nodup ht).filter _
      have hcl : (candL v n).length ≤ 70 := by have := List.length_filter_le (candP v n) (flL v.tree); unfold candL; omega
      have hsl : (sortR (rankN v) (candL v n)).length = (candL v n).length := (sort_perm _).length_eq
      have hsm : ∀ x ∈ sortR (rankN v) (candL v n), x ∈ candL v n := fun x hx => (sort_perm _).mem_iff.1 hx
      have hcn : ∀ x ∈ candL v n, isN v.tree x = true ∧ 0 ≤ idxA v.tree x := fun x hx => by
        obtain ⟨q1, q2⟩ := List.mem_filter.1 hx
        simp only [candP, Bool.and_eq_true, decide_eq_true_eq] at q2
        exact ⟨fl_is ht q1, q2.1.1.2⟩
      generalize hL : candL v n = L at *
      generalize hS : sortR (rankN v) L = S at *
      simp
      refine (loop_wf (fun m : Nat => ⟨[rpV v, .sl 1 true false ((S.take m).map (SVal.int .i64)), .sl 1 true false (L.map (SVal.int .i64))], [], false⟩) (fun _ => ok (encI S)) (fun m => L.length - m) (fun m => m ≤ L.length) ?_ k 0 (Nat.zero_le _) (by omega))
      intro m hm next2 hnx
      by_cases hlt : m < L.length
      · have hlt' : m < S.length := by omega
        have hmin := minO_notin_head (r := rankN v) hnd (m := m) (by rw [hS]; exact hlt')
        simp only [hS] at hmin
        have htl : (S.take m).length = m := by rw [List.length_take]; omega
        have hdec : ((m : Int) < L.length) := by omega
        have hmn : min m S.length = m := by omega
        simp [hmn, hlt, -List.map_take]
        refine for_list L (fun i (b : Option Int) => ⟨[rpV v, .sl 1 true false ((S.take m).map (SVal.int .i64)), .sl 1 true false (L.map (SVal.int .i64)), int (b.getD (-1)), int i], [], false⟩) (fun _ _ _ => ok (encI S)) (fun i b => minO (rankN v) ((L.drop i).filter fun x => !decide (x ∈ S.take m)) b = some S[m] ∧ ∀ y, b = some y → y ∈ L) (by omega) ?_ ?_ k none (by omega) ⟨hmin, by simp⟩
        · intro b next3 ⟨hb, _⟩
          rw [List.drop_length] at hb
          simp only [List.filter_nil, minO] at hb
          subst hb
          have a1 := app8 (n := m + 1) (by omega)
          have hnx' := hnx (m + 1) (by omega) (by omega)
          rw [List.take_succ_eq_append_getElem hlt'] at hnx'
          simp [hmn, a1, -List.map_take]
          simp only [List.map_append, List.map_cons, List.map_nil] at hnx'
          exact hnx'
        · intro i b x r next3 hi hx hd ⟨hb, hbm⟩ hww hnx3
          rw [hd] at hb
          have hd' : L.drop (i + 1) = r := by rw [← List.drop_drop, hd]; rfl
          have hxm : x ∈ L := hx ▸ List.getElem_mem hi
          obtain ⟨hxn, hx0⟩ := hcn x hxm
          have hg : (L.map (SVal.int .i64))[i]? = some (int x) := by simp [hi, hx]
          have hin := h6 (S.take m) x (by omega)
          have hen : (SVal.sl 1 false false ((S.take m).map (SVal.int .i64))) = encI (S.take m) := rfl
          have hidec : ((i : Int) < L.length) := by omega
          by_cases c1 : x ∈ S.take m
          · have hb' : minO (rankN v) (r.filter fun x => !decide (x ∈ S.take m)) b = some S[m] := by
              rw [List.filter_cons, if_neg (by simp [c1])] at hb; exact hb
            have hnx3' := hnx3 b ⟨by rw [hd']; exact hb', hbm⟩
            simp only [LS.k0, LS.k1, LS.k2, LS.k3, LS.k4]
            simp [hi, hg, hx, hen, hin, c1, hww, -List.map_take]
            simpa using hnx3'
          · rw [List.filter_cons, if_pos (by simp [c1])] at hb
            cases b with
            | none =>
              have hnx3' := hnx3 (some x) ⟨by rw [hd']; exact hb, fun y hy => by cases hy; exact hxm⟩
              simp [hi, hg, hx, hen, hin, c1, hww, -List.map_take]
              simpa using hnx3'
            | some y =>
              have hym := hbm y rfl
              obtain ⟨hyn, hy0⟩ := hcn y hym
              have hy1 : ¬ y = -1 := isN_ne hyn
              have e := ahd_rank hx0 hy0 (idx_lt ht hxn) (idx_lt ht hyn)
              by_cases c2 : rankA (idxA v.tree x) < rankA (idxA v.tree y)
              · have hnx3' := hnx3 (some x) ⟨by rw [hd']; simpa [minO, rankN, c2] using hb, fun y hy => by cases hy; exact hxm⟩
                simp [hi, hg, hx, hen, hin, c1, hy1, h4 v x hv hxn, h4 v y hv hyn, h5, e, c2, hww, -List.map_take]
                simpa using hnx3'
              · have hnx3' := hnx3 (some y) ⟨by rw [hd']; simpa [minO, rankN, c2] using hb, hbm⟩
                simp [hi, hg, hx, hen, hin, c1, hy1, h4 v x hv hxn, h4 v y hv hyn, h5, e, c2, hww, -List.map_take]
                simpa using hnx3'
      · have hm' : m = L.length := by omega
        have : S.take m = S := by rw [List.take_of_length_le (by omega)]
        simp [this, hsl, -List.map_take]
    · intro i o x r next hi hx hd ho hww hnx
      rw [hd] at ho
      have hd' : (flL v.tree).drop (i + 1) = r := by rw [← List.drop_drop, hd]; rfl
      have hxn := fl_is ht (hx ▸ List.getElem_mem hi : x ∈ flL v.tree)
      have hle : o.length + 1 ≤ 400 := by
        have e1 : o.length ≤ (candL v n).length := by rw [← ho, List.length_append]; omega
        have := List.length_filter_le (candP v n) (flL v.tree)
        unfold candL at e1; omega
      have a1 := app8 (n := o.length + 1) (by omega)
      by_cases c1 : candP v n x = true
      · have hnx' := hnx (o ++ [x]) (by rw [hd', ← ho, List.filter_cons, if_pos c1]; simp)
        simp [hi, idx_I hi, hx, h3 v x n hv hc hxn, c1, a1, hww]
        simpa using hnx'
      · have hnx' := hnx o (by rw [hd', ← ho, List.filter_cons, if_neg c1])
        simp [hi, idx_I hi, hx, h3 v x n hv hc hxn, c1, hww]
        simpa using hnx'
  · simp [h1 v n hv ht hn, hw, itemsS]
end Go.Proofs.YtjcnilaogidhlaaGreat.K
end
