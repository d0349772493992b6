/- A part of the proof. -/
import Derived.Test.YtcdnmiaelaombaaGreatLmBE
set_option linter.unusedVariables false
set_option linter.unusedSimpArgs false
set_option linter.unnecessarySimpa false
set_option linter.all false
section
namespace Go.Lm
section
variable {P : Program} {c : Ctx} {K : Kt} {G : Gt} {ov : List Value} {ds : List Nat} {st : St} {a : Act} {w : World}
theorem impArgs_ge : ∀ (ss : List Shape) (xs : List SVal) (t n : Nat), n ≤ (impArgs ss xs t n).2.2
  | _, [], _, _ => Nat.le_refl _
  | ss, x :: xs, t, n => by
    simp only [impArgs]
    exact Nat.le_trans (imp_ge _ x n) (impArgs_ge _ _ _ _)
theorem impArgs_sound : ∀ (ss : List Shape) (xs : List SVal) (vals : List Value) (bss : List (List Nat)) (t n : Nat) (st : St) (G : Gt), Sim c.triv K G ov ds st a w → XL c.H K c.l w ss xs vals bss → (∀ j, a.tmps.getD (t + j) Go.undef = vals.getD j Go.undef) →
    (∀ i, n ≤ i → G i = none) → Free c K G st.loc ds w bss.flatten →
    ∃ G', Took c K G ov ds st a w n (impArgs ss xs t n).2.2 bss.flatten (impArgs ss xs t n).2.1 G' ∧ ∀ u, t ≤ u → IR K c.l (updL st.loc (impArgs ss xs t n).2.1) G' ((impArgs ss xs t n).1 u) (a.tmps.getD u Go.undef)
  | [], [], [], [], t, n, st, G, hs, _, ht, _, _ => by
    refine ⟨G, by simpa only [impArgs, List.flatten_nil] using Took.nil hs n [], fun u hu => ?_⟩
    have := ht (u - t)
    rw [show t + (u - t) = u by omega] at this
    rw [this]
    simp [impArgs, IR, VR]
  | s :: ss, x :: xs, v :: vals, b :: bss, t, n, st, G, hs, hx, ht, hfr, hf => by
    simp only [impArgs, List.headD_cons, List.tail_cons]
    rw [List.flatten_cons] at hf ⊢
    obtain ⟨G1, h1, h2⟩ := imp_sound s x v b n st G hs hx.1 (fun i a _ => hfr i a) hf.left
    have g1 := imp_ge s x n
    obtain ⟨G2, h3, h4⟩ := impArgs_sound ss xs vals bss (t + 1) (imp s x n).2.2 { st with loc := updL st.loc (imp s x n).2.1 } G1 h1.sim hx.2 (fun j => by
      have := ht (j + 1)
      rw [show t + (j + 1) = t + 1 + j by omega] at this
      simpa using this) (fun i hi => by
      cases hg : G1 i with
      | none => rfl
      | some g =>
        rcases h1.fresh i (by rw [hg]; simp) with h | ⟨_, h⟩
        · exact absurd (hfr i (by omega)) h
        · omega) (hf.right h1)
    refine ⟨G2, h1.trans g1 (impArgs_ge _ _ _ _) h3, fun u hu => ?_⟩
    rw [updL_append]
    by_cases hut : u = t
    · subst hut
      rw [upd_same]
      have := ht 0
      simp only [Nat.add_zero, List.getD_cons_zero] at this
      rw [this]
      exact h2.mono (Kt.le.refl _) h3.ext
    · rw [upd_other _ _ hut]
      exact h4 u (by omega)
  | [], _ :: _, _, _, _, _, _, _, _, h, _, _, _ => by simp [XL] at h
  | [], [], _ :: _, _, _, _, _, _, _, h, _, _, _ => by simp [XL] at h
  | [], [], [], _ :: _, _, _, _, _, _, h, _, _, _ => by simp [XL] at h
  | _ :: _, [], _, _, _, _, _, _, _, h, _, _, _ => by simp [XL] at h
  | _ :: _, _ :: _, [], _, _, _, _, _, _, h, _, _, _ => by simp [XL] at h
  | _ :: _, _ :: _, _ :: _, [], _, _, _, _, _, h, _, _, _ => by simp [XL] at h
end
end Go.Lm
end
section
namespace Go.Lm
section
variable {P : Program} {c : Ctx} {K : Kt} {G : Gt} {ov : List Value} {ds : List Nat} {st : St} {a : Act} {w : World}
def resM (tmps : Array Value) : ResultVar → Sem Value
  | .tmp t => pure (tmps.getD t Go.undef)
  | .cell p t => do loadVar t (← asAddr (tmps.getD p Go.undef))
theorem resI_sound (hs : Sim c K G ov ds st a w) {rv : ResultVar} {iv : IVal} (h : resI P st rv = some iv) : ∃ v, IR K c.l st.loc G iv v ∧ (resM a.tmps rv).run P w = .ok v w := by
  cases rv with
  | tmp t => simp only [resI] at h; cases h; exact ⟨_, hs.slots t, rfl⟩
  | cell p ty =>
    simp only [resI] at h
    split at h
    · rename_i i ver idx off hp
      have h1 := hs.slots p
      rw [hp] at h1
      have fin : ∀ {cs : List IVal}, ((st.loc i = .box cs ∧ ver = 0 ∧ idx = 0) ∨ (∃ ys, st.loc i = .frzb ys ∧ ver = 0 ∧ idx = 0 ∧ cs = ys.map .v)) → ofCells P ty (cs.drop off) = some iv → ∃ v, IR K c.l st.loc G iv v ∧ (resM a.tmps (.cell p ty)).run P w = .ok v w := by
        intro cs hc ho
        obtain ⟨b, o, vals, hv, hvals, hcell⟩ := lp_cells hs h1 (cs := cs) (hc.elim .inl fun h => .inr (.inl h))
        obtain ⟨v, k1, k2⟩ := load_run (w := w) (b := b) (o := o + off) (hvals.drop off) (fun j u hj => by
          rw [List.getElem?_drop] at hj
          have := hcell _ u hj
          rwa [show o + off + j = o + (off + j) by omega]) ho
        refine ⟨v, k1, ?_⟩
        have : (resM a.tmps (.cell p ty)).run P w = (Instr.loadAt ty (.pointer (some ⟨b, o + off, none⟩))).run P w := by
          simp only [resM, hv, asAddr, Instr.loadAt, Instr.sureAddr, Sem.run_bind, Sem.run_pure, Result.andThen_ok]
        rw [this]; exact k2
      split at h
      · rename_i cs hl
        split at h
        · rename_i hc
          exact fin (.inl ⟨hl, hc.1, hc.2⟩) h
        · cases h
      · rename_i cs hl
        split at h
        · rename_i hc
          rw [SVal_map_v] at h
          exact fin (.inr ⟨cs, hl, hc.1, hc.2, rfl⟩) h
        · cases h
      · cases h
    · cases h
theorem resM_list (hs : Sim c K G ov ds st a w) : ∀ {rvs : List ResultVar} {rs : List IVal}, mapO (resI P st) rvs = some rs → ∃ vals, IRs K c.l st.loc G rs vals ∧ (rvs.mapM (resM a.tmps)).run P w = .ok vals w
  | [], rs, h => by simp [mapO] at h; subst h; exact ⟨[], by simp [IRs], by simp⟩
  | rv :: rvs, rs, h => by
    simp only [mapO, Option.bind_eq_some_iff] at h
    obtain ⟨iv, h1, ivs, h2, h3⟩ := h
    cases h3
    obtain ⟨v, k1, k2⟩ := resI_sound hs h1
    obtain ⟨vals, k3, k4⟩ := resM_list hs h2
    refine ⟨v :: vals, by simp only [IRs]; exact ⟨v, vals, rfl, k1, k3⟩, ?_⟩
    simp [List.mapM_cons, k2, k4]
/-- What a function hands back. -/
theorem results_sound (hs : Sim c K G ov ds st a w) {fn : Func} {rs : List IVal} (h : mapO (resI P st) fn.results.toList = some rs) :
    ∃ v, IR K c.l st.loc G (match rs with | [r] => r | rs => .tup rs) v ∧ (results fn a.tmps).run P w = .ok v w := by
  obtain ⟨vals, h1, h2⟩ := resM_list hs h
  have hlen := h1.length
  have hrun : (results fn a.tmps).run P w = .ok (if h : vals.toArray.size = 1 then vals.toArray[0] else .tuple vals.toArray) w := by
    have e : results fn a.tmps = (do let vs ← fn.results.mapM (resM a.tmps); pure (if h : vs.size = 1 then vs[0] else .tuple vs)) := by
      unfold results
      have : (resM a.tmps) = fun rv => (match rv with
        | .tmp t => pure (a.tmps.getD t Go.undef)
        | .cell p t => do loadVar t (← asAddr (a.tmps.getD p Go.undef)) : Sem Value) := by funext rv; cases rv <;> rfl
      rw [this]; rfl
    rw [e, Array.mapM_eq_mapM_toList]
    simp [h2]
  refine ⟨_, ?_, hrun⟩
  split
  · rename_i r
    obtain ⟨v, rfl, hv⟩ := h1.one
    simpa using hv
  · rename_i hne
    have : ¬ vals.toArray.size = 1 := fun h => by
      simp at h
      match rs, vals, h1, hne, h with
      | [r], _, _, hne, _ => exact hne r rfl
      | [], [_], h1, _, _ => simp [IRs] at h1
      | _ :: _ :: _, [_], h1, _, _ => have := h1.length; simp at this
    rw [dif_neg this]
    simp only [IR]
    exact ⟨vals, rfl, h1⟩
end
end Go.Lm
end
