/- A part of the proof. -/
import Derived.Test.YtcdnmiaelaombaaGreatLmBD
set_option linter.unusedVariables false
set_option linter.unusedSimpArgs false
set_option linter.unnecessarySimpa false
set_option linter.all false
section
namespace Go.Lm
section
variable {F : Fence} {n : Nat} {P : Program} {Q : Exit → Act → World → Prop} {a : Act} {w : World}
theorem stepR_scope' {b : Frame} {a : Act} {k : List Item} {cs : List Frame} {w : World} {c : Code} : step P (lone (b.atR a (.code (.scope c) :: k)) cs w) = .next (lone (b.atR a (.code c :: .inScope c :: k)) cs w) :=
  step_lone_go (by simp [stepG, stepG.exec, Frame.atR])
theorem stepR_inScope' {b : Frame} {a : Act} {k : List Item} {cs : List Frame} {w : World} {c : Code} : step P (lone (b.atR a (.inScope c :: k)) cs w) = .next (lone (b.atR a k) cs w) :=
  step_lone_go (by simp [stepG, stepG.exec, Frame.atR])
/-- From within a loop, or a scope: on with 'x', then what hangs there. -/
def Within (F : Fence) (n : Nat) (P : Program) (x : Code) (it : Item) (Q : Exit → Act → World → Prop) (a : Act) (w : World) : Prop :=
  ∀ (b : Frame) (k : List Item) (cs : List Frame), b.roundOf = F.round → F.fn b.fn → F.room (cs.length + 1 + n) →
    ∃ e a' w', Q e a' w' ∧ ArrivesIn (Machine.fenced P F) P (lone (b.atR a (.code x :: it :: k)) cs w) b k cs e a' w'
theorem within_loop {c : Code} (h : c.wpIn F n P (Exit.then (Within F n P c (.inLoop c) Q) Q) a w) : Within F n P c (.inLoop c) Q a w := by
  intro b k cs hro hb hr
  obtain ⟨e, a₁, w₁, hq, harr⟩ := h b (.inLoop c :: k) cs hro hb hr
  cases e with
  | normal =>
    obtain ⟨e₂, a₂, w₂, hq₂, harr₂⟩ := hq b k cs hro hb hr
    exact ⟨e₂, a₂, w₂, hq₂, .of_steps (StepsIn.trans harr (.one (fenced_calm hb hr rfl) stepR_inLoop)) harr₂⟩
  | exit id => exact ⟨_, a₁, w₁, hq, .pass (x := .inLoop c) rfl (fun _ _ => .inl (by simp)) harr⟩
  | goto l => exact ⟨_, a₁, w₁, hq, .pass (x := .inLoop c) rfl (fun _ _ => .inl (by simp)) harr⟩
  | ret => exact ⟨_, a₁, w₁, hq, .pass (x := .inLoop c) rfl (fun _ _ => .inl (by simp)) harr⟩
  | panic ch => exact ⟨_, a₁, w₁, hq, .pass (x := .inLoop c) rfl (fun _ _ => .inl (by simp)) harr⟩
  | outgrown => exact ⟨_, a₁, w₁, hq, .pass (x := .inLoop c) rfl (fun _ _ => .inl (by simp)) harr⟩
theorem loop_within {c : Code} (h : Within F n P c (.inLoop c) Q a w) : (Code.loop c).wpIn F n P Q a w := by
  intro b k cs hro hb hr
  obtain ⟨e, a', w', hq, harr⟩ := h b k cs hro hb hr
  exact ⟨e, a', w', hq, .of_steps (.one (fenced_calm hb hr rfl) stepR_loop) harr⟩
def ScopePost (F : Fence) (n : Nat) (P : Program) (c : Code) (Q : Exit → Act → World → Prop) : Exit → Act → World → Prop
  | .goto l, a, w => (match findLabel c l with | some rest => Within F n P rest (.inScope c) Q a w | none => Q (.goto l) a w)
  | e, a, w => Q e a w
theorem within_scope {c x : Code} (h : x.wpIn F n P (ScopePost F n P c Q) a w) : Within F n P x (.inScope c) Q a w := by
  intro b k cs hro hb hr
  obtain ⟨e, a₁, w₁, hq, harr⟩ := h b (.inScope c :: k) cs hro hb hr
  cases e with
  | normal => exact ⟨.normal, a₁, w₁, hq, StepsIn.trans harr (.one (fenced_calm hb hr rfl) stepR_inScope')⟩
  | exit id =>
    have hx : exitTo id (.inScope c :: k) = exitTo id k := by simp [exitTo]
    exact ⟨.exit id, a₁, w₁, hq, fun k' hk => harr.1 k' (by rw [hx]; exact hk), fun hr' hk => harr.2 hr' (by rw [hx]; exact hk)⟩
  | goto l =>
    simp only [ScopePost] at hq
    cases hf : findLabel c l with
    | none =>
      rw [hf] at hq
      have hx : gotoIn l (.inScope c :: k) = gotoIn l k := by simp [gotoIn, hf]
      exact ⟨.goto l, a₁, w₁, hq, fun k' hk => harr.1 k' (by rw [hx]; exact hk), fun hr' hk => harr.2 hr' (by rw [hx]; exact hk)⟩
    | some rest =>
      rw [hf] at hq
      have hx : gotoIn l (.inScope c :: k) = some (.code rest :: .inScope c :: k) := by simp [gotoIn, hf]
      obtain ⟨e₂, a₂, w₂, hq₂, harr₂⟩ := hq b k cs hro hb hr
      exact ⟨e₂, a₂, w₂, hq₂, .of_steps (harr.1 _ hx) harr₂⟩
  | ret => exact ⟨_, a₁, w₁, hq, harr⟩
  | panic ch => exact ⟨_, a₁, w₁, hq, harr⟩
  | outgrown => exact ⟨_, a₁, w₁, hq, harr⟩
theorem scope_within {c : Code} (h : c.wpIn F n P (ScopePost F n P c Q) a w) : (Code.scope c).wpIn F n P Q a w := by
  intro b k cs hro hb hr
  obtain ⟨e, a', w', hq, harr⟩ := within_scope h b k cs hro hb hr
  exact ⟨e, a', w', hq, .of_steps (.one (fenced_calm hb hr rfl) stepR_scope') harr⟩
end
end Go.Lm
end
section
namespace Go.Lm
def exitOf : Ex' → Exit | .normal => .normal | .exit id => .exit id | .ret => .ret | .goto l => .goto l
/-- Code of this depth is walked as it is evaluated. -/
def CodeOk (P : Program) (H : Nat → FH) (T : Nat → List SVal → Option Res) (fuel : Nat) (h : FH) (d : Nat) : Prop :=
  ∀ (α : Type) (F : Fence) (n : Nat) (c : Ctx) (gen rf : Bool) (full : List SVal) (Kc : Ex' → St → Option α) (r r0 : α) (m : Nat) (code : Code) (st : St) (K : Kt) (G : Gt) (ov : List Value) (ds : List Nat) (a : Act) (w : World) (Q : Exit → Act → World → Prop) (D : Nat → Prop) (a0 : Act),
    FOk F → (rf = true → F.round = none) → c.P = P → c.H = H → (gen = true → Yields P c.l c.J c.Jx full c.O) → (gen = false → (∀ ov K O w, c.J ov K O w) ∧ (∀ ov K O w, c.Jx ov K O w)) →
    codeC P H T fuel c.nt h gen rf d m code st Kc = some r → (st.stop = false ∨ gen = false → r = r0) → (gen = true → ∀ x st', Kc x st' = some r0 → st'.stop = false → ∃ rest, full = st'.out ++ rest) → Sim c K G ov ds st a w → NF G st → (∀ t ∈ wrs code, D t) → Agree D a0 a →
    (∀ x st' r' K' G' ov' ds' a' w', Kc x st' = some r' → (st'.stop = false ∨ gen = false → r' = r0) → Sim c K' G' ov' ds' st' a' w' → NF G' st' → Agree D a0 a' → Q (exitOf x) a' w') → code.wpIn F n P Q a w
/-- The range over a function, left out for now. -/
def RangeOk (P : Program) (H : Nat → FH) (T : Nat → List SVal → Option Res) (fuel : Nat) (h : FH) (d : Nat) : Prop :=
  ∀ (α : Type) (F : Fence) (n : Nat) (c : Ctx) (gen rf : Bool) (full : List SVal) (Kc : Ex' → St → Option α) (r r0 : α) (m : Nat) (g : Operand) (ps : Array Tmp) (x y : Code) (st : St) (K : Kt) (G : Gt) (ov : List Value) (ds : List Nat) (a : Act) (w : World) (Q : Exit → Act → World → Prop) (D : Nat → Prop) (a0 : Act),
    FOk F → (rf = true → F.round = none) → c.P = P → c.H = H → (gen = true → Yields P c.l c.J c.Jx full c.O) → (gen = false → (∀ ov K O w, c.J ov K O w) ∧ (∀ ov K O w, c.Jx ov K O w)) →
    codeC P H T fuel c.nt h gen rf (d + 1) m (.rangeFunc g ps x y) st Kc = some r → (st.stop = false ∨ gen = false → r = r0) → Sim c K G ov ds st a w → NF G st → Agree D a0 a →
    (∀ x st' r' K' G' ov' ds' a' w', Kc x st' = some r' → (st'.stop = false ∨ gen = false → r' = r0) → Sim c K' G' ov' ds' st' a' w' → NF G' st' → Agree D a0 a' → Q (exitOf x) a' w') → (Code.rangeFunc g ps x y).wpIn F n P Q a w
theorem wrs_label : ∀ (b : Code) (l : Nat) (rest : Code), findLabel b l = some rest → ∀ t ∈ wrs rest, t ∈ wrs b := by
  intro b l
  induction b with
  | label m => intro rest h t ht; simp only [findLabel] at h; split at h <;> first | (cases h; simp [wrs] at ht) | cases h
  | seq x y ihx ihy =>
    intro rest h t ht
    simp only [findLabel] at h
    simp only [wrs, List.mem_append]
    split at h
    · rename_i r hr
      cases h
      simp only [wrs, List.mem_append] at ht
      exact ht.imp (ihx r hr t) (fun h => h)
    · exact .inr (ihy rest h t ht)
  | _ => intro rest h t ht; simp [findLabel] at h
section
variable {P : Program} {H : Nat → FH} {T : Nat → List SVal → Option Res} {fuel : Nat} {h : FH}
theorem cond_op {c : Ctx} {K : Kt} {G : Gt} {ov : List Value} {ds : List Nat} {st : St} {a : Act} {w : World} (hs : Sim c K G ov ds st a w) {x : Operand} {b : Bool} (hx : ev P st 0 x = .v (.bool b)) : a.eval x = .bool b ∧ Sim c K G ov ds (refine st x b) a w ∧ (refine st x b).nid = st.nid := by
  have h1 := ev_sound (P := P) hs 0 x
  rw [hx] at h1
  refine ⟨VR_bool (IR_v h1), ?_⟩
  cases x with
  | tmp t =>
    simp only [ev] at hx
    refine ⟨?_, rfl⟩
    simp only [refine]
    rw [← hx, put_self]; exact hs
  | _ => exact ⟨hs, rfl⟩
theorem keep_ls {c : Ctx} {K : Kt} {G : Gt} {ov : List Value} {ds : List Nat} {st : St} {a : Act} {w : World} {α : Type} (hs : Sim c K G ov ds st a w) {gen : Bool} (hgen : gen = false → (∀ ov K O w, c.J ov K O w) ∧ (∀ ov K O w, c.Jx ov K O w))
    {keep : List (Nat × Shape)} {k : LS → Option α} {r : α} (h : keepLS c.H gen st st.env keep k = some r) :
    ∃ (s : LS) (K' : Kt) (G' : Gt) (ov' : List Value), k s = some r ∧ Sim c K' G' ov' ds (s.st gen keep) a w ∧ NF G' (s.st gen keep) ∧ (gen = true → (s.st gen keep).stop = st.stop ∧ s.out = st.out ∧ s.stop = st.stop) := by
  obtain ⟨q, h1, h2⟩ := keepLS_spec h
  obtain ⟨K', G', ov', h3, h4⟩ := keep_sound hs hgen h1
  refine ⟨⟨q.1, if gen then st.out else [], if gen then st.stop else false⟩, K', G', ov', h2, ?_, ?_, ?_⟩
  · cases gen <;> exact h3
  · cases gen <;> exact h4
  · intro hg; subst hg; exact ⟨rfl, rfl, rfl⟩
end
end Go.Lm
end
section
namespace Go.Lm
section
variable {P : Program} {H : Nat → FH} {T : Nat → List SVal → Option Res} {fuel : Nat} {h : FH}
theorem code_ok (hT : ∀ f args r, T f args = some r → Good P H f args r) (hm : P.follows .mixedOrders = true) (hR : ∀ d, CodeOk P H T fuel h d → RangeOk P H T fuel h d) : ∀ d, CodeOk P H T fuel h d := by
  intro d
  induction d with
  | zero => intro α F n c gen rf full Kc r r0 m code st K G ov ds a w Q D a0 _ _ _ _ _ _ hc; simp [codeC] at hc
  | succ d ihd =>
    intro α F n c gen rf full Kc r r0 m code st K G ov ds a w Q D a0 hF hrf hcP hcH hy hgen hc hr hpre hs hnf hwr ha0 hpost
    subst hcP; subst hcH
    have ih : ∀ (Kc : Ex' → St → Option α) (r : α) (m : Nat) (code : Code) (st : St) (K : Kt) (G : Gt) (ov : List Value) (ds : List Nat) (a : Act) (w : World) (Q : Exit → Act → World → Prop), codeC c.P c.H T fuel c.nt h gen rf d m code st Kc = some r → (st.stop = false ∨ gen = false → r = r0) →
        (gen = true → ∀ x st', Kc x st' = some r0 → st'.stop = false → ∃ rest, full = st'.out ++ rest) → Sim c K G ov ds st a w → NF G st → (∀ t ∈ wrs code, D t) → Agree D a0 a →
        (∀ x st' r' K' G' ov' ds' a' w', Kc x st' = some r' → (st'.stop = false ∨ gen = false → r' = r0) → Sim c K' G' ov' ds' st' a' w' → NF G' st' → Agree D a0 a' → Q (exitOf x) a' w') → code.wpIn F n c.P Q a w :=
      fun Kc r m code st K G ov ds a w Q => ihd α F n c gen rf full Kc r r0 m code st K G ov ds a w Q D a0 hF hrf rfl rfl hy hgen
    have pre : ∀ {m : Nat} {code : Code} {Kc : Ex' → St → Option α}, (gen = true → ∀ x st', Kc x st' = some r0 → st'.stop = false → ∃ rest, full = st'.out ++ rest) → gen = true → ∀ st, codeC c.P c.H T fuel c.nt h gen rf d m code st Kc = some r0 → st.stop = false → ∃ rest, full = st.out ++ rest := by
      intro m code Kc hK hg st hc hst
      subst hg
      exact codeC_pre d m code st Kc (hK rfl) hc hst
    cases code with
    | skip => simp only [codeC] at hc; exact wpIn_skip (hpost _ _ _ _ _ _ _ _ _ hc hr hs hnf ha0)
    | label l => simp only [codeC] at hc; exact wpIn_label (hpost _ _ _ _ _ _ _ _ _ hc hr hs hnf ha0)
    | ret => simp only [codeC] at hc; exact wpIn_ret (hpost _ _ _ _ _ _ _ _ _ hc hr hs hnf ha0)
    | exit id => simp only [codeC] at hc; exact wpIn_exit (hpost _ _ _ _ _ _ _ _ _ hc hr hs hnf ha0)
    | goto l => simp only [codeC] at hc; exact wpIn_goto (hpost _ _ _ _ _ _ _ _ _ hc hr hs hnf ha0)
    | region id ops draw =>
      simp only [codeC] at hc
      obtain ⟨Kf, hsc⟩ : ∃ K', Sim c K' G ov ds (coolS h id st) a w := by
        unfold coolS
        split
        · have := hs.freeze _ (closed_all hs hnf)
          rw [← frz_all hs hnf] at this
          exact ⟨_, this⟩
        · exact ⟨_, hs⟩
      have hnfc : NF G (coolS h id st) := hnf
      exact regionC_wp hF hT hm hsc hnfc hy hc hr (fun hg st' h' hst => hpre hg _ st' h' hst) (fun i o ho t ht => hwr t (by simp only [wrs, List.mem_filterMap]; exact ⟨o, List.mem_of_getElem? (by simpa using ho), ht⟩)) ha0 fun st' r' ov' K' G' a' w' h1 h2 h3 h4 h5 => hpost .normal st' r' K' G' ov' ds a' w' h1 h2 h3 h4 h5
    | seq x y =>
      simp only [codeC] at hc
      simp only [wrs, List.mem_append] at hwr
      refine wpIn_seq (ih _ r _ x st K G ov ds a w _ hc hr ?_ hs hnf (fun t ht => hwr t (.inl ht)) ha0 ?_)
      · intro hg e st' h' hst
        split at h'
        · exact pre hpre hg st' h' hst
        · exact hpre hg _ st' h' hst
      · intro e st' r' K' G' ov' ds' a' w' h1 h2 h3 h4 h5
        split at h1
        · exact ih _ r' _ y st' K' G' ov' ds' a' w' Q h1 h2 hpre h3 h4 (fun t ht => hwr t (.inr ht)) h5 hpost
        · rename_i hne
          have := hpost e st' r' K' G' ov' ds' a' w' h1 h2 h3 h4 h5
          cases e with
          | normal => exact absurd rfl hne
          | exit id => exact this
          | ret => exact this
          | goto l => exact this
    | cond x p q =>
      simp only [codeC] at hc
      split at hc
      · rename_i v hx
        obtain ⟨t, rfl, hc⟩ := pickC_cps hc
        obtain ⟨h1, h2, h3⟩ := cond_op hs hx
        have hst := refine_out st x t
        simp only [wrs, List.mem_append] at hwr
        refine wpIn_cond h1 ?_
        cases t with
        | true =>
          simp only [if_true] at hc ⊢
          exact ih _ r _ p _ K G ov ds a w Q hc (by rw [hst.2]; exact hr) hpre h2 (fun j hj => by rw [h3]; exact hnf j hj) (fun t ht => hwr t (.inl ht)) ha0 hpost
        | false =>
          simp only [Bool.false_eq_true, if_false] at hc ⊢
          exact ih _ r _ q _ K G ov ds a w Q hc (by rw [hst.2]; exact hr) hpre h2 (fun j hj => by rw [h3]; exact hnf j hj) (fun t ht => hwr t (.inr ht)) ha0 hpost
      · cases hc
    | block id x =>
      simp only [codeC] at hc
      refine wpIn_block (ih _ r _ x st K G ov ds a w _ hc hr ?_ hs hnf hwr ha0 ?_)
      · intro hg e st' h' hst
        split at h'
        · split at h' <;> exact hpre hg _ st' h' hst
        · exact hpre hg _ st' h' hst
      · intro e st' r' K' G' ov' ds' a' w' h1 h2 h3 h4 h5
        split at h1
        · rename_i i
          simp only [exitOf, Exit.inBlock]
          split at h1
          · rename_i hi
            rw [if_pos hi]
            exact hpost .normal st' r' K' G' ov' ds' a' w' h1 h2 h3 h4 h5
          · rename_i hi
            rw [if_neg hi]
            exact hpost (.exit i) st' r' K' G' ov' ds' a' w' h1 h2 h3 h4 h5
        · rename_i hne
          have := hpost e st' r' K' G' ov' ds' a' w' h1 h2 h3 h4 h5
          cases e with
          | exit i => exact absurd rfl (hne i)
          | normal => exact this
          | ret => exact this
          | goto l => exact this
    | loop x =>
      simp only [codeC] at hc
      obtain ⟨s, K', G', ov', h1, h2, h3, h4⟩ := keep_ls hs hgen hc
      refine loop_within ?_
      have key : ∀ (k : Nat) (s : LS) (r : α) (K : Kt) (G : Gt) (ov : List Value) (ds : List Nat) (a : Act) (w : World), loopN (fun s next => codeC c.P c.H T fuel c.nt h gen rf d (m + 1) x (s.st gen (h.keep.getD m [])) fun e st' => match e with
          | .normal => keepLS c.H gen st' st'.env (h.keep.getD m []) next
          | e => Kc e st') k s = some r → ((s.st gen (h.keep.getD m [])).stop = false ∨ gen = false → r = r0) → Sim c K G ov ds (s.st gen (h.keep.getD m [])) a w → NF G (s.st gen (h.keep.getD m [])) → Agree D a0 a → Within F n c.P x (.inLoop x) Q a w := by
        have prek : gen = true → ∀ (k : Nat) (s : LS), loopN (fun s next => codeC c.P c.H T fuel c.nt h gen rf d (m + 1) x (s.st gen (h.keep.getD m [])) fun e st' => match e with
          | .normal => keepLS c.H gen st' st'.env (h.keep.getD m []) next
          | e => Kc e st') k s = some r0 → s.stop = false → ∃ rest, full = s.out ++ rest := by
          intro hg k
          subst hg
          induction k with
          | zero => intro s hc; simp [loopN] at hc
          | succ k ihk =>
            intro s hc hst
            simp only [loopN] at hc
            refine codeC_pre d _ _ _ _ (fun e st' h' hst' => ?_) hc hst
            split at h'
            · obtain ⟨q', _, h'⟩ := keepLS_spec h'
              exact ihk _ h' hst'
            · exact hpre rfl _ _ h' hst'
        intro k
        induction k with
        | zero => intro s r K G ov ds a w hc; simp [loopN] at hc
        | succ k ihk =>
          intro s r K G ov ds a w hc hr hs hnf ha0
          simp only [loopN] at hc
          refine within_loop (ih _ r _ x _ K G ov ds a w _ hc hr ?_ hs hnf hwr ha0 ?_)
          · intro hg e st' h' hst
            split at h'
            · obtain ⟨q', _, h'⟩ := keepLS_spec h'
              subst hg
              exact prek rfl k _ h' hst
            · exact hpre hg _ st' h' hst
          · intro e st' r' K' G' ov' ds' a' w' h1 h2 h3 h4 h5
            split at h1
            · obtain ⟨s', K2, G2, ov2, k1, k2, k3, k4⟩ := keep_ls h3 hgen h1
              refine ihk s' r' K2 G2 ov2 ds' a' w' k1 (fun hh => h2 ?_) k2 k3 h5
              cases gen with
              | false => exact .inr rfl
              | true => rw [(k4 rfl).1] at hh; exact hh
            · rename_i hne
              have := hpost e st' r' K' G' ov' ds' a' w' h1 h2 h3 h4 h5
              cases e with
              | normal => exact absurd rfl hne
              | exit id => exact this
              | ret => exact this
              | goto l => exact this
      refine key fuel s r K' G' ov' ds a w h1 (fun hh => hr ?_) h2 h3 ha0
      cases gen with
      | false => exact .inr rfl
      | true => rw [(h4 rfl).1] at hh; exact hh
    | scope x =>
      simp only [codeC] at hc
      have prek : gen = true → ∀ (l : Nat) (rest : Code) (k : Nat) (s : LS), loopN (fun s next => codeC c.P c.H T fuel c.nt h gen rf d (m + 1) rest (s.st gen (h.keep.getD m [])) fun e st' => match e with
          | .goto l' => if l' = l then keepLS c.H gen st' st'.env (h.keep.getD m []) next else none
          | e => Kc e st') k s = some r0 → s.stop = false → ∃ rest, full = s.out ++ rest := by
        intro hg l rest k
        subst hg
        induction k with
        | zero => intro s hc; simp [loopN] at hc
        | succ k ihk =>
          intro s hc hst
          simp only [loopN] at hc
          refine codeC_pre d _ _ _ _ (fun e st' h' hst' => ?_) hc hst
          split at h'
          · split at h'
            · obtain ⟨q', _, h'⟩ := keepLS_spec h'
              exact ihk _ h' hst'
            · cases h'
          · exact hpre rfl _ _ h' hst'
      have key : ∀ (l : Nat) (rest : Code), findLabel x l = some rest → ∀ (k : Nat) (s : LS) (r : α) (K : Kt) (G : Gt) (ov : List Value) (ds : List Nat) (a : Act) (w : World), loopN (fun s next => codeC c.P c.H T fuel c.nt h gen rf d (m + 1) rest (s.st gen (h.keep.getD m [])) fun e st' => match e with
          | .goto l' => if l' = l then keepLS c.H gen st' st'.env (h.keep.getD m []) next else none
          | e => Kc e st') k s = some r → ((s.st gen (h.keep.getD m [])).stop = false ∨ gen = false → r = r0) → Sim c K G ov ds (s.st gen (h.keep.getD m [])) a w → NF G (s.st gen (h.keep.getD m [])) → Agree D a0 a → Within F n c.P rest (.inScope x) Q a w := by
        intro l rest hfl k
        induction k with
        | zero => intro s r K G ov ds a w hc; simp [loopN] at hc
        | succ k ihk =>
          intro s r K G ov ds a w hc hr hs hnf ha0
          simp only [loopN] at hc
          refine within_scope (ih _ r _ rest _ K G ov ds a w _ hc hr ?_ hs hnf (fun t ht => hwr t (wrs_label x l rest hfl t ht)) ha0 ?_)
          · intro hg e st' h' hst
            split at h'
            · split at h'
              · obtain ⟨q', _, h'⟩ := keepLS_spec h'
                subst hg
                exact prek rfl l rest k _ h' hst
              · cases h'
            · exact hpre hg _ st' h' hst
          · intro e st' r' K' G' ov' ds' a' w' h1 h2 h3 h4 h5
            split at h1
            · rename_i l'
              split at h1
              · rename_i hl
                subst hl
                obtain ⟨s', K2, G2, ov2, k1, k2, k3, k4⟩ := keep_ls h3 hgen h1
                simp only [exitOf, ScopePost, hfl]
                refine ihk s' r' K2 G2 ov2 ds' a' w' k1 (fun hh => h2 ?_) k2 k3 h5
                cases gen with
                | false => exact .inr rfl
                | true => rw [(k4 rfl).1] at hh; exact hh
              · cases h1
            · rename_i hne
              have := hpost e st' r' K' G' ov' ds' a' w' h1 h2 h3 h4 h5
              cases e with
              | goto l => exact absurd rfl (hne l)
              | normal => exact this
              | exit id => exact this
              | ret => exact this
      refine scope_within (ih _ r _ x st K G ov ds a w _ hc hr ?_ hs hnf hwr ha0 ?_)
      · intro hg e st' h' hst
        split at h'
        · split at h'
          · obtain ⟨q', _, h'⟩ := keepLS_spec h'
            subst hg
            exact prek rfl _ _ fuel _ h' hst
          · exact hpre hg _ st' h' hst
        · exact hpre hg _ st' h' hst
      · intro e st' r' K' G' ov' ds' a' w' h1 h2 h3 h4 h5
        split at h1
        · rename_i l
          split at h1
          · rename_i rest hfl
            obtain ⟨s', K2, G2, ov2, k1, k2, k3, k4⟩ := keep_ls h3 hgen h1
            simp only [exitOf, ScopePost, hfl]
            refine key l rest hfl fuel s' r' K2 G2 ov2 ds' a' w' k1 (fun hh => h2 ?_) k2 k3 h5
            cases gen with
            | false => exact .inr rfl
            | true => rw [(k4 rfl).1] at hh; exact hh
          · rename_i hfl
            simp only [exitOf, ScopePost, hfl]
            exact hpost (.goto l) st' r' K' G' ov' ds' a' w' h1 h2 h3 h4 h5
        · rename_i hne
          have := hpost e st' r' K' G' ov' ds' a' w' h1 h2 h3 h4 h5
          cases e with
          | goto l => exact absurd rfl (hne l)
          | normal => exact this
          | exit id => exact this
          | ret => exact this
    | rangeFunc g ps x y => exact hR d ihd α F n c gen rf full Kc r r0 m g ps x y st K G ov ds a w Q D a0 hF hrf rfl rfl hy hgen hc hr hs hnf ha0 hpost
    | refuse msg => simp [codeC] at hc
end
end Go.Lm
end
