/- A part of the proof. -/
import Derived.Test.YtcdnmiaelaombaaGreatLmAZ
import Derived.Laws.StructEq
set_option linter.unusedVariables false
set_option linter.unusedSimpArgs false
set_option linter.unnecessarySimpa false
set_option linter.all false
section
namespace Go.Lm
/-! ### What is frozen -/
theorem updL_append (f : Nat → Obj) : ∀ (l m : List (Nat × Obj)), updL f (l ++ m) = updL (updL f l) m
  | [], m => rfl
  | (i, o) :: l, m => by simp only [List.cons_append, updL]; exact updL_append _ l m
theorem updL_mem (f : Nat → Obj) (F : Nat → Obj) : ∀ (l : List Nat) (g : Nat → Obj), (∀ j, g j = f j ∨ g j = F j) → ∀ j, updL g (l.map fun i => (i, F i)) j = if j ∈ l then F j else g j
  | [], g, _, j => by simp [updL]
  | i :: l, g, hg, j => by
    simp only [List.map_cons, updL]
    rw [updL_mem f F l (upd g i (F i)) (fun j => by
      by_cases h : j = i
      · subst h; exact .inr (upd_same _ _ _)
      · rw [upd_other _ _ h]; exact hg j) j]
    by_cases h1 : j ∈ l
    · simp [h1]
    · by_cases h2 : j = i
      · subst h2; simp [upd_same]
      · simp [h1, h2, upd_other _ _ h2]
theorem updL_frzL (loc : Nat → Obj) (ids : List Nat) : updL loc (frzL loc ids) = frzS loc ids := by
  funext j
  have h := updL_mem loc (frzO loc) (ids.filter fun i => (loc i).live) loc (fun _ => .inl rfl) j
  rw [show frzL loc ids = (ids.filter fun i => (loc i).live).map fun i => (i, frzO loc i) from rfl, h]
  unfold frzS
  by_cases hj : j ∈ ids
  · rw [if_pos hj]
    by_cases hl : (loc j).live = true
    · have hm : j ∈ ids.filter fun i => (loc i).live := List.mem_filter.2 ⟨hj, hl⟩
      rw [if_pos hm]
    · have hm : ¬ j ∈ ids.filter fun i => (loc i).live := fun hm => hl (List.mem_filter.1 hm).2
      rw [if_neg hm]
      unfold frzO
      cases ho : loc j <;> simp_all [Obj.live]
  · have hm : ¬ j ∈ ids.filter fun i => (loc i).live := fun hm => hj (List.mem_filter.1 hm).1
    rw [if_neg hj, if_neg hm]
theorem exps_closed {loc : Nat → Obj} : ∀ (k : Nat), k ≤ 6 → ∀ (iv : IVal) (x : SVal) (ids : List Nat), exps loc k iv = some (x, ids) → Closed loc ids
  | 0, _, _, _, _, h => by simp [exps] at h
  | k + 1, _, .v y, x, ids, h => by
    simp only [exps, Option.some.injEq, Prod.mk.injEq] at h
    obtain ⟨_, rfl⟩ := h
    intro i hi; simp at hi
  | k + 1, _, .unk, _, _, h => by simp [exps] at h
  | k + 1, _, .it _, _, _, h => by simp [exps] at h
  | k + 1, _, .yld, _, _, h => by simp [exps] at h
  | k + 1, _, .tup _, _, _, h => by simp [exps] at h
  | k + 1, _, .la i ver, x, ids, h => by
    simp only [exps] at h
    split at h
    · rename_i hl
      split at h
      · simp only [Option.some.injEq, Prod.mk.injEq] at h
        obtain ⟨_, rfl⟩ := h
        intro i' hi' cs hcs
        simp at hi'; subst hi'
        rw [hl] at hcs; cases hcs
      · cases h
    · rename_i hl
      split at h
      · simp only [Option.some.injEq, Prod.mk.injEq] at h
        obtain ⟨_, rfl⟩ := h
        intro i' hi' cs hcs
        simp at hi'; subst hi'
        rw [hl] at hcs; cases hcs
      · cases h
    · cases h
  | k + 1, _, .lt i ver lo, x, ids, h => by
    simp only [exps] at h
    split at h
    · rename_i hl
      split at h
      · simp only [Option.some.injEq, Prod.mk.injEq] at h
        obtain ⟨_, rfl⟩ := h
        intro i' hi' cs hcs
        simp at hi'; subst hi'
        rw [hl] at hcs; cases hcs
      · cases h
    · rename_i hl
      split at h
      · simp only [Option.some.injEq, Prod.mk.injEq] at h
        obtain ⟨_, rfl⟩ := h
        intro i' hi' cs hcs
        simp at hi'; subst hi'
        rw [hl] at hcs; cases hcs
      · cases h
    · cases h
  | k + 1, hk, .lp i ver idx off, x, ids, h => by
    simp only [exps] at h
    split at h
    · split at h
      · rename_i cs hl
        simp only [Option.bind_eq_some_iff, Option.some.injEq, Prod.mk.injEq] at h
        obtain ⟨r, h1, _, rfl⟩ := h
        intro i' hi' cs' hcs r' hr' q hq j hj
        simp only [List.mem_cons, List.mem_flatMap] at hi' ⊢
        rcases hi' with rfl | ⟨q', hq', hi'⟩
        · rw [hl] at hcs; cases hcs
          have h2 := mapO_mono (g := exps loc 6) (fun z _ y hy => exps_le (show k ≤ 6 by omega) hy) h1
          rw [hr'] at h2; cases h2
          exact .inr ⟨q, hq, hj⟩
        · obtain ⟨m, hm⟩ := List.mem_iff_getElem?.1 hq'
          obtain ⟨z, hz, hf⟩ := mapO_get' h1 hm
          have := exps_closed k (by omega) z q'.1 q'.2 hf i' hi' cs' hcs r' hr' q hq j hj
          exact .inr ⟨q', hq', this⟩
      · rename_i hl
        simp only [Option.some.injEq, Prod.mk.injEq] at h
        obtain ⟨_, rfl⟩ := h
        intro i' hi' cs hcs
        simp at hi'; subst hi'
        rw [hl] at hcs; cases hcs
      · cases h
    · cases h
  | k + 1, hk, .agg cs, x, ids, h => by
    simp only [exps, Option.bind_eq_some_iff, Option.some.injEq, Prod.mk.injEq] at h
    obtain ⟨r, h1, _, rfl⟩ := h
    intro i' hi' cs' hcs r' hr' q hq j hj
    simp only [List.mem_flatMap] at hi' ⊢
    obtain ⟨q', hq', hi'⟩ := hi'
    obtain ⟨m, hm⟩ := List.mem_iff_getElem?.1 hq'
    obtain ⟨z, hz, hf⟩ := mapO_get' h1 hm
    exact ⟨q', hq', exps_closed k (by omega) z q'.1 q'.2 hf i' hi' cs' hcs r' hr' q hq j hj⟩
  | k + 1, hk, .clo f cs, x, ids, h => by
    simp only [exps, Option.bind_eq_some_iff, Option.some.injEq, Prod.mk.injEq] at h
    obtain ⟨r, h1, _, rfl⟩ := h
    intro i' hi' cs' hcs r' hr' q hq j hj
    simp only [List.mem_flatMap] at hi' ⊢
    obtain ⟨q', hq', hi'⟩ := hi'
    obtain ⟨m, hm⟩ := List.mem_iff_getElem?.1 hq'
    obtain ⟨z, hz, hf⟩ := mapO_get' h1 hm
    exact ⟨q', hq', exps_closed k (by omega) z q'.1 q'.2 hf i' hi' cs' hcs r' hr' q hq j hj⟩
theorem Closed.union {loc : Nat → Obj} {l m : List Nat} (h : Closed loc l) (h' : Closed loc m) : Closed loc (l ++ m) := by
  intro i hi cs hcs r hr q hq j hj
  rcases List.mem_append.1 hi with hi | hi
  · exact List.mem_append.2 (.inl (h i hi cs hcs r hr q hq j hj))
  · exact List.mem_append.2 (.inr (h' i hi cs hcs r hr q hq j hj))
theorem Closed.flat {loc : Nat → Obj} {α : Type} {f : α → List Nat} : ∀ {l : List α}, (∀ x ∈ l, Closed loc (f x)) → Closed loc (l.flatMap f)
  | [], _ => by intro i hi; simp at hi
  | x :: l, h => by
    rw [List.flatMap_cons]
    exact (h x (by simp)).union (Closed.flat fun y hy => h y (by simp [hy]))
section
variable {P : Program} {c : Ctx} {K : Kt} {G : Gt} {ov : List Value} {ds : List Nat} {st : St} {a : Act} {w : World}
/-- Some values are told purely: what they lead to is frozen. -/
theorem exps_list (hs : Sim c K G ov ds st a w) {ivs : List IVal} {r : List (SVal × List Nat)} (h : mapO (exps st.loc 6) ivs = some r) {vs : List Value} (hv : IRs K c.l st.loc G ivs vs) :
    Closed st.loc (r.flatMap (·.2)) ∧ VRs (frzK K G st.loc (r.flatMap (·.2)) w) c.l (r.map (·.1)) vs := by
  refine ⟨Closed.flat fun q hq => ?_, VRs.of_get (by simp [hv.length, mapO_len h]) fun j x v hx hvj => ?_⟩
  · obtain ⟨m, hm⟩ := List.mem_iff_getElem?.1 hq
    obtain ⟨z, _, hf⟩ := mapO_get' h hm
    exact exps_closed 6 (Nat.le_refl _) z q.1 q.2 hf
  · simp only [List.getElem?_map, Option.map_eq_some_iff] at hx
    obtain ⟨q, hq, rfl⟩ := hx
    obtain ⟨z, hz, hf⟩ := mapO_get' h hq
    obtain ⟨v', hv', hir⟩ := hv.get hz
    rw [hvj] at hv'; cases hv'
    exact exps_sound (hs.frzK_le _) hs.objs 6 z q.1 q.2 v hf hir fun i hi => frzK_has i (List.mem_flatMap.2 ⟨q, List.mem_of_getElem? hq, hi⟩)
/-- An operation that freezes first. -/
theorem OpOk.frozen (hs : Sim c K G ov ds st a w) {o : Oper} (hd : dstOk c.nt o.dst = true) {id : Nat} {ids : List Nat} (hcl : Closed st.loc ids) {x : SVal} {rd : List Nat} {v : Value} {w' : World} (K' : Kt)
    (hsame : SameW w w') (hkeep : ∀ b, b < w.heap.size → w'.heap[b]? = w.heap[b]?) (hle : (frzK K G st.loc ids w).le K')
    (hnew : ∀ b o v, K' b o = some v → frzK K G st.loc ids w b o = some v ∨ (w.heap.size ≤ b ∧ Kat w' b o v))
    (hv : VR K' c.l x v) (hrun : (execOp a.eval o).run P w = .ok (.value v) w') : OpOk P c ov ds st G id o { val := .v x, wr := frzL st.loc ids, rd := rd } a w := by
  have hf := hs.freeze ids hcl
  have h1 := hf.growK K' w' hsame (fun b hb => vw_of (hkeep b hb)) (fun b o v hv => (hnew b o v hv).elim (fun h => (hf.kok b o v h).of_heap (hkeep b (hf.kok b o v h).lt)) And.right) hle fun b o v hv => (hnew b o v hv).imp (fun h => h) And.left
  have h2 := h1.put o.dst (.v x) v hd (v_IR hv)
  refine ⟨v, w', K', G, .inl hrun, ?_, fun i h => .inl h⟩
  have : st.apply o.dst { val := .v x, wr := frzL st.loc ids, rd := rd } = { st with loc := frzS st.loc ids }.put o.dst (.v x) := by
    cases o.dst <;> simp [St.apply, St.put, updL_frzL]
  rw [this]; exact h2
theorem OpOk.frozen0 (hs : Sim c K G ov ds st a w) {o : Oper} (hd : dstOk c.nt o.dst = true) {id : Nat} {ids : List Nat} (hcl : Closed st.loc ids) {x : SVal} {rd : List Nat} {v : Value}
    (hv : VR (frzK K G st.loc ids w) c.l x v) (hrun : (execOp a.eval o).run P w = .ok (.value v) w) : OpOk P c ov ds st G id o { val := .v x, wr := frzL st.loc ids, rd := rd } a w :=
  OpOk.frozen hs hd hcl _ (SameW.refl _) (fun _ _ => rfl) (Kt.le.refl _) (fun _ _ _ h => .inl h) hv hrun
theorem op_makeFunc (hs : Sim c K G ov ds st a w) {o : Oper} (hd : dstOk c.nt o.dst = true) {id : Nat} {H : Nat → FH} {T : Nat → List SVal → Option Res} {fn : Fn} {first caps : Array Operand} (ho : o.op = .makeFunc fn first caps) {u : Upd}
    (h : opC P H T st id o some = some u) : OpOk P c ov ds st G id o u a w := by
  cases fn with
  | func f =>
    simp only [opC, ho] at h
    split at h
    · rename_i hz
      cases h
      have hf : first = #[] := by simpa using hz
      refine .pure hs hd (v := .func (.func f) #[] (caps.map a.eval)) ?_ (by simp [execOp, ho, Instr.makeFunc, hf])
      simp only [IR]
      refine ⟨caps.toList.map a.eval, by congr 1; apply Array.ext'; simp, IRs.of_get (by simp) fun j y v h1 h2 => ?_⟩
      simp only [List.getElem?_map, Option.map_eq_some_iff] at h1 h2
      obtain ⟨z, hz1, rfl⟩ := h1
      obtain ⟨z', hz2, rfl⟩ := h2
      rw [hz1] at hz2; cases hz2
      exact ev_sound hs 0 z
    · split at h
      · rename_i hz
        have hf : caps = #[] := by simpa using hz
        obtain ⟨r, h1, h⟩ := Option.bind_eq_some_iff.1 h
        cases h
        have hv : IRs K c.l st.loc G (first.toList.map (ev P st 0)) (first.toList.map a.eval) := IRs.of_get (by simp) fun j y v h1 h2 => by
          simp only [List.getElem?_map, Option.map_eq_some_iff] at h1 h2
          obtain ⟨z, hz1, rfl⟩ := h1
          obtain ⟨z', hz2, rfl⟩ := h2
          rw [hz1] at hz2; cases hz2
          exact ev_sound hs 0 z
        obtain ⟨hcl, hvr⟩ := exps_list hs h1 hv
        refine OpOk.frozen0 hs hd hcl (v := .func (.func f) (first.map a.eval) #[]) ?_ (by simp [execOp, ho, Instr.makeFunc, hf])
        simp only [VR]
        exact ⟨first.toList.map a.eval, by congr 1; apply Array.ext'; simp, hvr⟩
      · cases h
  | method _ => simp [opC, ho] at h
  | methodOf _ _ => simp [opC, ho] at h
  | via _ _ _ _ => simp [opC, ho] at h
  | yield _ => simp [opC, ho] at h
/-! ### Comparing structs of whole numbers -/
theorem run_partInt {t : Nat} {k : IntKind} (h : P.underlying t = some (.int k)) {cs : Array Value} {off : Nat} {v : Value} (hv : cs[off]? = some v) (w : World) : (part t cs off).run P w = .ok v w := by
  simp [part, isAgg, run_underlying h, hv]
theorem eqFields_ints (d : Nat) (b b' : List Int) (hl : b.length = b'.length) : ∀ (fs : List Field) (i : Nat), i + fs.length = b.length →
    ((fs.zipIdx i).all fun q => q.1.name != "_" && decide (q.1.offset = q.2) && match P.underlying q.1.type with | some (.int _) => true | _ => false) = true →
    (Op.eqFields (d + 1) (b.map (Value.int .i64)).toArray (b'.map (Value.int .i64)).toArray fs).run P w = .ok (decide (b.drop i = b'.drop i)) w
  | [], i, hi, _ => by
    simp only [List.length_nil, Nat.add_zero] at hi
    rw [List.drop_of_length_le (by omega), List.drop_of_length_le (by omega)]
    simp [Op.eqFields]
  | f :: fs, i, hi, hall => by
    simp only [List.zipIdx_cons, List.all_cons, Bool.and_eq_true, decide_eq_true_eq] at hall
    obtain ⟨⟨⟨hn, ho⟩, hty⟩, hrest⟩ := hall
    simp only [List.length_cons] at hi
    have hlt : i < b.length := by omega
    have hlt' : i < b'.length := by omega
    split at hty
    · rename_i k hk
      have hn' : f.name ≠ "_" := by simpa using hn
      have ih := eqFields_ints d b b' hl fs (i + 1) (by omega) hrest
      have h1 := run_partInt (P := P) hk (cs := (b.map (Value.int .i64)).toArray) (off := f.offset) (v := .int .i64 b[i]) (by rw [ho]; simp [List.getElem?_eq_getElem hlt]) w
      have h2 := run_partInt (P := P) hk (cs := (b'.map (Value.int .i64)).toArray) (off := f.offset) (v := .int .i64 b'[i]) (by rw [ho]; simp [List.getElem?_eq_getElem hlt']) w
      have h3 := run_equalIn_int (P := P) w d f.type .i64 k b[i] b'[i] hk
      rw [Op.eqFields]
      simp only [if_pos hn', Sem.run_bind, h1, h2, h3, Result.andThen_ok]
      have e1 := List.drop_eq_getElem_cons hlt
      have e2 := List.drop_eq_getElem_cons hlt'
      by_cases he : b[i] = b'[i]
      · rw [e1, e2]
        simp only [he, beq_self_eq_true, Bool.not_true, Bool.false_eq_true, if_false, List.cons.injEq, true_and]
        exact ih
      · have hne : ¬ (b.drop i = b'.drop i) := by rw [e1, e2]; intro hh; exact he (List.cons.inj hh).1
        simp [he, hne]
    · cases hty
theorem eqA_run {t : Nat} (ht : eqT P t = true) {b b' : List Int} (hl : b.length = szT P t) (hl' : b'.length = szT P t) (X Y : Operand) (op : BinOp) (hop : op = .eql ∨ op = .neq) (w : World) :
    (do eqGuard op t X Y (.agg (b.map (Value.int .i64)).toArray) (.agg (b'.map (Value.int .i64)).toArray); binOp op t (.agg (b.map (Value.int .i64)).toArray) (.agg (b'.map (Value.int .i64)).toArray) : Sem Value).run P w =
      .ok (.bool (decide (b = b') != decide (op = .neq))) w := by
  unfold eqT at ht
  split at ht
  · rename_i fs hu
    simp only [Bool.and_eq_true, Bool.not_eq_true', decide_eq_true_eq] at ht
    obtain ⟨⟨⟨hall, hp⟩, hg⟩, hsz⟩ := ht
    have hf : P.fieldsOf t = fs := by simp [Program.fieldsOf, hu]
    have he := run_equalIn_struct (P := P) w 9999 t (b.map (Value.int .i64)).toArray (b'.map (Value.int .i64)).toArray (by rw [hf]; exact hu) hp
    rw [hf, eqFields_ints (P := P) 9998 b b' (by omega) fs.toList 0 (by simp; omega) hall] at he
    simp only [List.drop_zero] at he
    simp only [Sem.run_bind, run_eqGuard_agg w op t X Y _ _ hg, Result.andThen_ok]
    rcases hop with rfl | rfl
    · rw [run_eql_struct, he]
      simp only [Result.andThen_ok]
      by_cases hb : b = b' <;> simp [hb]
    · rw [run_neq_struct, he]
      simp only [Result.andThen_ok]
      by_cases hb : b = b' <;> simp [hb]
  · cases ht
theorem op_binOp (hs : Sim c K G ov ds st a w) {o : Oper} (hd : dstOk c.nt o.dst = true) {id : Nat} {H : Nat → FH} {T : Nat → List SVal → Option Res} {op : BinOp} {t t' : Nat} {x y : Operand} (ho : o.op = .binOp op t x y t') {u : Upd}
    (h : opC P H T st id o some = some u) : OpOk P c ov ds st G id o u a w := by
  simp only [opC, ho] at h
  have hx := ev_sound (P := P) hs t x
  have hy := ev_sound (P := P) hs t y
  have hexec : ∀ {v : Value} {w' : World}, (do eqGuard op t x y (a.eval x) (a.eval y); binOp op t (a.eval x) (a.eval y) : Sem Value).run P w = .ok v w' → (execOp a.eval o).run P w = .ok (.value v) w' := by
    intro v w' hh
    simp only [Sem.run_bind] at hh
    simp only [execOp, ho, Sem.run_bind]
    cases hg : (eqGuard op t x y (a.eval x) (a.eval y)).run P w with
    | ok z w1 =>
      rw [hg] at hh
      simp only [Result.andThen_ok] at hh ⊢
      rw [hh]
      simp
    | halt z w1 => rw [hg] at hh; simp [Result.andThen] at hh
  split at h
  · rename_i p q hp hq
    rw [hp] at hx; rw [hq] at hy
    split at h
    · obtain ⟨r, h1, h⟩ := Option.bind_eq_some_iff.1 h
      cases h
      obtain ⟨v, hv, hr⟩ := sBin_sound h1 (IR_v hx) (IR_v hy) t x y
      exact .pure hs hd (v_IR hv) (hexec hr)
    · rename_i ht
      obtain ⟨r, h1, h⟩ := Option.bind_eq_some_iff.1 h
      cases h
      obtain ⟨v, hv, hr⟩ := sBinB_sound h1 (IR_v hx) (IR_v hy) t ht x y
      exact .pure hs hd (v_IR hv) (hexec hr)
    · cases h
  · rename_i p q hp hq
    rw [hp] at hx; rw [hq] at hy
    split at h
    · rename_i ht
      obtain ⟨p', h1, h⟩ := Option.bind_eq_some_iff.1 h
      obtain ⟨q', h2, h⟩ := Option.bind_eq_some_iff.1 h
      obtain ⟨r, h3, h⟩ := Option.bind_eq_some_iff.1 h
      cases h
      simp only [IR] at hx hy
      obtain ⟨vx, ex, rx⟩ := hx
      obtain ⟨vy, ey, ry⟩ := hy
      have toV : ∀ {ivs : List IVal} {xs : List SVal} {vs : List Value}, mapO asV ivs = some xs → IRs K c.l st.loc G ivs vs → VRs K c.l xs vs := by
        intro ivs xs vs hm hr
        refine VRs.of_get (by rw [hr.length, mapO_len hm]) fun j z v hz hvj => ?_
        obtain ⟨iv, hiv, hf⟩ := mapO_get' hm hz
        obtain ⟨v', hv', hir⟩ := hr.get hiv
        rw [hvj] at hv'; cases hv'
        unfold asV at hf
        split at hf
        · cases hf; exact IR_v hir
        · cases hf
      have h4 := toV h1 rx
      have h5 := toV h2 ry
      have fin : ∀ neg, sEqA (szT P t) neg p' q' = some r → ∃ b b' : List Int, vx = b.map (Value.int .i64) ∧ vy = b'.map (Value.int .i64) ∧ (b.length = szT P t ∧ b'.length = szT P t) ∧ r = .bool (decide (b = b') != neg) := by
        intro neg he
        unfold sEqA at he
        obtain ⟨b, k1, he⟩ := Option.bind_eq_some_iff.1 he
        obtain ⟨b', k2, he⟩ := Option.bind_eq_some_iff.1 he
        split at he
        · rename_i hl
          cases he
          exact ⟨b, b', intsOf_VRs k1 h4, intsOf_VRs k2 h5, hl, rfl⟩
        · cases he
      split at h3
      · obtain ⟨b, b', e1, e2, hl, rfl⟩ := fin false h3
        have := eqA_run (P := P) ht hl.1 hl.2 x y .eql (.inl rfl) w
        refine .pure hs hd (v := .bool (decide (b = b') != false)) (v_IR (by simp [VR])) (hexec ?_)
        rw [ex, ey, e1, e2]
        exact this
      · obtain ⟨b, b', e1, e2, hl, rfl⟩ := fin true h3
        have := eqA_run (P := P) ht hl.1 hl.2 x y .neq (.inr rfl) w
        refine .pure hs hd (v := .bool (decide (b = b') != true)) (v_IR (by simp [VR])) (hexec ?_)
        rw [ex, ey, e1, e2]
        exact this
      · cases h3
    · cases h
  · cases h
end
end Go.Lm
end
section
namespace Go.Lm
/-! ### Lists of rows -/
theorem flat_len {α : Type} (sz : Nat) : ∀ (ls : List (List α)), (∀ l ∈ ls, l.length = sz) → ls.flatten.length = ls.length * sz
  | [], _ => by simp
  | l :: ls, h => by
    simp only [List.flatten_cons, List.length_append, List.length_cons, h l (by simp), flat_len sz ls (fun x hx => h x (by simp [hx]))]
    rw [Nat.add_mul]; omega
theorem flat_get {α : Type} (sz : Nat) : ∀ (ls : List (List α)), (∀ l ∈ ls, l.length = sz) → ∀ (j q : Nat), q < sz → ls.flatten[j * sz + q]? = (ls[j]?).bind (·[q]?)
  | [], _, j, q, _ => by simp
  | l :: ls, h, j, q, hq => by
    have hl := h l (by simp)
    simp only [List.flatten_cons]
    cases j with
    | zero =>
      simp only [Nat.zero_mul, Nat.zero_add, List.getElem?_cons_zero, Option.bind_some]
      rw [List.getElem?_append_left (by omega)]
    | succ j =>
      rw [List.getElem?_append_right (by rw [hl, Nat.succ_mul]; omega), List.getElem?_cons_succ]
      rw [show (j + 1) * sz + q - l.length = j * sz + q by rw [hl, Nat.succ_mul]; omega]
      exact flat_get sz ls (fun x hx => h x (by simp [hx])) j q hq
theorem choose_list {α β : Type} {R : Nat → α → β → Prop} : ∀ (xs : List α) (i : Nat), (∀ j x, xs[j]? = some x → ∃ y, R (i + j) x y) → ∃ ys : List β, ys.length = xs.length ∧ ∀ j x y, xs[j]? = some x → ys[j]? = some y → R (i + j) x y
  | [], _, _ => ⟨[], rfl, by simp⟩
  | x :: xs, i, h => by
    obtain ⟨y, hy⟩ := h 0 x rfl
    obtain ⟨ys, h1, h2⟩ := choose_list xs (i + 1) (fun j z hz => by
      obtain ⟨y, hy⟩ := h (j + 1) z (by simpa using hz)
      exact ⟨y, by rwa [show i + (j + 1) = i + 1 + j by omega] at hy⟩)
    refine ⟨y :: ys, by simp [h1], fun j z u hz hu => ?_⟩
    cases j with
    | zero => simp at hz hu; subst hz; subst hu; exact hy
    | succ j =>
      have := h2 j z u (by simpa using hz) (by simpa using hu)
      rwa [show i + (j + 1) = i + 1 + j by omega]
/-- The elements that lie in a row of cells. -/
def CellsOf (K : Kt) (l sz : Nat) (ys : List SVal) (news : List Value) : Prop :=
  news.length = ys.length * sz ∧ (∀ u ∈ news, u.oneCell' = true) ∧
  ∀ j e, ys[j]? = some e → ∃ v, VR K l e v ∧ v.cells.size = sz ∧ (∀ u ∈ v.cells, u.oneCell' = true) ∧ ∀ q u, v.cells[q]? = some u → news[j * sz + q]? = some u
/-- Out of the elements' own cells, the row. -/
theorem cellsOf_mk {K : Kt} {l sz : Nat} {ys : List SVal} {look : Nat → Option Value} (h : ∀ j e, ys[j]? = some e → ∃ v, VR K l e v ∧ v.cells.size = sz ∧ (∀ u ∈ v.cells, u.oneCell' = true) ∧ ∀ q u, v.cells[q]? = some u → look (j * sz + q) = some u) :
    ∃ news, CellsOf K l sz ys news ∧ ∀ n u, news[n]? = some u → look n = some u := by
  obtain ⟨vs, h1, h2⟩ := choose_list (R := fun j e v => VR K l e v ∧ v.cells.size = sz ∧ (∀ u ∈ v.cells, u.oneCell' = true) ∧ ∀ q u, v.cells[q]? = some u → look (j * sz + q) = some u) ys 0 (fun j x hx => by simpa using h j x hx)
  simp only [Nat.zero_add] at h2
  have hv : ∀ j v, vs[j]? = some v → ∃ e, ys[j]? = some e ∧ VR K l e v ∧ v.cells.size = sz ∧ (∀ u ∈ v.cells, u.oneCell' = true) ∧ ∀ q u, v.cells[q]? = some u → look (j * sz + q) = some u := fun j v hj => by
    have hlt : j < ys.length := by rw [← h1]; exact (List.getElem?_eq_some_iff.1 hj).1
    exact ⟨_, List.getElem?_eq_getElem hlt, h2 j _ v (List.getElem?_eq_getElem hlt) hj⟩
  have hsz : ∀ c ∈ vs.map (fun v => v.cells.toList), c.length = sz := fun c hc => by
    obtain ⟨v, hv', rfl⟩ := List.mem_map.1 hc
    obtain ⟨j, hj⟩ := List.mem_iff_getElem?.1 hv'
    obtain ⟨_, _, _, h3, _⟩ := hv j v hj
    simpa using h3
  have hget : ∀ j v q u, vs[j]? = some v → v.cells[q]? = some u → (vs.map (fun v => v.cells.toList)).flatten[j * sz + q]? = some u := fun j v q u hj hq => by
    obtain ⟨_, _, _, h3, _⟩ := hv j v hj
    rw [flat_get sz _ hsz j q (by rw [← h3]; exact (Array.getElem?_eq_some_iff.1 hq).1), List.getElem?_map, hj]
    simpa using hq
  refine ⟨(vs.map fun v => v.cells.toList).flatten, ⟨?_, ?_, ?_⟩, ?_⟩
  · rw [flat_len sz _ hsz]; simp [h1]
  · intro u hu
    obtain ⟨c, hc, huc⟩ := List.mem_flatten.1 hu
    obtain ⟨v, hv', rfl⟩ := List.mem_map.1 hc
    obtain ⟨j, hj⟩ := List.mem_iff_getElem?.1 hv'
    obtain ⟨_, _, _, _, h4, _⟩ := hv j v hj
    exact h4 u (by simpa using huc)
  · intro j e he
    have hlt : j < vs.length := by rw [h1]; exact (List.getElem?_eq_some_iff.1 he).1
    obtain ⟨e', he', h3, h4, h5, _⟩ := hv j vs[j] (List.getElem?_eq_getElem hlt)
    rw [he] at he'; cases he'
    exact ⟨vs[j], h3, h4, h5, fun q u hq => hget j _ q u (List.getElem?_eq_getElem hlt) hq⟩
  · intro n u hn
    have hlt : n < vs.length * sz := by
      have := (List.getElem?_eq_some_iff.1 hn).1
      rw [flat_len sz _ hsz] at this
      simpa using this
    have hpos : 0 < sz := by
      rcases Nat.eq_zero_or_pos sz with h0 | h0
      · rw [h0] at hlt; simp at hlt
      · exact h0
    have hj : n / sz < vs.length := (Nat.div_lt_iff_lt_mul hpos).2 hlt
    have hq : n % sz < sz := Nat.mod_lt _ hpos
    have hdm : n / sz * sz + n % sz = n := by rw [Nat.mul_comm]; exact Nat.div_add_mod n sz
    rw [← hdm, flat_get sz _ hsz _ _ hq, List.getElem?_map, List.getElem?_eq_getElem hj] at hn
    obtain ⟨_, _, _, _, _, h6⟩ := hv (n / sz) vs[n / sz] (List.getElem?_eq_getElem hj)
    rw [← hdm]
    exact h6 _ _ (by simpa using hn)
theorem CellsOf.append {K : Kt} {l sz : Nat} {xs ys : List SVal} {olds news : List Value} (h : CellsOf K l sz xs olds) (h' : CellsOf K l sz ys news) : CellsOf K l sz (xs ++ ys) (olds ++ news) := by
  refine ⟨by rw [List.length_append, List.length_append, h.1, h'.1, Nat.add_mul], fun u hu => (List.mem_append.1 hu).elim (h.2.1 u) (h'.2.1 u), fun j e he => ?_⟩
  by_cases hj : j < xs.length
  · rw [List.getElem?_append_left hj] at he
    obtain ⟨v, h1, h2, h3, h4⟩ := h.2.2 j e he
    refine ⟨v, h1, h2, h3, fun q u hq => ?_⟩
    have := h4 q u hq
    rw [List.getElem?_append_left (by exact (List.getElem?_eq_some_iff.1 this).1)]
    exact this
  · rw [List.getElem?_append_right (by omega)] at he
    obtain ⟨v, h1, h2, h3, h4⟩ := h'.2.2 _ e he
    refine ⟨v, h1, h2, h3, fun q u hq => ?_⟩
    have := h4 q u hq
    have e1 : j * sz = xs.length * sz + (j - xs.length) * sz := by rw [← Nat.add_mul]; congr 1; omega
    rw [List.getElem?_append_right (by rw [h.1]; omega), h.1, e1, show xs.length * sz + (j - xs.length) * sz + q - xs.length * sz = (j - xs.length) * sz + q by omega]
    exact this
theorem cellsAE {K : Kt} {l sz : Nat} {xs : List SVal} {news : List Value} (h : CellsOf K l sz xs news) {arr : Array Value} (ha : ∀ (n : Nat) (u : Value), news[n]? = some u → arr[n]? = some u) : AE K l sz arr xs := fun j x hj => by
  obtain ⟨v, h1, h2, h3, h4⟩ := h.2.2 j x hj
  exact ⟨v, h1, h2, h3, fun q u hq => ha _ _ (h4 q u hq)⟩
section
variable {P : Program} {c : Ctx} {K : Kt} {G : Gt} {ov : List Value} {ds : List Nat} {st : St} {a : Act} {w : World}
/-- A slice whose elements are known. -/
def Elts (K : Kt) (l : Nat) (w : World) (sz : Nat) (ys : List SVal) (x : Value) : Prop :=
  ∃ A c news, x = .slice A ys.length c ∧ ys.length ≤ c ∧ CellsOf K l sz ys news ∧ (ys = [] ∨ ∃ b o, A = some ⟨b, o, none⟩ ∧ ∀ j u, news[j]? = some u → w.cell? ⟨b, o + j, none⟩ = some u)
theorem elts_of_VR (hs : Sim c K G ov ds st a w) {sz : Nat} {full : Bool} {ys : List SVal} {x : Value} (h : VR K c.l (.sl sz false full ys) x) : Elts K c.l w sz ys x := by
  simp only [VR] at h
  obtain ⟨_, A, cc, rfl, hle, _, h3⟩ := h
  cases ys with
  | nil => exact ⟨A, cc, [], rfl, hle, ⟨by simp, by simp, by simp⟩, .inl rfl⟩
  | cons y ys =>
    obtain ⟨b, o, _, rfl, _⟩ := VE_iff.1 h3 0 y rfl
    obtain ⟨news, h4, h5⟩ := cellsOf_mk (K := K) (l := c.l) (sz := sz) (ys := y :: ys) (look := fun n => w.cell? ⟨b, o + n, none⟩) (fun j e he => by
      obtain ⟨b', o', v, e1, k1, k2, k3, k4⟩ := VE_iff.1 h3 j e he
      cases e1
      exact ⟨v, k1, k2, k3, fun q u hq => (hs.kok _ _ _ (by simpa using k4 q u hq)).cell (k1.noMk' hq)⟩)
    exact ⟨_, cc, news, rfl, hle, h4, .inr ⟨b, o, rfl, h5⟩⟩
theorem elts_of_own {sz : Nat} {ys : List SVal} {x : Value} {blk : Nat} {bs : List Nat} {l : Nat} (h : OwnR K l w sz ys x blk bs) : Elts K l w sz ys x := by
  obtain ⟨_, h⟩ := h
  rcases h with ⟨rfl, _, A, rfl⟩ | ⟨_, arr, t, cap, _, h1, rfl, h3, h4, h5⟩
  · exact ⟨A, 0, [], rfl, by simp, ⟨by simp, by simp, by simp⟩, .inl rfl⟩
  · obtain ⟨news, k1, k2⟩ := cellsOf_mk (K := K) (l := l) (sz := sz) (ys := ys) (look := fun n => arr[n]?) h5
    exact ⟨_, cap, news, rfl, h4, k1, .inr ⟨blk, 0, rfl, fun j u hj => by simp only [World.cell?, h1]; simpa using k2 j u hj⟩⟩
theorem Elts.src {l sz : Nat} {ys : List SVal} {x : Value} (h : Elts K l w sz ys x) {tx : Nat} (ht : isSliceT P tx = true) : ∃ news, CellsOf K l sz ys news ∧ Src P sz tx x ys.length news w := by
  obtain ⟨A, cc, news, rfl, hle, h1, h2⟩ := h
  refine ⟨news, h1, ?_⟩
  rcases h2 with rfl | ⟨b, o, rfl, h3⟩
  · have hn : news = [] := List.eq_nil_of_length_eq_zero (by rw [h1.1]; simp)
    subst hn
    cases A with
    | none => exact Src.ofNil w (isSliceT_spec ht) cc
    | some ad => exact Src.ofSlice w (isSliceT_spec ht) ad _ cc [] (by simp) (by simp) (by simp)
  · exact Src.ofSlice w (isSliceT_spec ht) _ _ cc news h1.1 (fun j u hj => by rw [add_at]; exact h3 j u hj) h1.2.1
theorem run_append_room' (t tx ty e : TypeId) (i : TypeInfo) (ht : P.underlying t = some (.slice e)) (hi : P.info? e = some i) {b sLen sCap : Nat} {cur : Array Value} {ty' : Nat} (hb : w.heap[b]? = some (.cells cur ty' (0, 0)))
    (x : Value) (n : Nat) (news : List Value) (hs : Src P i.size tx x n news w) (hroom : sLen + n ≤ sCap) (hfit : sLen * i.size + news.length ≤ cur.size) :
    (Builtin.append_ #[t, tx] ty #[.slice (some ⟨b, 0, none⟩) sLen sCap, x]).run P w = .ok (.slice (some ⟨b, 0, none⟩) (sLen + n) sCap)
      (w.setRow b (cur.toList.take (sLen * i.size) ++ news ++ cur.toList.drop (sLen * i.size + news.length)).toArray) := by
  have hst := run_storeCells_at (P := P) b (sLen * i.size) ty' news 0 cur w hb (by simpa using hfit) hs.one
  simp only [Nat.add_zero] at hst
  rcases hs.kind with ⟨e', hk⟩ | hk <;> simp [Builtin.append_, run_underlying ht, run_underlying hk, sizeOf, typeInfo, hi, hs.len, hroom, hs.cells, add_at, hst]
theorem appOk_spec {t : Nat} (h : appOk P t = true) : P.underlying t = some (.slice (elemT P t)) ∧ ∃ i z, P.info? (elemT P t) = some i ∧ i.zero = some z ∧ z.cells.size = i.size ∧ i.size = szE P t ∧ 0 < szE P t ∧ i.bytes = bytesE P t ∧ 0 < bytesE P t := by
  unfold appOk at h
  simp only [Bool.and_eq_true, decide_eq_true_eq] at h
  obtain ⟨⟨⟨h1, h2⟩, h2'⟩, h3⟩ := h
  refine ⟨isSliceT_spec h1, ?_⟩
  split at h3
  · rename_i i hi
    split at h3
    · rename_i z hz
      exact ⟨i, z, hi, hz, by simpa using h3, by simp [szE, szT, hi], h2, by simp [bytesE, hi], h2'⟩
    · cases h3
  · cases h3
theorem SameW.drew_alloc (w : World) (o : Go.Obj) : SameW w (w.drew.alloc o) := ⟨rfl, rfl, rfl, by simp⟩
/-- A row grows by elements: in place, or in a new block. -/
theorem append_run {l : Nat} {t tx ty : Nat} (ht : appOk P t = true) (htx : isSliceT P tx = true) {xs ys : List SVal} {v x : Value} {blk : Nat} {bs : List Nat} (ho : OwnR K l w (szE P t) xs v blk bs) (hx : Elts K l w (szE P t) ys x)
    (hby : (xs.length + ys.length) * bytesE P t ≤ maxAppend) :
    ∃ v' blk' bs' w', (Builtin.append_ #[t, tx] ty #[v, x]).run P w = .ok v' w' ∧ OwnR K l w' (szE P t) (xs ++ ys) v' blk' bs' ∧ SameW w w' ∧ (∀ b, b < w.heap.size → b ∉ bs → w'.heap[b]? = w.heap[b]?) ∧
      bs'.Nodup ∧ (∀ b ∈ bs', b < w'.heap.size ∧ (b ∈ bs ∨ w.heap.size ≤ b)) := by
  obtain ⟨hu, i, z, hi, hz, hzs, hsz, hpos, hb, hbytes⟩ := appOk_spec ht
  obtain ⟨news, hn, hsrc⟩ := hx.src (P := P) htx
  have h63 : ((xs.length + ys.length : Nat) : Int) ≤ 9223372036854775807 := by
    have : xs.length + ys.length ≤ (xs.length + ys.length) * bytesE P t := Nat.le_mul_of_pos_right _ hbytes
    simp only [maxAppend] at hby
    omega
  -- a new row
  have grow : ∀ (base : Option Addr) (cap : Nat) (olds : List Value), CellsOf K l (szE P t) xs olds → (Builtin.firstCells i.size xs.length (.slice base xs.length cap)).run P w.drew = .ok olds.toArray w.drew →
      v = .slice base xs.length cap → cap < xs.length + ys.length → ∃ v' blk' bs' w', (Builtin.append_ #[t, tx] ty #[v, x]).run P w = .ok v' w' ∧ OwnR K l w' (szE P t) (xs ++ ys) v' blk' bs' ∧ SameW w w' ∧ (∀ b, b < w.heap.size → b ∉ bs → w'.heap[b]? = w.heap[b]?) ∧
      bs'.Nodup ∧ (∀ b ∈ bs', b < w'.heap.size ∧ (b ∈ bs ∨ w.heap.size ≤ b)) := by
    intro base cap olds hol hfc hv hg
    have hrun := run_append_grow_src (P := P) w t tx ty (elemT P t) i z hu hi hz base xs.length cap olds hfc x ys.length news (hsz ▸ hsrc) hg h63 (growslice_fits hg (by rw [hb]; simpa [maxAppend] using hby))
    have hge := grownCap_ge w (xs.length + ys.length) cap (elemT P t)
    refine ⟨_, w.heap.size, [w.heap.size], _, by rw [hv]; exact hrun, ⟨hpos, .inr ⟨rfl, _, elemT P t, grownCap w (xs.length + ys.length) cap (elemT P t), by omega, heap_new w.drew _, by simp, ?_, by simpa using hge, ?_⟩⟩, SameW.drew_alloc _ _,
      fun b hb _ => heap_lt w.drew _ b (by simpa using hb), by simp, fun b hb => by simp at hb; subst hb; exact ⟨by simp, .inr (Nat.le_refl _)⟩⟩
    · simp only [Array.size_append, List.size_toArray, List.length_append, size_zeroCells, hzs, hol.1, hn.1, hsz]
      rw [← Nat.add_mul, ← Nat.add_mul]
      congr 1; omega
    · refine cellsAE (CellsOf.append hol hn) fun n u hu' => ?_
      have hlt := (List.getElem?_eq_some_iff.1 hu').1
      rw [Array.getElem?_append_left (by simpa using hlt)]
      simpa using hu'
  obtain ⟨_, ho⟩ := ho
  rcases ho with ⟨rfl, rfl, A, rfl⟩ | ⟨rfl, arr, t', cap, hcp, h1, rfl, h3, h4, h5⟩
  · by_cases hy : ys = []
    · subst hy
      have hn0 : news = [] := List.eq_nil_of_length_eq_zero (by rw [hn.1]; simp)
      subst hn0
      have : (Builtin.append_ #[t, tx] ty #[.slice A 0 0, x]).run P w = .ok (.slice A 0 0) w := by
        have hlen := hsrc.len
        have hcel := hsrc.cells
        simp only [List.length_nil] at hlen hcel
        rw [← hsz] at hcel
        rcases hsrc.kind with ⟨e', hk⟩ | hk <;> cases A <;> simp [Builtin.append_, run_underlying hu, run_underlying hk, sizeOf, typeInfo, hi, hlen, hcel, storeCells]
      exact ⟨_, 0, [], w, this, ⟨hpos, .inl ⟨rfl, rfl, A, rfl⟩⟩, SameW.refl _, fun _ _ _ => rfl, by simp, by simp⟩
    · have hpy : 0 < ys.length := by cases ys with | nil => exact absurd rfl hy | cons _ _ => simp
      refine grow A 0 [] ⟨by simp, by simp, by simp⟩ ?_ rfl (by simpa using hpy)
      cases A <;> simp [Builtin.firstCells, loadCells, loadCellsFrom]
  · obtain ⟨olds, k1, k2⟩ := cellsOf_mk (K := K) (l := l) (sz := szE P t) (ys := xs) (look := fun n => arr[n]?) h5
    by_cases hroom : xs.length + ys.length ≤ cap
    · have hfit : xs.length * i.size + news.length ≤ arr.size := by rw [hsz, hn.1, h3, ← Nat.add_mul]; exact Nat.mul_le_mul_right _ hroom
      have hrun := run_append_room' (P := P) t tx ty (elemT P t) i hu hi h1 x ys.length news (hsz ▸ hsrc) hroom hfit
      have hol : olds.length = xs.length * i.size := by rw [k1.1, hsz]
      have htake : arr.toList.take (xs.length * i.size) = olds := by
        apply List.ext_getElem?
        intro j
        rw [List.getElem?_take]
        split
        · rename_i hj
          have := k2 j olds[j] (List.getElem?_eq_getElem (by omega))
          rw [List.getElem?_eq_getElem (show j < olds.length by omega)]
          simpa using this
        · rw [List.getElem?_eq_none (by omega)]
      have hlt : blk < w.heap.size := (Array.getElem?_eq_some_iff.1 h1).1
      refine ⟨_, blk, [blk], _, hrun, ⟨hpos, .inr ⟨rfl, _, t', cap, hcp, setRow_heap w blk _ _ t' (0, 0) h1, by simp, ?_, by simpa using hroom, ?_⟩⟩, SameW.setRow _ _ _, fun b hb hnb => setRow_other w blk b _ (by simpa using hnb), by simp,
        fun b hb => by simp at hb; subst hb; exact ⟨by simpa using hlt, .inl (by simp)⟩⟩
      · simp only [List.size_toArray, List.length_append, List.length_take, List.length_drop, Array.length_toList]
        omega
      · refine cellsAE (CellsOf.append k1 hn) fun n u hu' => ?_
        rw [htake]
        have hlt := (List.getElem?_eq_some_iff.1 hu').1
        rw [List.getElem?_toArray, List.getElem?_append_left hlt]
        exact hu'
    · refine grow _ cap olds k1 ?_ rfl (by omega)
      exact run_firstCells_some w.drew i.size xs.length ⟨blk, 0, none⟩ _ cap olds (by rw [k1.1, hsz]) (fun j u hj => by
        rw [add_at]
        simp only [World.cell?, World.drew, h1]
        simpa using k2 j u hj)
theorem makeOk_spec {t tx : Nat} (h : makeOk P t tx = true) : (∃ k, P.underlying tx = some (.int k)) ∧ ∃ i, P.info? (elemT P t) = some i ∧ i.zero = some (.int .i64 0) ∧ i.size = 1 := by
  unfold makeOk at h
  simp only [Bool.and_eq_true] at h
  obtain ⟨h1, h2⟩ := h
  constructor
  · split at h1
    · rename_i k hk; exact ⟨k, hk⟩
    · cases h1
  · split at h2
    · rename_i i hi
      split at h2
      · rename_i hz
        exact ⟨i, hi, hz, by simpa using h2⟩
      · cases h2
    · cases h2
/-- A new row of zeros. -/
theorem make_run {l : Nat} {t tx ty : Nat} (ht : appOk P t = true) (htx : makeOk P t tx = true) {A : Option Addr} {m : Nat} (hm : 0 < m) (hby : m * bytesE P t ≤ maxAppend) :
    ∃ v' blk' bs' w', (Builtin.append_ #[t, tx] ty #[.slice A 0 0, .int .i64 m]).run P w = .ok v' w' ∧ OwnR K l w' (szE P t) (List.replicate m (.int .i64 0)) v' blk' bs' ∧ SameW w w' ∧ (∀ b, b < w.heap.size → w'.heap[b]? = w.heap[b]?) ∧
      bs'.Nodup ∧ (∀ b ∈ bs', b < w'.heap.size ∧ w.heap.size ≤ b) := by
  obtain ⟨hu, i, z, hi, hz, hzs, hsz, hpos, hb, hbytes⟩ := appOk_spec ht
  obtain ⟨⟨k, hk⟩, i', hi', hz', hs1⟩ := makeOk_spec htx
  rw [hi] at hi'; cases hi'
  rw [hz] at hz'; cases hz'
  have h63 : ((m : Nat) : Int) ≤ 9223372036854775807 := by
    have : m ≤ m * bytesE P t := Nat.le_mul_of_pos_right _ hbytes
    simp only [maxAppend] at hby
    omega
  have hfit := growslice_fits (bytes := i.bytes) (old := 0) (need := m) hm (by rw [hb]; simpa [maxAppend] using hby)
  have hw : IntKind.i64.wrap (m : Int) = m := by rw [IntKind.wrap_i64]; omega
  have hai : (asIntOf (.int .i64 (m : Int))).run P w = .ok (.i64, (m : Int)) w := by simp [asIntOf]
  have hl0 : ¬ ((m : Int) < 0) := by omega
  have hl48 : ¬ (281474976710656 < (m : Int) * (i.bytes : Int)) := by
    rw [hb]
    have : (m : Int) * (bytesE P t : Int) = ((m * bytesE P t : Nat) : Int) := by simp
    rw [this]
    simp only [maxAppend] at hby
    omega
  have hn : ¬ m = 0 := by omega
  have h63' : ¬ (9223372036854775807 < (m : Int)) := by omega
  have h48' : ¬ (281474976710656 < Builtin.nextslicecap m 0 * i.bytes) := by omega
  have hrun : (Builtin.append_ #[t, tx] ty #[.slice A 0 0, .int .i64 m]).run P w =
      .ok (.slice (some ⟨w.heap.size, 0, none⟩) m (grownCap w m 0 (elemT P t))) (w.drew.alloc (.cells (Builtin.zeroCells #[.int .i64 0] m ++ Builtin.zeroCells #[.int .i64 0] (grownCap w m 0 (elemT P t) - m)) (elemT P t))) := by
    have hfc : (Builtin.firstCells 1 0 (.slice A 0 0)).run P w.drew = .ok #[] w.drew := by cases A <;> simp [Builtin.firstCells, loadCells, loadCellsFrom]
    simp [Builtin.append_, run_underlying hu, run_underlying hk, sizeOf, typeInfo, zeroValue, hi, hz, hs1, asInt, hai, hw, hl0, hl48, hn, h63', h48', Question.forced, hfc, newRow, grownCap, Value.cells]
  have hge := grownCap_ge w m 0 (elemT P t)
  have hsE : szE P t = 1 := by rw [← hsz, hs1]
  refine ⟨_, w.heap.size, [w.heap.size], _, hrun, ⟨hpos, .inr ⟨rfl, _, elemT P t, grownCap w m 0 (elemT P t), by omega, heap_new w.drew _, by simp, ?_, by simpa using hge, ?_⟩⟩, SameW.drew_alloc _ _,
      fun b hb => heap_lt w.drew _ b (by simpa using hb), by simp, fun b hb => by simp at hb; subst hb; exact ⟨by simp, Nat.le_refl _⟩⟩
  · simp only [Array.size_append, size_zeroCells, hsE]
    simp
    omega
  · intro j x hj
    rw [List.getElem?_replicate] at hj
    split at hj
    · rename_i hjm
      cases hj
      refine ⟨.int .i64 0, by simp [VR], by simp [Value.cells, hsE], by simp [Value.cells, Value.oneCell'], fun q u hq => ?_⟩
      have hq0 : q = 0 ∧ u = .int .i64 0 := by
        simp only [Value.cells] at hq
        cases q with
        | zero => simp at hq; exact ⟨rfl, hq.symm⟩
        | succ q => simp at hq
      obtain ⟨rfl, rfl⟩ := hq0
      rw [hsE, Nat.mul_one, Nat.add_zero, Array.getElem?_append_left (by simpa [size_zeroCells] using hjm)]
      simp [Builtin.zeroCells, hjm, Nat.mod_one]
    · cases hj
end
end Go.Lm
end
