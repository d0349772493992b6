/- A part of the proof. -/
import Derived.Test.YtcdnmiaelaombaaGreatLmBG
import Derived.Test.YtcdnmiaelaombaaGreatLmBH
set_option linter.unusedVariables false
set_option linter.unusedSimpArgs false
set_option linter.unnecessarySimpa false
set_option linter.all false
namespace Go.Lm
section
variable {P : Program} {H : Nat → FH} {T : Nat → List SVal → Option Res}
theorem enter_ok (hN : P.funcs.all (fun fn => !(fn.name == "runtime.NumGoroutine")) = true) {f : Nat} {fn : Func} (hf : P.funcs[f]? = some fn) (hb : fn.body.isSome = true) : EnterOk P f := by
  intro args w
  have h1 : (fn.name == "runtime.NumGoroutine") = false := by
    have := (Array.all_eq_true.1 hN) f (Array.getElem?_eq_some_iff.1 hf).1
    rw [(Array.getElem?_eq_some_iff.1 hf).2] at this
    simpa using this
  have h1' : ¬ fn.name = "runtime.NumGoroutine" := by simpa using h1
  have h2 : ¬ fn.body = none := fun hc => by rw [hc] at hb; cases hb
  simp [callFunc, program, Sem.run_bind, Sem.run, hf, Result.andThen]
  rw [if_neg h1', if_neg h2]
theorem stop_VR {K : Kt} {l : Nat} {w : World} {s : Shape} {x sv : SVal} {v : Value} {bs : List Nat} (hx : XS H K l w s x v bs) (h : stopRes sv x = true) : VR K l sv v := by
  unfold stopRes at h
  split at h
  · cases s <;> simp only [XS, XS0] at hx
    all_goals first | exact hx.2 | exact hx.2.1 | (obtain ⟨_, _, h, _⟩ := hx; cases h; done) | (obtain ⟨_, h, _⟩ := hx; cases h; done) | (obtain ⟨_, _, _, _, h, _⟩ := hx; cases h; done) | (obtain ⟨_, _, _, _, _, h, _⟩ := hx; cases h; done) | (obtain ⟨_, _, h⟩ := hx; cases h.1; done)
  · cases s <;> simp only [XS, XS0] at hx
    all_goals first
      | exact hx.2
      | exact hx.2.1
      | (obtain ⟨cs, vals, h, rfl, h2⟩ := hx
         cases h
         rename_i ss
         cases ss with
         | nil => simp only [XSs] at h2; obtain ⟨_, rfl, _⟩ := h2; simp only [VR]; exact ⟨[], rfl, by simp [VRs]⟩
         | cons s ss => simp only [XSs] at h2; obtain ⟨x, xt, _, _, _, _, h, _⟩ := h2; cases h)
      | (obtain ⟨_, _, h, _⟩ := hx; cases h; done) | (obtain ⟨_, h, _⟩ := hx; cases h; done) | (obtain ⟨_, _, _, _, h, _⟩ := hx; cases h; done) | (obtain ⟨_, _, _, _, _, h, _⟩ := hx; cases h; done) | (obtain ⟨_, _, h⟩ := hx; cases h.1; done)
  · cases h
/-- The state in which a function's body begins. -/
theorem init_sim {f : Nat} {args : List SVal} {K : Kt} {O : Nat → Prop} {l : Nat} {J Jx : Prot} {vals : List Value} {bss : List (List Nat)} {w : World} {nt : Nat} (hk : Kok K w) (hO : ∀ b, O b → b < w.heap.size) (hX : XL H K l w (H f).params args vals bss)
    (hnd : bss.flatten.Nodup) (hb : ∀ b ∈ bss.flatten, b < w.heap.size ∧ ¬ O b ∧ ∀ o, K b o = none) (hJ : Stable J) (hJx : Stable Jx) (h0 : J [] K (· ∈ bss.flatten) w) (hnt : vals.length ≤ nt) :
    ∃ G, Sim { P := P, H := H, l := l, w0 := w, O := O, K0 := K, J := J, Jx := Jx, nt := nt } K G [] [] (initSt H f args) { tmps := vals.toArray ++ Array.replicate (nt - vals.toArray.size) undef, defers := [] } w ∧ NF G (initSt H f args) := by
  obtain ⟨c, hc⟩ : ∃ c : Ctx, c = { P := P, H := H, l := l, w0 := w, O := O, K0 := K, J := J, Jx := Jx, nt := nt } := ⟨_, rfl⟩
  obtain ⟨a, ha⟩ : ∃ a : Act, a = { tmps := vals.toArray ++ Array.replicate (nt - vals.toArray.size) undef, defers := [] } := ⟨_, rfl⟩
  rw [← hc, ← ha]
  have hs0 : Sim c.triv K (fun _ => none) [] [] { env := fun _ => .unk, loc := fun _ => .dead, nid := 0, out := [], stop := false } a w := by
    subst hc; subst ha
    exact { kok := hk, k0 := Kt.le.refl _, kO := fun _ _ _ _ h => h, slots := (fun t => by simp [IR]), nt := (by show _ = nt; simp; omega), objs := (fun i g h => by cases h), gnone := fun i _ => rfl, own := (fun i g h => by cases h), nd := (fun i g h => by cases h), sep := (fun i j g g' b _ h => by cases h), same := SameW.refl _, frame := fun _ _ => rfl, oB := hO, outs := (fun _ => by simp [VRs]), prot := fun _ => trivial, protx := fun _ => ⟨[], trivial⟩, dfs := rfl, dnd := List.nodup_nil, dob := (fun d hd => by simp at hd), hJ := fun _ _ _ _ _ _ _ _ _ => trivial, hJx := fun _ _ _ _ _ _ _ _ _ => trivial }
  have hX' : XL c.triv.H K c.triv.l w (H f).params args vals bss := by subst hc; exact hX
  obtain ⟨G', ht, hslots⟩ := impArgs_sound (c := c) (H f).params args vals bss 0 0 _ _ hs0 (by subst hc; exact hX) (fun j => by
    subst ha
    simp only [Nat.zero_add, Array.getD_eq_getD_getElem?, List.getD_eq_getElem?_getD]
    by_cases hj : j < vals.length
    · rw [Array.getElem?_append_left (by simpa using hj)]; simp
    · rw [Array.getElem?_append_right (by simpa using hj), List.getElem?_eq_none (by omega), Array.getElem?_replicate]
      split <;> rfl) (fun _ _ => rfl) ⟨hnd, fun b hb' => by
        obtain ⟨h1, h2, h3⟩ := hb b hb'
        exact ⟨h1, by subst hc; exact h2, by simp, h3, fun j g hg => by cases hg⟩⟩
  have hs1 := ht.sim.envs (impArgs (H f).params args 0 0).1 (impArgs (H f).params args 0 0).2.2 (fun t => hslots t (Nat.zero_le _))
  have hJ' : c.J = J := by subst hc; rfl
  have hJx' : c.Jx = Jx := by subst hc; rfl
  refine ⟨G', hs1.ofTriv (by rw [hJ']; exact hJ) (by rw [hJx']; exact hJx) (fun _ => ?_) (fun h => by cases h), fun j hj => ?_⟩
  · rw [hJ']
    refine hJ _ _ _ _ _ _ _ h0 ⟨SameW.refl _, fun _ _ _ => rfl, fun _ _ _ _ h => h, Kt.le.refl _, fun _ _ _ h => .inl h, ?_⟩
    rintro b (⟨i, g, hg, hl, hb'⟩ | hb')
    · rcases ht.blks i g b hg hl hb' with ⟨g0, hg0, _⟩ | hb''
      · cases hg0
      · exact .inl hb''
    · simp at hb'
  · rcases ht.fresh j hj with h | ⟨_, h⟩
    · exact absurd rfl h
    · exact h
theorem OwnR.same_bs {K K' : Kt} {l l' : Nat} {w w' : World} {sz sz' : Nat} {xs xs' : List SVal} {v : Value} {b b' : Nat} {bs bs' : List Nat} (h : OwnR K l w sz xs v b bs) (h' : OwnR K' l' w' sz' xs' v b' bs') : bs = bs' := by
  rcases h.2 with ⟨_, e, A, hv⟩ | ⟨e, arr, t, cap, hc, _, hv, _⟩
  · rcases h'.2 with ⟨_, e', A', hv'⟩ | ⟨e', arr', t', cap', hc', _, hv', _⟩
    · rw [e, e']
    · rw [hv] at hv'; injection hv' with h1 h2 h3; omega
  · rcases h'.2 with ⟨_, e', A', hv'⟩ | ⟨e', arr', t', cap', hc', _, hv', _⟩
    · rw [hv] at hv'; injection hv' with h1 h2 h3; omega
    · rw [hv] at hv'; injection hv' with h1 h2 h3
      injection h1 with h1; injection h1 with h1
      rw [e, e', h1]
theorem ownBs_sub : ∀ (ss : List Shape) (bss : List (List Nat)), (ownBs ss bss).Sublist bss.flatten
  | [], bss => by cases bss <;> simp [ownBs]
  | s :: ss, [] => by cases s <;> simp [ownBs]
  | s :: ss, b :: bss => by
    have h := ownBs_sub ss bss
    have h2 : (ownBs ss bss).Sublist (b :: bss).flatten := by rw [List.flatten_cons]; exact h.trans (List.sublist_append_right _ _)
    cases s with
    | own sz => simp only [ownBs, List.flatten_cons]; exact List.Sublist.append (List.Sublist.refl _) h
    | _ => simpa only [ownBs] using h2
/-- What is handed back: the same rows, as they are now. -/
theorem backO_sound {H : Nat → FH} {K0 K1 : Kt} {l : Nat} {w0 w : World} {G : Gt} {st : St} {loc : Nat → Obj} {tmps : Array Value} {wr : List Nat}
    (hslots : ∀ t, IR K1 l loc G (st.env t) (tmps.getD t Go.undef)) (hobj : ∀ i g, G i = some g → OR H K1 l loc G w g (loc i)) :
    ∀ (ss : List Shape) (args : List SVal) (vals : List Value) (bss : List (List Nat)) (t : Nat) (bo : List (Nat × SVal)), XL H K0 l w0 ss args vals bss → backO st wr ss t = some bo → (∀ j v, vals[j]? = some v → t + j ∉ wr → tmps.getD (t + j) Go.undef = v) →
      (∀ p ∈ bo, loc p.1 = st.loc p.1) → BackR K1 l w ss vals bss (bo.map (·.2)) ∧ ∀ b ∈ ownBs ss bss, ∃ i g, G i = some g ∧ (loc i).live = true ∧ b ∈ g.bs
  | [], [], [], [], t, bo, _, hb, _, _ => by simp only [BackR, ownBs]; exact ⟨trivial, fun b hb => by simp at hb⟩
  | s :: ss, x :: xs, v :: vs, b :: bss, t, bo, hX, hb, hag, hl => by
    obtain ⟨hx, hX⟩ := hX
    have ihag : ∀ j u, vs[j]? = some u → t + 1 + j ∉ wr → tmps.getD (t + 1 + j) Go.undef = u := fun j u hj hn => by
      have := hag (j + 1) u (by simpa using hj) (by rwa [show t + (j + 1) = t + 1 + j by omega])
      rwa [show t + (j + 1) = t + 1 + j by omega] at this
    unfold backO at hb
    cases s with
    | own sz =>
      simp only [ownSz] at hb
      split at hb
      · cases hb
      · rename_i hwr
        split at hb
        · rename_i i henv
          split at hb
          · rename_i sz' ys hloc
            split at hb
            · rename_i hsz
              subst hsz
              obtain ⟨r, hr, hb⟩ := Option.bind_eq_some_iff.1 hb
              cases hb
              have hli : loc i = st.loc i := hl (i, .sl sz' true false ys) (by simp)
              obtain ⟨ih1, ih2⟩ := backO_sound hslots hobj ss xs vs bss (t + 1) r hX hr ihag fun p hp => hl p (by simp [hp])
              have hv : tmps.getD t Go.undef = v := by
                have := hag 0 v rfl (by simpa using hwr)
                simpa using this
              have hir := hslots t
              rw [henv, hv] at hir
              simp only [IR] at hir
              obtain ⟨_, g, hg, _, hval⟩ := hir
              have hval := hval (by rw [hli, hloc]; rfl)
              have hor := hobj i g hg
              rw [hli, hloc] at hor
              simp only [OR] at hor
              have hown := hor.2
              rw [← hval] at hown
              simp only [XS] at hx
              obtain ⟨xs0, blk0, _, hx0⟩ := hx
              have hbs := OwnR.same_bs hown hx0
              rw [hbs] at hown
              simp only [BackR, ownBs, List.map_cons]
              refine ⟨⟨ys, _, g.blk, rfl, hown, ih1⟩, fun c hc => ?_⟩
              rcases List.mem_append.1 hc with hc | hc
              · exact ⟨i, g, hg, by rw [hli, hloc]; rfl, by rw [hbs]; exact hc⟩
              · exact ih2 c hc
            · cases hb
          · cases hb
        · cases hb
    | _ =>
      simp only [ownSz] at hb
      obtain ⟨ih1, ih2⟩ := backO_sound hslots hobj ss xs vs bss (t + 1) bo hX hb ihag hl
      simp only [BackR, ownBs]
      exact ⟨ih1, ih2⟩
theorem finish_sound {f : Nat} {fn : Func} {c : Ctx} {K : Kt} {G : Gt} {ov : List Value} {st : St} {a : Act} {w : World} {r r0 : Res} {v : Value} {K0 : Kt} {O : Nat → Prop} {l : Nat} {J Jx : Prot} {vals : List Value} {bss : List (List Nat)} {w0 : World}
    (hc : c = { P := P, H := H, l := l, w0 := w0, O := O, K0 := K0, J := if isGen H f = true then J else Tr, Jx := if isGen H f = true then Jx else Tr, nt := fn.ntmps })
    (hs : Sim c K G ov [] st a w) {rs : List IVal} (hv : IR K c.l st.loc G (match rs with | [r] => r | rs => .tup rs) v) (hrs : mapO (resI P st) fn.results.toList = some rs) (hfin : finish P H f fn st = some r) (hr : st.stop = false ∨ isGen H f = false → r = r0)
    {args : List SVal} (hXL : XL H K0 l w0 (H f).params args vals bss) (hnd : bss.flatten.Nodup) (hag : ∀ j u, vals[j]? = some u → j ∉ wrB fn → a.tmps.getD j Go.undef = u) : GoodPost P H f r0 K0 O l J Jx vals bss w0 (.returned v) w := by
  unfold finish at hfin
  rw [hrs] at hfin
  simp only [Option.bind_some] at hfin
  obtain ⟨e, he, hfin⟩ := Option.bind_eq_some_iff.1 hfin
  split at hfin
  rotate_left; · cases hfin
  rename_i hcd
  simp only [Bool.and_eq_true] at hcd
  have hex := expS_inv 6 _ _ _ he
  have hcl := expS_cl hex
  have hcH : c.H = H := by rw [hc]
  have hcl' : c.l = l := by rw [hc]
  have hcO : c.O = O := by rw [hc]
  have hcw : c.w0 = w0 := by rw [hc]
  have hcK : c.K0 = K0 := by rw [hc]
  have hcJ : isGen H f = true → c.J = J ∧ c.Jx = Jx := fun h => by rw [hc]; simp [h]
  obtain ⟨hX, hlive⟩ := expS_sound hs (ids := e.brw) (by rw [hcH]; exact hex) (fun i hi => hi) v hv
  have hs1 := hs.freeze _ hcl
  have hlive1 : ∀ i ∈ e.con, ∃ g, G i = some g ∧ (frzS st.loc e.brw i).live = true := fun i hi => by rw [frzS_con (disjB_spec hcd.2 hi)]; exact hlive i hi
  have hnodup := bsO_nodup hs (nodupB_spec hcd.1) hlive
  generalize hK1 : frzK K G st.loc e.brw w = K1 at *
  have hmem : ∀ b ∈ bsO G e.con, b < w.heap.size ∧ ¬ c.O b ∧ (∀ o, K1 b o = none) ∧ OwnB c (frzS st.loc e.brw) G [] b := fun b hb => by
    obtain ⟨i, hi, g, hg, hb⟩ := mem_bsO.1 hb
    obtain ⟨g', hg', hl⟩ := hlive1 i hi
    rw [hg] at hg'; cases hg'
    obtain ⟨k1, k2, _, k4⟩ := hs1.own i g hg hl b hb
    exact ⟨k1, k2, k4, .inl ⟨i, g, hg, hl, hb⟩⟩
  rw [hcl', hcH] at hX
  have hbase : Kok K1 w ∧ K0.le K1 ∧ (∀ b o u, O b → K1 b o = some u → K0 b o = some u) ∧ SameW w0 w ∧ (∀ b, O b → vw w b = vw w0 b) :=
    ⟨hs1.kok, by rw [← hcK]; exact hs1.k0, fun b o u hb hu => by rw [← hcK]; exact hs1.kO b o u (by rw [hcO]; exact hb) hu, by rw [← hcw]; exact hs1.same, fun b hb => by rw [← hcw]; exact hs1.frame b (by rw [hcO]; exact hb)⟩
  obtain ⟨b1, b2, b3, b4, b5⟩ := hbase
  have alt1 : (H f).back = false → st.stop = false ∨ isGen H f = false → e.x = r0.r → (isGen H f = true → r0.out = st.out) → GoodPost P H f r0 K0 O l J Jx vals bss w0 (.returned v) w := by
    intro hback hst hx hout
    refine ⟨v, K1, rfl, b1, b2, b3, b4, b5, .inl ⟨bsO G e.con, [], ov, by rw [← hx]; exact hX, by simpa using hnodup, fun b hb => ?_, (fun h => by rw [hback] at h; cases h), fun _ => rfl, fun hg => ?_⟩⟩
    · simp only [List.append_nil] at hb
      obtain ⟨k1, k2, k3, _⟩ := hmem b hb
      exact ⟨k1, by rw [← hcO]; exact k2, k3⟩
    · have hst' : st.stop = false := hst.resolve_right (by rw [hg]; simp)
      refine ⟨by rw [hout hg, ← hcl']; exact hs1.outs hst', ?_⟩
      have := hs1.hJ _ _ _ _ K1 (· ∈ bsO G e.con) w (hs1.prot hst') ⟨SameW.refl _, fun _ _ _ => rfl, fun _ _ _ _ h => h, Kt.le.refl _, fun _ _ _ h => .inl h, fun b hb => .inl (hmem b hb).2.2.2⟩
      rw [(hcJ hg).1] at this
      exact this
  split at hfin
  · rename_i hstop
    split at hfin
    · rename_i hsr
      cases hfin
      cases hg : isGen H f with
      | false =>
        have := hr (.inr hg)
        exact alt1 hsr.2 (.inr hg) (by rw [← this]) (fun h => by rw [hg] at h; cases h)
      | true =>
        obtain ⟨pre, hp⟩ := hs1.protx hstop
        refine ⟨v, K1, rfl, b1, b2, b3, b4, b5, .inr ⟨hg, stop_VR hX hsr.1, pre, ?_⟩⟩
        have := hs1.hJx _ _ _ _ K1 (fun _ => False) w hp ⟨SameW.refl _, fun _ _ _ => rfl, fun _ _ _ _ h => h, Kt.le.refl _, fun _ _ _ h => .inl h, fun b hb => hb.elim⟩
        rw [(hcJ hg).2] at this
        exact this
    · cases hfin
  · rename_i hstop
    split at hfin
    · rename_i hback
      cases hfin
      have hst : st.stop = false := by simpa using hstop
      have := hr (.inl hst)
      exact alt1 hback (.inl hst) (by rw [← this]) (fun h => by rw [← this, h]; simp)
    · rename_i hback
      obtain ⟨bo, hbo, hfin⟩ := Option.bind_eq_some_iff.1 hfin
      split at hfin
      · rename_i hcond
        obtain ⟨hng, hcon, hdis⟩ := hcond
        cases hfin
        have hr1 := hr (.inr hng)
        have hcon' : e.con = [] := List.isEmpty_iff.1 hcon
        have hkeep : ∀ p ∈ bo, frzS st.loc e.brw p.1 = st.loc p.1 := fun p hp => frzS_con (disjB_spec hdis (List.mem_map.2 ⟨p, hp, rfl⟩))
        obtain ⟨hB, hO⟩ := backO_sound (w := w) (fun t => by rw [← hcl']; exact hs1.slots t) (fun i g hg => by rw [← hcl', ← hcH]; exact hs1.objs i g hg) (H f).params args vals bss 0 bo hXL hbo (fun j u hj hn => by rw [Nat.zero_add] at hn ⊢; exact hag j u hj hn) hkeep
        have hb0 : bsO G e.con = [] := by rw [hcon']; rfl
        rw [hb0] at hX
        refine ⟨v, K1, rfl, b1, b2, b3, b4, b5, .inl ⟨[], ownBs (H f).params bss, ov, by rw [← hr1]; exact hX, by rw [List.nil_append]; exact hnd.sublist (ownBs_sub _ _), fun b hb => ?_, fun _ => ⟨rfl, by rw [← hr1]; exact hB⟩, fun h => absurd h hback, fun h => by rw [hng] at h; cases h⟩⟩
        rw [List.nil_append] at hb
        obtain ⟨i, g, hg, hl, hbg⟩ := hO b hb
        obtain ⟨k1, k2, _, k4⟩ := hs1.own i g hg hl b hbg
        exact ⟨k1, by rw [← hcO]; exact k2, k4⟩
      · cases hfin
theorem body_good (hT : ∀ f args r, T f args = some r → Good P H f args r) (hm : P.follows .mixedOrders = true) (hN : P.funcs.all (fun fn => !(fn.name == "runtime.NumGoroutine")) = true)
    {fuel f : Nat} {args : List SVal} {r : Res} (h : bodyE P H T fuel f args = some r) : Good P H f args r := by
  unfold bodyE at h
  split at h
  rotate_left; · cases h
  rename_i fn hf
  split at h
  rotate_left; · cases h
  rename_i code hb
  split at h
  rotate_left; · cases h
  rename_i hl
  refine ⟨enter_ok hN hf (by rw [hb]; rfl), ?_⟩
  intro K O l J Jx vals bss w hk hO hX hnd hbl hJ hJx hgen
  have hlen := XL_flat hX
  have hstt : Stable Tr := fun _ _ _ _ _ _ _ _ _ => trivial
  have hJs : Stable (if isGen H f = true then J else Tr) := by split <;> assumption
  have hJxs : Stable (if isGen H f = true then Jx else Tr) := by split <;> assumption
  obtain ⟨G, hs, hnf⟩ := init_sim (P := P) (nt := fn.ntmps) hk hO hX hnd hbl hJs hJxs (by
    cases hg : isGen H f with
    | false => trivial
    | true => exact (hgen hg).1) (by omega)
  refine callsIn_wide.1 (callsIn_of_wp_marks (n := 0) hf hb trivial ?_)
  refine code_ok hT hm (fun d hd => range_ok hT d hd) 100 Res Fence.wide 0 _ (isGen H f) true r.out _ r r 0 code _ K G [] [] _ w _ (fun t => t ∈ wrB fn) { tmps := vals.toArray ++ Array.replicate (fn.ntmps - vals.toArray.size) undef, defers := [] } (.inl rfl) (fun _ => rfl) rfl rfl ?_ ?_ h (fun _ => rfl) ?_ hs hnf (fun t ht => by simpa [wrB, hb] using ht) (fun _ _ => rfl) ?_
  · intro hg
    simp only [hg, if_true]
    exact (hgen hg).2
  · intro hg
    simp [hg]
  · intro hg x st' hk' hst
    have key : finish P H f fn st' = some r → ∃ rest, r.out = st'.out ++ rest := fun hfin => by
      unfold finish at hfin
      obtain ⟨rs, _, hfin⟩ := Option.bind_eq_some_iff.1 hfin
      obtain ⟨e, _, hfin⟩ := Option.bind_eq_some_iff.1 hfin
      rw [hst] at hfin
      split at hfin
      · simp only [Bool.false_eq_true, if_false] at hfin
        split at hfin
        · cases hfin; exact ⟨[], by simp [hg]⟩
        · obtain ⟨bo, _, hfin⟩ := Option.bind_eq_some_iff.1 hfin
          split at hfin
          · rename_i hcond
            rw [hg] at hcond; cases hcond.1
          · cases hfin
      · cases hfin
    cases x with
    | normal => exact key hk'
    | ret => exact key hk'
    | exit id => cases hk'
    | goto l => cases hk'
  · rintro x st' r' K' G' ov' ds' a' w' hk' hr' hs' _ hagr
    have hag : ∀ j u, vals[j]? = some u → j ∉ wrB fn → a'.tmps.getD j Go.undef = u := fun j u hj hn => by
      rw [hagr j hn]
      have hj' := (List.getElem?_eq_some_iff.1 hj)
      obtain ⟨h1, h2⟩ := hj'
      simp only [Array.getD_eq_getD_getElem?]
      rw [Array.getElem?_append_left (by simpa using h1)]
      simp [hj]
    have key : finish P H f fn st' = some r' → LeavesInM Fence.wide 0 P fn a'.tmps (GoodPost P H f r K O l J Jx vals bss w) a'.defers .returning w' := fun hfin => by
      have hfin0 := hfin
      unfold finish at hfin0
      obtain ⟨rs, hrs, _⟩ := Option.bind_eq_some_iff.1 hfin0
      have ha : a' = { a' with defers := ds'.map mark } := by rw [← hs'.dfs]
      rw [hs'.dfs]
      rw [ha] at hs'
      exact leaves_marks hrs (fun v w'' hv hs'' => finish_sound rfl hs'' hv hrs hfin hr' hX hnd hag) ds' w' hs'
    cases x with
    | normal => exact key hk'
    | ret => exact key hk'
    | exit id => cases hk'
    | goto l => cases hk'
/-- Primitives told by hand. -/
theorem TN_good {prim : Nat → Option ((Nat → List SVal → Option Res) → List SVal → Option Res)} (hm : P.follows .mixedOrders = true) (hN : P.funcs.all (fun fn => !(fn.name == "runtime.NumGoroutine")) = true)
    (hp : ∀ T, (∀ f args r, T f args = some r → Good P H f args r) → ∀ f p args r, prim f = some p → p T args = some r → Good P H f args r) : ∀ (k f : Nat) (args : List SVal) (r : Res), TN P H prim k f args = some r → Good P H f args r
  | 0, _, _, _, h => by simp [TN] at h
  | k + 1, f, args, r, h => by
    simp only [TN] at h
    split at h
    · rename_i p hpf
      exact hp _ (TN_good hm hN hp k) f p args r hpf h
    · exact body_good (TN_good hm hN hp k) hm hN h
end
end Go.Lm
