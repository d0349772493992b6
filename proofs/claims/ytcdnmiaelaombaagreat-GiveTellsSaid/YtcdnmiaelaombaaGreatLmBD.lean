/- A part of the proof. -/
import Derived.Test.YtcdnmiaelaombaaGreatLmBC
import Derived.OrdersIn
set_option linter.unusedVariables false
set_option linter.unusedSimpArgs false
set_option linter.unnecessarySimpa false
set_option linter.all false
section
namespace Go.Lm
section
variable {P : Program} {c : Ctx} {K : Kt} {G : Gt} {ov : List Value} {ds : List Nat} {st : St} {a : Act} {w : World}
mutual
theorem shOk_XS {H : Nat → FH} {K : Kt} {l : Nat} {w : World} : ∀ (s : Shape) (x : SVal) (v : Value), shOk s x = true → VR K l x v → XS H K l w s x v []
  | .plain, x, v, _, hv => by simp only [XS]; exact ⟨rfl, hv⟩
  | .scalar, x, v, _, hv => by simp only [XS]; exact ⟨rfl, hv⟩
  | .slc, x, v, _, hv => by simp only [XS]; exact ⟨rfl, hv⟩
  | .rp m, .rp cs, v, h, hv => by simp only [XS]; exact ⟨rfl, hv, cs, rfl, by simpa [shOk] using h⟩
  | .agg ss, .agg cs, v, h, hv => by
    simp only [shOk] at h
    simp only [VR] at hv
    obtain ⟨vals, rfl, hv⟩ := hv
    simp only [XS]
    exact ⟨cs, vals, rfl, rfl, shOks_XSs ss cs vals h hv⟩
  | .rp _, .undef, _, h, _ => by simp [shOk] at h
  | .rp _, .un, _, h, _ => by simp [shOk] at h
  | .rp _, .int _ _, _, h, _ => by simp [shOk] at h
  | .rp _, .bool _, _, h, _ => by simp [shOk] at h
  | .rp _, .str _, _, h, _ => by simp [shOk] at h
  | .rp _, .sl _ _ _ _, _, h, _ => by simp [shOk] at h
  | .rp _, .mb _, _, h, _ => by simp [shOk] at h
  | .rp _, .fn _ _, _, h, _ => by simp [shOk] at h
  | .rp _, .bf _ _, _, h, _ => by simp [shOk] at h
  | .rp _, .agg _, _, h, _ => by simp [shOk] at h
  | .rp _, .tup _, _, h, _ => by simp [shOk] at h
  | .rp _, .nilp, _, h, _ => by simp [shOk] at h
  | .rp _, .nilfn, _, h, _ => by simp [shOk] at h
  | .rp _, .yld, _, h, _ => by simp [shOk] at h
  | .rp _, .cch _, _, h, _ => by simp [shOk] at h
  | .agg _, .undef, _, h, _ => by simp [shOk] at h
  | .agg _, .un, _, h, _ => by simp [shOk] at h
  | .agg _, .int _ _, _, h, _ => by simp [shOk] at h
  | .agg _, .bool _, _, h, _ => by simp [shOk] at h
  | .agg _, .str _, _, h, _ => by simp [shOk] at h
  | .agg _, .sl _ _ _ _, _, h, _ => by simp [shOk] at h
  | .agg _, .mb _, _, h, _ => by simp [shOk] at h
  | .agg _, .fn _ _, _, h, _ => by simp [shOk] at h
  | .agg _, .bf _ _, _, h, _ => by simp [shOk] at h
  | .agg _, .rp _, _, h, _ => by simp [shOk] at h
  | .agg _, .tup _, _, h, _ => by simp [shOk] at h
  | .agg _, .nilp, _, h, _ => by simp [shOk] at h
  | .agg _, .nilfn, _, h, _ => by simp [shOk] at h
  | .agg _, .yld, _, h, _ => by simp [shOk] at h
  | .agg _, .cch _, _, h, _ => by simp [shOk] at h
  | .own _, _, _, h, _ => by simp [shOk] at h
  | .box _, _, _, h, _ => by simp [shOk] at h
  | .iter, _, _, h, _ => by simp [shOk] at h
  | .yld, _, _, h, _ => by simp [shOk] at h
  | .tup _, _, _, h, _ => by simp [shOk] at h
  | .boxs _, _, _, h, _ => by simp [shOk] at h
theorem shOks_XSs {H : Nat → FH} {K : Kt} {l : Nat} {w : World} : ∀ (ss : List Shape) (xs : List SVal) (vs : List Value), shOks ss xs = true → VRs K l xs vs → XSs H K l w ss xs vs []
  | [], [], vs, _, hv => by simp only [VRs] at hv; subst hv; simp [XSs]
  | s :: ss, x :: xs, vs, h, hv => by
    simp only [shOks, Bool.and_eq_true] at h
    simp only [VRs] at hv
    obtain ⟨v, vt, rfl, h1, h2⟩ := hv
    simp only [XSs]
    exact ⟨x, xs, v, vt, [], [], rfl, rfl, rfl, shOk_XS s x v h.1 h1, shOks_XSs ss xs vt h.2 h2⟩
  | [], _ :: _, _, h, _ => by simp [shOks] at h
  | _ :: _, [], _, h, _ => by simp [shOks] at h
end
theorem shOks_XL {H : Nat → FH} {K : Kt} {l : Nat} {w : World} : ∀ {ss : List Shape} {xs : List SVal} {vs : List Value}, shOks ss xs = true → VRs K l xs vs → XL H K l w ss xs vs (xs.map fun _ => [])
  | [], [], vs, _, hv => by simp only [VRs] at hv; subst hv; trivial
  | s :: ss, x :: xs, vs, h, hv => by
    simp only [shOks, Bool.and_eq_true] at h
    simp only [VRs] at hv
    obtain ⟨v, vt, rfl, h1, h2⟩ := hv
    exact ⟨shOk_XS s x v h.1 h1, shOks_XL h.2 h2⟩
  | [], _ :: _, _, h, _ => by simp [shOks] at h
  | _ :: _, [], _, h, _ => by simp [shOks] at h
theorem shOks_gen : ∀ {ss : List Shape} {xs : List SVal}, shOks ss xs = true → (ss.any fun | .yld => true | _ => false) = false
  | [], _, _ => rfl
  | s :: ss, x :: xs, h => by
    simp only [shOks, Bool.and_eq_true] at h
    simp only [List.any_cons, shOks_gen h.2, Bool.or_false]
    cases s <;> simp_all [shOk]
  | _ :: _, [], h => by simp [shOks] at h
theorem map_nil_flat {α β : Type} : ∀ (xs : List α), (xs.map fun _ => ([] : List β)).flatten = []
  | [] => rfl
  | _ :: xs => by simp [map_nil_flat xs]
/-- A function value that is known only as a pure one is called. -/
theorem callV_sound (hs : Sim c K G ov ds st a w) {T : Nat → List SVal → Option Res} (hT : ∀ f args r, T f args = some r → Good P c.H f args r) {id : Nat} {x y : SVal} {ivs : List IVal} {vals : List Value} {r : List (SVal × List Nat)} {fv : Value}
    (hx : VR K c.l x fv) (hv : IRs K c.l st.loc G ivs vals) (h1 : mapO (exps st.loc 6) ivs = some r) (h2 : callV c.H T x (r.map (·.1)) = some y) {rd : List Nat} :
    ∃ f first caps, fv = .func (.func f) (List.toArray first) (List.toArray caps) ∧ EnterOk P f ∧ Calls P f (first ++ vals ++ caps).toArray w (CallOk c G ov ds st a id { val := .v y, rd := rd, wr := frzL st.loc (r.flatMap (·.2)) }) := by
  obtain ⟨hcl, hvr⟩ := exps_list hs h1 hv
  have hs1 := hs.freeze _ hcl
  generalize hids : r.flatMap (·.2) = ids at *
  generalize hK1 : frzK K G st.loc ids w = K1 at *
  have hle1 : K.le K1 := hK1 ▸ hs.frzK_le ids
  unfold callV at h2
  have main : ∀ (f : Nat) (fi ca : List SVal) (fiv cav : List Value), VRs K1 c.l fi fiv → VRs K1 c.l ca cav → fv = .func (.func f) fiv.toArray cav.toArray → shOks (c.H f).params (fi ++ r.map (·.1) ++ ca) = true → ∀ res, T f (fi ++ r.map (·.1) ++ ca) = some res → (∀ K v w bs, XS c.H K c.l w (c.H f).res res.r v bs → bs = [] ∧ VR K c.l res.r v) → res.r = y →
        ∃ f' first' caps', fv = .func (.func f') (List.toArray first') (List.toArray caps') ∧ EnterOk P f' ∧ Calls P f' (first' ++ vals ++ caps').toArray w (CallOk c G ov ds st a id { val := .v y, rd := rd, wr := frzL st.loc ids }) := by
    intro f fi ca fiv cav hfi hca hfv hok res hres hplain hy
    have hgood := hT _ _ _ hres
    have hng : isGen c.H f = false := shOks_gen hok
    have hXL := shOks_XL (H := c.H) (w := w) hok ((hfi.append hvr).append hca)
    refine ⟨f, fiv, cav, hfv, hgood.1, Calls.mono (hgood.2 K1 (fun b => b < w.heap.size) c.l (fun _ _ _ _ => True) (fun _ _ _ _ => True) _ _ w hs1.kok (fun b h => h) hXL (by rw [map_nil_flat]; exact List.nodup_nil) (fun b hb => by rw [map_nil_flat] at hb; simp at hb)
      (fun _ _ _ _ _ _ _ _ _ => trivial) (fun _ _ _ _ _ _ _ _ _ => trivial) (fun h => by rw [hng] at h; cases h)) ?_⟩
    rintro e w' ⟨v, K', rfl, hkok, hle, hKO, hsame, hframe, hpost⟩
    obtain ⟨bs, bk, ov', hX, _⟩ := hpost.resolve_right fun h => by rw [hng] at h; cases h.1
    obtain ⟨rfl, hvy⟩ := hplain _ _ _ _ hX
    have hnew : ∀ b o u, K' b o = some u → K1 b o = some u ∨ w.heap.size ≤ b := fun b o u hu => by
      by_cases hb : b < w.heap.size
      · exact .inl (hKO b o u hb hu)
      · exact .inr (by omega)
    have hs2 := hs1.growK K' w' hsame hframe hkok hle hnew
    refine ⟨v, K', G, rfl, ?_, v_IR (hy ▸ hvy), fun i h => .inl h⟩
    rw [updL_frzL]; exact hs2
  split at h2
  · rename_i f caps
    simp only [VR] at hx
    obtain ⟨capv, rfl, hcap⟩ := hx
    have main := main f [] caps [] capv (by simp only [VRs]) (hcap.mono hle1) rfl
    simp only [List.nil_append] at main
    split at h2
    all_goals first
      | (rename_i hres
         split at h2
         · rename_i hok
           obtain ⟨res, h3, h4⟩ := Option.bind_eq_some_iff.1 h2
           cases h4
           exact main hok res h3 (fun K v w bs hX => by rw [hres] at hX; simp only [XS] at hX; exact hX) rfl
         · cases h2)
      | cases h2
  · rename_i f fi
    simp only [VR] at hx
    obtain ⟨fiv, rfl, hfi⟩ := hx
    have main := main f fi [] fiv [] (hfi.mono hle1) (by simp only [VRs]) rfl
    simp only [List.append_nil] at main
    split at h2
    all_goals first
      | (rename_i hres
         split at h2
         · rename_i hok
           obtain ⟨res, h3, h4⟩ := Option.bind_eq_some_iff.1 h2
           cases h4
           exact main hok res h3 (fun K v w bs hX => by rw [hres] at hX; simp only [XS] at hX; exact hX) rfl
         · cases h2)
      | cases h2
  · cases h2
/-- A call that shows what is one's own, and answers a number or a truth. -/
theorem callB_sound (hs : Sim c K G ov ds st a w) {T : Nat → List SVal → Option Res} (hT : ∀ f args r, T f args = some r → Good P c.H f args r) {id f : Nat} {ivs : List IVal} {vals : List Value} {u : Upd} (hng : isGen c.H f = false)
    (hv : IRs K c.l st.loc G ivs vals) (h : callB c.H T st f ivs some = some u) : EnterOk P f ∧ Calls P f vals.toArray w (CallOk c G ov ds st a id u) := by
  obtain ⟨es, x, h0, h1, h2, h3, h4, h5, h6⟩ := callB_spec h
  cases h6
  have hex := exArgs_spec h1 h3
  have hcl : Closed st.loc (es.flatMap (·.brw)) := exps_cl hex
  obtain ⟨hXL, _⟩ := exps_XL hs (ids := es.flatMap (·.brw)) hex (fun i hi => hi) hv
  have hs1 := hs.freeze _ hcl
  generalize hK1 : frzK K G st.loc (es.flatMap (·.brw)) w = K1 at *
  have hflat := flat_bsO G es
  rw [h2] at hflat
  have hflat : (es.map fun e => bsO G e.con).flatten = [] := hflat
  have hgood := hT _ _ _ h4
  refine ⟨hgood.1, Calls.mono (hgood.2 K1 (fun b => b < w.heap.size) c.l (fun _ _ _ _ => True) (fun _ _ _ _ => True) vals _ w hs1.kok (fun b h => h) hXL (by rw [hflat]; exact List.nodup_nil) (fun b hb => by rw [hflat] at hb; simp at hb)
    (fun _ _ _ _ _ _ _ _ _ => trivial) (fun _ _ _ _ _ _ _ _ _ => trivial) (fun h => by rw [hng] at h; cases h)) ?_⟩
  rintro e w' ⟨v, K', rfl, hkok, hle, hKO, hsame, hframe, hpost⟩
  obtain ⟨bs, bk, ov', hX, _⟩ := hpost.resolve_right fun h => by rw [hng] at h; cases h.1
  have hvy : VR K c.l x.r v := by
    have h7 : VR K' c.l x.r v := by
      rcases h0 with h0 | h0 <;> (rw [h0] at hX; simp only [XS, XS0] at hX; exact hX.2)
    cases hx : x.r <;> rw [hx] at h5 h7 <;> first | (simp [isSc1] at h5; done) | (simp only [VR] at h7 ⊢; exact h7)
  refine ⟨v, K, G, rfl, ?_, v_IR hvy, fun i h => .inl h⟩
  have hle1 : K.le K1 := hK1 ▸ hs.frzK_le _
  exact hs.growK K w' hsame hframe (fun b o v hv => hkok b o v (hle b o v (hle1 b o v hv))) (Kt.le.refl _) fun _ _ _ h => .inl h
end
end Go.Lm
end
section
namespace Go.Lm
def FOk (F : Fence) : Prop := F = Fence.wide ∨ ∃ l, F = Fence.wide.inRound l
theorem FOk.fn {F : Fence} (h : FOk F) (f : Nat) : F.fn f := by rcases h with rfl | ⟨l, rfl⟩ <;> trivial
theorem FOk.depth {F : Fence} (h : FOk F) : F.depth = none := by rcases h with rfl | ⟨l, rfl⟩ <;> rfl
theorem FOk.calls {F : Fence} (h : FOk F) {n : Nat} {P : Program} {f : Nat} {args : Array Value} {w : World} {R : Ending → World → Prop} (hc : Calls P f args w R) : CallsIn F n P f args w R := by
  rcases h with rfl | ⟨l, rfl⟩
  · exact callsIn_wide.2 hc
  · exact (callsIn_wide (n := n)).2 hc
section
variable {P : Program} {c : Ctx} {K : Kt} {G : Gt} {ov : List Value} {ds : List Nat} {st : St} {a : Act} {w : World} {F : Fence} {n : Nat} {Q : Exit → Act → World → Prop} {next : Act → World → Prop}
theorem op_ran (hF : FOk F) {o : Oper} (hnd : ∀ c, o.op ≠ .defer c) {v : Value} {w' : World} (h : (execOp a.eval o).run P w = .ok (.value v) w' ∨ ((execOp a.eval o).run P w = .ok .skip w' ∧ v = Go.undef)) (hn : next (a.put o.dst v) w') : o.wpIn F n P a w next Q := by
  refine ⟨fun f _ => hF.fn f, ?_⟩
  rw [Oper.semAt_eq _ _ _ hnd]
  rcases h with h | ⟨h, rfl⟩
  · rw [h, Oper.uponIn_value]; exact hn
  · rw [h, Oper.uponIn_skip]; exact hn
theorem op_entered (hF : FOk F) {o : Oper} (hnd : ∀ c, o.op ≠ .defer c) {f : Nat} {args : Array Value} {w' : World} (h : (execOp a.eval o).run P w = .ok (.enter f args) w') {R : Ending → World → Prop} (hc : Calls P f args w' R) (hR : ∀ e w'', R e w'' → ∃ v, e = .returned v ∧ next (a.put o.dst v) w'') : o.wpIn F n P a w next Q := by
  refine ⟨fun f _ => hF.fn f, ?_⟩
  rw [Oper.semAt_eq _ _ _ hnd, h, Oper.uponIn_enter]
  refine ⟨fun hd => absurd hd (by rw [hF.depth]; simp), CallsIn.mono (hF.calls hc) ?_⟩
  intro e w'' hr
  obtain ⟨v, rfl, hv⟩ := hR e w'' hr
  exact hv
theorem exec_callF {o : Oper} {cl : Call} {g : Operand} (ho : o.op = .call cl) (hc : cl.callee = .value g) {f : Nat} {first caps : List Value} (hg : a.eval g = .func (.func f) first.toArray caps.toArray) (he : EnterOk P f) :
    (execOp a.eval o).run P w = .ok (.enter f (first ++ (cl.args.map a.eval).toList ++ caps).toArray) w := by
  have : (first ++ (cl.args.map a.eval).toList ++ caps).toArray = first.toArray ++ cl.args.map a.eval ++ caps.toArray := by simp
  simp only [execOp, ho, resolve, hc, hg, Deferred.ofValue, Sem.run_bind, Sem.run_pure, Result.andThen_ok, invoke, this]
  have := he (first.toArray ++ cl.args.map a.eval ++ caps.toArray) w
  simpa using this
theorem exec_call {o : Oper} {cl : Call} {g : Operand} (ho : o.op = .call cl) (hc : cl.callee = .value g) {f : Nat} {caps : List Value} (hg : a.eval g = .func (.func f) #[] caps.toArray) (he : EnterOk P f) :
    (execOp a.eval o).run P w = .ok (.enter f ((cl.args.map a.eval).toList ++ caps).toArray) w := by
  have : ((cl.args.map a.eval).toList ++ caps).toArray = cl.args.map a.eval ++ caps.toArray := by simp
  simp only [execOp, ho, resolve, hc, hg, Deferred.ofValue, Sem.run_bind, Sem.run_pure, Result.andThen_ok, invoke, this]
  have := he (#[] ++ cl.args.map a.eval ++ caps.toArray) w
  simpa using this
/-- Every operation of a region, calls too; no yield. -/
theorem op_wp (hF : FOk F) (hs : Sim c K G ov ds st a w) {T : Nat → List SVal → Option Res} (hT : ∀ f args r, T f args = some r → Good P c.H f args r) {o : Oper} (hd : dstOk c.nt o.dst = true) {id : Nat} (hfr : ∀ i, id ≤ i → i < id + 32 → G i = none) {u : Upd}
    (h : opC P c.H T st id o some = some u)
    (hn : ∀ K' G' v w', Sim c K' G' ov ds (st.apply o.dst u) (a.put o.dst v) w' → (∀ i, G' i ≠ none → G i ≠ none ∨ (id ≤ i ∧ i < id + 32)) → next (a.put o.dst v) w') : o.wpIn F n P a w next Q := by
  have hfin : ∀ e w', CallOk c G ov ds st a id u e w' → ∃ v, e = .returned v ∧ next (a.put o.dst v) w' := by
    rintro e w' ⟨v, K', G', rfl, h1, h2, h3⟩
    refine ⟨v, rfl, hn K' G' v w' ?_ h3⟩
    have := h1.put o.dst u.val v hd h2
    have e : st.apply o.dst u = { st with loc := updL st.loc u.wr }.put o.dst u.val := by cases o.dst <;> rfl
    rw [e]; exact this
  by_cases hc : isFCall o = true
  · unfold isFCall at hc
    split at hc
    · rename_i cl ho
      split at hc
      · rename_i g hg
        have hnd : ∀ c, o.op ≠ .defer c := fun c e => by rw [ho] at e; cases e
        simp only [opC, ho, hg] at h
        have hev := ev_sound (P := P) hs 0 g
        have hargs := evs_sound (P := P) hs cl.argTypes cl.args
        split at h
        · rename_i f caps hx
          rw [hx] at hev
          simp only [IR] at hev
          obtain ⟨cv, hv, hcv⟩ := hev
          split at h
          · cases h
          · rename_i hng
            split at h
            · obtain ⟨he, hcall⟩ := callB_sound (id := id) hs hT (by simpa using hng) (hargs.append hcv) h
              exact op_entered hF hnd (exec_call ho hg hv he) hcall hfin
            obtain ⟨es, x, h1, h2, h3, h4, h5⟩ := callE_spec h
            cases h5
            have hgood := hT _ _ _ h3
            exact op_entered hF hnd (exec_call ho hg hv hgood.1) (call_sound hs hgood (by simpa using hng) (hargs.append hcv) hfr h1 h2 h4) hfin
        · rename_i x hx
          rw [hx] at hev
          obtain ⟨r, h1, h⟩ := Option.bind_eq_some_iff.1 h
          obtain ⟨y, h2, h⟩ := Option.bind_eq_some_iff.1 h
          cases h
          obtain ⟨f, first, caps, hv, he, hcall⟩ := callV_sound (id := id) hs hT (IR_v hev) hargs h1 h2
          exact op_entered hF hnd (exec_callF ho hg hv he) hcall hfin
        · cases h
      · cases hc
    · cases hc
  · have hnd : ∀ c, o.op ≠ .defer c := fun c e => by simp [opC, e] at h
    obtain ⟨v, w', K', G', hrun, hs', hfr'⟩ := op_sound hs hd (hfr id (Nat.le_refl _) (by omega)) (by simpa using hc) h
    exact op_ran hF hnd hrun (hn K' G' v w' hs' hfr')
theorem Sim.world (hs : Sim c K G ov ds st a w) {w' : World} (hsame : SameW w w') (hk : w'.heap = w.heap) : Sim c K G ov ds st a w' :=
  hs.growK K w' hsame (fun b _ => vw_of (by rw [hk])) (fun b o v hv => (hs.kok b o v hv).of_heap (by rw [hk])) (Kt.le.refl _) fun _ _ _ h => .inl h
end
end Go.Lm
end
section
namespace Go.Lm
theorem put_out (st : St) (d : Option Nat) (x : IVal) : (st.put d x).out = st.out ∧ (st.put d x).stop = st.stop ∧ (st.put d x).loc = st.loc := by cases d <;> exact ⟨rfl, rfl, rfl⟩
theorem app_out (st : St) (d : Option Nat) (u : Upd) : (st.apply d u).out = st.out ∧ (st.apply d u).stop = st.stop := by cases d <;> exact ⟨rfl, rfl⟩
theorem both_spec {α : Type} {p q : Option α} {r : α} (h : both p q = some r) : p = some r ∧ ∃ r', q = some r' := by
  obtain ⟨r', h1, h⟩ := Option.bind_eq_some_iff.1 h; exact ⟨h, r', h1⟩
section
variable {P : Program} {H : Nat → FH} {T : Nat → List SVal → Option Res}
/-- The four things that a wanted operation may be. -/
theorem goC_cases {α : Type} {dr : Bool} {nt id i : Nat} {o : Oper} {st : St} {fs : List Foot} {k : St → List Foot → Option α} {r : α} (h : goC P H T dr nt id i o st fs k = some r) :
    dstOk nt o.dst = true ∧
    ((∃ u, opC P H T st id o some = some u ∧ k (st.apply o.dst u) (fs ++ [⟨i, u.rd, u.wr.map (·.1)⟩]) = some r) ∨
     (∃ cl g e, o.op = .call cl ∧ cl.callee = .value g ∧ ev P st 0 g = .yld ∧ dr = false ∧ st.stop = false ∧ tellE st.loc (evs P st cl.argTypes cl.args) = some e ∧ e.2.all (fun j => !(st.loc j).live) = true ∧
        k { st.put o.dst (.v (.bool true)) with out := st.out ++ [e.1] } (fs ++ [⟨i, [], []⟩]) = some r ∧ ∃ r', k { st.put o.dst (.v (.bool false)) with out := st.out ++ [e.1], stop := true } (fs ++ [⟨i, [], []⟩]) = some r') ∨
     (∃ cl g f caps es x, o.op = .call cl ∧ cl.callee = .value g ∧ ev P st 0 g = .clo f caps ∧ isGen H f = true ∧ dr = false ∧ st.stop = false ∧ exArgs H st f (evs P st cl.argTypes cl.args ++ caps) = some es ∧
        (nodupB (es.flatMap (·.con)) && disjB (es.flatMap (·.con)) (es.flatMap (·.brw)) && ((evs P st cl.argTypes cl.args ++ caps).length == (H f).params.length)) = true ∧ T f (es.map (·.x)) = some x ∧
        (H f).res = .scalar ∧ (callU H st.loc id f es x).rd.all (fun j => !(st.loc j).live) = true ∧
        k { st.put o.dst (.v x.r) with out := st.out ++ x.out } (fs ++ [⟨i, (callU H st.loc id f es x).rd, []⟩]) = some r ∧
        ∃ r', k { st.put o.dst (.v (stopVal P f)) with stop := true } (fs ++ [⟨i, (callU H st.loc id f es x).rd, []⟩]) = some r')) := by
  unfold goC at h
  simp only at h
  have plain : opC P H T st id o (fun u => k (st.apply o.dst u) (fs ++ [⟨i, u.rd, u.wr.map (·.1)⟩])) = some r → ∃ u, opC P H T st id o some = some u ∧ k (st.apply o.dst u) (fs ++ [⟨i, u.rd, u.wr.map (·.1)⟩]) = some r := fun h => opC_cps h
  split at h
  · rename_i hd
    refine ⟨hd, ?_⟩
    split at h
    · rename_i g args argTypes ho
      split at h
      · rename_i hg
        split at h
        · cases h
        · rename_i hc
          simp only [Bool.or_eq_true, not_or, Bool.not_eq_true] at hc
          obtain ⟨e, he, h⟩ := tellC_cps h
          split at h
          · rename_i hlv
            obtain ⟨h1, h2⟩ := both_spec h
            exact .inr (.inl ⟨_, g, e, ho, rfl, hg, hc.1, hc.2, he, hlv, h1, h2⟩)
          · cases h
      · rename_i f caps hg
        split at h
        · rename_i hgen
          split at h
          · cases h
          · rename_i hc
            simp only [Bool.or_eq_true, not_or, Bool.not_eq_true] at hc
            obtain ⟨es, x, h1, h2, h3, _, h⟩ := callE_spec h
            split at h
            · rename_i hres hwr
              split at h
              · rename_i hrd
                obtain ⟨k1, k2⟩ := both_spec h
                have hval : (callU H st.loc id f es x).val = .v x.r := by simp [callU, hres, imp]
                rw [hval] at k1
                exact .inr (.inr ⟨_, g, f, caps, es, x, ho, rfl, hg, hgen, hc.1, hc.2, h1, h2, h3, hres, hrd, k1, k2⟩)
              · cases h
            · cases h
        · exact .inl (plain h)
      · exact .inl (plain h)
    · exact .inl (plain h)
  · cases h
theorem put_self (st : St) (d : Nat) : st.put (some d) (st.env d) = st := by
  have : upd st.env d (st.env d) = st.env := by
    funext j
    by_cases h : j = d
    · subst h; exact upd_same _ _ _
    · exact upd_other _ _ h
  simp only [St.put, this]
/-- Wanted or not. -/
theorem stepC_cases {α : Type} {dr : Bool} {nt : Nat} {ops : Array Oper} {id i : Nat} {o : Oper} {st : St} {fs : List Foot} {k : St → List Foot → Option α} {r : α} (h : stepC P H T dr nt ops id i o st fs k = some r) :
    ((o.guard = none ∨ ∃ j want d, o.guard = some (j, want) ∧ (ops[j]?).bind (·.dst) = some d ∧ st.env d = .v (.bool want)) ∧ goC P H T dr nt id i o st fs k = some r) ∨
    ((∃ j want d, o.guard = some (j, want) ∧ (ops[j]?).bind (·.dst) = some d ∧ (st.env d = .v (.bool !want) ∨ st.env d = .v .un)) ∧ skipC nt i o st fs k = some r) := by
  unfold stepC at h
  split at h
  · rename_i hg
    exact .inl ⟨.inl hg, h⟩
  · rename_i j want hg
    split at h
    · rename_i d hd
      split at h
      · rename_i x hx
        unfold guardX at h
        split at h
        · rename_i b
          split at h
          · rename_i hb
            subst hb
            rw [← hx, put_self] at h
            exact .inl ⟨.inr ⟨j, b, d, hg, hd, hx⟩, h⟩
          · rename_i hb
            have hb' : b = !want := by cases b <;> cases want <;> simp_all
            subst hb'
            rw [← hx, put_self] at h
            exact .inr ⟨⟨j, want, d, hg, hd, .inl hx⟩, h⟩
        · rw [← hx, put_self] at h
          exact .inr ⟨⟨j, want, d, hg, hd, .inr hx⟩, h⟩
        · cases h
      · cases h
    · cases h
theorem runC_pre {α : Type} {dr : Bool} {nt : Nat} {ops : Array Oper} {base : Nat} {full : List SVal} {r : α} {Kc : St → List Foot → Option α} (hK : ∀ st' fs', Kc st' fs' = some r → st'.stop = false → ∃ rest, full = st'.out ++ rest) :
    ∀ (l : List (Nat × Oper)) (st : St) (fs : List Foot), runC P H T dr nt ops base l st fs Kc = some r → st.stop = false → ∃ rest, full = st.out ++ rest
  | [], st, fs, h, hs => hK st fs h hs
  | (i, o) :: l, st, fs, h, hs => by
    have ext : ∀ {x y : List SVal}, (∃ rest, full = (x ++ y) ++ rest) → ∃ rest, full = x ++ rest := fun ⟨rest, h⟩ => ⟨_, by rw [h, List.append_assoc]⟩
    rcases stepC_cases h with ⟨_, h⟩ | ⟨_, h⟩
    · obtain ⟨_, h | h | h⟩ := goC_cases h
      · obtain ⟨u, _, h⟩ := h
        have := runC_pre hK l _ _ h (by rw [(app_out st o.dst u).2]; exact hs)
        rwa [(app_out st o.dst u).1] at this
      · obtain ⟨_, _, e, _, _, _, _, _, _, _, h, _⟩ := h
        exact ext (runC_pre hK l _ _ h ((put_out st o.dst _).2.1.trans hs))
      · obtain ⟨_, _, _, _, _, x, _, _, _, _, _, _, _, _, _, _, _, h, _⟩ := h
        exact ext (runC_pre hK l _ _ h ((put_out st o.dst _).2.1.trans hs))
    · unfold skipC at h
      split at h
      · have := runC_pre hK l _ _ h (by rw [(put_out st o.dst _).2.1]; exact hs)
        rwa [(put_out st o.dst _).1] at this
      · cases h
end
end Go.Lm
end
section
namespace Go.Lm
section
variable {P : Program} {c : Ctx} {K : Kt} {G : Gt} {ov : List Value} {ds : List Nat} {st : St} {a : Act} {w : World} {F : Fence} {n : Nat} {Q : Exit → Act → World → Prop} {next : Act → World → Prop}
theorem Sim.told (hs : Sim c K G ov ds st a w) (K' : Kt) (w' : World) (ov' : List Value) (out' : List SVal) (stop' : Bool) (hsame : SameW w w') (hle : K.le K') (hkok : Kok K' w')
    (hO : ∀ b, OwnB c st.loc G ds b ∨ c.O b → vw w' b = vw w b) (hKO : ∀ b o u, OwnB c st.loc G ds b ∨ c.O b → K' b o = some u → K b o = some u) (hout : stop' = false → VRs K' c.l out' ov')
    (hp : stop' = false → c.J ov' K' (OwnB c st.loc G ds) w') (hpx : stop' = true → ∃ pre, c.Jx pre K' (OwnB c st.loc G ds) w') : Sim c K' G ov' ds { st with out := out', stop := stop' } a w' := by
  refine Sim.ofTriv (st := { st with out := out', stop := stop' }) ?_ hs.hJ hs.hJx hp hpx
  refine hs.toTriv.step K' w' st.loc ov' out' stop' hsame hle hkok (fun i g hg => .inl ⟨rfl, fun hl b hb => hO b (.inl (.inl ⟨i, g, hg, hl, hb⟩))⟩) hs.gnone (fun b hb => hO b (.inr hb)) (fun b o u hb hu => hKO b o u (.inr hb) hu) ?_ (fun d hd => hO d (.inl (.inr hd))) hout
  intro i g hg hl b hb o
  cases hk : K' b o with
  | none => rfl
  | some u =>
    have := hKO b o u (.inl (.inl ⟨i, g, hg, hl, hb⟩)) hk
    rw [(hs.own i g hg hl b hb).2.2.2 o] at this
    cases this
theorem Sim.ownlt (hs : Sim c K G ov ds st a w) {b : Nat} (h : OwnB c st.loc G ds b ∨ c.O b) : b < w.heap.size := by
  rcases h with (⟨i, g, hg, hl, hb⟩ | hb) | hb
  · exact (hs.own i g hg hl b hb).1
  · exact hs.dlt hb
  · exact hs.olt hb
theorem Sim.ownK (hs : Sim c K G ov ds st a w) {b : Nat} (h : OwnB c st.loc G ds b) (o : Nat) : K b o = none := by
  rcases h with ⟨i, g, hg, hl, hb⟩ | hb
  · exact (hs.own i g hg hl b hb).2.2.2 o
  · cases hk : K b o with
    | none => rfl
    | some u =>
      exact ((hs.kok b o u hk).not (hs.dob b hb).1 rfl).elim
theorem VR_tup2 {K : Kt} {l : Nat} {x y : SVal} {u v : Value} (h : VR K l x u) (h' : VR K l y v) : VR K l (.tup [x, y]) (.tuple #[u, v]) := by
  simp only [VR, VRs]
  exact ⟨[u, v], rfl, u, [v], rfl, h, v, [], rfl, h', rfl⟩
theorem yArgs_one {K : Kt} {l : Nat} {x : SVal} {v : Value} (h : VR K l x v) (hx : isTupS x ≠ true) : yArgs v = #[v] := by
  cases x <;> simp only [VR] at h <;> first | (subst h; rfl) | exact h.elim | (obtain ⟨_, _, _, rfl, _⟩ := h; rfl) | (obtain ⟨_, _, rfl, _⟩ := h; rfl) | (obtain ⟨_, rfl, _⟩ := h; rfl) | (obtain ⟨_, _, _, _, rfl, _⟩ := h; rfl) | exact absurd rfl hx
theorem tellE_sound (hs : Sim c K G ov ds st a w) {ivs : List IVal} {e : SVal × List Nat} (h : tellE st.loc ivs = some e) (hlv : e.2.all (fun j => !(st.loc j).live) = true) {args : Array Value} (hv : IRs K c.l st.loc G ivs args.toList) :
    ∃ v, args = yArgs v ∧ VR K c.l e.1 v := by
  have key : ∀ {iv : IVal} {x : SVal} {js : List Nat} {v : Value}, exps st.loc 6 iv = some (x, js) → (∀ j ∈ js, j ∈ e.2) → IR K c.l st.loc G iv v → VR K c.l x v := fun {iv x js v} he hj hv =>
    exps_sound (Kt.le.refl _) hs.objs 6 iv x js v he hv fun j hj' g _ hl => by
      have := List.all_eq_true.1 hlv j (hj j hj')
      simp [hl] at this
  have hargs : ∀ {l : List Value}, args.toList = l → args = l.toArray := fun h => by rw [← h]
  unfold tellE at h
  split at h
  · rename_i iv
    obtain ⟨e', h1, h⟩ := Option.bind_eq_some_iff.1 h
    split at h
    · cases h
    · rename_i hne
      cases h
      obtain ⟨v, hv1, hv2⟩ := hv.one
      have hx := key h1 (fun j hj => hj) hv2
      exact ⟨v, by rw [yArgs_one hx hne]; exact hargs hv1, hx⟩
  · rename_i iv iv'
    obtain ⟨e1, h1, h⟩ := Option.bind_eq_some_iff.1 h
    obtain ⟨e2, h2, h⟩ := Option.bind_eq_some_iff.1 h
    cases h
    simp only [IRs] at hv
    obtain ⟨u, _, hv1, hu, v, _, rfl, hv', rfl⟩ := hv
    exact ⟨.tuple #[u, v], by simpa [yArgs] using hargs hv1, VR_tup2 (key h1 (fun j hj => by simp [hj]) hu) (key h2 (fun j hj => by simp [hj]) hv')⟩
  · cases h
theorem FOk.round {F : Fence} (h : FOk F) {n : Nat} {P : Program} {l f : Nat} {tmps : Array Value} {assign body : Code} {w : World} {R : Ending → World → Prop} (hc : RoundIn Fence.wide 0 P l f tmps assign body w R) : RoundIn F n P l f tmps assign body w R := by
  rcases h with rfl | ⟨l', rfl⟩
  · exact ⟨trivial, fun c' cs _ => hc.2 c' cs (room_wide _)⟩
  · exact ⟨trivial, fun c' cs _ => hc.2 c' cs (room_wide _)⟩
theorem VRs.one {l : Nat} {x : SVal} {v : Value} (h : VR K l x v) : VRs K l [x] [v] := by simp only [VRs]; exact ⟨v, [], rfl, h, rfl⟩
theorem VRs_mono {K K' : Kt} (h : K.le K') {l : Nat} {xs : List SVal} {vs : List Value} (hx : VRs K l xs vs) : VRs K' l xs vs := VRs.mono h xs vs hx
theorem goC_wp {α : Type} (hF : FOk F) (hs : Sim c K G ov ds st a w) {T : Nat → List SVal → Option Res} (hT : ∀ f args r, T f args = some r → Good P c.H f args r) {dr : Bool} {o : Oper} {id i : Nat} (hfr : ∀ i, id ≤ i → i < id + 32 → G i = none) {full : List SVal}
    (hy : dr = false → Yields P c.l c.J c.Jx full c.O) {fs : List Foot} {k : St → List Foot → Option α} {r : α} (h : goC P c.H T dr c.nt id i o st fs k = some r)
    (hpre : dr = false → st.stop = false → ∀ st' fs', k st' fs' = some r → st'.stop = false → ∃ rest, full = st'.out ++ rest)
    (hn : ∀ st' fs' r' ov' K' G' v w', k st' fs' = some r' → (st'.stop = false ∨ dr = true → r' = r ∧ (st.stop = false ∨ dr = true)) → Sim c K' G' ov' ds st' (a.put o.dst v) w' → (∀ i, G' i ≠ none → G i ≠ none ∨ (id ≤ i ∧ i < id + 32)) → next (a.put o.dst v) w') :
    o.wpIn F n P a w next Q := by
  obtain ⟨hd, h | h | h⟩ := goC_cases h
  · obtain ⟨u, h1, h2⟩ := h
    exact op_wp hF hs hT hd hfr h1 fun K' G' v w' hs' hf' => hn _ _ r ov K' G' v w' h2 (fun he => ⟨rfl, by rw [← (app_out st o.dst u).2]; exact he⟩) hs' hf'
  · obtain ⟨cl, g, e, ho, hc, hg, hdr, hstop, he, hlv, h1, r2, h2⟩ := h
    have hev := ev_sound (P := P) hs 0 g
    rw [hg] at hev
    simp only [IR] at hev
    have hav := evs_sound (P := P) hs cl.argTypes cl.args
    obtain ⟨v, hv1, hx⟩ := tellE_sound hs he hlv hav
    obtain ⟨rest, hrest⟩ := hpre hdr hstop _ _ h1 ((put_out st o.dst _).2.1.trans hstop)
    obtain ⟨fn, tmps, assign, body, hrun, hround⟩ := hy hdr ov K _ w st.out e.1 v (hs.prot hstop) (hs.outs hstop) hx ⟨rest, by rw [hrest]; simp⟩ hs.kok (fun b hb => hs.ownlt hb) fun b hb => hs.ownK hb
    have hexec : (execOp a.eval o).run P w = .ok (.round c.l fn tmps assign body) w := by
      simp only [execOp, ho, resolve, hc, hev, Deferred.ofValue, Sem.run_bind, Sem.run_pure, Result.andThen_ok, invoke]
      have e1 : (#[] : Array Value) ++ cl.args.map a.eval ++ #[] = yArgs v := by rw [hv1]; simp
      first | (rw [e1]; exact hrun) | (simp only [Array.empty_append, Array.append_empty] at e1 ⊢; rw [e1]; exact hrun)
    have hnd : ∀ c, o.op ≠ .defer c := fun c e => by rw [ho] at e; cases e
    refine ⟨fun f _ => hF.fn f, ?_⟩
    rw [Oper.semAt_eq _ _ _ hnd, hexec, Oper.uponIn_round]
    refine ⟨fun hd => absurd hd (by rw [hF.depth]; simp), ?_⟩
    refine RoundIn.mono (hF.round hround) ?_
    rintro en w' ⟨b, K', rfl, hle, hkok, hsame, hO, hKO, hJ, hJx⟩
    cases b with
    | true =>
      have h3 := hs.told K' w' (ov ++ [v]) (st.out ++ [e.1]) st.stop hsame hle hkok hO hKO (fun _ => (VRs_mono hle (hs.outs hstop)).append (VRs.one (hx.mono hle))) (fun _ => hJ rfl) (fun h => by rw [hstop] at h; cases h)
      have h4 := h3.put o.dst (.v (.bool true)) (.bool true) hd (v_IR (by simp [VR]))
      refine hn _ _ r (ov ++ [v]) K' G (.bool true) w' h1 (fun _ => ⟨rfl, .inl hstop⟩) ?_ fun i h => .inl h
      have e1 : ({ st.put o.dst (.v (.bool true)) with out := st.out ++ [e.1] } : St) = { st with out := st.out ++ [e.1], stop := st.stop }.put o.dst (.v (.bool true)) := by cases o.dst <;> rfl
      rw [e1]; exact h4
    | false =>
      have h3 := hs.told K' w' (ov ++ [v]) (st.out ++ [e.1]) true hsame hle hkok hO hKO (fun h => by cases h) (fun h => by cases h) (fun _ => ⟨_, hJx rfl⟩)
      have h4 := h3.put o.dst (.v (.bool false)) (.bool false) hd (v_IR (by simp [VR]))
      refine hn _ _ r2 (ov ++ [v]) K' G (.bool false) w' h2 (fun h => absurd h (by simp [hdr])) ?_ fun i h => .inl h
      have e1 : ({ st.put o.dst (.v (.bool false)) with out := st.out ++ [e.1], stop := true } : St) = { st with out := st.out ++ [e.1], stop := true }.put o.dst (.v (.bool false)) := by cases o.dst <;> rfl
      rw [e1]; exact h4
  · obtain ⟨cl, g, f, caps, es, x, ho, hc, hg, hgen, hdr, hstop, h1, h2, h3, hres, hrd, h4, r2, h5⟩ := h
    have hev := ev_sound (P := P) hs 0 g
    rw [hg] at hev
    simp only [IR] at hev
    obtain ⟨cv, hv, hcv⟩ := hev
    have hargs := (evs_sound (P := P) hs cl.argTypes cl.args).append hcv
    have hgood := hT _ _ _ h3
    simp only [Bool.and_eq_true, beq_iff_eq] at h2
    obtain ⟨⟨hnd', hdj⟩, hlen⟩ := h2
    have hex := exArgs_spec h1 hlen
    have hdead : ∀ j ∈ es.flatMap (·.con) ++ es.flatMap (·.brw), (st.loc j).live = false := fun j hj => by
      have := List.all_eq_true.1 hrd j hj
      simpa using this
    -- nothing is frozen, nothing handed over
    have hfK : frzK K G st.loc (es.flatMap (·.brw)) w = K := by
      funext b o
      unfold frzK
      rw [if_neg]
      rintro ⟨j, hj, g, _, hl, _⟩
      rw [hdead j (List.mem_append.2 (.inr hj))] at hl; cases hl
    obtain ⟨hXL, hlive⟩ := exps_XL hs (ids := es.flatMap (·.brw)) hex (fun i hi => hi) hargs
    rw [hfK] at hXL
    have hcon : es.flatMap (·.con) = [] := by
      cases hc : es.flatMap (·.con) with
      | nil => rfl
      | cons j js =>
        obtain ⟨gj, _, hlj⟩ := hlive j (by rw [hc]; simp)
        rw [hdead j (List.mem_append.2 (.inl (by rw [hc]; simp)))] at hlj; cases hlj
    have hflat := flat_bsO G es
    rw [hcon, bsO_nil] at hflat
    obtain ⟨rest, hrest⟩ := hpre hdr hstop _ _ h4 ((put_out st o.dst _).2.1.trans hstop)
    have hrest : full = st.out ++ x.out ++ rest := hrest
    have hnd : ∀ c, o.op ≠ .defer c := fun c e => by rw [ho] at e; cases e
    -- the promise, from within
    have hset : (fun b => OwnB c st.loc G ds b ∨ b ∈ (es.map fun e => bsO G e.con).flatten) = OwnB c st.loc G ds := by
      funext b; rw [hflat]; simp
    have hcall := hgood.2 K (fun b => OwnB c st.loc G ds b ∨ c.O b) c.l (fun ov' K' O w' => (K.le K' ∧ ∀ b, OwnB c st.loc G ds b → b < w'.heap.size ∧ ¬ O b ∧ ∀ o, K' b o = none) ∧ c.J (ov ++ ov') K' (fun b => OwnB c st.loc G ds b ∨ O b) w') (fun ov' K' O w' => K.le K' ∧ c.Jx (ov ++ ov') K' (fun b => OwnB c st.loc G ds b ∨ O b) w')
      _ (es.map fun e => bsO G e.con) w hs.kok (fun b hb => hs.ownlt hb) hXL (by rw [hflat]; exact List.nodup_nil) (fun b hb => by rw [hflat] at hb; simp at hb)
      (fun ov' K1 O1 w1 K2 O2 w2 h he => ⟨⟨h.1.1.trans he.kle, fun b hb => by
        obtain ⟨h1, h2, h3⟩ := h.1.2 b hb
        refine ⟨Nat.lt_of_lt_of_le h1 he.same.size, fun h => (he.onew b h).elim h2 (by omega), fun o => ?_⟩
        cases hk : K2 b o with
        | none => rfl
        | some u =>
          rcases he.knew b o u hk with h | h | h
          · rw [h3 o] at h; cases h
          · exact absurd h h2
          · omega⟩, hs.hJ _ _ _ _ _ _ _ h.2 ⟨he.same, fun b hb hn => he.keep b hb fun h => hn (.inr h), he.kok, he.kle, fun b o v hv => (he.knew b o v hv).imp (fun h => h) fun h => h.imp .inr fun h => h, fun b hb => hb.elim (fun h => .inl (.inl h)) fun h => (he.onew b h).imp .inr fun h => h⟩⟩)
      (fun ov' K1 O1 w1 K2 O2 w2 h he => ⟨h.1.trans he.kle, hs.hJx _ _ _ _ _ _ _ h.2 ⟨he.same, fun b hb hn => he.keep b hb fun h => hn (.inr h), he.kok, he.kle, fun b o v hv => (he.knew b o v hv).imp (fun h => h) fun h => h.imp .inr fun h => h, fun b hb => hb.elim (fun h => .inl (.inl h)) fun h => (he.onew b h).imp .inr fun h => h⟩⟩)
      (fun _ => ⟨⟨⟨Kt.le.refl _, fun b hb => ⟨hs.ownlt (.inl hb), by rw [hflat]; simp, hs.ownK hb⟩⟩, by rw [List.append_nil, hset]; exact hs.prot hstop⟩, by
        rintro ov' K1 O1 w1 xs y v ⟨⟨hle1, hown1⟩, hJ1⟩ hxs hy1 ⟨rest', hfull⟩ hkok1 hlt1 hno1
        obtain ⟨fn, tmps, assign, body, hrun, hround⟩ := hy hdr (ov ++ ov') K1 _ w1 (st.out ++ xs) y v hJ1 ((VRs_mono hle1 (hs.outs hstop)).append hxs) hy1 ⟨rest' ++ rest, by rw [hrest, hfull]; simp⟩ hkok1
          (fun b hb => hlt1 b (by rcases hb with (hb | hb) | hb; exact .inr (.inl hb); exact .inl hb; exact .inr (.inr hb))) (fun b hb o => hb.elim (fun hb => (hown1 b hb).2.2 o) fun hb => hno1 b hb o)
        refine ⟨fn, tmps, assign, body, hrun, RoundIn.mono hround ?_⟩
        rintro en w' ⟨b, K', rfl, hle, hkok, hsame, hO, hKO, hJ, hJx⟩
        have sw : ∀ b, O1 b ∨ (OwnB c st.loc G ds b ∨ c.O b) → (OwnB c st.loc G ds b ∨ O1 b) ∨ c.O b := fun b h => by
          rcases h with h | h | h
          · exact .inl (.inr h)
          · exact .inl (.inl h)
          · exact .inr h
        exact ⟨b, K', rfl, hle, hkok, hsame, fun b hb => hO b (sw b hb), fun b o u hb hu => hKO b o u (sw b hb) hu, fun h => ⟨⟨hle1.trans hle, fun b hb => by
          obtain ⟨j1, j2, j3⟩ := hown1 b hb
          refine ⟨Nat.lt_of_lt_of_le j1 hsame.size, j2, fun o => ?_⟩
          cases hk : K' b o with
          | none => rfl
          | some u => have := hKO b o u (.inl (.inl hb)) hk; rw [j3 o] at this; cases this⟩, by have := hJ h; rwa [List.append_assoc] at this⟩, fun h => ⟨hle1.trans hle, by have := hJx h; rwa [List.append_assoc] at this⟩⟩⟩)
    refine op_entered hF hnd (exec_call ho hc hv hgood.1) hcall ?_
    rintro e w' ⟨v, K', rfl, hkok, hle, hKO, hsame, hframe, hpost⟩
    have hown : ∀ P : Nat → Prop, (∀ b, ¬ P b) → (fun b => OwnB c st.loc G ds b ∨ P b) = OwnB c st.loc G ds := fun P hP => by funext b; simp [hP b]
    rcases hpost with ⟨bs, bk, ov', hX, hbn, hbb, _, _, hJ⟩ | ⟨_, hvs, pre, hJx⟩
    · rw [hres] at hX
      simp only [XS] at hX
      obtain ⟨rfl, hX⟩ := hX
      obtain ⟨hvo, _, hJ⟩ := hJ hgen
      rw [hown _ (by simp)] at hJ
      have h6 := hs.told K' w' (ov ++ ov') (st.out ++ x.out) st.stop hsame hle hkok hframe hKO (fun _ => (VRs_mono hle (hs.outs hstop)).append hvo) (fun _ => hJ) (fun h => by rw [hstop] at h; cases h)
      have h7 := h6.put o.dst (.v x.r) v hd (v_IR hX)
      refine ⟨v, rfl, hn _ _ r (ov ++ ov') K' G v w' h4 (fun _ => ⟨rfl, .inl hstop⟩) ?_ fun i h => .inl h⟩
      have e1 : ({ st.put o.dst (.v x.r) with out := st.out ++ x.out } : St) = { st with out := st.out ++ x.out, stop := st.stop }.put o.dst (.v x.r) := by cases o.dst <;> rfl
      rw [e1]; exact h7
    · obtain ⟨_, hJx⟩ := hJx
      rw [hown _ (fun _ h => h)] at hJx
      have h6 := hs.told K' w' ov st.out true hsame hle hkok hframe hKO (fun h => by cases h) (fun h => by cases h) (fun _ => ⟨_, hJx⟩)
      have h7 := h6.put o.dst (.v (stopVal P f)) v hd (v_IR hvs)
      refine ⟨v, rfl, hn _ _ r2 ov K' G v w' h5 (fun h => absurd h (by simp [hdr])) ?_ fun i h => .inl h⟩
      have e1 : ({ st.put o.dst (.v (stopVal P f)) with stop := true } : St) = { st with out := st.out, stop := true }.put o.dst (.v (stopVal P f)) := by cases o.dst <;> rfl
      rw [e1]; exact h7
end
end Go.Lm
end
section
namespace Go.Lm
section
variable {P : Program} {c : Ctx} {K : Kt} {G : Gt} {ov : List Value} {ds : List Nat} {st : St} {a : Act} {w : World} {F : Fence} {n : Nat} {Q : Exit → Act → World → Prop} {next : Act → World → Prop}
theorem yielded_bool (hs : Sim c K G ov ds st a w) {ops : Array Oper} {j d : Nat} (hd : (ops[j]?).bind (·.dst) = some d) {b : Bool} (h : st.env d = .v (.bool b)) : yielded ops a.tmps j = some b := by
  have h1 := hs.slots d
  rw [h] at h1
  have h2 := VR_bool (IR_v h1)
  rw [Array.getD_eq_getD_getElem?] at h2
  unfold yielded
  rw [hd, Option.bind_some]
  cases hg : a.tmps[d]? with
  | none => rw [hg] at h2; simp [Go.undef] at h2
  | some v => rw [hg] at h2; simp at h2; subst h2; rfl
theorem yielded_un (hs : Sim c K G ov ds st a w) {ops : Array Oper} {j d : Nat} (hd : (ops[j]?).bind (·.dst) = some d) (h : st.env d = .v .un) : yielded ops a.tmps j = none := by
  have h1 := hs.slots d
  rw [h] at h1
  have h2 := IR_v h1
  simp only [VR] at h2
  rw [Array.getD_eq_getD_getElem?] at h2
  unfold yielded
  rw [hd, Option.bind_some]
  cases hg : a.tmps[d]? with
  | none => rfl
  | some v => rw [hg] at h2; simp [Go.undef] at h2; subst h2; rfl
/-- One operation of a region: wanted or not. -/
theorem stepC_wp {α : Type} (hF : FOk F) (hs : Sim c K G ov ds st a w) {T : Nat → List SVal → Option Res} (hT : ∀ f args r, T f args = some r → Good P c.H f args r) {dr : Bool} {ops : Array Oper} {o : Oper} {id i : Nat} (hi : ops[i]? = some o) (hfr : ∀ i, id ≤ i → i < id + 32 → G i = none) {full : List SVal}
    (hy : dr = false → Yields P c.l c.J c.Jx full c.O) {fs : List Foot} {k : St → List Foot → Option α} {r : α} (h : stepC P c.H T dr c.nt ops id i o st fs k = some r)
    (hpre : dr = false → st.stop = false → ∀ st' fs', k st' fs' = some r → st'.stop = false → ∃ rest, full = st'.out ++ rest)
    (hn : ∀ st' fs' r' ov' K' G' v w', k st' fs' = some r' → (st'.stop = false ∨ dr = true → r' = r ∧ (st.stop = false ∨ dr = true)) → Sim c K' G' ov' ds st' (a.put o.dst v) w' → (∀ i, G' i ≠ none → G i ≠ none ∨ (id ≤ i ∧ i < id + 32)) → next (a.put o.dst v) w') :
    wpOpIn F n P ops Q i next a w := by
  unfold wpOpIn
  rw [hi]
  simp only
  rcases stepC_cases h with ⟨hg, h⟩ | ⟨hg, h⟩
  · have hw : Region.wanted o (yielded ops a.tmps) = true := by
      rcases hg with hg | ⟨j, want, d, hg, hd, he⟩
      · simp [Region.wanted, hg]
      · simp [Region.wanted, hg, yielded_bool hs hd he]
    rw [if_pos hw]
    exact goC_wp hF hs hT hfr hy h hpre hn
  · have hw : ¬ Region.wanted o (yielded ops a.tmps) = true := by
      obtain ⟨j, want, d, hg, hd, he | he⟩ := hg
      · simp [Region.wanted, hg, yielded_bool hs hd he]
      · simp [Region.wanted, hg, yielded_un hs hd he]
    rw [if_neg hw]
    refine ⟨fun f _ => hF.fn f, ?_⟩
    unfold skipC at h
    split at h
    · rename_i hd
      exact hn _ _ r ov K G Go.undef w h (fun hst => ⟨rfl, by rw [← (put_out st o.dst (.v .un)).2.1]; exact hst⟩) (hs.put o.dst (.v .un) Go.undef hd (by simp [IR, VR])) fun i h => .inl h
    · cases h
/-- Which ids are taken. -/
def Fr (G : Gt) (base N : Nat) (l : List Nat) : Prop := ∀ j, G j ≠ none → j < base + 32 * N ∧ ∀ i ∈ l, ¬ (base + 32 * i ≤ j ∧ j < base + 32 * i + 32)
theorem Fr.free {G : Gt} {base N i : Nat} {l : List Nat} (h : Fr G base N l) (hi : i ∈ l) : ∀ j, base + 32 * i ≤ j → j < base + 32 * i + 32 → G j = none := fun j h1 h2 => by
  cases hg : G j with
  | none => rfl
  | some g => exact absurd ⟨h1, h2⟩ ((h j (by rw [hg]; simp)).2 i hi)
theorem Fr.after {G G' : Gt} {base N i : Nat} {l l' : List Nat} (h : Fr G base N l) (hi : i < N) (hsub : ∀ j ∈ l', j ∈ l ∧ j ≠ i) (hG : ∀ j, G' j ≠ none → G j ≠ none ∨ (base + 32 * i ≤ j ∧ j < base + 32 * i + 32)) : Fr G' base N l' := fun j hj => by
  rcases hG j hj with h1 | ⟨h1, h2⟩
  · obtain ⟨k1, k2⟩ := h j h1
    exact ⟨k1, fun m hm => k2 m (hsub m hm).1⟩
  · refine ⟨by omega, fun m hm => ?_⟩
    have := (hsub m hm).2
    omega
theorem runC_wp {α : Type} (hF : FOk F) {T : Nat → List SVal → Option Res} (hT : ∀ f args r, T f args = some r → Good P c.H f args r) {dr : Bool} {ops : Array Oper} {base N : Nat} {full : List SVal}
    (hy : dr = false → Yields P c.l c.J c.Jx full c.O) {Kc : St → List Foot → Option α} {r0 : α} (hpre : dr = false → ∀ st' fs', Kc st' fs' = some r0 → st'.stop = false → ∃ rest, full = st'.out ++ rest)
    (hpost : ∀ st' fs' r' ov' K' G' a' w', Kc st' fs' = some r' → (st'.stop = false ∨ dr = true → r' = r0) → Sim c K' G' ov' ds st' a' w' → (∀ j, G' j ≠ none → j < base + 32 * N) → Q .normal a' w') :
    ∀ (l : List (Nat × Oper)) (st : St) (fs : List Foot) (r : α) (K : Kt) (G : Gt) (ov : List Value) (a : Act) (w : World), runC P c.H T dr c.nt ops base l st fs Kc = some r → (st.stop = false ∨ dr = true → r = r0) → Sim c K G ov ds st a w →
      (∀ p ∈ l, ops[p.1]? = some p.2 ∧ p.1 < N) → (l.map (·.1)).Nodup → Fr G base N (l.map (·.1)) → wpOpsIn F n P ops Q (l.map (·.1)) a w
  | [], st, fs, r, K, G, ov, a, w, h, hr, hs, _, _, hf => hpost st fs r ov K G a w h hr hs fun j hj => (hf j hj).1
  | (i, o) :: l, st, fs, r, K, G, ov, a, w, h, hr, hs, hl, hnd, hf => by
    simp only [List.map_cons] at hnd hf ⊢
    rw [wpOpsIn_cons]
    obtain ⟨hi, hiN⟩ := hl (i, o) (by simp)
    obtain ⟨hn1, hn2⟩ := List.nodup_cons.1 hnd
    refine stepC_wp hF hs hT hi (hf.free (by simp)) hy h (fun hdr hst st' fs' h' hst' => runC_pre (hpre hdr) l st' fs' (by rw [h', hr (.inl hst)]) hst') ?_
    intro st' fs' r' ov' K' G' v w' h' hr' hs' hG'
    exact runC_wp hF hT hy hpre hpost l st' fs' r' K' G' ov' _ w' h' (fun hst => by obtain ⟨e, hst0⟩ := hr' hst; rw [e, hr hst0]) hs' (fun p hp => hl p (by simp [hp])) hn2
      (hf.after hiN (fun j hj => ⟨by simp [hj], fun e => by subst e; exact hn1 hj⟩) hG')
end
end Go.Lm
end
section
namespace Go.Lm
section
variable {P : Program} {H : Nat → FH} {T : Nat → List SVal → Option Res}
theorem appendC_of {α : Type} {st : St} {id t : Nat} {s : IVal} {ys : List SVal} {rd : List Nat} {u : Upd} (h : appendC P st id t s ys rd some = some u) (k : Upd → Option α) : appendC P st id t s ys rd k = k u := by
  unfold appendC at h ⊢
  repeat' first
    | (cases h; rfl)
    | (cases h; done)
    | (obtain ⟨_, hb, h⟩ := Option.bind_eq_some_iff.1 h; rw [hb, Option.bind_some])
    | (split at h <;> first | (cases h; done) | (rename_i heq; first | rw [if_pos heq] | rw [if_neg heq] | simp only [heq]) | skip)
theorem callE_of' {α : Type} {st : St} {id f : Nat} {ivs : List IVal} {u : Upd} (h : callE H T st id f ivs (fun u _ => some u) = some u) (k : Upd → Option α) : callE H T st id f ivs (fun u _ => k u) = k u := by
  obtain ⟨es, x', h1, h2, h3, h4, h5⟩ := callE_spec h
  rw [callE_of _ h1 h2 h3 h4]
  cases h5; rfl
theorem callB_of' {α : Type} {st : St} {f : Nat} {ivs : List IVal} {u : Upd} (h : callB H T st f ivs some = some u) (k : Upd → Option α) : callB H T st f ivs k = k u := by
  obtain ⟨es, x, h0, h1, h2, h3, h4, h5, h6⟩ := callB_spec h
  cases h6
  exact callB_of k h0 h1 h2 h3 h4 h5
set_option maxHeartbeats 1600000 in
theorem opC_of {α : Type} {st : St} {id : Nat} {o : Oper} {u : Upd} (h : opC P H T st id o some = some u) (k : Upd → Option α) : opC P H T st id o k = k u := by
  cases ho : o.op <;> simp only [opC, ho, buildC_eq] at h ⊢ <;> repeat' first
    | (cases h; rfl)
    | (cases h; done)
    | exact callE_of' h k
    | exact callB_of' h k
    | exact appendC_of h k
    | (obtain ⟨_, hb, h⟩ := Option.bind_eq_some_iff.1 h; rw [hb, Option.bind_some])
    | (obtain ⟨b, hb, h⟩ := pickC_cps h; subst hb; cases b)
    | (split at h <;> first | (cases h; done) | (rename_i heq; first | rw [if_pos heq] | rw [if_neg heq] | simp only [heq]) | skip)
theorem mapO_congr {β γ : Type} {f g : β → Option γ} : ∀ {xs : List β} {ys : List γ}, mapO f xs = some ys → (∀ (j : Nat) (x : β) (y : γ), xs[j]? = some x → ys[j]? = some y → f x = some y → g x = some y) → mapO g xs = some ys
  | [], ys, h, _ => h
  | x :: xs, ys, h, hfg => by
    simp only [mapO, Option.bind_eq_some_iff] at h ⊢
    obtain ⟨y, h1, yt, h2, h3⟩ := h
    cases h3
    exact ⟨y, hfg 0 x y rfl rfl h1, yt, mapO_congr h2 fun j a b ha hb => hfg (j + 1) a b (by simpa using ha) (by simpa using hb), rfl⟩
theorem exps_congr {loc loc' : Nat → Obj} : ∀ (k : Nat) (iv : IVal) (x : SVal) (ids : List Nat), exps loc k iv = some (x, ids) → (∀ j ∈ ids, loc' j = loc j) → exps loc' k iv = some (x, ids)
  | 0, _, _, _, h, _ => by simp [exps] at h
  | k + 1, iv, x, ids, h, hl => by
    have many : ∀ {cs : List IVal} {r : List (SVal × List Nat)}, mapO (exps loc k) cs = some r → (∀ j ∈ r.flatMap (·.2), loc' j = loc j) → mapO (exps loc' k) cs = some r := fun {cs r} hm hj =>
      mapO_congr hm fun j c q _ hq hf => exps_congr k c q.1 q.2 hf fun i hi => hj i (List.mem_flatMap.2 ⟨q, List.mem_of_getElem? hq, hi⟩)
    cases iv with
    | v y => exact h
    | unk => exact h
    | it i => exact h
    | yld => exact h
    | tup vs => exact h
    | la i ver =>
      have hi : loc' i = loc i := by
        simp only [exps] at h
        split at h
        · split at h
          · cases h; exact hl i (by simp)
          · cases h
        · split at h
          · cases h; exact hl i (by simp)
          · cases h
        · cases h
      simpa only [exps, hi] using h
    | lt i ver lo =>
      have hi : loc' i = loc i := by
        simp only [exps] at h
        split at h
        · split at h
          · cases h; exact hl i (by simp)
          · cases h
        · split at h
          · cases h; exact hl i (by simp)
          · cases h
        · cases h
      simpa only [exps, hi] using h
    | lp i ver idx off =>
      simp only [exps] at h ⊢
      split at h
      · rename_i hc
        rw [if_pos hc]
        split at h
        · rename_i cs hb
          obtain ⟨r, h1, h⟩ := Option.bind_eq_some_iff.1 h
          cases h
          rw [hl i (by simp), hb]
          simp only
          rw [many h1 fun j hj => hl j (List.mem_cons_of_mem _ hj)]
          rfl
        · rename_i cs hb
          cases h
          rw [hl i (by simp), hb]
        · cases h
      · cases h
    | agg cs =>
      simp only [exps] at h ⊢
      obtain ⟨r, h1, h⟩ := Option.bind_eq_some_iff.1 h
      cases h
      rw [many h1 hl]; rfl
    | clo f cs =>
      simp only [exps] at h ⊢
      obtain ⟨r, h1, h⟩ := Option.bind_eq_some_iff.1 h
      cases h
      rw [many h1 hl]; rfl
/-- Every box that a view has led through can be viewed. -/
def Defd (loc : Nat → Obj) (ids : List Nat) : Prop := ∀ i ∈ ids, ∀ cs, loc i = .box cs → ∃ r, mapO (exps loc 6) cs = some r ∧ ∀ q ∈ r, ∀ j ∈ q.2, j ∈ ids
theorem Defd.flat {loc : Nat → Obj} {α : Type} {f : α → List Nat} {l : List α} (h : ∀ x ∈ l, Defd loc (f x)) : Defd loc (l.flatMap f) := by
  intro i hi cs hcs
  obtain ⟨x, hx, hi⟩ := List.mem_flatMap.1 hi
  obtain ⟨r, h1, h2⟩ := h x hx i hi cs hcs
  exact ⟨r, h1, fun q hq j hj => List.mem_flatMap.2 ⟨x, hx, h2 q hq j hj⟩⟩
theorem exps_defd {loc : Nat → Obj} : ∀ (k : Nat), k ≤ 6 → ∀ (iv : IVal) (x : SVal) (ids : List Nat), exps loc k iv = some (x, ids) → Defd loc ids
  | 0, _, _, _, _, h => by simp [exps] at h
  | k + 1, hk, iv, x, ids, h => by
    have many : ∀ {cs : List IVal} {r : List (SVal × List Nat)}, mapO (exps loc k) cs = some r → Defd loc (r.flatMap (·.2)) := fun {cs r} hm =>
      Defd.flat fun q hq => by
        obtain ⟨m, hm'⟩ := List.mem_iff_getElem?.1 hq
        obtain ⟨z, _, hf⟩ := mapO_get' hm hm'
        exact exps_defd k (by omega) z q.1 q.2 hf
    cases iv with
    | v y => simp only [exps, Option.some.injEq, Prod.mk.injEq] at h; obtain ⟨_, rfl⟩ := h; intro i hi; simp at hi
    | unk => simp [exps] at h
    | it i => simp [exps] at h
    | yld => simp [exps] at h
    | tup vs => simp [exps] at h
    | la i ver =>
      simp only [exps] at h
      split at h
      · rename_i hl
        split at h
        · cases h; intro i' hi' cs hcs; simp at hi'; subst hi'; rw [hl] at hcs; cases hcs
        · cases h
      · rename_i hl
        split at h
        · cases h; intro i' hi' cs hcs; simp at hi'; subst hi'; rw [hl] at hcs; cases hcs
        · cases h
      · cases h
    | lt i ver lo =>
      simp only [exps] at h
      split at h
      · rename_i hl
        split at h
        · cases h; intro i' hi' cs hcs; simp at hi'; subst hi'; rw [hl] at hcs; cases hcs
        · cases h
      · rename_i hl
        split at h
        · cases h; intro i' hi' cs hcs; simp at hi'; subst hi'; rw [hl] at hcs; cases hcs
        · cases h
      · cases h
    | lp i ver idx off =>
      simp only [exps] at h
      split at h
      · split at h
        · rename_i cs hl
          obtain ⟨r, h1, h⟩ := Option.bind_eq_some_iff.1 h
          cases h
          intro i' hi' cs' hcs
          simp only [List.mem_cons] at hi'
          rcases hi' with rfl | hi'
          · rw [hl] at hcs; cases hcs
            exact ⟨r, mapO_mono (fun z _ y hy => exps_le (show k ≤ 6 by omega) hy) h1, fun q hq j hj => List.mem_cons_of_mem _ (List.mem_flatMap.2 ⟨q, hq, hj⟩)⟩
          · obtain ⟨r', h2, h3⟩ := many h1 i' hi' cs' hcs
            exact ⟨r', h2, fun q hq j hj => List.mem_cons_of_mem _ (h3 q hq j hj)⟩
        · rename_i hl
          cases h; intro i' hi' cs hcs; simp at hi'; subst hi'; rw [hl] at hcs; cases hcs
        · cases h
      · cases h
    | agg cs =>
      simp only [exps] at h
      obtain ⟨r, h1, h⟩ := Option.bind_eq_some_iff.1 h
      cases h
      exact many h1
    | clo f cs =>
      simp only [exps] at h
      obtain ⟨r, h1, h⟩ := Option.bind_eq_some_iff.1 h
      cases h
      exact many h1
theorem frzL_congr {loc loc' : Nat → Obj} {ids : List Nat} (hd : Defd loc ids) (hl : ∀ j ∈ ids, loc' j = loc j) : frzL loc' ids = frzL loc ids := by
  unfold frzL
  have h1 : ids.filter (fun i => (loc' i).live) = ids.filter (fun i => (loc i).live) := List.filter_congr fun j hj => by rw [hl j hj]
  rw [h1]
  refine List.map_congr_left fun i hi => ?_
  have hi := (List.mem_filter.1 hi).1
  have : frzO loc' i = frzO loc i := by
    unfold frzO
    rw [hl i hi]
    cases hb : loc i with
    | box cs =>
      obtain ⟨r, h2, h3⟩ := hd i hi cs hb
      simp only
      rw [h2, mapO_congr (g := exps loc' 6) h2 fun j c q _ hq hf => exps_congr 6 c q.1 q.2 hf fun m hm => hl m (h3 q (List.mem_of_getElem? hq) m hm)]
    | _ => rfl
  rw [this]
end
end Go.Lm
end
section
namespace Go.Lm
section
variable {P : Program} {H : Nat → FH} {T : Nat → List SVal → Option Res}
/-! ### The slots that an operation reads -/
theorem evs_env {st st' : St} {ts : Array Nat} {xs : Array Operand} (h : ∀ x ∈ xs, ∀ t, ev P st' t x = ev P st t x) : evs P st' ts xs = evs P st ts xs := by
  unfold evs
  refine List.map_congr_left fun p hp => ?_
  have : p.1 ∈ xs.toList := by
    have := (List.mem_zipIdx hp).2.2
    rw [this]; exact List.getElem_mem _
  exact h p.1 (by simpa using this) _
theorem evl_env {st st' : St} {xs : List Operand} (h : ∀ x ∈ xs, ∀ t, ev P st' t x = ev P st t x) (t : Nat) : xs.map (ev P st' t) = xs.map (ev P st t) := List.map_congr_left fun x hx => h x hx t
theorem fold_env {st st' : St} {fs : Array Field} : ∀ {parts : List (Nat × Operand)} (_ : ∀ x ∈ parts.map (·.2), ∀ t, ev P st' t x = ev P st t x) (a0 : Option (List IVal)),
    parts.foldl (fun acc p => acc.bind fun cs => (fs[p.1]?).bind fun f => (cellsI P f.type (ev P st' f.type p.2)).bind fun new =>
        if f.offset + new.length ≤ cs.length ∧ (isAggT P f.type || allOne new) = true then some (setAt cs f.offset new) else none) a0 =
    parts.foldl (fun acc p => acc.bind fun cs => (fs[p.1]?).bind fun f => (cellsI P f.type (ev P st f.type p.2)).bind fun new =>
        if f.offset + new.length ≤ cs.length ∧ (isAggT P f.type || allOne new) = true then some (setAt cs f.offset new) else none) a0
  | [], _, _ => rfl
  | p :: parts, h, a0 => by
    simp only [List.foldl_cons]
    rw [fold_env (parts := parts) (fun x hx => h x (by simp [hx]))]
    congr 1
    have : ∀ t, ev P st' t p.2 = ev P st t p.2 := h p.2 (by simp)
    simp only [this]
theorem opC_env {α : Type} {st st' : St} {id : Nat} {o : Oper} {k : Upd → Option α} (hloc : st'.loc = st.loc) (h : ∀ x ∈ opnds o.op, ∀ t, ev P st' t x = ev P st t x) : opC P H T st' id o k = opC P H T st id o k := by
  have hex : ∀ f ivs, exArgs H st' f ivs = exArgs H st f ivs := fun f ivs => by unfold exArgs; rw [hloc]
  have hca : ∀ f ivs (k : Upd → Res → Option α), callE H T st' id f ivs k = callE H T st id f ivs k := fun f ivs k => by unfold callE; rw [hex, hloc]
  have hcb : ∀ f ivs (k : Upd → Option α), callB H T st' f ivs k = callB H T st f ivs k := fun f ivs k => by unfold callB; simp only [hex]
  have hap : ∀ t s ys rd (k : Upd → Option α), appendC P st' id t s ys rd k = appendC P st id t s ys rd k := fun t s ys rd k => by unfold appendC; rw [hloc]
  cases ho : o.op <;> simp only [ho, opnds, Op.operands] at h <;> simp only [opC, ho]
  case makeMap t r =>
    have h0 : st'.env 0 = st.env 0 := h (.tmp 0) (by simp) 0
    cases r <;> simp only [h0]
  case move x => rw [h x (by simp)]
  case assign x => rw [h x (by simp)]
  case pick x y z => rw [h x (by simp), h y (by simp), h z (by simp)]
  case box t x => rw [h x (by simp)]
  case load t x => rw [h x (by simp), hloc]
  case store t x y => rw [h x (by simp), h y (by simp), hloc]
  case fieldAddr t x f => rw [h x (by simp), hloc]
  case indexAddr t x y => rw [h x (by simp), h y (by simp), hloc]
  case extract x n => rw [h x (by simp)]
  case field t x f => rw [h x (by simp)]
  case binOp op t x y t' => rw [h x (by simp), h y (by simp)]
  case unOp op t x => rw [h x (by simp)]
  case convert s t x => rw [h x (by simp)]
  case nilCheck x => rw [h x (by simp), hloc]
  case makeFunc fn first caps =>
    cases fn <;> simp only
    rw [evl_env (fun x hx => h x (by simp [Array.mem_toList_iff.1 hx])) 0, show first.toList.map (ev P st' 0) = first.toList.map (ev P st 0) from evl_env (fun x hx => h x (by simp [Array.mem_toList_iff.1 hx])) 0, hloc]
  case build t parts =>
    simp only [buildC_eq]
    split
    · rw [fold_env (st := st) (fun x hx => h x (by simpa using hx))]
    · rfl
  case buildSlice t n parts =>
    have e : parts.toList.map (fun p => ev P st' (elemT P t) p.2) = parts.toList.map fun p => ev P st (elemT P t) p.2 := List.map_congr_left fun p hp => h p.2 (by simpa using ⟨p.1, Array.mem_toList_iff.1 hp⟩) _
    have e2 : mapO (fun p : Nat × Operand => cellsI P (elemT P t) (ev P st' (elemT P t) p.2)) parts.toList = mapO (fun p : Nat × Operand => cellsI P (elemT P t) (ev P st (elemT P t) p.2)) parts.toList := by
      have : ∀ (l : List (Nat × Operand)), (∀ p ∈ l, ∀ t, ev P st' t p.2 = ev P st t p.2) → mapO (fun p : Nat × Operand => cellsI P (elemT P t) (ev P st' (elemT P t) p.2)) l = mapO (fun p : Nat × Operand => cellsI P (elemT P t) (ev P st (elemT P t) p.2)) l := by
        intro l
        induction l with
        | nil => intro _; rfl
        | cons p l ih => intro hl; simp only [mapO]; rw [hl p (by simp), ih fun q hq => hl q (by simp [hq])]
      exact this _ fun p hp => h p.2 (by simpa using ⟨p.1, Array.mem_toList_iff.1 hp⟩)
    rw [e, e2, hloc]
  case slice t x lo hi mx =>
    have hx := h x (by simp)
    have hlo : lo.toList.map (ev P st' 0) = lo.toList.map (ev P st 0) := evl_env (fun y hy => h y (by cases lo <;> simp at hy ⊢; simp [hy])) 0
    have hhi : hi.toList.map (ev P st' 0) = hi.toList.map (ev P st 0) := evl_env (fun y hy => h y (by cases hi <;> simp at hy ⊢; simp [hy])) 0
    have hh : hi.map (ev P st' 0) = hi.map (ev P st 0) := by
      cases hi with
      | none => rfl
      | some y => simp only [Option.map_some]; rw [h y (by simp)]
    cases mx with
    | some m =>
      have hm := h m (by simp)
      simp only [hx, hh, hm]
    | none =>
      have hl2 : lo.map (ev P st' 0) = lo.map (ev P st 0) := by
        cases lo with
        | none => rfl
        | some y => simp only [Option.map_some]; rw [h y (by simp)]
      simp only [hx, hlo, hhi, hh, hl2, hloc]
  case call cl =>
    simp only [Call.operands] at h
    have ha : evs P st' cl.argTypes cl.args = evs P st cl.argTypes cl.args := evs_env fun x hx => h x (by simp [hx])
    cases hc : cl.callee with
    | value g =>
      simp only [hc] at h ⊢
      rw [h g (by simp), ha, hloc]
      simp only [hca, hcb]
    | invoke g n => rfl
    | builtin b => cases b <;> simp only [ha, hap, hloc]
end
end Go.Lm
end
section
namespace Go.Lm
section
variable {P : Program} {H : Nat → FH} {T : Nat → List SVal → Option Res}
/-! ### The objects that an operation reads -/
theorem ev_loc (st : St) (loc' : Nat → Obj) (t : Nat) (x : Operand) : ev P { st with loc := loc' } t x = ev P st t x := by cases x <;> rfl
theorem evs_loc (st : St) (loc' : Nat → Obj) (ts : Array Nat) (xs : Array Operand) : evs P { st with loc := loc' } ts xs = evs P st ts xs := evs_env fun _ _ _ => ev_loc _ _ _ _
theorem evf_loc (st : St) (loc' : Nat → Obj) (t : Nat) : ev P { st with loc := loc' } t = ev P st t := funext fun x => ev_loc _ _ _ _
theorem mapO_exps_congr {loc loc' : Nat → Obj} {ivs : List IVal} {r : List (SVal × List Nat)} (h : mapO (exps loc 6) ivs = some r) (hl : ∀ j ∈ r.flatMap (·.2), loc' j = loc j) : mapO (exps loc' 6) ivs = some r :=
  mapO_congr h fun j c q _ hq hf => exps_congr 6 c q.1 q.2 hf fun i hi => hl i (List.mem_flatMap.2 ⟨q, List.mem_of_getElem? hq, hi⟩)
theorem mapO_defd {loc : Nat → Obj} {ivs : List IVal} {r : List (SVal × List Nat)} (h : mapO (exps loc 6) ivs = some r) : Defd loc (r.flatMap (·.2)) := Defd.flat fun q hq => by
  obtain ⟨m, hm⟩ := List.mem_iff_getElem?.1 hq
  obtain ⟨z, _, hf⟩ := mapO_get' h hm
  exact exps_defd 6 (Nat.le_refl _) z q.1 q.2 hf
theorem arrAt_congr {loc loc' : Nat → Obj} {i ver : Nat} (h : loc' i = loc i) : arrAt loc' i ver = arrAt loc i ver := by unfold arrAt; rw [h]
theorem expS_congr {loc loc' : Nat → Obj} : ∀ (k : Nat) (s : Shape) (iv : IVal) (e : Ex), expS H loc k s iv = some e → (∀ j ∈ e.brw, loc' j = loc j) → (∀ j ∈ e.con, loc' j = loc j) → expS H loc' k s iv = some e
  | 0, _, _, _, h, _, _ => by simp [expS] at h
  | k + 1, s, iv, e, h, hb, hc => by
    have many : ∀ {ps : List (Shape × IVal)} {r : List Ex}, mapO (fun p => expS H loc k p.1 p.2) ps = some r → (∀ j ∈ r.flatMap (·.brw), loc' j = loc j) → (∀ j ∈ r.flatMap (·.con), loc' j = loc j) → mapO (fun p => expS H loc' k p.1 p.2) ps = some r := fun {ps r} hm h1 h2 =>
      mapO_congr hm fun j p e _ he hf => expS_congr k p.1 p.2 e hf (fun i hi => h1 i (List.mem_flatMap.2 ⟨e, List.mem_of_getElem? he, hi⟩)) fun i hi => h2 i (List.mem_flatMap.2 ⟨e, List.mem_of_getElem? he, hi⟩)
    cases s with
    | plain =>
      simp only [expS] at h ⊢
      obtain ⟨r, h1, h⟩ := Option.bind_eq_some_iff.1 h
      cases h
      rw [exps_congr 6 iv r.1 r.2 h1 hb]; rfl
    | slc =>
      simp only [expS] at h ⊢
      obtain ⟨r, h1, h⟩ := Option.bind_eq_some_iff.1 h
      cases h
      rw [exps_congr 6 iv r.1 r.2 h1 hb]; rfl
    | scalar => cases iv <;> simpa only [expS] using h
    | own sz =>
      cases iv with
      | la i ver =>
        simp only [expS] at h ⊢
        have hi : loc' i = loc i := by
          split at h
          · split at h
            · cases h; exact hc i (by simp)
            · cases h
          · cases h
        rw [hi]; exact h
      | v x =>
        have hi := expS_inv _ _ _ _ h
        cases hi with
        | ownNil h0 => simp [expS, h0]
      | _ => simp [expS] at h
    | box m =>
      cases iv with
      | lp i ver idx off =>
        simp only [expS] at h ⊢
        split at h
        · rename_i hcc
          rw [if_pos hcc]
          split at h
          · rename_i cs hl
            split at h
            · rename_i hm
              obtain ⟨r, h1, h⟩ := Option.bind_eq_some_iff.1 h
              cases h
              rw [hc i (by simp), hl]
              simp only
              rw [if_pos hm, mapO_exps_congr h1 hb]; rfl
            · cases h
          · cases h
        · cases h
      | _ => simp [expS] at h
    | rp m =>
      simp only [expS] at h ⊢
      obtain ⟨r, h1, h⟩ := Option.bind_eq_some_iff.1 h
      obtain ⟨x, ids⟩ := r
      simp only at h
      have hb' : ∀ j ∈ ids, loc' j = loc j := by
        split at h
        · split at h
          · cases h; exact hb
          · cases h
        · cases h
      rw [exps_congr 6 iv x ids h1 hb', Option.bind_some]; exact h
    | iter =>
      cases iv with
      | it i =>
        simp only [expS] at h ⊢
        have hi : loc' i = loc i := by
          split at h
          · cases h; exact hc i (by simp)
          · cases h
        rw [hi]; exact h
      | clo f caps =>
        simp only [expS] at h ⊢
        split at h
        · split at h
          · rename_i hcc
            rw [if_pos hcc]
            obtain ⟨r, h1, h⟩ := Option.bind_eq_some_iff.1 h
            cases h
            rw [many h1 hb hc]; rfl
          · cases h
        · cases h
      | _ => simp [expS] at h
    | yld => cases iv <;> simpa only [expS] using h
    | agg ss =>
      cases iv with
      | agg cs =>
        simp only [expS] at h ⊢
        split at h
        · rename_i hcc
          rw [if_pos hcc]
          obtain ⟨r, h1, h⟩ := Option.bind_eq_some_iff.1 h
          cases h
          rw [many h1 hb hc]; rfl
        · cases h
      | _ => simp [expS] at h
    | tup ss =>
      cases iv with
      | tup cs =>
        simp only [expS] at h ⊢
        split at h
        · rename_i hcc
          rw [if_pos hcc]
          obtain ⟨r, h1, h⟩ := Option.bind_eq_some_iff.1 h
          cases h
          rw [many h1 hb hc]; rfl
        · cases h
      | _ => simp [expS] at h
    | boxs ss =>
      cases iv with
      | lp i ver idx off =>
        simp only [expS] at h ⊢
        split at h
        · rename_i hcc
          rw [if_pos hcc]
          split at h
          · rename_i cs hl
            split at h
            · rename_i hm
              obtain ⟨r, h1, h⟩ := Option.bind_eq_some_iff.1 h
              cases h
              rw [hc i (by simp), hl]
              simp only
              rw [if_pos hm, many h1 hb fun j hj => hc j (List.mem_append.2 (.inl hj))]; rfl
            · cases h
          · cases h
        · cases h
      | _ => simp [expS] at h
theorem conW_congr {loc loc' : Nat → Obj} {back : Bool} : ∀ (zs : List (Shape × Ex)) (outs : List SVal), (∀ j ∈ zs.flatMap (·.2.con), loc' j = loc j) → conW loc' back zs outs = conW loc back zs outs
  | [], _, _ => rfl
  | (s, e) :: zs, outs, h => by
    rw [List.flatMap_cons] at h
    rw [conW_cons, conW_cons, conW_congr zs _ fun j hj => h j (List.mem_append.2 (.inr hj))]
    congr 1
    have hh : ∀ j ∈ e.con, loc' j = loc j := fun j hj => h j (List.mem_append.2 (.inl hj))
    unfold conH
    split
    · split
      · rename_i i hi
        rw [hh i (by rw [hi]; simp)]
      · rfl
    · rfl
theorem exps_Defd {loc : Nat → Obj} {s : Shape} {iv : IVal} {e : Ex} (h : ExpS H loc s iv e) : Defd loc e.brw := by
  have nil : Defd loc [] := by intro i hi; simp at hi
  have many : ∀ {ss : List Shape} {cs : List IVal} {r : List Ex}, ss.length = cs.length → r.length = ss.length → (∀ (j : Nat) (s : Shape) (c : IVal) (e : Ex), ss[j]? = some s → cs[j]? = some c → r[j]? = some e → Defd loc e.brw) → Defd loc (r.flatMap (·.brw)) := fun {ss cs r} h1 h2 h3 =>
    Defd.flat fun q hq => by
      obtain ⟨m, hm⟩ := List.mem_iff_getElem?.1 hq
      have hlt := (List.getElem?_eq_some_iff.1 hm).1
      exact h3 m _ _ q (List.getElem?_eq_getElem (by omega)) (List.getElem?_eq_getElem (by omega)) hm
  induction h with
  | plain h => exact exps_defd 6 (Nat.le_refl _) _ _ _ h
  | slc h => exact exps_defd 6 (Nat.le_refl _) _ _ _ h
  | rp h _ => exact exps_defd 6 (Nat.le_refl _) _ _ _ h
  | box _ _ h => exact mapO_defd h
  | iter _ h1 _ h2 _ ih => exact many h1 h2 ih
  | agg h1 h2 _ ih => exact many h1 h2 ih
  | tup h1 h2 _ ih => exact many h1 h2 ih
  | boxs _ h1 h2 _ ih => exact many h1 h2 ih
  | _ => exact nil
theorem callE_loc {st : St} {loc' : Nat → Obj} {id f : Nat} {ivs : List IVal} {u : Upd} (h : callE H T st id f ivs (fun u _ => some u) = some u) (hl : ∀ j ∈ u.rd, loc' j = st.loc j) : callE H T { st with loc := loc' } id f ivs (fun u _ => some u) = some u := by
  obtain ⟨es, x, h1, h2, h3, h4, h5⟩ := callE_spec h
  cases h5
  have hcon : ∀ j ∈ es.flatMap (·.con), loc' j = st.loc j := fun j hj => hl j (List.mem_append.2 (.inl hj))
  have hbrw : ∀ j ∈ es.flatMap (·.brw), loc' j = st.loc j := fun j hj => hl j (List.mem_append.2 (.inr hj))
  have e1 : exArgs H { st with loc := loc' } f ivs = some es := mapO_congr h1 fun j p e _ he hf => expS_congr 6 p.1 p.2 e hf (fun i hi => hbrw i (List.mem_flatMap.2 ⟨e, List.mem_of_getElem? he, hi⟩)) fun i hi => hcon i (List.mem_flatMap.2 ⟨e, List.mem_of_getElem? he, hi⟩)
  rw [callE_of _ e1 h2 h3 h4]
  have hd : Defd st.loc (es.flatMap (·.brw)) := Defd.flat fun e he => by
    obtain ⟨m, hm⟩ := List.mem_iff_getElem?.1 he
    obtain ⟨z, _, hf⟩ := mapO_get' h1 hm
    exact exps_Defd (expS_inv 6 _ _ _ hf)
  simp only [callU]
  rw [frzL_congr hd hbrw, conW_congr _ _ fun j hj => by
    obtain ⟨z, hz, hj⟩ := List.mem_flatMap.1 hj
    exact hcon j (List.mem_flatMap.2 ⟨z.2, (List.of_mem_zip hz).2, hj⟩)]
theorem callB_loc {st : St} {loc' : Nat → Obj} {f : Nat} {ivs : List IVal} {u : Upd} (h : callB H T st f ivs some = some u) (hl : ∀ j ∈ u.rd, loc' j = st.loc j) : callB H T { st with loc := loc' } f ivs some = some u := by
  obtain ⟨es, x, h0, h1, h2, h3, h4, h5, h6⟩ := callB_spec h
  cases h6
  have e1 : exArgs H { st with loc := loc' } f ivs = some es := mapO_congr h1 fun j p e _ he hf => expS_congr 6 p.1 p.2 e hf (fun i hi => hl i (List.mem_flatMap.2 ⟨e, List.mem_of_getElem? he, hi⟩)) fun i hi => by
    have : i ∈ es.flatMap (·.con) := List.mem_flatMap.2 ⟨e, List.mem_of_getElem? he, hi⟩
    rw [h2] at this; simp at this
  rw [callB_of _ h0 e1 h2 h3 h4 h5]
theorem opC_loc {st : St} {loc' : Nat → Obj} {id : Nat} {o : Oper} {u : Upd} (h : opC P H T st id o some = some u) (hl : ∀ j ∈ u.rd, loc' j = st.loc j) : opC P H T { st with loc := loc' } id o some = some u := by
  cases ho : o.op with
  | load t x =>
    simp only [opC, ho, ev_loc] at h ⊢
    split at h
    · rename_i i ver idx off hx
      have hi : loc' i = st.loc i := by
        split at h
        · split at h
          · obtain ⟨_, _, h⟩ := Option.bind_eq_some_iff.1 h
            cases h; exact hl i (by simp)
          · cases h
        · split at h
          · obtain ⟨_, _, h⟩ := Option.bind_eq_some_iff.1 h
            cases h; exact hl i (by simp)
          · cases h
        · split at h
          · obtain ⟨_, _, h⟩ := Option.bind_eq_some_iff.1 h
            split at h
            · obtain ⟨_, _, h⟩ := Option.bind_eq_some_iff.1 h
              cases h; exact hl i (by simp)
            · cases h
          · cases h
        · split at h
          · obtain ⟨_, _, h⟩ := Option.bind_eq_some_iff.1 h
            split at h
            · obtain ⟨_, _, h⟩ := Option.bind_eq_some_iff.1 h
              cases h; exact hl i (by simp)
            · cases h
          · cases h
        · cases h
      simp only [hi]; exact h
    · exact h
    · cases h
  | store t x y =>
    simp only [opC, ho, ev_loc] at h ⊢
    split at h
    · rename_i i ver idx off hx
      split at h
      · rename_i cs hb
        have hi : loc' i = st.loc i := by
          obtain ⟨_, _, h⟩ := Option.bind_eq_some_iff.1 h
          split at h
          · split at h
            · cases h; exact hl i (by simp)
            · cases h
          · cases h
        simp only [hi, hb]; exact h
      · rename_i ver' sz xs hb
        obtain ⟨new, k1, h⟩ := Option.bind_eq_some_iff.1 h
        obtain ⟨r, k2, h⟩ := Option.bind_eq_some_iff.1 h
        obtain ⟨e, k3, h⟩ := Option.bind_eq_some_iff.1 h
        split at h
        rotate_left; · cases h
        rename_i hek
        split at h
        · rename_i hc
          split at h
          · rename_i hok
            cases h
            have hi : loc' i = st.loc i := hl i (by simp)
            have hr : ∀ j ∈ r.flatMap (·.2), loc' j = st.loc j := fun j hj => hl j (List.mem_cons_of_mem _ hj)
            simp only [hi, hb]
            rw [k1, Option.bind_some, mapO_exps_congr k2 hr, Option.bind_some, k3, Option.bind_some, if_pos hek, if_pos hc, if_pos hok, frzL_congr (mapO_defd k2) hr]
          · cases h
        · cases h
      · cases h
    · cases h
  | fieldAddr s x f =>
    simp only [opC, ho, ev_loc] at h ⊢
    obtain ⟨d, k1, h⟩ := Option.bind_eq_some_iff.1 h
    rw [k1, Option.bind_some]
    split at h
    · rename_i i ver idx off hx
      split at h
      · rename_i hc
        cases h
        have hi : loc' i = st.loc i := hl i (by simp)
        exact if_pos (by rw [hi]; exact hc)
      · cases h
    · exact h
    · cases h
  | indexAddr t x ix =>
    simp only [opC, ho, ev_loc] at h ⊢
    split at h
    · rename_i hc
      rw [if_pos hc]
      split at h
      · split at h
        · exact h
        · rename_i i ver _
          have hi : loc' i = st.loc i := by
            obtain ⟨_, _, h⟩ := Option.bind_eq_some_iff.1 h
            split at h
            · obtain ⟨_, _, h⟩ := Option.bind_eq_some_iff.1 h
              cases h; exact hl i (by simp)
            · cases h
          rw [arrAt_congr hi]; exact h
        · cases h
      · cases h
    · cases h
  | nilCheck x =>
    simp only [opC, ho, ev_loc] at h ⊢
    split at h
    · exact h
    · rename_i i ver idx off hx
      split at h
      · rename_i hc
        cases h
        have hi : loc' i = st.loc i := hl i (by simp)
        exact if_pos (by rw [hi]; exact hc)
      · cases h
    · cases h
  | buildSlice t n parts =>
    simp only [opC, ho, ev_loc] at h ⊢
    split at h
    · rename_i hc
      rw [if_pos hc]
      obtain ⟨cs, k1, h⟩ := Option.bind_eq_some_iff.1 h
      obtain ⟨r, k2, h⟩ := Option.bind_eq_some_iff.1 h
      split at h
      · rename_i hc2
        cases h
        rw [k1, Option.bind_some, mapO_exps_congr k2 hl, Option.bind_some, if_pos hc2, frzL_congr (mapO_defd k2) hl]
      · cases h
    · cases h
  | slice t x lo hi mx =>
    simp only [opC, ho, ev_loc, evf_loc] at h ⊢
    split at h
    · exact h
    · split at h
      · rename_i hc
        rw [if_pos hc]
        split at h
        · exact h
        · rename_i i ver hx
          split at h
          · rename_i hl0 hlm hhm
            have hi : loc' i = st.loc i := by
              split at h
              · obtain ⟨_, _, h⟩ := Option.bind_eq_some_iff.1 h
                cases h; exact hl i (by simp)
              · cases h
            simp only [hi, hl0, hlm, hhm]; exact h
          · rename_i hl0 hlm hhm
            have hi : loc' i = st.loc i := by
              split at h
              · obtain ⟨_, _, h⟩ := Option.bind_eq_some_iff.1 h
                cases h; exact hl i (by simp)
              · cases h
            simp only [hi, hl0, hlm, hhm]; exact h
          · rename_i hno hno2
            obtain ⟨r, k0, h⟩ := Option.bind_eq_some_iff.1 h
            obtain ⟨lo', k1, h⟩ := Option.bind_eq_some_iff.1 h
            obtain ⟨hi', k2, h⟩ := Option.bind_eq_some_iff.1 h
            obtain ⟨y, k3, h⟩ := Option.bind_eq_some_iff.1 h
            cases h
            have hi : loc' i = st.loc i := by
              simp only [exps] at k0
              split at k0
              · split at k0
                · cases k0; exact hl i (by simp)
                · cases k0
              · split at k0
                · cases k0; exact hl i (by simp)
                · cases k0
              · cases k0
            split
            · rename_i h0 h1 h2
              rw [hi] at h0
              exact (hno _ _ _ _ h0 h1 h2).elim
            · rename_i h0 h1 h2
              rw [hi] at h0
              exact (hno2 _ _ _ _ h0 h1 h2).elim
            · rw [exps_congr 6 _ r.1 r.2 k0 hl, Option.bind_some, k1, Option.bind_some, k2, Option.bind_some, k3, Option.bind_some, frzL_congr (exps_defd 6 (Nat.le_refl _) _ _ _ k0) hl]
        · cases h
      · cases h
  | call cl =>
    cases hc : cl.callee with
    | invoke g n => simp [opC, ho, hc] at h
    | value g =>
      simp only [opC, ho, hc, ev_loc, evs_loc] at h ⊢
      split at h
      · split at h
        · cases h
        · rename_i hg
          rw [if_neg hg]
          split at h
          · rename_i hb
            rw [if_pos hb]
            exact callB_loc h hl
          · rename_i hb
            rw [if_neg hb]
            exact callE_loc h hl
      · obtain ⟨r, k1, h⟩ := Option.bind_eq_some_iff.1 h
        obtain ⟨y, k2, h⟩ := Option.bind_eq_some_iff.1 h
        cases h
        rw [mapO_exps_congr k1 hl, Option.bind_some, k2, Option.bind_some, frzL_congr (mapO_defd k1) hl]
      · cases h
    | builtin b =>
      cases b with
      | len =>
        simp only [opC, ho, hc, evs_loc] at h ⊢
        split at h
        · cases h
        · rename_i hok
          rw [if_neg hok]
          split at h
          · exact h
          · rename_i i ver _
            obtain ⟨q, k1, h⟩ := Option.bind_eq_some_iff.1 h
            cases h
            rw [arrAt_congr (hl i (by simp)), k1]; rfl
          · cases h
      | append =>
        have app : ∀ {t s ys rd} {u : Upd}, appendC P st id t s ys rd some = some u → (∀ j ∈ u.rd, loc' j = st.loc j) → appendC P { st with loc := loc' } id t s ys rd some = some u := by
          intro t s ys rd u h hl
          unfold appendC at h ⊢
          split at h
          · cases h
          · rename_i hap
            rw [if_neg hap]
            split at h
            · rename_i i ver
              have hi : loc' i = st.loc i := by
                split at h
                · split at h
                  · split at h
                    · cases h; exact hl i (by simp)
                    · cases h
                  · cases h
                · cases h
              simp only [hi]; exact h
            · exact h
            · cases h
        have rdin : ∀ {t s ys rd} {u : Upd}, appendC P st id t s ys rd some = some u → ∀ j ∈ rd, j ∈ u.rd := by
          intro t s ys rd u h j hj
          unfold appendC at h
          split at h
          · cases h
          · split at h
            · split at h
              · split at h
                · split at h
                  · cases h; exact List.mem_cons_of_mem _ hj
                  · cases h
                · cases h
              · cases h
            · split at h
              · split at h
                · cases h; exact hj
                · cases h
              · cases h
            · cases h
        simp only [opC, ho, hc, evs_loc] at h ⊢
        split at h
        · cases h
        · rename_i hok
          rw [if_neg hok]
          split at h
          · obtain ⟨ys, k1, h⟩ := Option.bind_eq_some_iff.1 h
            rw [k1]
            exact app h hl
          · rename_i s j ver _
            split at h
            · cases h
            rename_i htx
            rw [if_neg htx]
            obtain ⟨q, k1, h⟩ := Option.bind_eq_some_iff.1 h
            split at h
            · rename_i hq
              have hj : loc' j = st.loc j := by
                split at h
                · split at h
                  · cases h
                  · exact hl j (rdin h j (by simp))
                · exact hl j (rdin h j (by simp))
              rw [arrAt_congr hj, k1, Option.bind_some, if_pos hq]
              split at h
              · split at h
                · cases h
                · rename_i hne
                  rw [if_neg hne]
                  exact app h hl
              · exact app h hl
            · cases h
          · cases h
      | cap => simpa only [opC, ho, hc, evs_loc] using h
      | clear =>
        simp only [opC, ho, hc, evs_loc] at h ⊢
        split at h
        · cases h
        · rename_i hok
          rw [if_neg hok]
          split at h
          · rename_i i ver lo _
            have hi : loc' i = st.loc i := by
              split at h
              · split at h
                · split at h
                  · cases h; exact hl i (by simp)
                  · cases h
                · cases h
              · cases h
            simp only [hi]; exact h
          · cases h
      | max => simpa only [opC, ho, hc, evs_loc] using h
      | min => simpa only [opC, ho, hc, evs_loc] using h
      | _ => simp [opC, ho, hc] at h
  | move x => simpa only [opC, ho, ev_loc] using h
  | assign x => simpa only [opC, ho, ev_loc] using h
  | pick x y z => simpa only [opC, ho, ev_loc] using h
  | alloc t => simpa only [opC, ho, ev_loc] using h
  | box t x => simpa only [opC, ho, ev_loc] using h
  | extract x n => simpa only [opC, ho, ev_loc] using h
  | field t x f => simpa only [opC, ho, ev_loc] using h
  | binOp op t x y t' => simpa only [opC, ho, ev_loc] using h
  | unOp op t x => simpa only [opC, ho, ev_loc] using h
  | convert s t x => simpa only [opC, ho, ev_loc] using h
  | makeFunc fn first caps =>
    cases fn with
    | func f =>
      simp only [opC, ho, evf_loc, ev_loc] at h ⊢
      split at h
      · rename_i hz; rw [if_pos hz]; exact h
      · rename_i hz
        rw [if_neg hz]
        split at h
        · rename_i hc
          rw [if_pos hc]
          obtain ⟨r, k2, h⟩ := Option.bind_eq_some_iff.1 h
          cases h
          rw [mapO_exps_congr k2 hl, Option.bind_some, frzL_congr (mapO_defd k2) hl]
        · cases h
    | _ => simp [opC, ho] at h
  | build t parts => simpa only [opC, ho, buildC_eq, ev_loc] using h
  | makeMap t r => cases r <;> first | simpa only [opC, ho] using h | (simp [opC, ho] at h; done)
  | _ => simp [opC, ho] at h
end
end Go.Lm
end
section
namespace Go.Lm
section
variable {P : Program} {H : Nat → FH} {T : Nat → List SVal → Option Res} {nt : Nat} {ops : Array Oper} {base : Nat}
def Wd (ops : Array Oper) (st : St) (o : Oper) : Prop := o.guard = none ∨ ∃ j want d, o.guard = some (j, want) ∧ (ops[j]?).bind (·.dst) = some d ∧ st.env d = .v (.bool want)
def Uw (ops : Array Oper) (st : St) (o : Oper) : Prop := ∃ j want d, o.guard = some (j, want) ∧ (ops[j]?).bind (·.dst) = some d ∧ (st.env d = .v (.bool !want) ∨ st.env d = .v .un)
/-- One operation of a drawn region. -/
def StepR (P : Program) (H : Nat → FH) (T : Nat → List SVal → Option Res) (nt : Nat) (ops : Array Oper) (base : Nat) (st : St) (x : Nat × Oper) (st' : St) (f : Foot) : Prop :=
  dstOk nt x.2.dst = true ∧ ∃ u, st' = st.apply x.2.dst u ∧ f = ⟨x.1, u.rd, u.wr.map (·.1)⟩ ∧ ((Wd ops st x.2 ∧ opC P H T st (base + 32 * x.1) x.2 some = some u) ∨ (Uw ops st x.2 ∧ u = {}))
theorem apply_un (st : St) (d : Option Nat) : st.apply d {} = st.put d (.v .un) := by cases d <;> rfl
theorem goC_of {α : Type} {id i : Nat} {o : Oper} {st : St} {fs : List Foot} {u : Upd} (hd : dstOk nt o.dst = true) (h : opC P H T st id o some = some u) (k : St → List Foot → Option α) :
    goC P H T true nt id i o st fs k = k (st.apply o.dst u) (fs ++ [⟨i, u.rd, u.wr.map (·.1)⟩]) := by
  have plain := opC_of h (fun u => k (st.apply o.dst u) (fs ++ [⟨i, u.rd, u.wr.map (·.1)⟩]))
  unfold goC
  simp only
  rw [if_pos hd]
  split
  · rename_i g args argTypes ho
    split
    · rename_i hg
      simp [opC, ho, hg] at h
    · rename_i f caps hg
      split
      · rename_i hgen
        simp [opC, ho, hg, hgen] at h
      · exact plain
    · exact plain
  · exact plain
theorem StepR.stepC {α : Type} {st st' : St} {i : Nat} {o : Oper} {f : Foot} (h : StepR P H T nt ops base st (i, o) st' f) (fs : List Foot) (k : St → List Foot → Option α) : Lm.stepC P H T true nt ops (base + 32 * i) i o st fs k = k st' (fs ++ [f]) := by
  obtain ⟨hd, u, rfl, rfl, h⟩ := h
  rcases h with ⟨hw, hu⟩ | ⟨hw, rfl⟩
  · unfold Lm.stepC
    rcases hw with hg | ⟨j, want, d, hg, hdd, he⟩
    · rw [hg]; exact goC_of hd hu k
    · rw [hg]; simp only
      rw [hdd]; simp only
      rw [he]; simp only
      unfold guardX
      simp only [if_true]
      rw [← he, put_self]
      exact goC_of hd hu k
  · obtain ⟨j, want, d, hg, hdd, he⟩ := hw
    unfold Lm.stepC
    rw [hg]; simp only
    rw [hdd]; simp only
    rcases he with he | he
    · rw [he]; simp only
      unfold guardX
      simp only
      rw [if_neg (by cases want <;> simp)]
      rw [← he, put_self]
      unfold skipC
      rw [if_pos hd, apply_un]; rfl
    · rw [he]; simp only
      unfold guardX
      simp only
      rw [show st.put (some d) (.v .un) = st from by rw [← he, put_self]]
      unfold skipC
      rw [if_pos hd, apply_un]; rfl
theorem stepR_of {α : Type} {st : St} {i : Nat} {o : Oper} {fs : List Foot} {k : St → List Foot → Option α} {r : α} (h : stepC P H T true nt ops (base + 32 * i) i o st fs k = some r) : ∃ st' f, StepR P H T nt ops base st (i, o) st' f ∧ k st' (fs ++ [f]) = some r := by
  rcases stepC_cases h with ⟨hg, h⟩ | ⟨hg, h⟩
  · obtain ⟨hd, h | h | h⟩ := goC_cases h
    · obtain ⟨u, h1, h2⟩ := h
      exact ⟨_, _, ⟨hd, u, rfl, rfl, .inl ⟨hg, h1⟩⟩, h2⟩
    · obtain ⟨_, _, _, _, _, _, h, _⟩ := h; cases h
    · obtain ⟨_, _, _, _, _, _, _, _, _, _, h, _⟩ := h; cases h
  · unfold skipC at h
    split at h
    · rename_i hd
      exact ⟨_, _, ⟨hd, {}, (apply_un _ _).symm, rfl, .inr ⟨hg, rfl⟩⟩, h⟩
    · cases h
inductive Runs (P : Program) (H : Nat → FH) (T : Nat → List SVal → Option Res) (nt : Nat) (ops : Array Oper) (base : Nat) : St → List (Nat × Oper) → St → List Foot → Prop
  | nil {st} : Runs P H T nt ops base st [] st []
  | cons {st x st1 f l st2 fs} : StepR P H T nt ops base st x st1 f → Runs P H T nt ops base st1 l st2 fs → Runs P H T nt ops base st (x :: l) st2 (f :: fs)
theorem runs_of {α : Type} {Kc : St → List Foot → Option α} {r : α} : ∀ (l : List (Nat × Oper)) (st : St) (fs : List Foot), runC P H T true nt ops base l st fs Kc = some r → ∃ st' fs', Runs P H T nt ops base st l st' fs' ∧ Kc st' (fs ++ fs') = some r
  | [], st, fs, h => ⟨st, [], .nil, by rw [List.append_nil]; exact h⟩
  | (i, o) :: l, st, fs, h => by
    obtain ⟨st1, f, h1, h2⟩ := stepR_of h
    obtain ⟨st2, fs', h3, h4⟩ := runs_of l st1 _ h2
    exact ⟨st2, f :: fs', .cons h1 h3, by rw [← h4]; simp⟩
/-! ### Two operations that do not touch -/
theorem updL_indep : ∀ (l : List (Nat × Obj)) (f g : Nat → Obj) (j : Nat), j ∈ l.map (·.1) → updL f l j = updL g l j
  | [], _, _, _, h => by simp at h
  | (i, o) :: l, f, g, j, h => by
    simp only [updL]
    by_cases hj : j ∈ l.map (·.1)
    · exact updL_indep l _ _ j hj
    · rw [updL_not_mem _ _ _ hj, updL_not_mem _ _ _ hj]
      simp only [List.map_cons, List.mem_cons] at h
      have : j = i := h.resolve_right hj
      subst this
      rw [upd_same, upd_same]
theorem updL_comm (f : Nat → Obj) (l m : List (Nat × Obj)) (h : ∀ j ∈ l.map (·.1), j ∉ m.map (·.1)) : updL (updL f l) m = updL (updL f m) l := by
  funext j
  by_cases hl : j ∈ l.map (·.1)
  · rw [updL_not_mem _ _ _ (h j hl)]
    exact updL_indep l _ _ j hl
  · rw [updL_not_mem _ (updL f m) _ hl]
    by_cases hm : j ∈ m.map (·.1)
    · exact updL_indep m _ _ j hm
    · rw [updL_not_mem _ _ _ hm, updL_not_mem _ _ _ hm, updL_not_mem _ _ _ hl]
def Disj2 (f g : Foot) : Prop := (∀ j ∈ f.wr, j ∉ g.rd ∧ j ∉ g.wr) ∧ (∀ j ∈ g.wr, j ∉ f.rd ∧ j ∉ f.wr)
def Slots2 (ops : Array Oper) (x y : Oper) : Prop := (∀ d, x.dst = some d → d ∉ slotsOf ops y) ∧ (∀ d, y.dst = some d → d ∉ slotsOf ops x)
theorem ev_apply {st : St} {d : Option Nat} {u : Upd} {o : Oper} (h : ∀ e, d = some e → e ∉ slotsOf ops o) : ∀ x ∈ opnds o.op, ∀ t, ∀ (loc : Nat → Obj), ev P { st.apply d u with loc := loc } t x = ev P st t x := by
  intro x hx t loc
  cases x with
  | tmp s =>
    simp only [ev]
    cases d with
    | none => rfl
    | some e =>
      have hne : s ≠ e := fun he => h e rfl (by
        subst he
        unfold slotsOf
        exact List.mem_append.2 (.inl (List.mem_append.2 (.inr (List.mem_filterMap.2 ⟨.tmp s, by simpa using hx, rfl⟩)))))
      simp only [St.apply, St.put]
      exact upd_other _ _ hne
  | const v => rfl
  | func f => rfl
  | global g => rfl
theorem env_apply {st : St} {d : Option Nat} {u : Upd} {o : Oper} (h : ∀ e, d = some e → e ∉ slotsOf ops o) {j : Nat} {want : Bool} {s : Nat} (hg : o.guard = some (j, want)) (hs : (ops[j]?).bind (·.dst) = some s) : (st.apply d u).env s = st.env s := by
  cases d with
  | none => rfl
  | some e =>
    have hne : s ≠ e := fun he => h e rfl (by
      subst he
      unfold slotsOf
      rw [hg]
      exact List.mem_append.2 (.inr (by simp [hs])))
    exact upd_other _ _ hne
theorem apply_loc (st : St) (d : Option Nat) (u : Upd) : (st.apply d u).loc = updL st.loc u.wr := by cases d <;> rfl
/-- What another did before does not matter. -/
theorem StepR.past {st st' : St} {y : Nat × Oper} {f : Foot} {d : Option Nat} {u : Upd} (h : StepR P H T nt ops base (st.apply d u) y st' f) (hs : ∀ e, d = some e → e ∉ slotsOf ops y.2) (hw : ∀ j ∈ u.wr.map (·.1), j ∉ f.rd) :
    ∃ uy, st' = (st.apply d u).apply y.2.dst uy ∧ f = ⟨y.1, uy.rd, uy.wr.map (·.1)⟩ ∧ StepR P H T nt ops base st y (st.apply y.2.dst uy) f := by
  obtain ⟨hd, uy, h1, h2, h3⟩ := h
  refine ⟨uy, h1, h2, hd, uy, rfl, h2, ?_⟩
  rcases h3 with ⟨hg, hu⟩ | ⟨hg, hu⟩
  · refine .inl ⟨?_, ?_⟩
    · rcases hg with hg | ⟨j, want, s, hg, hss, he⟩
      · exact .inl hg
      · exact .inr ⟨j, want, s, hg, hss, by rw [← env_apply (st := st) (u := u) hs hg hss]; exact he⟩
    · have h4 := opC_loc (loc' := st.loc) hu fun j hj => by
        rw [apply_loc]
        refine (updL_not_mem _ _ _ fun hm => hw j hm ?_).symm
        rw [h2]; exact hj
      rw [opC_env (st := st) (by rfl) (fun x hx t => ev_apply hs x hx t st.loc)] at h4
      exact h4
  · obtain ⟨j, want, s, hg, hss, he⟩ := hg
    exact .inr ⟨⟨j, want, s, hg, hss, by rw [← env_apply (st := st) (u := u) hs hg hss]; exact he⟩, hu⟩
theorem StepR.later {st st' : St} {x : Nat × Oper} {f : Foot} {d : Option Nat} {u ux : Upd} (h : StepR P H T nt ops base st x st' f) (hst : st' = st.apply x.2.dst ux) (hf : f = ⟨x.1, ux.rd, ux.wr.map (·.1)⟩) (hs : ∀ e, d = some e → e ∉ slotsOf ops x.2) (hw : ∀ j ∈ u.wr.map (·.1), j ∉ f.rd)
    (h3 : (Wd ops st x.2 ∧ opC P H T st (base + 32 * x.1) x.2 some = some ux) ∨ (Uw ops st x.2 ∧ ux = {})) : StepR P H T nt ops base (st.apply d u) x ((st.apply d u).apply x.2.dst ux) f := by
  refine ⟨h.1, ux, rfl, hf, ?_⟩
  rcases h3 with ⟨hg, hu⟩ | ⟨hg, hu⟩
  · refine .inl ⟨?_, ?_⟩
    · rcases hg with hg | ⟨j, want, s, hg, hss, he⟩
      · exact .inl hg
      · exact .inr ⟨j, want, s, hg, hss, by rw [env_apply hs hg hss]; exact he⟩
    · have h4 := opC_loc (loc' := (st.apply d u).loc) hu fun j hj => by
        rw [apply_loc]
        refine updL_not_mem _ _ _ fun hm => hw j hm ?_
        rw [hf]; exact hj
      rw [opC_env (st := { st with loc := (st.apply d u).loc }) (by rfl) (fun y hy t => by
        have := ev_apply (P := P) (st := st) (u := u) hs y hy t (st.apply d u).loc
        rw [ev_loc] at this ⊢
        rw [ev_loc]; exact this)]
      exact h4
  · obtain ⟨j, want, s, hg, hss, he⟩ := hg
    exact .inr ⟨⟨j, want, s, hg, hss, by rw [env_apply hs hg hss]; exact he⟩, hu⟩
theorem apply_comm (st : St) {d e : Option Nat} {u v : Upd} (hde : ∀ x, d = some x → e ≠ some x) (hw : ∀ j ∈ u.wr.map (·.1), j ∉ v.wr.map (·.1)) : (st.apply d u).apply e v = (st.apply e v).apply d u := by
  have hl : updL (updL st.loc u.wr) v.wr = updL (updL st.loc v.wr) u.wr := updL_comm _ _ _ hw
  cases d with
  | none => cases e <;> simp only [St.apply, St.put, hl]
  | some x =>
    cases e with
    | none => simp only [St.apply, St.put, hl]
    | some y =>
      have hne : y ≠ x := fun h => hde x rfl (by rw [h])
      have : upd (upd st.env x u.val) y v.val = upd (upd st.env y v.val) x u.val := by
        funext t
        by_cases h1 : t = x
        · subst h1; rw [upd_other _ _ (Ne.symm hne), upd_same, upd_same]
        · by_cases h2 : t = y
          · subst h2; rw [upd_same, upd_other _ _ h1, upd_same]
          · rw [upd_other _ _ h2, upd_other _ _ h1, upd_other _ _ h1, upd_other _ _ h2]
      simp only [St.apply, St.put, hl, this]
theorem StepR.swap {st st1 st2 : St} {x y : Nat × Oper} {f g : Foot} (h1 : StepR P H T nt ops base st x st1 f) (h2 : StepR P H T nt ops base st1 y st2 g) (hs : Slots2 ops x.2 y.2) (hf : Disj2 f g) :
    ∃ st1', StepR P H T nt ops base st y st1' g ∧ StepR P H T nt ops base st1' x st2 f := by
  have h1' := h1
  obtain ⟨hd, ux, rfl, hfx, h3⟩ := h1
  obtain ⟨uy, rfl, hgy, h4⟩ := h2.past hs.1 fun j hj => (hf.1 j (by rw [hfx]; exact hj)).1
  refine ⟨_, h4, ?_⟩
  have h5 := h1'.later (d := y.2.dst) (u := uy) rfl hfx hs.2 (fun j hj => (hf.2 j (by rw [hgy]; exact hj)).1) h3
  rwa [apply_comm st (fun e he hx => hs.2 e he (by unfold slotsOf; rw [hx]; simp)) (fun j hj => by
    have := (hf.2 j (by rw [hgy]; exact hj)).2
    rw [hfx] at this; exact this)] at h5
theorem StepR.foot {st st' : St} {x : Nat × Oper} {f : Foot} (h : StepR P H T nt ops base st x st' f) : f.i = x.1 := by obtain ⟨_, _, _, rfl, _⟩ := h; rfl
/-- An operation may be taken first. -/
theorem Runs.first {x : Nat × Oper} {post : List (Nat × Oper)} : ∀ {pre : List (Nat × Oper)} {st st' : St} {fs : List Foot}, Runs P H T nt ops base st (pre ++ x :: post) st' fs → (∀ y ∈ pre, Slots2 ops y.2 x.2) →
    (∀ f ∈ fs, ∀ g ∈ fs, f.i ∈ pre.map (·.1) → g.i = x.1 → Disj2 f g) → ∃ st1 f fs', StepR P H T nt ops base st x st1 f ∧ Runs P H T nt ops base st1 (pre ++ post) st' fs' ∧ ∀ g, g ∈ f :: fs' → g ∈ fs
  | [], _, _, _, .cons h1 h2, _, _ => ⟨_, _, _, h1, h2, fun _ h => h⟩
  | y :: pre, st, st', _, .cons (fs := fs) (f := fy) h1 h2, hs, hf => by
    obtain ⟨st2, f, fs', h3, h4, h5⟩ := Runs.first (pre := pre) h2 (fun z hz => hs z (by simp [hz])) fun a ha b hb hi hj => hf a (by simp [ha]) b (by simp [hb]) (by simp only [List.map_cons, List.mem_cons]; exact .inr hi) hj
    have hff : f ∈ fs := h5 f (by simp)
    obtain ⟨st1', h6, h7⟩ := h1.swap h3 (hs y (by simp)) (hf _ (by simp) f (by simp [hff]) (by rw [h1.foot]; simp) h3.foot)
    refine ⟨st1', f, fy :: fs', h6, .cons h7 h4, fun g hg => ?_⟩
    simp only [List.mem_cons] at hg ⊢
    rcases hg with rfl | rfl | hg
    · exact .inr hff
    · exact .inl rfl
    · exact .inr (h5 g (by simp [hg]))
end
end Go.Lm
end
section
namespace Go.Lm
section
variable {P : Program} {H : Nat → FH} {T : Nat → List SVal → Option Res} {nt : Nat} {ops : Array Oper} {base : Nat}
/-! ### What comes before what -/
theorem befL_get : ∀ (l : List Oper) (acc : List Nat) (i : Nat) (o : Oper), l[i]? = some o → ∃ p, p.length = acc.length + i ∧ (befL l acc)[acc.length + i]? = some (maskOf p o) ∧ ∀ m, m < p.length → (befL l acc)[m]? = p[m]?
  | [], _, _, _, h => by simp at h
  | o0 :: l, acc, 0, o, h => by
    simp at h; subst h
    have keep : ∀ (l : List Oper) (acc : List Nat) (m : Nat), m < acc.length → (befL l acc)[m]? = acc[m]? := by
      intro l
      induction l with
      | nil => intro acc m _; rfl
      | cons o l ih =>
        intro acc m hm
        simp only [befL]
        rw [ih _ _ (by simp; omega), List.getElem?_append_left hm]
    refine ⟨acc, rfl, ?_, fun m hm => ?_⟩
    · simp only [befL, Nat.add_zero]
      rw [keep _ _ _ (by simp)]
      simp
    · simp only [befL]
      rw [keep _ _ _ (by simp; omega), List.getElem?_append_left hm]
  | o0 :: l, acc, i + 1, o, h => by
    obtain ⟨p, h1, h2, h3⟩ := befL_get l (acc ++ [maskOf acc o0]) i o (by simpa using h)
    refine ⟨p, by rw [h1]; simp; omega, ?_, fun m hm => ?_⟩
    · simp only [befL]
      rw [← h2]; congr 1; simp; omega
    · simp only [befL]; exact h3 m hm
theorem testBit_or_iff (a b i : Nat) : (a ||| b).testBit i = true ↔ a.testBit i = true ∨ b.testBit i = true := by
  rw [Nat.testBit_or, Bool.or_eq_true]
theorem mask_bit {acc : List Nat} {o : Oper} {j : Nat} (h : (maskOf acc o).testBit j = true) : ∃ e ∈ o.after.toList, Region.binds .any e = true ∧ (j = e.on ∨ (acc.getD e.on 0).testBit j = true) := by
  unfold maskOf at h
  have gen : ∀ (l : List Edge) (s : Nat), (l.foldl (fun s e => if Region.binds .any e then s ||| 2 ^ e.on ||| acc.getD e.on 0 else s) s).testBit j = true →
      s.testBit j = true ∨ ∃ e ∈ l, Region.binds .any e = true ∧ (j = e.on ∨ (acc.getD e.on 0).testBit j = true) := by
    intro l
    induction l with
    | nil => intro s h; exact .inl h
    | cons e l ih =>
      intro s h
      simp only [List.foldl_cons] at h
      rcases ih _ h with h | ⟨e', he', h1, h2⟩
      · split at h
        · rename_i hb
          rcases (testBit_or_iff _ _ _).1 h with h | h
          · rcases (testBit_or_iff _ _ _).1 h with h | h
            · exact .inl h
            · rw [Nat.testBit_two_pow] at h
              exact .inr ⟨e, by simp, hb, .inl (by simpa using (of_decide_eq_true h).symm)⟩
          · exact .inr ⟨e, by simp, hb, .inr h⟩
        · exact .inl h
      · exact .inr ⟨e', by simp [he'], h1, h2⟩
  rcases gen _ _ h with h | h
  · simp at h
  · exact h
/-- The order's bits, one step back. -/
theorem ord_step {i j : Nat} {o : Oper} (ho : ops[i]? = some o) (hed : edgesOk ops.toList = true) (h : ordB (befL ops.toList []) j i = true) : ∃ e ∈ o.after, Region.binds .any e = true ∧ e.on < i ∧ (j = e.on ∨ ordB (befL ops.toList []) j e.on = true) := by
  obtain ⟨p, h1, h2, h3⟩ := befL_get ops.toList [] i o (by simpa using ho)
  simp only [List.length_nil, Nat.zero_add] at h1 h2
  unfold ordB at h
  rw [List.getD_eq_getElem?_getD, h2] at h
  obtain ⟨e, he, hb, hj⟩ := mask_bit (by simpa using h)
  have hlt : e.on < i := by
    have h4 := List.all_eq_true.1 hed (o, i) (by
      rw [List.mem_zipIdx_iff_getElem?]; simpa using ho)
    have h5 := List.all_eq_true.1 h4 e he
    simpa [hb] using h5
  refine ⟨e, by simpa using he, hb, hlt, hj.imp (fun h => h) fun h => ?_⟩
  unfold ordB
  rw [List.getD_eq_getElem?_getD, h3 e.on (by omega), ← List.getD_eq_getElem?_getD]
  exact h
/-- What is listed holds all that comes before it. -/
def Closd (ops : Array Oper) (listed : Array Bool) : Prop := ∀ i j, listed.getD i false = true → ordB (befL ops.toList []) j i = true → listed.getD j false = true
theorem ready_iff {listed : Array Bool} {i : Nat} : i ∈ Region.ready .any ops listed ↔ ∃ o, ops[i]? = some o ∧ listed.getD i true = false ∧ ∀ e ∈ o.after, Region.binds .any e = true → listed.getD e.on false = true := by
  unfold Region.ready
  rw [List.mem_filter, List.mem_range]
  constructor
  · rintro ⟨h1, h2⟩
    simp only [Bool.and_eq_true, Bool.not_eq_true'] at h2
    refine ⟨ops[i], Array.getElem?_eq_getElem h1, h2.1, fun e he hb => ?_⟩
    rw [Array.getElem?_eq_getElem h1] at h2
    have h3 := h2.2
    rw [Option.map_some, Option.getD_some] at h3
    have := Array.all_eq_true'.1 h3 e he
    simpa [hb] using this
  · rintro ⟨o, h1, h2, h3⟩
    refine ⟨(Array.getElem?_eq_some_iff.1 h1).1, ?_⟩
    rw [h1, h2]
    simp only [Bool.not_false, Bool.true_and, Option.map_some, Option.getD_some]
    refine Array.all_eq_true'.2 fun e he => ?_
    cases hb : Region.binds .any e with
    | false => rfl
    | true => simpa using h3 e he hb
theorem ready_before {listed : Array Bool} {i j : Nat} (hc : Closd ops listed) (hed : edgesOk ops.toList = true) (hr : i ∈ Region.ready .any ops listed) (h : ordB (befL ops.toList []) j i = true) : listed.getD j false = true := by
  obtain ⟨o, h1, _, h3⟩ := ready_iff.1 hr
  obtain ⟨e, he, hb, _, hj⟩ := ord_step h1 hed h
  rcases hj with rfl | hj
  · exact h3 e he hb
  · exact hc _ _ (h3 e he hb) hj
theorem getD_set {listed : Array Bool} {i j : Nat} (hi : i < listed.size) (d : Bool) : (listed.setIfInBounds i true).getD j d = if j = i then true else listed.getD j d := by
  by_cases h : j = i
  · subst h; simp [Array.getD_eq_getD_getElem?, hi]
  · rw [if_neg h, Array.getD_eq_getD_getElem?, Array.getElem?_setIfInBounds_ne (Ne.symm h), ← Array.getD_eq_getD_getElem?]
theorem Closd.set {listed : Array Bool} {i : Nat} (hi : i < listed.size) (hc : Closd ops listed) (hed : edgesOk ops.toList = true) (hr : i ∈ Region.ready .any ops listed) : Closd ops (listed.setIfInBounds i true) := fun a b ha hb => by
  rw [getD_set hi] at ha ⊢
  split
  · rfl
  · split at ha
    · rename_i h; subst h; exact ready_before hc hed hr hb
    · exact hc a b ha hb
variable {c : Ctx} {K : Kt} {G : Gt} {ov : List Value} {ds : List Nat} {st : St} {a : Act} {w : World} {F : Fence} {n : Nat} {Q : Exit → Act → World → Prop}
theorem stepR_wp (hF : FOk F) (hT : ∀ f args r, T f args = some r → Good P c.H f args r) (hs : Sim c K G ov ds st a w) {i : Nat} {o : Oper} {st' : St} {f : Foot} (h : StepR P c.H T c.nt ops base st (i, o) st' f) (hi : ops[i]? = some o) (hfr : ∀ j, base + 32 * i ≤ j → j < base + 32 * i + 32 → G j = none) {next : Act → World → Prop}
    (hn : ∀ K' G' v w', Sim c K' G' ov ds st' (a.put o.dst v) w' → (∀ j, G' j ≠ none → G j ≠ none ∨ (base + 32 * i ≤ j ∧ j < base + 32 * i + 32)) → next (a.put o.dst v) w') : wpOpIn F n P ops Q i next a w := by
  obtain ⟨hd, u, rfl, _, h⟩ := h
  unfold wpOpIn
  rw [hi]
  simp only
  rcases h with ⟨hg, hu⟩ | ⟨hg, rfl⟩
  · have hw : Region.wanted o (yielded ops a.tmps) = true := by
      rcases hg with hg | ⟨j, want, d, hg, hd, he⟩
      · have hg : o.guard = none := hg
        simp [Region.wanted, hg]
      · have hg : o.guard = some (j, want) := hg
        simp [Region.wanted, hg, yielded_bool hs hd he]
    rw [if_pos hw]
    exact op_wp hF hs hT hd hfr hu hn
  · have hw : ¬ Region.wanted o (yielded ops a.tmps) = true := by
      obtain ⟨j, want, d, hg, hd, he⟩ := hg
      have hg : o.guard = some (j, want) := hg
      rcases he with he | he
      · simp [Region.wanted, hg, yielded_bool hs hd he]
      · simp [Region.wanted, hg, yielded_un hs hd he]
    rw [if_neg hw]
    refine ⟨fun f _ => hF.fn f, hn K G Go.undef w ?_ fun j h => .inl h⟩
    rw [apply_un]
    exact hs.put o.dst (.v .un) Go.undef hd (by simp [IR, VR])
/-- A region's operations in whatever order. -/
theorem any_wp (hF : FOk F) (hT : ∀ f args r, T f args = some r → Good P c.H f args r) {N : Nat} (hN : N = ops.size) (hed : edgesOk ops.toList = true) {st' : St} (hpost : ∀ K' G' a' w', Sim c K' G' ov ds st' a' w' → (∀ j, G' j ≠ none → j < base + 32 * N) → Q .normal a' w') :
    ∀ (fuel : Nat) (l : List (Nat × Oper)) (listed : Array Bool) (st : St) (fs : List Foot) (K : Kt) (G : Gt) (a : Act) (w : World), l.length ≤ fuel → Runs P c.H T c.nt ops base st l st' fs → listed.size = N → (∀ i, i < N → (listed.getD i true = false ↔ i ∈ l.map (·.1))) →
      (∀ p ∈ l, ops[p.1]? = some p.2) → l.Pairwise (fun p q => p.1 < q.1) → (∀ p ∈ l, ∀ q ∈ l, p.1 < q.1 → ordB (befL ops.toList []) p.1 q.1 = false → Slots2 ops p.2 q.2) →
      (∀ f ∈ fs, ∀ g ∈ fs, f.i < g.i → ordB (befL ops.toList []) f.i g.i = false → Disj2 f g) → Closd ops listed → Sim c K G ov ds st a w → Fr G base N (l.map (·.1)) → wpAnyIn F n P .any ops Q fuel listed a w := by
  have done : ∀ {st : St} {l : List (Nat × Oper)} {listed : Array Bool} {fs : List Foot} {K G a w}, Runs P c.H T c.nt ops base st l st' fs → listed.size = N → (∀ i, i < N → (listed.getD i true = false ↔ i ∈ l.map (·.1))) → (∀ p ∈ l, ops[p.1]? = some p.2) → l.Pairwise (fun p q => p.1 < q.1) →
      Sim c K G ov ds st a w → Fr G base N (l.map (·.1)) → Region.ready .any ops listed = [] → Q .normal a w := by
    intro st l listed fs K G a w hrun hsz hli hops hpw hs hfr hr
    cases hrun with
    | nil => exact hpost K G a w hs fun j hj => (hfr j hj).1
    | @cons st x st1 f l st2 fs h1 h2 =>
      exfalso
      have hx := hops x (by simp)
      have hlt : x.1 < N := by rw [hN]; exact (Array.getElem?_eq_some_iff.1 hx).1
      have : x.1 ∈ Region.ready .any ops listed := ready_iff.2 ⟨x.2, hx, (hli x.1 hlt).2 (by simp), fun e he hb => by
        have hlt2 : e.on < x.1 := by
          have h4 := List.all_eq_true.1 hed (x.2, x.1) (by rw [List.mem_zipIdx_iff_getElem?]; simpa using hx)
          have h5 := List.all_eq_true.1 h4 e (by simpa using he)
          simpa [hb] using h5
        have hnm : ¬ listed.getD e.on true = false := fun h => by
          have := (hli e.on (by omega)).1 h
          simp only [List.map_cons, List.mem_cons] at this
          rcases this with h | h
          · omega
          · obtain ⟨y, hy, he⟩ := List.mem_map.1 h
            have := (List.pairwise_cons.1 hpw).1 y hy
            omega
        have hsl : e.on < listed.size := by omega
        simp only [Array.getD, hsl, dif_pos] at hnm ⊢
        simpa using hnm⟩
      rw [hr] at this; simp at this
  intro fuel
  induction fuel with
  | zero =>
    intro l listed st fs K G a w hlen hrun hsz hli hops hpw hsl hft hcl hs hfr
    have : l = [] := List.eq_nil_of_length_eq_zero (by omega)
    subst this
    have hr : Region.ready .any ops listed = [] := by
      rw [List.eq_nil_iff_forall_not_mem]
      intro i hi
      obtain ⟨o, h1, h2, _⟩ := ready_iff.1 hi
      have := (hli i (by rw [hN]; exact (Array.getElem?_eq_some_iff.1 h1).1)).1 h2
      simp at this
    exact ⟨hr, done hrun hsz hli hops hpw hs hfr hr⟩
  | succ fuel ih =>
    intro l listed st fs K G a w hlen hrun hsz hli hops hpw hsl hft hcl hs hfr
    refine ⟨done hrun hsz hli hops hpw hs hfr, fun i hi => ?_⟩
    obtain ⟨o, h1, h2, _⟩ := ready_iff.1 hi
    have hiN : i < N := by rw [hN]; exact (Array.getElem?_eq_some_iff.1 h1).1
    obtain ⟨x, hx, hxi⟩ := List.mem_map.1 ((hli i hiN).1 h2)
    obtain ⟨pre, post, rfl⟩ := List.append_of_mem hx
    have hox := hops x hx
    have hxo : x = (i, o) := by
      obtain ⟨xi, xo⟩ := x
      simp only at hxi hox
      subst hxi
      rw [h1] at hox; cases hox; rfl
    subst hxo
    have hpw' := List.pairwise_append.1 hpw
    have hprelt : ∀ y ∈ pre, y.1 < i := fun y hy => hpw'.2.2 y hy (i, o) (by simp)
    have hnord : ∀ y ∈ pre, ordB (befL ops.toList []) y.1 i = false := fun y hy => by
      cases hb : ordB (befL ops.toList []) y.1 i with
      | false => rfl
      | true =>
        have k1 := ready_before hcl hed hi hb
        have k2 := (hli y.1 (by have := hprelt y hy; omega)).2 (List.mem_map.2 ⟨y, by simp [hy], rfl⟩)
        have hsl2 : y.1 < listed.size := by have := hprelt y hy; omega
        simp only [Array.getD, hsl2, dif_pos] at k1 k2
        rw [k1] at k2; cases k2
    obtain ⟨st1, f, fs', r1, r2, r3⟩ := Runs.first hrun (fun y hy => hsl y (by simp [hy]) (i, o) (by simp) (hprelt y hy) (hnord y hy)) (fun f hf g hg hfi hgi => by
      obtain ⟨y, hy, hye⟩ := List.mem_map.1 hfi
      simp only at hgi
      exact hft f hf g hg (by rw [← hye, hgi]; exact hprelt y hy) (by rw [← hye, hgi]; exact hnord y hy))
    have hmem : (pre ++ (i, o) :: post).map (·.1) = pre.map (·.1) ++ i :: post.map (·.1) := by simp
    have hpostgt : ∀ y ∈ post, i < y.1 := fun y hy => (List.pairwise_cons.1 hpw'.2.1).1 y hy
    have hnotin : i ∉ (pre ++ post).map (·.1) := fun hm => by
      obtain ⟨y, hy, he⟩ := List.mem_map.1 hm
      rcases List.mem_append.1 hy with hy | hy
      · have := hprelt y hy; omega
      · have := hpostgt y hy; omega
    have hsub : ∀ p, p ∈ pre ++ post → p ∈ pre ++ (i, o) :: post := fun p hp => by
      rcases List.mem_append.1 hp with hp | hp
      · exact List.mem_append.2 (.inl hp)
      · exact List.mem_append.2 (.inr (by simp [hp]))
    refine stepR_wp hF hT hs r1 h1 (hfr.free (i := i) (by rw [hmem]; simp)) ?_
    intro K' G' v w' hs' hG'
    refine ih (pre ++ post) (listed.setIfInBounds i true) st1 fs' K' G' _ w' (by simp at hlen ⊢; omega) r2 (by simpa using hsz) (fun m hm => ?_) (fun p hp => hops p (hsub p hp)) ?_ (fun p hp q hq => hsl p (hsub p hp) q (hsub q hq))
      (fun f1 hf1 g1 hg1 => hft f1 (r3 f1 (by simp [hf1])) g1 (r3 g1 (by simp [hg1]))) (hcl.set (by omega) hed hi) hs'
      (hfr.after hiN (fun j hj => ⟨?_, fun e => hnotin (e ▸ hj)⟩) hG')
    · rw [getD_set (by omega)]
      split
      · rename_i he
        subst he
        simp only [Bool.true_eq_false, false_iff]
        exact hnotin
      · rename_i hne
        rw [hli m hm, hmem, List.map_append]
        simp only [List.mem_append, List.mem_cons]
        constructor
        · rintro (h | h | h)
          · exact .inl h
          · exact absurd h hne
          · exact .inr h
        · rintro (h | h)
          · exact .inl h
          · exact .inr (.inr h)
    · exact List.pairwise_append.2 ⟨hpw'.1, (List.pairwise_cons.1 hpw'.2.1).2, fun p hp q hq => hpw'.2.2 p hp q (by simp [hq])⟩
    · rw [hmem]
      rw [List.map_append] at hj
      rcases List.mem_append.1 hj with hj | hj
      · exact List.mem_append.2 (.inl hj)
      · exact List.mem_append.2 (.inr (by simp [hj]))
end
end Go.Lm
end
section
namespace Go.Lm
section
variable {P : Program} {T : Nat → List SVal → Option Res} {ops : Array Oper}
variable {c : Ctx} {K : Kt} {G : Gt} {ov : List Value} {ds : List Nat} {st : St} {a : Act} {w : World} {F : Fence} {n : Nat} {Q : Exit → Act → World → Prop}
def NF (G : Gt) (st : St) : Prop := ∀ j, G j ≠ none → j < st.nid
theorem slots2_of {bs : List Nat} (h : slotsOk ops bs = true) {p q : Nat × Oper} (hp : ops[p.1]? = some p.2) (hq : ops[q.1]? = some q.2) (hlt : p.1 < q.1) (hord : ordB bs p.1 q.1 = false) : Slots2 ops p.2 q.2 := by
  have h1 := List.all_eq_true.1 h (p.2, p.1) (by rw [List.mem_zipIdx_iff_getElem?]; simpa using hp)
  have h2 := List.all_eq_true.1 h1 (q.2, q.1) (by rw [List.mem_zipIdx_iff_getElem?]; simpa using hq)
  have hle : decide (q.1 ≤ p.1) = false := by simp; omega
  simp only [hle, hord, Bool.false_or, Bool.and_eq_true] at h2
  refine ⟨fun d hd hm => ?_, fun d hd hm => ?_⟩
  · have := h2.1
    rw [hd] at this
    simp only [Bool.not_eq_true'] at this
    rw [List.contains_iff_mem.2 hm] at this; cases this
  · have := h2.2
    rw [hd] at this
    simp only [Bool.not_eq_true'] at this
    rw [List.contains_iff_mem.2 hm] at this; cases this
theorem disj2_of {bs : List Nat} {fs : List Foot} (h : footsOk bs fs = true) {f g : Foot} (hf : f ∈ fs) (hg : g ∈ fs) (hlt : f.i < g.i) (hord : ordB bs f.i g.i = false) : Disj2 f g := by
  have h1 := List.all_eq_true.1 (List.all_eq_true.1 h f hf) g hg
  have hle : decide (g.i ≤ f.i) = false := by simp; omega
  simp only [hle, hord, Bool.false_or, Bool.and_eq_true] at h1
  refine ⟨fun j hj => ?_, fun j hj => ?_⟩
  · have := disjB_spec h1.1 hj
    simpa [not_or] using this
  · have := disjB_spec h1.2 hj
    simpa [not_or] using this
theorem textL (ops : Array Oper) : ∀ p ∈ ops.toList.zipIdx.map (fun p => (p.2, p.1)), ops[p.1]? = some p.2 ∧ p.1 < ops.size := fun p hp => by
  obtain ⟨q, hq, rfl⟩ := List.mem_map.1 hp
  rw [List.mem_zipIdx_iff_getElem?] at hq
  have : ops[q.2]? = some q.1 := by simpa using hq
  exact ⟨this, (Array.getElem?_eq_some_iff.1 this).1⟩
theorem textL_ids (ops : Array Oper) : (ops.toList.zipIdx.map (fun p => (p.2, p.1))).map (·.1) = List.range ops.size := by
  rw [List.map_map]
  have : ((fun x : Nat × Oper => x.1) ∘ fun p : Oper × Nat => (p.2, p.1)) = Prod.snd := rfl
  rw [this, List.zipIdx_map_snd, List.range_eq_range']
  simp
theorem textL_pw (ops : Array Oper) : (ops.toList.zipIdx.map (fun p => (p.2, p.1))).Pairwise (fun p q => p.1 < q.1) := by
  have h : ((ops.toList.zipIdx.map (fun p => (p.2, p.1))).map (·.1)).Pairwise (· < ·) := by
    rw [textL_ids]; exact List.pairwise_lt_range
  exact List.pairwise_map.1 h
theorem fr_start {G : Gt} {st : St} (h : NF G st) (l : List Nat) (N : Nat) : Fr G st.nid N l := fun j hj => by
  have := h j hj
  exact ⟨by omega, fun i _ => by omega⟩
theorem closd_start (ops : Array Oper) (N : Nat) : Closd ops (Array.replicate N false) := fun i j h _ => by
  simp only [Array.getD_eq_getD_getElem?, Array.getElem?_replicate] at h
  split at h <;> simp at h
/-- A drawn region, from its run in the text's order. -/
theorem drawn_any (hF : FOk F) (hT : ∀ f args r, T f args = some r → Good P c.H f args r) (hs : Sim c K G ov ds st a w) (hnf : NF G st) {base : Nat} (hb : base = st.nid) {st' : St} {fs : List Foot}
    (hr : Runs P c.H T c.nt ops base st (ops.toList.zipIdx.map fun p => (p.2, p.1)) st' fs) (hed : edgesOk ops.toList = true) (hsl : slotsOk ops (befL ops.toList []) = true) (hft : footsOk (befL ops.toList []) fs = true)
    (hpost : ∀ K' G' a' w', Sim c K' G' ov ds st' a' w' → (∀ j, G' j ≠ none → j < base + 32 * ops.size) → Q .normal a' w') : wpAnyIn F n P .any ops Q ops.size (Array.replicate ops.size false) a w := by
  subst hb
  refine any_wp hF hT rfl hed hpost ops.size _ (Array.replicate ops.size false) st fs K G a w (by simp) hr (by simp) (fun i hi => ?_) (fun p hp => (textL ops p hp).1) (textL_pw ops)
    (fun p hp q hq hlt hord => slots2_of hsl (textL ops p hp).1 (textL ops q hq).1 hlt hord) (fun f hf g hg hlt hord => disj2_of hft hf hg hlt hord) (closd_start ops _) hs (fr_start hnf _ _)
  rw [textL_ids]
  simp [Array.getD_eq_getD_getElem?, Array.getElem?_replicate, hi]
end
end Go.Lm
end
section
namespace Go.Lm
section
variable {P : Program} {ops : Array Oper} {F : Fence} {n : Nat} {Q : Exit → Act → World → Prop} {D : Nat → Prop}
/-! ### Slots that no operation writes stay -/
def Agree (D : Nat → Prop) (a0 a : Act) : Prop := ∀ t, ¬ D t → a.tmps.getD t Go.undef = a0.tmps.getD t Go.undef
def Qfix (D : Nat → Prop) (a0 : Act) (Q : Exit → Act → World → Prop) : Exit → Act → World → Prop := fun e a w => match e with
  | .outgrown => Q .outgrown a w
  | e => Agree D a0 a → Q e a w
theorem Agree.put {a0 a : Act} (h : Agree D a0 a) {d : Option Nat} (hd : ∀ t, d = some t → D t) (v : Value) : Agree D a0 (a.put d v) := fun t ht => by
  rw [← h t ht]
  cases d with
  | none => rfl
  | some s =>
    have hne : s ≠ t := fun e => ht (hd t (by rw [e]))
    simp only [Act.put]
    rw [Array.getD_eq_getD_getElem?, Array.getElem?_setIfInBounds_ne hne, ← Array.getD_eq_getD_getElem?]
theorem letsOut_fix {a0 : Act} (h : LetsOut (Qfix D a0 Q)) : LetsOut Q := h
theorem oper_fix {o : Oper} {a0 a : Act} {w : World} {nextf next : Act → World → Prop} (hd : ∀ t, o.dst = some t → D t) (ha : Agree D a0 a) (hn : ∀ a' w', Agree D a0 a' → nextf a' w' → next a' w')
    (h : o.wpIn F n P a w nextf (Qfix D a0 Q)) : o.wpIn F n P a w next Q := by
  refine ⟨h.1, ?_⟩
  have h2 := h.2
  unfold Oper.uponIn at h2 ⊢
  split at h2
  · exact hn _ _ (ha.put hd _) h2
  · exact hn _ _ (ha.put hd _) h2
  · rename_i d w' _
    have ha' : Agree D a0 { a with defers := d :: a.defers } := ha
    exact hn _ _ (ha'.put hd _) h2
  · refine ⟨h2.1, CallsIn.mono h2.2 ?_⟩
    intro e w' he
    cases e with
    | returned v => exact hn _ _ (ha.put hd _) he
    | panicked ch => exact he ha
    | outgrown => exact he
  · exact ⟨h2.1, RowsIn.mono h2.2 fun v w' he => hn _ _ (ha.put hd _) he⟩
  · refine ⟨h2.1, RoundIn.mono h2.2 ?_⟩
    intro e w' he
    cases e with
    | returned v => exact hn _ _ (ha.put hd _) he
    | panicked ch => exact he ha
    | outgrown => exact he
  · exact h2 ha
  · exact h2.elim
theorem wpOpIn_fix {a0 a : Act} {w : World} {i : Nat} {nextf next : Act → World → Prop} (hd : ∀ o, ops[i]? = some o → ∀ t, o.dst = some t → D t) (ha : Agree D a0 a) (hn : ∀ a' w', Agree D a0 a' → nextf a' w' → next a' w')
    (h : wpOpIn F n P ops (Qfix D a0 Q) i nextf a w) : wpOpIn F n P ops Q i next a w := by
  unfold wpOpIn at h ⊢
  cases ho : ops[i]? with
  | none => rw [ho] at h; exact hn _ _ ha h
  | some o =>
    rw [ho] at h
    simp only at h ⊢
    split at h
    · rename_i hw
      rw [if_pos hw]
      exact oper_fix (hd o ho) ha hn h
    · rename_i hw
      rw [if_neg hw]
      exact ⟨h.1, hn _ _ (ha.put (hd o ho) _) h.2⟩
theorem wpOpsIn_fix {a0 : Act} (hd : ∀ (i : Nat) (o : Oper), ops[i]? = some o → ∀ t, o.dst = some t → D t) : ∀ (l : List Nat) (a : Act) (w : World), Agree D a0 a → wpOpsIn F n P ops (Qfix D a0 Q) l a w → wpOpsIn F n P ops Q l a w
  | [], a, w, ha, h => h ha
  | i :: l, a, w, ha, h => by
    rw [wpOpsIn_cons] at h ⊢
    exact wpOpIn_fix (hd i) ha (fun a' w' ha' h' => wpOpsIn_fix hd l a' w' ha' h') h
theorem wpAnyIn_fix {a0 : Act} (hd : ∀ (i : Nat) (o : Oper), ops[i]? = some o → ∀ t, o.dst = some t → D t) : ∀ (fuel : Nat) (listed : Array Bool) (a : Act) (w : World), Agree D a0 a → wpAnyIn F n P .any ops (Qfix D a0 Q) fuel listed a w → wpAnyIn F n P .any ops Q fuel listed a w
  | 0, listed, a, w, ha, h => ⟨h.1, h.2 ha⟩
  | fuel + 1, listed, a, w, ha, h => ⟨fun hr => h.1 hr ha, fun i hi => wpOpIn_fix (hd i) ha (fun a' w' ha' h' => wpAnyIn_fix hd fuel _ a' w' ha' h') (h.2 i hi)⟩
end
section
variable {P : Program} {T : Nat → List SVal → Option Res} {ops : Array Oper}
variable {c : Ctx} {K : Kt} {G : Gt} {ov : List Value} {ds : List Nat} {st : St} {a : Act} {w : World} {F : Fence} {n : Nat} {Q : Exit → Act → World → Prop}
/-- What a join region runs in: nothing that there is may be written. -/
def Ctx.inner (c : Ctx) (K : Kt) (w : World) (ds : List Nat) : Ctx := { c with w0 := w, O := fun b => b < w.heap.size ∧ b ∉ ds, K0 := K, J := fun _ _ _ _ => True, Jx := fun _ _ _ _ => True }
theorem exps_alive {loc : Nat → Obj} : ∀ (k : Nat) (iv : IVal) (x : SVal) (ids : List Nat), exps loc k iv = some (x, ids) → ∀ j ∈ ids, loc j ≠ .dead
  | 0, _, _, _, h => by simp [exps] at h
  | k + 1, iv, x, ids, h => by
    have many : ∀ {cs : List IVal} {r : List (SVal × List Nat)}, mapO (exps loc k) cs = some r → ∀ j ∈ r.flatMap (·.2), loc j ≠ .dead := fun {cs r} hm j hj => by
      obtain ⟨q, hq, hj⟩ := List.mem_flatMap.1 hj
      obtain ⟨m, hm'⟩ := List.mem_iff_getElem?.1 hq
      obtain ⟨z, _, hf⟩ := mapO_get' hm hm'
      exact exps_alive k z q.1 q.2 hf j hj
    cases iv with
    | v y => simp only [exps, Option.some.injEq, Prod.mk.injEq] at h; obtain ⟨_, rfl⟩ := h; intro i hi; simp at hi
    | unk => simp [exps] at h
    | it i => simp [exps] at h
    | yld => simp [exps] at h
    | tup vs => simp [exps] at h
    | la i ver =>
      simp only [exps] at h
      split at h
      · rename_i hl
        split at h
        · cases h; intro j hj; simp at hj; subst hj; rw [hl]; simp
        · cases h
      · rename_i hl
        split at h
        · cases h; intro j hj; simp at hj; subst hj; rw [hl]; simp
        · cases h
      · cases h
    | lt i ver lo =>
      simp only [exps] at h
      split at h
      · rename_i hl
        split at h
        · cases h; intro j hj; simp at hj; subst hj; rw [hl]; simp
        · cases h
      · rename_i hl
        split at h
        · cases h; intro j hj; simp at hj; subst hj; rw [hl]; simp
        · cases h
      · cases h
    | lp i ver idx off =>
      simp only [exps] at h
      split at h
      · split at h
        · rename_i cs hl
          obtain ⟨r, h1, h⟩ := Option.bind_eq_some_iff.1 h
          cases h
          intro j hj
          simp only [List.mem_cons] at hj
          rcases hj with rfl | hj
          · rw [hl]; simp
          · exact many h1 j hj
        · rename_i hl
          cases h; intro j hj; simp at hj; subst hj; rw [hl]; simp
        · cases h
      · cases h
    | agg cs =>
      simp only [exps] at h
      obtain ⟨r, h1, h⟩ := Option.bind_eq_some_iff.1 h
      cases h
      exact many h1
    | clo f cs =>
      simp only [exps] at h
      obtain ⟨r, h1, h⟩ := Option.bind_eq_some_iff.1 h
      cases h
      exact many h1
theorem frz_all (hs : Sim c K G ov ds st a w) (hnf : NF G st) : frzO st.loc = frzS st.loc (List.range st.nid) := by
  funext i
  unfold frzS
  split
  · rfl
  · rename_i h
    have hi : st.loc i = .dead := by
      cases hg : G i with
      | none => exact hs.gnone i hg
      | some g => exact absurd (List.mem_range.2 (hnf i (by rw [hg]; simp))) h
    simp [frzO, hi]
theorem closed_all (hs : Sim c K G ov ds st a w) (hnf : NF G st) : Closed st.loc (List.range st.nid) := by
  intro i _ cs _ r hr q hq j hj
  obtain ⟨m, hm⟩ := List.mem_iff_getElem?.1 hq
  obtain ⟨z, _, hf⟩ := mapO_get' hr hm
  have hne := exps_alive 6 z q.1 q.2 hf j hj
  cases hg : G j with
  | none => exact absurd (hs.gnone j hg) hne
  | some g => exact List.mem_range.2 (hnf j (by rw [hg]; simp))
theorem Sim.inner (hs : Sim c K G ov ds st a w) (hnf : NF G st) : ∃ K', K.le K' ∧ Sim (c.inner K' w ds) K' G ov ds { st with loc := frzO st.loc } a w := by
  have h := hs.freeze _ (closed_all hs hnf)
  rw [← frz_all hs hnf] at h
  refine ⟨_, hs.frzK_le _, { kok := h.kok, k0 := Kt.le.refl _, kO := fun b o v _ hv => hv, slots := h.slots, nt := h.nt, objs := h.objs, gnone := h.gnone, own := ?_, nd := h.nd, sep := h.sep, same := SameW.refl _, frame := fun b _ => rfl, oB := fun b hb => hb.1, outs := h.outs, prot := fun _ => trivial, protx := fun _ => ⟨[], trivial⟩, dfs := h.dfs, dnd := h.dnd, dob := ?_, hJ := fun _ _ _ _ _ _ _ _ _ => trivial, hJx := fun _ _ _ _ _ _ _ _ _ => trivial }⟩
  · intro i g hg hl
    rw [frzO_live] at hl; cases hl
  · exact fun d hd => ⟨(hs.dob d hd).1, fun h => h.2 hd⟩
theorem Sim.joinOut (hs : Sim c K G ov ds st a w) {K' K'' : Kt} {G'' : Gt} {ov'' : List Value} {st'' : St} {a'' : Act} {w'' : World} (hs' : Sim (c.inner K' w ds) K'' G'' ov'' ds st'' a'' w'') (hle : K.le K') {D : Nat → Prop} (hag : Agree D a a'') (env' : Nat → IVal) (nid' : Nat)
    (henv : ∀ t, env' t = .unk ∨ (∃ b, env' t = .v (.bool b) ∧ st''.env t = .v (.bool b)) ∨ (¬ D t ∧ env' t = st.env t)) : Sim c K G ov ds { st with env := env', nid := nid' } a'' w'' := by
  have hk : ∀ b, b < w.heap.size → b ∉ ds → vw w'' b = vw w b := fun b h1 h2 => hs'.frame b ⟨h1, h2⟩
  have hown : ∀ i g, G i = some g → (st.loc i).live = true → ∀ b ∈ g.bs, vw w'' b = vw w b := fun i g hg hl b hb => by
    obtain ⟨k1, _, k3, _⟩ := hs.own i g hg hl b hb
    exact hk b k1 k3
  have hsame : SameW w w'' := hs'.same
  have hevo : Evo K (OwnB c st.loc G ds) w K (OwnB c st.loc G ds) w'' := ⟨hsame, fun b hb hn => hk b hb fun hd => hn (.inr hd), fun b o v hv _ => hs'.kok b o v (hs'.k0 b o v (hle b o v hv)), Kt.le.refl _, fun _ _ _ h => .inl h, fun _ h => .inl h⟩
  refine { kok := fun b o v hv => hs'.kok b o v (hs'.k0 b o v (hle b o v hv)), k0 := hs.k0, kO := hs.kO, slots := ?_, nt := hs'.nt, objs := fun i g hg => (hs.objs i g hg).mono (Kt.le.refl _) (Ext.refl _ _) fun hl => hown i g hg hl, gnone := hs.gnone, own := fun i g hg hl b hb => ?_, nd := hs.nd, sep := hs.sep, same := hs.same.trans hsame, frame := fun b hb => ?_, oB := hs.oB, outs := hs.outs, prot := fun h => hs.hJ _ _ _ _ _ _ _ (hs.prot h) hevo, protx := fun h => let ⟨pre, h⟩ := hs.protx h; ⟨pre, hs.hJx _ _ _ _ _ _ _ h hevo⟩, dfs := hs'.dfs, dnd := hs.dnd, dob := fun d hd => ⟨(hs'.dob d hd).1, (hs.dob d hd).2⟩, hJ := hs.hJ, hJx := hs.hJx }
  · intro t
    show IR K c.l st.loc G (env' t) _
    rcases henv t with h | ⟨b, h1, h2⟩ | ⟨h1, h2⟩
    · rw [h]; simp [IR]
    · have := hs'.slots t
      rw [h2] at this
      rw [h1, VR_bool (IR_v this)]
      simp [IR, VR]
    · rw [h2, hag t h1]; exact hs.slots t
  · obtain ⟨k1, k2, k3, k4⟩ := hs.own i g hg hl b hb
    exact ⟨Nat.lt_of_lt_of_le k1 hsame.size, k2, k3, k4⟩
  · rw [hk b (hs.olt hb) fun hd => (hs.dob b hd).2 hb]
    exact hs.frame b hb
theorem clearD_spec : ∀ (l : List Oper) (env : Nat → IVal) (t : Nat), (clearD l env t = .unk) ∨ ((∀ o ∈ l, o.dst ≠ some t) ∧ clearD l env t = env t)
  | [], env, t => .inr ⟨by simp, rfl⟩
  | o :: l, env, t => by
    cases hd : o.dst with
    | none =>
      simp only [clearD, hd]
      rcases clearD_spec l env t with h | ⟨h1, h2⟩
      · exact .inl h
      · exact .inr ⟨fun o' ho' => by
          simp only [List.mem_cons] at ho'
          rcases ho' with rfl | ho'
          · rw [hd]; simp
          · exact h1 o' ho', h2⟩
    | some d =>
      simp only [clearD, hd]
      rcases clearD_spec l (upd env d .unk) t with h | ⟨h1, h2⟩
      · exact .inl h
      · by_cases ht : t = d
        · subst ht; rw [upd_same] at h2; exact .inl h2
        · rw [upd_other _ _ ht] at h2
          exact .inr ⟨fun o' ho' => by
            simp only [List.mem_cons] at ho'
            rcases ho' with rfl | ho'
            · rw [hd]; intro e; exact ht (by cases e; rfl)
            · exact h1 o' ho', h2⟩
theorem setBoolsN_spec (vs : List Bool) : ∀ (l : List Nat) (i : Nat) (env : Nat → IVal) (t : Nat), (∃ j, l[j]? = some t ∧ setBoolsN vs i l env t = .v (.bool (vs.getD (i + j) false))) ∨ (setBoolsN vs i l env t = env t)
  | [], _, _, _ => .inr rfl
  | s :: l, i, env, t => by
    simp only [setBoolsN]
    rcases setBoolsN_spec vs l (i + 1) (upd env s (.v (.bool (vs.getD i false)))) t with ⟨j, h1, h2⟩ | h
    · exact .inl ⟨j + 1, by simpa using h1, by rw [h2, show i + 1 + j = i + (j + 1) by omega]⟩
    · by_cases ht : t = s
      · subst ht; exact .inl ⟨0, by simp, by rw [h, upd_same]; rfl⟩
      · exact .inr (by rw [h, upd_other _ _ ht])
theorem setBools_spec : ∀ (l : List (Nat × Bool)) (env : Nat → IVal) (t : Nat), (∃ b, (t, b) ∈ l ∧ setBools env l t = .v (.bool b)) ∨ (setBools env l t = env t)
  | [], _, _ => .inr rfl
  | (s, b) :: l, env, t => by
    simp only [setBools]
    rcases setBools_spec l (upd env s (.v (.bool b))) t with ⟨b', h1, h2⟩ | h
    · exact .inl ⟨b', by simp [h1], h2⟩
    · by_cases ht : t = s
      · subst ht; exact .inl ⟨b, by simp, by rw [h, upd_same]⟩
      · exact .inr (by rw [h, upd_other _ _ ht])
end
end Go.Lm
end
section
namespace Go.Lm
section
variable {P : Program} {T : Nat → List SVal → Option Res} {ops : Array Oper}
variable {c : Ctx} {K : Kt} {G : Gt} {ov : List Value} {ds : List Nat} {st : St} {a : Act} {w : World} {F : Fence} {n : Nat} {Q : Exit → Act → World → Prop}
theorem Sim.nid (hs : Sim c K G ov ds st a w) (m : Nat) : Sim c K G ov ds { st with nid := m } a w := { hs with }
theorem runs_wp (hF : FOk F) (hT : ∀ f args r, T f args = some r → Good P c.H f args r) {base N : Nat} {st' : St} (hpost : ∀ K' G' a' w', Sim c K' G' ov ds st' a' w' → (∀ j, G' j ≠ none → j < base + 32 * N) → Q .normal a' w') :
    ∀ (l : List (Nat × Oper)) (st : St) (fs : List Foot) (K : Kt) (G : Gt) (a : Act) (w : World), Runs P c.H T c.nt ops base st l st' fs → Sim c K G ov ds st a w → (∀ p ∈ l, ops[p.1]? = some p.2 ∧ p.1 < N) → (l.map (·.1)).Nodup → Fr G base N (l.map (·.1)) → wpOpsIn F n P ops Q (l.map (·.1)) a w
  | [], _, _, K, G, a, w, .nil, hs, _, _, hf => hpost K G a w hs fun j hj => (hf j hj).1
  | (i, o) :: l, st, _, K, G, a, w, .cons h1 h2, hs, hl, hnd, hf => by
    simp only [List.map_cons] at hnd hf ⊢
    rw [wpOpsIn_cons]
    obtain ⟨hi, hiN⟩ := hl (i, o) (by simp)
    obtain ⟨hn1, hn2⟩ := List.nodup_cons.1 hnd
    refine stepR_wp hF hT hs h1 hi (hf.free (by simp)) ?_
    intro K' G' v w' hs' hG'
    exact runs_wp hF hT hpost l _ _ K' G' _ w' h2 hs' (fun p hp => hl p (by simp [hp])) hn2 (hf.after hiN (fun j hj => ⟨by simp [hj], fun e => by subst e; exact hn1 hj⟩) hG')
theorem runs_stop {H : Nat → FH} {nt base : Nat} : ∀ {l : List (Nat × Oper)} {st st' : St} {fs : List Foot}, Runs P H T nt ops base st l st' fs → st'.stop = st.stop
  | _, _, _, _, .nil => rfl
  | _, _, _, _, .cons h1 h2 => by
    obtain ⟨_, u, rfl, _, _⟩ := h1
    rw [runs_stop h2, (app_out _ _ _).2]
theorem asBI_spec {iv : IVal} {b : Bool} (h : asBI iv = some b) : iv = .v (.bool b) := by
  unfold asBI at h
  split at h
  · unfold asB at h
    split at h
    · cases h; rfl
    · cases h
  · cases h
theorem regionC_wp {α : Type} (hF : FOk F) (hT : ∀ f args r, T f args = some r → Good P c.H f args r) (hm : P.follows .mixedOrders = true) (hs : Sim c K G ov ds st a w) (hnf : NF G st) {gen : Bool} {full : List SVal} (hy : gen = true → Yields P c.l c.J c.Jx full c.O)
    {h : FH} {id : Nat} {draw : Bool} {Kc : St → Option α} {r r0 : α} (hreg : regionC P c.H T c.nt h gen id ops draw st Kc = some r) (hr : st.stop = false ∨ gen = false → r = r0) (hpre : gen = true → ∀ st', Kc st' = some r0 → st'.stop = false → ∃ rest, full = st'.out ++ rest)
    {D : Nat → Prop} {a0 : Act} (hDw : ∀ (i : Nat) (o : Oper), ops[i]? = some o → ∀ t, o.dst = some t → D t) (ha0 : Agree D a0 a)
    (hpost : ∀ st' r' ov' K' G' a' w', Kc st' = some r' → (st'.stop = false ∨ gen = false → r' = r0) → Sim c K' G' ov' ds st' a' w' → NF G' st' → Agree D a0 a' → Q .normal a' w') : (Code.region id ops draw).wpIn F n P Q a w := by
  unfold regionC at hreg
  simp only at hreg
  have hids := textL_ids ops
  have hnodup : ((ops.toList.zipIdx.map (fun p => (p.2, p.1))).map (·.1)).Nodup := by rw [hids]; exact List.nodup_range
  split at hreg
  · rename_i slots _
    obtain ⟨vs, h1, h2⟩ := Option.bind_eq_some_iff.1 hreg
    split at h2
    · rename_i hsl
      obtain ⟨st'', fs, hruns, hk⟩ := runs_of _ _ _ h1
      rw [List.nil_append] at hk
      split at hk
      · rename_i hok
        obtain ⟨K1, hle, hin⟩ := hs.inner hnf
        have hD : ∀ (i : Nat) (o : Oper), ops[i]? = some o → ∀ t, o.dst = some t → ∃ o ∈ ops.toList, o.dst = some t := fun i o ho t ht => ⟨o, List.mem_of_getElem? (by simpa using ho), ht⟩
        have hfin : ∀ K' G' a' w', Sim (c.inner K1 w ds) K' G' ov ds st'' a' w' → (∀ j, G' j ≠ none → j < st.nid + 32 * ops.size) → Qfix (fun t => ∃ o ∈ ops.toList, o.dst = some t) a Q .normal a' w' := by
          intro K' G' a' w' hs' _ hag
          refine hpost _ r ov K G a' w' h2 hr (hs.joinOut hs' hle hag _ _ fun t => ?_) (fun j hj => Nat.lt_of_lt_of_le (hnf j hj) (Nat.le_add_right _ _)) (fun t ht => (hag t fun ⟨o, ho, hd⟩ => by
            obtain ⟨m, hm'⟩ := List.mem_iff_getElem?.1 ho
            exact ht (hDw m o (by simpa using hm') t hd)).trans (ha0 t ht))
          rcases setBoolsN_spec vs slots 0 (clearD ops.toList st.env) t with ⟨m, hm', he⟩ | he
          · refine .inr (.inl ⟨_, he, ?_⟩)
            obtain ⟨y, hy', hf⟩ := mapO_get hk hm'
            have hy2 : vs.getD (0 + m) false = y := by rw [Nat.zero_add, List.getD_eq_getElem?_getD, hy']; rfl
            rw [hy2]
            exact asBI_spec hf
          · rw [he]
            rcases clearD_spec ops.toList st.env t with h | ⟨h3, h4⟩
            · exact .inl h
            · exact .inr (.inr ⟨fun ⟨o, ho, hd⟩ => h3 o ho hd, h4⟩)
        have hnf' : NF G { st with loc := frzO st.loc } := hnf
        cases draw with
        | false =>
          refine wpIn_region (wpOpsIn_fix (D := fun t => ∃ o ∈ ops.toList, o.dst = some t) (a0 := a) hD _ a w (fun _ _ => rfl) ?_)
          rw [← hids]
          exact runs_wp (c := c.inner K1 w ds) hF hT hfin _ _ fs K1 G a w hruns hin (textL ops) hnodup (fr_start hnf' _ _)
        | true =>
          simp only [Bool.not_true, Bool.false_or, Bool.and_eq_true] at hok
          refine wpIn_region_any hm (wpAnyIn_fix (D := fun t => ∃ o ∈ ops.toList, o.dst = some t) (a0 := a) hD _ _ a _ (fun _ _ => rfl) ?_)
          exact drawn_any (c := c.inner K1 w ds) hF hT (hin.world ⟨rfl, rfl, rfl, Nat.le_refl _⟩ rfl) hnf' rfl hruns hok.1.1.1 hok.1.2 hok.2 hfin
      · cases hk
    · cases h2
  · cases draw with
    | false =>
      refine wpIn_region (wpOpsIn_fix (D := D) (a0 := a0) hDw _ a w ha0 ?_)
      rw [← hids]
      refine runC_wp (Q := Qfix D a0 Q) (N := ops.size) hF hT (fun hd => hy (by cases gen <;> simp_all)) (r0 := r0) ?_ ?_ _ st [] r K G ov a w hreg (fun hh => hr (hh.imp (fun h => h) fun h => by cases gen <;> simp_all)) hs (textL ops) hnodup (fr_start hnf _ _)
      · intro hd st' fs' hk hst
        simp only [Bool.not_false, Bool.true_or, if_true] at hk
        exact hpre (by cases gen <;> simp_all) { st' with nid := st.nid + 32 * ops.size } hk hst
      · intro st' fs' r' ov' K' G' a' w' hk hr' hs' hG'
        simp only [Bool.not_false, Bool.true_or, if_true] at hk
        exact fun hag => hpost _ r' ov' K' G' a' w' hk (fun hh => hr' (hh.imp (fun h => h) fun h => by simp [h])) (hs'.nid _) hG' hag
    | true =>
      simp only [Bool.true_or] at hreg
      obtain ⟨st'', fs, hruns, hk⟩ := runs_of _ _ _ hreg
      rw [List.nil_append] at hk
      split at hk
      · rename_i hok
        simp only [Bool.not_true, Bool.false_or, Bool.and_eq_true] at hok
        refine wpIn_region_any hm (wpAnyIn_fix (D := D) (a0 := a0) hDw _ _ a _ ha0 ?_)
        refine drawn_any (Q := Qfix D a0 Q) hF hT (hs.world ⟨rfl, rfl, rfl, Nat.le_refl _⟩ rfl) hnf rfl hruns hok.1.1.1 hok.1.2 hok.2 ?_
        intro K' G' a' w' hs' hG'
        exact fun hag => hpost _ r ov K' G' a' w' hk (fun hst => hr (by rw [← runs_stop hruns]; exact hst)) (hs'.nid _) hG' hag
      · cases hk
end
end Go.Lm
end
section
namespace Go.Lm
section
variable {P : Program} {c : Ctx} {K : Kt} {G : Gt} {ov : List Value} {ds : List Nat} {st : St} {a : Act} {w : World}
/-- All is forgotten. -/
theorem Sim.clear (hs : Sim c.triv K G ov ds st a w) (ov' : List Value) (out : List SVal) (stop : Bool) (hout : stop = false → VRs K c.l out ov') : Sim c.triv K (fun _ => none) ov' ds { env := fun _ => .unk, loc := fun _ => .dead, nid := 0, out, stop } a w where
  kok := hs.kok
  k0 := hs.k0
  kO := hs.kO
  slots := fun t => by simp [IR]
  nt := hs.nt
  objs := fun i g h => by cases h
  gnone := fun i _ => rfl
  own := fun i g h => by cases h
  nd := fun i g h => by cases h
  sep := fun i j g g' b _ h => by cases h
  same := hs.same
  frame := hs.frame
  oB := hs.oB
  outs := hout
  prot := fun _ => trivial
  protx := fun _ => ⟨[], trivial⟩
  dfs := hs.dfs
  dnd := hs.dnd
  dob := hs.dob
  hJ := hs.hJ
  hJx := hs.hJx
theorem Sim.envs (hs : Sim c K G ov ds st a w) (env' : Nat → IVal) (m : Nat) (h : ∀ t, IR K c.l st.loc G (env' t) (a.tmps.getD t Go.undef)) : Sim c K G ov ds { st with env := env', nid := m } a w := { hs with slots := h }
theorem impKeep_ge : ∀ (keep : List (Nat × Shape)) (xs : List SVal) (n : Nat), n ≤ (impKeep keep xs n).2.2
  | [], _, _ => Nat.le_refl _
  | (s, sh) :: r, xs, n => by
    simp only [impKeep]
    exact Nat.le_trans (imp_ge sh _ n) (impKeep_ge r _ _)
theorem impKeep_sound : ∀ (keep : List (Nat × Shape)) (xs : List SVal) (bs : List Nat) (n : Nat) (st : St) (G : Gt), Sim c.triv K G ov ds st a w → XSs c.H K c.l w (keep.map (·.2)) xs (keep.map fun p => a.tmps.getD p.1 Go.undef) bs →
    (∀ i, n ≤ i → G i = none) → Free c K G st.loc ds w bs →
    ∃ G', Took c K G ov ds st a w n (impKeep keep xs n).2.2 bs (impKeep keep xs n).2.1 G' ∧ ∀ t, IR K c.l (updL st.loc (impKeep keep xs n).2.1) G' ((impKeep keep xs n).1 t) (a.tmps.getD t Go.undef)
  | [], xs, bs, n, st, G, hs, hx, _, _ => by
    simp only [List.map_nil, XSs] at hx
    obtain ⟨_, _, rfl⟩ := hx
    exact ⟨G, by simpa only [impKeep] using Took.nil hs n [], fun t => by simp [impKeep, IR]⟩
  | (s, sh) :: r, xs, bs, n, st, G, hs, hx, hfr, hf => by
    simp only [List.map_cons, XSs] at hx
    obtain ⟨x, xt, v, vt, b1, b2, rfl, hv, rfl, hx1, hx2⟩ := hx
    simp only [List.cons.injEq] at hv
    obtain ⟨rfl, rfl⟩ := hv
    simp only [impKeep, List.headD_cons, List.tail_cons]
    obtain ⟨G1, h1, h2⟩ := imp_sound sh x _ b1 n st G hs hx1 (fun i a _ => hfr i a) hf.left
    have g1 := imp_ge sh x n
    obtain ⟨G2, h3, h4⟩ := impKeep_sound r xt b2 (imp sh x n).2.2 { st with loc := updL st.loc (imp sh x n).2.1 } G1 h1.sim hx2 (fun i hi => by
      cases hg : G1 i with
      | none => rfl
      | some g =>
        rcases h1.fresh i (by rw [hg]; simp) with h | ⟨_, h⟩
        · exact absurd (hfr i (by omega)) h
        · omega) (hf.right h1)
    refine ⟨G2, h1.trans g1 (impKeep_ge _ _ _) h3, fun t => ?_⟩
    rw [updL_append]
    by_cases ht : t = s
    · subst ht
      rw [upd_same]
      exact h2.mono (Kt.le.refl _) h3.ext
    · rw [upd_other _ _ ht]
      exact h4 t
theorem expKeep_spec {H : Nat → FH} {loc : Nat → Obj} {env : Nat → IVal} : ∀ {keep : List (Nat × Shape)} {es : List Ex}, expKeep H loc env keep = some es → Exps H loc (keep.map (·.2)) (keep.map fun p => env p.1) es
  | [], es, h => by simp [expKeep] at h; subst h; exact .nil
  | (s, sh) :: r, es, h => by
    simp only [expKeep, Option.bind_eq_some_iff] at h
    obtain ⟨e, h1, es', h2, h3⟩ := h
    cases h3
    exact .cons (expS_inv 6 _ _ _ h1) (expKeep_spec h2)
theorem XL_XSs {H : Nat → FH} {K : Kt} {l : Nat} {w : World} : ∀ {ss : List Shape} {xs : List SVal} {vs : List Value} {bs : List (List Nat)}, XL H K l w ss xs vs bs → XSs H K l w ss xs vs bs.flatten
  | [], [], [], [], _ => by simp [XSs]
  | s :: ss, x :: xs, v :: vs, b :: bs, h => by
    simp only [XSs, List.flatten_cons]
    exact ⟨x, xs, v, vs, b, bs.flatten, rfl, rfl, rfl, h.1, XL_XSs h.2⟩
  | [], _ :: _, _, _, h => by simp [XL] at h
  | [], [], _ :: _, _, h => by simp [XL] at h
  | [], [], [], _ :: _, h => by simp [XL] at h
  | _ :: _, [], _, _, h => by simp [XL] at h
  | _ :: _, _ :: _, [], _, h => by simp [XL] at h
  | _ :: _, _ :: _, _ :: _, [], h => by simp [XL] at h
/-- What a loop's head keeps. -/
theorem keep_sound (hs : Sim c K G ov ds st a w) {gen : Bool} (hgen : gen = false → (∀ ov K O w, c.J ov K O w) ∧ (∀ ov K O w, c.Jx ov K O w)) {keep : List (Nat × Shape)} {r : List SVal × List Nat} (h : keepOut c.H st.loc st.env keep = some r) :
    ∃ K' G' ov', Sim c K' G' ov' ds (keepIn keep r.1 (if gen then st.out else []) (if gen then st.stop else false)) a w ∧ NF G' (keepIn keep r.1 (if gen then st.out else []) (if gen then st.stop else false)) := by
  unfold keepOut at h
  obtain ⟨es, h1, h⟩ := Option.bind_eq_some_iff.1 h
  split at h
  · rename_i hc
    cases h
    simp only [Bool.and_eq_true] at hc
    have hnd := nodupB_spec hc.1
    have hex := expKeep_spec h1
    have hcl := exps_cl hex
    have hir : IRs K c.l st.loc G (keep.map fun p => st.env p.1) (keep.map fun p => a.tmps.getD p.1 Go.undef) := IRs.of_get (by simp) fun j x v hx hv => by
      simp only [List.getElem?_map, Option.map_eq_some_iff] at hx hv
      obtain ⟨p, hp, rfl⟩ := hx
      obtain ⟨p', hp', rfl⟩ := hv
      rw [hp] at hp'; cases hp'
      exact hs.slots _
    obtain ⟨hXL, hlive⟩ := exps_XL hs (ids := es.flatMap (·.brw)) hex (fun i hi => hi) hir
    have hX := XL_XSs hXL
    rw [flat_bsO] at hX
    have hs1 := hs.freeze _ hcl
    have hlive1 : ∀ i ∈ es.flatMap (·.con), ∃ g, G i = some g ∧ (frzS st.loc (es.flatMap (·.brw)) i).live = true := fun i hi => by rw [frzS_con (disjB_spec hc.2 hi)]; exact hlive i hi
    have hnodup := bsO_nodup hs hnd hlive
    generalize hK1 : frzK K G st.loc (es.flatMap (·.brw)) w = K1 at *
    have hmem : ∀ b ∈ bsO G (es.flatMap (·.con)), b < w.heap.size ∧ ¬ c.O b ∧ b ∉ ds ∧ (∀ o, K1 b o = none) ∧ OwnB c (frzS st.loc (es.flatMap (·.brw))) G ds b := fun b hb => by
      obtain ⟨i, hi, g, hg, hb⟩ := mem_bsO.1 hb
      obtain ⟨g', hg', hl⟩ := hlive1 i hi
      rw [hg] at hg'; cases hg'
      obtain ⟨k1, k2, k3, k4⟩ := hs1.own i g hg hl b hb
      exact ⟨k1, k2, k3, k4, .inl ⟨i, g, hg, hl, hb⟩⟩
    obtain ⟨ov', hov, hJ⟩ : ∃ ov', ((if gen then st.stop else false) = false → VRs K1 c.l (if gen then st.out else []) ov') ∧ (∀ own', (∀ b, own' b → OwnB c (frzS st.loc (es.flatMap (·.brw))) G ds b) → ((if gen then st.stop else false) = false → c.J ov' K1 own' w) ∧ ((if gen then st.stop else false) = true → ∃ pre, c.Jx pre K1 own' w)) := by
      cases gen with
      | false => exact ⟨[], fun _ => by simp [VRs], fun own' _ => ⟨fun _ => (hgen rfl).1 _ _ _ _, fun h => by cases h⟩⟩
      | true =>
        refine ⟨ov, fun h => hs1.outs h, fun own' ho => ?_⟩
        have hevo : Evo K1 (OwnB c (frzS st.loc (es.flatMap (·.brw))) G ds) w K1 own' w := ⟨SameW.refl _, fun _ _ _ => rfl, fun _ _ _ _ h => h, Kt.le.refl _, fun _ _ _ h => .inl h, fun b h => .inl (ho b h)⟩
        exact ⟨fun h => hs.hJ _ _ _ _ _ _ _ (hs1.prot h) hevo, fun h => let ⟨pre, h⟩ := hs1.protx h; ⟨pre, hs.hJx _ _ _ _ _ _ _ h hevo⟩⟩
    have h0 := hs1.toTriv.clear ov' (if gen then st.out else []) (if gen then st.stop else false) hov
    obtain ⟨G', ht, hslots⟩ := impKeep_sound keep _ _ 0 _ _ h0 hX (fun _ _ => rfl) ⟨hnodup, fun b hb => by
      obtain ⟨k1, k2, k3, k4, _⟩ := hmem b hb
      exact ⟨k1, k2, k3, k4, fun j g hg => by cases hg⟩⟩
    have hs2 := ht.sim.envs (impKeep keep (es.map fun e : Ex => e.x) 0).1 (impKeep keep (es.map fun e : Ex => e.x) 0).2.2 hslots
    obtain ⟨j1, j2⟩ := hJ (OwnB c (updL (fun _ => .dead) (impKeep keep (es.map fun e : Ex => e.x) 0).2.1) G' ds) (by
      rintro b (⟨i, g, hg, hl, hb⟩ | hb)
      · rcases ht.blks i g b hg hl hb with ⟨g0, hg0, _⟩ | hb
        · cases hg0
        · exact (hmem b hb).2.2.2.2
      · exact .inr hb)
    refine ⟨K1, G', ov', hs2.ofTriv hs.hJ hs.hJx j1 j2, fun j hj => ?_⟩
    rcases ht.fresh j hj with h | ⟨_, h⟩
    · exact absurd rfl h
    · exact h
  · cases h
end
end Go.Lm
end
section
namespace Go.Lm
section
variable {P : Program} {H : Nat → FH} {T : Nat → List SVal → Option Res} {α : Type}
theorem keepLS_spec {gen : Bool} {st : St} {env : Nat → IVal} {keep : List (Nat × Shape)} {k : LS → Option α} {r : α} (h : keepLS H gen st env keep k = some r) : ∃ q, keepOut H st.loc env keep = some q ∧ k ⟨q.1, if gen then st.out else [], if gen then st.stop else false⟩ = some r := by
  unfold keepLS at h
  obtain ⟨q, h1, h⟩ := Option.bind_eq_some_iff.1 h
  exact ⟨q, h1, h⟩
theorem LS_st_true (s : LS) (keep : List (Nat × Shape)) : (s.st true keep).out = s.out ∧ (s.st true keep).stop = s.stop := ⟨rfl, rfl⟩
theorem refine_out (st : St) (c : Operand) (b : Bool) : (refine st c b).out = st.out ∧ (refine st c b).stop = st.stop := by cases c <;> exact ⟨rfl, rfl⟩
theorem regionC_pre {full : List SVal} {r : α} {nt : Nat} {h : FH} {gen : Bool} {id : Nat} {ops : Array Oper} {draw : Bool} {st : St} {Kc : St → Option α} (hK : ∀ st', Kc st' = some r → st'.stop = false → ∃ rest, full = st'.out ++ rest)
    (hr : regionC P H T nt h gen id ops draw st Kc = some r) (hs : st.stop = false) : ∃ rest, full = st.out ++ rest := by
  unfold regionC at hr
  simp only at hr
  split at hr
  · obtain ⟨vs, _, hr⟩ := Option.bind_eq_some_iff.1 hr
    split at hr
    · have := hK _ hr
      exact this hs
    · cases hr
  · refine runC_pre (Kc := _) (fun st' fs' h' hst => ?_) _ st [] hr hs
    split at h'
    · exact hK { st' with nid := st.nid + 32 * ops.size } h' hst
    · cases h'
theorem codeC_pre {full : List SVal} {r : α} {fuel nt : Nat} {h : FH} {rf : Bool} : ∀ (d n : Nat) (c : Code) (st : St) (Kc : Ex' → St → Option α), (∀ x st', Kc x st' = some r → st'.stop = false → ∃ rest, full = st'.out ++ rest) →
    codeC P H T fuel nt h true rf d n c st Kc = some r → st.stop = false → ∃ rest, full = st.out ++ rest
  | 0, _, _, _, _, _, h, _ => by simp [codeC] at h
  | d + 1, n, c, st, Kc, hK, hc, hs => by
    have ih := fun n c st Kc hK hc hs => codeC_pre (full := full) (r := r) (fuel := fuel) (nt := nt) (h := h) (rf := rf) d n c st Kc hK hc hs
    cases c with
    | skip => simp only [codeC] at hc; exact hK _ _ hc hs
    | label l => simp only [codeC] at hc; exact hK _ _ hc hs
    | ret => simp only [codeC] at hc; exact hK _ _ hc hs
    | exit id => simp only [codeC] at hc; exact hK _ _ hc hs
    | goto l => simp only [codeC] at hc; exact hK _ _ hc hs
    | region id ops draw => simp only [codeC] at hc; exact regionC_pre (st := coolS h id st) (fun st' h' hst => hK _ st' h' hst) hc hs
    | seq a b =>
      simp only [codeC] at hc
      refine ih _ _ _ _ (fun x st' h' hst => ?_) hc hs
      split at h'
      · exact ih _ _ _ _ hK h' hst
      · exact hK _ _ h' hst
    | cond c a b =>
      simp only [codeC] at hc
      split at hc
      · obtain ⟨t, _, hc⟩ := pickC_cps hc
        split at hc
        · have := ih _ _ _ _ hK hc (by rw [(refine_out st c true).2]; exact hs)
          rwa [(refine_out st c true).1] at this
        · have := ih _ _ _ _ hK hc (by rw [(refine_out st c false).2]; exact hs)
          rwa [(refine_out st c false).1] at this
      · cases hc
    | block id b =>
      simp only [codeC] at hc
      refine ih _ _ _ _ (fun x st' h' hst => ?_) hc hs
      split at h'
      · split at h'
        · exact hK _ _ h' hst
        · exact hK _ _ h' hst
      · exact hK _ _ h' hst
    | loop b =>
      simp only [codeC] at hc
      obtain ⟨q, _, hc⟩ := keepLS_spec hc
      have key : ∀ (k : Nat) (s : LS), loopN (fun s next => codeC P H T fuel nt h true rf d (n + 1) b (s.st true (h.keep.getD n [])) fun x st' => match x with
          | .normal => keepLS H true st' st'.env (h.keep.getD n []) next
          | x => Kc x st') k s = some r → s.stop = false → ∃ rest, full = s.out ++ rest := by
        intro k
        induction k with
        | zero => intro s hc; simp [loopN] at hc
        | succ k ihk =>
          intro s hc hst
          simp only [loopN] at hc
          refine ih _ _ _ _ (fun x st' h' hst' => ?_) hc hst
          split at h'
          · obtain ⟨q', _, h'⟩ := keepLS_spec h'
            exact ihk _ h' hst'
          · exact hK _ _ h' hst'
      exact key _ _ hc hs
    | scope b =>
      simp only [codeC] at hc
      refine ih _ _ _ _ (fun x st' h' hst => ?_) hc hs
      split at h'
      · rename_i l
        split at h'
        · rename_i rest _
          obtain ⟨q, _, h'⟩ := keepLS_spec h'
          have key : ∀ (k : Nat) (s : LS), loopN (fun s next => codeC P H T fuel nt h true rf d (n + 1) rest (s.st true (h.keep.getD n [])) fun x st' => match x with
              | .goto l' => if l' = l then keepLS H true st' st'.env (h.keep.getD n []) next else none
              | x => Kc x st') k s = some r → s.stop = false → ∃ rest, full = s.out ++ rest := by
            intro k
            induction k with
            | zero => intro s hc; simp [loopN] at hc
            | succ k ihk =>
              intro s hc hst
              simp only [loopN] at hc
              refine ih _ _ _ _ (fun x st' h' hst' => ?_) hc hst
              split at h'
              · split at h'
                · obtain ⟨q', _, h'⟩ := keepLS_spec h'
                  exact ihk _ h' hst'
                · cases h'
              · exact hK _ _ h' hst'
          exact key _ _ h' hst
        · exact hK _ _ h' hst
      · exact hK _ _ h' hst
    | rangeFunc g ps assign b => simp [codeC] at hc
    | refuse m => simp [codeC] at hc
end
end Go.Lm
end
