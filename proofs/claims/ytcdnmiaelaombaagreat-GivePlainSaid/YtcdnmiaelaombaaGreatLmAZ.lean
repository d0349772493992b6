/- A part of the proof. -/
import Derived.Test.YtcdnmiaelaombaaGreatLmAY
import Derived.Deep.MidRow
set_option linter.unusedVariables false
set_option linter.unusedSimpArgs false
set_option linter.unnecessarySimpa false
set_option linter.all false
section
namespace Go.Lm
/-- A type that is known, and is not empty. -/
theorem tyOk_spec {P : Program} {t : Nat} (h : tyOk P t = true) : ∃ d i, P.underlying t = some d ∧ P.info? t = some i := by
  unfold tyOk at h
  simp only [Bool.and_eq_true, Option.isSome_iff_exists] at h
  obtain ⟨⟨d, h1⟩, i, h2⟩ := h
  exact ⟨d, i, h1, h2⟩
theorem run_isAggT {P : Program} {t : Nat} {d : TypeDesc} (h : P.underlying t = some d) (w : World) : (isAgg t).run P w = .ok (isAggT P t) w := by
  unfold isAgg isAggT
  simp only [Sem.run_bind, run_underlying h, Result.andThen_ok, h]
  cases d <;> simp
theorem run_sizeT {P : Program} {t : Nat} {i : TypeInfo} (h : P.info? t = some i) (w : World) : (sizeOf t).run P w = .ok (szT P t) w := by
  simp [sizeOf, typeInfo, h, szT]
section
variable {P : Program} {c : Ctx} {K : Kt} {G : Gt} {ov : List Value} {ds : List Nat} {st : St} {a : Act} {w : World}
theorem load_run {l : Nat} {loc : Nat → Obj} {t : Nat} {b o : Nat} {cs : List IVal} {vals : List Value} {iv : IVal} (hr : IRs K l loc G cs vals)
    (hc : ∀ j u, vals[j]? = some u → w.cell? ⟨b, o + j, none⟩ = some u) (hof : ofCells P t cs = some iv) :
    ∃ v, IR K l loc G iv v ∧ (Instr.loadAt t (.pointer (some ⟨b, o, none⟩))).run P w = .ok v w := by
  unfold ofCells at hof
  split at hof
  · rename_i hty
    obtain ⟨d, i, hd, hi⟩ := tyOk_spec hty
    split at hof
    · rename_i hag
      split at hof
      · rename_i hsz
        cases hof
        have hl : (vals.take (szT P t)).length = szT P t := by simp [hr.length]; omega
        refine ⟨.agg (vals.take (szT P t)).toArray, by simp only [IR]; exact ⟨_, rfl, hr.take _⟩, ?_⟩
        simp only [Instr.loadAt, Instr.sureAddr, loadVar, Sem.run_bind, Sem.run_pure, Result.andThen_ok, run_isAggT hd, hag, if_true, run_sizeT hi]
        have := run_loadCells_list (P := P) w ⟨b, o, none⟩ (vals.take (szT P t)) (fun j v hj => by
          rw [List.getElem?_take] at hj
          split at hj
          · have := hc j v hj
            rw [Addr.add_mid]; exact this
          · cases hj)
        rw [hl] at this
        simp [this]
      · cases hof
    · rename_i hag
      cases cs with
      | nil => simp at hof
      | cons x cs =>
        simp only [List.head?_cons, Option.some.injEq] at hof
        subst hof
        simp only [IRs] at hr
        obtain ⟨v, vt, rfl, h1, _⟩ := hr
        refine ⟨v, h1, ?_⟩
        have h0 := hc 0 v (by simp)
        simp only [Nat.add_zero] at h0
        simp only [Instr.loadAt, Instr.sureAddr, loadVar, Sem.run_bind, Sem.run_pure, Result.andThen_ok, run_isAggT hd, Bool.eq_false_iff.2 hag, Bool.false_eq_true, if_false]
        simp [load, Sem.run, h0]
  · cases hof
end
end Go.Lm
end
section
namespace Go.Lm
section
variable {P : Program} {c : Ctx} {K : Kt} {G : Gt} {ov : List Value} {ds : List Nat} {st : St} {a : Act} {w : World}
theorem exec_load {o : Oper} {t : Nat} {x : Operand} (ho : o.op = .load t x) {v : Value} {w' : World} (h : (Instr.loadAt t (a.eval x)).run P w = .ok v w') : (execOp a.eval o).run P w = .ok (.value v) w' := by
  simp [execOp, ho, h]
theorem SVal_map_v (cs : List SVal) (n : Nat) : (cs.drop n).map IVal.v = (cs.map IVal.v).drop n := by simp
/-- The cells of an element. -/
theorem VE_elem {l sz : Nat} {A : Option Addr} {xs : List SVal} {j : Nat} {e : SVal} (h : VE K l sz A 0 xs) (hj : xs[j]? = some e) :
    ∃ b o v, A = some ⟨b, o, none⟩ ∧ VR K l e v ∧ v.cells.size = sz ∧ (∀ u ∈ v.cells, u.oneCell' = true) ∧ ∀ q u, v.cells[q]? = some u → K b (o + (j * sz + q)) = some u := by
  have := VE_iff.1 h j e hj
  simpa using this
theorem elemOk_agg {ag : Bool} {sz : Nat} {e : SVal} (h : elemOk ag sz e = true) : aggE e = ag := by
  cases e <;> simp_all [elemOk, aggE]
theorem elem_cells {l sz : Nat} {e : SVal} {v : Value} (h : VR K l e v) (hsz : v.cells.size = sz) : VRs K l (elemCells (aggE e) sz e) v.cells.toList := by
  cases e with
  | agg cs =>
    simp only [VR] at h
    obtain ⟨vals, rfl, h1⟩ := h
    simp only [Value.cells] at hsz ⊢
    simp only [elemCells, aggE, if_true, cellsV]
    have hl : vals.length = sz := by simpa using hsz
    have hc : cs.length = sz := by rw [← h1.length, hl]
    have : (List.range sz).map (SVal.agg cs).cell = cs := by
      apply List.ext_getElem?
      intro j
      rw [List.getElem?_map]
      by_cases hj : j < sz
      · rw [List.getElem?_range hj]
        simp [SVal.cell, SVal.cs, List.getD, List.getElem?_eq_getElem (show j < cs.length by omega)]
      · rw [List.getElem?_eq_none (by simp; omega), List.getElem?_eq_none (by omega)]; rfl
    rw [this]
    simpa using h1
  | int _ _ => simp only [elemCells, aggE]; have := VR_int h; subst this; simp [VRs, VR, Value.cells]
  | bool _ => simp only [elemCells, aggE]; have := VR_bool h; subst this; simp [VRs, VR, Value.cells]
  | str _ => simp only [elemCells, aggE]; simp only [VR] at h; subst h; simp [VRs, VR, Value.cells]
  | sl _ _ _ _ => simp only [elemCells, aggE]; have h' := h; simp only [VR] at h; obtain ⟨_, A, c, rfl, _⟩ := h; simp only [Value.cells, Bool.false_eq_true, if_false, VRs]; exact ⟨_, _, rfl, h', rfl⟩
  | rp _ => simp only [elemCells, aggE]; have h' := h; simp only [VR] at h; obtain ⟨_, _, _, rfl, _⟩ := h; simp only [Value.cells, Bool.false_eq_true, if_false, VRs]; exact ⟨_, _, rfl, h', rfl⟩
  | fn _ _ => simp only [elemCells, aggE]; have h' := h; simp only [VR] at h; obtain ⟨_, rfl, _⟩ := h; simp only [Value.cells, Bool.false_eq_true, if_false, VRs]; exact ⟨_, _, rfl, h', rfl⟩
  | bf _ _ => simp only [elemCells, aggE]; have h' := h; simp only [VR] at h; obtain ⟨_, rfl, _⟩ := h; simp only [Value.cells, Bool.false_eq_true, if_false, VRs]; exact ⟨_, _, rfl, h', rfl⟩
  | tup _ => simp only [elemCells, aggE]; have h' := h; simp only [VR] at h; obtain ⟨_, rfl, _⟩ := h; simp only [Value.cells, Bool.false_eq_true, if_false, VRs]; exact ⟨_, _, rfl, h', rfl⟩
  | un => simp only [elemCells, aggE]; have h' := h; simp only [VR] at h; subst h; simp only [Value.cells, Go.undef, Bool.false_eq_true, if_false, VRs]; exact ⟨_, _, rfl, h', rfl⟩
  | nilp => simp only [elemCells, aggE]; simp only [VR] at h; subst h; simp [VRs, VR, Value.cells]
  | nilfn => simp only [elemCells, aggE]; simp only [VR] at h; subst h; simp [VRs, VR, Value.cells]
  | cch _ => simp only [elemCells, aggE]; have h' := h; simp only [VR] at h; obtain ⟨_, rfl, _⟩ := h; simp only [Value.cells, Bool.false_eq_true, if_false, VRs]; exact ⟨_, _, rfl, h', rfl⟩
  | yld => simp [VR] at h
  | mb _ => simp [VR] at h
  | undef => simp [VR] at h
/-- The cells that a reference leads to. -/
theorem lp_cells (hs : Sim c K G ov ds st a w) {i ver idx off : Nat} {v : Value} (h : IR K c.l st.loc G (.lp i ver idx off) v) {cs : List IVal}
    (hc : (st.loc i = .box cs ∧ ver = 0 ∧ idx = 0) ∨ (∃ ys, st.loc i = .frzb ys ∧ ver = 0 ∧ idx = 0 ∧ cs = ys.map .v) ∨
      (∃ sz xs e, (st.loc i = .arr ver sz xs ∨ st.loc i = .frz ver sz xs) ∧ xs[idx]? = some e ∧ cs = (elemCells (aggE e) sz e).map .v)) :
    ∃ b o vals, v = .pointer (some ⟨b, o + off, none⟩) ∧ IRs K c.l st.loc G cs vals ∧ (∀ j u, vals[j]? = some u → w.cell? ⟨b, o + j, none⟩ = some u) := by
  simp only [IR] at h
  obtain ⟨_, g, hg, hv, hval⟩ := h
  have hor := hs.objs i g hg
  rcases hc with ⟨hl, rfl, rfl⟩ | ⟨ys, hl, rfl, rfl, rfl⟩ | ⟨sz, xs, e, hl, he, rfl⟩
  · rw [hl] at hor
    obtain ⟨_, _, vals, t, h2, h3⟩ := hor
    refine ⟨g.blk, 0, vals, ?_, h3, fun j u hj => ?_⟩
    · rw [hval (by simp [hl, Obj.ver?])]; simp [hl, Obj.stride]
    · simp only [World.cell?, h2]; simpa using hj
  · rw [hl] at hor
    have h2 := hor.2
    simp only [VR] at h2
    obtain ⟨b, o, vals, h3, h4, h5⟩ := h2
    cases h3
    refine ⟨g.blk, 0, vals, ?_, IRs.ofVRs h4, fun j u hj => (hs.kok _ _ _ (h5 j u hj)).cell (h4.noMk' hj)⟩
    rw [hval (by simp [hl, Obj.ver?])]; simp [hl, Obj.stride]
  · rcases hl with hl | hl
    · rw [hl] at hor
      rcases hor.2.2 with ⟨h, _⟩ | ⟨_, arr, t, cap, _, h1, h2, h3, h4, h5⟩
      · subst h; simp at he
      · obtain ⟨u, k1, k2, _, k3⟩ := h5 idx e he
        refine ⟨g.blk, idx * sz, u.cells.toList, ?_, IRs.ofVRs (elem_cells k1 k2), fun j y hj => ?_⟩
        · rw [hval (by simp [hl, Obj.ver?])]; simp [hl, Obj.stride]
        · simp only [World.cell?, h1]
          simpa using k3 j y (by simpa using hj)
    · rw [hl] at hor
      obtain ⟨_, _, h2, h3⟩ := hor
      obtain ⟨n, cc, hv2⟩ := h3 (by intro h; subst h; simp at he)
      simp only [VR] at h2
      obtain ⟨_, A, cc', h4, _, _, h5⟩ := h2
      rw [hv2] at h4
      cases h4
      obtain ⟨b, o, u, h6, k1, k2, _, k3⟩ := VE_elem h5 he
      cases h6
      refine ⟨g.blk, idx * sz, u.cells.toList, ?_, IRs.ofVRs (elem_cells k1 k2), fun j y hj => ?_⟩
      · rw [hval (by simp [hl, Obj.ver?])]; simp [hl, Obj.stride]
      · exact (hs.kok _ _ _ (by simpa using k3 j y (by simpa using hj))).cell (k1.noMk' (by simpa using hj))
theorem load_lp (hs : Sim c K G ov ds st a w) {o : Oper} (hd : dstOk c.nt o.dst = true) {id : Nat} {t : Nat} {x : Operand} (ho : o.op = .load t x) {i ver idx off : Nat} (hx : ev P st o.type x = .lp i ver idx off) {cs : List IVal}
    (hc : (st.loc i = .box cs ∧ ver = 0 ∧ idx = 0) ∨ (∃ ys, st.loc i = .frzb ys ∧ ver = 0 ∧ idx = 0 ∧ cs = ys.map .v) ∨
      (∃ sz xs e, (st.loc i = .arr ver sz xs ∨ st.loc i = .frz ver sz xs) ∧ xs[idx]? = some e ∧ cs = (elemCells (aggE e) sz e).map .v))
    {iv : IVal} (hof : ofCells P t (cs.drop off) = some iv) {rd : List Nat} : OpOk P c ov ds st G id o { val := iv, rd := rd } a w := by
  have h1 := ev_sound (P := P) hs o.type x
  rw [hx] at h1
  obtain ⟨b, o', vals, hv, h3, h4⟩ := lp_cells hs h1 hc
  obtain ⟨v, hv1, hv2⟩ := load_run (b := b) (o := o' + off) (h3.drop off) (fun j u hj => by
    rw [List.getElem?_drop] at hj
    have := h4 _ _ hj
    rwa [show o' + off + j = o' + (off + j) by omega]) hof
  exact .pure hs hd hv1 (exec_load ho (by rw [hv]; exact hv2))
theorem op_load (hs : Sim c K G ov ds st a w) {o : Oper} (hd : dstOk c.nt o.dst = true) {id : Nat} {H : Nat → FH} {T : Nat → List SVal → Option Res} {t : Nat} {x : Operand} (ho : o.op = .load t x) {u : Upd}
    (h : opC P H T st id o some = some u) : OpOk P c ov ds st G id o u a w := by
  simp only [opC, ho] at h
  cases hx : ev P st o.type x with
  | lp i ver idx off =>
    simp only [hx] at h
    cases hl : st.loc i with
    | box cs =>
      simp only [hl] at h
      split at h
      · rename_i hc
        obtain ⟨iv, h1, h2⟩ := Option.bind_eq_some_iff.1 h
        cases h2
        exact load_lp hs hd ho hx (.inl ⟨hl, hc.1, hc.2⟩) h1
      · cases h
    | frzb ys =>
      simp only [hl] at h
      split at h
      · rename_i hc
        obtain ⟨iv, h1, h2⟩ := Option.bind_eq_some_iff.1 h
        cases h2
        rw [SVal_map_v] at h1
        exact load_lp hs hd ho hx (.inr (.inl ⟨ys, hl, hc.1, hc.2, rfl⟩)) h1
      · cases h
    | arr ver' sz xs =>
      simp only [hl] at h
      split at h
      · rename_i hc
        subst hc
        obtain ⟨e, h0, h⟩ := Option.bind_eq_some_iff.1 h
        split at h
        · rename_i hek
          rw [← elemOk_agg hek] at h
          obtain ⟨iv, h1, h2⟩ := Option.bind_eq_some_iff.1 h
          cases h2
          rw [SVal_map_v] at h1
          exact load_lp hs hd ho hx (.inr (.inr ⟨sz, xs, e, .inl hl, h0, rfl⟩)) h1
        · cases h
      · cases h
    | frz ver' sz xs =>
      simp only [hl] at h
      split at h
      · rename_i hc
        subst hc
        obtain ⟨e, h0, h⟩ := Option.bind_eq_some_iff.1 h
        split at h
        · rename_i hek
          rw [← elemOk_agg hek] at h
          obtain ⟨iv, h1, h2⟩ := Option.bind_eq_some_iff.1 h
          cases h2
          rw [SVal_map_v] at h1
          exact load_lp hs hd ho hx (.inr (.inr ⟨sz, xs, e, .inr hl, h0, rfl⟩)) h1
        · cases h
      · cases h
    | dead => simp [hl] at h
    | iter _ => simp [hl] at h
  | v y =>
    cases y with
    | rp cs =>
      simp only [hx] at h
      obtain ⟨iv, h1, h2⟩ := Option.bind_eq_some_iff.1 h
      cases h2
      have h3 := ev_sound (P := P) hs o.type x
      rw [hx] at h3
      have h4 := IR_v h3
      simp only [VR] at h4
      obtain ⟨b, o', vals, h5, h6, h7⟩ := h4
      obtain ⟨v, hv1, hv2⟩ := load_run (IRs.ofVRs h6) (fun j u hj => (hs.kok _ _ _ (h7 j u hj)).cell (h6.noMk' hj)) h1
      exact .pure hs hd hv1 (exec_load ho (by rw [h5]; exact hv2))
    | undef => simp [hx] at h
    | un => simp [hx] at h
    | int _ _ => simp [hx] at h
    | bool _ => simp [hx] at h
    | str _ => simp [hx] at h
    | sl _ _ _ _ => simp [hx] at h
    | mb _ => simp [hx] at h
    | fn _ _ => simp [hx] at h
    | bf _ _ => simp [hx] at h
    | agg _ => simp [hx] at h
    | tup _ => simp [hx] at h
    | nilp => simp [hx] at h
    | nilfn => simp [hx] at h
    | yld => simp [hx] at h
    | cch _ => simp [hx] at h
  | unk => simp [hx] at h
  | la _ _ => simp [hx] at h
  | it _ => simp [hx] at h
  | lt _ _ _ => simp [hx] at h
  | yld => simp [hx] at h
  | agg _ => simp [hx] at h
  | tup _ => simp [hx] at h
  | clo _ _ => simp [hx] at h
end
end Go.Lm
end
section
namespace Go.Lm
theorem heap_lt (w : World) (o : Go.Obj) (b : Nat) (h : b < w.heap.size) : (w.alloc o).heap[b]? = w.heap[b]? := by
  show (w.heap.push o)[b]? = _
  rw [Array.getElem?_push, if_neg (by omega)]
theorem heap_new (w : World) (o : Go.Obj) : (w.alloc o).heap[w.heap.size]? = some o := by
  show (w.heap.push o)[w.heap.size]? = some o
  simp
theorem dst_none_put (a : Act) (v : Value) : a.put none v = a := rfl
section
variable {P : Program} {c : Ctx} {K : Kt} {G : Gt} {ov : List Value} {ds : List Nat} {st : St} {a : Act} {w : World}
theorem SameW.alloc (w : World) (o : Go.Obj) : SameW w (w.alloc o) := ⟨rfl, rfl, rfl, by simp⟩
/-- A new block that is an object of the activation; its reference goes to a slot. -/
theorem OpOk.newObj (hs : Sim c K G ov ds st a w) {o : Oper} (hd : dstOk c.nt o.dst = true) {id : Nat} (hfr : G id = none) (ob : Obj) (iv : IVal) (rd : List Nat) (g : GO) (gob : Go.Obj) (v : Value)
    (hbs : g.bs = [w.heap.size]) (hor : ∀ loc' G', Ext st.loc G loc' G' → OR c.H K c.l loc' G' (w.alloc gob) g ob)
    (hv : ∀ loc' G', Ext st.loc G loc' G' → G' id = some g → loc' id = ob → IR K c.l loc' G' iv v)
    (hrun : (execOp a.eval o).run P w = .ok (.value v) (w.alloc gob)) :
    OpOk P c ov ds st G id o { val := iv, wr := [(id, ob)], rd := rd } a w := by
  have hG : ∀ g0, G id = some g0 → g0.top ≤ g.top ∧ ∀ ver, ver ≤ g0.top → ob.ver? = some ver → (st.loc id).ver? = some ver ∧ g.val = g0.val ∧ g.blk = g0.blk ∧ ob.stride = (st.loc id).stride := by
    intro g0 h; rw [hfr] at h; cases h
  have hext := hs.ext1 id ob g hG
  have h1 := hs.obj1 id ob g (w.alloc gob) hG (SameW.alloc w gob) (fun b hb _ => heap_lt w gob b hb) (hor _ _ hext) (fun _ => ⟨by rw [hbs]; simp, fun b hb => by
    rw [hbs] at hb; simp at hb; subst hb; exact ⟨by simp, .inr (Nat.le_refl _)⟩⟩)
  have h2 := h1.put o.dst iv v hd (hv _ _ hext (upd_same _ _ _) (upd_same _ _ _))
  refine ⟨v, w.alloc gob, K, upd G id (some g), .inl hrun, ?_, fun i hi => ?_⟩
  · have : st.apply o.dst { val := iv, wr := [(id, ob)], rd := rd } = { st with loc := upd st.loc id ob }.put o.dst iv := by
      cases o.dst <;> rfl
    rw [this]; exact h2
  · by_cases hid : i = id
    · exact .inr ⟨by omega, by omega⟩
    · rw [upd_other _ _ hid] at hi; exact .inl hi
theorem relBs_sound {l : Nat} {loc : Nat → Obj} {G : Gt} : ∀ {cs : List IVal} {vs : List Value}, relBs cs vs = true → IRs K l loc G cs vs
  | [], [], _ => by simp [IRs]
  | [], _ :: _, h => by simp [relBs] at h
  | _ :: _, [], h => by simp [relBs] at h
  | x :: xs, v :: vs, h => by
    simp only [relBs, Bool.and_eq_true] at h
    simp only [IRs]
    refine ⟨v, vs, rfl, ?_, relBs_sound h.2⟩
    have h1 := h.1
    unfold relB at h1
    split at h1 <;> simp_all [IR, VR, VE]
theorem cellsI_sound {l : Nat} {loc : Nat → Obj} {G : Gt} {t : Nat} {iv : IVal} {cs : List IVal} {v : Value} (h : cellsI P t iv = some cs) (hv : IR K l loc G iv v) (hone : isAggT P t = false → v.cells = #[v]) :
    IRs K l loc G cs v.cells.toList ∧ cs.length = szT P t ∧ tyOk P t = true := by
  unfold cellsI at h
  split at h
  · rename_i hty
    split at h
    · split at h
      · rename_i cs' 
        split at h
        · rename_i hl
          cases h
          simp only [IR] at hv
          obtain ⟨vals, rfl, h2⟩ := hv
          exact ⟨by simpa [Value.cells] using h2, hl, hty⟩
        · cases h
      · rename_i cs'
        split at h
        · rename_i hl
          cases h
          have := IR_v hv
          simp only [VR] at this
          obtain ⟨vals, rfl, h2⟩ := this
          exact ⟨by simpa [Value.cells] using IRs.ofVRs h2, by simpa using hl, hty⟩
        · cases h
      · cases h
    · rename_i hag
      split at h
      · rename_i hsz
        cases h
        rw [hone (by simpa using hag)]
        exact ⟨by simp only [IRs]; exact ⟨v, [], rfl, hv, rfl⟩, by simp [hsz], hty⟩
      · cases h
  · cases h
theorem cells_of_one {v : Value} (h : v.oneCell' = true) : v.cells = #[v] := by
  cases v <;> simp_all [Value.oneCell', Value.cells]
theorem cells_of_notAgg {v : Value} (h : ∀ cs, v ≠ .agg cs) : v.cells = #[v] := by
  cases v <;> simp_all [Value.cells]
theorem exec_box {o : Oper} {t : Nat} {x : Operand} (ho : o.op = .box t x) : (execOp a.eval o).run P w = .ok (.value (.pointer (some ⟨w.heap.size, 0, none⟩))) (w.alloc (.cells (a.eval x).cells t)) := by
  simp [execOp, ho, Instr.box, newVar, newRow]
theorem boxI {l : Nat} {loc : Nat → Obj} {G : Gt} {id : Nat} {g : GO} {cs : List IVal} (hg : G id = some g) (hl : loc id = .box cs) (b : Nat) (hb : g.blk = b) : IR K l loc G (.lp id 0 0 0) (.pointer (some ⟨b, 0, none⟩)) := by
  simp only [IR]
  exact ⟨rfl, g, hg, Nat.zero_le _, fun _ => by simp [hl, Obj.stride, hb]⟩
theorem op_box (hs : Sim c K G ov ds st a w) {o : Oper} (hd : dstOk c.nt o.dst = true) {id : Nat} (hfr : G id = none) {H : Nat → FH} {T : Nat → List SVal → Option Res} {t : Nat} {x : Operand} (ho : o.op = .box t x) {u : Upd}
    (h : opC P H T st id o some = some u) : OpOk P c ov ds st G id o u a w := by
  simp only [opC, ho] at h
  obtain ⟨cs, h1, h2⟩ := Option.bind_eq_some_iff.1 h
  split at h2
  · rename_i hok
    cases h2
    have hx := ev_sound (P := P) hs t x
    have hone : isAggT P t = false → (a.eval x).cells = #[a.eval x] := fun hag => by
      rw [hag, Bool.false_or] at hok
      have : cs = [ev P st t x] := by
        unfold cellsI at h1
        split at h1
        · rw [if_neg (by simp [hag])] at h1
          split at h1
          · cases h1; rfl
          · cases h1
        · cases h1
      subst this
      exact cells_of_one (oneI_cell hx hok)
    have hc := (cellsI_sound h1 hx hone).1
    refine OpOk.newObj hs hd hfr (.box cs) _ [] ⟨w.heap.size, [w.heap.size], .pointer none, 0⟩ _ _ rfl (fun loc' G' he => ?_) (fun loc' G' he hg hl => boxI hg hl _ rfl) (exec_box ho)
    exact ⟨rfl, rfl, (a.eval x).cells.toList, t, by simpa using heap_new w _, hc.mono (Kt.le.refl _) he⟩
  · cases h2
theorem exec_alloc {o : Oper} {t : Nat} (ho : o.op = .alloc t) {i : TypeInfo} (hi : P.info? t = some i) {z : Value} (hz : i.zero = some z) : (execOp a.eval o).run P w = .ok (.value (.pointer (some ⟨w.heap.size, 0, none⟩))) (w.alloc (.cells z.cells t)) := by
  simp [execOp, ho, Instr.alloc, zeroValue, typeInfo, hi, hz, newVar, newRow]
theorem op_alloc (hs : Sim c K G ov ds st a w) {o : Oper} (hd : dstOk c.nt o.dst = true) {id : Nat} (hfr : G id = none) {H : Nat → FH} {T : Nat → List SVal → Option Res} {t : Nat} (ho : o.op = .alloc t) {u : Upd}
    (h : opC P H T st id o some = some u) : OpOk P c ov ds st G id o u a w := by
  simp only [opC, ho] at h
  split at h
  · rename_i hz
    cases h
    unfold zeroOk at hz
    split at hz
    · rename_i i hi
      split at hz
      · rename_i z hz'
        refine OpOk.newObj hs hd hfr _ _ [] ⟨w.heap.size, [w.heap.size], .pointer none, 0⟩ _ _ rfl (fun loc' G' he => ?_) (fun loc' G' he hg hl => boxI hg hl _ rfl) (exec_alloc ho hi hz')
        exact ⟨rfl, rfl, z.cells.toList, t, by simpa using heap_new w _, relBs_sound hz⟩
      · cases hz
    · cases hz
  · cases h
theorem SameW.setRow (w : World) (g : Nat) (cs : Array Value) : SameW w (w.setRow g cs) := ⟨by simp, by simp, by simp, by simp⟩
theorem run_storeAt {t : Nat} {i : TypeInfo} (hi : P.info? t = some i) {b o : Nat} {cur : Array Value} {ty : Nat} (hb : w.heap[b]? = some (.cells cur ty (0, 0))) {v : Value} (hsz : v.cells.size = szT P t) (hfit : o + v.cells.size ≤ cur.size)
    (hone : ∀ u ∈ v.cells, u.oneCell' = true) :
    (Instr.storeAt t (.pointer (some ⟨b, o, none⟩)) v).run P w = .ok () (w.setRow b (cur.toList.take o ++ v.cells.toList ++ cur.toList.drop (o + v.cells.size)).toArray) := by
  have := run_storeCells_at (P := P) b o ty v.cells.toList 0 cur w hb (by simpa using hfit) (by simpa using hone)
  simp only [Nat.add_zero, Array.length_toList] at this
  simp [Instr.storeAt, Instr.sureAddr, storeVar, run_sizeT hi, hsz, this]
theorem exec_store {o : Oper} {t : Nat} {x y : Operand} (ho : o.op = .store t x y) {w' : World} (h : (Instr.storeAt t (a.eval x) (a.eval y)).run P w = .ok () w') : (execOp a.eval o).run P w = .ok .skip w' := by
  simp [execOp, ho, h]
theorem IRs.setAt {l : Nat} {loc : Nat → Obj} {cs new : List IVal} {vs us : List Value} (h : IRs K l loc G cs vs) (h' : IRs K l loc G new us) (off : Nat) : IRs K l loc G (setAt cs off new) (vs.take off ++ us ++ vs.drop (off + us.length)) := by
  unfold Lm.setAt
  rw [h'.length]
  exact ((h.take off).append h').append (h.drop _)
theorem allOne_sound {l : Nat} {loc : Nat → Obj} : ∀ {cs : List IVal} {vs : List Value}, IRs K l loc G cs vs → allOne cs = true → ∀ u ∈ vs, u.oneCell' = true
  | [], vs, h, _ => by simp only [IRs] at h; subst h; simp
  | [x], vs, h, ho => by
    simp only [IRs] at h
    obtain ⟨v, vt, rfl, h1, rfl⟩ := h
    intro u hu
    simp at hu; subst hu
    exact oneI_cell h1 ho
  | x :: y :: r, vs, h, ho => by
    rw [IRs] at h
    obtain ⟨v, vt, rfl, h1, h2⟩ := h
    simp only [allOne, Bool.and_eq_true] at ho
    intro u hu
    simp at hu
    rcases hu with rfl | hu
    · exact oneI_cell h1 ho.1
    · exact allOne_sound h2 ho.2 u hu
theorem cellsI_one {l : Nat} {loc : Nat → Obj} {t : Nat} {iv : IVal} {cs : List IVal} {v : Value} (h : cellsI P t iv = some cs) (hok : allOne cs = true) (hv : IR K l loc G iv v) :
    IRs K l loc G cs v.cells.toList ∧ cs.length = szT P t ∧ tyOk P t = true ∧ ∀ u ∈ v.cells, u.oneCell' = true := by
  have hone : isAggT P t = false → v.cells = #[v] := fun hag => by
    have : cs = [iv] := by
      unfold cellsI at h
      split at h
      · rw [if_neg (by simp [hag])] at h
        split at h
        · cases h; rfl
        · cases h
      · cases h
    subst this
    exact cells_of_one (oneI_cell hv hok)
  obtain ⟨h1, h2, h3⟩ := cellsI_sound h hv hone
  exact ⟨h1, h2, h3, fun u hu => allOne_sound h1 hok u (by simpa using hu)⟩
theorem op_store_box (hs : Sim c K G ov ds st a w) {o : Oper} (hd : dstOk c.nt o.dst = true) {id : Nat} {t : Nat} {x y : Operand} (ho : o.op = .store t x y) {i off : Nat} (hx : ev P st o.type x = .lp i 0 0 off) {cs new : List IVal}
    (hl : st.loc i = .box cs) (hn : cellsI P t (ev P st t y) = some new) (hfit : off + new.length ≤ cs.length) (hok : allOne new = true) {rd : List Nat} :
    OpOk P c ov ds st G id o { wr := [(i, .box (setAt cs off new))], rd := rd } a w := by
  have h1 := ev_sound (P := P) hs o.type x
  rw [hx] at h1
  simp only [IR] at h1
  obtain ⟨_, g, hg, hv, hval⟩ := h1
  have hor := hs.objs i g hg
  rw [hl] at hor
  obtain ⟨h0, hbs, vals, ty, h2, h3⟩ := hor
  obtain ⟨k1, k2, k3, k4⟩ := cellsI_one hn hok (ev_sound (P := P) hs t y)
  obtain ⟨d, inf, _, hi⟩ := tyOk_spec k3
  have hlen : new.length = (a.eval y).cells.size := by rw [← k1.length]; simp
  have hrun := run_storeAt (P := P) hi h2 (o := off) (v := a.eval y) (by rw [← hlen, k2]) (by rw [← hlen]; simpa [h3.length] using hfit) k4
  have hev : a.eval x = .pointer (some ⟨g.blk, off, none⟩) := by rw [hval (by simp [hl, Obj.ver?])]; simp [hl, Obj.stride]
  have hG : ∀ g0, G i = some g0 → g0.top ≤ g.top ∧ ∀ ver, ver ≤ g0.top → (Obj.box (setAt cs off new)).ver? = some ver → (st.loc i).ver? = some ver ∧ g.val = g0.val ∧ g.blk = g0.blk ∧ (Obj.box (setAt cs off new)).stride = (st.loc i).stride := by
    intro g0 hg0
    rw [hg] at hg0; cases hg0
    exact ⟨Nat.le_refl _, fun ver _ h => ⟨by rw [hl]; exact h, rfl, rfl, by rw [hl]; rfl⟩⟩
  have hext := hs.ext1 i _ g hG
  have hlt : g.blk < w.heap.size := (Array.getElem?_eq_some_iff.1 h2).1
  have h4 := hs.obj1 i (.box (setAt cs off new)) g _ hG (SameW.setRow w g.blk (vals.toArray.toList.take off ++ (a.eval y).cells.toList ++ vals.toArray.toList.drop (off + (a.eval y).cells.size)).toArray)
    (fun b hb hnb => setRow_other w g.blk b _ fun he => hnb g hg (by simp [hl, Obj.live]) (by simp [hbs, he]))
    ⟨h0, hbs, _, ty, setRow_heap w g.blk _ _ ty (0, 0) h2, by
      have := (h3.setAt k1 off).mono (Kt.le.refl _) hext
      simpa using this⟩
    (fun _ => ⟨by simp [hbs], fun b hb => ⟨by simp [hbs] at hb; subst hb; simpa using hlt, .inl ⟨g, hg, by simp [hl, Obj.live], hb⟩⟩⟩)
  have h5 := h4.put o.dst (.v .un) Go.undef hd (by simp [IR, VR])
  have hGi : upd G i (some g) = G := by
    funext j
    by_cases hj : j = i
    · subst hj; rw [upd_same, hg]
    · rw [upd_other _ _ hj]
  rw [hGi] at h5
  refine ⟨Go.undef, _, K, G, .inr ⟨exec_store ho (by rw [hev]; exact hrun), rfl⟩, ?_, fun i h => .inl h⟩
  have : st.apply o.dst { wr := [(i, .box (setAt cs off new))], rd := rd } = { st with loc := upd st.loc i (.box (setAt cs off new)) }.put o.dst (.v .un) := by
    cases o.dst <;> rfl
  rw [this]; exact h5
end
end Go.Lm
end
section
namespace Go.Lm
section
variable {P : Program} {c : Ctx} {K : Kt} {G : Gt} {ov : List Value} {ds : List Nat} {st : St} {a : Act} {w : World}
theorem add_at (b o n : Nat) : (⟨b, o, none⟩ : Addr).add n = ⟨b, o + n, none⟩ := by unfold Addr.add; split <;> simp_all
theorem fieldO_spec {s f d : Nat} (h : fieldO P s f = some d) : ∃ fs x i, P.underlying s = some (.struct fs) ∧ fs[f]? = some x ∧ x.offset = d ∧ P.info? x.type = some i ∧ szT P x.type ≠ 0 ∧ fieldTy P s f = x.type := by
  unfold fieldO at h
  split at h
  · rename_i fs hu
    split at h
    · rename_i x hx
      split at h
      · cases h
      · rename_i hz
        cases h
        cases hi : P.info? x.type with
        | none => exact absurd (by simp [szT, hi]) hz
        | some i => exact ⟨fs, x, i, hu, hx, rfl, hi, hz, by simp [fieldTy, hu, hx]⟩
    · cases h
  · cases h
theorem run_fieldAt {s f d : Nat} (h : fieldO P s f = some d) (b o : Nat) (w : World) : (Instr.fieldAt s (.pointer (some ⟨b, o, none⟩)) f).run P w = .ok (.pointer (some ⟨b, o + d, none⟩)) w := by
  obtain ⟨fs, x, i, hu, hx, hd, hi, hz, _⟩ := fieldO_spec h
  simp [Instr.fieldAt, run_underlying hu, hx, Instr.sureAddr, fieldPlace, run_sizeT hi, hz, add_at, hd]
theorem exec_fieldAddr {o : Oper} {s f : Nat} {x : Operand} (ho : o.op = .fieldAddr s x f) {v : Value} (h : (Instr.fieldAt s (a.eval x) f).run P w = .ok v w) : (execOp a.eval o).run P w = .ok (.value v) w := by
  simp [execOp, ho, h]
theorem rp_drop {l : Nat} {cs : List SVal} {b o : Nat} {vals : List Value} (h : VRs K l cs vals) (hk : ∀ j u, vals[j]? = some u → K b (o + j) = some u) (d : Nat) : VR K l (.rp (cs.drop d)) (.pointer (some ⟨b, o + d, none⟩)) := by
  simp only [VR]
  refine ⟨b, o + d, vals.drop d, rfl, VRs.of_get (by simp [h.length]) fun j x v h1 h2 => ?_, fun j u hj => ?_⟩
  · rw [List.getElem?_drop] at h1 h2
    obtain ⟨v', h3, h4⟩ := h.get h1
    rw [h2] at h3; cases h3; exact h4
  · rw [List.getElem?_drop] at hj
    have := hk _ _ hj
    rwa [show o + d + j = o + (d + j) by omega]
theorem op_fieldAddr (hs : Sim c K G ov ds st a w) {o : Oper} (hd : dstOk c.nt o.dst = true) {id : Nat} {H : Nat → FH} {T : Nat → List SVal → Option Res} {s f : Nat} {x : Operand} (ho : o.op = .fieldAddr s x f) {u : Upd}
    (h : opC P H T st id o some = some u) : OpOk P c ov ds st G id o u a w := by
  simp only [opC, ho] at h
  obtain ⟨d, h1, h⟩ := Option.bind_eq_some_iff.1 h
  have hx := ev_sound (P := P) hs o.type x
  split at h
  · rename_i i ver idx off he
    rw [he] at hx
    split at h
    · rename_i hver
      cases h
      simp only [IR] at hx
      obtain ⟨_, g, hg, hv, hval⟩ := hx
      refine .pure hs hd (v := .pointer (some ⟨g.blk, idx * (st.loc i).stride + off + d, none⟩)) ?_ (exec_fieldAddr ho (by rw [hval hver]; exact run_fieldAt h1 _ _ _))
      simp only [IR]
      exact ⟨rfl, g, hg, hv, fun _ => by rw [Nat.add_assoc]⟩
    · cases h
  · rename_i cs he
    rw [he] at hx
    cases h
    have h2 := IR_v hx
    simp only [VR] at h2
    obtain ⟨b, o', vals, h3, h4, h5⟩ := h2
    exact .pure hs hd (v_IR (rp_drop h4 h5 d)) (exec_fieldAddr ho (by rw [h3]; exact run_fieldAt h1 _ _ _))
  · cases h
theorem szE_spec {t : Nat} (h : szE P t ≠ 0) : ∃ i, P.info? (elemT P t) = some i := by
  cases hi : P.info? (elemT P t) with
  | none => exact absurd (by simp [szE, szT, hi]) h
  | some i => exact ⟨i, rfl⟩
theorem isSliceT_spec {t : Nat} (h : isSliceT P t = true) : P.underlying t = some (.slice (elemT P t)) := by
  unfold isSliceT at h
  split at h
  · rename_i e hu; simp [elemT, hu]
  · cases h
theorem run_indexSl {t : Nat} (ht : isSliceT P t = true) {i : TypeInfo} (hi : P.info? (elemT P t) = some i) (b o len cap : Nat) (k : IntKind) (n : Int) (h0 : 0 ≤ n) (h1 : n < (len : Int)) (w : World) :
    (Instr.indexAt t (.slice (some ⟨b, o, none⟩) len cap) (.int k n)).run P w = .ok (.pointer (some ⟨b, o + n.toNat * szE P t, none⟩)) w := by
  simp [Instr.indexAt, run_underlying (isSliceT_spec ht), asIntOf, h0, h1, run_sizeT hi, szE, add_at]
theorem exec_indexAddr {o : Oper} {t : Nat} {x y : Operand} (ho : o.op = .indexAddr t x y) {v : Value} (h : (Instr.indexAt t (a.eval x) (a.eval y)).run P w = .ok v w) : (execOp a.eval o).run P w = .ok (.value v) w := by
  simp [execOp, ho, h]
theorem sIn_spec {n j : Nat} {x : SVal} (h : sIn n x = some j) : ∃ k i, x = .int k i ∧ 0 ≤ i ∧ i < (n : Int) ∧ j = i.toNat := by
  unfold sIn at h
  split at h
  · split at h
    · rename_i k i hh; cases h; exact ⟨k, i, rfl, hh.1, hh.2, rfl⟩
    · cases h
  · cases h
theorem sIdx_spec {ag : Bool} {sz : Nat} {x i e : SVal} (h : sIdx ag sz x i = some e) : ∃ full xs j, x = .sl sz false full xs ∧ sIn xs.length i = some j ∧ xs[j]? = some e ∧ elemOk ag sz e = true := by
  unfold sIdx at h
  split at h
  · split at h
    · rename_i hsz
      subst hsz
      obtain ⟨j, h1, h⟩ := Option.bind_eq_some_iff.1 h
      obtain ⟨e', h2, h⟩ := Option.bind_eq_some_iff.1 h
      split at h
      · rename_i hok; cases h; exact ⟨_, _, j, rfl, h1, h2, hok⟩
      · cases h
    · cases h
  · cases h
theorem elemOk_pos {ag : Bool} {sz : Nat} {e : SVal} (h : elemOk ag sz e = true) (hz : sz ≠ 0 ∨ ag = false) : sz ≠ 0 := by
  rcases hz with h1 | h1
  · exact h1
  · subst h1
    cases e <;> simp_all [elemOk]
theorem op_indexAddr (hs : Sim c K G ov ds st a w) {o : Oper} (hd : dstOk c.nt o.dst = true) {id : Nat} {H : Nat → FH} {T : Nat → List SVal → Option Res} {t : Nat} {x y : Operand} (ho : o.op = .indexAddr t x y) {u : Upd}
    (h : opC P H T st id o some = some u) : OpOk P c ov ds st G id o u a w := by
  simp only [opC, ho] at h
  split at h
  · rename_i hty
    have hy := ev_sound (P := P) hs o.type y
    have hx := ev_sound (P := P) hs t x
    obtain ⟨i, hi⟩ := szE_spec hty.2
    split at h
    · rename_i n hn
      rw [hn] at hy
      split at h
      · rename_i r hr
        rw [hr] at hx
        obtain ⟨e, h1, h⟩ := Option.bind_eq_some_iff.1 h
        cases h
        obtain ⟨full, xs, j, rfl, h2, h3, h4⟩ := sIdx_spec h1
        obtain ⟨k, n', rfl, h5, h6, rfl⟩ := sIn_spec h2
        have hy' := VR_int (IR_v hy)
        have hx' := IR_v hx
        simp only [VR] at hx'
        obtain ⟨_, A, cc, h7, h8, _, h9⟩ := hx'
        obtain ⟨b, o', v, rfl, k1, k2, _, k3⟩ := VE_elem h9 h3
        refine .pure hs hd (v := .pointer (some ⟨b, o' + n'.toNat * szE P t, none⟩)) (v_IR ?_) (exec_indexAddr ho (by rw [h7, hy']; exact run_indexSl hty.1 hi _ _ _ _ _ _ h5 h6 w))
        simp only [VR]
        have := elem_cells k1 k2
        rw [elemOk_agg h4] at this
        refine ⟨b, o' + n'.toNat * szE P t, v.cells.toList, rfl, this, fun q z hz => ?_⟩
        have := k3 q z (by simpa using hz)
        rwa [Nat.add_assoc]
      · rename_i i' ver hr
        rw [hr] at hx
        obtain ⟨q, h1, h⟩ := Option.bind_eq_some_iff.1 h
        split at h
        · rename_i hsz
          obtain ⟨j, h2, h⟩ := Option.bind_eq_some_iff.1 h
          cases h
          obtain ⟨k, n', rfl, h5, h6, rfl⟩ := sIn_spec h2
          have hy' := VR_int (IR_v hy)
          simp only [IR] at hx
          obtain ⟨_, g, hg, hv, hval⟩ := hx
          have hor := hs.objs i' g hg
          unfold arrAt at h1
          have key : ∃ nn cc, a.eval x = .slice (some ⟨g.blk, 0, none⟩) nn cc ∧ nn = q.2.2.length ∧ (st.loc i').stride = szE P t := by
            split at h1
            · rename_i ver' sz xs hl
              split at h1
              · rename_i hve
                cases h1
                rw [hl] at hor
                rcases hor.2.2 with ⟨hh, _⟩ | ⟨_, arr, ty, cap, _, _, hh, _⟩
                · subst hh; simp at h6; omega
                · exact ⟨_, _, by rw [hval (by simp [hl, Obj.ver?, hve]), hh], rfl, by simp [hl, Obj.stride]; exact hsz⟩
              · cases h1
            · rename_i ver' sz xs hl
              split at h1
              · rename_i hve
                cases h1
                rw [hl] at hor
                obtain ⟨_, _, hh1, hh2⟩ := hor
                obtain ⟨nn, cc, hh3⟩ := hh2 (by intro hh; subst hh; simp at h6; omega)
                simp only [VR] at hh1
                obtain ⟨_, A, cc', hh4, _⟩ := hh1
                rw [hh3] at hh4
                cases hh4
                exact ⟨_, _, by rw [hval (by simp [hl, Obj.ver?, hve]), hh3], rfl, by simp [hl, Obj.stride]; exact hsz⟩
              · cases h1
            · cases h1
          obtain ⟨nn, cc, e1, e2, e3⟩ := key
          subst e2
          refine .pure hs hd (v := .pointer (some ⟨g.blk, 0 + n'.toNat * szE P t, none⟩)) ?_ (exec_indexAddr ho (by rw [e1, hy']; exact run_indexSl hty.1 hi _ _ _ _ _ _ h5 h6 w))
          simp only [IR]
          exact ⟨rfl, g, hg, hv, fun _ => by rw [e3]; simp⟩
        · cases h
      · cases h
    · cases h
  · cases h
theorem op_extract (hs : Sim c K G ov ds st a w) {o : Oper} (hd : dstOk c.nt o.dst = true) {id : Nat} {H : Nat → FH} {T : Nat → List SVal → Option Res} {n : Nat} {x : Operand} (ho : o.op = .extract x n) {u : Upd}
    (h : opC P H T st id o some = some u) : OpOk P c ov ds st G id o u a w := by
  simp only [opC, ho] at h
  have hx := ev_sound (P := P) hs o.type x
  split at h
  · rename_i vs he
    rw [he] at hx
    obtain ⟨iv, h1, h⟩ := Option.bind_eq_some_iff.1 h
    cases h
    simp only [IR] at hx
    obtain ⟨vals, h2, h3⟩ := hx
    obtain ⟨v, h4, h5⟩ := h3.get h1
    exact .pure hs hd h5 (by simp [execOp, ho, Instr.extract, h2, h4])
  · cases h
theorem op_field (hs : Sim c K G ov ds st a w) {o : Oper} (hd : dstOk c.nt o.dst = true) {id : Nat} {H : Nat → FH} {T : Nat → List SVal → Option Res} {t f : Nat} {x : Operand} (ho : o.op = .field t x f) {u : Upd}
    (h : opC P H T st id o some = some u) : OpOk P c ov ds st G id o u a w := by
  simp only [opC, ho] at h
  obtain ⟨d, h1, h⟩ := Option.bind_eq_some_iff.1 h
  have hx := ev_sound (P := P) hs t x
  split at h
  · rename_i cs he
    rw [he] at hx
    obtain ⟨iv, h2, h⟩ := Option.bind_eq_some_iff.1 h
    cases h
    obtain ⟨fs, y, i, hu, hy, hdd, hi, hz, hty⟩ := fieldO_spec h1
    rw [hty] at h2
    simp only [IR] at hx
    obtain ⟨vals, h3, h4⟩ := hx
    have h5 := h4.drop d
    unfold ofCells at h2
    split at h2
    · rename_i htok
      obtain ⟨dd, i', hd1, _⟩ := tyOk_spec htok
      split at h2
      · rename_i hag
        split at h2
        · rename_i hle
          cases h2
          refine .pure hs hd (v := .agg ((vals.drop d).take (szT P y.type)).toArray) (by simp only [IR]; exact ⟨_, rfl, h5.take _⟩) ?_
          simp [execOp, ho, Instr.field, run_underlying hu, hy, h3, asAgg, part, run_isAggT hd1, hag, run_sizeT hi, hdd]
        · cases h2
      · rename_i hag
        cases hdr : cs.drop d with
        | nil => rw [hdr] at h2; simp at h2
        | cons z zs =>
          rw [hdr] at h2 h5
          simp only [List.head?_cons, Option.some.injEq] at h2
          subst h2
          simp only [IRs] at h5
          obtain ⟨v, vt, h6, h7, _⟩ := h5
          have h8 : vals[d]? = some v := by
            have := congrArg (fun l => l[0]?) h6
            simpa [List.getElem?_drop] using this
          refine .pure hs hd h7 ?_
          simp [execOp, ho, Instr.field, run_underlying hu, hy, h3, asAgg, part, run_isAggT hd1, Bool.eq_false_iff.2 hag, hdd, h8]
    · cases h2
  · cases h
theorem op_unOp (hs : Sim c K G ov ds st a w) {o : Oper} (hd : dstOk c.nt o.dst = true) {id : Nat} {H : Nat → FH} {T : Nat → List SVal → Option Res} {op : UnOp} {t : Nat} {x : Operand} (ho : o.op = .unOp op t x) {u : Upd}
    (h : opC P H T st id o some = some u) : OpOk P c ov ds st G id o u a w := by
  simp only [opC, ho] at h
  have hx := ev_sound (P := P) hs t x
  split at h
  · rename_i y he
    rw [he] at hx
    obtain ⟨r, h1, h⟩ := Option.bind_eq_some_iff.1 h
    cases h
    unfold sNot at h1
    split at h1
    · rename_i b
      cases h1
      have := VR_bool (IR_v hx)
      exact .pure hs hd (v := .bool !b) (v_IR (by simp [VR])) (by simp [execOp, ho, Op.unary, this])
    · cases h1
  · cases h
theorem op_convert (hs : Sim c K G ov ds st a w) {o : Oper} (hd : dstOk c.nt o.dst = true) {id : Nat} {H : Nat → FH} {T : Nat → List SVal → Option Res} {s t : Nat} {x : Operand} (ho : o.op = .convert s t x) {u : Upd}
    (h : opC P H T st id o some = some u) : OpOk P c ov ds st G id o u a w := by
  simp only [opC, ho] at h
  have hx := ev_sound (P := P) hs s x
  split at h
  · rename_i j j' k n h1 h2 h3
    cases h
    rw [h3] at hx
    have := VR_int (IR_v hx)
    exact .pure hs hd (v := .int j' (j'.wrap n)) (v_IR (by simp [VR])) (by simp [execOp, ho, convert, run_underlying h1, run_underlying h2, this, Conv.intToInt])
  · cases h
  · cases h
theorem op_nilCheck (hs : Sim c K G ov ds st a w) {o : Oper} (hd : dstOk c.nt o.dst = true) {id : Nat} {H : Nat → FH} {T : Nat → List SVal → Option Res} {x : Operand} (ho : o.op = .nilCheck x) {u : Upd}
    (h : opC P H T st id o some = some u) : OpOk P c ov ds st G id o u a w := by
  simp only [opC, ho] at h
  have hx := ev_sound (P := P) hs o.type x
  split at h
  · rename_i f cs he
    cases h
    rw [he] at hx
    have hx' := hx
    simp only [IR] at hx
    obtain ⟨vals, h1, _⟩ := hx
    exact .pure hs hd hx' (by simp [execOp, ho, h1])
  · rename_i i ver idx off he
    split at h
    · rename_i hver
      cases h
      rw [he] at hx
      have hx' := hx
      simp only [IR] at hx
      obtain ⟨_, g, _, _, hval⟩ := hx
      exact .pure hs hd hx' (by simp [execOp, ho, hval hver])
    · cases h
  · cases h
end
end Go.Lm
end
