/- A part of the proof. -/
import Derived.Test.YtcdnmiaelaombaaGreatLmBE
import Derived.RangeFuncFrom
set_option linter.unusedVariables false
set_option linter.unusedSimpArgs false
set_option linter.unnecessarySimpa false
set_option linter.all false
section
namespace Go.Lm
mutual
theorem VR_l {K : Kt} {l l' : Nat} : ∀ (x : SVal) (v : Value), VR K l x v → VR K l' x v
  | .undef, _, hx => by simp [VR] at hx
  | .un, _, hx => by simpa [VR] using hx
  | .int k n, _, hx => by simpa [VR] using hx
  | .bool b, _, hx => by simpa [VR] using hx
  | .str s, _, hx => by simpa [VR] using hx
  | .sl sz own full xs, v, hx => by
    simp only [VR] at hx ⊢
    obtain ⟨h0, A, c, h1, h2, h3, h4⟩ := hx
    exact ⟨h0, A, c, h1, h2, h3, VE_l sz A 0 xs h4⟩
  | .rp cs, v, hx => by
    simp only [VR] at hx ⊢
    obtain ⟨b, o, vals, h1, h2, h3⟩ := hx
    exact ⟨b, o, vals, h1, VRs_l cs vals h2, h3⟩
  | .mb _, _, hx => by simp [VR] at hx
  | .fn f caps, v, hx => by
    simp only [VR] at hx ⊢
    obtain ⟨vals, h1, h2⟩ := hx
    exact ⟨vals, h1, VRs_l caps vals h2⟩
  | .bf f first, v, hx => by
    simp only [VR] at hx ⊢
    obtain ⟨vals, h1, h2⟩ := hx
    exact ⟨vals, h1, VRs_l first vals h2⟩
  | .agg cs, v, hx => by
    simp only [VR] at hx ⊢
    obtain ⟨vals, h1, h2⟩ := hx
    exact ⟨vals, h1, VRs_l cs vals h2⟩
  | .tup cs, v, hx => by
    simp only [VR] at hx ⊢
    obtain ⟨vals, h1, h2⟩ := hx
    exact ⟨vals, h1, VRs_l cs vals h2⟩
  | .nilp, _, hx => by simpa [VR] using hx
  | .nilfn, _, hx => by simpa [VR] using hx
  | .yld, _, hx => by simp [VR] at hx
  | .cch _, _, hx => by simpa [VR] using hx
theorem VRs_l {K : Kt} {l l' : Nat} : ∀ (xs : List SVal) (vs : List Value), VRs K l xs vs → VRs K l' xs vs
  | [], _, hx => by simpa [VRs] using hx
  | x :: xs, vs, hx => by
    simp only [VRs] at hx ⊢
    obtain ⟨v, vt, h1, h2, h3⟩ := hx
    exact ⟨v, vt, h1, VR_l x v h2, VRs_l xs vt h3⟩
theorem VE_l {K : Kt} {l l' : Nat} : ∀ (sz : Nat) (A : Option Addr) (i : Nat) (xs : List SVal), VE K l sz A i xs → VE K l' sz A i xs
  | _, _, _, [], _ => by simp [VE]
  | sz, A, i, x :: xs, hx => by
    simp only [VE] at hx ⊢
    obtain ⟨⟨b, o, v, h1, h2, h3⟩, h5⟩ := hx
    exact ⟨⟨b, o, v, h1, VR_l x v h2, h3⟩, VE_l sz A (i + 1) xs h5⟩
end
theorem OwnR_l {K : Kt} {l l' : Nat} {w : World} {sz : Nat} {xs : List SVal} {v : Value} {blk : Nat} {bs : List Nat} (h : OwnR K l w sz xs v blk bs) : OwnR K l' w sz xs v blk bs := by
  obtain ⟨h0, h⟩ := h
  refine ⟨h0, h.imp (fun h => h) ?_⟩
  rintro ⟨hb, arr, t, cap, h0, h1, h2, h3, h4, h5⟩
  exact ⟨hb, arr, t, cap, h0, h1, h2, h3, h4, fun j x hj => let ⟨v, k1, k2⟩ := h5 j x hj; ⟨v, VR_l x v k1, k2⟩⟩
theorem XS0_l {K : Kt} {l l' : Nat} {w : World} {s : Shape} {x : SVal} {v : Value} {bs : List Nat} (hx : XS0 K l w s x v bs) : XS0 K l' w s x v bs := by
  cases s with
  | plain => exact ⟨hx.1, VR_l _ _ hx.2⟩
  | scalar => exact ⟨hx.1, VR_l _ _ hx.2⟩
  | slc => exact ⟨hx.1, VR_l _ _ hx.2⟩
  | rp n => exact ⟨hx.1, VR_l _ _ hx.2.1, hx.2.2⟩
  | own sz =>
    obtain ⟨xs, blk, h1, h2⟩ := hx
    exact ⟨xs, blk, h1, OwnR_l h2⟩
  | box n =>
    obtain ⟨cs, b, h1, h2, h3, h4, vals, t, h5, h6⟩ := hx
    exact ⟨cs, b, h1, h2, h3, h4, vals, t, h5, VRs_l _ _ h6⟩
  | iter => exact hx.elim
  | yld => exact hx.elim
  | agg ss => exact hx.elim
  | tup ss => exact hx.elim
  | boxs ss => exact hx.elim
theorem XS_of0 {H : Nat → FH} {K : Kt} {l : Nat} {w : World} {s : Shape} {x : SVal} {v : Value} {bs : List Nat} (hs : simpleSh s = true) (h : XS0 K l w s x v bs) : XS H K l w s x v bs := by
  cases s <;> simp only [simpleSh, Bool.false_eq_true] at hs <;> simpa only [XS] using h
theorem XS0s_XL {H : Nat → FH} {K : Kt} {l l' : Nat} {w : World} : ∀ {ss : List Shape} {xs : List SVal} {vs : List Value} {bs : List Nat}, ss.all simpleSh = true → XS0s K l w ss xs vs bs → ∃ bss, bss.flatten = bs ∧ XL H K l' w ss xs vs bss
  | [], _, _, _, _, h => by
    obtain ⟨rfl, rfl, rfl⟩ := h
    exact ⟨[], rfl, trivial⟩
  | s :: ss, _, _, _, hs, h => by
    obtain ⟨x, xt, v, vt, b1, b2, rfl, rfl, rfl, h1, h2⟩ := h
    simp only [List.all_cons, Bool.and_eq_true] at hs
    obtain ⟨bss, rfl, h3⟩ := XS0s_XL hs.2 h2
    exact ⟨b1 :: bss, rfl, XS_of0 hs.1 (XS0_l h1), h3⟩
theorem XL_l {H : Nat → FH} {K K' : Kt} (hK : K.le K') {l : Nat} {w w' : World} : ∀ {ss : List Shape} {xs : List SVal} {vs : List Value} {bss : List (List Nat)}, XL H K l w ss xs vs bss → (∀ b ∈ bss.flatten, vw w' b = vw w b) → XL H K' l w' ss xs vs bss
  | [], [], [], [], _, _ => trivial
  | s :: ss, x :: xs, v :: vs, b :: bss, h, hb => ⟨XS.mono hK s h.1 fun b' hb' => hb b' (by simp [hb']), XL_l hK h.2 fun b' hb' => hb b' (by rw [List.flatten_cons]; exact List.mem_append.2 (.inr hb'))⟩
  | [], _ :: _, _, _, h, _ => by simp [XL] at h
  | [], [], _ :: _, _, h, _ => by simp [XL] at h
  | [], [], [], _ :: _, h, _ => by simp [XL] at h
  | _ :: _, [], _, _, h, _ => by simp [XL] at h
  | _ :: _, _ :: _, [], _, h, _ => by simp [XL] at h
  | _ :: _, _ :: _, _ :: _, [], h, _ => by simp [XL] at h
theorem impKeep_env : ∀ (keep : List (Nat × Shape)) (xs : List SVal) (n t : Nat), t ∉ keep.map (·.1) → (impKeep keep xs n).1 t = .unk
  | [], _, _, _, _ => rfl
  | (s, sh) :: r, xs, n, t, h => by
    simp only [List.map_cons, List.mem_cons, not_or] at h
    simp only [impKeep]
    rw [upd_other _ _ h.1]
    exact impKeep_env r _ _ t h.2
abbrev Tr : Prot := fun _ _ _ _ => True
abbrev Ctx.re (c : Ctx) (w0 : World) (O : Nat → Prop) (K0 : Kt) (J Jx : Prot) : Ctx := { P := c.P, H := c.H, l := c.l, w0 := w0, O := O, K0 := K0, J := J, Jx := Jx, nt := c.nt }
section
variable {c : Ctx} {K : Kt} {G : Gt} {ov : List Value} {ds : List Nat} {st : St} {a : Act} {w : World}
/-- The same objects, in other surroundings. -/
theorem Sim.recast {w1 : World} {O1 : Nat → Prop} {K1 : Kt} {J1 Jx1 : Prot} (hs : Sim (c.re w1 O1 K1 J1 Jx1) K G ov ds st a w) {w0 : World} {O : Nat → Prop} {K0 : Kt} {J Jx : Prot} {K' : Kt} {w' : World} {ds' : List Nat} {a' : Act}
    (hJ : (∀ ov K O w, J ov K O w) ∧ ∀ ov K O w, Jx ov K O w) (hle : K.le K') (hkok : Kok K' w') (hk0 : K0.le K') (hkO : ∀ b o v, O b → K' b o = some v → K0 b o = some v)
    (hsl : ∀ t, st.env t = .unk ∨ a'.tmps.getD t Go.undef = a.tmps.getD t Go.undef) (hsz : a'.tmps.size = a.tmps.size)
    (hb : ∀ i g, G i = some g → (st.loc i).live = true → ∀ b ∈ g.bs, vw w' b = vw w b ∧ ¬ O b ∧ b ∉ ds' ∧ ∀ o, K' b o = none) (hsz' : w.heap.size ≤ w'.heap.size)
    (hsame : SameW w0 w') (hframe : ∀ b, O b → vw w' b = vw w0 b) (hoB : ∀ b, O b → b < w0.heap.size)
    (hdfs : a'.defers = ds'.map mark) (hdnd : ds'.Nodup) (hdob : ∀ d ∈ ds', w'.heap[d]? = some (.deferred (some [])) ∧ ¬ O d) : Sim (c.re w0 O K0 J Jx) K' G ov ds' st a' w' where
  kok := hkok
  k0 := hk0
  kO := hkO
  slots := fun t => by
    rcases hsl t with h | h
    · rw [h]; simp [IR]
    · rw [h]; exact (hs.slots t).mono hle (Ext.refl _ _)
  nt := hsz.trans hs.nt
  objs := fun i g hg => (hs.objs i g hg).mono hle (Ext.refl _ _) fun hl b hb' => (hb i g hg hl b hb').1
  gnone := hs.gnone
  own := fun i g hg hl b hb' => by
    obtain ⟨_, h2, h3, h4⟩ := hb i g hg hl b hb'
    exact ⟨Nat.lt_of_lt_of_le (hs.own i g hg hl b hb').1 hsz', h2, h3, h4⟩
  nd := hs.nd
  sep := hs.sep
  same := hsame
  frame := hframe
  oB := hoB
  outs := fun h => VRs.mono hle _ _ (hs.outs h)
  prot := fun _ => hJ.1 _ _ _ _
  protx := fun _ => ⟨[], hJ.2 _ _ _ _⟩
  dfs := hdfs
  dnd := hdnd
  dob := hdob
  hJ := fun _ _ _ _ _ _ _ _ _ => hJ.1 _ _ _ _
  hJx := fun _ _ _ _ _ _ _ _ _ => hJ.2 _ _ _ _
end
/-- What the statement's own blocks are. -/
def RB (c : Ctx) (ds : List Nat) (w : World) (b : Nat) : Prop := c.O b ∨ b ∈ ds ∨ b = w.heap.size ∨ b = w.heap.size + 1
/-- Between two rounds. -/
def RInv (c : Ctx) (w : World) (K : Kt) (ds : List Nat) (keep : List (Nat × Shape)) (aR : Act) (rec : LoopState → Option Code → Loop) (ls : LoopState) (pe : Option Code) (s : LS) (Kg : Kt) (Og : Nat → Prop) (W : World) : Prop :=
  ∃ Kc Gc ov, Sim (c.re W (RB c ds w) Kc Tr Tr) Kc Gc ov [] (s.st false keep) aR W ∧ NF Gc (s.st false keep) ∧
    W.heap[w.heap.size + 1]? = some (.loop (rec ls pe)) ∧ W.heap[w.heap.size]? = some (.deferred (some [])) ∧ SameW w W ∧ (∀ b, c.O b ∨ b ∈ ds → vw W b = vw w b) ∧
    K.le Kc ∧ (∀ b o v, c.O b → Kc b o = some v → K b o = some v) ∧ Kc.le Kg ∧
    (∀ b o v, Kg b o = some v → Kc b o = some v ∨ (¬ RB c ds w b ∧ ∀ i g, Gc i = some g → ((s.st false keep).loc i).live = true → b ∉ g.bs)) ∧
    (∀ b, Og b → (¬ RB c ds w b ∧ ∀ i g, Gc i = some g → ((s.st false keep).loc i).live = true → b ∉ g.bs) ∧ ∀ o, Kc b o = none)
section
variable {c : Ctx} {w : World} {K : Kt} {ds : List Nat} {keep : List (Nat × Shape)} {aR : Act} {rec : LoopState → Option Code → Loop} {ls : LoopState} {pe : Option Code} {s : LS} {Kg K' : Kt} {Og O' : Nat → Prop} {W W' : World}
theorem RB_lt (hOB : ∀ b, c.O b ∨ b ∈ ds → b < w.heap.size) (hl : w.heap.size + 1 < W.heap.size) {b : Nat} (h : RB c ds w b) : b < W.heap.size := by
  rcases h with h | h | h | h
  · exact Nat.lt_trans (hOB b (.inl h)) (by omega)
  · exact Nat.lt_trans (hOB b (.inr h)) (by omega)
  · omega
  · omega
theorem RInv.stable (hOB : ∀ b, c.O b ∨ b ∈ ds → b < w.heap.size) (h : RInv c w K ds keep aR rec ls pe s Kg Og W) (he : Evo Kg Og W K' O' W') : RInv c w K ds keep aR rec ls pe s K' O' W' := by
  obtain ⟨Kc, Gc, ov, hsim, hnf, hl, hk, hsame, hfr, hle, hKO, hleg, hKg, hOg⟩ := h
  have hlt := (Array.getElem?_eq_some_iff.1 hl).1
  have hR : ∀ b, RB c ds w b → vw W' b = vw W b := fun b hb => he.keep b (RB_lt hOB hlt hb) fun h => (hOg b h).1.1 hb
  have hnew : ∀ b, W.heap.size ≤ b → ¬ RB c ds w b ∧ ∀ i g, Gc i = some g → ((s.st false keep).loc i).live = true → b ∉ g.bs := fun b hb =>
    ⟨fun h => absurd (RB_lt hOB hlt h) (by omega), fun i g hg hli hbg => absurd (hsim.own i g hg hli b hbg).1 (by omega)⟩
  refine ⟨Kc, Gc, ov, hsim.recast ⟨fun _ _ _ _ => trivial, fun _ _ _ _ => trivial⟩ (Kt.le.refl _) ?_ (Kt.le.refl _) (fun _ _ _ _ h => h) (fun _ => .inr rfl) rfl ?_ he.same.size (SameW.refl _) (fun _ _ => rfl) (fun b hb => Nat.lt_of_lt_of_le (RB_lt hOB hlt hb) he.same.size) hsim.dfs List.nodup_nil (fun d hd => by simp at hd),
    hnf, vw_get (hR _ (.inr (.inr (.inr rfl)))) hl, vw_get (hR _ (.inr (.inr (.inl rfl)))) hk, hsame.trans he.same, fun b hb => (hR b (hb.elim .inl fun h => .inr (.inl h))).trans (hfr b hb), hle, hKO, hleg.trans he.kle, ?_, ?_⟩
  · intro b o v hv
    exact he.kok b o v (hleg b o v hv) (hsim.kok b o v hv)
  · intro i g hg hli b hb
    obtain ⟨h1, h2, _, h4⟩ := hsim.own i g hg hli b hb
    exact ⟨he.keep b h1 fun hO => (hOg b hO).1.2 i g hg hli hb, h2, by simp, h4⟩
  · intro b o v hv
    rcases he.knew b o v hv with h | h | h
    · exact hKg b o v h
    · exact .inr (hOg b h).1
    · exact .inr (hnew b h)
  · intro b hb
    rcases he.onew b hb with h | h
    · exact hOg b h
    · refine ⟨hnew b h, fun o => ?_⟩
      cases hv : Kc b o with
      | none => rfl
      | some v => exact absurd (hsim.klt hv) (by omega)
end
end Go.Lm
end
section
namespace Go.Lm
def codeOf : Ex' → Code | .ret => .ret | .exit id => .exit id | .goto l => .goto l | .normal => .skip
theorem heap_alloc_lt {w : World} {o : Go.Obj} {k : Nat} (h : k < w.heap.size) : (w.alloc o).heap[k]? = w.heap[k]? := by
  show (w.heap.push o)[k]? = _
  rw [Array.getElem?_push_lt h, Array.getElem?_eq_getElem h]
section
variable {c : Ctx} {K : Kt} {G : Gt} {ov : List Value} {ds : List Nat} {st : St} {a : Act} {w : World}
theorem tmps_set (tmps : Array Value) (p t : Nat) (v : Value) (h : t ≠ p) : (tmps.setIfInBounds p v).getD t Go.undef = tmps.getD t Go.undef := by
  rw [Array.getD_eq_getD_getElem?, Array.getElem?_setIfInBounds_ne (Ne.symm h), ← Array.getD_eq_getD_getElem?]
theorem putR_sound (hs : Sim c K G ov ds st a w) {ps : Array Tmp} {x : SVal} {v : Value} {st0 : St} (h : putR c.nt st ps.toList x = some st0) (hx : VR K c.l x v) :
    (yArgs v).size = ps.size ∧ Sim c K G ov ds st0 { a with tmps := (ps.zip (yArgs v)).foldl (fun tmps (t, a) => tmps.setIfInBounds t a) a.tmps } w ∧ st0.loc = st.loc ∧ st0.nid = st.nid ∧
      ∀ t, t ∉ ps.toList → ((ps.zip (yArgs v)).foldl (fun tmps (t, a) => tmps.setIfInBounds t a) a.tmps).getD t Go.undef = a.tmps.getD t Go.undef := by
  unfold putR at h
  revert hx
  split at h <;> intro hx
  · rename_i p hp
    have hp : ps = #[p] := by rw [← Array.toArray_toList (xs := ps), hp]
    subst hp
    split at h
    · rename_i hc
      cases h
      have hy := yArgs_one hx (by simp [hc.2])
      rw [hy]
      have hs1 := hs.put (some p) (IVal.v _) v (by simp [dstOk, hc.1]) (v_IR hx)
      refine ⟨rfl, ?_, rfl, rfl, fun t ht => ?_⟩
      · simpa [Act.put] using hs1
      · simp at ht
        simpa using tmps_set _ _ _ _ ht
    · cases h
  · rename_i p q y z hp
    have hp : ps = #[p, q] := by rw [← Array.toArray_toList (xs := ps), hp]
    subst hp
    split at h
    · rename_i hc
      cases h
      simp only [VR, VRs] at hx
      obtain ⟨_, rfl, u1, _, rfl, h1, u2, _, rfl, h2, rfl⟩ := hx
      have hs1 := (hs.put (some p) (IVal.v y) u1 (by simp [dstOk, hc.1]) (v_IR h1)).put (some q) (IVal.v z) u2 (by simp [dstOk, hc.2]) (v_IR h2)
      refine ⟨rfl, ?_, rfl, rfl, fun t ht => ?_⟩
      · simpa [Act.put, yArgs] using hs1
      · simp at ht
        have : ((a.tmps.setIfInBounds p u1).setIfInBounds q u2).getD t Go.undef = a.tmps.getD t Go.undef := (tmps_set _ _ _ _ ht.2).trans (tmps_set _ _ _ _ ht.1)
        simpa [yArgs] using this
    · cases h
  · cases h
end
section
variable {P : Program} {H : Nat → FH} {T : Nat → List SVal → Option Res} {fuel : Nat} {h : FH}
theorem range_ok (hT : ∀ f args r, T f args = some r → Good P H f args r) (d : Nat) (hd : CodeOk P H T fuel h d) : RangeOk P H T fuel h d := by
  intro α F n c gen rf full Kc r r0 m g ps x y st K G ov ds a w Q Dw a0 hF hrf hcP hcH hy hgen hc hr hs hnf ha0 hpost
  subst hcP; subst hcH
  simp only [codeC] at hc
  split at hc
  · cases hc
  rename_i hgr
  obtain ⟨rfl, rfl⟩ : gen = false ∧ rf = true := by cases gen <;> cases rf <;> simp_all
  obtain rfl : F = Fence.wide := by
    rcases hF with h | ⟨l, rfl⟩
    · exact h
    · have := hrf rfl; cases this
  split at hc
  rotate_left; · cases hc
  rename_i i hg
  split at hc
  rotate_left; · cases hc
  rename_i xv _ hl
  split at hc
  rotate_left; · cases hc
  rename_i hwr
  obtain ⟨ys, hcall, hc2⟩ := Option.bind_eq_some_iff.1 hc
  clear hc
  generalize hkeep : h.keep.getD m [] = keep at *
  have h1 := ev_sound (P := c.P) hs 0 g
  rw [hg] at h1
  simp only [IR] at h1
  obtain ⟨_, gi, hgi, hval⟩ := h1
  have hval := hval (by simp [hl, Obj.ver?])
  have hor := hs.objs i gi hgi
  rw [hl] at hor
  obtain ⟨_, hX⟩ := hor
  simp only [XS] at hX
  obtain ⟨g', caps, vals, ss, rfl, hv, hpar, hss, hX⟩ := hX
  rw [hv] at hval
  simp only [callIt] at hcall
  obtain ⟨res, hTg, hout⟩ := Option.bind_eq_some_iff.1 hcall
  simp only [Option.some.injEq] at hout
  have hgood := hT _ _ _ hTg
  have hlive : (st.loc i).live = true := by rw [hl]; rfl
  have hown := hs.own i gi hgi hlive
  have hOB : ∀ b, c.O b ∨ b ∈ ds → b < w.heap.size := fun b hb => hb.elim (fun h => hs.olt h) fun h => hs.dlt h
  -- the consumer's own, without the iterator
  obtain ⟨q0, hq0, hc⟩ := keepLS_spec hc2
  clear hc2
  simp only [Bool.false_eq_true, if_false] at hc
  have hs0 : Sim (c.re w (fun b => c.O b ∨ b ∈ gi.bs) K Tr Tr) K G [] ds { st with loc := upd st.loc i .dead, out := [], stop := false } a w := by
    have h2 := hs.toTriv.step K w (upd st.loc i .dead) [] [] false (SameW.refl _) (Kt.le.refl _) hs.kok
      (fun j g hj => by
        by_cases hji : j = i
        · subst hji; exact .inr (.inl (by rw [upd_same]))
        · exact .inl ⟨by rw [upd_other _ _ hji], fun _ _ _ => rfl⟩)
      (fun j hj => by
        by_cases hji : j = i
        · subst hji; rw [upd_same]
        · rw [upd_other _ _ hji]; exact hs.gnone j hj)
      (fun _ _ => rfl) (fun _ _ _ _ h => h)
      (fun j g hj hlj b hb => by
        by_cases hji : j = i
        · subst hji; rw [upd_same] at hlj; simp [Obj.live] at hlj
        · rw [upd_other _ _ hji] at hlj
          exact (hs.own j g hj hlj b hb).2.2.2)
      (fun _ _ => rfl) (fun _ => by simp [VRs])
    refine Sim.recast (c := c) (w1 := c.w0) (O1 := c.O) (K1 := c.K0) (J1 := Tr) (Jx1 := Tr) h2 ⟨fun _ _ _ _ => trivial, fun _ _ _ _ => trivial⟩ (Kt.le.refl _) hs.kok (Kt.le.refl _) (fun _ _ _ _ h => h) (fun _ => .inr rfl) rfl ?_ (Nat.le_refl _) (SameW.refl _) (fun _ _ => rfl) (fun b hb => hb.elim (fun h => hs.olt h) fun h => (hown b h).1) hs.dfs hs.dnd
      (fun d hd => ⟨(hs.dob d hd).1, fun h => h.elim (hs.dob d hd).2 fun h => (hown d h).2.2.1 hd⟩)
    intro j g hj hlj b hb
    have hji : j ≠ i := fun e => by
      subst e
      simp only [upd_same, Obj.live, Bool.false_eq_true] at hlj
    simp only [upd_other _ _ hji] at hlj
    obtain ⟨_, k2, k3, k4⟩ := hs.own j g hj hlj b hb
    exact ⟨rfl, fun h => h.elim k2 fun h => hs.sep i j gi g b (Ne.symm hji) hgi hj hlive hlj h hb, k3, k4⟩
  obtain ⟨Kc0, G0, ov0, hs1, hnf1⟩ := keep_sound (gen := false) hs0 (fun _ => ⟨fun _ _ _ _ => trivial, fun _ _ _ _ => trivial⟩) hq0
  simp only [Bool.false_eq_true, if_false] at hs1 hnf1
  -- the loop's record
  refine wpIn_rangeFunc ?_
  intro fn hfn
  obtain ⟨rec, hrec⟩ : ∃ rec : LoopState → Option Code → Loop, rec = fun ls pe => { state := ls, pending := pe, fn, tmps := a.tmps, params := ps, assign := x, body := y, defers := w.heap.size } := ⟨_, rfl⟩
  obtain ⟨W1, hW1⟩ : ∃ W1, (w.alloc (.deferred (some []))).alloc (.loop (rec .ready none)) = W1 := ⟨_, rfl⟩
  have hL1 : W1.heap[w.heap.size + 1]? = some (.loop (rec .ready none)) := by
    rw [← hW1]; have := World.alloc_heap_new (w.alloc (.deferred (some []))) (.loop (rec .ready none)); rwa [World.size_alloc] at this
  have hD1 : W1.heap[w.heap.size]? = some (.deferred (some [])) := by
    rw [← hW1]; exact (heap_alloc_lt (by simp)).trans (World.alloc_heap_new w _)
  have hold1 : ∀ b, b < w.heap.size → W1.heap[b]? = w.heap[b]? := fun b hb => by
    rw [← hW1]; exact (heap_alloc_lt (by simp; omega)).trans (heap_alloc_lt hb)
  have hsz1 : W1.heap.size = w.heap.size + 2 := by rw [← hW1]; simp
  have hsame1 : SameW w W1 := by rw [← hW1]; exact ⟨rfl, rfl, rfl, by simp; omega⟩
  obtain ⟨aR, haR⟩ : ∃ aR : Act, aR = { tmps := a.tmps, defers := [] } := ⟨_, rfl⟩
  have hKc0 : ∀ b o v, c.O b ∨ b ∈ gi.bs → Kc0 b o = some v → K b o = some v := fun b o v hb hv => hs1.kO b o v hb hv
  have hnone0 : ∀ b ∈ gi.bs, ∀ o, Kc0 b o = none := fun b hb o => by
    cases hv : Kc0 b o with
    | none => rfl
    | some v => have := hKc0 b o v (.inr hb) hv; rw [(hown b hb).2.2.2 o] at this; cases this
  obtain ⟨bss, hbss, hXL⟩ := XS0s_XL (H := c.H) (l' := w.heap.size + 1) hss hX
  have hXL1 : XL c.H Kc0 (w.heap.size + 1) W1 (c.H g').params (.yld :: caps) (.func (.yield (w.heap.size + 1)) #[] #[] :: vals) ([] :: bss) := by
    rw [hpar]
    refine ⟨by simp only [XS]; exact ⟨by first | rfl | trivial, by first | rfl | trivial, by first | rfl | trivial⟩, XL_l hs1.k0 hXL fun b hb => vw_of (hold1 b ?_)⟩
    rw [hbss] at hb
    exact (hown b hb).1
  have hgen' : isGen c.H g' = true := by simp [isGen, hpar]
  -- the invariant
  obtain ⟨bodyF, hbodyF⟩ : ∃ bodyF : LS → SVal → (LS → Option α) → Option α, bodyF = fun s y' next => putC c.nt (s.st false keep) ps.toList y' fun st0 =>
      codeC c.P c.H T fuel c.nt h false false d (m + 1) x st0 fun e st1 => match e with
        | .normal => codeC c.P c.H T fuel c.nt h false false d (m + 1 + loopsIn x) y st1 fun e st2 =>
            keepLS c.H false st2 st2.env keep fun s' => match e with
              | .normal => next s'
              | e => Kc e (s'.st false keep)
        | _ => none := ⟨_, rfl⟩
  have hrun0 : rangeN bodyF (fun s => Kc .normal (s.st false keep)) ys ⟨q0.1, [], false⟩ = some r := by rw [hbodyF]; exact hc
  obtain ⟨J, hJd⟩ : ∃ J : Prot, J = fun ov Kg Og W => ∃ s, RInv c w K ds keep aR rec .ready none s Kg Og W ∧ rangeN bodyF (fun s => Kc .normal (s.st false keep)) (ys.drop ov.length) s = some r := ⟨_, rfl⟩
  obtain ⟨Jx, hJxd⟩ : ∃ Jx : Prot, Jx = fun _ Kg Og W => ∃ s e, e ≠ Ex'.normal ∧ RInv c w K ds keep aR rec .done (some (codeOf e)) s Kg Og W ∧ Kc e (s.st false keep) = some r := ⟨_, rfl⟩
  have hstJ : Stable J := by
    rw [hJd]
    rintro ov K1 O1 w1 K2 O2 w2 ⟨s, h1, h2⟩ he
    exact ⟨s, h1.stable hOB he, h2⟩
  have hstJx : Stable Jx := by
    rw [hJxd]
    rintro ov K1 O1 w1 K2 O2 w2 ⟨s, e, h0, h1, h2⟩ he
    exact ⟨s, e, h0, h1.stable hOB he, h2⟩
  have hJ0 : J [] Kc0 (· ∈ gi.bs) W1 := by
    rw [hJd]
    refine ⟨⟨q0.1, [], false⟩, ⟨Kc0, G0, ov0, ?_, hnf1, hL1, hD1, hsame1, fun b hb => vw_of (hold1 b (hOB b hb)), hs1.k0, fun b o v hb hv => hKc0 b o v (.inl hb) hv, Kt.le.refl _, fun b o v hv => .inl hv, fun b hb => ⟨⟨?_, ?_⟩, hnone0 b hb⟩⟩, by simpa using hrun0⟩
    · refine Sim.recast (c := c) hs1 ⟨fun _ _ _ _ => trivial, fun _ _ _ _ => trivial⟩ (Kt.le.refl _) (fun b o v hv => ?_) (Kt.le.refl _) (fun _ _ _ _ h => h) (fun _ => .inr (by rw [haR])) (by rw [haR]) ?_ hsame1.size (SameW.refl _) (fun _ _ => rfl) (fun b hb => RB_lt hOB (by omega) hb) (by rw [haR]; rfl) List.nodup_nil (fun d hd => by simp at hd)
      · exact (hs1.kok b o v hv).of_heap (hold1 b (hs1.klt hv))
      · intro j g hj hlj b hb
        obtain ⟨k1, k2, k3, k4⟩ := hs1.own j g hj hlj b hb
        refine ⟨vw_of (hold1 b k1), fun h => ?_, by simp, k4⟩
        rcases h with h | h | h | h
        · exact k2 (.inl h)
        · exact k3 h
        · omega
        · omega
    · rintro (h | h | h | h)
      · exact (hown b hb).2.1 h
      · exact (hown b hb).2.2.1 h
      · have := (hown b hb).1; omega
      · have := (hown b hb).1; omega
    · intro j g hj hlj hbg
      exact (hs1.own j g hj hlj b hbg).2.1 (.inr hb)
  refine ⟨w.heap.size + 1, [{ target := .collected w.heap.size, args := #[] }], W1, { target := .fn (.func g') vals.toArray, args := #[.func (.yield (w.heap.size + 1)) #[] #[]] }, W1, g',
    #[.func (.yield (w.heap.size + 1)) #[] #[]] ++ vals.toArray, W1, ?_, ?_, ?_, ?_, (fun h => by cases h), ?_⟩
  · rw [← hW1, hrec]; exact run_enterLoop_outer _ _ _ _ _
  · simp only [resolve, hval]
    simp [go_sem]
  · intro f' _; trivial
  · have := hgood.1 (#[.func (.yield (w.heap.size + 1)) #[] #[]] ++ vals.toArray) W1
    simpa [invoke, go_sem] using this
  have hargs : (#[.func (.yield (w.heap.size + 1)) #[] #[]] ++ vals.toArray : Array Value) = (.func (.yield (w.heap.size + 1)) #[] #[] :: vals).toArray := by simp
  rw [hargs]
  have hflat : (([] : List Nat) :: bss).flatten = gi.bs := by simpa using hbss
  refine callsIn_wide.2 (Calls.mono (hgood.2 Kc0 (fun _ => False) (w.heap.size + 1) J Jx _ ([] :: bss) W1 (fun b o v hv => (hs1.kok b o v hv).of_heap (hold1 b (hs1.klt hv))) (fun _ h => h.elim) hXL1
    (by rw [hflat]; exact hs.nd i gi hgi hlive) (fun b hb => by rw [hflat] at hb; exact ⟨by have := (hown b hb).1; omega, fun h => h, hnone0 b hb⟩) hstJ hstJx (fun _ => ⟨by rw [hflat]; exact hJ0, ?_⟩)) ?_)
  · -- one round
    rintro ov Kg Og W xs xv v hJov hxs hxv ⟨rest, hfull⟩ hkok hlt hno
    rw [hJd] at hJov
    obtain ⟨s, ⟨Kq, Gc, ov1, hsim, hnfs, hl', hk', hsame, hfr, hle, hKO, hleg, hKg, hOg⟩, hrun⟩ := hJov
    rw [hout] at hfull
    have hdrop : ys.drop ov.length = xv :: rest := by rw [hfull, hxs.length]; simp
    rw [hdrop] at hrun
    simp only [rangeN] at hrun
    generalize hnext : rangeN bodyF (fun s => Kc .normal (s.st false keep)) rest = next at hrun
    rw [hbodyF] at hrun
    obtain ⟨st0, hput, hrun⟩ := putC_cps hrun
    have hltL : w.heap.size + 1 < W.heap.size := (Array.getElem?_eq_some_iff.1 hl').1
    have hRBlt : ∀ {b}, RB c ds w b → b < W.heap.size := fun h => RB_lt hOB hltL h
    have hs2 : Sim (c.re W (fun b => Og b ∨ RB c ds w b) Kg Tr Tr) Kg Gc ov1 [] (s.st false keep) aR W := by
      refine Sim.recast (c := c) hsim ⟨fun _ _ _ _ => trivial, fun _ _ _ _ => trivial⟩ hleg hkok (Kt.le.refl _) (fun _ _ _ _ h => h) (fun _ => .inr rfl) rfl ?_ (Nat.le_refl _) (SameW.refl _) (fun _ _ => rfl) (fun b hb => hb.elim (fun h => hlt b (.inl h)) hRBlt) hsim.dfs List.nodup_nil (fun d hd => by simp at hd)
      intro j g hj hlj b hb
      obtain ⟨k1, k2, k3, k4⟩ := hsim.own j g hj hlj b hb
      refine ⟨rfl, fun h => h.elim (fun h => (hOg b h).1.2 j g hj hlj hb) k2, by simp, fun o => ?_⟩
      cases hv : Kg b o with
      | none => rfl
      | some u =>
        rcases hKg b o u hv with h | ⟨_, h⟩
        · rw [k4 o] at h; cases h
        · exact absurd hb (h j g hj hlj)
    obtain ⟨hsize, hs3, hloc0, hnid0, hag⟩ := putR_sound hs2 hput (VR_l _ _ hxv)
    have hyrun := run_yield (P := c.P) (args := yArgs v) hl' (by rw [hrec]; exact hsize)
    rw [hrec] at hyrun
    have haRt : aR.tmps = a.tmps := by rw [haR]
    refine ⟨fn, _, x, y, hyrun, roundIn_of_wpIn trivial ?_⟩
    have hact : ({ tmps := (ps.zip (yArgs v)).foldl (fun tmps (t, a) => tmps.setIfInBounds t a) a.tmps, defers := [] } : Act) = { aR with tmps := (ps.zip (yArgs v)).foldl (fun tmps (t, a) => tmps.setIfInBounds t a) aR.tmps } := by rw [haR]
    show x.wpIn _ _ _ _ { tmps := (ps.zip (yArgs v)).foldl (fun tmps (t, a) => tmps.setIfInBounds t a) a.tmps, defers := [] } W
    rw [hact]
    have hwr' : ∀ p ∈ keep.map (·.1), p ∉ ps.toList ++ wrs x ++ wrs y := fun p hp => by
      obtain ⟨q, hq, rfl⟩ := List.mem_map.1 hp
      have := List.all_eq_true.1 hwr q hq
      simpa using this
    refine hd α (Fence.wide.inRound (w.heap.size + 1)) 0 (c.re W (fun b => Og b ∨ RB c ds w b) Kg Tr Tr) false false [] _ r r (m + 1) x st0 Kg Gc ov1 [] _ W _ (· ∈ ps.toList ++ wrs x ++ wrs y) aR (.inr ⟨_, rfl⟩) (fun h => by cases h) rfl rfl (fun h => by cases h) (fun _ => ⟨fun _ _ _ _ => trivial, fun _ _ _ _ => trivial⟩) hrun (fun _ => rfl) (fun h => by cases h) hs3
      (fun j hj => by rw [hnid0]; exact hnfs j hj) (fun t ht => by simp [ht]) (fun t ht => hag t fun h => ht (by simp [h])) ?_
    rintro e st1 r1 K1 G1 ov2 ds1 a1 Wa hk1 hr1 hs4 hnf4 hag4
    obtain rfl := hr1 (.inr rfl)
    cases e with
    | exit id => cases hk1
    | ret => cases hk1
    | goto l => cases hk1
    | normal =>
    simp only at hk1
    have hOl : Og (w.heap.size + 1) ∨ RB c ds w (w.heap.size + 1) := .inr (.inr (.inr (.inr rfl)))
    have hnl : ∀ {b}, b ≠ w.heap.size + 1 → ∀ (W : World) (o : Go.Obj), (W.putObj (w.heap.size + 1) o).heap[b]? = W.heap[b]? := fun hb W o => World.putObj_heap_other hb
    have hOgl : ∀ {b}, Og b → b ≠ w.heap.size + 1 := fun hb e => (hOg _ hb).1.1 (.inr (.inr (.inr e)))
    have hcd : ∀ {b}, c.O b ∨ b ∈ ds → b ≠ w.heap.size + 1 := fun hb e => by have := hOB _ hb; omega
    have hla : Wa.heap[w.heap.size + 1]? = some (.loop (rec .ready none)) := vw_get (hs4.frame _ hOl) hl'
    have hda : Wa.heap[w.heap.size]? = some (.deferred (some [])) := vw_get (hs4.frame _ (.inr (.inr (.inr (.inl rfl))))) hk'
    have hlta := (Array.getElem?_eq_some_iff.1 hla).1
    refine ⟨_, run_beginRound hla (by rw [hrec]), ?_⟩
    generalize hWb : Wa.putObj (w.heap.size + 1) (.loop { rec .ready none with state := .busy }) = Wb
    have hsab : SameW Wa Wb := by rw [← hWb]; exact ⟨rfl, rfl, rfl, by simp⟩
    have hlb : Wb.heap[w.heap.size + 1]? = some (.loop { rec .ready none with state := .busy }) := by rw [← hWb]; exact World.putObj_heap_same hlta
    have hob : ∀ {b}, b ≠ w.heap.size + 1 → Wb.heap[b]? = Wa.heap[b]? := fun hb => by rw [← hWb]; exact hnl hb _ _
    have nocell : ∀ {W' : World} {r' : Loop} {K' : Kt}, W'.heap[w.heap.size + 1]? = some (.loop r') → Kok K' W' → ∀ o, K' (w.heap.size + 1) o = none := fun {W' r' K'} hl hk o => by
      cases hv : K' (w.heap.size + 1) o with
      | none => rfl
      | some u =>
        exact ((hk _ _ _ hv).not hl rfl).elim
    have hkok_put : ∀ {W' W'' : World} {r' : Loop} {K' : Kt}, W'.heap[w.heap.size + 1]? = some (.loop r') → Kok K' W' → (∀ {b}, b ≠ w.heap.size + 1 → W''.heap[b]? = W'.heap[b]?) → Kok K' W'' := fun {W' W'' r' K'} hl hk hh b o u hu => by
      have hb : b ≠ w.heap.size + 1 := fun e => by subst e; rw [nocell hl hk o] at hu; cases hu
      exact (hk b o u hu).of_heap (hh hb)
    have hs5 : Sim (c.re Wb (fun b => Og b ∨ RB c ds w b) K1 Tr Tr) K1 G1 ov2 ds1 st1 a1 Wb := by
      refine Sim.recast (c := c) hs4 ⟨fun _ _ _ _ => trivial, fun _ _ _ _ => trivial⟩ (Kt.le.refl _) (hkok_put hla hs4.kok hob) (Kt.le.refl _) (fun _ _ _ _ h => h) (fun _ => .inr rfl) rfl ?_ hsab.size (SameW.refl _) (fun _ _ => rfl)
        (fun b hb => Nat.lt_of_lt_of_le (hb.elim (fun h => hlt b (.inl h)) hRBlt) (Nat.le_trans hs4.same.size hsab.size)) hs4.dfs hs4.dnd (fun d hd => ⟨(hob fun e => (hs4.dob d hd).2 (by rw [e]; exact hOl)).trans (hs4.dob d hd).1, (hs4.dob d hd).2⟩)
      intro j g hj hlj b hb
      obtain ⟨k1, k2, k3, k4⟩ := hs4.own j g hj hlj b hb
      exact ⟨vw_of (hob fun e => k2 (by rw [e]; exact hOl)), k2, k3, k4⟩
    refine hd α (Fence.wide.inRound (w.heap.size + 1)) 0 (c.re Wb (fun b => Og b ∨ RB c ds w b) K1 Tr Tr) false false [] _ r1 r1 (m + 1 + loopsIn x) y st1 K1 G1 ov2 ds1 a1 Wb _ (· ∈ ps.toList ++ wrs x ++ wrs y) aR (.inr ⟨_, rfl⟩) (fun h => by cases h) rfl rfl (fun h => by cases h) (fun _ => ⟨fun _ _ _ _ => trivial, fun _ _ _ _ => trivial⟩) hk1 (fun _ => rfl) (fun h => by cases h) hs5 hnf4 (fun t ht => by simp [ht]) hag4 ?_
    rintro e st2 r2 K2 G2 ov3 ds2 a2 Wc hk2 hr2 hs6 hnf6 hag6
    obtain rfl := hr2 (.inr rfl)
    obtain ⟨q, hq1, hq2⟩ := keepLS_spec hk2
    simp only [Bool.false_eq_true, if_false] at hq2
    obtain ⟨K3, G3, ov4, hs7, hnf7⟩ := keep_sound (gen := false) hs6 (fun _ => ⟨fun _ _ _ _ => trivial, fun _ _ _ _ => trivial⟩) hq1
    simp only [Bool.false_eq_true, if_false] at hs7 hnf7
    have hlc : Wc.heap[w.heap.size + 1]? = some (.loop { rec .ready none with state := .busy }) := vw_get (hs6.frame _ hOl) hlb
    have hltc := (Array.getElem?_eq_some_iff.1 hlc).1
    have fin : ∀ (jump : Option Code), ∃ Wd, (Instr.endRound (w.heap.size + 1) jump).run c.P Wc = .ok (.bool jump.isNone) Wd ∧ RInv c w K ds keep aR rec (if jump.isNone then .ready else .done) jump ⟨q.1, [], false⟩ K3 Og Wd ∧
        Kg.le K3 ∧ Kok K3 Wd ∧ SameW W Wd ∧ (∀ b, Og b ∨ False → vw Wd b = vw W b) ∧ (∀ b o u, Og b ∨ False → K3 b o = some u → Kg b o = some u) := by
      intro jump
      have hend := run_endRound (P := c.P) jump hlc
      generalize hWd : Wc.putObj (w.heap.size + 1) (.loop { ({ rec .ready none with state := .busy } : Loop) with state := if jump.isNone then .ready else .done, pending := jump }) = Wd at hend
      have hod : ∀ {b}, b ≠ w.heap.size + 1 → Wd.heap[b]? = Wc.heap[b]? := fun hb => by rw [← hWd]; exact hnl hb _ _
      have hld : Wd.heap[w.heap.size + 1]? = some (.loop (rec (if jump.isNone then .ready else .done) jump)) := by
        rw [← hWd, World.putObj_heap_same hltc, hrec]
      have hscd : SameW Wc Wd := by rw [← hWd]; exact ⟨rfl, rfl, rfl, by simp⟩
      have hfrR : ∀ {b}, Og b ∨ RB c ds w b → b ≠ w.heap.size + 1 → vw Wd b = vw W b := fun hb hne =>
        (vw_of (hod hne)).trans ((hs6.frame _ hb).trans ((vw_of (hob hne)).trans (hs4.frame _ hb)))
      have hKOg : ∀ b o u, Og b ∨ RB c ds w b → K3 b o = some u → Kg b o = some u := fun b o u hb hu => hs4.kO b o u hb (hs7.kO b o u hb hu)
      have hleK : Kg.le K3 := hs4.k0.trans hs7.k0
      have hkokd : Kok K3 Wd := hkok_put hlc hs7.kok hod
      have hsameW : SameW W Wd := ((hs4.same.trans hsab).trans hs6.same).trans hscd
      refine ⟨Wd, hend, ⟨K3, G3, ov4, ?_, hnf7, hld, vw_get (hfrR (.inr (.inr (.inr (.inl rfl)))) (by omega)) hk', hsame.trans hsameW, fun b hb => (hfrR (.inr (hb.elim .inl fun h => .inr (.inl h))) (hcd hb)).trans (hfr b hb), (hle.trans hleg).trans hleK, ?_, Kt.le.refl _, fun b o v hv => .inl hv, ?_⟩, hleK, hkokd, hsameW, fun b hb => ?_, fun b o u hb hu => ?_⟩
      · refine Sim.recast (c := c) hs7 ⟨fun _ _ _ _ => trivial, fun _ _ _ _ => trivial⟩ (Kt.le.refl _) hkokd (Kt.le.refl _) (fun _ _ _ _ h => h) (fun t => ?_) ?_ ?_ hscd.size (SameW.refl _) (fun _ _ => rfl) (fun b hb => Nat.lt_of_lt_of_le (hRBlt hb) hsameW.size) hsim.dfs List.nodup_nil (fun d hd => by simp at hd)
        · by_cases ht : t ∈ keep.map (·.1)
          · exact .inr (hag6 t (hwr' t ht)).symm
          · exact .inl (impKeep_env _ _ _ _ ht)
        · exact hsim.nt.trans hs7.nt.symm
        · intro j g hj hlj b hb
          obtain ⟨k1, k2, k3, k4⟩ := hs7.own j g hj hlj b hb
          exact ⟨vw_of (hod fun e => k2 (by rw [e]; exact hOl)), fun h => k2 (.inr h), by simp, k4⟩
      · intro b o v hb hv
        rcases hKg b o v (hKOg b o v (.inr (.inl hb)) hv) with h | ⟨h, _⟩
        · exact hKO b o v hb h
        · exact absurd (.inl hb) h
      · intro b hb
        refine ⟨⟨(hOg b hb).1.1, fun j g hj hlj hbg => (hs7.own j g hj hlj b hbg).2.1 (.inl hb)⟩, fun o => ?_⟩
        cases hv : K3 b o with
        | none => rfl
        | some u => have := hKOg b o u (.inl hb) hv; rw [hno b hb o] at this; cases this
      · rcases hb with hb | hb
        · exact hfrR (.inl hb) (hOgl hb)
        · exact hb.elim
      · rcases hb with hb | hb
        · exact hKOg b o u (.inl hb) hu
        · exact hb.elim
    have jumps : ∀ (e : Ex') (hne : e ≠ .normal), Kc e ((⟨q.1, [], false⟩ : LS).st false keep) = some r2 → ∃ v' Wd, (Instr.endRound (w.heap.size + 1) (some (codeOf e))).run c.P Wc = .ok v' Wd ∧
        ∃ (b : Bool) (K' : Kt), Ending.returned v' = .returned (.bool b) ∧ Kg.le K' ∧ Kok K' Wd ∧ SameW W Wd ∧ (∀ b, Og b ∨ False → vw Wd b = vw W b) ∧ (∀ b o u, Og b ∨ False → K' b o = some u → Kg b o = some u) ∧ (b = true → J (ov ++ [v]) K' Og Wd) ∧ (b = false → Jx (ov ++ [v]) K' Og Wd) := by
      intro e hne hK
      obtain ⟨Wd, hend, hinv, h1, h2, h3, h4, h5⟩ := fin (some (codeOf e))
      exact ⟨_, Wd, hend, false, K3, rfl, h1, h2, h3, h4, h5, (fun h => by cases h), fun _ => by rw [hJxd]; exact ⟨_, e, hne, hinv, hK⟩⟩
    cases e with
    | normal =>
      obtain ⟨Wd, hend, hinv, h1, h2, h3, h4, h5⟩ := fin none
      refine ⟨_, Wd, hend, true, K3, rfl, h1, h2, h3, h4, h5, fun _ => ?_, fun h => by cases h⟩
      rw [hJd]
      refine ⟨_, hinv, ?_⟩
      have : ys.drop (ov ++ [v]).length = rest := by
        rw [List.length_append, List.length_singleton, ← List.drop_drop, hdrop]; rfl
      rw [this, hnext]; exact hq2
    | ret => exact jumps .ret (by simp) hq2
    | exit id => exact jumps (.exit id) (by simp) hq2
    | goto l => exact jumps (.goto l) (by simp) hq2
  · -- behind the loop
    rintro e w2 ⟨v, K2, rfl, hkok2, hle2, hKO2, hsame2, hframe2, hpost2⟩
    have finish : ∀ (ls : LoopState) (pe : Option Code) (s : LS) (Kg : Kt) (Og : Nat → Prop), ls ≠ .busy → RInv c w K ds keep aR rec ls pe s Kg Og w2 → ∃ w3, (Instr.endLoop (w.heap.size + 1)).run c.P w2 = .ok pe w3 ∧
        ∃ Kc Gc ov, Sim c Kc Gc ov (w.heap.size :: ds) (s.st false keep) { a with defers := mark w.heap.size :: a.defers } w3 ∧ NF Gc (s.st false keep) := by
      rintro ls pe s Kg Og hls ⟨Kc', Gc, ov1, hsim, hnfs, hl', hk', hsame', hfr, hle, hKO, hleg, hKg, hOg⟩
      have hend := run_endLoop (P := c.P) hl' (by rw [hrec]; exact hls)
      have hpe : (rec ls pe).pending = pe := by rw [hrec]
      generalize hw3 : w2.putObj (w.heap.size + 1) (.loop { rec ls pe with state := .exhausted }) = w3 at hend
      rw [hpe] at hend
      have ho3 : ∀ {b}, b ≠ w.heap.size + 1 → w3.heap[b]? = w2.heap[b]? := fun hb => by rw [← hw3]; exact World.putObj_heap_other hb
      have hs23 : SameW w2 w3 := by rw [← hw3]; exact ⟨rfl, rfl, rfl, by simp⟩
      have hne : ∀ {b}, c.O b ∨ b ∈ ds → b ≠ w.heap.size + 1 := fun hb e => by have := hOB _ hb; omega
      refine ⟨w3, hend, Kc', Gc, ov1, ?_, hnfs⟩
      refine Sim.recast (c := c) (w0 := c.w0) (O := c.O) (K0 := c.K0) (J := c.J) (Jx := c.Jx) hsim (hgen rfl) (Kt.le.refl _) (fun b o u hu => ?_) (hs.k0.trans hle) (fun b o u hb hu => hs.kO b o u hb (hKO b o u hb hu)) (fun _ => .inr (by rw [haR])) (by rw [haR]) ?_ hs23.size (hs.same.trans (hsame'.trans hs23))
        (fun b hb => (vw_of (ho3 (hne (.inl hb)))).trans ((hfr b (.inl hb)).trans (hs.frame b hb))) hs.oB (by simp [hs.dfs]) (List.nodup_cons.2 ⟨fun h => by have := hs.dlt h; omega, hs.dnd⟩) (fun d hd => ?_)
      · have hb : b ≠ w.heap.size + 1 := fun e => by
          subst e
          exact (hsim.kok _ _ _ hu).not hl' rfl
        exact (hsim.kok b o u hu).of_heap (ho3 hb)
      · intro j g hj hlj b hb
        obtain ⟨k1, k2, k3, k4⟩ := hsim.own j g hj hlj b hb
        refine ⟨vw_of (ho3 fun e => k2 (.inr (.inr (.inr e)))), fun h => k2 (.inl h), ?_, k4⟩
        simp only [List.mem_cons, not_or]
        exact ⟨fun e => k2 (.inr (.inr (.inl e))), fun h => k2 (.inr (.inl h))⟩
      · simp only [List.mem_cons] at hd
        rcases hd with rfl | hd
        · exact ⟨(ho3 (by omega)).trans hk', fun h => by have := hOB _ (.inl h); omega⟩
        · exact ⟨(ho3 (hne (.inr hd))).trans (vw_get (hfr d (.inr hd)) (hs.dob d hd).1), (hs.dob d hd).2⟩
    rcases hpost2 with ⟨bs, bk, ov1, _, _, _, _, _, hgJ⟩ | ⟨_, _, pre, hJx⟩
    · obtain ⟨hvo, hJ1⟩ := hgJ hgen'
      rw [hJd] at hJ1
      obtain ⟨s, hinv, hrun⟩ := hJ1
      have hnil : ys.drop ov1.length = [] := by rw [hvo.length, hout]; simp
      rw [hnil] at hrun
      simp only [rangeN] at hrun
      obtain ⟨w3, hend, Kc', Gc, ov2, hs8, hnf8⟩ := finish _ _ s _ _ (by simp) hinv
      exact ⟨none, w3, hend, hpost .normal _ r Kc' Gc ov2 _ _ w3 hrun (fun _ => hr (.inr rfl)) hs8 hnf8 ha0⟩
    · rw [hJxd] at hJx
      obtain ⟨s, e, hne, hinv, hrun⟩ := hJx
      obtain ⟨w3, hend, Kc', Gc, ov2, hs8, hnf8⟩ := finish _ _ s _ _ (by simp) hinv
      have hq := hpost e _ r Kc' Gc ov2 _ _ w3 hrun (fun _ => hr (.inr rfl)) hs8 hnf8 ha0
      refine ⟨some (codeOf e), w3, hend, ?_⟩
      cases e with
      | normal => exact absurd rfl hne
      | ret => exact wpIn_ret hq
      | exit id => exact wpIn_exit hq
      | goto l => exact wpIn_goto hq
end
end Go.Lm
end
