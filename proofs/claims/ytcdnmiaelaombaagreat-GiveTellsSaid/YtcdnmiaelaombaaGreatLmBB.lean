/- A part of the proof. -/
import Derived.Test.YtcdnmiaelaombaaGreatLmBA
import Derived.Laws.Slices
set_option linter.unusedVariables false
set_option linter.unusedSimpArgs false
set_option linter.unnecessarySimpa false
set_option linter.all false
section
namespace Go.Lm
section
variable {P : Program} {c : Ctx} {K : Kt} {G : Gt} {ov : List Value} {ds : List Nat} {st : St} {a : Act} {w : World}
/-- One object turns, and a slot is filled. -/
theorem OpOk.turn (hs : Sim c K G ov ds st a w) {o : Oper} (hd : dstOk c.nt o.dst = true) {id i : Nat} (hi : G i ≠ none ∨ (id ≤ i ∧ i < id + 32)) (ob : Obj) (iv : IVal) (rd : List Nat) (g : GO) (w' : World) (v : Value)
    (hG : ∀ g0, G i = some g0 → g0.top ≤ g.top ∧ ∀ ver, ver ≤ g0.top → ob.ver? = some ver → (st.loc i).ver? = some ver ∧ g.val = g0.val ∧ g.blk = g0.blk ∧ ob.stride = (st.loc i).stride)
    (hsame : SameW w w')
    (hkeep : ∀ b, b < w.heap.size → (∀ g, G i = some g → (st.loc i).live = true → b ∉ g.bs) → w'.heap[b]? = w.heap[b]?)
    (hor : ∀ loc' G', Ext st.loc G loc' G' → OR c.H K c.l loc' G' w' g ob)
    (hbs : ob.live = true → g.bs.Nodup ∧ ∀ b ∈ g.bs, b < w'.heap.size ∧ ((∃ g, G i = some g ∧ (st.loc i).live = true ∧ b ∈ g.bs) ∨ w.heap.size ≤ b))
    (hv : ∀ loc' G', Ext st.loc G loc' G' → G' i = some g → loc' i = ob → IR K c.l loc' G' iv v)
    (hrun : (execOp a.eval o).run P w = .ok (.value v) w') :
    OpOk P c ov ds st G id o { val := iv, wr := [(i, ob)], rd := rd } a w := by
  have hext := hs.ext1 i ob g hG
  have h1 := hs.obj1 i ob g w' hG hsame hkeep (hor _ _ hext) hbs
  have h2 := h1.put o.dst iv v hd (hv _ _ hext (upd_same _ _ _) (upd_same _ _ _))
  refine ⟨v, w', K, upd G i (some g), .inl hrun, ?_, fun j hj => ?_⟩
  · have : st.apply o.dst { val := iv, wr := [(i, ob)], rd := rd } = { st with loc := upd st.loc i ob }.put o.dst iv := by
      cases o.dst <;> rfl
    rw [this]; exact h2
  · by_cases hid : j = i
    · subst hid; exact hi
    · rw [upd_other _ _ hid] at hj; exact .inl hj
/-! ### Cutting -/
def OVR (K : Kt) (l : Nat) : Option SVal → Option Value → Prop
  | none, none => True
  | some x, some v => VR K l x v
  | _, _ => False
theorem sBnd_spec {n j : Nat} {x : SVal} (h : sBnd n x = some j) : ∃ k i, x = .int k i ∧ 0 ≤ i ∧ i ≤ (n : Int) ∧ j = i.toNat := by
  unfold sBnd at h
  split at h
  · split at h
    · rename_i hh; cases h; exact ⟨_, _, rfl, hh.1, hh.2, rfl⟩
    · cases h
  · cases h
theorem VE_sub {l sz b o : Nat} {xs : List SVal} (h : VE K l sz (some ⟨b, o, none⟩) 0 xs) (m n : Nat) : VE K l sz (some ⟨b, o + m * sz, none⟩) 0 ((xs.take n).drop m) :=
  VE_iff.2 fun j x hj => by
    rw [List.getElem?_drop, List.getElem?_take] at hj
    split at hj
    · obtain ⟨b', o', v, e1, h1, h2, h3, h4⟩ := VE_iff.1 h (m + j) x hj
      cases e1
      refine ⟨b, o + m * sz, v, rfl, h1, h2, h3, fun q u hq => ?_⟩
      have := h4 q u hq
      rw [Nat.zero_add] at this ⊢
      rw [show o + m * sz + (j * sz + q) = o + ((m + j) * sz + q) by rw [Nat.add_mul]; omega]
      exact this
    · cases hj
theorem VE_nilb {l sz : Nat} {A : Option Addr} {xs : List SVal} (h : VE K l sz A 0 xs) : xs = [] ∨ ∃ b o, A = some ⟨b, o, none⟩ := by
  cases xs with
  | nil => exact .inl rfl
  | cons x xs =>
    obtain ⟨b, o, _, e, _⟩ := VE_iff.1 h 0 x rfl
    exact .inr ⟨b, o, e⟩
theorem sSlice_sound {l t : Nat} {x y : SVal} {lo hi : Option SVal} {v : Value} {lov hiv : Option Value} (h : sSlice (szE P t) x lo hi = some y) (hv : VR K l x v) (ht : isSliceT P t = true) (hz : szE P t ≠ 0)
    (hlo : OVR K l lo lov) (hhi : OVR K l hi hiv) : ∃ v', VR K l y v' ∧ (Instr.sliceAt t v lov hiv none).run P w = .ok v' w := by
  obtain ⟨i, hi'⟩ := szE_spec hz
  have hsz : i.size = szE P t := by simp [szE, szT, hi']
  have hu := isSliceT_spec ht
  unfold sSlice at h
  split at h
  · rename_i sz' full xs
    split at h
    · rename_i hs'
      subst hs'
      obtain ⟨hh, h1, h2⟩ := Option.bind_eq_some_iff.1 h
      obtain ⟨ll, h3, h4⟩ := Option.bind_eq_some_iff.1 h2
      cases h4
      simp only [VR] at hv
      obtain ⟨_, A, cc, rfl, hle, hfu, hve⟩ := hv
      have hhb : hh ≤ xs.length := by
        cases hi with
        | none => cases h1; exact Nat.le_refl _
        | some z => obtain ⟨_, _, _, _, h5, h6⟩ := sBnd_spec h1; omega
      have hlb : ll ≤ hh := by
        cases lo with
        | none => cases h3; exact Nat.zero_le _
        | some z => obtain ⟨_, _, _, _, h5, h6⟩ := sBnd_spec h3; omega
      have hb : (Instr.sliceBounds true xs.length cc lov hiv none).run P w = .ok (ll, hh, cc) w := by
        have hlo2 : ∀ zv, lov = some zv → (Instr.sliceBound zv hh .sliceB).run P w = .ok ll w := fun zv hz => by
          subst hz
          cases lo with
          | none => exact hlo.elim
          | some z =>
            obtain ⟨k, n, rfl, h5, h6, rfl⟩ := sBnd_spec h3
            obtain rfl := VR_int (K := K) (l := l) hlo
            exact run_sliceBound w k n hh _ h5 h6
        have hhi2 : ∀ zv, hiv = some zv → (Instr.sliceBound zv cc .sliceAcap).run P w = .ok hh w := fun zv hz => by
          subst hz
          cases hi with
          | none => exact hhi.elim
          | some z =>
            obtain ⟨k, n, rfl, h5, h6, rfl⟩ := sBnd_spec h1
            obtain rfl := VR_int (K := K) (l := l) hhi
            exact run_sliceBound w k n cc _ h5 (by omega)
        have hlo3 : lov = none → ll = 0 := fun hz => by
          subst hz
          cases lo with
          | none => cases h3; rfl
          | some z => exact hlo.elim
        have hhi3 : hiv = none → hh = xs.length := fun hz => by
          subst hz
          cases hi with
          | none => cases h1; rfl
          | some z => exact hhi.elim
        cases lov <;> cases hiv <;> simp_all [Instr.sliceBounds]
      refine ⟨.slice (if cc = ll then A else A.map (·.add (ll * i.size))) (hh - ll) (cc - ll), ?_, ?_⟩
      · simp only [VR]
        refine ⟨trivial, if cc = ll then A else A.map (·.add (ll * i.size)), cc - ll, by simp [List.length_drop, List.length_take, Nat.min_eq_left hhb], by simp; omega, fun hf => ?_, ?_⟩
        · simp only [Bool.and_eq_true, decide_eq_true_eq] at hf
          have := hfu hf.1
          simp [hf.2, this]
        rcases VE_nilb hve with rfl | ⟨b, o, rfl⟩
        · simp [VE]
        · by_cases hcl : cc = ll
          · have : (xs.take hh).drop ll = [] := List.drop_eq_nil_of_le (by simp; omega)
            rw [this]; simp [VE]
          · rw [if_neg hcl, hsz]
            simp only [Option.map_some, add_at]
            exact VE_sub hve ll hh
      · simp [Instr.sliceAt, Instr.slice, run_underlying hu, hb, sizeOf, typeInfo, hi']
    · cases h
  · cases h
theorem sSlice3_sound {l t : Nat} {x y h m : SVal} {v hv mv : Value} (hh : sSlice3 (szE P t) x h m = some y) (hv' : VR K l x v) (ht : isSliceT P t = true) (hz : szE P t ≠ 0) (h1 : VR K l h hv) (h2 : VR K l m mv) :
    ∃ v', VR K l y v' ∧ (Instr.sliceAt t v none (some hv) (some mv)).run P w = .ok v' w := by
  obtain ⟨i, hi'⟩ := szE_spec hz
  have hu := isSliceT_spec ht
  unfold sSlice3 at hh
  split at hh
  · rename_i sz' full xs
    split at hh
    · rename_i hs'
      obtain ⟨rfl, hmh⟩ := hs'
      obtain ⟨n, k2, hh⟩ := Option.bind_eq_some_iff.1 hh
      cases hh
      rw [k2] at hmh
      obtain ⟨km, im, rfl, m0, m1, em⟩ := sBnd_spec hmh
      obtain ⟨kh, ih, rfl, n0, n1, en⟩ := sBnd_spec k2
      obtain rfl := VR_int h1
      obtain rfl := VR_int h2
      simp only [VR] at hv'
      obtain ⟨_, A, c, rfl, hc, _, hve⟩ := hv'
      have b1 : (Instr.sliceBound (.int km im) c .slice3Acap).run P w = .ok n w := by rw [em]; exact run_sliceBound w km im c _ m0 (by omega)
      have b2 : (Instr.sliceBound (.int kh ih) n .slice3B).run P w = .ok n w := by
        have := run_sliceBound (P := P) w kh ih n .slice3B n0 (by omega)
        rw [this, ← en]
      have hnl : n ≤ xs.length := by omega
      refine ⟨.slice (if n = 0 then A else A.map (·.add (0 * i.size))) (n - 0) (n - 0), ?_, ?_⟩
      · simp only [VR]
        refine ⟨trivial, if n = 0 then A else A.map (·.add (0 * i.size)), n - 0, by simp [Nat.min_eq_left hnl], by simp; omega, fun _ => by simp; omega, ?_⟩
        rcases VE_nilb hve with rfl | ⟨b, o, rfl⟩
        · simp [VE]
        · have := VE_sub hve 0 n
          simp only [Nat.zero_mul, Nat.add_zero, List.drop_zero] at this
          split
          · exact this
          · simpa [Addr.add] using this
      · simp [Instr.sliceAt, Instr.slice, run_underlying hu, Instr.sliceBounds, b1, b2, sizeOf, typeInfo, hi']
    · cases hh
  · cases hh
theorem exec_slice3 {o : Oper} {t : Nat} {x : Operand} {lo hi mx : Option Operand} (ho : o.op = .slice t x lo hi mx) {v : Value} (h : (Instr.sliceAt t (a.eval x) (lo.map a.eval) (hi.map a.eval) (mx.map a.eval)).run P w = .ok v w) : (execOp a.eval o).run P w = .ok (.value v) w := by
  simp [execOp, ho, h]
theorem exec_slice {o : Oper} {t : Nat} {x : Operand} {lo hi : Option Operand} (ho : o.op = .slice t x lo hi none) {v : Value} (h : (Instr.sliceAt t (a.eval x) (lo.map a.eval) (hi.map a.eval) none).run P w = .ok v w) : (execOp a.eval o).run P w = .ok (.value v) w := by
  simp [execOp, ho, h]
theorem optV (hs : Sim c K G ov ds st a w) {lo : Option Operand} {l : List SVal} (h : mapO asV (lo.toList.map (ev P st 0)) = some l) : OVR K c.l l.head? (lo.map a.eval) := by
  cases lo with
  | none => simp [mapO] at h; subst h; simp [OVR]
  | some x =>
    simp only [Option.toList_some, List.map_cons, List.map_nil, mapO, Option.bind_eq_some_iff] at h
    obtain ⟨y, h1, ys, h2, h3⟩ := h
    cases h2; cases h3
    have := ev_sound (P := P) hs 0 x
    cases he : ev P st 0 x with
    | v z => rw [he] at h1 this; cases h1; simpa [OVR] using IR_v this
    | _ => rw [he] at h1; cases h1
theorem OVR.mono {K' : Kt} (hK : K.le K') {l : Nat} {x : Option SVal} {v : Option Value} (h : OVR K l x v) : OVR K' l x v := by
  cases x <;> cases v <;> simp only [OVR] at h ⊢ <;> exact h.mono hK
theorem op_slice (hs : Sim c K G ov ds st a w) {o : Oper} (hd : dstOk c.nt o.dst = true) {id : Nat} {H : Nat → FH} {T : Nat → List SVal → Option Res} {t : Nat} {x : Operand} {lo hi mx : Option Operand} (ho : o.op = .slice t x lo hi mx) {u : Upd}
    (h : opC P H T st id o some = some u) : OpOk P c ov ds st G id o u a w := by
  simp only [opC, ho] at h
  split at h
  · rename_i m
    split at h
    · rename_i hok
      have h1 := ev_sound (P := P) hs t x
      have h3 := ev_sound (P := P) hs 0 m
      split at h
      · rename_i r hv mv hx hhm hm
        have hhm2 : ∃ h0, hi = some h0 ∧ ev P st 0 h0 = .v hv := by
          cases hi with
          | none => cases hhm
          | some h0 => exact ⟨h0, rfl, by simpa using hhm⟩
        obtain ⟨h0, rfl, hh⟩ := hhm2
        have h2 := ev_sound (P := P) hs 0 h0
        rw [hx] at h1; rw [hh] at h2; rw [hm] at h3
        obtain ⟨y, k3, h⟩ := Option.bind_eq_some_iff.1 h
        cases h
        obtain ⟨v', k4, k5⟩ := sSlice3_sound (w := w) k3 (IR_v h1) hok.1 hok.2 (IR_v h2) (IR_v h3)
        exact .pure hs hd (v_IR k4) (exec_slice3 ho k5)
      · cases h
    · cases h
  · split at h
    · rename_i hok
      have h1 := ev_sound (P := P) hs t x
      split at h
      · rename_i r hx
        rw [hx] at h1
        obtain ⟨lo', k1, h⟩ := Option.bind_eq_some_iff.1 h
        obtain ⟨hi', k2, h⟩ := Option.bind_eq_some_iff.1 h
        obtain ⟨y, k3, h⟩ := Option.bind_eq_some_iff.1 h
        cases h
        obtain ⟨v', k4, k5⟩ := sSlice_sound (w := w) k3 (IR_v h1) hok.1 hok.2 (optV hs k1) (optV hs k2)
        exact .pure hs hd (v_IR k4) (exec_slice ho k5)
      · rename_i i ver hx
        rw [hx] at h1
        split at h
        · rename_i ver' sz xs hv hl hlm hhm
          have hlo0 : lo = none := by cases lo with | none => rfl | some _ => cases hlm
          subst hlo0
          have hhm2 : ∃ h0, hi = some h0 ∧ ev P st 0 h0 = .v hv := by
            cases hi with
            | none => cases hhm
            | some h0 => exact ⟨h0, rfl, by simpa using hhm⟩
          obtain ⟨h0, rfl, hh⟩ := hhm2
          · split at h
            · rename_i hc
              obtain ⟨rfl, rfl⟩ := hc
              obtain ⟨n, k1, h⟩ := Option.bind_eq_some_iff.1 h
              cases h
              simp only [IR] at h1
              obtain ⟨_, g, hg, hv1, hval⟩ := h1
              have hval := hval (by simp [hl, Obj.ver?])
              have hor := hs.objs i g hg
              rw [hl] at hor
              obtain ⟨htop, hown⟩ := hor
              have h2 := ev_sound (P := P) hs 0 h0
              rw [hh] at h2
              obtain ⟨k, m, rfl, m0, m1, rfl⟩ := sBnd_spec k1
              have h2 := VR_int (IR_v h2)
              obtain ⟨inf, hi'⟩ := szE_spec hok.2
              have hu := isSliceT_spec hok.1
              have hmin : min m.toNat xs.length = m.toNat := by omega
              have hrun : ∃ A cap v', a.eval x = .slice A xs.length cap ∧ v' = .slice A m.toNat cap ∧ (Instr.sliceAt t (a.eval x) none (some (a.eval h0)) none).run P w = .ok v' w ∧ OwnR K c.l w (szE P t) (xs.take m.toNat) v' g.blk g.bs := by
                obtain ⟨hp, hown⟩ := hown
                rcases hown with ⟨rfl, e2, A, e3⟩ | ⟨e1, arr, t', cap, ecp, e2, e3, e4, e5, e6⟩
                · have hm : m = 0 := by simp at m1; omega
                  subst hm
                  refine ⟨A, 0, _, by rw [hval, e3]; rfl, rfl, ?_, hp, .inl ⟨by simp, e2, A, rfl⟩⟩
                  rw [hval, e3, h2]
                  simp [Instr.sliceAt, Instr.slice, run_underlying hu, Instr.sliceBounds, run_sliceBound, sizeOf, typeInfo, hi']
                · refine ⟨_, cap, _, by rw [hval, e3], rfl, ?_, hp, .inr ⟨e1, arr, t', cap, ecp, e2, by simp [hmin], e4, by simp; omega, fun j x hj => ?_⟩⟩
                  · rw [hval, e3, h2]
                    simp [Instr.sliceAt, Instr.slice, run_underlying hu, Instr.sliceBounds, run_sliceBound w k m cap _ m0 (by omega), sizeOf, typeInfo, hi', add_at]
                  · rw [List.getElem?_take] at hj
                    split at hj
                    · exact e6 j x hj
                    · cases hj
              obtain ⟨A, cap, v', _, _, hr, ho'⟩ := hrun
              refine OpOk.turn hs hd (.inl (by rw [hg]; simp)) (.arr (ver + 1) (szE P t) (xs.take m.toNat)) _ _ ⟨g.blk, g.bs, v', ver + 1⟩ w v' ?_ (SameW.refl _) (fun _ _ _ => rfl) ?_ ?_ ?_ (exec_slice ho hr)
              · intro g0 hg0
                rw [hg] at hg0; cases hg0
                exact ⟨by rw [htop]; exact Nat.le_succ _, fun ver2 hle hv2 => by simp only [Obj.ver?, Option.some.injEq] at hv2; omega⟩
              · intro loc' G' _
                exact ⟨rfl, ho'⟩
              · intro _
                exact ⟨hs.nd i g hg (by simp [hl, Obj.live]), fun b hb => ⟨(hs.own i g hg (by simp [hl, Obj.live]) b hb).1, .inl ⟨g, hg, by simp [hl, Obj.live], hb⟩⟩⟩
              · intro loc' G' _ hG' hl'
                simp only [IR]
                obtain ⟨_, _, hsl, _⟩ : ∃ A c', v' = .slice A (xs.take m.toNat).length c' ∧ True := by
                  obtain ⟨_, ho2⟩ := ho'
                  rcases ho2 with ⟨e0, _, A, e3⟩ | ⟨_, _, _, cap, _, _, e3, _⟩
                  · exact ⟨A, 0, by rw [e3, e0]; rfl, trivial⟩
                  · exact ⟨_, cap, e3, trivial⟩
                exact ⟨by rw [hsl]; rfl, _, hG', Nat.le_refl _, fun _ => rfl⟩
            · cases h
        · rename_i ver' sz xs lv hl hlm hhi0
          have hhi : hi = none := by cases hi with | none => rfl | some _ => cases hhi0
          subst hhi
          have hlm2 : ∃ l, lo = some l ∧ ev P st 0 l = .v lv := by
            cases lo with
            | none => cases hlm
            | some l => exact ⟨l, rfl, by simpa using hlm⟩
          obtain ⟨l, rfl, hlv⟩ := hlm2
          · split at h
            · rename_i hc
              obtain ⟨rfl, rfl⟩ := hc
              obtain ⟨n, k1, h⟩ := Option.bind_eq_some_iff.1 h
              cases h
              simp only [IR] at h1
              obtain ⟨_, g, hg, hv1, hval⟩ := h1
              have hval := hval (by simp [hl, Obj.ver?])
              have hor := hs.objs i g hg
              rw [hl] at hor
              obtain ⟨htop, hown⟩ := hor
              have h2 := ev_sound (P := P) hs 0 l
              rw [hlv] at h2
              obtain ⟨k, m, rfl, m0, m1, rfl⟩ := sBnd_spec k1
              have h2 := VR_int (IR_v h2)
              obtain ⟨inf, hi'⟩ := szE_spec hok.2
              have hsz : inf.size = szE P t := by simp [szE, szT, hi']
              have hu := isSliceT_spec hok.1
              have hsl : ∃ A cap, g.val = .slice A xs.length cap ∧ xs.length ≤ cap := by
                obtain ⟨_, hown⟩ := hown
                rcases hown with ⟨rfl, _, A, e3⟩ | ⟨_, _, _, cap, _, _, e3, _, e5, _⟩
                · exact ⟨A, 0, e3, by simp⟩
                · exact ⟨_, cap, e3, e5⟩
              obtain ⟨A, cap, e3, e5⟩ := hsl
              have hb : (Instr.sliceBound (.int k m) xs.length .sliceB).run P w = .ok m.toNat w := run_sliceBound w k m _ _ m0 (by omega)
              refine .pure hs hd (iv := .lt i ver m.toNat) (v := tailV (szE P t) m.toNat g.val) ?_ (exec_slice ho ?_)
              · simp only [IR]
                refine ⟨by rw [e3]; rfl, g, hg, hv1, fun _ => by simp [hl, Obj.stride]⟩
              · rw [hval, e3]
                simp only [Option.map_some, Option.map_none, h2]
                simp [Instr.sliceAt, Instr.slice, run_underlying hu, Instr.sliceBounds, hb, sizeOf, typeInfo, hi', tailV, hsz]
            · cases h
        · obtain ⟨r, k0, h⟩ := Option.bind_eq_some_iff.1 h
          obtain ⟨lo', k1, h⟩ := Option.bind_eq_some_iff.1 h
          obtain ⟨hi', k2, h⟩ := Option.bind_eq_some_iff.1 h
          obtain ⟨y, k3, h⟩ := Option.bind_eq_some_iff.1 h
          cases h
          have hK := hs.frzK_le r.2
          have hx' := exps_sound hK hs.objs 6 _ r.1 r.2 _ k0 h1 frzK_has
          obtain ⟨v', k4, k5⟩ := sSlice_sound (w := w) k3 hx' hok.1 hok.2 ((optV hs k1).mono hK) ((optV hs k2).mono hK)
          exact .frozen0 hs hd (exps_closed 6 (Nat.le_refl _) _ _ _ k0) k4 (exec_slice ho k5)
      · cases h
    · cases h
end
end Go.Lm
end
section
namespace Go.Lm
section
variable {P : Program} {c : Ctx} {K : Kt} {G : Gt} {ov : List Value} {ds : List Nat} {st : St} {a : Act} {w : World}
theorem evs_sound (hs : Sim c K G ov ds st a w) (ts : Array Nat) (xs : Array Operand) : IRs K c.l st.loc G (evs P st ts xs) (xs.map a.eval).toList := by
  refine IRs.of_get (by simp [evs]) fun j x v h1 h2 => ?_
  simp only [evs, List.getElem?_map, List.getElem?_zipIdx, Option.map_map, Option.map_eq_some_iff, Array.toList_map] at h1 h2
  obtain ⟨y, hy, rfl⟩ := h1
  obtain ⟨y', hy', rfl⟩ := h2
  rw [hy] at hy'; cases hy'
  exact ev_sound hs _ y
theorem IRs.one {l : Nat} {loc : Nat → Obj} {x : IVal} {vs : List Value} (h : IRs K l loc G [x] vs) : ∃ v, vs = [v] ∧ IR K l loc G x v := by
  simp only [IRs] at h
  obtain ⟨v, vt, rfl, h1, rfl⟩ := h
  exact ⟨v, rfl, h1⟩
theorem IRs.two {l : Nat} {loc : Nat → Obj} {x y : IVal} {vs : List Value} (h : IRs K l loc G [x, y] vs) : ∃ v u, vs = [v, u] ∧ IR K l loc G x v ∧ IR K l loc G y u := by
  simp only [IRs] at h
  obtain ⟨v, vt, rfl, h1, u, ut, rfl, h2, rfl⟩ := h
  exact ⟨v, u, rfl, h1, h2⟩
theorem args1 {xs : Array Value} {v : Value} (h : xs.toList = [v]) : xs = #[v] := by
  apply Array.toList_inj.1; simpa using h
theorem args2 {xs : Array Value} {v u : Value} (h : xs.toList = [v, u]) : xs = #[v, u] := by
  apply Array.toList_inj.1; simpa using h
theorem types1 {ts : Array Nat} (h : ts.size = 1) : ts = #[ts.getD 0 0] := by
  apply Array.ext
  · simpa using h
  · intro i h1 h2
    have : i = 0 := by omega
    subst this
    simp [Array.getD, h1]
theorem types2 {ts : Array Nat} (h : ts.size = 2) : ts = #[ts.getD 0 0, ts.getD 1 0] := by
  apply Array.ext
  · simpa using h
  · intro i h1 h2
    have : i = 0 ∨ i = 1 := by omega
    rcases this with rfl | rfl <;> simp [Array.getD, h1]
theorem exec_builtin {o : Oper} {cl : Call} {b : Builtin} (ho : o.op = .call cl) (hc : cl.callee = .builtin b) {n : Next} {w' : World}
    (h : (builtin b cl.argTypes o.type (cl.args.map fun | .const _ => true | _ => false) (cl.args.map a.eval)).run P w = .ok n w') : (execOp a.eval o).run P w = .ok n w' := by
  simp only [execOp, ho, resolve, hc, Sem.run_bind, Sem.run_pure, Result.andThen_ok, invoke]
  exact h
theorem run_len {t n c' : Nat} (ht : isSliceT P t = true) (A : Option Addr) (ty : Nat) : (Builtin.len_ #[t] ty #[.slice A n c']).run P w = .ok (.int .i64 n) w := by
  simp [Builtin.len_, run_underlying (isSliceT_spec ht), goInt]
theorem arrAt_spec (hs : Sim c K G ov ds st a w) {i ver : Nat} {q : Bool × Nat × List SVal} (h : arrAt st.loc i ver = some q) {v : Value} (hv : IR K c.l st.loc G (.la i ver) v) : Elts K c.l w q.2.1 q.2.2 v := by
  simp only [IR] at hv
  obtain ⟨_, g, hg, _, hval⟩ := hv
  have hor := hs.objs i g hg
  unfold arrAt at h
  split at h
  · rename_i ver' sz xs hl
    split at h
    · rename_i hc
      subst hc
      cases h
      rw [hl] at hor
      rw [hval (by simp [hl, Obj.ver?])]
      exact elts_of_own hor.2
    · cases h
  · rename_i ver' sz xs hl
    split at h
    · rename_i hc
      subst hc
      cases h
      rw [hl] at hor
      rw [hval (by simp [hl, Obj.ver?])]
      exact elts_of_VR hs hor.2.2.1
    · cases h
  · cases h
theorem evs_len {ts : Array Nat} {xs : Array Operand} {l : List IVal} (h : evs P st ts xs = l) : xs.size = l.length := by
  subst h; simp [evs]
theorem run_cap {t n c' : Nat} (ht : isSliceT P t = true) (A : Option Addr) (ty : Nat) : (Builtin.cap_ #[t] ty #[.slice A n c']).run P w = .ok (.int .i64 c') w := by
  have := isSliceT_spec ht
  simp [Builtin.cap_, run_underlying this, goInt]
theorem op_cap (hs : Sim c K G ov ds st a w) {o : Oper} (hd : dstOk c.nt o.dst = true) {id : Nat} {H : Nat → FH} {T : Nat → List SVal → Option Res} {cl : Call} (ho : o.op = .call cl) (hc : cl.callee = .builtin .cap) {u : Upd}
    (h : opC P H T st id o some = some u) : OpOk P c ov ds st G id o u a w := by
  simp only [opC, ho, hc] at h
  split at h
  · cases h
  · rename_i hok
    have hsl : isSliceT P (cl.argTypes.getD 0 0) = true ∧ cl.argTypes.size = cl.args.size := by
      by_cases h1 : isSliceT P (cl.argTypes.getD 0 0) = true <;> by_cases h2 : cl.argTypes.size = cl.args.size <;> simp_all
    have he := evs_sound (P := P) hs cl.argTypes cl.args
    split at h
    · rename_i x hx
      rw [hx] at he
      obtain ⟨v, h1, h2⟩ := he.one
      obtain ⟨r, k1, h⟩ := Option.bind_eq_some_iff.1 h
      cases h
      unfold sCap at k1
      split at k1
      · rename_i xs
        cases k1
        have h2 := IR_v h2
        simp only [VR] at h2
        obtain ⟨_, A, cc, rfl, _, hcc, _⟩ := h2
        have hcc := hcc trivial
        subst hcc
        exact .pure hs hd (v := .int .i64 xs.length) (v_IR (by simp [VR])) (exec_builtin (n := .value (.int .i64 xs.length)) ho hc (by
          rw [args1 h1, types1 (hsl.2.trans (by simpa using evs_len hx))]
          simp only [builtin, Sem.run_bind, run_cap hsl.1, Result.andThen_ok, Sem.run_pure]))
      · cases k1
    · cases h
theorem op_len (hs : Sim c K G ov ds st a w) {o : Oper} (hd : dstOk c.nt o.dst = true) {id : Nat} {H : Nat → FH} {T : Nat → List SVal → Option Res} {cl : Call} (ho : o.op = .call cl) (hc : cl.callee = .builtin .len) {u : Upd}
    (h : opC P H T st id o some = some u) : OpOk P c ov ds st G id o u a w := by
  simp only [opC, ho, hc] at h
  split at h
  · cases h
  · rename_i hok
    have hsl : isSliceT P (cl.argTypes.getD 0 0) = true ∧ cl.argTypes.size = cl.args.size := by
      by_cases h1 : isSliceT P (cl.argTypes.getD 0 0) = true <;> by_cases h2 : cl.argTypes.size = cl.args.size <;> simp_all
    have he := evs_sound (P := P) hs cl.argTypes cl.args
    have fin : ∀ {A : Option Addr} {n c' : Nat} {rd : List Nat}, cl.args.size = 1 → (cl.args.map a.eval).toList = [.slice A n c'] → OpOk P c ov ds st G id o { val := .v (.int .i64 n), rd } a w := fun {A n c' rd} h1 h2 =>
      .pure hs hd (v := .int .i64 n) (v_IR (by simp [VR])) (exec_builtin (n := .value (.int .i64 n)) ho hc (by
        rw [args1 h2, types1 (hsl.2.trans h1)]
        simp only [builtin, Sem.run_bind, run_len hsl.1, Result.andThen_ok, Sem.run_pure]))
    split at h
    · rename_i x hx
      rw [hx] at he
      obtain ⟨v, h1, h2⟩ := he.one
      obtain ⟨r, k1, h⟩ := Option.bind_eq_some_iff.1 h
      cases h
      unfold sLen at k1
      split at k1
      · cases k1
        have h2 := IR_v h2
        simp only [VR] at h2
        obtain ⟨_, A, cc, rfl, _⟩ := h2
        exact fin (by simpa using evs_len hx) h1
      · cases k1
    · rename_i i ver hx
      rw [hx] at he
      obtain ⟨v, h1, h2⟩ := he.one
      obtain ⟨q, k1, h⟩ := Option.bind_eq_some_iff.1 h
      cases h
      obtain ⟨A, cc, news, rfl, _⟩ := arrAt_spec hs k1 h2
      exact fin (by simpa using evs_len hx) h1
    · cases h
theorem op_max (hs : Sim c K G ov ds st a w) {o : Oper} (hd : dstOk c.nt o.dst = true) {id : Nat} {H : Nat → FH} {T : Nat → List SVal → Option Res} {cl : Call} (ho : o.op = .call cl) (hc : cl.callee = .builtin .max) {u : Upd}
    (h : opC P H T st id o some = some u) : OpOk P c ov ds st G id o u a w := by
  simp only [opC, ho, hc] at h
  have he := evs_sound (P := P) hs cl.argTypes cl.args
  split at h
  · rename_i x y hx
    rw [hx] at he
    obtain ⟨v1, v2, h1, h2, h3⟩ := he.two
    obtain ⟨r, k1, h⟩ := Option.bind_eq_some_iff.1 h
    cases h
    unfold sMax at k1
    split at k1
    · rename_i k m k' n
      split at k1
      · rename_i hk
        subst hk
        cases k1
        obtain rfl := VR_int (IR_v h2)
        obtain rfl := VR_int (IR_v h3)
        exact .pure hs hd (v := .int k (if m < n then n else m)) (v_IR (by simp [VR])) (exec_builtin (n := .value (.int k (if m < n then n else m))) ho hc (by rw [args2 h1]; simp [builtin, Builtin.max_, Builtin.max2]))
      · cases k1
    · cases k1
  · cases h
theorem op_min (hs : Sim c K G ov ds st a w) {o : Oper} (hd : dstOk c.nt o.dst = true) {id : Nat} {H : Nat → FH} {T : Nat → List SVal → Option Res} {cl : Call} (ho : o.op = .call cl) (hc : cl.callee = .builtin .min) {u : Upd}
    (h : opC P H T st id o some = some u) : OpOk P c ov ds st G id o u a w := by
  simp only [opC, ho, hc] at h
  have he := evs_sound (P := P) hs cl.argTypes cl.args
  split at h
  · rename_i x y hx
    rw [hx] at he
    obtain ⟨v1, v2, h1, h2, h3⟩ := he.two
    obtain ⟨r, k1, h⟩ := Option.bind_eq_some_iff.1 h
    cases h
    unfold sMin at k1
    split at k1
    · rename_i k m k' n
      split at k1
      · rename_i hk
        subst hk
        cases k1
        obtain rfl := VR_int (IR_v h2)
        obtain rfl := VR_int (IR_v h3)
        exact .pure hs hd (v := .int k (if n < m then n else m)) (v_IR (by simp [VR])) (exec_builtin (n := .value (.int k (if n < m then n else m))) ho hc (by rw [args2 h1]; simp [builtin, Builtin.min_, Builtin.min2]))
      · cases k1
    · cases k1
  · cases h
/-- The core of 'append': the row that grows is 's', the elements' source is known. -/
theorem append_core (hs : Sim c K G ov ds st a w) {o : Oper} (hd : dstOk c.nt o.dst = true) {id : Nat} (hfr : G id = none) {cl : Call} (ho : o.op = .call cl) (hc : cl.callee = .builtin .append) {t tx : Nat} (hts : cl.argTypes = #[t, tx])
    {v x : Value} (hargs : cl.args.map a.eval = #[v, x]) {s : IVal} (hv : IR K c.l st.loc G s v) {ys : List SVal} (hx : (isSliceT P tx = true ∧ Elts K c.l w (szE P t) ys x) ∨ (makeOk P t tx = true ∧ (∃ y, s = .v y) ∧ ∃ m : Nat, 0 < m ∧ x = .int .i64 m ∧ ys = List.replicate m (.int .i64 0))) {rd : List Nat} {u : Upd} (h : appendC P st id t s ys rd some = some u) : OpOk P c ov ds st G id o u a w := by
  unfold appendC at h
  split at h
  · cases h
  · rename_i happ
    have happ : appOk P t = true := by simpa using happ
    have exec : ∀ {v' : Value} {w' : World}, (Builtin.append_ #[t, tx] o.type #[v, x]).run P w = .ok v' w' → (execOp a.eval o).run P w = .ok (.value v') w' := fun h => exec_builtin ho hc (by
      rw [hargs, hts]; simp [builtin, h])
    have one : ∀ {xs : List SVal} {v' : Value} {blk : Nat} {bs : List Nat} {l : Nat} {w : World} {sz : Nat}, OwnR K l w sz xs v' blk bs → v'.oneCell' = true := fun h => by
      obtain ⟨_, ho2⟩ := h
      rcases ho2 with ⟨e0, _, A, rfl⟩ | ⟨_, _, _, cap, _, _, rfl, _⟩ <;> rfl
    split at h
    · rename_i i ver
      split at h
      · rename_i ver' sz xs hl
        split at h
        · rename_i hcc
          obtain ⟨rfl, rfl⟩ := hcc
          split at h
          · rename_i hby
            cases h
            simp only [IR] at hv
            obtain ⟨_, g, hg, hv1, hval⟩ := hv
            have hval := hval (by simp [hl, Obj.ver?])
            have hor := hs.objs i g hg
            rw [hl] at hor
            obtain ⟨htop, hown⟩ := hor
            rw [← hval] at hown
            have hlive : (st.loc i).live = true := by simp [hl, Obj.live]
            obtain ⟨htx, hx⟩ := hx.resolve_right fun ⟨_, ⟨_, h⟩, _⟩ => by cases h
            obtain ⟨v', blk', bs', w', r1, r2, r3, r4, r5, r6⟩ := append_run (ty := o.type) happ htx hown hx hby
            refine OpOk.turn hs hd (.inl (by rw [hg]; simp)) _ _ _ ⟨blk', bs', v', ver + 1⟩ w' v' ?_ r3 ?_ ?_ ?_ ?_ (exec r1)
            · intro g0 hg0
              rw [hg] at hg0; cases hg0
              exact ⟨by rw [htop]; exact Nat.le_succ _, fun ver2 hle hv2 => by simp only [Obj.ver?, Option.some.injEq] at hv2; omega⟩
            · exact fun b hb hnb => r4 b hb (hnb g hg hlive)
            · intro loc' G' _
              exact ⟨rfl, r2⟩
            · exact fun _ => ⟨r5, fun b hb => ⟨(r6 b hb).1, (r6 b hb).2.imp (fun h => ⟨g, hg, hlive, h⟩) fun h => h⟩⟩
            · intro loc' G' _ hG' hl'
              simp only [IR]
              exact ⟨one r2, _, hG', Nat.le_refl _, fun _ => rfl⟩
          · cases h
        · cases h
      · cases h
    · rename_i y
      split at h
      · rename_i hnil
        split at h
        · rename_i hby
          cases h
          obtain ⟨A, rfl⟩ : ∃ A, v = .slice A 0 0 := by
            unfold isNilS at hnil
            split at hnil
            · have := IR_v hv
              simp only [VR] at this
              obtain ⟨_, A, cc, rfl, _, h3, _⟩ := this
              exact ⟨A, by rw [h3 trivial]; rfl⟩
            · cases hnil
          have hown : OwnR K c.l w (szE P t) [] (.slice A 0 0) 0 [] := ⟨by obtain ⟨_, _, _, _, _, _, _, hp, _⟩ := appOk_spec happ; exact hp, .inl ⟨rfl, rfl, A, rfl⟩⟩
          obtain ⟨v', blk', bs', w', r1, r2, r3, r4, r5, r6⟩ : ∃ v' blk' bs' w', (Builtin.append_ #[t, tx] o.type #[.slice A 0 0, x]).run P w = .ok v' w' ∧ OwnR K c.l w' (szE P t) ([] ++ ys) v' blk' bs' ∧ SameW w w' ∧ (∀ b, b < w.heap.size → b ∉ ([] : List Nat) → w'.heap[b]? = w.heap[b]?) ∧
              bs'.Nodup ∧ (∀ b ∈ bs', b < w'.heap.size ∧ (b ∈ ([] : List Nat) ∨ w.heap.size ≤ b)) := by
            rcases hx with ⟨htx, hx⟩ | ⟨htx, _, m, hm, rfl, rfl⟩
            · exact append_run (ty := o.type) happ htx hown hx (by simpa using hby)
            · obtain ⟨v', blk', bs', w', r1, r2, r3, r4, r5, r6⟩ := make_run (K := K) (w := w) (l := c.l) (ty := o.type) (A := A) happ htx hm (by simpa using hby)
              exact ⟨v', blk', bs', w', r1, r2, r3, fun b hb _ => r4 b hb, r5, fun b hb => ⟨(r6 b hb).1, .inr (r6 b hb).2⟩⟩
          refine OpOk.turn hs hd (.inr ⟨Nat.le_refl _, by omega⟩) _ _ _ ⟨blk', bs', v', 0⟩ w' v' ?_ r3 ?_ ?_ ?_ ?_ (exec r1)
          · intro g0 hg0
            rw [hfr] at hg0; cases hg0
          · exact fun b hb _ => r4 b hb (by simp)
          · intro loc' G' _
            exact ⟨rfl, by simpa using r2⟩
          · exact fun _ => ⟨r5, fun b hb => ⟨(r6 b hb).1, .inr (by have := (r6 b hb).2; simpa using this)⟩⟩
          · intro loc' G' _ hG' hl'
            simp only [IR]
            exact ⟨one r2, _, hG', Nat.zero_le _, fun _ => rfl⟩
        · cases h
      · cases h
    · cases h
theorem elems_Elts (hs : Sim c K G ov ds st a w) {sz : Nat} {x : SVal} {v : Value} {ys : List SVal} (h : elems sz x = some ys) (hv : VR K c.l x v) : Elts K c.l w sz ys v := by
  unfold elems at h
  split at h
  · rename_i sz' full xs
    split at h
    · rename_i hc
      cases h
      rcases hc with rfl | rfl
      · exact elts_of_VR hs hv
      · simp only [VR] at hv
        obtain ⟨_, A, cc, rfl, h2, _⟩ := hv
        exact ⟨A, cc, [], rfl, h2, ⟨by simp, by simp, by simp⟩, .inl rfl⟩
    · cases h
  · cases h
theorem elemsM_Elts (hs : Sim c K G ov ds st a w) {t tx : Nat} {s : IVal} {x : SVal} {v : Value} {ys : List SVal} (h : elemsM P t tx s x = some ys) (hv : VR K c.l x v) :
    (isSliceT P tx = true ∧ Elts K c.l w (szE P t) ys v) ∨ (makeOk P t tx = true ∧ (∃ y, s = .v y) ∧ ∃ m : Nat, 0 < m ∧ v = .int .i64 m ∧ ys = List.replicate m (.int .i64 0)) := by
  unfold elemsM at h
  split at h
  · rename_i htx
    exact .inl ⟨htx, elems_Elts hs h hv⟩
  · split at h
    · rename_i hmk
      split at h
      · rename_i y n
        split at h
        · split at h
          · rename_i hn
            cases h
            obtain rfl := VR_int hv
            refine .inr ⟨hmk, ⟨_, rfl⟩, n.toNat, by omega, ?_, rfl⟩
            rw [show ((n.toNat : Nat) : Int) = n by omega]
          · cases h
        · cases h
      · cases h
    · cases h
theorem op_append (hs : Sim c K G ov ds st a w) {o : Oper} (hd : dstOk c.nt o.dst = true) {id : Nat} (hfr : G id = none) {H : Nat → FH} {T : Nat → List SVal → Option Res} {cl : Call} (ho : o.op = .call cl) (hc : cl.callee = .builtin .append) {u : Upd}
    (h : opC P H T st id o some = some u) : OpOk P c ov ds st G id o u a w := by
  simp only [opC, ho, hc] at h
  split at h
  · cases h
  · rename_i hok
    have hsl : cl.argTypes.size = cl.args.size := by
      by_cases h2 : cl.argTypes.size = cl.args.size
      · exact h2
      · simp_all
    have he := evs_sound (P := P) hs cl.argTypes cl.args
    split at h
    · rename_i s x hx
      rw [hx] at he
      obtain ⟨v1, v2, h1, h2, h3⟩ := he.two
      have hn : cl.args.size = 2 := by simpa using evs_len hx
      obtain ⟨ys, k1, h⟩ := Option.bind_eq_some_iff.1 h
      exact append_core hs hd hfr ho hc (types2 (hsl.trans hn)) (args2 h1) h2 (elemsM_Elts hs k1 (IR_v h3)) h
    · rename_i s j ver hx
      rw [hx] at he
      obtain ⟨v1, v2, h1, h2, h3⟩ := he.two
      have hn : cl.args.size = 2 := by simpa using evs_len hx
      split at h
      · cases h
      rename_i htx
      have htx : isSliceT P (cl.argTypes.getD 1 0) = true := by simpa using htx
      obtain ⟨q, k1, h⟩ := Option.bind_eq_some_iff.1 h
      split at h
      · rename_i hq
        have hel := arrAt_spec hs k1 h3
        rw [hq] at hel
        have fin : ∀ {rd}, appendC P st id (cl.argTypes.getD 0 0) s q.2.2 rd some = some u → OpOk P c ov ds st G id o u a w := fun h =>
          append_core hs hd hfr ho hc (types2 (hsl.trans hn)) (args2 h1) h2 (.inl ⟨htx, hel⟩) h
        split at h
        · split at h
          · cases h
          · exact fin h
        · exact fin h
      · cases h
    · cases h
end
end Go.Lm
end
