/- A part of the proof. -/
import Derived.Test.YtcdnmiaelaombaaGreatLmAX
import Derived.Deep.AppendSrc
import Derived.Laws.Small
import Derived.Great.BuildSlice
set_option linter.unusedVariables false
set_option linter.unusedSimpArgs false
set_option linter.unnecessarySimpa false
set_option linter.all false
namespace Go.Lm
section
variable {P : Program} {c : Ctx} {K : Kt} {G : Gt} {ov : List Value} {ds : List Nat} {st : St} {a : Act} {w : World}
theorem constI_sound (t : Nat) (v : Value) (l : Nat) (loc : Nat → Obj) : IR K l loc G (constI P t v) v := by
  unfold constI
  split <;> simp [IR, VR, VE]
theorem ev_sound (hs : Sim c K G ov ds st a w) (t : Nat) (x : Operand) : IR K c.l st.loc G (ev P st t x) (a.eval x) := by
  cases x with
  | tmp u => exact hs.slots u
  | const v => exact constI_sound t v _ _
  | global g => simp [ev, IR]
  | func f => simp only [ev, IR, Act.eval]; exact ⟨[], rfl, by simp [IRs]⟩
/-- What an operation comes to. -/
def OpOk (P : Program) (c : Ctx) (ov : List Value) (ds : List Nat) (st : St) (G : Gt) (id : Nat) (o : Oper) (u : Upd) (a : Act) (w : World) : Prop :=
  ∃ v w' K' G', ((execOp a.eval o).run P w = .ok (.value v) w' ∨ ((execOp a.eval o).run P w = .ok .skip w' ∧ v = Go.undef)) ∧
    Sim c K' G' ov ds (st.apply o.dst u) (a.put o.dst v) w' ∧ (∀ i, G' i ≠ none → G i ≠ none ∨ (id ≤ i ∧ i < id + 32))
theorem apply_nil (st : St) (d : Option Nat) (iv : IVal) (rd : List Nat) : st.apply d { val := iv, rd := rd } = st.put d iv := by cases d <;> rfl
theorem OpOk.pure (hs : Sim c K G ov ds st a w) {o : Oper} (hd : dstOk c.nt o.dst = true) {id : Nat} {iv : IVal} {rd : List Nat} {v : Value} (hr : IR K c.l st.loc G iv v)
    (hrun : (execOp a.eval o).run P w = .ok (.value v) w) : OpOk P c ov ds st G id o { val := iv, rd := rd } a w :=
  ⟨v, w, K, G, .inl hrun, by rw [apply_nil]; exact hs.put o.dst iv v hd hr, fun i h => .inl h⟩
theorem VR_int {l : Nat} {k : IntKind} {n : Int} {v : Value} (h : VR K l (.int k n) v) : v = .int k n := by simpa only [VR] using h
theorem VR_bool {l : Nat} {b : Bool} {v : Value} (h : VR K l (.bool b) v) : v = .bool b := by simpa only [VR] using h
theorem IR_v {l : Nat} {loc : Nat → Obj} {x : SVal} {v : Value} (h : IR K l loc G (.v x) v) : VR K l x v := by simpa only [IR] using h
theorem v_IR {l : Nat} {loc : Nat → Obj} {x : SVal} {v : Value} (h : VR K l x v) : IR K l loc G (.v x) v := by simpa only [IR] using h
theorem op_move (hs : Sim c K G ov ds st a w) {o : Oper} (hd : dstOk c.nt o.dst = true) {id : Nat} {x : Operand} (ho : o.op = .move x ∨ o.op = .assign x) :
    OpOk P c ov ds st G id o { val := ev P st o.type x } a w := by
  refine .pure hs hd (ev_sound hs _ x) ?_
  rcases ho with ho | ho <;> simp [execOp, ho]
theorem op_pick (hs : Sim c K G ov ds st a w) {o : Oper} (hd : dstOk c.nt o.dst = true) {id : Nat} {x y z : Operand} (ho : o.op = .pick x y z) {b : Bool} (hx : ev P st o.type x = .v (.bool b)) :
    OpOk P c ov ds st G id o { val := if b = true then ev P st o.type y else ev P st o.type z } a w := by
  have h1 := ev_sound (P := P) hs o.type x
  rw [hx] at h1
  have h2 := VR_bool (IR_v h1)
  refine .pure hs hd (v := if b = true then a.eval y else a.eval z) ?_ ?_
  · cases b <;> simp [ev_sound hs]
  · simp [execOp, ho, h2, asBool]
theorem sBin_sound {l : Nat} {op : BinOp} {x y r : SVal} {v1 v2 : Value} (h : sBin op x y = some r) (h1 : VR K l x v1) (h2 : VR K l y v2) (t : Nat) (X Y : Operand) :
    ∃ v, VR K l r v ∧ (do eqGuard op t X Y v1 v2; binOp op t v1 v2 : Sem Value).run P w = .ok v w := by
  unfold sBin at h
  split at h
  · rename_i k n k' n'
    obtain rfl := VR_int h1
    obtain rfl := VR_int h2
    split at h
    · rename_i hk
      subst hk
      have hg : (eqGuard op t X Y (.int k n) (.int k n')).run P w = .ok () w := by
        cases op <;> simp [eqGuard]
      simp only [Sem.run_bind, hg, Result.andThen_ok]
      have hrem : op = .rem → ∃ v, VR K l r v ∧ (binOp op t (.int k n) (.int k n') : Sem Value).run P w = .ok v w := fun ho => by
        subst ho
        simp only at h
        split at h
        · cases h
        · rename_i hz
          cases h
          exact ⟨.int k (n.tmod n'), by simp only [VR], by simp [binOp, Op.intDiv, hz]⟩
      cases op <;> first | exact hrem rfl | skip
      all_goals
        simp only [Option.some.injEq, reduceCtorEq] at h <;> subst h <;>
        simp [binOp, Op.intArith, Op.intCmp, VR]
      all_goals first | rfl | (by_cases hh : n = n' <;> simp [hh]) | skip
    · cases h
  · cases h
theorem sBinB_sound {l : Nat} {op : BinOp} {x y r : SVal} {v1 v2 : Value} (h : sBinB op x y = some r) (h1 : VR K l x v1) (h2 : VR K l y v2) (t : Nat) (ht : P.underlying t = some .bool) (X Y : Operand) :
    ∃ v, VR K l r v ∧ (do eqGuard op t X Y v1 v2; binOp op t v1 v2 : Sem Value).run P w = .ok v w := by
  unfold sBinB at h
  split at h
  · rename_i b b'
    obtain rfl := VR_bool h1
    obtain rfl := VR_bool h2
    have hg : (eqGuard op t X Y (.bool b) (.bool b')).run P w = .ok () w := by
      cases op <;> simp [eqGuard]
    simp only [Sem.run_bind, hg, Result.andThen_ok]
    cases op <;> simp only [Option.some.injEq, reduceCtorEq] at h
    all_goals subst h
    · exact ⟨.bool (b == b'), by simp [VR], run_eql_bool w t b b' ht⟩
    · exact ⟨.bool (!(b == b')), by simp [VR, bne], run_neq_bool w t b b' ht⟩
  · cases h
theorem intsOf_VRs {l : Nat} : ∀ {xs : List SVal} {ns : List Int} {vs : List Value}, intsOf xs = some ns → VRs K l xs vs → vs = ns.map (.int .i64)
  | [], ns, vs, h, hv => by simp only [intsOf, Option.some.injEq] at h; subst h; simpa [VRs] using hv
  | x :: xs, ns, vs, h, hv => by
    simp only [VRs] at hv
    obtain ⟨v, vt, rfl, h1, h2⟩ := hv
    unfold intsOf at h
    split at h
    · rename_i hx; cases hx
    · rename_i n r hx
      cases hx
      simp only [Option.map_eq_some_iff] at h
      obtain ⟨m, h3, rfl⟩ := h
      rw [VR_int h1, intsOf_VRs h3 h2]
      rfl
    · cases h
end
end Go.Lm
