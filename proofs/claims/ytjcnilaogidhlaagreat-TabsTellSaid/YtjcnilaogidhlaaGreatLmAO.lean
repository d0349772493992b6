/- What the evaluator makes of the functions, by program (wip/tr/resid.py); each equation is checked by the kernel. -/
import Derived.Test.YtjcnilaogidhlaaGreatLmAJ
import Derived.Test.YtjcnilaogidhlaaGreatLmAB
import Derived.KernelRfl
set_option linter.unusedVariables false
set_option linter.unusedSimpArgs false
set_option linter.unnecessarySimpa false
set_option linter.all false
set_option maxRecDepth 100000
namespace Go.Proofs.YtjcnilaogidhlaaGreat.K
open Go Go.Lm
/-- limelight/slots.root -/
def R190 (T : TT) (k : Nat) (x0 x1 : SVal) : Option Res :=
 ((T 158 [(weak x0), x1]).bind fun r1 =>
 (sNot r1.r).bind fun r2 =>
 guardX r2 false
 ((sIdx true 7 x0 x1).bind fun e3 =>
 (sBin .eql (SVal.cell e3 2) (.int .i64 (-1))).bind fun r4 =>
 (asB r4).bind fun b5 =>
 some [b5])
 (some [true])
 (none)).bind fun vs6 =>
 pickC (.bool (vs6.getD 0 false))
 (some { r := (.int .i64 (-1)) })
 ((sIdx true 7 x0 x1).bind fun e7 =>
 (sIdx true 7 x0 (SVal.cell e7 2)).bind fun e8 =>
 some { r := (SVal.cell e8 5) })
theorem r190 (T : TT) (k : Nat) (x0 x1 : SVal) : bodyE P H T k 190 [x0, x1] = R190 T k x0 x1 := by kernel_rfl
noncomputable def D190 (T : TT) (k : Nat) : List SVal → Option Res
  | [x0, x1] => R190 T k x0 x1
  | a => bodyE P H T k 190 a
theorem d190 (T : TT) (k : Nat) (a : List SVal) : D190 T k a = bodyE P H T k 190 a := by
  unfold D190
  split
  · exact (r190 ..).symm
  · rfl
theorem t190 (k : Nat) (x0 x1 : SVal) : T (k + 1) 190 [x0, x1] = R190 (T k) k x0 x1 := (tb k 190 _ rfl).trans (r190 ..)
/-- limelight/slots.name -/
def R191 (T : TT) (k : Nat) (x0 x1 : SVal) : Option Res :=
 (T 55 [(weak x0), x1, (.int .i64 4)]).bind fun r1 =>
 some { r := r1.r.c0 }
theorem r191 (T : TT) (k : Nat) (x0 x1 : SVal) : bodyE P H T k 191 [x0, x1] = R191 T k x0 x1 := by kernel_rfl
noncomputable def D191 (T : TT) (k : Nat) : List SVal → Option Res
  | [x0, x1] => R191 T k x0 x1
  | a => bodyE P H T k 191 a
theorem d191 (T : TT) (k : Nat) (a : List SVal) : D191 T k a = bodyE P H T k 191 a := by
  unfold D191
  split
  · exact (r191 ..).symm
  · rfl
theorem t191 (k : Nat) (x0 x1 : SVal) : T (k + 1) 191 [x0, x1] = R191 (T k) k x0 x1 := (tb k 191 _ rfl).trans (r191 ..)
/-- limelight/slots.within -/
def R192 (T : TT) (k : Nat) (x0 x1 : SVal) : Option Res :=
 if (oneS x0) = true then
 if (oneS x1) = true then
 some { r := (.fn 210 [(.rp [x0]), (.rp [x1])]) }
 else none
 else none
theorem r192 (T : TT) (k : Nat) (x0 x1 : SVal) : bodyE P H T k 192 [x0, x1] = R192 T k x0 x1 := by kernel_rfl
noncomputable def D192 (T : TT) (k : Nat) : List SVal → Option Res
  | [x0, x1] => R192 T k x0 x1
  | a => bodyE P H T k 192 a
theorem d192 (T : TT) (k : Nat) (a : List SVal) : D192 T k a = bodyE P H T k 192 a := by
  unfold D192
  split
  · exact (r192 ..).symm
  · rfl
theorem t192 (k : Nat) (x0 x1 : SVal) : T (k + 1) 192 [x0, x1] = R192 (T k) k x0 x1 := (tb k 192 _ rfl).trans (r192 ..)
/-- slices.IndexFunc[[]func() bool,func() bool] -/
def R193 (T : TT) (k : Nat) (x0 x1 : SVal) : Option Res :=
 (sLen x0).bind fun r1 =>
 loopN (fun s2 next2 =>
 (sBin .lss s2.k3 s2.k2).bind fun r3 =>
 pickC r3
 ((sIdx false 1 s2.k0 s2.k3).bind fun e4 =>
 (callV H T s2.k1 [e4]).bind fun y5 =>
 pickC y5
 (some { r := s2.k3 })
 ((sBin .add s2.k3 (.int .i64 1)).bind fun r6 =>
 next2 ⟨[(weak s2.k0), s2.k1, s2.k2, r6], [], false⟩))
 (some { r := (.int .i64 (-1)) })) k ⟨[(weak x0), x1, r1, (.int .i64 0)], [], false⟩
theorem r193 (T : TT) (k : Nat) (x0 x1 : SVal) : bodyE P H T k 193 [x0, x1] = R193 T k x0 x1 := by kernel_rfl
noncomputable def D193 (T : TT) (k : Nat) : List SVal → Option Res
  | [x0, x1] => R193 T k x0 x1
  | a => bodyE P H T k 193 a
theorem d193 (T : TT) (k : Nat) (a : List SVal) : D193 T k a = bodyE P H T k 193 a := by
  unfold D193
  split
  · exact (r193 ..).symm
  · rfl
theorem t193 (k : Nat) (x0 x1 : SVal) : T (k + 1) 193 [x0, x1] = R193 (T k) k x0 x1 := (tb k 193 _ rfl).trans (r193 ..)
/-- limelight/render.Is -/
def R194 (T : TT) (k : Nat) (x0a x0b x0c x0d x0e x1 : SVal) : Option Res :=
 ((T 212 [(.agg [(weak x0a), (weak x0b), (weak x0c), (weak x0d), (weak x0e)]), x1]).bind fun r1 =>
 (sNot r1.r).bind fun r2 =>
 guardX r2 false
 ((T 213 [(weak x0a), x1]).bind fun r3 =>
 (sNot r3.r).bind fun r4 =>
 (asB r4).bind fun b5 =>
 some [b5])
 (some [true])
 (none)).bind fun vs6 =>
 pickC (.bool (vs6.getD 0 false))
 (some { r := (.bool false) })
 ((T 52 [(weak x0a), x1]).bind fun r7 =>
 (T 187 [(weak r7.r), (.fn 214 [(.rp [x0a, x0b, x0c, x0d, x0e])])]).bind fun r8 =>
 (sNot r8.r).bind fun r9 =>
 some { r := r9 })
theorem r194 (T : TT) (k : Nat) (x0a x0b x0c x0d x0e x1 : SVal) : bodyE P H T k 194 [(.agg [x0a, x0b, x0c, x0d, x0e]), x1] = R194 T k x0a x0b x0c x0d x0e x1 := by kernel_rfl
noncomputable def D194 (T : TT) (k : Nat) : List SVal → Option Res
  | [(.agg [x0a, x0b, x0c, x0d, x0e]), x1] => R194 T k x0a x0b x0c x0d x0e x1
  | a => bodyE P H T k 194 a
theorem d194 (T : TT) (k : Nat) (a : List SVal) : D194 T k a = bodyE P H T k 194 a := by
  unfold D194
  split
  · exact (r194 ..).symm
  · rfl
theorem t194 (k : Nat) (x0a x0b x0c x0d x0e x1 : SVal) : T (k + 1) 194 [(.agg [x0a, x0b, x0c, x0d, x0e]), x1] = R194 (T k) k x0a x0b x0c x0d x0e x1 := (tb k 194 _ rfl).trans (r194 ..)
/-- limelight/inert.Is -/
def R195 (T : TT) (k : Nat) (x0a x0b x0c x0d x0e x1 : SVal) : Option Res :=
 ((T 216 [(.agg [(weak x0a), (weak x0b), (weak x0c), (weak x0d), (weak x0e)]), x1]).bind fun r1 =>
 guardX r1.r true
 ((T 217 [(.agg [(weak x0a), (weak x0b), (weak x0c), (weak x0d), (weak x0e)]), x1]).bind fun r2 =>
 guardX r2.r false
 ((T 218 [(.agg [(weak x0a), (weak x0b), (weak x0c), (weak x0d), (weak x0e)]), x1]).bind fun r3 =>
 (asB r3.r).bind fun b4 =>
 some [b4])
 (some [true])
 (none))
 (some [false])
 (none)).bind fun vs5 =>
 some { r := (.bool (vs5.getD 0 false)) }
theorem r195 (T : TT) (k : Nat) (x0a x0b x0c x0d x0e x1 : SVal) : bodyE P H T k 195 [(.agg [x0a, x0b, x0c, x0d, x0e]), x1] = R195 T k x0a x0b x0c x0d x0e x1 := by kernel_rfl
noncomputable def D195 (T : TT) (k : Nat) : List SVal → Option Res
  | [(.agg [x0a, x0b, x0c, x0d, x0e]), x1] => R195 T k x0a x0b x0c x0d x0e x1
  | a => bodyE P H T k 195 a
theorem d195 (T : TT) (k : Nat) (a : List SVal) : D195 T k a = bodyE P H T k 195 a := by
  unfold D195
  split
  · exact (r195 ..).symm
  · rfl
theorem t195 (k : Nat) (x0a x0b x0c x0d x0e x1 : SVal) : T (k + 1) 195 [(.agg [x0a, x0b, x0c, x0d, x0e]), x1] = R195 (T k) k x0a x0b x0c x0d x0e x1 := (tb k 195 _ rfl).trans (r195 ..)
/-- slices.swapRangeCmpFunc[int] -/
def R196 (T : TT) (k : Nat) (x0 : List SVal) (x1 x2 x3 x4 : SVal) : Option Res :=
 loopN (fun s1 next1 =>
 (sBin .lss s1.k4 s1.k3).bind fun r2 =>
 pickC r2
 ((sBin .add s1.k1 s1.k4).bind fun r3 =>
 (sBin .add s1.k2 s1.k4).bind fun r4 =>
 (sBin .add s1.k2 s1.k4).bind fun r5 =>
 (sIn s1.k0.xs.length r5).bind fun j6 =>
 (s1.k0.xs[j6]?).bind fun e7 =>
 if (elemOk false 1 e7) = true then
 (sBin .add s1.k1 s1.k4).bind fun r8 =>
 (sIn s1.k0.xs.length r8).bind fun j9 =>
 (s1.k0.xs[j9]?).bind fun e10 =>
 if (elemOk false 1 e10) = true then
 (sIn s1.k0.xs.length r3).bind fun j11 =>
 (s1.k0.xs[j11]?).bind fun e12 =>
 if (elemOk false 1 e12) = true then
 if (oneS e7) = true then
 (sIn (s1.k0.xs.set j11 e7).length r4).bind fun j13 =>
 ((s1.k0.xs.set j11 e7)[j13]?).bind fun e14 =>
 if (elemOk false 1 e14) = true then
 if (oneS e10) = true then
 (sBin .add s1.k4 (.int .i64 1)).bind fun r15 =>
 next1 ⟨[(.sl 1 true false ((s1.k0.xs.set j11 e7).set j13 e10)), s1.k1, s1.k2, s1.k3, r15], [], false⟩
 else none
 else none
 else none
 else none
 else none
 else none)
 (some { r := (.tup []), outs := [(.sl 1 true false s1.k0.xs)] })) k ⟨[(.sl 1 true false x0), x1, x2, x3, (.int .i64 0)], [], false⟩
theorem r196 (T : TT) (k : Nat) (x0 : List SVal) (x1 x2 x3 x4 : SVal) : bodyE P H T k 196 [(.sl 1 true false x0), x1, x2, x3, x4] = R196 T k x0 x1 x2 x3 x4 := by kernel_rfl
noncomputable def D196 (T : TT) (k : Nat) : List SVal → Option Res
  | [(.sl 1 true false x0), x1, x2, x3, x4] => R196 T k x0 x1 x2 x3 x4
  | a => bodyE P H T k 196 a
theorem d196 (T : TT) (k : Nat) (a : List SVal) : D196 T k a = bodyE P H T k 196 a := by
  unfold D196
  split
  · exact (r196 ..).symm
  · rfl
theorem t196 (k : Nat) (x0 : List SVal) (x1 x2 x3 x4 : SVal) : T (k + 1) 196 [(.sl 1 true false x0), x1, x2, x3, x4] = R196 (T k) k x0 x1 x2 x3 x4 := (tb k 196 _ rfl).trans (r196 ..)
/-- limelight/limelightref04.Up -/
def R197 (T : TT) (k : Nat) (x0 x1 : SVal) : Option Res :=
 loopN (fun s1 next1 =>
 (sBin .neq s1.k1 (.int .i64 (-1))).bind fun r2 =>
 pickC r2
 (if (List.all [[.v s1.k1]] allOne) = true then
 if (s1.k2.xs.length + ([s1.k1] : List SVal).length) * 8 ≤ maxAppend then
 (T 129 [(weak s1.k0), s1.k1]).bind fun r3 =>
 next1 ⟨[(weak s1.k0), r3.r, (.sl 1 true false (s1.k2.xs ++ ([s1.k1] : List SVal)))], [], false⟩
 else none
 else none)
 (some { r := (.sl 1 false false s1.k2.xs) })) k ⟨[(weak x0), x1, (.sl 1 true false [])], [], false⟩
theorem r197 (T : TT) (k : Nat) (x0 x1 : SVal) : bodyE P H T k 197 [x0, x1] = R197 T k x0 x1 := by kernel_rfl
theorem t197 (k : Nat) (x0 x1 : SVal) : T (k + 1) 197 [x0, x1] = R197 (T k) k x0 x1 := (tb k 197 _ rfl).trans (r197 ..)
/-- limelight/limelightref05.All -/
def R198 (T : TT) (k : Nat) (x0 x1 : SVal) : Option Res :=
 (sIdx true 7 x0 x1).bind fun e1 =>
 (sBin .neq (SVal.cell e1 0) (.int .i64 3)).bind fun r2 =>
 pickC r2
 (some { r := (.sl 1 false false []) })
 ((T 219 [(weak x0), x1]).bind fun r3 =>
 loopN (fun s4 next4 =>
 (sLen s4.k2).bind fun r5 =>
 (sBin .lss s4.k3 r5).bind fun r6 =>
 pickC r6
 ((sIdx false 1 s4.k2 s4.k3).bind fun e7 =>
 (T 64 [(weak s4.k0), e7]).bind fun r8 =>
 pickC r8.r
 ((sIdx false 1 s4.k2 s4.k3).bind fun e9 =>
 if (List.all [[.v e9]] allOne) = true then
 if (s4.k1.xs.length + ([e9] : List SVal).length) * 8 ≤ maxAppend then
 (sBin .add s4.k3 (.int .i64 1)).bind fun r10 =>
 next4 ⟨[(weak s4.k0), (.sl 1 true false (s4.k1.xs ++ ([e9] : List SVal))), (weak s4.k2), r10], [], false⟩
 else none
 else none)
 ((sBin .add s4.k3 (.int .i64 1)).bind fun r11 =>
 next4 ⟨[(weak s4.k0), (.sl 1 true false s4.k1.xs), (weak s4.k2), r11], [], false⟩))
 (some { r := (.sl 1 false false s4.k1.xs) })) k ⟨[(weak x0), (.sl 1 true false []), (weak r3.r), (.int .i64 0)], [], false⟩)
theorem r198 (T : TT) (k : Nat) (x0 x1 : SVal) : bodyE P H T k 198 [x0, x1] = R198 T k x0 x1 := by kernel_rfl
theorem t198 (k : Nat) (x0 x1 : SVal) : T (k + 1) 198 [x0, x1] = R198 (T k) k x0 x1 := (tb k 198 _ rfl).trans (r198 ..)
/-- limelight/limelightref05.name -/
def R199 (T : TT) (k : Nat) (x0 x1 : SVal) : Option Res :=
 (T 60 [(weak x0), x1, (.int .i64 4)]).bind fun r1 =>
 some { r := r1.r.c0 }
theorem r199 (T : TT) (k : Nat) (x0 x1 : SVal) : bodyE P H T k 199 [x0, x1] = R199 T k x0 x1 := by kernel_rfl
theorem t199 (k : Nat) (x0 x1 : SVal) : T (k + 1) 199 [x0, x1] = R199 (T k) k x0 x1 := (tb k 199 _ rfl).trans (r199 ..)
/-- limelight/tree.is -/
def R200 (T : TT) (k : Nat) (x0 x1 : SVal) : Option Res :=
 (sLen x0).bind fun r1 =>
 (sBin .sub r1 (.int .i64 1)).bind fun r2 =>
 (T 176 [x1, (.int .i64 0), r2]).bind fun r3 =>
 some { r := r3.r }
theorem r200 (T : TT) (k : Nat) (x0 x1 : SVal) : bodyE P H T k 200 [x0, x1] = R200 T k x0 x1 := by kernel_rfl
noncomputable def D200 (T : TT) (k : Nat) : List SVal → Option Res
  | [x0, x1] => R200 T k x0 x1
  | a => bodyE P H T k 200 a
theorem d200 (T : TT) (k : Nat) (a : List SVal) : D200 T k a = bodyE P H T k 200 a := by
  unfold D200
  split
  · exact (r200 ..).symm
  · rfl
theorem t200 (k : Nat) (x0 x1 : SVal) : T (k + 1) 200 [x0, x1] = R200 (T k) k x0 x1 := (tb k 200 _ rfl).trans (r200 ..)
/-- limelight/tree.once -/
def R201 (T : TT) (k : Nat) (x0 x1 : SVal) : Option Res :=
 (T 112 [(weak x0), x1]).bind fun r1 =>
 ((sBin .geq r1.r (.int .i64 0)).bind fun r2 =>
 guardX r2 true
 ((sBin .add r1.r (.int .i64 1)).bind fun r3 =>
 (sSlice 1 x0 (some r3) none).bind fun r4 =>
 (T 70 [(weak r4), x1]).bind fun r5 =>
 (sNot r5.r).bind fun r6 =>
 (asB r6).bind fun b7 =>
 some [b7])
 (some [false])
 (none)).bind fun vs8 =>
 some { r := (.bool (vs8.getD 0 false)) }
theorem r201 (T : TT) (k : Nat) (x0 x1 : SVal) : bodyE P H T k 201 [x0, x1] = R201 T k x0 x1 := by kernel_rfl
noncomputable def D201 (T : TT) (k : Nat) : List SVal → Option Res
  | [x0, x1] => R201 T k x0 x1
  | a => bodyE P H T k 201 a
theorem d201 (T : TT) (k : Nat) (a : List SVal) : D201 T k a = bodyE P H T k 201 a := by
  unfold D201
  split
  · exact (r201 ..).symm
  · rfl
theorem t201 (k : Nat) (x0 x1 : SVal) : T (k + 1) 201 [x0, x1] = R201 (T k) k x0 x1 := (tb k 201 _ rfl).trans (r201 ..)
/-- limelight/tree.attrs -/
def R202 (T : TT) (k : Nat) (x0a x0b x0c x0d x0e x0f x0g : SVal) : Option Res :=
 (sLen x0g).bind fun r1 =>
 loopN (fun s2 next2 =>
 (sBin .lss s2.k4 s2.k3).bind fun r3 =>
 pickC r3
 ((sIdx true 2 s2.k2 s2.k4).bind fun e4 =>
 if (allOne [.v (SVal.cell e4 0), .v (SVal.cell e4 1)]) = true then
 ((sBin .eql (SVal.cell e4 0) (.int .i64 7)).bind fun r5 =>
 guardX r5 false
 ((sBin .eql (SVal.cell e4 0) (.int .i64 8)).bind fun r6 =>
 (asB r6).bind fun b7 =>
 some [b7])
 (some [true])
 (none)).bind fun vs8 =>
 ((sBin .leq (SVal.cell e4 0) s2.k1).bind fun r9 =>
 guardX r9 false
 ((sBin .geq (SVal.cell e4 0) (.int .i64 10)).bind fun r10 =>
 guardX r10 false
 ((T 220 [(.agg [(SVal.cell e4 0), (SVal.cell e4 1)])]).bind fun r11 =>
 (sNot r11.r).bind fun r12 =>
 guardX r12 false
 ((sBin .eql (SVal.cell s2.k0 0) (.int .i64 3)).bind fun r13 =>
 (sBinB .neq (.bool (vs8.getD 0 false)) r13).bind fun r14 =>
 (asB r14).bind fun b15 =>
 some [b15])
 (some [true])
 (none))
 (some [true])
 (none))
 (some [true])
 (none)).bind fun vs16 =>
 pickC (.bool (vs16.getD 0 false))
 (some { r := (.bool false) })
 ((sBin .add s2.k4 (.int .i64 1)).bind fun r17 =>
 next2 ⟨[(.rp [(SVal.cell s2.k0 0), (SVal.cell s2.k0 1), (SVal.cell s2.k0 2), (SVal.cell s2.k0 3), (SVal.cell s2.k0 4), (SVal.cell s2.k0 5), (SVal.cell s2.k0 6)]), (SVal.cell e4 0), (weak s2.k2), s2.k3, r17], [], false⟩)
 else none)
 (((sLen (SVal.cell s2.k0 6)).bind fun r18 =>
 (sBin .eql r18 (.int .i64 0)).bind fun r19 =>
 guardX r19 false
 ((sBin .eql (SVal.cell s2.k0 0) (.int .i64 1)).bind fun r20 =>
 guardX r20 false
 ((sBin .eql (SVal.cell s2.k0 0) (.int .i64 3)).bind fun r21 =>
 (asB r21).bind fun b22 =>
 some [b22])
 (some [true])
 (none))
 (some [true])
 (none)).bind fun vs23 =>
 some { r := (.bool (vs23.getD 0 false)) })) k ⟨[(.rp [x0a, x0b, x0c, x0d, x0e, x0f, x0g]), (.int .i64 (-1)), (weak x0g), r1, (.int .i64 0)], [], false⟩
theorem r202 (T : TT) (k : Nat) (x0a x0b x0c x0d x0e x0f x0g : SVal) : bodyE P H T k 202 [(.agg [x0a, x0b, x0c, x0d, x0e, x0f, x0g])] = R202 T k x0a x0b x0c x0d x0e x0f x0g := by kernel_rfl
noncomputable def D202 (T : TT) (k : Nat) : List SVal → Option Res
  | [(.agg [x0a, x0b, x0c, x0d, x0e, x0f, x0g])] => R202 T k x0a x0b x0c x0d x0e x0f x0g
  | a => bodyE P H T k 202 a
theorem d202 (T : TT) (k : Nat) (a : List SVal) : D202 T k a = bodyE P H T k 202 a := by
  unfold D202
  split
  · exact (r202 ..).symm
  · rfl
theorem t202 (k : Nat) (x0a x0b x0c x0d x0e x0f x0g : SVal) : T (k + 1) 202 [(.agg [x0a, x0b, x0c, x0d, x0e, x0f, x0g])] = R202 (T k) k x0a x0b x0c x0d x0e x0f x0g := (tb k 202 _ rfl).trans (r202 ..)
/-- limelight/tree.shadow -/
def R203 (T : TT) (k : Nat) (x0 x1 : SVal) : Option Res :=
 (sIdx true 7 x0 x1).bind fun e1 =>
 if (allOne [.v (SVal.cell e1 0), .v (SVal.cell e1 1), .v (SVal.cell e1 2), .v (SVal.cell e1 3), .v (SVal.cell e1 4), .v (SVal.cell e1 5), .v (SVal.cell e1 6)]) = true then
 (sBin .eql (SVal.cell e1 0) (.int .i64 3)).bind fun r2 =>
 pickC r2
 (((sBin .eql (SVal.cell e1 5) (.int .i64 (-1))).bind fun r3 =>
 guardX r3 true
 ((sBin .eql (SVal.cell e1 2) (.int .i64 (-1))).bind fun r4 =>
 guardX r4 true
 ((T 200 [(weak x0), (SVal.cell e1 4)]).bind fun r5 =>
 guardX r5.r true
 ((sIdx true 7 x0 (SVal.cell e1 4)).bind fun e6 =>
 (sBin .eql (SVal.cell e6 0) (.int .i64 1)).bind fun r7 =>
 guardX r7 true
 ((sIdx true 7 x0 (SVal.cell e1 4)).bind fun e8 =>
 (sBin .eql (SVal.cell e8 5) x1).bind fun r9 =>
 (asB r9).bind fun b10 =>
 some [b10])
 (some [false])
 (none))
 (some [false])
 (none))
 (some [false])
 (none))
 (some [false])
 (none)).bind fun vs11 =>
 some { r := (.bool (vs11.getD 0 false)) })
 ((sBin .neq (SVal.cell e1 4) (.int .i64 (-1))).bind fun r12 =>
 pickC r12
 (some { r := (.bool false) })
 ((sBin .eql (SVal.cell e1 5) (.int .i64 (-1))).bind fun r13 =>
 pickC r13
 (some { r := (.bool true) })
 (((sBin .eql (SVal.cell e1 0) (.int .i64 1)).bind fun r14 =>
 guardX r14 true
 ((T 200 [(weak x0), (SVal.cell e1 5)]).bind fun r15 =>
 guardX r15.r true
 ((sIdx true 7 x0 (SVal.cell e1 5)).bind fun e16 =>
 (sBin .eql (SVal.cell e16 0) (.int .i64 3)).bind fun r17 =>
 guardX r17 true
 ((sIdx true 7 x0 (SVal.cell e1 5)).bind fun e18 =>
 (sBin .eql (SVal.cell e18 4) x1).bind fun r19 =>
 (asB r19).bind fun b20 =>
 some [b20])
 (some [false])
 (none))
 (some [false])
 (none))
 (some [false])
 (none)).bind fun vs21 =>
 some { r := (.bool (vs21.getD 0 false)) })))
 else none
theorem r203 (T : TT) (k : Nat) (x0 x1 : SVal) : bodyE P H T k 203 [x0, x1] = R203 T k x0 x1 := by kernel_rfl
noncomputable def D203 (T : TT) (k : Nat) : List SVal → Option Res
  | [x0, x1] => R203 T k x0 x1
  | a => bodyE P H T k 203 a
theorem d203 (T : TT) (k : Nat) (a : List SVal) : D203 T k a = bodyE P H T k 203 a := by
  unfold D203
  split
  · exact (r203 ..).symm
  · rfl
theorem t203 (k : Nat) (x0 x1 : SVal) : T (k + 1) 203 [x0, x1] = R203 (T k) k x0 x1 := (tb k 203 _ rfl).trans (r203 ..)
/-- limelight/tree.node$1 -/
def R204 (T : TT) (k : Nat) (x0 x1 x2 : SVal) : Option Res :=
 (T 205 [(weak x1), x2, x0]).bind fun r1 =>
 (sNot r1.r).bind fun r2 =>
 some { r := r2 }
theorem r204 (T : TT) (k : Nat) (x0 x1 x2 : SVal) : bodyE P H T k 204 [x0, (.rp [x1]), (.rp [x2])] = R204 T k x0 x1 x2 := by kernel_rfl
noncomputable def D204 (T : TT) (k : Nat) : List SVal → Option Res
  | [x0, (.rp [x1]), (.rp [x2])] => R204 T k x0 x1 x2
  | a => bodyE P H T k 204 a
theorem d204 (T : TT) (k : Nat) (a : List SVal) : D204 T k a = bodyE P H T k 204 a := by
  unfold D204
  split
  · exact (r204 ..).symm
  · rfl
theorem t204 (k : Nat) (x0 x1 x2 : SVal) : T (k + 1) 204 [x0, (.rp [x1]), (.rp [x2])] = R204 (T k) k x0 x1 x2 := (tb k 204 _ rfl).trans (r204 ..)
/-- limelight/tree.below -/
def R205 (T : TT) (k : Nat) (x0 x1 x2 : SVal) : Option Res :=
 ((T 200 [(weak x0), x2]).bind fun r1 =>
 guardX r1.r true
 ((sIdx true 7 x0 x1).bind fun e2 =>
 (T 201 [(weak (SVal.cell e2 3)), x2]).bind fun r3 =>
 guardX r3.r true
 ((sIdx true 7 x0 x2).bind fun e4 =>
 (sBin .eql (SVal.cell e4 2) x1).bind fun r5 =>
 guardX r5 true
 ((sIdx true 7 x0 x2).bind fun e6 =>
 (sBin .eql (SVal.cell e6 0) (.int .i64 1)).bind fun r7 =>
 guardX r7 false
 ((sIdx true 7 x0 x2).bind fun e8 =>
 (sBin .eql (SVal.cell e8 0) (.int .i64 2)).bind fun r9 =>
 (asB r9).bind fun b10 =>
 some [b10])
 (some [true])
 (none))
 (some [false])
 (none))
 (some [false])
 (none))
 (some [false])
 (none)).bind fun vs11 =>
 some { r := (.bool (vs11.getD 0 false)) }
theorem r205 (T : TT) (k : Nat) (x0 x1 x2 : SVal) : bodyE P H T k 205 [x0, x1, x2] = R205 T k x0 x1 x2 := by kernel_rfl
noncomputable def D205 (T : TT) (k : Nat) : List SVal → Option Res
  | [x0, x1, x2] => R205 T k x0 x1 x2
  | a => bodyE P H T k 205 a
theorem d205 (T : TT) (k : Nat) (a : List SVal) : D205 T k a = bodyE P H T k 205 a := by
  unfold D205
  split
  · exact (r205 ..).symm
  · rfl
theorem t205 (k : Nat) (x0 x1 x2 : SVal) : T (k + 1) 205 [x0, x1, x2] = R205 (T k) k x0 x1 x2 := (tb k 205 _ rfl).trans (r205 ..)
/-- limelight/tree.up -/
def R206 (T : TT) (k : Nat) (x0 x1 : SVal) : Option Res :=
 if (oneS x0) = true then
 if (oneS x1) = true then
 some { r := (.fn 221 [(.rp [x0]), (.mb [x1])]) }
 else none
 else none
theorem r206 (T : TT) (k : Nat) (x0 x1 : SVal) : bodyE P H T k 206 [x0, x1] = R206 T k x0 x1 := by kernel_rfl
noncomputable def D206 (T : TT) (k : Nat) : List SVal → Option Res
  | [x0, x1] => R206 T k x0 x1
  | a => bodyE P H T k 206 a
theorem d206 (T : TT) (k : Nat) (a : List SVal) : D206 T k a = bodyE P H T k 206 a := by
  unfold D206
  split
  · exact (r206 ..).symm
  · rfl
theorem t206 (k : Nat) (x0 x1 : SVal) : T (k + 1) 206 [x0, x1] = R206 (T k) k x0 x1 := (tb k 206 _ rfl).trans (r206 ..)
/-- limelight/shade.Connected -/
def R207 (T : TT) (k : Nat) (x0 x1 : SVal) : Option Res :=
 (T 222 [(weak x0), (.int .i64 0), x1]).bind fun r1 =>
 some { r := r1.r }
theorem r207 (T : TT) (k : Nat) (x0 x1 : SVal) : bodyE P H T k 207 [x0, x1] = R207 T k x0 x1 := by kernel_rfl
noncomputable def D207 (T : TT) (k : Nat) : List SVal → Option Res
  | [x0, x1] => R207 T k x0 x1
  | a => bodyE P H T k 207 a
theorem d207 (T : TT) (k : Nat) (a : List SVal) : D207 T k a = bodyE P H T k 207 a := by
  unfold D207
  split
  · exact (r207 ..).symm
  · rfl
theorem t207 (k : Nat) (x0 x1 : SVal) : T (k + 1) 207 [x0, x1] = R207 (T k) k x0 x1 := (tb k 207 _ rfl).trans (r207 ..)
/-- limelight/slots.within$1 -/
def R210 (T : TT) (k : Nat) (x1 x2 : SVal) : Option Res :=
 (T 211 [(weak x1), x2]).bind fun r1 =>
 (sLen r1.r).bind fun r2 =>
 loopN (fun s3 next3 =>
 (sBin .lss s3.k4 s3.k3).bind fun r4 =>
 pickC r4
 ((sIdx false 1 s3.k2 s3.k4).bind fun e5 =>
 (T 159 [(weak (SVal.cell s3.k1 0)), e5]).bind fun r6 =>
 guardX r6.r true
 (if (s3.stop) = true then none else
 (notTup e5).bind fun y7 =>
 both
 ((sBin .add s3.k4 (.int .i64 1)).bind fun r8 =>
 next3 ⟨[.yld, (.rp [(SVal.cell s3.k1 0)]), (weak s3.k2), s3.k3, r8], (s3.out ++ [y7]), s3.stop⟩)
 (some { r := (.tup []) }))
 ((sBin .add s3.k4 (.int .i64 1)).bind fun r9 =>
 next3 ⟨[.yld, (.rp [(SVal.cell s3.k1 0)]), (weak s3.k2), s3.k3, r9], s3.out, s3.stop⟩)
 (none))
 (if (s3.stop) = true then
 some { r := (.tup []) }
 else
 some { r := (.tup []), out := s3.out })) k ⟨[.yld, (.rp [x1]), (weak r1.r), r2, (.int .i64 0)], [], false⟩
theorem r210 (T : TT) (k : Nat) (x1 x2 : SVal) : bodyE P H T k 210 [.yld, (.rp [x1]), (.rp [x2])] = R210 T k x1 x2 := by kernel_rfl
noncomputable def D210 (T : TT) (k : Nat) : List SVal → Option Res
  | [.yld, (.rp [x1]), (.rp [x2])] => R210 T k x1 x2
  | a => bodyE P H T k 210 a
theorem d210 (T : TT) (k : Nat) (a : List SVal) : D210 T k a = bodyE P H T k 210 a := by
  unfold D210
  split
  · exact (r210 ..).symm
  · rfl
theorem t210 (k : Nat) (x1 x2 : SVal) : T (k + 1) 210 [.yld, (.rp [x1]), (.rp [x2])] = R210 (T k) k x1 x2 := (tb k 210 _ rfl).trans (r210 ..)
/-- limelight/order.List -/
def R211 (T : TT) (k : Nat) (x0 x1 : SVal) : Option Res :=
 if (List.all [[.v x1]] allOne) = true then
 (T 156 [(weak x0), (.sl 1 false false [x1])]).bind fun r1 =>
 (sNot r1.r).bind fun r2 =>
 pickC r2
 (some { r := (.sl 1 false false []) })
 ((T 234 [(weak x0), x1]).bind fun r3 =>
 (T 66 [r3.r]).bind fun r4 =>
 some { r := (.sl 1 false false r4.r.xs) })
 else none
theorem r211 (T : TT) (k : Nat) (x0 x1 : SVal) : bodyE P H T k 211 [x0, x1] = R211 T k x0 x1 := by kernel_rfl
noncomputable def D211 (T : TT) (k : Nat) : List SVal → Option Res
  | [x0, x1] => R211 T k x0 x1
  | a => bodyE P H T k 211 a
theorem d211 (T : TT) (k : Nat) (a : List SVal) : D211 T k a = bodyE P H T k 211 a := by
  unfold D211
  split
  · exact (r211 ..).symm
  · rfl
theorem t211 (k : Nat) (x0 x1 : SVal) : T (k + 1) 211 [x0, x1] = R211 (T k) k x0 x1 := (tb k 211 _ rfl).trans (r211 ..)
/-- limelight/render.may -/
def R212 (T : TT) (k : Nat) (x0a x0b x0c x0d x0e x1 : SVal) : Option Res :=
 ((T 65 [(.agg [(weak x0a), (weak x0b), (weak x0c), (weak x0d), (weak x0e)])]).bind fun r1 =>
 (sBin .eql r1.r (.int .i64 0)).bind fun r2 =>
 guardX r2 true
 ((sBin .geq x1 (.int .i64 0)).bind fun r3 =>
 guardX r3 true
 ((sLen x0a).bind fun r4 =>
 (sBin .lss x1 r4).bind fun r5 =>
 (asB r5).bind fun b6 =>
 some [b6])
 (some [false])
 (none))
 (some [false])
 (none)).bind fun vs7 =>
 some { r := (.bool (vs7.getD 0 false)) }
theorem r212 (T : TT) (k : Nat) (x0a x0b x0c x0d x0e x1 : SVal) : bodyE P H T k 212 [(.agg [x0a, x0b, x0c, x0d, x0e]), x1] = R212 T k x0a x0b x0c x0d x0e x1 := by kernel_rfl
noncomputable def D212 (T : TT) (k : Nat) : List SVal → Option Res
  | [(.agg [x0a, x0b, x0c, x0d, x0e]), x1] => R212 T k x0a x0b x0c x0d x0e x1
  | a => bodyE P H T k 212 a
theorem d212 (T : TT) (k : Nat) (a : List SVal) : D212 T k a = bodyE P H T k 212 a := by
  unfold D212
  split
  · exact (r212 ..).symm
  · rfl
theorem t212 (k : Nat) (x0a x0b x0c x0d x0e x1 : SVal) : T (k + 1) 212 [(.agg [x0a, x0b, x0c, x0d, x0e]), x1] = R212 (T k) k x0a x0b x0c x0d x0e x1 := (tb k 212 _ rfl).trans (r212 ..)
/-- limelight/flat.Has -/
def R213 (T : TT) (k : Nat) (x0 x1 : SVal) : Option Res :=
 (T 57 [(weak x0), (.int .i64 0), x1]).bind fun r1 =>
 some { r := r1.r }
theorem r213 (T : TT) (k : Nat) (x0 x1 : SVal) : bodyE P H T k 213 [x0, x1] = R213 T k x0 x1 := by kernel_rfl
noncomputable def D213 (T : TT) (k : Nat) : List SVal → Option Res
  | [x0, x1] => R213 T k x0 x1
  | a => bodyE P H T k 213 a
theorem d213 (T : TT) (k : Nat) (a : List SVal) : D213 T k a = bodyE P H T k 213 a := by
  unfold D213
  split
  · exact (r213 ..).symm
  · rfl
theorem t213 (k : Nat) (x0 x1 : SVal) : T (k + 1) 213 [x0, x1] = R213 (T k) k x0 x1 := (tb k 213 _ rfl).trans (r213 ..)
/-- limelight/render.Is$1 -/
def R214 (T : TT) (k : Nat) (x0 x1a x1b x1c x1d x1e : SVal) : Option Res :=
 (T 215 [(.agg [(weak x1a), (weak x1b), (weak x1c), (weak x1d), (weak x1e)]), x0]).bind fun r1 =>
 (sNot r1.r).bind fun r2 =>
 some { r := r2 }
theorem r214 (T : TT) (k : Nat) (x0 x1a x1b x1c x1d x1e : SVal) : bodyE P H T k 214 [x0, (.rp [x1a, x1b, x1c, x1d, x1e])] = R214 T k x0 x1a x1b x1c x1d x1e := by kernel_rfl
noncomputable def D214 (T : TT) (k : Nat) : List SVal → Option Res
  | [x0, (.rp [x1a, x1b, x1c, x1d, x1e])] => R214 T k x0 x1a x1b x1c x1d x1e
  | a => bodyE P H T k 214 a
theorem d214 (T : TT) (k : Nat) (a : List SVal) : D214 T k a = bodyE P H T k 214 a := by
  unfold D214
  split
  · exact (r214 ..).symm
  · rfl
theorem t214 (k : Nat) (x0 x1a x1b x1c x1d x1e : SVal) : T (k + 1) 214 [x0, (.rp [x1a, x1b, x1c, x1d, x1e])] = R214 (T k) k x0 x1a x1b x1c x1d x1e := (tb k 214 _ rfl).trans (r214 ..)
/-- limelight/render.own -/
def R215 (T : TT) (k : Nat) (x0a x0b x0c x0d x0e x1 : SVal) : Option Res :=
 if (oneS x1) = true then
 (T 181 [(weak x0a), x1, (.int .i64 2)]).bind fun r1 =>
 pickC r1.r
 (some { r := (.bool false) })
 (((T 70 [(weak x0b), x1]).bind fun r2 =>
 guardX r2.r false
 ((T 70 [(weak x0c), x1]).bind fun r3 =>
 (asB r3.r).bind fun b4 =>
 some [b4])
 (some [true])
 (none)).bind fun vs5 =>
 pickC (.bool (vs5.getD 0 false))
 (some { r := (.bool true) })
 (((sIdx true 7 x0a x1).bind fun e6 =>
 (sBin .eql (SVal.cell e6 0) (.int .i64 1)).bind fun r7 =>
 guardX r7 true
 ((sIdx true 7 x0a x1).bind fun e8 =>
 (sBin .eql (SVal.cell e8 1) (.int .i64 2)).bind fun r9 =>
 (asB r9).bind fun b10 =>
 some [b10])
 (some [false])
 (none)).bind fun vs11 =>
 pickC (.bool (vs11.getD 0 false))
 (some { r := (.bool false) })
 (((T 181 [(weak x0a), x1, (.int .i64 6)]).bind fun r12 =>
 (sNot r12.r).bind fun r13 =>
 guardX r13 false
 ((T 236 [(weak x0d), (.fn 235 [(.rp [x1])])]).bind fun r14 =>
 (asB r14.r).bind fun b15 =>
 some [b15])
 (some [true])
 (none)).bind fun vs16 =>
 some { r := (.bool (vs16.getD 0 false)) })))
 else none
theorem r215 (T : TT) (k : Nat) (x0a x0b x0c x0d x0e x1 : SVal) : bodyE P H T k 215 [(.agg [x0a, x0b, x0c, x0d, x0e]), x1] = R215 T k x0a x0b x0c x0d x0e x1 := by kernel_rfl
noncomputable def D215 (T : TT) (k : Nat) : List SVal → Option Res
  | [(.agg [x0a, x0b, x0c, x0d, x0e]), x1] => R215 T k x0a x0b x0c x0d x0e x1
  | a => bodyE P H T k 215 a
theorem d215 (T : TT) (k : Nat) (a : List SVal) : D215 T k a = bodyE P H T k 215 a := by
  unfold D215
  split
  · exact (r215 ..).symm
  · rfl
theorem t215 (k : Nat) (x0a x0b x0c x0d x0e x1 : SVal) : T (k + 1) 215 [(.agg [x0a, x0b, x0c, x0d, x0e]), x1] = R215 (T k) k x0a x0b x0c x0d x0e x1 := (tb k 215 _ rfl).trans (r215 ..)
/-- limelight/inert.may -/
def R216 (T : TT) (k : Nat) (x0a x0b x0c x0d x0e x1 : SVal) : Option Res :=
 ((T 65 [(.agg [(weak x0a), (weak x0b), (weak x0c), (weak x0d), (weak x0e)])]).bind fun r1 =>
 (sBin .eql r1.r (.int .i64 0)).bind fun r2 =>
 guardX r2 true
 ((sBin .geq x1 (.int .i64 0)).bind fun r3 =>
 guardX r3 true
 ((sLen x0a).bind fun r4 =>
 (sBin .lss x1 r4).bind fun r5 =>
 (asB r5).bind fun b6 =>
 some [b6])
 (some [false])
 (none))
 (some [false])
 (none)).bind fun vs7 =>
 some { r := (.bool (vs7.getD 0 false)) }
theorem r216 (T : TT) (k : Nat) (x0a x0b x0c x0d x0e x1 : SVal) : bodyE P H T k 216 [(.agg [x0a, x0b, x0c, x0d, x0e]), x1] = R216 T k x0a x0b x0c x0d x0e x1 := by kernel_rfl
noncomputable def D216 (T : TT) (k : Nat) : List SVal → Option Res
  | [(.agg [x0a, x0b, x0c, x0d, x0e]), x1] => R216 T k x0a x0b x0c x0d x0e x1
  | a => bodyE P H T k 216 a
theorem d216 (T : TT) (k : Nat) (a : List SVal) : D216 T k a = bodyE P H T k 216 a := by
  unfold D216
  split
  · exact (r216 ..).symm
  · rfl
theorem t216 (k : Nat) (x0a x0b x0c x0d x0e x1 : SVal) : T (k + 1) 216 [(.agg [x0a, x0b, x0c, x0d, x0e]), x1] = R216 (T k) k x0a x0b x0c x0d x0e x1 := (tb k 216 _ rfl).trans (r216 ..)
/-- limelight/inert.Blocked -/
def R217 (T : TT) (k : Nat) (x0a x0b x0c x0d x0e x1 : SVal) : Option Res :=
 ((T 216 [(.agg [(weak x0a), (weak x0b), (weak x0c), (weak x0d), (weak x0e)]), x1]).bind fun r1 =>
 (sNot r1.r).bind fun r2 =>
 guardX r2 false
 ((sBin .eql x1 (.int .i64 0)).bind fun r3 =>
 (asB r3).bind fun b4 =>
 some [b4])
 (some [true])
 (none)).bind fun vs5 =>
 pickC (.bool (vs5.getD 0 false))
 (some { r := (.bool false) })
 ((T 237 [(.agg [(weak x0a), (weak x0b), (weak x0c), (weak x0d), (weak x0e)])]).bind fun r6 =>
 ((sBin .neq r6.r (.int .i64 (-1))).bind fun r7 =>
 guardX r7 true
 ((T 57 [(weak x0a), r6.r, x1]).bind fun r8 =>
 (sNot r8.r).bind fun r9 =>
 (asB r9).bind fun b10 =>
 some [b10])
 (some [false])
 (none)).bind fun vs11 =>
 some { r := (.bool (vs11.getD 0 false)) })
theorem r217 (T : TT) (k : Nat) (x0a x0b x0c x0d x0e x1 : SVal) : bodyE P H T k 217 [(.agg [x0a, x0b, x0c, x0d, x0e]), x1] = R217 T k x0a x0b x0c x0d x0e x1 := by kernel_rfl
noncomputable def D217 (T : TT) (k : Nat) : List SVal → Option Res
  | [(.agg [x0a, x0b, x0c, x0d, x0e]), x1] => R217 T k x0a x0b x0c x0d x0e x1
  | a => bodyE P H T k 217 a
theorem d217 (T : TT) (k : Nat) (a : List SVal) : D217 T k a = bodyE P H T k 217 a := by
  unfold D217
  split
  · exact (r217 ..).symm
  · rfl
theorem t217 (k : Nat) (x0a x0b x0c x0d x0e x1 : SVal) : T (k + 1) 217 [(.agg [x0a, x0b, x0c, x0d, x0e]), x1] = R217 (T k) k x0a x0b x0c x0d x0e x1 := (tb k 217 _ rfl).trans (r217 ..)
/-- limelight/inert.marked -/
def R218 (T : TT) (k : Nat) (x0a x0b x0c x0d x0e x1 : SVal) : Option Res :=
 (T 237 [(.agg [(weak x0a), (weak x0b), (weak x0c), (weak x0d), (weak x0e)])]).bind fun r1 =>
 (T 52 [(weak x0a), x1]).bind fun r2 =>
 (sLen r2.r).bind fun r3 =>
 loopN (fun s4 next4 =>
 (sBin .lss s4.k5 s4.k4).bind fun r5 =>
 pickC r5
 ((sIdx false 1 s4.k3 s4.k5).bind fun e6 =>
 (T 181 [(weak (SVal.cell s4.k0 0)), e6, (.int .i64 3)]).bind fun r7 =>
 (guardX r7.r false
 ((sBin .eql e6 s4.k1).bind fun r8 =>
 (asB r8).bind fun b9 =>
 some [b9])
 (some [true])
 (none)).bind fun vs10 =>
 pickC (.bool (vs10.getD 0 false))
 (some { r := r7.r })
 ((sBin .add s4.k5 (.int .i64 1)).bind fun r11 =>
 next4 ⟨[(.rp [(SVal.cell s4.k0 0), (SVal.cell s4.k0 1), (SVal.cell s4.k0 2), (SVal.cell s4.k0 3), (SVal.cell s4.k0 4)]), s4.k1, r7.r, (weak s4.k3), s4.k4, r11], [], false⟩))
 (some { r := s4.k2 })) k ⟨[(.rp [x0a, x0b, x0c, x0d, x0e]), r1.r, (.bool false), (weak r2.r), r3, (.int .i64 0)], [], false⟩
theorem r218 (T : TT) (k : Nat) (x0a x0b x0c x0d x0e x1 : SVal) : bodyE P H T k 218 [(.agg [x0a, x0b, x0c, x0d, x0e]), x1] = R218 T k x0a x0b x0c x0d x0e x1 := by kernel_rfl
noncomputable def D218 (T : TT) (k : Nat) : List SVal → Option Res
  | [(.agg [x0a, x0b, x0c, x0d, x0e]), x1] => R218 T k x0a x0b x0c x0d x0e x1
  | a => bodyE P H T k 218 a
theorem d218 (T : TT) (k : Nat) (a : List SVal) : D218 T k a = bodyE P H T k 218 a := by
  unfold D218
  split
  · exact (r218 ..).symm
  · rfl
theorem t218 (k : Nat) (x0a x0b x0c x0d x0e x1 : SVal) : T (k + 1) 218 [(.agg [x0a, x0b, x0c, x0d, x0e]), x1] = R218 (T k) k x0a x0b x0c x0d x0e x1 := (tb k 218 _ rfl).trans (r218 ..)
/-- limelight/limelightref03.List -/
def R219 (T : TT) (k : Nat) (x0 x1 : SVal) : Option Res :=
 if (List.all [[.v x1]] allOne) = true then
 loopN (fun s1 next1 =>
 (sIdx true 7 s1.k0 s1.k1).bind fun e2 =>
 (sLen (SVal.cell e2 3)).bind fun r3 =>
 (sBin .lss s1.k3 r3).bind fun r4 =>
 pickC r4
 ((sIdx true 7 s1.k0 s1.k1).bind fun e5 =>
 (sIdx false 1 (SVal.cell e5 3) s1.k3).bind fun e6 =>
 (T 219 [(weak s1.k0), e6]).bind fun r7 =>
 (elems 1 r7.r).bind fun ys8 =>
 if (s1.k2.xs.length + ys8.length) * 8 ≤ maxAppend then
 (sBin .add s1.k3 (.int .i64 1)).bind fun r9 =>
 next1 ⟨[(weak s1.k0), s1.k1, (.sl 1 true false (s1.k2.xs ++ ys8)), r9], [], false⟩
 else none)
 (some { r := (.sl 1 false false s1.k2.xs) })) k ⟨[(weak x0), x1, (.sl 1 true false [x1]), (.int .i64 0)], [], false⟩
 else none
theorem r219 (T : TT) (k : Nat) (x0 x1 : SVal) : bodyE P H T k 219 [x0, x1] = R219 T k x0 x1 := by kernel_rfl
theorem t219 (k : Nat) (x0 x1 : SVal) : T (k + 1) 219 [x0, x1] = R219 (T k) k x0 x1 := (tb k 219 _ rfl).trans (r219 ..)
/-- limelight/tree.value -/
def R220 (T : TT) (k : Nat) (x0a x0b : SVal) : Option Res :=
 (sBin .eql x0a (.int .i64 0)).bind fun r1 =>
 pickC r1
 ((T 176 [x0b, (.int .i64 (-2147483648)), (.int .i64 2147483647)]).bind fun r2 =>
 some { r := r2.r })
 ((sBin .eql x0a (.int .i64 4)).bind fun r3 =>
 pickC r3
 ((T 176 [x0b, (.int .i64 0), (.int .i64 2147483647)]).bind fun r4 =>
 some { r := r4.r })
 ((sBin .eql x0a (.int .i64 6)).bind fun r5 =>
 pickC r5
 ((T 176 [x0b, (.int .i64 1), (.int .i64 3)]).bind fun r6 =>
 some { r := r6.r })
 ((sBin .eql x0a (.int .i64 9)).bind fun r7 =>
 pickC r7
 ((T 176 [x0b, (.int .i64 0), (.int .i64 63)]).bind fun r8 =>
 some { r := r8.r })
 ((sBin .eql x0b (.int .i64 0)).bind fun r9 =>
 some { r := r9 }))))
theorem r220 (T : TT) (k : Nat) (x0a x0b : SVal) : bodyE P H T k 220 [(.agg [x0a, x0b])] = R220 T k x0a x0b := by kernel_rfl
noncomputable def D220 (T : TT) (k : Nat) : List SVal → Option Res
  | [(.agg [x0a, x0b])] => R220 T k x0a x0b
  | a => bodyE P H T k 220 a
theorem d220 (T : TT) (k : Nat) (a : List SVal) : D220 T k a = bodyE P H T k 220 a := by
  unfold D220
  split
  · exact (r220 ..).symm
  · rfl
theorem t220 (k : Nat) (x0a x0b : SVal) : T (k + 1) 220 [(.agg [x0a, x0b])] = R220 (T k) k x0a x0b := (tb k 220 _ rfl).trans (r220 ..)
/-- limelight/tree.up$1 -/
def R221 (T : TT) (k : Nat) (x1 x2 : SVal) : Option Res :=
 (sLen x1).bind fun r1 =>
 (sBin .add r1 (.int .i64 1)).bind fun r2 =>
 loopN (fun s3 next3 =>
 (sBin .lss s3.k4 s3.k3).bind fun r4 =>
 pickC r4
 ((sBin .eql (SVal.cell s3.k2 0) (.int .i64 (-1))).bind fun r5 =>
 guardX r5 false
 (if (s3.stop) = true then none else
 (notTup (SVal.cell s3.k2 0)).bind fun y6 =>
 both
 ((sIdx true 7 (SVal.cell s3.k1 0) (SVal.cell s3.k2 0)).bind fun e7 =>
 (sIdx true 7 (SVal.cell s3.k1 0) (SVal.cell s3.k2 0)).bind fun e8 =>
 (sMax (SVal.cell e7 2) (SVal.cell e8 4)).bind fun r9 =>
 if (oneS r9) = true then
 (sBin .add s3.k4 (.int .i64 1)).bind fun r10 =>
 next3 ⟨[.yld, (.rp [(SVal.cell s3.k1 0)]), (.mb [r9]), s3.k3, r10], (s3.out ++ [y6]), s3.stop⟩
 else none)
 (some { r := (.tup []) }))
 (if (s3.stop) = true then
 some { r := (.tup []) }
 else
 some { r := (.tup []), out := s3.out })
 (none))
 (if (s3.stop) = true then
 some { r := (.tup []) }
 else
 some { r := (.tup []), out := s3.out })) k ⟨[.yld, (.rp [x1]), (.mb [x2]), r2, (.int .i64 0)], [], false⟩
theorem r221 (T : TT) (k : Nat) (x1 x2 : SVal) : bodyE P H T k 221 [.yld, (.rp [x1]), (.mb [x2])] = R221 T k x1 x2 := by kernel_rfl
noncomputable def D221 (T : TT) (k : Nat) : List SVal → Option Res
  | [.yld, (.rp [x1]), (.mb [x2])] => R221 T k x1 x2
  | a => bodyE P H T k 221 a
theorem d221 (T : TT) (k : Nat) (a : List SVal) : D221 T k a = bodyE P H T k 221 a := by
  unfold D221
  split
  · exact (r221 ..).symm
  · rfl
theorem t221 (k : Nat) (x1 x2 : SVal) : T (k + 1) 221 [.yld, (.rp [x1]), (.mb [x2])] = R221 (T k) k x1 x2 := (tb k 221 _ rfl).trans (r221 ..)
/-- limelight/shade.Above -/
def R222 (T : TT) (k : Nat) (x0 x1 x2 : SVal) : Option Res :=
 (T 238 [(weak x0), x2]).bind fun r1 =>
 (T 70 [(weak r1.r), x1]).bind fun r2 =>
 some { r := r2.r }
theorem r222 (T : TT) (k : Nat) (x0 x1 x2 : SVal) : bodyE P H T k 222 [x0, x1, x2] = R222 T k x0 x1 x2 := by kernel_rfl
noncomputable def D222 (T : TT) (k : Nat) : List SVal → Option Res
  | [x0, x1, x2] => R222 T k x0 x1 x2
  | a => bodyE P H T k 222 a
theorem d222 (T : TT) (k : Nat) (a : List SVal) : D222 T k a = bodyE P H T k 222 a := by
  unfold D222
  split
  · exact (r222 ..).symm
  · rfl
theorem t222 (k : Nat) (x0 x1 x2 : SVal) : T (k + 1) 222 [x0, x1, x2] = R222 (T k) k x0 x1 x2 := (tb k 222 _ rfl).trans (r222 ..)
/-- limelight/order.list -/
def R234 (T : TT) (k : Nat) (x0 x1 : SVal) : Option Res :=
 if (oneS x0) = true then
 if (oneS x1) = true then
 some { r := (.fn 244 [(.rp [x0]), (.rp [x1])]) }
 else none
 else none
theorem r234 (T : TT) (k : Nat) (x0 x1 : SVal) : bodyE P H T k 234 [x0, x1] = R234 T k x0 x1 := by kernel_rfl
noncomputable def D234 (T : TT) (k : Nat) : List SVal → Option Res
  | [x0, x1] => R234 T k x0 x1
  | a => bodyE P H T k 234 a
theorem d234 (T : TT) (k : Nat) (a : List SVal) : D234 T k a = bodyE P H T k 234 a := by
  unfold D234
  split
  · exact (r234 ..).symm
  · rfl
theorem t234 (k : Nat) (x0 x1 : SVal) : T (k + 1) 234 [x0, x1] = R234 (T k) k x0 x1 := (tb k 234 _ rfl).trans (r234 ..)
/-- limelight/render.own$1 -/
def R235 (T : TT) (k : Nat) (x0a x0b x1 : SVal) : Option Res :=
 (sBin .eql x0a x1).bind fun r1 =>
 some { r := r1 }
theorem r235 (T : TT) (k : Nat) (x0a x0b x1 : SVal) : bodyE P H T k 235 [(.agg [x0a, x0b]), (.rp [x1])] = R235 T k x0a x0b x1 := by kernel_rfl
noncomputable def D235 (T : TT) (k : Nat) : List SVal → Option Res
  | [(.agg [x0a, x0b]), (.rp [x1])] => R235 T k x0a x0b x1
  | a => bodyE P H T k 235 a
theorem d235 (T : TT) (k : Nat) (a : List SVal) : D235 T k a = bodyE P H T k 235 a := by
  unfold D235
  split
  · exact (r235 ..).symm
  · rfl
theorem t235 (k : Nat) (x0a x0b x1 : SVal) : T (k + 1) 235 [(.agg [x0a, x0b]), (.rp [x1])] = R235 (T k) k x0a x0b x1 := (tb k 235 _ rfl).trans (r235 ..)
/-- slices.ContainsFunc[[]limelight/api.Shown,limelight/api.Shown] -/
def R236 (T : TT) (k : Nat) (x0 x1 : SVal) : Option Res :=
 (T 97 [(weak x0), x1]).bind fun r1 =>
 (sBin .geq r1.r (.int .i64 0)).bind fun r2 =>
 some { r := r2 }
theorem r236 (T : TT) (k : Nat) (x0 x1 : SVal) : bodyE P H T k 236 [x0, x1] = R236 T k x0 x1 := by kernel_rfl
noncomputable def D236 (T : TT) (k : Nat) : List SVal → Option Res
  | [x0, x1] => R236 T k x0 x1
  | a => bodyE P H T k 236 a
theorem d236 (T : TT) (k : Nat) (a : List SVal) : D236 T k a = bodyE P H T k 236 a := by
  unfold D236
  split
  · exact (r236 ..).symm
  · rfl
theorem t236 (k : Nat) (x0 x1 : SVal) : T (k + 1) 236 [x0, x1] = R236 (T k) k x0 x1 := (tb k 236 _ rfl).trans (r236 ..)
/-- limelight/top.Highest -/
def R237 (T : TT) (k : Nat) (x0a x0b x0c x0d x0e : SVal) : Option Res :=
 (T 65 [(.agg [(weak x0a), (weak x0b), (weak x0c), (weak x0d), (weak x0e)])]).bind fun r1 =>
 (sBin .eql r1.r (.int .i64 0)).bind fun r2 =>
 pickC r2
 ((T 79 [(weak x0e)]).bind fun r3 =>
 (callIt T r3.r).bind fun ys4 =>
 rangeN (fun s5 y5 next5 =>
 (tup2 y5).bind fun z6 =>
 (T 70 [(weak (SVal.cell s5.k0 2)), z6.2]).bind fun r7 =>
 pickC r7.r
 (if (oneS z6.2) = true then
 some { r := z6.2 }
 else none)
 (next5 ⟨[(.rp [(SVal.cell s5.k0 0), (SVal.cell s5.k0 1), (SVal.cell s5.k0 2), (SVal.cell s5.k0 3), (SVal.cell s5.k0 4)]), (.mb [s5.k1.c0])], [], false⟩)) (fun s8 =>
 some { r := (.int .i64 (-1)) }) ys4 ⟨[(.rp [x0a, x0b, x0c, x0d, x0e]), (.mb [(.int .i64 0)])], [], false⟩)
 (some { r := (.int .i64 (-1)) })
theorem r237 (T : TT) (k : Nat) (x0a x0b x0c x0d x0e : SVal) : bodyE P H T k 237 [(.agg [x0a, x0b, x0c, x0d, x0e])] = R237 T k x0a x0b x0c x0d x0e := by kernel_rfl
noncomputable def D237 (T : TT) (k : Nat) : List SVal → Option Res
  | [(.agg [x0a, x0b, x0c, x0d, x0e])] => R237 T k x0a x0b x0c x0d x0e
  | a => bodyE P H T k 237 a
theorem d237 (T : TT) (k : Nat) (a : List SVal) : D237 T k a = bodyE P H T k 237 a := by
  unfold D237
  split
  · exact (r237 ..).symm
  · rfl
theorem t237 (k : Nat) (x0a x0b x0c x0d x0e : SVal) : T (k + 1) 237 [(.agg [x0a, x0b, x0c, x0d, x0e])] = R237 (T k) k x0a x0b x0c x0d x0e := (tb k 237 _ rfl).trans (r237 ..)
/-- limelight/shade.Up -/
def R238 (T : TT) (k : Nat) (x0 x1 : SVal) : Option Res :=
 (T 246 [(weak x0), x1]).bind fun r1 =>
 (elems 1 r1.r).bind fun ys2 =>
 if ys2.length * 8 ≤ maxAppend then
 (T 117 [(weak x0), x1]).bind fun r3 =>
 (sBin .neq r3.r (.int .i64 (-1))).bind fun r4 =>
 pickC r4
 (loopN (fun s5 next5 =>
 (T 246 [(weak s5.k0), s5.k1]).bind fun r6 =>
 (elems 1 r6.r).bind fun ys7 =>
 if (s5.k2.xs.length + ys7.length) * 8 ≤ maxAppend then
 (T 117 [(weak s5.k0), s5.k1]).bind fun r8 =>
 (sBin .neq r8.r (.int .i64 (-1))).bind fun r9 =>
 pickC r9
 (next5 ⟨[(weak s5.k0), r8.r, (.sl 1 true false (s5.k2.xs ++ ys7))], [], false⟩)
 (some { r := (.sl 1 false false (s5.k2.xs ++ ys7)) })
 else none) k ⟨[(weak x0), r3.r, (.sl 1 true false ys2)], [], false⟩)
 (some { r := (.sl 1 false false ys2) })
 else none
theorem r238 (T : TT) (k : Nat) (x0 x1 : SVal) : bodyE P H T k 238 [x0, x1] = R238 T k x0 x1 := by kernel_rfl
noncomputable def D238 (T : TT) (k : Nat) : List SVal → Option Res
  | [x0, x1] => R238 T k x0 x1
  | a => bodyE P H T k 238 a
theorem d238 (T : TT) (k : Nat) (a : List SVal) : D238 T k a = bodyE P H T k 238 a := by
  unfold D238
  split
  · exact (r238 ..).symm
  · rfl
theorem t238 (k : Nat) (x0 x1 : SVal) : T (k + 1) 238 [x0, x1] = R238 (T k) k x0 x1 := (tb k 238 _ rfl).trans (r238 ..)
/-- limelight/order.list$1 -/
def R244 (T : TT) (k : Nat) (x1 x2 : SVal) : Option Res :=
 (T 245 [(weak x1), x2, .yld]).bind fun r1 =>
 both
 (some { r := (.tup []), out := ([] ++ r1.out) })
 (some { r := (.tup []) })
theorem r244 (T : TT) (k : Nat) (x1 x2 : SVal) : bodyE P H T k 244 [.yld, (.rp [x1]), (.rp [x2])] = R244 T k x1 x2 := by kernel_rfl
noncomputable def D244 (T : TT) (k : Nat) : List SVal → Option Res
  | [.yld, (.rp [x1]), (.rp [x2])] => R244 T k x1 x2
  | a => bodyE P H T k 244 a
theorem d244 (T : TT) (k : Nat) (a : List SVal) : D244 T k a = bodyE P H T k 244 a := by
  unfold D244
  split
  · exact (r244 ..).symm
  · rfl
theorem t244 (k : Nat) (x1 x2 : SVal) : T (k + 1) 244 [.yld, (.rp [x1]), (.rp [x2])] = R244 (T k) k x1 x2 := (tb k 244 _ rfl).trans (r244 ..)
/-- limelight/order.down -/
def R245 (T : TT) (k : Nat) (x0 x1 : SVal) : Option Res :=
 (notTup x1).bind fun y1 =>
 both
 ((sIdx true 7 x0 x1).bind fun e2 =>
 (sLen (SVal.cell e2 3)).bind fun r3 =>
 loopN (fun s4 next4 =>
 (sBin .lss s4.k4 s4.k3).bind fun r5 =>
 pickC r5
 ((sIdx false 1 s4.k2 s4.k4).bind fun e6 =>
 if (s4.stop) = true then none else
 (T 245 [(weak s4.k0), e6, .yld]).bind fun r7 =>
 both
 ((sNot r7.r).bind fun r8 =>
 pickC r8
 (if (s4.stop) = true then
 some { r := (.bool false) }
 else
 some { r := (.bool false), out := (s4.out ++ r7.out) })
 ((sBin .add s4.k4 (.int .i64 1)).bind fun r9 =>
 next4 ⟨[(weak s4.k0), .yld, (weak s4.k2), s4.k3, r9], (s4.out ++ r7.out), s4.stop⟩))
 (some { r := (.bool false) }))
 (if (s4.stop) = true then
 none
 else
 some { r := (.bool true), out := s4.out })) k ⟨[(weak x0), .yld, (weak (SVal.cell e2 3)), r3, (.int .i64 0)], ([] ++ [y1]), false⟩)
 (some { r := (.bool false) })
theorem r245 (T : TT) (k : Nat) (x0 x1 : SVal) : bodyE P H T k 245 [x0, x1, .yld] = R245 T k x0 x1 := by kernel_rfl
noncomputable def D245 (T : TT) (k : Nat) : List SVal → Option Res
  | [x0, x1, .yld] => R245 T k x0 x1
  | a => bodyE P H T k 245 a
theorem d245 (T : TT) (k : Nat) (a : List SVal) : D245 T k a = bodyE P H T k 245 a := by
  unfold D245
  split
  · exact (r245 ..).symm
  · rfl
theorem t245 (k : Nat) (x0 x1 : SVal) : T (k + 1) 245 [x0, x1, .yld] = R245 (T k) k x0 x1 := (tb k 245 _ rfl).trans (r245 ..)
/-- limelight/order.Up -/
def R246 (T : TT) (k : Nat) (x0 x1 : SVal) : Option Res :=
 if (List.all [[.v x1]] allOne) = true then
 (T 156 [(weak x0), (.sl 1 false false [x1])]).bind fun r1 =>
 (sNot r1.r).bind fun r2 =>
 pickC r2
 (some { r := (.sl 1 false false []) })
 ((T 157 [(weak x0), x1]).bind fun r3 =>
 (T 66 [r3.r]).bind fun r4 =>
 some { r := (.sl 1 false false r4.r.xs) })
 else none
theorem r246 (T : TT) (k : Nat) (x0 x1 : SVal) : bodyE P H T k 246 [x0, x1] = R246 T k x0 x1 := by kernel_rfl
noncomputable def D246 (T : TT) (k : Nat) : List SVal → Option Res
  | [x0, x1] => R246 T k x0 x1
  | a => bodyE P H T k 246 a
theorem d246 (T : TT) (k : Nat) (a : List SVal) : D246 T k a = bodyE P H T k 246 a := by
  unfold D246
  split
  · exact (r246 ..).symm
  · rfl
theorem t246 (k : Nat) (x0 x1 : SVal) : T (k + 1) 246 [x0, x1] = R246 (T k) k x0 x1 := (tb k 246 _ rfl).trans (r246 ..)
end Go.Proofs.YtjcnilaogidhlaaGreat.K
