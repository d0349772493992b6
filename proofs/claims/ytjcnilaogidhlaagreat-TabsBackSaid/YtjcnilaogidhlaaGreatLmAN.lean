/- What the evaluator makes of the functions, by program (wip/tr/resid.py); each equation is checked by the kernel. -/
import Derived.Test.YtjcnilaogidhlaaGreatLmAJ
import Derived.Test.YtjcnilaogidhlaaGreatLmAB
import Derived.KernelRfl
set_option linter.unusedVariables false
set_option linter.unusedSimpArgs false
set_option linter.unnecessarySimpa false
set_option linter.all false
set_option maxRecDepth 100000
namespace Go.Proofs.YtjcnilaogidhlaaGreat.K
open Go Go.Lm
/-- slices.IndexFunc[[]limelight/api.Attr,limelight/api.Attr] -/
def R134 (T : TT) (k : Nat) (x0 x1 : SVal) : Option Res :=
 (sLen x0).bind fun r1 =>
 loopN (fun s2 next2 =>
 (sBin .lss s2.k3 s2.k2).bind fun r3 =>
 pickC r3
 ((sIdx true 2 s2.k0 s2.k3).bind fun e4 =>
 (callV H T s2.k1 [(.agg [(SVal.cell e4 0), (SVal.cell e4 1)])]).bind fun y5 =>
 pickC y5
 (some { r := s2.k3 })
 ((sBin .add s2.k3 (.int .i64 1)).bind fun r6 =>
 next2 ⟨[(weak s2.k0), s2.k1, s2.k2, r6], [], false⟩))
 (some { r := (.int .i64 (-1)) })) k ⟨[(weak x0), x1, r1, (.int .i64 0)], [], false⟩
theorem r134 (T : TT) (k : Nat) (x0 x1 : SVal) : bodyE P H T k 134 [x0, x1] = R134 T k x0 x1 := by kernel_rfl
noncomputable def D134 (T : TT) (k : Nat) : List SVal → Option Res
  | [x0, x1] => R134 T k x0 x1
  | a => bodyE P H T k 134 a
theorem d134 (T : TT) (k : Nat) (a : List SVal) : D134 T k a = bodyE P H T k 134 a := by
  unfold D134
  split
  · exact (r134 ..).symm
  · rfl
theorem t134 (k : Nat) (x0 x1 : SVal) : T (k + 1) 134 [x0, x1] = R134 (T k) k x0 x1 := (tb k 134 _ rfl).trans (r134 ..)
/-- limelight/attr.at$1 -/
def R135 (T : TT) (k : Nat) (x0a x0b x1 : SVal) : Option Res :=
 (sBin .eql x0a x1).bind fun r1 =>
 some { r := r1 }
theorem r135 (T : TT) (k : Nat) (x0a x0b x1 : SVal) : bodyE P H T k 135 [(.agg [x0a, x0b]), (.rp [x1])] = R135 T k x0a x0b x1 := by kernel_rfl
noncomputable def D135 (T : TT) (k : Nat) : List SVal → Option Res
  | [(.agg [x0a, x0b]), (.rp [x1])] => R135 T k x0a x0b x1
  | a => bodyE P H T k 135 a
theorem d135 (T : TT) (k : Nat) (a : List SVal) : D135 T k a = bodyE P H T k 135 a := by
  unfold D135
  split
  · exact (r135 ..).symm
  · rfl
theorem t135 (k : Nat) (x0a x0b x1 : SVal) : T (k + 1) 135 [(.agg [x0a, x0b]), (.rp [x1])] = R135 (T k) k x0a x0b x1 := (tb k 135 _ rfl).trans (r135 ..)
/-- limelight/limelightref05.Assigned -/
def R136 (T : TT) (k : Nat) (x0 x1 : SVal) : Option Res :=
 (T 64 [(weak x0), x1]).bind fun r1 =>
 (sNot r1.r).bind fun r2 =>
 pickC r2
 (some { r := (.sl 1 false false []) })
 ((T 104 [(weak x0), x1]).bind fun r3 =>
 (sIdx true 7 x0 r3.r).bind fun e4 =>
 loopN (fun s5 next5 =>
 (sIdx true 7 s5.k0 s5.k3).bind fun e6 =>
 (sLen (SVal.cell e6 3)).bind fun r7 =>
 (sBin .lss s5.k4 r7).bind fun r8 =>
 pickC r8
 ((sIdx true 7 s5.k0 s5.k3).bind fun e9 =>
 (sIdx false 1 (SVal.cell e9 3) s5.k4).bind fun e10 =>
 (T 175 [(weak s5.k0), e10]).bind fun r11 =>
 (sBin .eql r11.r s5.k1).bind fun r12 =>
 pickC r12
 ((sIdx true 7 s5.k0 s5.k3).bind fun e13 =>
 (sIdx false 1 (SVal.cell e13 3) s5.k4).bind fun e14 =>
 if (List.all [[.v e14]] allOne) = true then
 if (s5.k2.xs.length + ([e14] : List SVal).length) * 8 ≤ maxAppend then
 (sBin .add s5.k4 (.int .i64 1)).bind fun r15 =>
 next5 ⟨[(weak s5.k0), s5.k1, (.sl 1 true false (s5.k2.xs ++ ([e14] : List SVal))), s5.k3, r15], [], false⟩
 else none
 else none)
 ((sBin .add s5.k4 (.int .i64 1)).bind fun r16 =>
 next5 ⟨[(weak s5.k0), s5.k1, (.sl 1 true false s5.k2.xs), s5.k3, r16], [], false⟩))
 (some { r := (.sl 1 false false s5.k2.xs) })) k ⟨[(weak x0), x1, (.sl 1 true false []), (SVal.cell e4 4), (.int .i64 0)], [], false⟩)
theorem r136 (T : TT) (k : Nat) (x0 x1 : SVal) : bodyE P H T k 136 [x0, x1] = R136 T k x0 x1 := by kernel_rfl
theorem t136 (k : Nat) (x0 x1 : SVal) : T (k + 1) 136 [x0, x1] = R136 (T k) k x0 x1 := (tb k 136 _ rfl).trans (r136 ..)
/-- limelight/limelightref11.Own -/
def R137 (T : TT) (k : Nat) (x0a x0b x0c x0d x0e x1 : SVal) : Option Res :=
 (T 131 [(weak x0a), x1, (.int .i64 2)]).bind fun r1 =>
 pickC r1.r
 (some { r := (.bool false) })
 (((T 27 [(weak x0b), x1]).bind fun r2 =>
 if isSc1 r2.r = true then
 guardX r2.r false
 ((T 27 [(weak x0c), x1]).bind fun r3 =>
 if isSc1 r3.r = true then
 (asB r3.r).bind fun b4 =>
 some [b4]
 else none)
 (some [true])
 (none)
 else none).bind fun vs5 =>
 pickC (.bool (vs5.getD 0 false))
 (some { r := (.bool true) })
 ((sIdx true 7 x0a x1).bind fun e6 =>
 (sBin .eql (SVal.cell e6 1) (.int .i64 2)).bind fun r7 =>
 pickC r7
 (some { r := (.bool false) })
 (((T 131 [(weak x0a), x1, (.int .i64 6)]).bind fun r8 =>
 (sNot r8.r).bind fun r9 =>
 guardX r9 false
 ((T 32 [(weak x0d)]).bind fun r10 =>
 (T 27 [(weak r10.r), x1]).bind fun r11 =>
 if isSc1 r11.r = true then
 (asB r11.r).bind fun b12 =>
 some [b12]
 else none)
 (some [true])
 (none)).bind fun vs13 =>
 some { r := (.bool (vs13.getD 0 false)) })))
theorem r137 (T : TT) (k : Nat) (x0a x0b x0c x0d x0e x1 : SVal) : bodyE P H T k 137 [(.agg [x0a, x0b, x0c, x0d, x0e]), x1] = R137 T k x0a x0b x0c x0d x0e x1 := by kernel_rfl
theorem t137 (k : Nat) (x0a x0b x0c x0d x0e x1 : SVal) : T (k + 1) 137 [(.agg [x0a, x0b, x0c, x0d, x0e]), x1] = R137 (T k) k x0a x0b x0c x0d x0e x1 := (tb k 137 _ rfl).trans (r137 ..)
/-- limelight/limelightref06.Has -/
def R138 (T : TT) (k : Nat) (x0 x1 : SVal) : Option Res :=
 (T 30 [(weak x0), x1]).bind fun r1 =>
 (T 27 [(weak r1.r), (.int .i64 0)]).bind fun r2 =>
 if isSc1 r2.r = true then
 some { r := r2.r }
 else none
theorem r138 (T : TT) (k : Nat) (x0 x1 : SVal) : bodyE P H T k 138 [x0, x1] = R138 T k x0 x1 := by kernel_rfl
theorem t138 (k : Nat) (x0 x1 : SVal) : T (k + 1) 138 [x0, x1] = R138 (T k) k x0 x1 := (tb k 138 _ rfl).trans (r138 ..)
/-- limelight/limelightref12.Blocked -/
def R139 (T : TT) (k : Nat) (x0a x0b x0c x0d x0e x1 : SVal) : Option Res :=
 (T 40 [(.agg [(weak x0a), (weak x0b), (weak x0c), (weak x0d), (weak x0e)])]).bind fun r1 =>
 ((sBin .neq x1 (.int .i64 0)).bind fun r2 =>
 guardX r2 true
 ((sBin .neq r1.r (.int .i64 (-1))).bind fun r3 =>
 guardX r3 true
 ((T 33 [(weak x0a), r1.r, x1]).bind fun r4 =>
 (sNot r4.r).bind fun r5 =>
 (asB r5).bind fun b6 =>
 some [b6])
 (some [false])
 (none))
 (some [false])
 (none)).bind fun vs7 =>
 some { r := (.bool (vs7.getD 0 false)) }
theorem r139 (T : TT) (k : Nat) (x0a x0b x0c x0d x0e x1 : SVal) : bodyE P H T k 139 [(.agg [x0a, x0b, x0c, x0d, x0e]), x1] = R139 T k x0a x0b x0c x0d x0e x1 := by kernel_rfl
theorem t139 (k : Nat) (x0a x0b x0c x0d x0e x1 : SVal) : T (k + 1) 139 [(.agg [x0a, x0b, x0c, x0d, x0e]), x1] = R139 (T k) k x0a x0b x0c x0d x0e x1 := (tb k 139 _ rfl).trans (r139 ..)
/-- limelight/limelightref03.Up -/
def R140 (T : TT) (k : Nat) (x0 x1 : SVal) : Option Res :=
 loopN (fun s1 next1 =>
 (sBin .neq s1.k1 (.int .i64 (-1))).bind fun r2 =>
 pickC r2
 (if (List.all [[.v s1.k1]] allOne) = true then
 if (s1.k2.xs.length + ([s1.k1] : List SVal).length) * 8 ≤ maxAppend then
 (sIdx true 7 s1.k0 s1.k1).bind fun e3 =>
 next1 ⟨[(weak s1.k0), (SVal.cell e3 2), (.sl 1 true false (s1.k2.xs ++ ([s1.k1] : List SVal)))], [], false⟩
 else none
 else none)
 (some { r := (.sl 1 false false s1.k2.xs) })) k ⟨[(weak x0), x1, (.sl 1 true false [])], [], false⟩
theorem r140 (T : TT) (k : Nat) (x0 x1 : SVal) : bodyE P H T k 140 [x0, x1] = R140 T k x0 x1 := by kernel_rfl
theorem t140 (k : Nat) (x0 x1 : SVal) : T (k + 1) 140 [x0, x1] = R140 (T k) k x0 x1 := (tb k 140 _ rfl).trans (r140 ..)
/-- limelight/tree.may -/
def R141 (T : TT) (k : Nat) (x0 : SVal) : Option Res :=
 (sLen x0).bind fun r1 =>
 (T 176 [r1, (.int .i64 1), (.int .i64 64)]).bind fun r2 =>
 (sNot r2.r).bind fun r3 =>
 pickC r3
 (some { r := (.bool false) })
 ((sLen x0).bind fun r4 =>
 loopN (fun s5 next5 =>
 (sBin .lss s5.k2 s5.k1).bind fun r6 =>
 pickC r6
 ((T 177 [(weak s5.k0), s5.k2]).bind fun r7 =>
 (sNot r7.r).bind fun r8 =>
 pickC r8
 (some { r := (.bool false) })
 ((sBin .add s5.k2 (.int .i64 1)).bind fun r9 =>
 next5 ⟨[(weak s5.k0), s5.k1, r9], [], false⟩))
 ((sLen s5.k0).bind fun r10 =>
 loopN (fun s11 next11 =>
 (sBin .lss s11.k2 s11.k1).bind fun r12 =>
 pickC r12
 ((T 178 [(weak s11.k0), s11.k2]).bind fun r13 =>
 pickC r13.r
 (some { r := (.bool false) })
 ((sBin .add s11.k2 (.int .i64 1)).bind fun r14 =>
 next11 ⟨[(weak s11.k0), s11.k1, r14], [], false⟩))
 (some { r := (.bool true) })) k ⟨[(weak s5.k0), r10, (.int .i64 0)], [], false⟩)) k ⟨[(weak x0), r4, (.int .i64 0)], [], false⟩)
theorem r141 (T : TT) (k : Nat) (x0 : SVal) : bodyE P H T k 141 [x0] = R141 T k x0 := by kernel_rfl
noncomputable def D141 (T : TT) (k : Nat) : List SVal → Option Res
  | [x0] => R141 T k x0
  | a => bodyE P H T k 141 a
theorem d141 (T : TT) (k : Nat) (a : List SVal) : D141 T k a = bodyE P H T k 141 a := by
  unfold D141
  split
  · exact (r141 ..).symm
  · rfl
theorem t141 (k : Nat) (x0 : SVal) : T (k + 1) 141 [x0] = R141 (T k) k x0 := (tb k 141 _ rfl).trans (r141 ..)
/-- limelight/top.only[int] -/
def R142 (T : TT) (k : Nat) (x0 x1 : SVal) : Option Res :=
 (sLen x0).bind fun r1 =>
 loopN (fun s2 next2 =>
 (sBin .lss s2.k5 s2.k4).bind fun r3 =>
 pickC r3
 ((sIdx false 1 s2.k3 s2.k5).bind fun e4 =>
 (callV H T s2.k0 [e4]).bind fun y5 =>
 pickC y5
 (if (List.all [[.v e4]] allOne) = true then
 if (s2.k1.xs.length + ([e4] : List SVal).length) * 8 ≤ maxAppend then
 (sBin .add s2.k5 (.int .i64 1)).bind fun r6 =>
 next2 ⟨[s2.k0, (.sl 1 true false (s2.k1.xs ++ ([e4] : List SVal))), (.sl 1 true false s2.k2.xs), (weak s2.k3), s2.k4, r6], [], false⟩
 else none
 else none)
 (if (List.all [[.v e4]] allOne) = true then
 if (s2.k2.xs.length + ([e4] : List SVal).length) * 8 ≤ maxAppend then
 (sBin .add s2.k5 (.int .i64 1)).bind fun r7 =>
 next2 ⟨[s2.k0, (.sl 1 true false s2.k1.xs), (.sl 1 true false (s2.k2.xs ++ ([e4] : List SVal))), (weak s2.k3), s2.k4, r7], [], false⟩
 else none
 else none))
 (some { r := (.tup [(.sl 1 false false s2.k1.xs), (.sl 1 false false s2.k2.xs)]) })) k ⟨[x1, (.sl 1 true false []), (.sl 1 true false []), (weak x0), r1, (.int .i64 0)], [], false⟩
theorem r142 (T : TT) (k : Nat) (x0 x1 : SVal) : bodyE P H T k 142 [x0, x1] = R142 T k x0 x1 := by kernel_rfl
noncomputable def D142 (T : TT) (k : Nat) : List SVal → Option Res
  | [x0, x1] => R142 T k x0 x1
  | a => bodyE P H T k 142 a
theorem d142 (T : TT) (k : Nat) (a : List SVal) : D142 T k a = bodyE P H T k 142 a := by
  unfold D142
  split
  · exact (r142 ..).symm
  · rfl
theorem t142 (k : Nat) (x0 x1 : SVal) : T (k + 1) 142 [x0, x1] = R142 (T k) k x0 x1 := (tb k 142 _ rfl).trans (r142 ..)
/-- slices.Concat[[]int,int] -/
def R143 (T : TT) (k : Nat) (x0 : SVal) : Option Res :=
 (sLen x0).bind fun r1 =>
 loopN (fun s2 next2 =>
 (sBin .lss s2.k4 s2.k3).bind fun r3 =>
 pickC r3
 ((sIdx false 1 s2.k2 s2.k4).bind fun e4 =>
 (sLen e4).bind fun r5 =>
 (sBin .add s2.k1 r5).bind fun r6 =>
 (sBin .lss r6 (.int .i64 0)).bind fun r7 =>
 pickC r7
 (none)
 ((sBin .add s2.k4 (.int .i64 1)).bind fun r8 =>
 next2 ⟨[(weak s2.k0), r6, (weak s2.k2), s2.k3, r8], [], false⟩))
 ((T 179 [(.sl 1 false true []), s2.k1]).bind fun r9 =>
 (sLen s2.k0).bind fun r10 =>
 loopN (fun s11 next11 =>
 (sBin .lss s11.k3 s11.k2).bind fun r12 =>
 pickC r12
 ((sIdx false 1 s11.k1 s11.k3).bind fun e13 =>
 (elems 1 e13).bind fun ys14 =>
 if (s11.k0.xs.length + ys14.length) * 8 ≤ maxAppend then
 (sBin .add s11.k3 (.int .i64 1)).bind fun r15 =>
 next11 ⟨[(.sl 1 true false (s11.k0.xs ++ ys14)), (weak s11.k1), s11.k2, r15], [], false⟩
 else none)
 (some { r := (.sl 1 false false s11.k0.xs) })) k ⟨[(.sl 1 true false r9.r.xs), (weak s2.k0), r10, (.int .i64 0)], [], false⟩)) k ⟨[(weak x0), (.int .i64 0), (weak x0), r1, (.int .i64 0)], [], false⟩
theorem r143 (T : TT) (k : Nat) (x0 : SVal) : bodyE P H T k 143 [x0] = R143 T k x0 := by kernel_rfl
noncomputable def D143 (T : TT) (k : Nat) : List SVal → Option Res
  | [x0] => R143 T k x0
  | a => bodyE P H T k 143 a
theorem d143 (T : TT) (k : Nat) (a : List SVal) : D143 T k a = bodyE P H T k 143 a := by
  unfold D143
  split
  · exact (r143 ..).symm
  · rfl
theorem t143 (k : Nat) (x0 : SVal) : T (k + 1) 143 [x0] = R143 (T k) k x0 := (tb k 143 _ rfl).trans (r143 ..)
/-- limelight/top.may$1 -/
def R144 (T : TT) (k : Nat) (x0 x1 : SVal) : Option Res :=
 (T 145 [(weak x1), x0]).bind fun r1 =>
 some { r := r1.r }
theorem r144 (T : TT) (k : Nat) (x0 x1 : SVal) : bodyE P H T k 144 [x0, (.rp [x1])] = R144 T k x0 x1 := by kernel_rfl
noncomputable def D144 (T : TT) (k : Nat) : List SVal → Option Res
  | [x0, (.rp [x1])] => R144 T k x0 x1
  | a => bodyE P H T k 144 a
theorem d144 (T : TT) (k : Nat) (a : List SVal) : D144 T k a = bodyE P H T k 144 a := by
  unfold D144
  split
  · exact (r144 ..).symm
  · rfl
theorem t144 (k : Nat) (x0 x1 : SVal) : T (k + 1) 144 [x0, (.rp [x1])] = R144 (T k) k x0 x1 := (tb k 144 _ rfl).trans (r144 ..)
/-- limelight/top.dialog -/
def R145 (T : TT) (k : Nat) (x0 x1 : SVal) : Option Res :=
 ((T 180 [(weak x0), x1]).bind fun r1 =>
 guardX r1.r true
 ((sIdx true 7 x0 x1).bind fun e2 =>
 (sBin .eql (SVal.cell e2 1) (.int .i64 2)).bind fun r3 =>
 (asB r3).bind fun b4 =>
 some [b4])
 (some [false])
 (none)).bind fun vs5 =>
 some { r := (.bool (vs5.getD 0 false)) }
theorem r145 (T : TT) (k : Nat) (x0 x1 : SVal) : bodyE P H T k 145 [x0, x1] = R145 T k x0 x1 := by kernel_rfl
noncomputable def D145 (T : TT) (k : Nat) : List SVal → Option Res
  | [x0, x1] => R145 T k x0 x1
  | a => bodyE P H T k 145 a
theorem d145 (T : TT) (k : Nat) (a : List SVal) : D145 T k a = bodyE P H T k 145 a := by
  unfold D145
  split
  · exact (r145 ..).symm
  · rfl
theorem t145 (k : Nat) (x0 x1 : SVal) : T (k + 1) 145 [x0, x1] = R145 (T k) k x0 x1 := (tb k 145 _ rfl).trans (r145 ..)
/-- limelight/top.only[limelight/api.Shown] -/
def R146 (T : TT) (k : Nat) (x0 x1 : SVal) : Option Res :=
 (sLen x0).bind fun r1 =>
 loopN (fun s2 next2 =>
 (sBin .lss s2.k5 s2.k4).bind fun r3 =>
 pickC r3
 ((sIdx true 2 s2.k3 s2.k5).bind fun e4 =>
 if (allOne [.v (SVal.cell e4 0), .v (SVal.cell e4 1)]) = true then
 (callV H T s2.k0 [(.agg [(SVal.cell e4 0), (SVal.cell e4 1)])]).bind fun y5 =>
 pickC y5
 (if (List.all [[.v (SVal.cell e4 0), .v (SVal.cell e4 1)]] allOne) = true then
 if (s2.k1.xs.length + ([(.agg [(weak (SVal.cell e4 0)), (weak (SVal.cell e4 1))])] : List SVal).length) * 16 ≤ maxAppend then
 (sBin .add s2.k5 (.int .i64 1)).bind fun r6 =>
 next2 ⟨[s2.k0, (.sl 2 true false (s2.k1.xs ++ ([(.agg [(weak (SVal.cell e4 0)), (weak (SVal.cell e4 1))])] : List SVal))), (.sl 2 true false s2.k2.xs), (weak s2.k3), s2.k4, r6], [], false⟩
 else none
 else none)
 (if (List.all [[.v (SVal.cell e4 0), .v (SVal.cell e4 1)]] allOne) = true then
 if (s2.k2.xs.length + ([(.agg [(weak (SVal.cell e4 0)), (weak (SVal.cell e4 1))])] : List SVal).length) * 16 ≤ maxAppend then
 (sBin .add s2.k5 (.int .i64 1)).bind fun r7 =>
 next2 ⟨[s2.k0, (.sl 2 true false s2.k1.xs), (.sl 2 true false (s2.k2.xs ++ ([(.agg [(weak (SVal.cell e4 0)), (weak (SVal.cell e4 1))])] : List SVal))), (weak s2.k3), s2.k4, r7], [], false⟩
 else none
 else none)
 else none)
 (some { r := (.tup [(.sl 2 true false s2.k1.xs), (.sl 2 false false s2.k2.xs)]) })) k ⟨[x1, (.sl 2 true false []), (.sl 2 true false []), (weak x0), r1, (.int .i64 0)], [], false⟩
theorem r146 (T : TT) (k : Nat) (x0 x1 : SVal) : bodyE P H T k 146 [x0, x1] = R146 T k x0 x1 := by kernel_rfl
noncomputable def D146 (T : TT) (k : Nat) : List SVal → Option Res
  | [x0, x1] => R146 T k x0 x1
  | a => bodyE P H T k 146 a
theorem d146 (T : TT) (k : Nat) (a : List SVal) : D146 T k a = bodyE P H T k 146 a := by
  unfold D146
  split
  · exact (r146 ..).symm
  · rfl
theorem t146 (k : Nat) (x0 x1 : SVal) : T (k + 1) 146 [x0, x1] = R146 (T k) k x0 x1 := (tb k 146 _ rfl).trans (r146 ..)
/-- limelight/top.may$2 -/
def R147 (T : TT) (k : Nat) (x0a x0b x1 : SVal) : Option Res :=
 ((T 148 [(weak x1), x0a]).bind fun r1 =>
 guardX r1.r true
 ((sBin .eql x0b (.int .i64 (-1))).bind fun r2 =>
 guardX r2 false
 ((T 149 [(weak x1), x0b]).bind fun r3 =>
 (asB r3.r).bind fun b4 =>
 some [b4])
 (some [true])
 (none))
 (some [false])
 (none)).bind fun vs5 =>
 some { r := (.bool (vs5.getD 0 false)) }
theorem r147 (T : TT) (k : Nat) (x0a x0b x1 : SVal) : bodyE P H T k 147 [(.agg [x0a, x0b]), (.rp [x1])] = R147 T k x0a x0b x1 := by kernel_rfl
noncomputable def D147 (T : TT) (k : Nat) : List SVal → Option Res
  | [(.agg [x0a, x0b]), (.rp [x1])] => R147 T k x0a x0b x1
  | a => bodyE P H T k 147 a
theorem d147 (T : TT) (k : Nat) (a : List SVal) : D147 T k a = bodyE P H T k 147 a := by
  unfold D147
  split
  · exact (r147 ..).symm
  · rfl
theorem t147 (k : Nat) (x0a x0b x1 : SVal) : T (k + 1) 147 [(.agg [x0a, x0b]), (.rp [x1])] = R147 (T k) k x0a x0b x1 := (tb k 147 _ rfl).trans (r147 ..)
/-- limelight/top.popup -/
def R148 (T : TT) (k : Nat) (x0 x1 : SVal) : Option Res :=
 ((T 180 [(weak x0), x1]).bind fun r1 =>
 guardX r1.r true
 ((T 181 [(weak x0), x1, (.int .i64 6)]).bind fun r2 =>
 (asB r2.r).bind fun b3 =>
 some [b3])
 (some [false])
 (none)).bind fun vs4 =>
 some { r := (.bool (vs4.getD 0 false)) }
theorem r148 (T : TT) (k : Nat) (x0 x1 : SVal) : bodyE P H T k 148 [x0, x1] = R148 T k x0 x1 := by kernel_rfl
noncomputable def D148 (T : TT) (k : Nat) : List SVal → Option Res
  | [x0, x1] => R148 T k x0 x1
  | a => bodyE P H T k 148 a
theorem d148 (T : TT) (k : Nat) (a : List SVal) : D148 T k a = bodyE P H T k 148 a := by
  unfold D148
  split
  · exact (r148 ..).symm
  · rfl
theorem t148 (k : Nat) (x0 x1 : SVal) : T (k + 1) 148 [x0, x1] = R148 (T k) k x0 x1 := (tb k 148 _ rfl).trans (r148 ..)
/-- limelight/top.is -/
def R149 (T : TT) (k : Nat) (x0 x1 : SVal) : Option Res :=
 ((sBin .geq x1 (.int .i64 0)).bind fun r1 =>
 guardX r1 true
 ((sLen x0).bind fun r2 =>
 (sBin .lss x1 r2).bind fun r3 =>
 (asB r3).bind fun b4 =>
 some [b4])
 (some [false])
 (none)).bind fun vs5 =>
 some { r := (.bool (vs5.getD 0 false)) }
theorem r149 (T : TT) (k : Nat) (x0 x1 : SVal) : bodyE P H T k 149 [x0, x1] = R149 T k x0 x1 := by kernel_rfl
noncomputable def D149 (T : TT) (k : Nat) : List SVal → Option Res
  | [x0, x1] => R149 T k x0 x1
  | a => bodyE P H T k 149 a
theorem d149 (T : TT) (k : Nat) (a : List SVal) : D149 T k a = bodyE P H T k 149 a := by
  unfold D149
  split
  · exact (r149 ..).symm
  · rfl
theorem t149 (k : Nat) (x0 x1 : SVal) : T (k + 1) 149 [x0, x1] = R149 (T k) k x0 x1 := (tb k 149 _ rfl).trans (r149 ..)
/-- limelight/top.high -/
def R150 (T : TT) (k : Nat) (x0a x0b x0c x0d x0e : SVal) : Option Res :=
 (T 182 [(weak x0d), (.fn 183 [])]).bind fun r1 =>
 if (List.all [[.v x0c], [.v r1.r]] allOne) = true then
 (T 143 [(.sl 1 false false [x0c, r1.r])]).bind fun r2 =>
 some { r := (weak r2.r) }
 else none
theorem r150 (T : TT) (k : Nat) (x0a x0b x0c x0d x0e : SVal) : bodyE P H T k 150 [(.agg [x0a, x0b, x0c, x0d, x0e])] = R150 T k x0a x0b x0c x0d x0e := by kernel_rfl
noncomputable def D150 (T : TT) (k : Nat) : List SVal → Option Res
  | [(.agg [x0a, x0b, x0c, x0d, x0e])] => R150 T k x0a x0b x0c x0d x0e
  | a => bodyE P H T k 150 a
theorem d150 (T : TT) (k : Nat) (a : List SVal) : D150 T k a = bodyE P H T k 150 a := by
  unfold D150
  split
  · exact (r150 ..).symm
  · rfl
theorem t150 (k : Nat) (x0a x0b x0c x0d x0e : SVal) : T (k + 1) 150 [(.agg [x0a, x0b, x0c, x0d, x0e])] = R150 (T k) k x0a x0b x0c x0d x0e := (tb k 150 _ rfl).trans (r150 ..)
/-- slices.Sorted[int] -/
def R151 (T : TT) (k : Nat) (x0 : SVal) : Option Res :=
 (T 66 [x0]).bind fun r1 =>
 (T 184 [(.sl 1 true false r1.r.xs)]).bind fun r2 =>
 some { r := (.sl 1 false false ((r2.outs.headD .undef).xs)) }
theorem r151 (T : TT) (k : Nat) (x0 : SVal) : bodyE P H T k 151 [x0] = R151 T k x0 := by kernel_rfl
noncomputable def D151 (T : TT) (k : Nat) : List SVal → Option Res
  | [x0] => R151 T k x0
  | a => bodyE P H T k 151 a
theorem d151 (T : TT) (k : Nat) (a : List SVal) : D151 T k a = bodyE P H T k 151 a := by
  unfold D151
  split
  · exact (r151 ..).symm
  · rfl
theorem t151 (k : Nat) (x0 : SVal) : T (k + 1) 151 [x0] = R151 (T k) k x0 := (tb k 151 _ rfl).trans (r151 ..)
/-- slices.Values[[]int,int] -/
def R152 (T : TT) (k : Nat) (x0 : SVal) : Option Res :=
 if (oneS x0) = true then
 some { r := (.fn 185 [(.rp [x0])]) }
 else none
theorem r152 (T : TT) (k : Nat) (x0 : SVal) : bodyE P H T k 152 [x0] = R152 T k x0 := by kernel_rfl
noncomputable def D152 (T : TT) (k : Nat) : List SVal → Option Res
  | [x0] => R152 T k x0
  | a => bodyE P H T k 152 a
theorem d152 (T : TT) (k : Nat) (a : List SVal) : D152 T k a = bodyE P H T k 152 a := by
  unfold D152
  split
  · exact (r152 ..).symm
  · rfl
theorem t152 (k : Nat) (x0 : SVal) : T (k + 1) 152 [x0] = R152 (T k) k x0 := (tb k 152 _ rfl).trans (r152 ..)
/-- slices.Equal[[]int,int] -/
def R154 (T : TT) (k : Nat) (x0 x1 : SVal) : Option Res :=
 (sLen x0).bind fun r1 =>
 (sLen x1).bind fun r2 =>
 (sBin .neq r1 r2).bind fun r3 =>
 pickC r3
 (some { r := (.bool false) })
 ((sLen x0).bind fun r4 =>
 loopN (fun s5 next5 =>
 (sBin .lss s5.k3 s5.k2).bind fun r6 =>
 pickC r6
 ((sIdx false 1 s5.k0 s5.k3).bind fun e7 =>
 (sIdx false 1 s5.k1 s5.k3).bind fun e8 =>
 (sBin .neq e7 e8).bind fun r9 =>
 pickC r9
 (some { r := (.bool false) })
 ((sBin .add s5.k3 (.int .i64 1)).bind fun r10 =>
 next5 ⟨[(weak s5.k0), (weak s5.k1), s5.k2, r10], [], false⟩))
 (some { r := (.bool true) })) k ⟨[(weak x0), (weak x1), r4, (.int .i64 0)], [], false⟩)
theorem r154 (T : TT) (k : Nat) (x0 x1 : SVal) : bodyE P H T k 154 [x0, x1] = R154 T k x0 x1 := by kernel_rfl
noncomputable def D154 (T : TT) (k : Nat) : List SVal → Option Res
  | [x0, x1] => R154 T k x0 x1
  | a => bodyE P H T k 154 a
theorem d154 (T : TT) (k : Nat) (a : List SVal) : D154 T k a = bodyE P H T k 154 a := by
  unfold D154
  split
  · exact (r154 ..).symm
  · rfl
theorem t154 (k : Nat) (x0 x1 : SVal) : T (k + 1) 154 [x0, x1] = R154 (T k) k x0 x1 := (tb k 154 _ rfl).trans (r154 ..)
/-- limelight/tabs.one -/
def R155 (T : TT) (k : Nat) (x0a x0b x0c x0d x0e x1 : SVal) : Option Res :=
 (T 45 [(.agg [(weak x0a), (weak x0b), (weak x0c), (weak x0d), (weak x0e)]), x1]).bind fun r1 =>
 guardX r1.r true
 ((notTup x1).bind fun y2 =>
 both
 ((T 109 [(.agg [(weak x0a), (weak x0b), (weak x0c), (weak x0d), (weak x0e)]), x1, .yld]).bind fun r3 =>
 both
 (some { r := r3.r, out := (([] ++ [y2]) ++ r3.out) })
 (some { r := (.bool false) }))
 (some { r := (.bool false) }))
 ((T 109 [(.agg [(weak x0a), (weak x0b), (weak x0c), (weak x0d), (weak x0e)]), x1, .yld]).bind fun r4 =>
 both
 (some { r := r4.r, out := ([] ++ r4.out) })
 (some { r := (.bool false) }))
 (none)
theorem r155 (T : TT) (k : Nat) (x0a x0b x0c x0d x0e x1 : SVal) : bodyE P H T k 155 [(.agg [x0a, x0b, x0c, x0d, x0e]), x1, .yld] = R155 T k x0a x0b x0c x0d x0e x1 := by kernel_rfl
noncomputable def D155 (T : TT) (k : Nat) : List SVal → Option Res
  | [(.agg [x0a, x0b, x0c, x0d, x0e]), x1, .yld] => R155 T k x0a x0b x0c x0d x0e x1
  | a => bodyE P H T k 155 a
theorem d155 (T : TT) (k : Nat) (a : List SVal) : D155 T k a = bodyE P H T k 155 a := by
  unfold D155
  split
  · exact (r155 ..).symm
  · rfl
theorem t155 (k : Nat) (x0a x0b x0c x0d x0e x1 : SVal) : T (k + 1) 155 [(.agg [x0a, x0b, x0c, x0d, x0e]), x1, .yld] = R155 (T k) k x0a x0b x0c x0d x0e x1 := (tb k 155 _ rfl).trans (r155 ..)
/-- limelight/order.all -/
def R156 (T : TT) (k : Nat) (x0 x1 : SVal) : Option Res :=
 if (oneS x0) = true then
 ((T 105 [(weak x0)]).bind fun r1 =>
 (sBin .eql r1.r (.int .i64 0)).bind fun r2 =>
 guardX r2 true
 ((T 187 [(weak x1), (.fn 188 [(.rp [x0])])]).bind fun r3 =>
 (sNot r3.r).bind fun r4 =>
 (asB r4).bind fun b5 =>
 some [b5])
 (some [false])
 (none)).bind fun vs6 =>
 some { r := (.bool (vs6.getD 0 false)) }
 else none
theorem r156 (T : TT) (k : Nat) (x0 x1 : SVal) : bodyE P H T k 156 [x0, x1] = R156 T k x0 x1 := by kernel_rfl
noncomputable def D156 (T : TT) (k : Nat) : List SVal → Option Res
  | [x0, x1] => R156 T k x0 x1
  | a => bodyE P H T k 156 a
theorem d156 (T : TT) (k : Nat) (a : List SVal) : D156 T k a = bodyE P H T k 156 a := by
  unfold D156
  split
  · exact (r156 ..).symm
  · rfl
theorem t156 (k : Nat) (x0 x1 : SVal) : T (k + 1) 156 [x0, x1] = R156 (T k) k x0 x1 := (tb k 156 _ rfl).trans (r156 ..)
/-- limelight/order.up -/
def R157 (T : TT) (k : Nat) (x0 x1 : SVal) : Option Res :=
 if (oneS x0) = true then
 if (oneS x1) = true then
 some { r := (.fn 189 [(.mb [x1]), (.rp [x0])]) }
 else none
 else none
theorem r157 (T : TT) (k : Nat) (x0 x1 : SVal) : bodyE P H T k 157 [x0, x1] = R157 T k x0 x1 := by kernel_rfl
noncomputable def D157 (T : TT) (k : Nat) : List SVal → Option Res
  | [x0, x1] => R157 T k x0 x1
  | a => bodyE P H T k 157 a
theorem d157 (T : TT) (k : Nat) (a : List SVal) : D157 T k a = bodyE P H T k 157 a := by
  unfold D157
  split
  · exact (r157 ..).symm
  · rfl
theorem t157 (k : Nat) (x0 x1 : SVal) : T (k + 1) 157 [x0, x1] = R157 (T k) k x0 x1 := (tb k 157 _ rfl).trans (r157 ..)
/-- limelight/slots.is -/
def R158 (T : TT) (k : Nat) (x0 x1 : SVal) : Option Res :=
 (T 119 [(weak x0), x1]).bind fun r1 =>
 (sBin .neq r1.r (.int .i64 (-1))).bind fun r2 =>
 some { r := r2 }
theorem r158 (T : TT) (k : Nat) (x0 x1 : SVal) : bodyE P H T k 158 [x0, x1] = R158 T k x0 x1 := by kernel_rfl
noncomputable def D158 (T : TT) (k : Nat) : List SVal → Option Res
  | [x0, x1] => R158 T k x0 x1
  | a => bodyE P H T k 158 a
theorem d158 (T : TT) (k : Nat) (a : List SVal) : D158 T k a = bodyE P H T k 158 a := by
  unfold D158
  split
  · exact (r158 ..).symm
  · rfl
theorem t158 (k : Nat) (x0 x1 : SVal) : T (k + 1) 158 [x0, x1] = R158 (T k) k x0 x1 := (tb k 158 _ rfl).trans (r158 ..)
/-- limelight/slots.slot -/
def R159 (T : TT) (k : Nat) (x0 x1 : SVal) : Option Res :=
 ((sIdx true 7 x0 x1).bind fun e1 =>
 (sBin .eql (SVal.cell e1 0) (.int .i64 1)).bind fun r2 =>
 guardX r2 true
 ((sIdx true 7 x0 x1).bind fun e3 =>
 (sBin .eql (SVal.cell e3 1) (.int .i64 3)).bind fun r4 =>
 guardX r4 true
 ((T 117 [(weak x0), x1]).bind fun r5 =>
 (sBin .neq r5.r (.int .i64 (-1))).bind fun r6 =>
 (asB r6).bind fun b7 =>
 some [b7])
 (some [false])
 (none))
 (some [false])
 (none)).bind fun vs8 =>
 some { r := (.bool (vs8.getD 0 false)) }
theorem r159 (T : TT) (k : Nat) (x0 x1 : SVal) : bodyE P H T k 159 [x0, x1] = R159 T k x0 x1 := by kernel_rfl
noncomputable def D159 (T : TT) (k : Nat) : List SVal → Option Res
  | [x0, x1] => R159 T k x0 x1
  | a => bodyE P H T k 159 a
theorem d159 (T : TT) (k : Nat) (a : List SVal) : D159 T k a = bodyE P H T k 159 a := by
  unfold D159
  split
  · exact (r159 ..).symm
  · rfl
theorem t159 (k : Nat) (x0 x1 : SVal) : T (k + 1) 159 [x0, x1] = R159 (T k) k x0 x1 := (tb k 159 _ rfl).trans (r159 ..)
/-- slices.DeleteFunc[[]int,int] -/
def R160 (T : TT) (k : Nat) (x0 : List SVal) (x1 : SVal) : Option Res :=
 (T 53 [(.sl 1 false false x0), x1]).bind fun r1 =>
 if isSc1 r1.r = true then
 (sBin .eql r1.r (.int .i64 (-1))).bind fun r2 =>
 pickC r2
 (some { r := (.sl 1 true false x0) })
 ((sBin .add r1.r (.int .i64 1)).bind fun r3 =>
 loopN (fun s4 next4 =>
 (sBin .lss s4.k3 (.int .i64 (s4.k0.xs.length : Nat))).bind fun r5 =>
 pickC r5
 ((sIn s4.k0.xs.length s4.k3).bind fun j6 =>
 (s4.k0.xs[j6]?).bind fun e7 =>
 if (elemOk false 1 e7) = true then
 (callV H T s4.k1 [e7]).bind fun y8 =>
 (sNot y8).bind fun r9 =>
 pickC r9
 ((sIn s4.k0.xs.length s4.k2).bind fun j10 =>
 (s4.k0.xs[j10]?).bind fun e11 =>
 if (elemOk false 1 e11) = true then
 if (oneS e7) = true then
 (sBin .add s4.k2 (.int .i64 1)).bind fun r12 =>
 (sBin .add s4.k3 (.int .i64 1)).bind fun r13 =>
 next4 ⟨[(.sl 1 true false (s4.k0.xs.set j10 e7)), s4.k1, r12, r13], [], false⟩
 else none
 else none)
 ((sBin .add s4.k3 (.int .i64 1)).bind fun r14 =>
 next4 ⟨[(.sl 1 true false s4.k0.xs), s4.k1, s4.k2, r14], [], false⟩)
 else none)
 ((sBnd s4.k0.xs.length s4.k2).bind fun n15 =>
 if n15 ≤ s4.k0.xs.length then
 (sBnd (s4.k0.xs.take n15 ++ List.replicate (s4.k0.xs.length - n15) (int 0)).length s4.k2).bind fun n16 =>
 some { r := (.sl 1 true false ((s4.k0.xs.take n15 ++ List.replicate (s4.k0.xs.length - n15) (int 0)).take n16)) }
 else none)) k ⟨[(.sl 1 true false x0), x1, r1.r, r3], [], false⟩)
 else none
theorem r160 (T : TT) (k : Nat) (x0 : List SVal) (x1 : SVal) : bodyE P H T k 160 [(.sl 1 true false x0), x1] = R160 T k x0 x1 := by kernel_rfl
noncomputable def D160 (T : TT) (k : Nat) : List SVal → Option Res
  | [(.sl 1 true false x0), x1] => R160 T k x0 x1
  | a => bodyE P H T k 160 a
theorem d160 (T : TT) (k : Nat) (a : List SVal) : D160 T k a = bodyE P H T k 160 a := by
  unfold D160
  split
  · exact (r160 ..).symm
  · rfl
theorem t160 (k : Nat) (x0 : List SVal) (x1 : SVal) : T (k + 1) 160 [(.sl 1 true false x0), x1] = R160 (T k) k x0 x1 := (tb k 160 _ rfl).trans (r160 ..)
/-- limelight/slots.Assigned$1 -/
def R161 (T : TT) (k : Nat) (x0 x1 x2 : SVal) : Option Res :=
 (T 162 [(weak x1), x0]).bind fun r1 =>
 (sBin .neq r1.r x2).bind fun r2 =>
 some { r := r2 }
theorem r161 (T : TT) (k : Nat) (x0 x1 x2 : SVal) : bodyE P H T k 161 [x0, (.rp [x1]), (.rp [x2])] = R161 T k x0 x1 x2 := by kernel_rfl
noncomputable def D161 (T : TT) (k : Nat) : List SVal → Option Res
  | [x0, (.rp [x1]), (.rp [x2])] => R161 T k x0 x1 x2
  | a => bodyE P H T k 161 a
theorem d161 (T : TT) (k : Nat) (a : List SVal) : D161 T k a = bodyE P H T k 161 a := by
  unfold D161
  split
  · exact (r161 ..).symm
  · rfl
theorem t161 (k : Nat) (x0 x1 x2 : SVal) : T (k + 1) 161 [x0, (.rp [x1]), (.rp [x2])] = R161 (T k) k x0 x1 x2 := (tb k 161 _ rfl).trans (r161 ..)
/-- limelight/slots.Of -/
def R162 (T : TT) (k : Nat) (x0 x1 : SVal) : Option Res :=
 if (oneS x0) = true then
 (T 190 [(weak x0), x1]).bind fun r1 =>
 (sBin .eql r1.r (.int .i64 (-1))).bind fun r2 =>
 pickC r2
 (some { r := (.int .i64 (-1)) })
 ((T 55 [(weak x0), x1, (.int .i64 9)]).bind fun r3 =>
 if (oneS r3.r.c0) = true then
 if (oneS r3.r.c1) = true then
 (T 181 [(weak x0), r1.r, (.int .i64 8)]).bind fun r4 =>
 if (oneS r4.r) = true then
 (T 191 [(weak x0), x1]).bind fun r5 =>
 if (oneS r5.r) = true then
 (T 192 [(weak x0), r1.r]).bind fun r6 =>
 (callIt T r6.r).bind fun ys7 =>
 rangeN (fun s8 y8 next8 =>
 (notTup y8).bind fun z9 =>
 (guardX (SVal.cell s8.k4 0) true
 (guardX (SVal.cell s8.k3 0) true
 ((sBin .eql z9 (SVal.cell s8.k2 0)).bind fun r10 =>
 guardX r10 false
 ((sNot (SVal.cell s8.k4 0)).bind fun r11 =>
 guardX r11 true
 ((T 191 [(weak (SVal.cell s8.k0 0)), z9]).bind fun r12 =>
 (sBin .eql r12.r (SVal.cell s8.k5 0)).bind fun r13 =>
 (asB r13).bind fun b14 =>
 some [b14])
 (some [false])
 (none))
 (some [true])
 (none))
 ((sNot (SVal.cell s8.k4 0)).bind fun r15 =>
 guardX r15 true
 ((T 191 [(weak (SVal.cell s8.k0 0)), z9]).bind fun r16 =>
 (sBin .eql r16.r (SVal.cell s8.k5 0)).bind fun r17 =>
 (asB r17).bind fun b18 =>
 some [b18])
 (some [false])
 (none))
 (none))
 ((sNot (SVal.cell s8.k4 0)).bind fun r19 =>
 guardX r19 true
 ((T 191 [(weak (SVal.cell s8.k0 0)), z9]).bind fun r20 =>
 (sBin .eql r20.r (SVal.cell s8.k5 0)).bind fun r21 =>
 (asB r21).bind fun b22 =>
 some [b22])
 (some [false])
 (none))
 (none)).bind fun vs23 =>
 pickC (.bool (vs23.getD 0 false))
 (if (oneS z9) = true then
 some { r := z9 }
 else none)
 (next8 ⟨[(.rp [(SVal.cell s8.k0 0)]), (.mb [s8.k1.c0]), (.rp [(SVal.cell s8.k2 0)]), (.rp [(SVal.cell s8.k3 0)]), (.rp [(SVal.cell s8.k4 0)]), (.rp [(SVal.cell s8.k5 0)])], [], false⟩)) (fun s24 =>
 some { r := (.int .i64 (-1)) }) ys7 ⟨[(.rp [x0]), (.mb [(.int .i64 0)]), (.rp [r3.r.c0]), (.rp [r3.r.c1]), (.rp [r4.r]), (.rp [r5.r])], [], false⟩
 else none
 else none
 else none
 else none)
 else none
theorem r162 (T : TT) (k : Nat) (x0 x1 : SVal) : bodyE P H T k 162 [x0, x1] = R162 T k x0 x1 := by kernel_rfl
noncomputable def D162 (T : TT) (k : Nat) : List SVal → Option Res
  | [x0, x1] => R162 T k x0 x1
  | a => bodyE P H T k 162 a
theorem d162 (T : TT) (k : Nat) (a : List SVal) : D162 T k a = bodyE P H T k 162 a := by
  unfold D162
  split
  · exact (r162 ..).symm
  · rfl
theorem t162 (k : Nat) (x0 x1 : SVal) : T (k + 1) 162 [x0, x1] = R162 (T k) k x0 x1 := (tb k 162 _ rfl).trans (r162 ..)
/-- (limelight/area.node).tag -/
def R163 (T : TT) (k : Nat) (x0a x0b x0c x0d x0e x0f x1 : SVal) : Option Res :=
 (sIdx true 7 x0a x0f).bind fun e1 =>
 if (allOne [.v (SVal.cell e1 0), .v (SVal.cell e1 1), .v (SVal.cell e1 2), .v (SVal.cell e1 3), .v (SVal.cell e1 4), .v (SVal.cell e1 5), .v (SVal.cell e1 6)]) = true then
 ((sBin .eql (SVal.cell e1 0) (.int .i64 1)).bind fun r2 =>
 guardX r2 true
 ((sBin .eql (SVal.cell e1 1) x1).bind fun r3 =>
 (asB r3).bind fun b4 =>
 some [b4])
 (some [false])
 (none)).bind fun vs5 =>
 some { r := (.bool (vs5.getD 0 false)) }
 else none
theorem r163 (T : TT) (k : Nat) (x0a x0b x0c x0d x0e x0f x1 : SVal) : bodyE P H T k 163 [(.agg [x0a, x0b, x0c, x0d, x0e, x0f]), x1] = R163 T k x0a x0b x0c x0d x0e x0f x1 := by kernel_rfl
noncomputable def D163 (T : TT) (k : Nat) : List SVal → Option Res
  | [(.agg [x0a, x0b, x0c, x0d, x0e, x0f]), x1] => R163 T k x0a x0b x0c x0d x0e x0f x1
  | a => bodyE P H T k 163 a
theorem d163 (T : TT) (k : Nat) (a : List SVal) : D163 T k a = bodyE P H T k 163 a := by
  unfold D163
  split
  · exact (r163 ..).symm
  · rfl
theorem t163 (k : Nat) (x0a x0b x0c x0d x0e x0f x1 : SVal) : T (k + 1) 163 [(.agg [x0a, x0b, x0c, x0d, x0e, x0f]), x1] = R163 (T k) k x0a x0b x0c x0d x0e x0f x1 := (tb k 163 _ rfl).trans (r163 ..)
/-- slices.ContainsFunc[[]func() bool,func() bool] -/
def R164 (T : TT) (k : Nat) (x0 x1 : SVal) : Option Res :=
 (T 193 [(weak x0), x1]).bind fun r1 =>
 (sBin .geq r1.r (.int .i64 0)).bind fun r2 =>
 some { r := r2 }
theorem r164 (T : TT) (k : Nat) (x0 x1 : SVal) : bodyE P H T k 164 [x0, x1] = R164 T k x0 x1 := by kernel_rfl
noncomputable def D164 (T : TT) (k : Nat) : List SVal → Option Res
  | [x0, x1] => R164 T k x0 x1
  | a => bodyE P H T k 164 a
theorem d164 (T : TT) (k : Nat) (a : List SVal) : D164 T k a = bodyE P H T k 164 a := by
  unfold D164
  split
  · exact (r164 ..).symm
  · rfl
theorem t164 (k : Nat) (x0 x1 : SVal) : T (k + 1) 164 [x0, x1] = R164 (T k) k x0 x1 := (tb k 164 _ rfl).trans (r164 ..)
/-- (limelight/area.node).plain -/
def R165 (T : TT) (k : Nat) (x0a x0b x0c x0d x0e x0f : SVal) : Option Res :=
 (T 123 [(.agg [(weak x0a), (weak x0b), (weak x0c), (weak x0d), (weak x0e), x0f])]).bind fun r1 =>
 (sNot r1.r.c1).bind fun r2 =>
 some { r := r2 }
theorem r165 (T : TT) (k : Nat) (x0a x0b x0c x0d x0e x0f : SVal) : bodyE P H T k 165 [(.agg [x0a, x0b, x0c, x0d, x0e, x0f])] = R165 T k x0a x0b x0c x0d x0e x0f := by kernel_rfl
noncomputable def D165 (T : TT) (k : Nat) : List SVal → Option Res
  | [(.agg [x0a, x0b, x0c, x0d, x0e, x0f])] => R165 T k x0a x0b x0c x0d x0e x0f
  | a => bodyE P H T k 165 a
theorem d165 (T : TT) (k : Nat) (a : List SVal) : D165 T k a = bodyE P H T k 165 a := by
  unfold D165
  split
  · exact (r165 ..).symm
  · rfl
theorem t165 (k : Nat) (x0a x0b x0c x0d x0e x0f : SVal) : T (k + 1) 165 [(.agg [x0a, x0b, x0c, x0d, x0e, x0f])] = R165 (T k) k x0a x0b x0c x0d x0e x0f := (tb k 165 _ rfl).trans (r165 ..)
/-- (limelight/area.node).disabled -/
def R166 (T : TT) (k : Nat) (x0a x0b x0c x0d x0e x0f : SVal) : Option Res :=
 ((T 163 [(.agg [(weak x0a), (weak x0b), (weak x0c), (weak x0d), (weak x0e), x0f]), (.int .i64 1)]).bind fun r1 =>
 guardX r1.r true
 ((T 181 [(weak x0a), x0f, (.int .i64 1)]).bind fun r2 =>
 (asB r2.r).bind fun b3 =>
 some [b3])
 (some [false])
 (none)).bind fun vs4 =>
 some { r := (.bool (vs4.getD 0 false)) }
theorem r166 (T : TT) (k : Nat) (x0a x0b x0c x0d x0e x0f : SVal) : bodyE P H T k 166 [(.agg [x0a, x0b, x0c, x0d, x0e, x0f])] = R166 T k x0a x0b x0c x0d x0e x0f := by kernel_rfl
noncomputable def D166 (T : TT) (k : Nat) : List SVal → Option Res
  | [(.agg [x0a, x0b, x0c, x0d, x0e, x0f])] => R166 T k x0a x0b x0c x0d x0e x0f
  | a => bodyE P H T k 166 a
theorem d166 (T : TT) (k : Nat) (a : List SVal) : D166 T k a = bodyE P H T k 166 a := by
  unfold D166
  split
  · exact (r166 ..).symm
  · rfl
theorem t166 (k : Nat) (x0a x0b x0c x0d x0e x0f : SVal) : T (k + 1) 166 [(.agg [x0a, x0b, x0c, x0d, x0e, x0f])] = R166 (T k) k x0a x0b x0c x0d x0e x0f := (tb k 166 _ rfl).trans (r166 ..)
/-- (limelight/area.node).delegates -/
def R167 (T : TT) (k : Nat) (x0a x0b x0c x0d x0e x0f : SVal) : Option Res :=
 (sIdx true 7 x0a x0f).bind fun e1 =>
 ((sBin .neq (SVal.cell e1 5) (.int .i64 (-1))).bind fun r2 =>
 guardX r2 true
 ((T 181 [(weak x0a), (SVal.cell e1 5), (.int .i64 7)]).bind fun r3 =>
 (asB r3.r).bind fun b4 =>
 some [b4])
 (some [false])
 (none)).bind fun vs5 =>
 some { r := (.bool (vs5.getD 0 false)) }
theorem r167 (T : TT) (k : Nat) (x0a x0b x0c x0d x0e x0f : SVal) : bodyE P H T k 167 [(.agg [x0a, x0b, x0c, x0d, x0e, x0f])] = R167 T k x0a x0b x0c x0d x0e x0f := by kernel_rfl
noncomputable def D167 (T : TT) (k : Nat) : List SVal → Option Res
  | [(.agg [x0a, x0b, x0c, x0d, x0e, x0f])] => R167 T k x0a x0b x0c x0d x0e x0f
  | a => bodyE P H T k 167 a
theorem d167 (T : TT) (k : Nat) (a : List SVal) : D167 T k a = bodyE P H T k 167 a := by
  unfold D167
  split
  · exact (r167 ..).symm
  · rfl
theorem t167 (k : Nat) (x0a x0b x0c x0d x0e x0f : SVal) : T (k + 1) 167 [(.agg [x0a, x0b, x0c, x0d, x0e, x0f])] = R167 (T k) k x0a x0b x0c x0d x0e x0f := (tb k 167 _ rfl).trans (r167 ..)
/-- (limelight/area.node).unseen -/
def R168 (T : TT) (k : Nat) (x0a x0b x0c x0d x0e x0f : SVal) : Option Res :=
 (T 194 [(.agg [(weak x0a), (weak x0b), (weak x0c), (weak x0d), (weak x0e)]), x0f]).bind fun r1 =>
 (sNot r1.r).bind fun r2 =>
 some { r := r2 }
theorem r168 (T : TT) (k : Nat) (x0a x0b x0c x0d x0e x0f : SVal) : bodyE P H T k 168 [(.agg [x0a, x0b, x0c, x0d, x0e, x0f])] = R168 T k x0a x0b x0c x0d x0e x0f := by kernel_rfl
noncomputable def D168 (T : TT) (k : Nat) : List SVal → Option Res
  | [(.agg [x0a, x0b, x0c, x0d, x0e, x0f])] => R168 T k x0a x0b x0c x0d x0e x0f
  | a => bodyE P H T k 168 a
theorem d168 (T : TT) (k : Nat) (a : List SVal) : D168 T k a = bodyE P H T k 168 a := by
  unfold D168
  split
  · exact (r168 ..).symm
  · rfl
theorem t168 (k : Nat) (x0a x0b x0c x0d x0e x0f : SVal) : T (k + 1) 168 [(.agg [x0a, x0b, x0c, x0d, x0e, x0f])] = R168 (T k) k x0a x0b x0c x0d x0e x0f := (tb k 168 _ rfl).trans (r168 ..)
/-- (limelight/area.node).inert -/
def R169 (T : TT) (k : Nat) (x0a x0b x0c x0d x0e x0f : SVal) : Option Res :=
 (T 195 [(.agg [(weak x0a), (weak x0b), (weak x0c), (weak x0d), (weak x0e)]), x0f]).bind fun r1 =>
 some { r := r1.r }
theorem r169 (T : TT) (k : Nat) (x0a x0b x0c x0d x0e x0f : SVal) : bodyE P H T k 169 [(.agg [x0a, x0b, x0c, x0d, x0e, x0f])] = R169 T k x0a x0b x0c x0d x0e x0f := by kernel_rfl
noncomputable def D169 (T : TT) (k : Nat) : List SVal → Option Res
  | [(.agg [x0a, x0b, x0c, x0d, x0e, x0f])] => R169 T k x0a x0b x0c x0d x0e x0f
  | a => bodyE P H T k 169 a
theorem d169 (T : TT) (k : Nat) (a : List SVal) : D169 T k a = bodyE P H T k 169 a := by
  unfold D169
  split
  · exact (r169 ..).symm
  · rfl
theorem t169 (k : Nat) (x0a x0b x0c x0d x0e x0f : SVal) : T (k + 1) 169 [(.agg [x0a, x0b, x0c, x0d, x0e, x0f])] = R169 (T k) k x0a x0b x0c x0d x0e x0f := (tb k 169 _ rfl).trans (r169 ..)
/-- (limelight/area.node).is$1 -/
def R170 (T : TT) (k : Nat) (x0 : SVal) : Option Res :=
 (callV H T x0 []).bind fun y1 =>
 some { r := y1 }
theorem r170 (T : TT) (k : Nat) (x0 : SVal) : bodyE P H T k 170 [x0] = R170 T k x0 := by kernel_rfl
noncomputable def D170 (T : TT) (k : Nat) : List SVal → Option Res
  | [x0] => R170 T k x0
  | a => bodyE P H T k 170 a
theorem d170 (T : TT) (k : Nat) (a : List SVal) : D170 T k a = bodyE P H T k 170 a := by
  unfold D170
  split
  · exact (r170 ..).symm
  · rfl
theorem t170 (k : Nat) (x0 : SVal) : T (k + 1) 170 [x0] = R170 (T k) k x0 := (tb k 170 _ rfl).trans (r170 ..)
/-- slices.rotateCmpFunc[int] -/
def R171 (T : TT) (k : Nat) (x0 : List SVal) (x1 x2 x3 x4 : SVal) : Option Res :=
 (sBin .sub x2 x1).bind fun r1 =>
 (sBin .sub x3 x2).bind fun r2 =>
 loopN (fun s3 next3 =>
 (sBin .neq s3.k3 s3.k4).bind fun r4 =>
 pickC r4
 ((sBin .gtr s3.k3 s3.k4).bind fun r5 =>
 pickC r5
 ((sBin .sub s3.k1 s3.k3).bind fun r6 =>
 (T 196 [(.sl 1 true false s3.k0.xs), r6, s3.k1, s3.k4, s3.k2]).bind fun r7 =>
 (sBin .sub s3.k3 s3.k4).bind fun r8 =>
 next3 ⟨[(.sl 1 true false ((r7.outs.headD .undef).xs)), s3.k1, s3.k2, r8, s3.k4], [], false⟩)
 ((sBin .sub s3.k1 s3.k3).bind fun r9 =>
 (sBin .add s3.k1 s3.k4).bind fun r10 =>
 (sBin .sub r10 s3.k3).bind fun r11 =>
 (T 196 [(.sl 1 true false s3.k0.xs), r9, r11, s3.k3, s3.k2]).bind fun r12 =>
 (sBin .sub s3.k4 s3.k3).bind fun r13 =>
 next3 ⟨[(.sl 1 true false ((r12.outs.headD .undef).xs)), s3.k1, s3.k2, s3.k3, r13], [], false⟩))
 ((sBin .sub s3.k1 s3.k3).bind fun r14 =>
 (T 196 [(.sl 1 true false s3.k0.xs), r14, s3.k1, s3.k3, s3.k2]).bind fun r15 =>
 some { r := (.tup []), outs := [(.sl 1 true false ((r15.outs.headD .undef).xs))] })) k ⟨[(.sl 1 true false x0), x2, x4, r1, r2], [], false⟩
theorem r171 (T : TT) (k : Nat) (x0 : List SVal) (x1 x2 x3 x4 : SVal) : bodyE P H T k 171 [(.sl 1 true false x0), x1, x2, x3, x4] = R171 T k x0 x1 x2 x3 x4 := by kernel_rfl
noncomputable def D171 (T : TT) (k : Nat) : List SVal → Option Res
  | [(.sl 1 true false x0), x1, x2, x3, x4] => R171 T k x0 x1 x2 x3 x4
  | a => bodyE P H T k 171 a
theorem d171 (T : TT) (k : Nat) (a : List SVal) : D171 T k a = bodyE P H T k 171 a := by
  unfold D171
  split
  · exact (r171 ..).symm
  · rfl
theorem t171 (k : Nat) (x0 : List SVal) (x1 x2 x3 x4 : SVal) : T (k + 1) 171 [(.sl 1 true false x0), x1, x2, x3, x4] = R171 (T k) k x0 x1 x2 x3 x4 := (tb k 171 _ rfl).trans (r171 ..)
/-- limelight/limelightref01.value -/
def R172 (T : TT) (k : Nat) (x0 x1 : SVal) : Option Res :=
 (sBin .eql x0 (.int .i64 0)).bind fun r1 =>
 pickC r1
 (((sBin .geq x1 (.int .i64 (-2147483648))).bind fun r2 =>
 guardX r2 true
 ((sBin .lss x1 (.int .i64 2147483648)).bind fun r3 =>
 (asB r3).bind fun b4 =>
 some [b4])
 (some [false])
 (none)).bind fun vs5 =>
 some { r := (.bool (vs5.getD 0 false)) })
 ((sBin .eql x0 (.int .i64 4)).bind fun r6 =>
 pickC r6
 (((sBin .geq x1 (.int .i64 0)).bind fun r7 =>
 guardX r7 true
 ((sBin .lss x1 (.int .i64 2147483648)).bind fun r8 =>
 (asB r8).bind fun b9 =>
 some [b9])
 (some [false])
 (none)).bind fun vs10 =>
 some { r := (.bool (vs10.getD 0 false)) })
 ((sBin .eql x0 (.int .i64 6)).bind fun r11 =>
 pickC r11
 (((sBin .geq x1 (.int .i64 1)).bind fun r12 =>
 guardX r12 true
 ((sBin .leq x1 (.int .i64 3)).bind fun r13 =>
 (asB r13).bind fun b14 =>
 some [b14])
 (some [false])
 (none)).bind fun vs15 =>
 some { r := (.bool (vs15.getD 0 false)) })
 ((sBin .eql x0 (.int .i64 9)).bind fun r16 =>
 pickC r16
 (((sBin .geq x1 (.int .i64 0)).bind fun r17 =>
 guardX r17 true
 ((sBin .leq x1 (.int .i64 63)).bind fun r18 =>
 (asB r18).bind fun b19 =>
 some [b19])
 (some [false])
 (none)).bind fun vs20 =>
 some { r := (.bool (vs20.getD 0 false)) })
 ((sBin .eql x1 (.int .i64 0)).bind fun r21 =>
 some { r := r21 }))))
theorem r172 (T : TT) (k : Nat) (x0 x1 : SVal) : bodyE P H T k 172 [x0, x1] = R172 T k x0 x1 := by kernel_rfl
theorem t172 (k : Nat) (x0 x1 : SVal) : T (k + 1) 172 [x0, x1] = R172 (T k) k x0 x1 := (tb k 172 _ rfl).trans (r172 ..)
/-- limelight/limelightref04.Above -/
def R173 (T : TT) (k : Nat) (x0 x1 x2 : SVal) : Option Res :=
 (T 197 [(weak x0), x2]).bind fun r1 =>
 (T 27 [(weak r1.r), x1]).bind fun r2 =>
 if isSc1 r2.r = true then
 some { r := r2.r }
 else none
theorem r173 (T : TT) (k : Nat) (x0 x1 x2 : SVal) : bodyE P H T k 173 [x0, x1, x2] = R173 T k x0 x1 x2 := by kernel_rfl
theorem t173 (k : Nat) (x0 x1 x2 : SVal) : T (k + 1) 173 [x0, x1, x2] = R173 (T k) k x0 x1 x2 := (tb k 173 _ rfl).trans (r173 ..)
/-- limelight/flat.over -/
def R174 (T : TT) (k : Nat) (x0 x1 : SVal) : Option Res :=
 (sIdx true 7 x0 x1).bind fun e1 =>
 (sBin .eql (SVal.cell e1 2) (.int .i64 (-1))).bind fun r2 =>
 pickC r2
 (some { r := (.int .i64 (-1)) })
 ((sIdx true 7 x0 (SVal.cell e1 2)).bind fun e3 =>
 (sBin .eql (SVal.cell e3 0) (.int .i64 3)).bind fun r4 =>
 pickC r4
 ((T 117 [(weak x0), x1]).bind fun r5 =>
 some { r := r5.r })
 ((sIdx true 7 x0 (SVal.cell e1 2)).bind fun e6 =>
 (sBin .neq (SVal.cell e6 5) (.int .i64 (-1))).bind fun r7 =>
 pickC r7
 ((T 162 [(weak x0), x1]).bind fun r8 =>
 some { r := r8.r })
 (some { r := (SVal.cell e1 2) })))
theorem r174 (T : TT) (k : Nat) (x0 x1 : SVal) : bodyE P H T k 174 [x0, x1] = R174 T k x0 x1 := by kernel_rfl
noncomputable def D174 (T : TT) (k : Nat) : List SVal → Option Res
  | [x0, x1] => R174 T k x0 x1
  | a => bodyE P H T k 174 a
theorem d174 (T : TT) (k : Nat) (a : List SVal) : D174 T k a = bodyE P H T k 174 a := by
  unfold D174
  split
  · exact (r174 ..).symm
  · rfl
theorem t174 (k : Nat) (x0 x1 : SVal) : T (k + 1) 174 [x0, x1] = R174 (T k) k x0 x1 := (tb k 174 _ rfl).trans (r174 ..)
/-- limelight/limelightref05.Of -/
def R175 (T : TT) (k : Nat) (x0 x1 : SVal) : Option Res :=
 (sIdx true 7 x0 x1).bind fun e1 =>
 (sBin .eql (SVal.cell e1 2) (.int .i64 (-1))).bind fun r2 =>
 pickC r2
 (some { r := (.int .i64 (-1)) })
 ((sIdx true 7 x0 (SVal.cell e1 2)).bind fun e3 =>
 (sBin .eql (SVal.cell e3 5) (.int .i64 (-1))).bind fun r4 =>
 pickC r4
 (some { r := (.int .i64 (-1)) })
 ((T 198 [(weak x0), (SVal.cell e3 5)]).bind fun r5 =>
 (T 131 [(weak x0), (SVal.cell e3 5), (.int .i64 8)]).bind fun r6 =>
 pickC r6.r
 ((T 60 [(weak x0), x1, (.int .i64 9)]).bind fun r7 =>
 (guardX r7.r.c1 true
 ((T 27 [(weak r5.r), r7.r.c0]).bind fun r8 =>
 if isSc1 r8.r = true then
 (asB r8.r).bind fun b9 =>
 some [b9]
 else none)
 (some [false])
 (none)).bind fun vs10 =>
 pickC (.bool (vs10.getD 0 false))
 (some { r := r7.r.c0 })
 (some { r := (.int .i64 (-1)) }))
 (loopN (fun s11 next11 =>
 (sLen s11.k2).bind fun r12 =>
 (sBin .lss s11.k3 r12).bind fun r13 =>
 pickC r13
 ((sIdx false 1 s11.k2 s11.k3).bind fun e14 =>
 (T 199 [(weak s11.k0), e14]).bind fun r15 =>
 (T 199 [(weak s11.k0), s11.k1]).bind fun r16 =>
 (sBin .eql r15.r r16.r).bind fun r17 =>
 pickC r17
 ((sIdx false 1 s11.k2 s11.k3).bind fun e18 =>
 some { r := e18 })
 ((sBin .add s11.k3 (.int .i64 1)).bind fun r19 =>
 next11 ⟨[(weak s11.k0), s11.k1, (weak s11.k2), r19], [], false⟩))
 (some { r := (.int .i64 (-1)) })) k ⟨[(weak x0), x1, (weak r5.r), (.int .i64 0)], [], false⟩)))
theorem r175 (T : TT) (k : Nat) (x0 x1 : SVal) : bodyE P H T k 175 [x0, x1] = R175 T k x0 x1 := by kernel_rfl
theorem t175 (k : Nat) (x0 x1 : SVal) : T (k + 1) 175 [x0, x1] = R175 (T k) k x0 x1 := (tb k 175 _ rfl).trans (r175 ..)
/-- limelight/tree.in -/
def R176 (T : TT) (k : Nat) (x0 x1 x2 : SVal) : Option Res :=
 ((sBin .geq x0 x1).bind fun r1 =>
 guardX r1 true
 ((sBin .leq x0 x2).bind fun r2 =>
 (asB r2).bind fun b3 =>
 some [b3])
 (some [false])
 (none)).bind fun vs4 =>
 some { r := (.bool (vs4.getD 0 false)) }
theorem r176 (T : TT) (k : Nat) (x0 x1 x2 : SVal) : bodyE P H T k 176 [x0, x1, x2] = R176 T k x0 x1 x2 := by kernel_rfl
noncomputable def D176 (T : TT) (k : Nat) : List SVal → Option Res
  | [x0, x1, x2] => R176 T k x0 x1 x2
  | a => bodyE P H T k 176 a
theorem d176 (T : TT) (k : Nat) (a : List SVal) : D176 T k a = bodyE P H T k 176 a := by
  unfold D176
  split
  · exact (r176 ..).symm
  · rfl
theorem t176 (k : Nat) (x0 x1 x2 : SVal) : T (k + 1) 176 [x0, x1, x2] = R176 (T k) k x0 x1 x2 := (tb k 176 _ rfl).trans (r176 ..)
/-- limelight/tree.node -/
def R177 (T : TT) (k : Nat) (x0 x1 : SVal) : Option Res :=
 if (oneS x0) = true then
 if (oneS x1) = true then
 (sIdx true 7 x0 x1).bind fun e1 =>
 if (allOne [.v (SVal.cell e1 0), .v (SVal.cell e1 1), .v (SVal.cell e1 2), .v (SVal.cell e1 3), .v (SVal.cell e1 4), .v (SVal.cell e1 5), .v (SVal.cell e1 6)]) = true then
 ((T 176 [(SVal.cell e1 0), (.int .i64 0), (.int .i64 3)]).bind fun r2 =>
 (sNot r2.r).bind fun r3 =>
 guardX r3 false
 ((sBin .eql (SVal.cell e1 0) (.int .i64 0)).bind fun r4 =>
 (sBin .eql x1 (.int .i64 0)).bind fun r5 =>
 (sBinB .neq r4 r5).bind fun r6 =>
 (asB r6).bind fun b7 =>
 some [b7])
 (some [true])
 (none)).bind fun vs8 =>
 pickC (.bool (vs8.getD 0 false))
 (some { r := (.bool false) })
 (((sBin .eql (SVal.cell e1 0) (.int .i64 1)).bind fun r9 =>
 guardX r9 true
 ((T 176 [(SVal.cell e1 1), (.int .i64 0), (.int .i64 4)]).bind fun r10 =>
 (sNot r10.r).bind fun r11 =>
 guardX r11 false
 ((sBin .neq (SVal.cell e1 0) (.int .i64 1)).bind fun r12 =>
 guardX r12 true
 ((sBin .neq (SVal.cell e1 1) (.int .i64 0)).bind fun r13 =>
 (asB r13).bind fun b14 =>
 some [b14])
 (some [false])
 (none))
 (some [true])
 (none))
 ((sBin .neq (SVal.cell e1 0) (.int .i64 1)).bind fun r15 =>
 guardX r15 true
 ((sBin .neq (SVal.cell e1 1) (.int .i64 0)).bind fun r16 =>
 (asB r16).bind fun b17 =>
 some [b17])
 (some [false])
 (none))
 (none)).bind fun vs18 =>
 pickC (.bool (vs18.getD 0 false))
 (some { r := (.bool false) })
 (((sBin .eql (SVal.cell e1 0) (.int .i64 2)).bind fun r19 =>
 guardX r19 true
 ((sLen (SVal.cell e1 3)).bind fun r20 =>
 (sBin .gtr r20 (.int .i64 0)).bind fun r21 =>
 (asB r21).bind fun b22 =>
 some [b22])
 (some [false])
 (none)).bind fun vs23 =>
 pickC (.bool (vs23.getD 0 false))
 (some { r := (.bool false) })
 (((sBin .neq (SVal.cell e1 2) (.int .i64 (-1))).bind fun r24 =>
 guardX r24 true
 ((T 200 [(weak x0), (SVal.cell e1 2)]).bind fun r25 =>
 (sNot r25.r).bind fun r26 =>
 guardX r26 false
 ((sIdx true 7 x0 (SVal.cell e1 2)).bind fun e27 =>
 (T 201 [(weak (SVal.cell e27 3)), x1]).bind fun r28 =>
 (sNot r28.r).bind fun r29 =>
 (asB r29).bind fun b30 =>
 some [b30])
 (some [true])
 (none))
 (some [false])
 (none)).bind fun vs31 =>
 pickC (.bool (vs31.getD 0 false))
 (some { r := (.bool false) })
 (((T 202 [(.agg [(SVal.cell e1 0), (SVal.cell e1 1), (SVal.cell e1 2), (weak (SVal.cell e1 3)), (SVal.cell e1 4), (SVal.cell e1 5), (weak (SVal.cell e1 6))])]).bind fun r32 =>
 guardX r32.r true
 ((T 203 [(weak x0), x1]).bind fun r33 =>
 guardX r33.r true
 ((T 187 [(weak (SVal.cell e1 3)), (.fn 204 [(.rp [x0]), (.rp [x1])])]).bind fun r34 =>
 (sNot r34.r).bind fun r35 =>
 (asB r35).bind fun b36 =>
 some [b36])
 (some [false])
 (none))
 (some [false])
 (none)).bind fun vs37 =>
 some { r := (.bool (vs37.getD 0 false)) }))))
 else none
 else none
 else none
theorem r177 (T : TT) (k : Nat) (x0 x1 : SVal) : bodyE P H T k 177 [x0, x1] = R177 T k x0 x1 := by kernel_rfl
noncomputable def D177 (T : TT) (k : Nat) : List SVal → Option Res
  | [x0, x1] => R177 T k x0 x1
  | a => bodyE P H T k 177 a
theorem d177 (T : TT) (k : Nat) (a : List SVal) : D177 T k a = bodyE P H T k 177 a := by
  unfold D177
  split
  · exact (r177 ..).symm
  · rfl
theorem t177 (k : Nat) (x0 x1 : SVal) : T (k + 1) 177 [x0, x1] = R177 (T k) k x0 x1 := (tb k 177 _ rfl).trans (r177 ..)
/-- limelight/tree.turns -/
def R178 (T : TT) (k : Nat) (x0 x1 : SVal) : Option Res :=
 (T 206 [(weak x0), x1]).bind fun r1 =>
 (callIt T r1.r).bind fun ys2 =>
 rangeN (fun s3 y3 next3 =>
 (notTup y3).bind fun z4 =>
 (sBin .add s3.k1.c0 (.int .i64 1)).bind fun r5 =>
 if (oneS r5) = true then
 next3 ⟨[(weak s3.k0), (.mb [r5])], [], false⟩
 else none) (fun s6 =>
 (sLen s6.k0).bind fun r7 =>
 (sBin .gtr s6.k1.c0 r7).bind fun r8 =>
 some { r := r8 }) ys2 ⟨[(weak x0), (.mb [(.int .i64 0)])], [], false⟩
theorem r178 (T : TT) (k : Nat) (x0 x1 : SVal) : bodyE P H T k 178 [x0, x1] = R178 T k x0 x1 := by kernel_rfl
noncomputable def D178 (T : TT) (k : Nat) : List SVal → Option Res
  | [x0, x1] => R178 T k x0 x1
  | a => bodyE P H T k 178 a
theorem d178 (T : TT) (k : Nat) (a : List SVal) : D178 T k a = bodyE P H T k 178 a := by
  unfold D178
  split
  · exact (r178 ..).symm
  · rfl
theorem t178 (k : Nat) (x0 x1 : SVal) : T (k + 1) 178 [x0, x1] = R178 (T k) k x0 x1 := (tb k 178 _ rfl).trans (r178 ..)
/-- slices.Grow[[]int,int] -/
noncomputable def R179 (T : TT) (k : Nat) (x1 : SVal) : Option Res :=
 (sBin .lss x1 (.int .i64 0)).bind fun r1 =>
 pickC r1
 (none)
 ((sBin .sub (.int .i64 0) (.int .i64 0)).bind fun r2 =>
 (sBin .sub x1 r2).bind fun r3 =>
 (sBin .gtr r3 (.int .i64 0)).bind fun r4 =>
 pickC r4
 ((sSlice 1 (.sl 1 false true []) none (some (.int .i64 0))).bind fun r5 =>
 (elemsM P 24 3 (.v r5) r3).bind fun ys6 =>
 if isNilS r5 = true then
 if ys6.length * 8 ≤ maxAppend then
 (sBnd ys6.length (.int .i64 0)).bind fun n7 =>
 some { r := (.sl 1 true false (ys6.take n7)) }
 else none
 else none)
 (some { r := (.sl 1 true false []) }))
theorem r179 (T : TT) (k : Nat) (x1 : SVal) : bodyE P H T k 179 [(.sl 1 false true []), x1] = R179 T k x1 := by kernel_rfl
noncomputable def D179 (T : TT) (k : Nat) : List SVal → Option Res
  | [(.sl 1 false true []), x1] => R179 T k x1
  | a => bodyE P H T k 179 a
theorem d179 (T : TT) (k : Nat) (a : List SVal) : D179 T k a = bodyE P H T k 179 a := by
  unfold D179
  split
  · exact (r179 ..).symm
  · rfl
theorem t179 (k : Nat) (x1 : SVal) : T (k + 1) 179 [(.sl 1 false true []), x1] = R179 (T k) k x1 := (tb k 179 _ rfl).trans (r179 ..)
/-- limelight/top.element -/
def R180 (T : TT) (k : Nat) (x0 x1 : SVal) : Option Res :=
 ((T 207 [(weak x0), x1]).bind fun r1 =>
 guardX r1.r true
 ((sIdx true 7 x0 x1).bind fun e2 =>
 (sBin .eql (SVal.cell e2 0) (.int .i64 1)).bind fun r3 =>
 (asB r3).bind fun b4 =>
 some [b4])
 (some [false])
 (none)).bind fun vs5 =>
 some { r := (.bool (vs5.getD 0 false)) }
theorem r180 (T : TT) (k : Nat) (x0 x1 : SVal) : bodyE P H T k 180 [x0, x1] = R180 T k x0 x1 := by kernel_rfl
noncomputable def D180 (T : TT) (k : Nat) : List SVal → Option Res
  | [x0, x1] => R180 T k x0 x1
  | a => bodyE P H T k 180 a
theorem d180 (T : TT) (k : Nat) (a : List SVal) : D180 T k a = bodyE P H T k 180 a := by
  unfold D180
  split
  · exact (r180 ..).symm
  · rfl
theorem t180 (k : Nat) (x0 x1 : SVal) : T (k + 1) 180 [x0, x1] = R180 (T k) k x0 x1 := (tb k 180 _ rfl).trans (r180 ..)
/-- limelight/attr.Has -/
def R181 (T : TT) (k : Nat) (x0 x1 x2 : SVal) : Option Res :=
 (T 55 [(weak x0), x1, x2]).bind fun r1 =>
 some { r := r1.r.c1 }
theorem r181 (T : TT) (k : Nat) (x0 x1 x2 : SVal) : bodyE P H T k 181 [x0, x1, x2] = R181 T k x0 x1 x2 := by kernel_rfl
noncomputable def D181 (T : TT) (k : Nat) : List SVal → Option Res
  | [x0, x1, x2] => R181 T k x0 x1 x2
  | a => bodyE P H T k 181 a
theorem d181 (T : TT) (k : Nat) (a : List SVal) : D181 T k a = bodyE P H T k 181 a := by
  unfold D181
  split
  · exact (r181 ..).symm
  · rfl
theorem t181 (k : Nat) (x0 x1 x2 : SVal) : T (k + 1) 181 [x0, x1, x2] = R181 (T k) k x0 x1 x2 := (tb k 181 _ rfl).trans (r181 ..)
/-- limelight/top.each[limelight/api.Shown,int] -/
def R182 (T : TT) (k : Nat) (x0 x1 : SVal) : Option Res :=
 (sLen x0).bind fun r1 =>
 loopN (fun s2 next2 =>
 (sBin .lss s2.k4 s2.k3).bind fun r3 =>
 pickC r3
 ((sIdx true 2 s2.k2 s2.k4).bind fun e4 =>
 if (allOne [.v (SVal.cell e4 0), .v (SVal.cell e4 1)]) = true then
 (callV H T s2.k0 [(.agg [(SVal.cell e4 0), (SVal.cell e4 1)])]).bind fun y5 =>
 if (List.all [[.v y5]] allOne) = true then
 if (s2.k1.xs.length + ([y5] : List SVal).length) * 8 ≤ maxAppend then
 (sBin .add s2.k4 (.int .i64 1)).bind fun r6 =>
 next2 ⟨[s2.k0, (.sl 1 true false (s2.k1.xs ++ ([y5] : List SVal))), (weak s2.k2), s2.k3, r6], [], false⟩
 else none
 else none
 else none)
 (some { r := (.sl 1 false false s2.k1.xs) })) k ⟨[x1, (.sl 1 true false []), (weak x0), r1, (.int .i64 0)], [], false⟩
theorem r182 (T : TT) (k : Nat) (x0 x1 : SVal) : bodyE P H T k 182 [x0, x1] = R182 T k x0 x1 := by kernel_rfl
noncomputable def D182 (T : TT) (k : Nat) : List SVal → Option Res
  | [x0, x1] => R182 T k x0 x1
  | a => bodyE P H T k 182 a
theorem d182 (T : TT) (k : Nat) (a : List SVal) : D182 T k a = bodyE P H T k 182 a := by
  unfold D182
  split
  · exact (r182 ..).symm
  · rfl
theorem t182 (k : Nat) (x0 x1 : SVal) : T (k + 1) 182 [x0, x1] = R182 (T k) k x0 x1 := (tb k 182 _ rfl).trans (r182 ..)
/-- limelight/top.node -/
def R183 (T : TT) (k : Nat) (x0a x0b : SVal) : Option Res :=
 some { r := x0a }
theorem r183 (T : TT) (k : Nat) (x0a x0b : SVal) : bodyE P H T k 183 [(.agg [x0a, x0b])] = R183 T k x0a x0b := by kernel_rfl
noncomputable def D183 (T : TT) (k : Nat) : List SVal → Option Res
  | [(.agg [x0a, x0b])] => R183 T k x0a x0b
  | a => bodyE P H T k 183 a
theorem d183 (T : TT) (k : Nat) (a : List SVal) : D183 T k a = bodyE P H T k 183 a := by
  unfold D183
  split
  · exact (r183 ..).symm
  · rfl
theorem t183 (k : Nat) (x0a x0b : SVal) : T (k + 1) 183 [(.agg [x0a, x0b])] = R183 (T k) k x0a x0b := (tb k 183 _ rfl).trans (r183 ..)
/-- slices.Values[[]int,int]$1 -/
def R185 (T : TT) (k : Nat) (x1 : SVal) : Option Res :=
 (sLen x1).bind fun r1 =>
 loopN (fun s2 next2 =>
 (sBin .lss s2.k3 s2.k2).bind fun r3 =>
 pickC r3
 ((sIdx false 1 s2.k1 s2.k3).bind fun e4 =>
 if (s2.stop) = true then none else
 (notTup e4).bind fun y5 =>
 both
 ((sBin .add s2.k3 (.int .i64 1)).bind fun r6 =>
 next2 ⟨[.yld, (weak s2.k1), s2.k2, r6], (s2.out ++ [y5]), s2.stop⟩)
 (some { r := (.tup []) }))
 (if (s2.stop) = true then
 some { r := (.tup []) }
 else
 some { r := (.tup []), out := s2.out })) k ⟨[.yld, (weak x1), r1, (.int .i64 0)], [], false⟩
theorem r185 (T : TT) (k : Nat) (x1 : SVal) : bodyE P H T k 185 [.yld, (.rp [x1])] = R185 T k x1 := by kernel_rfl
noncomputable def D185 (T : TT) (k : Nat) : List SVal → Option Res
  | [.yld, (.rp [x1])] => R185 T k x1
  | a => bodyE P H T k 185 a
theorem d185 (T : TT) (k : Nat) (a : List SVal) : D185 T k a = bodyE P H T k 185 a := by
  unfold D185
  split
  · exact (r185 ..).symm
  · rfl
theorem t185 (k : Nat) (x1 : SVal) : T (k + 1) 185 [.yld, (.rp [x1])] = R185 (T k) k x1 := (tb k 185 _ rfl).trans (r185 ..)
/-- slices.ContainsFunc[[]int,int] -/
def R187 (T : TT) (k : Nat) (x0 x1 : SVal) : Option Res :=
 (T 53 [(weak x0), x1]).bind fun r1 =>
 if isSc1 r1.r = true then
 (sBin .geq r1.r (.int .i64 0)).bind fun r2 =>
 some { r := r2 }
 else none
theorem r187 (T : TT) (k : Nat) (x0 x1 : SVal) : bodyE P H T k 187 [x0, x1] = R187 T k x0 x1 := by kernel_rfl
noncomputable def D187 (T : TT) (k : Nat) : List SVal → Option Res
  | [x0, x1] => R187 T k x0 x1
  | a => bodyE P H T k 187 a
theorem d187 (T : TT) (k : Nat) (a : List SVal) : D187 T k a = bodyE P H T k 187 a := by
  unfold D187
  split
  · exact (r187 ..).symm
  · rfl
theorem t187 (k : Nat) (x0 x1 : SVal) : T (k + 1) 187 [x0, x1] = R187 (T k) k x0 x1 := (tb k 187 _ rfl).trans (r187 ..)
/-- limelight/order.all$1 -/
def R188 (T : TT) (k : Nat) (x0 x1 : SVal) : Option Res :=
 ((sBin .lss x0 (.int .i64 0)).bind fun r1 =>
 guardX r1 false
 ((sLen x1).bind fun r2 =>
 (sBin .geq x0 r2).bind fun r3 =>
 (asB r3).bind fun b4 =>
 some [b4])
 (some [true])
 (none)).bind fun vs5 =>
 some { r := (.bool (vs5.getD 0 false)) }
theorem r188 (T : TT) (k : Nat) (x0 x1 : SVal) : bodyE P H T k 188 [x0, (.rp [x1])] = R188 T k x0 x1 := by kernel_rfl
noncomputable def D188 (T : TT) (k : Nat) : List SVal → Option Res
  | [x0, (.rp [x1])] => R188 T k x0 x1
  | a => bodyE P H T k 188 a
theorem d188 (T : TT) (k : Nat) (a : List SVal) : D188 T k a = bodyE P H T k 188 a := by
  unfold D188
  split
  · exact (r188 ..).symm
  · rfl
theorem t188 (k : Nat) (x0 x1 : SVal) : T (k + 1) 188 [x0, (.rp [x1])] = R188 (T k) k x0 x1 := (tb k 188 _ rfl).trans (r188 ..)
/-- limelight/order.up$1 -/
def R189 (T : TT) (k : Nat) (x1 x2 : SVal) : Option Res :=
 loopN (fun s1 next1 =>
 (sBin .neq (SVal.cell s1.k1 0) (.int .i64 (-1))).bind fun r2 =>
 guardX r2 true
 (if (s1.stop) = true then none else
 (notTup (SVal.cell s1.k1 0)).bind fun y3 =>
 both
 ((sIdx true 7 (SVal.cell s1.k2 0) (SVal.cell s1.k1 0)).bind fun e4 =>
 if (oneS (SVal.cell e4 2)) = true then
 next1 ⟨[.yld, (.mb [(SVal.cell e4 2)]), (.rp [(SVal.cell s1.k2 0)])], (s1.out ++ [y3]), s1.stop⟩
 else none)
 (some { r := (.tup []) }))
 (if (s1.stop) = true then
 some { r := (.tup []) }
 else
 some { r := (.tup []), out := s1.out })
 (none)) k ⟨[.yld, (.mb [x1]), (.rp [x2])], [], false⟩
theorem r189 (T : TT) (k : Nat) (x1 x2 : SVal) : bodyE P H T k 189 [.yld, (.mb [x1]), (.rp [x2])] = R189 T k x1 x2 := by kernel_rfl
noncomputable def D189 (T : TT) (k : Nat) : List SVal → Option Res
  | [.yld, (.mb [x1]), (.rp [x2])] => R189 T k x1 x2
  | a => bodyE P H T k 189 a
theorem d189 (T : TT) (k : Nat) (a : List SVal) : D189 T k a = bodyE P H T k 189 a := by
  unfold D189
  split
  · exact (r189 ..).symm
  · rfl
theorem t189 (k : Nat) (x1 x2 : SVal) : T (k + 1) 189 [.yld, (.mb [x1]), (.rp [x2])] = R189 (T k) k x1 x2 := (tb k 189 _ rfl).trans (r189 ..)
end Go.Proofs.YtjcnilaogidhlaaGreat.K
