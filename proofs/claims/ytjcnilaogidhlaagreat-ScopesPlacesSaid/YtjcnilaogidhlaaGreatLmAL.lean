/- What the evaluator makes of the functions, by program (wip/tr/resid.py); each equation is checked by the kernel. -/
import Derived.Test.YtjcnilaogidhlaaGreatLmAJ
import Derived.Test.YtjcnilaogidhlaaGreatLmAB
import Derived.KernelRfl
set_option linter.unusedVariables false
set_option linter.unusedSimpArgs false
set_option linter.unnecessarySimpa false
set_option linter.all false
set_option maxRecDepth 100000
namespace Go.Proofs.YtjcnilaogidhlaaGreat.K
open Go Go.Lm
/-- limelight/limelightref10.Check -/
def R16 (T : TT) (k : Nat) (x0a x0b x0c x0d x0e : SVal) : Option Res :=
 (T 50 [(weak x0a)]).bind fun r1 =>
 (sNot r1.r).bind fun r2 =>
 pickC r2
 (some { r := (.int .i64 1) })
 ((T 51 [(.agg [(weak x0a), (weak x0b), (weak x0c), (weak x0d), (weak x0e)])]).bind fun r3 =>
 (sNot r3.r).bind fun r4 =>
 pickC r4
 (some { r := (.int .i64 9) })
 (some { r := (.int .i64 0) }))
theorem r16 (T : TT) (k : Nat) (x0a x0b x0c x0d x0e : SVal) : bodyE P H T k 16 [(.agg [x0a, x0b, x0c, x0d, x0e])] = R16 T k x0a x0b x0c x0d x0e := by kernel_rfl
theorem t16 (k : Nat) (x0a x0b x0c x0d x0e : SVal) : T (k + 1) 16 [(.agg [x0a, x0b, x0c, x0d, x0e])] = R16 (T k) k x0a x0b x0c x0d x0e := (tb k 16 _ rfl).trans (r16 ..)
/-- limelight/limelightref01.Is -/
def R17 (T : TT) (k : Nat) (x0 x1 : SVal) : Option Res :=
 ((sBin .geq x1 (.int .i64 0)).bind fun r1 =>
 guardX r1 true
 ((sLen x0).bind fun r2 =>
 (sBin .lss x1 r2).bind fun r3 =>
 (asB r3).bind fun b4 =>
 some [b4])
 (some [false])
 (none)).bind fun vs5 =>
 some { r := (.bool (vs5.getD 0 false)) }
theorem r17 (T : TT) (k : Nat) (x0 x1 : SVal) : bodyE P H T k 17 [x0, x1] = R17 T k x0 x1 := by kernel_rfl
theorem t17 (k : Nat) (x0 x1 : SVal) : T (k + 1) 17 [x0, x1] = R17 (T k) k x0 x1 := (tb k 17 _ rfl).trans (r17 ..)
/-- limelight/scopes.Owner -/
def R18 (T : TT) (k : Nat) (x0a x0b x0c x0d x0e x1 : SVal) : Option Res :=
 (T 42 [(.agg [(weak x0a), (weak x0b), (weak x0c), (weak x0d), (weak x0e)]), x1]).bind fun r1 =>
 (sNot r1.r).bind fun r2 =>
 pickC r2
 (some { r := (.int .i64 (-1)) })
 ((T 52 [(weak x0a), x1]).bind fun r3 =>
 (sSlice 1 r3.r (some (.int .i64 1)) none).bind fun r4 =>
 (T 53 [(weak r4), (.fn 54 [(.rp [x0a, x0b, x0c, x0d, x0e])])]).bind fun r5 =>
 if isSc1 r5.r = true then
 (sBin .geq r5.r (.int .i64 0)).bind fun r6 =>
 pickC r6
 ((sIdx false 1 r4 r5.r).bind fun e7 =>
 some { r := e7 })
 (some { r := (.int .i64 (-1)) })
 else none)
theorem r18 (T : TT) (k : Nat) (x0a x0b x0c x0d x0e x1 : SVal) : bodyE P H T k 18 [(.agg [x0a, x0b, x0c, x0d, x0e]), x1] = R18 T k x0a x0b x0c x0d x0e x1 := by kernel_rfl
noncomputable def D18 (T : TT) (k : Nat) : List SVal → Option Res
  | [(.agg [x0a, x0b, x0c, x0d, x0e]), x1] => R18 T k x0a x0b x0c x0d x0e x1
  | a => bodyE P H T k 18 a
theorem d18 (T : TT) (k : Nat) (a : List SVal) : D18 T k a = bodyE P H T k 18 a := by
  unfold D18
  split
  · exact (r18 ..).symm
  · rfl
theorem t18 (k : Nat) (x0a x0b x0c x0d x0e x1 : SVal) : T (k + 1) 18 [(.agg [x0a, x0b, x0c, x0d, x0e]), x1] = R18 (T k) k x0a x0b x0c x0d x0e x1 := (tb k 18 _ rfl).trans (r18 ..)
/-- limelight/scopes.Index -/
def R19 (T : TT) (k : Nat) (x0a x0b x0c x0d x0e x1 : SVal) : Option Res :=
 (T 42 [(.agg [(weak x0a), (weak x0b), (weak x0c), (weak x0d), (weak x0e)]), x1]).bind fun r1 =>
 (sNot r1.r).bind fun r2 =>
 pickC r2
 (some { r := (.int .i64 (-1)) })
 ((T 55 [(weak x0a), x1, (.int .i64 0)]).bind fun r3 =>
 some { r := r3.r.c0 })
theorem r19 (T : TT) (k : Nat) (x0a x0b x0c x0d x0e x1 : SVal) : bodyE P H T k 19 [(.agg [x0a, x0b, x0c, x0d, x0e]), x1] = R19 T k x0a x0b x0c x0d x0e x1 := by kernel_rfl
noncomputable def D19 (T : TT) (k : Nat) : List SVal → Option Res
  | [(.agg [x0a, x0b, x0c, x0d, x0e]), x1] => R19 T k x0a x0b x0c x0d x0e x1
  | a => bodyE P H T k 19 a
theorem d19 (T : TT) (k : Nat) (a : List SVal) : D19 T k a = bodyE P H T k 19 a := by
  unfold D19
  split
  · exact (r19 ..).symm
  · rfl
theorem t19 (k : Nat) (x0a x0b x0c x0d x0e x1 : SVal) : T (k + 1) 19 [(.agg [x0a, x0b, x0c, x0d, x0e]), x1] = R19 (T k) k x0a x0b x0c x0d x0e x1 := (tb k 19 _ rfl).trans (r19 ..)
/-- limelight/scopes.Place -/
def R20 (T : TT) (k : Nat) (x0a x0b x0c x0d x0e x1 : SVal) : Option Res :=
 (T 42 [(.agg [(weak x0a), (weak x0b), (weak x0c), (weak x0d), (weak x0e)]), x1]).bind fun r1 =>
 (sNot r1.r).bind fun r2 =>
 pickC r2
 (some { r := (.int .i64 (-1)) })
 ((T 56 [(.agg [(weak x0a), (weak x0b), (weak x0c), (weak x0d), (weak x0e)]), x1]).bind fun r3 =>
 if (allOne [.v r3.r.c0.c0, .v r3.r.c0.c1]) = true then
 (guardX r3.r.c1 true
 ((T 57 [(weak x0a), x1, r3.r.c0.c1]).bind fun r4 =>
 (sNot r4.r).bind fun r5 =>
 (asB r5).bind fun b6 =>
 some [b6])
 (some [false])
 (none)).bind fun vs7 =>
 pickC (.bool (vs7.getD 0 false))
 (some { r := r3.r.c0.c1 })
 (some { r := (.int .i64 (-1)) })
 else none)
theorem r20 (T : TT) (k : Nat) (x0a x0b x0c x0d x0e x1 : SVal) : bodyE P H T k 20 [(.agg [x0a, x0b, x0c, x0d, x0e]), x1] = R20 T k x0a x0b x0c x0d x0e x1 := by kernel_rfl
noncomputable def D20 (T : TT) (k : Nat) : List SVal → Option Res
  | [(.agg [x0a, x0b, x0c, x0d, x0e]), x1] => R20 T k x0a x0b x0c x0d x0e x1
  | a => bodyE P H T k 20 a
theorem d20 (T : TT) (k : Nat) (a : List SVal) : D20 T k a = bodyE P H T k 20 a := by
  unfold D20
  split
  · exact (r20 ..).symm
  · rfl
theorem t20 (k : Nat) (x0a x0b x0c x0d x0e x1 : SVal) : T (k + 1) 20 [(.agg [x0a, x0b, x0c, x0d, x0e]), x1] = R20 (T k) k x0a x0b x0c x0d x0e x1 := (tb k 20 _ rfl).trans (r20 ..)
/-- limelight/limelightref01.Ints -/
def R21 (T : TT) (k : Nat) (x0 x1 : SVal) : Option Res :=
 (sLen x0).bind fun r1 =>
 (sLen x1).bind fun r2 =>
 (sBin .neq r1 r2).bind fun r3 =>
 pickC r3
 (some { r := (.bool false) })
 (loopN (fun s4 next4 =>
 (sLen s4.k0).bind fun r5 =>
 (sBin .lss s4.k2 r5).bind fun r6 =>
 pickC r6
 ((sIdx false 1 s4.k0 s4.k2).bind fun e7 =>
 (sIdx false 1 s4.k1 s4.k2).bind fun e8 =>
 (sBin .neq e7 e8).bind fun r9 =>
 pickC r9
 (some { r := (.bool false) })
 ((sBin .add s4.k2 (.int .i64 1)).bind fun r10 =>
 next4 ⟨[(weak s4.k0), (weak s4.k1), r10], [], false⟩))
 (some { r := (.bool true) })) k ⟨[(weak x0), (weak x1), (.int .i64 0)], [], false⟩)
theorem r21 (T : TT) (k : Nat) (x0 x1 : SVal) : bodyE P H T k 21 [x0, x1] = R21 T k x0 x1 := by kernel_rfl
noncomputable def D21 (T : TT) (k : Nat) : List SVal → Option Res
  | [x0, x1] => R21 T k x0 x1
  | a => bodyE P H T k 21 a
theorem d21 (T : TT) (k : Nat) (a : List SVal) : D21 T k a = bodyE P H T k 21 a := by
  unfold D21
  split
  · exact (r21 ..).symm
  · rfl
theorem t21 (k : Nat) (x0 x1 : SVal) : T (k + 1) 21 [x0, x1] = R21 (T k) k x0 x1 := (tb k 21 _ rfl).trans (r21 ..)
/-- limelight/limelightref16.Items -/
def R22 (T : TT) (k : Nat) (x0a x0b x0c x0d x0e x1 : SVal) : Option Res :=
 (T 31 [(.agg [(weak x0a), (weak x0b), (weak x0c), (weak x0d), (weak x0e)]), x1]).bind fun r1 =>
 (sNot r1.r).bind fun r2 =>
 pickC r2
 (some { r := (.sl 1 false false []) })
 ((T 26 [(weak x0a)]).bind fun r3 =>
 loopN (fun s4 next4 =>
 (sLen s4.k4).bind fun r5 =>
 (sBin .lss s4.k5 r5).bind fun r6 =>
 pickC r6
 ((sIdx false 1 s4.k4 s4.k5).bind fun e7 =>
 (T 58 [(.agg [(weak (SVal.cell s4.k1 0)), (weak (SVal.cell s4.k1 1)), (weak (SVal.cell s4.k1 2)), (weak (SVal.cell s4.k1 3)), (weak (SVal.cell s4.k1 4))]), e7, s4.k0]).bind fun r8 =>
 pickC r8.r
 ((sIdx false 1 s4.k4 s4.k5).bind fun e9 =>
 if (List.all [[.v e9]] allOne) = true then
 if (s4.k3.xs.length + ([e9] : List SVal).length) * 8 ≤ maxAppend then
 (sBin .add s4.k5 (.int .i64 1)).bind fun r10 =>
 next4 ⟨[s4.k0, (.rp [(SVal.cell s4.k1 0), (SVal.cell s4.k1 1), (SVal.cell s4.k1 2), (SVal.cell s4.k1 3), (SVal.cell s4.k1 4)]), (.sl 1 true false s4.k2.xs), (.sl 1 true false (s4.k3.xs ++ ([e9] : List SVal))), (weak s4.k4), r10], [], false⟩
 else none
 else none)
 ((sBin .add s4.k5 (.int .i64 1)).bind fun r11 =>
 next4 ⟨[s4.k0, (.rp [(SVal.cell s4.k1 0), (SVal.cell s4.k1 1), (SVal.cell s4.k1 2), (SVal.cell s4.k1 3), (SVal.cell s4.k1 4)]), (.sl 1 true false s4.k2.xs), (.sl 1 true false s4.k3.xs), (weak s4.k4), r11], [], false⟩))
 (loopN (fun s12 next12 =>
 (sBin .lss (.int .i64 (s12.k1.xs.length : Nat)) (.int .i64 (s12.k2.xs.length : Nat))).bind fun r13 =>
 pickC r13
 (loopN (fun s14 next14 =>
 (sBin .lss s14.k4 (.int .i64 (s14.k2.xs.length : Nat))).bind fun r15 =>
 pickC r15
 (((sIn s14.k2.xs.length s14.k4).bind fun j16 =>
 (s14.k2.xs[j16]?).bind fun e17 =>
 if (elemOk false 1 e17) = true then
 (T 27 [(.sl 1 false false s14.k1.xs), e17]).bind fun r18 =>
 if isSc1 r18.r = true then
 (sNot r18.r).bind fun r19 =>
 guardX r19 true
 ((sBin .eql s14.k3 (.int .i64 (-1))).bind fun r20 =>
 guardX r20 false
 ((sIn s14.k2.xs.length s14.k4).bind fun j21 =>
 (s14.k2.xs[j21]?).bind fun e22 =>
 if (elemOk false 1 e22) = true then
 (T 24 [(.agg [(weak (SVal.cell s14.k0 0)), (weak (SVal.cell s14.k0 1)), (weak (SVal.cell s14.k0 2)), (weak (SVal.cell s14.k0 3)), (weak (SVal.cell s14.k0 4))]), e22]).bind fun r23 =>
 (T 24 [(.agg [(weak (SVal.cell s14.k0 0)), (weak (SVal.cell s14.k0 1)), (weak (SVal.cell s14.k0 2)), (weak (SVal.cell s14.k0 3)), (weak (SVal.cell s14.k0 4))]), s14.k3]).bind fun r24 =>
 (T 59 [r23.r, r24.r]).bind fun r25 =>
 (asB r25.r).bind fun b26 =>
 some [b26]
 else none)
 (some [true])
 (none))
 (some [false])
 (none)
 else none
 else none).bind fun vs27 =>
 pickC (.bool (vs27.getD 0 false))
 ((sIn s14.k2.xs.length s14.k4).bind fun j28 =>
 (s14.k2.xs[j28]?).bind fun e29 =>
 if (elemOk false 1 e29) = true then
 (sBin .add s14.k4 (.int .i64 1)).bind fun r30 =>
 next14 ⟨[(.rp [(SVal.cell s14.k0 0), (SVal.cell s14.k0 1), (SVal.cell s14.k0 2), (SVal.cell s14.k0 3), (SVal.cell s14.k0 4)]), (.sl 1 true false s14.k1.xs), (.sl 1 true false s14.k2.xs), e29, r30], [], false⟩
 else none)
 ((sBin .add s14.k4 (.int .i64 1)).bind fun r31 =>
 next14 ⟨[(.rp [(SVal.cell s14.k0 0), (SVal.cell s14.k0 1), (SVal.cell s14.k0 2), (SVal.cell s14.k0 3), (SVal.cell s14.k0 4)]), (.sl 1 true false s14.k1.xs), (.sl 1 true false s14.k2.xs), s14.k3, r31], [], false⟩))
 (if (List.all [[.v s14.k3]] allOne) = true then
 if (s14.k1.xs.length + ([s14.k3] : List SVal).length) * 8 ≤ maxAppend then
 next12 ⟨[(.rp [(SVal.cell s14.k0 0), (SVal.cell s14.k0 1), (SVal.cell s14.k0 2), (SVal.cell s14.k0 3), (SVal.cell s14.k0 4)]), (.sl 1 true false (s14.k1.xs ++ ([s14.k3] : List SVal))), (.sl 1 true false s14.k2.xs)], [], false⟩
 else none
 else none)) k ⟨[(.rp [(SVal.cell s12.k0 0), (SVal.cell s12.k0 1), (SVal.cell s12.k0 2), (SVal.cell s12.k0 3), (SVal.cell s12.k0 4)]), (.sl 1 true false s12.k1.xs), (.sl 1 true false s12.k2.xs), (.int .i64 (-1)), (.int .i64 0)], [], false⟩)
 (some { r := (.sl 1 false false s12.k1.xs) })) k ⟨[(.rp [(SVal.cell s4.k1 0), (SVal.cell s4.k1 1), (SVal.cell s4.k1 2), (SVal.cell s4.k1 3), (SVal.cell s4.k1 4)]), (.sl 1 true false s4.k2.xs), (.sl 1 true false s4.k3.xs)], [], false⟩)) k ⟨[x1, (.rp [x0a, x0b, x0c, x0d, x0e]), (.sl 1 true false []), (.sl 1 true false []), (weak r3.r), (.int .i64 0)], [], false⟩)
theorem r22 (T : TT) (k : Nat) (x0a x0b x0c x0d x0e x1 : SVal) : bodyE P H T k 22 [(.agg [x0a, x0b, x0c, x0d, x0e]), x1] = R22 T k x0a x0b x0c x0d x0e x1 := by kernel_rfl
theorem t22 (k : Nat) (x0a x0b x0c x0d x0e x1 : SVal) : T (k + 1) 22 [(.agg [x0a, x0b, x0c, x0d, x0e]), x1] = R22 (T k) k x0a x0b x0c x0d x0e x1 := (tb k 22 _ rfl).trans (r22 ..)
/-- limelight/limelightref16.Owner -/
def R23 (T : TT) (k : Nat) (x0a x0b x0c x0d x0e x1 : SVal) : Option Res :=
 (T 30 [(weak x0a), x1]).bind fun r1 =>
 loopN (fun s2 next2 =>
 (sLen s2.k1).bind fun r3 =>
 (sBin .lss s2.k2 r3).bind fun r4 =>
 pickC r4
 ((sIdx false 1 s2.k1 s2.k2).bind fun e5 =>
 (T 31 [(.agg [(weak (SVal.cell s2.k0 0)), (weak (SVal.cell s2.k0 1)), (weak (SVal.cell s2.k0 2)), (weak (SVal.cell s2.k0 3)), (weak (SVal.cell s2.k0 4))]), e5]).bind fun r6 =>
 pickC r6.r
 ((sIdx false 1 s2.k1 s2.k2).bind fun e7 =>
 some { r := e7 })
 ((sBin .add s2.k2 (.int .i64 1)).bind fun r8 =>
 next2 ⟨[(.rp [(SVal.cell s2.k0 0), (SVal.cell s2.k0 1), (SVal.cell s2.k0 2), (SVal.cell s2.k0 3), (SVal.cell s2.k0 4)]), (weak s2.k1), r8], [], false⟩))
 (some { r := (.int .i64 (-1)) })) k ⟨[(.rp [x0a, x0b, x0c, x0d, x0e]), (weak r1.r), (.int .i64 1)], [], false⟩
theorem r23 (T : TT) (k : Nat) (x0a x0b x0c x0d x0e x1 : SVal) : bodyE P H T k 23 [(.agg [x0a, x0b, x0c, x0d, x0e]), x1] = R23 T k x0a x0b x0c x0d x0e x1 := by kernel_rfl
theorem t23 (k : Nat) (x0a x0b x0c x0d x0e x1 : SVal) : T (k + 1) 23 [(.agg [x0a, x0b, x0c, x0d, x0e]), x1] = R23 (T k) k x0a x0b x0c x0d x0e x1 := (tb k 23 _ rfl).trans (r23 ..)
/-- limelight/limelightref16.Index -/
def R24 (T : TT) (k : Nat) (x0a x0b x0c x0d x0e x1 : SVal) : Option Res :=
 (T 60 [(weak x0a), x1, (.int .i64 0)]).bind fun r1 =>
 some { r := r1.r.c0 }
theorem r24 (T : TT) (k : Nat) (x0a x0b x0c x0d x0e x1 : SVal) : bodyE P H T k 24 [(.agg [x0a, x0b, x0c, x0d, x0e]), x1] = R24 T k x0a x0b x0c x0d x0e x1 := by kernel_rfl
theorem t24 (k : Nat) (x0a x0b x0c x0d x0e x1 : SVal) : T (k + 1) 24 [(.agg [x0a, x0b, x0c, x0d, x0e]), x1] = R24 (T k) k x0a x0b x0c x0d x0e x1 := (tb k 24 _ rfl).trans (r24 ..)
/-- limelight/limelightref16.Place -/
def R25 (T : TT) (k : Nat) (x0a x0b x0c x0d x0e x1 : SVal) : Option Res :=
 loopN (fun s1 next1 =>
 (sLen (SVal.cell s1.k1 3)).bind fun r2 =>
 (sBin .lss s1.k2 r2).bind fun r3 =>
 pickC r3
 ((sIdx true 2 (SVal.cell s1.k1 3) s1.k2).bind fun e4 =>
 if (allOne [.v (SVal.cell e4 0), .v (SVal.cell e4 1)]) = true then
 ((sBin .eql (SVal.cell e4 0) s1.k0).bind fun r5 =>
 guardX r5 true
 ((sBin .neq (SVal.cell e4 1) (.int .i64 (-1))).bind fun r6 =>
 (asB r6).bind fun b7 =>
 some [b7])
 (some [false])
 (none)).bind fun vs8 =>
 pickC (.bool (vs8.getD 0 false))
 ((T 33 [(weak (SVal.cell s1.k1 0)), s1.k0, (SVal.cell e4 1)]).bind fun r9 =>
 (sNot r9.r).bind fun r10 =>
 pickC r10
 (some { r := (SVal.cell e4 1) })
 ((sBin .add s1.k2 (.int .i64 1)).bind fun r11 =>
 next1 ⟨[s1.k0, (.rp [(SVal.cell s1.k1 0), (SVal.cell s1.k1 1), (SVal.cell s1.k1 2), (SVal.cell s1.k1 3), (SVal.cell s1.k1 4)]), r11], [], false⟩))
 ((sBin .add s1.k2 (.int .i64 1)).bind fun r12 =>
 next1 ⟨[s1.k0, (.rp [(SVal.cell s1.k1 0), (SVal.cell s1.k1 1), (SVal.cell s1.k1 2), (SVal.cell s1.k1 3), (SVal.cell s1.k1 4)]), r12], [], false⟩)
 else none)
 (some { r := (.int .i64 (-1)) })) k ⟨[x1, (.rp [x0a, x0b, x0c, x0d, x0e]), (.int .i64 0)], [], false⟩
theorem r25 (T : TT) (k : Nat) (x0a x0b x0c x0d x0e x1 : SVal) : bodyE P H T k 25 [(.agg [x0a, x0b, x0c, x0d, x0e]), x1] = R25 T k x0a x0b x0c x0d x0e x1 := by kernel_rfl
theorem t25 (k : Nat) (x0a x0b x0c x0d x0e x1 : SVal) : T (k + 1) 25 [(.agg [x0a, x0b, x0c, x0d, x0e]), x1] = R25 (T k) k x0a x0b x0c x0d x0e x1 := (tb k 25 _ rfl).trans (r25 ..)
/-- limelight/limelightref06.List -/
def R26 (T : TT) (k : Nat) (x0 : SVal) : Option Res :=
 (T 61 [(weak x0), (.int .i64 0)]).bind fun r1 =>
 some { r := (weak r1.r) }
theorem r26 (T : TT) (k : Nat) (x0 : SVal) : bodyE P H T k 26 [x0] = R26 T k x0 := by kernel_rfl
theorem t26 (k : Nat) (x0 : SVal) : T (k + 1) 26 [x0] = R26 (T k) k x0 := (tb k 26 _ rfl).trans (r26 ..)
/-- limelight/limelightref03.In -/
def R27 (T : TT) (k : Nat) (x0 x1 : SVal) : Option Res :=
 (T 28 [(weak x0), x1]).bind fun r1 =>
 (sBin .geq r1.r (.int .i64 0)).bind fun r2 =>
 some { r := r2 }
theorem r27 (T : TT) (k : Nat) (x0 x1 : SVal) : bodyE P H T k 27 [x0, x1] = R27 T k x0 x1 := by kernel_rfl
theorem t27 (k : Nat) (x0 x1 : SVal) : T (k + 1) 27 [x0, x1] = R27 (T k) k x0 x1 := (tb k 27 _ rfl).trans (r27 ..)
/-- limelight/limelightref03.Place -/
def R28 (T : TT) (k : Nat) (x0 x1 : SVal) : Option Res :=
 loopN (fun s1 next1 =>
 (sLen s1.k0).bind fun r2 =>
 (sBin .lss s1.k2 r2).bind fun r3 =>
 pickC r3
 ((sIdx false 1 s1.k0 s1.k2).bind fun e4 =>
 (sBin .eql e4 s1.k1).bind fun r5 =>
 pickC r5
 (some { r := s1.k2 })
 ((sBin .add s1.k2 (.int .i64 1)).bind fun r6 =>
 next1 ⟨[(weak s1.k0), s1.k1, r6], [], false⟩))
 (some { r := (.int .i64 (-1)) })) k ⟨[(weak x0), x1, (.int .i64 0)], [], false⟩
theorem r28 (T : TT) (k : Nat) (x0 x1 : SVal) : bodyE P H T k 28 [x0, x1] = R28 T k x0 x1 := by kernel_rfl
theorem t28 (k : Nat) (x0 x1 : SVal) : T (k + 1) 28 [x0, x1] = R28 (T k) k x0 x1 := (tb k 28 _ rfl).trans (r28 ..)
/-- limelight/limelightref13.Tabs -/
def R29 (T : TT) (k : Nat) (x0a x0b x0c x0d x0e x1 : SVal) : Option Res :=
 (T 39 [(weak x0a), x1]).bind fun r1 =>
 ((T 62 [(.agg [(weak x0a), (weak x0b), (weak x0c), (weak x0d), (weak x0e)]), x1]).bind fun r2 =>
 guardX r2.r true
 ((sBin .geq r1.r.c0 (.int .i64 0)).bind fun r3 =>
 (asB r3).bind fun b4 =>
 some [b4])
 (some [false])
 (none)).bind fun vs5 =>
 some { r := (.bool (vs5.getD 0 false)) }
theorem r29 (T : TT) (k : Nat) (x0a x0b x0c x0d x0e x1 : SVal) : bodyE P H T k 29 [(.agg [x0a, x0b, x0c, x0d, x0e]), x1] = R29 T k x0a x0b x0c x0d x0e x1 := by kernel_rfl
theorem t29 (k : Nat) (x0a x0b x0c x0d x0e x1 : SVal) : T (k + 1) 29 [(.agg [x0a, x0b, x0c, x0d, x0e]), x1] = R29 (T k) k x0a x0b x0c x0d x0e x1 := (tb k 29 _ rfl).trans (r29 ..)
/-- limelight/limelightref06.Up -/
def R30 (T : TT) (k : Nat) (x0 x1 : SVal) : Option Res :=
 loopN (fun s1 next1 =>
 (sBin .neq s1.k1 (.int .i64 (-1))).bind fun r2 =>
 pickC r2
 (if (List.all [[.v s1.k1]] allOne) = true then
 if (s1.k2.xs.length + ([s1.k1] : List SVal).length) * 8 ≤ maxAppend then
 (T 63 [(weak s1.k0), s1.k1]).bind fun r3 =>
 next1 ⟨[(weak s1.k0), r3.r, (.sl 1 true false (s1.k2.xs ++ ([s1.k1] : List SVal)))], [], false⟩
 else none
 else none)
 (some { r := (.sl 1 false false s1.k2.xs) })) k ⟨[(weak x0), x1, (.sl 1 true false [])], [], false⟩
theorem r30 (T : TT) (k : Nat) (x0 x1 : SVal) : bodyE P H T k 30 [x0, x1] = R30 T k x0 x1 := by kernel_rfl
theorem t30 (k : Nat) (x0 x1 : SVal) : T (k + 1) 30 [x0, x1] = R30 (T k) k x0 x1 := (tb k 30 _ rfl).trans (r30 ..)
/-- limelight/limelightref16.Owns -/
def R31 (T : TT) (k : Nat) (x0a x0b x0c x0d x0e x1 : SVal) : Option Res :=
 ((sBin .eql x1 (.int .i64 0)).bind fun r1 =>
 guardX r1 false
 ((sIdx true 7 x0a x1).bind fun e2 =>
 (sBin .neq (SVal.cell e2 5) (.int .i64 (-1))).bind fun r3 =>
 guardX r3 false
 ((T 64 [(weak x0a), x1]).bind fun r4 =>
 guardX r4.r false
 ((T 32 [(weak x0d)]).bind fun r5 =>
 (T 27 [(weak r5.r), x1]).bind fun r6 =>
 if isSc1 r6.r = true then
 (asB r6.r).bind fun b7 =>
 some [b7]
 else none)
 (some [true])
 (none))
 (some [true])
 (none))
 (some [true])
 (none)).bind fun vs8 =>
 some { r := (.bool (vs8.getD 0 false)) }
theorem r31 (T : TT) (k : Nat) (x0a x0b x0c x0d x0e x1 : SVal) : bodyE P H T k 31 [(.agg [x0a, x0b, x0c, x0d, x0e]), x1] = R31 T k x0a x0b x0c x0d x0e x1 := by kernel_rfl
theorem t31 (k : Nat) (x0a x0b x0c x0d x0e x1 : SVal) : T (k + 1) 31 [(.agg [x0a, x0b, x0c, x0d, x0e]), x1] = R31 (T k) k x0a x0b x0c x0d x0e x1 := (tb k 31 _ rfl).trans (r31 ..)
/-- limelight/limelightref10.Nodes -/
def R32 (T : TT) (k : Nat) (x0 : SVal) : Option Res :=
 loopN (fun s1 next1 =>
 (sLen s1.k0).bind fun r2 =>
 (sBin .lss s1.k2 r2).bind fun r3 =>
 pickC r3
 ((sIdx true 2 s1.k0 s1.k2).bind fun e4 =>
 if (List.all [[.v (SVal.cell e4 0)]] allOne) = true then
 if (s1.k1.xs.length + ([(SVal.cell e4 0)] : List SVal).length) * 8 ≤ maxAppend then
 (sBin .add s1.k2 (.int .i64 1)).bind fun r5 =>
 next1 ⟨[(weak s1.k0), (.sl 1 true false (s1.k1.xs ++ ([(SVal.cell e4 0)] : List SVal))), r5], [], false⟩
 else none
 else none)
 (some { r := (.sl 1 false false s1.k1.xs) })) k ⟨[(weak x0), (.sl 1 true false []), (.int .i64 0)], [], false⟩
theorem r32 (T : TT) (k : Nat) (x0 : SVal) : bodyE P H T k 32 [x0] = R32 T k x0 := by kernel_rfl
theorem t32 (k : Nat) (x0 : SVal) : T (k + 1) 32 [x0] = R32 (T k) k x0 := (tb k 32 _ rfl).trans (r32 ..)
/-- limelight/limelightref06.Above -/
def R33 (T : TT) (k : Nat) (x0 x1 x2 : SVal) : Option Res :=
 (T 30 [(weak x0), x2]).bind fun r1 =>
 (T 27 [(weak r1.r), x1]).bind fun r2 =>
 if isSc1 r2.r = true then
 some { r := r2.r }
 else none
theorem r33 (T : TT) (k : Nat) (x0 x1 x2 : SVal) : bodyE P H T k 33 [x0, x1, x2] = R33 T k x0 x1 x2 := by kernel_rfl
theorem t33 (k : Nat) (x0 x1 x2 : SVal) : T (k + 1) 33 [x0, x1, x2] = R33 (T k) k x0 x1 x2 := (tb k 33 _ rfl).trans (r33 ..)
/-- limelight/limelightlaw17.live -/
def R34 (T : TT) (k : Nat) : Option Res :=
 ((T 35 [(.agg [(.sl 7 false false [(.agg [(.int .i64 0), (.int .i64 0), (.int .i64 (-1)), (.sl 1 false false [(.int .i64 1), (.int .i64 2), (.int .i64 3)]), (.int .i64 (-1)), (.int .i64 (-1)), (.sl 2 false false [])]), (.agg [(.int .i64 1), (.int .i64 1), (.int .i64 0), (.sl 1 false false []), (.int .i64 (-1)), (.int .i64 (-1)), (.sl 2 false false [])]), (.agg [(.int .i64 1), (.int .i64 1), (.int .i64 0), (.sl 1 false false []), (.int .i64 (-1)), (.int .i64 (-1)), (.sl 2 false false [])]), (.agg [(.int .i64 1), (.int .i64 0), (.int .i64 0), (.sl 1 false false [(.int .i64 4)]), (.int .i64 (-1)), (.int .i64 (-1)), (.sl 2 false false [(.agg [(.int .i64 6), (.int .i64 1)])])]), (.agg [(.int .i64 1), (.int .i64 1), (.int .i64 3), (.sl 1 false false []), (.int .i64 (-1)), (.int .i64 (-1)), (.sl 2 false false [])])]), (.sl 1 false false []), (.sl 1 false false []), (.sl 2 false false [(.agg [(.int .i64 3), (.int .i64 1)])]), (.sl 1 false false [(.int .i64 3)])])]).bind fun r1 =>
 (T 21 [(weak r1.r), (.sl 1 false false [(.int .i64 1), (.int .i64 4), (.int .i64 2)])]).bind fun r2 =>
 guardX r2.r true
 ((T 36 [(.agg [(.sl 7 false false [(.agg [(.int .i64 0), (.int .i64 0), (.int .i64 (-1)), (.sl 1 false false [(.int .i64 1), (.int .i64 2), (.int .i64 3)]), (.int .i64 (-1)), (.int .i64 (-1)), (.sl 2 false false [])]), (.agg [(.int .i64 1), (.int .i64 1), (.int .i64 0), (.sl 1 false false []), (.int .i64 (-1)), (.int .i64 (-1)), (.sl 2 false false [])]), (.agg [(.int .i64 1), (.int .i64 1), (.int .i64 0), (.sl 1 false false []), (.int .i64 (-1)), (.int .i64 (-1)), (.sl 2 false false [])]), (.agg [(.int .i64 1), (.int .i64 0), (.int .i64 0), (.sl 1 false false [(.int .i64 4)]), (.int .i64 (-1)), (.int .i64 (-1)), (.sl 2 false false [(.agg [(.int .i64 6), (.int .i64 1)])])]), (.agg [(.int .i64 1), (.int .i64 1), (.int .i64 3), (.sl 1 false false []), (.int .i64 (-1)), (.int .i64 (-1)), (.sl 2 false false [])])]), (.sl 1 false false []), (.sl 1 false false []), (.sl 2 false false [(.agg [(.int .i64 3), (.int .i64 1)])]), (.sl 1 false false [(.int .i64 3)])]), (.int .i64 0), (.bool false)]).bind fun r3 =>
 (sBin .eql r3.r (.int .i64 1)).bind fun r4 =>
 guardX r4 true
 ((T 36 [(.agg [(.sl 7 false false [(.agg [(.int .i64 0), (.int .i64 0), (.int .i64 (-1)), (.sl 1 false false [(.int .i64 1), (.int .i64 2), (.int .i64 3)]), (.int .i64 (-1)), (.int .i64 (-1)), (.sl 2 false false [])]), (.agg [(.int .i64 1), (.int .i64 1), (.int .i64 0), (.sl 1 false false []), (.int .i64 (-1)), (.int .i64 (-1)), (.sl 2 false false [])]), (.agg [(.int .i64 1), (.int .i64 1), (.int .i64 0), (.sl 1 false false []), (.int .i64 (-1)), (.int .i64 (-1)), (.sl 2 false false [])]), (.agg [(.int .i64 1), (.int .i64 0), (.int .i64 0), (.sl 1 false false [(.int .i64 4)]), (.int .i64 (-1)), (.int .i64 (-1)), (.sl 2 false false [(.agg [(.int .i64 6), (.int .i64 1)])])]), (.agg [(.int .i64 1), (.int .i64 1), (.int .i64 3), (.sl 1 false false []), (.int .i64 (-1)), (.int .i64 (-1)), (.sl 2 false false [])])]), (.sl 1 false false []), (.sl 1 false false []), (.sl 2 false false [(.agg [(.int .i64 3), (.int .i64 1)])]), (.sl 1 false false [(.int .i64 3)])]), (.int .i64 1), (.bool false)]).bind fun r5 =>
 (sBin .eql r5.r (.int .i64 4)).bind fun r6 =>
 guardX r6 true
 ((T 36 [(.agg [(.sl 7 false false [(.agg [(.int .i64 0), (.int .i64 0), (.int .i64 (-1)), (.sl 1 false false [(.int .i64 1), (.int .i64 2), (.int .i64 3)]), (.int .i64 (-1)), (.int .i64 (-1)), (.sl 2 false false [])]), (.agg [(.int .i64 1), (.int .i64 1), (.int .i64 0), (.sl 1 false false []), (.int .i64 (-1)), (.int .i64 (-1)), (.sl 2 false false [])]), (.agg [(.int .i64 1), (.int .i64 1), (.int .i64 0), (.sl 1 false false []), (.int .i64 (-1)), (.int .i64 (-1)), (.sl 2 false false [])]), (.agg [(.int .i64 1), (.int .i64 0), (.int .i64 0), (.sl 1 false false [(.int .i64 4)]), (.int .i64 (-1)), (.int .i64 (-1)), (.sl 2 false false [(.agg [(.int .i64 6), (.int .i64 1)])])]), (.agg [(.int .i64 1), (.int .i64 1), (.int .i64 3), (.sl 1 false false []), (.int .i64 (-1)), (.int .i64 (-1)), (.sl 2 false false [])])]), (.sl 1 false false []), (.sl 1 false false []), (.sl 2 false false [(.agg [(.int .i64 3), (.int .i64 1)])]), (.sl 1 false false [(.int .i64 3)])]), (.int .i64 4), (.bool false)]).bind fun r7 =>
 (sBin .eql r7.r (.int .i64 2)).bind fun r8 =>
 guardX r8 true
 ((T 36 [(.agg [(.sl 7 false false [(.agg [(.int .i64 0), (.int .i64 0), (.int .i64 (-1)), (.sl 1 false false [(.int .i64 1), (.int .i64 2), (.int .i64 3)]), (.int .i64 (-1)), (.int .i64 (-1)), (.sl 2 false false [])]), (.agg [(.int .i64 1), (.int .i64 1), (.int .i64 0), (.sl 1 false false []), (.int .i64 (-1)), (.int .i64 (-1)), (.sl 2 false false [])]), (.agg [(.int .i64 1), (.int .i64 1), (.int .i64 0), (.sl 1 false false []), (.int .i64 (-1)), (.int .i64 (-1)), (.sl 2 false false [])]), (.agg [(.int .i64 1), (.int .i64 0), (.int .i64 0), (.sl 1 false false [(.int .i64 4)]), (.int .i64 (-1)), (.int .i64 (-1)), (.sl 2 false false [(.agg [(.int .i64 6), (.int .i64 1)])])]), (.agg [(.int .i64 1), (.int .i64 1), (.int .i64 3), (.sl 1 false false []), (.int .i64 (-1)), (.int .i64 (-1)), (.sl 2 false false [])])]), (.sl 1 false false []), (.sl 1 false false []), (.sl 2 false false [(.agg [(.int .i64 3), (.int .i64 1)])]), (.sl 1 false false [(.int .i64 3)])]), (.int .i64 2), (.bool false)]).bind fun r9 =>
 (sBin .eql r9.r (.int .i64 0)).bind fun r10 =>
 guardX r10 true
 ((T 36 [(.agg [(.sl 7 false false [(.agg [(.int .i64 0), (.int .i64 0), (.int .i64 (-1)), (.sl 1 false false [(.int .i64 1), (.int .i64 2), (.int .i64 3)]), (.int .i64 (-1)), (.int .i64 (-1)), (.sl 2 false false [])]), (.agg [(.int .i64 1), (.int .i64 1), (.int .i64 0), (.sl 1 false false []), (.int .i64 (-1)), (.int .i64 (-1)), (.sl 2 false false [])]), (.agg [(.int .i64 1), (.int .i64 1), (.int .i64 0), (.sl 1 false false []), (.int .i64 (-1)), (.int .i64 (-1)), (.sl 2 false false [])]), (.agg [(.int .i64 1), (.int .i64 0), (.int .i64 0), (.sl 1 false false [(.int .i64 4)]), (.int .i64 (-1)), (.int .i64 (-1)), (.sl 2 false false [(.agg [(.int .i64 6), (.int .i64 1)])])]), (.agg [(.int .i64 1), (.int .i64 1), (.int .i64 3), (.sl 1 false false []), (.int .i64 (-1)), (.int .i64 (-1)), (.sl 2 false false [])])]), (.sl 1 false false []), (.sl 1 false false []), (.sl 2 false false [(.agg [(.int .i64 3), (.int .i64 1)])]), (.sl 1 false false [(.int .i64 3)])]), (.int .i64 1), (.bool true)]).bind fun r11 =>
 (sBin .eql r11.r (.int .i64 0)).bind fun r12 =>
 guardX r12 true
 ((T 36 [(.agg [(.sl 7 false false [(.agg [(.int .i64 0), (.int .i64 0), (.int .i64 (-1)), (.sl 1 false false [(.int .i64 1), (.int .i64 2), (.int .i64 3)]), (.int .i64 (-1)), (.int .i64 (-1)), (.sl 2 false false [])]), (.agg [(.int .i64 1), (.int .i64 1), (.int .i64 0), (.sl 1 false false []), (.int .i64 (-1)), (.int .i64 (-1)), (.sl 2 false false [])]), (.agg [(.int .i64 1), (.int .i64 1), (.int .i64 0), (.sl 1 false false []), (.int .i64 (-1)), (.int .i64 (-1)), (.sl 2 false false [])]), (.agg [(.int .i64 1), (.int .i64 0), (.int .i64 0), (.sl 1 false false [(.int .i64 4)]), (.int .i64 (-1)), (.int .i64 (-1)), (.sl 2 false false [(.agg [(.int .i64 6), (.int .i64 1)])])]), (.agg [(.int .i64 1), (.int .i64 1), (.int .i64 3), (.sl 1 false false []), (.int .i64 (-1)), (.int .i64 (-1)), (.sl 2 false false [])])]), (.sl 1 false false []), (.sl 1 false false []), (.sl 2 false false [(.agg [(.int .i64 3), (.int .i64 1)])]), (.sl 1 false false [(.int .i64 3)])]), (.int .i64 0), (.bool true)]).bind fun r13 =>
 (sBin .eql r13.r (.int .i64 2)).bind fun r14 =>
 guardX r14 true
 ((T 36 [(.agg [(.sl 7 false false [(.agg [(.int .i64 0), (.int .i64 0), (.int .i64 (-1)), (.sl 1 false false [(.int .i64 1), (.int .i64 2), (.int .i64 3)]), (.int .i64 (-1)), (.int .i64 (-1)), (.sl 2 false false [])]), (.agg [(.int .i64 1), (.int .i64 1), (.int .i64 0), (.sl 1 false false []), (.int .i64 (-1)), (.int .i64 (-1)), (.sl 2 false false [])]), (.agg [(.int .i64 1), (.int .i64 1), (.int .i64 0), (.sl 1 false false []), (.int .i64 (-1)), (.int .i64 (-1)), (.sl 2 false false [])]), (.agg [(.int .i64 1), (.int .i64 0), (.int .i64 0), (.sl 1 false false [(.int .i64 4)]), (.int .i64 (-1)), (.int .i64 (-1)), (.sl 2 false false [(.agg [(.int .i64 6), (.int .i64 1)])])]), (.agg [(.int .i64 1), (.int .i64 1), (.int .i64 3), (.sl 1 false false []), (.int .i64 (-1)), (.int .i64 (-1)), (.sl 2 false false [])])]), (.sl 1 false false []), (.sl 1 false false []), (.sl 2 false false [(.agg [(.int .i64 3), (.int .i64 1)])]), (.sl 1 false false [(.int .i64 3)])]), (.int .i64 3), (.bool false)]).bind fun r15 =>
 (sBin .eql r15.r (.int .i64 4)).bind fun r16 =>
 guardX r16 true
 ((T 36 [(.agg [(.sl 7 false false [(.agg [(.int .i64 0), (.int .i64 0), (.int .i64 (-1)), (.sl 1 false false [(.int .i64 1), (.int .i64 2), (.int .i64 3)]), (.int .i64 (-1)), (.int .i64 (-1)), (.sl 2 false false [])]), (.agg [(.int .i64 1), (.int .i64 1), (.int .i64 0), (.sl 1 false false []), (.int .i64 (-1)), (.int .i64 (-1)), (.sl 2 false false [])]), (.agg [(.int .i64 1), (.int .i64 1), (.int .i64 0), (.sl 1 false false []), (.int .i64 (-1)), (.int .i64 (-1)), (.sl 2 false false [])]), (.agg [(.int .i64 1), (.int .i64 0), (.int .i64 0), (.sl 1 false false [(.int .i64 4)]), (.int .i64 (-1)), (.int .i64 (-1)), (.sl 2 false false [(.agg [(.int .i64 6), (.int .i64 1)])])]), (.agg [(.int .i64 1), (.int .i64 1), (.int .i64 3), (.sl 1 false false []), (.int .i64 (-1)), (.int .i64 (-1)), (.sl 2 false false [])])]), (.sl 1 false false []), (.sl 1 false false []), (.sl 2 false false [(.agg [(.int .i64 3), (.int .i64 1)])]), (.sl 1 false false [(.int .i64 3)])]), (.int .i64 3), (.bool true)]).bind fun r17 =>
 (sBin .eql r17.r (.int .i64 2)).bind fun r18 =>
 guardX r18 true
 ((T 36 [(.agg [(.sl 7 false false [(.agg [(.int .i64 0), (.int .i64 0), (.int .i64 (-1)), (.sl 1 false false [(.int .i64 1), (.int .i64 2), (.int .i64 3)]), (.int .i64 (-1)), (.int .i64 (-1)), (.sl 2 false false [])]), (.agg [(.int .i64 1), (.int .i64 1), (.int .i64 0), (.sl 1 false false []), (.int .i64 (-1)), (.int .i64 (-1)), (.sl 2 false false [])]), (.agg [(.int .i64 1), (.int .i64 1), (.int .i64 0), (.sl 1 false false []), (.int .i64 (-1)), (.int .i64 (-1)), (.sl 2 false false [])]), (.agg [(.int .i64 1), (.int .i64 0), (.int .i64 0), (.sl 1 false false [(.int .i64 4)]), (.int .i64 (-1)), (.int .i64 (-1)), (.sl 2 false false [(.agg [(.int .i64 6), (.int .i64 1)])])]), (.agg [(.int .i64 1), (.int .i64 1), (.int .i64 3), (.sl 1 false false []), (.int .i64 (-1)), (.int .i64 (-1)), (.sl 2 false false [])])]), (.sl 1 false false []), (.sl 1 false false []), (.sl 2 false false [(.agg [(.int .i64 3), (.int .i64 1)])]), (.sl 1 false false [(.int .i64 3)])]), (.int .i64 9), (.bool false)]).bind fun r19 =>
 (sBin .eql r19.r (.int .i64 (-1))).bind fun r20 =>
 guardX r20 true
 ((T 36 [(.agg [(.sl 7 false false []), (.sl 1 false false []), (.sl 1 false false []), (.sl 2 false false []), (.sl 1 false false [])]), (.int .i64 0), (.bool false)]).bind fun r21 =>
 (sBin .eql r21.r (.int .i64 (-1))).bind fun r22 =>
 (asB r22).bind fun b23 =>
 some [b23])
 (some [false])
 (none))
 (some [false])
 (none))
 (some [false])
 (none))
 (some [false])
 (none))
 (some [false])
 (none))
 (some [false])
 (none))
 (some [false])
 (none))
 (some [false])
 (none))
 (some [false])
 (none))
 (some [false])
 (none)).bind fun vs24 =>
 some { r := (.bool (vs24.getD 0 false)) }
theorem r34 (T : TT) (k : Nat) : bodyE P H T k 34 [] = R34 T k  := by kernel_rfl
noncomputable def D34 (T : TT) (k : Nat) : List SVal → Option Res
  | [] => R34 T k 
  | a => bodyE P H T k 34 a
theorem d34 (T : TT) (k : Nat) (a : List SVal) : D34 T k a = bodyE P H T k 34 a := by
  unfold D34
  split
  · exact (r34 ..).symm
  · rfl
theorem t34 (k : Nat) : T (k + 1) 34 [] = R34 (T k) k  := (tb k 34 _ rfl).trans (r34 ..)
/-- limelight/tabs.List -/
def R35 (T : TT) (k : Nat) (x0a x0b x0c x0d x0e : SVal) : Option Res :=
 (T 65 [(.agg [(weak x0a), (weak x0b), (weak x0c), (weak x0d), (weak x0e)])]).bind fun r1 =>
 (sBin .neq r1.r (.int .i64 0)).bind fun r2 =>
 pickC r2
 (some { r := (.sl 1 false false []) })
 ((T 67 [(.agg [(weak x0a), (weak x0b), (weak x0c), (weak x0d), (weak x0e)])]).bind fun r3 =>
 (T 66 [r3.r]).bind fun r4 =>
 some { r := (.sl 1 false false r4.r.xs) })
theorem r35 (T : TT) (k : Nat) (x0a x0b x0c x0d x0e : SVal) : bodyE P H T k 35 [(.agg [x0a, x0b, x0c, x0d, x0e])] = R35 T k x0a x0b x0c x0d x0e := by kernel_rfl
noncomputable def D35 (T : TT) (k : Nat) : List SVal → Option Res
  | [(.agg [x0a, x0b, x0c, x0d, x0e])] => R35 T k x0a x0b x0c x0d x0e
  | a => bodyE P H T k 35 a
theorem d35 (T : TT) (k : Nat) (a : List SVal) : D35 T k a = bodyE P H T k 35 a := by
  unfold D35
  split
  · exact (r35 ..).symm
  · rfl
theorem t35 (k : Nat) (x0a x0b x0c x0d x0e : SVal) : T (k + 1) 35 [(.agg [x0a, x0b, x0c, x0d, x0e])] = R35 (T k) k x0a x0b x0c x0d x0e := (tb k 35 _ rfl).trans (r35 ..)
/-- limelight/tabs.Next -/
def R36 (T : TT) (k : Nat) (x0a x0b x0c x0d x0e x1 x2 : SVal) : Option Res :=
 ((T 65 [(.agg [(weak x0a), (weak x0b), (weak x0c), (weak x0d), (weak x0e)])]).bind fun r1 =>
 (sBin .neq r1.r (.int .i64 0)).bind fun r2 =>
 guardX r2 false
 ((sBin .lss x1 (.int .i64 0)).bind fun r3 =>
 guardX r3 false
 ((sLen x0a).bind fun r4 =>
 (sBin .geq x1 r4).bind fun r5 =>
 (asB r5).bind fun b6 =>
 some [b6])
 (some [true])
 (none))
 (some [true])
 (none)).bind fun vs7 =>
 pickC (.bool (vs7.getD 0 false))
 (some { r := (.int .i64 (-1)) })
 ((T 35 [(.agg [(weak x0a), (weak x0b), (weak x0c), (weak x0d), (weak x0e)])]).bind fun r8 =>
 (T 68 [(weak r8.r), x2]).bind fun r9 =>
 if (oneS r9.r) = true then
 ((sBin .eql x1 (.int .i64 0)).bind fun r10 =>
 guardX r10 false
 ((T 70 [(weak r9.r), x1]).bind fun r11 =>
 (asB r11.r).bind fun b12 =>
 some [b12])
 (some [true])
 (none)).bind fun vs13 =>
 pickC (.bool (vs13.getD 0 false))
 ((T 72 [(weak r9.r), x1]).bind fun r14 =>
 (T 71 [(weak r14.r), (.fn 69 [])]).bind fun r15 =>
 some { r := r15.r })
 ((T 44 [(weak x0a)]).bind fun r16 =>
 (T 68 [(weak r16.r), x2]).bind fun r17 =>
 (T 70 [(weak r17.r), x1]).bind fun r18 =>
 (sNot r18.r).bind fun r19 =>
 pickC r19
 ((T 71 [(weak r9.r), (.fn 69 [])]).bind fun r20 =>
 some { r := r20.r })
 ((T 72 [(weak r17.r), x1]).bind fun r21 =>
 (T 71 [(weak r21.r), (.fn 73 [(.rp [r9.r])])]).bind fun r22 =>
 some { r := r22.r }))
 else none)
theorem r36 (T : TT) (k : Nat) (x0a x0b x0c x0d x0e x1 x2 : SVal) : bodyE P H T k 36 [(.agg [x0a, x0b, x0c, x0d, x0e]), x1, x2] = R36 T k x0a x0b x0c x0d x0e x1 x2 := by kernel_rfl
noncomputable def D36 (T : TT) (k : Nat) : List SVal → Option Res
  | [(.agg [x0a, x0b, x0c, x0d, x0e]), x1, x2] => R36 T k x0a x0b x0c x0d x0e x1 x2
  | a => bodyE P H T k 36 a
theorem d36 (T : TT) (k : Nat) (a : List SVal) : D36 T k a = bodyE P H T k 36 a := by
  unfold D36
  split
  · exact (r36 ..).symm
  · rfl
theorem t36 (k : Nat) (x0a x0b x0c x0d x0e x1 x2 : SVal) : T (k + 1) 36 [(.agg [x0a, x0b, x0c, x0d, x0e]), x1, x2] = R36 (T k) k x0a x0b x0c x0d x0e x1 x2 := (tb k 36 _ rfl).trans (r36 ..)
/-- limelight/limelightref17.List -/
def R37 (T : TT) (k : Nat) (x0a x0b x0c x0d x0e : SVal) : Option Res :=
 (T 74 [(.agg [(weak x0a), (weak x0b), (weak x0c), (weak x0d), (weak x0e)]), (.int .i64 0)]).bind fun r1 =>
 some { r := (weak r1.r) }
theorem r37 (T : TT) (k : Nat) (x0a x0b x0c x0d x0e : SVal) : bodyE P H T k 37 [(.agg [x0a, x0b, x0c, x0d, x0e])] = R37 T k x0a x0b x0c x0d x0e := by kernel_rfl
theorem t37 (k : Nat) (x0a x0b x0c x0d x0e : SVal) : T (k + 1) 37 [(.agg [x0a, x0b, x0c, x0d, x0e])] = R37 (T k) k x0a x0b x0c x0d x0e := (tb k 37 _ rfl).trans (r37 ..)
/-- limelight/limelightref17.Next -/
def R38 (T : TT) (k : Nat) (x0a x0b x0c x0d x0e x1 x2 : SVal) : Option Res :=
 (T 37 [(.agg [(weak x0a), (weak x0b), (weak x0c), (weak x0d), (weak x0e)])]).bind fun r1 =>
 (sLen r1.r).bind fun r2 =>
 (sBin .eql r2 (.int .i64 0)).bind fun r3 =>
 pickC r3
 (some { r := (.int .i64 0) })
 ((T 28 [(weak r1.r), x1]).bind fun r4 =>
 (sBin .geq r4.r (.int .i64 0)).bind fun r5 =>
 pickC r5
 (pickC x2
 ((sBin .sub r4.r (.int .i64 1)).bind fun r6 =>
 ((sBin .lss r6 (.int .i64 0)).bind fun r7 =>
 guardX r7 false
 ((sLen r1.r).bind fun r8 =>
 (sBin .eql r6 r8).bind fun r9 =>
 (asB r9).bind fun b10 =>
 some [b10])
 (some [true])
 (none)).bind fun vs11 =>
 pickC (.bool (vs11.getD 0 false))
 (some { r := (.int .i64 0) })
 ((sIdx false 1 r1.r r6).bind fun e12 =>
 some { r := e12 }))
 ((sBin .add r4.r (.int .i64 1)).bind fun r13 =>
 ((sBin .lss r13 (.int .i64 0)).bind fun r14 =>
 guardX r14 false
 ((sLen r1.r).bind fun r15 =>
 (sBin .eql r13 r15).bind fun r16 =>
 (asB r16).bind fun b17 =>
 some [b17])
 (some [true])
 (none)).bind fun vs18 =>
 pickC (.bool (vs18.getD 0 false))
 (some { r := (.int .i64 0) })
 ((sIdx false 1 r1.r r13).bind fun e19 =>
 some { r := e19 })))
 ((T 26 [(weak x0a)]).bind fun r20 =>
 (T 28 [(weak r20.r), x1]).bind fun r21 =>
 ((sBin .eql x1 (.int .i64 0)).bind fun r22 =>
 guardX r22 false
 ((sBin .lss r21.r (.int .i64 0)).bind fun r23 =>
 (asB r23).bind fun b24 =>
 some [b24])
 (some [true])
 (none)).bind fun vs25 =>
 pickC (.bool (vs25.getD 0 false))
 (pickC x2
 ((sLen r1.r).bind fun r26 =>
 (sBin .sub r26 (.int .i64 1)).bind fun r27 =>
 (sIdx false 1 r1.r r27).bind fun e28 =>
 some { r := e28 })
 ((sIdx false 1 r1.r (.int .i64 0)).bind fun e29 =>
 some { r := e29 }))
 (pickC x2
 ((sBin .sub r21.r (.int .i64 1)).bind fun r30 =>
 loopN (fun s31 next31 =>
 (sBin .geq s31.k2 (.int .i64 0)).bind fun r32 =>
 pickC r32
 ((sIdx false 1 s31.k1 s31.k2).bind fun e33 =>
 (T 27 [(weak s31.k0), e33]).bind fun r34 =>
 if isSc1 r34.r = true then
 pickC r34.r
 ((sIdx false 1 s31.k1 s31.k2).bind fun e35 =>
 some { r := e35 })
 ((sBin .sub s31.k2 (.int .i64 1)).bind fun r36 =>
 next31 ⟨[(weak s31.k0), (weak s31.k1), r36], [], false⟩)
 else none)
 (some { r := (.int .i64 0) })) k ⟨[(weak r1.r), (weak r20.r), r30], [], false⟩)
 ((sBin .add r21.r (.int .i64 1)).bind fun r37 =>
 loopN (fun s38 next38 =>
 (sLen s38.k1).bind fun r39 =>
 (sBin .lss s38.k2 r39).bind fun r40 =>
 pickC r40
 ((sIdx false 1 s38.k1 s38.k2).bind fun e41 =>
 (T 27 [(weak s38.k0), e41]).bind fun r42 =>
 if isSc1 r42.r = true then
 pickC r42.r
 ((sIdx false 1 s38.k1 s38.k2).bind fun e43 =>
 some { r := e43 })
 ((sBin .add s38.k2 (.int .i64 1)).bind fun r44 =>
 next38 ⟨[(weak s38.k0), (weak s38.k1), r44], [], false⟩)
 else none)
 (some { r := (.int .i64 0) })) k ⟨[(weak r1.r), (weak r20.r), r37], [], false⟩))))
theorem r38 (T : TT) (k : Nat) (x0a x0b x0c x0d x0e x1 x2 : SVal) : bodyE P H T k 38 [(.agg [x0a, x0b, x0c, x0d, x0e]), x1, x2] = R38 T k x0a x0b x0c x0d x0e x1 x2 := by kernel_rfl
theorem t38 (k : Nat) (x0a x0b x0c x0d x0e x1 x2 : SVal) : T (k + 1) 38 [(.agg [x0a, x0b, x0c, x0d, x0e]), x1, x2] = R38 (T k) k x0a x0b x0c x0d x0e x1 x2 := (tb k 38 _ rfl).trans (r38 ..)
/-- limelight/limelightref13.Index -/
def R39 (T : TT) (k : Nat) (x0 x1 : SVal) : Option Res :=
 (T 60 [(weak x0), x1, (.int .i64 0)]).bind fun r1 =>
 guardX r1.r.c1 false
 ((sIdx true 7 x0 x1).bind fun e2 =>
 (sBin .eql (SVal.cell e2 1) (.int .i64 1)).bind fun r3 =>
 guardX r3 false
 ((sIdx true 7 x0 x1).bind fun e4 =>
 (sBin .eql (SVal.cell e4 1) (.int .i64 4)).bind fun r5 =>
 some { r := (.tup [r1.r.c0, r5]) })
 (some { r := (.tup [r1.r.c0, (.bool true)]) })
 (none))
 (some { r := (.tup [r1.r.c0, (.bool true)]) })
 (none)
theorem r39 (T : TT) (k : Nat) (x0 x1 : SVal) : bodyE P H T k 39 [x0, x1] = R39 T k x0 x1 := by kernel_rfl
theorem t39 (k : Nat) (x0 x1 : SVal) : T (k + 1) 39 [x0, x1] = R39 (T k) k x0 x1 := (tb k 39 _ rfl).trans (r39 ..)
/-- limelight/limelightref10.Highest -/
def R40 (T : TT) (k : Nat) (x0a x0b x0c x0d x0e : SVal) : Option Res :=
 (sLen x0e).bind fun r1 =>
 (sBin .sub r1 (.int .i64 1)).bind fun r2 =>
 loopN (fun s3 next3 =>
 (sBin .geq s3.k1 (.int .i64 0)).bind fun r4 =>
 pickC r4
 ((sIdx false 1 (SVal.cell s3.k0 4) s3.k1).bind fun e5 =>
 (T 27 [(weak (SVal.cell s3.k0 2)), e5]).bind fun r6 =>
 if isSc1 r6.r = true then
 pickC r6.r
 ((sIdx false 1 (SVal.cell s3.k0 4) s3.k1).bind fun e7 =>
 some { r := e7 })
 ((sBin .sub s3.k1 (.int .i64 1)).bind fun r8 =>
 next3 ⟨[(.rp [(SVal.cell s3.k0 0), (SVal.cell s3.k0 1), (SVal.cell s3.k0 2), (SVal.cell s3.k0 3), (SVal.cell s3.k0 4)]), r8], [], false⟩)
 else none)
 (some { r := (.int .i64 (-1)) })) k ⟨[(.rp [x0a, x0b, x0c, x0d, x0e]), r2], [], false⟩
theorem r40 (T : TT) (k : Nat) (x0a x0b x0c x0d x0e : SVal) : bodyE P H T k 40 [(.agg [x0a, x0b, x0c, x0d, x0e])] = R40 T k x0a x0b x0c x0d x0e := by kernel_rfl
theorem t40 (k : Nat) (x0a x0b x0c x0d x0e : SVal) : T (k + 1) 40 [(.agg [x0a, x0b, x0c, x0d, x0e])] = R40 (T k) k x0a x0b x0c x0d x0e := (tb k 40 _ rfl).trans (r40 ..)
/-- limelight/limelightref01.Small -/
def R41 (T : TT) (k : Nat) (x0 : SVal) : Option Res :=
 loopN (fun s1 next1 =>
 ((sLen s1.k0).bind fun r2 =>
 (sBin .lss s1.k1 r2).bind fun r3 =>
 guardX r3 true
 ((sLen s1.k0).bind fun r4 =>
 (sBin .leq r4 (.int .i64 70)).bind fun r5 =>
 (asB r5).bind fun b6 =>
 some [b6])
 (some [false])
 (none)).bind fun vs7 =>
 pickC (.bool (vs7.getD 0 false))
 (((sIdx true 7 s1.k0 s1.k1).bind fun e8 =>
 (sLen (SVal.cell e8 3)).bind fun r9 =>
 (sBin .gtr r9 (.int .i64 80)).bind fun r10 =>
 guardX r10 false
 ((sIdx true 7 s1.k0 s1.k1).bind fun e11 =>
 (sLen (SVal.cell e11 6)).bind fun r12 =>
 (sBin .gtr r12 (.int .i64 20)).bind fun r13 =>
 (asB r13).bind fun b14 =>
 some [b14])
 (some [true])
 (none)).bind fun vs15 =>
 pickC (.bool (vs15.getD 0 false))
 (some { r := (.bool false) })
 ((sBin .add s1.k1 (.int .i64 1)).bind fun r16 =>
 next1 ⟨[(weak s1.k0), r16], [], false⟩))
 ((sLen s1.k0).bind fun r17 =>
 (sBin .leq r17 (.int .i64 70)).bind fun r18 =>
 some { r := r18 })) k ⟨[(weak x0), (.int .i64 0)], [], false⟩
theorem r41 (T : TT) (k : Nat) (x0 : SVal) : bodyE P H T k 41 [x0] = R41 T k x0 := by kernel_rfl
theorem t41 (k : Nat) (x0 : SVal) : T (k + 1) 41 [x0] = R41 (T k) k x0 := (tb k 41 _ rfl).trans (r41 ..)
/-- limelight/scopes.may -/
def R42 (T : TT) (k : Nat) (x0a x0b x0c x0d x0e x1 : SVal) : Option Res :=
 ((T 65 [(.agg [(weak x0a), (weak x0b), (weak x0c), (weak x0d), (weak x0e)])]).bind fun r1 =>
 (sBin .eql r1.r (.int .i64 0)).bind fun r2 =>
 guardX r2 true
 ((sBin .geq x1 (.int .i64 0)).bind fun r3 =>
 guardX r3 true
 ((sLen x0a).bind fun r4 =>
 (sBin .lss x1 r4).bind fun r5 =>
 (asB r5).bind fun b6 =>
 some [b6])
 (some [false])
 (none))
 (some [false])
 (none)).bind fun vs7 =>
 some { r := (.bool (vs7.getD 0 false)) }
theorem r42 (T : TT) (k : Nat) (x0a x0b x0c x0d x0e x1 : SVal) : bodyE P H T k 42 [(.agg [x0a, x0b, x0c, x0d, x0e]), x1] = R42 T k x0a x0b x0c x0d x0e x1 := by kernel_rfl
noncomputable def D42 (T : TT) (k : Nat) : List SVal → Option Res
  | [(.agg [x0a, x0b, x0c, x0d, x0e]), x1] => R42 T k x0a x0b x0c x0d x0e x1
  | a => bodyE P H T k 42 a
theorem d42 (T : TT) (k : Nat) (a : List SVal) : D42 T k a = bodyE P H T k 42 a := by
  unfold D42
  split
  · exact (r42 ..).symm
  · rfl
theorem t42 (k : Nat) (x0a x0b x0c x0d x0e x1 : SVal) : T (k + 1) 42 [(.agg [x0a, x0b, x0c, x0d, x0e]), x1] = R42 (T k) k x0a x0b x0c x0d x0e x1 := (tb k 42 _ rfl).trans (r42 ..)
/-- limelight/scopes.owns -/
def R43 (T : TT) (k : Nat) (x0a x0b x0c x0d x0e x1 : SVal) : Option Res :=
 if (oneS x1) = true then
 (T 76 []).bind fun r1 =>
 (T 75 [(weak r1.r), (.fn 77 [(.rp [x0a, x0b, x0c, x0d, x0e]), (.rp [x1])])]).bind fun r2 =>
 some { r := r2.r }
 else none
theorem r43 (T : TT) (k : Nat) (x0a x0b x0c x0d x0e x1 : SVal) : bodyE P H T k 43 [(.agg [x0a, x0b, x0c, x0d, x0e]), x1] = R43 T k x0a x0b x0c x0d x0e x1 := by kernel_rfl
noncomputable def D43 (T : TT) (k : Nat) : List SVal → Option Res
  | [(.agg [x0a, x0b, x0c, x0d, x0e]), x1] => R43 T k x0a x0b x0c x0d x0e x1
  | a => bodyE P H T k 43 a
theorem d43 (T : TT) (k : Nat) (a : List SVal) : D43 T k a = bodyE P H T k 43 a := by
  unfold D43
  split
  · exact (r43 ..).symm
  · rfl
theorem t43 (k : Nat) (x0a x0b x0c x0d x0e x1 : SVal) : T (k + 1) 43 [(.agg [x0a, x0b, x0c, x0d, x0e]), x1] = R43 (T k) k x0a x0b x0c x0d x0e x1 := (tb k 43 _ rfl).trans (r43 ..)
/-- limelight/flat.List -/
def R44 (T : TT) (k : Nat) (x0 : SVal) : Option Res :=
 (T 78 [(weak x0), (.int .i64 0)]).bind fun r1 =>
 (sNot r1.r).bind fun r2 =>
 pickC r2
 (some { r := (.sl 1 false false []) })
 (loopN (fun s3 next3 =>
 (sBin .gtr (.int .i64 (s3.k2.c0.xs.length : Nat)) (.int .i64 0)).bind fun r4 =>
 pickC r4
 ((sBin .sub (.int .i64 (s3.k2.c0.xs.length : Nat)) (.int .i64 1)).bind fun r5 =>
 (sIn s3.k2.c0.xs.length r5).bind fun j6 =>
 (s3.k2.c0.xs[j6]?).bind fun e7 =>
 if (elemOk false 1 e7) = true then
 (sBin .sub (.int .i64 (s3.k2.c0.xs.length : Nat)) (.int .i64 1)).bind fun r8 =>
 (sBnd s3.k2.c0.xs.length r8).bind fun n9 =>
 if (List.all [[.v e7]] allOne) = true then
 if (s3.k1.xs.length + ([e7] : List SVal).length) * 8 ≤ maxAppend then
 (T 80 [(weak s3.k0), e7]).bind fun r10 =>
 (T 79 [(weak r10.r)]).bind fun r11 =>
 (callIt T r11.r).bind fun ys12 =>
 rangeN (fun s13 y13 next13 =>
 (tup2 y13).bind fun z14 =>
 if (List.all [[.v z14.2]] allOne) = true then
 if (s13.k2.c0.xs.length + ([z14.2] : List SVal).length) * 8 ≤ maxAppend then
 next13 ⟨[(weak s13.k0), (.sl 1 true false s13.k1.xs), (.mb [(.sl 1 true false (s13.k2.c0.xs ++ ([z14.2] : List SVal)))])], [], false⟩
 else none
 else none) (fun s15 =>
 next3 ⟨[(weak s15.k0), (.sl 1 true false s15.k1.xs), (.mb [(.sl 1 true false s15.k2.c0.xs)])], [], false⟩) ys12 ⟨[(weak s3.k0), (.sl 1 true false (s3.k1.xs ++ ([e7] : List SVal))), (.mb [(.sl 1 true false (s3.k2.c0.xs.take n9))])], [], false⟩
 else none
 else none
 else none)
 (some { r := (.sl 1 false false s3.k1.xs) })) k ⟨[(weak x0), (.sl 1 true false []), (.mb [(.sl 1 true false [(.int .i64 0)])])], [], false⟩)
theorem r44 (T : TT) (k : Nat) (x0 : SVal) : bodyE P H T k 44 [x0] = R44 T k x0 := by kernel_rfl
noncomputable def D44 (T : TT) (k : Nat) : List SVal → Option Res
  | [x0] => R44 T k x0
  | a => bodyE P H T k 44 a
theorem d44 (T : TT) (k : Nat) (a : List SVal) : D44 T k a = bodyE P H T k 44 a := by
  unfold D44
  split
  · exact (r44 ..).symm
  · rfl
theorem t44 (k : Nat) (x0 : SVal) : T (k + 1) 44 [x0] = R44 (T k) k x0 := (tb k 44 _ rfl).trans (r44 ..)
/-- limelight/area.Tabs -/
def R45 (T : TT) (k : Nat) (x0a x0b x0c x0d x0e x1 : SVal) : Option Res :=
 (T 81 [(weak x0a), x1]).bind fun r1 =>
 ((sBin .geq r1.r.c0 (.int .i64 0)).bind fun r2 =>
 guardX r2 true
 ((T 82 [(.agg [(weak x0a), (weak x0b), (weak x0c), (weak x0d), (weak x0e)]), x1]).bind fun r3 =>
 (asB r3.r).bind fun b4 =>
 some [b4])
 (some [false])
 (none)).bind fun vs5 =>
 some { r := (.bool (vs5.getD 0 false)) }
theorem r45 (T : TT) (k : Nat) (x0a x0b x0c x0d x0e x1 : SVal) : bodyE P H T k 45 [(.agg [x0a, x0b, x0c, x0d, x0e]), x1] = R45 T k x0a x0b x0c x0d x0e x1 := by kernel_rfl
noncomputable def D45 (T : TT) (k : Nat) : List SVal → Option Res
  | [(.agg [x0a, x0b, x0c, x0d, x0e]), x1] => R45 T k x0a x0b x0c x0d x0e x1
  | a => bodyE P H T k 45 a
theorem d45 (T : TT) (k : Nat) (a : List SVal) : D45 T k a = bodyE P H T k 45 a := by
  unfold D45
  split
  · exact (r45 ..).symm
  · rfl
theorem t45 (k : Nat) (x0a x0b x0c x0d x0e x1 : SVal) : T (k + 1) 45 [(.agg [x0a, x0b, x0c, x0d, x0e]), x1] = R45 (T k) k x0a x0b x0c x0d x0e x1 := (tb k 45 _ rfl).trans (r45 ..)
/-- slices.SortStableFunc[[]int,int] -/
def R46 (T : TT) (k : Nat) (x0 : List SVal) (x1 : SVal) : Option Res :=
 (T 83 [(.sl 1 true false x0), (.int .i64 (x0.length : Nat)), x1]).bind fun r1 =>
 some { r := (.tup []), outs := [(.sl 1 true false ((r1.outs.headD .undef).xs))] }
theorem r46 (T : TT) (k : Nat) (x0 : List SVal) (x1 : SVal) : bodyE P H T k 46 [(.sl 1 true false x0), x1] = R46 T k x0 x1 := by kernel_rfl
noncomputable def D46 (T : TT) (k : Nat) : List SVal → Option Res
  | [(.sl 1 true false x0), x1] => R46 T k x0 x1
  | a => bodyE P H T k 46 a
theorem d46 (T : TT) (k : Nat) (a : List SVal) : D46 T k a = bodyE P H T k 46 a := by
  unfold D46
  split
  · exact (r46 ..).symm
  · rfl
theorem t46 (k : Nat) (x0 : List SVal) (x1 : SVal) : T (k + 1) 46 [(.sl 1 true false x0), x1] = R46 (T k) k x0 x1 := (tb k 46 _ rfl).trans (r46 ..)
/-- limelight/scopes.Items$1 -/
def R47 (T : TT) (k : Nat) (x0 x1 x2a x2b x2c x2d x2e : SVal) : Option Res :=
 (T 19 [(.agg [(weak x2a), (weak x2b), (weak x2c), (weak x2d), (weak x2e)]), x0]).bind fun r1 =>
 (T 49 [r1.r]).bind fun r2 =>
 (T 19 [(.agg [(weak x2a), (weak x2b), (weak x2c), (weak x2d), (weak x2e)]), x1]).bind fun r3 =>
 (T 49 [r3.r]).bind fun r4 =>
 (T 48 [r2.r, r4.r]).bind fun r5 =>
 some { r := r5.r }
theorem r47 (T : TT) (k : Nat) (x0 x1 x2a x2b x2c x2d x2e : SVal) : bodyE P H T k 47 [x0, x1, (.rp [x2a, x2b, x2c, x2d, x2e])] = R47 T k x0 x1 x2a x2b x2c x2d x2e := by kernel_rfl
noncomputable def D47 (T : TT) (k : Nat) : List SVal → Option Res
  | [x0, x1, (.rp [x2a, x2b, x2c, x2d, x2e])] => R47 T k x0 x1 x2a x2b x2c x2d x2e
  | a => bodyE P H T k 47 a
theorem d47 (T : TT) (k : Nat) (a : List SVal) : D47 T k a = bodyE P H T k 47 a := by
  unfold D47
  split
  · exact (r47 ..).symm
  · rfl
theorem t47 (k : Nat) (x0 x1 x2a x2b x2c x2d x2e : SVal) : T (k + 1) 47 [x0, x1, (.rp [x2a, x2b, x2c, x2d, x2e])] = R47 (T k) k x0 x1 x2a x2b x2c x2d x2e := (tb k 47 _ rfl).trans (r47 ..)
/-- cmp.Compare[int] -/
def R48 (T : TT) (k : Nat) (x0 x1 : SVal) : Option Res :=
 (T 84 [x0]).bind fun r1 =>
 (T 84 [x1]).bind fun r2 =>
 pickC r1.r
 (pickC r2.r
 (some { r := (.int .i64 0) })
 (some { r := (.int .i64 (-1)) }))
 (pickC r2.r
 (some { r := (.int .i64 1) })
 ((sBin .lss x0 x1).bind fun r3 =>
 pickC r3
 (some { r := (.int .i64 (-1)) })
 ((sBin .gtr x0 x1).bind fun r4 =>
 pickC r4
 (some { r := (.int .i64 1) })
 (some { r := (.int .i64 0) }))))
theorem r48 (T : TT) (k : Nat) (x0 x1 : SVal) : bodyE P H T k 48 [x0, x1] = R48 T k x0 x1 := by kernel_rfl
noncomputable def D48 (T : TT) (k : Nat) : List SVal → Option Res
  | [x0, x1] => R48 T k x0 x1
  | a => bodyE P H T k 48 a
theorem d48 (T : TT) (k : Nat) (a : List SVal) : D48 T k a = bodyE P H T k 48 a := by
  unfold D48
  split
  · exact (r48 ..).symm
  · rfl
theorem t48 (k : Nat) (x0 x1 : SVal) : T (k + 1) 48 [x0, x1] = R48 (T k) k x0 x1 := (tb k 48 _ rfl).trans (r48 ..)
/-- limelight/scopes.rank -/
def R49 (T : TT) (k : Nat) (x0 : SVal) : Option Res :=
 (sBin .eql x0 (.int .i64 0)).bind fun r1 =>
 pickC r1
 (some { r := (.int .i64 2147483648) })
 (some { r := x0 })
theorem r49 (T : TT) (k : Nat) (x0 : SVal) : bodyE P H T k 49 [x0] = R49 T k x0 := by kernel_rfl
noncomputable def D49 (T : TT) (k : Nat) : List SVal → Option Res
  | [x0] => R49 T k x0
  | a => bodyE P H T k 49 a
theorem d49 (T : TT) (k : Nat) (a : List SVal) : D49 T k a = bodyE P H T k 49 a := by
  unfold D49
  split
  · exact (r49 ..).symm
  · rfl
theorem t49 (k : Nat) (x0 : SVal) : T (k + 1) 49 [x0] = R49 (T k) k x0 := (tb k 49 _ rfl).trans (r49 ..)
/-- limelight/limelightref01.May -/
def R50 (T : TT) (k : Nat) (x0 : SVal) : Option Res :=
 ((sLen x0).bind fun r1 =>
 (sBin .lss r1 (.int .i64 1)).bind fun r2 =>
 guardX r2 false
 ((sLen x0).bind fun r3 =>
 (sBin .gtr r3 (.int .i64 64)).bind fun r4 =>
 (asB r4).bind fun b5 =>
 some [b5])
 (some [true])
 (none)).bind fun vs6 =>
 pickC (.bool (vs6.getD 0 false))
 (some { r := (.bool false) })
 (loopN (fun s7 next7 =>
 (sLen s7.k0).bind fun r8 =>
 (sBin .lss s7.k1 r8).bind fun r9 =>
 pickC r9
 (((sIdx true 7 s7.k0 s7.k1).bind fun e10 =>
 (T 85 [(.agg [(SVal.cell e10 0), (SVal.cell e10 1), (SVal.cell e10 2), (weak (SVal.cell e10 3)), (SVal.cell e10 4), (SVal.cell e10 5), (weak (SVal.cell e10 6))]), s7.k1]).bind fun r11 =>
 (sNot r11.r).bind fun r12 =>
 guardX r12 false
 ((sIdx true 7 s7.k0 s7.k1).bind fun e13 =>
 (T 86 [(.agg [(SVal.cell e13 0), (SVal.cell e13 1), (SVal.cell e13 2), (weak (SVal.cell e13 3)), (SVal.cell e13 4), (SVal.cell e13 5), (weak (SVal.cell e13 6))])]).bind fun r14 =>
 (sNot r14.r).bind fun r15 =>
 guardX r15 false
 ((T 87 [(weak s7.k0), s7.k1]).bind fun r16 =>
 (sNot r16.r).bind fun r17 =>
 guardX r17 false
 ((T 88 [(weak s7.k0), s7.k1]).bind fun r18 =>
 (sNot r18.r).bind fun r19 =>
 (asB r19).bind fun b20 =>
 some [b20])
 (some [true])
 (none))
 (some [true])
 (none))
 (some [true])
 (none)).bind fun vs21 =>
 pickC (.bool (vs21.getD 0 false))
 (some { r := (.bool false) })
 ((sBin .add s7.k1 (.int .i64 1)).bind fun r22 =>
 next7 ⟨[(weak s7.k0), r22], [], false⟩))
 (loopN (fun s23 next23 =>
 (sLen s23.k0).bind fun r24 =>
 (sBin .lss s23.k1 r24).bind fun r25 =>
 pickC r25
 ((T 89 [(weak s23.k0), s23.k1]).bind fun r26 =>
 (sNot r26.r).bind fun r27 =>
 pickC r27
 (some { r := (.bool false) })
 ((sBin .add s23.k1 (.int .i64 1)).bind fun r28 =>
 next23 ⟨[(weak s23.k0), r28], [], false⟩))
 (some { r := (.bool true) })) k ⟨[(weak s7.k0), (.int .i64 0)], [], false⟩)) k ⟨[(weak x0), (.int .i64 0)], [], false⟩)
theorem r50 (T : TT) (k : Nat) (x0 : SVal) : bodyE P H T k 50 [x0] = R50 T k x0 := by kernel_rfl
theorem t50 (k : Nat) (x0 : SVal) : T (k + 1) 50 [x0] = R50 (T k) k x0 := (tb k 50 _ rfl).trans (r50 ..)
/-- limelight/limelightref10.May -/
def R51 (T : TT) (k : Nat) (x0a x0b x0c x0d x0e : SVal) : Option Res :=
 (T 90 [(.agg [(weak x0a), (weak x0b), (weak x0c), (weak x0d), (weak x0e)])]).bind fun r1 =>
 loopN (fun s2 next2 =>
 (sLen s2.k1).bind fun r3 =>
 (sBin .lss s2.k2 r3).bind fun r4 =>
 pickC r4
 ((sLen (SVal.cell s2.k0 1)).bind fun r5 =>
 (sLen (SVal.cell s2.k0 2)).bind fun r6 =>
 (sBin .add r5 r6).bind fun r7 =>
 (sBin .lss s2.k2 r7).bind fun r8 =>
 pickC r8
 ((sIdx false 1 s2.k1 s2.k2).bind fun e9 =>
 (T 91 [(weak (SVal.cell s2.k0 0)), e9]).bind fun r10 =>
 (sNot r10.r).bind fun r11 =>
 pickC r11
 (some { r := (.bool false) })
 ((sBin .add s2.k2 (.int .i64 1)).bind fun r12 =>
 next2 ⟨[(.rp [(SVal.cell s2.k0 0), (SVal.cell s2.k0 1), (SVal.cell s2.k0 2), (SVal.cell s2.k0 3), (SVal.cell s2.k0 4)]), (weak s2.k1), r12], [], false⟩))
 ((sIdx false 1 s2.k1 s2.k2).bind fun e13 =>
 (T 92 [(weak (SVal.cell s2.k0 0)), e13]).bind fun r14 =>
 (sNot r14.r).bind fun r15 =>
 pickC r15
 (some { r := (.bool false) })
 ((sBin .add s2.k2 (.int .i64 1)).bind fun r16 =>
 next2 ⟨[(.rp [(SVal.cell s2.k0 0), (SVal.cell s2.k0 1), (SVal.cell s2.k0 2), (SVal.cell s2.k0 3), (SVal.cell s2.k0 4)]), (weak s2.k1), r16], [], false⟩)))
 (loopN (fun s17 next17 =>
 (sLen (SVal.cell s17.k0 3)).bind fun r18 =>
 (sBin .lss s17.k2 r18).bind fun r19 =>
 pickC r19
 ((sIdx true 2 (SVal.cell s17.k0 3) s17.k2).bind fun e20 =>
 ((sBin .neq (SVal.cell e20 1) (.int .i64 (-1))).bind fun r21 =>
 guardX r21 true
 ((T 17 [(weak (SVal.cell s17.k0 0)), (SVal.cell e20 1)]).bind fun r22 =>
 (sNot r22.r).bind fun r23 =>
 (asB r23).bind fun b24 =>
 some [b24])
 (some [false])
 (none)).bind fun vs25 =>
 pickC (.bool (vs25.getD 0 false))
 (some { r := (.bool false) })
 ((sBin .add s17.k2 (.int .i64 1)).bind fun r26 =>
 next17 ⟨[(.rp [(SVal.cell s17.k0 0), (SVal.cell s17.k0 1), (SVal.cell s17.k0 2), (SVal.cell s17.k0 3), (SVal.cell s17.k0 4)]), (weak s17.k1), r26], [], false⟩))
 ((sLen (SVal.cell s17.k0 1)).bind fun r27 =>
 (sSlice 1 s17.k1 (some r27) none).bind fun r28 =>
 loopN (fun s29 next29 =>
 (sLen s29.k2).bind fun r30 =>
 (sBin .lss s29.k3 r30).bind fun r31 =>
 pickC r31
 ((sIdx false 1 s29.k2 s29.k3).bind fun e32 =>
 (T 27 [(weak (SVal.cell s29.k0 4)), e32]).bind fun r33 =>
 if isSc1 r33.r = true then
 (sNot r33.r).bind fun r34 =>
 pickC r34
 (some { r := (.bool false) })
 ((sBin .add s29.k3 (.int .i64 1)).bind fun r35 =>
 next29 ⟨[(.rp [(SVal.cell s29.k0 0), (SVal.cell s29.k0 1), (SVal.cell s29.k0 2), (SVal.cell s29.k0 3), (SVal.cell s29.k0 4)]), (weak s29.k1), (weak s29.k2), r35], [], false⟩)
 else none)
 (((T 93 [(weak s29.k1)]).bind fun r36 =>
 guardX r36.r true
 ((T 93 [(weak (SVal.cell s29.k0 4))]).bind fun r37 =>
 guardX r37.r true
 ((sLen (SVal.cell s29.k0 4)).bind fun r38 =>
 (sLen s29.k2).bind fun r39 =>
 (sBin .eql r38 r39).bind fun r40 =>
 (asB r40).bind fun b41 =>
 some [b41])
 (some [false])
 (none))
 (some [false])
 (none)).bind fun vs42 =>
 some { r := (.bool (vs42.getD 0 false)) })) k ⟨[(.rp [(SVal.cell s17.k0 0), (SVal.cell s17.k0 1), (SVal.cell s17.k0 2), (SVal.cell s17.k0 3), (SVal.cell s17.k0 4)]), (weak s17.k1), (weak r28), (.int .i64 0)], [], false⟩)) k ⟨[(.rp [(SVal.cell s2.k0 0), (SVal.cell s2.k0 1), (SVal.cell s2.k0 2), (SVal.cell s2.k0 3), (SVal.cell s2.k0 4)]), (weak s2.k1), (.int .i64 0)], [], false⟩)) k ⟨[(.rp [x0a, x0b, x0c, x0d, x0e]), (weak r1.r), (.int .i64 0)], [], false⟩
theorem r51 (T : TT) (k : Nat) (x0a x0b x0c x0d x0e : SVal) : bodyE P H T k 51 [(.agg [x0a, x0b, x0c, x0d, x0e])] = R51 T k x0a x0b x0c x0d x0e := by kernel_rfl
theorem t51 (k : Nat) (x0a x0b x0c x0d x0e : SVal) : T (k + 1) 51 [(.agg [x0a, x0b, x0c, x0d, x0e])] = R51 (T k) k x0a x0b x0c x0d x0e := (tb k 51 _ rfl).trans (r51 ..)
/-- limelight/flat.Up -/
def R52 (T : TT) (k : Nat) (x0 x1 : SVal) : Option Res :=
 (T 78 [(weak x0), x1]).bind fun r1 =>
 (sNot r1.r).bind fun r2 =>
 pickC r2
 (some { r := (.sl 1 false false []) })
 ((T 94 [(weak x0), x1]).bind fun r3 =>
 (T 66 [r3.r]).bind fun r4 =>
 some { r := (.sl 1 false false r4.r.xs) })
theorem r52 (T : TT) (k : Nat) (x0 x1 : SVal) : bodyE P H T k 52 [x0, x1] = R52 T k x0 x1 := by kernel_rfl
noncomputable def D52 (T : TT) (k : Nat) : List SVal → Option Res
  | [x0, x1] => R52 T k x0 x1
  | a => bodyE P H T k 52 a
theorem d52 (T : TT) (k : Nat) (a : List SVal) : D52 T k a = bodyE P H T k 52 a := by
  unfold D52
  split
  · exact (r52 ..).symm
  · rfl
theorem t52 (k : Nat) (x0 x1 : SVal) : T (k + 1) 52 [x0, x1] = R52 (T k) k x0 x1 := (tb k 52 _ rfl).trans (r52 ..)
/-- slices.IndexFunc[[]int,int] -/
def R53 (T : TT) (k : Nat) (x0 x1 : SVal) : Option Res :=
 (sLen x0).bind fun r1 =>
 loopN (fun s2 next2 =>
 (sBin .lss s2.k3 s2.k2).bind fun r3 =>
 pickC r3
 ((sIdx false 1 s2.k0 s2.k3).bind fun e4 =>
 (callV H T s2.k1 [e4]).bind fun y5 =>
 pickC y5
 (some { r := s2.k3 })
 ((sBin .add s2.k3 (.int .i64 1)).bind fun r6 =>
 next2 ⟨[(weak s2.k0), s2.k1, s2.k2, r6], [], false⟩))
 (some { r := (.int .i64 (-1)) })) k ⟨[(weak x0), x1, r1, (.int .i64 0)], [], false⟩
theorem r53 (T : TT) (k : Nat) (x0 x1 : SVal) : bodyE P H T k 53 [x0, x1] = R53 T k x0 x1 := by kernel_rfl
noncomputable def D53 (T : TT) (k : Nat) : List SVal → Option Res
  | [x0, x1] => R53 T k x0 x1
  | a => bodyE P H T k 53 a
theorem d53 (T : TT) (k : Nat) (a : List SVal) : D53 T k a = bodyE P H T k 53 a := by
  unfold D53
  split
  · exact (r53 ..).symm
  · rfl
theorem t53 (k : Nat) (x0 x1 : SVal) : T (k + 1) 53 [x0, x1] = R53 (T k) k x0 x1 := (tb k 53 _ rfl).trans (r53 ..)
/-- limelight/scopes.Owner$1 -/
def R54 (T : TT) (k : Nat) (x0 x1a x1b x1c x1d x1e : SVal) : Option Res :=
 (T 43 [(.agg [(weak x1a), (weak x1b), (weak x1c), (weak x1d), (weak x1e)]), x0]).bind fun r1 =>
 some { r := r1.r }
theorem r54 (T : TT) (k : Nat) (x0 x1a x1b x1c x1d x1e : SVal) : bodyE P H T k 54 [x0, (.rp [x1a, x1b, x1c, x1d, x1e])] = R54 T k x0 x1a x1b x1c x1d x1e := by kernel_rfl
noncomputable def D54 (T : TT) (k : Nat) : List SVal → Option Res
  | [x0, (.rp [x1a, x1b, x1c, x1d, x1e])] => R54 T k x0 x1a x1b x1c x1d x1e
  | a => bodyE P H T k 54 a
theorem d54 (T : TT) (k : Nat) (a : List SVal) : D54 T k a = bodyE P H T k 54 a := by
  unfold D54
  split
  · exact (r54 ..).symm
  · rfl
theorem t54 (k : Nat) (x0 x1a x1b x1c x1d x1e : SVal) : T (k + 1) 54 [x0, (.rp [x1a, x1b, x1c, x1d, x1e])] = R54 (T k) k x0 x1a x1b x1c x1d x1e := (tb k 54 _ rfl).trans (r54 ..)
end Go.Proofs.YtjcnilaogidhlaaGreat.K
