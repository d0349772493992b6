/- What the evaluator makes of the functions, by program (wip/tr/resid.py); each equation is checked by the kernel. -/
import Derived.Test.YtjcnilaogidhlaaGreatLmAJ
import Derived.Test.YtjcnilaogidhlaaGreatLmAB
import Derived.KernelRfl
set_option linter.unusedVariables false
set_option linter.unusedSimpArgs false
set_option linter.unnecessarySimpa false
set_option linter.all false
set_option maxRecDepth 100000
namespace Go.Proofs.YtjcnilaogidhlaaGreat.K
open Go Go.Lm
/-- limelight/attr.Get -/
def R55 (T : TT) (k : Nat) (x0 x1 x2 : SVal) : Option Res :=
 (T 95 [(weak x0), x1]).bind fun r1 =>
 (sNot r1.r).bind fun r2 =>
 pickC r2
 (some { r := (.tup [(.int .i64 0), (.bool false)]) })
 ((sIdx true 7 x0 x1).bind fun e3 =>
 (T 96 [(.agg [(SVal.cell e3 0), (SVal.cell e3 1), (SVal.cell e3 2), (weak (SVal.cell e3 3)), (SVal.cell e3 4), (SVal.cell e3 5), (weak (SVal.cell e3 6))]), x2]).bind fun r4 =>
 (sBin .lss r4.r (.int .i64 0)).bind fun r5 =>
 pickC r5
 (some { r := (.tup [(.int .i64 0), (.bool false)]) })
 ((sIdx true 7 x0 x1).bind fun e6 =>
 (sIdx true 2 (SVal.cell e6 6) r4.r).bind fun e7 =>
 some { r := (.tup [(SVal.cell e7 1), (.bool true)]) }))
theorem r55 (T : TT) (k : Nat) (x0 x1 x2 : SVal) : bodyE P H T k 55 [x0, x1, x2] = R55 T k x0 x1 x2 := by kernel_rfl
noncomputable def D55 (T : TT) (k : Nat) : List SVal → Option Res
  | [x0, x1, x2] => R55 T k x0 x1 x2
  | a => bodyE P H T k 55 a
theorem d55 (T : TT) (k : Nat) (a : List SVal) : D55 T k a = bodyE P H T k 55 a := by
  unfold D55
  split
  · exact (r55 ..).symm
  · rfl
theorem t55 (k : Nat) (x0 x1 x2 : SVal) : T (k + 1) 55 [x0, x1, x2] = R55 (T k) k x0 x1 x2 := (tb k 55 _ rfl).trans (r55 ..)
/-- limelight/scopes.popup -/
def R56 (T : TT) (k : Nat) (x0a x0b x0c x0d x0e x1 : SVal) : Option Res :=
 if (oneS x1) = true then
 (T 97 [(weak x0d), (.fn 98 [(.rp [x1])])]).bind fun r1 =>
 (sBin .lss r1.r (.int .i64 0)).bind fun r2 =>
 pickC r2
 (some { r := (.tup [(.agg [(.int .i64 0), (.int .i64 0)]), (.bool false)]) })
 ((sIdx true 2 x0d r1.r).bind fun e3 =>
 if (allOne [.v (SVal.cell e3 0), .v (SVal.cell e3 1)]) = true then
 some { r := (.tup [(.agg [(SVal.cell e3 0), (SVal.cell e3 1)]), (.bool true)]) }
 else none)
 else none
theorem r56 (T : TT) (k : Nat) (x0a x0b x0c x0d x0e x1 : SVal) : bodyE P H T k 56 [(.agg [x0a, x0b, x0c, x0d, x0e]), x1] = R56 T k x0a x0b x0c x0d x0e x1 := by kernel_rfl
noncomputable def D56 (T : TT) (k : Nat) : List SVal → Option Res
  | [(.agg [x0a, x0b, x0c, x0d, x0e]), x1] => R56 T k x0a x0b x0c x0d x0e x1
  | a => bodyE P H T k 56 a
theorem d56 (T : TT) (k : Nat) (a : List SVal) : D56 T k a = bodyE P H T k 56 a := by
  unfold D56
  split
  · exact (r56 ..).symm
  · rfl
theorem t56 (k : Nat) (x0a x0b x0c x0d x0e x1 : SVal) : T (k + 1) 56 [(.agg [x0a, x0b, x0c, x0d, x0e]), x1] = R56 (T k) k x0a x0b x0c x0d x0e x1 := (tb k 56 _ rfl).trans (r56 ..)
/-- limelight/flat.Above -/
def R57 (T : TT) (k : Nat) (x0 x1 x2 : SVal) : Option Res :=
 (T 52 [(weak x0), x2]).bind fun r1 =>
 (T 70 [(weak r1.r), x1]).bind fun r2 =>
 some { r := r2.r }
theorem r57 (T : TT) (k : Nat) (x0 x1 x2 : SVal) : bodyE P H T k 57 [x0, x1, x2] = R57 T k x0 x1 x2 := by kernel_rfl
noncomputable def D57 (T : TT) (k : Nat) : List SVal → Option Res
  | [x0, x1, x2] => R57 T k x0 x1 x2
  | a => bodyE P H T k 57 a
theorem d57 (T : TT) (k : Nat) (a : List SVal) : D57 T k a = bodyE P H T k 57 a := by
  unfold D57
  split
  · exact (r57 ..).symm
  · rfl
theorem t57 (k : Nat) (x0 x1 x2 : SVal) : T (k + 1) 57 [x0, x1, x2] = R57 (T k) k x0 x1 x2 := (tb k 57 _ rfl).trans (r57 ..)
/-- limelight/limelightref16.item -/
def R58 (T : TT) (k : Nat) (x0a x0b x0c x0d x0e x1 x2 : SVal) : Option Res :=
 ((sIdx true 7 x0a x1).bind fun e1 =>
 (sBin .eql (SVal.cell e1 0) (.int .i64 1)).bind fun r2 =>
 guardX r2 true
 ((T 23 [(.agg [(weak x0a), (weak x0b), (weak x0c), (weak x0d), (weak x0e)]), x1]).bind fun r3 =>
 (sBin .eql r3.r x2).bind fun r4 =>
 guardX r4 true
 ((T 24 [(.agg [(weak x0a), (weak x0b), (weak x0c), (weak x0d), (weak x0e)]), x1]).bind fun r5 =>
 (sBin .geq r5.r (.int .i64 0)).bind fun r6 =>
 guardX r6 true
 ((T 25 [(.agg [(weak x0a), (weak x0b), (weak x0c), (weak x0d), (weak x0e)]), x1]).bind fun r7 =>
 (sBin .eql r7.r (.int .i64 (-1))).bind fun r8 =>
 guardX r8 true
 ((T 31 [(.agg [(weak x0a), (weak x0b), (weak x0c), (weak x0d), (weak x0e)]), x1]).bind fun r9 =>
 guardX r9.r false
 ((T 29 [(.agg [(weak x0a), (weak x0b), (weak x0c), (weak x0d), (weak x0e)]), x1]).bind fun r10 =>
 (asB r10.r).bind fun b11 =>
 some [b11])
 (some [true])
 (none))
 (some [false])
 (none))
 (some [false])
 (none))
 (some [false])
 (none))
 (some [false])
 (none)).bind fun vs12 =>
 some { r := (.bool (vs12.getD 0 false)) }
theorem r58 (T : TT) (k : Nat) (x0a x0b x0c x0d x0e x1 x2 : SVal) : bodyE P H T k 58 [(.agg [x0a, x0b, x0c, x0d, x0e]), x1, x2] = R58 T k x0a x0b x0c x0d x0e x1 x2 := by kernel_rfl
theorem t58 (k : Nat) (x0a x0b x0c x0d x0e x1 x2 : SVal) : T (k + 1) 58 [(.agg [x0a, x0b, x0c, x0d, x0e]), x1, x2] = R58 (T k) k x0a x0b x0c x0d x0e x1 x2 := (tb k 58 _ rfl).trans (r58 ..)
/-- limelight/limelightref16.ahead -/
def R59 (T : TT) (k : Nat) (x0 x1 : SVal) : Option Res :=
 ((sBin .gtr x0 (.int .i64 0)).bind fun r1 =>
 guardX r1 true
 ((sBin .eql x1 (.int .i64 0)).bind fun r2 =>
 guardX r2 false
 ((sBin .lss x0 x1).bind fun r3 =>
 (asB r3).bind fun b4 =>
 some [b4])
 (some [true])
 (none))
 (some [false])
 (none)).bind fun vs5 =>
 some { r := (.bool (vs5.getD 0 false)) }
theorem r59 (T : TT) (k : Nat) (x0 x1 : SVal) : bodyE P H T k 59 [x0, x1] = R59 T k x0 x1 := by kernel_rfl
theorem t59 (k : Nat) (x0 x1 : SVal) : T (k + 1) 59 [x0, x1] = R59 (T k) k x0 x1 := (tb k 59 _ rfl).trans (r59 ..)
/-- limelight/limelightref02.Get -/
def R60 (T : TT) (k : Nat) (x0 x1 x2 : SVal) : Option Res :=
 (T 17 [(weak x0), x1]).bind fun r1 =>
 (sNot r1.r).bind fun r2 =>
 pickC r2
 (some { r := (.tup [(.int .i64 0), (.bool false)]) })
 (loopN (fun s3 next3 =>
 (sIdx true 7 s3.k0 s3.k1).bind fun e4 =>
 (sLen (SVal.cell e4 6)).bind fun r5 =>
 (sBin .lss s3.k3 r5).bind fun r6 =>
 pickC r6
 ((sIdx true 7 s3.k0 s3.k1).bind fun e7 =>
 (sIdx true 2 (SVal.cell e7 6) s3.k3).bind fun e8 =>
 (sBin .eql (SVal.cell e8 0) s3.k2).bind fun r9 =>
 pickC r9
 ((sIdx true 7 s3.k0 s3.k1).bind fun e10 =>
 (sIdx true 2 (SVal.cell e10 6) s3.k3).bind fun e11 =>
 some { r := (.tup [(SVal.cell e11 1), (.bool true)]) })
 ((sBin .add s3.k3 (.int .i64 1)).bind fun r12 =>
 next3 ⟨[(weak s3.k0), s3.k1, s3.k2, r12], [], false⟩))
 (some { r := (.tup [(.int .i64 0), (.bool false)]) })) k ⟨[(weak x0), x1, x2, (.int .i64 0)], [], false⟩)
theorem r60 (T : TT) (k : Nat) (x0 x1 x2 : SVal) : bodyE P H T k 60 [x0, x1, x2] = R60 T k x0 x1 x2 := by kernel_rfl
theorem t60 (k : Nat) (x0 x1 x2 : SVal) : T (k + 1) 60 [x0, x1, x2] = R60 (T k) k x0 x1 x2 := (tb k 60 _ rfl).trans (r60 ..)
/-- limelight/limelightref06.below -/
def R61 (T : TT) (k : Nat) (x0 x1 : SVal) : Option Res :=
 if (List.all [[.v x1]] allOne) = true then
 (T 99 [(weak x0), x1]).bind fun r1 =>
 loopN (fun s2 next2 =>
 (sLen s2.k2).bind fun r3 =>
 (sBin .lss s2.k3 r3).bind fun r4 =>
 pickC r4
 ((sIdx false 1 s2.k2 s2.k3).bind fun e5 =>
 (T 61 [(weak s2.k0), e5]).bind fun r6 =>
 (elems 1 r6.r).bind fun ys7 =>
 if (s2.k1.xs.length + ys7.length) * 8 ≤ maxAppend then
 (sBin .add s2.k3 (.int .i64 1)).bind fun r8 =>
 next2 ⟨[(weak s2.k0), (.sl 1 true false (s2.k1.xs ++ ys7)), (weak s2.k2), r8], [], false⟩
 else none)
 (some { r := (.sl 1 false false s2.k1.xs) })) k ⟨[(weak x0), (.sl 1 true false [x1]), (weak r1.r), (.int .i64 0)], [], false⟩
 else none
theorem r61 (T : TT) (k : Nat) (x0 x1 : SVal) : bodyE P H T k 61 [x0, x1] = R61 T k x0 x1 := by kernel_rfl
theorem t61 (k : Nat) (x0 x1 : SVal) : T (k + 1) 61 [x0, x1] = R61 (T k) k x0 x1 := (tb k 61 _ rfl).trans (r61 ..)
/-- limelight/limelightref13.Is -/
def R62 (T : TT) (k : Nat) (x0a x0b x0c x0d x0e x1 : SVal) : Option Res :=
 (T 39 [(weak x0a), x1]).bind fun r1 =>
 (guardX r1.r.c1 true
 ((T 100 [(weak x0a), x1]).bind fun r2 =>
 (sNot r2.r).bind fun r3 =>
 guardX r3 true
 ((T 101 [(weak x0a), x1]).bind fun r4 =>
 (sNot r4.r).bind fun r5 =>
 guardX r5 true
 ((T 102 [(.agg [(weak x0a), (weak x0b), (weak x0c), (weak x0d), (weak x0e)]), x1]).bind fun r6 =>
 guardX r6.r true
 ((T 103 [(.agg [(weak x0a), (weak x0b), (weak x0c), (weak x0d), (weak x0e)]), x1]).bind fun r7 =>
 (sNot r7.r).bind fun r8 =>
 (asB r8).bind fun b9 =>
 some [b9])
 (some [false])
 (none))
 (some [false])
 (none))
 (some [false])
 (none))
 (some [false])
 (none)).bind fun vs10 =>
 some { r := (.bool (vs10.getD 0 false)) }
theorem r62 (T : TT) (k : Nat) (x0a x0b x0c x0d x0e x1 : SVal) : bodyE P H T k 62 [(.agg [x0a, x0b, x0c, x0d, x0e]), x1] = R62 T k x0a x0b x0c x0d x0e x1 := by kernel_rfl
theorem t62 (k : Nat) (x0a x0b x0c x0d x0e x1 : SVal) : T (k + 1) 62 [(.agg [x0a, x0b, x0c, x0d, x0e]), x1] = R62 (T k) k x0a x0b x0c x0d x0e x1 := (tb k 62 _ rfl).trans (r62 ..)
/-- limelight/limelightref06.Parent -/
def R63 (T : TT) (k : Nat) (x0 x1 : SVal) : Option Res :=
 loopN (fun s1 next1 =>
 (sLen s1.k0).bind fun r2 =>
 (sBin .lss s1.k2 r2).bind fun r3 =>
 pickC r3
 ((T 99 [(weak s1.k0), s1.k2]).bind fun r4 =>
 (T 27 [(weak r4.r), s1.k1]).bind fun r5 =>
 if isSc1 r5.r = true then
 pickC r5.r
 (some { r := s1.k2 })
 ((sBin .add s1.k2 (.int .i64 1)).bind fun r6 =>
 next1 ⟨[(weak s1.k0), s1.k1, r6], [], false⟩)
 else none)
 (some { r := (.int .i64 (-1)) })) k ⟨[(weak x0), x1, (.int .i64 0)], [], false⟩
theorem r63 (T : TT) (k : Nat) (x0 x1 : SVal) : bodyE P H T k 63 [x0, x1] = R63 T k x0 x1 := by kernel_rfl
theorem t63 (k : Nat) (x0 x1 : SVal) : T (k + 1) 63 [x0, x1] = R63 (T k) k x0 x1 := (tb k 63 _ rfl).trans (r63 ..)
/-- limelight/limelightref05.Is -/
def R64 (T : TT) (k : Nat) (x0 x1 : SVal) : Option Res :=
 ((sIdx true 7 x0 x1).bind fun e1 =>
 (sBin .eql (SVal.cell e1 0) (.int .i64 1)).bind fun r2 =>
 guardX r2 true
 ((sIdx true 7 x0 x1).bind fun e3 =>
 (sBin .eql (SVal.cell e3 1) (.int .i64 3)).bind fun r4 =>
 guardX r4 true
 ((T 104 [(weak x0), x1]).bind fun r5 =>
 (sIdx true 7 x0 r5.r).bind fun e6 =>
 (sBin .eql (SVal.cell e6 0) (.int .i64 3)).bind fun r7 =>
 (asB r7).bind fun b8 =>
 some [b8])
 (some [false])
 (none))
 (some [false])
 (none)).bind fun vs9 =>
 some { r := (.bool (vs9.getD 0 false)) }
theorem r64 (T : TT) (k : Nat) (x0 x1 : SVal) : bodyE P H T k 64 [x0, x1] = R64 T k x0 x1 := by kernel_rfl
theorem t64 (k : Nat) (x0 x1 : SVal) : T (k + 1) 64 [x0, x1] = R64 (T k) k x0 x1 := (tb k 64 _ rfl).trans (r64 ..)
/-- limelight/top.Check -/
def R65 (T : TT) (k : Nat) (x0a x0b x0c x0d x0e : SVal) : Option Res :=
 (T 105 [(weak x0a)]).bind fun r1 =>
 (sBin .neq r1.r (.int .i64 0)).bind fun r2 =>
 pickC r2
 (some { r := (.int .i64 1) })
 ((T 106 [(.agg [(weak x0a), (weak x0b), (weak x0c), (weak x0d), (weak x0e)])]).bind fun r3 =>
 (sNot r3.r).bind fun r4 =>
 pickC r4
 (some { r := (.int .i64 9) })
 (some { r := (.int .i64 0) }))
theorem r65 (T : TT) (k : Nat) (x0a x0b x0c x0d x0e : SVal) : bodyE P H T k 65 [(.agg [x0a, x0b, x0c, x0d, x0e])] = R65 T k x0a x0b x0c x0d x0e := by kernel_rfl
noncomputable def D65 (T : TT) (k : Nat) : List SVal → Option Res
  | [(.agg [x0a, x0b, x0c, x0d, x0e])] => R65 T k x0a x0b x0c x0d x0e
  | a => bodyE P H T k 65 a
theorem d65 (T : TT) (k : Nat) (a : List SVal) : D65 T k a = bodyE P H T k 65 a := by
  unfold D65
  split
  · exact (r65 ..).symm
  · rfl
theorem t65 (k : Nat) (x0a x0b x0c x0d x0e : SVal) : T (k + 1) 65 [(.agg [x0a, x0b, x0c, x0d, x0e])] = R65 (T k) k x0a x0b x0c x0d x0e := (tb k 65 _ rfl).trans (r65 ..)
/-- slices.Collect[int] -/
def R66 (T : TT) (k : Nat) (x0 : SVal) : Option Res :=
 (T 107 [(.sl 1 true false []), x0]).bind fun r1 =>
 some { r := (.sl 1 true false r1.r.xs) }
theorem r66 (T : TT) (k : Nat) (x0 : SVal) : bodyE P H T k 66 [x0] = R66 T k x0 := by kernel_rfl
noncomputable def D66 (T : TT) (k : Nat) : List SVal → Option Res
  | [x0] => R66 T k x0
  | a => bodyE P H T k 66 a
theorem d66 (T : TT) (k : Nat) (a : List SVal) : D66 T k a = bodyE P H T k 66 a := by
  unfold D66
  split
  · exact (r66 ..).symm
  · rfl
theorem t66 (k : Nat) (x0 : SVal) : T (k + 1) 66 [x0] = R66 (T k) k x0 := (tb k 66 _ rfl).trans (r66 ..)
/-- limelight/tabs.all -/
def R67 (T : TT) (k : Nat) (x0a x0b x0c x0d x0e : SVal) : Option Res :=
 some { r := (.fn 108 [(.rp [x0a, x0b, x0c, x0d, x0e])]) }
theorem r67 (T : TT) (k : Nat) (x0a x0b x0c x0d x0e : SVal) : bodyE P H T k 67 [(.agg [x0a, x0b, x0c, x0d, x0e])] = R67 T k x0a x0b x0c x0d x0e := by kernel_rfl
noncomputable def D67 (T : TT) (k : Nat) : List SVal → Option Res
  | [(.agg [x0a, x0b, x0c, x0d, x0e])] => R67 T k x0a x0b x0c x0d x0e
  | a => bodyE P H T k 67 a
theorem d67 (T : TT) (k : Nat) (a : List SVal) : D67 T k a = bodyE P H T k 67 a := by
  unfold D67
  split
  · exact (r67 ..).symm
  · rfl
theorem t67 (k : Nat) (x0a x0b x0c x0d x0e : SVal) : T (k + 1) 67 [(.agg [x0a, x0b, x0c, x0d, x0e])] = R67 (T k) k x0a x0b x0c x0d x0e := (tb k 67 _ rfl).trans (r67 ..)
/-- limelight/tabs.turned -/
def R68 (T : TT) (k : Nat) (x0 x1 : SVal) : Option Res :=
 (T 110 [(weak x0)]).bind fun r1 =>
 pickC x1
 ((T 111 [(.sl 1 true false r1.r.xs)]).bind fun r2 =>
 some { r := (.sl 1 false false ((r2.outs.headD .undef).xs)) })
 (some { r := (.sl 1 false false r1.r.xs) })
theorem r68 (T : TT) (k : Nat) (x0 x1 : SVal) : bodyE P H T k 68 [x0, x1] = R68 T k x0 x1 := by kernel_rfl
noncomputable def D68 (T : TT) (k : Nat) : List SVal → Option Res
  | [x0, x1] => R68 T k x0 x1
  | a => bodyE P H T k 68 a
theorem d68 (T : TT) (k : Nat) (a : List SVal) : D68 T k a = bodyE P H T k 68 a := by
  unfold D68
  split
  · exact (r68 ..).symm
  · rfl
theorem t68 (k : Nat) (x0 x1 : SVal) : T (k + 1) 68 [x0, x1] = R68 (T k) k x0 x1 := (tb k 68 _ rfl).trans (r68 ..)
/-- limelight/tabs.Next$1 -/
def R69 (T : TT) (k : Nat) (x0 : SVal) : Option Res :=
 some { r := (.bool true) }
theorem r69 (T : TT) (k : Nat) (x0 : SVal) : bodyE P H T k 69 [x0] = R69 T k x0 := by kernel_rfl
noncomputable def D69 (T : TT) (k : Nat) : List SVal → Option Res
  | [x0] => R69 T k x0
  | a => bodyE P H T k 69 a
theorem d69 (T : TT) (k : Nat) (a : List SVal) : D69 T k a = bodyE P H T k 69 a := by
  unfold D69
  split
  · exact (r69 ..).symm
  · rfl
theorem t69 (k : Nat) (x0 : SVal) : T (k + 1) 69 [x0] = R69 (T k) k x0 := (tb k 69 _ rfl).trans (r69 ..)
/-- slices.Contains[[]int,int] -/
def R70 (T : TT) (k : Nat) (x0 x1 : SVal) : Option Res :=
 (T 112 [(weak x0), x1]).bind fun r1 =>
 (sBin .geq r1.r (.int .i64 0)).bind fun r2 =>
 some { r := r2 }
theorem r70 (T : TT) (k : Nat) (x0 x1 : SVal) : bodyE P H T k 70 [x0, x1] = R70 T k x0 x1 := by kernel_rfl
noncomputable def D70 (T : TT) (k : Nat) : List SVal → Option Res
  | [x0, x1] => R70 T k x0 x1
  | a => bodyE P H T k 70 a
theorem d70 (T : TT) (k : Nat) (a : List SVal) : D70 T k a = bodyE P H T k 70 a := by
  unfold D70
  split
  · exact (r70 ..).symm
  · rfl
theorem t70 (k : Nat) (x0 x1 : SVal) : T (k + 1) 70 [x0, x1] = R70 (T k) k x0 x1 := (tb k 70 _ rfl).trans (r70 ..)
/-- limelight/tabs.first -/
def R71 (T : TT) (k : Nat) (x0 x1 : SVal) : Option Res :=
 (T 53 [(weak x0), x1]).bind fun r1 =>
 if isSc1 r1.r = true then
 (sBin .geq r1.r (.int .i64 0)).bind fun r2 =>
 pickC r2
 ((sIdx false 1 x0 r1.r).bind fun e3 =>
 some { r := e3 })
 (some { r := (.int .i64 0) })
 else none
theorem r71 (T : TT) (k : Nat) (x0 x1 : SVal) : bodyE P H T k 71 [x0, x1] = R71 T k x0 x1 := by kernel_rfl
noncomputable def D71 (T : TT) (k : Nat) : List SVal → Option Res
  | [x0, x1] => R71 T k x0 x1
  | a => bodyE P H T k 71 a
theorem d71 (T : TT) (k : Nat) (a : List SVal) : D71 T k a = bodyE P H T k 71 a := by
  unfold D71
  split
  · exact (r71 ..).symm
  · rfl
theorem t71 (k : Nat) (x0 x1 : SVal) : T (k + 1) 71 [x0, x1] = R71 (T k) k x0 x1 := (tb k 71 _ rfl).trans (r71 ..)
/-- limelight/tabs.behind -/
def R72 (T : TT) (k : Nat) (x0 x1 : SVal) : Option Res :=
 (T 112 [(weak x0), x1]).bind fun r1 =>
 (sBin .add r1.r (.int .i64 1)).bind fun r2 =>
 (sSlice 1 x0 (some r2) none).bind fun r3 =>
 some { r := (weak r3) }
theorem r72 (T : TT) (k : Nat) (x0 x1 : SVal) : bodyE P H T k 72 [x0, x1] = R72 T k x0 x1 := by kernel_rfl
noncomputable def D72 (T : TT) (k : Nat) : List SVal → Option Res
  | [x0, x1] => R72 T k x0 x1
  | a => bodyE P H T k 72 a
theorem d72 (T : TT) (k : Nat) (a : List SVal) : D72 T k a = bodyE P H T k 72 a := by
  unfold D72
  split
  · exact (r72 ..).symm
  · rfl
theorem t72 (k : Nat) (x0 x1 : SVal) : T (k + 1) 72 [x0, x1] = R72 (T k) k x0 x1 := (tb k 72 _ rfl).trans (r72 ..)
/-- limelight/tabs.Next$2 -/
def R73 (T : TT) (k : Nat) (x0 x1 : SVal) : Option Res :=
 (T 70 [(weak x1), x0]).bind fun r1 =>
 some { r := r1.r }
theorem r73 (T : TT) (k : Nat) (x0 x1 : SVal) : bodyE P H T k 73 [x0, (.rp [x1])] = R73 T k x0 x1 := by kernel_rfl
noncomputable def D73 (T : TT) (k : Nat) : List SVal → Option Res
  | [x0, (.rp [x1])] => R73 T k x0 x1
  | a => bodyE P H T k 73 a
theorem d73 (T : TT) (k : Nat) (a : List SVal) : D73 T k a = bodyE P H T k 73 a := by
  unfold D73
  split
  · exact (r73 ..).symm
  · rfl
theorem t73 (k : Nat) (x0 x1 : SVal) : T (k + 1) 73 [x0, (.rp [x1])] = R73 (T k) k x0 x1 := (tb k 73 _ rfl).trans (r73 ..)
/-- limelight/limelightref17.scope -/
def R74 (T : TT) (k : Nat) (x0a x0b x0c x0d x0e x1 : SVal) : Option Res :=
 (T 22 [(.agg [(weak x0a), (weak x0b), (weak x0c), (weak x0d), (weak x0e)]), x1]).bind fun r1 =>
 loopN (fun s2 next2 =>
 (sLen s2.k2).bind fun r3 =>
 (sBin .lss s2.k3 r3).bind fun r4 =>
 pickC r4
 ((sIdx false 1 s2.k2 s2.k3).bind fun e5 =>
 (T 29 [(.agg [(weak (SVal.cell s2.k0 0)), (weak (SVal.cell s2.k0 1)), (weak (SVal.cell s2.k0 2)), (weak (SVal.cell s2.k0 3)), (weak (SVal.cell s2.k0 4))]), e5]).bind fun r6 =>
 pickC r6.r
 (if (List.all [[.v e5]] allOne) = true then
 if (s2.k1.xs.length + ([e5] : List SVal).length) * 8 ≤ maxAppend then
 (T 31 [(.agg [(weak (SVal.cell s2.k0 0)), (weak (SVal.cell s2.k0 1)), (weak (SVal.cell s2.k0 2)), (weak (SVal.cell s2.k0 3)), (weak (SVal.cell s2.k0 4))]), e5]).bind fun r7 =>
 pickC r7.r
 ((T 74 [(.agg [(weak (SVal.cell s2.k0 0)), (weak (SVal.cell s2.k0 1)), (weak (SVal.cell s2.k0 2)), (weak (SVal.cell s2.k0 3)), (weak (SVal.cell s2.k0 4))]), e5]).bind fun r8 =>
 (elems 1 r8.r).bind fun ys9 =>
 if ((s2.k1.xs ++ ([e5] : List SVal)).length + ys9.length) * 8 ≤ maxAppend then
 loopN (fun s10 next10 =>
 (sLen (SVal.cell s10.k0 3)).bind fun r11 =>
 (sBin .lss s10.k5 r11).bind fun r12 =>
 pickC r12
 ((sIdx true 2 (SVal.cell s10.k0 3) s10.k5).bind fun e13 =>
 (T 25 [(.agg [(weak (SVal.cell s10.k0 0)), (weak (SVal.cell s10.k0 1)), (weak (SVal.cell s10.k0 2)), (weak (SVal.cell s10.k0 3)), (weak (SVal.cell s10.k0 4))]), (SVal.cell e13 0)]).bind fun r14 =>
 (sBin .eql r14.r s10.k4).bind fun r15 =>
 pickC r15
 ((T 29 [(.agg [(weak (SVal.cell s10.k0 0)), (weak (SVal.cell s10.k0 1)), (weak (SVal.cell s10.k0 2)), (weak (SVal.cell s10.k0 3)), (weak (SVal.cell s10.k0 4))]), (SVal.cell e13 0)]).bind fun r16 =>
 pickC r16.r
 (if (List.all [[.v (SVal.cell e13 0)]] allOne) = true then
 if (s10.k1.xs.length + ([(SVal.cell e13 0)] : List SVal).length) * 8 ≤ maxAppend then
 (T 74 [(.agg [(weak (SVal.cell s10.k0 0)), (weak (SVal.cell s10.k0 1)), (weak (SVal.cell s10.k0 2)), (weak (SVal.cell s10.k0 3)), (weak (SVal.cell s10.k0 4))]), (SVal.cell e13 0)]).bind fun r17 =>
 (elems 1 r17.r).bind fun ys18 =>
 if ((s10.k1.xs ++ ([(SVal.cell e13 0)] : List SVal)).length + ys18.length) * 8 ≤ maxAppend then
 (sBin .add s10.k5 (.int .i64 1)).bind fun r19 =>
 next10 ⟨[(.rp [(SVal.cell s10.k0 0), (SVal.cell s10.k0 1), (SVal.cell s10.k0 2), (SVal.cell s10.k0 3), (SVal.cell s10.k0 4)]), (.sl 1 true false ((s10.k1.xs ++ ([(SVal.cell e13 0)] : List SVal)) ++ ys18)), (weak s10.k2), s10.k3, s10.k4, r19], [], false⟩
 else none
 else none
 else none)
 ((T 74 [(.agg [(weak (SVal.cell s10.k0 0)), (weak (SVal.cell s10.k0 1)), (weak (SVal.cell s10.k0 2)), (weak (SVal.cell s10.k0 3)), (weak (SVal.cell s10.k0 4))]), (SVal.cell e13 0)]).bind fun r20 =>
 (elems 1 r20.r).bind fun ys21 =>
 if (s10.k1.xs.length + ys21.length) * 8 ≤ maxAppend then
 (sBin .add s10.k5 (.int .i64 1)).bind fun r22 =>
 next10 ⟨[(.rp [(SVal.cell s10.k0 0), (SVal.cell s10.k0 1), (SVal.cell s10.k0 2), (SVal.cell s10.k0 3), (SVal.cell s10.k0 4)]), (.sl 1 true false (s10.k1.xs ++ ys21)), (weak s10.k2), s10.k3, s10.k4, r22], [], false⟩
 else none))
 ((sBin .add s10.k5 (.int .i64 1)).bind fun r23 =>
 next10 ⟨[(.rp [(SVal.cell s10.k0 0), (SVal.cell s10.k0 1), (SVal.cell s10.k0 2), (SVal.cell s10.k0 3), (SVal.cell s10.k0 4)]), (.sl 1 true false s10.k1.xs), (weak s10.k2), s10.k3, s10.k4, r23], [], false⟩))
 ((sBin .add s10.k3 (.int .i64 1)).bind fun r24 =>
 next2 ⟨[(.rp [(SVal.cell s10.k0 0), (SVal.cell s10.k0 1), (SVal.cell s10.k0 2), (SVal.cell s10.k0 3), (SVal.cell s10.k0 4)]), (.sl 1 true false s10.k1.xs), (weak s10.k2), r24], [], false⟩)) k ⟨[(.rp [(SVal.cell s2.k0 0), (SVal.cell s2.k0 1), (SVal.cell s2.k0 2), (SVal.cell s2.k0 3), (SVal.cell s2.k0 4)]), (.sl 1 true false ((s2.k1.xs ++ ([e5] : List SVal)) ++ ys9)), (weak s2.k2), s2.k3, e5, (.int .i64 0)], [], false⟩
 else none)
 (loopN (fun s25 next25 =>
 (sLen (SVal.cell s25.k0 3)).bind fun r26 =>
 (sBin .lss s25.k5 r26).bind fun r27 =>
 pickC r27
 ((sIdx true 2 (SVal.cell s25.k0 3) s25.k5).bind fun e28 =>
 (T 25 [(.agg [(weak (SVal.cell s25.k0 0)), (weak (SVal.cell s25.k0 1)), (weak (SVal.cell s25.k0 2)), (weak (SVal.cell s25.k0 3)), (weak (SVal.cell s25.k0 4))]), (SVal.cell e28 0)]).bind fun r29 =>
 (sBin .eql r29.r s25.k4).bind fun r30 =>
 pickC r30
 ((T 29 [(.agg [(weak (SVal.cell s25.k0 0)), (weak (SVal.cell s25.k0 1)), (weak (SVal.cell s25.k0 2)), (weak (SVal.cell s25.k0 3)), (weak (SVal.cell s25.k0 4))]), (SVal.cell e28 0)]).bind fun r31 =>
 pickC r31.r
 (if (List.all [[.v (SVal.cell e28 0)]] allOne) = true then
 if (s25.k1.xs.length + ([(SVal.cell e28 0)] : List SVal).length) * 8 ≤ maxAppend then
 (T 74 [(.agg [(weak (SVal.cell s25.k0 0)), (weak (SVal.cell s25.k0 1)), (weak (SVal.cell s25.k0 2)), (weak (SVal.cell s25.k0 3)), (weak (SVal.cell s25.k0 4))]), (SVal.cell e28 0)]).bind fun r32 =>
 (elems 1 r32.r).bind fun ys33 =>
 if ((s25.k1.xs ++ ([(SVal.cell e28 0)] : List SVal)).length + ys33.length) * 8 ≤ maxAppend then
 (sBin .add s25.k5 (.int .i64 1)).bind fun r34 =>
 next25 ⟨[(.rp [(SVal.cell s25.k0 0), (SVal.cell s25.k0 1), (SVal.cell s25.k0 2), (SVal.cell s25.k0 3), (SVal.cell s25.k0 4)]), (.sl 1 true false ((s25.k1.xs ++ ([(SVal.cell e28 0)] : List SVal)) ++ ys33)), (weak s25.k2), s25.k3, s25.k4, r34], [], false⟩
 else none
 else none
 else none)
 ((T 74 [(.agg [(weak (SVal.cell s25.k0 0)), (weak (SVal.cell s25.k0 1)), (weak (SVal.cell s25.k0 2)), (weak (SVal.cell s25.k0 3)), (weak (SVal.cell s25.k0 4))]), (SVal.cell e28 0)]).bind fun r35 =>
 (elems 1 r35.r).bind fun ys36 =>
 if (s25.k1.xs.length + ys36.length) * 8 ≤ maxAppend then
 (sBin .add s25.k5 (.int .i64 1)).bind fun r37 =>
 next25 ⟨[(.rp [(SVal.cell s25.k0 0), (SVal.cell s25.k0 1), (SVal.cell s25.k0 2), (SVal.cell s25.k0 3), (SVal.cell s25.k0 4)]), (.sl 1 true false (s25.k1.xs ++ ys36)), (weak s25.k2), s25.k3, s25.k4, r37], [], false⟩
 else none))
 ((sBin .add s25.k5 (.int .i64 1)).bind fun r38 =>
 next25 ⟨[(.rp [(SVal.cell s25.k0 0), (SVal.cell s25.k0 1), (SVal.cell s25.k0 2), (SVal.cell s25.k0 3), (SVal.cell s25.k0 4)]), (.sl 1 true false s25.k1.xs), (weak s25.k2), s25.k3, s25.k4, r38], [], false⟩))
 ((sBin .add s25.k3 (.int .i64 1)).bind fun r39 =>
 next2 ⟨[(.rp [(SVal.cell s25.k0 0), (SVal.cell s25.k0 1), (SVal.cell s25.k0 2), (SVal.cell s25.k0 3), (SVal.cell s25.k0 4)]), (.sl 1 true false s25.k1.xs), (weak s25.k2), r39], [], false⟩)) k ⟨[(.rp [(SVal.cell s2.k0 0), (SVal.cell s2.k0 1), (SVal.cell s2.k0 2), (SVal.cell s2.k0 3), (SVal.cell s2.k0 4)]), (.sl 1 true false (s2.k1.xs ++ ([e5] : List SVal))), (weak s2.k2), s2.k3, e5, (.int .i64 0)], [], false⟩)
 else none
 else none)
 ((T 31 [(.agg [(weak (SVal.cell s2.k0 0)), (weak (SVal.cell s2.k0 1)), (weak (SVal.cell s2.k0 2)), (weak (SVal.cell s2.k0 3)), (weak (SVal.cell s2.k0 4))]), e5]).bind fun r40 =>
 pickC r40.r
 ((T 74 [(.agg [(weak (SVal.cell s2.k0 0)), (weak (SVal.cell s2.k0 1)), (weak (SVal.cell s2.k0 2)), (weak (SVal.cell s2.k0 3)), (weak (SVal.cell s2.k0 4))]), e5]).bind fun r41 =>
 (elems 1 r41.r).bind fun ys42 =>
 if (s2.k1.xs.length + ys42.length) * 8 ≤ maxAppend then
 loopN (fun s43 next43 =>
 (sLen (SVal.cell s43.k0 3)).bind fun r44 =>
 (sBin .lss s43.k5 r44).bind fun r45 =>
 pickC r45
 ((sIdx true 2 (SVal.cell s43.k0 3) s43.k5).bind fun e46 =>
 (T 25 [(.agg [(weak (SVal.cell s43.k0 0)), (weak (SVal.cell s43.k0 1)), (weak (SVal.cell s43.k0 2)), (weak (SVal.cell s43.k0 3)), (weak (SVal.cell s43.k0 4))]), (SVal.cell e46 0)]).bind fun r47 =>
 (sBin .eql r47.r s43.k4).bind fun r48 =>
 pickC r48
 ((T 29 [(.agg [(weak (SVal.cell s43.k0 0)), (weak (SVal.cell s43.k0 1)), (weak (SVal.cell s43.k0 2)), (weak (SVal.cell s43.k0 3)), (weak (SVal.cell s43.k0 4))]), (SVal.cell e46 0)]).bind fun r49 =>
 pickC r49.r
 (if (List.all [[.v (SVal.cell e46 0)]] allOne) = true then
 if (s43.k1.xs.length + ([(SVal.cell e46 0)] : List SVal).length) * 8 ≤ maxAppend then
 (T 74 [(.agg [(weak (SVal.cell s43.k0 0)), (weak (SVal.cell s43.k0 1)), (weak (SVal.cell s43.k0 2)), (weak (SVal.cell s43.k0 3)), (weak (SVal.cell s43.k0 4))]), (SVal.cell e46 0)]).bind fun r50 =>
 (elems 1 r50.r).bind fun ys51 =>
 if ((s43.k1.xs ++ ([(SVal.cell e46 0)] : List SVal)).length + ys51.length) * 8 ≤ maxAppend then
 (sBin .add s43.k5 (.int .i64 1)).bind fun r52 =>
 next43 ⟨[(.rp [(SVal.cell s43.k0 0), (SVal.cell s43.k0 1), (SVal.cell s43.k0 2), (SVal.cell s43.k0 3), (SVal.cell s43.k0 4)]), (.sl 1 true false ((s43.k1.xs ++ ([(SVal.cell e46 0)] : List SVal)) ++ ys51)), (weak s43.k2), s43.k3, s43.k4, r52], [], false⟩
 else none
 else none
 else none)
 ((T 74 [(.agg [(weak (SVal.cell s43.k0 0)), (weak (SVal.cell s43.k0 1)), (weak (SVal.cell s43.k0 2)), (weak (SVal.cell s43.k0 3)), (weak (SVal.cell s43.k0 4))]), (SVal.cell e46 0)]).bind fun r53 =>
 (elems 1 r53.r).bind fun ys54 =>
 if (s43.k1.xs.length + ys54.length) * 8 ≤ maxAppend then
 (sBin .add s43.k5 (.int .i64 1)).bind fun r55 =>
 next43 ⟨[(.rp [(SVal.cell s43.k0 0), (SVal.cell s43.k0 1), (SVal.cell s43.k0 2), (SVal.cell s43.k0 3), (SVal.cell s43.k0 4)]), (.sl 1 true false (s43.k1.xs ++ ys54)), (weak s43.k2), s43.k3, s43.k4, r55], [], false⟩
 else none))
 ((sBin .add s43.k5 (.int .i64 1)).bind fun r56 =>
 next43 ⟨[(.rp [(SVal.cell s43.k0 0), (SVal.cell s43.k0 1), (SVal.cell s43.k0 2), (SVal.cell s43.k0 3), (SVal.cell s43.k0 4)]), (.sl 1 true false s43.k1.xs), (weak s43.k2), s43.k3, s43.k4, r56], [], false⟩))
 ((sBin .add s43.k3 (.int .i64 1)).bind fun r57 =>
 next2 ⟨[(.rp [(SVal.cell s43.k0 0), (SVal.cell s43.k0 1), (SVal.cell s43.k0 2), (SVal.cell s43.k0 3), (SVal.cell s43.k0 4)]), (.sl 1 true false s43.k1.xs), (weak s43.k2), r57], [], false⟩)) k ⟨[(.rp [(SVal.cell s2.k0 0), (SVal.cell s2.k0 1), (SVal.cell s2.k0 2), (SVal.cell s2.k0 3), (SVal.cell s2.k0 4)]), (.sl 1 true false (s2.k1.xs ++ ys42)), (weak s2.k2), s2.k3, e5, (.int .i64 0)], [], false⟩
 else none)
 (loopN (fun s58 next58 =>
 (sLen (SVal.cell s58.k0 3)).bind fun r59 =>
 (sBin .lss s58.k5 r59).bind fun r60 =>
 pickC r60
 ((sIdx true 2 (SVal.cell s58.k0 3) s58.k5).bind fun e61 =>
 (T 25 [(.agg [(weak (SVal.cell s58.k0 0)), (weak (SVal.cell s58.k0 1)), (weak (SVal.cell s58.k0 2)), (weak (SVal.cell s58.k0 3)), (weak (SVal.cell s58.k0 4))]), (SVal.cell e61 0)]).bind fun r62 =>
 (sBin .eql r62.r s58.k4).bind fun r63 =>
 pickC r63
 ((T 29 [(.agg [(weak (SVal.cell s58.k0 0)), (weak (SVal.cell s58.k0 1)), (weak (SVal.cell s58.k0 2)), (weak (SVal.cell s58.k0 3)), (weak (SVal.cell s58.k0 4))]), (SVal.cell e61 0)]).bind fun r64 =>
 pickC r64.r
 (if (List.all [[.v (SVal.cell e61 0)]] allOne) = true then
 if (s58.k1.xs.length + ([(SVal.cell e61 0)] : List SVal).length) * 8 ≤ maxAppend then
 (T 74 [(.agg [(weak (SVal.cell s58.k0 0)), (weak (SVal.cell s58.k0 1)), (weak (SVal.cell s58.k0 2)), (weak (SVal.cell s58.k0 3)), (weak (SVal.cell s58.k0 4))]), (SVal.cell e61 0)]).bind fun r65 =>
 (elems 1 r65.r).bind fun ys66 =>
 if ((s58.k1.xs ++ ([(SVal.cell e61 0)] : List SVal)).length + ys66.length) * 8 ≤ maxAppend then
 (sBin .add s58.k5 (.int .i64 1)).bind fun r67 =>
 next58 ⟨[(.rp [(SVal.cell s58.k0 0), (SVal.cell s58.k0 1), (SVal.cell s58.k0 2), (SVal.cell s58.k0 3), (SVal.cell s58.k0 4)]), (.sl 1 true false ((s58.k1.xs ++ ([(SVal.cell e61 0)] : List SVal)) ++ ys66)), (weak s58.k2), s58.k3, s58.k4, r67], [], false⟩
 else none
 else none
 else none)
 ((T 74 [(.agg [(weak (SVal.cell s58.k0 0)), (weak (SVal.cell s58.k0 1)), (weak (SVal.cell s58.k0 2)), (weak (SVal.cell s58.k0 3)), (weak (SVal.cell s58.k0 4))]), (SVal.cell e61 0)]).bind fun r68 =>
 (elems 1 r68.r).bind fun ys69 =>
 if (s58.k1.xs.length + ys69.length) * 8 ≤ maxAppend then
 (sBin .add s58.k5 (.int .i64 1)).bind fun r70 =>
 next58 ⟨[(.rp [(SVal.cell s58.k0 0), (SVal.cell s58.k0 1), (SVal.cell s58.k0 2), (SVal.cell s58.k0 3), (SVal.cell s58.k0 4)]), (.sl 1 true false (s58.k1.xs ++ ys69)), (weak s58.k2), s58.k3, s58.k4, r70], [], false⟩
 else none))
 ((sBin .add s58.k5 (.int .i64 1)).bind fun r71 =>
 next58 ⟨[(.rp [(SVal.cell s58.k0 0), (SVal.cell s58.k0 1), (SVal.cell s58.k0 2), (SVal.cell s58.k0 3), (SVal.cell s58.k0 4)]), (.sl 1 true false s58.k1.xs), (weak s58.k2), s58.k3, s58.k4, r71], [], false⟩))
 ((sBin .add s58.k3 (.int .i64 1)).bind fun r72 =>
 next2 ⟨[(.rp [(SVal.cell s58.k0 0), (SVal.cell s58.k0 1), (SVal.cell s58.k0 2), (SVal.cell s58.k0 3), (SVal.cell s58.k0 4)]), (.sl 1 true false s58.k1.xs), (weak s58.k2), r72], [], false⟩)) k ⟨[(.rp [(SVal.cell s2.k0 0), (SVal.cell s2.k0 1), (SVal.cell s2.k0 2), (SVal.cell s2.k0 3), (SVal.cell s2.k0 4)]), (.sl 1 true false s2.k1.xs), (weak s2.k2), s2.k3, e5, (.int .i64 0)], [], false⟩)))
 (some { r := (.sl 1 false false s2.k1.xs) })) k ⟨[(.rp [x0a, x0b, x0c, x0d, x0e]), (.sl 1 true false []), (weak r1.r), (.int .i64 0)], [], false⟩
theorem r74 (T : TT) (k : Nat) (x0a x0b x0c x0d x0e x1 : SVal) : bodyE P H T k 74 [(.agg [x0a, x0b, x0c, x0d, x0e]), x1] = R74 T k x0a x0b x0c x0d x0e x1 := by kernel_rfl
theorem t74 (k : Nat) (x0a x0b x0c x0d x0e x1 : SVal) : T (k + 1) 74 [(.agg [x0a, x0b, x0c, x0d, x0e]), x1] = R74 (T k) k x0a x0b x0c x0d x0e x1 := (tb k 74 _ rfl).trans (r74 ..)
/-- slices.ContainsFunc[[]limelight/scopes.kind,limelight/scopes.kind] -/
def R75 (T : TT) (k : Nat) (x0 x1 : SVal) : Option Res :=
 (T 113 [(weak x0), x1]).bind fun r1 =>
 (sBin .geq r1.r (.int .i64 0)).bind fun r2 =>
 some { r := r2 }
theorem r75 (T : TT) (k : Nat) (x0 x1 : SVal) : bodyE P H T k 75 [x0, x1] = R75 T k x0 x1 := by kernel_rfl
noncomputable def D75 (T : TT) (k : Nat) : List SVal → Option Res
  | [x0, x1] => R75 T k x0 x1
  | a => bodyE P H T k 75 a
theorem d75 (T : TT) (k : Nat) (a : List SVal) : D75 T k a = bodyE P H T k 75 a := by
  unfold D75
  split
  · exact (r75 ..).symm
  · rfl
theorem t75 (k : Nat) (x0 x1 : SVal) : T (k + 1) 75 [x0, x1] = R75 (T k) k x0 x1 := (tb k 75 _ rfl).trans (r75 ..)
/-- limelight/scopes.kinds -/
def R76 (T : TT) (k : Nat) : Option Res :=
 some { r := (.sl 1 false false [(.agg [(.fn 114 [])]), (.agg [(.fn 115 [])]), (.agg [(.fn 116 [])]), (.agg [(.fn 118 [])])]) }
theorem r76 (T : TT) (k : Nat) : bodyE P H T k 76 [] = R76 T k  := by kernel_rfl
noncomputable def D76 (T : TT) (k : Nat) : List SVal → Option Res
  | [] => R76 T k 
  | a => bodyE P H T k 76 a
theorem d76 (T : TT) (k : Nat) (a : List SVal) : D76 T k a = bodyE P H T k 76 a := by
  unfold D76
  split
  · exact (r76 ..).symm
  · rfl
theorem t76 (k : Nat) : T (k + 1) 76 [] = R76 (T k) k  := (tb k 76 _ rfl).trans (r76 ..)
/-- limelight/scopes.owns$1 -/
def R77 (T : TT) (k : Nat) (x0 x1a x1b x1c x1d x1e x2 : SVal) : Option Res :=
 (callV H T x0 [(.agg [x1a, x1b, x1c, x1d, x1e]), x2]).bind fun y1 =>
 some { r := y1 }
theorem r77 (T : TT) (k : Nat) (x0 x1a x1b x1c x1d x1e x2 : SVal) : bodyE P H T k 77 [(.agg [x0]), (.rp [x1a, x1b, x1c, x1d, x1e]), (.rp [x2])] = R77 T k x0 x1a x1b x1c x1d x1e x2 := by kernel_rfl
noncomputable def D77 (T : TT) (k : Nat) : List SVal → Option Res
  | [(.agg [x0]), (.rp [x1a, x1b, x1c, x1d, x1e]), (.rp [x2])] => R77 T k x0 x1a x1b x1c x1d x1e x2
  | a => bodyE P H T k 77 a
theorem d77 (T : TT) (k : Nat) (a : List SVal) : D77 T k a = bodyE P H T k 77 a := by
  unfold D77
  split
  · exact (r77 ..).symm
  · rfl
theorem t77 (k : Nat) (x0 x1a x1b x1c x1d x1e x2 : SVal) : T (k + 1) 77 [(.agg [x0]), (.rp [x1a, x1b, x1c, x1d, x1e]), (.rp [x2])] = R77 (T k) k x0 x1a x1b x1c x1d x1e x2 := (tb k 77 _ rfl).trans (r77 ..)
/-- limelight/flat.is -/
def R78 (T : TT) (k : Nat) (x0 x1 : SVal) : Option Res :=
 (T 119 [(weak x0), x1]).bind fun r1 =>
 (sBin .neq r1.r (.int .i64 (-1))).bind fun r2 =>
 some { r := r2 }
theorem r78 (T : TT) (k : Nat) (x0 x1 : SVal) : bodyE P H T k 78 [x0, x1] = R78 T k x0 x1 := by kernel_rfl
noncomputable def D78 (T : TT) (k : Nat) : List SVal → Option Res
  | [x0, x1] => R78 T k x0 x1
  | a => bodyE P H T k 78 a
theorem d78 (T : TT) (k : Nat) (a : List SVal) : D78 T k a = bodyE P H T k 78 a := by
  unfold D78
  split
  · exact (r78 ..).symm
  · rfl
theorem t78 (k : Nat) (x0 x1 : SVal) : T (k + 1) 78 [x0, x1] = R78 (T k) k x0 x1 := (tb k 78 _ rfl).trans (r78 ..)
/-- slices.Backward[[]int,int] -/
def R79 (T : TT) (k : Nat) (x0 : SVal) : Option Res :=
 if (oneS x0) = true then
 some { r := (.fn 120 [(.rp [x0])]) }
 else none
theorem r79 (T : TT) (k : Nat) (x0 : SVal) : bodyE P H T k 79 [x0] = R79 T k x0 := by kernel_rfl
noncomputable def D79 (T : TT) (k : Nat) : List SVal → Option Res
  | [x0] => R79 T k x0
  | a => bodyE P H T k 79 a
theorem d79 (T : TT) (k : Nat) (a : List SVal) : D79 T k a = bodyE P H T k 79 a := by
  unfold D79
  split
  · exact (r79 ..).symm
  · rfl
theorem t79 (k : Nat) (x0 : SVal) : T (k + 1) 79 [x0] = R79 (T k) k x0 := (tb k 79 _ rfl).trans (r79 ..)
/-- limelight/flat.kids -/
def R80 (T : TT) (k : Nat) (x0 x1 : SVal) : Option Res :=
 (sIdx true 7 x0 x1).bind fun e1 =>
 if (allOne [.v (SVal.cell e1 0), .v (SVal.cell e1 1), .v (SVal.cell e1 2), .v (SVal.cell e1 3), .v (SVal.cell e1 4), .v (SVal.cell e1 5), .v (SVal.cell e1 6)]) = true then
 (sBin .eql (SVal.cell e1 0) (.int .i64 3)).bind fun r2 =>
 pickC r2
 (some { r := (.sl 1 false false []) })
 ((sBin .neq (SVal.cell e1 5) (.int .i64 (-1))).bind fun r3 =>
 pickC r3
 ((sIdx true 7 x0 (SVal.cell e1 5)).bind fun e4 =>
 some { r := (weak (SVal.cell e4 3)) })
 ((T 121 [(weak x0), x1]).bind fun r5 =>
 (sLen r5.r).bind fun r6 =>
 (sBin .gtr r6 (.int .i64 0)).bind fun r7 =>
 pickC r7
 (some { r := (weak r5.r) })
 (some { r := (weak (SVal.cell e1 3)) })))
 else none
theorem r80 (T : TT) (k : Nat) (x0 x1 : SVal) : bodyE P H T k 80 [x0, x1] = R80 T k x0 x1 := by kernel_rfl
noncomputable def D80 (T : TT) (k : Nat) : List SVal → Option Res
  | [x0, x1] => R80 T k x0 x1
  | a => bodyE P H T k 80 a
theorem d80 (T : TT) (k : Nat) (a : List SVal) : D80 T k a = bodyE P H T k 80 a := by
  unfold D80
  split
  · exact (r80 ..).symm
  · rfl
theorem t80 (k : Nat) (x0 x1 : SVal) : T (k + 1) 80 [x0, x1] = R80 (T k) k x0 x1 := (tb k 80 _ rfl).trans (r80 ..)
/-- limelight/area.Index -/
def R81 (T : TT) (k : Nat) (x0 x1 : SVal) : Option Res :=
 (T 122 [(weak x0), x1]).bind fun r1 =>
 if (allOne [.v r1.r.c0.c0, .v r1.r.c0.c1, .v r1.r.c0.c2, .v r1.r.c0.c3, .v r1.r.c0.c4, .v r1.r.c0.c5]) = true then
 (sNot r1.r.c1).bind fun r2 =>
 pickC r2
 (some { r := (.tup [(.int .i64 0), (.bool false)]) })
 ((T 123 [(.agg [(weak r1.r.c0.c0), (weak r1.r.c0.c1), (weak r1.r.c0.c2), (weak r1.r.c0.c3), (weak r1.r.c0.c4), r1.r.c0.c5])]).bind fun r3 =>
 some { r := (.tup [r3.r.c0, r3.r.c1]) })
 else none
theorem r81 (T : TT) (k : Nat) (x0 x1 : SVal) : bodyE P H T k 81 [x0, x1] = R81 T k x0 x1 := by kernel_rfl
noncomputable def D81 (T : TT) (k : Nat) : List SVal → Option Res
  | [x0, x1] => R81 T k x0 x1
  | a => bodyE P H T k 81 a
theorem d81 (T : TT) (k : Nat) (a : List SVal) : D81 T k a = bodyE P H T k 81 a := by
  unfold D81
  split
  · exact (r81 ..).symm
  · rfl
theorem t81 (k : Nat) (x0 x1 : SVal) : T (k + 1) 81 [x0, x1] = R81 (T k) k x0 x1 := (tb k 81 _ rfl).trans (r81 ..)
/-- limelight/area.Is -/
def R82 (T : TT) (k : Nat) (x0a x0b x0c x0d x0e x1 : SVal) : Option Res :=
 (T 122 [(weak x0a), x1]).bind fun r1 =>
 if (allOne [.v r1.r.c0.c0, .v r1.r.c0.c1, .v r1.r.c0.c2, .v r1.r.c0.c3, .v r1.r.c0.c4, .v r1.r.c0.c5]) = true then
 (guardX r1.r.c1 true
 ((T 65 [(.agg [(weak x0a), (weak x0b), (weak x0c), (weak x0d), (weak x0e)])]).bind fun r2 =>
 (sBin .eql r2.r (.int .i64 0)).bind fun r3 =>
 guardX r3 true
 (if (6 ≤ 6 ∧ (oneS x1) = true) then
 (T 124 [(.agg [(weak x0a), (weak x0b), (weak x0c), (weak x0d), (weak x0e), x1])]).bind fun r4 =>
 (asB r4.r).bind fun b5 =>
 some [b5]
 else none)
 (some [false])
 (none))
 (some [false])
 (none)).bind fun vs6 =>
 some { r := (.bool (vs6.getD 0 false)) }
 else none
theorem r82 (T : TT) (k : Nat) (x0a x0b x0c x0d x0e x1 : SVal) : bodyE P H T k 82 [(.agg [x0a, x0b, x0c, x0d, x0e]), x1] = R82 T k x0a x0b x0c x0d x0e x1 := by kernel_rfl
noncomputable def D82 (T : TT) (k : Nat) : List SVal → Option Res
  | [(.agg [x0a, x0b, x0c, x0d, x0e]), x1] => R82 T k x0a x0b x0c x0d x0e x1
  | a => bodyE P H T k 82 a
theorem d82 (T : TT) (k : Nat) (a : List SVal) : D82 T k a = bodyE P H T k 82 a := by
  unfold D82
  split
  · exact (r82 ..).symm
  · rfl
theorem t82 (k : Nat) (x0a x0b x0c x0d x0e x1 : SVal) : T (k + 1) 82 [(.agg [x0a, x0b, x0c, x0d, x0e]), x1] = R82 (T k) k x0a x0b x0c x0d x0e x1 := (tb k 82 _ rfl).trans (r82 ..)
/-- slices.stableCmpFunc[int] -/
def R83 (T : TT) (k : Nat) (x0 : List SVal) (x1 x2 : SVal) : Option Res :=
 loopN (fun s1 next1 =>
 (sBin .leq s1.k5 s1.k1).bind fun r2 =>
 pickC r2
 ((T 125 [(.sl 1 true false s1.k0.xs), s1.k4, s1.k5, s1.k2]).bind fun r3 =>
 (sBin .add s1.k5 s1.k3).bind fun r4 =>
 next1 ⟨[(.sl 1 true false ((r3.outs.headD .undef).xs)), s1.k1, s1.k2, s1.k3, s1.k5, r4], [], false⟩)
 ((T 125 [(.sl 1 true false s1.k0.xs), s1.k4, s1.k1, s1.k2]).bind fun r5 =>
 loopN (fun s6 next6 =>
 (sBin .lss s6.k3 s6.k1).bind fun r7 =>
 pickC r7
 ((sBin .mul (.int .i64 2) s6.k3).bind fun r8 =>
 loopN (fun s9 next9 =>
 (sBin .leq s9.k5 s9.k1).bind fun r10 =>
 pickC r10
 ((sBin .add s9.k4 s9.k3).bind fun r11 =>
 (T 126 [(.sl 1 true false s9.k0.xs), s9.k4, r11, s9.k5, s9.k2]).bind fun r12 =>
 (sBin .mul (.int .i64 2) s9.k3).bind fun r13 =>
 (sBin .add s9.k5 r13).bind fun r14 =>
 next9 ⟨[(.sl 1 true false ((r12.outs.headD .undef).xs)), s9.k1, s9.k2, s9.k3, s9.k5, r14], [], false⟩)
 ((sBin .add s9.k4 s9.k3).bind fun r15 =>
 (sBin .lss r15 s9.k1).bind fun r16 =>
 pickC r16
 ((T 126 [(.sl 1 true false s9.k0.xs), s9.k4, r15, s9.k1, s9.k2]).bind fun r17 =>
 (sBin .mul s9.k3 (.int .i64 2)).bind fun r18 =>
 next6 ⟨[(.sl 1 true false ((r17.outs.headD .undef).xs)), s9.k1, s9.k2, r18], [], false⟩)
 ((sBin .mul s9.k3 (.int .i64 2)).bind fun r19 =>
 next6 ⟨[(.sl 1 true false s9.k0.xs), s9.k1, s9.k2, r19], [], false⟩))) k ⟨[(.sl 1 true false s6.k0.xs), s6.k1, s6.k2, s6.k3, (.int .i64 0), r8], [], false⟩)
 (some { r := (.tup []), outs := [(.sl 1 true false s6.k0.xs)] })) k ⟨[(.sl 1 true false ((r5.outs.headD .undef).xs)), s1.k1, s1.k2, s1.k3], [], false⟩)) k ⟨[(.sl 1 true false x0), x1, x2, (.int .i64 20), (.int .i64 0), (.int .i64 20)], [], false⟩
theorem r83 (T : TT) (k : Nat) (x0 : List SVal) (x1 x2 : SVal) : bodyE P H T k 83 [(.sl 1 true false x0), x1, x2] = R83 T k x0 x1 x2 := by kernel_rfl
noncomputable def D83 (T : TT) (k : Nat) : List SVal → Option Res
  | [(.sl 1 true false x0), x1, x2] => R83 T k x0 x1 x2
  | a => bodyE P H T k 83 a
theorem d83 (T : TT) (k : Nat) (a : List SVal) : D83 T k a = bodyE P H T k 83 a := by
  unfold D83
  split
  · exact (r83 ..).symm
  · rfl
theorem t83 (k : Nat) (x0 : List SVal) (x1 x2 : SVal) : T (k + 1) 83 [(.sl 1 true false x0), x1, x2] = R83 (T k) k x0 x1 x2 := (tb k 83 _ rfl).trans (r83 ..)
/-- cmp.isNaN[int] -/
def R84 (T : TT) (k : Nat) (x0 : SVal) : Option Res :=
 (sBin .neq x0 x0).bind fun r1 =>
 some { r := r1 }
theorem r84 (T : TT) (k : Nat) (x0 : SVal) : bodyE P H T k 84 [x0] = R84 T k x0 := by kernel_rfl
noncomputable def D84 (T : TT) (k : Nat) : List SVal → Option Res
  | [x0] => R84 T k x0
  | a => bodyE P H T k 84 a
theorem d84 (T : TT) (k : Nat) (a : List SVal) : D84 T k a = bodyE P H T k 84 a := by
  unfold D84
  split
  · exact (r84 ..).symm
  · rfl
theorem t84 (k : Nat) (x0 : SVal) : T (k + 1) 84 [x0] = R84 (T k) k x0 := (tb k 84 _ rfl).trans (r84 ..)
/-- limelight/limelightref01.kind -/
def R85 (T : TT) (k : Nat) (x0a x0b x0c x0d x0e x0f x0g x1 : SVal) : Option Res :=
 ((sBin .eql x0a (.int .i64 0)).bind fun r1 =>
 (sBin .eql x1 (.int .i64 0)).bind fun r2 =>
 (sBinB .neq r1 r2).bind fun r3 =>
 guardX r3 false
 ((sBin .lss x0a (.int .i64 0)).bind fun r4 =>
 guardX r4 false
 ((sBin .gtr x0a (.int .i64 3)).bind fun r5 =>
 (asB r5).bind fun b6 =>
 some [b6])
 (some [true])
 (none))
 (some [true])
 (none)).bind fun vs7 =>
 pickC (.bool (vs7.getD 0 false))
 (some { r := (.bool false) })
 ((sBin .eql x0a (.int .i64 1)).bind fun r8 =>
 pickC r8
 (((sBin .geq x0b (.int .i64 0)).bind fun r9 =>
 guardX r9 true
 ((sBin .leq x0b (.int .i64 4)).bind fun r10 =>
 (asB r10).bind fun b11 =>
 some [b11])
 (some [false])
 (none)).bind fun vs12 =>
 some { r := (.bool (vs12.getD 0 false)) })
 ((sBin .eql x0b (.int .i64 0)).bind fun r13 =>
 some { r := r13 }))
theorem r85 (T : TT) (k : Nat) (x0a x0b x0c x0d x0e x0f x0g x1 : SVal) : bodyE P H T k 85 [(.agg [x0a, x0b, x0c, x0d, x0e, x0f, x0g]), x1] = R85 T k x0a x0b x0c x0d x0e x0f x0g x1 := by kernel_rfl
theorem t85 (k : Nat) (x0a x0b x0c x0d x0e x0f x0g x1 : SVal) : T (k + 1) 85 [(.agg [x0a, x0b, x0c, x0d, x0e, x0f, x0g]), x1] = R85 (T k) k x0a x0b x0c x0d x0e x0f x0g x1 := (tb k 85 _ rfl).trans (r85 ..)
/-- limelight/limelightref01.attrs -/
def R86 (T : TT) (k : Nat) (x0a x0b x0c x0d x0e x0f x0g : SVal) : Option Res :=
 loopN (fun s1 next1 =>
 (sLen (SVal.cell s1.k0 6)).bind fun r2 =>
 (sBin .lss s1.k1 r2).bind fun r3 =>
 pickC r3
 (((sIdx true 2 (SVal.cell s1.k0 6) s1.k1).bind fun e4 =>
 (T 127 [(SVal.cell s1.k0 0), (.agg [(SVal.cell e4 0), (SVal.cell e4 1)])]).bind fun r5 =>
 (sNot r5.r).bind fun r6 =>
 guardX r6 false
 ((sBin .gtr s1.k1 (.int .i64 0)).bind fun r7 =>
 guardX r7 true
 ((sIdx true 2 (SVal.cell s1.k0 6) s1.k1).bind fun e8 =>
 (sBin .sub s1.k1 (.int .i64 1)).bind fun r9 =>
 (sIdx true 2 (SVal.cell s1.k0 6) r9).bind fun e10 =>
 (sBin .leq (SVal.cell e8 0) (SVal.cell e10 0)).bind fun r11 =>
 (asB r11).bind fun b12 =>
 some [b12])
 (some [false])
 (none))
 (some [true])
 (none)).bind fun vs13 =>
 pickC (.bool (vs13.getD 0 false))
 (some { r := (.bool false) })
 ((sBin .add s1.k1 (.int .i64 1)).bind fun r14 =>
 next1 ⟨[(.rp [(SVal.cell s1.k0 0), (SVal.cell s1.k0 1), (SVal.cell s1.k0 2), (SVal.cell s1.k0 3), (SVal.cell s1.k0 4), (SVal.cell s1.k0 5), (SVal.cell s1.k0 6)]), r14], [], false⟩))
 (some { r := (.bool true) })) k ⟨[(.rp [x0a, x0b, x0c, x0d, x0e, x0f, x0g]), (.int .i64 0)], [], false⟩
theorem r86 (T : TT) (k : Nat) (x0a x0b x0c x0d x0e x0f x0g : SVal) : bodyE P H T k 86 [(.agg [x0a, x0b, x0c, x0d, x0e, x0f, x0g])] = R86 T k x0a x0b x0c x0d x0e x0f x0g := by kernel_rfl
theorem t86 (k : Nat) (x0a x0b x0c x0d x0e x0f x0g : SVal) : T (k + 1) 86 [(.agg [x0a, x0b, x0c, x0d, x0e, x0f, x0g])] = R86 (T k) k x0a x0b x0c x0d x0e x0f x0g := (tb k 86 _ rfl).trans (r86 ..)
/-- limelight/limelightref01.kids -/
def R87 (T : TT) (k : Nat) (x0 x1 : SVal) : Option Res :=
 (sIdx true 7 x0 x1).bind fun e1 =>
 if (allOne [.v (SVal.cell e1 0), .v (SVal.cell e1 1), .v (SVal.cell e1 2), .v (SVal.cell e1 3), .v (SVal.cell e1 4), .v (SVal.cell e1 5), .v (SVal.cell e1 6)]) = true then
 loopN (fun s2 next2 =>
 (sLen (SVal.cell s2.k2 3)).bind fun r3 =>
 (sBin .lss s2.k3 r3).bind fun r4 =>
 pickC r4
 ((sIdx false 1 (SVal.cell s2.k2 3) s2.k3).bind fun e5 =>
 ((T 17 [(weak s2.k0), e5]).bind fun r6 =>
 (sNot r6.r).bind fun r7 =>
 guardX r7 false
 ((T 128 [(weak (SVal.cell s2.k2 3)), e5]).bind fun r8 =>
 (sBin .neq r8.r (.int .i64 1)).bind fun r9 =>
 (asB r9).bind fun b10 =>
 some [b10])
 (some [true])
 (none)).bind fun vs11 =>
 pickC (.bool (vs11.getD 0 false))
 (some { r := (.bool false) })
 (((sIdx true 7 s2.k0 e5).bind fun e12 =>
 (sBin .neq (SVal.cell e12 2) s2.k1).bind fun r13 =>
 guardX r13 false
 ((sIdx true 7 s2.k0 e5).bind fun e14 =>
 (sBin .neq (SVal.cell e14 0) (.int .i64 1)).bind fun r15 =>
 guardX r15 true
 ((sIdx true 7 s2.k0 e5).bind fun e16 =>
 (sBin .neq (SVal.cell e16 0) (.int .i64 2)).bind fun r17 =>
 (asB r17).bind fun b18 =>
 some [b18])
 (some [false])
 (none))
 (some [true])
 (none)).bind fun vs19 =>
 pickC (.bool (vs19.getD 0 false))
 (some { r := (.bool false) })
 ((sBin .add s2.k3 (.int .i64 1)).bind fun r20 =>
 next2 ⟨[(weak s2.k0), s2.k1, (.rp [(SVal.cell s2.k2 0), (SVal.cell s2.k2 1), (SVal.cell s2.k2 2), (SVal.cell s2.k2 3), (SVal.cell s2.k2 4), (SVal.cell s2.k2 5), (SVal.cell s2.k2 6)]), r20], [], false⟩)))
 (((sBin .eql (SVal.cell s2.k2 0) (.int .i64 2)).bind fun r21 =>
 guardX r21 true
 ((sLen (SVal.cell s2.k2 3)).bind fun r22 =>
 (sBin .gtr r22 (.int .i64 0)).bind fun r23 =>
 (asB r23).bind fun b24 =>
 some [b24])
 (some [false])
 (none)).bind fun vs25 =>
 pickC (.bool (vs25.getD 0 false))
 (some { r := (.bool false) })
 ((sBin .eql (SVal.cell s2.k2 2) (.int .i64 (-1))).bind fun r26 =>
 pickC r26
 (some { r := (.bool true) })
 (((T 17 [(weak s2.k0), (SVal.cell s2.k2 2)]).bind fun r27 =>
 guardX r27.r true
 ((sIdx true 7 s2.k0 (SVal.cell s2.k2 2)).bind fun e28 =>
 (T 128 [(weak (SVal.cell e28 3)), s2.k1]).bind fun r29 =>
 (sBin .eql r29.r (.int .i64 1)).bind fun r30 =>
 (asB r30).bind fun b31 =>
 some [b31])
 (some [false])
 (none)).bind fun vs32 =>
 some { r := (.bool (vs32.getD 0 false)) })))) k ⟨[(weak x0), x1, (.rp [(SVal.cell e1 0), (SVal.cell e1 1), (SVal.cell e1 2), (SVal.cell e1 3), (SVal.cell e1 4), (SVal.cell e1 5), (SVal.cell e1 6)]), (.int .i64 0)], [], false⟩
 else none
theorem r87 (T : TT) (k : Nat) (x0 x1 : SVal) : bodyE P H T k 87 [x0, x1] = R87 T k x0 x1 := by kernel_rfl
theorem t87 (k : Nat) (x0 x1 : SVal) : T (k + 1) 87 [x0, x1] = R87 (T k) k x0 x1 := (tb k 87 _ rfl).trans (r87 ..)
/-- limelight/limelightref01.shadow -/
def R88 (T : TT) (k : Nat) (x0 x1 : SVal) : Option Res :=
 (sIdx true 7 x0 x1).bind fun e1 =>
 if (allOne [.v (SVal.cell e1 0), .v (SVal.cell e1 1), .v (SVal.cell e1 2), .v (SVal.cell e1 3), .v (SVal.cell e1 4), .v (SVal.cell e1 5), .v (SVal.cell e1 6)]) = true then
 (sBin .eql (SVal.cell e1 0) (.int .i64 3)).bind fun r2 =>
 pickC r2
 (((sBin .eql (SVal.cell e1 5) (.int .i64 (-1))).bind fun r3 =>
 guardX r3 true
 ((sBin .eql (SVal.cell e1 2) (.int .i64 (-1))).bind fun r4 =>
 guardX r4 true
 ((T 17 [(weak x0), (SVal.cell e1 4)]).bind fun r5 =>
 guardX r5.r true
 ((sIdx true 7 x0 (SVal.cell e1 4)).bind fun e6 =>
 (sBin .eql (SVal.cell e6 0) (.int .i64 1)).bind fun r7 =>
 guardX r7 true
 ((sIdx true 7 x0 (SVal.cell e1 4)).bind fun e8 =>
 (sBin .eql (SVal.cell e8 5) x1).bind fun r9 =>
 (asB r9).bind fun b10 =>
 some [b10])
 (some [false])
 (none))
 (some [false])
 (none))
 (some [false])
 (none))
 (some [false])
 (none)).bind fun vs11 =>
 some { r := (.bool (vs11.getD 0 false)) })
 ((sBin .neq (SVal.cell e1 4) (.int .i64 (-1))).bind fun r12 =>
 pickC r12
 (some { r := (.bool false) })
 ((sBin .eql (SVal.cell e1 5) (.int .i64 (-1))).bind fun r13 =>
 pickC r13
 (some { r := (.bool true) })
 (((sBin .eql (SVal.cell e1 0) (.int .i64 1)).bind fun r14 =>
 guardX r14 true
 ((T 17 [(weak x0), (SVal.cell e1 5)]).bind fun r15 =>
 guardX r15.r true
 ((sIdx true 7 x0 (SVal.cell e1 5)).bind fun e16 =>
 (sBin .eql (SVal.cell e16 0) (.int .i64 3)).bind fun r17 =>
 guardX r17 true
 ((sIdx true 7 x0 (SVal.cell e1 5)).bind fun e18 =>
 (sBin .eql (SVal.cell e18 4) x1).bind fun r19 =>
 (asB r19).bind fun b20 =>
 some [b20])
 (some [false])
 (none))
 (some [false])
 (none))
 (some [false])
 (none)).bind fun vs21 =>
 some { r := (.bool (vs21.getD 0 false)) })))
 else none
theorem r88 (T : TT) (k : Nat) (x0 x1 : SVal) : bodyE P H T k 88 [x0, x1] = R88 T k x0 x1 := by kernel_rfl
theorem t88 (k : Nat) (x0 x1 : SVal) : T (k + 1) 88 [x0, x1] = R88 (T k) k x0 x1 := (tb k 88 _ rfl).trans (r88 ..)
/-- limelight/limelightref01.ends -/
def R89 (T : TT) (k : Nat) (x0 x1 : SVal) : Option Res :=
 loopN (fun s1 next1 =>
 (sLen s1.k0).bind fun r2 =>
 (sBin .leq s1.k2 r2).bind fun r3 =>
 pickC r3
 ((sBin .eql s1.k1 (.int .i64 (-1))).bind fun r4 =>
 pickC r4
 (some { r := (.bool true) })
 ((T 129 [(weak s1.k0), s1.k1]).bind fun r5 =>
 (sBin .add s1.k2 (.int .i64 1)).bind fun r6 =>
 next1 ⟨[(weak s1.k0), r5.r, r6], [], false⟩))
 (some { r := (.bool false) })) k ⟨[(weak x0), x1, (.int .i64 0)], [], false⟩
theorem r89 (T : TT) (k : Nat) (x0 x1 : SVal) : bodyE P H T k 89 [x0, x1] = R89 T k x0 x1 := by kernel_rfl
theorem t89 (k : Nat) (x0 x1 : SVal) : T (k + 1) 89 [x0, x1] = R89 (T k) k x0 x1 := (tb k 89 _ rfl).trans (r89 ..)
/-- limelight/limelightref10.open -/
def R90 (T : TT) (k : Nat) (x0a x0b x0c x0d x0e : SVal) : Option Res :=
 (elems 1 x0b).bind fun ys1 =>
 if ys1.length * 8 ≤ maxAppend then
 (elems 1 x0c).bind fun ys2 =>
 if (ys1.length + ys2.length) * 8 ≤ maxAppend then
 (T 32 [(weak x0d)]).bind fun r3 =>
 (elems 1 r3.r).bind fun ys4 =>
 if ((ys1 ++ ys2).length + ys4.length) * 8 ≤ maxAppend then
 some { r := (.sl 1 false false ((ys1 ++ ys2) ++ ys4)) }
 else none
 else none
 else none
theorem r90 (T : TT) (k : Nat) (x0a x0b x0c x0d x0e : SVal) : bodyE P H T k 90 [(.agg [x0a, x0b, x0c, x0d, x0e])] = R90 T k x0a x0b x0c x0d x0e := by kernel_rfl
theorem t90 (k : Nat) (x0a x0b x0c x0d x0e : SVal) : T (k + 1) 90 [(.agg [x0a, x0b, x0c, x0d, x0e])] = R90 (T k) k x0a x0b x0c x0d x0e := (tb k 90 _ rfl).trans (r90 ..)
/-- limelight/limelightref10.Dialogs -/
def R91 (T : TT) (k : Nat) (x0 x1 : SVal) : Option Res :=
 ((T 17 [(weak x0), x1]).bind fun r1 =>
 guardX r1.r true
 ((sIdx true 7 x0 x1).bind fun e2 =>
 (sBin .eql (SVal.cell e2 0) (.int .i64 1)).bind fun r3 =>
 guardX r3 true
 ((sIdx true 7 x0 x1).bind fun e4 =>
 (sBin .eql (SVal.cell e4 1) (.int .i64 2)).bind fun r5 =>
 guardX r5 true
 ((T 130 [(weak x0), x1]).bind fun r6 =>
 (asB r6.r).bind fun b7 =>
 some [b7])
 (some [false])
 (none))
 (some [false])
 (none))
 (some [false])
 (none)).bind fun vs8 =>
 some { r := (.bool (vs8.getD 0 false)) }
theorem r91 (T : TT) (k : Nat) (x0 x1 : SVal) : bodyE P H T k 91 [x0, x1] = R91 T k x0 x1 := by kernel_rfl
theorem t91 (k : Nat) (x0 x1 : SVal) : T (k + 1) 91 [x0, x1] = R91 (T k) k x0 x1 := (tb k 91 _ rfl).trans (r91 ..)
/-- limelight/limelightref10.Popups -/
def R92 (T : TT) (k : Nat) (x0 x1 : SVal) : Option Res :=
 ((T 17 [(weak x0), x1]).bind fun r1 =>
 guardX r1.r true
 ((sIdx true 7 x0 x1).bind fun e2 =>
 (sBin .eql (SVal.cell e2 0) (.int .i64 1)).bind fun r3 =>
 guardX r3 true
 ((T 131 [(weak x0), x1, (.int .i64 6)]).bind fun r4 =>
 guardX r4.r true
 ((T 130 [(weak x0), x1]).bind fun r5 =>
 (asB r5.r).bind fun b6 =>
 some [b6])
 (some [false])
 (none))
 (some [false])
 (none))
 (some [false])
 (none)).bind fun vs7 =>
 some { r := (.bool (vs7.getD 0 false)) }
theorem r92 (T : TT) (k : Nat) (x0 x1 : SVal) : bodyE P H T k 92 [x0, x1] = R92 T k x0 x1 := by kernel_rfl
theorem t92 (k : Nat) (x0 x1 : SVal) : T (k + 1) 92 [x0, x1] = R92 (T k) k x0 x1 := (tb k 92 _ rfl).trans (r92 ..)
/-- limelight/limelightref10.Once -/
def R93 (T : TT) (k : Nat) (x0 : SVal) : Option Res :=
 loopN (fun s1 next1 =>
 (sLen s1.k0).bind fun r2 =>
 (sBin .lss s1.k1 r2).bind fun r3 =>
 pickC r3
 ((sIdx false 1 s1.k0 s1.k1).bind fun e4 =>
 (T 28 [(weak s1.k0), e4]).bind fun r5 =>
 (sBin .neq r5.r s1.k1).bind fun r6 =>
 pickC r6
 (some { r := (.bool false) })
 ((sBin .add s1.k1 (.int .i64 1)).bind fun r7 =>
 next1 ⟨[(weak s1.k0), r7], [], false⟩))
 (some { r := (.bool true) })) k ⟨[(weak x0), (.int .i64 0)], [], false⟩
theorem r93 (T : TT) (k : Nat) (x0 : SVal) : bodyE P H T k 93 [x0] = R93 T k x0 := by kernel_rfl
theorem t93 (k : Nat) (x0 : SVal) : T (k + 1) 93 [x0] = R93 (T k) k x0 := (tb k 93 _ rfl).trans (r93 ..)
/-- limelight/flat.up -/
def R94 (T : TT) (k : Nat) (x0 x1 : SVal) : Option Res :=
 if (oneS x0) = true then
 if (oneS x1) = true then
 some { r := (.fn 132 [(.mb [x1]), (.rp [x0])]) }
 else none
 else none
theorem r94 (T : TT) (k : Nat) (x0 x1 : SVal) : bodyE P H T k 94 [x0, x1] = R94 T k x0 x1 := by kernel_rfl
noncomputable def D94 (T : TT) (k : Nat) : List SVal → Option Res
  | [x0, x1] => R94 T k x0 x1
  | a => bodyE P H T k 94 a
theorem d94 (T : TT) (k : Nat) (a : List SVal) : D94 T k a = bodyE P H T k 94 a := by
  unfold D94
  split
  · exact (r94 ..).symm
  · rfl
theorem t94 (k : Nat) (x0 x1 : SVal) : T (k + 1) 94 [x0, x1] = R94 (T k) k x0 x1 := (tb k 94 _ rfl).trans (r94 ..)
/-- limelight/attr.node -/
def R95 (T : TT) (k : Nat) (x0 x1 : SVal) : Option Res :=
 ((T 105 [(weak x0)]).bind fun r1 =>
 (sBin .eql r1.r (.int .i64 0)).bind fun r2 =>
 guardX r2 true
 ((sBin .geq x1 (.int .i64 0)).bind fun r3 =>
 guardX r3 true
 ((sLen x0).bind fun r4 =>
 (sBin .lss x1 r4).bind fun r5 =>
 (asB r5).bind fun b6 =>
 some [b6])
 (some [false])
 (none))
 (some [false])
 (none)).bind fun vs7 =>
 some { r := (.bool (vs7.getD 0 false)) }
theorem r95 (T : TT) (k : Nat) (x0 x1 : SVal) : bodyE P H T k 95 [x0, x1] = R95 T k x0 x1 := by kernel_rfl
noncomputable def D95 (T : TT) (k : Nat) : List SVal → Option Res
  | [x0, x1] => R95 T k x0 x1
  | a => bodyE P H T k 95 a
theorem d95 (T : TT) (k : Nat) (a : List SVal) : D95 T k a = bodyE P H T k 95 a := by
  unfold D95
  split
  · exact (r95 ..).symm
  · rfl
theorem t95 (k : Nat) (x0 x1 : SVal) : T (k + 1) 95 [x0, x1] = R95 (T k) k x0 x1 := (tb k 95 _ rfl).trans (r95 ..)
/-- limelight/attr.at -/
def R96 (T : TT) (k : Nat) (x0a x0b x0c x0d x0e x0f x0g x1 : SVal) : Option Res :=
 if (oneS x1) = true then
 (T 134 [(weak x0g), (.fn 135 [(.rp [x1])])]).bind fun r1 =>
 some { r := r1.r }
 else none
theorem r96 (T : TT) (k : Nat) (x0a x0b x0c x0d x0e x0f x0g x1 : SVal) : bodyE P H T k 96 [(.agg [x0a, x0b, x0c, x0d, x0e, x0f, x0g]), x1] = R96 T k x0a x0b x0c x0d x0e x0f x0g x1 := by kernel_rfl
noncomputable def D96 (T : TT) (k : Nat) : List SVal → Option Res
  | [(.agg [x0a, x0b, x0c, x0d, x0e, x0f, x0g]), x1] => R96 T k x0a x0b x0c x0d x0e x0f x0g x1
  | a => bodyE P H T k 96 a
theorem d96 (T : TT) (k : Nat) (a : List SVal) : D96 T k a = bodyE P H T k 96 a := by
  unfold D96
  split
  · exact (r96 ..).symm
  · rfl
theorem t96 (k : Nat) (x0a x0b x0c x0d x0e x0f x0g x1 : SVal) : T (k + 1) 96 [(.agg [x0a, x0b, x0c, x0d, x0e, x0f, x0g]), x1] = R96 (T k) k x0a x0b x0c x0d x0e x0f x0g x1 := (tb k 96 _ rfl).trans (r96 ..)
/-- slices.IndexFunc[[]limelight/api.Shown,limelight/api.Shown] -/
def R97 (T : TT) (k : Nat) (x0 x1 : SVal) : Option Res :=
 (sLen x0).bind fun r1 =>
 loopN (fun s2 next2 =>
 (sBin .lss s2.k3 s2.k2).bind fun r3 =>
 pickC r3
 ((sIdx true 2 s2.k0 s2.k3).bind fun e4 =>
 (callV H T s2.k1 [(.agg [(SVal.cell e4 0), (SVal.cell e4 1)])]).bind fun y5 =>
 pickC y5
 (some { r := s2.k3 })
 ((sBin .add s2.k3 (.int .i64 1)).bind fun r6 =>
 next2 ⟨[(weak s2.k0), s2.k1, s2.k2, r6], [], false⟩))
 (some { r := (.int .i64 (-1)) })) k ⟨[(weak x0), x1, r1, (.int .i64 0)], [], false⟩
theorem r97 (T : TT) (k : Nat) (x0 x1 : SVal) : bodyE P H T k 97 [x0, x1] = R97 T k x0 x1 := by kernel_rfl
noncomputable def D97 (T : TT) (k : Nat) : List SVal → Option Res
  | [x0, x1] => R97 T k x0 x1
  | a => bodyE P H T k 97 a
theorem d97 (T : TT) (k : Nat) (a : List SVal) : D97 T k a = bodyE P H T k 97 a := by
  unfold D97
  split
  · exact (r97 ..).symm
  · rfl
theorem t97 (k : Nat) (x0 x1 : SVal) : T (k + 1) 97 [x0, x1] = R97 (T k) k x0 x1 := (tb k 97 _ rfl).trans (r97 ..)
/-- limelight/scopes.popup$1 -/
def R98 (T : TT) (k : Nat) (x0a x0b x1 : SVal) : Option Res :=
 (sBin .eql x0a x1).bind fun r1 =>
 some { r := r1 }
theorem r98 (T : TT) (k : Nat) (x0a x0b x1 : SVal) : bodyE P H T k 98 [(.agg [x0a, x0b]), (.rp [x1])] = R98 T k x0a x0b x1 := by kernel_rfl
noncomputable def D98 (T : TT) (k : Nat) : List SVal → Option Res
  | [(.agg [x0a, x0b]), (.rp [x1])] => R98 T k x0a x0b x1
  | a => bodyE P H T k 98 a
theorem d98 (T : TT) (k : Nat) (a : List SVal) : D98 T k a = bodyE P H T k 98 a := by
  unfold D98
  split
  · exact (r98 ..).symm
  · rfl
theorem t98 (k : Nat) (x0a x0b x1 : SVal) : T (k + 1) 98 [(.agg [x0a, x0b]), (.rp [x1])] = R98 (T k) k x0a x0b x1 := (tb k 98 _ rfl).trans (r98 ..)
/-- limelight/limelightref06.Kids -/
def R99 (T : TT) (k : Nat) (x0 x1 : SVal) : Option Res :=
 (sIdx true 7 x0 x1).bind fun e1 =>
 (sBin .eql (SVal.cell e1 0) (.int .i64 3)).bind fun r2 =>
 pickC r2
 (some { r := (.sl 1 false false []) })
 ((sIdx true 7 x0 x1).bind fun e3 =>
 (sBin .neq (SVal.cell e3 5) (.int .i64 (-1))).bind fun r4 =>
 pickC r4
 ((sIdx true 7 x0 x1).bind fun e5 =>
 (sIdx true 7 x0 (SVal.cell e5 5)).bind fun e6 =>
 some { r := (weak (SVal.cell e6 3)) })
 ((T 136 [(weak x0), x1]).bind fun r7 =>
 (sLen r7.r).bind fun r8 =>
 (sBin .gtr r8 (.int .i64 0)).bind fun r9 =>
 pickC r9
 (some { r := (weak r7.r) })
 ((sIdx true 7 x0 x1).bind fun e10 =>
 some { r := (weak (SVal.cell e10 3)) })))
theorem r99 (T : TT) (k : Nat) (x0 x1 : SVal) : bodyE P H T k 99 [x0, x1] = R99 T k x0 x1 := by kernel_rfl
theorem t99 (k : Nat) (x0 x1 : SVal) : T (k + 1) 99 [x0, x1] = R99 (T k) k x0 x1 := (tb k 99 _ rfl).trans (r99 ..)
/-- limelight/limelightref13.Disabled -/
def R100 (T : TT) (k : Nat) (x0 x1 : SVal) : Option Res :=
 ((sIdx true 7 x0 x1).bind fun e1 =>
 (sBin .eql (SVal.cell e1 1) (.int .i64 1)).bind fun r2 =>
 guardX r2 true
 ((T 131 [(weak x0), x1, (.int .i64 1)]).bind fun r3 =>
 (asB r3.r).bind fun b4 =>
 some [b4])
 (some [false])
 (none)).bind fun vs5 =>
 some { r := (.bool (vs5.getD 0 false)) }
theorem r100 (T : TT) (k : Nat) (x0 x1 : SVal) : bodyE P H T k 100 [x0, x1] = R100 T k x0 x1 := by kernel_rfl
theorem t100 (k : Nat) (x0 x1 : SVal) : T (k + 1) 100 [x0, x1] = R100 (T k) k x0 x1 := (tb k 100 _ rfl).trans (r100 ..)
/-- limelight/limelightref13.Delegates -/
def R101 (T : TT) (k : Nat) (x0 x1 : SVal) : Option Res :=
 ((sIdx true 7 x0 x1).bind fun e1 =>
 (sBin .neq (SVal.cell e1 5) (.int .i64 (-1))).bind fun r2 =>
 guardX r2 true
 ((sIdx true 7 x0 x1).bind fun e3 =>
 (T 131 [(weak x0), (SVal.cell e3 5), (.int .i64 7)]).bind fun r4 =>
 (asB r4.r).bind fun b5 =>
 some [b5])
 (some [false])
 (none)).bind fun vs6 =>
 some { r := (.bool (vs6.getD 0 false)) }
theorem r101 (T : TT) (k : Nat) (x0 x1 : SVal) : bodyE P H T k 101 [x0, x1] = R101 T k x0 x1 := by kernel_rfl
theorem t101 (k : Nat) (x0 x1 : SVal) : T (k + 1) 101 [x0, x1] = R101 (T k) k x0 x1 := (tb k 101 _ rfl).trans (r101 ..)
/-- limelight/limelightref11.Is -/
def R102 (T : TT) (k : Nat) (x0a x0b x0c x0d x0e x1 : SVal) : Option Res :=
 (T 30 [(weak x0a), x1]).bind fun r1 =>
 loopN (fun s2 next2 =>
 (sLen s2.k2).bind fun r3 =>
 (sBin .lss s2.k3 r3).bind fun r4 =>
 pickC r4
 ((sIdx false 1 s2.k2 s2.k3).bind fun e5 =>
 (T 137 [(.agg [(weak (SVal.cell s2.k1 0)), (weak (SVal.cell s2.k1 1)), (weak (SVal.cell s2.k1 2)), (weak (SVal.cell s2.k1 3)), (weak (SVal.cell s2.k1 4))]), e5]).bind fun r6 =>
 (sNot r6.r).bind fun r7 =>
 pickC r7
 (some { r := (.bool false) })
 ((sBin .add s2.k3 (.int .i64 1)).bind fun r8 =>
 next2 ⟨[s2.k0, (.rp [(SVal.cell s2.k1 0), (SVal.cell s2.k1 1), (SVal.cell s2.k1 2), (SVal.cell s2.k1 3), (SVal.cell s2.k1 4)]), (weak s2.k2), r8], [], false⟩))
 ((T 138 [(weak (SVal.cell s2.k1 0)), s2.k0]).bind fun r9 =>
 some { r := r9.r })) k ⟨[x1, (.rp [x0a, x0b, x0c, x0d, x0e]), (weak r1.r), (.int .i64 0)], [], false⟩
theorem r102 (T : TT) (k : Nat) (x0a x0b x0c x0d x0e x1 : SVal) : bodyE P H T k 102 [(.agg [x0a, x0b, x0c, x0d, x0e]), x1] = R102 T k x0a x0b x0c x0d x0e x1 := by kernel_rfl
theorem t102 (k : Nat) (x0a x0b x0c x0d x0e x1 : SVal) : T (k + 1) 102 [(.agg [x0a, x0b, x0c, x0d, x0e]), x1] = R102 (T k) k x0a x0b x0c x0d x0e x1 := (tb k 102 _ rfl).trans (r102 ..)
end Go.Proofs.YtjcnilaogidhlaaGreat.K
