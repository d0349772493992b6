/- What the evaluator makes of the functions, by program (wip/tr/resid.py); each equation is checked by the kernel. -/
import Derived.Test.YtjcnilaogidhlaaGreatLmAJ
import Derived.Test.YtjcnilaogidhlaaGreatLmAB
import Derived.KernelRfl
set_option linter.unusedVariables false
set_option linter.unusedSimpArgs false
set_option linter.unnecessarySimpa false
set_option linter.all false
set_option maxRecDepth 100000
namespace Go.Proofs.YtjcnilaogidhlaaGreat.K
open Go Go.Lm
/-- limelight/limelightref17.Next -/
def R38 (T : TT) (k : Nat) (x0a x0b x0c x0d x0e x1 x2 : SVal) : Option Res :=
 (T 37 [(.agg [(weak x0a), (weak x0b), (weak x0c), (weak x0d), (weak x0e)])]).bind fun r1 =>
 (sLen r1.r).bind fun r2 =>
 (sBin .eql r2 (.int .i64 0)).bind fun r3 =>
 pickC r3
 (some { r := (.int .i64 0) })
 ((T 28 [(weak r1.r), x1]).bind fun r4 =>
 (sBin .geq r4.r (.int .i64 0)).bind fun r5 =>
 pickC r5
 (pickC x2
 ((sBin .sub r4.r (.int .i64 1)).bind fun r6 =>
 ((sBin .lss r6 (.int .i64 0)).bind fun r7 =>
 guardX r7 false
 ((sLen r1.r).bind fun r8 =>
 (sBin .eql r6 r8).bind fun r9 =>
 (asB r9).bind fun b10 =>
 some [b10])
 (some [true])
 (none)).bind fun vs11 =>
 pickC (.bool (vs11.getD 0 false))
 (some { r := (.int .i64 0) })
 ((sIdx false 1 r1.r r6).bind fun e12 =>
 some { r := e12 }))
 ((sBin .add r4.r (.int .i64 1)).bind fun r13 =>
 ((sBin .lss r13 (.int .i64 0)).bind fun r14 =>
 guardX r14 false
 ((sLen r1.r).bind fun r15 =>
 (sBin .eql r13 r15).bind fun r16 =>
 (asB r16).bind fun b17 =>
 some [b17])
 (some [true])
 (none)).bind fun vs18 =>
 pickC (.bool (vs18.getD 0 false))
 (some { r := (.int .i64 0) })
 ((sIdx false 1 r1.r r13).bind fun e19 =>
 some { r := e19 })))
 ((T 26 [(weak x0a)]).bind fun r20 =>
 (T 28 [(weak r20.r), x1]).bind fun r21 =>
 ((sBin .eql x1 (.int .i64 0)).bind fun r22 =>
 guardX r22 false
 ((sBin .lss r21.r (.int .i64 0)).bind fun r23 =>
 (asB r23).bind fun b24 =>
 some [b24])
 (some [true])
 (none)).bind fun vs25 =>
 pickC (.bool (vs25.getD 0 false))
 (pickC x2
 ((sLen r1.r).bind fun r26 =>
 (sBin .sub r26 (.int .i64 1)).bind fun r27 =>
 (sIdx false 1 r1.r r27).bind fun e28 =>
 some { r := e28 })
 ((sIdx false 1 r1.r (.int .i64 0)).bind fun e29 =>
 some { r := e29 }))
 (pickC x2
 ((sBin .sub r21.r (.int .i64 1)).bind fun r30 =>
 loopN (fun s31 next31 =>
 (sBin .geq s31.k2 (.int .i64 0)).bind fun r32 =>
 pickC r32
 ((sIdx false 1 s31.k1 s31.k2).bind fun e33 =>
 (T 27 [(weak s31.k0), e33]).bind fun r34 =>
 if isSc1 r34.r = true then
 pickC r34.r
 ((sIdx false 1 s31.k1 s31.k2).bind fun e35 =>
 some { r := e35 })
 ((sBin .sub s31.k2 (.int .i64 1)).bind fun r36 =>
 next31 ⟨[(weak s31.k0), (weak s31.k1), r36], [], false⟩)
 else none)
 (some { r := (.int .i64 0) })) k ⟨[(weak r1.r), (weak r20.r), r30], [], false⟩)
 ((sBin .add r21.r (.int .i64 1)).bind fun r37 =>
 loopN (fun s38 next38 =>
 (sLen s38.k1).bind fun r39 =>
 (sBin .lss s38.k2 r39).bind fun r40 =>
 pickC r40
 ((sIdx false 1 s38.k1 s38.k2).bind fun e41 =>
 (T 27 [(weak s38.k0), e41]).bind fun r42 =>
 if isSc1 r42.r = true then
 pickC r42.r
 ((sIdx false 1 s38.k1 s38.k2).bind fun e43 =>
 some { r := e43 })
 ((sBin .add s38.k2 (.int .i64 1)).bind fun r44 =>
 next38 ⟨[(weak s38.k0), (weak s38.k1), r44], [], false⟩)
 else none)
 (some { r := (.int .i64 0) })) k ⟨[(weak r1.r), (weak r20.r), r37], [], false⟩))))
theorem r38 (T : TT) (k : Nat) (x0a x0b x0c x0d x0e x1 x2 : SVal) : bodyE P H T k 38 [(.agg [x0a, x0b, x0c, x0d, x0e]), x1, x2] = R38 T k x0a x0b x0c x0d x0e x1 x2 := by kernel_rfl
theorem t38 (k : Nat) (x0a x0b x0c x0d x0e x1 x2 : SVal) : T (k + 1) 38 [(.agg [x0a, x0b, x0c, x0d, x0e]), x1, x2] = R38 (T k) k x0a x0b x0c x0d x0e x1 x2 := (tb k 38 _ rfl).trans (r38 ..)
/-- limelight/limelightref13.Index -/
def R39 (T : TT) (k : Nat) (x0 x1 : SVal) : Option Res :=
 (T 60 [(weak x0), x1, (.int .i64 0)]).bind fun r1 =>
 guardX r1.r.c1 false
 ((sIdx true 7 x0 x1).bind fun e2 =>
 (sBin .eql (SVal.cell e2 1) (.int .i64 1)).bind fun r3 =>
 guardX r3 false
 ((sIdx true 7 x0 x1).bind fun e4 =>
 (sBin .eql (SVal.cell e4 1) (.int .i64 4)).bind fun r5 =>
 some { r := (.tup [r1.r.c0, r5]) })
 (some { r := (.tup [r1.r.c0, (.bool true)]) })
 (none))
 (some { r := (.tup [r1.r.c0, (.bool true)]) })
 (none)
theorem r39 (T : TT) (k : Nat) (x0 x1 : SVal) : bodyE P H T k 39 [x0, x1] = R39 T k x0 x1 := by kernel_rfl
theorem t39 (k : Nat) (x0 x1 : SVal) : T (k + 1) 39 [x0, x1] = R39 (T k) k x0 x1 := (tb k 39 _ rfl).trans (r39 ..)
/-- limelight/limelightref10.Highest -/
def R40 (T : TT) (k : Nat) (x0a x0b x0c x0d x0e : SVal) : Option Res :=
 (sLen x0e).bind fun r1 =>
 (sBin .sub r1 (.int .i64 1)).bind fun r2 =>
 loopN (fun s3 next3 =>
 (sBin .geq s3.k1 (.int .i64 0)).bind fun r4 =>
 pickC r4
 ((sIdx false 1 (SVal.cell s3.k0 4) s3.k1).bind fun e5 =>
 (T 27 [(weak (SVal.cell s3.k0 2)), e5]).bind fun r6 =>
 if isSc1 r6.r = true then
 pickC r6.r
 ((sIdx false 1 (SVal.cell s3.k0 4) s3.k1).bind fun e7 =>
 some { r := e7 })
 ((sBin .sub s3.k1 (.int .i64 1)).bind fun r8 =>
 next3 ⟨[(.rp [(SVal.cell s3.k0 0), (SVal.cell s3.k0 1), (SVal.cell s3.k0 2), (SVal.cell s3.k0 3), (SVal.cell s3.k0 4)]), r8], [], false⟩)
 else none)
 (some { r := (.int .i64 (-1)) })) k ⟨[(.rp [x0a, x0b, x0c, x0d, x0e]), r2], [], false⟩
theorem r40 (T : TT) (k : Nat) (x0a x0b x0c x0d x0e : SVal) : bodyE P H T k 40 [(.agg [x0a, x0b, x0c, x0d, x0e])] = R40 T k x0a x0b x0c x0d x0e := by kernel_rfl
theorem t40 (k : Nat) (x0a x0b x0c x0d x0e : SVal) : T (k + 1) 40 [(.agg [x0a, x0b, x0c, x0d, x0e])] = R40 (T k) k x0a x0b x0c x0d x0e := (tb k 40 _ rfl).trans (r40 ..)
/-- limelight/limelightref01.Small -/
def R41 (T : TT) (k : Nat) (x0 : SVal) : Option Res :=
 loopN (fun s1 next1 =>
 ((sLen s1.k0).bind fun r2 =>
 (sBin .lss s1.k1 r2).bind fun r3 =>
 guardX r3 true
 ((sLen s1.k0).bind fun r4 =>
 (sBin .leq r4 (.int .i64 70)).bind fun r5 =>
 (asB r5).bind fun b6 =>
 some [b6])
 (some [false])
 (none)).bind fun vs7 =>
 pickC (.bool (vs7.getD 0 false))
 (((sIdx true 7 s1.k0 s1.k1).bind fun e8 =>
 (sLen (SVal.cell e8 3)).bind fun r9 =>
 (sBin .gtr r9 (.int .i64 80)).bind fun r10 =>
 guardX r10 false
 ((sIdx true 7 s1.k0 s1.k1).bind fun e11 =>
 (sLen (SVal.cell e11 6)).bind fun r12 =>
 (sBin .gtr r12 (.int .i64 20)).bind fun r13 =>
 (asB r13).bind fun b14 =>
 some [b14])
 (some [true])
 (none)).bind fun vs15 =>
 pickC (.bool (vs15.getD 0 false))
 (some { r := (.bool false) })
 ((sBin .add s1.k1 (.int .i64 1)).bind fun r16 =>
 next1 ⟨[(weak s1.k0), r16], [], false⟩))
 ((sLen s1.k0).bind fun r17 =>
 (sBin .leq r17 (.int .i64 70)).bind fun r18 =>
 some { r := r18 })) k ⟨[(weak x0), (.int .i64 0)], [], false⟩
theorem r41 (T : TT) (k : Nat) (x0 : SVal) : bodyE P H T k 41 [x0] = R41 T k x0 := by kernel_rfl
theorem t41 (k : Nat) (x0 : SVal) : T (k + 1) 41 [x0] = R41 (T k) k x0 := (tb k 41 _ rfl).trans (r41 ..)
/-- limelight/scopes.may -/
def R42 (T : TT) (k : Nat) (x0a x0b x0c x0d x0e x1 : SVal) : Option Res :=
 ((T 65 [(.agg [(weak x0a), (weak x0b), (weak x0c), (weak x0d), (weak x0e)])]).bind fun r1 =>
 (sBin .eql r1.r (.int .i64 0)).bind fun r2 =>
 guardX r2 true
 ((sBin .geq x1 (.int .i64 0)).bind fun r3 =>
 guardX r3 true
 ((sLen x0a).bind fun r4 =>
 (sBin .lss x1 r4).bind fun r5 =>
 (asB r5).bind fun b6 =>
 some [b6])
 (some [false])
 (none))
 (some [false])
 (none)).bind fun vs7 =>
 some { r := (.bool (vs7.getD 0 false)) }
theorem r42 (T : TT) (k : Nat) (x0a x0b x0c x0d x0e x1 : SVal) : bodyE P H T k 42 [(.agg [x0a, x0b, x0c, x0d, x0e]), x1] = R42 T k x0a x0b x0c x0d x0e x1 := by kernel_rfl
noncomputable def D42 (T : TT) (k : Nat) : List SVal → Option Res
  | [(.agg [x0a, x0b, x0c, x0d, x0e]), x1] => R42 T k x0a x0b x0c x0d x0e x1
  | a => bodyE P H T k 42 a
theorem d42 (T : TT) (k : Nat) (a : List SVal) : D42 T k a = bodyE P H T k 42 a := by
  unfold D42
  split
  · exact (r42 ..).symm
  · rfl
theorem t42 (k : Nat) (x0a x0b x0c x0d x0e x1 : SVal) : T (k + 1) 42 [(.agg [x0a, x0b, x0c, x0d, x0e]), x1] = R42 (T k) k x0a x0b x0c x0d x0e x1 := (tb k 42 _ rfl).trans (r42 ..)
/-- limelight/scopes.owns -/
def R43 (T : TT) (k : Nat) (x0a x0b x0c x0d x0e x1 : SVal) : Option Res :=
 if (oneS x1) = true then
 (T 76 []).bind fun r1 =>
 (T 75 [(weak r1.r), (.fn 77 [(.rp [x0a, x0b, x0c, x0d, x0e]), (.rp [x1])])]).bind fun r2 =>
 some { r := r2.r }
 else none
theorem r43 (T : TT) (k : Nat) (x0a x0b x0c x0d x0e x1 : SVal) : bodyE P H T k 43 [(.agg [x0a, x0b, x0c, x0d, x0e]), x1] = R43 T k x0a x0b x0c x0d x0e x1 := by kernel_rfl
noncomputable def D43 (T : TT) (k : Nat) : List SVal → Option Res
  | [(.agg [x0a, x0b, x0c, x0d, x0e]), x1] => R43 T k x0a x0b x0c x0d x0e x1
  | a => bodyE P H T k 43 a
theorem d43 (T : TT) (k : Nat) (a : List SVal) : D43 T k a = bodyE P H T k 43 a := by
  unfold D43
  split
  · exact (r43 ..).symm
  · rfl
theorem t43 (k : Nat) (x0a x0b x0c x0d x0e x1 : SVal) : T (k + 1) 43 [(.agg [x0a, x0b, x0c, x0d, x0e]), x1] = R43 (T k) k x0a x0b x0c x0d x0e x1 := (tb k 43 _ rfl).trans (r43 ..)
/-- limelight/flat.List -/
def R44 (T : TT) (k : Nat) (x0 : SVal) : Option Res :=
 (T 78 [(weak x0), (.int .i64 0)]).bind fun r1 =>
 (sNot r1.r).bind fun r2 =>
 pickC r2
 (some { r := (.sl 1 false false []) })
 (loopN (fun s3 next3 =>
 (sBin .gtr (.int .i64 (s3.k2.c0.xs.length : Nat)) (.int .i64 0)).bind fun r4 =>
 pickC r4
 ((sBin .sub (.int .i64 (s3.k2.c0.xs.length : Nat)) (.int .i64 1)).bind fun r5 =>
 (sIn s3.k2.c0.xs.length r5).bind fun j6 =>
 (s3.k2.c0.xs[j6]?).bind fun e7 =>
 if (elemOk false 1 e7) = true then
 (sBin .sub (.int .i64 (s3.k2.c0.xs.length : Nat)) (.int .i64 1)).bind fun r8 =>
 (sBnd s3.k2.c0.xs.length r8).bind fun n9 =>
 if (List.all [[.v e7]] allOne) = true then
 if (s3.k1.xs.length + ([e7] : List SVal).length) * 8 ≤ maxAppend then
 (T 80 [(weak s3.k0), e7]).bind fun r10 =>
 (T 79 [(weak r10.r)]).bind fun r11 =>
 (callIt T r11.r).bind fun ys12 =>
 rangeN (fun s13 y13 next13 =>
 (tup2 y13).bind fun z14 =>
 if (List.all [[.v z14.2]] allOne) = true then
 if (s13.k2.c0.xs.length + ([z14.2] : List SVal).length) * 8 ≤ maxAppend then
 next13 ⟨[(weak s13.k0), (.sl 1 true false s13.k1.xs), (.mb [(.sl 1 true false (s13.k2.c0.xs ++ ([z14.2] : List SVal)))])], [], false⟩
 else none
 else none) (fun s15 =>
 next3 ⟨[(weak s15.k0), (.sl 1 true false s15.k1.xs), (.mb [(.sl 1 true false s15.k2.c0.xs)])], [], false⟩) ys12 ⟨[(weak s3.k0), (.sl 1 true false (s3.k1.xs ++ ([e7] : List SVal))), (.mb [(.sl 1 true false (s3.k2.c0.xs.take n9))])], [], false⟩
 else none
 else none
 else none)
 (some { r := (.sl 1 false false s3.k1.xs) })) k ⟨[(weak x0), (.sl 1 true false []), (.mb [(.sl 1 true false [(.int .i64 0)])])], [], false⟩)
theorem r44 (T : TT) (k : Nat) (x0 : SVal) : bodyE P H T k 44 [x0] = R44 T k x0 := by kernel_rfl
noncomputable def D44 (T : TT) (k : Nat) : List SVal → Option Res
  | [x0] => R44 T k x0
  | a => bodyE P H T k 44 a
theorem d44 (T : TT) (k : Nat) (a : List SVal) : D44 T k a = bodyE P H T k 44 a := by
  unfold D44
  split
  · exact (r44 ..).symm
  · rfl
theorem t44 (k : Nat) (x0 : SVal) : T (k + 1) 44 [x0] = R44 (T k) k x0 := (tb k 44 _ rfl).trans (r44 ..)
/-- limelight/area.Tabs -/
def R45 (T : TT) (k : Nat) (x0a x0b x0c x0d x0e x1 : SVal) : Option Res :=
 (T 81 [(weak x0a), x1]).bind fun r1 =>
 ((sBin .geq r1.r.c0 (.int .i64 0)).bind fun r2 =>
 guardX r2 true
 ((T 82 [(.agg [(weak x0a), (weak x0b), (weak x0c), (weak x0d), (weak x0e)]), x1]).bind fun r3 =>
 (asB r3.r).bind fun b4 =>
 some [b4])
 (some [false])
 (none)).bind fun vs5 =>
 some { r := (.bool (vs5.getD 0 false)) }
theorem r45 (T : TT) (k : Nat) (x0a x0b x0c x0d x0e x1 : SVal) : bodyE P H T k 45 [(.agg [x0a, x0b, x0c, x0d, x0e]), x1] = R45 T k x0a x0b x0c x0d x0e x1 := by kernel_rfl
noncomputable def D45 (T : TT) (k : Nat) : List SVal → Option Res
  | [(.agg [x0a, x0b, x0c, x0d, x0e]), x1] => R45 T k x0a x0b x0c x0d x0e x1
  | a => bodyE P H T k 45 a
theorem d45 (T : TT) (k : Nat) (a : List SVal) : D45 T k a = bodyE P H T k 45 a := by
  unfold D45
  split
  · exact (r45 ..).symm
  · rfl
theorem t45 (k : Nat) (x0a x0b x0c x0d x0e x1 : SVal) : T (k + 1) 45 [(.agg [x0a, x0b, x0c, x0d, x0e]), x1] = R45 (T k) k x0a x0b x0c x0d x0e x1 := (tb k 45 _ rfl).trans (r45 ..)
/-- slices.SortStableFunc[[]int,int] -/
def R46 (T : TT) (k : Nat) (x0 : List SVal) (x1 : SVal) : Option Res :=
 (T 83 [(.sl 1 true false x0), (.int .i64 (x0.length : Nat)), x1]).bind fun r1 =>
 some { r := (.tup []), outs := [(.sl 1 true false ((r1.outs.headD .undef).xs))] }
theorem r46 (T : TT) (k : Nat) (x0 : List SVal) (x1 : SVal) : bodyE P H T k 46 [(.sl 1 true false x0), x1] = R46 T k x0 x1 := by kernel_rfl
noncomputable def D46 (T : TT) (k : Nat) : List SVal → Option Res
  | [(.sl 1 true false x0), x1] => R46 T k x0 x1
  | a => bodyE P H T k 46 a
theorem d46 (T : TT) (k : Nat) (a : List SVal) : D46 T k a = bodyE P H T k 46 a := by
  unfold D46
  split
  · exact (r46 ..).symm
  · rfl
theorem t46 (k : Nat) (x0 : List SVal) (x1 : SVal) : T (k + 1) 46 [(.sl 1 true false x0), x1] = R46 (T k) k x0 x1 := (tb k 46 _ rfl).trans (r46 ..)
/-- limelight/scopes.Items$1 -/
def R47 (T : TT) (k : Nat) (x0 x1 x2a x2b x2c x2d x2e : SVal) : Option Res :=
 (T 19 [(.agg [(weak x2a), (weak x2b), (weak x2c), (weak x2d), (weak x2e)]), x0]).bind fun r1 =>
 (T 49 [r1.r]).bind fun r2 =>
 (T 19 [(.agg [(weak x2a), (weak x2b), (weak x2c), (weak x2d), (weak x2e)]), x1]).bind fun r3 =>
 (T 49 [r3.r]).bind fun r4 =>
 (T 48 [r2.r, r4.r]).bind fun r5 =>
 some { r := r5.r }
theorem r47 (T : TT) (k : Nat) (x0 x1 x2a x2b x2c x2d x2e : SVal) : bodyE P H T k 47 [x0, x1, (.rp [x2a, x2b, x2c, x2d, x2e])] = R47 T k x0 x1 x2a x2b x2c x2d x2e := by kernel_rfl
noncomputable def D47 (T : TT) (k : Nat) : List SVal → Option Res
  | [x0, x1, (.rp [x2a, x2b, x2c, x2d, x2e])] => R47 T k x0 x1 x2a x2b x2c x2d x2e
  | a => bodyE P H T k 47 a
theorem d47 (T : TT) (k : Nat) (a : List SVal) : D47 T k a = bodyE P H T k 47 a := by
  unfold D47
  split
  · exact (r47 ..).symm
  · rfl
theorem t47 (k : Nat) (x0 x1 x2a x2b x2c x2d x2e : SVal) : T (k + 1) 47 [x0, x1, (.rp [x2a, x2b, x2c, x2d, x2e])] = R47 (T k) k x0 x1 x2a x2b x2c x2d x2e := (tb k 47 _ rfl).trans (r47 ..)
/-- cmp.Compare[int] -/
def R48 (T : TT) (k : Nat) (x0 x1 : SVal) : Option Res :=
 (T 84 [x0]).bind fun r1 =>
 (T 84 [x1]).bind fun r2 =>
 pickC r1.r
 (pickC r2.r
 (some { r := (.int .i64 0) })
 (some { r := (.int .i64 (-1)) }))
 (pickC r2.r
 (some { r := (.int .i64 1) })
 ((sBin .lss x0 x1).bind fun r3 =>
 pickC r3
 (some { r := (.int .i64 (-1)) })
 ((sBin .gtr x0 x1).bind fun r4 =>
 pickC r4
 (some { r := (.int .i64 1) })
 (some { r := (.int .i64 0) }))))
theorem r48 (T : TT) (k : Nat) (x0 x1 : SVal) : bodyE P H T k 48 [x0, x1] = R48 T k x0 x1 := by kernel_rfl
noncomputable def D48 (T : TT) (k : Nat) : List SVal → Option Res
  | [x0, x1] => R48 T k x0 x1
  | a => bodyE P H T k 48 a
theorem d48 (T : TT) (k : Nat) (a : List SVal) : D48 T k a = bodyE P H T k 48 a := by
  unfold D48
  split
  · exact (r48 ..).symm
  · rfl
theorem t48 (k : Nat) (x0 x1 : SVal) : T (k + 1) 48 [x0, x1] = R48 (T k) k x0 x1 := (tb k 48 _ rfl).trans (r48 ..)
/-- limelight/scopes.rank -/
def R49 (T : TT) (k : Nat) (x0 : SVal) : Option Res :=
 (sBin .eql x0 (.int .i64 0)).bind fun r1 =>
 pickC r1
 (some { r := (.int .i64 2147483648) })
 (some { r := x0 })
theorem r49 (T : TT) (k : Nat) (x0 : SVal) : bodyE P H T k 49 [x0] = R49 T k x0 := by kernel_rfl
noncomputable def D49 (T : TT) (k : Nat) : List SVal → Option Res
  | [x0] => R49 T k x0
  | a => bodyE P H T k 49 a
theorem d49 (T : TT) (k : Nat) (a : List SVal) : D49 T k a = bodyE P H T k 49 a := by
  unfold D49
  split
  · exact (r49 ..).symm
  · rfl
theorem t49 (k : Nat) (x0 : SVal) : T (k + 1) 49 [x0] = R49 (T k) k x0 := (tb k 49 _ rfl).trans (r49 ..)
/-- limelight/limelightref01.May -/
def R50 (T : TT) (k : Nat) (x0 : SVal) : Option Res :=
 ((sLen x0).bind fun r1 =>
 (sBin .lss r1 (.int .i64 1)).bind fun r2 =>
 guardX r2 false
 ((sLen x0).bind fun r3 =>
 (sBin .gtr r3 (.int .i64 64)).bind fun r4 =>
 (asB r4).bind fun b5 =>
 some [b5])
 (some [true])
 (none)).bind fun vs6 =>
 pickC (.bool (vs6.getD 0 false))
 (some { r := (.bool false) })
 (loopN (fun s7 next7 =>
 (sLen s7.k0).bind fun r8 =>
 (sBin .lss s7.k1 r8).bind fun r9 =>
 pickC r9
 (((sIdx true 7 s7.k0 s7.k1).bind fun e10 =>
 (T 85 [(.agg [(SVal.cell e10 0), (SVal.cell e10 1), (SVal.cell e10 2), (weak (SVal.cell e10 3)), (SVal.cell e10 4), (SVal.cell e10 5), (weak (SVal.cell e10 6))]), s7.k1]).bind fun r11 =>
 (sNot r11.r).bind fun r12 =>
 guardX r12 false
 ((sIdx true 7 s7.k0 s7.k1).bind fun e13 =>
 (T 86 [(.agg [(SVal.cell e13 0), (SVal.cell e13 1), (SVal.cell e13 2), (weak (SVal.cell e13 3)), (SVal.cell e13 4), (SVal.cell e13 5), (weak (SVal.cell e13 6))])]).bind fun r14 =>
 (sNot r14.r).bind fun r15 =>
 guardX r15 false
 ((T 87 [(weak s7.k0), s7.k1]).bind fun r16 =>
 (sNot r16.r).bind fun r17 =>
 guardX r17 false
 ((T 88 [(weak s7.k0), s7.k1]).bind fun r18 =>
 (sNot r18.r).bind fun r19 =>
 (asB r19).bind fun b20 =>
 some [b20])
 (some [true])
 (none))
 (some [true])
 (none))
 (some [true])
 (none)).bind fun vs21 =>
 pickC (.bool (vs21.getD 0 false))
 (some { r := (.bool false) })
 ((sBin .add s7.k1 (.int .i64 1)).bind fun r22 =>
 next7 ⟨[(weak s7.k0), r22], [], false⟩))
 (loopN (fun s23 next23 =>
 (sLen s23.k0).bind fun r24 =>
 (sBin .lss s23.k1 r24).bind fun r25 =>
 pickC r25
 ((T 89 [(weak s23.k0), s23.k1]).bind fun r26 =>
 (sNot r26.r).bind fun r27 =>
 pickC r27
 (some { r := (.bool false) })
 ((sBin .add s23.k1 (.int .i64 1)).bind fun r28 =>
 next23 ⟨[(weak s23.k0), r28], [], false⟩))
 (some { r := (.bool true) })) k ⟨[(weak s7.k0), (.int .i64 0)], [], false⟩)) k ⟨[(weak x0), (.int .i64 0)], [], false⟩)
theorem r50 (T : TT) (k : Nat) (x0 : SVal) : bodyE P H T k 50 [x0] = R50 T k x0 := by kernel_rfl
theorem t50 (k : Nat) (x0 : SVal) : T (k + 1) 50 [x0] = R50 (T k) k x0 := (tb k 50 _ rfl).trans (r50 ..)
/-- limelight/limelightref10.May -/
def R51 (T : TT) (k : Nat) (x0a x0b x0c x0d x0e : SVal) : Option Res :=
 (T 90 [(.agg [(weak x0a), (weak x0b), (weak x0c), (weak x0d), (weak x0e)])]).bind fun r1 =>
 loopN (fun s2 next2 =>
 (sLen s2.k1).bind fun r3 =>
 (sBin .lss s2.k2 r3).bind fun r4 =>
 pickC r4
 ((sLen (SVal.cell s2.k0 1)).bind fun r5 =>
 (sLen (SVal.cell s2.k0 2)).bind fun r6 =>
 (sBin .add r5 r6).bind fun r7 =>
 (sBin .lss s2.k2 r7).bind fun r8 =>
 pickC r8
 ((sIdx false 1 s2.k1 s2.k2).bind fun e9 =>
 (T 91 [(weak (SVal.cell s2.k0 0)), e9]).bind fun r10 =>
 (sNot r10.r).bind fun r11 =>
 pickC r11
 (some { r := (.bool false) })
 ((sBin .add s2.k2 (.int .i64 1)).bind fun r12 =>
 next2 ⟨[(.rp [(SVal.cell s2.k0 0), (SVal.cell s2.k0 1), (SVal.cell s2.k0 2), (SVal.cell s2.k0 3), (SVal.cell s2.k0 4)]), (weak s2.k1), r12], [], false⟩))
 ((sIdx false 1 s2.k1 s2.k2).bind fun e13 =>
 (T 92 [(weak (SVal.cell s2.k0 0)), e13]).bind fun r14 =>
 (sNot r14.r).bind fun r15 =>
 pickC r15
 (some { r := (.bool false) })
 ((sBin .add s2.k2 (.int .i64 1)).bind fun r16 =>
 next2 ⟨[(.rp [(SVal.cell s2.k0 0), (SVal.cell s2.k0 1), (SVal.cell s2.k0 2), (SVal.cell s2.k0 3), (SVal.cell s2.k0 4)]), (weak s2.k1), r16], [], false⟩)))
 (loopN (fun s17 next17 =>
 (sLen (SVal.cell s17.k0 3)).bind fun r18 =>
 (sBin .lss s17.k2 r18).bind fun r19 =>
 pickC r19
 ((sIdx true 2 (SVal.cell s17.k0 3) s17.k2).bind fun e20 =>
 ((sBin .neq (SVal.cell e20 1) (.int .i64 (-1))).bind fun r21 =>
 guardX r21 true
 ((T 17 [(weak (SVal.cell s17.k0 0)), (SVal.cell e20 1)]).bind fun r22 =>
 (sNot r22.r).bind fun r23 =>
 (asB r23).bind fun b24 =>
 some [b24])
 (some [false])
 (none)).bind fun vs25 =>
 pickC (.bool (vs25.getD 0 false))
 (some { r := (.bool false) })
 ((sBin .add s17.k2 (.int .i64 1)).bind fun r26 =>
 next17 ⟨[(.rp [(SVal.cell s17.k0 0), (SVal.cell s17.k0 1), (SVal.cell s17.k0 2), (SVal.cell s17.k0 3), (SVal.cell s17.k0 4)]), (weak s17.k1), r26], [], false⟩))
 ((sLen (SVal.cell s17.k0 1)).bind fun r27 =>
 (sSlice 1 s17.k1 (some r27) none).bind fun r28 =>
 loopN (fun s29 next29 =>
 (sLen s29.k2).bind fun r30 =>
 (sBin .lss s29.k3 r30).bind fun r31 =>
 pickC r31
 ((sIdx false 1 s29.k2 s29.k3).bind fun e32 =>
 (T 27 [(weak (SVal.cell s29.k0 4)), e32]).bind fun r33 =>
 if isSc1 r33.r = true then
 (sNot r33.r).bind fun r34 =>
 pickC r34
 (some { r := (.bool false) })
 ((sBin .add s29.k3 (.int .i64 1)).bind fun r35 =>
 next29 ⟨[(.rp [(SVal.cell s29.k0 0), (SVal.cell s29.k0 1), (SVal.cell s29.k0 2), (SVal.cell s29.k0 3), (SVal.cell s29.k0 4)]), (weak s29.k1), (weak s29.k2), r35], [], false⟩)
 else none)
 (((T 93 [(weak s29.k1)]).bind fun r36 =>
 guardX r36.r true
 ((T 93 [(weak (SVal.cell s29.k0 4))]).bind fun r37 =>
 guardX r37.r true
 ((sLen (SVal.cell s29.k0 4)).bind fun r38 =>
 (sLen s29.k2).bind fun r39 =>
 (sBin .eql r38 r39).bind fun r40 =>
 (asB r40).bind fun b41 =>
 some [b41])
 (some [false])
 (none))
 (some [false])
 (none)).bind fun vs42 =>
 some { r := (.bool (vs42.getD 0 false)) })) k ⟨[(.rp [(SVal.cell s17.k0 0), (SVal.cell s17.k0 1), (SVal.cell s17.k0 2), (SVal.cell s17.k0 3), (SVal.cell s17.k0 4)]), (weak s17.k1), (weak r28), (.int .i64 0)], [], false⟩)) k ⟨[(.rp [(SVal.cell s2.k0 0), (SVal.cell s2.k0 1), (SVal.cell s2.k0 2), (SVal.cell s2.k0 3), (SVal.cell s2.k0 4)]), (weak s2.k1), (.int .i64 0)], [], false⟩)) k ⟨[(.rp [x0a, x0b, x0c, x0d, x0e]), (weak r1.r), (.int .i64 0)], [], false⟩
theorem r51 (T : TT) (k : Nat) (x0a x0b x0c x0d x0e : SVal) : bodyE P H T k 51 [(.agg [x0a, x0b, x0c, x0d, x0e])] = R51 T k x0a x0b x0c x0d x0e := by kernel_rfl
theorem t51 (k : Nat) (x0a x0b x0c x0d x0e : SVal) : T (k + 1) 51 [(.agg [x0a, x0b, x0c, x0d, x0e])] = R51 (T k) k x0a x0b x0c x0d x0e := (tb k 51 _ rfl).trans (r51 ..)
/-- limelight/flat.Up -/
def R52 (T : TT) (k : Nat) (x0 x1 : SVal) : Option Res :=
 (T 78 [(weak x0), x1]).bind fun r1 =>
 (sNot r1.r).bind fun r2 =>
 pickC r2
 (some { r := (.sl 1 false false []) })
 ((T 94 [(weak x0), x1]).bind fun r3 =>
 (T 66 [r3.r]).bind fun r4 =>
 some { r := (.sl 1 false false r4.r.xs) })
theorem r52 (T : TT) (k : Nat) (x0 x1 : SVal) : bodyE P H T k 52 [x0, x1] = R52 T k x0 x1 := by kernel_rfl
noncomputable def D52 (T : TT) (k : Nat) : List SVal → Option Res
  | [x0, x1] => R52 T k x0 x1
  | a => bodyE P H T k 52 a
theorem d52 (T : TT) (k : Nat) (a : List SVal) : D52 T k a = bodyE P H T k 52 a := by
  unfold D52
  split
  · exact (r52 ..).symm
  · rfl
theorem t52 (k : Nat) (x0 x1 : SVal) : T (k + 1) 52 [x0, x1] = R52 (T k) k x0 x1 := (tb k 52 _ rfl).trans (r52 ..)
/-- slices.IndexFunc[[]int,int] -/
def R53 (T : TT) (k : Nat) (x0 x1 : SVal) : Option Res :=
 (sLen x0).bind fun r1 =>
 loopN (fun s2 next2 =>
 (sBin .lss s2.k3 s2.k2).bind fun r3 =>
 pickC r3
 ((sIdx false 1 s2.k0 s2.k3).bind fun e4 =>
 (callV H T s2.k1 [e4]).bind fun y5 =>
 pickC y5
 (some { r := s2.k3 })
 ((sBin .add s2.k3 (.int .i64 1)).bind fun r6 =>
 next2 ⟨[(weak s2.k0), s2.k1, s2.k2, r6], [], false⟩))
 (some { r := (.int .i64 (-1)) })) k ⟨[(weak x0), x1, r1, (.int .i64 0)], [], false⟩
theorem r53 (T : TT) (k : Nat) (x0 x1 : SVal) : bodyE P H T k 53 [x0, x1] = R53 T k x0 x1 := by kernel_rfl
noncomputable def D53 (T : TT) (k : Nat) : List SVal → Option Res
  | [x0, x1] => R53 T k x0 x1
  | a => bodyE P H T k 53 a
theorem d53 (T : TT) (k : Nat) (a : List SVal) : D53 T k a = bodyE P H T k 53 a := by
  unfold D53
  split
  · exact (r53 ..).symm
  · rfl
theorem t53 (k : Nat) (x0 x1 : SVal) : T (k + 1) 53 [x0, x1] = R53 (T k) k x0 x1 := (tb k 53 _ rfl).trans (r53 ..)
/-- limelight/scopes.Owner$1 -/
def R54 (T : TT) (k : Nat) (x0 x1a x1b x1c x1d x1e : SVal) : Option Res :=
 (T 43 [(.agg [(weak x1a), (weak x1b), (weak x1c), (weak x1d), (weak x1e)]), x0]).bind fun r1 =>
 some { r := r1.r }
theorem r54 (T : TT) (k : Nat) (x0 x1a x1b x1c x1d x1e : SVal) : bodyE P H T k 54 [x0, (.rp [x1a, x1b, x1c, x1d, x1e])] = R54 T k x0 x1a x1b x1c x1d x1e := by kernel_rfl
noncomputable def D54 (T : TT) (k : Nat) : List SVal → Option Res
  | [x0, (.rp [x1a, x1b, x1c, x1d, x1e])] => R54 T k x0 x1a x1b x1c x1d x1e
  | a => bodyE P H T k 54 a
theorem d54 (T : TT) (k : Nat) (a : List SVal) : D54 T k a = bodyE P H T k 54 a := by
  unfold D54
  split
  · exact (r54 ..).symm
  · rfl
theorem t54 (k : Nat) (x0 x1a x1b x1c x1d x1e : SVal) : T (k + 1) 54 [x0, (.rp [x1a, x1b, x1c, x1d, x1e])] = R54 (T k) k x0 x1a x1b x1c x1d x1e := (tb k 54 _ rfl).trans (r54 ..)
/-- limelight/attr.Get -/
def R55 (T : TT) (k : Nat) (x0 x1 x2 : SVal) : Option Res :=
 (T 95 [(weak x0), x1]).bind fun r1 =>
 (sNot r1.r).bind fun r2 =>
 pickC r2
 (some { r := (.tup [(.int .i64 0), (.bool false)]) })
 ((sIdx true 7 x0 x1).bind fun e3 =>
 (T 96 [(.agg [(SVal.cell e3 0), (SVal.cell e3 1), (SVal.cell e3 2), (weak (SVal.cell e3 3)), (SVal.cell e3 4), (SVal.cell e3 5), (weak (SVal.cell e3 6))]), x2]).bind fun r4 =>
 (sBin .lss r4.r (.int .i64 0)).bind fun r5 =>
 pickC r5
 (some { r := (.tup [(.int .i64 0), (.bool false)]) })
 ((sIdx true 7 x0 x1).bind fun e6 =>
 (sIdx true 2 (SVal.cell e6 6) r4.r).bind fun e7 =>
 some { r := (.tup [(SVal.cell e7 1), (.bool true)]) }))
theorem r55 (T : TT) (k : Nat) (x0 x1 x2 : SVal) : bodyE P H T k 55 [x0, x1, x2] = R55 T k x0 x1 x2 := by kernel_rfl
noncomputable def D55 (T : TT) (k : Nat) : List SVal → Option Res
  | [x0, x1, x2] => R55 T k x0 x1 x2
  | a => bodyE P H T k 55 a
theorem d55 (T : TT) (k : Nat) (a : List SVal) : D55 T k a = bodyE P H T k 55 a := by
  unfold D55
  split
  · exact (r55 ..).symm
  · rfl
theorem t55 (k : Nat) (x0 x1 x2 : SVal) : T (k + 1) 55 [x0, x1, x2] = R55 (T k) k x0 x1 x2 := (tb k 55 _ rfl).trans (r55 ..)
/-- limelight/scopes.popup -/
def R56 (T : TT) (k : Nat) (x0a x0b x0c x0d x0e x1 : SVal) : Option Res :=
 if (oneS x1) = true then
 (T 97 [(weak x0d), (.fn 98 [(.rp [x1])])]).bind fun r1 =>
 (sBin .lss r1.r (.int .i64 0)).bind fun r2 =>
 pickC r2
 (some { r := (.tup [(.agg [(.int .i64 0), (.int .i64 0)]), (.bool false)]) })
 ((sIdx true 2 x0d r1.r).bind fun e3 =>
 if (allOne [.v (SVal.cell e3 0), .v (SVal.cell e3 1)]) = true then
 some { r := (.tup [(.agg [(SVal.cell e3 0), (SVal.cell e3 1)]), (.bool true)]) }
 else none)
 else none
theorem r56 (T : TT) (k : Nat) (x0a x0b x0c x0d x0e x1 : SVal) : bodyE P H T k 56 [(.agg [x0a, x0b, x0c, x0d, x0e]), x1] = R56 T k x0a x0b x0c x0d x0e x1 := by kernel_rfl
noncomputable def D56 (T : TT) (k : Nat) : List SVal → Option Res
  | [(.agg [x0a, x0b, x0c, x0d, x0e]), x1] => R56 T k x0a x0b x0c x0d x0e x1
  | a => bodyE P H T k 56 a
theorem d56 (T : TT) (k : Nat) (a : List SVal) : D56 T k a = bodyE P H T k 56 a := by
  unfold D56
  split
  · exact (r56 ..).symm
  · rfl
theorem t56 (k : Nat) (x0a x0b x0c x0d x0e x1 : SVal) : T (k + 1) 56 [(.agg [x0a, x0b, x0c, x0d, x0e]), x1] = R56 (T k) k x0a x0b x0c x0d x0e x1 := (tb k 56 _ rfl).trans (r56 ..)
/-- limelight/flat.Above -/
def R57 (T : TT) (k : Nat) (x0 x1 x2 : SVal) : Option Res :=
 (T 52 [(weak x0), x2]).bind fun r1 =>
 (T 70 [(weak r1.r), x1]).bind fun r2 =>
 some { r := r2.r }
theorem r57 (T : TT) (k : Nat) (x0 x1 x2 : SVal) : bodyE P H T k 57 [x0, x1, x2] = R57 T k x0 x1 x2 := by kernel_rfl
noncomputable def D57 (T : TT) (k : Nat) : List SVal → Option Res
  | [x0, x1, x2] => R57 T k x0 x1 x2
  | a => bodyE P H T k 57 a
theorem d57 (T : TT) (k : Nat) (a : List SVal) : D57 T k a = bodyE P H T k 57 a := by
  unfold D57
  split
  · exact (r57 ..).symm
  · rfl
theorem t57 (k : Nat) (x0 x1 x2 : SVal) : T (k + 1) 57 [x0, x1, x2] = R57 (T k) k x0 x1 x2 := (tb k 57 _ rfl).trans (r57 ..)
/-- limelight/limelightref16.item -/
def R58 (T : TT) (k : Nat) (x0a x0b x0c x0d x0e x1 x2 : SVal) : Option Res :=
 ((sIdx true 7 x0a x1).bind fun e1 =>
 (sBin .eql (SVal.cell e1 0) (.int .i64 1)).bind fun r2 =>
 guardX r2 true
 ((T 23 [(.agg [(weak x0a), (weak x0b), (weak x0c), (weak x0d), (weak x0e)]), x1]).bind fun r3 =>
 (sBin .eql r3.r x2).bind fun r4 =>
 guardX r4 true
 ((T 24 [(.agg [(weak x0a), (weak x0b), (weak x0c), (weak x0d), (weak x0e)]), x1]).bind fun r5 =>
 (sBin .geq r5.r (.int .i64 0)).bind fun r6 =>
 guardX r6 true
 ((T 25 [(.agg [(weak x0a), (weak x0b), (weak x0c), (weak x0d), (weak x0e)]), x1]).bind fun r7 =>
 (sBin .eql r7.r (.int .i64 (-1))).bind fun r8 =>
 guardX r8 true
 ((T 31 [(.agg [(weak x0a), (weak x0b), (weak x0c), (weak x0d), (weak x0e)]), x1]).bind fun r9 =>
 guardX r9.r false
 ((T 29 [(.agg [(weak x0a), (weak x0b), (weak x0c), (weak x0d), (weak x0e)]), x1]).bind fun r10 =>
 (asB r10.r).bind fun b11 =>
 some [b11])
 (some [true])
 (none))
 (some [false])
 (none))
 (some [false])
 (none))
 (some [false])
 (none))
 (some [false])
 (none)).bind fun vs12 =>
 some { r := (.bool (vs12.getD 0 false)) }
theorem r58 (T : TT) (k : Nat) (x0a x0b x0c x0d x0e x1 x2 : SVal) : bodyE P H T k 58 [(.agg [x0a, x0b, x0c, x0d, x0e]), x1, x2] = R58 T k x0a x0b x0c x0d x0e x1 x2 := by kernel_rfl
theorem t58 (k : Nat) (x0a x0b x0c x0d x0e x1 x2 : SVal) : T (k + 1) 58 [(.agg [x0a, x0b, x0c, x0d, x0e]), x1, x2] = R58 (T k) k x0a x0b x0c x0d x0e x1 x2 := (tb k 58 _ rfl).trans (r58 ..)
/-- limelight/limelightref16.ahead -/
def R59 (T : TT) (k : Nat) (x0 x1 : SVal) : Option Res :=
 ((sBin .gtr x0 (.int .i64 0)).bind fun r1 =>
 guardX r1 true
 ((sBin .eql x1 (.int .i64 0)).bind fun r2 =>
 guardX r2 false
 ((sBin .lss x0 x1).bind fun r3 =>
 (asB r3).bind fun b4 =>
 some [b4])
 (some [true])
 (none))
 (some [false])
 (none)).bind fun vs5 =>
 some { r := (.bool (vs5.getD 0 false)) }
theorem r59 (T : TT) (k : Nat) (x0 x1 : SVal) : bodyE P H T k 59 [x0, x1] = R59 T k x0 x1 := by kernel_rfl
theorem t59 (k : Nat) (x0 x1 : SVal) : T (k + 1) 59 [x0, x1] = R59 (T k) k x0 x1 := (tb k 59 _ rfl).trans (r59 ..)
/-- limelight/limelightref02.Get -/
def R60 (T : TT) (k : Nat) (x0 x1 x2 : SVal) : Option Res :=
 (T 17 [(weak x0), x1]).bind fun r1 =>
 (sNot r1.r).bind fun r2 =>
 pickC r2
 (some { r := (.tup [(.int .i64 0), (.bool false)]) })
 (loopN (fun s3 next3 =>
 (sIdx true 7 s3.k0 s3.k1).bind fun e4 =>
 (sLen (SVal.cell e4 6)).bind fun r5 =>
 (sBin .lss s3.k3 r5).bind fun r6 =>
 pickC r6
 ((sIdx true 7 s3.k0 s3.k1).bind fun e7 =>
 (sIdx true 2 (SVal.cell e7 6) s3.k3).bind fun e8 =>
 (sBin .eql (SVal.cell e8 0) s3.k2).bind fun r9 =>
 pickC r9
 ((sIdx true 7 s3.k0 s3.k1).bind fun e10 =>
 (sIdx true 2 (SVal.cell e10 6) s3.k3).bind fun e11 =>
 some { r := (.tup [(SVal.cell e11 1), (.bool true)]) })
 ((sBin .add s3.k3 (.int .i64 1)).bind fun r12 =>
 next3 ⟨[(weak s3.k0), s3.k1, s3.k2, r12], [], false⟩))
 (some { r := (.tup [(.int .i64 0), (.bool false)]) })) k ⟨[(weak x0), x1, x2, (.int .i64 0)], [], false⟩)
theorem r60 (T : TT) (k : Nat) (x0 x1 x2 : SVal) : bodyE P H T k 60 [x0, x1, x2] = R60 T k x0 x1 x2 := by kernel_rfl
theorem t60 (k : Nat) (x0 x1 x2 : SVal) : T (k + 1) 60 [x0, x1, x2] = R60 (T k) k x0 x1 x2 := (tb k 60 _ rfl).trans (r60 ..)
/-- limelight/limelightref06.below -/
def R61 (T : TT) (k : Nat) (x0 x1 : SVal) : Option Res :=
 if (List.all [[.v x1]] allOne) = true then
 (T 99 [(weak x0), x1]).bind fun r1 =>
 loopN (fun s2 next2 =>
 (sLen s2.k2).bind fun r3 =>
 (sBin .lss s2.k3 r3).bind fun r4 =>
 pickC r4
 ((sIdx false 1 s2.k2 s2.k3).bind fun e5 =>
 (T 61 [(weak s2.k0), e5]).bind fun r6 =>
 (elems 1 r6.r).bind fun ys7 =>
 if (s2.k1.xs.length + ys7.length) * 8 ≤ maxAppend then
 (sBin .add s2.k3 (.int .i64 1)).bind fun r8 =>
 next2 ⟨[(weak s2.k0), (.sl 1 true false (s2.k1.xs ++ ys7)), (weak s2.k2), r8], [], false⟩
 else none)
 (some { r := (.sl 1 false false s2.k1.xs) })) k ⟨[(weak x0), (.sl 1 true false [x1]), (weak r1.r), (.int .i64 0)], [], false⟩
 else none
theorem r61 (T : TT) (k : Nat) (x0 x1 : SVal) : bodyE P H T k 61 [x0, x1] = R61 T k x0 x1 := by kernel_rfl
theorem t61 (k : Nat) (x0 x1 : SVal) : T (k + 1) 61 [x0, x1] = R61 (T k) k x0 x1 := (tb k 61 _ rfl).trans (r61 ..)
/-- limelight/limelightref13.Is -/
def R62 (T : TT) (k : Nat) (x0a x0b x0c x0d x0e x1 : SVal) : Option Res :=
 (T 39 [(weak x0a), x1]).bind fun r1 =>
 (guardX r1.r.c1 true
 ((T 100 [(weak x0a), x1]).bind fun r2 =>
 (sNot r2.r).bind fun r3 =>
 guardX r3 true
 ((T 101 [(weak x0a), x1]).bind fun r4 =>
 (sNot r4.r).bind fun r5 =>
 guardX r5 true
 ((T 102 [(.agg [(weak x0a), (weak x0b), (weak x0c), (weak x0d), (weak x0e)]), x1]).bind fun r6 =>
 guardX r6.r true
 ((T 103 [(.agg [(weak x0a), (weak x0b), (weak x0c), (weak x0d), (weak x0e)]), x1]).bind fun r7 =>
 (sNot r7.r).bind fun r8 =>
 (asB r8).bind fun b9 =>
 some [b9])
 (some [false])
 (none))
 (some [false])
 (none))
 (some [false])
 (none))
 (some [false])
 (none)).bind fun vs10 =>
 some { r := (.bool (vs10.getD 0 false)) }
theorem r62 (T : TT) (k : Nat) (x0a x0b x0c x0d x0e x1 : SVal) : bodyE P H T k 62 [(.agg [x0a, x0b, x0c, x0d, x0e]), x1] = R62 T k x0a x0b x0c x0d x0e x1 := by kernel_rfl
theorem t62 (k : Nat) (x0a x0b x0c x0d x0e x1 : SVal) : T (k + 1) 62 [(.agg [x0a, x0b, x0c, x0d, x0e]), x1] = R62 (T k) k x0a x0b x0c x0d x0e x1 := (tb k 62 _ rfl).trans (r62 ..)
/-- limelight/limelightref06.Parent -/
def R63 (T : TT) (k : Nat) (x0 x1 : SVal) : Option Res :=
 loopN (fun s1 next1 =>
 (sLen s1.k0).bind fun r2 =>
 (sBin .lss s1.k2 r2).bind fun r3 =>
 pickC r3
 ((T 99 [(weak s1.k0), s1.k2]).bind fun r4 =>
 (T 27 [(weak r4.r), s1.k1]).bind fun r5 =>
 if isSc1 r5.r = true then
 pickC r5.r
 (some { r := s1.k2 })
 ((sBin .add s1.k2 (.int .i64 1)).bind fun r6 =>
 next1 ⟨[(weak s1.k0), s1.k1, r6], [], false⟩)
 else none)
 (some { r := (.int .i64 (-1)) })) k ⟨[(weak x0), x1, (.int .i64 0)], [], false⟩
theorem r63 (T : TT) (k : Nat) (x0 x1 : SVal) : bodyE P H T k 63 [x0, x1] = R63 T k x0 x1 := by kernel_rfl
theorem t63 (k : Nat) (x0 x1 : SVal) : T (k + 1) 63 [x0, x1] = R63 (T k) k x0 x1 := (tb k 63 _ rfl).trans (r63 ..)
/-- limelight/limelightref05.Is -/
def R64 (T : TT) (k : Nat) (x0 x1 : SVal) : Option Res :=
 ((sIdx true 7 x0 x1).bind fun e1 =>
 (sBin .eql (SVal.cell e1 0) (.int .i64 1)).bind fun r2 =>
 guardX r2 true
 ((sIdx true 7 x0 x1).bind fun e3 =>
 (sBin .eql (SVal.cell e3 1) (.int .i64 3)).bind fun r4 =>
 guardX r4 true
 ((T 104 [(weak x0), x1]).bind fun r5 =>
 (sIdx true 7 x0 r5.r).bind fun e6 =>
 (sBin .eql (SVal.cell e6 0) (.int .i64 3)).bind fun r7 =>
 (asB r7).bind fun b8 =>
 some [b8])
 (some [false])
 (none))
 (some [false])
 (none)).bind fun vs9 =>
 some { r := (.bool (vs9.getD 0 false)) }
theorem r64 (T : TT) (k : Nat) (x0 x1 : SVal) : bodyE P H T k 64 [x0, x1] = R64 T k x0 x1 := by kernel_rfl
theorem t64 (k : Nat) (x0 x1 : SVal) : T (k + 1) 64 [x0, x1] = R64 (T k) k x0 x1 := (tb k 64 _ rfl).trans (r64 ..)
/-- limelight/top.Check -/
def R65 (T : TT) (k : Nat) (x0a x0b x0c x0d x0e : SVal) : Option Res :=
 (T 105 [(weak x0a)]).bind fun r1 =>
 (sBin .neq r1.r (.int .i64 0)).bind fun r2 =>
 pickC r2
 (some { r := (.int .i64 1) })
 ((T 106 [(.agg [(weak x0a), (weak x0b), (weak x0c), (weak x0d), (weak x0e)])]).bind fun r3 =>
 (sNot r3.r).bind fun r4 =>
 pickC r4
 (some { r := (.int .i64 9) })
 (some { r := (.int .i64 0) }))
theorem r65 (T : TT) (k : Nat) (x0a x0b x0c x0d x0e : SVal) : bodyE P H T k 65 [(.agg [x0a, x0b, x0c, x0d, x0e])] = R65 T k x0a x0b x0c x0d x0e := by kernel_rfl
noncomputable def D65 (T : TT) (k : Nat) : List SVal → Option Res
  | [(.agg [x0a, x0b, x0c, x0d, x0e])] => R65 T k x0a x0b x0c x0d x0e
  | a => bodyE P H T k 65 a
theorem d65 (T : TT) (k : Nat) (a : List SVal) : D65 T k a = bodyE P H T k 65 a := by
  unfold D65
  split
  · exact (r65 ..).symm
  · rfl
theorem t65 (k : Nat) (x0a x0b x0c x0d x0e : SVal) : T (k + 1) 65 [(.agg [x0a, x0b, x0c, x0d, x0e])] = R65 (T k) k x0a x0b x0c x0d x0e := (tb k 65 _ rfl).trans (r65 ..)
/-- slices.Collect[int] -/
def R66 (T : TT) (k : Nat) (x0 : SVal) : Option Res :=
 (T 107 [(.sl 1 true false []), x0]).bind fun r1 =>
 some { r := (.sl 1 true false r1.r.xs) }
theorem r66 (T : TT) (k : Nat) (x0 : SVal) : bodyE P H T k 66 [x0] = R66 T k x0 := by kernel_rfl
noncomputable def D66 (T : TT) (k : Nat) : List SVal → Option Res
  | [x0] => R66 T k x0
  | a => bodyE P H T k 66 a
theorem d66 (T : TT) (k : Nat) (a : List SVal) : D66 T k a = bodyE P H T k 66 a := by
  unfold D66
  split
  · exact (r66 ..).symm
  · rfl
theorem t66 (k : Nat) (x0 : SVal) : T (k + 1) 66 [x0] = R66 (T k) k x0 := (tb k 66 _ rfl).trans (r66 ..)
/-- limelight/tabs.all -/
def R67 (T : TT) (k : Nat) (x0a x0b x0c x0d x0e : SVal) : Option Res :=
 some { r := (.fn 108 [(.rp [x0a, x0b, x0c, x0d, x0e])]) }
theorem r67 (T : TT) (k : Nat) (x0a x0b x0c x0d x0e : SVal) : bodyE P H T k 67 [(.agg [x0a, x0b, x0c, x0d, x0e])] = R67 T k x0a x0b x0c x0d x0e := by kernel_rfl
noncomputable def D67 (T : TT) (k : Nat) : List SVal → Option Res
  | [(.agg [x0a, x0b, x0c, x0d, x0e])] => R67 T k x0a x0b x0c x0d x0e
  | a => bodyE P H T k 67 a
theorem d67 (T : TT) (k : Nat) (a : List SVal) : D67 T k a = bodyE P H T k 67 a := by
  unfold D67
  split
  · exact (r67 ..).symm
  · rfl
theorem t67 (k : Nat) (x0a x0b x0c x0d x0e : SVal) : T (k + 1) 67 [(.agg [x0a, x0b, x0c, x0d, x0e])] = R67 (T k) k x0a x0b x0c x0d x0e := (tb k 67 _ rfl).trans (r67 ..)
/-- limelight/tabs.turned -/
def R68 (T : TT) (k : Nat) (x0 x1 : SVal) : Option Res :=
 (T 110 [(weak x0)]).bind fun r1 =>
 pickC x1
 ((T 111 [(.sl 1 true false r1.r.xs)]).bind fun r2 =>
 some { r := (.sl 1 false false ((r2.outs.headD .undef).xs)) })
 (some { r := (.sl 1 false false r1.r.xs) })
theorem r68 (T : TT) (k : Nat) (x0 x1 : SVal) : bodyE P H T k 68 [x0, x1] = R68 T k x0 x1 := by kernel_rfl
noncomputable def D68 (T : TT) (k : Nat) : List SVal → Option Res
  | [x0, x1] => R68 T k x0 x1
  | a => bodyE P H T k 68 a
theorem d68 (T : TT) (k : Nat) (a : List SVal) : D68 T k a = bodyE P H T k 68 a := by
  unfold D68
  split
  · exact (r68 ..).symm
  · rfl
theorem t68 (k : Nat) (x0 x1 : SVal) : T (k + 1) 68 [x0, x1] = R68 (T k) k x0 x1 := (tb k 68 _ rfl).trans (r68 ..)
/-- limelight/tabs.Next$1 -/
def R69 (T : TT) (k : Nat) (x0 : SVal) : Option Res :=
 some { r := (.bool true) }
theorem r69 (T : TT) (k : Nat) (x0 : SVal) : bodyE P H T k 69 [x0] = R69 T k x0 := by kernel_rfl
noncomputable def D69 (T : TT) (k : Nat) : List SVal → Option Res
  | [x0] => R69 T k x0
  | a => bodyE P H T k 69 a
theorem d69 (T : TT) (k : Nat) (a : List SVal) : D69 T k a = bodyE P H T k 69 a := by
  unfold D69
  split
  · exact (r69 ..).symm
  · rfl
theorem t69 (k : Nat) (x0 : SVal) : T (k + 1) 69 [x0] = R69 (T k) k x0 := (tb k 69 _ rfl).trans (r69 ..)
/-- slices.Contains[[]int,int] -/
def R70 (T : TT) (k : Nat) (x0 x1 : SVal) : Option Res :=
 (T 112 [(weak x0), x1]).bind fun r1 =>
 (sBin .geq r1.r (.int .i64 0)).bind fun r2 =>
 some { r := r2 }
theorem r70 (T : TT) (k : Nat) (x0 x1 : SVal) : bodyE P H T k 70 [x0, x1] = R70 T k x0 x1 := by kernel_rfl
noncomputable def D70 (T : TT) (k : Nat) : List SVal → Option Res
  | [x0, x1] => R70 T k x0 x1
  | a => bodyE P H T k 70 a
theorem d70 (T : TT) (k : Nat) (a : List SVal) : D70 T k a = bodyE P H T k 70 a := by
  unfold D70
  split
  · exact (r70 ..).symm
  · rfl
theorem t70 (k : Nat) (x0 x1 : SVal) : T (k + 1) 70 [x0, x1] = R70 (T k) k x0 x1 := (tb k 70 _ rfl).trans (r70 ..)
/-- limelight/tabs.first -/
def R71 (T : TT) (k : Nat) (x0 x1 : SVal) : Option Res :=
 (T 53 [(weak x0), x1]).bind fun r1 =>
 if isSc1 r1.r = true then
 (sBin .geq r1.r (.int .i64 0)).bind fun r2 =>
 pickC r2
 ((sIdx false 1 x0 r1.r).bind fun e3 =>
 some { r := e3 })
 (some { r := (.int .i64 0) })
 else none
theorem r71 (T : TT) (k : Nat) (x0 x1 : SVal) : bodyE P H T k 71 [x0, x1] = R71 T k x0 x1 := by kernel_rfl
noncomputable def D71 (T : TT) (k : Nat) : List SVal → Option Res
  | [x0, x1] => R71 T k x0 x1
  | a => bodyE P H T k 71 a
theorem d71 (T : TT) (k : Nat) (a : List SVal) : D71 T k a = bodyE P H T k 71 a := by
  unfold D71
  split
  · exact (r71 ..).symm
  · rfl
theorem t71 (k : Nat) (x0 x1 : SVal) : T (k + 1) 71 [x0, x1] = R71 (T k) k x0 x1 := (tb k 71 _ rfl).trans (r71 ..)
/-- limelight/tabs.behind -/
def R72 (T : TT) (k : Nat) (x0 x1 : SVal) : Option Res :=
 (T 112 [(weak x0), x1]).bind fun r1 =>
 (sBin .add r1.r (.int .i64 1)).bind fun r2 =>
 (sSlice 1 x0 (some r2) none).bind fun r3 =>
 some { r := (weak r3) }
theorem r72 (T : TT) (k : Nat) (x0 x1 : SVal) : bodyE P H T k 72 [x0, x1] = R72 T k x0 x1 := by kernel_rfl
noncomputable def D72 (T : TT) (k : Nat) : List SVal → Option Res
  | [x0, x1] => R72 T k x0 x1
  | a => bodyE P H T k 72 a
theorem d72 (T : TT) (k : Nat) (a : List SVal) : D72 T k a = bodyE P H T k 72 a := by
  unfold D72
  split
  · exact (r72 ..).symm
  · rfl
theorem t72 (k : Nat) (x0 x1 : SVal) : T (k + 1) 72 [x0, x1] = R72 (T k) k x0 x1 := (tb k 72 _ rfl).trans (r72 ..)
/-- limelight/tabs.Next$2 -/
def R73 (T : TT) (k : Nat) (x0 x1 : SVal) : Option Res :=
 (T 70 [(weak x1), x0]).bind fun r1 =>
 some { r := r1.r }
theorem r73 (T : TT) (k : Nat) (x0 x1 : SVal) : bodyE P H T k 73 [x0, (.rp [x1])] = R73 T k x0 x1 := by kernel_rfl
noncomputable def D73 (T : TT) (k : Nat) : List SVal → Option Res
  | [x0, (.rp [x1])] => R73 T k x0 x1
  | a => bodyE P H T k 73 a
theorem d73 (T : TT) (k : Nat) (a : List SVal) : D73 T k a = bodyE P H T k 73 a := by
  unfold D73
  split
  · exact (r73 ..).symm
  · rfl
theorem t73 (k : Nat) (x0 x1 : SVal) : T (k + 1) 73 [x0, (.rp [x1])] = R73 (T k) k x0 x1 := (tb k 73 _ rfl).trans (r73 ..)
/-- limelight/limelightref17.scope -/
def R74 (T : TT) (k : Nat) (x0a x0b x0c x0d x0e x1 : SVal) : Option Res :=
 (T 22 [(.agg [(weak x0a), (weak x0b), (weak x0c), (weak x0d), (weak x0e)]), x1]).bind fun r1 =>
 loopN (fun s2 next2 =>
 (sLen s2.k2).bind fun r3 =>
 (sBin .lss s2.k3 r3).bind fun r4 =>
 pickC r4
 ((sIdx false 1 s2.k2 s2.k3).bind fun e5 =>
 (T 29 [(.agg [(weak (SVal.cell s2.k0 0)), (weak (SVal.cell s2.k0 1)), (weak (SVal.cell s2.k0 2)), (weak (SVal.cell s2.k0 3)), (weak (SVal.cell s2.k0 4))]), e5]).bind fun r6 =>
 pickC r6.r
 (if (List.all [[.v e5]] allOne) = true then
 if (s2.k1.xs.length + ([e5] : List SVal).length) * 8 ≤ maxAppend then
 (T 31 [(.agg [(weak (SVal.cell s2.k0 0)), (weak (SVal.cell s2.k0 1)), (weak (SVal.cell s2.k0 2)), (weak (SVal.cell s2.k0 3)), (weak (SVal.cell s2.k0 4))]), e5]).bind fun r7 =>
 pickC r7.r
 ((T 74 [(.agg [(weak (SVal.cell s2.k0 0)), (weak (SVal.cell s2.k0 1)), (weak (SVal.cell s2.k0 2)), (weak (SVal.cell s2.k0 3)), (weak (SVal.cell s2.k0 4))]), e5]).bind fun r8 =>
 (elems 1 r8.r).bind fun ys9 =>
 if ((s2.k1.xs ++ ([e5] : List SVal)).length + ys9.length) * 8 ≤ maxAppend then
 loopN (fun s10 next10 =>
 (sLen (SVal.cell s10.k0 3)).bind fun r11 =>
 (sBin .lss s10.k5 r11).bind fun r12 =>
 pickC r12
 ((sIdx true 2 (SVal.cell s10.k0 3) s10.k5).bind fun e13 =>
 (T 25 [(.agg [(weak (SVal.cell s10.k0 0)), (weak (SVal.cell s10.k0 1)), (weak (SVal.cell s10.k0 2)), (weak (SVal.cell s10.k0 3)), (weak (SVal.cell s10.k0 4))]), (SVal.cell e13 0)]).bind fun r14 =>
 (sBin .eql r14.r s10.k4).bind fun r15 =>
 pickC r15
 ((T 29 [(.agg [(weak (SVal.cell s10.k0 0)), (weak (SVal.cell s10.k0 1)), (weak (SVal.cell s10.k0 2)), (weak (SVal.cell s10.k0 3)), (weak (SVal.cell s10.k0 4))]), (SVal.cell e13 0)]).bind fun r16 =>
 pickC r16.r
 (if (List.all [[.v (SVal.cell e13 0)]] allOne) = true then
 if (s10.k1.xs.length + ([(SVal.cell e13 0)] : List SVal).length) * 8 ≤ maxAppend then
 (T 74 [(.agg [(weak (SVal.cell s10.k0 0)), (weak (SVal.cell s10.k0 1)), (weak (SVal.cell s10.k0 2)), (weak (SVal.cell s10.k0 3)), (weak (SVal.cell s10.k0 4))]), (SVal.cell e13 0)]).bind fun r17 =>
 (elems 1 r17.r).bind fun ys18 =>
 if ((s10.k1.xs ++ ([(SVal.cell e13 0)] : List SVal)).length + ys18.length) * 8 ≤ maxAppend then
 (sBin .add s10.k5 (.int .i64 1)).bind fun r19 =>
 next10 ⟨[(.rp [(SVal.cell s10.k0 0), (SVal.cell s10.k0 1), (SVal.cell s10.k0 2), (SVal.cell s10.k0 3), (SVal.cell s10.k0 4)]), (.sl 1 true false ((s10.k1.xs ++ ([(SVal.cell e13 0)] : List SVal)) ++ ys18)), (weak s10.k2), s10.k3, s10.k4, r19], [], false⟩
 else none
 else none
 else none)
 ((T 74 [(.agg [(weak (SVal.cell s10.k0 0)), (weak (SVal.cell s10.k0 1)), (weak (SVal.cell s10.k0 2)), (weak (SVal.cell s10.k0 3)), (weak (SVal.cell s10.k0 4))]), (SVal.cell e13 0)]).bind fun r20 =>
 (elems 1 r20.r).bind fun ys21 =>
 if (s10.k1.xs.length + ys21.length) * 8 ≤ maxAppend then
 (sBin .add s10.k5 (.int .i64 1)).bind fun r22 =>
 next10 ⟨[(.rp [(SVal.cell s10.k0 0), (SVal.cell s10.k0 1), (SVal.cell s10.k0 2), (SVal.cell s10.k0 3), (SVal.cell s10.k0 4)]), (.sl 1 true false (s10.k1.xs ++ ys21)), (weak s10.k2), s10.k3, s10.k4, r22], [], false⟩
 else none))
 ((sBin .add s10.k5 (.int .i64 1)).bind fun r23 =>
 next10 ⟨[(.rp [(SVal.cell s10.k0 0), (SVal.cell s10.k0 1), (SVal.cell s10.k0 2), (SVal.cell s10.k0 3), (SVal.cell s10.k0 4)]), (.sl 1 true false s10.k1.xs), (weak s10.k2), s10.k3, s10.k4, r23], [], false⟩))
 ((sBin .add s10.k3 (.int .i64 1)).bind fun r24 =>
 next2 ⟨[(.rp [(SVal.cell s10.k0 0), (SVal.cell s10.k0 1), (SVal.cell s10.k0 2), (SVal.cell s10.k0 3), (SVal.cell s10.k0 4)]), (.sl 1 true false s10.k1.xs), (weak s10.k2), r24], [], false⟩)) k ⟨[(.rp [(SVal.cell s2.k0 0), (SVal.cell s2.k0 1), (SVal.cell s2.k0 2), (SVal.cell s2.k0 3), (SVal.cell s2.k0 4)]), (.sl 1 true false ((s2.k1.xs ++ ([e5] : List SVal)) ++ ys9)), (weak s2.k2), s2.k3, e5, (.int .i64 0)], [], false⟩
 else none)
 (loopN (fun s25 next25 =>
 (sLen (SVal.cell s25.k0 3)).bind fun r26 =>
 (sBin .lss s25.k5 r26).bind fun r27 =>
 pickC r27
 ((sIdx true 2 (SVal.cell s25.k0 3) s25.k5).bind fun e28 =>
 (T 25 [(.agg [(weak (SVal.cell s25.k0 0)), (weak (SVal.cell s25.k0 1)), (weak (SVal.cell s25.k0 2)), (weak (SVal.cell s25.k0 3)), (weak (SVal.cell s25.k0 4))]), (SVal.cell e28 0)]).bind fun r29 =>
 (sBin .eql r29.r s25.k4).bind fun r30 =>
 pickC r30
 ((T 29 [(.agg [(weak (SVal.cell s25.k0 0)), (weak (SVal.cell s25.k0 1)), (weak (SVal.cell s25.k0 2)), (weak (SVal.cell s25.k0 3)), (weak (SVal.cell s25.k0 4))]), (SVal.cell e28 0)]).bind fun r31 =>
 pickC r31.r
 (if (List.all [[.v (SVal.cell e28 0)]] allOne) = true then
 if (s25.k1.xs.length + ([(SVal.cell e28 0)] : List SVal).length) * 8 ≤ maxAppend then
 (T 74 [(.agg [(weak (SVal.cell s25.k0 0)), (weak (SVal.cell s25.k0 1)), (weak (SVal.cell s25.k0 2)), (weak (SVal.cell s25.k0 3)), (weak (SVal.cell s25.k0 4))]), (SVal.cell e28 0)]).bind fun r32 =>
 (elems 1 r32.r).bind fun ys33 =>
 if ((s25.k1.xs ++ ([(SVal.cell e28 0)] : List SVal)).length + ys33.length) * 8 ≤ maxAppend then
 (sBin .add s25.k5 (.int .i64 1)).bind fun r34 =>
 next25 ⟨[(.rp [(SVal.cell s25.k0 0), (SVal.cell s25.k0 1), (SVal.cell s25.k0 2), (SVal.cell s25.k0 3), (SVal.cell s25.k0 4)]), (.sl 1 true false ((s25.k1.xs ++ ([(SVal.cell e28 0)] : List SVal)) ++ ys33)), (weak s25.k2), s25.k3, s25.k4, r34], [], false⟩
 else none
 else none
 else none)
 ((T 74 [(.agg [(weak (SVal.cell s25.k0 0)), (weak (SVal.cell s25.k0 1)), (weak (SVal.cell s25.k0 2)), (weak (SVal.cell s25.k0 3)), (weak (SVal.cell s25.k0 4))]), (SVal.cell e28 0)]).bind fun r35 =>
 (elems 1 r35.r).bind fun ys36 =>
 if (s25.k1.xs.length + ys36.length) * 8 ≤ maxAppend then
 (sBin .add s25.k5 (.int .i64 1)).bind fun r37 =>
 next25 ⟨[(.rp [(SVal.cell s25.k0 0), (SVal.cell s25.k0 1), (SVal.cell s25.k0 2), (SVal.cell s25.k0 3), (SVal.cell s25.k0 4)]), (.sl 1 true false (s25.k1.xs ++ ys36)), (weak s25.k2), s25.k3, s25.k4, r37], [], false⟩
 else none))
 ((sBin .add s25.k5 (.int .i64 1)).bind fun r38 =>
 next25 ⟨[(.rp [(SVal.cell s25.k0 0), (SVal.cell s25.k0 1), (SVal.cell s25.k0 2), (SVal.cell s25.k0 3), (SVal.cell s25.k0 4)]), (.sl 1 true false s25.k1.xs), (weak s25.k2), s25.k3, s25.k4, r38], [], false⟩))
 ((sBin .add s25.k3 (.int .i64 1)).bind fun r39 =>
 next2 ⟨[(.rp [(SVal.cell s25.k0 0), (SVal.cell s25.k0 1), (SVal.cell s25.k0 2), (SVal.cell s25.k0 3), (SVal.cell s25.k0 4)]), (.sl 1 true false s25.k1.xs), (weak s25.k2), r39], [], false⟩)) k ⟨[(.rp [(SVal.cell s2.k0 0), (SVal.cell s2.k0 1), (SVal.cell s2.k0 2), (SVal.cell s2.k0 3), (SVal.cell s2.k0 4)]), (.sl 1 true false (s2.k1.xs ++ ([e5] : List SVal))), (weak s2.k2), s2.k3, e5, (.int .i64 0)], [], false⟩)
 else none
 else none)
 ((T 31 [(.agg [(weak (SVal.cell s2.k0 0)), (weak (SVal.cell s2.k0 1)), (weak (SVal.cell s2.k0 2)), (weak (SVal.cell s2.k0 3)), (weak (SVal.cell s2.k0 4))]), e5]).bind fun r40 =>
 pickC r40.r
 ((T 74 [(.agg [(weak (SVal.cell s2.k0 0)), (weak (SVal.cell s2.k0 1)), (weak (SVal.cell s2.k0 2)), (weak (SVal.cell s2.k0 3)), (weak (SVal.cell s2.k0 4))]), e5]).bind fun r41 =>
 (elems 1 r41.r).bind fun ys42 =>
 if (s2.k1.xs.length + ys42.length) * 8 ≤ maxAppend then
 loopN (fun s43 next43 =>
 (sLen (SVal.cell s43.k0 3)).bind fun r44 =>
 (sBin .lss s43.k5 r44).bind fun r45 =>
 pickC r45
 ((sIdx true 2 (SVal.cell s43.k0 3) s43.k5).bind fun e46 =>
 (T 25 [(.agg [(weak (SVal.cell s43.k0 0)), (weak (SVal.cell s43.k0 1)), (weak (SVal.cell s43.k0 2)), (weak (SVal.cell s43.k0 3)), (weak (SVal.cell s43.k0 4))]), (SVal.cell e46 0)]).bind fun r47 =>
 (sBin .eql r47.r s43.k4).bind fun r48 =>
 pickC r48
 ((T 29 [(.agg [(weak (SVal.cell s43.k0 0)), (weak (SVal.cell s43.k0 1)), (weak (SVal.cell s43.k0 2)), (weak (SVal.cell s43.k0 3)), (weak (SVal.cell s43.k0 4))]), (SVal.cell e46 0)]).bind fun r49 =>
 pickC r49.r
 (if (List.all [[.v (SVal.cell e46 0)]] allOne) = true then
 if (s43.k1.xs.length + ([(SVal.cell e46 0)] : List SVal).length) * 8 ≤ maxAppend then
 (T 74 [(.agg [(weak (SVal.cell s43.k0 0)), (weak (SVal.cell s43.k0 1)), (weak (SVal.cell s43.k0 2)), (weak (SVal.cell s43.k0 3)), (weak (SVal.cell s43.k0 4))]), (SVal.cell e46 0)]).bind fun r50 =>
 (elems 1 r50.r).bind fun ys51 =>
 if ((s43.k1.xs ++ ([(SVal.cell e46 0)] : List SVal)).length + ys51.length) * 8 ≤ maxAppend then
 (sBin .add s43.k5 (.int .i64 1)).bind fun r52 =>
 next43 ⟨[(.rp [(SVal.cell s43.k0 0), (SVal.cell s43.k0 1), (SVal.cell s43.k0 2), (SVal.cell s43.k0 3), (SVal.cell s43.k0 4)]), (.sl 1 true false ((s43.k1.xs ++ ([(SVal.cell e46 0)] : List SVal)) ++ ys51)), (weak s43.k2), s43.k3, s43.k4, r52], [], false⟩
 else none
 else none
 else none)
 ((T 74 [(.agg [(weak (SVal.cell s43.k0 0)), (weak (SVal.cell s43.k0 1)), (weak (SVal.cell s43.k0 2)), (weak (SVal.cell s43.k0 3)), (weak (SVal.cell s43.k0 4))]), (SVal.cell e46 0)]).bind fun r53 =>
 (elems 1 r53.r).bind fun ys54 =>
 if (s43.k1.xs.length + ys54.length) * 8 ≤ maxAppend then
 (sBin .add s43.k5 (.int .i64 1)).bind fun r55 =>
 next43 ⟨[(.rp [(SVal.cell s43.k0 0), (SVal.cell s43.k0 1), (SVal.cell s43.k0 2), (SVal.cell s43.k0 3), (SVal.cell s43.k0 4)]), (.sl 1 true false (s43.k1.xs ++ ys54)), (weak s43.k2), s43.k3, s43.k4, r55], [], false⟩
 else none))
 ((sBin .add s43.k5 (.int .i64 1)).bind fun r56 =>
 next43 ⟨[(.rp [(SVal.cell s43.k0 0), (SVal.cell s43.k0 1), (SVal.cell s43.k0 2), (SVal.cell s43.k0 3), (SVal.cell s43.k0 4)]), (.sl 1 true false s43.k1.xs), (weak s43.k2), s43.k3, s43.k4, r56], [], false⟩))
 ((sBin .add s43.k3 (.int .i64 1)).bind fun r57 =>
 next2 ⟨[(.rp [(SVal.cell s43.k0 0), (SVal.cell s43.k0 1), (SVal.cell s43.k0 2), (SVal.cell s43.k0 3), (SVal.cell s43.k0 4)]), (.sl 1 true false s43.k1.xs), (weak s43.k2), r57], [], false⟩)) k ⟨[(.rp [(SVal.cell s2.k0 0), (SVal.cell s2.k0 1), (SVal.cell s2.k0 2), (SVal.cell s2.k0 3), (SVal.cell s2.k0 4)]), (.sl 1 true false (s2.k1.xs ++ ys42)), (weak s2.k2), s2.k3, e5, (.int .i64 0)], [], false⟩
 else none)
 (loopN (fun s58 next58 =>
 (sLen (SVal.cell s58.k0 3)).bind fun r59 =>
 (sBin .lss s58.k5 r59).bind fun r60 =>
 pickC r60
 ((sIdx true 2 (SVal.cell s58.k0 3) s58.k5).bind fun e61 =>
 (T 25 [(.agg [(weak (SVal.cell s58.k0 0)), (weak (SVal.cell s58.k0 1)), (weak (SVal.cell s58.k0 2)), (weak (SVal.cell s58.k0 3)), (weak (SVal.cell s58.k0 4))]), (SVal.cell e61 0)]).bind fun r62 =>
 (sBin .eql r62.r s58.k4).bind fun r63 =>
 pickC r63
 ((T 29 [(.agg [(weak (SVal.cell s58.k0 0)), (weak (SVal.cell s58.k0 1)), (weak (SVal.cell s58.k0 2)), (weak (SVal.cell s58.k0 3)), (weak (SVal.cell s58.k0 4))]), (SVal.cell e61 0)]).bind fun r64 =>
 pickC r64.r
 (if (List.all [[.v (SVal.cell e61 0)]] allOne) = true then
 if (s58.k1.xs.length + ([(SVal.cell e61 0)] : List SVal).length) * 8 ≤ maxAppend then
 (T 74 [(.agg [(weak (SVal.cell s58.k0 0)), (weak (SVal.cell s58.k0 1)), (weak (SVal.cell s58.k0 2)), (weak (SVal.cell s58.k0 3)), (weak (SVal.cell s58.k0 4))]), (SVal.cell e61 0)]).bind fun r65 =>
 (elems 1 r65.r).bind fun ys66 =>
 if ((s58.k1.xs ++ ([(SVal.cell e61 0)] : List SVal)).length + ys66.length) * 8 ≤ maxAppend then
 (sBin .add s58.k5 (.int .i64 1)).bind fun r67 =>
 next58 ⟨[(.rp [(SVal.cell s58.k0 0), (SVal.cell s58.k0 1), (SVal.cell s58.k0 2), (SVal.cell s58.k0 3), (SVal.cell s58.k0 4)]), (.sl 1 true false ((s58.k1.xs ++ ([(SVal.cell e61 0)] : List SVal)) ++ ys66)), (weak s58.k2), s58.k3, s58.k4, r67], [], false⟩
 else none
 else none
 else none)
 ((T 74 [(.agg [(weak (SVal.cell s58.k0 0)), (weak (SVal.cell s58.k0 1)), (weak (SVal.cell s58.k0 2)), (weak (SVal.cell s58.k0 3)), (weak (SVal.cell s58.k0 4))]), (SVal.cell e61 0)]).bind fun r68 =>
 (elems 1 r68.r).bind fun ys69 =>
 if (s58.k1.xs.length + ys69.length) * 8 ≤ maxAppend then
 (sBin .add s58.k5 (.int .i64 1)).bind fun r70 =>
 next58 ⟨[(.rp [(SVal.cell s58.k0 0), (SVal.cell s58.k0 1), (SVal.cell s58.k0 2), (SVal.cell s58.k0 3), (SVal.cell s58.k0 4)]), (.sl 1 true false (s58.k1.xs ++ ys69)), (weak s58.k2), s58.k3, s58.k4, r70], [], false⟩
 else none))
 ((sBin .add s58.k5 (.int .i64 1)).bind fun r71 =>
 next58 ⟨[(.rp [(SVal.cell s58.k0 0), (SVal.cell s58.k0 1), (SVal.cell s58.k0 2), (SVal.cell s58.k0 3), (SVal.cell s58.k0 4)]), (.sl 1 true false s58.k1.xs), (weak s58.k2), s58.k3, s58.k4, r71], [], false⟩))
 ((sBin .add s58.k3 (.int .i64 1)).bind fun r72 =>
 next2 ⟨[(.rp [(SVal.cell s58.k0 0), (SVal.cell s58.k0 1), (SVal.cell s58.k0 2), (SVal.cell s58.k0 3), (SVal.cell s58.k0 4)]), (.sl 1 true false s58.k1.xs), (weak s58.k2), r72], [], false⟩)) k ⟨[(.rp [(SVal.cell s2.k0 0), (SVal.cell s2.k0 1), (SVal.cell s2.k0 2), (SVal.cell s2.k0 3), (SVal.cell s2.k0 4)]), (.sl 1 true false s2.k1.xs), (weak s2.k2), s2.k3, e5, (.int .i64 0)], [], false⟩)))
 (some { r := (.sl 1 false false s2.k1.xs) })) k ⟨[(.rp [x0a, x0b, x0c, x0d, x0e]), (.sl 1 true false []), (weak r1.r), (.int .i64 0)], [], false⟩
theorem r74 (T : TT) (k : Nat) (x0a x0b x0c x0d x0e x1 : SVal) : bodyE P H T k 74 [(.agg [x0a, x0b, x0c, x0d, x0e]), x1] = R74 T k x0a x0b x0c x0d x0e x1 := by kernel_rfl
theorem t74 (k : Nat) (x0a x0b x0c x0d x0e x1 : SVal) : T (k + 1) 74 [(.agg [x0a, x0b, x0c, x0d, x0e]), x1] = R74 (T k) k x0a x0b x0c x0d x0e x1 := (tb k 74 _ rfl).trans (r74 ..)
/-- slices.ContainsFunc[[]limelight/scopes.kind,limelight/scopes.kind] -/
def R75 (T : TT) (k : Nat) (x0 x1 : SVal) : Option Res :=
 (T 113 [(weak x0), x1]).bind fun r1 =>
 (sBin .geq r1.r (.int .i64 0)).bind fun r2 =>
 some { r := r2 }
theorem r75 (T : TT) (k : Nat) (x0 x1 : SVal) : bodyE P H T k 75 [x0, x1] = R75 T k x0 x1 := by kernel_rfl
noncomputable def D75 (T : TT) (k : Nat) : List SVal → Option Res
  | [x0, x1] => R75 T k x0 x1
  | a => bodyE P H T k 75 a
theorem d75 (T : TT) (k : Nat) (a : List SVal) : D75 T k a = bodyE P H T k 75 a := by
  unfold D75
  split
  · exact (r75 ..).symm
  · rfl
theorem t75 (k : Nat) (x0 x1 : SVal) : T (k + 1) 75 [x0, x1] = R75 (T k) k x0 x1 := (tb k 75 _ rfl).trans (r75 ..)
/-- limelight/scopes.kinds -/
def R76 (T : TT) (k : Nat) : Option Res :=
 some { r := (.sl 1 false false [(.agg [(.fn 114 [])]), (.agg [(.fn 115 [])]), (.agg [(.fn 116 [])]), (.agg [(.fn 118 [])])]) }
theorem r76 (T : TT) (k : Nat) : bodyE P H T k 76 [] = R76 T k  := by kernel_rfl
noncomputable def D76 (T : TT) (k : Nat) : List SVal → Option Res
  | [] => R76 T k 
  | a => bodyE P H T k 76 a
theorem d76 (T : TT) (k : Nat) (a : List SVal) : D76 T k a = bodyE P H T k 76 a := by
  unfold D76
  split
  · exact (r76 ..).symm
  · rfl
theorem t76 (k : Nat) : T (k + 1) 76 [] = R76 (T k) k  := (tb k 76 _ rfl).trans (r76 ..)
/-- limelight/scopes.owns$1 -/
def R77 (T : TT) (k : Nat) (x0 x1a x1b x1c x1d x1e x2 : SVal) : Option Res :=
 (callV H T x0 [(.agg [x1a, x1b, x1c, x1d, x1e]), x2]).bind fun y1 =>
 some { r := y1 }
theorem r77 (T : TT) (k : Nat) (x0 x1a x1b x1c x1d x1e x2 : SVal) : bodyE P H T k 77 [(.agg [x0]), (.rp [x1a, x1b, x1c, x1d, x1e]), (.rp [x2])] = R77 T k x0 x1a x1b x1c x1d x1e x2 := by kernel_rfl
noncomputable def D77 (T : TT) (k : Nat) : List SVal → Option Res
  | [(.agg [x0]), (.rp [x1a, x1b, x1c, x1d, x1e]), (.rp [x2])] => R77 T k x0 x1a x1b x1c x1d x1e x2
  | a => bodyE P H T k 77 a
theorem d77 (T : TT) (k : Nat) (a : List SVal) : D77 T k a = bodyE P H T k 77 a := by
  unfold D77
  split
  · exact (r77 ..).symm
  · rfl
theorem t77 (k : Nat) (x0 x1a x1b x1c x1d x1e x2 : SVal) : T (k + 1) 77 [(.agg [x0]), (.rp [x1a, x1b, x1c, x1d, x1e]), (.rp [x2])] = R77 (T k) k x0 x1a x1b x1c x1d x1e x2 := (tb k 77 _ rfl).trans (r77 ..)
/-- limelight/flat.is -/
def R78 (T : TT) (k : Nat) (x0 x1 : SVal) : Option Res :=
 (T 119 [(weak x0), x1]).bind fun r1 =>
 (sBin .neq r1.r (.int .i64 (-1))).bind fun r2 =>
 some { r := r2 }
theorem r78 (T : TT) (k : Nat) (x0 x1 : SVal) : bodyE P H T k 78 [x0, x1] = R78 T k x0 x1 := by kernel_rfl
noncomputable def D78 (T : TT) (k : Nat) : List SVal → Option Res
  | [x0, x1] => R78 T k x0 x1
  | a => bodyE P H T k 78 a
theorem d78 (T : TT) (k : Nat) (a : List SVal) : D78 T k a = bodyE P H T k 78 a := by
  unfold D78
  split
  · exact (r78 ..).symm
  · rfl
theorem t78 (k : Nat) (x0 x1 : SVal) : T (k + 1) 78 [x0, x1] = R78 (T k) k x0 x1 := (tb k 78 _ rfl).trans (r78 ..)
/-- slices.Backward[[]int,int] -/
def R79 (T : TT) (k : Nat) (x0 : SVal) : Option Res :=
 if (oneS x0) = true then
 some { r := (.fn 120 [(.rp [x0])]) }
 else none
theorem r79 (T : TT) (k : Nat) (x0 : SVal) : bodyE P H T k 79 [x0] = R79 T k x0 := by kernel_rfl
noncomputable def D79 (T : TT) (k : Nat) : List SVal → Option Res
  | [x0] => R79 T k x0
  | a => bodyE P H T k 79 a
theorem d79 (T : TT) (k : Nat) (a : List SVal) : D79 T k a = bodyE P H T k 79 a := by
  unfold D79
  split
  · exact (r79 ..).symm
  · rfl
theorem t79 (k : Nat) (x0 : SVal) : T (k + 1) 79 [x0] = R79 (T k) k x0 := (tb k 79 _ rfl).trans (r79 ..)
/-- limelight/flat.kids -/
def R80 (T : TT) (k : Nat) (x0 x1 : SVal) : Option Res :=
 (sIdx true 7 x0 x1).bind fun e1 =>
 if (allOne [.v (SVal.cell e1 0), .v (SVal.cell e1 1), .v (SVal.cell e1 2), .v (SVal.cell e1 3), .v (SVal.cell e1 4), .v (SVal.cell e1 5), .v (SVal.cell e1 6)]) = true then
 (sBin .eql (SVal.cell e1 0) (.int .i64 3)).bind fun r2 =>
 pickC r2
 (some { r := (.sl 1 false false []) })
 ((sBin .neq (SVal.cell e1 5) (.int .i64 (-1))).bind fun r3 =>
 pickC r3
 ((sIdx true 7 x0 (SVal.cell e1 5)).bind fun e4 =>
 some { r := (weak (SVal.cell e4 3)) })
 ((T 121 [(weak x0), x1]).bind fun r5 =>
 (sLen r5.r).bind fun r6 =>
 (sBin .gtr r6 (.int .i64 0)).bind fun r7 =>
 pickC r7
 (some { r := (weak r5.r) })
 (some { r := (weak (SVal.cell e1 3)) })))
 else none
theorem r80 (T : TT) (k : Nat) (x0 x1 : SVal) : bodyE P H T k 80 [x0, x1] = R80 T k x0 x1 := by kernel_rfl
noncomputable def D80 (T : TT) (k : Nat) : List SVal → Option Res
  | [x0, x1] => R80 T k x0 x1
  | a => bodyE P H T k 80 a
theorem d80 (T : TT) (k : Nat) (a : List SVal) : D80 T k a = bodyE P H T k 80 a := by
  unfold D80
  split
  · exact (r80 ..).symm
  · rfl
theorem t80 (k : Nat) (x0 x1 : SVal) : T (k + 1) 80 [x0, x1] = R80 (T k) k x0 x1 := (tb k 80 _ rfl).trans (r80 ..)
/-- limelight/area.Index -/
def R81 (T : TT) (k : Nat) (x0 x1 : SVal) : Option Res :=
 (T 122 [(weak x0), x1]).bind fun r1 =>
 if (allOne [.v r1.r.c0.c0, .v r1.r.c0.c1, .v r1.r.c0.c2, .v r1.r.c0.c3, .v r1.r.c0.c4, .v r1.r.c0.c5]) = true then
 (sNot r1.r.c1).bind fun r2 =>
 pickC r2
 (some { r := (.tup [(.int .i64 0), (.bool false)]) })
 ((T 123 [(.agg [(weak r1.r.c0.c0), (weak r1.r.c0.c1), (weak r1.r.c0.c2), (weak r1.r.c0.c3), (weak r1.r.c0.c4), r1.r.c0.c5])]).bind fun r3 =>
 some { r := (.tup [r3.r.c0, r3.r.c1]) })
 else none
theorem r81 (T : TT) (k : Nat) (x0 x1 : SVal) : bodyE P H T k 81 [x0, x1] = R81 T k x0 x1 := by kernel_rfl
noncomputable def D81 (T : TT) (k : Nat) : List SVal → Option Res
  | [x0, x1] => R81 T k x0 x1
  | a => bodyE P H T k 81 a
theorem d81 (T : TT) (k : Nat) (a : List SVal) : D81 T k a = bodyE P H T k 81 a := by
  unfold D81
  split
  · exact (r81 ..).symm
  · rfl
theorem t81 (k : Nat) (x0 x1 : SVal) : T (k + 1) 81 [x0, x1] = R81 (T k) k x0 x1 := (tb k 81 _ rfl).trans (r81 ..)
end Go.Proofs.YtjcnilaogidhlaaGreat.K
