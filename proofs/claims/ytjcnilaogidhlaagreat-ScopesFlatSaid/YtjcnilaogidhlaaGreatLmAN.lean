/- What the evaluator makes of the functions, by program (wip/tr/resid.py); each equation is checked by the kernel. -/
import Derived.Test.YtjcnilaogidhlaaGreatLmAJ
import Derived.Test.YtjcnilaogidhlaaGreatLmAB
import Derived.KernelRfl
set_option linter.unusedVariables false
set_option linter.unusedSimpArgs false
set_option linter.unnecessarySimpa false
set_option linter.all false
set_option maxRecDepth 100000
namespace Go.Proofs.YtjcnilaogidhlaaGreat.K
open Go Go.Lm
/-- limelight/limelightref12.Is -/
def R103 (T : TT) (k : Nat) (x0a x0b x0c x0d x0e x1 : SVal) : Option Res :=
 (T 139 [(.agg [(weak x0a), (weak x0b), (weak x0c), (weak x0d), (weak x0e)]), x1]).bind fun r1 =>
 pickC r1.r
 (some { r := (.bool true) })
 ((T 30 [(weak x0a), x1]).bind fun r2 =>
 (sLen r2.r).bind fun r3 =>
 (T 40 [(.agg [(weak x0a), (weak x0b), (weak x0c), (weak x0d), (weak x0e)])]).bind fun r4 =>
 (T 28 [(weak r2.r), r4.r]).bind fun r5 =>
 (sBin .geq r5.r (.int .i64 0)).bind fun r6 =>
 pickC r6
 ((sBin .add r5.r (.int .i64 1)).bind fun r7 =>
 loopN (fun s8 next8 =>
 (sBin .lss s8.k3 s8.k2).bind fun r9 =>
 pickC r9
 ((sIdx false 1 s8.k1 s8.k3).bind fun e10 =>
 (T 131 [(weak (SVal.cell s8.k0 0)), e10, (.int .i64 3)]).bind fun r11 =>
 pickC r11.r
 (some { r := (.bool true) })
 ((sBin .add s8.k3 (.int .i64 1)).bind fun r12 =>
 next8 ⟨[(.rp [(SVal.cell s8.k0 0), (SVal.cell s8.k0 1), (SVal.cell s8.k0 2), (SVal.cell s8.k0 3), (SVal.cell s8.k0 4)]), (weak s8.k1), s8.k2, r12], [], false⟩))
 (some { r := (.bool false) })) k ⟨[(.rp [x0a, x0b, x0c, x0d, x0e]), (weak r2.r), r7, (.int .i64 0)], [], false⟩)
 (loopN (fun s13 next13 =>
 (sBin .lss s13.k3 s13.k2).bind fun r14 =>
 pickC r14
 ((sIdx false 1 s13.k1 s13.k3).bind fun e15 =>
 (T 131 [(weak (SVal.cell s13.k0 0)), e15, (.int .i64 3)]).bind fun r16 =>
 pickC r16.r
 (some { r := (.bool true) })
 ((sBin .add s13.k3 (.int .i64 1)).bind fun r17 =>
 next13 ⟨[(.rp [(SVal.cell s13.k0 0), (SVal.cell s13.k0 1), (SVal.cell s13.k0 2), (SVal.cell s13.k0 3), (SVal.cell s13.k0 4)]), (weak s13.k1), s13.k2, r17], [], false⟩))
 (some { r := (.bool false) })) k ⟨[(.rp [x0a, x0b, x0c, x0d, x0e]), (weak r2.r), r3, (.int .i64 0)], [], false⟩))
theorem r103 (T : TT) (k : Nat) (x0a x0b x0c x0d x0e x1 : SVal) : bodyE P H T k 103 [(.agg [x0a, x0b, x0c, x0d, x0e]), x1] = R103 T k x0a x0b x0c x0d x0e x1 := by kernel_rfl
theorem t103 (k : Nat) (x0a x0b x0c x0d x0e x1 : SVal) : T (k + 1) 103 [(.agg [x0a, x0b, x0c, x0d, x0e]), x1] = R103 (T k) k x0a x0b x0c x0d x0e x1 := (tb k 103 _ rfl).trans (r103 ..)
/-- limelight/limelightref03.Top -/
def R104 (T : TT) (k : Nat) (x0 x1 : SVal) : Option Res :=
 (T 140 [(weak x0), x1]).bind fun r1 =>
 (sLen r1.r).bind fun r2 =>
 (sBin .sub r2 (.int .i64 1)).bind fun r3 =>
 (sIdx false 1 r1.r r3).bind fun e4 =>
 some { r := e4 }
theorem r104 (T : TT) (k : Nat) (x0 x1 : SVal) : bodyE P H T k 104 [x0, x1] = R104 T k x0 x1 := by kernel_rfl
theorem t104 (k : Nat) (x0 x1 : SVal) : T (k + 1) 104 [x0, x1] = R104 (T k) k x0 x1 := (tb k 104 _ rfl).trans (r104 ..)
/-- limelight/tree.Check -/
def R105 (T : TT) (k : Nat) (x0 : SVal) : Option Res :=
 (T 141 [(weak x0)]).bind fun r1 =>
 (sNot r1.r).bind fun r2 =>
 pickC r2
 (some { r := (.int .i64 1) })
 (some { r := (.int .i64 0) })
theorem r105 (T : TT) (k : Nat) (x0 : SVal) : bodyE P H T k 105 [x0] = R105 T k x0 := by kernel_rfl
noncomputable def D105 (T : TT) (k : Nat) : List SVal → Option Res
  | [x0] => R105 T k x0
  | a => bodyE P H T k 105 a
theorem d105 (T : TT) (k : Nat) (a : List SVal) : D105 T k a = bodyE P H T k 105 a := by
  unfold D105
  split
  · exact (r105 ..).symm
  · rfl
theorem t105 (k : Nat) (x0 : SVal) : T (k + 1) 105 [x0] = R105 (T k) k x0 := (tb k 105 _ rfl).trans (r105 ..)
/-- limelight/top.may -/
def R106 (T : TT) (k : Nat) (x0a x0b x0c x0d x0e : SVal) : Option Res :=
 if (oneS x0a) = true then
 if (List.all [[.v x0b], [.v x0c]] allOne) = true then
 (T 143 [(.sl 1 false false [x0b, x0c])]).bind fun r1 =>
 (T 142 [(weak r1.r), (.fn 144 [(.rp [x0a])])]).bind fun r2 =>
 (T 146 [(weak x0d), (.fn 147 [(.rp [x0a])])]).bind fun r3 =>
 (T 150 [(.agg [(weak x0a), (weak x0b), (weak x0c), (weak x0d), (weak x0e)])]).bind fun r4 =>
 (T 152 [(weak r4.r)]).bind fun r5 =>
 (T 151 [r5.r]).bind fun r6 =>
 ((sLen r2.r.c1).bind fun r7 =>
 (sBin .eql r7 (.int .i64 0)).bind fun r8 =>
 guardX r8 true
 ((sLen r3.r.c1).bind fun r9 =>
 (sBin .eql r9 (.int .i64 0)).bind fun r10 =>
 guardX r10 true
 (if (List.all [[.v x0b], [.v r4.r]] allOne) = true then
 (T 143 [(.sl 1 false false [x0b, r4.r])]).bind fun r11 =>
 (T 153 [(weak r11.r)]).bind fun r12 =>
 guardX r12.r true
 ((T 152 [(weak x0e)]).bind fun r13 =>
 (T 151 [r13.r]).bind fun r14 =>
 (T 154 [(weak r6.r), (weak r14.r)]).bind fun r15 =>
 (asB r15.r).bind fun b16 =>
 some [b16])
 (some [false])
 (none)
 else none)
 (some [false])
 (none))
 (some [false])
 (none)).bind fun vs17 =>
 some { r := (.bool (vs17.getD 0 false)) }
 else none
 else none
theorem r106 (T : TT) (k : Nat) (x0a x0b x0c x0d x0e : SVal) : bodyE P H T k 106 [(.agg [x0a, x0b, x0c, x0d, x0e])] = R106 T k x0a x0b x0c x0d x0e := by kernel_rfl
noncomputable def D106 (T : TT) (k : Nat) : List SVal → Option Res
  | [(.agg [x0a, x0b, x0c, x0d, x0e])] => R106 T k x0a x0b x0c x0d x0e
  | a => bodyE P H T k 106 a
theorem d106 (T : TT) (k : Nat) (a : List SVal) : D106 T k a = bodyE P H T k 106 a := by
  unfold D106
  split
  · exact (r106 ..).symm
  · rfl
theorem t106 (k : Nat) (x0a x0b x0c x0d x0e : SVal) : T (k + 1) 106 [(.agg [x0a, x0b, x0c, x0d, x0e])] = R106 (T k) k x0a x0b x0c x0d x0e := (tb k 106 _ rfl).trans (r106 ..)
/-- slices.AppendSeq[[]int,int] -/
def R107 (T : TT) (k : Nat) (x0 : List SVal) (x1 : SVal) : Option Res :=
 (callIt T x1).bind fun ys1 =>
 rangeN (fun s2 y2 next2 =>
 (notTup y2).bind fun z3 =>
 if (List.all [[.v z3]] allOne) = true then
 if (s2.k0.c0.xs.length + ([z3] : List SVal).length) * 8 ≤ maxAppend then
 next2 ⟨[(.mb [(.sl 1 true false (s2.k0.c0.xs ++ ([z3] : List SVal)))])], [], false⟩
 else none
 else none) (fun s4 =>
 some { r := (.sl 1 true false s4.k0.c0.xs) }) ys1 ⟨[(.mb [(.sl 1 true false x0)])], [], false⟩
theorem r107 (T : TT) (k : Nat) (x0 : List SVal) (x1 : SVal) : bodyE P H T k 107 [(.sl 1 true false x0), x1] = R107 T k x0 x1 := by kernel_rfl
noncomputable def D107 (T : TT) (k : Nat) : List SVal → Option Res
  | [(.sl 1 true false x0), x1] => R107 T k x0 x1
  | a => bodyE P H T k 107 a
theorem d107 (T : TT) (k : Nat) (a : List SVal) : D107 T k a = bodyE P H T k 107 a := by
  unfold D107
  split
  · exact (r107 ..).symm
  · rfl
theorem t107 (k : Nat) (x0 : List SVal) (x1 : SVal) : T (k + 1) 107 [(.sl 1 true false x0), x1] = R107 (T k) k x0 x1 := (tb k 107 _ rfl).trans (r107 ..)
/-- limelight/tabs.all$1 -/
def R108 (T : TT) (k : Nat) (x1a x1b x1c x1d x1e : SVal) : Option Res :=
 (T 109 [(.agg [(weak x1a), (weak x1b), (weak x1c), (weak x1d), (weak x1e)]), (.int .i64 0), .yld]).bind fun r1 =>
 both
 (some { r := (.tup []), out := ([] ++ r1.out) })
 (some { r := (.tup []) })
theorem r108 (T : TT) (k : Nat) (x1a x1b x1c x1d x1e : SVal) : bodyE P H T k 108 [.yld, (.rp [x1a, x1b, x1c, x1d, x1e])] = R108 T k x1a x1b x1c x1d x1e := by kernel_rfl
noncomputable def D108 (T : TT) (k : Nat) : List SVal → Option Res
  | [.yld, (.rp [x1a, x1b, x1c, x1d, x1e])] => R108 T k x1a x1b x1c x1d x1e
  | a => bodyE P H T k 108 a
theorem d108 (T : TT) (k : Nat) (a : List SVal) : D108 T k a = bodyE P H T k 108 a := by
  unfold D108
  split
  · exact (r108 ..).symm
  · rfl
theorem t108 (k : Nat) (x1a x1b x1c x1d x1e : SVal) : T (k + 1) 108 [.yld, (.rp [x1a, x1b, x1c, x1d, x1e])] = R108 (T k) k x1a x1b x1c x1d x1e := (tb k 108 _ rfl).trans (r108 ..)
/-- limelight/tabs.scope -/
def R109 (T : TT) (k : Nat) (x0a x0b x0c x0d x0e x1 : SVal) : Option Res :=
 (T 15 [(.agg [(weak x0a), (weak x0b), (weak x0c), (weak x0d), (weak x0e)]), x1]).bind fun r1 =>
 (sLen r1.r).bind fun r2 =>
 loopN (fun s3 next3 =>
 (sBin .lss s3.k4 s3.k3).bind fun r4 =>
 pickC r4
 ((sIdx false 1 s3.k2 s3.k4).bind fun e5 =>
 if (s3.stop) = true then none else
 (T 155 [(.agg [(weak (SVal.cell s3.k1 0)), (weak (SVal.cell s3.k1 1)), (weak (SVal.cell s3.k1 2)), (weak (SVal.cell s3.k1 3)), (weak (SVal.cell s3.k1 4))]), e5, .yld]).bind fun r6 =>
 both
 ((sNot r6.r).bind fun r7 =>
 pickC r7
 (if (s3.stop) = true then
 some { r := (.bool false) }
 else
 some { r := (.bool false), out := (s3.out ++ r6.out) })
 ((sLen (SVal.cell s3.k1 3)).bind fun r8 =>
 loopN (fun s9 next9 =>
 (sBin .lss s9.k8 s9.k7).bind fun r10 =>
 pickC r10
 ((sIdx true 2 s9.k6 s9.k8).bind fun e11 =>
 if (allOne [.v (SVal.cell e11 0), .v (SVal.cell e11 1)]) = true then
 (T 20 [(.agg [(weak (SVal.cell s9.k1 0)), (weak (SVal.cell s9.k1 1)), (weak (SVal.cell s9.k1 2)), (weak (SVal.cell s9.k1 3)), (weak (SVal.cell s9.k1 4))]), (SVal.cell e11 0)]).bind fun r12 =>
 (sBin .eql r12.r s9.k2).bind fun r13 =>
 guardX r13 true
 (if (s9.stop) = true then none else
 (T 155 [(.agg [(weak (SVal.cell s9.k1 0)), (weak (SVal.cell s9.k1 1)), (weak (SVal.cell s9.k1 2)), (weak (SVal.cell s9.k1 3)), (weak (SVal.cell s9.k1 4))]), (SVal.cell e11 0), .yld]).bind fun r14 =>
 both
 ((sNot r14.r).bind fun r15 =>
 pickC r15
 (if (s9.stop) = true then
 some { r := (.bool false) }
 else
 some { r := (.bool false), out := (s9.out ++ r14.out) })
 ((sBin .add s9.k8 (.int .i64 1)).bind fun r16 =>
 next9 ⟨[.yld, (.rp [(SVal.cell s9.k1 0), (SVal.cell s9.k1 1), (SVal.cell s9.k1 2), (SVal.cell s9.k1 3), (SVal.cell s9.k1 4)]), s9.k2, (weak s9.k3), s9.k4, s9.k5, (weak s9.k6), s9.k7, r16], (s9.out ++ r14.out), s9.stop⟩))
 (some { r := (.bool false) }))
 ((sBin .add s9.k8 (.int .i64 1)).bind fun r17 =>
 next9 ⟨[.yld, (.rp [(SVal.cell s9.k1 0), (SVal.cell s9.k1 1), (SVal.cell s9.k1 2), (SVal.cell s9.k1 3), (SVal.cell s9.k1 4)]), s9.k2, (weak s9.k3), s9.k4, s9.k5, (weak s9.k6), s9.k7, r17], s9.out, s9.stop⟩)
 (none)
 else none)
 ((sBin .add s9.k5 (.int .i64 1)).bind fun r18 =>
 next3 ⟨[.yld, (.rp [(SVal.cell s9.k1 0), (SVal.cell s9.k1 1), (SVal.cell s9.k1 2), (SVal.cell s9.k1 3), (SVal.cell s9.k1 4)]), (weak s9.k3), s9.k4, r18], s9.out, s9.stop⟩)) k ⟨[.yld, (.rp [(SVal.cell s3.k1 0), (SVal.cell s3.k1 1), (SVal.cell s3.k1 2), (SVal.cell s3.k1 3), (SVal.cell s3.k1 4)]), e5, (weak s3.k2), s3.k3, s3.k4, (weak (SVal.cell s3.k1 3)), r8, (.int .i64 0)], (s3.out ++ r6.out), s3.stop⟩))
 (some { r := (.bool false) }))
 (if (s3.stop) = true then
 none
 else
 some { r := (.bool true), out := s3.out })) k ⟨[.yld, (.rp [x0a, x0b, x0c, x0d, x0e]), (weak r1.r), r2, (.int .i64 0)], [], false⟩
theorem r109 (T : TT) (k : Nat) (x0a x0b x0c x0d x0e x1 : SVal) : bodyE P H T k 109 [(.agg [x0a, x0b, x0c, x0d, x0e]), x1, .yld] = R109 T k x0a x0b x0c x0d x0e x1 := by kernel_rfl
noncomputable def D109 (T : TT) (k : Nat) : List SVal → Option Res
  | [(.agg [x0a, x0b, x0c, x0d, x0e]), x1, .yld] => R109 T k x0a x0b x0c x0d x0e x1
  | a => bodyE P H T k 109 a
theorem d109 (T : TT) (k : Nat) (a : List SVal) : D109 T k a = bodyE P H T k 109 a := by
  unfold D109
  split
  · exact (r109 ..).symm
  · rfl
theorem t109 (k : Nat) (x0a x0b x0c x0d x0e x1 : SVal) : T (k + 1) 109 [(.agg [x0a, x0b, x0c, x0d, x0e]), x1, .yld] = R109 (T k) k x0a x0b x0c x0d x0e x1 := (tb k 109 _ rfl).trans (r109 ..)
/-- slices.Reverse[[]int,int] -/
def R111 (T : TT) (k : Nat) (x0 : List SVal) : Option Res :=
 (sBin .sub (.int .i64 (x0.length : Nat)) (.int .i64 1)).bind fun r1 =>
 loopN (fun s2 next2 =>
 (sBin .lss s2.k1 s2.k2).bind fun r3 =>
 pickC r3
 ((sIn s2.k0.xs.length s2.k2).bind fun j4 =>
 (s2.k0.xs[j4]?).bind fun e5 =>
 if (elemOk false 1 e5) = true then
 (sIn s2.k0.xs.length s2.k1).bind fun j6 =>
 (s2.k0.xs[j6]?).bind fun e7 =>
 if (elemOk false 1 e7) = true then
 (sIn s2.k0.xs.length s2.k1).bind fun j8 =>
 (s2.k0.xs[j8]?).bind fun e9 =>
 if (elemOk false 1 e9) = true then
 if (oneS e5) = true then
 (sIn (s2.k0.xs.set j8 e5).length s2.k2).bind fun j10 =>
 ((s2.k0.xs.set j8 e5)[j10]?).bind fun e11 =>
 if (elemOk false 1 e11) = true then
 if (oneS e7) = true then
 (sBin .add s2.k1 (.int .i64 1)).bind fun r12 =>
 (sBin .sub s2.k2 (.int .i64 1)).bind fun r13 =>
 next2 ⟨[(.sl 1 true false ((s2.k0.xs.set j8 e5).set j10 e7)), r12, r13], [], false⟩
 else none
 else none
 else none
 else none
 else none
 else none)
 (some { r := (.tup []), outs := [(.sl 1 true false s2.k0.xs)] })) k ⟨[(.sl 1 true false x0), (.int .i64 0), r1], [], false⟩
theorem r111 (T : TT) (k : Nat) (x0 : List SVal) : bodyE P H T k 111 [(.sl 1 true false x0)] = R111 T k x0 := by kernel_rfl
noncomputable def D111 (T : TT) (k : Nat) : List SVal → Option Res
  | [(.sl 1 true false x0)] => R111 T k x0
  | a => bodyE P H T k 111 a
theorem d111 (T : TT) (k : Nat) (a : List SVal) : D111 T k a = bodyE P H T k 111 a := by
  unfold D111
  split
  · exact (r111 ..).symm
  · rfl
theorem t111 (k : Nat) (x0 : List SVal) : T (k + 1) 111 [(.sl 1 true false x0)] = R111 (T k) k x0 := (tb k 111 _ rfl).trans (r111 ..)
/-- slices.Index[[]int,int] -/
def R112 (T : TT) (k : Nat) (x0 x1 : SVal) : Option Res :=
 (sLen x0).bind fun r1 =>
 loopN (fun s2 next2 =>
 (sBin .lss s2.k3 s2.k2).bind fun r3 =>
 pickC r3
 ((sIdx false 1 s2.k0 s2.k3).bind fun e4 =>
 (sBin .eql s2.k1 e4).bind fun r5 =>
 pickC r5
 (some { r := s2.k3 })
 ((sBin .add s2.k3 (.int .i64 1)).bind fun r6 =>
 next2 ⟨[(weak s2.k0), s2.k1, s2.k2, r6], [], false⟩))
 (some { r := (.int .i64 (-1)) })) k ⟨[(weak x0), x1, r1, (.int .i64 0)], [], false⟩
theorem r112 (T : TT) (k : Nat) (x0 x1 : SVal) : bodyE P H T k 112 [x0, x1] = R112 T k x0 x1 := by kernel_rfl
noncomputable def D112 (T : TT) (k : Nat) : List SVal → Option Res
  | [x0, x1] => R112 T k x0 x1
  | a => bodyE P H T k 112 a
theorem d112 (T : TT) (k : Nat) (a : List SVal) : D112 T k a = bodyE P H T k 112 a := by
  unfold D112
  split
  · exact (r112 ..).symm
  · rfl
theorem t112 (k : Nat) (x0 x1 : SVal) : T (k + 1) 112 [x0, x1] = R112 (T k) k x0 x1 := (tb k 112 _ rfl).trans (r112 ..)
/-- slices.IndexFunc[[]limelight/scopes.kind,limelight/scopes.kind] -/
def R113 (T : TT) (k : Nat) (x0 x1 : SVal) : Option Res :=
 (sLen x0).bind fun r1 =>
 loopN (fun s2 next2 =>
 (sBin .lss s2.k3 s2.k2).bind fun r3 =>
 pickC r3
 ((sIdx true 1 s2.k0 s2.k3).bind fun e4 =>
 (callV H T s2.k1 [(.agg [(SVal.cell e4 0)])]).bind fun y5 =>
 pickC y5
 (some { r := s2.k3 })
 ((sBin .add s2.k3 (.int .i64 1)).bind fun r6 =>
 next2 ⟨[(weak s2.k0), s2.k1, s2.k2, r6], [], false⟩))
 (some { r := (.int .i64 (-1)) })) k ⟨[(weak x0), x1, r1, (.int .i64 0)], [], false⟩
theorem r113 (T : TT) (k : Nat) (x0 x1 : SVal) : bodyE P H T k 113 [x0, x1] = R113 T k x0 x1 := by kernel_rfl
noncomputable def D113 (T : TT) (k : Nat) : List SVal → Option Res
  | [x0, x1] => R113 T k x0 x1
  | a => bodyE P H T k 113 a
theorem d113 (T : TT) (k : Nat) (a : List SVal) : D113 T k a = bodyE P H T k 113 a := by
  unfold D113
  split
  · exact (r113 ..).symm
  · rfl
theorem t113 (k : Nat) (x0 x1 : SVal) : T (k + 1) 113 [x0, x1] = R113 (T k) k x0 x1 := (tb k 113 _ rfl).trans (r113 ..)
/-- limelight/scopes.kinds$1 -/
def R114 (T : TT) (k : Nat) (x0a x0b x0c x0d x0e x1 : SVal) : Option Res :=
 (sBin .eql x1 (.int .i64 0)).bind fun r1 =>
 some { r := r1 }
theorem r114 (T : TT) (k : Nat) (x0a x0b x0c x0d x0e x1 : SVal) : bodyE P H T k 114 [(.agg [x0a, x0b, x0c, x0d, x0e]), x1] = R114 T k x0a x0b x0c x0d x0e x1 := by kernel_rfl
noncomputable def D114 (T : TT) (k : Nat) : List SVal → Option Res
  | [(.agg [x0a, x0b, x0c, x0d, x0e]), x1] => R114 T k x0a x0b x0c x0d x0e x1
  | a => bodyE P H T k 114 a
theorem d114 (T : TT) (k : Nat) (a : List SVal) : D114 T k a = bodyE P H T k 114 a := by
  unfold D114
  split
  · exact (r114 ..).symm
  · rfl
theorem t114 (k : Nat) (x0a x0b x0c x0d x0e x1 : SVal) : T (k + 1) 114 [(.agg [x0a, x0b, x0c, x0d, x0e]), x1] = R114 (T k) k x0a x0b x0c x0d x0e x1 := (tb k 114 _ rfl).trans (r114 ..)
/-- limelight/scopes.kinds$2 -/
def R115 (T : TT) (k : Nat) (x0a x0b x0c x0d x0e x1 : SVal) : Option Res :=
 (sIdx true 7 x0a x1).bind fun e1 =>
 (sBin .neq (SVal.cell e1 5) (.int .i64 (-1))).bind fun r2 =>
 some { r := r2 }
theorem r115 (T : TT) (k : Nat) (x0a x0b x0c x0d x0e x1 : SVal) : bodyE P H T k 115 [(.agg [x0a, x0b, x0c, x0d, x0e]), x1] = R115 T k x0a x0b x0c x0d x0e x1 := by kernel_rfl
noncomputable def D115 (T : TT) (k : Nat) : List SVal → Option Res
  | [(.agg [x0a, x0b, x0c, x0d, x0e]), x1] => R115 T k x0a x0b x0c x0d x0e x1
  | a => bodyE P H T k 115 a
theorem d115 (T : TT) (k : Nat) (a : List SVal) : D115 T k a = bodyE P H T k 115 a := by
  unfold D115
  split
  · exact (r115 ..).symm
  · rfl
theorem t115 (k : Nat) (x0a x0b x0c x0d x0e x1 : SVal) : T (k + 1) 115 [(.agg [x0a, x0b, x0c, x0d, x0e]), x1] = R115 (T k) k x0a x0b x0c x0d x0e x1 := (tb k 115 _ rfl).trans (r115 ..)
/-- limelight/scopes.kinds$3 -/
def R116 (T : TT) (k : Nat) (x0a x0b x0c x0d x0e x1 : SVal) : Option Res :=
 (sIdx true 7 x0a x1).bind fun e1 =>
 if (allOne [.v (SVal.cell e1 0), .v (SVal.cell e1 1), .v (SVal.cell e1 2), .v (SVal.cell e1 3), .v (SVal.cell e1 4), .v (SVal.cell e1 5), .v (SVal.cell e1 6)]) = true then
 ((sBin .eql (SVal.cell e1 0) (.int .i64 1)).bind fun r2 =>
 guardX r2 true
 ((sBin .eql (SVal.cell e1 1) (.int .i64 3)).bind fun r3 =>
 guardX r3 true
 ((T 117 [(weak x0a), x1]).bind fun r4 =>
 (sBin .neq r4.r (.int .i64 (-1))).bind fun r5 =>
 (asB r5).bind fun b6 =>
 some [b6])
 (some [false])
 (none))
 (some [false])
 (none)).bind fun vs7 =>
 some { r := (.bool (vs7.getD 0 false)) }
 else none
theorem r116 (T : TT) (k : Nat) (x0a x0b x0c x0d x0e x1 : SVal) : bodyE P H T k 116 [(.agg [x0a, x0b, x0c, x0d, x0e]), x1] = R116 T k x0a x0b x0c x0d x0e x1 := by kernel_rfl
noncomputable def D116 (T : TT) (k : Nat) : List SVal → Option Res
  | [(.agg [x0a, x0b, x0c, x0d, x0e]), x1] => R116 T k x0a x0b x0c x0d x0e x1
  | a => bodyE P H T k 116 a
theorem d116 (T : TT) (k : Nat) (a : List SVal) : D116 T k a = bodyE P H T k 116 a := by
  unfold D116
  split
  · exact (r116 ..).symm
  · rfl
theorem t116 (k : Nat) (x0a x0b x0c x0d x0e x1 : SVal) : T (k + 1) 116 [(.agg [x0a, x0b, x0c, x0d, x0e]), x1] = R116 (T k) k x0a x0b x0c x0d x0e x1 := (tb k 116 _ rfl).trans (r116 ..)
/-- limelight/shade.Host -/
def R117 (T : TT) (k : Nat) (x0 x1 : SVal) : Option Res :=
 (T 119 [(weak x0), x1]).bind fun r1 =>
 (sBin .eql r1.r (.int .i64 (-1))).bind fun r2 =>
 pickC r2
 (some { r := (.int .i64 (-1)) })
 ((sIdx true 7 x0 r1.r).bind fun e3 =>
 some { r := (SVal.cell e3 4) })
theorem r117 (T : TT) (k : Nat) (x0 x1 : SVal) : bodyE P H T k 117 [x0, x1] = R117 T k x0 x1 := by kernel_rfl
noncomputable def D117 (T : TT) (k : Nat) : List SVal → Option Res
  | [x0, x1] => R117 T k x0 x1
  | a => bodyE P H T k 117 a
theorem d117 (T : TT) (k : Nat) (a : List SVal) : D117 T k a = bodyE P H T k 117 a := by
  unfold D117
  split
  · exact (r117 ..).symm
  · rfl
theorem t117 (k : Nat) (x0 x1 : SVal) : T (k + 1) 117 [x0, x1] = R117 (T k) k x0 x1 := (tb k 117 _ rfl).trans (r117 ..)
/-- limelight/scopes.kinds$4 -/
def R118 (T : TT) (k : Nat) (x0a x0b x0c x0d x0e x1 : SVal) : Option Res :=
 (T 56 [(.agg [(weak x0a), (weak x0b), (weak x0c), (weak x0d), (weak x0e)]), x1]).bind fun r1 =>
 if (allOne [.v r1.r.c0.c0, .v r1.r.c0.c1]) = true then
 some { r := r1.r.c1 }
 else none
theorem r118 (T : TT) (k : Nat) (x0a x0b x0c x0d x0e x1 : SVal) : bodyE P H T k 118 [(.agg [x0a, x0b, x0c, x0d, x0e]), x1] = R118 T k x0a x0b x0c x0d x0e x1 := by kernel_rfl
noncomputable def D118 (T : TT) (k : Nat) : List SVal → Option Res
  | [(.agg [x0a, x0b, x0c, x0d, x0e]), x1] => R118 T k x0a x0b x0c x0d x0e x1
  | a => bodyE P H T k 118 a
theorem d118 (T : TT) (k : Nat) (a : List SVal) : D118 T k a = bodyE P H T k 118 a := by
  unfold D118
  split
  · exact (r118 ..).symm
  · rfl
theorem t118 (k : Nat) (x0a x0b x0c x0d x0e x1 : SVal) : T (k + 1) 118 [(.agg [x0a, x0b, x0c, x0d, x0e]), x1] = R118 (T k) k x0a x0b x0c x0d x0e x1 := (tb k 118 _ rfl).trans (r118 ..)
/-- limelight/order.Top -/
def R119 (T : TT) (k : Nat) (x0 x1 : SVal) : Option Res :=
 if (List.all [[.v x1]] allOne) = true then
 (T 156 [(weak x0), (.sl 1 false false [x1])]).bind fun r1 =>
 pickC r1.r
 ((T 157 [(weak x0), x1]).bind fun r2 =>
 (callIt T r2.r).bind fun ys3 =>
 rangeN (fun s4 y4 next4 =>
 (notTup y4).bind fun z5 =>
 if (oneS z5) = true then
 next4 ⟨[(.mb [z5])], [], false⟩
 else none) (fun s6 =>
 some { r := s6.k0.c0 }) ys3 ⟨[(.mb [(.int .i64 (-1))])], [], false⟩)
 (some { r := (.int .i64 (-1)) })
 else none
theorem r119 (T : TT) (k : Nat) (x0 x1 : SVal) : bodyE P H T k 119 [x0, x1] = R119 T k x0 x1 := by kernel_rfl
noncomputable def D119 (T : TT) (k : Nat) : List SVal → Option Res
  | [x0, x1] => R119 T k x0 x1
  | a => bodyE P H T k 119 a
theorem d119 (T : TT) (k : Nat) (a : List SVal) : D119 T k a = bodyE P H T k 119 a := by
  unfold D119
  split
  · exact (r119 ..).symm
  · rfl
theorem t119 (k : Nat) (x0 x1 : SVal) : T (k + 1) 119 [x0, x1] = R119 (T k) k x0 x1 := (tb k 119 _ rfl).trans (r119 ..)
/-- slices.Backward[[]int,int]$1 -/
def R120 (T : TT) (k : Nat) (x1 : SVal) : Option Res :=
 (sLen x1).bind fun r1 =>
 (sBin .sub r1 (.int .i64 1)).bind fun r2 =>
 loopN (fun s3 next3 =>
 (sBin .geq s3.k2 (.int .i64 0)).bind fun r4 =>
 pickC r4
 ((sIdx false 1 (SVal.cell s3.k1 0) s3.k2).bind fun e5 =>
 if (s3.stop) = true then none else
 both
 ((sBin .sub s3.k2 (.int .i64 1)).bind fun r6 =>
 next3 ⟨[.yld, (.rp [(SVal.cell s3.k1 0)]), r6], (s3.out ++ [(.tup [s3.k2, e5])]), s3.stop⟩)
 (some { r := (.tup []) }))
 (if (s3.stop) = true then
 some { r := (.tup []) }
 else
 some { r := (.tup []), out := s3.out })) k ⟨[.yld, (.rp [x1]), r2], [], false⟩
theorem r120 (T : TT) (k : Nat) (x1 : SVal) : bodyE P H T k 120 [.yld, (.rp [x1])] = R120 T k x1 := by kernel_rfl
noncomputable def D120 (T : TT) (k : Nat) : List SVal → Option Res
  | [.yld, (.rp [x1])] => R120 T k x1
  | a => bodyE P H T k 120 a
theorem d120 (T : TT) (k : Nat) (a : List SVal) : D120 T k a = bodyE P H T k 120 a := by
  unfold D120
  split
  · exact (r120 ..).symm
  · rfl
theorem t120 (k : Nat) (x1 : SVal) : T (k + 1) 120 [.yld, (.rp [x1])] = R120 (T k) k x1 := (tb k 120 _ rfl).trans (r120 ..)
/-- limelight/slots.Assigned -/
def R121 (T : TT) (k : Nat) (x0 x1 : SVal) : Option Res :=
 if (oneS x0) = true then
 if (oneS x1) = true then
 ((T 158 [(weak x0), x1]).bind fun r1 =>
 (sNot r1.r).bind fun r2 =>
 guardX r2 false
 ((T 159 [(weak x0), x1]).bind fun r3 =>
 (sNot r3.r).bind fun r4 =>
 (asB r4).bind fun b5 =>
 some [b5])
 (some [true])
 (none)).bind fun vs6 =>
 pickC (.bool (vs6.getD 0 false))
 (some { r := (.sl 1 false false []) })
 ((T 117 [(weak x0), x1]).bind fun r7 =>
 (sIdx true 7 x0 r7.r).bind fun e8 =>
 (T 110 [(weak (SVal.cell e8 3))]).bind fun r9 =>
 (T 160 [(.sl 1 true false r9.r.xs), (.fn 161 [(.rp [x0]), (.rp [x1])])]).bind fun r10 =>
 some { r := (.sl 1 false false r10.r.xs) })
 else none
 else none
theorem r121 (T : TT) (k : Nat) (x0 x1 : SVal) : bodyE P H T k 121 [x0, x1] = R121 T k x0 x1 := by kernel_rfl
noncomputable def D121 (T : TT) (k : Nat) : List SVal → Option Res
  | [x0, x1] => R121 T k x0 x1
  | a => bodyE P H T k 121 a
theorem d121 (T : TT) (k : Nat) (a : List SVal) : D121 T k a = bodyE P H T k 121 a := by
  unfold D121
  split
  · exact (r121 ..).symm
  · rfl
theorem t121 (k : Nat) (x0 x1 : SVal) : T (k + 1) 121 [x0, x1] = R121 (T k) k x0 x1 := (tb k 121 _ rfl).trans (r121 ..)
/-- limelight/area.of -/
def R122 (T : TT) (k : Nat) (x0 x1 : SVal) : Option Res :=
 if (1 ≤ 5 ∧ (oneS x0) = true) then
 if (6 ≤ 6 ∧ (oneS x1) = true) then
 (T 105 [(weak x0)]).bind fun r1 =>
 (sBin .eql r1.r (.int .i64 0)).bind fun r2 =>
 guardX r2 true
 ((sBin .geq x1 (.int .i64 0)).bind fun r3 =>
 guardX r3 true
 ((sLen x0).bind fun r4 =>
 (sBin .lss x1 r4).bind fun r5 =>
 if (allOne [.v x0, .v (.sl 1 false true []), .v (.sl 1 false true []), .v (.sl 2 false true []), .v (.sl 1 false true []), .v x1]) = true then
 some { r := (.tup [(.agg [(weak x0), (.sl 1 false false []), (.sl 1 false false []), (.sl 2 false false []), (.sl 1 false false []), x1]), r5]) }
 else none)
 (if (allOne [.v x0, .v (.sl 1 false true []), .v (.sl 1 false true []), .v (.sl 2 false true []), .v (.sl 1 false true []), .v x1]) = true then
 some { r := (.tup [(.agg [(weak x0), (.sl 1 false false []), (.sl 1 false false []), (.sl 2 false false []), (.sl 1 false false []), x1]), (.bool false)]) }
 else none)
 (none))
 (if (allOne [.v x0, .v (.sl 1 false true []), .v (.sl 1 false true []), .v (.sl 2 false true []), .v (.sl 1 false true []), .v x1]) = true then
 some { r := (.tup [(.agg [(weak x0), (.sl 1 false false []), (.sl 1 false false []), (.sl 2 false false []), (.sl 1 false false []), x1]), (.bool false)]) }
 else none)
 (none)
 else none
 else none
theorem r122 (T : TT) (k : Nat) (x0 x1 : SVal) : bodyE P H T k 122 [x0, x1] = R122 T k x0 x1 := by kernel_rfl
noncomputable def D122 (T : TT) (k : Nat) : List SVal → Option Res
  | [x0, x1] => R122 T k x0 x1
  | a => bodyE P H T k 122 a
theorem d122 (T : TT) (k : Nat) (a : List SVal) : D122 T k a = bodyE P H T k 122 a := by
  unfold D122
  split
  · exact (r122 ..).symm
  · rfl
theorem t122 (k : Nat) (x0 x1 : SVal) : T (k + 1) 122 [x0, x1] = R122 (T k) k x0 x1 := (tb k 122 _ rfl).trans (r122 ..)
/-- (limelight/area.node).index -/
def R123 (T : TT) (k : Nat) (x0a x0b x0c x0d x0e x0f : SVal) : Option Res :=
 (T 55 [(weak x0a), x0f, (.int .i64 0)]).bind fun r1 =>
 guardX r1.r.c1 false
 ((T 163 [(.agg [(weak x0a), (weak x0b), (weak x0c), (weak x0d), (weak x0e), x0f]), (.int .i64 1)]).bind fun r2 =>
 guardX r2.r false
 ((T 163 [(.agg [(weak x0a), (weak x0b), (weak x0c), (weak x0d), (weak x0e), x0f]), (.int .i64 4)]).bind fun r3 =>
 some { r := (.tup [r1.r.c0, r3.r]) })
 (some { r := (.tup [r1.r.c0, (.bool true)]) })
 (none))
 (some { r := (.tup [r1.r.c0, (.bool true)]) })
 (none)
theorem r123 (T : TT) (k : Nat) (x0a x0b x0c x0d x0e x0f : SVal) : bodyE P H T k 123 [(.agg [x0a, x0b, x0c, x0d, x0e, x0f])] = R123 T k x0a x0b x0c x0d x0e x0f := by kernel_rfl
noncomputable def D123 (T : TT) (k : Nat) : List SVal → Option Res
  | [(.agg [x0a, x0b, x0c, x0d, x0e, x0f])] => R123 T k x0a x0b x0c x0d x0e x0f
  | a => bodyE P H T k 123 a
theorem d123 (T : TT) (k : Nat) (a : List SVal) : D123 T k a = bodyE P H T k 123 a := by
  unfold D123
  split
  · exact (r123 ..).symm
  · rfl
theorem t123 (k : Nat) (x0a x0b x0c x0d x0e x0f : SVal) : T (k + 1) 123 [(.agg [x0a, x0b, x0c, x0d, x0e, x0f])] = R123 (T k) k x0a x0b x0c x0d x0e x0f := (tb k 123 _ rfl).trans (r123 ..)
/-- (limelight/area.node).is -/
def R124 (T : TT) (k : Nat) (x0a x0b x0c x0d x0e x0f : SVal) : Option Res :=
 (T 164 [(.sl 1 false false [(.bf 165 [(.agg [x0a, x0b, x0c, x0d, x0e, x0f])]), (.bf 166 [(.agg [x0a, x0b, x0c, x0d, x0e, x0f])]), (.bf 167 [(.agg [x0a, x0b, x0c, x0d, x0e, x0f])]), (.bf 168 [(.agg [x0a, x0b, x0c, x0d, x0e, x0f])]), (.bf 169 [(.agg [x0a, x0b, x0c, x0d, x0e, x0f])])]), (.fn 170 [])]).bind fun r1 =>
 (sNot r1.r).bind fun r2 =>
 some { r := r2 }
theorem r124 (T : TT) (k : Nat) (x0a x0b x0c x0d x0e x0f : SVal) : bodyE P H T k 124 [(.agg [x0a, x0b, x0c, x0d, x0e, x0f])] = R124 T k x0a x0b x0c x0d x0e x0f := by kernel_rfl
noncomputable def D124 (T : TT) (k : Nat) : List SVal → Option Res
  | [(.agg [x0a, x0b, x0c, x0d, x0e, x0f])] => R124 T k x0a x0b x0c x0d x0e x0f
  | a => bodyE P H T k 124 a
theorem d124 (T : TT) (k : Nat) (a : List SVal) : D124 T k a = bodyE P H T k 124 a := by
  unfold D124
  split
  · exact (r124 ..).symm
  · rfl
theorem t124 (k : Nat) (x0a x0b x0c x0d x0e x0f : SVal) : T (k + 1) 124 [(.agg [x0a, x0b, x0c, x0d, x0e, x0f])] = R124 (T k) k x0a x0b x0c x0d x0e x0f := (tb k 124 _ rfl).trans (r124 ..)
/-- slices.insertionSortCmpFunc[int] -/
def R125 (T : TT) (k : Nat) (x0 : List SVal) (x1 x2 x3 : SVal) : Option Res :=
 (sBin .add x1 (.int .i64 1)).bind fun r1 =>
 loopN (fun s2 next2 =>
 (sBin .lss s2.k4 s2.k2).bind fun r3 =>
 pickC r3
 (loopN (fun s4 next4 =>
 ((sBin .gtr s4.k5 s4.k1).bind fun r5 =>
 guardX r5 true
 ((sIn s4.k0.xs.length s4.k5).bind fun j6 =>
 (s4.k0.xs[j6]?).bind fun e7 =>
 if (elemOk false 1 e7) = true then
 (sBin .sub s4.k5 (.int .i64 1)).bind fun r8 =>
 (sIn s4.k0.xs.length r8).bind fun j9 =>
 (s4.k0.xs[j9]?).bind fun e10 =>
 if (elemOk false 1 e10) = true then
 (callV H T s4.k3 [e7, e10]).bind fun y11 =>
 (sBin .lss y11 (.int .i64 0)).bind fun r12 =>
 (asB r12).bind fun b13 =>
 some [b13]
 else none
 else none)
 (some [false])
 (none)).bind fun vs14 =>
 pickC (.bool (vs14.getD 0 false))
 ((sBin .sub s4.k5 (.int .i64 1)).bind fun r15 =>
 (sBin .sub s4.k5 (.int .i64 1)).bind fun r16 =>
 (sIn s4.k0.xs.length r16).bind fun j17 =>
 (s4.k0.xs[j17]?).bind fun e18 =>
 if (elemOk false 1 e18) = true then
 (sIn s4.k0.xs.length s4.k5).bind fun j19 =>
 (s4.k0.xs[j19]?).bind fun e20 =>
 if (elemOk false 1 e20) = true then
 (sIn s4.k0.xs.length s4.k5).bind fun j21 =>
 (s4.k0.xs[j21]?).bind fun e22 =>
 if (elemOk false 1 e22) = true then
 if (oneS e18) = true then
 (sIn (s4.k0.xs.set j21 e18).length r15).bind fun j23 =>
 ((s4.k0.xs.set j21 e18)[j23]?).bind fun e24 =>
 if (elemOk false 1 e24) = true then
 if (oneS e20) = true then
 (sBin .sub s4.k5 (.int .i64 1)).bind fun r25 =>
 next4 ⟨[(.sl 1 true false ((s4.k0.xs.set j21 e18).set j23 e20)), s4.k1, s4.k2, s4.k3, s4.k4, r25], [], false⟩
 else none
 else none
 else none
 else none
 else none
 else none)
 ((sBin .add s4.k4 (.int .i64 1)).bind fun r26 =>
 next2 ⟨[(.sl 1 true false s4.k0.xs), s4.k1, s4.k2, s4.k3, r26], [], false⟩)) k ⟨[(.sl 1 true false s2.k0.xs), s2.k1, s2.k2, s2.k3, s2.k4, s2.k4], [], false⟩)
 (some { r := (.tup []), outs := [(.sl 1 true false s2.k0.xs)] })) k ⟨[(.sl 1 true false x0), x1, x2, x3, r1], [], false⟩
theorem r125 (T : TT) (k : Nat) (x0 : List SVal) (x1 x2 x3 : SVal) : bodyE P H T k 125 [(.sl 1 true false x0), x1, x2, x3] = R125 T k x0 x1 x2 x3 := by kernel_rfl
noncomputable def D125 (T : TT) (k : Nat) : List SVal → Option Res
  | [(.sl 1 true false x0), x1, x2, x3] => R125 T k x0 x1 x2 x3
  | a => bodyE P H T k 125 a
theorem d125 (T : TT) (k : Nat) (a : List SVal) : D125 T k a = bodyE P H T k 125 a := by
  unfold D125
  split
  · exact (r125 ..).symm
  · rfl
theorem t125 (k : Nat) (x0 : List SVal) (x1 x2 x3 : SVal) : T (k + 1) 125 [(.sl 1 true false x0), x1, x2, x3] = R125 (T k) k x0 x1 x2 x3 := (tb k 125 _ rfl).trans (r125 ..)
/-- limelight/limelightref01.Attr -/
def R127 (T : TT) (k : Nat) (x0 x1a x1b : SVal) : Option Res :=
 ((sBin .lss x1a (.int .i64 0)).bind fun r1 =>
 guardX r1 false
 ((sBin .gtr x1a (.int .i64 9)).bind fun r2 =>
 guardX r2 false
 ((T 172 [x1a, x1b]).bind fun r3 =>
 (sNot r3.r).bind fun r4 =>
 (asB r4).bind fun b5 =>
 some [b5])
 (some [true])
 (none))
 (some [true])
 (none)).bind fun vs6 =>
 pickC (.bool (vs6.getD 0 false))
 (some { r := (.bool false) })
 ((sBin .eql x0 (.int .i64 3)).bind fun r7 =>
 pickC r7
 (((sBin .eql x1a (.int .i64 7)).bind fun r8 =>
 guardX r8 false
 ((sBin .eql x1a (.int .i64 8)).bind fun r9 =>
 (asB r9).bind fun b10 =>
 some [b10])
 (some [true])
 (none)).bind fun vs11 =>
 some { r := (.bool (vs11.getD 0 false)) })
 (((sBin .eql x0 (.int .i64 1)).bind fun r12 =>
 guardX r12 true
 ((sBin .neq x1a (.int .i64 7)).bind fun r13 =>
 guardX r13 true
 ((sBin .neq x1a (.int .i64 8)).bind fun r14 =>
 (asB r14).bind fun b15 =>
 some [b15])
 (some [false])
 (none))
 (some [false])
 (none)).bind fun vs16 =>
 some { r := (.bool (vs16.getD 0 false)) }))
theorem r127 (T : TT) (k : Nat) (x0 x1a x1b : SVal) : bodyE P H T k 127 [x0, (.agg [x1a, x1b])] = R127 T k x0 x1a x1b := by kernel_rfl
theorem t127 (k : Nat) (x0 x1a x1b : SVal) : T (k + 1) 127 [x0, (.agg [x1a, x1b])] = R127 (T k) k x0 x1a x1b := (tb k 127 _ rfl).trans (r127 ..)
/-- limelight/limelightref01.count -/
def R128 (T : TT) (k : Nat) (x0 x1 : SVal) : Option Res :=
 loopN (fun s1 next1 =>
 (sLen s1.k0).bind fun r2 =>
 (sBin .lss s1.k3 r2).bind fun r3 =>
 pickC r3
 ((sIdx false 1 s1.k0 s1.k3).bind fun e4 =>
 (sBin .eql e4 s1.k1).bind fun r5 =>
 pickC r5
 ((sBin .add s1.k2 (.int .i64 1)).bind fun r6 =>
 (sBin .add s1.k3 (.int .i64 1)).bind fun r7 =>
 next1 ⟨[(weak s1.k0), s1.k1, r6, r7], [], false⟩)
 ((sBin .add s1.k3 (.int .i64 1)).bind fun r8 =>
 next1 ⟨[(weak s1.k0), s1.k1, s1.k2, r8], [], false⟩))
 (some { r := s1.k2 })) k ⟨[(weak x0), x1, (.int .i64 0), (.int .i64 0)], [], false⟩
theorem r128 (T : TT) (k : Nat) (x0 x1 : SVal) : bodyE P H T k 128 [x0, x1] = R128 T k x0 x1 := by kernel_rfl
theorem t128 (k : Nat) (x0 x1 : SVal) : T (k + 1) 128 [x0, x1] = R128 (T k) k x0 x1 := (tb k 128 _ rfl).trans (r128 ..)
/-- limelight/limelightref01.Up -/
def R129 (T : TT) (k : Nat) (x0 x1 : SVal) : Option Res :=
 (sIdx true 7 x0 x1).bind fun e1 =>
 (sBin .eql (SVal.cell e1 0) (.int .i64 3)).bind fun r2 =>
 pickC r2
 ((sIdx true 7 x0 x1).bind fun e3 =>
 some { r := (SVal.cell e3 4) })
 ((sIdx true 7 x0 x1).bind fun e4 =>
 some { r := (SVal.cell e4 2) })
theorem r129 (T : TT) (k : Nat) (x0 x1 : SVal) : bodyE P H T k 129 [x0, x1] = R129 T k x0 x1 := by kernel_rfl
theorem t129 (k : Nat) (x0 x1 : SVal) : T (k + 1) 129 [x0, x1] = R129 (T k) k x0 x1 := (tb k 129 _ rfl).trans (r129 ..)
/-- limelight/limelightref04.Connected -/
def R130 (T : TT) (k : Nat) (x0 x1 : SVal) : Option Res :=
 (T 173 [(weak x0), (.int .i64 0), x1]).bind fun r1 =>
 some { r := r1.r }
theorem r130 (T : TT) (k : Nat) (x0 x1 : SVal) : bodyE P H T k 130 [x0, x1] = R130 T k x0 x1 := by kernel_rfl
theorem t130 (k : Nat) (x0 x1 : SVal) : T (k + 1) 130 [x0, x1] = R130 (T k) k x0 x1 := (tb k 130 _ rfl).trans (r130 ..)
/-- limelight/limelightref02.Has -/
def R131 (T : TT) (k : Nat) (x0 x1 x2 : SVal) : Option Res :=
 (T 60 [(weak x0), x1, x2]).bind fun r1 =>
 some { r := r1.r.c1 }
theorem r131 (T : TT) (k : Nat) (x0 x1 x2 : SVal) : bodyE P H T k 131 [x0, x1, x2] = R131 T k x0 x1 x2 := by kernel_rfl
theorem t131 (k : Nat) (x0 x1 x2 : SVal) : T (k + 1) 131 [x0, x1, x2] = R131 (T k) k x0 x1 x2 := (tb k 131 _ rfl).trans (r131 ..)
/-- limelight/flat.up$1 -/
def R132 (T : TT) (k : Nat) (x1 x2 : SVal) : Option Res :=
 loopN (fun s1 next1 =>
 (sBin .neq (SVal.cell s1.k1 0) (.int .i64 (-1))).bind fun r2 =>
 guardX r2 true
 (if (s1.stop) = true then none else
 (notTup (SVal.cell s1.k1 0)).bind fun y3 =>
 both
 ((T 133 [(weak (SVal.cell s1.k2 0)), (SVal.cell s1.k1 0)]).bind fun r4 =>
 if (oneS r4.r) = true then
 next1 ⟨[.yld, (.mb [r4.r]), (.rp [(SVal.cell s1.k2 0)])], (s1.out ++ [y3]), s1.stop⟩
 else none)
 (some { r := (.tup []) }))
 (if (s1.stop) = true then
 some { r := (.tup []) }
 else
 some { r := (.tup []), out := s1.out })
 (none)) k ⟨[.yld, (.mb [x1]), (.rp [x2])], [], false⟩
theorem r132 (T : TT) (k : Nat) (x1 x2 : SVal) : bodyE P H T k 132 [.yld, (.mb [x1]), (.rp [x2])] = R132 T k x1 x2 := by kernel_rfl
noncomputable def D132 (T : TT) (k : Nat) : List SVal → Option Res
  | [.yld, (.mb [x1]), (.rp [x2])] => R132 T k x1 x2
  | a => bodyE P H T k 132 a
theorem d132 (T : TT) (k : Nat) (a : List SVal) : D132 T k a = bodyE P H T k 132 a := by
  unfold D132
  split
  · exact (r132 ..).symm
  · rfl
theorem t132 (k : Nat) (x1 x2 : SVal) : T (k + 1) 132 [.yld, (.mb [x1]), (.rp [x2])] = R132 (T k) k x1 x2 := (tb k 132 _ rfl).trans (r132 ..)
/-- limelight/flat.Parent -/
def R133 (T : TT) (k : Nat) (x0 x1 : SVal) : Option Res :=
 (T 78 [(weak x0), x1]).bind fun r1 =>
 (sNot r1.r).bind fun r2 =>
 pickC r2
 (some { r := (.int .i64 (-1)) })
 ((T 174 [(weak x0), x1]).bind fun r3 =>
 ((sBin .neq r3.r (.int .i64 (-1))).bind fun r4 =>
 guardX r4 true
 ((T 80 [(weak x0), r3.r]).bind fun r5 =>
 (T 70 [(weak r5.r), x1]).bind fun r6 =>
 (asB r6.r).bind fun b7 =>
 some [b7])
 (some [false])
 (none)).bind fun vs8 =>
 pickC (.bool (vs8.getD 0 false))
 (some { r := r3.r })
 (some { r := (.int .i64 (-1)) }))
theorem r133 (T : TT) (k : Nat) (x0 x1 : SVal) : bodyE P H T k 133 [x0, x1] = R133 T k x0 x1 := by kernel_rfl
noncomputable def D133 (T : TT) (k : Nat) : List SVal → Option Res
  | [x0, x1] => R133 T k x0 x1
  | a => bodyE P H T k 133 a
theorem d133 (T : TT) (k : Nat) (a : List SVal) : D133 T k a = bodyE P H T k 133 a := by
  unfold D133
  split
  · exact (r133 ..).symm
  · rfl
theorem t133 (k : Nat) (x0 x1 : SVal) : T (k + 1) 133 [x0, x1] = R133 (T k) k x0 x1 := (tb k 133 _ rfl).trans (r133 ..)
/-- slices.IndexFunc[[]limelight/api.Attr,limelight/api.Attr] -/
def R134 (T : TT) (k : Nat) (x0 x1 : SVal) : Option Res :=
 (sLen x0).bind fun r1 =>
 loopN (fun s2 next2 =>
 (sBin .lss s2.k3 s2.k2).bind fun r3 =>
 pickC r3
 ((sIdx true 2 s2.k0 s2.k3).bind fun e4 =>
 (callV H T s2.k1 [(.agg [(SVal.cell e4 0), (SVal.cell e4 1)])]).bind fun y5 =>
 pickC y5
 (some { r := s2.k3 })
 ((sBin .add s2.k3 (.int .i64 1)).bind fun r6 =>
 next2 ⟨[(weak s2.k0), s2.k1, s2.k2, r6], [], false⟩))
 (some { r := (.int .i64 (-1)) })) k ⟨[(weak x0), x1, r1, (.int .i64 0)], [], false⟩
theorem r134 (T : TT) (k : Nat) (x0 x1 : SVal) : bodyE P H T k 134 [x0, x1] = R134 T k x0 x1 := by kernel_rfl
noncomputable def D134 (T : TT) (k : Nat) : List SVal → Option Res
  | [x0, x1] => R134 T k x0 x1
  | a => bodyE P H T k 134 a
theorem d134 (T : TT) (k : Nat) (a : List SVal) : D134 T k a = bodyE P H T k 134 a := by
  unfold D134
  split
  · exact (r134 ..).symm
  · rfl
theorem t134 (k : Nat) (x0 x1 : SVal) : T (k + 1) 134 [x0, x1] = R134 (T k) k x0 x1 := (tb k 134 _ rfl).trans (r134 ..)
/-- limelight/attr.at$1 -/
def R135 (T : TT) (k : Nat) (x0a x0b x1 : SVal) : Option Res :=
 (sBin .eql x0a x1).bind fun r1 =>
 some { r := r1 }
theorem r135 (T : TT) (k : Nat) (x0a x0b x1 : SVal) : bodyE P H T k 135 [(.agg [x0a, x0b]), (.rp [x1])] = R135 T k x0a x0b x1 := by kernel_rfl
noncomputable def D135 (T : TT) (k : Nat) : List SVal → Option Res
  | [(.agg [x0a, x0b]), (.rp [x1])] => R135 T k x0a x0b x1
  | a => bodyE P H T k 135 a
theorem d135 (T : TT) (k : Nat) (a : List SVal) : D135 T k a = bodyE P H T k 135 a := by
  unfold D135
  split
  · exact (r135 ..).symm
  · rfl
theorem t135 (k : Nat) (x0a x0b x1 : SVal) : T (k + 1) 135 [(.agg [x0a, x0b]), (.rp [x1])] = R135 (T k) k x0a x0b x1 := (tb k 135 _ rfl).trans (r135 ..)
/-- limelight/limelightref05.Assigned -/
def R136 (T : TT) (k : Nat) (x0 x1 : SVal) : Option Res :=
 (T 64 [(weak x0), x1]).bind fun r1 =>
 (sNot r1.r).bind fun r2 =>
 pickC r2
 (some { r := (.sl 1 false false []) })
 ((T 104 [(weak x0), x1]).bind fun r3 =>
 (sIdx true 7 x0 r3.r).bind fun e4 =>
 loopN (fun s5 next5 =>
 (sIdx true 7 s5.k0 s5.k3).bind fun e6 =>
 (sLen (SVal.cell e6 3)).bind fun r7 =>
 (sBin .lss s5.k4 r7).bind fun r8 =>
 pickC r8
 ((sIdx true 7 s5.k0 s5.k3).bind fun e9 =>
 (sIdx false 1 (SVal.cell e9 3) s5.k4).bind fun e10 =>
 (T 175 [(weak s5.k0), e10]).bind fun r11 =>
 (sBin .eql r11.r s5.k1).bind fun r12 =>
 pickC r12
 ((sIdx true 7 s5.k0 s5.k3).bind fun e13 =>
 (sIdx false 1 (SVal.cell e13 3) s5.k4).bind fun e14 =>
 if (List.all [[.v e14]] allOne) = true then
 if (s5.k2.xs.length + ([e14] : List SVal).length) * 8 ≤ maxAppend then
 (sBin .add s5.k4 (.int .i64 1)).bind fun r15 =>
 next5 ⟨[(weak s5.k0), s5.k1, (.sl 1 true false (s5.k2.xs ++ ([e14] : List SVal))), s5.k3, r15], [], false⟩
 else none
 else none)
 ((sBin .add s5.k4 (.int .i64 1)).bind fun r16 =>
 next5 ⟨[(weak s5.k0), s5.k1, (.sl 1 true false s5.k2.xs), s5.k3, r16], [], false⟩))
 (some { r := (.sl 1 false false s5.k2.xs) })) k ⟨[(weak x0), x1, (.sl 1 true false []), (SVal.cell e4 4), (.int .i64 0)], [], false⟩)
theorem r136 (T : TT) (k : Nat) (x0 x1 : SVal) : bodyE P H T k 136 [x0, x1] = R136 T k x0 x1 := by kernel_rfl
theorem t136 (k : Nat) (x0 x1 : SVal) : T (k + 1) 136 [x0, x1] = R136 (T k) k x0 x1 := (tb k 136 _ rfl).trans (r136 ..)
/-- limelight/limelightref11.Own -/
def R137 (T : TT) (k : Nat) (x0a x0b x0c x0d x0e x1 : SVal) : Option Res :=
 (T 131 [(weak x0a), x1, (.int .i64 2)]).bind fun r1 =>
 pickC r1.r
 (some { r := (.bool false) })
 (((T 27 [(weak x0b), x1]).bind fun r2 =>
 if isSc1 r2.r = true then
 guardX r2.r false
 ((T 27 [(weak x0c), x1]).bind fun r3 =>
 if isSc1 r3.r = true then
 (asB r3.r).bind fun b4 =>
 some [b4]
 else none)
 (some [true])
 (none)
 else none).bind fun vs5 =>
 pickC (.bool (vs5.getD 0 false))
 (some { r := (.bool true) })
 ((sIdx true 7 x0a x1).bind fun e6 =>
 (sBin .eql (SVal.cell e6 1) (.int .i64 2)).bind fun r7 =>
 pickC r7
 (some { r := (.bool false) })
 (((T 131 [(weak x0a), x1, (.int .i64 6)]).bind fun r8 =>
 (sNot r8.r).bind fun r9 =>
 guardX r9 false
 ((T 32 [(weak x0d)]).bind fun r10 =>
 (T 27 [(weak r10.r), x1]).bind fun r11 =>
 if isSc1 r11.r = true then
 (asB r11.r).bind fun b12 =>
 some [b12]
 else none)
 (some [true])
 (none)).bind fun vs13 =>
 some { r := (.bool (vs13.getD 0 false)) })))
theorem r137 (T : TT) (k : Nat) (x0a x0b x0c x0d x0e x1 : SVal) : bodyE P H T k 137 [(.agg [x0a, x0b, x0c, x0d, x0e]), x1] = R137 T k x0a x0b x0c x0d x0e x1 := by kernel_rfl
theorem t137 (k : Nat) (x0a x0b x0c x0d x0e x1 : SVal) : T (k + 1) 137 [(.agg [x0a, x0b, x0c, x0d, x0e]), x1] = R137 (T k) k x0a x0b x0c x0d x0e x1 := (tb k 137 _ rfl).trans (r137 ..)
/-- limelight/limelightref06.Has -/
def R138 (T : TT) (k : Nat) (x0 x1 : SVal) : Option Res :=
 (T 30 [(weak x0), x1]).bind fun r1 =>
 (T 27 [(weak r1.r), (.int .i64 0)]).bind fun r2 =>
 if isSc1 r2.r = true then
 some { r := r2.r }
 else none
theorem r138 (T : TT) (k : Nat) (x0 x1 : SVal) : bodyE P H T k 138 [x0, x1] = R138 T k x0 x1 := by kernel_rfl
theorem t138 (k : Nat) (x0 x1 : SVal) : T (k + 1) 138 [x0, x1] = R138 (T k) k x0 x1 := (tb k 138 _ rfl).trans (r138 ..)
/-- limelight/limelightref12.Blocked -/
def R139 (T : TT) (k : Nat) (x0a x0b x0c x0d x0e x1 : SVal) : Option Res :=
 (T 40 [(.agg [(weak x0a), (weak x0b), (weak x0c), (weak x0d), (weak x0e)])]).bind fun r1 =>
 ((sBin .neq x1 (.int .i64 0)).bind fun r2 =>
 guardX r2 true
 ((sBin .neq r1.r (.int .i64 (-1))).bind fun r3 =>
 guardX r3 true
 ((T 33 [(weak x0a), r1.r, x1]).bind fun r4 =>
 (sNot r4.r).bind fun r5 =>
 (asB r5).bind fun b6 =>
 some [b6])
 (some [false])
 (none))
 (some [false])
 (none)).bind fun vs7 =>
 some { r := (.bool (vs7.getD 0 false)) }
theorem r139 (T : TT) (k : Nat) (x0a x0b x0c x0d x0e x1 : SVal) : bodyE P H T k 139 [(.agg [x0a, x0b, x0c, x0d, x0e]), x1] = R139 T k x0a x0b x0c x0d x0e x1 := by kernel_rfl
theorem t139 (k : Nat) (x0a x0b x0c x0d x0e x1 : SVal) : T (k + 1) 139 [(.agg [x0a, x0b, x0c, x0d, x0e]), x1] = R139 (T k) k x0a x0b x0c x0d x0e x1 := (tb k 139 _ rfl).trans (r139 ..)
/-- limelight/limelightref03.Up -/
def R140 (T : TT) (k : Nat) (x0 x1 : SVal) : Option Res :=
 loopN (fun s1 next1 =>
 (sBin .neq s1.k1 (.int .i64 (-1))).bind fun r2 =>
 pickC r2
 (if (List.all [[.v s1.k1]] allOne) = true then
 if (s1.k2.xs.length + ([s1.k1] : List SVal).length) * 8 ≤ maxAppend then
 (sIdx true 7 s1.k0 s1.k1).bind fun e3 =>
 next1 ⟨[(weak s1.k0), (SVal.cell e3 2), (.sl 1 true false (s1.k2.xs ++ ([s1.k1] : List SVal)))], [], false⟩
 else none
 else none)
 (some { r := (.sl 1 false false s1.k2.xs) })) k ⟨[(weak x0), x1, (.sl 1 true false [])], [], false⟩
theorem r140 (T : TT) (k : Nat) (x0 x1 : SVal) : bodyE P H T k 140 [x0, x1] = R140 T k x0 x1 := by kernel_rfl
theorem t140 (k : Nat) (x0 x1 : SVal) : T (k + 1) 140 [x0, x1] = R140 (T k) k x0 x1 := (tb k 140 _ rfl).trans (r140 ..)
/-- limelight/tree.may -/
def R141 (T : TT) (k : Nat) (x0 : SVal) : Option Res :=
 (sLen x0).bind fun r1 =>
 (T 176 [r1, (.int .i64 1), (.int .i64 64)]).bind fun r2 =>
 (sNot r2.r).bind fun r3 =>
 pickC r3
 (some { r := (.bool false) })
 ((sLen x0).bind fun r4 =>
 loopN (fun s5 next5 =>
 (sBin .lss s5.k2 s5.k1).bind fun r6 =>
 pickC r6
 ((T 177 [(weak s5.k0), s5.k2]).bind fun r7 =>
 (sNot r7.r).bind fun r8 =>
 pickC r8
 (some { r := (.bool false) })
 ((sBin .add s5.k2 (.int .i64 1)).bind fun r9 =>
 next5 ⟨[(weak s5.k0), s5.k1, r9], [], false⟩))
 ((sLen s5.k0).bind fun r10 =>
 loopN (fun s11 next11 =>
 (sBin .lss s11.k2 s11.k1).bind fun r12 =>
 pickC r12
 ((T 178 [(weak s11.k0), s11.k2]).bind fun r13 =>
 pickC r13.r
 (some { r := (.bool false) })
 ((sBin .add s11.k2 (.int .i64 1)).bind fun r14 =>
 next11 ⟨[(weak s11.k0), s11.k1, r14], [], false⟩))
 (some { r := (.bool true) })) k ⟨[(weak s5.k0), r10, (.int .i64 0)], [], false⟩)) k ⟨[(weak x0), r4, (.int .i64 0)], [], false⟩)
theorem r141 (T : TT) (k : Nat) (x0 : SVal) : bodyE P H T k 141 [x0] = R141 T k x0 := by kernel_rfl
noncomputable def D141 (T : TT) (k : Nat) : List SVal → Option Res
  | [x0] => R141 T k x0
  | a => bodyE P H T k 141 a
theorem d141 (T : TT) (k : Nat) (a : List SVal) : D141 T k a = bodyE P H T k 141 a := by
  unfold D141
  split
  · exact (r141 ..).symm
  · rfl
theorem t141 (k : Nat) (x0 : SVal) : T (k + 1) 141 [x0] = R141 (T k) k x0 := (tb k 141 _ rfl).trans (r141 ..)
/-- limelight/top.only[int] -/
def R142 (T : TT) (k : Nat) (x0 x1 : SVal) : Option Res :=
 (sLen x0).bind fun r1 =>
 loopN (fun s2 next2 =>
 (sBin .lss s2.k5 s2.k4).bind fun r3 =>
 pickC r3
 ((sIdx false 1 s2.k3 s2.k5).bind fun e4 =>
 (callV H T s2.k0 [e4]).bind fun y5 =>
 pickC y5
 (if (List.all [[.v e4]] allOne) = true then
 if (s2.k1.xs.length + ([e4] : List SVal).length) * 8 ≤ maxAppend then
 (sBin .add s2.k5 (.int .i64 1)).bind fun r6 =>
 next2 ⟨[s2.k0, (.sl 1 true false (s2.k1.xs ++ ([e4] : List SVal))), (.sl 1 true false s2.k2.xs), (weak s2.k3), s2.k4, r6], [], false⟩
 else none
 else none)
 (if (List.all [[.v e4]] allOne) = true then
 if (s2.k2.xs.length + ([e4] : List SVal).length) * 8 ≤ maxAppend then
 (sBin .add s2.k5 (.int .i64 1)).bind fun r7 =>
 next2 ⟨[s2.k0, (.sl 1 true false s2.k1.xs), (.sl 1 true false (s2.k2.xs ++ ([e4] : List SVal))), (weak s2.k3), s2.k4, r7], [], false⟩
 else none
 else none))
 (some { r := (.tup [(.sl 1 false false s2.k1.xs), (.sl 1 false false s2.k2.xs)]) })) k ⟨[x1, (.sl 1 true false []), (.sl 1 true false []), (weak x0), r1, (.int .i64 0)], [], false⟩
theorem r142 (T : TT) (k : Nat) (x0 x1 : SVal) : bodyE P H T k 142 [x0, x1] = R142 T k x0 x1 := by kernel_rfl
noncomputable def D142 (T : TT) (k : Nat) : List SVal → Option Res
  | [x0, x1] => R142 T k x0 x1
  | a => bodyE P H T k 142 a
theorem d142 (T : TT) (k : Nat) (a : List SVal) : D142 T k a = bodyE P H T k 142 a := by
  unfold D142
  split
  · exact (r142 ..).symm
  · rfl
theorem t142 (k : Nat) (x0 x1 : SVal) : T (k + 1) 142 [x0, x1] = R142 (T k) k x0 x1 := (tb k 142 _ rfl).trans (r142 ..)
/-- slices.Concat[[]int,int] -/
def R143 (T : TT) (k : Nat) (x0 : SVal) : Option Res :=
 (sLen x0).bind fun r1 =>
 loopN (fun s2 next2 =>
 (sBin .lss s2.k4 s2.k3).bind fun r3 =>
 pickC r3
 ((sIdx false 1 s2.k2 s2.k4).bind fun e4 =>
 (sLen e4).bind fun r5 =>
 (sBin .add s2.k1 r5).bind fun r6 =>
 (sBin .lss r6 (.int .i64 0)).bind fun r7 =>
 pickC r7
 (none)
 ((sBin .add s2.k4 (.int .i64 1)).bind fun r8 =>
 next2 ⟨[(weak s2.k0), r6, (weak s2.k2), s2.k3, r8], [], false⟩))
 ((T 179 [(.sl 1 false true []), s2.k1]).bind fun r9 =>
 (sLen s2.k0).bind fun r10 =>
 loopN (fun s11 next11 =>
 (sBin .lss s11.k3 s11.k2).bind fun r12 =>
 pickC r12
 ((sIdx false 1 s11.k1 s11.k3).bind fun e13 =>
 (elems 1 e13).bind fun ys14 =>
 if (s11.k0.xs.length + ys14.length) * 8 ≤ maxAppend then
 (sBin .add s11.k3 (.int .i64 1)).bind fun r15 =>
 next11 ⟨[(.sl 1 true false (s11.k0.xs ++ ys14)), (weak s11.k1), s11.k2, r15], [], false⟩
 else none)
 (some { r := (.sl 1 false false s11.k0.xs) })) k ⟨[(.sl 1 true false r9.r.xs), (weak s2.k0), r10, (.int .i64 0)], [], false⟩)) k ⟨[(weak x0), (.int .i64 0), (weak x0), r1, (.int .i64 0)], [], false⟩
theorem r143 (T : TT) (k : Nat) (x0 : SVal) : bodyE P H T k 143 [x0] = R143 T k x0 := by kernel_rfl
noncomputable def D143 (T : TT) (k : Nat) : List SVal → Option Res
  | [x0] => R143 T k x0
  | a => bodyE P H T k 143 a
theorem d143 (T : TT) (k : Nat) (a : List SVal) : D143 T k a = bodyE P H T k 143 a := by
  unfold D143
  split
  · exact (r143 ..).symm
  · rfl
theorem t143 (k : Nat) (x0 : SVal) : T (k + 1) 143 [x0] = R143 (T k) k x0 := (tb k 143 _ rfl).trans (r143 ..)
/-- limelight/top.may$1 -/
def R144 (T : TT) (k : Nat) (x0 x1 : SVal) : Option Res :=
 (T 145 [(weak x1), x0]).bind fun r1 =>
 some { r := r1.r }
theorem r144 (T : TT) (k : Nat) (x0 x1 : SVal) : bodyE P H T k 144 [x0, (.rp [x1])] = R144 T k x0 x1 := by kernel_rfl
noncomputable def D144 (T : TT) (k : Nat) : List SVal → Option Res
  | [x0, (.rp [x1])] => R144 T k x0 x1
  | a => bodyE P H T k 144 a
theorem d144 (T : TT) (k : Nat) (a : List SVal) : D144 T k a = bodyE P H T k 144 a := by
  unfold D144
  split
  · exact (r144 ..).symm
  · rfl
theorem t144 (k : Nat) (x0 x1 : SVal) : T (k + 1) 144 [x0, (.rp [x1])] = R144 (T k) k x0 x1 := (tb k 144 _ rfl).trans (r144 ..)
/-- limelight/top.dialog -/
def R145 (T : TT) (k : Nat) (x0 x1 : SVal) : Option Res :=
 ((T 180 [(weak x0), x1]).bind fun r1 =>
 guardX r1.r true
 ((sIdx true 7 x0 x1).bind fun e2 =>
 (sBin .eql (SVal.cell e2 1) (.int .i64 2)).bind fun r3 =>
 (asB r3).bind fun b4 =>
 some [b4])
 (some [false])
 (none)).bind fun vs5 =>
 some { r := (.bool (vs5.getD 0 false)) }
theorem r145 (T : TT) (k : Nat) (x0 x1 : SVal) : bodyE P H T k 145 [x0, x1] = R145 T k x0 x1 := by kernel_rfl
noncomputable def D145 (T : TT) (k : Nat) : List SVal → Option Res
  | [x0, x1] => R145 T k x0 x1
  | a => bodyE P H T k 145 a
theorem d145 (T : TT) (k : Nat) (a : List SVal) : D145 T k a = bodyE P H T k 145 a := by
  unfold D145
  split
  · exact (r145 ..).symm
  · rfl
theorem t145 (k : Nat) (x0 x1 : SVal) : T (k + 1) 145 [x0, x1] = R145 (T k) k x0 x1 := (tb k 145 _ rfl).trans (r145 ..)
/-- limelight/top.only[limelight/api.Shown] -/
def R146 (T : TT) (k : Nat) (x0 x1 : SVal) : Option Res :=
 (sLen x0).bind fun r1 =>
 loopN (fun s2 next2 =>
 (sBin .lss s2.k5 s2.k4).bind fun r3 =>
 pickC r3
 ((sIdx true 2 s2.k3 s2.k5).bind fun e4 =>
 if (allOne [.v (SVal.cell e4 0), .v (SVal.cell e4 1)]) = true then
 (callV H T s2.k0 [(.agg [(SVal.cell e4 0), (SVal.cell e4 1)])]).bind fun y5 =>
 pickC y5
 (if (List.all [[.v (SVal.cell e4 0), .v (SVal.cell e4 1)]] allOne) = true then
 if (s2.k1.xs.length + ([(.agg [(weak (SVal.cell e4 0)), (weak (SVal.cell e4 1))])] : List SVal).length) * 16 ≤ maxAppend then
 (sBin .add s2.k5 (.int .i64 1)).bind fun r6 =>
 next2 ⟨[s2.k0, (.sl 2 true false (s2.k1.xs ++ ([(.agg [(weak (SVal.cell e4 0)), (weak (SVal.cell e4 1))])] : List SVal))), (.sl 2 true false s2.k2.xs), (weak s2.k3), s2.k4, r6], [], false⟩
 else none
 else none)
 (if (List.all [[.v (SVal.cell e4 0), .v (SVal.cell e4 1)]] allOne) = true then
 if (s2.k2.xs.length + ([(.agg [(weak (SVal.cell e4 0)), (weak (SVal.cell e4 1))])] : List SVal).length) * 16 ≤ maxAppend then
 (sBin .add s2.k5 (.int .i64 1)).bind fun r7 =>
 next2 ⟨[s2.k0, (.sl 2 true false s2.k1.xs), (.sl 2 true false (s2.k2.xs ++ ([(.agg [(weak (SVal.cell e4 0)), (weak (SVal.cell e4 1))])] : List SVal))), (weak s2.k3), s2.k4, r7], [], false⟩
 else none
 else none)
 else none)
 (some { r := (.tup [(.sl 2 true false s2.k1.xs), (.sl 2 false false s2.k2.xs)]) })) k ⟨[x1, (.sl 2 true false []), (.sl 2 true false []), (weak x0), r1, (.int .i64 0)], [], false⟩
theorem r146 (T : TT) (k : Nat) (x0 x1 : SVal) : bodyE P H T k 146 [x0, x1] = R146 T k x0 x1 := by kernel_rfl
noncomputable def D146 (T : TT) (k : Nat) : List SVal → Option Res
  | [x0, x1] => R146 T k x0 x1
  | a => bodyE P H T k 146 a
theorem d146 (T : TT) (k : Nat) (a : List SVal) : D146 T k a = bodyE P H T k 146 a := by
  unfold D146
  split
  · exact (r146 ..).symm
  · rfl
theorem t146 (k : Nat) (x0 x1 : SVal) : T (k + 1) 146 [x0, x1] = R146 (T k) k x0 x1 := (tb k 146 _ rfl).trans (r146 ..)
/-- limelight/top.may$2 -/
def R147 (T : TT) (k : Nat) (x0a x0b x1 : SVal) : Option Res :=
 ((T 148 [(weak x1), x0a]).bind fun r1 =>
 guardX r1.r true
 ((sBin .eql x0b (.int .i64 (-1))).bind fun r2 =>
 guardX r2 false
 ((T 149 [(weak x1), x0b]).bind fun r3 =>
 (asB r3.r).bind fun b4 =>
 some [b4])
 (some [true])
 (none))
 (some [false])
 (none)).bind fun vs5 =>
 some { r := (.bool (vs5.getD 0 false)) }
theorem r147 (T : TT) (k : Nat) (x0a x0b x1 : SVal) : bodyE P H T k 147 [(.agg [x0a, x0b]), (.rp [x1])] = R147 T k x0a x0b x1 := by kernel_rfl
noncomputable def D147 (T : TT) (k : Nat) : List SVal → Option Res
  | [(.agg [x0a, x0b]), (.rp [x1])] => R147 T k x0a x0b x1
  | a => bodyE P H T k 147 a
theorem d147 (T : TT) (k : Nat) (a : List SVal) : D147 T k a = bodyE P H T k 147 a := by
  unfold D147
  split
  · exact (r147 ..).symm
  · rfl
theorem t147 (k : Nat) (x0a x0b x1 : SVal) : T (k + 1) 147 [(.agg [x0a, x0b]), (.rp [x1])] = R147 (T k) k x0a x0b x1 := (tb k 147 _ rfl).trans (r147 ..)
/-- limelight/top.popup -/
def R148 (T : TT) (k : Nat) (x0 x1 : SVal) : Option Res :=
 ((T 180 [(weak x0), x1]).bind fun r1 =>
 guardX r1.r true
 ((T 181 [(weak x0), x1, (.int .i64 6)]).bind fun r2 =>
 (asB r2.r).bind fun b3 =>
 some [b3])
 (some [false])
 (none)).bind fun vs4 =>
 some { r := (.bool (vs4.getD 0 false)) }
theorem r148 (T : TT) (k : Nat) (x0 x1 : SVal) : bodyE P H T k 148 [x0, x1] = R148 T k x0 x1 := by kernel_rfl
noncomputable def D148 (T : TT) (k : Nat) : List SVal → Option Res
  | [x0, x1] => R148 T k x0 x1
  | a => bodyE P H T k 148 a
theorem d148 (T : TT) (k : Nat) (a : List SVal) : D148 T k a = bodyE P H T k 148 a := by
  unfold D148
  split
  · exact (r148 ..).symm
  · rfl
theorem t148 (k : Nat) (x0 x1 : SVal) : T (k + 1) 148 [x0, x1] = R148 (T k) k x0 x1 := (tb k 148 _ rfl).trans (r148 ..)
/-- limelight/top.is -/
def R149 (T : TT) (k : Nat) (x0 x1 : SVal) : Option Res :=
 ((sBin .geq x1 (.int .i64 0)).bind fun r1 =>
 guardX r1 true
 ((sLen x0).bind fun r2 =>
 (sBin .lss x1 r2).bind fun r3 =>
 (asB r3).bind fun b4 =>
 some [b4])
 (some [false])
 (none)).bind fun vs5 =>
 some { r := (.bool (vs5.getD 0 false)) }
theorem r149 (T : TT) (k : Nat) (x0 x1 : SVal) : bodyE P H T k 149 [x0, x1] = R149 T k x0 x1 := by kernel_rfl
noncomputable def D149 (T : TT) (k : Nat) : List SVal → Option Res
  | [x0, x1] => R149 T k x0 x1
  | a => bodyE P H T k 149 a
theorem d149 (T : TT) (k : Nat) (a : List SVal) : D149 T k a = bodyE P H T k 149 a := by
  unfold D149
  split
  · exact (r149 ..).symm
  · rfl
theorem t149 (k : Nat) (x0 x1 : SVal) : T (k + 1) 149 [x0, x1] = R149 (T k) k x0 x1 := (tb k 149 _ rfl).trans (r149 ..)
/-- limelight/top.high -/
def R150 (T : TT) (k : Nat) (x0a x0b x0c x0d x0e : SVal) : Option Res :=
 (T 182 [(weak x0d), (.fn 183 [])]).bind fun r1 =>
 if (List.all [[.v x0c], [.v r1.r]] allOne) = true then
 (T 143 [(.sl 1 false false [x0c, r1.r])]).bind fun r2 =>
 some { r := (weak r2.r) }
 else none
theorem r150 (T : TT) (k : Nat) (x0a x0b x0c x0d x0e : SVal) : bodyE P H T k 150 [(.agg [x0a, x0b, x0c, x0d, x0e])] = R150 T k x0a x0b x0c x0d x0e := by kernel_rfl
noncomputable def D150 (T : TT) (k : Nat) : List SVal → Option Res
  | [(.agg [x0a, x0b, x0c, x0d, x0e])] => R150 T k x0a x0b x0c x0d x0e
  | a => bodyE P H T k 150 a
theorem d150 (T : TT) (k : Nat) (a : List SVal) : D150 T k a = bodyE P H T k 150 a := by
  unfold D150
  split
  · exact (r150 ..).symm
  · rfl
theorem t150 (k : Nat) (x0a x0b x0c x0d x0e : SVal) : T (k + 1) 150 [(.agg [x0a, x0b, x0c, x0d, x0e])] = R150 (T k) k x0a x0b x0c x0d x0e := (tb k 150 _ rfl).trans (r150 ..)
/-- slices.Sorted[int] -/
def R151 (T : TT) (k : Nat) (x0 : SVal) : Option Res :=
 (T 66 [x0]).bind fun r1 =>
 (T 184 [(.sl 1 true false r1.r.xs)]).bind fun r2 =>
 some { r := (.sl 1 false false ((r2.outs.headD .undef).xs)) }
theorem r151 (T : TT) (k : Nat) (x0 : SVal) : bodyE P H T k 151 [x0] = R151 T k x0 := by kernel_rfl
noncomputable def D151 (T : TT) (k : Nat) : List SVal → Option Res
  | [x0] => R151 T k x0
  | a => bodyE P H T k 151 a
theorem d151 (T : TT) (k : Nat) (a : List SVal) : D151 T k a = bodyE P H T k 151 a := by
  unfold D151
  split
  · exact (r151 ..).symm
  · rfl
theorem t151 (k : Nat) (x0 : SVal) : T (k + 1) 151 [x0] = R151 (T k) k x0 := (tb k 151 _ rfl).trans (r151 ..)
/-- slices.Values[[]int,int] -/
def R152 (T : TT) (k : Nat) (x0 : SVal) : Option Res :=
 if (oneS x0) = true then
 some { r := (.fn 185 [(.rp [x0])]) }
 else none
theorem r152 (T : TT) (k : Nat) (x0 : SVal) : bodyE P H T k 152 [x0] = R152 T k x0 := by kernel_rfl
noncomputable def D152 (T : TT) (k : Nat) : List SVal → Option Res
  | [x0] => R152 T k x0
  | a => bodyE P H T k 152 a
theorem d152 (T : TT) (k : Nat) (a : List SVal) : D152 T k a = bodyE P H T k 152 a := by
  unfold D152
  split
  · exact (r152 ..).symm
  · rfl
theorem t152 (k : Nat) (x0 : SVal) : T (k + 1) 152 [x0] = R152 (T k) k x0 := (tb k 152 _ rfl).trans (r152 ..)
/-- slices.Equal[[]int,int] -/
def R154 (T : TT) (k : Nat) (x0 x1 : SVal) : Option Res :=
 (sLen x0).bind fun r1 =>
 (sLen x1).bind fun r2 =>
 (sBin .neq r1 r2).bind fun r3 =>
 pickC r3
 (some { r := (.bool false) })
 ((sLen x0).bind fun r4 =>
 loopN (fun s5 next5 =>
 (sBin .lss s5.k3 s5.k2).bind fun r6 =>
 pickC r6
 ((sIdx false 1 s5.k0 s5.k3).bind fun e7 =>
 (sIdx false 1 s5.k1 s5.k3).bind fun e8 =>
 (sBin .neq e7 e8).bind fun r9 =>
 pickC r9
 (some { r := (.bool false) })
 ((sBin .add s5.k3 (.int .i64 1)).bind fun r10 =>
 next5 ⟨[(weak s5.k0), (weak s5.k1), s5.k2, r10], [], false⟩))
 (some { r := (.bool true) })) k ⟨[(weak x0), (weak x1), r4, (.int .i64 0)], [], false⟩)
theorem r154 (T : TT) (k : Nat) (x0 x1 : SVal) : bodyE P H T k 154 [x0, x1] = R154 T k x0 x1 := by kernel_rfl
noncomputable def D154 (T : TT) (k : Nat) : List SVal → Option Res
  | [x0, x1] => R154 T k x0 x1
  | a => bodyE P H T k 154 a
theorem d154 (T : TT) (k : Nat) (a : List SVal) : D154 T k a = bodyE P H T k 154 a := by
  unfold D154
  split
  · exact (r154 ..).symm
  · rfl
theorem t154 (k : Nat) (x0 x1 : SVal) : T (k + 1) 154 [x0, x1] = R154 (T k) k x0 x1 := (tb k 154 _ rfl).trans (r154 ..)
/-- limelight/tabs.one -/
def R155 (T : TT) (k : Nat) (x0a x0b x0c x0d x0e x1 : SVal) : Option Res :=
 (T 45 [(.agg [(weak x0a), (weak x0b), (weak x0c), (weak x0d), (weak x0e)]), x1]).bind fun r1 =>
 guardX r1.r true
 ((notTup x1).bind fun y2 =>
 both
 ((T 109 [(.agg [(weak x0a), (weak x0b), (weak x0c), (weak x0d), (weak x0e)]), x1, .yld]).bind fun r3 =>
 both
 (some { r := r3.r, out := (([] ++ [y2]) ++ r3.out) })
 (some { r := (.bool false) }))
 (some { r := (.bool false) }))
 ((T 109 [(.agg [(weak x0a), (weak x0b), (weak x0c), (weak x0d), (weak x0e)]), x1, .yld]).bind fun r4 =>
 both
 (some { r := r4.r, out := ([] ++ r4.out) })
 (some { r := (.bool false) }))
 (none)
theorem r155 (T : TT) (k : Nat) (x0a x0b x0c x0d x0e x1 : SVal) : bodyE P H T k 155 [(.agg [x0a, x0b, x0c, x0d, x0e]), x1, .yld] = R155 T k x0a x0b x0c x0d x0e x1 := by kernel_rfl
noncomputable def D155 (T : TT) (k : Nat) : List SVal → Option Res
  | [(.agg [x0a, x0b, x0c, x0d, x0e]), x1, .yld] => R155 T k x0a x0b x0c x0d x0e x1
  | a => bodyE P H T k 155 a
theorem d155 (T : TT) (k : Nat) (a : List SVal) : D155 T k a = bodyE P H T k 155 a := by
  unfold D155
  split
  · exact (r155 ..).symm
  · rfl
theorem t155 (k : Nat) (x0a x0b x0c x0d x0e x1 : SVal) : T (k + 1) 155 [(.agg [x0a, x0b, x0c, x0d, x0e]), x1, .yld] = R155 (T k) k x0a x0b x0c x0d x0e x1 := (tb k 155 _ rfl).trans (r155 ..)
/-- limelight/order.all -/
def R156 (T : TT) (k : Nat) (x0 x1 : SVal) : Option Res :=
 if (oneS x0) = true then
 ((T 105 [(weak x0)]).bind fun r1 =>
 (sBin .eql r1.r (.int .i64 0)).bind fun r2 =>
 guardX r2 true
 ((T 187 [(weak x1), (.fn 188 [(.rp [x0])])]).bind fun r3 =>
 (sNot r3.r).bind fun r4 =>
 (asB r4).bind fun b5 =>
 some [b5])
 (some [false])
 (none)).bind fun vs6 =>
 some { r := (.bool (vs6.getD 0 false)) }
 else none
theorem r156 (T : TT) (k : Nat) (x0 x1 : SVal) : bodyE P H T k 156 [x0, x1] = R156 T k x0 x1 := by kernel_rfl
noncomputable def D156 (T : TT) (k : Nat) : List SVal → Option Res
  | [x0, x1] => R156 T k x0 x1
  | a => bodyE P H T k 156 a
theorem d156 (T : TT) (k : Nat) (a : List SVal) : D156 T k a = bodyE P H T k 156 a := by
  unfold D156
  split
  · exact (r156 ..).symm
  · rfl
theorem t156 (k : Nat) (x0 x1 : SVal) : T (k + 1) 156 [x0, x1] = R156 (T k) k x0 x1 := (tb k 156 _ rfl).trans (r156 ..)
/-- limelight/order.up -/
def R157 (T : TT) (k : Nat) (x0 x1 : SVal) : Option Res :=
 if (oneS x0) = true then
 if (oneS x1) = true then
 some { r := (.fn 189 [(.mb [x1]), (.rp [x0])]) }
 else none
 else none
theorem r157 (T : TT) (k : Nat) (x0 x1 : SVal) : bodyE P H T k 157 [x0, x1] = R157 T k x0 x1 := by kernel_rfl
noncomputable def D157 (T : TT) (k : Nat) : List SVal → Option Res
  | [x0, x1] => R157 T k x0 x1
  | a => bodyE P H T k 157 a
theorem d157 (T : TT) (k : Nat) (a : List SVal) : D157 T k a = bodyE P H T k 157 a := by
  unfold D157
  split
  · exact (r157 ..).symm
  · rfl
theorem t157 (k : Nat) (x0 x1 : SVal) : T (k + 1) 157 [x0, x1] = R157 (T k) k x0 x1 := (tb k 157 _ rfl).trans (r157 ..)
end Go.Proofs.YtjcnilaogidhlaaGreat.K
