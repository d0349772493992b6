/- What the evaluator makes of the functions, by program (wip/tr/resid.py); each equation is checked by the kernel. -/
import Derived.Test.YtcdnmiaelaombaaGreatLmAI
import Derived.Test.YtcdnmiaelaombaaGreatLmAB
import Derived.KernelRfl
set_option linter.unusedVariables false
set_option linter.unusedSimpArgs false
set_option linter.unnecessarySimpa false
set_option linter.all false
set_option maxRecDepth 100000
namespace Go.Proofs.YtcdnmiaelaombaaGreat.K
open Go Go.Lm
/-- limelight/inert.Blocked -/
def R148 (T : TT) (k : Nat) (x0a x0b x0c x0d x0e x1 : SVal) : Option Res :=
 ((T 147 [(.agg [(weak x0a), (weak x0b), (weak x0c), (weak x0d), (weak x0e)]), x1]).bind fun r1 =>
 (sNot r1.r).bind fun r2 =>
 guardX r2 false
 ((sBin .eql x1 (.int .i64 0)).bind fun r3 =>
 (asB r3).bind fun b4 =>
 some [b4])
 (some [true])
 (none)).bind fun vs5 =>
 pickC (.bool (vs5.getD 0 false))
 (some { r := (.bool false) })
 ((T 174 [(.agg [(weak x0a), (weak x0b), (weak x0c), (weak x0d), (weak x0e)])]).bind fun r6 =>
 ((sBin .neq r6.r (.int .i64 (-1))).bind fun r7 =>
 guardX r7 true
 ((T 169 [(weak x0a), r6.r, x1]).bind fun r8 =>
 (sNot r8.r).bind fun r9 =>
 (asB r9).bind fun b10 =>
 some [b10])
 (some [false])
 (none)).bind fun vs11 =>
 some { r := (.bool (vs11.getD 0 false)) })
theorem r148 (T : TT) (k : Nat) (x0a x0b x0c x0d x0e x1 : SVal) : bodyE P H T k 148 [(.agg [x0a, x0b, x0c, x0d, x0e]), x1] = R148 T k x0a x0b x0c x0d x0e x1 := by kernel_rfl
noncomputable def D148 (T : TT) (k : Nat) : List SVal → Option Res
  | [(.agg [x0a, x0b, x0c, x0d, x0e]), x1] => R148 T k x0a x0b x0c x0d x0e x1
  | a => bodyE P H T k 148 a
theorem d148 (T : TT) (k : Nat) (a : List SVal) : D148 T k a = bodyE P H T k 148 a := by
  unfold D148
  split
  · exact (r148 ..).symm
  · rfl
theorem t148 (k : Nat) (x0a x0b x0c x0d x0e x1 : SVal) : T (k + 1) 148 [(.agg [x0a, x0b, x0c, x0d, x0e]), x1] = R148 (T k) k x0a x0b x0c x0d x0e x1 := (tb k 148 _ rfl).trans (r148 ..)
/-- limelight/inert.marked -/
def R149 (T : TT) (k : Nat) (x0a x0b x0c x0d x0e x1 : SVal) : Option Res :=
 (T 174 [(.agg [(weak x0a), (weak x0b), (weak x0c), (weak x0d), (weak x0e)])]).bind fun r1 =>
 (T 144 [(weak x0a), x1]).bind fun r2 =>
 (sLen r2.r).bind fun r3 =>
 loopN (fun s4 next4 =>
 (sBin .lss s4.k5 s4.k4).bind fun r5 =>
 pickC r5
 ((sIdx false 1 s4.k3 s4.k5).bind fun e6 =>
 (T 55 [(weak (SVal.cell s4.k0 0)), e6, (.int .i64 3)]).bind fun r7 =>
 (guardX r7.r false
 ((sBin .eql e6 s4.k1).bind fun r8 =>
 (asB r8).bind fun b9 =>
 some [b9])
 (some [true])
 (none)).bind fun vs10 =>
 pickC (.bool (vs10.getD 0 false))
 (some { r := r7.r })
 ((sBin .add s4.k5 (.int .i64 1)).bind fun r11 =>
 next4 ⟨[(.rp [(SVal.cell s4.k0 0), (SVal.cell s4.k0 1), (SVal.cell s4.k0 2), (SVal.cell s4.k0 3), (SVal.cell s4.k0 4)]), s4.k1, r7.r, (weak s4.k3), s4.k4, r11], [], false⟩))
 (some { r := s4.k2 })) k ⟨[(.rp [x0a, x0b, x0c, x0d, x0e]), r1.r, (.bool false), (weak r2.r), r3, (.int .i64 0)], [], false⟩
theorem r149 (T : TT) (k : Nat) (x0a x0b x0c x0d x0e x1 : SVal) : bodyE P H T k 149 [(.agg [x0a, x0b, x0c, x0d, x0e]), x1] = R149 T k x0a x0b x0c x0d x0e x1 := by kernel_rfl
noncomputable def D149 (T : TT) (k : Nat) : List SVal → Option Res
  | [(.agg [x0a, x0b, x0c, x0d, x0e]), x1] => R149 T k x0a x0b x0c x0d x0e x1
  | a => bodyE P H T k 149 a
theorem d149 (T : TT) (k : Nat) (a : List SVal) : D149 T k a = bodyE P H T k 149 a := by
  unfold D149
  split
  · exact (r149 ..).symm
  · rfl
theorem t149 (k : Nat) (x0a x0b x0c x0d x0e x1 : SVal) : T (k + 1) 149 [(.agg [x0a, x0b, x0c, x0d, x0e]), x1] = R149 (T k) k x0a x0b x0c x0d x0e x1 := (tb k 149 _ rfl).trans (r149 ..)
/-- limelight/limelightref05.Is -/
def R150 (T : TT) (k : Nat) (x0 x1 : SVal) : Option Res :=
 ((sIdx true 7 x0 x1).bind fun e1 =>
 (sBin .eql (SVal.cell e1 0) (.int .i64 1)).bind fun r2 =>
 guardX r2 true
 ((sIdx true 7 x0 x1).bind fun e3 =>
 (sBin .eql (SVal.cell e3 1) (.int .i64 3)).bind fun r4 =>
 guardX r4 true
 ((T 151 [(weak x0), x1]).bind fun r5 =>
 (sIdx true 7 x0 r5.r).bind fun e6 =>
 (sBin .eql (SVal.cell e6 0) (.int .i64 3)).bind fun r7 =>
 (asB r7).bind fun b8 =>
 some [b8])
 (some [false])
 (none))
 (some [false])
 (none)).bind fun vs9 =>
 some { r := (.bool (vs9.getD 0 false)) }
theorem r150 (T : TT) (k : Nat) (x0 x1 : SVal) : bodyE P H T k 150 [x0, x1] = R150 T k x0 x1 := by kernel_rfl
theorem t150 (k : Nat) (x0 x1 : SVal) : T (k + 1) 150 [x0, x1] = R150 (T k) k x0 x1 := (tb k 150 _ rfl).trans (r150 ..)
/-- limelight/limelightref03.Top -/
def R151 (T : TT) (k : Nat) (x0 x1 : SVal) : Option Res :=
 (T 175 [(weak x0), x1]).bind fun r1 =>
 (sLen r1.r).bind fun r2 =>
 (sBin .sub r2 (.int .i64 1)).bind fun r3 =>
 (sIdx false 1 r1.r r3).bind fun e4 =>
 some { r := e4 }
theorem r151 (T : TT) (k : Nat) (x0 x1 : SVal) : bodyE P H T k 151 [x0, x1] = R151 T k x0 x1 := by kernel_rfl
theorem t151 (k : Nat) (x0 x1 : SVal) : T (k + 1) 151 [x0, x1] = R151 (T k) k x0 x1 := (tb k 151 _ rfl).trans (r151 ..)
/-- limelight/limelightref05.Of -/
def R152 (T : TT) (k : Nat) (x0 x1 : SVal) : Option Res :=
 (sIdx true 7 x0 x1).bind fun e1 =>
 (sBin .eql (SVal.cell e1 2) (.int .i64 (-1))).bind fun r2 =>
 pickC r2
 (some { r := (.int .i64 (-1)) })
 ((sIdx true 7 x0 (SVal.cell e1 2)).bind fun e3 =>
 (sBin .eql (SVal.cell e3 5) (.int .i64 (-1))).bind fun r4 =>
 pickC r4
 (some { r := (.int .i64 (-1)) })
 ((T 176 [(weak x0), (SVal.cell e3 5)]).bind fun r5 =>
 (T 22 [(weak x0), (SVal.cell e3 5), (.int .i64 8)]).bind fun r6 =>
 pickC r6.r
 ((T 37 [(weak x0), x1, (.int .i64 9)]).bind fun r7 =>
 (guardX r7.r.c1 true
 ((T 35 [(weak r5.r), r7.r.c0]).bind fun r8 =>
 if isSc1 r8.r = true then
 (asB r8.r).bind fun b9 =>
 some [b9]
 else none)
 (some [false])
 (none)).bind fun vs10 =>
 pickC (.bool (vs10.getD 0 false))
 (some { r := r7.r.c0 })
 (some { r := (.int .i64 (-1)) }))
 (loopN (fun s11 next11 =>
 (sLen s11.k2).bind fun r12 =>
 (sBin .lss s11.k3 r12).bind fun r13 =>
 pickC r13
 ((sIdx false 1 s11.k2 s11.k3).bind fun e14 =>
 (T 177 [(weak s11.k0), e14]).bind fun r15 =>
 (T 177 [(weak s11.k0), s11.k1]).bind fun r16 =>
 (sBin .eql r15.r r16.r).bind fun r17 =>
 pickC r17
 ((sIdx false 1 s11.k2 s11.k3).bind fun e18 =>
 some { r := e18 })
 ((sBin .add s11.k3 (.int .i64 1)).bind fun r19 =>
 next11 ⟨[(weak s11.k0), s11.k1, (weak s11.k2), r19], [], false⟩))
 (some { r := (.int .i64 (-1)) })) k ⟨[(weak x0), x1, (weak r5.r), (.int .i64 0)], [], false⟩)))
theorem r152 (T : TT) (k : Nat) (x0 x1 : SVal) : bodyE P H T k 152 [x0, x1] = R152 T k x0 x1 := by kernel_rfl
theorem t152 (k : Nat) (x0 x1 : SVal) : T (k + 1) 152 [x0, x1] = R152 (T k) k x0 x1 := (tb k 152 _ rfl).trans (r152 ..)
/-- slices.Index[[]int,int] -/
def R153 (T : TT) (k : Nat) (x0 x1 : SVal) : Option Res :=
 (sLen x0).bind fun r1 =>
 loopN (fun s2 next2 =>
 (sBin .lss s2.k3 s2.k2).bind fun r3 =>
 pickC r3
 ((sIdx false 1 s2.k0 s2.k3).bind fun e4 =>
 (sBin .eql s2.k1 e4).bind fun r5 =>
 pickC r5
 (some { r := s2.k3 })
 ((sBin .add s2.k3 (.int .i64 1)).bind fun r6 =>
 next2 ⟨[(weak s2.k0), s2.k1, s2.k2, r6], [], false⟩))
 (some { r := (.int .i64 (-1)) })) k ⟨[(weak x0), x1, r1, (.int .i64 0)], [], false⟩
theorem r153 (T : TT) (k : Nat) (x0 x1 : SVal) : bodyE P H T k 153 [x0, x1] = R153 T k x0 x1 := by kernel_rfl
noncomputable def D153 (T : TT) (k : Nat) : List SVal → Option Res
  | [x0, x1] => R153 T k x0 x1
  | a => bodyE P H T k 153 a
theorem d153 (T : TT) (k : Nat) (a : List SVal) : D153 T k a = bodyE P H T k 153 a := by
  unfold D153
  split
  · exact (r153 ..).symm
  · rfl
theorem t153 (k : Nat) (x0 x1 : SVal) : T (k + 1) 153 [x0, x1] = R153 (T k) k x0 x1 := (tb k 153 _ rfl).trans (r153 ..)
/-- slices.Contains[[]int,int] -/
def R154 (T : TT) (k : Nat) (x0 x1 : SVal) : Option Res :=
 (T 153 [(weak x0), x1]).bind fun r1 =>
 (sBin .geq r1.r (.int .i64 0)).bind fun r2 =>
 some { r := r2 }
theorem r154 (T : TT) (k : Nat) (x0 x1 : SVal) : bodyE P H T k 154 [x0, x1] = R154 T k x0 x1 := by kernel_rfl
noncomputable def D154 (T : TT) (k : Nat) : List SVal → Option Res
  | [x0, x1] => R154 T k x0 x1
  | a => bodyE P H T k 154 a
theorem d154 (T : TT) (k : Nat) (a : List SVal) : D154 T k a = bodyE P H T k 154 a := by
  unfold D154
  split
  · exact (r154 ..).symm
  · rfl
theorem t154 (k : Nat) (x0 x1 : SVal) : T (k + 1) 154 [x0, x1] = R154 (T k) k x0 x1 := (tb k 154 _ rfl).trans (r154 ..)
/-- limelight/tree.value -/
def R155 (T : TT) (k : Nat) (x0a x0b : SVal) : Option Res :=
 (sBin .eql x0a (.int .i64 0)).bind fun r1 =>
 pickC r1
 ((T 113 [x0b, (.int .i64 (-2147483648)), (.int .i64 2147483647)]).bind fun r2 =>
 some { r := r2.r })
 ((sBin .eql x0a (.int .i64 4)).bind fun r3 =>
 pickC r3
 ((T 113 [x0b, (.int .i64 0), (.int .i64 2147483647)]).bind fun r4 =>
 some { r := r4.r })
 ((sBin .eql x0a (.int .i64 6)).bind fun r5 =>
 pickC r5
 ((T 113 [x0b, (.int .i64 1), (.int .i64 3)]).bind fun r6 =>
 some { r := r6.r })
 ((sBin .eql x0a (.int .i64 9)).bind fun r7 =>
 pickC r7
 ((T 113 [x0b, (.int .i64 0), (.int .i64 63)]).bind fun r8 =>
 some { r := r8.r })
 ((sBin .eql x0b (.int .i64 0)).bind fun r9 =>
 some { r := r9 }))))
theorem r155 (T : TT) (k : Nat) (x0a x0b : SVal) : bodyE P H T k 155 [(.agg [x0a, x0b])] = R155 T k x0a x0b := by kernel_rfl
noncomputable def D155 (T : TT) (k : Nat) : List SVal → Option Res
  | [(.agg [x0a, x0b])] => R155 T k x0a x0b
  | a => bodyE P H T k 155 a
theorem d155 (T : TT) (k : Nat) (a : List SVal) : D155 T k a = bodyE P H T k 155 a := by
  unfold D155
  split
  · exact (r155 ..).symm
  · rfl
theorem t155 (k : Nat) (x0a x0b : SVal) : T (k + 1) 155 [(.agg [x0a, x0b])] = R155 (T k) k x0a x0b := (tb k 155 _ rfl).trans (r155 ..)
/-- limelight/tree.up$1 -/
def R156 (T : TT) (k : Nat) (x1 x2 : SVal) : Option Res :=
 (sLen x1).bind fun r1 =>
 (sBin .add r1 (.int .i64 1)).bind fun r2 =>
 loopN (fun s3 next3 =>
 (sBin .lss s3.k4 s3.k3).bind fun r4 =>
 pickC r4
 ((sBin .eql (SVal.cell s3.k2 0) (.int .i64 (-1))).bind fun r5 =>
 guardX r5 false
 (if (s3.stop) = true then none else
 (notTup (SVal.cell s3.k2 0)).bind fun y6 =>
 both
 ((sIdx true 7 (SVal.cell s3.k1 0) (SVal.cell s3.k2 0)).bind fun e7 =>
 (sIdx true 7 (SVal.cell s3.k1 0) (SVal.cell s3.k2 0)).bind fun e8 =>
 (sMax (SVal.cell e7 2) (SVal.cell e8 4)).bind fun r9 =>
 if (oneS r9) = true then
 (sBin .add s3.k4 (.int .i64 1)).bind fun r10 =>
 next3 ⟨[.yld, (.rp [(SVal.cell s3.k1 0)]), (.mb [r9]), s3.k3, r10], (s3.out ++ [y6]), s3.stop⟩
 else none)
 (some { r := (.tup []) }))
 (if (s3.stop) = true then
 some { r := (.tup []) }
 else
 some { r := (.tup []), out := s3.out })
 (none))
 (if (s3.stop) = true then
 some { r := (.tup []) }
 else
 some { r := (.tup []), out := s3.out })) k ⟨[.yld, (.rp [x1]), (.mb [x2]), r2, (.int .i64 0)], [], false⟩
theorem r156 (T : TT) (k : Nat) (x1 x2 : SVal) : bodyE P H T k 156 [.yld, (.rp [x1]), (.mb [x2])] = R156 T k x1 x2 := by kernel_rfl
noncomputable def D156 (T : TT) (k : Nat) : List SVal → Option Res
  | [.yld, (.rp [x1]), (.mb [x2])] => R156 T k x1 x2
  | a => bodyE P H T k 156 a
theorem d156 (T : TT) (k : Nat) (a : List SVal) : D156 T k a = bodyE P H T k 156 a := by
  unfold D156
  split
  · exact (r156 ..).symm
  · rfl
theorem t156 (k : Nat) (x1 x2 : SVal) : T (k + 1) 156 [.yld, (.rp [x1]), (.mb [x2])] = R156 (T k) k x1 x2 := (tb k 156 _ rfl).trans (r156 ..)
/-- limelight/shade.Above -/
def R157 (T : TT) (k : Nat) (x0 x1 x2 : SVal) : Option Res :=
 (T 178 [(weak x0), x2]).bind fun r1 =>
 (T 154 [(weak r1.r), x1]).bind fun r2 =>
 some { r := r2.r }
theorem r157 (T : TT) (k : Nat) (x0 x1 x2 : SVal) : bodyE P H T k 157 [x0, x1, x2] = R157 T k x0 x1 x2 := by kernel_rfl
noncomputable def D157 (T : TT) (k : Nat) : List SVal → Option Res
  | [x0, x1, x2] => R157 T k x0 x1 x2
  | a => bodyE P H T k 157 a
theorem d157 (T : TT) (k : Nat) (a : List SVal) : D157 T k a = bodyE P H T k 157 a := by
  unfold D157
  split
  · exact (r157 ..).symm
  · rfl
theorem t157 (k : Nat) (x0 x1 x2 : SVal) : T (k + 1) 157 [x0, x1, x2] = R157 (T k) k x0 x1 x2 := (tb k 157 _ rfl).trans (r157 ..)
/-- limelight/flat.Above -/
def R169 (T : TT) (k : Nat) (x0 x1 x2 : SVal) : Option Res :=
 (T 144 [(weak x0), x2]).bind fun r1 =>
 (T 154 [(weak r1.r), x1]).bind fun r2 =>
 some { r := r2.r }
theorem r169 (T : TT) (k : Nat) (x0 x1 x2 : SVal) : bodyE P H T k 169 [x0, x1, x2] = R169 T k x0 x1 x2 := by kernel_rfl
noncomputable def D169 (T : TT) (k : Nat) : List SVal → Option Res
  | [x0, x1, x2] => R169 T k x0 x1 x2
  | a => bodyE P H T k 169 a
theorem d169 (T : TT) (k : Nat) (a : List SVal) : D169 T k a = bodyE P H T k 169 a := by
  unfold D169
  split
  · exact (r169 ..).symm
  · rfl
theorem t169 (k : Nat) (x0 x1 x2 : SVal) : T (k + 1) 169 [x0, x1, x2] = R169 (T k) k x0 x1 x2 := (tb k 169 _ rfl).trans (r169 ..)
/-- limelight/flat.is -/
def R170 (T : TT) (k : Nat) (x0 x1 : SVal) : Option Res :=
 (T 185 [(weak x0), x1]).bind fun r1 =>
 (sBin .neq r1.r (.int .i64 (-1))).bind fun r2 =>
 some { r := r2 }
theorem r170 (T : TT) (k : Nat) (x0 x1 : SVal) : bodyE P H T k 170 [x0, x1] = R170 T k x0 x1 := by kernel_rfl
noncomputable def D170 (T : TT) (k : Nat) : List SVal → Option Res
  | [x0, x1] => R170 T k x0 x1
  | a => bodyE P H T k 170 a
theorem d170 (T : TT) (k : Nat) (a : List SVal) : D170 T k a = bodyE P H T k 170 a := by
  unfold D170
  split
  · exact (r170 ..).symm
  · rfl
theorem t170 (k : Nat) (x0 x1 : SVal) : T (k + 1) 170 [x0, x1] = R170 (T k) k x0 x1 := (tb k 170 _ rfl).trans (r170 ..)
/-- limelight/flat.up -/
def R171 (T : TT) (k : Nat) (x0 x1 : SVal) : Option Res :=
 if (oneS x0) = true then
 if (oneS x1) = true then
 some { r := (.fn 186 [(.mb [x1]), (.rp [x0])]) }
 else none
 else none
theorem r171 (T : TT) (k : Nat) (x0 x1 : SVal) : bodyE P H T k 171 [x0, x1] = R171 T k x0 x1 := by kernel_rfl
noncomputable def D171 (T : TT) (k : Nat) : List SVal → Option Res
  | [x0, x1] => R171 T k x0 x1
  | a => bodyE P H T k 171 a
theorem d171 (T : TT) (k : Nat) (a : List SVal) : D171 T k a = bodyE P H T k 171 a := by
  unfold D171
  split
  · exact (r171 ..).symm
  · rfl
theorem t171 (k : Nat) (x0 x1 : SVal) : T (k + 1) 171 [x0, x1] = R171 (T k) k x0 x1 := (tb k 171 _ rfl).trans (r171 ..)
/-- limelight/render.own$1 -/
def R172 (T : TT) (k : Nat) (x0a x0b x1 : SVal) : Option Res :=
 (sBin .eql x0a x1).bind fun r1 =>
 some { r := r1 }
theorem r172 (T : TT) (k : Nat) (x0a x0b x1 : SVal) : bodyE P H T k 172 [(.agg [x0a, x0b]), (.rp [x1])] = R172 T k x0a x0b x1 := by kernel_rfl
noncomputable def D172 (T : TT) (k : Nat) : List SVal → Option Res
  | [(.agg [x0a, x0b]), (.rp [x1])] => R172 T k x0a x0b x1
  | a => bodyE P H T k 172 a
theorem d172 (T : TT) (k : Nat) (a : List SVal) : D172 T k a = bodyE P H T k 172 a := by
  unfold D172
  split
  · exact (r172 ..).symm
  · rfl
theorem t172 (k : Nat) (x0a x0b x1 : SVal) : T (k + 1) 172 [(.agg [x0a, x0b]), (.rp [x1])] = R172 (T k) k x0a x0b x1 := (tb k 172 _ rfl).trans (r172 ..)
/-- slices.ContainsFunc[[]limelight/api.Shown,limelight/api.Shown] -/
def R173 (T : TT) (k : Nat) (x0 x1 : SVal) : Option Res :=
 (T 188 [(weak x0), x1]).bind fun r1 =>
 (sBin .geq r1.r (.int .i64 0)).bind fun r2 =>
 some { r := r2 }
theorem r173 (T : TT) (k : Nat) (x0 x1 : SVal) : bodyE P H T k 173 [x0, x1] = R173 T k x0 x1 := by kernel_rfl
noncomputable def D173 (T : TT) (k : Nat) : List SVal → Option Res
  | [x0, x1] => R173 T k x0 x1
  | a => bodyE P H T k 173 a
theorem d173 (T : TT) (k : Nat) (a : List SVal) : D173 T k a = bodyE P H T k 173 a := by
  unfold D173
  split
  · exact (r173 ..).symm
  · rfl
theorem t173 (k : Nat) (x0 x1 : SVal) : T (k + 1) 173 [x0, x1] = R173 (T k) k x0 x1 := (tb k 173 _ rfl).trans (r173 ..)
/-- limelight/top.Highest -/
def R174 (T : TT) (k : Nat) (x0a x0b x0c x0d x0e : SVal) : Option Res :=
 (T 47 [(.agg [(weak x0a), (weak x0b), (weak x0c), (weak x0d), (weak x0e)])]).bind fun r1 =>
 (sBin .eql r1.r (.int .i64 0)).bind fun r2 =>
 pickC r2
 ((T 189 [(weak x0e)]).bind fun r3 =>
 (callIt T r3.r).bind fun ys4 =>
 rangeN (fun s5 y5 next5 =>
 (tup2 y5).bind fun z6 =>
 (T 154 [(weak (SVal.cell s5.k0 2)), z6.2]).bind fun r7 =>
 pickC r7.r
 (if (oneS z6.2) = true then
 some { r := z6.2 }
 else none)
 (next5 ⟨[(.rp [(SVal.cell s5.k0 0), (SVal.cell s5.k0 1), (SVal.cell s5.k0 2), (SVal.cell s5.k0 3), (SVal.cell s5.k0 4)]), (.mb [s5.k1.c0])], [], false⟩)) (fun s8 =>
 some { r := (.int .i64 (-1)) }) ys4 ⟨[(.rp [x0a, x0b, x0c, x0d, x0e]), (.mb [(.int .i64 0)])], [], false⟩)
 (some { r := (.int .i64 (-1)) })
theorem r174 (T : TT) (k : Nat) (x0a x0b x0c x0d x0e : SVal) : bodyE P H T k 174 [(.agg [x0a, x0b, x0c, x0d, x0e])] = R174 T k x0a x0b x0c x0d x0e := by kernel_rfl
noncomputable def D174 (T : TT) (k : Nat) : List SVal → Option Res
  | [(.agg [x0a, x0b, x0c, x0d, x0e])] => R174 T k x0a x0b x0c x0d x0e
  | a => bodyE P H T k 174 a
theorem d174 (T : TT) (k : Nat) (a : List SVal) : D174 T k a = bodyE P H T k 174 a := by
  unfold D174
  split
  · exact (r174 ..).symm
  · rfl
theorem t174 (k : Nat) (x0a x0b x0c x0d x0e : SVal) : T (k + 1) 174 [(.agg [x0a, x0b, x0c, x0d, x0e])] = R174 (T k) k x0a x0b x0c x0d x0e := (tb k 174 _ rfl).trans (r174 ..)
/-- limelight/limelightref03.Up -/
def R175 (T : TT) (k : Nat) (x0 x1 : SVal) : Option Res :=
 loopN (fun s1 next1 =>
 (sBin .neq s1.k1 (.int .i64 (-1))).bind fun r2 =>
 pickC r2
 (if (List.all [[.v s1.k1]] allOne) = true then
 if (s1.k2.xs.length + ([s1.k1] : List SVal).length) * 8 ≤ maxAppend then
 (sIdx true 7 s1.k0 s1.k1).bind fun e3 =>
 next1 ⟨[(weak s1.k0), (SVal.cell e3 2), (.sl 1 true false (s1.k2.xs ++ ([s1.k1] : List SVal)))], [], false⟩
 else none
 else none)
 (some { r := (.sl 1 false false s1.k2.xs) })) k ⟨[(weak x0), x1, (.sl 1 true false [])], [], false⟩
theorem r175 (T : TT) (k : Nat) (x0 x1 : SVal) : bodyE P H T k 175 [x0, x1] = R175 T k x0 x1 := by kernel_rfl
theorem t175 (k : Nat) (x0 x1 : SVal) : T (k + 1) 175 [x0, x1] = R175 (T k) k x0 x1 := (tb k 175 _ rfl).trans (r175 ..)
/-- limelight/limelightref05.All -/
def R176 (T : TT) (k : Nat) (x0 x1 : SVal) : Option Res :=
 (sIdx true 7 x0 x1).bind fun e1 =>
 (sBin .neq (SVal.cell e1 0) (.int .i64 3)).bind fun r2 =>
 pickC r2
 (some { r := (.sl 1 false false []) })
 ((T 21 [(weak x0), x1]).bind fun r3 =>
 loopN (fun s4 next4 =>
 (sLen s4.k2).bind fun r5 =>
 (sBin .lss s4.k3 r5).bind fun r6 =>
 pickC r6
 ((sIdx false 1 s4.k2 s4.k3).bind fun e7 =>
 (T 150 [(weak s4.k0), e7]).bind fun r8 =>
 pickC r8.r
 ((sIdx false 1 s4.k2 s4.k3).bind fun e9 =>
 if (List.all [[.v e9]] allOne) = true then
 if (s4.k1.xs.length + ([e9] : List SVal).length) * 8 ≤ maxAppend then
 (sBin .add s4.k3 (.int .i64 1)).bind fun r10 =>
 next4 ⟨[(weak s4.k0), (.sl 1 true false (s4.k1.xs ++ ([e9] : List SVal))), (weak s4.k2), r10], [], false⟩
 else none
 else none)
 ((sBin .add s4.k3 (.int .i64 1)).bind fun r11 =>
 next4 ⟨[(weak s4.k0), (.sl 1 true false s4.k1.xs), (weak s4.k2), r11], [], false⟩))
 (some { r := (.sl 1 false false s4.k1.xs) })) k ⟨[(weak x0), (.sl 1 true false []), (weak r3.r), (.int .i64 0)], [], false⟩)
theorem r176 (T : TT) (k : Nat) (x0 x1 : SVal) : bodyE P H T k 176 [x0, x1] = R176 T k x0 x1 := by kernel_rfl
theorem t176 (k : Nat) (x0 x1 : SVal) : T (k + 1) 176 [x0, x1] = R176 (T k) k x0 x1 := (tb k 176 _ rfl).trans (r176 ..)
/-- limelight/limelightref05.name -/
def R177 (T : TT) (k : Nat) (x0 x1 : SVal) : Option Res :=
 (T 37 [(weak x0), x1, (.int .i64 4)]).bind fun r1 =>
 some { r := r1.r.c0 }
theorem r177 (T : TT) (k : Nat) (x0 x1 : SVal) : bodyE P H T k 177 [x0, x1] = R177 T k x0 x1 := by kernel_rfl
theorem t177 (k : Nat) (x0 x1 : SVal) : T (k + 1) 177 [x0, x1] = R177 (T k) k x0 x1 := (tb k 177 _ rfl).trans (r177 ..)
/-- limelight/shade.Up -/
def R178 (T : TT) (k : Nat) (x0 x1 : SVal) : Option Res :=
 (T 190 [(weak x0), x1]).bind fun r1 =>
 (elems 1 r1.r).bind fun ys2 =>
 if ys2.length * 8 ≤ maxAppend then
 (T 191 [(weak x0), x1]).bind fun r3 =>
 (sBin .neq r3.r (.int .i64 (-1))).bind fun r4 =>
 pickC r4
 (loopN (fun s5 next5 =>
 (T 190 [(weak s5.k0), s5.k1]).bind fun r6 =>
 (elems 1 r6.r).bind fun ys7 =>
 if (s5.k2.xs.length + ys7.length) * 8 ≤ maxAppend then
 (T 191 [(weak s5.k0), s5.k1]).bind fun r8 =>
 (sBin .neq r8.r (.int .i64 (-1))).bind fun r9 =>
 pickC r9
 (next5 ⟨[(weak s5.k0), r8.r, (.sl 1 true false (s5.k2.xs ++ ys7))], [], false⟩)
 (some { r := (.sl 1 false false (s5.k2.xs ++ ys7)) })
 else none) k ⟨[(weak x0), r3.r, (.sl 1 true false ys2)], [], false⟩)
 (some { r := (.sl 1 false false ys2) })
 else none
theorem r178 (T : TT) (k : Nat) (x0 x1 : SVal) : bodyE P H T k 178 [x0, x1] = R178 T k x0 x1 := by kernel_rfl
noncomputable def D178 (T : TT) (k : Nat) : List SVal → Option Res
  | [x0, x1] => R178 T k x0 x1
  | a => bodyE P H T k 178 a
theorem d178 (T : TT) (k : Nat) (a : List SVal) : D178 T k a = bodyE P H T k 178 a := by
  unfold D178
  split
  · exact (r178 ..).symm
  · rfl
theorem t178 (k : Nat) (x0 x1 : SVal) : T (k + 1) 178 [x0, x1] = R178 (T k) k x0 x1 := (tb k 178 _ rfl).trans (r178 ..)
/-- limelight/order.Top -/
def R185 (T : TT) (k : Nat) (x0 x1 : SVal) : Option Res :=
 if (List.all [[.v x1]] allOne) = true then
 (T 77 [(weak x0), (.sl 1 false false [x1])]).bind fun r1 =>
 pickC r1.r
 ((T 193 [(weak x0), x1]).bind fun r2 =>
 (callIt T r2.r).bind fun ys3 =>
 rangeN (fun s4 y4 next4 =>
 (notTup y4).bind fun z5 =>
 if (oneS z5) = true then
 next4 ⟨[(.mb [z5])], [], false⟩
 else none) (fun s6 =>
 some { r := s6.k0.c0 }) ys3 ⟨[(.mb [(.int .i64 (-1))])], [], false⟩)
 (some { r := (.int .i64 (-1)) })
 else none
theorem r185 (T : TT) (k : Nat) (x0 x1 : SVal) : bodyE P H T k 185 [x0, x1] = R185 T k x0 x1 := by kernel_rfl
noncomputable def D185 (T : TT) (k : Nat) : List SVal → Option Res
  | [x0, x1] => R185 T k x0 x1
  | a => bodyE P H T k 185 a
theorem d185 (T : TT) (k : Nat) (a : List SVal) : D185 T k a = bodyE P H T k 185 a := by
  unfold D185
  split
  · exact (r185 ..).symm
  · rfl
theorem t185 (k : Nat) (x0 x1 : SVal) : T (k + 1) 185 [x0, x1] = R185 (T k) k x0 x1 := (tb k 185 _ rfl).trans (r185 ..)
/-- limelight/flat.up$1 -/
def R186 (T : TT) (k : Nat) (x1 x2 : SVal) : Option Res :=
 loopN (fun s1 next1 =>
 (sBin .neq (SVal.cell s1.k1 0) (.int .i64 (-1))).bind fun r2 =>
 guardX r2 true
 (if (s1.stop) = true then none else
 (notTup (SVal.cell s1.k1 0)).bind fun y3 =>
 both
 ((T 187 [(weak (SVal.cell s1.k2 0)), (SVal.cell s1.k1 0)]).bind fun r4 =>
 if (oneS r4.r) = true then
 next1 ⟨[.yld, (.mb [r4.r]), (.rp [(SVal.cell s1.k2 0)])], (s1.out ++ [y3]), s1.stop⟩
 else none)
 (some { r := (.tup []) }))
 (if (s1.stop) = true then
 some { r := (.tup []) }
 else
 some { r := (.tup []), out := s1.out })
 (none)) k ⟨[.yld, (.mb [x1]), (.rp [x2])], [], false⟩
theorem r186 (T : TT) (k : Nat) (x1 x2 : SVal) : bodyE P H T k 186 [.yld, (.mb [x1]), (.rp [x2])] = R186 T k x1 x2 := by kernel_rfl
noncomputable def D186 (T : TT) (k : Nat) : List SVal → Option Res
  | [.yld, (.mb [x1]), (.rp [x2])] => R186 T k x1 x2
  | a => bodyE P H T k 186 a
theorem d186 (T : TT) (k : Nat) (a : List SVal) : D186 T k a = bodyE P H T k 186 a := by
  unfold D186
  split
  · exact (r186 ..).symm
  · rfl
theorem t186 (k : Nat) (x1 x2 : SVal) : T (k + 1) 186 [.yld, (.mb [x1]), (.rp [x2])] = R186 (T k) k x1 x2 := (tb k 186 _ rfl).trans (r186 ..)
/-- limelight/flat.Parent -/
def R187 (T : TT) (k : Nat) (x0 x1 : SVal) : Option Res :=
 (T 170 [(weak x0), x1]).bind fun r1 =>
 (sNot r1.r).bind fun r2 =>
 pickC r2
 (some { r := (.int .i64 (-1)) })
 ((T 194 [(weak x0), x1]).bind fun r3 =>
 ((sBin .neq r3.r (.int .i64 (-1))).bind fun r4 =>
 guardX r4 true
 ((T 195 [(weak x0), r3.r]).bind fun r5 =>
 (T 154 [(weak r5.r), x1]).bind fun r6 =>
 (asB r6.r).bind fun b7 =>
 some [b7])
 (some [false])
 (none)).bind fun vs8 =>
 pickC (.bool (vs8.getD 0 false))
 (some { r := r3.r })
 (some { r := (.int .i64 (-1)) }))
theorem r187 (T : TT) (k : Nat) (x0 x1 : SVal) : bodyE P H T k 187 [x0, x1] = R187 T k x0 x1 := by kernel_rfl
noncomputable def D187 (T : TT) (k : Nat) : List SVal → Option Res
  | [x0, x1] => R187 T k x0 x1
  | a => bodyE P H T k 187 a
theorem d187 (T : TT) (k : Nat) (a : List SVal) : D187 T k a = bodyE P H T k 187 a := by
  unfold D187
  split
  · exact (r187 ..).symm
  · rfl
theorem t187 (k : Nat) (x0 x1 : SVal) : T (k + 1) 187 [x0, x1] = R187 (T k) k x0 x1 := (tb k 187 _ rfl).trans (r187 ..)
/-- slices.IndexFunc[[]limelight/api.Shown,limelight/api.Shown] -/
def R188 (T : TT) (k : Nat) (x0 x1 : SVal) : Option Res :=
 (sLen x0).bind fun r1 =>
 loopN (fun s2 next2 =>
 (sBin .lss s2.k3 s2.k2).bind fun r3 =>
 pickC r3
 ((sIdx true 2 s2.k0 s2.k3).bind fun e4 =>
 (callV H T s2.k1 [(.agg [(SVal.cell e4 0), (SVal.cell e4 1)])]).bind fun y5 =>
 pickC y5
 (some { r := s2.k3 })
 ((sBin .add s2.k3 (.int .i64 1)).bind fun r6 =>
 next2 ⟨[(weak s2.k0), s2.k1, s2.k2, r6], [], false⟩))
 (some { r := (.int .i64 (-1)) })) k ⟨[(weak x0), x1, r1, (.int .i64 0)], [], false⟩
theorem r188 (T : TT) (k : Nat) (x0 x1 : SVal) : bodyE P H T k 188 [x0, x1] = R188 T k x0 x1 := by kernel_rfl
noncomputable def D188 (T : TT) (k : Nat) : List SVal → Option Res
  | [x0, x1] => R188 T k x0 x1
  | a => bodyE P H T k 188 a
theorem d188 (T : TT) (k : Nat) (a : List SVal) : D188 T k a = bodyE P H T k 188 a := by
  unfold D188
  split
  · exact (r188 ..).symm
  · rfl
theorem t188 (k : Nat) (x0 x1 : SVal) : T (k + 1) 188 [x0, x1] = R188 (T k) k x0 x1 := (tb k 188 _ rfl).trans (r188 ..)
/-- slices.Backward[[]int,int] -/
def R189 (T : TT) (k : Nat) (x0 : SVal) : Option Res :=
 if (oneS x0) = true then
 some { r := (.fn 196 [(.rp [x0])]) }
 else none
theorem r189 (T : TT) (k : Nat) (x0 : SVal) : bodyE P H T k 189 [x0] = R189 T k x0 := by kernel_rfl
noncomputable def D189 (T : TT) (k : Nat) : List SVal → Option Res
  | [x0] => R189 T k x0
  | a => bodyE P H T k 189 a
theorem d189 (T : TT) (k : Nat) (a : List SVal) : D189 T k a = bodyE P H T k 189 a := by
  unfold D189
  split
  · exact (r189 ..).symm
  · rfl
theorem t189 (k : Nat) (x0 : SVal) : T (k + 1) 189 [x0] = R189 (T k) k x0 := (tb k 189 _ rfl).trans (r189 ..)
/-- limelight/order.Up -/
def R190 (T : TT) (k : Nat) (x0 x1 : SVal) : Option Res :=
 if (List.all [[.v x1]] allOne) = true then
 (T 77 [(weak x0), (.sl 1 false false [x1])]).bind fun r1 =>
 (sNot r1.r).bind fun r2 =>
 pickC r2
 (some { r := (.sl 1 false false []) })
 ((T 193 [(weak x0), x1]).bind fun r3 =>
 (T 78 [r3.r]).bind fun r4 =>
 some { r := (.sl 1 false false r4.r.xs) })
 else none
theorem r190 (T : TT) (k : Nat) (x0 x1 : SVal) : bodyE P H T k 190 [x0, x1] = R190 T k x0 x1 := by kernel_rfl
noncomputable def D190 (T : TT) (k : Nat) : List SVal → Option Res
  | [x0, x1] => R190 T k x0 x1
  | a => bodyE P H T k 190 a
theorem d190 (T : TT) (k : Nat) (a : List SVal) : D190 T k a = bodyE P H T k 190 a := by
  unfold D190
  split
  · exact (r190 ..).symm
  · rfl
theorem t190 (k : Nat) (x0 x1 : SVal) : T (k + 1) 190 [x0, x1] = R190 (T k) k x0 x1 := (tb k 190 _ rfl).trans (r190 ..)
/-- limelight/shade.Host -/
def R191 (T : TT) (k : Nat) (x0 x1 : SVal) : Option Res :=
 (T 185 [(weak x0), x1]).bind fun r1 =>
 (sBin .eql r1.r (.int .i64 (-1))).bind fun r2 =>
 pickC r2
 (some { r := (.int .i64 (-1)) })
 ((sIdx true 7 x0 r1.r).bind fun e3 =>
 some { r := (SVal.cell e3 4) })
theorem r191 (T : TT) (k : Nat) (x0 x1 : SVal) : bodyE P H T k 191 [x0, x1] = R191 T k x0 x1 := by kernel_rfl
noncomputable def D191 (T : TT) (k : Nat) : List SVal → Option Res
  | [x0, x1] => R191 T k x0 x1
  | a => bodyE P H T k 191 a
theorem d191 (T : TT) (k : Nat) (a : List SVal) : D191 T k a = bodyE P H T k 191 a := by
  unfold D191
  split
  · exact (r191 ..).symm
  · rfl
theorem t191 (k : Nat) (x0 x1 : SVal) : T (k + 1) 191 [x0, x1] = R191 (T k) k x0 x1 := (tb k 191 _ rfl).trans (r191 ..)
/-- limelight/order.up -/
def R193 (T : TT) (k : Nat) (x0 x1 : SVal) : Option Res :=
 if (oneS x0) = true then
 if (oneS x1) = true then
 some { r := (.fn 197 [(.mb [x1]), (.rp [x0])]) }
 else none
 else none
theorem r193 (T : TT) (k : Nat) (x0 x1 : SVal) : bodyE P H T k 193 [x0, x1] = R193 T k x0 x1 := by kernel_rfl
noncomputable def D193 (T : TT) (k : Nat) : List SVal → Option Res
  | [x0, x1] => R193 T k x0 x1
  | a => bodyE P H T k 193 a
theorem d193 (T : TT) (k : Nat) (a : List SVal) : D193 T k a = bodyE P H T k 193 a := by
  unfold D193
  split
  · exact (r193 ..).symm
  · rfl
theorem t193 (k : Nat) (x0 x1 : SVal) : T (k + 1) 193 [x0, x1] = R193 (T k) k x0 x1 := (tb k 193 _ rfl).trans (r193 ..)
/-- limelight/flat.over -/
def R194 (T : TT) (k : Nat) (x0 x1 : SVal) : Option Res :=
 (sIdx true 7 x0 x1).bind fun e1 =>
 (sBin .eql (SVal.cell e1 2) (.int .i64 (-1))).bind fun r2 =>
 pickC r2
 (some { r := (.int .i64 (-1)) })
 ((sIdx true 7 x0 (SVal.cell e1 2)).bind fun e3 =>
 (sBin .eql (SVal.cell e3 0) (.int .i64 3)).bind fun r4 =>
 pickC r4
 ((T 191 [(weak x0), x1]).bind fun r5 =>
 some { r := r5.r })
 ((sIdx true 7 x0 (SVal.cell e1 2)).bind fun e6 =>
 (sBin .neq (SVal.cell e6 5) (.int .i64 (-1))).bind fun r7 =>
 pickC r7
 ((T 198 [(weak x0), x1]).bind fun r8 =>
 some { r := r8.r })
 (some { r := (SVal.cell e1 2) })))
theorem r194 (T : TT) (k : Nat) (x0 x1 : SVal) : bodyE P H T k 194 [x0, x1] = R194 T k x0 x1 := by kernel_rfl
noncomputable def D194 (T : TT) (k : Nat) : List SVal → Option Res
  | [x0, x1] => R194 T k x0 x1
  | a => bodyE P H T k 194 a
theorem d194 (T : TT) (k : Nat) (a : List SVal) : D194 T k a = bodyE P H T k 194 a := by
  unfold D194
  split
  · exact (r194 ..).symm
  · rfl
theorem t194 (k : Nat) (x0 x1 : SVal) : T (k + 1) 194 [x0, x1] = R194 (T k) k x0 x1 := (tb k 194 _ rfl).trans (r194 ..)
/-- limelight/flat.kids -/
def R195 (T : TT) (k : Nat) (x0 x1 : SVal) : Option Res :=
 (sIdx true 7 x0 x1).bind fun e1 =>
 if (allOne [.v (SVal.cell e1 0), .v (SVal.cell e1 1), .v (SVal.cell e1 2), .v (SVal.cell e1 3), .v (SVal.cell e1 4), .v (SVal.cell e1 5), .v (SVal.cell e1 6)]) = true then
 (sBin .eql (SVal.cell e1 0) (.int .i64 3)).bind fun r2 =>
 pickC r2
 (some { r := (.sl 1 false false []) })
 ((sBin .neq (SVal.cell e1 5) (.int .i64 (-1))).bind fun r3 =>
 pickC r3
 ((sIdx true 7 x0 (SVal.cell e1 5)).bind fun e4 =>
 some { r := (weak (SVal.cell e4 3)) })
 ((T 199 [(weak x0), x1]).bind fun r5 =>
 (sLen r5.r).bind fun r6 =>
 (sBin .gtr r6 (.int .i64 0)).bind fun r7 =>
 pickC r7
 (some { r := (weak r5.r) })
 (some { r := (weak (SVal.cell e1 3)) })))
 else none
theorem r195 (T : TT) (k : Nat) (x0 x1 : SVal) : bodyE P H T k 195 [x0, x1] = R195 T k x0 x1 := by kernel_rfl
noncomputable def D195 (T : TT) (k : Nat) : List SVal → Option Res
  | [x0, x1] => R195 T k x0 x1
  | a => bodyE P H T k 195 a
theorem d195 (T : TT) (k : Nat) (a : List SVal) : D195 T k a = bodyE P H T k 195 a := by
  unfold D195
  split
  · exact (r195 ..).symm
  · rfl
theorem t195 (k : Nat) (x0 x1 : SVal) : T (k + 1) 195 [x0, x1] = R195 (T k) k x0 x1 := (tb k 195 _ rfl).trans (r195 ..)
/-- slices.Backward[[]int,int]$1 -/
def R196 (T : TT) (k : Nat) (x1 : SVal) : Option Res :=
 (sLen x1).bind fun r1 =>
 (sBin .sub r1 (.int .i64 1)).bind fun r2 =>
 loopN (fun s3 next3 =>
 (sBin .geq s3.k2 (.int .i64 0)).bind fun r4 =>
 pickC r4
 ((sIdx false 1 (SVal.cell s3.k1 0) s3.k2).bind fun e5 =>
 if (s3.stop) = true then none else
 both
 ((sBin .sub s3.k2 (.int .i64 1)).bind fun r6 =>
 next3 ⟨[.yld, (.rp [(SVal.cell s3.k1 0)]), r6], (s3.out ++ [(.tup [s3.k2, e5])]), s3.stop⟩)
 (some { r := (.tup []) }))
 (if (s3.stop) = true then
 some { r := (.tup []) }
 else
 some { r := (.tup []), out := s3.out })) k ⟨[.yld, (.rp [x1]), r2], [], false⟩
theorem r196 (T : TT) (k : Nat) (x1 : SVal) : bodyE P H T k 196 [.yld, (.rp [x1])] = R196 T k x1 := by kernel_rfl
noncomputable def D196 (T : TT) (k : Nat) : List SVal → Option Res
  | [.yld, (.rp [x1])] => R196 T k x1
  | a => bodyE P H T k 196 a
theorem d196 (T : TT) (k : Nat) (a : List SVal) : D196 T k a = bodyE P H T k 196 a := by
  unfold D196
  split
  · exact (r196 ..).symm
  · rfl
theorem t196 (k : Nat) (x1 : SVal) : T (k + 1) 196 [.yld, (.rp [x1])] = R196 (T k) k x1 := (tb k 196 _ rfl).trans (r196 ..)
/-- limelight/order.up$1 -/
def R197 (T : TT) (k : Nat) (x1 x2 : SVal) : Option Res :=
 loopN (fun s1 next1 =>
 (sBin .neq (SVal.cell s1.k1 0) (.int .i64 (-1))).bind fun r2 =>
 guardX r2 true
 (if (s1.stop) = true then none else
 (notTup (SVal.cell s1.k1 0)).bind fun y3 =>
 both
 ((sIdx true 7 (SVal.cell s1.k2 0) (SVal.cell s1.k1 0)).bind fun e4 =>
 if (oneS (SVal.cell e4 2)) = true then
 next1 ⟨[.yld, (.mb [(SVal.cell e4 2)]), (.rp [(SVal.cell s1.k2 0)])], (s1.out ++ [y3]), s1.stop⟩
 else none)
 (some { r := (.tup []) }))
 (if (s1.stop) = true then
 some { r := (.tup []) }
 else
 some { r := (.tup []), out := s1.out })
 (none)) k ⟨[.yld, (.mb [x1]), (.rp [x2])], [], false⟩
theorem r197 (T : TT) (k : Nat) (x1 x2 : SVal) : bodyE P H T k 197 [.yld, (.mb [x1]), (.rp [x2])] = R197 T k x1 x2 := by kernel_rfl
noncomputable def D197 (T : TT) (k : Nat) : List SVal → Option Res
  | [.yld, (.mb [x1]), (.rp [x2])] => R197 T k x1 x2
  | a => bodyE P H T k 197 a
theorem d197 (T : TT) (k : Nat) (a : List SVal) : D197 T k a = bodyE P H T k 197 a := by
  unfold D197
  split
  · exact (r197 ..).symm
  · rfl
theorem t197 (k : Nat) (x1 x2 : SVal) : T (k + 1) 197 [.yld, (.mb [x1]), (.rp [x2])] = R197 (T k) k x1 x2 := (tb k 197 _ rfl).trans (r197 ..)
/-- limelight/slots.Of -/
def R198 (T : TT) (k : Nat) (x0 x1 : SVal) : Option Res :=
 if (oneS x0) = true then
 (T 200 [(weak x0), x1]).bind fun r1 =>
 (sBin .eql r1.r (.int .i64 (-1))).bind fun r2 =>
 pickC r2
 (some { r := (.int .i64 (-1)) })
 ((T 80 [(weak x0), x1, (.int .i64 9)]).bind fun r3 =>
 if (oneS r3.r.c0) = true then
 if (oneS r3.r.c1) = true then
 (T 55 [(weak x0), r1.r, (.int .i64 8)]).bind fun r4 =>
 if (oneS r4.r) = true then
 (T 201 [(weak x0), x1]).bind fun r5 =>
 if (oneS r5.r) = true then
 (T 202 [(weak x0), r1.r]).bind fun r6 =>
 (callIt T r6.r).bind fun ys7 =>
 rangeN (fun s8 y8 next8 =>
 (notTup y8).bind fun z9 =>
 (guardX (SVal.cell s8.k4 0) true
 (guardX (SVal.cell s8.k3 0) true
 ((sBin .eql z9 (SVal.cell s8.k2 0)).bind fun r10 =>
 guardX r10 false
 ((sNot (SVal.cell s8.k4 0)).bind fun r11 =>
 guardX r11 true
 ((T 201 [(weak (SVal.cell s8.k0 0)), z9]).bind fun r12 =>
 (sBin .eql r12.r (SVal.cell s8.k5 0)).bind fun r13 =>
 (asB r13).bind fun b14 =>
 some [b14])
 (some [false])
 (none))
 (some [true])
 (none))
 ((sNot (SVal.cell s8.k4 0)).bind fun r15 =>
 guardX r15 true
 ((T 201 [(weak (SVal.cell s8.k0 0)), z9]).bind fun r16 =>
 (sBin .eql r16.r (SVal.cell s8.k5 0)).bind fun r17 =>
 (asB r17).bind fun b18 =>
 some [b18])
 (some [false])
 (none))
 (none))
 ((sNot (SVal.cell s8.k4 0)).bind fun r19 =>
 guardX r19 true
 ((T 201 [(weak (SVal.cell s8.k0 0)), z9]).bind fun r20 =>
 (sBin .eql r20.r (SVal.cell s8.k5 0)).bind fun r21 =>
 (asB r21).bind fun b22 =>
 some [b22])
 (some [false])
 (none))
 (none)).bind fun vs23 =>
 pickC (.bool (vs23.getD 0 false))
 (if (oneS z9) = true then
 some { r := z9 }
 else none)
 (next8 ⟨[(.rp [(SVal.cell s8.k0 0)]), (.mb [s8.k1.c0]), (.rp [(SVal.cell s8.k2 0)]), (.rp [(SVal.cell s8.k3 0)]), (.rp [(SVal.cell s8.k4 0)]), (.rp [(SVal.cell s8.k5 0)])], [], false⟩)) (fun s24 =>
 some { r := (.int .i64 (-1)) }) ys7 ⟨[(.rp [x0]), (.mb [(.int .i64 0)]), (.rp [r3.r.c0]), (.rp [r3.r.c1]), (.rp [r4.r]), (.rp [r5.r])], [], false⟩
 else none
 else none
 else none
 else none)
 else none
theorem r198 (T : TT) (k : Nat) (x0 x1 : SVal) : bodyE P H T k 198 [x0, x1] = R198 T k x0 x1 := by kernel_rfl
noncomputable def D198 (T : TT) (k : Nat) : List SVal → Option Res
  | [x0, x1] => R198 T k x0 x1
  | a => bodyE P H T k 198 a
theorem d198 (T : TT) (k : Nat) (a : List SVal) : D198 T k a = bodyE P H T k 198 a := by
  unfold D198
  split
  · exact (r198 ..).symm
  · rfl
theorem t198 (k : Nat) (x0 x1 : SVal) : T (k + 1) 198 [x0, x1] = R198 (T k) k x0 x1 := (tb k 198 _ rfl).trans (r198 ..)
/-- limelight/slots.Assigned -/
def R199 (T : TT) (k : Nat) (x0 x1 : SVal) : Option Res :=
 if (oneS x0) = true then
 if (oneS x1) = true then
 ((T 203 [(weak x0), x1]).bind fun r1 =>
 (sNot r1.r).bind fun r2 =>
 guardX r2 false
 ((T 204 [(weak x0), x1]).bind fun r3 =>
 (sNot r3.r).bind fun r4 =>
 (asB r4).bind fun b5 =>
 some [b5])
 (some [true])
 (none)).bind fun vs6 =>
 pickC (.bool (vs6.getD 0 false))
 (some { r := (.sl 1 false false []) })
 ((T 191 [(weak x0), x1]).bind fun r7 =>
 (sIdx true 7 x0 r7.r).bind fun e8 =>
 (T 73 [(weak (SVal.cell e8 3))]).bind fun r9 =>
 (T 205 [(.sl 1 true false r9.r.xs), (.fn 206 [(.rp [x0]), (.rp [x1])])]).bind fun r10 =>
 some { r := (.sl 1 false false r10.r.xs) })
 else none
 else none
theorem r199 (T : TT) (k : Nat) (x0 x1 : SVal) : bodyE P H T k 199 [x0, x1] = R199 T k x0 x1 := by kernel_rfl
noncomputable def D199 (T : TT) (k : Nat) : List SVal → Option Res
  | [x0, x1] => R199 T k x0 x1
  | a => bodyE P H T k 199 a
theorem d199 (T : TT) (k : Nat) (a : List SVal) : D199 T k a = bodyE P H T k 199 a := by
  unfold D199
  split
  · exact (r199 ..).symm
  · rfl
theorem t199 (k : Nat) (x0 x1 : SVal) : T (k + 1) 199 [x0, x1] = R199 (T k) k x0 x1 := (tb k 199 _ rfl).trans (r199 ..)
/-- limelight/slots.root -/
def R200 (T : TT) (k : Nat) (x0 x1 : SVal) : Option Res :=
 ((T 203 [(weak x0), x1]).bind fun r1 =>
 (sNot r1.r).bind fun r2 =>
 guardX r2 false
 ((sIdx true 7 x0 x1).bind fun e3 =>
 (sBin .eql (SVal.cell e3 2) (.int .i64 (-1))).bind fun r4 =>
 (asB r4).bind fun b5 =>
 some [b5])
 (some [true])
 (none)).bind fun vs6 =>
 pickC (.bool (vs6.getD 0 false))
 (some { r := (.int .i64 (-1)) })
 ((sIdx true 7 x0 x1).bind fun e7 =>
 (sIdx true 7 x0 (SVal.cell e7 2)).bind fun e8 =>
 some { r := (SVal.cell e8 5) })
theorem r200 (T : TT) (k : Nat) (x0 x1 : SVal) : bodyE P H T k 200 [x0, x1] = R200 T k x0 x1 := by kernel_rfl
noncomputable def D200 (T : TT) (k : Nat) : List SVal → Option Res
  | [x0, x1] => R200 T k x0 x1
  | a => bodyE P H T k 200 a
theorem d200 (T : TT) (k : Nat) (a : List SVal) : D200 T k a = bodyE P H T k 200 a := by
  unfold D200
  split
  · exact (r200 ..).symm
  · rfl
theorem t200 (k : Nat) (x0 x1 : SVal) : T (k + 1) 200 [x0, x1] = R200 (T k) k x0 x1 := (tb k 200 _ rfl).trans (r200 ..)
/-- limelight/slots.name -/
def R201 (T : TT) (k : Nat) (x0 x1 : SVal) : Option Res :=
 (T 80 [(weak x0), x1, (.int .i64 4)]).bind fun r1 =>
 some { r := r1.r.c0 }
theorem r201 (T : TT) (k : Nat) (x0 x1 : SVal) : bodyE P H T k 201 [x0, x1] = R201 T k x0 x1 := by kernel_rfl
noncomputable def D201 (T : TT) (k : Nat) : List SVal → Option Res
  | [x0, x1] => R201 T k x0 x1
  | a => bodyE P H T k 201 a
theorem d201 (T : TT) (k : Nat) (a : List SVal) : D201 T k a = bodyE P H T k 201 a := by
  unfold D201
  split
  · exact (r201 ..).symm
  · rfl
theorem t201 (k : Nat) (x0 x1 : SVal) : T (k + 1) 201 [x0, x1] = R201 (T k) k x0 x1 := (tb k 201 _ rfl).trans (r201 ..)
/-- limelight/slots.within -/
def R202 (T : TT) (k : Nat) (x0 x1 : SVal) : Option Res :=
 if (oneS x0) = true then
 if (oneS x1) = true then
 some { r := (.fn 207 [(.rp [x0]), (.rp [x1])]) }
 else none
 else none
theorem r202 (T : TT) (k : Nat) (x0 x1 : SVal) : bodyE P H T k 202 [x0, x1] = R202 T k x0 x1 := by kernel_rfl
noncomputable def D202 (T : TT) (k : Nat) : List SVal → Option Res
  | [x0, x1] => R202 T k x0 x1
  | a => bodyE P H T k 202 a
theorem d202 (T : TT) (k : Nat) (a : List SVal) : D202 T k a = bodyE P H T k 202 a := by
  unfold D202
  split
  · exact (r202 ..).symm
  · rfl
theorem t202 (k : Nat) (x0 x1 : SVal) : T (k + 1) 202 [x0, x1] = R202 (T k) k x0 x1 := (tb k 202 _ rfl).trans (r202 ..)
/-- limelight/slots.is -/
def R203 (T : TT) (k : Nat) (x0 x1 : SVal) : Option Res :=
 (T 185 [(weak x0), x1]).bind fun r1 =>
 (sBin .neq r1.r (.int .i64 (-1))).bind fun r2 =>
 some { r := r2 }
theorem r203 (T : TT) (k : Nat) (x0 x1 : SVal) : bodyE P H T k 203 [x0, x1] = R203 T k x0 x1 := by kernel_rfl
noncomputable def D203 (T : TT) (k : Nat) : List SVal → Option Res
  | [x0, x1] => R203 T k x0 x1
  | a => bodyE P H T k 203 a
theorem d203 (T : TT) (k : Nat) (a : List SVal) : D203 T k a = bodyE P H T k 203 a := by
  unfold D203
  split
  · exact (r203 ..).symm
  · rfl
theorem t203 (k : Nat) (x0 x1 : SVal) : T (k + 1) 203 [x0, x1] = R203 (T k) k x0 x1 := (tb k 203 _ rfl).trans (r203 ..)
/-- limelight/slots.slot -/
def R204 (T : TT) (k : Nat) (x0 x1 : SVal) : Option Res :=
 ((sIdx true 7 x0 x1).bind fun e1 =>
 (sBin .eql (SVal.cell e1 0) (.int .i64 1)).bind fun r2 =>
 guardX r2 true
 ((sIdx true 7 x0 x1).bind fun e3 =>
 (sBin .eql (SVal.cell e3 1) (.int .i64 3)).bind fun r4 =>
 guardX r4 true
 ((T 191 [(weak x0), x1]).bind fun r5 =>
 (sBin .neq r5.r (.int .i64 (-1))).bind fun r6 =>
 (asB r6).bind fun b7 =>
 some [b7])
 (some [false])
 (none))
 (some [false])
 (none)).bind fun vs8 =>
 some { r := (.bool (vs8.getD 0 false)) }
theorem r204 (T : TT) (k : Nat) (x0 x1 : SVal) : bodyE P H T k 204 [x0, x1] = R204 T k x0 x1 := by kernel_rfl
noncomputable def D204 (T : TT) (k : Nat) : List SVal → Option Res
  | [x0, x1] => R204 T k x0 x1
  | a => bodyE P H T k 204 a
theorem d204 (T : TT) (k : Nat) (a : List SVal) : D204 T k a = bodyE P H T k 204 a := by
  unfold D204
  split
  · exact (r204 ..).symm
  · rfl
theorem t204 (k : Nat) (x0 x1 : SVal) : T (k + 1) 204 [x0, x1] = R204 (T k) k x0 x1 := (tb k 204 _ rfl).trans (r204 ..)
/-- slices.DeleteFunc[[]int,int] -/
def R205 (T : TT) (k : Nat) (x0 : List SVal) (x1 : SVal) : Option Res :=
 (T 128 [(.sl 1 false false x0), x1]).bind fun r1 =>
 if isSc1 r1.r = true then
 (sBin .eql r1.r (.int .i64 (-1))).bind fun r2 =>
 pickC r2
 (some { r := (.sl 1 true false x0) })
 ((sBin .add r1.r (.int .i64 1)).bind fun r3 =>
 loopN (fun s4 next4 =>
 (sBin .lss s4.k3 (.int .i64 (s4.k0.xs.length : Nat))).bind fun r5 =>
 pickC r5
 ((sIn s4.k0.xs.length s4.k3).bind fun j6 =>
 (s4.k0.xs[j6]?).bind fun e7 =>
 if (elemOk false 1 e7) = true then
 (callV H T s4.k1 [e7]).bind fun y8 =>
 (sNot y8).bind fun r9 =>
 pickC r9
 ((sIn s4.k0.xs.length s4.k2).bind fun j10 =>
 (s4.k0.xs[j10]?).bind fun e11 =>
 if (elemOk false 1 e11) = true then
 if (oneS e7) = true then
 (sBin .add s4.k2 (.int .i64 1)).bind fun r12 =>
 (sBin .add s4.k3 (.int .i64 1)).bind fun r13 =>
 next4 ⟨[(.sl 1 true false (s4.k0.xs.set j10 e7)), s4.k1, r12, r13], [], false⟩
 else none
 else none)
 ((sBin .add s4.k3 (.int .i64 1)).bind fun r14 =>
 next4 ⟨[(.sl 1 true false s4.k0.xs), s4.k1, s4.k2, r14], [], false⟩)
 else none)
 ((sBnd s4.k0.xs.length s4.k2).bind fun n15 =>
 if n15 ≤ s4.k0.xs.length then
 (sBnd (s4.k0.xs.take n15 ++ List.replicate (s4.k0.xs.length - n15) (int 0)).length s4.k2).bind fun n16 =>
 some { r := (.sl 1 true false ((s4.k0.xs.take n15 ++ List.replicate (s4.k0.xs.length - n15) (int 0)).take n16)) }
 else none)) k ⟨[(.sl 1 true false x0), x1, r1.r, r3], [], false⟩)
 else none
theorem r205 (T : TT) (k : Nat) (x0 : List SVal) (x1 : SVal) : bodyE P H T k 205 [(.sl 1 true false x0), x1] = R205 T k x0 x1 := by kernel_rfl
noncomputable def D205 (T : TT) (k : Nat) : List SVal → Option Res
  | [(.sl 1 true false x0), x1] => R205 T k x0 x1
  | a => bodyE P H T k 205 a
theorem d205 (T : TT) (k : Nat) (a : List SVal) : D205 T k a = bodyE P H T k 205 a := by
  unfold D205
  split
  · exact (r205 ..).symm
  · rfl
theorem t205 (k : Nat) (x0 : List SVal) (x1 : SVal) : T (k + 1) 205 [(.sl 1 true false x0), x1] = R205 (T k) k x0 x1 := (tb k 205 _ rfl).trans (r205 ..)
/-- limelight/slots.Assigned$1 -/
def R206 (T : TT) (k : Nat) (x0 x1 x2 : SVal) : Option Res :=
 (T 198 [(weak x1), x0]).bind fun r1 =>
 (sBin .neq r1.r x2).bind fun r2 =>
 some { r := r2 }
theorem r206 (T : TT) (k : Nat) (x0 x1 x2 : SVal) : bodyE P H T k 206 [x0, (.rp [x1]), (.rp [x2])] = R206 T k x0 x1 x2 := by kernel_rfl
noncomputable def D206 (T : TT) (k : Nat) : List SVal → Option Res
  | [x0, (.rp [x1]), (.rp [x2])] => R206 T k x0 x1 x2
  | a => bodyE P H T k 206 a
theorem d206 (T : TT) (k : Nat) (a : List SVal) : D206 T k a = bodyE P H T k 206 a := by
  unfold D206
  split
  · exact (r206 ..).symm
  · rfl
theorem t206 (k : Nat) (x0 x1 x2 : SVal) : T (k + 1) 206 [x0, (.rp [x1]), (.rp [x2])] = R206 (T k) k x0 x1 x2 := (tb k 206 _ rfl).trans (r206 ..)
/-- limelight/slots.within$1 -/
def R207 (T : TT) (k : Nat) (x1 x2 : SVal) : Option Res :=
 (T 53 [(weak x1), x2]).bind fun r1 =>
 (sLen r1.r).bind fun r2 =>
 loopN (fun s3 next3 =>
 (sBin .lss s3.k4 s3.k3).bind fun r4 =>
 pickC r4
 ((sIdx false 1 s3.k2 s3.k4).bind fun e5 =>
 (T 204 [(weak (SVal.cell s3.k1 0)), e5]).bind fun r6 =>
 guardX r6.r true
 (if (s3.stop) = true then none else
 (notTup e5).bind fun y7 =>
 both
 ((sBin .add s3.k4 (.int .i64 1)).bind fun r8 =>
 next3 ⟨[.yld, (.rp [(SVal.cell s3.k1 0)]), (weak s3.k2), s3.k3, r8], (s3.out ++ [y7]), s3.stop⟩)
 (some { r := (.tup []) }))
 ((sBin .add s3.k4 (.int .i64 1)).bind fun r9 =>
 next3 ⟨[.yld, (.rp [(SVal.cell s3.k1 0)]), (weak s3.k2), s3.k3, r9], s3.out, s3.stop⟩)
 (none))
 (if (s3.stop) = true then
 some { r := (.tup []) }
 else
 some { r := (.tup []), out := s3.out })) k ⟨[.yld, (.rp [x1]), (weak r1.r), r2, (.int .i64 0)], [], false⟩
theorem r207 (T : TT) (k : Nat) (x1 x2 : SVal) : bodyE P H T k 207 [.yld, (.rp [x1]), (.rp [x2])] = R207 T k x1 x2 := by kernel_rfl
noncomputable def D207 (T : TT) (k : Nat) : List SVal → Option Res
  | [.yld, (.rp [x1]), (.rp [x2])] => R207 T k x1 x2
  | a => bodyE P H T k 207 a
theorem d207 (T : TT) (k : Nat) (a : List SVal) : D207 T k a = bodyE P H T k 207 a := by
  unfold D207
  split
  · exact (r207 ..).symm
  · rfl
theorem t207 (k : Nat) (x1 x2 : SVal) : T (k + 1) 207 [.yld, (.rp [x1]), (.rp [x2])] = R207 (T k) k x1 x2 := (tb k 207 _ rfl).trans (r207 ..)
end Go.Proofs.YtcdnmiaelaombaaGreat.K
