/- What the evaluator makes of the functions, by program (wip/tr/resid.py); each equation is checked by the kernel. -/
import Derived.Test.YtjcnilaogidhlaaGreatLmAJ
import Derived.Test.YtjcnilaogidhlaaGreatLmAB
import Derived.KernelRfl
set_option linter.unusedVariables false
set_option linter.unusedSimpArgs false
set_option linter.unnecessarySimpa false
set_option linter.all false
set_option maxRecDepth 100000
namespace Go.Proofs.YtjcnilaogidhlaaGreat.K
open Go Go.Lm
/-- limelight/flat.Has -/
def R213 (T : TT) (k : Nat) (x0 x1 : SVal) : Option Res :=
 (T 57 [(weak x0), (.int .i64 0), x1]).bind fun r1 =>
 some { r := r1.r }
theorem r213 (T : TT) (k : Nat) (x0 x1 : SVal) : bodyE P H T k 213 [x0, x1] = R213 T k x0 x1 := by kernel_rfl
noncomputable def D213 (T : TT) (k : Nat) : List SVal → Option Res
  | [x0, x1] => R213 T k x0 x1
  | a => bodyE P H T k 213 a
theorem d213 (T : TT) (k : Nat) (a : List SVal) : D213 T k a = bodyE P H T k 213 a := by
  unfold D213
  split
  · exact (r213 ..).symm
  · rfl
theorem t213 (k : Nat) (x0 x1 : SVal) : T (k + 1) 213 [x0, x1] = R213 (T k) k x0 x1 := (tb k 213 _ rfl).trans (r213 ..)
/-- limelight/render.Is$1 -/
def R214 (T : TT) (k : Nat) (x0 x1a x1b x1c x1d x1e : SVal) : Option Res :=
 (T 215 [(.agg [(weak x1a), (weak x1b), (weak x1c), (weak x1d), (weak x1e)]), x0]).bind fun r1 =>
 (sNot r1.r).bind fun r2 =>
 some { r := r2 }
theorem r214 (T : TT) (k : Nat) (x0 x1a x1b x1c x1d x1e : SVal) : bodyE P H T k 214 [x0, (.rp [x1a, x1b, x1c, x1d, x1e])] = R214 T k x0 x1a x1b x1c x1d x1e := by kernel_rfl
noncomputable def D214 (T : TT) (k : Nat) : List SVal → Option Res
  | [x0, (.rp [x1a, x1b, x1c, x1d, x1e])] => R214 T k x0 x1a x1b x1c x1d x1e
  | a => bodyE P H T k 214 a
theorem d214 (T : TT) (k : Nat) (a : List SVal) : D214 T k a = bodyE P H T k 214 a := by
  unfold D214
  split
  · exact (r214 ..).symm
  · rfl
theorem t214 (k : Nat) (x0 x1a x1b x1c x1d x1e : SVal) : T (k + 1) 214 [x0, (.rp [x1a, x1b, x1c, x1d, x1e])] = R214 (T k) k x0 x1a x1b x1c x1d x1e := (tb k 214 _ rfl).trans (r214 ..)
/-- limelight/render.own -/
def R215 (T : TT) (k : Nat) (x0a x0b x0c x0d x0e x1 : SVal) : Option Res :=
 if (oneS x1) = true then
 (T 181 [(weak x0a), x1, (.int .i64 2)]).bind fun r1 =>
 pickC r1.r
 (some { r := (.bool false) })
 (((T 70 [(weak x0b), x1]).bind fun r2 =>
 guardX r2.r false
 ((T 70 [(weak x0c), x1]).bind fun r3 =>
 (asB r3.r).bind fun b4 =>
 some [b4])
 (some [true])
 (none)).bind fun vs5 =>
 pickC (.bool (vs5.getD 0 false))
 (some { r := (.bool true) })
 (((sIdx true 7 x0a x1).bind fun e6 =>
 (sBin .eql (SVal.cell e6 0) (.int .i64 1)).bind fun r7 =>
 guardX r7 true
 ((sIdx true 7 x0a x1).bind fun e8 =>
 (sBin .eql (SVal.cell e8 1) (.int .i64 2)).bind fun r9 =>
 (asB r9).bind fun b10 =>
 some [b10])
 (some [false])
 (none)).bind fun vs11 =>
 pickC (.bool (vs11.getD 0 false))
 (some { r := (.bool false) })
 (((T 181 [(weak x0a), x1, (.int .i64 6)]).bind fun r12 =>
 (sNot r12.r).bind fun r13 =>
 guardX r13 false
 ((T 236 [(weak x0d), (.fn 235 [(.rp [x1])])]).bind fun r14 =>
 (asB r14.r).bind fun b15 =>
 some [b15])
 (some [true])
 (none)).bind fun vs16 =>
 some { r := (.bool (vs16.getD 0 false)) })))
 else none
theorem r215 (T : TT) (k : Nat) (x0a x0b x0c x0d x0e x1 : SVal) : bodyE P H T k 215 [(.agg [x0a, x0b, x0c, x0d, x0e]), x1] = R215 T k x0a x0b x0c x0d x0e x1 := by kernel_rfl
noncomputable def D215 (T : TT) (k : Nat) : List SVal → Option Res
  | [(.agg [x0a, x0b, x0c, x0d, x0e]), x1] => R215 T k x0a x0b x0c x0d x0e x1
  | a => bodyE P H T k 215 a
theorem d215 (T : TT) (k : Nat) (a : List SVal) : D215 T k a = bodyE P H T k 215 a := by
  unfold D215
  split
  · exact (r215 ..).symm
  · rfl
theorem t215 (k : Nat) (x0a x0b x0c x0d x0e x1 : SVal) : T (k + 1) 215 [(.agg [x0a, x0b, x0c, x0d, x0e]), x1] = R215 (T k) k x0a x0b x0c x0d x0e x1 := (tb k 215 _ rfl).trans (r215 ..)
/-- limelight/inert.may -/
def R216 (T : TT) (k : Nat) (x0a x0b x0c x0d x0e x1 : SVal) : Option Res :=
 ((T 65 [(.agg [(weak x0a), (weak x0b), (weak x0c), (weak x0d), (weak x0e)])]).bind fun r1 =>
 (sBin .eql r1.r (.int .i64 0)).bind fun r2 =>
 guardX r2 true
 ((sBin .geq x1 (.int .i64 0)).bind fun r3 =>
 guardX r3 true
 ((sLen x0a).bind fun r4 =>
 (sBin .lss x1 r4).bind fun r5 =>
 (asB r5).bind fun b6 =>
 some [b6])
 (some [false])
 (none))
 (some [false])
 (none)).bind fun vs7 =>
 some { r := (.bool (vs7.getD 0 false)) }
theorem r216 (T : TT) (k : Nat) (x0a x0b x0c x0d x0e x1 : SVal) : bodyE P H T k 216 [(.agg [x0a, x0b, x0c, x0d, x0e]), x1] = R216 T k x0a x0b x0c x0d x0e x1 := by kernel_rfl
noncomputable def D216 (T : TT) (k : Nat) : List SVal → Option Res
  | [(.agg [x0a, x0b, x0c, x0d, x0e]), x1] => R216 T k x0a x0b x0c x0d x0e x1
  | a => bodyE P H T k 216 a
theorem d216 (T : TT) (k : Nat) (a : List SVal) : D216 T k a = bodyE P H T k 216 a := by
  unfold D216
  split
  · exact (r216 ..).symm
  · rfl
theorem t216 (k : Nat) (x0a x0b x0c x0d x0e x1 : SVal) : T (k + 1) 216 [(.agg [x0a, x0b, x0c, x0d, x0e]), x1] = R216 (T k) k x0a x0b x0c x0d x0e x1 := (tb k 216 _ rfl).trans (r216 ..)
/-- limelight/inert.Blocked -/
def R217 (T : TT) (k : Nat) (x0a x0b x0c x0d x0e x1 : SVal) : Option Res :=
 ((T 216 [(.agg [(weak x0a), (weak x0b), (weak x0c), (weak x0d), (weak x0e)]), x1]).bind fun r1 =>
 (sNot r1.r).bind fun r2 =>
 guardX r2 false
 ((sBin .eql x1 (.int .i64 0)).bind fun r3 =>
 (asB r3).bind fun b4 =>
 some [b4])
 (some [true])
 (none)).bind fun vs5 =>
 pickC (.bool (vs5.getD 0 false))
 (some { r := (.bool false) })
 ((T 237 [(.agg [(weak x0a), (weak x0b), (weak x0c), (weak x0d), (weak x0e)])]).bind fun r6 =>
 ((sBin .neq r6.r (.int .i64 (-1))).bind fun r7 =>
 guardX r7 true
 ((T 57 [(weak x0a), r6.r, x1]).bind fun r8 =>
 (sNot r8.r).bind fun r9 =>
 (asB r9).bind fun b10 =>
 some [b10])
 (some [false])
 (none)).bind fun vs11 =>
 some { r := (.bool (vs11.getD 0 false)) })
theorem r217 (T : TT) (k : Nat) (x0a x0b x0c x0d x0e x1 : SVal) : bodyE P H T k 217 [(.agg [x0a, x0b, x0c, x0d, x0e]), x1] = R217 T k x0a x0b x0c x0d x0e x1 := by kernel_rfl
noncomputable def D217 (T : TT) (k : Nat) : List SVal → Option Res
  | [(.agg [x0a, x0b, x0c, x0d, x0e]), x1] => R217 T k x0a x0b x0c x0d x0e x1
  | a => bodyE P H T k 217 a
theorem d217 (T : TT) (k : Nat) (a : List SVal) : D217 T k a = bodyE P H T k 217 a := by
  unfold D217
  split
  · exact (r217 ..).symm
  · rfl
theorem t217 (k : Nat) (x0a x0b x0c x0d x0e x1 : SVal) : T (k + 1) 217 [(.agg [x0a, x0b, x0c, x0d, x0e]), x1] = R217 (T k) k x0a x0b x0c x0d x0e x1 := (tb k 217 _ rfl).trans (r217 ..)
/-- limelight/inert.marked -/
def R218 (T : TT) (k : Nat) (x0a x0b x0c x0d x0e x1 : SVal) : Option Res :=
 (T 237 [(.agg [(weak x0a), (weak x0b), (weak x0c), (weak x0d), (weak x0e)])]).bind fun r1 =>
 (T 52 [(weak x0a), x1]).bind fun r2 =>
 (sLen r2.r).bind fun r3 =>
 loopN (fun s4 next4 =>
 (sBin .lss s4.k5 s4.k4).bind fun r5 =>
 pickC r5
 ((sIdx false 1 s4.k3 s4.k5).bind fun e6 =>
 (T 181 [(weak (SVal.cell s4.k0 0)), e6, (.int .i64 3)]).bind fun r7 =>
 (guardX r7.r false
 ((sBin .eql e6 s4.k1).bind fun r8 =>
 (asB r8).bind fun b9 =>
 some [b9])
 (some [true])
 (none)).bind fun vs10 =>
 pickC (.bool (vs10.getD 0 false))
 (some { r := r7.r })
 ((sBin .add s4.k5 (.int .i64 1)).bind fun r11 =>
 next4 ⟨[(.rp [(SVal.cell s4.k0 0), (SVal.cell s4.k0 1), (SVal.cell s4.k0 2), (SVal.cell s4.k0 3), (SVal.cell s4.k0 4)]), s4.k1, r7.r, (weak s4.k3), s4.k4, r11], [], false⟩))
 (some { r := s4.k2 })) k ⟨[(.rp [x0a, x0b, x0c, x0d, x0e]), r1.r, (.bool false), (weak r2.r), r3, (.int .i64 0)], [], false⟩
theorem r218 (T : TT) (k : Nat) (x0a x0b x0c x0d x0e x1 : SVal) : bodyE P H T k 218 [(.agg [x0a, x0b, x0c, x0d, x0e]), x1] = R218 T k x0a x0b x0c x0d x0e x1 := by kernel_rfl
noncomputable def D218 (T : TT) (k : Nat) : List SVal → Option Res
  | [(.agg [x0a, x0b, x0c, x0d, x0e]), x1] => R218 T k x0a x0b x0c x0d x0e x1
  | a => bodyE P H T k 218 a
theorem d218 (T : TT) (k : Nat) (a : List SVal) : D218 T k a = bodyE P H T k 218 a := by
  unfold D218
  split
  · exact (r218 ..).symm
  · rfl
theorem t218 (k : Nat) (x0a x0b x0c x0d x0e x1 : SVal) : T (k + 1) 218 [(.agg [x0a, x0b, x0c, x0d, x0e]), x1] = R218 (T k) k x0a x0b x0c x0d x0e x1 := (tb k 218 _ rfl).trans (r218 ..)
/-- limelight/limelightref03.List -/
def R219 (T : TT) (k : Nat) (x0 x1 : SVal) : Option Res :=
 if (List.all [[.v x1]] allOne) = true then
 loopN (fun s1 next1 =>
 (sIdx true 7 s1.k0 s1.k1).bind fun e2 =>
 (sLen (SVal.cell e2 3)).bind fun r3 =>
 (sBin .lss s1.k3 r3).bind fun r4 =>
 pickC r4
 ((sIdx true 7 s1.k0 s1.k1).bind fun e5 =>
 (sIdx false 1 (SVal.cell e5 3) s1.k3).bind fun e6 =>
 (T 219 [(weak s1.k0), e6]).bind fun r7 =>
 (elems 1 r7.r).bind fun ys8 =>
 if (s1.k2.xs.length + ys8.length) * 8 ≤ maxAppend then
 (sBin .add s1.k3 (.int .i64 1)).bind fun r9 =>
 next1 ⟨[(weak s1.k0), s1.k1, (.sl 1 true false (s1.k2.xs ++ ys8)), r9], [], false⟩
 else none)
 (some { r := (.sl 1 false false s1.k2.xs) })) k ⟨[(weak x0), x1, (.sl 1 true false [x1]), (.int .i64 0)], [], false⟩
 else none
theorem r219 (T : TT) (k : Nat) (x0 x1 : SVal) : bodyE P H T k 219 [x0, x1] = R219 T k x0 x1 := by kernel_rfl
theorem t219 (k : Nat) (x0 x1 : SVal) : T (k + 1) 219 [x0, x1] = R219 (T k) k x0 x1 := (tb k 219 _ rfl).trans (r219 ..)
/-- limelight/tree.value -/
def R220 (T : TT) (k : Nat) (x0a x0b : SVal) : Option Res :=
 (sBin .eql x0a (.int .i64 0)).bind fun r1 =>
 pickC r1
 ((T 176 [x0b, (.int .i64 (-2147483648)), (.int .i64 2147483647)]).bind fun r2 =>
 some { r := r2.r })
 ((sBin .eql x0a (.int .i64 4)).bind fun r3 =>
 pickC r3
 ((T 176 [x0b, (.int .i64 0), (.int .i64 2147483647)]).bind fun r4 =>
 some { r := r4.r })
 ((sBin .eql x0a (.int .i64 6)).bind fun r5 =>
 pickC r5
 ((T 176 [x0b, (.int .i64 1), (.int .i64 3)]).bind fun r6 =>
 some { r := r6.r })
 ((sBin .eql x0a (.int .i64 9)).bind fun r7 =>
 pickC r7
 ((T 176 [x0b, (.int .i64 0), (.int .i64 63)]).bind fun r8 =>
 some { r := r8.r })
 ((sBin .eql x0b (.int .i64 0)).bind fun r9 =>
 some { r := r9 }))))
theorem r220 (T : TT) (k : Nat) (x0a x0b : SVal) : bodyE P H T k 220 [(.agg [x0a, x0b])] = R220 T k x0a x0b := by kernel_rfl
noncomputable def D220 (T : TT) (k : Nat) : List SVal → Option Res
  | [(.agg [x0a, x0b])] => R220 T k x0a x0b
  | a => bodyE P H T k 220 a
theorem d220 (T : TT) (k : Nat) (a : List SVal) : D220 T k a = bodyE P H T k 220 a := by
  unfold D220
  split
  · exact (r220 ..).symm
  · rfl
theorem t220 (k : Nat) (x0a x0b : SVal) : T (k + 1) 220 [(.agg [x0a, x0b])] = R220 (T k) k x0a x0b := (tb k 220 _ rfl).trans (r220 ..)
/-- limelight/tree.up$1 -/
def R221 (T : TT) (k : Nat) (x1 x2 : SVal) : Option Res :=
 (sLen x1).bind fun r1 =>
 (sBin .add r1 (.int .i64 1)).bind fun r2 =>
 loopN (fun s3 next3 =>
 (sBin .lss s3.k4 s3.k3).bind fun r4 =>
 pickC r4
 ((sBin .eql (SVal.cell s3.k2 0) (.int .i64 (-1))).bind fun r5 =>
 guardX r5 false
 (if (s3.stop) = true then none else
 (notTup (SVal.cell s3.k2 0)).bind fun y6 =>
 both
 ((sIdx true 7 (SVal.cell s3.k1 0) (SVal.cell s3.k2 0)).bind fun e7 =>
 (sIdx true 7 (SVal.cell s3.k1 0) (SVal.cell s3.k2 0)).bind fun e8 =>
 (sMax (SVal.cell e7 2) (SVal.cell e8 4)).bind fun r9 =>
 if (oneS r9) = true then
 (sBin .add s3.k4 (.int .i64 1)).bind fun r10 =>
 next3 ⟨[.yld, (.rp [(SVal.cell s3.k1 0)]), (.mb [r9]), s3.k3, r10], (s3.out ++ [y6]), s3.stop⟩
 else none)
 (some { r := (.tup []) }))
 (if (s3.stop) = true then
 some { r := (.tup []) }
 else
 some { r := (.tup []), out := s3.out })
 (none))
 (if (s3.stop) = true then
 some { r := (.tup []) }
 else
 some { r := (.tup []), out := s3.out })) k ⟨[.yld, (.rp [x1]), (.mb [x2]), r2, (.int .i64 0)], [], false⟩
theorem r221 (T : TT) (k : Nat) (x1 x2 : SVal) : bodyE P H T k 221 [.yld, (.rp [x1]), (.mb [x2])] = R221 T k x1 x2 := by kernel_rfl
noncomputable def D221 (T : TT) (k : Nat) : List SVal → Option Res
  | [.yld, (.rp [x1]), (.mb [x2])] => R221 T k x1 x2
  | a => bodyE P H T k 221 a
theorem d221 (T : TT) (k : Nat) (a : List SVal) : D221 T k a = bodyE P H T k 221 a := by
  unfold D221
  split
  · exact (r221 ..).symm
  · rfl
theorem t221 (k : Nat) (x1 x2 : SVal) : T (k + 1) 221 [.yld, (.rp [x1]), (.mb [x2])] = R221 (T k) k x1 x2 := (tb k 221 _ rfl).trans (r221 ..)
/-- limelight/shade.Above -/
def R222 (T : TT) (k : Nat) (x0 x1 x2 : SVal) : Option Res :=
 (T 238 [(weak x0), x2]).bind fun r1 =>
 (T 70 [(weak r1.r), x1]).bind fun r2 =>
 some { r := r2.r }
theorem r222 (T : TT) (k : Nat) (x0 x1 x2 : SVal) : bodyE P H T k 222 [x0, x1, x2] = R222 T k x0 x1 x2 := by kernel_rfl
noncomputable def D222 (T : TT) (k : Nat) : List SVal → Option Res
  | [x0, x1, x2] => R222 T k x0 x1 x2
  | a => bodyE P H T k 222 a
theorem d222 (T : TT) (k : Nat) (a : List SVal) : D222 T k a = bodyE P H T k 222 a := by
  unfold D222
  split
  · exact (r222 ..).symm
  · rfl
theorem t222 (k : Nat) (x0 x1 x2 : SVal) : T (k + 1) 222 [x0, x1, x2] = R222 (T k) k x0 x1 x2 := (tb k 222 _ rfl).trans (r222 ..)
/-- limelight/order.list -/
def R234 (T : TT) (k : Nat) (x0 x1 : SVal) : Option Res :=
 if (oneS x0) = true then
 if (oneS x1) = true then
 some { r := (.fn 244 [(.rp [x0]), (.rp [x1])]) }
 else none
 else none
theorem r234 (T : TT) (k : Nat) (x0 x1 : SVal) : bodyE P H T k 234 [x0, x1] = R234 T k x0 x1 := by kernel_rfl
noncomputable def D234 (T : TT) (k : Nat) : List SVal → Option Res
  | [x0, x1] => R234 T k x0 x1
  | a => bodyE P H T k 234 a
theorem d234 (T : TT) (k : Nat) (a : List SVal) : D234 T k a = bodyE P H T k 234 a := by
  unfold D234
  split
  · exact (r234 ..).symm
  · rfl
theorem t234 (k : Nat) (x0 x1 : SVal) : T (k + 1) 234 [x0, x1] = R234 (T k) k x0 x1 := (tb k 234 _ rfl).trans (r234 ..)
/-- limelight/render.own$1 -/
def R235 (T : TT) (k : Nat) (x0a x0b x1 : SVal) : Option Res :=
 (sBin .eql x0a x1).bind fun r1 =>
 some { r := r1 }
theorem r235 (T : TT) (k : Nat) (x0a x0b x1 : SVal) : bodyE P H T k 235 [(.agg [x0a, x0b]), (.rp [x1])] = R235 T k x0a x0b x1 := by kernel_rfl
noncomputable def D235 (T : TT) (k : Nat) : List SVal → Option Res
  | [(.agg [x0a, x0b]), (.rp [x1])] => R235 T k x0a x0b x1
  | a => bodyE P H T k 235 a
theorem d235 (T : TT) (k : Nat) (a : List SVal) : D235 T k a = bodyE P H T k 235 a := by
  unfold D235
  split
  · exact (r235 ..).symm
  · rfl
theorem t235 (k : Nat) (x0a x0b x1 : SVal) : T (k + 1) 235 [(.agg [x0a, x0b]), (.rp [x1])] = R235 (T k) k x0a x0b x1 := (tb k 235 _ rfl).trans (r235 ..)
/-- slices.ContainsFunc[[]limelight/api.Shown,limelight/api.Shown] -/
def R236 (T : TT) (k : Nat) (x0 x1 : SVal) : Option Res :=
 (T 97 [(weak x0), x1]).bind fun r1 =>
 (sBin .geq r1.r (.int .i64 0)).bind fun r2 =>
 some { r := r2 }
theorem r236 (T : TT) (k : Nat) (x0 x1 : SVal) : bodyE P H T k 236 [x0, x1] = R236 T k x0 x1 := by kernel_rfl
noncomputable def D236 (T : TT) (k : Nat) : List SVal → Option Res
  | [x0, x1] => R236 T k x0 x1
  | a => bodyE P H T k 236 a
theorem d236 (T : TT) (k : Nat) (a : List SVal) : D236 T k a = bodyE P H T k 236 a := by
  unfold D236
  split
  · exact (r236 ..).symm
  · rfl
theorem t236 (k : Nat) (x0 x1 : SVal) : T (k + 1) 236 [x0, x1] = R236 (T k) k x0 x1 := (tb k 236 _ rfl).trans (r236 ..)
/-- limelight/top.Highest -/
def R237 (T : TT) (k : Nat) (x0a x0b x0c x0d x0e : SVal) : Option Res :=
 (T 65 [(.agg [(weak x0a), (weak x0b), (weak x0c), (weak x0d), (weak x0e)])]).bind fun r1 =>
 (sBin .eql r1.r (.int .i64 0)).bind fun r2 =>
 pickC r2
 ((T 79 [(weak x0e)]).bind fun r3 =>
 (callIt T r3.r).bind fun ys4 =>
 rangeN (fun s5 y5 next5 =>
 (tup2 y5).bind fun z6 =>
 (T 70 [(weak (SVal.cell s5.k0 2)), z6.2]).bind fun r7 =>
 pickC r7.r
 (if (oneS z6.2) = true then
 some { r := z6.2 }
 else none)
 (next5 ⟨[(.rp [(SVal.cell s5.k0 0), (SVal.cell s5.k0 1), (SVal.cell s5.k0 2), (SVal.cell s5.k0 3), (SVal.cell s5.k0 4)]), (.mb [s5.k1.c0])], [], false⟩)) (fun s8 =>
 some { r := (.int .i64 (-1)) }) ys4 ⟨[(.rp [x0a, x0b, x0c, x0d, x0e]), (.mb [(.int .i64 0)])], [], false⟩)
 (some { r := (.int .i64 (-1)) })
theorem r237 (T : TT) (k : Nat) (x0a x0b x0c x0d x0e : SVal) : bodyE P H T k 237 [(.agg [x0a, x0b, x0c, x0d, x0e])] = R237 T k x0a x0b x0c x0d x0e := by kernel_rfl
noncomputable def D237 (T : TT) (k : Nat) : List SVal → Option Res
  | [(.agg [x0a, x0b, x0c, x0d, x0e])] => R237 T k x0a x0b x0c x0d x0e
  | a => bodyE P H T k 237 a
theorem d237 (T : TT) (k : Nat) (a : List SVal) : D237 T k a = bodyE P H T k 237 a := by
  unfold D237
  split
  · exact (r237 ..).symm
  · rfl
theorem t237 (k : Nat) (x0a x0b x0c x0d x0e : SVal) : T (k + 1) 237 [(.agg [x0a, x0b, x0c, x0d, x0e])] = R237 (T k) k x0a x0b x0c x0d x0e := (tb k 237 _ rfl).trans (r237 ..)
/-- limelight/shade.Up -/
def R238 (T : TT) (k : Nat) (x0 x1 : SVal) : Option Res :=
 (T 246 [(weak x0), x1]).bind fun r1 =>
 (elems 1 r1.r).bind fun ys2 =>
 if ys2.length * 8 ≤ maxAppend then
 (T 117 [(weak x0), x1]).bind fun r3 =>
 (sBin .neq r3.r (.int .i64 (-1))).bind fun r4 =>
 pickC r4
 (loopN (fun s5 next5 =>
 (T 246 [(weak s5.k0), s5.k1]).bind fun r6 =>
 (elems 1 r6.r).bind fun ys7 =>
 if (s5.k2.xs.length + ys7.length) * 8 ≤ maxAppend then
 (T 117 [(weak s5.k0), s5.k1]).bind fun r8 =>
 (sBin .neq r8.r (.int .i64 (-1))).bind fun r9 =>
 pickC r9
 (next5 ⟨[(weak s5.k0), r8.r, (.sl 1 true false (s5.k2.xs ++ ys7))], [], false⟩)
 (some { r := (.sl 1 false false (s5.k2.xs ++ ys7)) })
 else none) k ⟨[(weak x0), r3.r, (.sl 1 true false ys2)], [], false⟩)
 (some { r := (.sl 1 false false ys2) })
 else none
theorem r238 (T : TT) (k : Nat) (x0 x1 : SVal) : bodyE P H T k 238 [x0, x1] = R238 T k x0 x1 := by kernel_rfl
noncomputable def D238 (T : TT) (k : Nat) : List SVal → Option Res
  | [x0, x1] => R238 T k x0 x1
  | a => bodyE P H T k 238 a
theorem d238 (T : TT) (k : Nat) (a : List SVal) : D238 T k a = bodyE P H T k 238 a := by
  unfold D238
  split
  · exact (r238 ..).symm
  · rfl
theorem t238 (k : Nat) (x0 x1 : SVal) : T (k + 1) 238 [x0, x1] = R238 (T k) k x0 x1 := (tb k 238 _ rfl).trans (r238 ..)
/-- limelight/order.list$1 -/
def R244 (T : TT) (k : Nat) (x1 x2 : SVal) : Option Res :=
 (T 245 [(weak x1), x2, .yld]).bind fun r1 =>
 both
 (some { r := (.tup []), out := ([] ++ r1.out) })
 (some { r := (.tup []) })
theorem r244 (T : TT) (k : Nat) (x1 x2 : SVal) : bodyE P H T k 244 [.yld, (.rp [x1]), (.rp [x2])] = R244 T k x1 x2 := by kernel_rfl
noncomputable def D244 (T : TT) (k : Nat) : List SVal → Option Res
  | [.yld, (.rp [x1]), (.rp [x2])] => R244 T k x1 x2
  | a => bodyE P H T k 244 a
theorem d244 (T : TT) (k : Nat) (a : List SVal) : D244 T k a = bodyE P H T k 244 a := by
  unfold D244
  split
  · exact (r244 ..).symm
  · rfl
theorem t244 (k : Nat) (x1 x2 : SVal) : T (k + 1) 244 [.yld, (.rp [x1]), (.rp [x2])] = R244 (T k) k x1 x2 := (tb k 244 _ rfl).trans (r244 ..)
/-- limelight/order.down -/
def R245 (T : TT) (k : Nat) (x0 x1 : SVal) : Option Res :=
 (notTup x1).bind fun y1 =>
 both
 ((sIdx true 7 x0 x1).bind fun e2 =>
 (sLen (SVal.cell e2 3)).bind fun r3 =>
 loopN (fun s4 next4 =>
 (sBin .lss s4.k4 s4.k3).bind fun r5 =>
 pickC r5
 ((sIdx false 1 s4.k2 s4.k4).bind fun e6 =>
 if (s4.stop) = true then none else
 (T 245 [(weak s4.k0), e6, .yld]).bind fun r7 =>
 both
 ((sNot r7.r).bind fun r8 =>
 pickC r8
 (if (s4.stop) = true then
 some { r := (.bool false) }
 else
 some { r := (.bool false), out := (s4.out ++ r7.out) })
 ((sBin .add s4.k4 (.int .i64 1)).bind fun r9 =>
 next4 ⟨[(weak s4.k0), .yld, (weak s4.k2), s4.k3, r9], (s4.out ++ r7.out), s4.stop⟩))
 (some { r := (.bool false) }))
 (if (s4.stop) = true then
 none
 else
 some { r := (.bool true), out := s4.out })) k ⟨[(weak x0), .yld, (weak (SVal.cell e2 3)), r3, (.int .i64 0)], ([] ++ [y1]), false⟩)
 (some { r := (.bool false) })
theorem r245 (T : TT) (k : Nat) (x0 x1 : SVal) : bodyE P H T k 245 [x0, x1, .yld] = R245 T k x0 x1 := by kernel_rfl
noncomputable def D245 (T : TT) (k : Nat) : List SVal → Option Res
  | [x0, x1, .yld] => R245 T k x0 x1
  | a => bodyE P H T k 245 a
theorem d245 (T : TT) (k : Nat) (a : List SVal) : D245 T k a = bodyE P H T k 245 a := by
  unfold D245
  split
  · exact (r245 ..).symm
  · rfl
theorem t245 (k : Nat) (x0 x1 : SVal) : T (k + 1) 245 [x0, x1, .yld] = R245 (T k) k x0 x1 := (tb k 245 _ rfl).trans (r245 ..)
/-- limelight/order.Up -/
def R246 (T : TT) (k : Nat) (x0 x1 : SVal) : Option Res :=
 if (List.all [[.v x1]] allOne) = true then
 (T 156 [(weak x0), (.sl 1 false false [x1])]).bind fun r1 =>
 (sNot r1.r).bind fun r2 =>
 pickC r2
 (some { r := (.sl 1 false false []) })
 ((T 157 [(weak x0), x1]).bind fun r3 =>
 (T 66 [r3.r]).bind fun r4 =>
 some { r := (.sl 1 false false r4.r.xs) })
 else none
theorem r246 (T : TT) (k : Nat) (x0 x1 : SVal) : bodyE P H T k 246 [x0, x1] = R246 T k x0 x1 := by kernel_rfl
noncomputable def D246 (T : TT) (k : Nat) : List SVal → Option Res
  | [x0, x1] => R246 T k x0 x1
  | a => bodyE P H T k 246 a
theorem d246 (T : TT) (k : Nat) (a : List SVal) : D246 T k a = bodyE P H T k 246 a := by
  unfold D246
  split
  · exact (r246 ..).symm
  · rfl
theorem t246 (k : Nat) (x0 x1 : SVal) : T (k + 1) 246 [x0, x1] = R246 (T k) k x0 x1 := (tb k 246 _ rfl).trans (r246 ..)
end Go.Proofs.YtjcnilaogidhlaaGreat.K
