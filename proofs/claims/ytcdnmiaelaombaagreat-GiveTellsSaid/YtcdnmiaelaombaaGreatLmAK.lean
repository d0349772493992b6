/- What the evaluator makes of the functions, by program (wip/tr/resid.py); each equation is checked by the kernel. -/
import Derived.Test.YtcdnmiaelaombaaGreatLmAI
import Derived.Test.YtcdnmiaelaombaaGreatLmAB
import Derived.KernelRfl
set_option linter.unusedVariables false
set_option linter.unusedSimpArgs false
set_option linter.unnecessarySimpa false
set_option linter.all false
set_option maxRecDepth 100000
namespace Go.Proofs.YtcdnmiaelaombaaGreat.K
open Go Go.Lm
/-- limelight/limelightref12.Is -/
def R34 (T : TT) (k : Nat) (x0a x0b x0c x0d x0e x1 : SVal) : Option Res :=
 (T 60 [(.agg [(weak x0a), (weak x0b), (weak x0c), (weak x0d), (weak x0e)]), x1]).bind fun r1 =>
 pickC r1.r
 (some { r := (.bool true) })
 ((T 57 [(weak x0a), x1]).bind fun r2 =>
 (sLen r2.r).bind fun r3 =>
 (T 62 [(.agg [(weak x0a), (weak x0b), (weak x0c), (weak x0d), (weak x0e)])]).bind fun r4 =>
 (T 61 [(weak r2.r), r4.r]).bind fun r5 =>
 (sBin .geq r5.r (.int .i64 0)).bind fun r6 =>
 pickC r6
 ((sBin .add r5.r (.int .i64 1)).bind fun r7 =>
 loopN (fun s8 next8 =>
 (sBin .lss s8.k3 s8.k2).bind fun r9 =>
 pickC r9
 ((sIdx false 1 s8.k1 s8.k3).bind fun e10 =>
 (T 22 [(weak (SVal.cell s8.k0 0)), e10, (.int .i64 3)]).bind fun r11 =>
 pickC r11.r
 (some { r := (.bool true) })
 ((sBin .add s8.k3 (.int .i64 1)).bind fun r12 =>
 next8 ⟨[(.rp [(SVal.cell s8.k0 0), (SVal.cell s8.k0 1), (SVal.cell s8.k0 2), (SVal.cell s8.k0 3), (SVal.cell s8.k0 4)]), (weak s8.k1), s8.k2, r12], [], false⟩))
 (some { r := (.bool false) })) k ⟨[(.rp [x0a, x0b, x0c, x0d, x0e]), (weak r2.r), r7, (.int .i64 0)], [], false⟩)
 (loopN (fun s13 next13 =>
 (sBin .lss s13.k3 s13.k2).bind fun r14 =>
 pickC r14
 ((sIdx false 1 s13.k1 s13.k3).bind fun e15 =>
 (T 22 [(weak (SVal.cell s13.k0 0)), e15, (.int .i64 3)]).bind fun r16 =>
 pickC r16.r
 (some { r := (.bool true) })
 ((sBin .add s13.k3 (.int .i64 1)).bind fun r17 =>
 next13 ⟨[(.rp [(SVal.cell s13.k0 0), (SVal.cell s13.k0 1), (SVal.cell s13.k0 2), (SVal.cell s13.k0 3), (SVal.cell s13.k0 4)]), (weak s13.k1), s13.k2, r17], [], false⟩))
 (some { r := (.bool false) })) k ⟨[(.rp [x0a, x0b, x0c, x0d, x0e]), (weak r2.r), r3, (.int .i64 0)], [], false⟩))
theorem r34 (T : TT) (k : Nat) (x0a x0b x0c x0d x0e x1 : SVal) : bodyE P H T k 34 [(.agg [x0a, x0b, x0c, x0d, x0e]), x1] = R34 T k x0a x0b x0c x0d x0e x1 := by kernel_rfl
theorem t34 (k : Nat) (x0a x0b x0c x0d x0e x1 : SVal) : T (k + 1) 34 [(.agg [x0a, x0b, x0c, x0d, x0e]), x1] = R34 (T k) k x0a x0b x0c x0d x0e x1 := (tb k 34 _ rfl).trans (r34 ..)
/-- limelight/limelightref03.In -/
def R35 (T : TT) (k : Nat) (x0 x1 : SVal) : Option Res :=
 (T 61 [(weak x0), x1]).bind fun r1 =>
 (sBin .geq r1.r (.int .i64 0)).bind fun r2 =>
 some { r := r2 }
theorem r35 (T : TT) (k : Nat) (x0 x1 : SVal) : bodyE P H T k 35 [x0, x1] = R35 T k x0 x1 := by kernel_rfl
theorem t35 (k : Nat) (x0 x1 : SVal) : T (k + 1) 35 [x0, x1] = R35 (T k) k x0 x1 := (tb k 35 _ rfl).trans (r35 ..)
/-- limelight/limelightref04.Up -/
def R36 (T : TT) (k : Nat) (x0 x1 : SVal) : Option Res :=
 loopN (fun s1 next1 =>
 (sBin .neq s1.k1 (.int .i64 (-1))).bind fun r2 =>
 pickC r2
 (if (List.all [[.v s1.k1]] allOne) = true then
 if (s1.k2.xs.length + ([s1.k1] : List SVal).length) * 8 ≤ maxAppend then
 (T 63 [(weak s1.k0), s1.k1]).bind fun r3 =>
 next1 ⟨[(weak s1.k0), r3.r, (.sl 1 true false (s1.k2.xs ++ ([s1.k1] : List SVal)))], [], false⟩
 else none
 else none)
 (some { r := (.sl 1 false false s1.k2.xs) })) k ⟨[(weak x0), x1, (.sl 1 true false [])], [], false⟩
theorem r36 (T : TT) (k : Nat) (x0 x1 : SVal) : bodyE P H T k 36 [x0, x1] = R36 T k x0 x1 := by kernel_rfl
theorem t36 (k : Nat) (x0 x1 : SVal) : T (k + 1) 36 [x0, x1] = R36 (T k) k x0 x1 := (tb k 36 _ rfl).trans (r36 ..)
/-- limelight/limelightref02.Get -/
def R37 (T : TT) (k : Nat) (x0 x1 x2 : SVal) : Option Res :=
 (T 11 [(weak x0), x1]).bind fun r1 =>
 (sNot r1.r).bind fun r2 =>
 pickC r2
 (some { r := (.tup [(.int .i64 0), (.bool false)]) })
 (loopN (fun s3 next3 =>
 (sIdx true 7 s3.k0 s3.k1).bind fun e4 =>
 (sLen (SVal.cell e4 6)).bind fun r5 =>
 (sBin .lss s3.k3 r5).bind fun r6 =>
 pickC r6
 ((sIdx true 7 s3.k0 s3.k1).bind fun e7 =>
 (sIdx true 2 (SVal.cell e7 6) s3.k3).bind fun e8 =>
 (sBin .eql (SVal.cell e8 0) s3.k2).bind fun r9 =>
 pickC r9
 ((sIdx true 7 s3.k0 s3.k1).bind fun e10 =>
 (sIdx true 2 (SVal.cell e10 6) s3.k3).bind fun e11 =>
 some { r := (.tup [(SVal.cell e11 1), (.bool true)]) })
 ((sBin .add s3.k3 (.int .i64 1)).bind fun r12 =>
 next3 ⟨[(weak s3.k0), s3.k1, s3.k2, r12], [], false⟩))
 (some { r := (.tup [(.int .i64 0), (.bool false)]) })) k ⟨[(weak x0), x1, x2, (.int .i64 0)], [], false⟩)
theorem r37 (T : TT) (k : Nat) (x0 x1 x2 : SVal) : bodyE P H T k 37 [x0, x1, x2] = R37 T k x0 x1 x2 := by kernel_rfl
theorem t37 (k : Nat) (x0 x1 x2 : SVal) : T (k + 1) 37 [x0, x1, x2] = R37 (T k) k x0 x1 x2 := (tb k 37 _ rfl).trans (r37 ..)
/-- limelight/limelightref01.kind -/
def R38 (T : TT) (k : Nat) (x0a x0b x0c x0d x0e x0f x0g x1 : SVal) : Option Res :=
 ((sBin .eql x0a (.int .i64 0)).bind fun r1 =>
 (sBin .eql x1 (.int .i64 0)).bind fun r2 =>
 (sBinB .neq r1 r2).bind fun r3 =>
 guardX r3 false
 ((sBin .lss x0a (.int .i64 0)).bind fun r4 =>
 guardX r4 false
 ((sBin .gtr x0a (.int .i64 3)).bind fun r5 =>
 (asB r5).bind fun b6 =>
 some [b6])
 (some [true])
 (none))
 (some [true])
 (none)).bind fun vs7 =>
 pickC (.bool (vs7.getD 0 false))
 (some { r := (.bool false) })
 ((sBin .eql x0a (.int .i64 1)).bind fun r8 =>
 pickC r8
 (((sBin .geq x0b (.int .i64 0)).bind fun r9 =>
 guardX r9 true
 ((sBin .leq x0b (.int .i64 4)).bind fun r10 =>
 (asB r10).bind fun b11 =>
 some [b11])
 (some [false])
 (none)).bind fun vs12 =>
 some { r := (.bool (vs12.getD 0 false)) })
 ((sBin .eql x0b (.int .i64 0)).bind fun r13 =>
 some { r := r13 }))
theorem r38 (T : TT) (k : Nat) (x0a x0b x0c x0d x0e x0f x0g x1 : SVal) : bodyE P H T k 38 [(.agg [x0a, x0b, x0c, x0d, x0e, x0f, x0g]), x1] = R38 T k x0a x0b x0c x0d x0e x0f x0g x1 := by kernel_rfl
theorem t38 (k : Nat) (x0a x0b x0c x0d x0e x0f x0g x1 : SVal) : T (k + 1) 38 [(.agg [x0a, x0b, x0c, x0d, x0e, x0f, x0g]), x1] = R38 (T k) k x0a x0b x0c x0d x0e x0f x0g x1 := (tb k 38 _ rfl).trans (r38 ..)
/-- limelight/limelightref01.attrs -/
def R39 (T : TT) (k : Nat) (x0a x0b x0c x0d x0e x0f x0g : SVal) : Option Res :=
 loopN (fun s1 next1 =>
 (sLen (SVal.cell s1.k0 6)).bind fun r2 =>
 (sBin .lss s1.k1 r2).bind fun r3 =>
 pickC r3
 (((sIdx true 2 (SVal.cell s1.k0 6) s1.k1).bind fun e4 =>
 (T 64 [(SVal.cell s1.k0 0), (.agg [(SVal.cell e4 0), (SVal.cell e4 1)])]).bind fun r5 =>
 (sNot r5.r).bind fun r6 =>
 guardX r6 false
 ((sBin .gtr s1.k1 (.int .i64 0)).bind fun r7 =>
 guardX r7 true
 ((sIdx true 2 (SVal.cell s1.k0 6) s1.k1).bind fun e8 =>
 (sBin .sub s1.k1 (.int .i64 1)).bind fun r9 =>
 (sIdx true 2 (SVal.cell s1.k0 6) r9).bind fun e10 =>
 (sBin .leq (SVal.cell e8 0) (SVal.cell e10 0)).bind fun r11 =>
 (asB r11).bind fun b12 =>
 some [b12])
 (some [false])
 (none))
 (some [true])
 (none)).bind fun vs13 =>
 pickC (.bool (vs13.getD 0 false))
 (some { r := (.bool false) })
 ((sBin .add s1.k1 (.int .i64 1)).bind fun r14 =>
 next1 ⟨[(.rp [(SVal.cell s1.k0 0), (SVal.cell s1.k0 1), (SVal.cell s1.k0 2), (SVal.cell s1.k0 3), (SVal.cell s1.k0 4), (SVal.cell s1.k0 5), (SVal.cell s1.k0 6)]), r14], [], false⟩))
 (some { r := (.bool true) })) k ⟨[(.rp [x0a, x0b, x0c, x0d, x0e, x0f, x0g]), (.int .i64 0)], [], false⟩
theorem r39 (T : TT) (k : Nat) (x0a x0b x0c x0d x0e x0f x0g : SVal) : bodyE P H T k 39 [(.agg [x0a, x0b, x0c, x0d, x0e, x0f, x0g])] = R39 T k x0a x0b x0c x0d x0e x0f x0g := by kernel_rfl
theorem t39 (k : Nat) (x0a x0b x0c x0d x0e x0f x0g : SVal) : T (k + 1) 39 [(.agg [x0a, x0b, x0c, x0d, x0e, x0f, x0g])] = R39 (T k) k x0a x0b x0c x0d x0e x0f x0g := (tb k 39 _ rfl).trans (r39 ..)
/-- limelight/limelightref01.kids -/
def R40 (T : TT) (k : Nat) (x0 x1 : SVal) : Option Res :=
 (sIdx true 7 x0 x1).bind fun e1 =>
 if (allOne [.v (SVal.cell e1 0), .v (SVal.cell e1 1), .v (SVal.cell e1 2), .v (SVal.cell e1 3), .v (SVal.cell e1 4), .v (SVal.cell e1 5), .v (SVal.cell e1 6)]) = true then
 loopN (fun s2 next2 =>
 (sLen (SVal.cell s2.k2 3)).bind fun r3 =>
 (sBin .lss s2.k3 r3).bind fun r4 =>
 pickC r4
 ((sIdx false 1 (SVal.cell s2.k2 3) s2.k3).bind fun e5 =>
 ((T 11 [(weak s2.k0), e5]).bind fun r6 =>
 (sNot r6.r).bind fun r7 =>
 guardX r7 false
 ((T 65 [(weak (SVal.cell s2.k2 3)), e5]).bind fun r8 =>
 (sBin .neq r8.r (.int .i64 1)).bind fun r9 =>
 (asB r9).bind fun b10 =>
 some [b10])
 (some [true])
 (none)).bind fun vs11 =>
 pickC (.bool (vs11.getD 0 false))
 (some { r := (.bool false) })
 (((sIdx true 7 s2.k0 e5).bind fun e12 =>
 (sBin .neq (SVal.cell e12 2) s2.k1).bind fun r13 =>
 guardX r13 false
 ((sIdx true 7 s2.k0 e5).bind fun e14 =>
 (sBin .neq (SVal.cell e14 0) (.int .i64 1)).bind fun r15 =>
 guardX r15 true
 ((sIdx true 7 s2.k0 e5).bind fun e16 =>
 (sBin .neq (SVal.cell e16 0) (.int .i64 2)).bind fun r17 =>
 (asB r17).bind fun b18 =>
 some [b18])
 (some [false])
 (none))
 (some [true])
 (none)).bind fun vs19 =>
 pickC (.bool (vs19.getD 0 false))
 (some { r := (.bool false) })
 ((sBin .add s2.k3 (.int .i64 1)).bind fun r20 =>
 next2 ⟨[(weak s2.k0), s2.k1, (.rp [(SVal.cell s2.k2 0), (SVal.cell s2.k2 1), (SVal.cell s2.k2 2), (SVal.cell s2.k2 3), (SVal.cell s2.k2 4), (SVal.cell s2.k2 5), (SVal.cell s2.k2 6)]), r20], [], false⟩)))
 (((sBin .eql (SVal.cell s2.k2 0) (.int .i64 2)).bind fun r21 =>
 guardX r21 true
 ((sLen (SVal.cell s2.k2 3)).bind fun r22 =>
 (sBin .gtr r22 (.int .i64 0)).bind fun r23 =>
 (asB r23).bind fun b24 =>
 some [b24])
 (some [false])
 (none)).bind fun vs25 =>
 pickC (.bool (vs25.getD 0 false))
 (some { r := (.bool false) })
 ((sBin .eql (SVal.cell s2.k2 2) (.int .i64 (-1))).bind fun r26 =>
 pickC r26
 (some { r := (.bool true) })
 (((T 11 [(weak s2.k0), (SVal.cell s2.k2 2)]).bind fun r27 =>
 guardX r27.r true
 ((sIdx true 7 s2.k0 (SVal.cell s2.k2 2)).bind fun e28 =>
 (T 65 [(weak (SVal.cell e28 3)), s2.k1]).bind fun r29 =>
 (sBin .eql r29.r (.int .i64 1)).bind fun r30 =>
 (asB r30).bind fun b31 =>
 some [b31])
 (some [false])
 (none)).bind fun vs32 =>
 some { r := (.bool (vs32.getD 0 false)) })))) k ⟨[(weak x0), x1, (.rp [(SVal.cell e1 0), (SVal.cell e1 1), (SVal.cell e1 2), (SVal.cell e1 3), (SVal.cell e1 4), (SVal.cell e1 5), (SVal.cell e1 6)]), (.int .i64 0)], [], false⟩
 else none
theorem r40 (T : TT) (k : Nat) (x0 x1 : SVal) : bodyE P H T k 40 [x0, x1] = R40 T k x0 x1 := by kernel_rfl
theorem t40 (k : Nat) (x0 x1 : SVal) : T (k + 1) 40 [x0, x1] = R40 (T k) k x0 x1 := (tb k 40 _ rfl).trans (r40 ..)
/-- limelight/limelightref01.shadow -/
def R41 (T : TT) (k : Nat) (x0 x1 : SVal) : Option Res :=
 (sIdx true 7 x0 x1).bind fun e1 =>
 if (allOne [.v (SVal.cell e1 0), .v (SVal.cell e1 1), .v (SVal.cell e1 2), .v (SVal.cell e1 3), .v (SVal.cell e1 4), .v (SVal.cell e1 5), .v (SVal.cell e1 6)]) = true then
 (sBin .eql (SVal.cell e1 0) (.int .i64 3)).bind fun r2 =>
 pickC r2
 (((sBin .eql (SVal.cell e1 5) (.int .i64 (-1))).bind fun r3 =>
 guardX r3 true
 ((sBin .eql (SVal.cell e1 2) (.int .i64 (-1))).bind fun r4 =>
 guardX r4 true
 ((T 11 [(weak x0), (SVal.cell e1 4)]).bind fun r5 =>
 guardX r5.r true
 ((sIdx true 7 x0 (SVal.cell e1 4)).bind fun e6 =>
 (sBin .eql (SVal.cell e6 0) (.int .i64 1)).bind fun r7 =>
 guardX r7 true
 ((sIdx true 7 x0 (SVal.cell e1 4)).bind fun e8 =>
 (sBin .eql (SVal.cell e8 5) x1).bind fun r9 =>
 (asB r9).bind fun b10 =>
 some [b10])
 (some [false])
 (none))
 (some [false])
 (none))
 (some [false])
 (none))
 (some [false])
 (none)).bind fun vs11 =>
 some { r := (.bool (vs11.getD 0 false)) })
 ((sBin .neq (SVal.cell e1 4) (.int .i64 (-1))).bind fun r12 =>
 pickC r12
 (some { r := (.bool false) })
 ((sBin .eql (SVal.cell e1 5) (.int .i64 (-1))).bind fun r13 =>
 pickC r13
 (some { r := (.bool true) })
 (((sBin .eql (SVal.cell e1 0) (.int .i64 1)).bind fun r14 =>
 guardX r14 true
 ((T 11 [(weak x0), (SVal.cell e1 5)]).bind fun r15 =>
 guardX r15.r true
 ((sIdx true 7 x0 (SVal.cell e1 5)).bind fun e16 =>
 (sBin .eql (SVal.cell e16 0) (.int .i64 3)).bind fun r17 =>
 guardX r17 true
 ((sIdx true 7 x0 (SVal.cell e1 5)).bind fun e18 =>
 (sBin .eql (SVal.cell e18 4) x1).bind fun r19 =>
 (asB r19).bind fun b20 =>
 some [b20])
 (some [false])
 (none))
 (some [false])
 (none))
 (some [false])
 (none)).bind fun vs21 =>
 some { r := (.bool (vs21.getD 0 false)) })))
 else none
theorem r41 (T : TT) (k : Nat) (x0 x1 : SVal) : bodyE P H T k 41 [x0, x1] = R41 T k x0 x1 := by kernel_rfl
theorem t41 (k : Nat) (x0 x1 : SVal) : T (k + 1) 41 [x0, x1] = R41 (T k) k x0 x1 := (tb k 41 _ rfl).trans (r41 ..)
/-- limelight/limelightref01.ends -/
def R42 (T : TT) (k : Nat) (x0 x1 : SVal) : Option Res :=
 loopN (fun s1 next1 =>
 (sLen s1.k0).bind fun r2 =>
 (sBin .leq s1.k2 r2).bind fun r3 =>
 pickC r3
 ((sBin .eql s1.k1 (.int .i64 (-1))).bind fun r4 =>
 pickC r4
 (some { r := (.bool true) })
 ((T 63 [(weak s1.k0), s1.k1]).bind fun r5 =>
 (sBin .add s1.k2 (.int .i64 1)).bind fun r6 =>
 next1 ⟨[(weak s1.k0), r5.r, r6], [], false⟩))
 (some { r := (.bool false) })) k ⟨[(weak x0), x1, (.int .i64 0)], [], false⟩
theorem r42 (T : TT) (k : Nat) (x0 x1 : SVal) : bodyE P H T k 42 [x0, x1] = R42 T k x0 x1 := by kernel_rfl
theorem t42 (k : Nat) (x0 x1 : SVal) : T (k + 1) 42 [x0, x1] = R42 (T k) k x0 x1 := (tb k 42 _ rfl).trans (r42 ..)
/-- limelight/limelightref10.open -/
def R43 (T : TT) (k : Nat) (x0a x0b x0c x0d x0e : SVal) : Option Res :=
 (elems 1 x0b).bind fun ys1 =>
 if ys1.length * 8 ≤ maxAppend then
 (elems 1 x0c).bind fun ys2 =>
 if (ys1.length + ys2.length) * 8 ≤ maxAppend then
 (T 66 [(weak x0d)]).bind fun r3 =>
 (elems 1 r3.r).bind fun ys4 =>
 if ((ys1 ++ ys2).length + ys4.length) * 8 ≤ maxAppend then
 some { r := (.sl 1 false false ((ys1 ++ ys2) ++ ys4)) }
 else none
 else none
 else none
theorem r43 (T : TT) (k : Nat) (x0a x0b x0c x0d x0e : SVal) : bodyE P H T k 43 [(.agg [x0a, x0b, x0c, x0d, x0e])] = R43 T k x0a x0b x0c x0d x0e := by kernel_rfl
theorem t43 (k : Nat) (x0a x0b x0c x0d x0e : SVal) : T (k + 1) 43 [(.agg [x0a, x0b, x0c, x0d, x0e])] = R43 (T k) k x0a x0b x0c x0d x0e := (tb k 43 _ rfl).trans (r43 ..)
/-- limelight/limelightref10.Dialogs -/
def R44 (T : TT) (k : Nat) (x0 x1 : SVal) : Option Res :=
 ((T 11 [(weak x0), x1]).bind fun r1 =>
 guardX r1.r true
 ((sIdx true 7 x0 x1).bind fun e2 =>
 (sBin .eql (SVal.cell e2 0) (.int .i64 1)).bind fun r3 =>
 guardX r3 true
 ((sIdx true 7 x0 x1).bind fun e4 =>
 (sBin .eql (SVal.cell e4 1) (.int .i64 2)).bind fun r5 =>
 guardX r5 true
 ((T 67 [(weak x0), x1]).bind fun r6 =>
 (asB r6.r).bind fun b7 =>
 some [b7])
 (some [false])
 (none))
 (some [false])
 (none))
 (some [false])
 (none)).bind fun vs8 =>
 some { r := (.bool (vs8.getD 0 false)) }
theorem r44 (T : TT) (k : Nat) (x0 x1 : SVal) : bodyE P H T k 44 [x0, x1] = R44 T k x0 x1 := by kernel_rfl
theorem t44 (k : Nat) (x0 x1 : SVal) : T (k + 1) 44 [x0, x1] = R44 (T k) k x0 x1 := (tb k 44 _ rfl).trans (r44 ..)
/-- limelight/limelightref10.Popups -/
def R45 (T : TT) (k : Nat) (x0 x1 : SVal) : Option Res :=
 ((T 11 [(weak x0), x1]).bind fun r1 =>
 guardX r1.r true
 ((sIdx true 7 x0 x1).bind fun e2 =>
 (sBin .eql (SVal.cell e2 0) (.int .i64 1)).bind fun r3 =>
 guardX r3 true
 ((T 22 [(weak x0), x1, (.int .i64 6)]).bind fun r4 =>
 guardX r4.r true
 ((T 67 [(weak x0), x1]).bind fun r5 =>
 (asB r5.r).bind fun b6 =>
 some [b6])
 (some [false])
 (none))
 (some [false])
 (none))
 (some [false])
 (none)).bind fun vs7 =>
 some { r := (.bool (vs7.getD 0 false)) }
theorem r45 (T : TT) (k : Nat) (x0 x1 : SVal) : bodyE P H T k 45 [x0, x1] = R45 T k x0 x1 := by kernel_rfl
theorem t45 (k : Nat) (x0 x1 : SVal) : T (k + 1) 45 [x0, x1] = R45 (T k) k x0 x1 := (tb k 45 _ rfl).trans (r45 ..)
/-- limelight/limelightref10.Once -/
def R46 (T : TT) (k : Nat) (x0 : SVal) : Option Res :=
 loopN (fun s1 next1 =>
 (sLen s1.k0).bind fun r2 =>
 (sBin .lss s1.k1 r2).bind fun r3 =>
 pickC r3
 ((sIdx false 1 s1.k0 s1.k1).bind fun e4 =>
 (T 61 [(weak s1.k0), e4]).bind fun r5 =>
 (sBin .neq r5.r s1.k1).bind fun r6 =>
 pickC r6
 (some { r := (.bool false) })
 ((sBin .add s1.k1 (.int .i64 1)).bind fun r7 =>
 next1 ⟨[(weak s1.k0), r7], [], false⟩))
 (some { r := (.bool true) })) k ⟨[(weak x0), (.int .i64 0)], [], false⟩
theorem r46 (T : TT) (k : Nat) (x0 : SVal) : bodyE P H T k 46 [x0] = R46 T k x0 := by kernel_rfl
theorem t46 (k : Nat) (x0 : SVal) : T (k + 1) 46 [x0] = R46 (T k) k x0 := (tb k 46 _ rfl).trans (r46 ..)
/-- limelight/top.Check -/
def R47 (T : TT) (k : Nat) (x0a x0b x0c x0d x0e : SVal) : Option Res :=
 (T 68 [(weak x0a)]).bind fun r1 =>
 (sBin .neq r1.r (.int .i64 0)).bind fun r2 =>
 pickC r2
 (some { r := (.int .i64 1) })
 ((T 69 [(.agg [(weak x0a), (weak x0b), (weak x0c), (weak x0d), (weak x0e)])]).bind fun r3 =>
 (sNot r3.r).bind fun r4 =>
 pickC r4
 (some { r := (.int .i64 9) })
 (some { r := (.int .i64 0) }))
theorem r47 (T : TT) (k : Nat) (x0a x0b x0c x0d x0e : SVal) : bodyE P H T k 47 [(.agg [x0a, x0b, x0c, x0d, x0e])] = R47 T k x0a x0b x0c x0d x0e := by kernel_rfl
noncomputable def D47 (T : TT) (k : Nat) : List SVal → Option Res
  | [(.agg [x0a, x0b, x0c, x0d, x0e])] => R47 T k x0a x0b x0c x0d x0e
  | a => bodyE P H T k 47 a
theorem d47 (T : TT) (k : Nat) (a : List SVal) : D47 T k a = bodyE P H T k 47 a := by
  unfold D47
  split
  · exact (r47 ..).symm
  · rfl
theorem t47 (k : Nat) (x0a x0b x0c x0d x0e : SVal) : T (k + 1) 47 [(.agg [x0a, x0b, x0c, x0d, x0e])] = R47 (T k) k x0a x0b x0c x0d x0e := (tb k 47 _ rfl).trans (r47 ..)
/-- limelight/area.Is -/
def R48 (T : TT) (k : Nat) (x0a x0b x0c x0d x0e x1 : SVal) : Option Res :=
 (T 70 [(weak x0a), x1]).bind fun r1 =>
 if (allOne [.v r1.r.c0.c0, .v r1.r.c0.c1, .v r1.r.c0.c2, .v r1.r.c0.c3, .v r1.r.c0.c4, .v r1.r.c0.c5]) = true then
 (guardX r1.r.c1 true
 ((T 47 [(.agg [(weak x0a), (weak x0b), (weak x0c), (weak x0d), (weak x0e)])]).bind fun r2 =>
 (sBin .eql r2.r (.int .i64 0)).bind fun r3 =>
 guardX r3 true
 (if (6 ≤ 6 ∧ (oneS x1) = true) then
 (T 71 [(.agg [(weak x0a), (weak x0b), (weak x0c), (weak x0d), (weak x0e), x1])]).bind fun r4 =>
 (asB r4.r).bind fun b5 =>
 some [b5]
 else none)
 (some [false])
 (none))
 (some [false])
 (none)).bind fun vs6 =>
 some { r := (.bool (vs6.getD 0 false)) }
 else none
theorem r48 (T : TT) (k : Nat) (x0a x0b x0c x0d x0e x1 : SVal) : bodyE P H T k 48 [(.agg [x0a, x0b, x0c, x0d, x0e]), x1] = R48 T k x0a x0b x0c x0d x0e x1 := by kernel_rfl
noncomputable def D48 (T : TT) (k : Nat) : List SVal → Option Res
  | [(.agg [x0a, x0b, x0c, x0d, x0e]), x1] => R48 T k x0a x0b x0c x0d x0e x1
  | a => bodyE P H T k 48 a
theorem d48 (T : TT) (k : Nat) (a : List SVal) : D48 T k a = bodyE P H T k 48 a := by
  unfold D48
  split
  · exact (r48 ..).symm
  · rfl
theorem t48 (k : Nat) (x0a x0b x0c x0d x0e x1 : SVal) : T (k + 1) 48 [(.agg [x0a, x0b, x0c, x0d, x0e]), x1] = R48 (T k) k x0a x0b x0c x0d x0e x1 := (tb k 48 _ rfl).trans (r48 ..)
/-- limelight/area.Delegates -/
def R49 (T : TT) (k : Nat) (x0 x1 : SVal) : Option Res :=
 (T 70 [(weak x0), x1]).bind fun r1 =>
 if (allOne [.v r1.r.c0.c0, .v r1.r.c0.c1, .v r1.r.c0.c2, .v r1.r.c0.c3, .v r1.r.c0.c4, .v r1.r.c0.c5]) = true then
 (guardX r1.r.c1 true
 ((T 72 [(.agg [(weak r1.r.c0.c0), (weak r1.r.c0.c1), (weak r1.r.c0.c2), (weak r1.r.c0.c3), (weak r1.r.c0.c4), r1.r.c0.c5])]).bind fun r2 =>
 (asB r2.r).bind fun b3 =>
 some [b3])
 (some [false])
 (none)).bind fun vs4 =>
 some { r := (.bool (vs4.getD 0 false)) }
 else none
theorem r49 (T : TT) (k : Nat) (x0 x1 : SVal) : bodyE P H T k 49 [x0, x1] = R49 T k x0 x1 := by kernel_rfl
noncomputable def D49 (T : TT) (k : Nat) : List SVal → Option Res
  | [x0, x1] => R49 T k x0 x1
  | a => bodyE P H T k 49 a
theorem d49 (T : TT) (k : Nat) (a : List SVal) : D49 T k a = bodyE P H T k 49 a := by
  unfold D49
  split
  · exact (r49 ..).symm
  · rfl
theorem t49 (k : Nat) (x0 x1 : SVal) : T (k + 1) 49 [x0, x1] = R49 (T k) k x0 x1 := (tb k 49 _ rfl).trans (r49 ..)
/-- (limelight/give.giver).find -/
def R50 (T : TT) (k : Nat) (x0a x0b x0c x0d x0e x0f x1 : SVal) : Option Res :=
 (sIdx true 7 x0a x1).bind fun e1 =>
 if (allOne [.v (SVal.cell e1 0), .v (SVal.cell e1 1), .v (SVal.cell e1 2), .v (SVal.cell e1 3), .v (SVal.cell e1 4), .v (SVal.cell e1 5), .v (SVal.cell e1 6)]) = true then
 (sBin .neq (SVal.cell e1 5) (.int .i64 (-1))).bind fun r2 =>
 pickC r2
 ((T 49 [(weak x0a), x1]).bind fun r3 =>
 (sNot r3.r).bind fun r4 =>
 pickC r4
 (some { r := (.int .i64 (-1)) })
 ((T 29 [(.agg [(weak x0a), (weak x0b), (weak x0c), (weak x0d), (weak x0e), x0f]), (SVal.cell e1 5)]).bind fun r5 =>
 (sBin .neq r5.r (.int .i64 (-1))).bind fun r6 =>
 pickC r6
 (some { r := r5.r })
 ((sBin .eql (SVal.cell e1 0) (.int .i64 1)).bind fun r7 =>
 guardX r7 true
 ((sBin .eql (SVal.cell e1 1) (.int .i64 2)).bind fun r8 =>
 if (oneS r8) = true then
 (T 53 [(weak x0a), (SVal.cell e1 5)]).bind fun r9 =>
 (T 73 [(weak r9.r)]).bind fun r10 =>
 (sBnd r10.r.xs.length (.int .i64 1)).bind fun n11 =>
 (T 52 [(.sl 1 false false (r10.r.xs.drop n11)), (.fn 74 [(.rp [x0a, x0b, x0c, x0d, x0e, x0f]), (.rp [r8])])]).bind fun r12 =>
 (T 51 [r12.r]).bind fun r13 =>
 some { r := r13.r }
 else none)
 ((T 53 [(weak x0a), (SVal.cell e1 5)]).bind fun r14 =>
 (T 73 [(weak r14.r)]).bind fun r15 =>
 (sBnd r15.r.xs.length (.int .i64 1)).bind fun n16 =>
 (T 52 [(.sl 1 false false (r15.r.xs.drop n16)), (.fn 74 [(.rp [x0a, x0b, x0c, x0d, x0e, x0f]), (.rp [(.bool false)])])]).bind fun r17 =>
 (T 51 [r17.r]).bind fun r18 =>
 some { r := r18.r })
 (none))))
 ((T 29 [(.agg [(weak x0a), (weak x0b), (weak x0c), (weak x0d), (weak x0e), x0f]), x1]).bind fun r19 =>
 (sBin .neq r19.r (.int .i64 (-1))).bind fun r20 =>
 pickC r20
 (some { r := r19.r })
 ((sBin .eql (SVal.cell e1 0) (.int .i64 1)).bind fun r21 =>
 guardX r21 true
 ((sBin .eql (SVal.cell e1 1) (.int .i64 2)).bind fun r22 =>
 if (oneS r22) = true then
 (T 53 [(weak x0a), x1]).bind fun r23 =>
 (T 73 [(weak r23.r)]).bind fun r24 =>
 (sBnd r24.r.xs.length (.int .i64 1)).bind fun n25 =>
 (T 52 [(.sl 1 false false (r24.r.xs.drop n25)), (.fn 74 [(.rp [x0a, x0b, x0c, x0d, x0e, x0f]), (.rp [r22])])]).bind fun r26 =>
 (T 51 [r26.r]).bind fun r27 =>
 some { r := r27.r }
 else none)
 ((T 53 [(weak x0a), x1]).bind fun r28 =>
 (T 73 [(weak r28.r)]).bind fun r29 =>
 (sBnd r29.r.xs.length (.int .i64 1)).bind fun n30 =>
 (T 52 [(.sl 1 false false (r29.r.xs.drop n30)), (.fn 74 [(.rp [x0a, x0b, x0c, x0d, x0e, x0f]), (.rp [(.bool false)])])]).bind fun r31 =>
 (T 51 [r31.r]).bind fun r32 =>
 some { r := r32.r })
 (none)))
 else none
theorem r50 (T : TT) (k : Nat) (x0a x0b x0c x0d x0e x0f x1 : SVal) : bodyE P H T k 50 [(.agg [x0a, x0b, x0c, x0d, x0e, x0f]), x1] = R50 T k x0a x0b x0c x0d x0e x0f x1 := by kernel_rfl
noncomputable def D50 (T : TT) (k : Nat) : List SVal → Option Res
  | [(.agg [x0a, x0b, x0c, x0d, x0e, x0f]), x1] => R50 T k x0a x0b x0c x0d x0e x0f x1
  | a => bodyE P H T k 50 a
theorem d50 (T : TT) (k : Nat) (a : List SVal) : D50 T k a = bodyE P H T k 50 a := by
  unfold D50
  split
  · exact (r50 ..).symm
  · rfl
theorem t50 (k : Nat) (x0a x0b x0c x0d x0e x0f x1 : SVal) : T (k + 1) 50 [(.agg [x0a, x0b, x0c, x0d, x0e, x0f]), x1] = R50 (T k) k x0a x0b x0c x0d x0e x0f x1 := (tb k 50 _ rfl).trans (r50 ..)
/-- limelight/give.first -/
def R51 (T : TT) (k : Nat) (x0 : SVal) : Option Res :=
 (callIt T x0).bind fun ys1 =>
 rangeN (fun s2 y2 next2 =>
 (notTup y2).bind fun z3 =>
 (sBin .neq z3 (.int .i64 (-1))).bind fun r4 =>
 pickC r4
 (if (oneS z3) = true then
 some { r := z3 }
 else none)
 (next2 ⟨[(.mb [s2.k0.c0])], [], false⟩)) (fun s5 =>
 some { r := (.int .i64 (-1)) }) ys1 ⟨[(.mb [(.int .i64 0)])], [], false⟩
theorem r51 (T : TT) (k : Nat) (x0 : SVal) : bodyE P H T k 51 [x0] = R51 T k x0 := by kernel_rfl
noncomputable def D51 (T : TT) (k : Nat) : List SVal → Option Res
  | [x0] => R51 T k x0
  | a => bodyE P H T k 51 a
theorem d51 (T : TT) (k : Nat) (a : List SVal) : D51 T k a = bodyE P H T k 51 a := by
  unfold D51
  split
  · exact (r51 ..).symm
  · rfl
theorem t51 (k : Nat) (x0 : SVal) : T (k + 1) 51 [x0] = R51 (T k) k x0 := (tb k 51 _ rfl).trans (r51 ..)
/-- limelight/give.each -/
def R52 (T : TT) (k : Nat) (x0 x1 : SVal) : Option Res :=
 if (oneS x0) = true then
 if (oneS x1) = true then
 some { r := (.fn 76 [(.rp [x0]), (.rp [x1])]) }
 else none
 else none
theorem r52 (T : TT) (k : Nat) (x0 x1 : SVal) : bodyE P H T k 52 [x0, x1] = R52 T k x0 x1 := by kernel_rfl
noncomputable def D52 (T : TT) (k : Nat) : List SVal → Option Res
  | [x0, x1] => R52 T k x0 x1
  | a => bodyE P H T k 52 a
theorem d52 (T : TT) (k : Nat) (a : List SVal) : D52 T k a = bodyE P H T k 52 a := by
  unfold D52
  split
  · exact (r52 ..).symm
  · rfl
theorem t52 (k : Nat) (x0 x1 : SVal) : T (k + 1) 52 [x0, x1] = R52 (T k) k x0 x1 := (tb k 52 _ rfl).trans (r52 ..)
/-- limelight/order.List -/
def R53 (T : TT) (k : Nat) (x0 x1 : SVal) : Option Res :=
 if (List.all [[.v x1]] allOne) = true then
 (T 77 [(weak x0), (.sl 1 false false [x1])]).bind fun r1 =>
 (sNot r1.r).bind fun r2 =>
 pickC r2
 (some { r := (.sl 1 false false []) })
 ((T 79 [(weak x0), x1]).bind fun r3 =>
 (T 78 [r3.r]).bind fun r4 =>
 some { r := (.sl 1 false false r4.r.xs) })
 else none
theorem r53 (T : TT) (k : Nat) (x0 x1 : SVal) : bodyE P H T k 53 [x0, x1] = R53 T k x0 x1 := by kernel_rfl
noncomputable def D53 (T : TT) (k : Nat) : List SVal → Option Res
  | [x0, x1] => R53 T k x0 x1
  | a => bodyE P H T k 53 a
theorem d53 (T : TT) (k : Nat) (a : List SVal) : D53 T k a = bodyE P H T k 53 a := by
  unfold D53
  split
  · exact (r53 ..).symm
  · rfl
theorem t53 (k : Nat) (x0 x1 : SVal) : T (k + 1) 53 [x0, x1] = R53 (T k) k x0 x1 := (tb k 53 _ rfl).trans (r53 ..)
/-- (limelight/give.giver).auto$1 -/
def R54 (T : TT) (k : Nat) (x0 x1a x1b x1c x1d x1e x1f : SVal) : Option Res :=
 (T 55 [(weak x1a), x0, (.int .i64 5)]).bind fun r1 =>
 (sNot r1.r).bind fun r2 =>
 pickC r2
 (some { r := (.int .i64 (-1)) })
 ((T 27 [(.agg [(weak x1a), (weak x1b), (weak x1c), (weak x1d), (weak x1e), x1f]), x0]).bind fun r3 =>
 some { r := r3.r })
theorem r54 (T : TT) (k : Nat) (x0 x1a x1b x1c x1d x1e x1f : SVal) : bodyE P H T k 54 [x0, (.rp [x1a, x1b, x1c, x1d, x1e, x1f])] = R54 T k x0 x1a x1b x1c x1d x1e x1f := by kernel_rfl
noncomputable def D54 (T : TT) (k : Nat) : List SVal → Option Res
  | [x0, (.rp [x1a, x1b, x1c, x1d, x1e, x1f])] => R54 T k x0 x1a x1b x1c x1d x1e x1f
  | a => bodyE P H T k 54 a
theorem d54 (T : TT) (k : Nat) (a : List SVal) : D54 T k a = bodyE P H T k 54 a := by
  unfold D54
  split
  · exact (r54 ..).symm
  · rfl
theorem t54 (k : Nat) (x0 x1a x1b x1c x1d x1e x1f : SVal) : T (k + 1) 54 [x0, (.rp [x1a, x1b, x1c, x1d, x1e, x1f])] = R54 (T k) k x0 x1a x1b x1c x1d x1e x1f := (tb k 54 _ rfl).trans (r54 ..)
/-- limelight/attr.Has -/
def R55 (T : TT) (k : Nat) (x0 x1 x2 : SVal) : Option Res :=
 (T 80 [(weak x0), x1, x2]).bind fun r1 =>
 some { r := r1.r.c1 }
theorem r55 (T : TT) (k : Nat) (x0 x1 x2 : SVal) : bodyE P H T k 55 [x0, x1, x2] = R55 T k x0 x1 x2 := by kernel_rfl
noncomputable def D55 (T : TT) (k : Nat) : List SVal → Option Res
  | [x0, x1, x2] => R55 T k x0 x1 x2
  | a => bodyE P H T k 55 a
theorem d55 (T : TT) (k : Nat) (a : List SVal) : D55 T k a = bodyE P H T k 55 a := by
  unfold D55
  split
  · exact (r55 ..).symm
  · rfl
theorem t55 (k : Nat) (x0 x1 x2 : SVal) : T (k + 1) 55 [x0, x1, x2] = R55 (T k) k x0 x1 x2 := (tb k 55 _ rfl).trans (r55 ..)
/-- limelight/limelightref13.Tabs -/
def R56 (T : TT) (k : Nat) (x0a x0b x0c x0d x0e x1 : SVal) : Option Res :=
 (T 31 [(weak x0a), x1]).bind fun r1 =>
 ((T 18 [(.agg [(weak x0a), (weak x0b), (weak x0c), (weak x0d), (weak x0e)]), x1]).bind fun r2 =>
 guardX r2.r true
 ((sBin .geq r1.r.c0 (.int .i64 0)).bind fun r3 =>
 (asB r3).bind fun b4 =>
 some [b4])
 (some [false])
 (none)).bind fun vs5 =>
 some { r := (.bool (vs5.getD 0 false)) }
theorem r56 (T : TT) (k : Nat) (x0a x0b x0c x0d x0e x1 : SVal) : bodyE P H T k 56 [(.agg [x0a, x0b, x0c, x0d, x0e]), x1] = R56 T k x0a x0b x0c x0d x0e x1 := by kernel_rfl
theorem t56 (k : Nat) (x0a x0b x0c x0d x0e x1 : SVal) : T (k + 1) 56 [(.agg [x0a, x0b, x0c, x0d, x0e]), x1] = R56 (T k) k x0a x0b x0c x0d x0e x1 := (tb k 56 _ rfl).trans (r56 ..)
/-- limelight/limelightref06.Up -/
def R57 (T : TT) (k : Nat) (x0 x1 : SVal) : Option Res :=
 loopN (fun s1 next1 =>
 (sBin .neq s1.k1 (.int .i64 (-1))).bind fun r2 =>
 pickC r2
 (if (List.all [[.v s1.k1]] allOne) = true then
 if (s1.k2.xs.length + ([s1.k1] : List SVal).length) * 8 ≤ maxAppend then
 (T 81 [(weak s1.k0), s1.k1]).bind fun r3 =>
 next1 ⟨[(weak s1.k0), r3.r, (.sl 1 true false (s1.k2.xs ++ ([s1.k1] : List SVal)))], [], false⟩
 else none
 else none)
 (some { r := (.sl 1 false false s1.k2.xs) })) k ⟨[(weak x0), x1, (.sl 1 true false [])], [], false⟩
theorem r57 (T : TT) (k : Nat) (x0 x1 : SVal) : bodyE P H T k 57 [x0, x1] = R57 T k x0 x1 := by kernel_rfl
theorem t57 (k : Nat) (x0 x1 : SVal) : T (k + 1) 57 [x0, x1] = R57 (T k) k x0 x1 := (tb k 57 _ rfl).trans (r57 ..)
/-- limelight/limelightref11.Own -/
def R58 (T : TT) (k : Nat) (x0a x0b x0c x0d x0e x1 : SVal) : Option Res :=
 (T 22 [(weak x0a), x1, (.int .i64 2)]).bind fun r1 =>
 pickC r1.r
 (some { r := (.bool false) })
 (((T 35 [(weak x0b), x1]).bind fun r2 =>
 if isSc1 r2.r = true then
 guardX r2.r false
 ((T 35 [(weak x0c), x1]).bind fun r3 =>
 if isSc1 r3.r = true then
 (asB r3.r).bind fun b4 =>
 some [b4]
 else none)
 (some [true])
 (none)
 else none).bind fun vs5 =>
 pickC (.bool (vs5.getD 0 false))
 (some { r := (.bool true) })
 ((sIdx true 7 x0a x1).bind fun e6 =>
 (sBin .eql (SVal.cell e6 1) (.int .i64 2)).bind fun r7 =>
 pickC r7
 (some { r := (.bool false) })
 (((T 22 [(weak x0a), x1, (.int .i64 6)]).bind fun r8 =>
 (sNot r8.r).bind fun r9 =>
 guardX r9 false
 ((T 66 [(weak x0d)]).bind fun r10 =>
 (T 35 [(weak r10.r), x1]).bind fun r11 =>
 if isSc1 r11.r = true then
 (asB r11.r).bind fun b12 =>
 some [b12]
 else none)
 (some [true])
 (none)).bind fun vs13 =>
 some { r := (.bool (vs13.getD 0 false)) })))
theorem r58 (T : TT) (k : Nat) (x0a x0b x0c x0d x0e x1 : SVal) : bodyE P H T k 58 [(.agg [x0a, x0b, x0c, x0d, x0e]), x1] = R58 T k x0a x0b x0c x0d x0e x1 := by kernel_rfl
theorem t58 (k : Nat) (x0a x0b x0c x0d x0e x1 : SVal) : T (k + 1) 58 [(.agg [x0a, x0b, x0c, x0d, x0e]), x1] = R58 (T k) k x0a x0b x0c x0d x0e x1 := (tb k 58 _ rfl).trans (r58 ..)
/-- limelight/limelightref06.Has -/
def R59 (T : TT) (k : Nat) (x0 x1 : SVal) : Option Res :=
 (T 57 [(weak x0), x1]).bind fun r1 =>
 (T 35 [(weak r1.r), (.int .i64 0)]).bind fun r2 =>
 if isSc1 r2.r = true then
 some { r := r2.r }
 else none
theorem r59 (T : TT) (k : Nat) (x0 x1 : SVal) : bodyE P H T k 59 [x0, x1] = R59 T k x0 x1 := by kernel_rfl
theorem t59 (k : Nat) (x0 x1 : SVal) : T (k + 1) 59 [x0, x1] = R59 (T k) k x0 x1 := (tb k 59 _ rfl).trans (r59 ..)
/-- limelight/limelightref12.Blocked -/
def R60 (T : TT) (k : Nat) (x0a x0b x0c x0d x0e x1 : SVal) : Option Res :=
 (T 62 [(.agg [(weak x0a), (weak x0b), (weak x0c), (weak x0d), (weak x0e)])]).bind fun r1 =>
 ((sBin .neq x1 (.int .i64 0)).bind fun r2 =>
 guardX r2 true
 ((sBin .neq r1.r (.int .i64 (-1))).bind fun r3 =>
 guardX r3 true
 ((T 82 [(weak x0a), r1.r, x1]).bind fun r4 =>
 (sNot r4.r).bind fun r5 =>
 (asB r5).bind fun b6 =>
 some [b6])
 (some [false])
 (none))
 (some [false])
 (none)).bind fun vs7 =>
 some { r := (.bool (vs7.getD 0 false)) }
theorem r60 (T : TT) (k : Nat) (x0a x0b x0c x0d x0e x1 : SVal) : bodyE P H T k 60 [(.agg [x0a, x0b, x0c, x0d, x0e]), x1] = R60 T k x0a x0b x0c x0d x0e x1 := by kernel_rfl
theorem t60 (k : Nat) (x0a x0b x0c x0d x0e x1 : SVal) : T (k + 1) 60 [(.agg [x0a, x0b, x0c, x0d, x0e]), x1] = R60 (T k) k x0a x0b x0c x0d x0e x1 := (tb k 60 _ rfl).trans (r60 ..)
/-- limelight/limelightref03.Place -/
def R61 (T : TT) (k : Nat) (x0 x1 : SVal) : Option Res :=
 loopN (fun s1 next1 =>
 (sLen s1.k0).bind fun r2 =>
 (sBin .lss s1.k2 r2).bind fun r3 =>
 pickC r3
 ((sIdx false 1 s1.k0 s1.k2).bind fun e4 =>
 (sBin .eql e4 s1.k1).bind fun r5 =>
 pickC r5
 (some { r := s1.k2 })
 ((sBin .add s1.k2 (.int .i64 1)).bind fun r6 =>
 next1 ⟨[(weak s1.k0), s1.k1, r6], [], false⟩))
 (some { r := (.int .i64 (-1)) })) k ⟨[(weak x0), x1, (.int .i64 0)], [], false⟩
theorem r61 (T : TT) (k : Nat) (x0 x1 : SVal) : bodyE P H T k 61 [x0, x1] = R61 T k x0 x1 := by kernel_rfl
theorem t61 (k : Nat) (x0 x1 : SVal) : T (k + 1) 61 [x0, x1] = R61 (T k) k x0 x1 := (tb k 61 _ rfl).trans (r61 ..)
/-- limelight/limelightref10.Highest -/
def R62 (T : TT) (k : Nat) (x0a x0b x0c x0d x0e : SVal) : Option Res :=
 (sLen x0e).bind fun r1 =>
 (sBin .sub r1 (.int .i64 1)).bind fun r2 =>
 loopN (fun s3 next3 =>
 (sBin .geq s3.k1 (.int .i64 0)).bind fun r4 =>
 pickC r4
 ((sIdx false 1 (SVal.cell s3.k0 4) s3.k1).bind fun e5 =>
 (T 35 [(weak (SVal.cell s3.k0 2)), e5]).bind fun r6 =>
 if isSc1 r6.r = true then
 pickC r6.r
 ((sIdx false 1 (SVal.cell s3.k0 4) s3.k1).bind fun e7 =>
 some { r := e7 })
 ((sBin .sub s3.k1 (.int .i64 1)).bind fun r8 =>
 next3 ⟨[(.rp [(SVal.cell s3.k0 0), (SVal.cell s3.k0 1), (SVal.cell s3.k0 2), (SVal.cell s3.k0 3), (SVal.cell s3.k0 4)]), r8], [], false⟩)
 else none)
 (some { r := (.int .i64 (-1)) })) k ⟨[(.rp [x0a, x0b, x0c, x0d, x0e]), r2], [], false⟩
theorem r62 (T : TT) (k : Nat) (x0a x0b x0c x0d x0e : SVal) : bodyE P H T k 62 [(.agg [x0a, x0b, x0c, x0d, x0e])] = R62 T k x0a x0b x0c x0d x0e := by kernel_rfl
theorem t62 (k : Nat) (x0a x0b x0c x0d x0e : SVal) : T (k + 1) 62 [(.agg [x0a, x0b, x0c, x0d, x0e])] = R62 (T k) k x0a x0b x0c x0d x0e := (tb k 62 _ rfl).trans (r62 ..)
/-- limelight/limelightref01.Up -/
def R63 (T : TT) (k : Nat) (x0 x1 : SVal) : Option Res :=
 (sIdx true 7 x0 x1).bind fun e1 =>
 (sBin .eql (SVal.cell e1 0) (.int .i64 3)).bind fun r2 =>
 pickC r2
 ((sIdx true 7 x0 x1).bind fun e3 =>
 some { r := (SVal.cell e3 4) })
 ((sIdx true 7 x0 x1).bind fun e4 =>
 some { r := (SVal.cell e4 2) })
theorem r63 (T : TT) (k : Nat) (x0 x1 : SVal) : bodyE P H T k 63 [x0, x1] = R63 T k x0 x1 := by kernel_rfl
theorem t63 (k : Nat) (x0 x1 : SVal) : T (k + 1) 63 [x0, x1] = R63 (T k) k x0 x1 := (tb k 63 _ rfl).trans (r63 ..)
/-- limelight/limelightref01.Attr -/
def R64 (T : TT) (k : Nat) (x0 x1a x1b : SVal) : Option Res :=
 ((sBin .lss x1a (.int .i64 0)).bind fun r1 =>
 guardX r1 false
 ((sBin .gtr x1a (.int .i64 9)).bind fun r2 =>
 guardX r2 false
 ((T 83 [x1a, x1b]).bind fun r3 =>
 (sNot r3.r).bind fun r4 =>
 (asB r4).bind fun b5 =>
 some [b5])
 (some [true])
 (none))
 (some [true])
 (none)).bind fun vs6 =>
 pickC (.bool (vs6.getD 0 false))
 (some { r := (.bool false) })
 ((sBin .eql x0 (.int .i64 3)).bind fun r7 =>
 pickC r7
 (((sBin .eql x1a (.int .i64 7)).bind fun r8 =>
 guardX r8 false
 ((sBin .eql x1a (.int .i64 8)).bind fun r9 =>
 (asB r9).bind fun b10 =>
 some [b10])
 (some [true])
 (none)).bind fun vs11 =>
 some { r := (.bool (vs11.getD 0 false)) })
 (((sBin .eql x0 (.int .i64 1)).bind fun r12 =>
 guardX r12 true
 ((sBin .neq x1a (.int .i64 7)).bind fun r13 =>
 guardX r13 true
 ((sBin .neq x1a (.int .i64 8)).bind fun r14 =>
 (asB r14).bind fun b15 =>
 some [b15])
 (some [false])
 (none))
 (some [false])
 (none)).bind fun vs16 =>
 some { r := (.bool (vs16.getD 0 false)) }))
theorem r64 (T : TT) (k : Nat) (x0 x1a x1b : SVal) : bodyE P H T k 64 [x0, (.agg [x1a, x1b])] = R64 T k x0 x1a x1b := by kernel_rfl
theorem t64 (k : Nat) (x0 x1a x1b : SVal) : T (k + 1) 64 [x0, (.agg [x1a, x1b])] = R64 (T k) k x0 x1a x1b := (tb k 64 _ rfl).trans (r64 ..)
/-- limelight/limelightref01.count -/
def R65 (T : TT) (k : Nat) (x0 x1 : SVal) : Option Res :=
 loopN (fun s1 next1 =>
 (sLen s1.k0).bind fun r2 =>
 (sBin .lss s1.k3 r2).bind fun r3 =>
 pickC r3
 ((sIdx false 1 s1.k0 s1.k3).bind fun e4 =>
 (sBin .eql e4 s1.k1).bind fun r5 =>
 pickC r5
 ((sBin .add s1.k2 (.int .i64 1)).bind fun r6 =>
 (sBin .add s1.k3 (.int .i64 1)).bind fun r7 =>
 next1 ⟨[(weak s1.k0), s1.k1, r6, r7], [], false⟩)
 ((sBin .add s1.k3 (.int .i64 1)).bind fun r8 =>
 next1 ⟨[(weak s1.k0), s1.k1, s1.k2, r8], [], false⟩))
 (some { r := s1.k2 })) k ⟨[(weak x0), x1, (.int .i64 0), (.int .i64 0)], [], false⟩
theorem r65 (T : TT) (k : Nat) (x0 x1 : SVal) : bodyE P H T k 65 [x0, x1] = R65 T k x0 x1 := by kernel_rfl
theorem t65 (k : Nat) (x0 x1 : SVal) : T (k + 1) 65 [x0, x1] = R65 (T k) k x0 x1 := (tb k 65 _ rfl).trans (r65 ..)
/-- limelight/limelightref10.Nodes -/
def R66 (T : TT) (k : Nat) (x0 : SVal) : Option Res :=
 loopN (fun s1 next1 =>
 (sLen s1.k0).bind fun r2 =>
 (sBin .lss s1.k2 r2).bind fun r3 =>
 pickC r3
 ((sIdx true 2 s1.k0 s1.k2).bind fun e4 =>
 if (List.all [[.v (SVal.cell e4 0)]] allOne) = true then
 if (s1.k1.xs.length + ([(SVal.cell e4 0)] : List SVal).length) * 8 ≤ maxAppend then
 (sBin .add s1.k2 (.int .i64 1)).bind fun r5 =>
 next1 ⟨[(weak s1.k0), (.sl 1 true false (s1.k1.xs ++ ([(SVal.cell e4 0)] : List SVal))), r5], [], false⟩
 else none
 else none)
 (some { r := (.sl 1 false false s1.k1.xs) })) k ⟨[(weak x0), (.sl 1 true false []), (.int .i64 0)], [], false⟩
theorem r66 (T : TT) (k : Nat) (x0 : SVal) : bodyE P H T k 66 [x0] = R66 T k x0 := by kernel_rfl
theorem t66 (k : Nat) (x0 : SVal) : T (k + 1) 66 [x0] = R66 (T k) k x0 := (tb k 66 _ rfl).trans (r66 ..)
/-- limelight/limelightref04.Connected -/
def R67 (T : TT) (k : Nat) (x0 x1 : SVal) : Option Res :=
 (T 19 [(weak x0), (.int .i64 0), x1]).bind fun r1 =>
 some { r := r1.r }
theorem r67 (T : TT) (k : Nat) (x0 x1 : SVal) : bodyE P H T k 67 [x0, x1] = R67 T k x0 x1 := by kernel_rfl
theorem t67 (k : Nat) (x0 x1 : SVal) : T (k + 1) 67 [x0, x1] = R67 (T k) k x0 x1 := (tb k 67 _ rfl).trans (r67 ..)
/-- limelight/tree.Check -/
def R68 (T : TT) (k : Nat) (x0 : SVal) : Option Res :=
 (T 84 [(weak x0)]).bind fun r1 =>
 (sNot r1.r).bind fun r2 =>
 pickC r2
 (some { r := (.int .i64 1) })
 (some { r := (.int .i64 0) })
theorem r68 (T : TT) (k : Nat) (x0 : SVal) : bodyE P H T k 68 [x0] = R68 T k x0 := by kernel_rfl
noncomputable def D68 (T : TT) (k : Nat) : List SVal → Option Res
  | [x0] => R68 T k x0
  | a => bodyE P H T k 68 a
theorem d68 (T : TT) (k : Nat) (a : List SVal) : D68 T k a = bodyE P H T k 68 a := by
  unfold D68
  split
  · exact (r68 ..).symm
  · rfl
theorem t68 (k : Nat) (x0 : SVal) : T (k + 1) 68 [x0] = R68 (T k) k x0 := (tb k 68 _ rfl).trans (r68 ..)
/-- limelight/top.may -/
def R69 (T : TT) (k : Nat) (x0a x0b x0c x0d x0e : SVal) : Option Res :=
 if (oneS x0a) = true then
 if (List.all [[.v x0b], [.v x0c]] allOne) = true then
 (T 86 [(.sl 1 false false [x0b, x0c])]).bind fun r1 =>
 (T 85 [(weak r1.r), (.fn 87 [(.rp [x0a])])]).bind fun r2 =>
 (T 89 [(weak x0d), (.fn 90 [(.rp [x0a])])]).bind fun r3 =>
 (T 93 [(.agg [(weak x0a), (weak x0b), (weak x0c), (weak x0d), (weak x0e)])]).bind fun r4 =>
 (T 95 [(weak r4.r)]).bind fun r5 =>
 (T 94 [r5.r]).bind fun r6 =>
 ((sLen r2.r.c1).bind fun r7 =>
 (sBin .eql r7 (.int .i64 0)).bind fun r8 =>
 guardX r8 true
 ((sLen r3.r.c1).bind fun r9 =>
 (sBin .eql r9 (.int .i64 0)).bind fun r10 =>
 guardX r10 true
 (if (List.all [[.v x0b], [.v r4.r]] allOne) = true then
 (T 86 [(.sl 1 false false [x0b, r4.r])]).bind fun r11 =>
 (T 96 [(weak r11.r)]).bind fun r12 =>
 guardX r12.r true
 ((T 95 [(weak x0e)]).bind fun r13 =>
 (T 94 [r13.r]).bind fun r14 =>
 (T 97 [(weak r6.r), (weak r14.r)]).bind fun r15 =>
 (asB r15.r).bind fun b16 =>
 some [b16])
 (some [false])
 (none)
 else none)
 (some [false])
 (none))
 (some [false])
 (none)).bind fun vs17 =>
 some { r := (.bool (vs17.getD 0 false)) }
 else none
 else none
theorem r69 (T : TT) (k : Nat) (x0a x0b x0c x0d x0e : SVal) : bodyE P H T k 69 [(.agg [x0a, x0b, x0c, x0d, x0e])] = R69 T k x0a x0b x0c x0d x0e := by kernel_rfl
noncomputable def D69 (T : TT) (k : Nat) : List SVal → Option Res
  | [(.agg [x0a, x0b, x0c, x0d, x0e])] => R69 T k x0a x0b x0c x0d x0e
  | a => bodyE P H T k 69 a
theorem d69 (T : TT) (k : Nat) (a : List SVal) : D69 T k a = bodyE P H T k 69 a := by
  unfold D69
  split
  · exact (r69 ..).symm
  · rfl
theorem t69 (k : Nat) (x0a x0b x0c x0d x0e : SVal) : T (k + 1) 69 [(.agg [x0a, x0b, x0c, x0d, x0e])] = R69 (T k) k x0a x0b x0c x0d x0e := (tb k 69 _ rfl).trans (r69 ..)
/-- limelight/area.of -/
def R70 (T : TT) (k : Nat) (x0 x1 : SVal) : Option Res :=
 if (1 ≤ 5 ∧ (oneS x0) = true) then
 if (6 ≤ 6 ∧ (oneS x1) = true) then
 (T 68 [(weak x0)]).bind fun r1 =>
 (sBin .eql r1.r (.int .i64 0)).bind fun r2 =>
 guardX r2 true
 ((sBin .geq x1 (.int .i64 0)).bind fun r3 =>
 guardX r3 true
 ((sLen x0).bind fun r4 =>
 (sBin .lss x1 r4).bind fun r5 =>
 if (allOne [.v x0, .v (.sl 1 false true []), .v (.sl 1 false true []), .v (.sl 2 false true []), .v (.sl 1 false true []), .v x1]) = true then
 some { r := (.tup [(.agg [(weak x0), (.sl 1 false false []), (.sl 1 false false []), (.sl 2 false false []), (.sl 1 false false []), x1]), r5]) }
 else none)
 (if (allOne [.v x0, .v (.sl 1 false true []), .v (.sl 1 false true []), .v (.sl 2 false true []), .v (.sl 1 false true []), .v x1]) = true then
 some { r := (.tup [(.agg [(weak x0), (.sl 1 false false []), (.sl 1 false false []), (.sl 2 false false []), (.sl 1 false false []), x1]), (.bool false)]) }
 else none)
 (none))
 (if (allOne [.v x0, .v (.sl 1 false true []), .v (.sl 1 false true []), .v (.sl 2 false true []), .v (.sl 1 false true []), .v x1]) = true then
 some { r := (.tup [(.agg [(weak x0), (.sl 1 false false []), (.sl 1 false false []), (.sl 2 false false []), (.sl 1 false false []), x1]), (.bool false)]) }
 else none)
 (none)
 else none
 else none
theorem r70 (T : TT) (k : Nat) (x0 x1 : SVal) : bodyE P H T k 70 [x0, x1] = R70 T k x0 x1 := by kernel_rfl
noncomputable def D70 (T : TT) (k : Nat) : List SVal → Option Res
  | [x0, x1] => R70 T k x0 x1
  | a => bodyE P H T k 70 a
theorem d70 (T : TT) (k : Nat) (a : List SVal) : D70 T k a = bodyE P H T k 70 a := by
  unfold D70
  split
  · exact (r70 ..).symm
  · rfl
theorem t70 (k : Nat) (x0 x1 : SVal) : T (k + 1) 70 [x0, x1] = R70 (T k) k x0 x1 := (tb k 70 _ rfl).trans (r70 ..)
/-- (limelight/area.node).is -/
def R71 (T : TT) (k : Nat) (x0a x0b x0c x0d x0e x0f : SVal) : Option Res :=
 (T 98 [(.sl 1 false false [(.bf 99 [(.agg [x0a, x0b, x0c, x0d, x0e, x0f])]), (.bf 100 [(.agg [x0a, x0b, x0c, x0d, x0e, x0f])]), (.bf 72 [(.agg [x0a, x0b, x0c, x0d, x0e, x0f])]), (.bf 101 [(.agg [x0a, x0b, x0c, x0d, x0e, x0f])]), (.bf 102 [(.agg [x0a, x0b, x0c, x0d, x0e, x0f])])]), (.fn 103 [])]).bind fun r1 =>
 (sNot r1.r).bind fun r2 =>
 some { r := r2 }
theorem r71 (T : TT) (k : Nat) (x0a x0b x0c x0d x0e x0f : SVal) : bodyE P H T k 71 [(.agg [x0a, x0b, x0c, x0d, x0e, x0f])] = R71 T k x0a x0b x0c x0d x0e x0f := by kernel_rfl
noncomputable def D71 (T : TT) (k : Nat) : List SVal → Option Res
  | [(.agg [x0a, x0b, x0c, x0d, x0e, x0f])] => R71 T k x0a x0b x0c x0d x0e x0f
  | a => bodyE P H T k 71 a
theorem d71 (T : TT) (k : Nat) (a : List SVal) : D71 T k a = bodyE P H T k 71 a := by
  unfold D71
  split
  · exact (r71 ..).symm
  · rfl
theorem t71 (k : Nat) (x0a x0b x0c x0d x0e x0f : SVal) : T (k + 1) 71 [(.agg [x0a, x0b, x0c, x0d, x0e, x0f])] = R71 (T k) k x0a x0b x0c x0d x0e x0f := (tb k 71 _ rfl).trans (r71 ..)
/-- (limelight/area.node).delegates -/
def R72 (T : TT) (k : Nat) (x0a x0b x0c x0d x0e x0f : SVal) : Option Res :=
 (sIdx true 7 x0a x0f).bind fun e1 =>
 ((sBin .neq (SVal.cell e1 5) (.int .i64 (-1))).bind fun r2 =>
 guardX r2 true
 ((T 55 [(weak x0a), (SVal.cell e1 5), (.int .i64 7)]).bind fun r3 =>
 (asB r3.r).bind fun b4 =>
 some [b4])
 (some [false])
 (none)).bind fun vs5 =>
 some { r := (.bool (vs5.getD 0 false)) }
theorem r72 (T : TT) (k : Nat) (x0a x0b x0c x0d x0e x0f : SVal) : bodyE P H T k 72 [(.agg [x0a, x0b, x0c, x0d, x0e, x0f])] = R72 T k x0a x0b x0c x0d x0e x0f := by kernel_rfl
noncomputable def D72 (T : TT) (k : Nat) : List SVal → Option Res
  | [(.agg [x0a, x0b, x0c, x0d, x0e, x0f])] => R72 T k x0a x0b x0c x0d x0e x0f
  | a => bodyE P H T k 72 a
theorem d72 (T : TT) (k : Nat) (a : List SVal) : D72 T k a = bodyE P H T k 72 a := by
  unfold D72
  split
  · exact (r72 ..).symm
  · rfl
theorem t72 (k : Nat) (x0a x0b x0c x0d x0e x0f : SVal) : T (k + 1) 72 [(.agg [x0a, x0b, x0c, x0d, x0e, x0f])] = R72 (T k) k x0a x0b x0c x0d x0e x0f := (tb k 72 _ rfl).trans (r72 ..)
/-- (limelight/give.giver).find$1 -/
def R74 (T : TT) (k : Nat) (x0 x1a x1b x1c x1d x1e x1f x2 : SVal) : Option Res :=
 ((T 75 [(.agg [(weak x1a), (weak x1b), (weak x1c), (weak x1d), (weak x1e)]), x0]).bind fun r1 =>
 guardX r1.r false
 ((sNot x2).bind fun r2 =>
 guardX r2 true
 ((T 48 [(.agg [(weak x1a), (weak x1b), (weak x1c), (weak x1d), (weak x1e)]), x0]).bind fun r3 =>
 (asB r3.r).bind fun b4 =>
 some [b4])
 (some [false])
 (none))
 (some [true])
 (none)).bind fun vs5 =>
 pickC (.bool (vs5.getD 0 false))
 (some { r := x0 })
 ((T 49 [(weak x1a), x0]).bind fun r6 =>
 pickC r6.r
 ((T 28 [(.agg [(weak x1a), (weak x1b), (weak x1c), (weak x1d), (weak x1e), x1f]), x0]).bind fun r7 =>
 some { r := r7.r })
 (some { r := (.int .i64 (-1)) }))
theorem r74 (T : TT) (k : Nat) (x0 x1a x1b x1c x1d x1e x1f x2 : SVal) : bodyE P H T k 74 [x0, (.rp [x1a, x1b, x1c, x1d, x1e, x1f]), (.rp [x2])] = R74 T k x0 x1a x1b x1c x1d x1e x1f x2 := by kernel_rfl
noncomputable def D74 (T : TT) (k : Nat) : List SVal → Option Res
  | [x0, (.rp [x1a, x1b, x1c, x1d, x1e, x1f]), (.rp [x2])] => R74 T k x0 x1a x1b x1c x1d x1e x1f x2
  | a => bodyE P H T k 74 a
theorem d74 (T : TT) (k : Nat) (a : List SVal) : D74 T k a = bodyE P H T k 74 a := by
  unfold D74
  split
  · exact (r74 ..).symm
  · rfl
theorem t74 (k : Nat) (x0 x1a x1b x1c x1d x1e x1f x2 : SVal) : T (k + 1) 74 [x0, (.rp [x1a, x1b, x1c, x1d, x1e, x1f]), (.rp [x2])] = R74 (T k) k x0 x1a x1b x1c x1d x1e x1f x2 := (tb k 74 _ rfl).trans (r74 ..)
/-- limelight/area.Tabs -/
def R75 (T : TT) (k : Nat) (x0a x0b x0c x0d x0e x1 : SVal) : Option Res :=
 (T 104 [(weak x0a), x1]).bind fun r1 =>
 ((sBin .geq r1.r.c0 (.int .i64 0)).bind fun r2 =>
 guardX r2 true
 ((T 48 [(.agg [(weak x0a), (weak x0b), (weak x0c), (weak x0d), (weak x0e)]), x1]).bind fun r3 =>
 (asB r3.r).bind fun b4 =>
 some [b4])
 (some [false])
 (none)).bind fun vs5 =>
 some { r := (.bool (vs5.getD 0 false)) }
theorem r75 (T : TT) (k : Nat) (x0a x0b x0c x0d x0e x1 : SVal) : bodyE P H T k 75 [(.agg [x0a, x0b, x0c, x0d, x0e]), x1] = R75 T k x0a x0b x0c x0d x0e x1 := by kernel_rfl
noncomputable def D75 (T : TT) (k : Nat) : List SVal → Option Res
  | [(.agg [x0a, x0b, x0c, x0d, x0e]), x1] => R75 T k x0a x0b x0c x0d x0e x1
  | a => bodyE P H T k 75 a
theorem d75 (T : TT) (k : Nat) (a : List SVal) : D75 T k a = bodyE P H T k 75 a := by
  unfold D75
  split
  · exact (r75 ..).symm
  · rfl
theorem t75 (k : Nat) (x0a x0b x0c x0d x0e x1 : SVal) : T (k + 1) 75 [(.agg [x0a, x0b, x0c, x0d, x0e]), x1] = R75 (T k) k x0a x0b x0c x0d x0e x1 := (tb k 75 _ rfl).trans (r75 ..)
/-- limelight/give.each$1 -/
def R76 (T : TT) (k : Nat) (x1 x2 : SVal) : Option Res :=
 (sLen x1).bind fun r1 =>
 loopN (fun s2 next2 =>
 (sBin .lss s2.k4 s2.k3).bind fun r3 =>
 pickC r3
 ((sIdx false 1 s2.k2 s2.k4).bind fun e4 =>
 (callV H T (SVal.cell s2.k1 0) [e4]).bind fun y5 =>
 if (s2.stop) = true then none else
 (notTup y5).bind fun y6 =>
 both
 ((sBin .add s2.k4 (.int .i64 1)).bind fun r7 =>
 next2 ⟨[.yld, (.rp [(SVal.cell s2.k1 0)]), (weak s2.k2), s2.k3, r7], (s2.out ++ [y6]), s2.stop⟩)
 (some { r := (.tup []) }))
 (if (s2.stop) = true then
 some { r := (.tup []) }
 else
 some { r := (.tup []), out := s2.out })) k ⟨[.yld, (.rp [x2]), (weak x1), r1, (.int .i64 0)], [], false⟩
theorem r76 (T : TT) (k : Nat) (x1 x2 : SVal) : bodyE P H T k 76 [.yld, (.rp [x1]), (.rp [x2])] = R76 T k x1 x2 := by kernel_rfl
noncomputable def D76 (T : TT) (k : Nat) : List SVal → Option Res
  | [.yld, (.rp [x1]), (.rp [x2])] => R76 T k x1 x2
  | a => bodyE P H T k 76 a
theorem d76 (T : TT) (k : Nat) (a : List SVal) : D76 T k a = bodyE P H T k 76 a := by
  unfold D76
  split
  · exact (r76 ..).symm
  · rfl
theorem t76 (k : Nat) (x1 x2 : SVal) : T (k + 1) 76 [.yld, (.rp [x1]), (.rp [x2])] = R76 (T k) k x1 x2 := (tb k 76 _ rfl).trans (r76 ..)
/-- limelight/order.all -/
def R77 (T : TT) (k : Nat) (x0 x1 : SVal) : Option Res :=
 if (oneS x0) = true then
 ((T 68 [(weak x0)]).bind fun r1 =>
 (sBin .eql r1.r (.int .i64 0)).bind fun r2 =>
 guardX r2 true
 ((T 105 [(weak x1), (.fn 106 [(.rp [x0])])]).bind fun r3 =>
 (sNot r3.r).bind fun r4 =>
 (asB r4).bind fun b5 =>
 some [b5])
 (some [false])
 (none)).bind fun vs6 =>
 some { r := (.bool (vs6.getD 0 false)) }
 else none
theorem r77 (T : TT) (k : Nat) (x0 x1 : SVal) : bodyE P H T k 77 [x0, x1] = R77 T k x0 x1 := by kernel_rfl
noncomputable def D77 (T : TT) (k : Nat) : List SVal → Option Res
  | [x0, x1] => R77 T k x0 x1
  | a => bodyE P H T k 77 a
theorem d77 (T : TT) (k : Nat) (a : List SVal) : D77 T k a = bodyE P H T k 77 a := by
  unfold D77
  split
  · exact (r77 ..).symm
  · rfl
theorem t77 (k : Nat) (x0 x1 : SVal) : T (k + 1) 77 [x0, x1] = R77 (T k) k x0 x1 := (tb k 77 _ rfl).trans (r77 ..)
/-- slices.Collect[int] -/
def R78 (T : TT) (k : Nat) (x0 : SVal) : Option Res :=
 (T 107 [(.sl 1 true false []), x0]).bind fun r1 =>
 some { r := (.sl 1 true false r1.r.xs) }
theorem r78 (T : TT) (k : Nat) (x0 : SVal) : bodyE P H T k 78 [x0] = R78 T k x0 := by kernel_rfl
noncomputable def D78 (T : TT) (k : Nat) : List SVal → Option Res
  | [x0] => R78 T k x0
  | a => bodyE P H T k 78 a
theorem d78 (T : TT) (k : Nat) (a : List SVal) : D78 T k a = bodyE P H T k 78 a := by
  unfold D78
  split
  · exact (r78 ..).symm
  · rfl
theorem t78 (k : Nat) (x0 : SVal) : T (k + 1) 78 [x0] = R78 (T k) k x0 := (tb k 78 _ rfl).trans (r78 ..)
/-- limelight/order.list -/
def R79 (T : TT) (k : Nat) (x0 x1 : SVal) : Option Res :=
 if (oneS x0) = true then
 if (oneS x1) = true then
 some { r := (.fn 108 [(.rp [x0]), (.rp [x1])]) }
 else none
 else none
theorem r79 (T : TT) (k : Nat) (x0 x1 : SVal) : bodyE P H T k 79 [x0, x1] = R79 T k x0 x1 := by kernel_rfl
noncomputable def D79 (T : TT) (k : Nat) : List SVal → Option Res
  | [x0, x1] => R79 T k x0 x1
  | a => bodyE P H T k 79 a
theorem d79 (T : TT) (k : Nat) (a : List SVal) : D79 T k a = bodyE P H T k 79 a := by
  unfold D79
  split
  · exact (r79 ..).symm
  · rfl
theorem t79 (k : Nat) (x0 x1 : SVal) : T (k + 1) 79 [x0, x1] = R79 (T k) k x0 x1 := (tb k 79 _ rfl).trans (r79 ..)
/-- limelight/attr.Get -/
def R80 (T : TT) (k : Nat) (x0 x1 x2 : SVal) : Option Res :=
 (T 110 [(weak x0), x1]).bind fun r1 =>
 (sNot r1.r).bind fun r2 =>
 pickC r2
 (some { r := (.tup [(.int .i64 0), (.bool false)]) })
 ((sIdx true 7 x0 x1).bind fun e3 =>
 (T 111 [(.agg [(SVal.cell e3 0), (SVal.cell e3 1), (SVal.cell e3 2), (weak (SVal.cell e3 3)), (SVal.cell e3 4), (SVal.cell e3 5), (weak (SVal.cell e3 6))]), x2]).bind fun r4 =>
 (sBin .lss r4.r (.int .i64 0)).bind fun r5 =>
 pickC r5
 (some { r := (.tup [(.int .i64 0), (.bool false)]) })
 ((sIdx true 7 x0 x1).bind fun e6 =>
 (sIdx true 2 (SVal.cell e6 6) r4.r).bind fun e7 =>
 some { r := (.tup [(SVal.cell e7 1), (.bool true)]) }))
theorem r80 (T : TT) (k : Nat) (x0 x1 x2 : SVal) : bodyE P H T k 80 [x0, x1, x2] = R80 T k x0 x1 x2 := by kernel_rfl
noncomputable def D80 (T : TT) (k : Nat) : List SVal → Option Res
  | [x0, x1, x2] => R80 T k x0 x1 x2
  | a => bodyE P H T k 80 a
theorem d80 (T : TT) (k : Nat) (a : List SVal) : D80 T k a = bodyE P H T k 80 a := by
  unfold D80
  split
  · exact (r80 ..).symm
  · rfl
theorem t80 (k : Nat) (x0 x1 x2 : SVal) : T (k + 1) 80 [x0, x1, x2] = R80 (T k) k x0 x1 x2 := (tb k 80 _ rfl).trans (r80 ..)
/-- limelight/limelightref06.Parent -/
def R81 (T : TT) (k : Nat) (x0 x1 : SVal) : Option Res :=
 loopN (fun s1 next1 =>
 (sLen s1.k0).bind fun r2 =>
 (sBin .lss s1.k2 r2).bind fun r3 =>
 pickC r3
 ((T 112 [(weak s1.k0), s1.k2]).bind fun r4 =>
 (T 35 [(weak r4.r), s1.k1]).bind fun r5 =>
 if isSc1 r5.r = true then
 pickC r5.r
 (some { r := s1.k2 })
 ((sBin .add s1.k2 (.int .i64 1)).bind fun r6 =>
 next1 ⟨[(weak s1.k0), s1.k1, r6], [], false⟩)
 else none)
 (some { r := (.int .i64 (-1)) })) k ⟨[(weak x0), x1, (.int .i64 0)], [], false⟩
theorem r81 (T : TT) (k : Nat) (x0 x1 : SVal) : bodyE P H T k 81 [x0, x1] = R81 T k x0 x1 := by kernel_rfl
theorem t81 (k : Nat) (x0 x1 : SVal) : T (k + 1) 81 [x0, x1] = R81 (T k) k x0 x1 := (tb k 81 _ rfl).trans (r81 ..)
/-- limelight/limelightref06.Above -/
def R82 (T : TT) (k : Nat) (x0 x1 x2 : SVal) : Option Res :=
 (T 57 [(weak x0), x2]).bind fun r1 =>
 (T 35 [(weak r1.r), x1]).bind fun r2 =>
 if isSc1 r2.r = true then
 some { r := r2.r }
 else none
theorem r82 (T : TT) (k : Nat) (x0 x1 x2 : SVal) : bodyE P H T k 82 [x0, x1, x2] = R82 T k x0 x1 x2 := by kernel_rfl
theorem t82 (k : Nat) (x0 x1 x2 : SVal) : T (k + 1) 82 [x0, x1, x2] = R82 (T k) k x0 x1 x2 := (tb k 82 _ rfl).trans (r82 ..)
/-- limelight/limelightref01.value -/
def R83 (T : TT) (k : Nat) (x0 x1 : SVal) : Option Res :=
 (sBin .eql x0 (.int .i64 0)).bind fun r1 =>
 pickC r1
 (((sBin .geq x1 (.int .i64 (-2147483648))).bind fun r2 =>
 guardX r2 true
 ((sBin .lss x1 (.int .i64 2147483648)).bind fun r3 =>
 (asB r3).bind fun b4 =>
 some [b4])
 (some [false])
 (none)).bind fun vs5 =>
 some { r := (.bool (vs5.getD 0 false)) })
 ((sBin .eql x0 (.int .i64 4)).bind fun r6 =>
 pickC r6
 (((sBin .geq x1 (.int .i64 0)).bind fun r7 =>
 guardX r7 true
 ((sBin .lss x1 (.int .i64 2147483648)).bind fun r8 =>
 (asB r8).bind fun b9 =>
 some [b9])
 (some [false])
 (none)).bind fun vs10 =>
 some { r := (.bool (vs10.getD 0 false)) })
 ((sBin .eql x0 (.int .i64 6)).bind fun r11 =>
 pickC r11
 (((sBin .geq x1 (.int .i64 1)).bind fun r12 =>
 guardX r12 true
 ((sBin .leq x1 (.int .i64 3)).bind fun r13 =>
 (asB r13).bind fun b14 =>
 some [b14])
 (some [false])
 (none)).bind fun vs15 =>
 some { r := (.bool (vs15.getD 0 false)) })
 ((sBin .eql x0 (.int .i64 9)).bind fun r16 =>
 pickC r16
 (((sBin .geq x1 (.int .i64 0)).bind fun r17 =>
 guardX r17 true
 ((sBin .leq x1 (.int .i64 63)).bind fun r18 =>
 (asB r18).bind fun b19 =>
 some [b19])
 (some [false])
 (none)).bind fun vs20 =>
 some { r := (.bool (vs20.getD 0 false)) })
 ((sBin .eql x1 (.int .i64 0)).bind fun r21 =>
 some { r := r21 }))))
theorem r83 (T : TT) (k : Nat) (x0 x1 : SVal) : bodyE P H T k 83 [x0, x1] = R83 T k x0 x1 := by kernel_rfl
theorem t83 (k : Nat) (x0 x1 : SVal) : T (k + 1) 83 [x0, x1] = R83 (T k) k x0 x1 := (tb k 83 _ rfl).trans (r83 ..)
/-- limelight/tree.may -/
def R84 (T : TT) (k : Nat) (x0 : SVal) : Option Res :=
 (sLen x0).bind fun r1 =>
 (T 113 [r1, (.int .i64 1), (.int .i64 64)]).bind fun r2 =>
 (sNot r2.r).bind fun r3 =>
 pickC r3
 (some { r := (.bool false) })
 ((sLen x0).bind fun r4 =>
 loopN (fun s5 next5 =>
 (sBin .lss s5.k2 s5.k1).bind fun r6 =>
 pickC r6
 ((T 114 [(weak s5.k0), s5.k2]).bind fun r7 =>
 (sNot r7.r).bind fun r8 =>
 pickC r8
 (some { r := (.bool false) })
 ((sBin .add s5.k2 (.int .i64 1)).bind fun r9 =>
 next5 ⟨[(weak s5.k0), s5.k1, r9], [], false⟩))
 ((sLen s5.k0).bind fun r10 =>
 loopN (fun s11 next11 =>
 (sBin .lss s11.k2 s11.k1).bind fun r12 =>
 pickC r12
 ((T 115 [(weak s11.k0), s11.k2]).bind fun r13 =>
 pickC r13.r
 (some { r := (.bool false) })
 ((sBin .add s11.k2 (.int .i64 1)).bind fun r14 =>
 next11 ⟨[(weak s11.k0), s11.k1, r14], [], false⟩))
 (some { r := (.bool true) })) k ⟨[(weak s5.k0), r10, (.int .i64 0)], [], false⟩)) k ⟨[(weak x0), r4, (.int .i64 0)], [], false⟩)
theorem r84 (T : TT) (k : Nat) (x0 : SVal) : bodyE P H T k 84 [x0] = R84 T k x0 := by kernel_rfl
noncomputable def D84 (T : TT) (k : Nat) : List SVal → Option Res
  | [x0] => R84 T k x0
  | a => bodyE P H T k 84 a
theorem d84 (T : TT) (k : Nat) (a : List SVal) : D84 T k a = bodyE P H T k 84 a := by
  unfold D84
  split
  · exact (r84 ..).symm
  · rfl
theorem t84 (k : Nat) (x0 : SVal) : T (k + 1) 84 [x0] = R84 (T k) k x0 := (tb k 84 _ rfl).trans (r84 ..)
/-- limelight/top.only[int] -/
def R85 (T : TT) (k : Nat) (x0 x1 : SVal) : Option Res :=
 (sLen x0).bind fun r1 =>
 loopN (fun s2 next2 =>
 (sBin .lss s2.k5 s2.k4).bind fun r3 =>
 pickC r3
 ((sIdx false 1 s2.k3 s2.k5).bind fun e4 =>
 (callV H T s2.k0 [e4]).bind fun y5 =>
 pickC y5
 (if (List.all [[.v e4]] allOne) = true then
 if (s2.k1.xs.length + ([e4] : List SVal).length) * 8 ≤ maxAppend then
 (sBin .add s2.k5 (.int .i64 1)).bind fun r6 =>
 next2 ⟨[s2.k0, (.sl 1 true false (s2.k1.xs ++ ([e4] : List SVal))), (.sl 1 true false s2.k2.xs), (weak s2.k3), s2.k4, r6], [], false⟩
 else none
 else none)
 (if (List.all [[.v e4]] allOne) = true then
 if (s2.k2.xs.length + ([e4] : List SVal).length) * 8 ≤ maxAppend then
 (sBin .add s2.k5 (.int .i64 1)).bind fun r7 =>
 next2 ⟨[s2.k0, (.sl 1 true false s2.k1.xs), (.sl 1 true false (s2.k2.xs ++ ([e4] : List SVal))), (weak s2.k3), s2.k4, r7], [], false⟩
 else none
 else none))
 (some { r := (.tup [(.sl 1 false false s2.k1.xs), (.sl 1 false false s2.k2.xs)]) })) k ⟨[x1, (.sl 1 true false []), (.sl 1 true false []), (weak x0), r1, (.int .i64 0)], [], false⟩
theorem r85 (T : TT) (k : Nat) (x0 x1 : SVal) : bodyE P H T k 85 [x0, x1] = R85 T k x0 x1 := by kernel_rfl
noncomputable def D85 (T : TT) (k : Nat) : List SVal → Option Res
  | [x0, x1] => R85 T k x0 x1
  | a => bodyE P H T k 85 a
theorem d85 (T : TT) (k : Nat) (a : List SVal) : D85 T k a = bodyE P H T k 85 a := by
  unfold D85
  split
  · exact (r85 ..).symm
  · rfl
theorem t85 (k : Nat) (x0 x1 : SVal) : T (k + 1) 85 [x0, x1] = R85 (T k) k x0 x1 := (tb k 85 _ rfl).trans (r85 ..)
/-- slices.Concat[[]int,int] -/
def R86 (T : TT) (k : Nat) (x0 : SVal) : Option Res :=
 (sLen x0).bind fun r1 =>
 loopN (fun s2 next2 =>
 (sBin .lss s2.k4 s2.k3).bind fun r3 =>
 pickC r3
 ((sIdx false 1 s2.k2 s2.k4).bind fun e4 =>
 (sLen e4).bind fun r5 =>
 (sBin .add s2.k1 r5).bind fun r6 =>
 (sBin .lss r6 (.int .i64 0)).bind fun r7 =>
 pickC r7
 (none)
 ((sBin .add s2.k4 (.int .i64 1)).bind fun r8 =>
 next2 ⟨[(weak s2.k0), r6, (weak s2.k2), s2.k3, r8], [], false⟩))
 ((T 116 [(.sl 1 false true []), s2.k1]).bind fun r9 =>
 (sLen s2.k0).bind fun r10 =>
 loopN (fun s11 next11 =>
 (sBin .lss s11.k3 s11.k2).bind fun r12 =>
 pickC r12
 ((sIdx false 1 s11.k1 s11.k3).bind fun e13 =>
 (elems 1 e13).bind fun ys14 =>
 if (s11.k0.xs.length + ys14.length) * 8 ≤ maxAppend then
 (sBin .add s11.k3 (.int .i64 1)).bind fun r15 =>
 next11 ⟨[(.sl 1 true false (s11.k0.xs ++ ys14)), (weak s11.k1), s11.k2, r15], [], false⟩
 else none)
 (some { r := (.sl 1 false false s11.k0.xs) })) k ⟨[(.sl 1 true false r9.r.xs), (weak s2.k0), r10, (.int .i64 0)], [], false⟩)) k ⟨[(weak x0), (.int .i64 0), (weak x0), r1, (.int .i64 0)], [], false⟩
theorem r86 (T : TT) (k : Nat) (x0 : SVal) : bodyE P H T k 86 [x0] = R86 T k x0 := by kernel_rfl
noncomputable def D86 (T : TT) (k : Nat) : List SVal → Option Res
  | [x0] => R86 T k x0
  | a => bodyE P H T k 86 a
theorem d86 (T : TT) (k : Nat) (a : List SVal) : D86 T k a = bodyE P H T k 86 a := by
  unfold D86
  split
  · exact (r86 ..).symm
  · rfl
theorem t86 (k : Nat) (x0 : SVal) : T (k + 1) 86 [x0] = R86 (T k) k x0 := (tb k 86 _ rfl).trans (r86 ..)
/-- limelight/top.may$1 -/
def R87 (T : TT) (k : Nat) (x0 x1 : SVal) : Option Res :=
 (T 88 [(weak x1), x0]).bind fun r1 =>
 some { r := r1.r }
theorem r87 (T : TT) (k : Nat) (x0 x1 : SVal) : bodyE P H T k 87 [x0, (.rp [x1])] = R87 T k x0 x1 := by kernel_rfl
noncomputable def D87 (T : TT) (k : Nat) : List SVal → Option Res
  | [x0, (.rp [x1])] => R87 T k x0 x1
  | a => bodyE P H T k 87 a
theorem d87 (T : TT) (k : Nat) (a : List SVal) : D87 T k a = bodyE P H T k 87 a := by
  unfold D87
  split
  · exact (r87 ..).symm
  · rfl
theorem t87 (k : Nat) (x0 x1 : SVal) : T (k + 1) 87 [x0, (.rp [x1])] = R87 (T k) k x0 x1 := (tb k 87 _ rfl).trans (r87 ..)
/-- limelight/top.dialog -/
def R88 (T : TT) (k : Nat) (x0 x1 : SVal) : Option Res :=
 ((T 117 [(weak x0), x1]).bind fun r1 =>
 guardX r1.r true
 ((sIdx true 7 x0 x1).bind fun e2 =>
 (sBin .eql (SVal.cell e2 1) (.int .i64 2)).bind fun r3 =>
 (asB r3).bind fun b4 =>
 some [b4])
 (some [false])
 (none)).bind fun vs5 =>
 some { r := (.bool (vs5.getD 0 false)) }
theorem r88 (T : TT) (k : Nat) (x0 x1 : SVal) : bodyE P H T k 88 [x0, x1] = R88 T k x0 x1 := by kernel_rfl
noncomputable def D88 (T : TT) (k : Nat) : List SVal → Option Res
  | [x0, x1] => R88 T k x0 x1
  | a => bodyE P H T k 88 a
theorem d88 (T : TT) (k : Nat) (a : List SVal) : D88 T k a = bodyE P H T k 88 a := by
  unfold D88
  split
  · exact (r88 ..).symm
  · rfl
theorem t88 (k : Nat) (x0 x1 : SVal) : T (k + 1) 88 [x0, x1] = R88 (T k) k x0 x1 := (tb k 88 _ rfl).trans (r88 ..)
end Go.Proofs.YtcdnmiaelaombaaGreat.K
