/- What the evaluator makes of the functions, by program (wip/tr/resid.py); each equation is checked by the kernel. -/
import Derived.Test.YtjcnilaogidhlaaGreatLmAJ
import Derived.Test.YtjcnilaogidhlaaGreatLmAB
import Derived.KernelRfl
set_option linter.unusedVariables false
set_option linter.unusedSimpArgs false
set_option linter.unnecessarySimpa false
set_option linter.all false
set_option maxRecDepth 100000
namespace Go.Proofs.YtjcnilaogidhlaaGreat.K
open Go Go.Lm
/-- limelight/area.Is -/
def R82 (T : TT) (k : Nat) (x0a x0b x0c x0d x0e x1 : SVal) : Option Res :=
 (T 122 [(weak x0a), x1]).bind fun r1 =>
 if (allOne [.v r1.r.c0.c0, .v r1.r.c0.c1, .v r1.r.c0.c2, .v r1.r.c0.c3, .v r1.r.c0.c4, .v r1.r.c0.c5]) = true then
 (guardX r1.r.c1 true
 ((T 65 [(.agg [(weak x0a), (weak x0b), (weak x0c), (weak x0d), (weak x0e)])]).bind fun r2 =>
 (sBin .eql r2.r (.int .i64 0)).bind fun r3 =>
 guardX r3 true
 (if (6 ≤ 6 ∧ (oneS x1) = true) then
 (T 124 [(.agg [(weak x0a), (weak x0b), (weak x0c), (weak x0d), (weak x0e), x1])]).bind fun r4 =>
 (asB r4.r).bind fun b5 =>
 some [b5]
 else none)
 (some [false])
 (none))
 (some [false])
 (none)).bind fun vs6 =>
 some { r := (.bool (vs6.getD 0 false)) }
 else none
theorem r82 (T : TT) (k : Nat) (x0a x0b x0c x0d x0e x1 : SVal) : bodyE P H T k 82 [(.agg [x0a, x0b, x0c, x0d, x0e]), x1] = R82 T k x0a x0b x0c x0d x0e x1 := by kernel_rfl
noncomputable def D82 (T : TT) (k : Nat) : List SVal → Option Res
  | [(.agg [x0a, x0b, x0c, x0d, x0e]), x1] => R82 T k x0a x0b x0c x0d x0e x1
  | a => bodyE P H T k 82 a
theorem d82 (T : TT) (k : Nat) (a : List SVal) : D82 T k a = bodyE P H T k 82 a := by
  unfold D82
  split
  · exact (r82 ..).symm
  · rfl
theorem t82 (k : Nat) (x0a x0b x0c x0d x0e x1 : SVal) : T (k + 1) 82 [(.agg [x0a, x0b, x0c, x0d, x0e]), x1] = R82 (T k) k x0a x0b x0c x0d x0e x1 := (tb k 82 _ rfl).trans (r82 ..)
/-- slices.stableCmpFunc[int] -/
def R83 (T : TT) (k : Nat) (x0 : List SVal) (x1 x2 : SVal) : Option Res :=
 loopN (fun s1 next1 =>
 (sBin .leq s1.k5 s1.k1).bind fun r2 =>
 pickC r2
 ((T 125 [(.sl 1 true false s1.k0.xs), s1.k4, s1.k5, s1.k2]).bind fun r3 =>
 (sBin .add s1.k5 s1.k3).bind fun r4 =>
 next1 ⟨[(.sl 1 true false ((r3.outs.headD .undef).xs)), s1.k1, s1.k2, s1.k3, s1.k5, r4], [], false⟩)
 ((T 125 [(.sl 1 true false s1.k0.xs), s1.k4, s1.k1, s1.k2]).bind fun r5 =>
 loopN (fun s6 next6 =>
 (sBin .lss s6.k3 s6.k1).bind fun r7 =>
 pickC r7
 ((sBin .mul (.int .i64 2) s6.k3).bind fun r8 =>
 loopN (fun s9 next9 =>
 (sBin .leq s9.k5 s9.k1).bind fun r10 =>
 pickC r10
 ((sBin .add s9.k4 s9.k3).bind fun r11 =>
 (T 126 [(.sl 1 true false s9.k0.xs), s9.k4, r11, s9.k5, s9.k2]).bind fun r12 =>
 (sBin .mul (.int .i64 2) s9.k3).bind fun r13 =>
 (sBin .add s9.k5 r13).bind fun r14 =>
 next9 ⟨[(.sl 1 true false ((r12.outs.headD .undef).xs)), s9.k1, s9.k2, s9.k3, s9.k5, r14], [], false⟩)
 ((sBin .add s9.k4 s9.k3).bind fun r15 =>
 (sBin .lss r15 s9.k1).bind fun r16 =>
 pickC r16
 ((T 126 [(.sl 1 true false s9.k0.xs), s9.k4, r15, s9.k1, s9.k2]).bind fun r17 =>
 (sBin .mul s9.k3 (.int .i64 2)).bind fun r18 =>
 next6 ⟨[(.sl 1 true false ((r17.outs.headD .undef).xs)), s9.k1, s9.k2, r18], [], false⟩)
 ((sBin .mul s9.k3 (.int .i64 2)).bind fun r19 =>
 next6 ⟨[(.sl 1 true false s9.k0.xs), s9.k1, s9.k2, r19], [], false⟩))) k ⟨[(.sl 1 true false s6.k0.xs), s6.k1, s6.k2, s6.k3, (.int .i64 0), r8], [], false⟩)
 (some { r := (.tup []), outs := [(.sl 1 true false s6.k0.xs)] })) k ⟨[(.sl 1 true false ((r5.outs.headD .undef).xs)), s1.k1, s1.k2, s1.k3], [], false⟩)) k ⟨[(.sl 1 true false x0), x1, x2, (.int .i64 20), (.int .i64 0), (.int .i64 20)], [], false⟩
theorem r83 (T : TT) (k : Nat) (x0 : List SVal) (x1 x2 : SVal) : bodyE P H T k 83 [(.sl 1 true false x0), x1, x2] = R83 T k x0 x1 x2 := by kernel_rfl
noncomputable def D83 (T : TT) (k : Nat) : List SVal → Option Res
  | [(.sl 1 true false x0), x1, x2] => R83 T k x0 x1 x2
  | a => bodyE P H T k 83 a
theorem d83 (T : TT) (k : Nat) (a : List SVal) : D83 T k a = bodyE P H T k 83 a := by
  unfold D83
  split
  · exact (r83 ..).symm
  · rfl
theorem t83 (k : Nat) (x0 : List SVal) (x1 x2 : SVal) : T (k + 1) 83 [(.sl 1 true false x0), x1, x2] = R83 (T k) k x0 x1 x2 := (tb k 83 _ rfl).trans (r83 ..)
/-- cmp.isNaN[int] -/
def R84 (T : TT) (k : Nat) (x0 : SVal) : Option Res :=
 (sBin .neq x0 x0).bind fun r1 =>
 some { r := r1 }
theorem r84 (T : TT) (k : Nat) (x0 : SVal) : bodyE P H T k 84 [x0] = R84 T k x0 := by kernel_rfl
noncomputable def D84 (T : TT) (k : Nat) : List SVal → Option Res
  | [x0] => R84 T k x0
  | a => bodyE P H T k 84 a
theorem d84 (T : TT) (k : Nat) (a : List SVal) : D84 T k a = bodyE P H T k 84 a := by
  unfold D84
  split
  · exact (r84 ..).symm
  · rfl
theorem t84 (k : Nat) (x0 : SVal) : T (k + 1) 84 [x0] = R84 (T k) k x0 := (tb k 84 _ rfl).trans (r84 ..)
/-- limelight/limelightref01.kind -/
def R85 (T : TT) (k : Nat) (x0a x0b x0c x0d x0e x0f x0g x1 : SVal) : Option Res :=
 ((sBin .eql x0a (.int .i64 0)).bind fun r1 =>
 (sBin .eql x1 (.int .i64 0)).bind fun r2 =>
 (sBinB .neq r1 r2).bind fun r3 =>
 guardX r3 false
 ((sBin .lss x0a (.int .i64 0)).bind fun r4 =>
 guardX r4 false
 ((sBin .gtr x0a (.int .i64 3)).bind fun r5 =>
 (asB r5).bind fun b6 =>
 some [b6])
 (some [true])
 (none))
 (some [true])
 (none)).bind fun vs7 =>
 pickC (.bool (vs7.getD 0 false))
 (some { r := (.bool false) })
 ((sBin .eql x0a (.int .i64 1)).bind fun r8 =>
 pickC r8
 (((sBin .geq x0b (.int .i64 0)).bind fun r9 =>
 guardX r9 true
 ((sBin .leq x0b (.int .i64 4)).bind fun r10 =>
 (asB r10).bind fun b11 =>
 some [b11])
 (some [false])
 (none)).bind fun vs12 =>
 some { r := (.bool (vs12.getD 0 false)) })
 ((sBin .eql x0b (.int .i64 0)).bind fun r13 =>
 some { r := r13 }))
theorem r85 (T : TT) (k : Nat) (x0a x0b x0c x0d x0e x0f x0g x1 : SVal) : bodyE P H T k 85 [(.agg [x0a, x0b, x0c, x0d, x0e, x0f, x0g]), x1] = R85 T k x0a x0b x0c x0d x0e x0f x0g x1 := by kernel_rfl
theorem t85 (k : Nat) (x0a x0b x0c x0d x0e x0f x0g x1 : SVal) : T (k + 1) 85 [(.agg [x0a, x0b, x0c, x0d, x0e, x0f, x0g]), x1] = R85 (T k) k x0a x0b x0c x0d x0e x0f x0g x1 := (tb k 85 _ rfl).trans (r85 ..)
/-- limelight/limelightref01.attrs -/
def R86 (T : TT) (k : Nat) (x0a x0b x0c x0d x0e x0f x0g : SVal) : Option Res :=
 loopN (fun s1 next1 =>
 (sLen (SVal.cell s1.k0 6)).bind fun r2 =>
 (sBin .lss s1.k1 r2).bind fun r3 =>
 pickC r3
 (((sIdx true 2 (SVal.cell s1.k0 6) s1.k1).bind fun e4 =>
 (T 127 [(SVal.cell s1.k0 0), (.agg [(SVal.cell e4 0), (SVal.cell e4 1)])]).bind fun r5 =>
 (sNot r5.r).bind fun r6 =>
 guardX r6 false
 ((sBin .gtr s1.k1 (.int .i64 0)).bind fun r7 =>
 guardX r7 true
 ((sIdx true 2 (SVal.cell s1.k0 6) s1.k1).bind fun e8 =>
 (sBin .sub s1.k1 (.int .i64 1)).bind fun r9 =>
 (sIdx true 2 (SVal.cell s1.k0 6) r9).bind fun e10 =>
 (sBin .leq (SVal.cell e8 0) (SVal.cell e10 0)).bind fun r11 =>
 (asB r11).bind fun b12 =>
 some [b12])
 (some [false])
 (none))
 (some [true])
 (none)).bind fun vs13 =>
 pickC (.bool (vs13.getD 0 false))
 (some { r := (.bool false) })
 ((sBin .add s1.k1 (.int .i64 1)).bind fun r14 =>
 next1 ⟨[(.rp [(SVal.cell s1.k0 0), (SVal.cell s1.k0 1), (SVal.cell s1.k0 2), (SVal.cell s1.k0 3), (SVal.cell s1.k0 4), (SVal.cell s1.k0 5), (SVal.cell s1.k0 6)]), r14], [], false⟩))
 (some { r := (.bool true) })) k ⟨[(.rp [x0a, x0b, x0c, x0d, x0e, x0f, x0g]), (.int .i64 0)], [], false⟩
theorem r86 (T : TT) (k : Nat) (x0a x0b x0c x0d x0e x0f x0g : SVal) : bodyE P H T k 86 [(.agg [x0a, x0b, x0c, x0d, x0e, x0f, x0g])] = R86 T k x0a x0b x0c x0d x0e x0f x0g := by kernel_rfl
theorem t86 (k : Nat) (x0a x0b x0c x0d x0e x0f x0g : SVal) : T (k + 1) 86 [(.agg [x0a, x0b, x0c, x0d, x0e, x0f, x0g])] = R86 (T k) k x0a x0b x0c x0d x0e x0f x0g := (tb k 86 _ rfl).trans (r86 ..)
/-- limelight/limelightref01.kids -/
def R87 (T : TT) (k : Nat) (x0 x1 : SVal) : Option Res :=
 (sIdx true 7 x0 x1).bind fun e1 =>
 if (allOne [.v (SVal.cell e1 0), .v (SVal.cell e1 1), .v (SVal.cell e1 2), .v (SVal.cell e1 3), .v (SVal.cell e1 4), .v (SVal.cell e1 5), .v (SVal.cell e1 6)]) = true then
 loopN (fun s2 next2 =>
 (sLen (SVal.cell s2.k2 3)).bind fun r3 =>
 (sBin .lss s2.k3 r3).bind fun r4 =>
 pickC r4
 ((sIdx false 1 (SVal.cell s2.k2 3) s2.k3).bind fun e5 =>
 ((T 17 [(weak s2.k0), e5]).bind fun r6 =>
 (sNot r6.r).bind fun r7 =>
 guardX r7 false
 ((T 128 [(weak (SVal.cell s2.k2 3)), e5]).bind fun r8 =>
 (sBin .neq r8.r (.int .i64 1)).bind fun r9 =>
 (asB r9).bind fun b10 =>
 some [b10])
 (some [true])
 (none)).bind fun vs11 =>
 pickC (.bool (vs11.getD 0 false))
 (some { r := (.bool false) })
 (((sIdx true 7 s2.k0 e5).bind fun e12 =>
 (sBin .neq (SVal.cell e12 2) s2.k1).bind fun r13 =>
 guardX r13 false
 ((sIdx true 7 s2.k0 e5).bind fun e14 =>
 (sBin .neq (SVal.cell e14 0) (.int .i64 1)).bind fun r15 =>
 guardX r15 true
 ((sIdx true 7 s2.k0 e5).bind fun e16 =>
 (sBin .neq (SVal.cell e16 0) (.int .i64 2)).bind fun r17 =>
 (asB r17).bind fun b18 =>
 some [b18])
 (some [false])
 (none))
 (some [true])
 (none)).bind fun vs19 =>
 pickC (.bool (vs19.getD 0 false))
 (some { r := (.bool false) })
 ((sBin .add s2.k3 (.int .i64 1)).bind fun r20 =>
 next2 ⟨[(weak s2.k0), s2.k1, (.rp [(SVal.cell s2.k2 0), (SVal.cell s2.k2 1), (SVal.cell s2.k2 2), (SVal.cell s2.k2 3), (SVal.cell s2.k2 4), (SVal.cell s2.k2 5), (SVal.cell s2.k2 6)]), r20], [], false⟩)))
 (((sBin .eql (SVal.cell s2.k2 0) (.int .i64 2)).bind fun r21 =>
 guardX r21 true
 ((sLen (SVal.cell s2.k2 3)).bind fun r22 =>
 (sBin .gtr r22 (.int .i64 0)).bind fun r23 =>
 (asB r23).bind fun b24 =>
 some [b24])
 (some [false])
 (none)).bind fun vs25 =>
 pickC (.bool (vs25.getD 0 false))
 (some { r := (.bool false) })
 ((sBin .eql (SVal.cell s2.k2 2) (.int .i64 (-1))).bind fun r26 =>
 pickC r26
 (some { r := (.bool true) })
 (((T 17 [(weak s2.k0), (SVal.cell s2.k2 2)]).bind fun r27 =>
 guardX r27.r true
 ((sIdx true 7 s2.k0 (SVal.cell s2.k2 2)).bind fun e28 =>
 (T 128 [(weak (SVal.cell e28 3)), s2.k1]).bind fun r29 =>
 (sBin .eql r29.r (.int .i64 1)).bind fun r30 =>
 (asB r30).bind fun b31 =>
 some [b31])
 (some [false])
 (none)).bind fun vs32 =>
 some { r := (.bool (vs32.getD 0 false)) })))) k ⟨[(weak x0), x1, (.rp [(SVal.cell e1 0), (SVal.cell e1 1), (SVal.cell e1 2), (SVal.cell e1 3), (SVal.cell e1 4), (SVal.cell e1 5), (SVal.cell e1 6)]), (.int .i64 0)], [], false⟩
 else none
theorem r87 (T : TT) (k : Nat) (x0 x1 : SVal) : bodyE P H T k 87 [x0, x1] = R87 T k x0 x1 := by kernel_rfl
theorem t87 (k : Nat) (x0 x1 : SVal) : T (k + 1) 87 [x0, x1] = R87 (T k) k x0 x1 := (tb k 87 _ rfl).trans (r87 ..)
/-- limelight/limelightref01.shadow -/
def R88 (T : TT) (k : Nat) (x0 x1 : SVal) : Option Res :=
 (sIdx true 7 x0 x1).bind fun e1 =>
 if (allOne [.v (SVal.cell e1 0), .v (SVal.cell e1 1), .v (SVal.cell e1 2), .v (SVal.cell e1 3), .v (SVal.cell e1 4), .v (SVal.cell e1 5), .v (SVal.cell e1 6)]) = true then
 (sBin .eql (SVal.cell e1 0) (.int .i64 3)).bind fun r2 =>
 pickC r2
 (((sBin .eql (SVal.cell e1 5) (.int .i64 (-1))).bind fun r3 =>
 guardX r3 true
 ((sBin .eql (SVal.cell e1 2) (.int .i64 (-1))).bind fun r4 =>
 guardX r4 true
 ((T 17 [(weak x0), (SVal.cell e1 4)]).bind fun r5 =>
 guardX r5.r true
 ((sIdx true 7 x0 (SVal.cell e1 4)).bind fun e6 =>
 (sBin .eql (SVal.cell e6 0) (.int .i64 1)).bind fun r7 =>
 guardX r7 true
 ((sIdx true 7 x0 (SVal.cell e1 4)).bind fun e8 =>
 (sBin .eql (SVal.cell e8 5) x1).bind fun r9 =>
 (asB r9).bind fun b10 =>
 some [b10])
 (some [false])
 (none))
 (some [false])
 (none))
 (some [false])
 (none))
 (some [false])
 (none)).bind fun vs11 =>
 some { r := (.bool (vs11.getD 0 false)) })
 ((sBin .neq (SVal.cell e1 4) (.int .i64 (-1))).bind fun r12 =>
 pickC r12
 (some { r := (.bool false) })
 ((sBin .eql (SVal.cell e1 5) (.int .i64 (-1))).bind fun r13 =>
 pickC r13
 (some { r := (.bool true) })
 (((sBin .eql (SVal.cell e1 0) (.int .i64 1)).bind fun r14 =>
 guardX r14 true
 ((T 17 [(weak x0), (SVal.cell e1 5)]).bind fun r15 =>
 guardX r15.r true
 ((sIdx true 7 x0 (SVal.cell e1 5)).bind fun e16 =>
 (sBin .eql (SVal.cell e16 0) (.int .i64 3)).bind fun r17 =>
 guardX r17 true
 ((sIdx true 7 x0 (SVal.cell e1 5)).bind fun e18 =>
 (sBin .eql (SVal.cell e18 4) x1).bind fun r19 =>
 (asB r19).bind fun b20 =>
 some [b20])
 (some [false])
 (none))
 (some [false])
 (none))
 (some [false])
 (none)).bind fun vs21 =>
 some { r := (.bool (vs21.getD 0 false)) })))
 else none
theorem r88 (T : TT) (k : Nat) (x0 x1 : SVal) : bodyE P H T k 88 [x0, x1] = R88 T k x0 x1 := by kernel_rfl
theorem t88 (k : Nat) (x0 x1 : SVal) : T (k + 1) 88 [x0, x1] = R88 (T k) k x0 x1 := (tb k 88 _ rfl).trans (r88 ..)
/-- limelight/limelightref01.ends -/
def R89 (T : TT) (k : Nat) (x0 x1 : SVal) : Option Res :=
 loopN (fun s1 next1 =>
 (sLen s1.k0).bind fun r2 =>
 (sBin .leq s1.k2 r2).bind fun r3 =>
 pickC r3
 ((sBin .eql s1.k1 (.int .i64 (-1))).bind fun r4 =>
 pickC r4
 (some { r := (.bool true) })
 ((T 129 [(weak s1.k0), s1.k1]).bind fun r5 =>
 (sBin .add s1.k2 (.int .i64 1)).bind fun r6 =>
 next1 ⟨[(weak s1.k0), r5.r, r6], [], false⟩))
 (some { r := (.bool false) })) k ⟨[(weak x0), x1, (.int .i64 0)], [], false⟩
theorem r89 (T : TT) (k : Nat) (x0 x1 : SVal) : bodyE P H T k 89 [x0, x1] = R89 T k x0 x1 := by kernel_rfl
theorem t89 (k : Nat) (x0 x1 : SVal) : T (k + 1) 89 [x0, x1] = R89 (T k) k x0 x1 := (tb k 89 _ rfl).trans (r89 ..)
/-- limelight/limelightref10.open -/
def R90 (T : TT) (k : Nat) (x0a x0b x0c x0d x0e : SVal) : Option Res :=
 (elems 1 x0b).bind fun ys1 =>
 if ys1.length * 8 ≤ maxAppend then
 (elems 1 x0c).bind fun ys2 =>
 if (ys1.length + ys2.length) * 8 ≤ maxAppend then
 (T 32 [(weak x0d)]).bind fun r3 =>
 (elems 1 r3.r).bind fun ys4 =>
 if ((ys1 ++ ys2).length + ys4.length) * 8 ≤ maxAppend then
 some { r := (.sl 1 false false ((ys1 ++ ys2) ++ ys4)) }
 else none
 else none
 else none
theorem r90 (T : TT) (k : Nat) (x0a x0b x0c x0d x0e : SVal) : bodyE P H T k 90 [(.agg [x0a, x0b, x0c, x0d, x0e])] = R90 T k x0a x0b x0c x0d x0e := by kernel_rfl
theorem t90 (k : Nat) (x0a x0b x0c x0d x0e : SVal) : T (k + 1) 90 [(.agg [x0a, x0b, x0c, x0d, x0e])] = R90 (T k) k x0a x0b x0c x0d x0e := (tb k 90 _ rfl).trans (r90 ..)
/-- limelight/limelightref10.Dialogs -/
def R91 (T : TT) (k : Nat) (x0 x1 : SVal) : Option Res :=
 ((T 17 [(weak x0), x1]).bind fun r1 =>
 guardX r1.r true
 ((sIdx true 7 x0 x1).bind fun e2 =>
 (sBin .eql (SVal.cell e2 0) (.int .i64 1)).bind fun r3 =>
 guardX r3 true
 ((sIdx true 7 x0 x1).bind fun e4 =>
 (sBin .eql (SVal.cell e4 1) (.int .i64 2)).bind fun r5 =>
 guardX r5 true
 ((T 130 [(weak x0), x1]).bind fun r6 =>
 (asB r6.r).bind fun b7 =>
 some [b7])
 (some [false])
 (none))
 (some [false])
 (none))
 (some [false])
 (none)).bind fun vs8 =>
 some { r := (.bool (vs8.getD 0 false)) }
theorem r91 (T : TT) (k : Nat) (x0 x1 : SVal) : bodyE P H T k 91 [x0, x1] = R91 T k x0 x1 := by kernel_rfl
theorem t91 (k : Nat) (x0 x1 : SVal) : T (k + 1) 91 [x0, x1] = R91 (T k) k x0 x1 := (tb k 91 _ rfl).trans (r91 ..)
/-- limelight/limelightref10.Popups -/
def R92 (T : TT) (k : Nat) (x0 x1 : SVal) : Option Res :=
 ((T 17 [(weak x0), x1]).bind fun r1 =>
 guardX r1.r true
 ((sIdx true 7 x0 x1).bind fun e2 =>
 (sBin .eql (SVal.cell e2 0) (.int .i64 1)).bind fun r3 =>
 guardX r3 true
 ((T 131 [(weak x0), x1, (.int .i64 6)]).bind fun r4 =>
 guardX r4.r true
 ((T 130 [(weak x0), x1]).bind fun r5 =>
 (asB r5.r).bind fun b6 =>
 some [b6])
 (some [false])
 (none))
 (some [false])
 (none))
 (some [false])
 (none)).bind fun vs7 =>
 some { r := (.bool (vs7.getD 0 false)) }
theorem r92 (T : TT) (k : Nat) (x0 x1 : SVal) : bodyE P H T k 92 [x0, x1] = R92 T k x0 x1 := by kernel_rfl
theorem t92 (k : Nat) (x0 x1 : SVal) : T (k + 1) 92 [x0, x1] = R92 (T k) k x0 x1 := (tb k 92 _ rfl).trans (r92 ..)
/-- limelight/limelightref10.Once -/
def R93 (T : TT) (k : Nat) (x0 : SVal) : Option Res :=
 loopN (fun s1 next1 =>
 (sLen s1.k0).bind fun r2 =>
 (sBin .lss s1.k1 r2).bind fun r3 =>
 pickC r3
 ((sIdx false 1 s1.k0 s1.k1).bind fun e4 =>
 (T 28 [(weak s1.k0), e4]).bind fun r5 =>
 (sBin .neq r5.r s1.k1).bind fun r6 =>
 pickC r6
 (some { r := (.bool false) })
 ((sBin .add s1.k1 (.int .i64 1)).bind fun r7 =>
 next1 ⟨[(weak s1.k0), r7], [], false⟩))
 (some { r := (.bool true) })) k ⟨[(weak x0), (.int .i64 0)], [], false⟩
theorem r93 (T : TT) (k : Nat) (x0 : SVal) : bodyE P H T k 93 [x0] = R93 T k x0 := by kernel_rfl
theorem t93 (k : Nat) (x0 : SVal) : T (k + 1) 93 [x0] = R93 (T k) k x0 := (tb k 93 _ rfl).trans (r93 ..)
/-- limelight/flat.up -/
def R94 (T : TT) (k : Nat) (x0 x1 : SVal) : Option Res :=
 if (oneS x0) = true then
 if (oneS x1) = true then
 some { r := (.fn 132 [(.mb [x1]), (.rp [x0])]) }
 else none
 else none
theorem r94 (T : TT) (k : Nat) (x0 x1 : SVal) : bodyE P H T k 94 [x0, x1] = R94 T k x0 x1 := by kernel_rfl
noncomputable def D94 (T : TT) (k : Nat) : List SVal → Option Res
  | [x0, x1] => R94 T k x0 x1
  | a => bodyE P H T k 94 a
theorem d94 (T : TT) (k : Nat) (a : List SVal) : D94 T k a = bodyE P H T k 94 a := by
  unfold D94
  split
  · exact (r94 ..).symm
  · rfl
theorem t94 (k : Nat) (x0 x1 : SVal) : T (k + 1) 94 [x0, x1] = R94 (T k) k x0 x1 := (tb k 94 _ rfl).trans (r94 ..)
/-- limelight/attr.node -/
def R95 (T : TT) (k : Nat) (x0 x1 : SVal) : Option Res :=
 ((T 105 [(weak x0)]).bind fun r1 =>
 (sBin .eql r1.r (.int .i64 0)).bind fun r2 =>
 guardX r2 true
 ((sBin .geq x1 (.int .i64 0)).bind fun r3 =>
 guardX r3 true
 ((sLen x0).bind fun r4 =>
 (sBin .lss x1 r4).bind fun r5 =>
 (asB r5).bind fun b6 =>
 some [b6])
 (some [false])
 (none))
 (some [false])
 (none)).bind fun vs7 =>
 some { r := (.bool (vs7.getD 0 false)) }
theorem r95 (T : TT) (k : Nat) (x0 x1 : SVal) : bodyE P H T k 95 [x0, x1] = R95 T k x0 x1 := by kernel_rfl
noncomputable def D95 (T : TT) (k : Nat) : List SVal → Option Res
  | [x0, x1] => R95 T k x0 x1
  | a => bodyE P H T k 95 a
theorem d95 (T : TT) (k : Nat) (a : List SVal) : D95 T k a = bodyE P H T k 95 a := by
  unfold D95
  split
  · exact (r95 ..).symm
  · rfl
theorem t95 (k : Nat) (x0 x1 : SVal) : T (k + 1) 95 [x0, x1] = R95 (T k) k x0 x1 := (tb k 95 _ rfl).trans (r95 ..)
/-- limelight/attr.at -/
def R96 (T : TT) (k : Nat) (x0a x0b x0c x0d x0e x0f x0g x1 : SVal) : Option Res :=
 if (oneS x1) = true then
 (T 134 [(weak x0g), (.fn 135 [(.rp [x1])])]).bind fun r1 =>
 some { r := r1.r }
 else none
theorem r96 (T : TT) (k : Nat) (x0a x0b x0c x0d x0e x0f x0g x1 : SVal) : bodyE P H T k 96 [(.agg [x0a, x0b, x0c, x0d, x0e, x0f, x0g]), x1] = R96 T k x0a x0b x0c x0d x0e x0f x0g x1 := by kernel_rfl
noncomputable def D96 (T : TT) (k : Nat) : List SVal → Option Res
  | [(.agg [x0a, x0b, x0c, x0d, x0e, x0f, x0g]), x1] => R96 T k x0a x0b x0c x0d x0e x0f x0g x1
  | a => bodyE P H T k 96 a
theorem d96 (T : TT) (k : Nat) (a : List SVal) : D96 T k a = bodyE P H T k 96 a := by
  unfold D96
  split
  · exact (r96 ..).symm
  · rfl
theorem t96 (k : Nat) (x0a x0b x0c x0d x0e x0f x0g x1 : SVal) : T (k + 1) 96 [(.agg [x0a, x0b, x0c, x0d, x0e, x0f, x0g]), x1] = R96 (T k) k x0a x0b x0c x0d x0e x0f x0g x1 := (tb k 96 _ rfl).trans (r96 ..)
/-- slices.IndexFunc[[]limelight/api.Shown,limelight/api.Shown] -/
def R97 (T : TT) (k : Nat) (x0 x1 : SVal) : Option Res :=
 (sLen x0).bind fun r1 =>
 loopN (fun s2 next2 =>
 (sBin .lss s2.k3 s2.k2).bind fun r3 =>
 pickC r3
 ((sIdx true 2 s2.k0 s2.k3).bind fun e4 =>
 (callV H T s2.k1 [(.agg [(SVal.cell e4 0), (SVal.cell e4 1)])]).bind fun y5 =>
 pickC y5
 (some { r := s2.k3 })
 ((sBin .add s2.k3 (.int .i64 1)).bind fun r6 =>
 next2 ⟨[(weak s2.k0), s2.k1, s2.k2, r6], [], false⟩))
 (some { r := (.int .i64 (-1)) })) k ⟨[(weak x0), x1, r1, (.int .i64 0)], [], false⟩
theorem r97 (T : TT) (k : Nat) (x0 x1 : SVal) : bodyE P H T k 97 [x0, x1] = R97 T k x0 x1 := by kernel_rfl
noncomputable def D97 (T : TT) (k : Nat) : List SVal → Option Res
  | [x0, x1] => R97 T k x0 x1
  | a => bodyE P H T k 97 a
theorem d97 (T : TT) (k : Nat) (a : List SVal) : D97 T k a = bodyE P H T k 97 a := by
  unfold D97
  split
  · exact (r97 ..).symm
  · rfl
theorem t97 (k : Nat) (x0 x1 : SVal) : T (k + 1) 97 [x0, x1] = R97 (T k) k x0 x1 := (tb k 97 _ rfl).trans (r97 ..)
/-- limelight/scopes.popup$1 -/
def R98 (T : TT) (k : Nat) (x0a x0b x1 : SVal) : Option Res :=
 (sBin .eql x0a x1).bind fun r1 =>
 some { r := r1 }
theorem r98 (T : TT) (k : Nat) (x0a x0b x1 : SVal) : bodyE P H T k 98 [(.agg [x0a, x0b]), (.rp [x1])] = R98 T k x0a x0b x1 := by kernel_rfl
noncomputable def D98 (T : TT) (k : Nat) : List SVal → Option Res
  | [(.agg [x0a, x0b]), (.rp [x1])] => R98 T k x0a x0b x1
  | a => bodyE P H T k 98 a
theorem d98 (T : TT) (k : Nat) (a : List SVal) : D98 T k a = bodyE P H T k 98 a := by
  unfold D98
  split
  · exact (r98 ..).symm
  · rfl
theorem t98 (k : Nat) (x0a x0b x1 : SVal) : T (k + 1) 98 [(.agg [x0a, x0b]), (.rp [x1])] = R98 (T k) k x0a x0b x1 := (tb k 98 _ rfl).trans (r98 ..)
/-- limelight/limelightref06.Kids -/
def R99 (T : TT) (k : Nat) (x0 x1 : SVal) : Option Res :=
 (sIdx true 7 x0 x1).bind fun e1 =>
 (sBin .eql (SVal.cell e1 0) (.int .i64 3)).bind fun r2 =>
 pickC r2
 (some { r := (.sl 1 false false []) })
 ((sIdx true 7 x0 x1).bind fun e3 =>
 (sBin .neq (SVal.cell e3 5) (.int .i64 (-1))).bind fun r4 =>
 pickC r4
 ((sIdx true 7 x0 x1).bind fun e5 =>
 (sIdx true 7 x0 (SVal.cell e5 5)).bind fun e6 =>
 some { r := (weak (SVal.cell e6 3)) })
 ((T 136 [(weak x0), x1]).bind fun r7 =>
 (sLen r7.r).bind fun r8 =>
 (sBin .gtr r8 (.int .i64 0)).bind fun r9 =>
 pickC r9
 (some { r := (weak r7.r) })
 ((sIdx true 7 x0 x1).bind fun e10 =>
 some { r := (weak (SVal.cell e10 3)) })))
theorem r99 (T : TT) (k : Nat) (x0 x1 : SVal) : bodyE P H T k 99 [x0, x1] = R99 T k x0 x1 := by kernel_rfl
theorem t99 (k : Nat) (x0 x1 : SVal) : T (k + 1) 99 [x0, x1] = R99 (T k) k x0 x1 := (tb k 99 _ rfl).trans (r99 ..)
/-- limelight/limelightref13.Disabled -/
def R100 (T : TT) (k : Nat) (x0 x1 : SVal) : Option Res :=
 ((sIdx true 7 x0 x1).bind fun e1 =>
 (sBin .eql (SVal.cell e1 1) (.int .i64 1)).bind fun r2 =>
 guardX r2 true
 ((T 131 [(weak x0), x1, (.int .i64 1)]).bind fun r3 =>
 (asB r3.r).bind fun b4 =>
 some [b4])
 (some [false])
 (none)).bind fun vs5 =>
 some { r := (.bool (vs5.getD 0 false)) }
theorem r100 (T : TT) (k : Nat) (x0 x1 : SVal) : bodyE P H T k 100 [x0, x1] = R100 T k x0 x1 := by kernel_rfl
theorem t100 (k : Nat) (x0 x1 : SVal) : T (k + 1) 100 [x0, x1] = R100 (T k) k x0 x1 := (tb k 100 _ rfl).trans (r100 ..)
/-- limelight/limelightref13.Delegates -/
def R101 (T : TT) (k : Nat) (x0 x1 : SVal) : Option Res :=
 ((sIdx true 7 x0 x1).bind fun e1 =>
 (sBin .neq (SVal.cell e1 5) (.int .i64 (-1))).bind fun r2 =>
 guardX r2 true
 ((sIdx true 7 x0 x1).bind fun e3 =>
 (T 131 [(weak x0), (SVal.cell e3 5), (.int .i64 7)]).bind fun r4 =>
 (asB r4.r).bind fun b5 =>
 some [b5])
 (some [false])
 (none)).bind fun vs6 =>
 some { r := (.bool (vs6.getD 0 false)) }
theorem r101 (T : TT) (k : Nat) (x0 x1 : SVal) : bodyE P H T k 101 [x0, x1] = R101 T k x0 x1 := by kernel_rfl
theorem t101 (k : Nat) (x0 x1 : SVal) : T (k + 1) 101 [x0, x1] = R101 (T k) k x0 x1 := (tb k 101 _ rfl).trans (r101 ..)
/-- limelight/limelightref11.Is -/
def R102 (T : TT) (k : Nat) (x0a x0b x0c x0d x0e x1 : SVal) : Option Res :=
 (T 30 [(weak x0a), x1]).bind fun r1 =>
 loopN (fun s2 next2 =>
 (sLen s2.k2).bind fun r3 =>
 (sBin .lss s2.k3 r3).bind fun r4 =>
 pickC r4
 ((sIdx false 1 s2.k2 s2.k3).bind fun e5 =>
 (T 137 [(.agg [(weak (SVal.cell s2.k1 0)), (weak (SVal.cell s2.k1 1)), (weak (SVal.cell s2.k1 2)), (weak (SVal.cell s2.k1 3)), (weak (SVal.cell s2.k1 4))]), e5]).bind fun r6 =>
 (sNot r6.r).bind fun r7 =>
 pickC r7
 (some { r := (.bool false) })
 ((sBin .add s2.k3 (.int .i64 1)).bind fun r8 =>
 next2 ⟨[s2.k0, (.rp [(SVal.cell s2.k1 0), (SVal.cell s2.k1 1), (SVal.cell s2.k1 2), (SVal.cell s2.k1 3), (SVal.cell s2.k1 4)]), (weak s2.k2), r8], [], false⟩))
 ((T 138 [(weak (SVal.cell s2.k1 0)), s2.k0]).bind fun r9 =>
 some { r := r9.r })) k ⟨[x1, (.rp [x0a, x0b, x0c, x0d, x0e]), (weak r1.r), (.int .i64 0)], [], false⟩
theorem r102 (T : TT) (k : Nat) (x0a x0b x0c x0d x0e x1 : SVal) : bodyE P H T k 102 [(.agg [x0a, x0b, x0c, x0d, x0e]), x1] = R102 T k x0a x0b x0c x0d x0e x1 := by kernel_rfl
theorem t102 (k : Nat) (x0a x0b x0c x0d x0e x1 : SVal) : T (k + 1) 102 [(.agg [x0a, x0b, x0c, x0d, x0e]), x1] = R102 (T k) k x0a x0b x0c x0d x0e x1 := (tb k 102 _ rfl).trans (r102 ..)
/-- limelight/limelightref12.Is -/
def R103 (T : TT) (k : Nat) (x0a x0b x0c x0d x0e x1 : SVal) : Option Res :=
 (T 139 [(.agg [(weak x0a), (weak x0b), (weak x0c), (weak x0d), (weak x0e)]), x1]).bind fun r1 =>
 pickC r1.r
 (some { r := (.bool true) })
 ((T 30 [(weak x0a), x1]).bind fun r2 =>
 (sLen r2.r).bind fun r3 =>
 (T 40 [(.agg [(weak x0a), (weak x0b), (weak x0c), (weak x0d), (weak x0e)])]).bind fun r4 =>
 (T 28 [(weak r2.r), r4.r]).bind fun r5 =>
 (sBin .geq r5.r (.int .i64 0)).bind fun r6 =>
 pickC r6
 ((sBin .add r5.r (.int .i64 1)).bind fun r7 =>
 loopN (fun s8 next8 =>
 (sBin .lss s8.k3 s8.k2).bind fun r9 =>
 pickC r9
 ((sIdx false 1 s8.k1 s8.k3).bind fun e10 =>
 (T 131 [(weak (SVal.cell s8.k0 0)), e10, (.int .i64 3)]).bind fun r11 =>
 pickC r11.r
 (some { r := (.bool true) })
 ((sBin .add s8.k3 (.int .i64 1)).bind fun r12 =>
 next8 ⟨[(.rp [(SVal.cell s8.k0 0), (SVal.cell s8.k0 1), (SVal.cell s8.k0 2), (SVal.cell s8.k0 3), (SVal.cell s8.k0 4)]), (weak s8.k1), s8.k2, r12], [], false⟩))
 (some { r := (.bool false) })) k ⟨[(.rp [x0a, x0b, x0c, x0d, x0e]), (weak r2.r), r7, (.int .i64 0)], [], false⟩)
 (loopN (fun s13 next13 =>
 (sBin .lss s13.k3 s13.k2).bind fun r14 =>
 pickC r14
 ((sIdx false 1 s13.k1 s13.k3).bind fun e15 =>
 (T 131 [(weak (SVal.cell s13.k0 0)), e15, (.int .i64 3)]).bind fun r16 =>
 pickC r16.r
 (some { r := (.bool true) })
 ((sBin .add s13.k3 (.int .i64 1)).bind fun r17 =>
 next13 ⟨[(.rp [(SVal.cell s13.k0 0), (SVal.cell s13.k0 1), (SVal.cell s13.k0 2), (SVal.cell s13.k0 3), (SVal.cell s13.k0 4)]), (weak s13.k1), s13.k2, r17], [], false⟩))
 (some { r := (.bool false) })) k ⟨[(.rp [x0a, x0b, x0c, x0d, x0e]), (weak r2.r), r3, (.int .i64 0)], [], false⟩))
theorem r103 (T : TT) (k : Nat) (x0a x0b x0c x0d x0e x1 : SVal) : bodyE P H T k 103 [(.agg [x0a, x0b, x0c, x0d, x0e]), x1] = R103 T k x0a x0b x0c x0d x0e x1 := by kernel_rfl
theorem t103 (k : Nat) (x0a x0b x0c x0d x0e x1 : SVal) : T (k + 1) 103 [(.agg [x0a, x0b, x0c, x0d, x0e]), x1] = R103 (T k) k x0a x0b x0c x0d x0e x1 := (tb k 103 _ rfl).trans (r103 ..)
/-- limelight/limelightref03.Top -/
def R104 (T : TT) (k : Nat) (x0 x1 : SVal) : Option Res :=
 (T 140 [(weak x0), x1]).bind fun r1 =>
 (sLen r1.r).bind fun r2 =>
 (sBin .sub r2 (.int .i64 1)).bind fun r3 =>
 (sIdx false 1 r1.r r3).bind fun e4 =>
 some { r := e4 }
theorem r104 (T : TT) (k : Nat) (x0 x1 : SVal) : bodyE P H T k 104 [x0, x1] = R104 T k x0 x1 := by kernel_rfl
theorem t104 (k : Nat) (x0 x1 : SVal) : T (k + 1) 104 [x0, x1] = R104 (T k) k x0 x1 := (tb k 104 _ rfl).trans (r104 ..)
/-- limelight/tree.Check -/
def R105 (T : TT) (k : Nat) (x0 : SVal) : Option Res :=
 (T 141 [(weak x0)]).bind fun r1 =>
 (sNot r1.r).bind fun r2 =>
 pickC r2
 (some { r := (.int .i64 1) })
 (some { r := (.int .i64 0) })
theorem r105 (T : TT) (k : Nat) (x0 : SVal) : bodyE P H T k 105 [x0] = R105 T k x0 := by kernel_rfl
noncomputable def D105 (T : TT) (k : Nat) : List SVal → Option Res
  | [x0] => R105 T k x0
  | a => bodyE P H T k 105 a
theorem d105 (T : TT) (k : Nat) (a : List SVal) : D105 T k a = bodyE P H T k 105 a := by
  unfold D105
  split
  · exact (r105 ..).symm
  · rfl
theorem t105 (k : Nat) (x0 : SVal) : T (k + 1) 105 [x0] = R105 (T k) k x0 := (tb k 105 _ rfl).trans (r105 ..)
/-- limelight/top.may -/
def R106 (T : TT) (k : Nat) (x0a x0b x0c x0d x0e : SVal) : Option Res :=
 if (oneS x0a) = true then
 if (List.all [[.v x0b], [.v x0c]] allOne) = true then
 (T 143 [(.sl 1 false false [x0b, x0c])]).bind fun r1 =>
 (T 142 [(weak r1.r), (.fn 144 [(.rp [x0a])])]).bind fun r2 =>
 (T 146 [(weak x0d), (.fn 147 [(.rp [x0a])])]).bind fun r3 =>
 (T 150 [(.agg [(weak x0a), (weak x0b), (weak x0c), (weak x0d), (weak x0e)])]).bind fun r4 =>
 (T 152 [(weak r4.r)]).bind fun r5 =>
 (T 151 [r5.r]).bind fun r6 =>
 ((sLen r2.r.c1).bind fun r7 =>
 (sBin .eql r7 (.int .i64 0)).bind fun r8 =>
 guardX r8 true
 ((sLen r3.r.c1).bind fun r9 =>
 (sBin .eql r9 (.int .i64 0)).bind fun r10 =>
 guardX r10 true
 (if (List.all [[.v x0b], [.v r4.r]] allOne) = true then
 (T 143 [(.sl 1 false false [x0b, r4.r])]).bind fun r11 =>
 (T 153 [(weak r11.r)]).bind fun r12 =>
 guardX r12.r true
 ((T 152 [(weak x0e)]).bind fun r13 =>
 (T 151 [r13.r]).bind fun r14 =>
 (T 154 [(weak r6.r), (weak r14.r)]).bind fun r15 =>
 (asB r15.r).bind fun b16 =>
 some [b16])
 (some [false])
 (none)
 else none)
 (some [false])
 (none))
 (some [false])
 (none)).bind fun vs17 =>
 some { r := (.bool (vs17.getD 0 false)) }
 else none
 else none
theorem r106 (T : TT) (k : Nat) (x0a x0b x0c x0d x0e : SVal) : bodyE P H T k 106 [(.agg [x0a, x0b, x0c, x0d, x0e])] = R106 T k x0a x0b x0c x0d x0e := by kernel_rfl
noncomputable def D106 (T : TT) (k : Nat) : List SVal → Option Res
  | [(.agg [x0a, x0b, x0c, x0d, x0e])] => R106 T k x0a x0b x0c x0d x0e
  | a => bodyE P H T k 106 a
theorem d106 (T : TT) (k : Nat) (a : List SVal) : D106 T k a = bodyE P H T k 106 a := by
  unfold D106
  split
  · exact (r106 ..).symm
  · rfl
theorem t106 (k : Nat) (x0a x0b x0c x0d x0e : SVal) : T (k + 1) 106 [(.agg [x0a, x0b, x0c, x0d, x0e])] = R106 (T k) k x0a x0b x0c x0d x0e := (tb k 106 _ rfl).trans (r106 ..)
/-- slices.AppendSeq[[]int,int] -/
def R107 (T : TT) (k : Nat) (x0 : List SVal) (x1 : SVal) : Option Res :=
 (callIt T x1).bind fun ys1 =>
 rangeN (fun s2 y2 next2 =>
 (notTup y2).bind fun z3 =>
 if (List.all [[.v z3]] allOne) = true then
 if (s2.k0.c0.xs.length + ([z3] : List SVal).length) * 8 ≤ maxAppend then
 next2 ⟨[(.mb [(.sl 1 true false (s2.k0.c0.xs ++ ([z3] : List SVal)))])], [], false⟩
 else none
 else none) (fun s4 =>
 some { r := (.sl 1 true false s4.k0.c0.xs) }) ys1 ⟨[(.mb [(.sl 1 true false x0)])], [], false⟩
theorem r107 (T : TT) (k : Nat) (x0 : List SVal) (x1 : SVal) : bodyE P H T k 107 [(.sl 1 true false x0), x1] = R107 T k x0 x1 := by kernel_rfl
noncomputable def D107 (T : TT) (k : Nat) : List SVal → Option Res
  | [(.sl 1 true false x0), x1] => R107 T k x0 x1
  | a => bodyE P H T k 107 a
theorem d107 (T : TT) (k : Nat) (a : List SVal) : D107 T k a = bodyE P H T k 107 a := by
  unfold D107
  split
  · exact (r107 ..).symm
  · rfl
theorem t107 (k : Nat) (x0 : List SVal) (x1 : SVal) : T (k + 1) 107 [(.sl 1 true false x0), x1] = R107 (T k) k x0 x1 := (tb k 107 _ rfl).trans (r107 ..)
/-- limelight/tabs.all$1 -/
def R108 (T : TT) (k : Nat) (x1a x1b x1c x1d x1e : SVal) : Option Res :=
 (T 109 [(.agg [(weak x1a), (weak x1b), (weak x1c), (weak x1d), (weak x1e)]), (.int .i64 0), .yld]).bind fun r1 =>
 both
 (some { r := (.tup []), out := ([] ++ r1.out) })
 (some { r := (.tup []) })
theorem r108 (T : TT) (k : Nat) (x1a x1b x1c x1d x1e : SVal) : bodyE P H T k 108 [.yld, (.rp [x1a, x1b, x1c, x1d, x1e])] = R108 T k x1a x1b x1c x1d x1e := by kernel_rfl
noncomputable def D108 (T : TT) (k : Nat) : List SVal → Option Res
  | [.yld, (.rp [x1a, x1b, x1c, x1d, x1e])] => R108 T k x1a x1b x1c x1d x1e
  | a => bodyE P H T k 108 a
theorem d108 (T : TT) (k : Nat) (a : List SVal) : D108 T k a = bodyE P H T k 108 a := by
  unfold D108
  split
  · exact (r108 ..).symm
  · rfl
theorem t108 (k : Nat) (x1a x1b x1c x1d x1e : SVal) : T (k + 1) 108 [.yld, (.rp [x1a, x1b, x1c, x1d, x1e])] = R108 (T k) k x1a x1b x1c x1d x1e := (tb k 108 _ rfl).trans (r108 ..)
/-- limelight/tabs.scope -/
def R109 (T : TT) (k : Nat) (x0a x0b x0c x0d x0e x1 : SVal) : Option Res :=
 (T 15 [(.agg [(weak x0a), (weak x0b), (weak x0c), (weak x0d), (weak x0e)]), x1]).bind fun r1 =>
 (sLen r1.r).bind fun r2 =>
 loopN (fun s3 next3 =>
 (sBin .lss s3.k4 s3.k3).bind fun r4 =>
 pickC r4
 ((sIdx false 1 s3.k2 s3.k4).bind fun e5 =>
 if (s3.stop) = true then none else
 (T 155 [(.agg [(weak (SVal.cell s3.k1 0)), (weak (SVal.cell s3.k1 1)), (weak (SVal.cell s3.k1 2)), (weak (SVal.cell s3.k1 3)), (weak (SVal.cell s3.k1 4))]), e5, .yld]).bind fun r6 =>
 both
 ((sNot r6.r).bind fun r7 =>
 pickC r7
 (if (s3.stop) = true then
 some { r := (.bool false) }
 else
 some { r := (.bool false), out := (s3.out ++ r6.out) })
 ((sLen (SVal.cell s3.k1 3)).bind fun r8 =>
 loopN (fun s9 next9 =>
 (sBin .lss s9.k8 s9.k7).bind fun r10 =>
 pickC r10
 ((sIdx true 2 s9.k6 s9.k8).bind fun e11 =>
 if (allOne [.v (SVal.cell e11 0), .v (SVal.cell e11 1)]) = true then
 (T 20 [(.agg [(weak (SVal.cell s9.k1 0)), (weak (SVal.cell s9.k1 1)), (weak (SVal.cell s9.k1 2)), (weak (SVal.cell s9.k1 3)), (weak (SVal.cell s9.k1 4))]), (SVal.cell e11 0)]).bind fun r12 =>
 (sBin .eql r12.r s9.k2).bind fun r13 =>
 guardX r13 true
 (if (s9.stop) = true then none else
 (T 155 [(.agg [(weak (SVal.cell s9.k1 0)), (weak (SVal.cell s9.k1 1)), (weak (SVal.cell s9.k1 2)), (weak (SVal.cell s9.k1 3)), (weak (SVal.cell s9.k1 4))]), (SVal.cell e11 0), .yld]).bind fun r14 =>
 both
 ((sNot r14.r).bind fun r15 =>
 pickC r15
 (if (s9.stop) = true then
 some { r := (.bool false) }
 else
 some { r := (.bool false), out := (s9.out ++ r14.out) })
 ((sBin .add s9.k8 (.int .i64 1)).bind fun r16 =>
 next9 ⟨[.yld, (.rp [(SVal.cell s9.k1 0), (SVal.cell s9.k1 1), (SVal.cell s9.k1 2), (SVal.cell s9.k1 3), (SVal.cell s9.k1 4)]), s9.k2, (weak s9.k3), s9.k4, s9.k5, (weak s9.k6), s9.k7, r16], (s9.out ++ r14.out), s9.stop⟩))
 (some { r := (.bool false) }))
 ((sBin .add s9.k8 (.int .i64 1)).bind fun r17 =>
 next9 ⟨[.yld, (.rp [(SVal.cell s9.k1 0), (SVal.cell s9.k1 1), (SVal.cell s9.k1 2), (SVal.cell s9.k1 3), (SVal.cell s9.k1 4)]), s9.k2, (weak s9.k3), s9.k4, s9.k5, (weak s9.k6), s9.k7, r17], s9.out, s9.stop⟩)
 (none)
 else none)
 ((sBin .add s9.k5 (.int .i64 1)).bind fun r18 =>
 next3 ⟨[.yld, (.rp [(SVal.cell s9.k1 0), (SVal.cell s9.k1 1), (SVal.cell s9.k1 2), (SVal.cell s9.k1 3), (SVal.cell s9.k1 4)]), (weak s9.k3), s9.k4, r18], s9.out, s9.stop⟩)) k ⟨[.yld, (.rp [(SVal.cell s3.k1 0), (SVal.cell s3.k1 1), (SVal.cell s3.k1 2), (SVal.cell s3.k1 3), (SVal.cell s3.k1 4)]), e5, (weak s3.k2), s3.k3, s3.k4, (weak (SVal.cell s3.k1 3)), r8, (.int .i64 0)], (s3.out ++ r6.out), s3.stop⟩))
 (some { r := (.bool false) }))
 (if (s3.stop) = true then
 none
 else
 some { r := (.bool true), out := s3.out })) k ⟨[.yld, (.rp [x0a, x0b, x0c, x0d, x0e]), (weak r1.r), r2, (.int .i64 0)], [], false⟩
theorem r109 (T : TT) (k : Nat) (x0a x0b x0c x0d x0e x1 : SVal) : bodyE P H T k 109 [(.agg [x0a, x0b, x0c, x0d, x0e]), x1, .yld] = R109 T k x0a x0b x0c x0d x0e x1 := by kernel_rfl
noncomputable def D109 (T : TT) (k : Nat) : List SVal → Option Res
  | [(.agg [x0a, x0b, x0c, x0d, x0e]), x1, .yld] => R109 T k x0a x0b x0c x0d x0e x1
  | a => bodyE P H T k 109 a
theorem d109 (T : TT) (k : Nat) (a : List SVal) : D109 T k a = bodyE P H T k 109 a := by
  unfold D109
  split
  · exact (r109 ..).symm
  · rfl
theorem t109 (k : Nat) (x0a x0b x0c x0d x0e x1 : SVal) : T (k + 1) 109 [(.agg [x0a, x0b, x0c, x0d, x0e]), x1, .yld] = R109 (T k) k x0a x0b x0c x0d x0e x1 := (tb k 109 _ rfl).trans (r109 ..)
/-- slices.Reverse[[]int,int] -/
def R111 (T : TT) (k : Nat) (x0 : List SVal) : Option Res :=
 (sBin .sub (.int .i64 (x0.length : Nat)) (.int .i64 1)).bind fun r1 =>
 loopN (fun s2 next2 =>
 (sBin .lss s2.k1 s2.k2).bind fun r3 =>
 pickC r3
 ((sIn s2.k0.xs.length s2.k2).bind fun j4 =>
 (s2.k0.xs[j4]?).bind fun e5 =>
 if (elemOk false 1 e5) = true then
 (sIn s2.k0.xs.length s2.k1).bind fun j6 =>
 (s2.k0.xs[j6]?).bind fun e7 =>
 if (elemOk false 1 e7) = true then
 (sIn s2.k0.xs.length s2.k1).bind fun j8 =>
 (s2.k0.xs[j8]?).bind fun e9 =>
 if (elemOk false 1 e9) = true then
 if (oneS e5) = true then
 (sIn (s2.k0.xs.set j8 e5).length s2.k2).bind fun j10 =>
 ((s2.k0.xs.set j8 e5)[j10]?).bind fun e11 =>
 if (elemOk false 1 e11) = true then
 if (oneS e7) = true then
 (sBin .add s2.k1 (.int .i64 1)).bind fun r12 =>
 (sBin .sub s2.k2 (.int .i64 1)).bind fun r13 =>
 next2 ⟨[(.sl 1 true false ((s2.k0.xs.set j8 e5).set j10 e7)), r12, r13], [], false⟩
 else none
 else none
 else none
 else none
 else none
 else none)
 (some { r := (.tup []), outs := [(.sl 1 true false s2.k0.xs)] })) k ⟨[(.sl 1 true false x0), (.int .i64 0), r1], [], false⟩
theorem r111 (T : TT) (k : Nat) (x0 : List SVal) : bodyE P H T k 111 [(.sl 1 true false x0)] = R111 T k x0 := by kernel_rfl
noncomputable def D111 (T : TT) (k : Nat) : List SVal → Option Res
  | [(.sl 1 true false x0)] => R111 T k x0
  | a => bodyE P H T k 111 a
theorem d111 (T : TT) (k : Nat) (a : List SVal) : D111 T k a = bodyE P H T k 111 a := by
  unfold D111
  split
  · exact (r111 ..).symm
  · rfl
theorem t111 (k : Nat) (x0 : List SVal) : T (k + 1) 111 [(.sl 1 true false x0)] = R111 (T k) k x0 := (tb k 111 _ rfl).trans (r111 ..)
/-- slices.Index[[]int,int] -/
def R112 (T : TT) (k : Nat) (x0 x1 : SVal) : Option Res :=
 (sLen x0).bind fun r1 =>
 loopN (fun s2 next2 =>
 (sBin .lss s2.k3 s2.k2).bind fun r3 =>
 pickC r3
 ((sIdx false 1 s2.k0 s2.k3).bind fun e4 =>
 (sBin .eql s2.k1 e4).bind fun r5 =>
 pickC r5
 (some { r := s2.k3 })
 ((sBin .add s2.k3 (.int .i64 1)).bind fun r6 =>
 next2 ⟨[(weak s2.k0), s2.k1, s2.k2, r6], [], false⟩))
 (some { r := (.int .i64 (-1)) })) k ⟨[(weak x0), x1, r1, (.int .i64 0)], [], false⟩
theorem r112 (T : TT) (k : Nat) (x0 x1 : SVal) : bodyE P H T k 112 [x0, x1] = R112 T k x0 x1 := by kernel_rfl
noncomputable def D112 (T : TT) (k : Nat) : List SVal → Option Res
  | [x0, x1] => R112 T k x0 x1
  | a => bodyE P H T k 112 a
theorem d112 (T : TT) (k : Nat) (a : List SVal) : D112 T k a = bodyE P H T k 112 a := by
  unfold D112
  split
  · exact (r112 ..).symm
  · rfl
theorem t112 (k : Nat) (x0 x1 : SVal) : T (k + 1) 112 [x0, x1] = R112 (T k) k x0 x1 := (tb k 112 _ rfl).trans (r112 ..)
/-- slices.IndexFunc[[]limelight/scopes.kind,limelight/scopes.kind] -/
def R113 (T : TT) (k : Nat) (x0 x1 : SVal) : Option Res :=
 (sLen x0).bind fun r1 =>
 loopN (fun s2 next2 =>
 (sBin .lss s2.k3 s2.k2).bind fun r3 =>
 pickC r3
 ((sIdx true 1 s2.k0 s2.k3).bind fun e4 =>
 (callV H T s2.k1 [(.agg [(SVal.cell e4 0)])]).bind fun y5 =>
 pickC y5
 (some { r := s2.k3 })
 ((sBin .add s2.k3 (.int .i64 1)).bind fun r6 =>
 next2 ⟨[(weak s2.k0), s2.k1, s2.k2, r6], [], false⟩))
 (some { r := (.int .i64 (-1)) })) k ⟨[(weak x0), x1, r1, (.int .i64 0)], [], false⟩
theorem r113 (T : TT) (k : Nat) (x0 x1 : SVal) : bodyE P H T k 113 [x0, x1] = R113 T k x0 x1 := by kernel_rfl
noncomputable def D113 (T : TT) (k : Nat) : List SVal → Option Res
  | [x0, x1] => R113 T k x0 x1
  | a => bodyE P H T k 113 a
theorem d113 (T : TT) (k : Nat) (a : List SVal) : D113 T k a = bodyE P H T k 113 a := by
  unfold D113
  split
  · exact (r113 ..).symm
  · rfl
theorem t113 (k : Nat) (x0 x1 : SVal) : T (k + 1) 113 [x0, x1] = R113 (T k) k x0 x1 := (tb k 113 _ rfl).trans (r113 ..)
/-- limelight/scopes.kinds$1 -/
def R114 (T : TT) (k : Nat) (x0a x0b x0c x0d x0e x1 : SVal) : Option Res :=
 (sBin .eql x1 (.int .i64 0)).bind fun r1 =>
 some { r := r1 }
theorem r114 (T : TT) (k : Nat) (x0a x0b x0c x0d x0e x1 : SVal) : bodyE P H T k 114 [(.agg [x0a, x0b, x0c, x0d, x0e]), x1] = R114 T k x0a x0b x0c x0d x0e x1 := by kernel_rfl
noncomputable def D114 (T : TT) (k : Nat) : List SVal → Option Res
  | [(.agg [x0a, x0b, x0c, x0d, x0e]), x1] => R114 T k x0a x0b x0c x0d x0e x1
  | a => bodyE P H T k 114 a
theorem d114 (T : TT) (k : Nat) (a : List SVal) : D114 T k a = bodyE P H T k 114 a := by
  unfold D114
  split
  · exact (r114 ..).symm
  · rfl
theorem t114 (k : Nat) (x0a x0b x0c x0d x0e x1 : SVal) : T (k + 1) 114 [(.agg [x0a, x0b, x0c, x0d, x0e]), x1] = R114 (T k) k x0a x0b x0c x0d x0e x1 := (tb k 114 _ rfl).trans (r114 ..)
/-- limelight/scopes.kinds$2 -/
def R115 (T : TT) (k : Nat) (x0a x0b x0c x0d x0e x1 : SVal) : Option Res :=
 (sIdx true 7 x0a x1).bind fun e1 =>
 (sBin .neq (SVal.cell e1 5) (.int .i64 (-1))).bind fun r2 =>
 some { r := r2 }
theorem r115 (T : TT) (k : Nat) (x0a x0b x0c x0d x0e x1 : SVal) : bodyE P H T k 115 [(.agg [x0a, x0b, x0c, x0d, x0e]), x1] = R115 T k x0a x0b x0c x0d x0e x1 := by kernel_rfl
noncomputable def D115 (T : TT) (k : Nat) : List SVal → Option Res
  | [(.agg [x0a, x0b, x0c, x0d, x0e]), x1] => R115 T k x0a x0b x0c x0d x0e x1
  | a => bodyE P H T k 115 a
theorem d115 (T : TT) (k : Nat) (a : List SVal) : D115 T k a = bodyE P H T k 115 a := by
  unfold D115
  split
  · exact (r115 ..).symm
  · rfl
theorem t115 (k : Nat) (x0a x0b x0c x0d x0e x1 : SVal) : T (k + 1) 115 [(.agg [x0a, x0b, x0c, x0d, x0e]), x1] = R115 (T k) k x0a x0b x0c x0d x0e x1 := (tb k 115 _ rfl).trans (r115 ..)
/-- limelight/scopes.kinds$3 -/
def R116 (T : TT) (k : Nat) (x0a x0b x0c x0d x0e x1 : SVal) : Option Res :=
 (sIdx true 7 x0a x1).bind fun e1 =>
 if (allOne [.v (SVal.cell e1 0), .v (SVal.cell e1 1), .v (SVal.cell e1 2), .v (SVal.cell e1 3), .v (SVal.cell e1 4), .v (SVal.cell e1 5), .v (SVal.cell e1 6)]) = true then
 ((sBin .eql (SVal.cell e1 0) (.int .i64 1)).bind fun r2 =>
 guardX r2 true
 ((sBin .eql (SVal.cell e1 1) (.int .i64 3)).bind fun r3 =>
 guardX r3 true
 ((T 117 [(weak x0a), x1]).bind fun r4 =>
 (sBin .neq r4.r (.int .i64 (-1))).bind fun r5 =>
 (asB r5).bind fun b6 =>
 some [b6])
 (some [false])
 (none))
 (some [false])
 (none)).bind fun vs7 =>
 some { r := (.bool (vs7.getD 0 false)) }
 else none
theorem r116 (T : TT) (k : Nat) (x0a x0b x0c x0d x0e x1 : SVal) : bodyE P H T k 116 [(.agg [x0a, x0b, x0c, x0d, x0e]), x1] = R116 T k x0a x0b x0c x0d x0e x1 := by kernel_rfl
noncomputable def D116 (T : TT) (k : Nat) : List SVal → Option Res
  | [(.agg [x0a, x0b, x0c, x0d, x0e]), x1] => R116 T k x0a x0b x0c x0d x0e x1
  | a => bodyE P H T k 116 a
theorem d116 (T : TT) (k : Nat) (a : List SVal) : D116 T k a = bodyE P H T k 116 a := by
  unfold D116
  split
  · exact (r116 ..).symm
  · rfl
theorem t116 (k : Nat) (x0a x0b x0c x0d x0e x1 : SVal) : T (k + 1) 116 [(.agg [x0a, x0b, x0c, x0d, x0e]), x1] = R116 (T k) k x0a x0b x0c x0d x0e x1 := (tb k 116 _ rfl).trans (r116 ..)
/-- limelight/shade.Host -/
def R117 (T : TT) (k : Nat) (x0 x1 : SVal) : Option Res :=
 (T 119 [(weak x0), x1]).bind fun r1 =>
 (sBin .eql r1.r (.int .i64 (-1))).bind fun r2 =>
 pickC r2
 (some { r := (.int .i64 (-1)) })
 ((sIdx true 7 x0 r1.r).bind fun e3 =>
 some { r := (SVal.cell e3 4) })
theorem r117 (T : TT) (k : Nat) (x0 x1 : SVal) : bodyE P H T k 117 [x0, x1] = R117 T k x0 x1 := by kernel_rfl
noncomputable def D117 (T : TT) (k : Nat) : List SVal → Option Res
  | [x0, x1] => R117 T k x0 x1
  | a => bodyE P H T k 117 a
theorem d117 (T : TT) (k : Nat) (a : List SVal) : D117 T k a = bodyE P H T k 117 a := by
  unfold D117
  split
  · exact (r117 ..).symm
  · rfl
theorem t117 (k : Nat) (x0 x1 : SVal) : T (k + 1) 117 [x0, x1] = R117 (T k) k x0 x1 := (tb k 117 _ rfl).trans (r117 ..)
/-- limelight/scopes.kinds$4 -/
def R118 (T : TT) (k : Nat) (x0a x0b x0c x0d x0e x1 : SVal) : Option Res :=
 (T 56 [(.agg [(weak x0a), (weak x0b), (weak x0c), (weak x0d), (weak x0e)]), x1]).bind fun r1 =>
 if (allOne [.v r1.r.c0.c0, .v r1.r.c0.c1]) = true then
 some { r := r1.r.c1 }
 else none
theorem r118 (T : TT) (k : Nat) (x0a x0b x0c x0d x0e x1 : SVal) : bodyE P H T k 118 [(.agg [x0a, x0b, x0c, x0d, x0e]), x1] = R118 T k x0a x0b x0c x0d x0e x1 := by kernel_rfl
noncomputable def D118 (T : TT) (k : Nat) : List SVal → Option Res
  | [(.agg [x0a, x0b, x0c, x0d, x0e]), x1] => R118 T k x0a x0b x0c x0d x0e x1
  | a => bodyE P H T k 118 a
theorem d118 (T : TT) (k : Nat) (a : List SVal) : D118 T k a = bodyE P H T k 118 a := by
  unfold D118
  split
  · exact (r118 ..).symm
  · rfl
theorem t118 (k : Nat) (x0a x0b x0c x0d x0e x1 : SVal) : T (k + 1) 118 [(.agg [x0a, x0b, x0c, x0d, x0e]), x1] = R118 (T k) k x0a x0b x0c x0d x0e x1 := (tb k 118 _ rfl).trans (r118 ..)
/-- limelight/order.Top -/
def R119 (T : TT) (k : Nat) (x0 x1 : SVal) : Option Res :=
 if (List.all [[.v x1]] allOne) = true then
 (T 156 [(weak x0), (.sl 1 false false [x1])]).bind fun r1 =>
 pickC r1.r
 ((T 157 [(weak x0), x1]).bind fun r2 =>
 (callIt T r2.r).bind fun ys3 =>
 rangeN (fun s4 y4 next4 =>
 (notTup y4).bind fun z5 =>
 if (oneS z5) = true then
 next4 ⟨[(.mb [z5])], [], false⟩
 else none) (fun s6 =>
 some { r := s6.k0.c0 }) ys3 ⟨[(.mb [(.int .i64 (-1))])], [], false⟩)
 (some { r := (.int .i64 (-1)) })
 else none
theorem r119 (T : TT) (k : Nat) (x0 x1 : SVal) : bodyE P H T k 119 [x0, x1] = R119 T k x0 x1 := by kernel_rfl
noncomputable def D119 (T : TT) (k : Nat) : List SVal → Option Res
  | [x0, x1] => R119 T k x0 x1
  | a => bodyE P H T k 119 a
theorem d119 (T : TT) (k : Nat) (a : List SVal) : D119 T k a = bodyE P H T k 119 a := by
  unfold D119
  split
  · exact (r119 ..).symm
  · rfl
theorem t119 (k : Nat) (x0 x1 : SVal) : T (k + 1) 119 [x0, x1] = R119 (T k) k x0 x1 := (tb k 119 _ rfl).trans (r119 ..)
/-- slices.Backward[[]int,int]$1 -/
def R120 (T : TT) (k : Nat) (x1 : SVal) : Option Res :=
 (sLen x1).bind fun r1 =>
 (sBin .sub r1 (.int .i64 1)).bind fun r2 =>
 loopN (fun s3 next3 =>
 (sBin .geq s3.k2 (.int .i64 0)).bind fun r4 =>
 pickC r4
 ((sIdx false 1 (SVal.cell s3.k1 0) s3.k2).bind fun e5 =>
 if (s3.stop) = true then none else
 both
 ((sBin .sub s3.k2 (.int .i64 1)).bind fun r6 =>
 next3 ⟨[.yld, (.rp [(SVal.cell s3.k1 0)]), r6], (s3.out ++ [(.tup [s3.k2, e5])]), s3.stop⟩)
 (some { r := (.tup []) }))
 (if (s3.stop) = true then
 some { r := (.tup []) }
 else
 some { r := (.tup []), out := s3.out })) k ⟨[.yld, (.rp [x1]), r2], [], false⟩
theorem r120 (T : TT) (k : Nat) (x1 : SVal) : bodyE P H T k 120 [.yld, (.rp [x1])] = R120 T k x1 := by kernel_rfl
noncomputable def D120 (T : TT) (k : Nat) : List SVal → Option Res
  | [.yld, (.rp [x1])] => R120 T k x1
  | a => bodyE P H T k 120 a
theorem d120 (T : TT) (k : Nat) (a : List SVal) : D120 T k a = bodyE P H T k 120 a := by
  unfold D120
  split
  · exact (r120 ..).symm
  · rfl
theorem t120 (k : Nat) (x1 : SVal) : T (k + 1) 120 [.yld, (.rp [x1])] = R120 (T k) k x1 := (tb k 120 _ rfl).trans (r120 ..)
/-- limelight/slots.Assigned -/
def R121 (T : TT) (k : Nat) (x0 x1 : SVal) : Option Res :=
 if (oneS x0) = true then
 if (oneS x1) = true then
 ((T 158 [(weak x0), x1]).bind fun r1 =>
 (sNot r1.r).bind fun r2 =>
 guardX r2 false
 ((T 159 [(weak x0), x1]).bind fun r3 =>
 (sNot r3.r).bind fun r4 =>
 (asB r4).bind fun b5 =>
 some [b5])
 (some [true])
 (none)).bind fun vs6 =>
 pickC (.bool (vs6.getD 0 false))
 (some { r := (.sl 1 false false []) })
 ((T 117 [(weak x0), x1]).bind fun r7 =>
 (sIdx true 7 x0 r7.r).bind fun e8 =>
 (T 110 [(weak (SVal.cell e8 3))]).bind fun r9 =>
 (T 160 [(.sl 1 true false r9.r.xs), (.fn 161 [(.rp [x0]), (.rp [x1])])]).bind fun r10 =>
 some { r := (.sl 1 false false r10.r.xs) })
 else none
 else none
theorem r121 (T : TT) (k : Nat) (x0 x1 : SVal) : bodyE P H T k 121 [x0, x1] = R121 T k x0 x1 := by kernel_rfl
noncomputable def D121 (T : TT) (k : Nat) : List SVal → Option Res
  | [x0, x1] => R121 T k x0 x1
  | a => bodyE P H T k 121 a
theorem d121 (T : TT) (k : Nat) (a : List SVal) : D121 T k a = bodyE P H T k 121 a := by
  unfold D121
  split
  · exact (r121 ..).symm
  · rfl
theorem t121 (k : Nat) (x0 x1 : SVal) : T (k + 1) 121 [x0, x1] = R121 (T k) k x0 x1 := (tb k 121 _ rfl).trans (r121 ..)
/-- limelight/area.of -/
def R122 (T : TT) (k : Nat) (x0 x1 : SVal) : Option Res :=
 if (1 ≤ 5 ∧ (oneS x0) = true) then
 if (6 ≤ 6 ∧ (oneS x1) = true) then
 (T 105 [(weak x0)]).bind fun r1 =>
 (sBin .eql r1.r (.int .i64 0)).bind fun r2 =>
 guardX r2 true
 ((sBin .geq x1 (.int .i64 0)).bind fun r3 =>
 guardX r3 true
 ((sLen x0).bind fun r4 =>
 (sBin .lss x1 r4).bind fun r5 =>
 if (allOne [.v x0, .v (.sl 1 false true []), .v (.sl 1 false true []), .v (.sl 2 false true []), .v (.sl 1 false true []), .v x1]) = true then
 some { r := (.tup [(.agg [(weak x0), (.sl 1 false false []), (.sl 1 false false []), (.sl 2 false false []), (.sl 1 false false []), x1]), r5]) }
 else none)
 (if (allOne [.v x0, .v (.sl 1 false true []), .v (.sl 1 false true []), .v (.sl 2 false true []), .v (.sl 1 false true []), .v x1]) = true then
 some { r := (.tup [(.agg [(weak x0), (.sl 1 false false []), (.sl 1 false false []), (.sl 2 false false []), (.sl 1 false false []), x1]), (.bool false)]) }
 else none)
 (none))
 (if (allOne [.v x0, .v (.sl 1 false true []), .v (.sl 1 false true []), .v (.sl 2 false true []), .v (.sl 1 false true []), .v x1]) = true then
 some { r := (.tup [(.agg [(weak x0), (.sl 1 false false []), (.sl 1 false false []), (.sl 2 false false []), (.sl 1 false false []), x1]), (.bool false)]) }
 else none)
 (none)
 else none
 else none
theorem r122 (T : TT) (k : Nat) (x0 x1 : SVal) : bodyE P H T k 122 [x0, x1] = R122 T k x0 x1 := by kernel_rfl
noncomputable def D122 (T : TT) (k : Nat) : List SVal → Option Res
  | [x0, x1] => R122 T k x0 x1
  | a => bodyE P H T k 122 a
theorem d122 (T : TT) (k : Nat) (a : List SVal) : D122 T k a = bodyE P H T k 122 a := by
  unfold D122
  split
  · exact (r122 ..).symm
  · rfl
theorem t122 (k : Nat) (x0 x1 : SVal) : T (k + 1) 122 [x0, x1] = R122 (T k) k x0 x1 := (tb k 122 _ rfl).trans (r122 ..)
/-- (limelight/area.node).index -/
def R123 (T : TT) (k : Nat) (x0a x0b x0c x0d x0e x0f : SVal) : Option Res :=
 (T 55 [(weak x0a), x0f, (.int .i64 0)]).bind fun r1 =>
 guardX r1.r.c1 false
 ((T 163 [(.agg [(weak x0a), (weak x0b), (weak x0c), (weak x0d), (weak x0e), x0f]), (.int .i64 1)]).bind fun r2 =>
 guardX r2.r false
 ((T 163 [(.agg [(weak x0a), (weak x0b), (weak x0c), (weak x0d), (weak x0e), x0f]), (.int .i64 4)]).bind fun r3 =>
 some { r := (.tup [r1.r.c0, r3.r]) })
 (some { r := (.tup [r1.r.c0, (.bool true)]) })
 (none))
 (some { r := (.tup [r1.r.c0, (.bool true)]) })
 (none)
theorem r123 (T : TT) (k : Nat) (x0a x0b x0c x0d x0e x0f : SVal) : bodyE P H T k 123 [(.agg [x0a, x0b, x0c, x0d, x0e, x0f])] = R123 T k x0a x0b x0c x0d x0e x0f := by kernel_rfl
noncomputable def D123 (T : TT) (k : Nat) : List SVal → Option Res
  | [(.agg [x0a, x0b, x0c, x0d, x0e, x0f])] => R123 T k x0a x0b x0c x0d x0e x0f
  | a => bodyE P H T k 123 a
theorem d123 (T : TT) (k : Nat) (a : List SVal) : D123 T k a = bodyE P H T k 123 a := by
  unfold D123
  split
  · exact (r123 ..).symm
  · rfl
theorem t123 (k : Nat) (x0a x0b x0c x0d x0e x0f : SVal) : T (k + 1) 123 [(.agg [x0a, x0b, x0c, x0d, x0e, x0f])] = R123 (T k) k x0a x0b x0c x0d x0e x0f := (tb k 123 _ rfl).trans (r123 ..)
/-- (limelight/area.node).is -/
def R124 (T : TT) (k : Nat) (x0a x0b x0c x0d x0e x0f : SVal) : Option Res :=
 (T 164 [(.sl 1 false false [(.bf 165 [(.agg [x0a, x0b, x0c, x0d, x0e, x0f])]), (.bf 166 [(.agg [x0a, x0b, x0c, x0d, x0e, x0f])]), (.bf 167 [(.agg [x0a, x0b, x0c, x0d, x0e, x0f])]), (.bf 168 [(.agg [x0a, x0b, x0c, x0d, x0e, x0f])]), (.bf 169 [(.agg [x0a, x0b, x0c, x0d, x0e, x0f])])]), (.fn 170 [])]).bind fun r1 =>
 (sNot r1.r).bind fun r2 =>
 some { r := r2 }
theorem r124 (T : TT) (k : Nat) (x0a x0b x0c x0d x0e x0f : SVal) : bodyE P H T k 124 [(.agg [x0a, x0b, x0c, x0d, x0e, x0f])] = R124 T k x0a x0b x0c x0d x0e x0f := by kernel_rfl
noncomputable def D124 (T : TT) (k : Nat) : List SVal → Option Res
  | [(.agg [x0a, x0b, x0c, x0d, x0e, x0f])] => R124 T k x0a x0b x0c x0d x0e x0f
  | a => bodyE P H T k 124 a
theorem d124 (T : TT) (k : Nat) (a : List SVal) : D124 T k a = bodyE P H T k 124 a := by
  unfold D124
  split
  · exact (r124 ..).symm
  · rfl
theorem t124 (k : Nat) (x0a x0b x0c x0d x0e x0f : SVal) : T (k + 1) 124 [(.agg [x0a, x0b, x0c, x0d, x0e, x0f])] = R124 (T k) k x0a x0b x0c x0d x0e x0f := (tb k 124 _ rfl).trans (r124 ..)
/-- slices.insertionSortCmpFunc[int] -/
def R125 (T : TT) (k : Nat) (x0 : List SVal) (x1 x2 x3 : SVal) : Option Res :=
 (sBin .add x1 (.int .i64 1)).bind fun r1 =>
 loopN (fun s2 next2 =>
 (sBin .lss s2.k4 s2.k2).bind fun r3 =>
 pickC r3
 (loopN (fun s4 next4 =>
 ((sBin .gtr s4.k5 s4.k1).bind fun r5 =>
 guardX r5 true
 ((sIn s4.k0.xs.length s4.k5).bind fun j6 =>
 (s4.k0.xs[j6]?).bind fun e7 =>
 if (elemOk false 1 e7) = true then
 (sBin .sub s4.k5 (.int .i64 1)).bind fun r8 =>
 (sIn s4.k0.xs.length r8).bind fun j9 =>
 (s4.k0.xs[j9]?).bind fun e10 =>
 if (elemOk false 1 e10) = true then
 (callV H T s4.k3 [e7, e10]).bind fun y11 =>
 (sBin .lss y11 (.int .i64 0)).bind fun r12 =>
 (asB r12).bind fun b13 =>
 some [b13]
 else none
 else none)
 (some [false])
 (none)).bind fun vs14 =>
 pickC (.bool (vs14.getD 0 false))
 ((sBin .sub s4.k5 (.int .i64 1)).bind fun r15 =>
 (sBin .sub s4.k5 (.int .i64 1)).bind fun r16 =>
 (sIn s4.k0.xs.length r16).bind fun j17 =>
 (s4.k0.xs[j17]?).bind fun e18 =>
 if (elemOk false 1 e18) = true then
 (sIn s4.k0.xs.length s4.k5).bind fun j19 =>
 (s4.k0.xs[j19]?).bind fun e20 =>
 if (elemOk false 1 e20) = true then
 (sIn s4.k0.xs.length s4.k5).bind fun j21 =>
 (s4.k0.xs[j21]?).bind fun e22 =>
 if (elemOk false 1 e22) = true then
 if (oneS e18) = true then
 (sIn (s4.k0.xs.set j21 e18).length r15).bind fun j23 =>
 ((s4.k0.xs.set j21 e18)[j23]?).bind fun e24 =>
 if (elemOk false 1 e24) = true then
 if (oneS e20) = true then
 (sBin .sub s4.k5 (.int .i64 1)).bind fun r25 =>
 next4 ⟨[(.sl 1 true false ((s4.k0.xs.set j21 e18).set j23 e20)), s4.k1, s4.k2, s4.k3, s4.k4, r25], [], false⟩
 else none
 else none
 else none
 else none
 else none
 else none)
 ((sBin .add s4.k4 (.int .i64 1)).bind fun r26 =>
 next2 ⟨[(.sl 1 true false s4.k0.xs), s4.k1, s4.k2, s4.k3, r26], [], false⟩)) k ⟨[(.sl 1 true false s2.k0.xs), s2.k1, s2.k2, s2.k3, s2.k4, s2.k4], [], false⟩)
 (some { r := (.tup []), outs := [(.sl 1 true false s2.k0.xs)] })) k ⟨[(.sl 1 true false x0), x1, x2, x3, r1], [], false⟩
theorem r125 (T : TT) (k : Nat) (x0 : List SVal) (x1 x2 x3 : SVal) : bodyE P H T k 125 [(.sl 1 true false x0), x1, x2, x3] = R125 T k x0 x1 x2 x3 := by kernel_rfl
noncomputable def D125 (T : TT) (k : Nat) : List SVal → Option Res
  | [(.sl 1 true false x0), x1, x2, x3] => R125 T k x0 x1 x2 x3
  | a => bodyE P H T k 125 a
theorem d125 (T : TT) (k : Nat) (a : List SVal) : D125 T k a = bodyE P H T k 125 a := by
  unfold D125
  split
  · exact (r125 ..).symm
  · rfl
theorem t125 (k : Nat) (x0 : List SVal) (x1 x2 x3 : SVal) : T (k + 1) 125 [(.sl 1 true false x0), x1, x2, x3] = R125 (T k) k x0 x1 x2 x3 := (tb k 125 _ rfl).trans (r125 ..)
/-- limelight/limelightref01.Attr -/
def R127 (T : TT) (k : Nat) (x0 x1a x1b : SVal) : Option Res :=
 ((sBin .lss x1a (.int .i64 0)).bind fun r1 =>
 guardX r1 false
 ((sBin .gtr x1a (.int .i64 9)).bind fun r2 =>
 guardX r2 false
 ((T 172 [x1a, x1b]).bind fun r3 =>
 (sNot r3.r).bind fun r4 =>
 (asB r4).bind fun b5 =>
 some [b5])
 (some [true])
 (none))
 (some [true])
 (none)).bind fun vs6 =>
 pickC (.bool (vs6.getD 0 false))
 (some { r := (.bool false) })
 ((sBin .eql x0 (.int .i64 3)).bind fun r7 =>
 pickC r7
 (((sBin .eql x1a (.int .i64 7)).bind fun r8 =>
 guardX r8 false
 ((sBin .eql x1a (.int .i64 8)).bind fun r9 =>
 (asB r9).bind fun b10 =>
 some [b10])
 (some [true])
 (none)).bind fun vs11 =>
 some { r := (.bool (vs11.getD 0 false)) })
 (((sBin .eql x0 (.int .i64 1)).bind fun r12 =>
 guardX r12 true
 ((sBin .neq x1a (.int .i64 7)).bind fun r13 =>
 guardX r13 true
 ((sBin .neq x1a (.int .i64 8)).bind fun r14 =>
 (asB r14).bind fun b15 =>
 some [b15])
 (some [false])
 (none))
 (some [false])
 (none)).bind fun vs16 =>
 some { r := (.bool (vs16.getD 0 false)) }))
theorem r127 (T : TT) (k : Nat) (x0 x1a x1b : SVal) : bodyE P H T k 127 [x0, (.agg [x1a, x1b])] = R127 T k x0 x1a x1b := by kernel_rfl
theorem t127 (k : Nat) (x0 x1a x1b : SVal) : T (k + 1) 127 [x0, (.agg [x1a, x1b])] = R127 (T k) k x0 x1a x1b := (tb k 127 _ rfl).trans (r127 ..)
/-- limelight/limelightref01.count -/
def R128 (T : TT) (k : Nat) (x0 x1 : SVal) : Option Res :=
 loopN (fun s1 next1 =>
 (sLen s1.k0).bind fun r2 =>
 (sBin .lss s1.k3 r2).bind fun r3 =>
 pickC r3
 ((sIdx false 1 s1.k0 s1.k3).bind fun e4 =>
 (sBin .eql e4 s1.k1).bind fun r5 =>
 pickC r5
 ((sBin .add s1.k2 (.int .i64 1)).bind fun r6 =>
 (sBin .add s1.k3 (.int .i64 1)).bind fun r7 =>
 next1 ⟨[(weak s1.k0), s1.k1, r6, r7], [], false⟩)
 ((sBin .add s1.k3 (.int .i64 1)).bind fun r8 =>
 next1 ⟨[(weak s1.k0), s1.k1, s1.k2, r8], [], false⟩))
 (some { r := s1.k2 })) k ⟨[(weak x0), x1, (.int .i64 0), (.int .i64 0)], [], false⟩
theorem r128 (T : TT) (k : Nat) (x0 x1 : SVal) : bodyE P H T k 128 [x0, x1] = R128 T k x0 x1 := by kernel_rfl
theorem t128 (k : Nat) (x0 x1 : SVal) : T (k + 1) 128 [x0, x1] = R128 (T k) k x0 x1 := (tb k 128 _ rfl).trans (r128 ..)
/-- limelight/limelightref01.Up -/
def R129 (T : TT) (k : Nat) (x0 x1 : SVal) : Option Res :=
 (sIdx true 7 x0 x1).bind fun e1 =>
 (sBin .eql (SVal.cell e1 0) (.int .i64 3)).bind fun r2 =>
 pickC r2
 ((sIdx true 7 x0 x1).bind fun e3 =>
 some { r := (SVal.cell e3 4) })
 ((sIdx true 7 x0 x1).bind fun e4 =>
 some { r := (SVal.cell e4 2) })
theorem r129 (T : TT) (k : Nat) (x0 x1 : SVal) : bodyE P H T k 129 [x0, x1] = R129 T k x0 x1 := by kernel_rfl
theorem t129 (k : Nat) (x0 x1 : SVal) : T (k + 1) 129 [x0, x1] = R129 (T k) k x0 x1 := (tb k 129 _ rfl).trans (r129 ..)
/-- limelight/limelightref04.Connected -/
def R130 (T : TT) (k : Nat) (x0 x1 : SVal) : Option Res :=
 (T 173 [(weak x0), (.int .i64 0), x1]).bind fun r1 =>
 some { r := r1.r }
theorem r130 (T : TT) (k : Nat) (x0 x1 : SVal) : bodyE P H T k 130 [x0, x1] = R130 T k x0 x1 := by kernel_rfl
theorem t130 (k : Nat) (x0 x1 : SVal) : T (k + 1) 130 [x0, x1] = R130 (T k) k x0 x1 := (tb k 130 _ rfl).trans (r130 ..)
/-- limelight/limelightref02.Has -/
def R131 (T : TT) (k : Nat) (x0 x1 x2 : SVal) : Option Res :=
 (T 60 [(weak x0), x1, x2]).bind fun r1 =>
 some { r := r1.r.c1 }
theorem r131 (T : TT) (k : Nat) (x0 x1 x2 : SVal) : bodyE P H T k 131 [x0, x1, x2] = R131 T k x0 x1 x2 := by kernel_rfl
theorem t131 (k : Nat) (x0 x1 x2 : SVal) : T (k + 1) 131 [x0, x1, x2] = R131 (T k) k x0 x1 x2 := (tb k 131 _ rfl).trans (r131 ..)
/-- limelight/flat.up$1 -/
def R132 (T : TT) (k : Nat) (x1 x2 : SVal) : Option Res :=
 loopN (fun s1 next1 =>
 (sBin .neq (SVal.cell s1.k1 0) (.int .i64 (-1))).bind fun r2 =>
 guardX r2 true
 (if (s1.stop) = true then none else
 (notTup (SVal.cell s1.k1 0)).bind fun y3 =>
 both
 ((T 133 [(weak (SVal.cell s1.k2 0)), (SVal.cell s1.k1 0)]).bind fun r4 =>
 if (oneS r4.r) = true then
 next1 ⟨[.yld, (.mb [r4.r]), (.rp [(SVal.cell s1.k2 0)])], (s1.out ++ [y3]), s1.stop⟩
 else none)
 (some { r := (.tup []) }))
 (if (s1.stop) = true then
 some { r := (.tup []) }
 else
 some { r := (.tup []), out := s1.out })
 (none)) k ⟨[.yld, (.mb [x1]), (.rp [x2])], [], false⟩
theorem r132 (T : TT) (k : Nat) (x1 x2 : SVal) : bodyE P H T k 132 [.yld, (.mb [x1]), (.rp [x2])] = R132 T k x1 x2 := by kernel_rfl
noncomputable def D132 (T : TT) (k : Nat) : List SVal → Option Res
  | [.yld, (.mb [x1]), (.rp [x2])] => R132 T k x1 x2
  | a => bodyE P H T k 132 a
theorem d132 (T : TT) (k : Nat) (a : List SVal) : D132 T k a = bodyE P H T k 132 a := by
  unfold D132
  split
  · exact (r132 ..).symm
  · rfl
theorem t132 (k : Nat) (x1 x2 : SVal) : T (k + 1) 132 [.yld, (.mb [x1]), (.rp [x2])] = R132 (T k) k x1 x2 := (tb k 132 _ rfl).trans (r132 ..)
/-- limelight/flat.Parent -/
def R133 (T : TT) (k : Nat) (x0 x1 : SVal) : Option Res :=
 (T 78 [(weak x0), x1]).bind fun r1 =>
 (sNot r1.r).bind fun r2 =>
 pickC r2
 (some { r := (.int .i64 (-1)) })
 ((T 174 [(weak x0), x1]).bind fun r3 =>
 ((sBin .neq r3.r (.int .i64 (-1))).bind fun r4 =>
 guardX r4 true
 ((T 80 [(weak x0), r3.r]).bind fun r5 =>
 (T 70 [(weak r5.r), x1]).bind fun r6 =>
 (asB r6.r).bind fun b7 =>
 some [b7])
 (some [false])
 (none)).bind fun vs8 =>
 pickC (.bool (vs8.getD 0 false))
 (some { r := r3.r })
 (some { r := (.int .i64 (-1)) }))
theorem r133 (T : TT) (k : Nat) (x0 x1 : SVal) : bodyE P H T k 133 [x0, x1] = R133 T k x0 x1 := by kernel_rfl
noncomputable def D133 (T : TT) (k : Nat) : List SVal → Option Res
  | [x0, x1] => R133 T k x0 x1
  | a => bodyE P H T k 133 a
theorem d133 (T : TT) (k : Nat) (a : List SVal) : D133 T k a = bodyE P H T k 133 a := by
  unfold D133
  split
  · exact (r133 ..).symm
  · rfl
theorem t133 (k : Nat) (x0 x1 : SVal) : T (k + 1) 133 [x0, x1] = R133 (T k) k x0 x1 := (tb k 133 _ rfl).trans (r133 ..)
end Go.Proofs.YtjcnilaogidhlaaGreat.K
