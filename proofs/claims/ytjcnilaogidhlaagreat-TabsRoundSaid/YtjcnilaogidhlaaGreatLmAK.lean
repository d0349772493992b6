/- What the evaluator makes of the functions, by program (wip/tr/resid.py); each equation is checked by the kernel. -/
import Derived.Test.YtjcnilaogidhlaaGreatLmAJ
import Derived.Test.YtjcnilaogidhlaaGreatLmAB
import Derived.KernelRfl
set_option linter.unusedVariables false
set_option linter.unusedSimpArgs false
set_option linter.unnecessarySimpa false
set_option linter.all false
set_option maxRecDepth 100000
namespace Go.Proofs.YtjcnilaogidhlaaGreat.K
open Go Go.Lm
/-- limelight/limelightlaw17.TabsTell -/
def R8 (T : TT) (k : Nat) (x0a x0b x0c x0d x0e x1 : SVal) : Option Res :=
 ((T 13 [(.agg [(weak x0a), (weak x0b), (weak x0c), (weak x0d), (weak x0e)])]).bind fun r1 =>
 (sNot r1.r).bind fun r2 =>
 guardX r2 false
 ((sLen x0a).bind fun r3 =>
 (sBin .gtr r3 (.int .i64 12)).bind fun r4 =>
 (asB r4).bind fun b5 =>
 some [b5])
 (some [true])
 (none)).bind fun vs6 =>
 pickC (.bool (vs6.getD 0 false))
 ((T 34 []).bind fun r7 =>
 some { r := r7.r })
 ((T 35 [(.agg [(weak x0a), (weak x0b), (weak x0c), (weak x0d), (weak x0e)])]).bind fun r8 =>
 (T 36 [(.agg [(weak x0a), (weak x0b), (weak x0c), (weak x0d), (weak x0e)]), x1, (.bool false)]).bind fun r9 =>
 (T 36 [(.agg [(weak x0a), (weak x0b), (weak x0c), (weak x0d), (weak x0e)]), x1, (.bool true)]).bind fun r10 =>
 (T 16 [(.agg [(weak x0a), (weak x0b), (weak x0c), (weak x0d), (weak x0e)])]).bind fun r11 =>
 (sBin .neq r11.r (.int .i64 0)).bind fun r12 =>
 pickC r12
 (((sLen r8.r).bind fun r13 =>
 (sBin .eql r13 (.int .i64 0)).bind fun r14 =>
 guardX r14 true
 ((sBin .eql r9.r (.int .i64 (-1))).bind fun r15 =>
 guardX r15 true
 ((sBin .eql r10.r (.int .i64 (-1))).bind fun r16 =>
 guardX r16 true
 ((T 34 []).bind fun r17 =>
 (asB r17.r).bind fun b18 =>
 some [b18])
 (some [false])
 (none))
 (some [false])
 (none))
 (some [false])
 (none)).bind fun vs19 =>
 some { r := (.bool (vs19.getD 0 false)) })
 ((T 17 [(weak x0a), x1]).bind fun r20 =>
 (sNot r20.r).bind fun r21 =>
 pickC r21
 (((sBin .eql r9.r (.int .i64 (-1))).bind fun r22 =>
 guardX r22 true
 ((sBin .eql r10.r (.int .i64 (-1))).bind fun r23 =>
 guardX r23 true
 ((T 34 []).bind fun r24 =>
 (asB r24.r).bind fun b25 =>
 some [b25])
 (some [false])
 (none))
 (some [false])
 (none)).bind fun vs26 =>
 some { r := (.bool (vs26.getD 0 false)) })
 (((T 37 [(.agg [(weak x0a), (weak x0b), (weak x0c), (weak x0d), (weak x0e)])]).bind fun r27 =>
 (T 21 [(weak r8.r), (weak r27.r)]).bind fun r28 =>
 guardX r28.r true
 ((T 38 [(.agg [(weak x0a), (weak x0b), (weak x0c), (weak x0d), (weak x0e)]), x1, (.bool false)]).bind fun r29 =>
 (sBin .eql r9.r r29.r).bind fun r30 =>
 guardX r30 true
 ((T 38 [(.agg [(weak x0a), (weak x0b), (weak x0c), (weak x0d), (weak x0e)]), x1, (.bool true)]).bind fun r31 =>
 (sBin .eql r10.r r31.r).bind fun r32 =>
 guardX r32 true
 ((T 34 []).bind fun r33 =>
 (asB r33.r).bind fun b34 =>
 some [b34])
 (some [false])
 (none))
 (some [false])
 (none))
 (some [false])
 (none)).bind fun vs35 =>
 some { r := (.bool (vs35.getD 0 false)) })))
theorem r8 (T : TT) (k : Nat) (x0a x0b x0c x0d x0e x1 : SVal) : bodyE P H T k 8 [(.agg [x0a, x0b, x0c, x0d, x0e]), x1] = R8 T k x0a x0b x0c x0d x0e x1 := by kernel_rfl
theorem t8 (k : Nat) (x0a x0b x0c x0d x0e x1 : SVal) : T (k + 1) 8 [(.agg [x0a, x0b, x0c, x0d, x0e]), x1] = R8 (T k) k x0a x0b x0c x0d x0e x1 := (tb k 8 _ rfl).trans (r8 ..)
/-- limelight/limelightlaw17.TabsRound -/
def R9 (T : TT) (k : Nat) (x0a x0b x0c x0d x0e : SVal) : Option Res :=
 ((T 13 [(.agg [(weak x0a), (weak x0b), (weak x0c), (weak x0d), (weak x0e)])]).bind fun r1 =>
 (sNot r1.r).bind fun r2 =>
 guardX r2 false
 ((sLen x0a).bind fun r3 =>
 (sBin .gtr r3 (.int .i64 12)).bind fun r4 =>
 guardX r4 false
 ((T 16 [(.agg [(weak x0a), (weak x0b), (weak x0c), (weak x0d), (weak x0e)])]).bind fun r5 =>
 (sBin .neq r5.r (.int .i64 0)).bind fun r6 =>
 (asB r6).bind fun b7 =>
 some [b7])
 (some [true])
 (none))
 (some [true])
 (none)).bind fun vs8 =>
 pickC (.bool (vs8.getD 0 false))
 ((T 34 []).bind fun r9 =>
 some { r := r9.r })
 ((T 35 [(.agg [(weak x0a), (weak x0b), (weak x0c), (weak x0d), (weak x0e)])]).bind fun r10 =>
 loopN (fun s11 next11 =>
 (sLen s11.k1).bind fun r12 =>
 (sBin .lss s11.k3 r12).bind fun r13 =>
 pickC r13
 (((sIdx false 1 s11.k1 s11.k3).bind fun e14 =>
 (T 28 [(weak s11.k1), e14]).bind fun r15 =>
 (sBin .neq r15.r s11.k3).bind fun r16 =>
 guardX r16 false
 ((sIdx false 1 s11.k1 s11.k3).bind fun e17 =>
 (T 17 [(weak (SVal.cell s11.k0 0)), e17]).bind fun r18 =>
 (sNot r18.r).bind fun r19 =>
 guardX r19 false
 ((sIdx false 1 s11.k1 s11.k3).bind fun e20 =>
 (T 29 [(.agg [(weak (SVal.cell s11.k0 0)), (weak (SVal.cell s11.k0 1)), (weak (SVal.cell s11.k0 2)), (weak (SVal.cell s11.k0 3)), (weak (SVal.cell s11.k0 4))]), e20]).bind fun r21 =>
 (sNot r21.r).bind fun r22 =>
 (asB r22).bind fun b23 =>
 some [b23])
 (some [true])
 (none))
 (some [true])
 (none)).bind fun vs24 =>
 pickC (.bool (vs24.getD 0 false))
 (some { r := (.bool false) })
 ((T 36 [(.agg [(weak (SVal.cell s11.k0 0)), (weak (SVal.cell s11.k0 1)), (weak (SVal.cell s11.k0 2)), (weak (SVal.cell s11.k0 3)), (weak (SVal.cell s11.k0 4))]), s11.k2, (.bool false)]).bind fun r25 =>
 (sIdx false 1 s11.k1 s11.k3).bind fun e26 =>
 (sBin .neq r25.r e26).bind fun r27 =>
 pickC r27
 (some { r := (.bool false) })
 ((sBin .add s11.k3 (.int .i64 1)).bind fun r28 =>
 next11 ⟨[(.rp [(SVal.cell s11.k0 0), (SVal.cell s11.k0 1), (SVal.cell s11.k0 2), (SVal.cell s11.k0 3), (SVal.cell s11.k0 4)]), (weak s11.k1), r25.r, r28], [], false⟩)))
 (((sLen s11.k1).bind fun r29 =>
 (sBin .gtr r29 (.int .i64 0)).bind fun r30 =>
 guardX r30 true
 ((T 36 [(.agg [(weak (SVal.cell s11.k0 0)), (weak (SVal.cell s11.k0 1)), (weak (SVal.cell s11.k0 2)), (weak (SVal.cell s11.k0 3)), (weak (SVal.cell s11.k0 4))]), s11.k2, (.bool false)]).bind fun r31 =>
 (sBin .neq r31.r (.int .i64 0)).bind fun r32 =>
 (asB r32).bind fun b33 =>
 some [b33])
 (some [false])
 (none)).bind fun vs34 =>
 pickC (.bool (vs34.getD 0 false))
 (some { r := (.bool false) })
 ((sLen s11.k1).bind fun r35 =>
 (sBin .sub r35 (.int .i64 1)).bind fun r36 =>
 loopN (fun s37 next37 =>
 (sBin .geq s37.k3 (.int .i64 0)).bind fun r38 =>
 pickC r38
 ((T 36 [(.agg [(weak (SVal.cell s37.k0 0)), (weak (SVal.cell s37.k0 1)), (weak (SVal.cell s37.k0 2)), (weak (SVal.cell s37.k0 3)), (weak (SVal.cell s37.k0 4))]), s37.k2, (.bool true)]).bind fun r39 =>
 (sIdx false 1 s37.k1 s37.k3).bind fun e40 =>
 (sBin .neq r39.r e40).bind fun r41 =>
 pickC r41
 (some { r := (.bool false) })
 ((sBin .sub s37.k3 (.int .i64 1)).bind fun r42 =>
 next37 ⟨[(.rp [(SVal.cell s37.k0 0), (SVal.cell s37.k0 1), (SVal.cell s37.k0 2), (SVal.cell s37.k0 3), (SVal.cell s37.k0 4)]), (weak s37.k1), r39.r, r42], [], false⟩))
 (((T 36 [(.agg [(weak (SVal.cell s37.k0 0)), (weak (SVal.cell s37.k0 1)), (weak (SVal.cell s37.k0 2)), (weak (SVal.cell s37.k0 3)), (weak (SVal.cell s37.k0 4))]), s37.k2, (.bool true)]).bind fun r43 =>
 (sBin .eql r43.r (.int .i64 0)).bind fun r44 =>
 guardX r44 true
 ((T 34 []).bind fun r45 =>
 (asB r45.r).bind fun b46 =>
 some [b46])
 (some [false])
 (none)).bind fun vs47 =>
 some { r := (.bool (vs47.getD 0 false)) })) k ⟨[(.rp [(SVal.cell s11.k0 0), (SVal.cell s11.k0 1), (SVal.cell s11.k0 2), (SVal.cell s11.k0 3), (SVal.cell s11.k0 4)]), (weak s11.k1), (.int .i64 0), r36], [], false⟩))) k ⟨[(.rp [x0a, x0b, x0c, x0d, x0e]), (weak r10.r), (.int .i64 0), (.int .i64 0)], [], false⟩)
theorem r9 (T : TT) (k : Nat) (x0a x0b x0c x0d x0e : SVal) : bodyE P H T k 9 [(.agg [x0a, x0b, x0c, x0d, x0e])] = R9 T k x0a x0b x0c x0d x0e := by kernel_rfl
theorem t9 (k : Nat) (x0a x0b x0c x0d x0e : SVal) : T (k + 1) 9 [(.agg [x0a, x0b, x0c, x0d, x0e])] = R9 (T k) k x0a x0b x0c x0d x0e := (tb k 9 _ rfl).trans (r9 ..)
/-- limelight/limelightlaw17.TabsBack -/
def R10 (T : TT) (k : Nat) (x0a x0b x0c x0d x0e x1 x2 : SVal) : Option Res :=
 ((T 13 [(.agg [(weak x0a), (weak x0b), (weak x0c), (weak x0d), (weak x0e)])]).bind fun r1 =>
 (sNot r1.r).bind fun r2 =>
 guardX r2 false
 ((sLen x0a).bind fun r3 =>
 (sBin .gtr r3 (.int .i64 12)).bind fun r4 =>
 guardX r4 false
 ((T 16 [(.agg [(weak x0a), (weak x0b), (weak x0c), (weak x0d), (weak x0e)])]).bind fun r5 =>
 (sBin .neq r5.r (.int .i64 0)).bind fun r6 =>
 (asB r6).bind fun b7 =>
 some [b7])
 (some [true])
 (none))
 (some [true])
 (none)).bind fun vs8 =>
 pickC (.bool (vs8.getD 0 false))
 ((T 34 []).bind fun r9 =>
 some { r := r9.r })
 ((T 35 [(.agg [(weak x0a), (weak x0b), (weak x0c), (weak x0d), (weak x0e)])]).bind fun r10 =>
 (T 36 [(.agg [(weak x0a), (weak x0b), (weak x0c), (weak x0d), (weak x0e)]), x1, x2]).bind fun r11 =>
 ((T 27 [(weak r10.r), x1]).bind fun r12 =>
 if isSc1 r12.r = true then
 (sNot r12.r).bind fun r13 =>
 guardX r13 false
 ((sBin .eql r11.r (.int .i64 0)).bind fun r14 =>
 (asB r14).bind fun b15 =>
 some [b15])
 (some [true])
 (none)
 else none).bind fun vs16 =>
 pickC (.bool (vs16.getD 0 false))
 ((T 34 []).bind fun r17 =>
 some { r := r17.r })
 (((T 27 [(weak r10.r), r11.r]).bind fun r18 =>
 if isSc1 r18.r = true then
 guardX r18.r true
 ((sNot x2).bind fun r19 =>
 (T 36 [(.agg [(weak x0a), (weak x0b), (weak x0c), (weak x0d), (weak x0e)]), r11.r, r19]).bind fun r20 =>
 (sBin .eql r20.r x1).bind fun r21 =>
 guardX r21 true
 ((T 34 []).bind fun r22 =>
 (asB r22.r).bind fun b23 =>
 some [b23])
 (some [false])
 (none))
 (some [false])
 (none)
 else none).bind fun vs24 =>
 some { r := (.bool (vs24.getD 0 false)) }))
theorem r10 (T : TT) (k : Nat) (x0a x0b x0c x0d x0e x1 x2 : SVal) : bodyE P H T k 10 [(.agg [x0a, x0b, x0c, x0d, x0e]), x1, x2] = R10 T k x0a x0b x0c x0d x0e x1 x2 := by kernel_rfl
theorem t10 (k : Nat) (x0a x0b x0c x0d x0e x1 x2 : SVal) : T (k + 1) 10 [(.agg [x0a, x0b, x0c, x0d, x0e]), x1, x2] = R10 (T k) k x0a x0b x0c x0d x0e x1 x2 := (tb k 10 _ rfl).trans (r10 ..)
/-- limelight/limelightlaw17.TabsPlain -/
def R11 (T : TT) (k : Nat) (x0a x0b x0c x0d x0e : SVal) : Option Res :=
 ((T 13 [(.agg [(weak x0a), (weak x0b), (weak x0c), (weak x0d), (weak x0e)])]).bind fun r1 =>
 (sNot r1.r).bind fun r2 =>
 guardX r2 false
 ((sLen x0a).bind fun r3 =>
 (sBin .gtr r3 (.int .i64 12)).bind fun r4 =>
 guardX r4 false
 ((T 16 [(.agg [(weak x0a), (weak x0b), (weak x0c), (weak x0d), (weak x0e)])]).bind fun r5 =>
 (sBin .neq r5.r (.int .i64 0)).bind fun r6 =>
 guardX r6 false
 ((sLen x0d).bind fun r7 =>
 (sBin .gtr r7 (.int .i64 0)).bind fun r8 =>
 (asB r8).bind fun b9 =>
 some [b9])
 (some [true])
 (none))
 (some [true])
 (none))
 (some [true])
 (none)).bind fun vs10 =>
 pickC (.bool (vs10.getD 0 false))
 ((T 34 []).bind fun r11 =>
 some { r := r11.r })
 (loopN (fun s12 next12 =>
 (sLen (SVal.cell s12.k0 0)).bind fun r13 =>
 (sBin .lss s12.k1 r13).bind fun r14 =>
 pickC r14
 ((T 39 [(weak (SVal.cell s12.k0 0)), s12.k1]).bind fun r15 =>
 ((sIdx true 7 (SVal.cell s12.k0 0) s12.k1).bind fun e16 =>
 (sBin .eql (SVal.cell e16 0) (.int .i64 3)).bind fun r17 =>
 guardX r17 false
 ((sBin .gtr r15.r.c0 (.int .i64 0)).bind fun r18 =>
 (asB r18).bind fun b19 =>
 some [b19])
 (some [true])
 (none)).bind fun vs20 =>
 pickC (.bool (vs20.getD 0 false))
 ((T 34 []).bind fun r21 =>
 some { r := r21.r })
 ((sBin .add s12.k1 (.int .i64 1)).bind fun r22 =>
 next12 ⟨[(.rp [(SVal.cell s12.k0 0), (SVal.cell s12.k0 1), (SVal.cell s12.k0 2), (SVal.cell s12.k0 3), (SVal.cell s12.k0 4)]), r22], [], false⟩))
 ((T 26 [(weak (SVal.cell s12.k0 0))]).bind fun r23 =>
 loopN (fun s24 next24 =>
 (sLen s24.k2).bind fun r25 =>
 (sBin .lss s24.k3 r25).bind fun r26 =>
 pickC r26
 ((sIdx false 1 s24.k2 s24.k3).bind fun e27 =>
 (T 29 [(.agg [(weak (SVal.cell s24.k0 0)), (weak (SVal.cell s24.k0 1)), (weak (SVal.cell s24.k0 2)), (weak (SVal.cell s24.k0 3)), (weak (SVal.cell s24.k0 4))]), e27]).bind fun r28 =>
 pickC r28.r
 ((sIdx false 1 s24.k2 s24.k3).bind fun e29 =>
 if (List.all [[.v e29]] allOne) = true then
 if (s24.k1.xs.length + ([e29] : List SVal).length) * 8 ≤ maxAppend then
 (sBin .add s24.k3 (.int .i64 1)).bind fun r30 =>
 next24 ⟨[(.rp [(SVal.cell s24.k0 0), (SVal.cell s24.k0 1), (SVal.cell s24.k0 2), (SVal.cell s24.k0 3), (SVal.cell s24.k0 4)]), (.sl 1 true false (s24.k1.xs ++ ([e29] : List SVal))), (weak s24.k2), r30], [], false⟩
 else none
 else none)
 ((sBin .add s24.k3 (.int .i64 1)).bind fun r31 =>
 next24 ⟨[(.rp [(SVal.cell s24.k0 0), (SVal.cell s24.k0 1), (SVal.cell s24.k0 2), (SVal.cell s24.k0 3), (SVal.cell s24.k0 4)]), (.sl 1 true false s24.k1.xs), (weak s24.k2), r31], [], false⟩))
 (((T 35 [(.agg [(weak (SVal.cell s24.k0 0)), (weak (SVal.cell s24.k0 1)), (weak (SVal.cell s24.k0 2)), (weak (SVal.cell s24.k0 3)), (weak (SVal.cell s24.k0 4))])]).bind fun r32 =>
 (T 21 [(weak r32.r), (.sl 1 false false s24.k1.xs)]).bind fun r33 =>
 guardX r33.r true
 ((T 34 []).bind fun r34 =>
 (asB r34.r).bind fun b35 =>
 some [b35])
 (some [false])
 (none)).bind fun vs36 =>
 some { r := (.bool (vs36.getD 0 false)) })) k ⟨[(.rp [(SVal.cell s12.k0 0), (SVal.cell s12.k0 1), (SVal.cell s12.k0 2), (SVal.cell s12.k0 3), (SVal.cell s12.k0 4)]), (.sl 1 true false []), (weak r23.r), (.int .i64 0)], [], false⟩)) k ⟨[(.rp [x0a, x0b, x0c, x0d, x0e]), (.int .i64 0)], [], false⟩)
theorem r11 (T : TT) (k : Nat) (x0a x0b x0c x0d x0e : SVal) : bodyE P H T k 11 [(.agg [x0a, x0b, x0c, x0d, x0e])] = R11 T k x0a x0b x0c x0d x0e := by kernel_rfl
theorem t11 (k : Nat) (x0a x0b x0c x0d x0e : SVal) : T (k + 1) 11 [(.agg [x0a, x0b, x0c, x0d, x0e])] = R11 (T k) k x0a x0b x0c x0d x0e := (tb k 11 _ rfl).trans (r11 ..)
/-- limelight/limelightlaw17.TabsReach -/
def R12 (T : TT) (k : Nat) (x0a x0b x0c x0d x0e : SVal) : Option Res :=
 ((T 13 [(.agg [(weak x0a), (weak x0b), (weak x0c), (weak x0d), (weak x0e)])]).bind fun r1 =>
 (sNot r1.r).bind fun r2 =>
 guardX r2 false
 ((sLen x0a).bind fun r3 =>
 (sBin .gtr r3 (.int .i64 12)).bind fun r4 =>
 guardX r4 false
 ((T 16 [(.agg [(weak x0a), (weak x0b), (weak x0c), (weak x0d), (weak x0e)])]).bind fun r5 =>
 (sBin .neq r5.r (.int .i64 0)).bind fun r6 =>
 (asB r6).bind fun b7 =>
 some [b7])
 (some [true])
 (none))
 (some [true])
 (none)).bind fun vs8 =>
 pickC (.bool (vs8.getD 0 false))
 ((T 34 []).bind fun r9 =>
 some { r := r9.r })
 ((T 35 [(.agg [(weak x0a), (weak x0b), (weak x0c), (weak x0d), (weak x0e)])]).bind fun r10 =>
 (T 40 [(.agg [(weak x0a), (weak x0b), (weak x0c), (weak x0d), (weak x0e)])]).bind fun r11 =>
 loopN (fun s12 next12 =>
 (sLen s12.k1).bind fun r13 =>
 (sBin .lss s12.k3 r13).bind fun r14 =>
 pickC r14
 (((sBin .neq s12.k2 (.int .i64 (-1))).bind fun r15 =>
 guardX r15 true
 ((sIdx false 1 s12.k1 s12.k3).bind fun e16 =>
 (T 33 [(weak (SVal.cell s12.k0 0)), s12.k2, e16]).bind fun r17 =>
 (sNot r17.r).bind fun r18 =>
 (asB r18).bind fun b19 =>
 some [b19])
 (some [false])
 (none)).bind fun vs20 =>
 pickC (.bool (vs20.getD 0 false))
 (some { r := (.bool false) })
 ((sBin .add s12.k3 (.int .i64 1)).bind fun r21 =>
 next12 ⟨[(.rp [(SVal.cell s12.k0 0), (SVal.cell s12.k0 1), (SVal.cell s12.k0 2), (SVal.cell s12.k0 3), (SVal.cell s12.k0 4)]), (weak s12.k1), s12.k2, r21], [], false⟩))
 (loopN (fun s22 next22 =>
 ((sLen (SVal.cell s22.k0 0)).bind fun r23 =>
 (sBin .lss s22.k2 r23).bind fun r24 =>
 guardX r24 true
 ((sLen (SVal.cell s22.k0 3)).bind fun r25 =>
 (sBin .eql r25 (.int .i64 0)).bind fun r26 =>
 (asB r26).bind fun b27 =>
 some [b27])
 (some [false])
 (none)).bind fun vs28 =>
 pickC (.bool (vs28.getD 0 false))
 ((T 30 [(weak (SVal.cell s22.k0 0)), s22.k2]).bind fun r29 =>
 loopN (fun s30 next30 =>
 (sLen s30.k3).bind fun r31 =>
 (sBin .lss s30.k5 r31).bind fun r32 =>
 pickC r32
 ((sIdx false 1 s30.k3 s30.k5).bind fun e33 =>
 (T 39 [(weak (SVal.cell s30.k0 0)), e33]).bind fun r34 =>
 (guardX s30.k4 false
 (guardX r34.r.c1 true
 ((sBin .lss r34.r.c0 (.int .i64 0)).bind fun r35 =>
 (asB r35).bind fun b36 =>
 some [b36])
 (some [false])
 (none))
 (some [true])
 (none)).bind fun vs37 =>
 (sBin .add s30.k5 (.int .i64 1)).bind fun r38 =>
 next30 ⟨[(.rp [(SVal.cell s30.k0 0), (SVal.cell s30.k0 1), (SVal.cell s30.k0 2), (SVal.cell s30.k0 3), (SVal.cell s30.k0 4)]), (weak s30.k1), s30.k2, (weak s30.k3), (.bool (vs37.getD 0 false)), r38], [], false⟩)
 (((T 29 [(.agg [(weak (SVal.cell s30.k0 0)), (weak (SVal.cell s30.k0 1)), (weak (SVal.cell s30.k0 2)), (weak (SVal.cell s30.k0 3)), (weak (SVal.cell s30.k0 4))]), s30.k2]).bind fun r39 =>
 guardX r39.r true
 ((sNot s30.k4).bind fun r40 =>
 guardX r40 true
 ((T 27 [(weak s30.k1), s30.k2]).bind fun r41 =>
 if isSc1 r41.r = true then
 (sNot r41.r).bind fun r42 =>
 (asB r42).bind fun b43 =>
 some [b43]
 else none)
 (some [false])
 (none))
 (some [false])
 (none)).bind fun vs44 =>
 pickC (.bool (vs44.getD 0 false))
 (some { r := (.bool false) })
 ((sBin .add s30.k2 (.int .i64 1)).bind fun r45 =>
 next22 ⟨[(.rp [(SVal.cell s30.k0 0), (SVal.cell s30.k0 1), (SVal.cell s30.k0 2), (SVal.cell s30.k0 3), (SVal.cell s30.k0 4)]), (weak s30.k1), r45], [], false⟩))) k ⟨[(.rp [(SVal.cell s22.k0 0), (SVal.cell s22.k0 1), (SVal.cell s22.k0 2), (SVal.cell s22.k0 3), (SVal.cell s22.k0 4)]), (weak s22.k1), s22.k2, (weak r29.r), (.bool false), (.int .i64 1)], [], false⟩)
 ((T 34 []).bind fun r46 =>
 some { r := r46.r })) k ⟨[(.rp [(SVal.cell s12.k0 0), (SVal.cell s12.k0 1), (SVal.cell s12.k0 2), (SVal.cell s12.k0 3), (SVal.cell s12.k0 4)]), (weak s12.k1), (.int .i64 0)], [], false⟩)) k ⟨[(.rp [x0a, x0b, x0c, x0d, x0e]), (weak r10.r), r11.r, (.int .i64 0)], [], false⟩)
theorem r12 (T : TT) (k : Nat) (x0a x0b x0c x0d x0e : SVal) : bodyE P H T k 12 [(.agg [x0a, x0b, x0c, x0d, x0e])] = R12 T k x0a x0b x0c x0d x0e := by kernel_rfl
theorem t12 (k : Nat) (x0a x0b x0c x0d x0e : SVal) : T (k + 1) 12 [(.agg [x0a, x0b, x0c, x0d, x0e])] = R12 (T k) k x0a x0b x0c x0d x0e := (tb k 12 _ rfl).trans (r12 ..)
/-- limelight/limelightref10.Small -/
def R13 (T : TT) (k : Nat) (x0a x0b x0c x0d x0e : SVal) : Option Res :=
 ((T 41 [(weak x0a)]).bind fun r1 =>
 guardX r1.r true
 ((sLen x0a).bind fun r2 =>
 (sBin .leq r2 (.int .i64 16)).bind fun r3 =>
 guardX r3 true
 ((sLen x0b).bind fun r4 =>
 (sBin .leq r4 (.int .i64 40)).bind fun r5 =>
 guardX r5 true
 ((sLen x0c).bind fun r6 =>
 (sBin .leq r6 (.int .i64 40)).bind fun r7 =>
 guardX r7 true
 ((sLen x0d).bind fun r8 =>
 (sBin .leq r8 (.int .i64 40)).bind fun r9 =>
 guardX r9 true
 ((sLen x0e).bind fun r10 =>
 (sBin .leq r10 (.int .i64 80)).bind fun r11 =>
 (asB r11).bind fun b12 =>
 some [b12])
 (some [false])
 (none))
 (some [false])
 (none))
 (some [false])
 (none))
 (some [false])
 (none))
 (some [false])
 (none)).bind fun vs13 =>
 some { r := (.bool (vs13.getD 0 false)) }
theorem r13 (T : TT) (k : Nat) (x0a x0b x0c x0d x0e : SVal) : bodyE P H T k 13 [(.agg [x0a, x0b, x0c, x0d, x0e])] = R13 T k x0a x0b x0c x0d x0e := by kernel_rfl
theorem t13 (k : Nat) (x0a x0b x0c x0d x0e : SVal) : T (k + 1) 13 [(.agg [x0a, x0b, x0c, x0d, x0e])] = R13 (T k) k x0a x0b x0c x0d x0e := (tb k 13 _ rfl).trans (r13 ..)
/-- limelight/scopes.Items -/
def R15 (T : TT) (k : Nat) (x0a x0b x0c x0d x0e x1 : SVal) : Option Res :=
 ((T 42 [(.agg [(weak x0a), (weak x0b), (weak x0c), (weak x0d), (weak x0e)]), x1]).bind fun r1 =>
 (sNot r1.r).bind fun r2 =>
 guardX r2 false
 ((T 43 [(.agg [(weak x0a), (weak x0b), (weak x0c), (weak x0d), (weak x0e)]), x1]).bind fun r3 =>
 (sNot r3.r).bind fun r4 =>
 (asB r4).bind fun b5 =>
 some [b5])
 (some [true])
 (none)).bind fun vs6 =>
 pickC (.bool (vs6.getD 0 false))
 (some { r := (.sl 1 false false []) })
 ((T 44 [(weak x0a)]).bind fun r7 =>
 (sLen r7.r).bind fun r8 =>
 loopN (fun s9 next9 =>
 (sBin .lss s9.k5 s9.k4).bind fun r10 =>
 pickC r10
 ((sIdx false 1 s9.k3 s9.k5).bind fun e11 =>
 ((sIdx true 7 (SVal.cell s9.k1 0) e11).bind fun e12 =>
 (sBin .eql (SVal.cell e12 0) (.int .i64 1)).bind fun r13 =>
 guardX r13 true
 ((T 18 [(.agg [(weak (SVal.cell s9.k1 0)), (weak (SVal.cell s9.k1 1)), (weak (SVal.cell s9.k1 2)), (weak (SVal.cell s9.k1 3)), (weak (SVal.cell s9.k1 4))]), e11]).bind fun r14 =>
 (sBin .eql r14.r s9.k0).bind fun r15 =>
 guardX r15 true
 ((T 19 [(.agg [(weak (SVal.cell s9.k1 0)), (weak (SVal.cell s9.k1 1)), (weak (SVal.cell s9.k1 2)), (weak (SVal.cell s9.k1 3)), (weak (SVal.cell s9.k1 4))]), e11]).bind fun r16 =>
 (sBin .geq r16.r (.int .i64 0)).bind fun r17 =>
 guardX r17 true
 ((T 20 [(.agg [(weak (SVal.cell s9.k1 0)), (weak (SVal.cell s9.k1 1)), (weak (SVal.cell s9.k1 2)), (weak (SVal.cell s9.k1 3)), (weak (SVal.cell s9.k1 4))]), e11]).bind fun r18 =>
 (sBin .eql r18.r (.int .i64 (-1))).bind fun r19 =>
 guardX r19 true
 ((T 43 [(.agg [(weak (SVal.cell s9.k1 0)), (weak (SVal.cell s9.k1 1)), (weak (SVal.cell s9.k1 2)), (weak (SVal.cell s9.k1 3)), (weak (SVal.cell s9.k1 4))]), e11]).bind fun r20 =>
 guardX r20.r false
 ((T 45 [(.agg [(weak (SVal.cell s9.k1 0)), (weak (SVal.cell s9.k1 1)), (weak (SVal.cell s9.k1 2)), (weak (SVal.cell s9.k1 3)), (weak (SVal.cell s9.k1 4))]), e11]).bind fun r21 =>
 (asB r21.r).bind fun b22 =>
 some [b22])
 (some [true])
 (none))
 (some [false])
 (none))
 (some [false])
 (none))
 (some [false])
 (none))
 (some [false])
 (none)).bind fun vs23 =>
 pickC (.bool (vs23.getD 0 false))
 (if (List.all [[.v e11]] allOne) = true then
 if (s9.k2.xs.length + ([e11] : List SVal).length) * 8 ≤ maxAppend then
 (sBin .add s9.k5 (.int .i64 1)).bind fun r24 =>
 next9 ⟨[s9.k0, (.rp [(SVal.cell s9.k1 0), (SVal.cell s9.k1 1), (SVal.cell s9.k1 2), (SVal.cell s9.k1 3), (SVal.cell s9.k1 4)]), (.sl 1 true false (s9.k2.xs ++ ([e11] : List SVal))), (weak s9.k3), s9.k4, r24], [], false⟩
 else none
 else none)
 ((sBin .add s9.k5 (.int .i64 1)).bind fun r25 =>
 next9 ⟨[s9.k0, (.rp [(SVal.cell s9.k1 0), (SVal.cell s9.k1 1), (SVal.cell s9.k1 2), (SVal.cell s9.k1 3), (SVal.cell s9.k1 4)]), (.sl 1 true false s9.k2.xs), (weak s9.k3), s9.k4, r25], [], false⟩))
 ((T 46 [(.sl 1 true false s9.k2.xs), (.fn 47 [(.rp [(SVal.cell s9.k1 0), (SVal.cell s9.k1 1), (SVal.cell s9.k1 2), (SVal.cell s9.k1 3), (SVal.cell s9.k1 4)])])]).bind fun r26 =>
 some { r := (.sl 1 false false ((r26.outs.headD .undef).xs)) })) k ⟨[x1, (.rp [x0a, x0b, x0c, x0d, x0e]), (.sl 1 true false []), (weak r7.r), r8, (.int .i64 0)], [], false⟩)
theorem r15 (T : TT) (k : Nat) (x0a x0b x0c x0d x0e x1 : SVal) : bodyE P H T k 15 [(.agg [x0a, x0b, x0c, x0d, x0e]), x1] = R15 T k x0a x0b x0c x0d x0e x1 := by kernel_rfl
noncomputable def D15 (T : TT) (k : Nat) : List SVal → Option Res
  | [(.agg [x0a, x0b, x0c, x0d, x0e]), x1] => R15 T k x0a x0b x0c x0d x0e x1
  | a => bodyE P H T k 15 a
theorem d15 (T : TT) (k : Nat) (a : List SVal) : D15 T k a = bodyE P H T k 15 a := by
  unfold D15
  split
  · exact (r15 ..).symm
  · rfl
theorem t15 (k : Nat) (x0a x0b x0c x0d x0e x1 : SVal) : T (k + 1) 15 [(.agg [x0a, x0b, x0c, x0d, x0e]), x1] = R15 (T k) k x0a x0b x0c x0d x0e x1 := (tb k 15 _ rfl).trans (r15 ..)
/-- limelight/limelightref10.Check -/
def R16 (T : TT) (k : Nat) (x0a x0b x0c x0d x0e : SVal) : Option Res :=
 (T 50 [(weak x0a)]).bind fun r1 =>
 (sNot r1.r).bind fun r2 =>
 pickC r2
 (some { r := (.int .i64 1) })
 ((T 51 [(.agg [(weak x0a), (weak x0b), (weak x0c), (weak x0d), (weak x0e)])]).bind fun r3 =>
 (sNot r3.r).bind fun r4 =>
 pickC r4
 (some { r := (.int .i64 9) })
 (some { r := (.int .i64 0) }))
theorem r16 (T : TT) (k : Nat) (x0a x0b x0c x0d x0e : SVal) : bodyE P H T k 16 [(.agg [x0a, x0b, x0c, x0d, x0e])] = R16 T k x0a x0b x0c x0d x0e := by kernel_rfl
theorem t16 (k : Nat) (x0a x0b x0c x0d x0e : SVal) : T (k + 1) 16 [(.agg [x0a, x0b, x0c, x0d, x0e])] = R16 (T k) k x0a x0b x0c x0d x0e := (tb k 16 _ rfl).trans (r16 ..)
/-- limelight/limelightref01.Is -/
def R17 (T : TT) (k : Nat) (x0 x1 : SVal) : Option Res :=
 ((sBin .geq x1 (.int .i64 0)).bind fun r1 =>
 guardX r1 true
 ((sLen x0).bind fun r2 =>
 (sBin .lss x1 r2).bind fun r3 =>
 (asB r3).bind fun b4 =>
 some [b4])
 (some [false])
 (none)).bind fun vs5 =>
 some { r := (.bool (vs5.getD 0 false)) }
theorem r17 (T : TT) (k : Nat) (x0 x1 : SVal) : bodyE P H T k 17 [x0, x1] = R17 T k x0 x1 := by kernel_rfl
theorem t17 (k : Nat) (x0 x1 : SVal) : T (k + 1) 17 [x0, x1] = R17 (T k) k x0 x1 := (tb k 17 _ rfl).trans (r17 ..)
/-- limelight/scopes.Owner -/
def R18 (T : TT) (k : Nat) (x0a x0b x0c x0d x0e x1 : SVal) : Option Res :=
 (T 42 [(.agg [(weak x0a), (weak x0b), (weak x0c), (weak x0d), (weak x0e)]), x1]).bind fun r1 =>
 (sNot r1.r).bind fun r2 =>
 pickC r2
 (some { r := (.int .i64 (-1)) })
 ((T 52 [(weak x0a), x1]).bind fun r3 =>
 (sSlice 1 r3.r (some (.int .i64 1)) none).bind fun r4 =>
 (T 53 [(weak r4), (.fn 54 [(.rp [x0a, x0b, x0c, x0d, x0e])])]).bind fun r5 =>
 if isSc1 r5.r = true then
 (sBin .geq r5.r (.int .i64 0)).bind fun r6 =>
 pickC r6
 ((sIdx false 1 r4 r5.r).bind fun e7 =>
 some { r := e7 })
 (some { r := (.int .i64 (-1)) })
 else none)
theorem r18 (T : TT) (k : Nat) (x0a x0b x0c x0d x0e x1 : SVal) : bodyE P H T k 18 [(.agg [x0a, x0b, x0c, x0d, x0e]), x1] = R18 T k x0a x0b x0c x0d x0e x1 := by kernel_rfl
noncomputable def D18 (T : TT) (k : Nat) : List SVal → Option Res
  | [(.agg [x0a, x0b, x0c, x0d, x0e]), x1] => R18 T k x0a x0b x0c x0d x0e x1
  | a => bodyE P H T k 18 a
theorem d18 (T : TT) (k : Nat) (a : List SVal) : D18 T k a = bodyE P H T k 18 a := by
  unfold D18
  split
  · exact (r18 ..).symm
  · rfl
theorem t18 (k : Nat) (x0a x0b x0c x0d x0e x1 : SVal) : T (k + 1) 18 [(.agg [x0a, x0b, x0c, x0d, x0e]), x1] = R18 (T k) k x0a x0b x0c x0d x0e x1 := (tb k 18 _ rfl).trans (r18 ..)
/-- limelight/scopes.Index -/
def R19 (T : TT) (k : Nat) (x0a x0b x0c x0d x0e x1 : SVal) : Option Res :=
 (T 42 [(.agg [(weak x0a), (weak x0b), (weak x0c), (weak x0d), (weak x0e)]), x1]).bind fun r1 =>
 (sNot r1.r).bind fun r2 =>
 pickC r2
 (some { r := (.int .i64 (-1)) })
 ((T 55 [(weak x0a), x1, (.int .i64 0)]).bind fun r3 =>
 some { r := r3.r.c0 })
theorem r19 (T : TT) (k : Nat) (x0a x0b x0c x0d x0e x1 : SVal) : bodyE P H T k 19 [(.agg [x0a, x0b, x0c, x0d, x0e]), x1] = R19 T k x0a x0b x0c x0d x0e x1 := by kernel_rfl
noncomputable def D19 (T : TT) (k : Nat) : List SVal → Option Res
  | [(.agg [x0a, x0b, x0c, x0d, x0e]), x1] => R19 T k x0a x0b x0c x0d x0e x1
  | a => bodyE P H T k 19 a
theorem d19 (T : TT) (k : Nat) (a : List SVal) : D19 T k a = bodyE P H T k 19 a := by
  unfold D19
  split
  · exact (r19 ..).symm
  · rfl
theorem t19 (k : Nat) (x0a x0b x0c x0d x0e x1 : SVal) : T (k + 1) 19 [(.agg [x0a, x0b, x0c, x0d, x0e]), x1] = R19 (T k) k x0a x0b x0c x0d x0e x1 := (tb k 19 _ rfl).trans (r19 ..)
/-- limelight/scopes.Place -/
def R20 (T : TT) (k : Nat) (x0a x0b x0c x0d x0e x1 : SVal) : Option Res :=
 (T 42 [(.agg [(weak x0a), (weak x0b), (weak x0c), (weak x0d), (weak x0e)]), x1]).bind fun r1 =>
 (sNot r1.r).bind fun r2 =>
 pickC r2
 (some { r := (.int .i64 (-1)) })
 ((T 56 [(.agg [(weak x0a), (weak x0b), (weak x0c), (weak x0d), (weak x0e)]), x1]).bind fun r3 =>
 if (allOne [.v r3.r.c0.c0, .v r3.r.c0.c1]) = true then
 (guardX r3.r.c1 true
 ((T 57 [(weak x0a), x1, r3.r.c0.c1]).bind fun r4 =>
 (sNot r4.r).bind fun r5 =>
 (asB r5).bind fun b6 =>
 some [b6])
 (some [false])
 (none)).bind fun vs7 =>
 pickC (.bool (vs7.getD 0 false))
 (some { r := r3.r.c0.c1 })
 (some { r := (.int .i64 (-1)) })
 else none)
theorem r20 (T : TT) (k : Nat) (x0a x0b x0c x0d x0e x1 : SVal) : bodyE P H T k 20 [(.agg [x0a, x0b, x0c, x0d, x0e]), x1] = R20 T k x0a x0b x0c x0d x0e x1 := by kernel_rfl
noncomputable def D20 (T : TT) (k : Nat) : List SVal → Option Res
  | [(.agg [x0a, x0b, x0c, x0d, x0e]), x1] => R20 T k x0a x0b x0c x0d x0e x1
  | a => bodyE P H T k 20 a
theorem d20 (T : TT) (k : Nat) (a : List SVal) : D20 T k a = bodyE P H T k 20 a := by
  unfold D20
  split
  · exact (r20 ..).symm
  · rfl
theorem t20 (k : Nat) (x0a x0b x0c x0d x0e x1 : SVal) : T (k + 1) 20 [(.agg [x0a, x0b, x0c, x0d, x0e]), x1] = R20 (T k) k x0a x0b x0c x0d x0e x1 := (tb k 20 _ rfl).trans (r20 ..)
/-- limelight/limelightref01.Ints -/
def R21 (T : TT) (k : Nat) (x0 x1 : SVal) : Option Res :=
 (sLen x0).bind fun r1 =>
 (sLen x1).bind fun r2 =>
 (sBin .neq r1 r2).bind fun r3 =>
 pickC r3
 (some { r := (.bool false) })
 (loopN (fun s4 next4 =>
 (sLen s4.k0).bind fun r5 =>
 (sBin .lss s4.k2 r5).bind fun r6 =>
 pickC r6
 ((sIdx false 1 s4.k0 s4.k2).bind fun e7 =>
 (sIdx false 1 s4.k1 s4.k2).bind fun e8 =>
 (sBin .neq e7 e8).bind fun r9 =>
 pickC r9
 (some { r := (.bool false) })
 ((sBin .add s4.k2 (.int .i64 1)).bind fun r10 =>
 next4 ⟨[(weak s4.k0), (weak s4.k1), r10], [], false⟩))
 (some { r := (.bool true) })) k ⟨[(weak x0), (weak x1), (.int .i64 0)], [], false⟩)
theorem r21 (T : TT) (k : Nat) (x0 x1 : SVal) : bodyE P H T k 21 [x0, x1] = R21 T k x0 x1 := by kernel_rfl
noncomputable def D21 (T : TT) (k : Nat) : List SVal → Option Res
  | [x0, x1] => R21 T k x0 x1
  | a => bodyE P H T k 21 a
theorem d21 (T : TT) (k : Nat) (a : List SVal) : D21 T k a = bodyE P H T k 21 a := by
  unfold D21
  split
  · exact (r21 ..).symm
  · rfl
theorem t21 (k : Nat) (x0 x1 : SVal) : T (k + 1) 21 [x0, x1] = R21 (T k) k x0 x1 := (tb k 21 _ rfl).trans (r21 ..)
/-- limelight/limelightref16.Items -/
def R22 (T : TT) (k : Nat) (x0a x0b x0c x0d x0e x1 : SVal) : Option Res :=
 (T 31 [(.agg [(weak x0a), (weak x0b), (weak x0c), (weak x0d), (weak x0e)]), x1]).bind fun r1 =>
 (sNot r1.r).bind fun r2 =>
 pickC r2
 (some { r := (.sl 1 false false []) })
 ((T 26 [(weak x0a)]).bind fun r3 =>
 loopN (fun s4 next4 =>
 (sLen s4.k4).bind fun r5 =>
 (sBin .lss s4.k5 r5).bind fun r6 =>
 pickC r6
 ((sIdx false 1 s4.k4 s4.k5).bind fun e7 =>
 (T 58 [(.agg [(weak (SVal.cell s4.k1 0)), (weak (SVal.cell s4.k1 1)), (weak (SVal.cell s4.k1 2)), (weak (SVal.cell s4.k1 3)), (weak (SVal.cell s4.k1 4))]), e7, s4.k0]).bind fun r8 =>
 pickC r8.r
 ((sIdx false 1 s4.k4 s4.k5).bind fun e9 =>
 if (List.all [[.v e9]] allOne) = true then
 if (s4.k3.xs.length + ([e9] : List SVal).length) * 8 ≤ maxAppend then
 (sBin .add s4.k5 (.int .i64 1)).bind fun r10 =>
 next4 ⟨[s4.k0, (.rp [(SVal.cell s4.k1 0), (SVal.cell s4.k1 1), (SVal.cell s4.k1 2), (SVal.cell s4.k1 3), (SVal.cell s4.k1 4)]), (.sl 1 true false s4.k2.xs), (.sl 1 true false (s4.k3.xs ++ ([e9] : List SVal))), (weak s4.k4), r10], [], false⟩
 else none
 else none)
 ((sBin .add s4.k5 (.int .i64 1)).bind fun r11 =>
 next4 ⟨[s4.k0, (.rp [(SVal.cell s4.k1 0), (SVal.cell s4.k1 1), (SVal.cell s4.k1 2), (SVal.cell s4.k1 3), (SVal.cell s4.k1 4)]), (.sl 1 true false s4.k2.xs), (.sl 1 true false s4.k3.xs), (weak s4.k4), r11], [], false⟩))
 (loopN (fun s12 next12 =>
 (sBin .lss (.int .i64 (s12.k1.xs.length : Nat)) (.int .i64 (s12.k2.xs.length : Nat))).bind fun r13 =>
 pickC r13
 (loopN (fun s14 next14 =>
 (sBin .lss s14.k4 (.int .i64 (s14.k2.xs.length : Nat))).bind fun r15 =>
 pickC r15
 (((sIn s14.k2.xs.length s14.k4).bind fun j16 =>
 (s14.k2.xs[j16]?).bind fun e17 =>
 if (elemOk false 1 e17) = true then
 (T 27 [(.sl 1 false false s14.k1.xs), e17]).bind fun r18 =>
 if isSc1 r18.r = true then
 (sNot r18.r).bind fun r19 =>
 guardX r19 true
 ((sBin .eql s14.k3 (.int .i64 (-1))).bind fun r20 =>
 guardX r20 false
 ((sIn s14.k2.xs.length s14.k4).bind fun j21 =>
 (s14.k2.xs[j21]?).bind fun e22 =>
 if (elemOk false 1 e22) = true then
 (T 24 [(.agg [(weak (SVal.cell s14.k0 0)), (weak (SVal.cell s14.k0 1)), (weak (SVal.cell s14.k0 2)), (weak (SVal.cell s14.k0 3)), (weak (SVal.cell s14.k0 4))]), e22]).bind fun r23 =>
 (T 24 [(.agg [(weak (SVal.cell s14.k0 0)), (weak (SVal.cell s14.k0 1)), (weak (SVal.cell s14.k0 2)), (weak (SVal.cell s14.k0 3)), (weak (SVal.cell s14.k0 4))]), s14.k3]).bind fun r24 =>
 (T 59 [r23.r, r24.r]).bind fun r25 =>
 (asB r25.r).bind fun b26 =>
 some [b26]
 else none)
 (some [true])
 (none))
 (some [false])
 (none)
 else none
 else none).bind fun vs27 =>
 pickC (.bool (vs27.getD 0 false))
 ((sIn s14.k2.xs.length s14.k4).bind fun j28 =>
 (s14.k2.xs[j28]?).bind fun e29 =>
 if (elemOk false 1 e29) = true then
 (sBin .add s14.k4 (.int .i64 1)).bind fun r30 =>
 next14 ⟨[(.rp [(SVal.cell s14.k0 0), (SVal.cell s14.k0 1), (SVal.cell s14.k0 2), (SVal.cell s14.k0 3), (SVal.cell s14.k0 4)]), (.sl 1 true false s14.k1.xs), (.sl 1 true false s14.k2.xs), e29, r30], [], false⟩
 else none)
 ((sBin .add s14.k4 (.int .i64 1)).bind fun r31 =>
 next14 ⟨[(.rp [(SVal.cell s14.k0 0), (SVal.cell s14.k0 1), (SVal.cell s14.k0 2), (SVal.cell s14.k0 3), (SVal.cell s14.k0 4)]), (.sl 1 true false s14.k1.xs), (.sl 1 true false s14.k2.xs), s14.k3, r31], [], false⟩))
 (if (List.all [[.v s14.k3]] allOne) = true then
 if (s14.k1.xs.length + ([s14.k3] : List SVal).length) * 8 ≤ maxAppend then
 next12 ⟨[(.rp [(SVal.cell s14.k0 0), (SVal.cell s14.k0 1), (SVal.cell s14.k0 2), (SVal.cell s14.k0 3), (SVal.cell s14.k0 4)]), (.sl 1 true false (s14.k1.xs ++ ([s14.k3] : List SVal))), (.sl 1 true false s14.k2.xs)], [], false⟩
 else none
 else none)) k ⟨[(.rp [(SVal.cell s12.k0 0), (SVal.cell s12.k0 1), (SVal.cell s12.k0 2), (SVal.cell s12.k0 3), (SVal.cell s12.k0 4)]), (.sl 1 true false s12.k1.xs), (.sl 1 true false s12.k2.xs), (.int .i64 (-1)), (.int .i64 0)], [], false⟩)
 (some { r := (.sl 1 false false s12.k1.xs) })) k ⟨[(.rp [(SVal.cell s4.k1 0), (SVal.cell s4.k1 1), (SVal.cell s4.k1 2), (SVal.cell s4.k1 3), (SVal.cell s4.k1 4)]), (.sl 1 true false s4.k2.xs), (.sl 1 true false s4.k3.xs)], [], false⟩)) k ⟨[x1, (.rp [x0a, x0b, x0c, x0d, x0e]), (.sl 1 true false []), (.sl 1 true false []), (weak r3.r), (.int .i64 0)], [], false⟩)
theorem r22 (T : TT) (k : Nat) (x0a x0b x0c x0d x0e x1 : SVal) : bodyE P H T k 22 [(.agg [x0a, x0b, x0c, x0d, x0e]), x1] = R22 T k x0a x0b x0c x0d x0e x1 := by kernel_rfl
theorem t22 (k : Nat) (x0a x0b x0c x0d x0e x1 : SVal) : T (k + 1) 22 [(.agg [x0a, x0b, x0c, x0d, x0e]), x1] = R22 (T k) k x0a x0b x0c x0d x0e x1 := (tb k 22 _ rfl).trans (r22 ..)
/-- limelight/limelightref16.Owner -/
def R23 (T : TT) (k : Nat) (x0a x0b x0c x0d x0e x1 : SVal) : Option Res :=
 (T 30 [(weak x0a), x1]).bind fun r1 =>
 loopN (fun s2 next2 =>
 (sLen s2.k1).bind fun r3 =>
 (sBin .lss s2.k2 r3).bind fun r4 =>
 pickC r4
 ((sIdx false 1 s2.k1 s2.k2).bind fun e5 =>
 (T 31 [(.agg [(weak (SVal.cell s2.k0 0)), (weak (SVal.cell s2.k0 1)), (weak (SVal.cell s2.k0 2)), (weak (SVal.cell s2.k0 3)), (weak (SVal.cell s2.k0 4))]), e5]).bind fun r6 =>
 pickC r6.r
 ((sIdx false 1 s2.k1 s2.k2).bind fun e7 =>
 some { r := e7 })
 ((sBin .add s2.k2 (.int .i64 1)).bind fun r8 =>
 next2 ⟨[(.rp [(SVal.cell s2.k0 0), (SVal.cell s2.k0 1), (SVal.cell s2.k0 2), (SVal.cell s2.k0 3), (SVal.cell s2.k0 4)]), (weak s2.k1), r8], [], false⟩))
 (some { r := (.int .i64 (-1)) })) k ⟨[(.rp [x0a, x0b, x0c, x0d, x0e]), (weak r1.r), (.int .i64 1)], [], false⟩
theorem r23 (T : TT) (k : Nat) (x0a x0b x0c x0d x0e x1 : SVal) : bodyE P H T k 23 [(.agg [x0a, x0b, x0c, x0d, x0e]), x1] = R23 T k x0a x0b x0c x0d x0e x1 := by kernel_rfl
theorem t23 (k : Nat) (x0a x0b x0c x0d x0e x1 : SVal) : T (k + 1) 23 [(.agg [x0a, x0b, x0c, x0d, x0e]), x1] = R23 (T k) k x0a x0b x0c x0d x0e x1 := (tb k 23 _ rfl).trans (r23 ..)
/-- limelight/limelightref16.Index -/
def R24 (T : TT) (k : Nat) (x0a x0b x0c x0d x0e x1 : SVal) : Option Res :=
 (T 60 [(weak x0a), x1, (.int .i64 0)]).bind fun r1 =>
 some { r := r1.r.c0 }
theorem r24 (T : TT) (k : Nat) (x0a x0b x0c x0d x0e x1 : SVal) : bodyE P H T k 24 [(.agg [x0a, x0b, x0c, x0d, x0e]), x1] = R24 T k x0a x0b x0c x0d x0e x1 := by kernel_rfl
theorem t24 (k : Nat) (x0a x0b x0c x0d x0e x1 : SVal) : T (k + 1) 24 [(.agg [x0a, x0b, x0c, x0d, x0e]), x1] = R24 (T k) k x0a x0b x0c x0d x0e x1 := (tb k 24 _ rfl).trans (r24 ..)
/-- limelight/limelightref16.Place -/
def R25 (T : TT) (k : Nat) (x0a x0b x0c x0d x0e x1 : SVal) : Option Res :=
 loopN (fun s1 next1 =>
 (sLen (SVal.cell s1.k1 3)).bind fun r2 =>
 (sBin .lss s1.k2 r2).bind fun r3 =>
 pickC r3
 ((sIdx true 2 (SVal.cell s1.k1 3) s1.k2).bind fun e4 =>
 if (allOne [.v (SVal.cell e4 0), .v (SVal.cell e4 1)]) = true then
 ((sBin .eql (SVal.cell e4 0) s1.k0).bind fun r5 =>
 guardX r5 true
 ((sBin .neq (SVal.cell e4 1) (.int .i64 (-1))).bind fun r6 =>
 (asB r6).bind fun b7 =>
 some [b7])
 (some [false])
 (none)).bind fun vs8 =>
 pickC (.bool (vs8.getD 0 false))
 ((T 33 [(weak (SVal.cell s1.k1 0)), s1.k0, (SVal.cell e4 1)]).bind fun r9 =>
 (sNot r9.r).bind fun r10 =>
 pickC r10
 (some { r := (SVal.cell e4 1) })
 ((sBin .add s1.k2 (.int .i64 1)).bind fun r11 =>
 next1 ⟨[s1.k0, (.rp [(SVal.cell s1.k1 0), (SVal.cell s1.k1 1), (SVal.cell s1.k1 2), (SVal.cell s1.k1 3), (SVal.cell s1.k1 4)]), r11], [], false⟩))
 ((sBin .add s1.k2 (.int .i64 1)).bind fun r12 =>
 next1 ⟨[s1.k0, (.rp [(SVal.cell s1.k1 0), (SVal.cell s1.k1 1), (SVal.cell s1.k1 2), (SVal.cell s1.k1 3), (SVal.cell s1.k1 4)]), r12], [], false⟩)
 else none)
 (some { r := (.int .i64 (-1)) })) k ⟨[x1, (.rp [x0a, x0b, x0c, x0d, x0e]), (.int .i64 0)], [], false⟩
theorem r25 (T : TT) (k : Nat) (x0a x0b x0c x0d x0e x1 : SVal) : bodyE P H T k 25 [(.agg [x0a, x0b, x0c, x0d, x0e]), x1] = R25 T k x0a x0b x0c x0d x0e x1 := by kernel_rfl
theorem t25 (k : Nat) (x0a x0b x0c x0d x0e x1 : SVal) : T (k + 1) 25 [(.agg [x0a, x0b, x0c, x0d, x0e]), x1] = R25 (T k) k x0a x0b x0c x0d x0e x1 := (tb k 25 _ rfl).trans (r25 ..)
/-- limelight/limelightref06.List -/
def R26 (T : TT) (k : Nat) (x0 : SVal) : Option Res :=
 (T 61 [(weak x0), (.int .i64 0)]).bind fun r1 =>
 some { r := (weak r1.r) }
theorem r26 (T : TT) (k : Nat) (x0 : SVal) : bodyE P H T k 26 [x0] = R26 T k x0 := by kernel_rfl
theorem t26 (k : Nat) (x0 : SVal) : T (k + 1) 26 [x0] = R26 (T k) k x0 := (tb k 26 _ rfl).trans (r26 ..)
/-- limelight/limelightref03.In -/
def R27 (T : TT) (k : Nat) (x0 x1 : SVal) : Option Res :=
 (T 28 [(weak x0), x1]).bind fun r1 =>
 (sBin .geq r1.r (.int .i64 0)).bind fun r2 =>
 some { r := r2 }
theorem r27 (T : TT) (k : Nat) (x0 x1 : SVal) : bodyE P H T k 27 [x0, x1] = R27 T k x0 x1 := by kernel_rfl
theorem t27 (k : Nat) (x0 x1 : SVal) : T (k + 1) 27 [x0, x1] = R27 (T k) k x0 x1 := (tb k 27 _ rfl).trans (r27 ..)
/-- limelight/limelightref03.Place -/
def R28 (T : TT) (k : Nat) (x0 x1 : SVal) : Option Res :=
 loopN (fun s1 next1 =>
 (sLen s1.k0).bind fun r2 =>
 (sBin .lss s1.k2 r2).bind fun r3 =>
 pickC r3
 ((sIdx false 1 s1.k0 s1.k2).bind fun e4 =>
 (sBin .eql e4 s1.k1).bind fun r5 =>
 pickC r5
 (some { r := s1.k2 })
 ((sBin .add s1.k2 (.int .i64 1)).bind fun r6 =>
 next1 ⟨[(weak s1.k0), s1.k1, r6], [], false⟩))
 (some { r := (.int .i64 (-1)) })) k ⟨[(weak x0), x1, (.int .i64 0)], [], false⟩
theorem r28 (T : TT) (k : Nat) (x0 x1 : SVal) : bodyE P H T k 28 [x0, x1] = R28 T k x0 x1 := by kernel_rfl
theorem t28 (k : Nat) (x0 x1 : SVal) : T (k + 1) 28 [x0, x1] = R28 (T k) k x0 x1 := (tb k 28 _ rfl).trans (r28 ..)
/-- limelight/limelightref13.Tabs -/
def R29 (T : TT) (k : Nat) (x0a x0b x0c x0d x0e x1 : SVal) : Option Res :=
 (T 39 [(weak x0a), x1]).bind fun r1 =>
 ((T 62 [(.agg [(weak x0a), (weak x0b), (weak x0c), (weak x0d), (weak x0e)]), x1]).bind fun r2 =>
 guardX r2.r true
 ((sBin .geq r1.r.c0 (.int .i64 0)).bind fun r3 =>
 (asB r3).bind fun b4 =>
 some [b4])
 (some [false])
 (none)).bind fun vs5 =>
 some { r := (.bool (vs5.getD 0 false)) }
theorem r29 (T : TT) (k : Nat) (x0a x0b x0c x0d x0e x1 : SVal) : bodyE P H T k 29 [(.agg [x0a, x0b, x0c, x0d, x0e]), x1] = R29 T k x0a x0b x0c x0d x0e x1 := by kernel_rfl
theorem t29 (k : Nat) (x0a x0b x0c x0d x0e x1 : SVal) : T (k + 1) 29 [(.agg [x0a, x0b, x0c, x0d, x0e]), x1] = R29 (T k) k x0a x0b x0c x0d x0e x1 := (tb k 29 _ rfl).trans (r29 ..)
/-- limelight/limelightref06.Up -/
def R30 (T : TT) (k : Nat) (x0 x1 : SVal) : Option Res :=
 loopN (fun s1 next1 =>
 (sBin .neq s1.k1 (.int .i64 (-1))).bind fun r2 =>
 pickC r2
 (if (List.all [[.v s1.k1]] allOne) = true then
 if (s1.k2.xs.length + ([s1.k1] : List SVal).length) * 8 ≤ maxAppend then
 (T 63 [(weak s1.k0), s1.k1]).bind fun r3 =>
 next1 ⟨[(weak s1.k0), r3.r, (.sl 1 true false (s1.k2.xs ++ ([s1.k1] : List SVal)))], [], false⟩
 else none
 else none)
 (some { r := (.sl 1 false false s1.k2.xs) })) k ⟨[(weak x0), x1, (.sl 1 true false [])], [], false⟩
theorem r30 (T : TT) (k : Nat) (x0 x1 : SVal) : bodyE P H T k 30 [x0, x1] = R30 T k x0 x1 := by kernel_rfl
theorem t30 (k : Nat) (x0 x1 : SVal) : T (k + 1) 30 [x0, x1] = R30 (T k) k x0 x1 := (tb k 30 _ rfl).trans (r30 ..)
/-- limelight/limelightref16.Owns -/
def R31 (T : TT) (k : Nat) (x0a x0b x0c x0d x0e x1 : SVal) : Option Res :=
 ((sBin .eql x1 (.int .i64 0)).bind fun r1 =>
 guardX r1 false
 ((sIdx true 7 x0a x1).bind fun e2 =>
 (sBin .neq (SVal.cell e2 5) (.int .i64 (-1))).bind fun r3 =>
 guardX r3 false
 ((T 64 [(weak x0a), x1]).bind fun r4 =>
 guardX r4.r false
 ((T 32 [(weak x0d)]).bind fun r5 =>
 (T 27 [(weak r5.r), x1]).bind fun r6 =>
 if isSc1 r6.r = true then
 (asB r6.r).bind fun b7 =>
 some [b7]
 else none)
 (some [true])
 (none))
 (some [true])
 (none))
 (some [true])
 (none)).bind fun vs8 =>
 some { r := (.bool (vs8.getD 0 false)) }
theorem r31 (T : TT) (k : Nat) (x0a x0b x0c x0d x0e x1 : SVal) : bodyE P H T k 31 [(.agg [x0a, x0b, x0c, x0d, x0e]), x1] = R31 T k x0a x0b x0c x0d x0e x1 := by kernel_rfl
theorem t31 (k : Nat) (x0a x0b x0c x0d x0e x1 : SVal) : T (k + 1) 31 [(.agg [x0a, x0b, x0c, x0d, x0e]), x1] = R31 (T k) k x0a x0b x0c x0d x0e x1 := (tb k 31 _ rfl).trans (r31 ..)
/-- limelight/limelightref10.Nodes -/
def R32 (T : TT) (k : Nat) (x0 : SVal) : Option Res :=
 loopN (fun s1 next1 =>
 (sLen s1.k0).bind fun r2 =>
 (sBin .lss s1.k2 r2).bind fun r3 =>
 pickC r3
 ((sIdx true 2 s1.k0 s1.k2).bind fun e4 =>
 if (List.all [[.v (SVal.cell e4 0)]] allOne) = true then
 if (s1.k1.xs.length + ([(SVal.cell e4 0)] : List SVal).length) * 8 ≤ maxAppend then
 (sBin .add s1.k2 (.int .i64 1)).bind fun r5 =>
 next1 ⟨[(weak s1.k0), (.sl 1 true false (s1.k1.xs ++ ([(SVal.cell e4 0)] : List SVal))), r5], [], false⟩
 else none
 else none)
 (some { r := (.sl 1 false false s1.k1.xs) })) k ⟨[(weak x0), (.sl 1 true false []), (.int .i64 0)], [], false⟩
theorem r32 (T : TT) (k : Nat) (x0 : SVal) : bodyE P H T k 32 [x0] = R32 T k x0 := by kernel_rfl
theorem t32 (k : Nat) (x0 : SVal) : T (k + 1) 32 [x0] = R32 (T k) k x0 := (tb k 32 _ rfl).trans (r32 ..)
/-- limelight/limelightref06.Above -/
def R33 (T : TT) (k : Nat) (x0 x1 x2 : SVal) : Option Res :=
 (T 30 [(weak x0), x2]).bind fun r1 =>
 (T 27 [(weak r1.r), x1]).bind fun r2 =>
 if isSc1 r2.r = true then
 some { r := r2.r }
 else none
theorem r33 (T : TT) (k : Nat) (x0 x1 x2 : SVal) : bodyE P H T k 33 [x0, x1, x2] = R33 T k x0 x1 x2 := by kernel_rfl
theorem t33 (k : Nat) (x0 x1 x2 : SVal) : T (k + 1) 33 [x0, x1, x2] = R33 (T k) k x0 x1 x2 := (tb k 33 _ rfl).trans (r33 ..)
/-- limelight/limelightlaw17.live -/
def R34 (T : TT) (k : Nat) : Option Res :=
 ((T 35 [(.agg [(.sl 7 false false [(.agg [(.int .i64 0), (.int .i64 0), (.int .i64 (-1)), (.sl 1 false false [(.int .i64 1), (.int .i64 2), (.int .i64 3)]), (.int .i64 (-1)), (.int .i64 (-1)), (.sl 2 false false [])]), (.agg [(.int .i64 1), (.int .i64 1), (.int .i64 0), (.sl 1 false false []), (.int .i64 (-1)), (.int .i64 (-1)), (.sl 2 false false [])]), (.agg [(.int .i64 1), (.int .i64 1), (.int .i64 0), (.sl 1 false false []), (.int .i64 (-1)), (.int .i64 (-1)), (.sl 2 false false [])]), (.agg [(.int .i64 1), (.int .i64 0), (.int .i64 0), (.sl 1 false false [(.int .i64 4)]), (.int .i64 (-1)), (.int .i64 (-1)), (.sl 2 false false [(.agg [(.int .i64 6), (.int .i64 1)])])]), (.agg [(.int .i64 1), (.int .i64 1), (.int .i64 3), (.sl 1 false false []), (.int .i64 (-1)), (.int .i64 (-1)), (.sl 2 false false [])])]), (.sl 1 false false []), (.sl 1 false false []), (.sl 2 false false [(.agg [(.int .i64 3), (.int .i64 1)])]), (.sl 1 false false [(.int .i64 3)])])]).bind fun r1 =>
 (T 21 [(weak r1.r), (.sl 1 false false [(.int .i64 1), (.int .i64 4), (.int .i64 2)])]).bind fun r2 =>
 guardX r2.r true
 ((T 36 [(.agg [(.sl 7 false false [(.agg [(.int .i64 0), (.int .i64 0), (.int .i64 (-1)), (.sl 1 false false [(.int .i64 1), (.int .i64 2), (.int .i64 3)]), (.int .i64 (-1)), (.int .i64 (-1)), (.sl 2 false false [])]), (.agg [(.int .i64 1), (.int .i64 1), (.int .i64 0), (.sl 1 false false []), (.int .i64 (-1)), (.int .i64 (-1)), (.sl 2 false false [])]), (.agg [(.int .i64 1), (.int .i64 1), (.int .i64 0), (.sl 1 false false []), (.int .i64 (-1)), (.int .i64 (-1)), (.sl 2 false false [])]), (.agg [(.int .i64 1), (.int .i64 0), (.int .i64 0), (.sl 1 false false [(.int .i64 4)]), (.int .i64 (-1)), (.int .i64 (-1)), (.sl 2 false false [(.agg [(.int .i64 6), (.int .i64 1)])])]), (.agg [(.int .i64 1), (.int .i64 1), (.int .i64 3), (.sl 1 false false []), (.int .i64 (-1)), (.int .i64 (-1)), (.sl 2 false false [])])]), (.sl 1 false false []), (.sl 1 false false []), (.sl 2 false false [(.agg [(.int .i64 3), (.int .i64 1)])]), (.sl 1 false false [(.int .i64 3)])]), (.int .i64 0), (.bool false)]).bind fun r3 =>
 (sBin .eql r3.r (.int .i64 1)).bind fun r4 =>
 guardX r4 true
 ((T 36 [(.agg [(.sl 7 false false [(.agg [(.int .i64 0), (.int .i64 0), (.int .i64 (-1)), (.sl 1 false false [(.int .i64 1), (.int .i64 2), (.int .i64 3)]), (.int .i64 (-1)), (.int .i64 (-1)), (.sl 2 false false [])]), (.agg [(.int .i64 1), (.int .i64 1), (.int .i64 0), (.sl 1 false false []), (.int .i64 (-1)), (.int .i64 (-1)), (.sl 2 false false [])]), (.agg [(.int .i64 1), (.int .i64 1), (.int .i64 0), (.sl 1 false false []), (.int .i64 (-1)), (.int .i64 (-1)), (.sl 2 false false [])]), (.agg [(.int .i64 1), (.int .i64 0), (.int .i64 0), (.sl 1 false false [(.int .i64 4)]), (.int .i64 (-1)), (.int .i64 (-1)), (.sl 2 false false [(.agg [(.int .i64 6), (.int .i64 1)])])]), (.agg [(.int .i64 1), (.int .i64 1), (.int .i64 3), (.sl 1 false false []), (.int .i64 (-1)), (.int .i64 (-1)), (.sl 2 false false [])])]), (.sl 1 false false []), (.sl 1 false false []), (.sl 2 false false [(.agg [(.int .i64 3), (.int .i64 1)])]), (.sl 1 false false [(.int .i64 3)])]), (.int .i64 1), (.bool false)]).bind fun r5 =>
 (sBin .eql r5.r (.int .i64 4)).bind fun r6 =>
 guardX r6 true
 ((T 36 [(.agg [(.sl 7 false false [(.agg [(.int .i64 0), (.int .i64 0), (.int .i64 (-1)), (.sl 1 false false [(.int .i64 1), (.int .i64 2), (.int .i64 3)]), (.int .i64 (-1)), (.int .i64 (-1)), (.sl 2 false false [])]), (.agg [(.int .i64 1), (.int .i64 1), (.int .i64 0), (.sl 1 false false []), (.int .i64 (-1)), (.int .i64 (-1)), (.sl 2 false false [])]), (.agg [(.int .i64 1), (.int .i64 1), (.int .i64 0), (.sl 1 false false []), (.int .i64 (-1)), (.int .i64 (-1)), (.sl 2 false false [])]), (.agg [(.int .i64 1), (.int .i64 0), (.int .i64 0), (.sl 1 false false [(.int .i64 4)]), (.int .i64 (-1)), (.int .i64 (-1)), (.sl 2 false false [(.agg [(.int .i64 6), (.int .i64 1)])])]), (.agg [(.int .i64 1), (.int .i64 1), (.int .i64 3), (.sl 1 false false []), (.int .i64 (-1)), (.int .i64 (-1)), (.sl 2 false false [])])]), (.sl 1 false false []), (.sl 1 false false []), (.sl 2 false false [(.agg [(.int .i64 3), (.int .i64 1)])]), (.sl 1 false false [(.int .i64 3)])]), (.int .i64 4), (.bool false)]).bind fun r7 =>
 (sBin .eql r7.r (.int .i64 2)).bind fun r8 =>
 guardX r8 true
 ((T 36 [(.agg [(.sl 7 false false [(.agg [(.int .i64 0), (.int .i64 0), (.int .i64 (-1)), (.sl 1 false false [(.int .i64 1), (.int .i64 2), (.int .i64 3)]), (.int .i64 (-1)), (.int .i64 (-1)), (.sl 2 false false [])]), (.agg [(.int .i64 1), (.int .i64 1), (.int .i64 0), (.sl 1 false false []), (.int .i64 (-1)), (.int .i64 (-1)), (.sl 2 false false [])]), (.agg [(.int .i64 1), (.int .i64 1), (.int .i64 0), (.sl 1 false false []), (.int .i64 (-1)), (.int .i64 (-1)), (.sl 2 false false [])]), (.agg [(.int .i64 1), (.int .i64 0), (.int .i64 0), (.sl 1 false false [(.int .i64 4)]), (.int .i64 (-1)), (.int .i64 (-1)), (.sl 2 false false [(.agg [(.int .i64 6), (.int .i64 1)])])]), (.agg [(.int .i64 1), (.int .i64 1), (.int .i64 3), (.sl 1 false false []), (.int .i64 (-1)), (.int .i64 (-1)), (.sl 2 false false [])])]), (.sl 1 false false []), (.sl 1 false false []), (.sl 2 false false [(.agg [(.int .i64 3), (.int .i64 1)])]), (.sl 1 false false [(.int .i64 3)])]), (.int .i64 2), (.bool false)]).bind fun r9 =>
 (sBin .eql r9.r (.int .i64 0)).bind fun r10 =>
 guardX r10 true
 ((T 36 [(.agg [(.sl 7 false false [(.agg [(.int .i64 0), (.int .i64 0), (.int .i64 (-1)), (.sl 1 false false [(.int .i64 1), (.int .i64 2), (.int .i64 3)]), (.int .i64 (-1)), (.int .i64 (-1)), (.sl 2 false false [])]), (.agg [(.int .i64 1), (.int .i64 1), (.int .i64 0), (.sl 1 false false []), (.int .i64 (-1)), (.int .i64 (-1)), (.sl 2 false false [])]), (.agg [(.int .i64 1), (.int .i64 1), (.int .i64 0), (.sl 1 false false []), (.int .i64 (-1)), (.int .i64 (-1)), (.sl 2 false false [])]), (.agg [(.int .i64 1), (.int .i64 0), (.int .i64 0), (.sl 1 false false [(.int .i64 4)]), (.int .i64 (-1)), (.int .i64 (-1)), (.sl 2 false false [(.agg [(.int .i64 6), (.int .i64 1)])])]), (.agg [(.int .i64 1), (.int .i64 1), (.int .i64 3), (.sl 1 false false []), (.int .i64 (-1)), (.int .i64 (-1)), (.sl 2 false false [])])]), (.sl 1 false false []), (.sl 1 false false []), (.sl 2 false false [(.agg [(.int .i64 3), (.int .i64 1)])]), (.sl 1 false false [(.int .i64 3)])]), (.int .i64 1), (.bool true)]).bind fun r11 =>
 (sBin .eql r11.r (.int .i64 0)).bind fun r12 =>
 guardX r12 true
 ((T 36 [(.agg [(.sl 7 false false [(.agg [(.int .i64 0), (.int .i64 0), (.int .i64 (-1)), (.sl 1 false false [(.int .i64 1), (.int .i64 2), (.int .i64 3)]), (.int .i64 (-1)), (.int .i64 (-1)), (.sl 2 false false [])]), (.agg [(.int .i64 1), (.int .i64 1), (.int .i64 0), (.sl 1 false false []), (.int .i64 (-1)), (.int .i64 (-1)), (.sl 2 false false [])]), (.agg [(.int .i64 1), (.int .i64 1), (.int .i64 0), (.sl 1 false false []), (.int .i64 (-1)), (.int .i64 (-1)), (.sl 2 false false [])]), (.agg [(.int .i64 1), (.int .i64 0), (.int .i64 0), (.sl 1 false false [(.int .i64 4)]), (.int .i64 (-1)), (.int .i64 (-1)), (.sl 2 false false [(.agg [(.int .i64 6), (.int .i64 1)])])]), (.agg [(.int .i64 1), (.int .i64 1), (.int .i64 3), (.sl 1 false false []), (.int .i64 (-1)), (.int .i64 (-1)), (.sl 2 false false [])])]), (.sl 1 false false []), (.sl 1 false false []), (.sl 2 false false [(.agg [(.int .i64 3), (.int .i64 1)])]), (.sl 1 false false [(.int .i64 3)])]), (.int .i64 0), (.bool true)]).bind fun r13 =>
 (sBin .eql r13.r (.int .i64 2)).bind fun r14 =>
 guardX r14 true
 ((T 36 [(.agg [(.sl 7 false false [(.agg [(.int .i64 0), (.int .i64 0), (.int .i64 (-1)), (.sl 1 false false [(.int .i64 1), (.int .i64 2), (.int .i64 3)]), (.int .i64 (-1)), (.int .i64 (-1)), (.sl 2 false false [])]), (.agg [(.int .i64 1), (.int .i64 1), (.int .i64 0), (.sl 1 false false []), (.int .i64 (-1)), (.int .i64 (-1)), (.sl 2 false false [])]), (.agg [(.int .i64 1), (.int .i64 1), (.int .i64 0), (.sl 1 false false []), (.int .i64 (-1)), (.int .i64 (-1)), (.sl 2 false false [])]), (.agg [(.int .i64 1), (.int .i64 0), (.int .i64 0), (.sl 1 false false [(.int .i64 4)]), (.int .i64 (-1)), (.int .i64 (-1)), (.sl 2 false false [(.agg [(.int .i64 6), (.int .i64 1)])])]), (.agg [(.int .i64 1), (.int .i64 1), (.int .i64 3), (.sl 1 false false []), (.int .i64 (-1)), (.int .i64 (-1)), (.sl 2 false false [])])]), (.sl 1 false false []), (.sl 1 false false []), (.sl 2 false false [(.agg [(.int .i64 3), (.int .i64 1)])]), (.sl 1 false false [(.int .i64 3)])]), (.int .i64 3), (.bool false)]).bind fun r15 =>
 (sBin .eql r15.r (.int .i64 4)).bind fun r16 =>
 guardX r16 true
 ((T 36 [(.agg [(.sl 7 false false [(.agg [(.int .i64 0), (.int .i64 0), (.int .i64 (-1)), (.sl 1 false false [(.int .i64 1), (.int .i64 2), (.int .i64 3)]), (.int .i64 (-1)), (.int .i64 (-1)), (.sl 2 false false [])]), (.agg [(.int .i64 1), (.int .i64 1), (.int .i64 0), (.sl 1 false false []), (.int .i64 (-1)), (.int .i64 (-1)), (.sl 2 false false [])]), (.agg [(.int .i64 1), (.int .i64 1), (.int .i64 0), (.sl 1 false false []), (.int .i64 (-1)), (.int .i64 (-1)), (.sl 2 false false [])]), (.agg [(.int .i64 1), (.int .i64 0), (.int .i64 0), (.sl 1 false false [(.int .i64 4)]), (.int .i64 (-1)), (.int .i64 (-1)), (.sl 2 false false [(.agg [(.int .i64 6), (.int .i64 1)])])]), (.agg [(.int .i64 1), (.int .i64 1), (.int .i64 3), (.sl 1 false false []), (.int .i64 (-1)), (.int .i64 (-1)), (.sl 2 false false [])])]), (.sl 1 false false []), (.sl 1 false false []), (.sl 2 false false [(.agg [(.int .i64 3), (.int .i64 1)])]), (.sl 1 false false [(.int .i64 3)])]), (.int .i64 3), (.bool true)]).bind fun r17 =>
 (sBin .eql r17.r (.int .i64 2)).bind fun r18 =>
 guardX r18 true
 ((T 36 [(.agg [(.sl 7 false false [(.agg [(.int .i64 0), (.int .i64 0), (.int .i64 (-1)), (.sl 1 false false [(.int .i64 1), (.int .i64 2), (.int .i64 3)]), (.int .i64 (-1)), (.int .i64 (-1)), (.sl 2 false false [])]), (.agg [(.int .i64 1), (.int .i64 1), (.int .i64 0), (.sl 1 false false []), (.int .i64 (-1)), (.int .i64 (-1)), (.sl 2 false false [])]), (.agg [(.int .i64 1), (.int .i64 1), (.int .i64 0), (.sl 1 false false []), (.int .i64 (-1)), (.int .i64 (-1)), (.sl 2 false false [])]), (.agg [(.int .i64 1), (.int .i64 0), (.int .i64 0), (.sl 1 false false [(.int .i64 4)]), (.int .i64 (-1)), (.int .i64 (-1)), (.sl 2 false false [(.agg [(.int .i64 6), (.int .i64 1)])])]), (.agg [(.int .i64 1), (.int .i64 1), (.int .i64 3), (.sl 1 false false []), (.int .i64 (-1)), (.int .i64 (-1)), (.sl 2 false false [])])]), (.sl 1 false false []), (.sl 1 false false []), (.sl 2 false false [(.agg [(.int .i64 3), (.int .i64 1)])]), (.sl 1 false false [(.int .i64 3)])]), (.int .i64 9), (.bool false)]).bind fun r19 =>
 (sBin .eql r19.r (.int .i64 (-1))).bind fun r20 =>
 guardX r20 true
 ((T 36 [(.agg [(.sl 7 false false []), (.sl 1 false false []), (.sl 1 false false []), (.sl 2 false false []), (.sl 1 false false [])]), (.int .i64 0), (.bool false)]).bind fun r21 =>
 (sBin .eql r21.r (.int .i64 (-1))).bind fun r22 =>
 (asB r22).bind fun b23 =>
 some [b23])
 (some [false])
 (none))
 (some [false])
 (none))
 (some [false])
 (none))
 (some [false])
 (none))
 (some [false])
 (none))
 (some [false])
 (none))
 (some [false])
 (none))
 (some [false])
 (none))
 (some [false])
 (none))
 (some [false])
 (none)).bind fun vs24 =>
 some { r := (.bool (vs24.getD 0 false)) }
theorem r34 (T : TT) (k : Nat) : bodyE P H T k 34 [] = R34 T k  := by kernel_rfl
noncomputable def D34 (T : TT) (k : Nat) : List SVal → Option Res
  | [] => R34 T k 
  | a => bodyE P H T k 34 a
theorem d34 (T : TT) (k : Nat) (a : List SVal) : D34 T k a = bodyE P H T k 34 a := by
  unfold D34
  split
  · exact (r34 ..).symm
  · rfl
theorem t34 (k : Nat) : T (k + 1) 34 [] = R34 (T k) k  := (tb k 34 _ rfl).trans (r34 ..)
/-- limelight/tabs.List -/
def R35 (T : TT) (k : Nat) (x0a x0b x0c x0d x0e : SVal) : Option Res :=
 (T 65 [(.agg [(weak x0a), (weak x0b), (weak x0c), (weak x0d), (weak x0e)])]).bind fun r1 =>
 (sBin .neq r1.r (.int .i64 0)).bind fun r2 =>
 pickC r2
 (some { r := (.sl 1 false false []) })
 ((T 67 [(.agg [(weak x0a), (weak x0b), (weak x0c), (weak x0d), (weak x0e)])]).bind fun r3 =>
 (T 66 [r3.r]).bind fun r4 =>
 some { r := (.sl 1 false false r4.r.xs) })
theorem r35 (T : TT) (k : Nat) (x0a x0b x0c x0d x0e : SVal) : bodyE P H T k 35 [(.agg [x0a, x0b, x0c, x0d, x0e])] = R35 T k x0a x0b x0c x0d x0e := by kernel_rfl
noncomputable def D35 (T : TT) (k : Nat) : List SVal → Option Res
  | [(.agg [x0a, x0b, x0c, x0d, x0e])] => R35 T k x0a x0b x0c x0d x0e
  | a => bodyE P H T k 35 a
theorem d35 (T : TT) (k : Nat) (a : List SVal) : D35 T k a = bodyE P H T k 35 a := by
  unfold D35
  split
  · exact (r35 ..).symm
  · rfl
theorem t35 (k : Nat) (x0a x0b x0c x0d x0e : SVal) : T (k + 1) 35 [(.agg [x0a, x0b, x0c, x0d, x0e])] = R35 (T k) k x0a x0b x0c x0d x0e := (tb k 35 _ rfl).trans (r35 ..)
/-- limelight/tabs.Next -/
def R36 (T : TT) (k : Nat) (x0a x0b x0c x0d x0e x1 x2 : SVal) : Option Res :=
 ((T 65 [(.agg [(weak x0a), (weak x0b), (weak x0c), (weak x0d), (weak x0e)])]).bind fun r1 =>
 (sBin .neq r1.r (.int .i64 0)).bind fun r2 =>
 guardX r2 false
 ((sBin .lss x1 (.int .i64 0)).bind fun r3 =>
 guardX r3 false
 ((sLen x0a).bind fun r4 =>
 (sBin .geq x1 r4).bind fun r5 =>
 (asB r5).bind fun b6 =>
 some [b6])
 (some [true])
 (none))
 (some [true])
 (none)).bind fun vs7 =>
 pickC (.bool (vs7.getD 0 false))
 (some { r := (.int .i64 (-1)) })
 ((T 35 [(.agg [(weak x0a), (weak x0b), (weak x0c), (weak x0d), (weak x0e)])]).bind fun r8 =>
 (T 68 [(weak r8.r), x2]).bind fun r9 =>
 if (oneS r9.r) = true then
 ((sBin .eql x1 (.int .i64 0)).bind fun r10 =>
 guardX r10 false
 ((T 70 [(weak r9.r), x1]).bind fun r11 =>
 (asB r11.r).bind fun b12 =>
 some [b12])
 (some [true])
 (none)).bind fun vs13 =>
 pickC (.bool (vs13.getD 0 false))
 ((T 72 [(weak r9.r), x1]).bind fun r14 =>
 (T 71 [(weak r14.r), (.fn 69 [])]).bind fun r15 =>
 some { r := r15.r })
 ((T 44 [(weak x0a)]).bind fun r16 =>
 (T 68 [(weak r16.r), x2]).bind fun r17 =>
 (T 70 [(weak r17.r), x1]).bind fun r18 =>
 (sNot r18.r).bind fun r19 =>
 pickC r19
 ((T 71 [(weak r9.r), (.fn 69 [])]).bind fun r20 =>
 some { r := r20.r })
 ((T 72 [(weak r17.r), x1]).bind fun r21 =>
 (T 71 [(weak r21.r), (.fn 73 [(.rp [r9.r])])]).bind fun r22 =>
 some { r := r22.r }))
 else none)
theorem r36 (T : TT) (k : Nat) (x0a x0b x0c x0d x0e x1 x2 : SVal) : bodyE P H T k 36 [(.agg [x0a, x0b, x0c, x0d, x0e]), x1, x2] = R36 T k x0a x0b x0c x0d x0e x1 x2 := by kernel_rfl
noncomputable def D36 (T : TT) (k : Nat) : List SVal → Option Res
  | [(.agg [x0a, x0b, x0c, x0d, x0e]), x1, x2] => R36 T k x0a x0b x0c x0d x0e x1 x2
  | a => bodyE P H T k 36 a
theorem d36 (T : TT) (k : Nat) (a : List SVal) : D36 T k a = bodyE P H T k 36 a := by
  unfold D36
  split
  · exact (r36 ..).symm
  · rfl
theorem t36 (k : Nat) (x0a x0b x0c x0d x0e x1 x2 : SVal) : T (k + 1) 36 [(.agg [x0a, x0b, x0c, x0d, x0e]), x1, x2] = R36 (T k) k x0a x0b x0c x0d x0e x1 x2 := (tb k 36 _ rfl).trans (r36 ..)
/-- limelight/limelightref17.List -/
def R37 (T : TT) (k : Nat) (x0a x0b x0c x0d x0e : SVal) : Option Res :=
 (T 74 [(.agg [(weak x0a), (weak x0b), (weak x0c), (weak x0d), (weak x0e)]), (.int .i64 0)]).bind fun r1 =>
 some { r := (weak r1.r) }
theorem r37 (T : TT) (k : Nat) (x0a x0b x0c x0d x0e : SVal) : bodyE P H T k 37 [(.agg [x0a, x0b, x0c, x0d, x0e])] = R37 T k x0a x0b x0c x0d x0e := by kernel_rfl
theorem t37 (k : Nat) (x0a x0b x0c x0d x0e : SVal) : T (k + 1) 37 [(.agg [x0a, x0b, x0c, x0d, x0e])] = R37 (T k) k x0a x0b x0c x0d x0e := (tb k 37 _ rfl).trans (r37 ..)
end Go.Proofs.YtjcnilaogidhlaaGreat.K
