/- What the evaluator makes of the functions, by program (wip/tr/resid.py); each equation is checked by the kernel. -/
import Derived.Test.YtjcnilaogidhlaaGreatLmAJ
import Derived.Test.YtjcnilaogidhlaaGreatLmAB
import Derived.KernelRfl
set_option linter.unusedVariables false
set_option linter.unusedSimpArgs false
set_option linter.unnecessarySimpa false
set_option linter.all false
set_option maxRecDepth 100000
namespace Go.Proofs.YtjcnilaogidhlaaGreat.K
open Go Go.Lm
/-- limelight/limelightlaw16.ScopesTell -/
def R3 (T : TT) (k : Nat) (x0a x0b x0c x0d x0e x1 : SVal) : Option Res :=
 ((T 13 [(.agg [(weak x0a), (weak x0b), (weak x0c), (weak x0d), (weak x0e)])]).bind fun r1 =>
 (sNot r1.r).bind fun r2 =>
 guardX r2 false
 ((sLen x0a).bind fun r3 =>
 (sBin .gtr r3 (.int .i64 12)).bind fun r4 =>
 (asB r4).bind fun b5 =>
 some [b5])
 (some [true])
 (none)).bind fun vs6 =>
 pickC (.bool (vs6.getD 0 false))
 ((T 14 []).bind fun r7 =>
 some { r := r7.r })
 ((T 15 [(.agg [(weak x0a), (weak x0b), (weak x0c), (weak x0d), (weak x0e)]), x1]).bind fun r8 =>
 ((T 16 [(.agg [(weak x0a), (weak x0b), (weak x0c), (weak x0d), (weak x0e)])]).bind fun r9 =>
 (sBin .neq r9.r (.int .i64 0)).bind fun r10 =>
 guardX r10 false
 ((T 17 [(weak x0a), x1]).bind fun r11 =>
 (sNot r11.r).bind fun r12 =>
 (asB r12).bind fun b13 =>
 some [b13])
 (some [true])
 (none)).bind fun vs14 =>
 pickC (.bool (vs14.getD 0 false))
 (((sLen r8.r).bind fun r15 =>
 (sBin .eql r15 (.int .i64 0)).bind fun r16 =>
 guardX r16 true
 ((T 18 [(.agg [(weak x0a), (weak x0b), (weak x0c), (weak x0d), (weak x0e)]), x1]).bind fun r17 =>
 (sBin .eql r17.r (.int .i64 (-1))).bind fun r18 =>
 guardX r18 true
 ((T 19 [(.agg [(weak x0a), (weak x0b), (weak x0c), (weak x0d), (weak x0e)]), x1]).bind fun r19 =>
 (sBin .eql r19.r (.int .i64 (-1))).bind fun r20 =>
 guardX r20 true
 ((T 20 [(.agg [(weak x0a), (weak x0b), (weak x0c), (weak x0d), (weak x0e)]), x1]).bind fun r21 =>
 (sBin .eql r21.r (.int .i64 (-1))).bind fun r22 =>
 guardX r22 true
 ((T 14 []).bind fun r23 =>
 (asB r23.r).bind fun b24 =>
 some [b24])
 (some [false])
 (none))
 (some [false])
 (none))
 (some [false])
 (none))
 (some [false])
 (none)).bind fun vs25 =>
 some { r := (.bool (vs25.getD 0 false)) })
 (((T 22 [(.agg [(weak x0a), (weak x0b), (weak x0c), (weak x0d), (weak x0e)]), x1]).bind fun r26 =>
 (T 21 [(weak r8.r), (weak r26.r)]).bind fun r27 =>
 guardX r27.r true
 ((T 18 [(.agg [(weak x0a), (weak x0b), (weak x0c), (weak x0d), (weak x0e)]), x1]).bind fun r28 =>
 (T 23 [(.agg [(weak x0a), (weak x0b), (weak x0c), (weak x0d), (weak x0e)]), x1]).bind fun r29 =>
 (sBin .eql r28.r r29.r).bind fun r30 =>
 guardX r30 true
 ((T 19 [(.agg [(weak x0a), (weak x0b), (weak x0c), (weak x0d), (weak x0e)]), x1]).bind fun r31 =>
 (T 24 [(.agg [(weak x0a), (weak x0b), (weak x0c), (weak x0d), (weak x0e)]), x1]).bind fun r32 =>
 (sBin .eql r31.r r32.r).bind fun r33 =>
 guardX r33 true
 ((T 20 [(.agg [(weak x0a), (weak x0b), (weak x0c), (weak x0d), (weak x0e)]), x1]).bind fun r34 =>
 (T 25 [(.agg [(weak x0a), (weak x0b), (weak x0c), (weak x0d), (weak x0e)]), x1]).bind fun r35 =>
 (sBin .eql r34.r r35.r).bind fun r36 =>
 guardX r36 true
 ((T 14 []).bind fun r37 =>
 (asB r37.r).bind fun b38 =>
 some [b38])
 (some [false])
 (none))
 (some [false])
 (none))
 (some [false])
 (none))
 (some [false])
 (none)).bind fun vs39 =>
 some { r := (.bool (vs39.getD 0 false)) }))
theorem r3 (T : TT) (k : Nat) (x0a x0b x0c x0d x0e x1 : SVal) : bodyE P H T k 3 [(.agg [x0a, x0b, x0c, x0d, x0e]), x1] = R3 T k x0a x0b x0c x0d x0e x1 := by kernel_rfl
theorem t3 (k : Nat) (x0a x0b x0c x0d x0e x1 : SVal) : T (k + 1) 3 [(.agg [x0a, x0b, x0c, x0d, x0e]), x1] = R3 (T k) k x0a x0b x0c x0d x0e x1 := (tb k 3 _ rfl).trans (r3 ..)
/-- limelight/limelightlaw16.ScopesOnce -/
def R4 (T : TT) (k : Nat) (x0a x0b x0c x0d x0e : SVal) : Option Res :=
 ((T 13 [(.agg [(weak x0a), (weak x0b), (weak x0c), (weak x0d), (weak x0e)])]).bind fun r1 =>
 (sNot r1.r).bind fun r2 =>
 guardX r2 false
 ((sLen x0a).bind fun r3 =>
 (sBin .gtr r3 (.int .i64 12)).bind fun r4 =>
 guardX r4 false
 ((T 16 [(.agg [(weak x0a), (weak x0b), (weak x0c), (weak x0d), (weak x0e)])]).bind fun r5 =>
 (sBin .neq r5.r (.int .i64 0)).bind fun r6 =>
 (asB r6).bind fun b7 =>
 some [b7])
 (some [true])
 (none))
 (some [true])
 (none)).bind fun vs8 =>
 pickC (.bool (vs8.getD 0 false))
 ((T 14 []).bind fun r9 =>
 some { r := r9.r })
 ((T 26 [(weak x0a)]).bind fun r10 =>
 loopN (fun s11 next11 =>
 (sLen (SVal.cell s11.k0 0)).bind fun r12 =>
 (sBin .lss s11.k3 r12).bind fun r13 =>
 pickC r13
 ((T 15 [(.agg [(weak (SVal.cell s11.k0 0)), (weak (SVal.cell s11.k0 1)), (weak (SVal.cell s11.k0 2)), (weak (SVal.cell s11.k0 3)), (weak (SVal.cell s11.k0 4))]), s11.k3]).bind fun r14 =>
 loopN (fun s15 next15 =>
 (sLen s15.k4).bind fun r16 =>
 (sBin .lss s15.k5 r16).bind fun r17 =>
 pickC r17
 (((sIdx false 1 s15.k4 s15.k5).bind fun e18 =>
 (T 27 [(.sl 1 false false s15.k2.xs), e18]).bind fun r19 =>
 if isSc1 r19.r = true then
 guardX r19.r false
 ((sIdx false 1 s15.k4 s15.k5).bind fun e20 =>
 (T 18 [(.agg [(weak (SVal.cell s15.k0 0)), (weak (SVal.cell s15.k0 1)), (weak (SVal.cell s15.k0 2)), (weak (SVal.cell s15.k0 3)), (weak (SVal.cell s15.k0 4))]), e20]).bind fun r21 =>
 (sBin .neq r21.r s15.k3).bind fun r22 =>
 guardX r22 false
 ((sIdx false 1 s15.k4 s15.k5).bind fun e23 =>
 (T 19 [(.agg [(weak (SVal.cell s15.k0 0)), (weak (SVal.cell s15.k0 1)), (weak (SVal.cell s15.k0 2)), (weak (SVal.cell s15.k0 3)), (weak (SVal.cell s15.k0 4))]), e23]).bind fun r24 =>
 (sBin .lss r24.r (.int .i64 0)).bind fun r25 =>
 (asB r25).bind fun b26 =>
 some [b26])
 (some [true])
 (none))
 (some [true])
 (none)
 else none).bind fun vs27 =>
 pickC (.bool (vs27.getD 0 false))
 (some { r := (.bool false) })
 ((sIdx false 1 s15.k4 s15.k5).bind fun e28 =>
 if (List.all [[.v e28]] allOne) = true then
 if (s15.k2.xs.length + ([e28] : List SVal).length) * 8 ≤ maxAppend then
 (sBin .eql s15.k5 (.int .i64 0)).bind fun r29 =>
 pickC r29
 ((sBin .add s15.k5 (.int .i64 1)).bind fun r30 =>
 next15 ⟨[(.rp [(SVal.cell s15.k0 0), (SVal.cell s15.k0 1), (SVal.cell s15.k0 2), (SVal.cell s15.k0 3), (SVal.cell s15.k0 4)]), (weak s15.k1), (.sl 1 true false (s15.k2.xs ++ ([e28] : List SVal))), s15.k3, (weak s15.k4), r30], [], false⟩)
 ((sBin .sub s15.k5 (.int .i64 1)).bind fun r31 =>
 (sIdx false 1 s15.k4 r31).bind fun e32 =>
 (T 19 [(.agg [(weak (SVal.cell s15.k0 0)), (weak (SVal.cell s15.k0 1)), (weak (SVal.cell s15.k0 2)), (weak (SVal.cell s15.k0 3)), (weak (SVal.cell s15.k0 4))]), e32]).bind fun r33 =>
 (sIdx false 1 s15.k4 s15.k5).bind fun e34 =>
 (T 19 [(.agg [(weak (SVal.cell s15.k0 0)), (weak (SVal.cell s15.k0 1)), (weak (SVal.cell s15.k0 2)), (weak (SVal.cell s15.k0 3)), (weak (SVal.cell s15.k0 4))]), e34]).bind fun r35 =>
 ((sBin .eql r33.r (.int .i64 0)).bind fun r36 =>
 guardX r36 true
 ((sBin .gtr r35.r (.int .i64 0)).bind fun r37 =>
 guardX r37 false
 ((sBin .gtr r35.r (.int .i64 0)).bind fun r38 =>
 guardX r38 true
 ((sBin .gtr r33.r r35.r).bind fun r39 =>
 guardX r39 false
 ((sBin .eql r33.r r35.r).bind fun r40 =>
 guardX r40 true
 ((sBin .sub s15.k5 (.int .i64 1)).bind fun r41 =>
 (sIdx false 1 s15.k4 r41).bind fun e42 =>
 (T 28 [(weak s15.k1), e42]).bind fun r43 =>
 (sIdx false 1 s15.k4 s15.k5).bind fun e44 =>
 (T 28 [(weak s15.k1), e44]).bind fun r45 =>
 (sBin .gtr r43.r r45.r).bind fun r46 =>
 (asB r46).bind fun b47 =>
 some [b47])
 (some [false])
 (none))
 (some [true])
 (none))
 ((sBin .eql r33.r r35.r).bind fun r48 =>
 guardX r48 true
 ((sBin .sub s15.k5 (.int .i64 1)).bind fun r49 =>
 (sIdx false 1 s15.k4 r49).bind fun e50 =>
 (T 28 [(weak s15.k1), e50]).bind fun r51 =>
 (sIdx false 1 s15.k4 s15.k5).bind fun e52 =>
 (T 28 [(weak s15.k1), e52]).bind fun r53 =>
 (sBin .gtr r51.r r53.r).bind fun r54 =>
 (asB r54).bind fun b55 =>
 some [b55])
 (some [false])
 (none))
 (none))
 (some [true])
 (none))
 ((sBin .gtr r35.r (.int .i64 0)).bind fun r56 =>
 guardX r56 true
 ((sBin .gtr r33.r r35.r).bind fun r57 =>
 guardX r57 false
 ((sBin .eql r33.r r35.r).bind fun r58 =>
 guardX r58 true
 ((sBin .sub s15.k5 (.int .i64 1)).bind fun r59 =>
 (sIdx false 1 s15.k4 r59).bind fun e60 =>
 (T 28 [(weak s15.k1), e60]).bind fun r61 =>
 (sIdx false 1 s15.k4 s15.k5).bind fun e62 =>
 (T 28 [(weak s15.k1), e62]).bind fun r63 =>
 (sBin .gtr r61.r r63.r).bind fun r64 =>
 (asB r64).bind fun b65 =>
 some [b65])
 (some [false])
 (none))
 (some [true])
 (none))
 ((sBin .eql r33.r r35.r).bind fun r66 =>
 guardX r66 true
 ((sBin .sub s15.k5 (.int .i64 1)).bind fun r67 =>
 (sIdx false 1 s15.k4 r67).bind fun e68 =>
 (T 28 [(weak s15.k1), e68]).bind fun r69 =>
 (sIdx false 1 s15.k4 s15.k5).bind fun e70 =>
 (T 28 [(weak s15.k1), e70]).bind fun r71 =>
 (sBin .gtr r69.r r71.r).bind fun r72 =>
 (asB r72).bind fun b73 =>
 some [b73])
 (some [false])
 (none))
 (none))
 (none)).bind fun vs74 =>
 pickC (.bool (vs74.getD 0 false))
 (some { r := (.bool false) })
 ((sBin .add s15.k5 (.int .i64 1)).bind fun r75 =>
 next15 ⟨[(.rp [(SVal.cell s15.k0 0), (SVal.cell s15.k0 1), (SVal.cell s15.k0 2), (SVal.cell s15.k0 3), (SVal.cell s15.k0 4)]), (weak s15.k1), (.sl 1 true false (s15.k2.xs ++ ([e28] : List SVal))), s15.k3, (weak s15.k4), r75], [], false⟩))
 else none
 else none))
 ((sBin .add s15.k3 (.int .i64 1)).bind fun r76 =>
 next11 ⟨[(.rp [(SVal.cell s15.k0 0), (SVal.cell s15.k0 1), (SVal.cell s15.k0 2), (SVal.cell s15.k0 3), (SVal.cell s15.k0 4)]), (weak s15.k1), (.sl 1 true false s15.k2.xs), r76], [], false⟩)) k ⟨[(.rp [(SVal.cell s11.k0 0), (SVal.cell s11.k0 1), (SVal.cell s11.k0 2), (SVal.cell s11.k0 3), (SVal.cell s11.k0 4)]), (weak s11.k1), (.sl 1 true false s11.k2.xs), s11.k3, (weak r14.r), (.int .i64 0)], [], false⟩)
 (loopN (fun s77 next77 =>
 (sLen (SVal.cell s77.k0 0)).bind fun r78 =>
 (sBin .lss s77.k2 r78).bind fun r79 =>
 pickC r79
 (((T 29 [(.agg [(weak (SVal.cell s77.k0 0)), (weak (SVal.cell s77.k0 1)), (weak (SVal.cell s77.k0 2)), (weak (SVal.cell s77.k0 3)), (weak (SVal.cell s77.k0 4))]), s77.k2]).bind fun r80 =>
 guardX r80.r true
 ((T 20 [(.agg [(weak (SVal.cell s77.k0 0)), (weak (SVal.cell s77.k0 1)), (weak (SVal.cell s77.k0 2)), (weak (SVal.cell s77.k0 3)), (weak (SVal.cell s77.k0 4))]), s77.k2]).bind fun r81 =>
 (sBin .eql r81.r (.int .i64 (-1))).bind fun r82 =>
 guardX r82 true
 ((T 27 [(.sl 1 false false s77.k1.xs), s77.k2]).bind fun r83 =>
 if isSc1 r83.r = true then
 (sNot r83.r).bind fun r84 =>
 (asB r84).bind fun b85 =>
 some [b85]
 else none)
 (some [false])
 (none))
 (some [false])
 (none)).bind fun vs86 =>
 pickC (.bool (vs86.getD 0 false))
 (some { r := (.bool false) })
 ((sBin .add s77.k2 (.int .i64 1)).bind fun r87 =>
 next77 ⟨[(.rp [(SVal.cell s77.k0 0), (SVal.cell s77.k0 1), (SVal.cell s77.k0 2), (SVal.cell s77.k0 3), (SVal.cell s77.k0 4)]), (.sl 1 true false s77.k1.xs), r87], [], false⟩))
 ((T 14 []).bind fun r88 =>
 some { r := r88.r })) k ⟨[(.rp [(SVal.cell s11.k0 0), (SVal.cell s11.k0 1), (SVal.cell s11.k0 2), (SVal.cell s11.k0 3), (SVal.cell s11.k0 4)]), (.sl 1 true false s11.k2.xs), (.int .i64 0)], [], false⟩)) k ⟨[(.rp [x0a, x0b, x0c, x0d, x0e]), (weak r10.r), (.sl 1 true false []), (.int .i64 0)], [], false⟩)
theorem r4 (T : TT) (k : Nat) (x0a x0b x0c x0d x0e : SVal) : bodyE P H T k 4 [(.agg [x0a, x0b, x0c, x0d, x0e])] = R4 T k x0a x0b x0c x0d x0e := by kernel_rfl
theorem t4 (k : Nat) (x0a x0b x0c x0d x0e : SVal) : T (k + 1) 4 [(.agg [x0a, x0b, x0c, x0d, x0e])] = R4 (T k) k x0a x0b x0c x0d x0e := (tb k 4 _ rfl).trans (r4 ..)
/-- limelight/limelightlaw16.ScopesOwn -/
def R5 (T : TT) (k : Nat) (x0a x0b x0c x0d x0e x1 : SVal) : Option Res :=
 ((T 13 [(.agg [(weak x0a), (weak x0b), (weak x0c), (weak x0d), (weak x0e)])]).bind fun r1 =>
 (sNot r1.r).bind fun r2 =>
 guardX r2 false
 ((sLen x0a).bind fun r3 =>
 (sBin .gtr r3 (.int .i64 12)).bind fun r4 =>
 guardX r4 false
 ((T 16 [(.agg [(weak x0a), (weak x0b), (weak x0c), (weak x0d), (weak x0e)])]).bind fun r5 =>
 (sBin .neq r5.r (.int .i64 0)).bind fun r6 =>
 guardX r6 false
 ((T 17 [(weak x0a), x1]).bind fun r7 =>
 (sNot r7.r).bind fun r8 =>
 (asB r8).bind fun b9 =>
 some [b9])
 (some [true])
 (none))
 (some [true])
 (none))
 (some [true])
 (none)).bind fun vs10 =>
 pickC (.bool (vs10.getD 0 false))
 ((T 14 []).bind fun r11 =>
 some { r := r11.r })
 ((T 18 [(.agg [(weak x0a), (weak x0b), (weak x0c), (weak x0d), (weak x0e)]), x1]).bind fun r12 =>
 (T 30 [(weak x0a), x1]).bind fun r13 =>
 (T 28 [(weak r13.r), r12.r]).bind fun r14 =>
 (sBin .eql r12.r (.int .i64 (-1))).bind fun r15 =>
 pickC r15
 ((sLen r13.r).bind fun r16 =>
 (sBin .lss r16 (.int .i64 1)).bind fun r17 =>
 pickC r17
 (some { r := (.bool false) })
 (loopN (fun s18 next18 =>
 (sBin .lss s18.k5 s18.k4).bind fun r19 =>
 pickC r19
 ((sIdx false 1 s18.k3 s18.k5).bind fun e20 =>
 (T 31 [(.agg [(weak (SVal.cell s18.k1 0)), (weak (SVal.cell s18.k1 1)), (weak (SVal.cell s18.k1 2)), (weak (SVal.cell s18.k1 3)), (weak (SVal.cell s18.k1 4))]), e20]).bind fun r21 =>
 pickC r21.r
 (some { r := (.bool false) })
 ((sBin .add s18.k5 (.int .i64 1)).bind fun r22 =>
 next18 ⟨[s18.k0, (.rp [(SVal.cell s18.k1 0), (SVal.cell s18.k1 1), (SVal.cell s18.k1 2), (SVal.cell s18.k1 3), (SVal.cell s18.k1 4)]), s18.k2, (weak s18.k3), s18.k4, r22], [], false⟩))
 ((T 15 [(.agg [(weak (SVal.cell s18.k1 0)), (weak (SVal.cell s18.k1 1)), (weak (SVal.cell s18.k1 2)), (weak (SVal.cell s18.k1 3)), (weak (SVal.cell s18.k1 4))]), s18.k0]).bind fun r23 =>
 loopN (fun s24 next24 =>
 (sLen s24.k2).bind fun r25 =>
 (sBin .lss s24.k3 r25).bind fun r26 =>
 pickC r26
 (((sIdx false 1 s24.k2 s24.k3).bind fun e27 =>
 (T 29 [(.agg [(weak (SVal.cell s24.k0 0)), (weak (SVal.cell s24.k0 1)), (weak (SVal.cell s24.k0 2)), (weak (SVal.cell s24.k0 3)), (weak (SVal.cell s24.k0 4))]), e27]).bind fun r28 =>
 (sNot r28.r).bind fun r29 =>
 guardX r29 true
 ((sIdx false 1 s24.k2 s24.k3).bind fun e30 =>
 (T 31 [(.agg [(weak (SVal.cell s24.k0 0)), (weak (SVal.cell s24.k0 1)), (weak (SVal.cell s24.k0 2)), (weak (SVal.cell s24.k0 3)), (weak (SVal.cell s24.k0 4))]), e30]).bind fun r31 =>
 (sNot r31.r).bind fun r32 =>
 (asB r32).bind fun b33 =>
 some [b33])
 (some [false])
 (none)).bind fun vs34 =>
 pickC (.bool (vs34.getD 0 false))
 (some { r := (.bool false) })
 ((sBin .add s24.k3 (.int .i64 1)).bind fun r35 =>
 next24 ⟨[(.rp [(SVal.cell s24.k0 0), (SVal.cell s24.k0 1), (SVal.cell s24.k0 2), (SVal.cell s24.k0 3), (SVal.cell s24.k0 4)]), s24.k1, (weak s24.k2), r35], [], false⟩))
 (((sBin .eql s24.k1 (.int .i64 (-1))).bind fun r36 =>
 guardX r36 false
 ((T 31 [(.agg [(weak (SVal.cell s24.k0 0)), (weak (SVal.cell s24.k0 1)), (weak (SVal.cell s24.k0 2)), (weak (SVal.cell s24.k0 3)), (weak (SVal.cell s24.k0 4))]), s24.k1]).bind fun r37 =>
 guardX r37.r true
 ((T 14 []).bind fun r38 =>
 (asB r38.r).bind fun b39 =>
 some [b39])
 (some [false])
 (none))
 ((T 14 []).bind fun r40 =>
 (asB r40.r).bind fun b41 =>
 some [b41])
 (none)).bind fun vs42 =>
 some { r := (.bool (vs42.getD 0 false)) })) k ⟨[(.rp [(SVal.cell s18.k1 0), (SVal.cell s18.k1 1), (SVal.cell s18.k1 2), (SVal.cell s18.k1 3), (SVal.cell s18.k1 4)]), s18.k2, (weak r23.r), (.int .i64 0)], [], false⟩)) k ⟨[x1, (.rp [x0a, x0b, x0c, x0d, x0e]), r12.r, (weak r13.r), r16, (.int .i64 1)], [], false⟩))
 ((sBin .lss r14.r (.int .i64 1)).bind fun r43 =>
 pickC r43
 (some { r := (.bool false) })
 (loopN (fun s44 next44 =>
 (sBin .lss s44.k5 s44.k4).bind fun r45 =>
 pickC r45
 ((sIdx false 1 s44.k3 s44.k5).bind fun e46 =>
 (T 31 [(.agg [(weak (SVal.cell s44.k1 0)), (weak (SVal.cell s44.k1 1)), (weak (SVal.cell s44.k1 2)), (weak (SVal.cell s44.k1 3)), (weak (SVal.cell s44.k1 4))]), e46]).bind fun r47 =>
 pickC r47.r
 (some { r := (.bool false) })
 ((sBin .add s44.k5 (.int .i64 1)).bind fun r48 =>
 next44 ⟨[s44.k0, (.rp [(SVal.cell s44.k1 0), (SVal.cell s44.k1 1), (SVal.cell s44.k1 2), (SVal.cell s44.k1 3), (SVal.cell s44.k1 4)]), s44.k2, (weak s44.k3), s44.k4, r48], [], false⟩))
 ((T 15 [(.agg [(weak (SVal.cell s44.k1 0)), (weak (SVal.cell s44.k1 1)), (weak (SVal.cell s44.k1 2)), (weak (SVal.cell s44.k1 3)), (weak (SVal.cell s44.k1 4))]), s44.k0]).bind fun r49 =>
 loopN (fun s50 next50 =>
 (sLen s50.k2).bind fun r51 =>
 (sBin .lss s50.k3 r51).bind fun r52 =>
 pickC r52
 (((sIdx false 1 s50.k2 s50.k3).bind fun e53 =>
 (T 29 [(.agg [(weak (SVal.cell s50.k0 0)), (weak (SVal.cell s50.k0 1)), (weak (SVal.cell s50.k0 2)), (weak (SVal.cell s50.k0 3)), (weak (SVal.cell s50.k0 4))]), e53]).bind fun r54 =>
 (sNot r54.r).bind fun r55 =>
 guardX r55 true
 ((sIdx false 1 s50.k2 s50.k3).bind fun e56 =>
 (T 31 [(.agg [(weak (SVal.cell s50.k0 0)), (weak (SVal.cell s50.k0 1)), (weak (SVal.cell s50.k0 2)), (weak (SVal.cell s50.k0 3)), (weak (SVal.cell s50.k0 4))]), e56]).bind fun r57 =>
 (sNot r57.r).bind fun r58 =>
 (asB r58).bind fun b59 =>
 some [b59])
 (some [false])
 (none)).bind fun vs60 =>
 pickC (.bool (vs60.getD 0 false))
 (some { r := (.bool false) })
 ((sBin .add s50.k3 (.int .i64 1)).bind fun r61 =>
 next50 ⟨[(.rp [(SVal.cell s50.k0 0), (SVal.cell s50.k0 1), (SVal.cell s50.k0 2), (SVal.cell s50.k0 3), (SVal.cell s50.k0 4)]), s50.k1, (weak s50.k2), r61], [], false⟩))
 (((sBin .eql s50.k1 (.int .i64 (-1))).bind fun r62 =>
 guardX r62 false
 ((T 31 [(.agg [(weak (SVal.cell s50.k0 0)), (weak (SVal.cell s50.k0 1)), (weak (SVal.cell s50.k0 2)), (weak (SVal.cell s50.k0 3)), (weak (SVal.cell s50.k0 4))]), s50.k1]).bind fun r63 =>
 guardX r63.r true
 ((T 14 []).bind fun r64 =>
 (asB r64.r).bind fun b65 =>
 some [b65])
 (some [false])
 (none))
 ((T 14 []).bind fun r66 =>
 (asB r66.r).bind fun b67 =>
 some [b67])
 (none)).bind fun vs68 =>
 some { r := (.bool (vs68.getD 0 false)) })) k ⟨[(.rp [(SVal.cell s44.k1 0), (SVal.cell s44.k1 1), (SVal.cell s44.k1 2), (SVal.cell s44.k1 3), (SVal.cell s44.k1 4)]), s44.k2, (weak r49.r), (.int .i64 0)], [], false⟩)) k ⟨[x1, (.rp [x0a, x0b, x0c, x0d, x0e]), r12.r, (weak r13.r), r14.r, (.int .i64 1)], [], false⟩)))
theorem r5 (T : TT) (k : Nat) (x0a x0b x0c x0d x0e x1 : SVal) : bodyE P H T k 5 [(.agg [x0a, x0b, x0c, x0d, x0e]), x1] = R5 T k x0a x0b x0c x0d x0e x1 := by kernel_rfl
theorem t5 (k : Nat) (x0a x0b x0c x0d x0e x1 : SVal) : T (k + 1) 5 [(.agg [x0a, x0b, x0c, x0d, x0e]), x1] = R5 (T k) k x0a x0b x0c x0d x0e x1 := (tb k 5 _ rfl).trans (r5 ..)
/-- limelight/limelightlaw16.ScopesPlaces -/
def R6 (T : TT) (k : Nat) (x0a x0b x0c x0d x0e : SVal) : Option Res :=
 ((T 13 [(.agg [(weak x0a), (weak x0b), (weak x0c), (weak x0d), (weak x0e)])]).bind fun r1 =>
 (sNot r1.r).bind fun r2 =>
 guardX r2 false
 ((sLen x0a).bind fun r3 =>
 (sBin .gtr r3 (.int .i64 12)).bind fun r4 =>
 guardX r4 false
 ((T 16 [(.agg [(weak x0a), (weak x0b), (weak x0c), (weak x0d), (weak x0e)])]).bind fun r5 =>
 (sBin .neq r5.r (.int .i64 0)).bind fun r6 =>
 (asB r6).bind fun b7 =>
 some [b7])
 (some [true])
 (none))
 (some [true])
 (none)).bind fun vs8 =>
 pickC (.bool (vs8.getD 0 false))
 ((T 14 []).bind fun r9 =>
 some { r := r9.r })
 ((T 32 [(weak x0d)]).bind fun r10 =>
 loopN (fun s11 next11 =>
 (sLen (SVal.cell s11.k0 0)).bind fun r12 =>
 (sBin .lss s11.k2 r12).bind fun r13 =>
 pickC r13
 ((T 20 [(.agg [(weak (SVal.cell s11.k0 0)), (weak (SVal.cell s11.k0 1)), (weak (SVal.cell s11.k0 2)), (weak (SVal.cell s11.k0 3)), (weak (SVal.cell s11.k0 4))]), s11.k2]).bind fun r14 =>
 (T 28 [(weak s11.k1), s11.k2]).bind fun r15 =>
 ((sBin .lss r15.r (.int .i64 0)).bind fun r16 =>
 guardX r16 true
 ((sBin .neq r14.r (.int .i64 (-1))).bind fun r17 =>
 (asB r17).bind fun b18 =>
 some [b18])
 (some [false])
 (none)).bind fun vs19 =>
 pickC (.bool (vs19.getD 0 false))
 (some { r := (.bool false) })
 (((sBin .geq r15.r (.int .i64 0)).bind fun r20 =>
 guardX r20 true
 ((sBin .neq r14.r (.int .i64 (-1))).bind fun r21 =>
 guardX r21 true
 ((sIdx true 2 (SVal.cell s11.k0 3) r15.r).bind fun e22 =>
 (sBin .neq r14.r (SVal.cell e22 1)).bind fun r23 =>
 guardX r23 false
 ((T 33 [(weak (SVal.cell s11.k0 0)), s11.k2, r14.r]).bind fun r24 =>
 (asB r24.r).bind fun b25 =>
 some [b25])
 (some [true])
 (none))
 (some [false])
 (none))
 (some [false])
 (none)).bind fun vs26 =>
 pickC (.bool (vs26.getD 0 false))
 (some { r := (.bool false) })
 ((sBin .eql r14.r (.int .i64 (-1))).bind fun r27 =>
 pickC r27
 ((sBin .add s11.k2 (.int .i64 1)).bind fun r28 =>
 next11 ⟨[(.rp [(SVal.cell s11.k0 0), (SVal.cell s11.k0 1), (SVal.cell s11.k0 2), (SVal.cell s11.k0 3), (SVal.cell s11.k0 4)]), (weak s11.k1), r28], [], false⟩)
 (loopN (fun s29 next29 =>
 (sLen (SVal.cell s29.k0 0)).bind fun r30 =>
 (sBin .lss s29.k3 r30).bind fun r31 =>
 pickC r31
 ((T 15 [(.agg [(weak (SVal.cell s29.k0 0)), (weak (SVal.cell s29.k0 1)), (weak (SVal.cell s29.k0 2)), (weak (SVal.cell s29.k0 3)), (weak (SVal.cell s29.k0 4))]), s29.k3]).bind fun r32 =>
 (T 27 [(weak r32.r), s29.k2]).bind fun r33 =>
 if isSc1 r33.r = true then
 pickC r33.r
 (some { r := (.bool false) })
 ((sBin .add s29.k3 (.int .i64 1)).bind fun r34 =>
 next29 ⟨[(.rp [(SVal.cell s29.k0 0), (SVal.cell s29.k0 1), (SVal.cell s29.k0 2), (SVal.cell s29.k0 3), (SVal.cell s29.k0 4)]), (weak s29.k1), s29.k2, r34], [], false⟩)
 else none)
 ((sBin .add s29.k2 (.int .i64 1)).bind fun r35 =>
 next11 ⟨[(.rp [(SVal.cell s29.k0 0), (SVal.cell s29.k0 1), (SVal.cell s29.k0 2), (SVal.cell s29.k0 3), (SVal.cell s29.k0 4)]), (weak s29.k1), r35], [], false⟩)) k ⟨[(.rp [(SVal.cell s11.k0 0), (SVal.cell s11.k0 1), (SVal.cell s11.k0 2), (SVal.cell s11.k0 3), (SVal.cell s11.k0 4)]), (weak s11.k1), s11.k2, (.int .i64 0)], [], false⟩))))
 ((T 14 []).bind fun r36 =>
 some { r := r36.r })) k ⟨[(.rp [x0a, x0b, x0c, x0d, x0e]), (weak r10.r), (.int .i64 0)], [], false⟩)
theorem r6 (T : TT) (k : Nat) (x0a x0b x0c x0d x0e : SVal) : bodyE P H T k 6 [(.agg [x0a, x0b, x0c, x0d, x0e])] = R6 T k x0a x0b x0c x0d x0e := by kernel_rfl
theorem t6 (k : Nat) (x0a x0b x0c x0d x0e : SVal) : T (k + 1) 6 [(.agg [x0a, x0b, x0c, x0d, x0e])] = R6 (T k) k x0a x0b x0c x0d x0e := (tb k 6 _ rfl).trans (r6 ..)
/-- limelight/limelightlaw16.ScopesFlat -/
def R7 (T : TT) (k : Nat) (x0a x0b x0c x0d x0e x1 : SVal) : Option Res :=
 ((T 13 [(.agg [(weak x0a), (weak x0b), (weak x0c), (weak x0d), (weak x0e)])]).bind fun r1 =>
 (sNot r1.r).bind fun r2 =>
 guardX r2 false
 ((sLen x0a).bind fun r3 =>
 (sBin .gtr r3 (.int .i64 12)).bind fun r4 =>
 guardX r4 false
 ((T 16 [(.agg [(weak x0a), (weak x0b), (weak x0c), (weak x0d), (weak x0e)])]).bind fun r5 =>
 (sBin .neq r5.r (.int .i64 0)).bind fun r6 =>
 (asB r6).bind fun b7 =>
 some [b7])
 (some [true])
 (none))
 (some [true])
 (none)).bind fun vs8 =>
 pickC (.bool (vs8.getD 0 false))
 ((T 14 []).bind fun r9 =>
 some { r := r9.r })
 ((T 15 [(.agg [(weak x0a), (weak x0b), (weak x0c), (weak x0d), (weak x0e)]), x1]).bind fun r10 =>
 (T 26 [(weak x0a)]).bind fun r11 =>
 loopN (fun s12 next12 =>
 (sLen s12.k1).bind fun r13 =>
 (sBin .lss s12.k3 r13).bind fun r14 =>
 pickC r14
 ((sIdx false 1 s12.k1 s12.k3).bind fun e15 =>
 (T 19 [(.agg [(weak (SVal.cell s12.k0 0)), (weak (SVal.cell s12.k0 1)), (weak (SVal.cell s12.k0 2)), (weak (SVal.cell s12.k0 3)), (weak (SVal.cell s12.k0 4))]), e15]).bind fun r16 =>
 (sBin .gtr r16.r (.int .i64 0)).bind fun r17 =>
 pickC r17
 ((T 14 []).bind fun r18 =>
 some { r := r18.r })
 ((sBin .add s12.k3 (.int .i64 1)).bind fun r19 =>
 next12 ⟨[(.rp [(SVal.cell s12.k0 0), (SVal.cell s12.k0 1), (SVal.cell s12.k0 2), (SVal.cell s12.k0 3), (SVal.cell s12.k0 4)]), (weak s12.k1), (weak s12.k2), r19], [], false⟩))
 (loopN (fun s20 next20 =>
 (sLen s20.k0).bind fun r21 =>
 (sBin .lss s20.k2 r21).bind fun r22 =>
 pickC r22
 ((sIdx false 1 s20.k0 s20.k2).bind fun e23 =>
 (T 28 [(weak s20.k1), e23]).bind fun r24 =>
 ((sBin .lss r24.r (.int .i64 0)).bind fun r25 =>
 guardX r25 false
 ((sBin .gtr s20.k2 (.int .i64 0)).bind fun r26 =>
 guardX r26 true
 ((sBin .sub s20.k2 (.int .i64 1)).bind fun r27 =>
 (sIdx false 1 s20.k0 r27).bind fun e28 =>
 (T 28 [(weak s20.k1), e28]).bind fun r29 =>
 (sBin .leq r24.r r29.r).bind fun r30 =>
 (asB r30).bind fun b31 =>
 some [b31])
 (some [false])
 (none))
 (some [true])
 (none)).bind fun vs32 =>
 pickC (.bool (vs32.getD 0 false))
 (some { r := (.bool false) })
 ((sBin .add s20.k2 (.int .i64 1)).bind fun r33 =>
 next20 ⟨[(weak s20.k0), (weak s20.k1), r33], [], false⟩))
 ((T 14 []).bind fun r34 =>
 some { r := r34.r })) k ⟨[(weak s12.k1), (weak s12.k2), (.int .i64 0)], [], false⟩)) k ⟨[(.rp [x0a, x0b, x0c, x0d, x0e]), (weak r10.r), (weak r11.r), (.int .i64 0)], [], false⟩)
theorem r7 (T : TT) (k : Nat) (x0a x0b x0c x0d x0e x1 : SVal) : bodyE P H T k 7 [(.agg [x0a, x0b, x0c, x0d, x0e]), x1] = R7 T k x0a x0b x0c x0d x0e x1 := by kernel_rfl
theorem t7 (k : Nat) (x0a x0b x0c x0d x0e x1 : SVal) : T (k + 1) 7 [(.agg [x0a, x0b, x0c, x0d, x0e]), x1] = R7 (T k) k x0a x0b x0c x0d x0e x1 := (tb k 7 _ rfl).trans (r7 ..)
/-- limelight/limelightlaw17.TabsTell -/
def R8 (T : TT) (k : Nat) (x0a x0b x0c x0d x0e x1 : SVal) : Option Res :=
 ((T 13 [(.agg [(weak x0a), (weak x0b), (weak x0c), (weak x0d), (weak x0e)])]).bind fun r1 =>
 (sNot r1.r).bind fun r2 =>
 guardX r2 false
 ((sLen x0a).bind fun r3 =>
 (sBin .gtr r3 (.int .i64 12)).bind fun r4 =>
 (asB r4).bind fun b5 =>
 some [b5])
 (some [true])
 (none)).bind fun vs6 =>
 pickC (.bool (vs6.getD 0 false))
 ((T 34 []).bind fun r7 =>
 some { r := r7.r })
 ((T 35 [(.agg [(weak x0a), (weak x0b), (weak x0c), (weak x0d), (weak x0e)])]).bind fun r8 =>
 (T 36 [(.agg [(weak x0a), (weak x0b), (weak x0c), (weak x0d), (weak x0e)]), x1, (.bool false)]).bind fun r9 =>
 (T 36 [(.agg [(weak x0a), (weak x0b), (weak x0c), (weak x0d), (weak x0e)]), x1, (.bool true)]).bind fun r10 =>
 (T 16 [(.agg [(weak x0a), (weak x0b), (weak x0c), (weak x0d), (weak x0e)])]).bind fun r11 =>
 (sBin .neq r11.r (.int .i64 0)).bind fun r12 =>
 pickC r12
 (((sLen r8.r).bind fun r13 =>
 (sBin .eql r13 (.int .i64 0)).bind fun r14 =>
 guardX r14 true
 ((sBin .eql r9.r (.int .i64 (-1))).bind fun r15 =>
 guardX r15 true
 ((sBin .eql r10.r (.int .i64 (-1))).bind fun r16 =>
 guardX r16 true
 ((T 34 []).bind fun r17 =>
 (asB r17.r).bind fun b18 =>
 some [b18])
 (some [false])
 (none))
 (some [false])
 (none))
 (some [false])
 (none)).bind fun vs19 =>
 some { r := (.bool (vs19.getD 0 false)) })
 ((T 17 [(weak x0a), x1]).bind fun r20 =>
 (sNot r20.r).bind fun r21 =>
 pickC r21
 (((sBin .eql r9.r (.int .i64 (-1))).bind fun r22 =>
 guardX r22 true
 ((sBin .eql r10.r (.int .i64 (-1))).bind fun r23 =>
 guardX r23 true
 ((T 34 []).bind fun r24 =>
 (asB r24.r).bind fun b25 =>
 some [b25])
 (some [false])
 (none))
 (some [false])
 (none)).bind fun vs26 =>
 some { r := (.bool (vs26.getD 0 false)) })
 (((T 37 [(.agg [(weak x0a), (weak x0b), (weak x0c), (weak x0d), (weak x0e)])]).bind fun r27 =>
 (T 21 [(weak r8.r), (weak r27.r)]).bind fun r28 =>
 guardX r28.r true
 ((T 38 [(.agg [(weak x0a), (weak x0b), (weak x0c), (weak x0d), (weak x0e)]), x1, (.bool false)]).bind fun r29 =>
 (sBin .eql r9.r r29.r).bind fun r30 =>
 guardX r30 true
 ((T 38 [(.agg [(weak x0a), (weak x0b), (weak x0c), (weak x0d), (weak x0e)]), x1, (.bool true)]).bind fun r31 =>
 (sBin .eql r10.r r31.r).bind fun r32 =>
 guardX r32 true
 ((T 34 []).bind fun r33 =>
 (asB r33.r).bind fun b34 =>
 some [b34])
 (some [false])
 (none))
 (some [false])
 (none))
 (some [false])
 (none)).bind fun vs35 =>
 some { r := (.bool (vs35.getD 0 false)) })))
theorem r8 (T : TT) (k : Nat) (x0a x0b x0c x0d x0e x1 : SVal) : bodyE P H T k 8 [(.agg [x0a, x0b, x0c, x0d, x0e]), x1] = R8 T k x0a x0b x0c x0d x0e x1 := by kernel_rfl
theorem t8 (k : Nat) (x0a x0b x0c x0d x0e x1 : SVal) : T (k + 1) 8 [(.agg [x0a, x0b, x0c, x0d, x0e]), x1] = R8 (T k) k x0a x0b x0c x0d x0e x1 := (tb k 8 _ rfl).trans (r8 ..)
/-- limelight/limelightlaw17.TabsRound -/
def R9 (T : TT) (k : Nat) (x0a x0b x0c x0d x0e : SVal) : Option Res :=
 ((T 13 [(.agg [(weak x0a), (weak x0b), (weak x0c), (weak x0d), (weak x0e)])]).bind fun r1 =>
 (sNot r1.r).bind fun r2 =>
 guardX r2 false
 ((sLen x0a).bind fun r3 =>
 (sBin .gtr r3 (.int .i64 12)).bind fun r4 =>
 guardX r4 false
 ((T 16 [(.agg [(weak x0a), (weak x0b), (weak x0c), (weak x0d), (weak x0e)])]).bind fun r5 =>
 (sBin .neq r5.r (.int .i64 0)).bind fun r6 =>
 (asB r6).bind fun b7 =>
 some [b7])
 (some [true])
 (none))
 (some [true])
 (none)).bind fun vs8 =>
 pickC (.bool (vs8.getD 0 false))
 ((T 34 []).bind fun r9 =>
 some { r := r9.r })
 ((T 35 [(.agg [(weak x0a), (weak x0b), (weak x0c), (weak x0d), (weak x0e)])]).bind fun r10 =>
 loopN (fun s11 next11 =>
 (sLen s11.k1).bind fun r12 =>
 (sBin .lss s11.k3 r12).bind fun r13 =>
 pickC r13
 (((sIdx false 1 s11.k1 s11.k3).bind fun e14 =>
 (T 28 [(weak s11.k1), e14]).bind fun r15 =>
 (sBin .neq r15.r s11.k3).bind fun r16 =>
 guardX r16 false
 ((sIdx false 1 s11.k1 s11.k3).bind fun e17 =>
 (T 17 [(weak (SVal.cell s11.k0 0)), e17]).bind fun r18 =>
 (sNot r18.r).bind fun r19 =>
 guardX r19 false
 ((sIdx false 1 s11.k1 s11.k3).bind fun e20 =>
 (T 29 [(.agg [(weak (SVal.cell s11.k0 0)), (weak (SVal.cell s11.k0 1)), (weak (SVal.cell s11.k0 2)), (weak (SVal.cell s11.k0 3)), (weak (SVal.cell s11.k0 4))]), e20]).bind fun r21 =>
 (sNot r21.r).bind fun r22 =>
 (asB r22).bind fun b23 =>
 some [b23])
 (some [true])
 (none))
 (some [true])
 (none)).bind fun vs24 =>
 pickC (.bool (vs24.getD 0 false))
 (some { r := (.bool false) })
 ((T 36 [(.agg [(weak (SVal.cell s11.k0 0)), (weak (SVal.cell s11.k0 1)), (weak (SVal.cell s11.k0 2)), (weak (SVal.cell s11.k0 3)), (weak (SVal.cell s11.k0 4))]), s11.k2, (.bool false)]).bind fun r25 =>
 (sIdx false 1 s11.k1 s11.k3).bind fun e26 =>
 (sBin .neq r25.r e26).bind fun r27 =>
 pickC r27
 (some { r := (.bool false) })
 ((sBin .add s11.k3 (.int .i64 1)).bind fun r28 =>
 next11 ⟨[(.rp [(SVal.cell s11.k0 0), (SVal.cell s11.k0 1), (SVal.cell s11.k0 2), (SVal.cell s11.k0 3), (SVal.cell s11.k0 4)]), (weak s11.k1), r25.r, r28], [], false⟩)))
 (((sLen s11.k1).bind fun r29 =>
 (sBin .gtr r29 (.int .i64 0)).bind fun r30 =>
 guardX r30 true
 ((T 36 [(.agg [(weak (SVal.cell s11.k0 0)), (weak (SVal.cell s11.k0 1)), (weak (SVal.cell s11.k0 2)), (weak (SVal.cell s11.k0 3)), (weak (SVal.cell s11.k0 4))]), s11.k2, (.bool false)]).bind fun r31 =>
 (sBin .neq r31.r (.int .i64 0)).bind fun r32 =>
 (asB r32).bind fun b33 =>
 some [b33])
 (some [false])
 (none)).bind fun vs34 =>
 pickC (.bool (vs34.getD 0 false))
 (some { r := (.bool false) })
 ((sLen s11.k1).bind fun r35 =>
 (sBin .sub r35 (.int .i64 1)).bind fun r36 =>
 loopN (fun s37 next37 =>
 (sBin .geq s37.k3 (.int .i64 0)).bind fun r38 =>
 pickC r38
 ((T 36 [(.agg [(weak (SVal.cell s37.k0 0)), (weak (SVal.cell s37.k0 1)), (weak (SVal.cell s37.k0 2)), (weak (SVal.cell s37.k0 3)), (weak (SVal.cell s37.k0 4))]), s37.k2, (.bool true)]).bind fun r39 =>
 (sIdx false 1 s37.k1 s37.k3).bind fun e40 =>
 (sBin .neq r39.r e40).bind fun r41 =>
 pickC r41
 (some { r := (.bool false) })
 ((sBin .sub s37.k3 (.int .i64 1)).bind fun r42 =>
 next37 ⟨[(.rp [(SVal.cell s37.k0 0), (SVal.cell s37.k0 1), (SVal.cell s37.k0 2), (SVal.cell s37.k0 3), (SVal.cell s37.k0 4)]), (weak s37.k1), r39.r, r42], [], false⟩))
 (((T 36 [(.agg [(weak (SVal.cell s37.k0 0)), (weak (SVal.cell s37.k0 1)), (weak (SVal.cell s37.k0 2)), (weak (SVal.cell s37.k0 3)), (weak (SVal.cell s37.k0 4))]), s37.k2, (.bool true)]).bind fun r43 =>
 (sBin .eql r43.r (.int .i64 0)).bind fun r44 =>
 guardX r44 true
 ((T 34 []).bind fun r45 =>
 (asB r45.r).bind fun b46 =>
 some [b46])
 (some [false])
 (none)).bind fun vs47 =>
 some { r := (.bool (vs47.getD 0 false)) })) k ⟨[(.rp [(SVal.cell s11.k0 0), (SVal.cell s11.k0 1), (SVal.cell s11.k0 2), (SVal.cell s11.k0 3), (SVal.cell s11.k0 4)]), (weak s11.k1), (.int .i64 0), r36], [], false⟩))) k ⟨[(.rp [x0a, x0b, x0c, x0d, x0e]), (weak r10.r), (.int .i64 0), (.int .i64 0)], [], false⟩)
theorem r9 (T : TT) (k : Nat) (x0a x0b x0c x0d x0e : SVal) : bodyE P H T k 9 [(.agg [x0a, x0b, x0c, x0d, x0e])] = R9 T k x0a x0b x0c x0d x0e := by kernel_rfl
theorem t9 (k : Nat) (x0a x0b x0c x0d x0e : SVal) : T (k + 1) 9 [(.agg [x0a, x0b, x0c, x0d, x0e])] = R9 (T k) k x0a x0b x0c x0d x0e := (tb k 9 _ rfl).trans (r9 ..)
/-- limelight/limelightlaw17.TabsBack -/
def R10 (T : TT) (k : Nat) (x0a x0b x0c x0d x0e x1 x2 : SVal) : Option Res :=
 ((T 13 [(.agg [(weak x0a), (weak x0b), (weak x0c), (weak x0d), (weak x0e)])]).bind fun r1 =>
 (sNot r1.r).bind fun r2 =>
 guardX r2 false
 ((sLen x0a).bind fun r3 =>
 (sBin .gtr r3 (.int .i64 12)).bind fun r4 =>
 guardX r4 false
 ((T 16 [(.agg [(weak x0a), (weak x0b), (weak x0c), (weak x0d), (weak x0e)])]).bind fun r5 =>
 (sBin .neq r5.r (.int .i64 0)).bind fun r6 =>
 (asB r6).bind fun b7 =>
 some [b7])
 (some [true])
 (none))
 (some [true])
 (none)).bind fun vs8 =>
 pickC (.bool (vs8.getD 0 false))
 ((T 34 []).bind fun r9 =>
 some { r := r9.r })
 ((T 35 [(.agg [(weak x0a), (weak x0b), (weak x0c), (weak x0d), (weak x0e)])]).bind fun r10 =>
 (T 36 [(.agg [(weak x0a), (weak x0b), (weak x0c), (weak x0d), (weak x0e)]), x1, x2]).bind fun r11 =>
 ((T 27 [(weak r10.r), x1]).bind fun r12 =>
 if isSc1 r12.r = true then
 (sNot r12.r).bind fun r13 =>
 guardX r13 false
 ((sBin .eql r11.r (.int .i64 0)).bind fun r14 =>
 (asB r14).bind fun b15 =>
 some [b15])
 (some [true])
 (none)
 else none).bind fun vs16 =>
 pickC (.bool (vs16.getD 0 false))
 ((T 34 []).bind fun r17 =>
 some { r := r17.r })
 (((T 27 [(weak r10.r), r11.r]).bind fun r18 =>
 if isSc1 r18.r = true then
 guardX r18.r true
 ((sNot x2).bind fun r19 =>
 (T 36 [(.agg [(weak x0a), (weak x0b), (weak x0c), (weak x0d), (weak x0e)]), r11.r, r19]).bind fun r20 =>
 (sBin .eql r20.r x1).bind fun r21 =>
 guardX r21 true
 ((T 34 []).bind fun r22 =>
 (asB r22.r).bind fun b23 =>
 some [b23])
 (some [false])
 (none))
 (some [false])
 (none)
 else none).bind fun vs24 =>
 some { r := (.bool (vs24.getD 0 false)) }))
theorem r10 (T : TT) (k : Nat) (x0a x0b x0c x0d x0e x1 x2 : SVal) : bodyE P H T k 10 [(.agg [x0a, x0b, x0c, x0d, x0e]), x1, x2] = R10 T k x0a x0b x0c x0d x0e x1 x2 := by kernel_rfl
theorem t10 (k : Nat) (x0a x0b x0c x0d x0e x1 x2 : SVal) : T (k + 1) 10 [(.agg [x0a, x0b, x0c, x0d, x0e]), x1, x2] = R10 (T k) k x0a x0b x0c x0d x0e x1 x2 := (tb k 10 _ rfl).trans (r10 ..)
/-- limelight/limelightlaw17.TabsPlain -/
def R11 (T : TT) (k : Nat) (x0a x0b x0c x0d x0e : SVal) : Option Res :=
 ((T 13 [(.agg [(weak x0a), (weak x0b), (weak x0c), (weak x0d), (weak x0e)])]).bind fun r1 =>
 (sNot r1.r).bind fun r2 =>
 guardX r2 false
 ((sLen x0a).bind fun r3 =>
 (sBin .gtr r3 (.int .i64 12)).bind fun r4 =>
 guardX r4 false
 ((T 16 [(.agg [(weak x0a), (weak x0b), (weak x0c), (weak x0d), (weak x0e)])]).bind fun r5 =>
 (sBin .neq r5.r (.int .i64 0)).bind fun r6 =>
 guardX r6 false
 ((sLen x0d).bind fun r7 =>
 (sBin .gtr r7 (.int .i64 0)).bind fun r8 =>
 (asB r8).bind fun b9 =>
 some [b9])
 (some [true])
 (none))
 (some [true])
 (none))
 (some [true])
 (none)).bind fun vs10 =>
 pickC (.bool (vs10.getD 0 false))
 ((T 34 []).bind fun r11 =>
 some { r := r11.r })
 (loopN (fun s12 next12 =>
 (sLen (SVal.cell s12.k0 0)).bind fun r13 =>
 (sBin .lss s12.k1 r13).bind fun r14 =>
 pickC r14
 ((T 39 [(weak (SVal.cell s12.k0 0)), s12.k1]).bind fun r15 =>
 ((sIdx true 7 (SVal.cell s12.k0 0) s12.k1).bind fun e16 =>
 (sBin .eql (SVal.cell e16 0) (.int .i64 3)).bind fun r17 =>
 guardX r17 false
 ((sBin .gtr r15.r.c0 (.int .i64 0)).bind fun r18 =>
 (asB r18).bind fun b19 =>
 some [b19])
 (some [true])
 (none)).bind fun vs20 =>
 pickC (.bool (vs20.getD 0 false))
 ((T 34 []).bind fun r21 =>
 some { r := r21.r })
 ((sBin .add s12.k1 (.int .i64 1)).bind fun r22 =>
 next12 ⟨[(.rp [(SVal.cell s12.k0 0), (SVal.cell s12.k0 1), (SVal.cell s12.k0 2), (SVal.cell s12.k0 3), (SVal.cell s12.k0 4)]), r22], [], false⟩))
 ((T 26 [(weak (SVal.cell s12.k0 0))]).bind fun r23 =>
 loopN (fun s24 next24 =>
 (sLen s24.k2).bind fun r25 =>
 (sBin .lss s24.k3 r25).bind fun r26 =>
 pickC r26
 ((sIdx false 1 s24.k2 s24.k3).bind fun e27 =>
 (T 29 [(.agg [(weak (SVal.cell s24.k0 0)), (weak (SVal.cell s24.k0 1)), (weak (SVal.cell s24.k0 2)), (weak (SVal.cell s24.k0 3)), (weak (SVal.cell s24.k0 4))]), e27]).bind fun r28 =>
 pickC r28.r
 ((sIdx false 1 s24.k2 s24.k3).bind fun e29 =>
 if (List.all [[.v e29]] allOne) = true then
 if (s24.k1.xs.length + ([e29] : List SVal).length) * 8 ≤ maxAppend then
 (sBin .add s24.k3 (.int .i64 1)).bind fun r30 =>
 next24 ⟨[(.rp [(SVal.cell s24.k0 0), (SVal.cell s24.k0 1), (SVal.cell s24.k0 2), (SVal.cell s24.k0 3), (SVal.cell s24.k0 4)]), (.sl 1 true false (s24.k1.xs ++ ([e29] : List SVal))), (weak s24.k2), r30], [], false⟩
 else none
 else none)
 ((sBin .add s24.k3 (.int .i64 1)).bind fun r31 =>
 next24 ⟨[(.rp [(SVal.cell s24.k0 0), (SVal.cell s24.k0 1), (SVal.cell s24.k0 2), (SVal.cell s24.k0 3), (SVal.cell s24.k0 4)]), (.sl 1 true false s24.k1.xs), (weak s24.k2), r31], [], false⟩))
 (((T 35 [(.agg [(weak (SVal.cell s24.k0 0)), (weak (SVal.cell s24.k0 1)), (weak (SVal.cell s24.k0 2)), (weak (SVal.cell s24.k0 3)), (weak (SVal.cell s24.k0 4))])]).bind fun r32 =>
 (T 21 [(weak r32.r), (.sl 1 false false s24.k1.xs)]).bind fun r33 =>
 guardX r33.r true
 ((T 34 []).bind fun r34 =>
 (asB r34.r).bind fun b35 =>
 some [b35])
 (some [false])
 (none)).bind fun vs36 =>
 some { r := (.bool (vs36.getD 0 false)) })) k ⟨[(.rp [(SVal.cell s12.k0 0), (SVal.cell s12.k0 1), (SVal.cell s12.k0 2), (SVal.cell s12.k0 3), (SVal.cell s12.k0 4)]), (.sl 1 true false []), (weak r23.r), (.int .i64 0)], [], false⟩)) k ⟨[(.rp [x0a, x0b, x0c, x0d, x0e]), (.int .i64 0)], [], false⟩)
theorem r11 (T : TT) (k : Nat) (x0a x0b x0c x0d x0e : SVal) : bodyE P H T k 11 [(.agg [x0a, x0b, x0c, x0d, x0e])] = R11 T k x0a x0b x0c x0d x0e := by kernel_rfl
theorem t11 (k : Nat) (x0a x0b x0c x0d x0e : SVal) : T (k + 1) 11 [(.agg [x0a, x0b, x0c, x0d, x0e])] = R11 (T k) k x0a x0b x0c x0d x0e := (tb k 11 _ rfl).trans (r11 ..)
/-- limelight/limelightlaw17.TabsReach -/
def R12 (T : TT) (k : Nat) (x0a x0b x0c x0d x0e : SVal) : Option Res :=
 ((T 13 [(.agg [(weak x0a), (weak x0b), (weak x0c), (weak x0d), (weak x0e)])]).bind fun r1 =>
 (sNot r1.r).bind fun r2 =>
 guardX r2 false
 ((sLen x0a).bind fun r3 =>
 (sBin .gtr r3 (.int .i64 12)).bind fun r4 =>
 guardX r4 false
 ((T 16 [(.agg [(weak x0a), (weak x0b), (weak x0c), (weak x0d), (weak x0e)])]).bind fun r5 =>
 (sBin .neq r5.r (.int .i64 0)).bind fun r6 =>
 (asB r6).bind fun b7 =>
 some [b7])
 (some [true])
 (none))
 (some [true])
 (none)).bind fun vs8 =>
 pickC (.bool (vs8.getD 0 false))
 ((T 34 []).bind fun r9 =>
 some { r := r9.r })
 ((T 35 [(.agg [(weak x0a), (weak x0b), (weak x0c), (weak x0d), (weak x0e)])]).bind fun r10 =>
 (T 40 [(.agg [(weak x0a), (weak x0b), (weak x0c), (weak x0d), (weak x0e)])]).bind fun r11 =>
 loopN (fun s12 next12 =>
 (sLen s12.k1).bind fun r13 =>
 (sBin .lss s12.k3 r13).bind fun r14 =>
 pickC r14
 (((sBin .neq s12.k2 (.int .i64 (-1))).bind fun r15 =>
 guardX r15 true
 ((sIdx false 1 s12.k1 s12.k3).bind fun e16 =>
 (T 33 [(weak (SVal.cell s12.k0 0)), s12.k2, e16]).bind fun r17 =>
 (sNot r17.r).bind fun r18 =>
 (asB r18).bind fun b19 =>
 some [b19])
 (some [false])
 (none)).bind fun vs20 =>
 pickC (.bool (vs20.getD 0 false))
 (some { r := (.bool false) })
 ((sBin .add s12.k3 (.int .i64 1)).bind fun r21 =>
 next12 ⟨[(.rp [(SVal.cell s12.k0 0), (SVal.cell s12.k0 1), (SVal.cell s12.k0 2), (SVal.cell s12.k0 3), (SVal.cell s12.k0 4)]), (weak s12.k1), s12.k2, r21], [], false⟩))
 (loopN (fun s22 next22 =>
 ((sLen (SVal.cell s22.k0 0)).bind fun r23 =>
 (sBin .lss s22.k2 r23).bind fun r24 =>
 guardX r24 true
 ((sLen (SVal.cell s22.k0 3)).bind fun r25 =>
 (sBin .eql r25 (.int .i64 0)).bind fun r26 =>
 (asB r26).bind fun b27 =>
 some [b27])
 (some [false])
 (none)).bind fun vs28 =>
 pickC (.bool (vs28.getD 0 false))
 ((T 30 [(weak (SVal.cell s22.k0 0)), s22.k2]).bind fun r29 =>
 loopN (fun s30 next30 =>
 (sLen s30.k3).bind fun r31 =>
 (sBin .lss s30.k5 r31).bind fun r32 =>
 pickC r32
 ((sIdx false 1 s30.k3 s30.k5).bind fun e33 =>
 (T 39 [(weak (SVal.cell s30.k0 0)), e33]).bind fun r34 =>
 (guardX s30.k4 false
 (guardX r34.r.c1 true
 ((sBin .lss r34.r.c0 (.int .i64 0)).bind fun r35 =>
 (asB r35).bind fun b36 =>
 some [b36])
 (some [false])
 (none))
 (some [true])
 (none)).bind fun vs37 =>
 (sBin .add s30.k5 (.int .i64 1)).bind fun r38 =>
 next30 ⟨[(.rp [(SVal.cell s30.k0 0), (SVal.cell s30.k0 1), (SVal.cell s30.k0 2), (SVal.cell s30.k0 3), (SVal.cell s30.k0 4)]), (weak s30.k1), s30.k2, (weak s30.k3), (.bool (vs37.getD 0 false)), r38], [], false⟩)
 (((T 29 [(.agg [(weak (SVal.cell s30.k0 0)), (weak (SVal.cell s30.k0 1)), (weak (SVal.cell s30.k0 2)), (weak (SVal.cell s30.k0 3)), (weak (SVal.cell s30.k0 4))]), s30.k2]).bind fun r39 =>
 guardX r39.r true
 ((sNot s30.k4).bind fun r40 =>
 guardX r40 true
 ((T 27 [(weak s30.k1), s30.k2]).bind fun r41 =>
 if isSc1 r41.r = true then
 (sNot r41.r).bind fun r42 =>
 (asB r42).bind fun b43 =>
 some [b43]
 else none)
 (some [false])
 (none))
 (some [false])
 (none)).bind fun vs44 =>
 pickC (.bool (vs44.getD 0 false))
 (some { r := (.bool false) })
 ((sBin .add s30.k2 (.int .i64 1)).bind fun r45 =>
 next22 ⟨[(.rp [(SVal.cell s30.k0 0), (SVal.cell s30.k0 1), (SVal.cell s30.k0 2), (SVal.cell s30.k0 3), (SVal.cell s30.k0 4)]), (weak s30.k1), r45], [], false⟩))) k ⟨[(.rp [(SVal.cell s22.k0 0), (SVal.cell s22.k0 1), (SVal.cell s22.k0 2), (SVal.cell s22.k0 3), (SVal.cell s22.k0 4)]), (weak s22.k1), s22.k2, (weak r29.r), (.bool false), (.int .i64 1)], [], false⟩)
 ((T 34 []).bind fun r46 =>
 some { r := r46.r })) k ⟨[(.rp [(SVal.cell s12.k0 0), (SVal.cell s12.k0 1), (SVal.cell s12.k0 2), (SVal.cell s12.k0 3), (SVal.cell s12.k0 4)]), (weak s12.k1), (.int .i64 0)], [], false⟩)) k ⟨[(.rp [x0a, x0b, x0c, x0d, x0e]), (weak r10.r), r11.r, (.int .i64 0)], [], false⟩)
theorem r12 (T : TT) (k : Nat) (x0a x0b x0c x0d x0e : SVal) : bodyE P H T k 12 [(.agg [x0a, x0b, x0c, x0d, x0e])] = R12 T k x0a x0b x0c x0d x0e := by kernel_rfl
theorem t12 (k : Nat) (x0a x0b x0c x0d x0e : SVal) : T (k + 1) 12 [(.agg [x0a, x0b, x0c, x0d, x0e])] = R12 (T k) k x0a x0b x0c x0d x0e := (tb k 12 _ rfl).trans (r12 ..)
/-- limelight/limelightref10.Small -/
def R13 (T : TT) (k : Nat) (x0a x0b x0c x0d x0e : SVal) : Option Res :=
 ((T 41 [(weak x0a)]).bind fun r1 =>
 guardX r1.r true
 ((sLen x0a).bind fun r2 =>
 (sBin .leq r2 (.int .i64 16)).bind fun r3 =>
 guardX r3 true
 ((sLen x0b).bind fun r4 =>
 (sBin .leq r4 (.int .i64 40)).bind fun r5 =>
 guardX r5 true
 ((sLen x0c).bind fun r6 =>
 (sBin .leq r6 (.int .i64 40)).bind fun r7 =>
 guardX r7 true
 ((sLen x0d).bind fun r8 =>
 (sBin .leq r8 (.int .i64 40)).bind fun r9 =>
 guardX r9 true
 ((sLen x0e).bind fun r10 =>
 (sBin .leq r10 (.int .i64 80)).bind fun r11 =>
 (asB r11).bind fun b12 =>
 some [b12])
 (some [false])
 (none))
 (some [false])
 (none))
 (some [false])
 (none))
 (some [false])
 (none))
 (some [false])
 (none)).bind fun vs13 =>
 some { r := (.bool (vs13.getD 0 false)) }
theorem r13 (T : TT) (k : Nat) (x0a x0b x0c x0d x0e : SVal) : bodyE P H T k 13 [(.agg [x0a, x0b, x0c, x0d, x0e])] = R13 T k x0a x0b x0c x0d x0e := by kernel_rfl
theorem t13 (k : Nat) (x0a x0b x0c x0d x0e : SVal) : T (k + 1) 13 [(.agg [x0a, x0b, x0c, x0d, x0e])] = R13 (T k) k x0a x0b x0c x0d x0e := (tb k 13 _ rfl).trans (r13 ..)
/-- limelight/limelightlaw16.live -/
def R14 (T : TT) (k : Nat) : Option Res :=
 ((T 15 [(.agg [(.sl 7 false false [(.agg [(.int .i64 0), (.int .i64 0), (.int .i64 (-1)), (.sl 1 false false [(.int .i64 1), (.int .i64 2), (.int .i64 3), (.int .i64 4)]), (.int .i64 (-1)), (.int .i64 (-1)), (.sl 2 false false [])]), (.agg [(.int .i64 1), (.int .i64 1), (.int .i64 0), (.sl 1 false false []), (.int .i64 (-1)), (.int .i64 (-1)), (.sl 2 false false [(.agg [(.int .i64 0), (.int .i64 2)])])]), (.agg [(.int .i64 1), (.int .i64 1), (.int .i64 0), (.sl 1 false false []), (.int .i64 (-1)), (.int .i64 (-1)), (.sl 2 false false [])]), (.agg [(.int .i64 1), (.int .i64 1), (.int .i64 0), (.sl 1 false false []), (.int .i64 (-1)), (.int .i64 (-1)), (.sl 2 false false [(.agg [(.int .i64 0), (.int .i64 1)])])]), (.agg [(.int .i64 1), (.int .i64 0), (.int .i64 0), (.sl 1 false false []), (.int .i64 (-1)), (.int .i64 5), (.sl 2 false false [])]), (.agg [(.int .i64 3), (.int .i64 0), (.int .i64 (-1)), (.sl 1 false false [(.int .i64 6)]), (.int .i64 4), (.int .i64 (-1)), (.sl 2 false false [])]), (.agg [(.int .i64 1), (.int .i64 1), (.int .i64 5), (.sl 1 false false []), (.int .i64 (-1)), (.int .i64 (-1)), (.sl 2 false false [])])]), (.sl 1 false false []), (.sl 1 false false []), (.sl 2 false false []), (.sl 1 false false [])]), (.int .i64 0)]).bind fun r1 =>
 (T 21 [(weak r1.r), (.sl 1 false false [(.int .i64 3), (.int .i64 1), (.int .i64 2), (.int .i64 4)])]).bind fun r2 =>
 guardX r2.r true
 ((T 15 [(.agg [(.sl 7 false false [(.agg [(.int .i64 0), (.int .i64 0), (.int .i64 (-1)), (.sl 1 false false [(.int .i64 1), (.int .i64 2), (.int .i64 3), (.int .i64 4)]), (.int .i64 (-1)), (.int .i64 (-1)), (.sl 2 false false [])]), (.agg [(.int .i64 1), (.int .i64 1), (.int .i64 0), (.sl 1 false false []), (.int .i64 (-1)), (.int .i64 (-1)), (.sl 2 false false [(.agg [(.int .i64 0), (.int .i64 2)])])]), (.agg [(.int .i64 1), (.int .i64 1), (.int .i64 0), (.sl 1 false false []), (.int .i64 (-1)), (.int .i64 (-1)), (.sl 2 false false [])]), (.agg [(.int .i64 1), (.int .i64 1), (.int .i64 0), (.sl 1 false false []), (.int .i64 (-1)), (.int .i64 (-1)), (.sl 2 false false [(.agg [(.int .i64 0), (.int .i64 1)])])]), (.agg [(.int .i64 1), (.int .i64 0), (.int .i64 0), (.sl 1 false false []), (.int .i64 (-1)), (.int .i64 5), (.sl 2 false false [])]), (.agg [(.int .i64 3), (.int .i64 0), (.int .i64 (-1)), (.sl 1 false false [(.int .i64 6)]), (.int .i64 4), (.int .i64 (-1)), (.sl 2 false false [])]), (.agg [(.int .i64 1), (.int .i64 1), (.int .i64 5), (.sl 1 false false []), (.int .i64 (-1)), (.int .i64 (-1)), (.sl 2 false false [])])]), (.sl 1 false false []), (.sl 1 false false []), (.sl 2 false false []), (.sl 1 false false [])]), (.int .i64 4)]).bind fun r3 =>
 (T 21 [(weak r3.r), (.sl 1 false false [(.int .i64 6)])]).bind fun r4 =>
 guardX r4.r true
 ((T 15 [(.agg [(.sl 7 false false [(.agg [(.int .i64 0), (.int .i64 0), (.int .i64 (-1)), (.sl 1 false false [(.int .i64 1), (.int .i64 2), (.int .i64 3), (.int .i64 4)]), (.int .i64 (-1)), (.int .i64 (-1)), (.sl 2 false false [])]), (.agg [(.int .i64 1), (.int .i64 1), (.int .i64 0), (.sl 1 false false []), (.int .i64 (-1)), (.int .i64 (-1)), (.sl 2 false false [(.agg [(.int .i64 0), (.int .i64 2)])])]), (.agg [(.int .i64 1), (.int .i64 1), (.int .i64 0), (.sl 1 false false []), (.int .i64 (-1)), (.int .i64 (-1)), (.sl 2 false false [])]), (.agg [(.int .i64 1), (.int .i64 1), (.int .i64 0), (.sl 1 false false []), (.int .i64 (-1)), (.int .i64 (-1)), (.sl 2 false false [(.agg [(.int .i64 0), (.int .i64 1)])])]), (.agg [(.int .i64 1), (.int .i64 0), (.int .i64 0), (.sl 1 false false []), (.int .i64 (-1)), (.int .i64 5), (.sl 2 false false [])]), (.agg [(.int .i64 3), (.int .i64 0), (.int .i64 (-1)), (.sl 1 false false [(.int .i64 6)]), (.int .i64 4), (.int .i64 (-1)), (.sl 2 false false [])]), (.agg [(.int .i64 1), (.int .i64 1), (.int .i64 5), (.sl 1 false false []), (.int .i64 (-1)), (.int .i64 (-1)), (.sl 2 false false [])])]), (.sl 1 false false []), (.sl 1 false false []), (.sl 2 false false []), (.sl 1 false false [])]), (.int .i64 1)]).bind fun r5 =>
 (sLen r5.r).bind fun r6 =>
 (sBin .eql r6 (.int .i64 0)).bind fun r7 =>
 guardX r7 true
 ((T 18 [(.agg [(.sl 7 false false [(.agg [(.int .i64 0), (.int .i64 0), (.int .i64 (-1)), (.sl 1 false false [(.int .i64 1), (.int .i64 2), (.int .i64 3), (.int .i64 4)]), (.int .i64 (-1)), (.int .i64 (-1)), (.sl 2 false false [])]), (.agg [(.int .i64 1), (.int .i64 1), (.int .i64 0), (.sl 1 false false []), (.int .i64 (-1)), (.int .i64 (-1)), (.sl 2 false false [(.agg [(.int .i64 0), (.int .i64 2)])])]), (.agg [(.int .i64 1), (.int .i64 1), (.int .i64 0), (.sl 1 false false []), (.int .i64 (-1)), (.int .i64 (-1)), (.sl 2 false false [])]), (.agg [(.int .i64 1), (.int .i64 1), (.int .i64 0), (.sl 1 false false []), (.int .i64 (-1)), (.int .i64 (-1)), (.sl 2 false false [(.agg [(.int .i64 0), (.int .i64 1)])])]), (.agg [(.int .i64 1), (.int .i64 0), (.int .i64 0), (.sl 1 false false []), (.int .i64 (-1)), (.int .i64 5), (.sl 2 false false [])]), (.agg [(.int .i64 3), (.int .i64 0), (.int .i64 (-1)), (.sl 1 false false [(.int .i64 6)]), (.int .i64 4), (.int .i64 (-1)), (.sl 2 false false [])]), (.agg [(.int .i64 1), (.int .i64 1), (.int .i64 5), (.sl 1 false false []), (.int .i64 (-1)), (.int .i64 (-1)), (.sl 2 false false [])])]), (.sl 1 false false []), (.sl 1 false false []), (.sl 2 false false []), (.sl 1 false false [])]), (.int .i64 6)]).bind fun r8 =>
 (sBin .eql r8.r (.int .i64 4)).bind fun r9 =>
 guardX r9 true
 ((T 18 [(.agg [(.sl 7 false false [(.agg [(.int .i64 0), (.int .i64 0), (.int .i64 (-1)), (.sl 1 false false [(.int .i64 1), (.int .i64 2), (.int .i64 3), (.int .i64 4)]), (.int .i64 (-1)), (.int .i64 (-1)), (.sl 2 false false [])]), (.agg [(.int .i64 1), (.int .i64 1), (.int .i64 0), (.sl 1 false false []), (.int .i64 (-1)), (.int .i64 (-1)), (.sl 2 false false [(.agg [(.int .i64 0), (.int .i64 2)])])]), (.agg [(.int .i64 1), (.int .i64 1), (.int .i64 0), (.sl 1 false false []), (.int .i64 (-1)), (.int .i64 (-1)), (.sl 2 false false [])]), (.agg [(.int .i64 1), (.int .i64 1), (.int .i64 0), (.sl 1 false false []), (.int .i64 (-1)), (.int .i64 (-1)), (.sl 2 false false [(.agg [(.int .i64 0), (.int .i64 1)])])]), (.agg [(.int .i64 1), (.int .i64 0), (.int .i64 0), (.sl 1 false false []), (.int .i64 (-1)), (.int .i64 5), (.sl 2 false false [])]), (.agg [(.int .i64 3), (.int .i64 0), (.int .i64 (-1)), (.sl 1 false false [(.int .i64 6)]), (.int .i64 4), (.int .i64 (-1)), (.sl 2 false false [])]), (.agg [(.int .i64 1), (.int .i64 1), (.int .i64 5), (.sl 1 false false []), (.int .i64 (-1)), (.int .i64 (-1)), (.sl 2 false false [])])]), (.sl 1 false false []), (.sl 1 false false []), (.sl 2 false false []), (.sl 1 false false [])]), (.int .i64 4)]).bind fun r10 =>
 (sBin .eql r10.r (.int .i64 0)).bind fun r11 =>
 guardX r11 true
 ((T 18 [(.agg [(.sl 7 false false [(.agg [(.int .i64 0), (.int .i64 0), (.int .i64 (-1)), (.sl 1 false false [(.int .i64 1), (.int .i64 2), (.int .i64 3), (.int .i64 4)]), (.int .i64 (-1)), (.int .i64 (-1)), (.sl 2 false false [])]), (.agg [(.int .i64 1), (.int .i64 1), (.int .i64 0), (.sl 1 false false []), (.int .i64 (-1)), (.int .i64 (-1)), (.sl 2 false false [(.agg [(.int .i64 0), (.int .i64 2)])])]), (.agg [(.int .i64 1), (.int .i64 1), (.int .i64 0), (.sl 1 false false []), (.int .i64 (-1)), (.int .i64 (-1)), (.sl 2 false false [])]), (.agg [(.int .i64 1), (.int .i64 1), (.int .i64 0), (.sl 1 false false []), (.int .i64 (-1)), (.int .i64 (-1)), (.sl 2 false false [(.agg [(.int .i64 0), (.int .i64 1)])])]), (.agg [(.int .i64 1), (.int .i64 0), (.int .i64 0), (.sl 1 false false []), (.int .i64 (-1)), (.int .i64 5), (.sl 2 false false [])]), (.agg [(.int .i64 3), (.int .i64 0), (.int .i64 (-1)), (.sl 1 false false [(.int .i64 6)]), (.int .i64 4), (.int .i64 (-1)), (.sl 2 false false [])]), (.agg [(.int .i64 1), (.int .i64 1), (.int .i64 5), (.sl 1 false false []), (.int .i64 (-1)), (.int .i64 (-1)), (.sl 2 false false [])])]), (.sl 1 false false []), (.sl 1 false false []), (.sl 2 false false []), (.sl 1 false false [])]), (.int .i64 0)]).bind fun r12 =>
 (sBin .eql r12.r (.int .i64 (-1))).bind fun r13 =>
 guardX r13 true
 ((T 19 [(.agg [(.sl 7 false false [(.agg [(.int .i64 0), (.int .i64 0), (.int .i64 (-1)), (.sl 1 false false [(.int .i64 1), (.int .i64 2), (.int .i64 3), (.int .i64 4)]), (.int .i64 (-1)), (.int .i64 (-1)), (.sl 2 false false [])]), (.agg [(.int .i64 1), (.int .i64 1), (.int .i64 0), (.sl 1 false false []), (.int .i64 (-1)), (.int .i64 (-1)), (.sl 2 false false [(.agg [(.int .i64 0), (.int .i64 2)])])]), (.agg [(.int .i64 1), (.int .i64 1), (.int .i64 0), (.sl 1 false false []), (.int .i64 (-1)), (.int .i64 (-1)), (.sl 2 false false [])]), (.agg [(.int .i64 1), (.int .i64 1), (.int .i64 0), (.sl 1 false false []), (.int .i64 (-1)), (.int .i64 (-1)), (.sl 2 false false [(.agg [(.int .i64 0), (.int .i64 1)])])]), (.agg [(.int .i64 1), (.int .i64 0), (.int .i64 0), (.sl 1 false false []), (.int .i64 (-1)), (.int .i64 5), (.sl 2 false false [])]), (.agg [(.int .i64 3), (.int .i64 0), (.int .i64 (-1)), (.sl 1 false false [(.int .i64 6)]), (.int .i64 4), (.int .i64 (-1)), (.sl 2 false false [])]), (.agg [(.int .i64 1), (.int .i64 1), (.int .i64 5), (.sl 1 false false []), (.int .i64 (-1)), (.int .i64 (-1)), (.sl 2 false false [])])]), (.sl 1 false false []), (.sl 1 false false []), (.sl 2 false false []), (.sl 1 false false [])]), (.int .i64 1)]).bind fun r14 =>
 (sBin .eql r14.r (.int .i64 2)).bind fun r15 =>
 guardX r15 true
 ((T 20 [(.agg [(.sl 7 false false [(.agg [(.int .i64 0), (.int .i64 0), (.int .i64 (-1)), (.sl 1 false false [(.int .i64 1), (.int .i64 2), (.int .i64 3), (.int .i64 4)]), (.int .i64 (-1)), (.int .i64 (-1)), (.sl 2 false false [])]), (.agg [(.int .i64 1), (.int .i64 1), (.int .i64 0), (.sl 1 false false []), (.int .i64 (-1)), (.int .i64 (-1)), (.sl 2 false false [(.agg [(.int .i64 0), (.int .i64 2)])])]), (.agg [(.int .i64 1), (.int .i64 1), (.int .i64 0), (.sl 1 false false []), (.int .i64 (-1)), (.int .i64 (-1)), (.sl 2 false false [])]), (.agg [(.int .i64 1), (.int .i64 1), (.int .i64 0), (.sl 1 false false []), (.int .i64 (-1)), (.int .i64 (-1)), (.sl 2 false false [(.agg [(.int .i64 0), (.int .i64 1)])])]), (.agg [(.int .i64 1), (.int .i64 0), (.int .i64 0), (.sl 1 false false []), (.int .i64 (-1)), (.int .i64 5), (.sl 2 false false [])]), (.agg [(.int .i64 3), (.int .i64 0), (.int .i64 (-1)), (.sl 1 false false [(.int .i64 6)]), (.int .i64 4), (.int .i64 (-1)), (.sl 2 false false [])]), (.agg [(.int .i64 1), (.int .i64 1), (.int .i64 5), (.sl 1 false false []), (.int .i64 (-1)), (.int .i64 (-1)), (.sl 2 false false [])])]), (.sl 1 false false []), (.sl 1 false false []), (.sl 2 false false []), (.sl 1 false false [])]), (.int .i64 1)]).bind fun r16 =>
 (sBin .eql r16.r (.int .i64 (-1))).bind fun r17 =>
 guardX r17 true
 ((T 18 [(.agg [(.sl 7 false false [(.agg [(.int .i64 0), (.int .i64 0), (.int .i64 (-1)), (.sl 1 false false [(.int .i64 1), (.int .i64 2), (.int .i64 3), (.int .i64 4)]), (.int .i64 (-1)), (.int .i64 (-1)), (.sl 2 false false [])]), (.agg [(.int .i64 1), (.int .i64 1), (.int .i64 0), (.sl 1 false false []), (.int .i64 (-1)), (.int .i64 (-1)), (.sl 2 false false [(.agg [(.int .i64 0), (.int .i64 2)])])]), (.agg [(.int .i64 1), (.int .i64 1), (.int .i64 0), (.sl 1 false false []), (.int .i64 (-1)), (.int .i64 (-1)), (.sl 2 false false [])]), (.agg [(.int .i64 1), (.int .i64 1), (.int .i64 0), (.sl 1 false false []), (.int .i64 (-1)), (.int .i64 (-1)), (.sl 2 false false [(.agg [(.int .i64 0), (.int .i64 1)])])]), (.agg [(.int .i64 1), (.int .i64 0), (.int .i64 0), (.sl 1 false false []), (.int .i64 (-1)), (.int .i64 5), (.sl 2 false false [])]), (.agg [(.int .i64 3), (.int .i64 0), (.int .i64 (-1)), (.sl 1 false false [(.int .i64 6)]), (.int .i64 4), (.int .i64 (-1)), (.sl 2 false false [])]), (.agg [(.int .i64 1), (.int .i64 1), (.int .i64 5), (.sl 1 false false []), (.int .i64 (-1)), (.int .i64 (-1)), (.sl 2 false false [])])]), (.sl 1 false false []), (.sl 1 false false []), (.sl 2 false false []), (.sl 1 false false [])]), (.int .i64 9)]).bind fun r18 =>
 (sBin .eql r18.r (.int .i64 (-1))).bind fun r19 =>
 (asB r19).bind fun b20 =>
 some [b20])
 (some [false])
 (none))
 (some [false])
 (none))
 (some [false])
 (none))
 (some [false])
 (none))
 (some [false])
 (none))
 (some [false])
 (none))
 (some [false])
 (none))
 (some [false])
 (none)).bind fun vs21 =>
 some { r := (.bool (vs21.getD 0 false)) }
theorem r14 (T : TT) (k : Nat) : bodyE P H T k 14 [] = R14 T k  := by kernel_rfl
noncomputable def D14 (T : TT) (k : Nat) : List SVal → Option Res
  | [] => R14 T k 
  | a => bodyE P H T k 14 a
theorem d14 (T : TT) (k : Nat) (a : List SVal) : D14 T k a = bodyE P H T k 14 a := by
  unfold D14
  split
  · exact (r14 ..).symm
  · rfl
theorem t14 (k : Nat) : T (k + 1) 14 [] = R14 (T k) k  := (tb k 14 _ rfl).trans (r14 ..)
/-- limelight/scopes.Items -/
def R15 (T : TT) (k : Nat) (x0a x0b x0c x0d x0e x1 : SVal) : Option Res :=
 ((T 42 [(.agg [(weak x0a), (weak x0b), (weak x0c), (weak x0d), (weak x0e)]), x1]).bind fun r1 =>
 (sNot r1.r).bind fun r2 =>
 guardX r2 false
 ((T 43 [(.agg [(weak x0a), (weak x0b), (weak x0c), (weak x0d), (weak x0e)]), x1]).bind fun r3 =>
 (sNot r3.r).bind fun r4 =>
 (asB r4).bind fun b5 =>
 some [b5])
 (some [true])
 (none)).bind fun vs6 =>
 pickC (.bool (vs6.getD 0 false))
 (some { r := (.sl 1 false false []) })
 ((T 44 [(weak x0a)]).bind fun r7 =>
 (sLen r7.r).bind fun r8 =>
 loopN (fun s9 next9 =>
 (sBin .lss s9.k5 s9.k4).bind fun r10 =>
 pickC r10
 ((sIdx false 1 s9.k3 s9.k5).bind fun e11 =>
 ((sIdx true 7 (SVal.cell s9.k1 0) e11).bind fun e12 =>
 (sBin .eql (SVal.cell e12 0) (.int .i64 1)).bind fun r13 =>
 guardX r13 true
 ((T 18 [(.agg [(weak (SVal.cell s9.k1 0)), (weak (SVal.cell s9.k1 1)), (weak (SVal.cell s9.k1 2)), (weak (SVal.cell s9.k1 3)), (weak (SVal.cell s9.k1 4))]), e11]).bind fun r14 =>
 (sBin .eql r14.r s9.k0).bind fun r15 =>
 guardX r15 true
 ((T 19 [(.agg [(weak (SVal.cell s9.k1 0)), (weak (SVal.cell s9.k1 1)), (weak (SVal.cell s9.k1 2)), (weak (SVal.cell s9.k1 3)), (weak (SVal.cell s9.k1 4))]), e11]).bind fun r16 =>
 (sBin .geq r16.r (.int .i64 0)).bind fun r17 =>
 guardX r17 true
 ((T 20 [(.agg [(weak (SVal.cell s9.k1 0)), (weak (SVal.cell s9.k1 1)), (weak (SVal.cell s9.k1 2)), (weak (SVal.cell s9.k1 3)), (weak (SVal.cell s9.k1 4))]), e11]).bind fun r18 =>
 (sBin .eql r18.r (.int .i64 (-1))).bind fun r19 =>
 guardX r19 true
 ((T 43 [(.agg [(weak (SVal.cell s9.k1 0)), (weak (SVal.cell s9.k1 1)), (weak (SVal.cell s9.k1 2)), (weak (SVal.cell s9.k1 3)), (weak (SVal.cell s9.k1 4))]), e11]).bind fun r20 =>
 guardX r20.r false
 ((T 45 [(.agg [(weak (SVal.cell s9.k1 0)), (weak (SVal.cell s9.k1 1)), (weak (SVal.cell s9.k1 2)), (weak (SVal.cell s9.k1 3)), (weak (SVal.cell s9.k1 4))]), e11]).bind fun r21 =>
 (asB r21.r).bind fun b22 =>
 some [b22])
 (some [true])
 (none))
 (some [false])
 (none))
 (some [false])
 (none))
 (some [false])
 (none))
 (some [false])
 (none)).bind fun vs23 =>
 pickC (.bool (vs23.getD 0 false))
 (if (List.all [[.v e11]] allOne) = true then
 if (s9.k2.xs.length + ([e11] : List SVal).length) * 8 ≤ maxAppend then
 (sBin .add s9.k5 (.int .i64 1)).bind fun r24 =>
 next9 ⟨[s9.k0, (.rp [(SVal.cell s9.k1 0), (SVal.cell s9.k1 1), (SVal.cell s9.k1 2), (SVal.cell s9.k1 3), (SVal.cell s9.k1 4)]), (.sl 1 true false (s9.k2.xs ++ ([e11] : List SVal))), (weak s9.k3), s9.k4, r24], [], false⟩
 else none
 else none)
 ((sBin .add s9.k5 (.int .i64 1)).bind fun r25 =>
 next9 ⟨[s9.k0, (.rp [(SVal.cell s9.k1 0), (SVal.cell s9.k1 1), (SVal.cell s9.k1 2), (SVal.cell s9.k1 3), (SVal.cell s9.k1 4)]), (.sl 1 true false s9.k2.xs), (weak s9.k3), s9.k4, r25], [], false⟩))
 ((T 46 [(.sl 1 true false s9.k2.xs), (.fn 47 [(.rp [(SVal.cell s9.k1 0), (SVal.cell s9.k1 1), (SVal.cell s9.k1 2), (SVal.cell s9.k1 3), (SVal.cell s9.k1 4)])])]).bind fun r26 =>
 some { r := (.sl 1 false false ((r26.outs.headD .undef).xs)) })) k ⟨[x1, (.rp [x0a, x0b, x0c, x0d, x0e]), (.sl 1 true false []), (weak r7.r), r8, (.int .i64 0)], [], false⟩)
theorem r15 (T : TT) (k : Nat) (x0a x0b x0c x0d x0e x1 : SVal) : bodyE P H T k 15 [(.agg [x0a, x0b, x0c, x0d, x0e]), x1] = R15 T k x0a x0b x0c x0d x0e x1 := by kernel_rfl
noncomputable def D15 (T : TT) (k : Nat) : List SVal → Option Res
  | [(.agg [x0a, x0b, x0c, x0d, x0e]), x1] => R15 T k x0a x0b x0c x0d x0e x1
  | a => bodyE P H T k 15 a
theorem d15 (T : TT) (k : Nat) (a : List SVal) : D15 T k a = bodyE P H T k 15 a := by
  unfold D15
  split
  · exact (r15 ..).symm
  · rfl
theorem t15 (k : Nat) (x0a x0b x0c x0d x0e x1 : SVal) : T (k + 1) 15 [(.agg [x0a, x0b, x0c, x0d, x0e]), x1] = R15 (T k) k x0a x0b x0c x0d x0e x1 := (tb k 15 _ rfl).trans (r15 ..)
end Go.Proofs.YtjcnilaogidhlaaGreat.K
