/- What the evaluator makes of the functions, by program (wip/tr/resid.py); each equation is checked by the kernel. -/
import Derived.Test.YtcdnmiaelaombaaGreatLmAI
import Derived.Test.YtcdnmiaelaombaaGreatLmAB
import Derived.KernelRfl
set_option linter.unusedVariables false
set_option linter.unusedSimpArgs false
set_option linter.unnecessarySimpa false
set_option linter.all false
set_option maxRecDepth 100000
namespace Go.Proofs.YtcdnmiaelaombaaGreat.K
open Go Go.Lm
/-- limelight/limelightlaw14.GiveTells -/
def R3 (T : TT) (k : Nat) (x0a x0b x0c x0d x0e x1 : SVal) : Option Res :=
 (T 8 [(.agg [(weak x0a), (weak x0b), (weak x0c), (weak x0d), (weak x0e)])]).bind fun r1 =>
 (sNot r1.r).bind fun r2 =>
 pickC r2
 ((T 9 []).bind fun r3 =>
 some { r := r3.r })
 (((T 10 [(.agg [(weak x0a), (weak x0b), (weak x0c), (weak x0d), (weak x0e)])]).bind fun r4 =>
 (sBin .neq r4.r (.int .i64 0)).bind fun r5 =>
 guardX r5 false
 ((T 11 [(weak x0a), x1]).bind fun r6 =>
 (sNot r6.r).bind fun r7 =>
 (asB r7).bind fun b8 =>
 some [b8])
 (some [true])
 (none)).bind fun vs9 =>
 pickC (.bool (vs9.getD 0 false))
 (((T 12 [(.agg [(weak x0a), (weak x0b), (weak x0c), (weak x0d), (weak x0e)]), x1]).bind fun r10 =>
 (sBin .eql r10.r (.int .i64 (-1))).bind fun r11 =>
 guardX r11 true
 ((T 13 [(.agg [(weak x0a), (weak x0b), (weak x0c), (weak x0d), (weak x0e)]), x1]).bind fun r12 =>
 (sBin .eql r12.r (.int .i64 (-1))).bind fun r13 =>
 guardX r13 true
 ((T 14 [(.agg [(weak x0a), (weak x0b), (weak x0c), (weak x0d), (weak x0e)]), x1]).bind fun r14 =>
 (sBin .eql r14.r (.int .i64 (-1))).bind fun r15 =>
 guardX r15 true
 ((T 9 []).bind fun r16 =>
 (asB r16.r).bind fun b17 =>
 some [b17])
 (some [false])
 (none))
 (some [false])
 (none))
 (some [false])
 (none)).bind fun vs18 =>
 some { r := (.bool (vs18.getD 0 false)) })
 (((T 12 [(.agg [(weak x0a), (weak x0b), (weak x0c), (weak x0d), (weak x0e)]), x1]).bind fun r19 =>
 (T 15 [(.agg [(weak x0a), (weak x0b), (weak x0c), (weak x0d), (weak x0e)]), x1]).bind fun r20 =>
 (sBin .eql r19.r r20.r).bind fun r21 =>
 guardX r21 true
 ((T 13 [(.agg [(weak x0a), (weak x0b), (weak x0c), (weak x0d), (weak x0e)]), x1]).bind fun r22 =>
 (T 16 [(.agg [(weak x0a), (weak x0b), (weak x0c), (weak x0d), (weak x0e)]), x1]).bind fun r23 =>
 (sBin .eql r22.r r23.r).bind fun r24 =>
 guardX r24 true
 ((T 14 [(.agg [(weak x0a), (weak x0b), (weak x0c), (weak x0d), (weak x0e)]), x1]).bind fun r25 =>
 (T 17 [(.agg [(weak x0a), (weak x0b), (weak x0c), (weak x0d), (weak x0e)]), x1]).bind fun r26 =>
 (sBin .eql r25.r r26.r).bind fun r27 =>
 guardX r27 true
 ((T 9 []).bind fun r28 =>
 (asB r28.r).bind fun b29 =>
 some [b29])
 (some [false])
 (none))
 (some [false])
 (none))
 (some [false])
 (none)).bind fun vs30 =>
 some { r := (.bool (vs30.getD 0 false)) }))
theorem r3 (T : TT) (k : Nat) (x0a x0b x0c x0d x0e x1 : SVal) : bodyE P H T k 3 [(.agg [x0a, x0b, x0c, x0d, x0e]), x1] = R3 T k x0a x0b x0c x0d x0e x1 := by kernel_rfl
theorem t3 (k : Nat) (x0a x0b x0c x0d x0e x1 : SVal) : T (k + 1) 3 [(.agg [x0a, x0b, x0c, x0d, x0e]), x1] = R3 (T k) k x0a x0b x0c x0d x0e x1 := (tb k 3 _ rfl).trans (r3 ..)
/-- limelight/limelightlaw14.GiveCan -/
def R4 (T : TT) (k : Nat) (x0a x0b x0c x0d x0e : SVal) : Option Res :=
 ((T 8 [(.agg [(weak x0a), (weak x0b), (weak x0c), (weak x0d), (weak x0e)])]).bind fun r1 =>
 (sNot r1.r).bind fun r2 =>
 guardX r2 false
 ((T 10 [(.agg [(weak x0a), (weak x0b), (weak x0c), (weak x0d), (weak x0e)])]).bind fun r3 =>
 (sBin .neq r3.r (.int .i64 0)).bind fun r4 =>
 (asB r4).bind fun b5 =>
 some [b5])
 (some [true])
 (none)).bind fun vs6 =>
 pickC (.bool (vs6.getD 0 false))
 ((T 9 []).bind fun r7 =>
 some { r := r7.r })
 (loopN (fun s8 next8 =>
 (sLen (SVal.cell s8.k0 0)).bind fun r9 =>
 (sBin .lss s8.k1 r9).bind fun r10 =>
 pickC r10
 ((T 12 [(.agg [(weak (SVal.cell s8.k0 0)), (weak (SVal.cell s8.k0 1)), (weak (SVal.cell s8.k0 2)), (weak (SVal.cell s8.k0 3)), (weak (SVal.cell s8.k0 4))]), s8.k1]).bind fun r11 =>
 (T 13 [(.agg [(weak (SVal.cell s8.k0 0)), (weak (SVal.cell s8.k0 1)), (weak (SVal.cell s8.k0 2)), (weak (SVal.cell s8.k0 3)), (weak (SVal.cell s8.k0 4))]), s8.k1]).bind fun r12 =>
 (T 14 [(.agg [(weak (SVal.cell s8.k0 0)), (weak (SVal.cell s8.k0 1)), (weak (SVal.cell s8.k0 2)), (weak (SVal.cell s8.k0 3)), (weak (SVal.cell s8.k0 4))]), s8.k1]).bind fun r13 =>
 if (List.all [[.v r11.r], [.v r12.r], [.v r13.r]] allOne) = true then
 loopN (fun s14 next14 =>
 (sBin .lss s14.k3 (.int .i64 3)).bind fun r15 =>
 pickC r15
 (((sIn s14.k2.xs.length s14.k3).bind fun j16 =>
 (s14.k2.xs[j16]?).bind fun e17 =>
 if (elemOk false 1 e17) = true then
 (sBin .neq e17 (.int .i64 (-1))).bind fun r18 =>
 guardX r18 true
 ((sIn s14.k2.xs.length s14.k3).bind fun j19 =>
 (s14.k2.xs[j19]?).bind fun e20 =>
 if (elemOk false 1 e20) = true then
 (T 11 [(weak (SVal.cell s14.k0 0)), e20]).bind fun r21 =>
 (sNot r21.r).bind fun r22 =>
 guardX r22 false
 ((sIn s14.k2.xs.length s14.k3).bind fun j23 =>
 (s14.k2.xs[j23]?).bind fun e24 =>
 if (elemOk false 1 e24) = true then
 (T 18 [(.agg [(weak (SVal.cell s14.k0 0)), (weak (SVal.cell s14.k0 1)), (weak (SVal.cell s14.k0 2)), (weak (SVal.cell s14.k0 3)), (weak (SVal.cell s14.k0 4))]), e24]).bind fun r25 =>
 (sNot r25.r).bind fun r26 =>
 guardX r26 false
 ((sIn s14.k2.xs.length s14.k3).bind fun j27 =>
 (s14.k2.xs[j27]?).bind fun e28 =>
 if (elemOk false 1 e28) = true then
 (T 19 [(weak (SVal.cell s14.k0 0)), s14.k1, e28]).bind fun r29 =>
 (sNot r29.r).bind fun r30 =>
 (asB r30).bind fun b31 =>
 some [b31]
 else none)
 (some [true])
 (none)
 else none)
 (some [true])
 (none)
 else none)
 (some [false])
 (none)
 else none).bind fun vs32 =>
 pickC (.bool (vs32.getD 0 false))
 (some { r := (.bool false) })
 ((sBin .add s14.k3 (.int .i64 1)).bind fun r33 =>
 next14 ⟨[(.rp [(SVal.cell s14.k0 0), (SVal.cell s14.k0 1), (SVal.cell s14.k0 2), (SVal.cell s14.k0 3), (SVal.cell s14.k0 4)]), s14.k1, (.sl 1 true false s14.k2.xs), r33], [], false⟩))
 (((T 18 [(.agg [(weak (SVal.cell s14.k0 0)), (weak (SVal.cell s14.k0 1)), (weak (SVal.cell s14.k0 2)), (weak (SVal.cell s14.k0 3)), (weak (SVal.cell s14.k0 4))]), s14.k1]).bind fun r34 =>
 guardX r34.r true
 ((sIn s14.k2.xs.length (.int .i64 0)).bind fun j35 =>
 (s14.k2.xs[j35]?).bind fun e36 =>
 if (elemOk false 1 e36) = true then
 (sBin .neq e36 s14.k1).bind fun r37 =>
 (asB r37).bind fun b38 =>
 some [b38]
 else none)
 (some [false])
 (none)).bind fun vs39 =>
 pickC (.bool (vs39.getD 0 false))
 (some { r := (.bool false) })
 (((sIn s14.k2.xs.length (.int .i64 0)).bind fun j40 =>
 (s14.k2.xs[j40]?).bind fun e41 =>
 if (elemOk false 1 e41) = true then
 (sBin .eql e41 (.int .i64 (-1))).bind fun r42 =>
 guardX r42 true
 ((T 20 [(weak (SVal.cell s14.k0 0)), s14.k1]).bind fun r43 =>
 guardX r43.r true
 ((sIn s14.k2.xs.length (.int .i64 1)).bind fun j44 =>
 (s14.k2.xs[j44]?).bind fun e45 =>
 if (elemOk false 1 e45) = true then
 (sBin .neq e45 (.int .i64 (-1))).bind fun r46 =>
 (asB r46).bind fun b47 =>
 some [b47]
 else none)
 (some [false])
 (none))
 (some [false])
 (none)
 else none).bind fun vs48 =>
 pickC (.bool (vs48.getD 0 false))
 (some { r := (.bool false) })
 ((sBin .add s14.k1 (.int .i64 1)).bind fun r49 =>
 next8 ⟨[(.rp [(SVal.cell s14.k0 0), (SVal.cell s14.k0 1), (SVal.cell s14.k0 2), (SVal.cell s14.k0 3), (SVal.cell s14.k0 4)]), r49], [], false⟩)))) k ⟨[(.rp [(SVal.cell s8.k0 0), (SVal.cell s8.k0 1), (SVal.cell s8.k0 2), (SVal.cell s8.k0 3), (SVal.cell s8.k0 4)]), s8.k1, (.sl 1 true false [r11.r, r12.r, r13.r]), (.int .i64 0)], [], false⟩
 else none)
 ((T 9 []).bind fun r50 =>
 some { r := r50.r })) k ⟨[(.rp [x0a, x0b, x0c, x0d, x0e]), (.int .i64 0)], [], false⟩)
theorem r4 (T : TT) (k : Nat) (x0a x0b x0c x0d x0e : SVal) : bodyE P H T k 4 [(.agg [x0a, x0b, x0c, x0d, x0e])] = R4 T k x0a x0b x0c x0d x0e := by kernel_rfl
theorem t4 (k : Nat) (x0a x0b x0c x0d x0e : SVal) : T (k + 1) 4 [(.agg [x0a, x0b, x0c, x0d, x0e])] = R4 (T k) k x0a x0b x0c x0d x0e := (tb k 4 _ rfl).trans (r4 ..)
/-- limelight/limelightlaw14.GiveFirst -/
def R5 (T : TT) (k : Nat) (x0a x0b x0c x0d x0e x1 : SVal) : Option Res :=
 ((T 8 [(.agg [(weak x0a), (weak x0b), (weak x0c), (weak x0d), (weak x0e)])]).bind fun r1 =>
 (sNot r1.r).bind fun r2 =>
 guardX r2 false
 ((T 10 [(.agg [(weak x0a), (weak x0b), (weak x0c), (weak x0d), (weak x0e)])]).bind fun r3 =>
 (sBin .neq r3.r (.int .i64 0)).bind fun r4 =>
 guardX r4 false
 ((T 11 [(weak x0a), x1]).bind fun r5 =>
 (sNot r5.r).bind fun r6 =>
 (asB r6).bind fun b7 =>
 some [b7])
 (some [true])
 (none))
 (some [true])
 (none)).bind fun vs8 =>
 pickC (.bool (vs8.getD 0 false))
 ((T 9 []).bind fun r9 =>
 some { r := r9.r })
 ((T 14 [(.agg [(weak x0a), (weak x0b), (weak x0c), (weak x0d), (weak x0e)]), x1]).bind fun r10 =>
 loopN (fun s11 next11 =>
 (sLen (SVal.cell s11.k1 0)).bind fun r12 =>
 (sBin .lss s11.k4 r12).bind fun r13 =>
 pickC r13
 (loopN (fun s14 next14 =>
 (sIdx true 7 (SVal.cell s14.k1 0) s14.k4).bind fun e15 =>
 (sLen (SVal.cell e15 6)).bind fun r16 =>
 (sBin .lss s14.k5 r16).bind fun r17 =>
 pickC r17
 ((sIdx true 7 (SVal.cell s14.k1 0) s14.k4).bind fun e18 =>
 (sIdx true 2 (SVal.cell e18 6) s14.k5).bind fun e19 =>
 (sBin .eql (SVal.cell e19 0) (.int .i64 5)).bind fun r20 =>
 pickC r20
 ((sBin .add s14.k3 (.int .i64 1)).bind fun r21 =>
 ((sBin .eql s14.k4 s14.k0).bind fun r22 =>
 guardX r22 true
 ((T 18 [(.agg [(weak (SVal.cell s14.k1 0)), (weak (SVal.cell s14.k1 1)), (weak (SVal.cell s14.k1 2)), (weak (SVal.cell s14.k1 3)), (weak (SVal.cell s14.k1 4))]), s14.k4]).bind fun r23 =>
 guardX r23.r true
 ((sBin .neq s14.k2 s14.k4).bind fun r24 =>
 (asB r24).bind fun b25 =>
 some [b25])
 (some [false])
 (none))
 (some [false])
 (none)).bind fun vs26 =>
 pickC (.bool (vs26.getD 0 false))
 (some { r := (.bool false) })
 ((sBin .add s14.k5 (.int .i64 1)).bind fun r27 =>
 next14 ⟨[s14.k0, (.rp [(SVal.cell s14.k1 0), (SVal.cell s14.k1 1), (SVal.cell s14.k1 2), (SVal.cell s14.k1 3), (SVal.cell s14.k1 4)]), s14.k2, r21, s14.k4, r27], [], false⟩))
 ((sBin .add s14.k5 (.int .i64 1)).bind fun r28 =>
 next14 ⟨[s14.k0, (.rp [(SVal.cell s14.k1 0), (SVal.cell s14.k1 1), (SVal.cell s14.k1 2), (SVal.cell s14.k1 3), (SVal.cell s14.k1 4)]), s14.k2, s14.k3, s14.k4, r28], [], false⟩))
 ((sBin .add s14.k4 (.int .i64 1)).bind fun r29 =>
 next11 ⟨[s14.k0, (.rp [(SVal.cell s14.k1 0), (SVal.cell s14.k1 1), (SVal.cell s14.k1 2), (SVal.cell s14.k1 3), (SVal.cell s14.k1 4)]), s14.k2, s14.k3, r29], [], false⟩)) k ⟨[s11.k0, (.rp [(SVal.cell s11.k1 0), (SVal.cell s11.k1 1), (SVal.cell s11.k1 2), (SVal.cell s11.k1 3), (SVal.cell s11.k1 4)]), s11.k2, s11.k3, s11.k4, (.int .i64 0)], [], false⟩)
 (((sBin .gtr s11.k3 (.int .i64 0)).bind fun r30 =>
 guardX r30 false
 ((sBin .eql s11.k2 (.int .i64 (-1))).bind fun r31 =>
 guardX r31 true
 ((T 9 []).bind fun r32 =>
 (asB r32.r).bind fun b33 =>
 some [b33])
 (some [false])
 (none))
 ((T 9 []).bind fun r34 =>
 (asB r34.r).bind fun b35 =>
 some [b35])
 (none)).bind fun vs36 =>
 some { r := (.bool (vs36.getD 0 false)) })) k ⟨[x1, (.rp [x0a, x0b, x0c, x0d, x0e]), r10.r, (.int .i64 0), (.int .i64 0)], [], false⟩)
theorem r5 (T : TT) (k : Nat) (x0a x0b x0c x0d x0e x1 : SVal) : bodyE P H T k 5 [(.agg [x0a, x0b, x0c, x0d, x0e]), x1] = R5 T k x0a x0b x0c x0d x0e x1 := by kernel_rfl
theorem t5 (k : Nat) (x0a x0b x0c x0d x0e x1 : SVal) : T (k + 1) 5 [(.agg [x0a, x0b, x0c, x0d, x0e]), x1] = R5 (T k) k x0a x0b x0c x0d x0e x1 := (tb k 5 _ rfl).trans (r5 ..)
/-- limelight/limelightlaw14.GivePlain -/
def R6 (T : TT) (k : Nat) (x0a x0b x0c x0d x0e x1 : SVal) : Option Res :=
 ((T 8 [(.agg [(weak x0a), (weak x0b), (weak x0c), (weak x0d), (weak x0e)])]).bind fun r1 =>
 (sNot r1.r).bind fun r2 =>
 guardX r2 false
 ((T 10 [(.agg [(weak x0a), (weak x0b), (weak x0c), (weak x0d), (weak x0e)])]).bind fun r3 =>
 (sBin .neq r3.r (.int .i64 0)).bind fun r4 =>
 guardX r4 false
 ((T 11 [(weak x0a), x1]).bind fun r5 =>
 (sNot r5.r).bind fun r6 =>
 (asB r6).bind fun b7 =>
 some [b7])
 (some [true])
 (none))
 (some [true])
 (none)).bind fun vs8 =>
 pickC (.bool (vs8.getD 0 false))
 ((T 9 []).bind fun r9 =>
 some { r := r9.r })
 (((sIdx true 7 x0a x1).bind fun e10 =>
 (sBin .neq (SVal.cell e10 5) (.int .i64 (-1))).bind fun r11 =>
 guardX r11 false
 ((sIdx true 7 x0a x1).bind fun e12 =>
 (sBin .eql (SVal.cell e12 1) (.int .i64 2)).bind fun r13 =>
 (asB r13).bind fun b14 =>
 some [b14])
 (some [true])
 (none)).bind fun vs15 =>
 pickC (.bool (vs15.getD 0 false))
 ((T 9 []).bind fun r16 =>
 some { r := r16.r })
 ((T 21 [(weak x0a), x1]).bind fun r17 =>
 loopN (fun s18 next18 =>
 (sLen s18.k2).bind fun r19 =>
 (sBin .lss s18.k4 r19).bind fun r20 =>
 pickC r20
 (((sIdx false 1 s18.k2 s18.k4).bind fun e21 =>
 (T 22 [(weak (SVal.cell s18.k1 0)), e21, (.int .i64 5)]).bind fun r22 =>
 guardX r22.r false
 ((sIdx false 1 s18.k2 s18.k4).bind fun e23 =>
 (T 20 [(weak (SVal.cell s18.k1 0)), e23]).bind fun r24 =>
 (asB r24.r).bind fun b25 =>
 some [b25])
 (some [true])
 (none)).bind fun vs26 =>
 pickC (.bool (vs26.getD 0 false))
 ((T 9 []).bind fun r27 =>
 some { r := r27.r })
 (((sBin .gtr s18.k4 (.int .i64 0)).bind fun r28 =>
 guardX r28 true
 ((sBin .eql s18.k3 (.int .i64 (-1))).bind fun r29 =>
 guardX r29 true
 ((sIdx false 1 s18.k2 s18.k4).bind fun e30 =>
 (T 18 [(.agg [(weak (SVal.cell s18.k1 0)), (weak (SVal.cell s18.k1 1)), (weak (SVal.cell s18.k1 2)), (weak (SVal.cell s18.k1 3)), (weak (SVal.cell s18.k1 4))]), e30]).bind fun r31 =>
 (asB r31.r).bind fun b32 =>
 some [b32])
 (some [false])
 (none))
 (some [false])
 (none)).bind fun vs33 =>
 pickC (.bool (vs33.getD 0 false))
 ((sIdx false 1 s18.k2 s18.k4).bind fun e34 =>
 (sBin .add s18.k4 (.int .i64 1)).bind fun r35 =>
 next18 ⟨[s18.k0, (.rp [(SVal.cell s18.k1 0), (SVal.cell s18.k1 1), (SVal.cell s18.k1 2), (SVal.cell s18.k1 3), (SVal.cell s18.k1 4)]), (weak s18.k2), e34, r35], [], false⟩)
 ((sBin .add s18.k4 (.int .i64 1)).bind fun r36 =>
 next18 ⟨[s18.k0, (.rp [(SVal.cell s18.k1 0), (SVal.cell s18.k1 1), (SVal.cell s18.k1 2), (SVal.cell s18.k1 3), (SVal.cell s18.k1 4)]), (weak s18.k2), s18.k3, r36], [], false⟩)))
 (((T 13 [(.agg [(weak (SVal.cell s18.k1 0)), (weak (SVal.cell s18.k1 1)), (weak (SVal.cell s18.k1 2)), (weak (SVal.cell s18.k1 3)), (weak (SVal.cell s18.k1 4))]), s18.k0]).bind fun r37 =>
 (sBin .eql r37.r s18.k3).bind fun r38 =>
 guardX r38 true
 ((T 14 [(.agg [(weak (SVal.cell s18.k1 0)), (weak (SVal.cell s18.k1 1)), (weak (SVal.cell s18.k1 2)), (weak (SVal.cell s18.k1 3)), (weak (SVal.cell s18.k1 4))]), s18.k0]).bind fun r39 =>
 (sBin .eql r39.r (.int .i64 (-1))).bind fun r40 =>
 guardX r40 true
 ((T 9 []).bind fun r41 =>
 (asB r41.r).bind fun b42 =>
 some [b42])
 (some [false])
 (none))
 (some [false])
 (none)).bind fun vs43 =>
 some { r := (.bool (vs43.getD 0 false)) })) k ⟨[x1, (.rp [x0a, x0b, x0c, x0d, x0e]), (weak r17.r), (.int .i64 (-1)), (.int .i64 0)], [], false⟩))
theorem r6 (T : TT) (k : Nat) (x0a x0b x0c x0d x0e x1 : SVal) : bodyE P H T k 6 [(.agg [x0a, x0b, x0c, x0d, x0e]), x1] = R6 T k x0a x0b x0c x0d x0e x1 := by kernel_rfl
theorem t6 (k : Nat) (x0a x0b x0c x0d x0e x1 : SVal) : T (k + 1) 6 [(.agg [x0a, x0b, x0c, x0d, x0e]), x1] = R6 (T k) k x0a x0b x0c x0d x0e x1 := (tb k 6 _ rfl).trans (r6 ..)
/-- limelight/limelightlaw14.GiveHosts -/
def R7 (T : TT) (k : Nat) (x0a x0b x0c x0d x0e x1 : SVal) : Option Res :=
 ((T 8 [(.agg [(weak x0a), (weak x0b), (weak x0c), (weak x0d), (weak x0e)])]).bind fun r1 =>
 (sNot r1.r).bind fun r2 =>
 guardX r2 false
 ((T 10 [(.agg [(weak x0a), (weak x0b), (weak x0c), (weak x0d), (weak x0e)])]).bind fun r3 =>
 (sBin .neq r3.r (.int .i64 0)).bind fun r4 =>
 guardX r4 false
 ((T 11 [(weak x0a), x1]).bind fun r5 =>
 (sNot r5.r).bind fun r6 =>
 (asB r6).bind fun b7 =>
 some [b7])
 (some [true])
 (none))
 (some [true])
 (none)).bind fun vs8 =>
 pickC (.bool (vs8.getD 0 false))
 ((T 9 []).bind fun r9 =>
 some { r := r9.r })
 ((sIdx true 7 x0a x1).bind fun e10 =>
 (sBin .eql (SVal.cell e10 5) (.int .i64 (-1))).bind fun r11 =>
 pickC r11
 ((T 9 []).bind fun r12 =>
 some { r := r12.r })
 ((T 13 [(.agg [(weak x0a), (weak x0b), (weak x0c), (weak x0d), (weak x0e)]), x1]).bind fun r13 =>
 (T 20 [(weak x0a), x1]).bind fun r14 =>
 (sNot r14.r).bind fun r15 =>
 pickC r15
 (((sBin .eql r13.r (.int .i64 (-1))).bind fun r16 =>
 guardX r16 true
 ((T 9 []).bind fun r17 =>
 (asB r17.r).bind fun b18 =>
 some [b18])
 (some [false])
 (none)).bind fun vs19 =>
 some { r := (.bool (vs19.getD 0 false)) })
 (((sBin .eql r13.r (.int .i64 (-1))).bind fun r20 =>
 guardX r20 false
 ((T 19 [(weak x0a), (SVal.cell e10 5), r13.r]).bind fun r21 =>
 guardX r21.r true
 ((T 12 [(.agg [(weak x0a), (weak x0b), (weak x0c), (weak x0d), (weak x0e)]), x1]).bind fun r22 =>
 (sBin .eql r22.r r13.r).bind fun r23 =>
 guardX r23 true
 ((T 9 []).bind fun r24 =>
 (asB r24.r).bind fun b25 =>
 some [b25])
 (some [false])
 (none))
 (some [false])
 (none))
 ((T 12 [(.agg [(weak x0a), (weak x0b), (weak x0c), (weak x0d), (weak x0e)]), x1]).bind fun r26 =>
 (sBin .eql r26.r r13.r).bind fun r27 =>
 guardX r27 true
 ((T 9 []).bind fun r28 =>
 (asB r28.r).bind fun b29 =>
 some [b29])
 (some [false])
 (none))
 (none)).bind fun vs30 =>
 some { r := (.bool (vs30.getD 0 false)) })))
theorem r7 (T : TT) (k : Nat) (x0a x0b x0c x0d x0e x1 : SVal) : bodyE P H T k 7 [(.agg [x0a, x0b, x0c, x0d, x0e]), x1] = R7 T k x0a x0b x0c x0d x0e x1 := by kernel_rfl
theorem t7 (k : Nat) (x0a x0b x0c x0d x0e x1 : SVal) : T (k + 1) 7 [(.agg [x0a, x0b, x0c, x0d, x0e]), x1] = R7 (T k) k x0a x0b x0c x0d x0e x1 := (tb k 7 _ rfl).trans (r7 ..)
/-- limelight/limelightref10.Small -/
def R8 (T : TT) (k : Nat) (x0a x0b x0c x0d x0e : SVal) : Option Res :=
 ((T 23 [(weak x0a)]).bind fun r1 =>
 guardX r1.r true
 ((sLen x0a).bind fun r2 =>
 (sBin .leq r2 (.int .i64 16)).bind fun r3 =>
 guardX r3 true
 ((sLen x0b).bind fun r4 =>
 (sBin .leq r4 (.int .i64 40)).bind fun r5 =>
 guardX r5 true
 ((sLen x0c).bind fun r6 =>
 (sBin .leq r6 (.int .i64 40)).bind fun r7 =>
 guardX r7 true
 ((sLen x0d).bind fun r8 =>
 (sBin .leq r8 (.int .i64 40)).bind fun r9 =>
 guardX r9 true
 ((sLen x0e).bind fun r10 =>
 (sBin .leq r10 (.int .i64 80)).bind fun r11 =>
 (asB r11).bind fun b12 =>
 some [b12])
 (some [false])
 (none))
 (some [false])
 (none))
 (some [false])
 (none))
 (some [false])
 (none))
 (some [false])
 (none)).bind fun vs13 =>
 some { r := (.bool (vs13.getD 0 false)) }
theorem r8 (T : TT) (k : Nat) (x0a x0b x0c x0d x0e : SVal) : bodyE P H T k 8 [(.agg [x0a, x0b, x0c, x0d, x0e])] = R8 T k x0a x0b x0c x0d x0e := by kernel_rfl
theorem t8 (k : Nat) (x0a x0b x0c x0d x0e : SVal) : T (k + 1) 8 [(.agg [x0a, x0b, x0c, x0d, x0e])] = R8 (T k) k x0a x0b x0c x0d x0e := (tb k 8 _ rfl).trans (r8 ..)
/-- limelight/limelightlaw14.live -/
def R9 (T : TT) (k : Nat) : Option Res :=
 ((T 12 [(.agg [(.sl 7 false false [(.agg [(.int .i64 0), (.int .i64 0), (.int .i64 (-1)), (.sl 1 false false [(.int .i64 1), (.int .i64 5)]), (.int .i64 (-1)), (.int .i64 (-1)), (.sl 2 false false [])]), (.agg [(.int .i64 1), (.int .i64 2), (.int .i64 0), (.sl 1 false false [(.int .i64 2), (.int .i64 3)]), (.int .i64 (-1)), (.int .i64 (-1)), (.sl 2 false false [])]), (.agg [(.int .i64 1), (.int .i64 1), (.int .i64 1), (.sl 1 false false []), (.int .i64 (-1)), (.int .i64 (-1)), (.sl 2 false false [])]), (.agg [(.int .i64 1), (.int .i64 1), (.int .i64 1), (.sl 1 false false []), (.int .i64 (-1)), (.int .i64 (-1)), (.sl 2 false false [(.agg [(.int .i64 5), (.int .i64 0)])])]), (.agg [(.int .i64 1), (.int .i64 1), (.int .i64 6), (.sl 1 false false []), (.int .i64 (-1)), (.int .i64 (-1)), (.sl 2 false false [])]), (.agg [(.int .i64 1), (.int .i64 0), (.int .i64 0), (.sl 1 false false []), (.int .i64 (-1)), (.int .i64 6), (.sl 2 false false [])]), (.agg [(.int .i64 3), (.int .i64 0), (.int .i64 (-1)), (.sl 1 false false [(.int .i64 4)]), (.int .i64 5), (.int .i64 (-1)), (.sl 2 false false [(.agg [(.int .i64 7), (.int .i64 0)])])])]), (.sl 1 false false [(.int .i64 1)]), (.sl 1 false false []), (.sl 2 false false []), (.sl 1 false false [])]), (.int .i64 2)]).bind fun r1 =>
 (sBin .eql r1.r (.int .i64 2)).bind fun r2 =>
 guardX r2 true
 ((T 12 [(.agg [(.sl 7 false false [(.agg [(.int .i64 0), (.int .i64 0), (.int .i64 (-1)), (.sl 1 false false [(.int .i64 1), (.int .i64 5)]), (.int .i64 (-1)), (.int .i64 (-1)), (.sl 2 false false [])]), (.agg [(.int .i64 1), (.int .i64 2), (.int .i64 0), (.sl 1 false false [(.int .i64 2), (.int .i64 3)]), (.int .i64 (-1)), (.int .i64 (-1)), (.sl 2 false false [])]), (.agg [(.int .i64 1), (.int .i64 1), (.int .i64 1), (.sl 1 false false []), (.int .i64 (-1)), (.int .i64 (-1)), (.sl 2 false false [])]), (.agg [(.int .i64 1), (.int .i64 1), (.int .i64 1), (.sl 1 false false []), (.int .i64 (-1)), (.int .i64 (-1)), (.sl 2 false false [(.agg [(.int .i64 5), (.int .i64 0)])])]), (.agg [(.int .i64 1), (.int .i64 1), (.int .i64 6), (.sl 1 false false []), (.int .i64 (-1)), (.int .i64 (-1)), (.sl 2 false false [])]), (.agg [(.int .i64 1), (.int .i64 0), (.int .i64 0), (.sl 1 false false []), (.int .i64 (-1)), (.int .i64 6), (.sl 2 false false [])]), (.agg [(.int .i64 3), (.int .i64 0), (.int .i64 (-1)), (.sl 1 false false [(.int .i64 4)]), (.int .i64 5), (.int .i64 (-1)), (.sl 2 false false [(.agg [(.int .i64 7), (.int .i64 0)])])])]), (.sl 1 false false [(.int .i64 1)]), (.sl 1 false false []), (.sl 2 false false []), (.sl 1 false false [])]), (.int .i64 1)]).bind fun r3 =>
 (sBin .eql r3.r (.int .i64 (-1))).bind fun r4 =>
 guardX r4 true
 ((T 13 [(.agg [(.sl 7 false false [(.agg [(.int .i64 0), (.int .i64 0), (.int .i64 (-1)), (.sl 1 false false [(.int .i64 1), (.int .i64 5)]), (.int .i64 (-1)), (.int .i64 (-1)), (.sl 2 false false [])]), (.agg [(.int .i64 1), (.int .i64 2), (.int .i64 0), (.sl 1 false false [(.int .i64 2), (.int .i64 3)]), (.int .i64 (-1)), (.int .i64 (-1)), (.sl 2 false false [])]), (.agg [(.int .i64 1), (.int .i64 1), (.int .i64 1), (.sl 1 false false []), (.int .i64 (-1)), (.int .i64 (-1)), (.sl 2 false false [])]), (.agg [(.int .i64 1), (.int .i64 1), (.int .i64 1), (.sl 1 false false []), (.int .i64 (-1)), (.int .i64 (-1)), (.sl 2 false false [(.agg [(.int .i64 5), (.int .i64 0)])])]), (.agg [(.int .i64 1), (.int .i64 1), (.int .i64 6), (.sl 1 false false []), (.int .i64 (-1)), (.int .i64 (-1)), (.sl 2 false false [])]), (.agg [(.int .i64 1), (.int .i64 0), (.int .i64 0), (.sl 1 false false []), (.int .i64 (-1)), (.int .i64 6), (.sl 2 false false [])]), (.agg [(.int .i64 3), (.int .i64 0), (.int .i64 (-1)), (.sl 1 false false [(.int .i64 4)]), (.int .i64 5), (.int .i64 (-1)), (.sl 2 false false [(.agg [(.int .i64 7), (.int .i64 0)])])])]), (.sl 1 false false [(.int .i64 1)]), (.sl 1 false false []), (.sl 2 false false []), (.sl 1 false false [])]), (.int .i64 1)]).bind fun r5 =>
 (sBin .eql r5.r (.int .i64 3)).bind fun r6 =>
 guardX r6 true
 ((T 14 [(.agg [(.sl 7 false false [(.agg [(.int .i64 0), (.int .i64 0), (.int .i64 (-1)), (.sl 1 false false [(.int .i64 1), (.int .i64 5)]), (.int .i64 (-1)), (.int .i64 (-1)), (.sl 2 false false [])]), (.agg [(.int .i64 1), (.int .i64 2), (.int .i64 0), (.sl 1 false false [(.int .i64 2), (.int .i64 3)]), (.int .i64 (-1)), (.int .i64 (-1)), (.sl 2 false false [])]), (.agg [(.int .i64 1), (.int .i64 1), (.int .i64 1), (.sl 1 false false []), (.int .i64 (-1)), (.int .i64 (-1)), (.sl 2 false false [])]), (.agg [(.int .i64 1), (.int .i64 1), (.int .i64 1), (.sl 1 false false []), (.int .i64 (-1)), (.int .i64 (-1)), (.sl 2 false false [(.agg [(.int .i64 5), (.int .i64 0)])])]), (.agg [(.int .i64 1), (.int .i64 1), (.int .i64 6), (.sl 1 false false []), (.int .i64 (-1)), (.int .i64 (-1)), (.sl 2 false false [])]), (.agg [(.int .i64 1), (.int .i64 0), (.int .i64 0), (.sl 1 false false []), (.int .i64 (-1)), (.int .i64 6), (.sl 2 false false [])]), (.agg [(.int .i64 3), (.int .i64 0), (.int .i64 (-1)), (.sl 1 false false [(.int .i64 4)]), (.int .i64 5), (.int .i64 (-1)), (.sl 2 false false [(.agg [(.int .i64 7), (.int .i64 0)])])])]), (.sl 1 false false [(.int .i64 1)]), (.sl 1 false false []), (.sl 2 false false []), (.sl 1 false false [])]), (.int .i64 1)]).bind fun r7 =>
 (sBin .eql r7.r (.int .i64 3)).bind fun r8 =>
 guardX r8 true
 ((T 14 [(.agg [(.sl 7 false false [(.agg [(.int .i64 0), (.int .i64 0), (.int .i64 (-1)), (.sl 1 false false [(.int .i64 1), (.int .i64 5)]), (.int .i64 (-1)), (.int .i64 (-1)), (.sl 2 false false [])]), (.agg [(.int .i64 1), (.int .i64 2), (.int .i64 0), (.sl 1 false false [(.int .i64 2), (.int .i64 3)]), (.int .i64 (-1)), (.int .i64 (-1)), (.sl 2 false false [])]), (.agg [(.int .i64 1), (.int .i64 1), (.int .i64 1), (.sl 1 false false []), (.int .i64 (-1)), (.int .i64 (-1)), (.sl 2 false false [])]), (.agg [(.int .i64 1), (.int .i64 1), (.int .i64 1), (.sl 1 false false []), (.int .i64 (-1)), (.int .i64 (-1)), (.sl 2 false false [(.agg [(.int .i64 5), (.int .i64 0)])])]), (.agg [(.int .i64 1), (.int .i64 1), (.int .i64 6), (.sl 1 false false []), (.int .i64 (-1)), (.int .i64 (-1)), (.sl 2 false false [])]), (.agg [(.int .i64 1), (.int .i64 0), (.int .i64 0), (.sl 1 false false []), (.int .i64 (-1)), (.int .i64 6), (.sl 2 false false [])]), (.agg [(.int .i64 3), (.int .i64 0), (.int .i64 (-1)), (.sl 1 false false [(.int .i64 4)]), (.int .i64 5), (.int .i64 (-1)), (.sl 2 false false [(.agg [(.int .i64 7), (.int .i64 0)])])])]), (.sl 1 false false [(.int .i64 1)]), (.sl 1 false false []), (.sl 2 false false []), (.sl 1 false false [])]), (.int .i64 2)]).bind fun r9 =>
 (sBin .eql r9.r (.int .i64 (-1))).bind fun r10 =>
 guardX r10 true
 ((T 12 [(.agg [(.sl 7 false false [(.agg [(.int .i64 0), (.int .i64 0), (.int .i64 (-1)), (.sl 1 false false [(.int .i64 1), (.int .i64 5)]), (.int .i64 (-1)), (.int .i64 (-1)), (.sl 2 false false [])]), (.agg [(.int .i64 1), (.int .i64 2), (.int .i64 0), (.sl 1 false false [(.int .i64 2), (.int .i64 3)]), (.int .i64 (-1)), (.int .i64 (-1)), (.sl 2 false false [])]), (.agg [(.int .i64 1), (.int .i64 1), (.int .i64 1), (.sl 1 false false []), (.int .i64 (-1)), (.int .i64 (-1)), (.sl 2 false false [])]), (.agg [(.int .i64 1), (.int .i64 1), (.int .i64 1), (.sl 1 false false []), (.int .i64 (-1)), (.int .i64 (-1)), (.sl 2 false false [(.agg [(.int .i64 5), (.int .i64 0)])])]), (.agg [(.int .i64 1), (.int .i64 1), (.int .i64 6), (.sl 1 false false []), (.int .i64 (-1)), (.int .i64 (-1)), (.sl 2 false false [])]), (.agg [(.int .i64 1), (.int .i64 0), (.int .i64 0), (.sl 1 false false []), (.int .i64 (-1)), (.int .i64 6), (.sl 2 false false [])]), (.agg [(.int .i64 3), (.int .i64 0), (.int .i64 (-1)), (.sl 1 false false [(.int .i64 4)]), (.int .i64 5), (.int .i64 (-1)), (.sl 2 false false [(.agg [(.int .i64 7), (.int .i64 0)])])])]), (.sl 1 false false [(.int .i64 1)]), (.sl 1 false false []), (.sl 2 false false []), (.sl 1 false false [])]), (.int .i64 5)]).bind fun r11 =>
 (sBin .eql r11.r (.int .i64 4)).bind fun r12 =>
 guardX r12 true
 ((T 13 [(.agg [(.sl 7 false false [(.agg [(.int .i64 0), (.int .i64 0), (.int .i64 (-1)), (.sl 1 false false [(.int .i64 1), (.int .i64 5)]), (.int .i64 (-1)), (.int .i64 (-1)), (.sl 2 false false [])]), (.agg [(.int .i64 1), (.int .i64 2), (.int .i64 0), (.sl 1 false false [(.int .i64 2), (.int .i64 3)]), (.int .i64 (-1)), (.int .i64 (-1)), (.sl 2 false false [])]), (.agg [(.int .i64 1), (.int .i64 1), (.int .i64 1), (.sl 1 false false []), (.int .i64 (-1)), (.int .i64 (-1)), (.sl 2 false false [])]), (.agg [(.int .i64 1), (.int .i64 1), (.int .i64 1), (.sl 1 false false []), (.int .i64 (-1)), (.int .i64 (-1)), (.sl 2 false false [(.agg [(.int .i64 5), (.int .i64 0)])])]), (.agg [(.int .i64 1), (.int .i64 1), (.int .i64 6), (.sl 1 false false []), (.int .i64 (-1)), (.int .i64 (-1)), (.sl 2 false false [])]), (.agg [(.int .i64 1), (.int .i64 0), (.int .i64 0), (.sl 1 false false []), (.int .i64 (-1)), (.int .i64 6), (.sl 2 false false [])]), (.agg [(.int .i64 3), (.int .i64 0), (.int .i64 (-1)), (.sl 1 false false [(.int .i64 4)]), (.int .i64 5), (.int .i64 (-1)), (.sl 2 false false [(.agg [(.int .i64 7), (.int .i64 0)])])])]), (.sl 1 false false [(.int .i64 1)]), (.sl 1 false false []), (.sl 2 false false []), (.sl 1 false false [])]), (.int .i64 0)]).bind fun r13 =>
 (sBin .eql r13.r (.int .i64 3)).bind fun r14 =>
 guardX r14 true
 ((T 13 [(.agg [(.sl 7 false false [(.agg [(.int .i64 0), (.int .i64 0), (.int .i64 (-1)), (.sl 1 false false [(.int .i64 1), (.int .i64 5)]), (.int .i64 (-1)), (.int .i64 (-1)), (.sl 2 false false [])]), (.agg [(.int .i64 1), (.int .i64 2), (.int .i64 0), (.sl 1 false false [(.int .i64 2), (.int .i64 3)]), (.int .i64 (-1)), (.int .i64 (-1)), (.sl 2 false false [])]), (.agg [(.int .i64 1), (.int .i64 1), (.int .i64 1), (.sl 1 false false []), (.int .i64 (-1)), (.int .i64 (-1)), (.sl 2 false false [])]), (.agg [(.int .i64 1), (.int .i64 1), (.int .i64 1), (.sl 1 false false []), (.int .i64 (-1)), (.int .i64 (-1)), (.sl 2 false false [(.agg [(.int .i64 5), (.int .i64 0)])])]), (.agg [(.int .i64 1), (.int .i64 1), (.int .i64 6), (.sl 1 false false []), (.int .i64 (-1)), (.int .i64 (-1)), (.sl 2 false false [])]), (.agg [(.int .i64 1), (.int .i64 0), (.int .i64 0), (.sl 1 false false []), (.int .i64 (-1)), (.int .i64 6), (.sl 2 false false [])]), (.agg [(.int .i64 3), (.int .i64 0), (.int .i64 (-1)), (.sl 1 false false [(.int .i64 4)]), (.int .i64 5), (.int .i64 (-1)), (.sl 2 false false [(.agg [(.int .i64 7), (.int .i64 0)])])])]), (.sl 1 false false [(.int .i64 1)]), (.sl 1 false false []), (.sl 2 false false []), (.sl 1 false false [])]), (.int .i64 2)]).bind fun r15 =>
 (sBin .eql r15.r (.int .i64 (-1))).bind fun r16 =>
 guardX r16 true
 ((T 12 [(.agg [(.sl 7 false false [(.agg [(.int .i64 0), (.int .i64 0), (.int .i64 (-1)), (.sl 1 false false [(.int .i64 1), (.int .i64 5)]), (.int .i64 (-1)), (.int .i64 (-1)), (.sl 2 false false [])]), (.agg [(.int .i64 1), (.int .i64 2), (.int .i64 0), (.sl 1 false false [(.int .i64 2), (.int .i64 3)]), (.int .i64 (-1)), (.int .i64 (-1)), (.sl 2 false false [])]), (.agg [(.int .i64 1), (.int .i64 1), (.int .i64 1), (.sl 1 false false []), (.int .i64 (-1)), (.int .i64 (-1)), (.sl 2 false false [])]), (.agg [(.int .i64 1), (.int .i64 1), (.int .i64 1), (.sl 1 false false []), (.int .i64 (-1)), (.int .i64 (-1)), (.sl 2 false false [(.agg [(.int .i64 5), (.int .i64 0)])])]), (.agg [(.int .i64 1), (.int .i64 1), (.int .i64 6), (.sl 1 false false []), (.int .i64 (-1)), (.int .i64 (-1)), (.sl 2 false false [])]), (.agg [(.int .i64 1), (.int .i64 0), (.int .i64 0), (.sl 1 false false []), (.int .i64 (-1)), (.int .i64 6), (.sl 2 false false [])]), (.agg [(.int .i64 3), (.int .i64 0), (.int .i64 (-1)), (.sl 1 false false [(.int .i64 4)]), (.int .i64 5), (.int .i64 (-1)), (.sl 2 false false [(.agg [(.int .i64 7), (.int .i64 0)])])])]), (.sl 1 false false [(.int .i64 1)]), (.sl 1 false false []), (.sl 2 false false []), (.sl 1 false false [])]), (.int .i64 9)]).bind fun r17 =>
 (sBin .eql r17.r (.int .i64 (-1))).bind fun r18 =>
 guardX r18 true
 ((T 13 [(.agg [(.sl 7 false false []), (.sl 1 false false []), (.sl 1 false false []), (.sl 2 false false []), (.sl 1 false false [])]), (.int .i64 0)]).bind fun r19 =>
 (sBin .eql r19.r (.int .i64 (-1))).bind fun r20 =>
 (asB r20).bind fun b21 =>
 some [b21])
 (some [false])
 (none))
 (some [false])
 (none))
 (some [false])
 (none))
 (some [false])
 (none))
 (some [false])
 (none))
 (some [false])
 (none))
 (some [false])
 (none))
 (some [false])
 (none))
 (some [false])
 (none)).bind fun vs22 =>
 some { r := (.bool (vs22.getD 0 false)) }
theorem r9 (T : TT) (k : Nat) : bodyE P H T k 9 [] = R9 T k  := by kernel_rfl
noncomputable def D9 (T : TT) (k : Nat) : List SVal → Option Res
  | [] => R9 T k 
  | a => bodyE P H T k 9 a
theorem d9 (T : TT) (k : Nat) (a : List SVal) : D9 T k a = bodyE P H T k 9 a := by
  unfold D9
  split
  · exact (r9 ..).symm
  · rfl
theorem t9 (k : Nat) : T (k + 1) 9 [] = R9 (T k) k  := (tb k 9 _ rfl).trans (r9 ..)
/-- limelight/limelightref10.Check -/
def R10 (T : TT) (k : Nat) (x0a x0b x0c x0d x0e : SVal) : Option Res :=
 (T 24 [(weak x0a)]).bind fun r1 =>
 (sNot r1.r).bind fun r2 =>
 pickC r2
 (some { r := (.int .i64 1) })
 ((T 25 [(.agg [(weak x0a), (weak x0b), (weak x0c), (weak x0d), (weak x0e)])]).bind fun r3 =>
 (sNot r3.r).bind fun r4 =>
 pickC r4
 (some { r := (.int .i64 9) })
 (some { r := (.int .i64 0) }))
theorem r10 (T : TT) (k : Nat) (x0a x0b x0c x0d x0e : SVal) : bodyE P H T k 10 [(.agg [x0a, x0b, x0c, x0d, x0e])] = R10 T k x0a x0b x0c x0d x0e := by kernel_rfl
theorem t10 (k : Nat) (x0a x0b x0c x0d x0e : SVal) : T (k + 1) 10 [(.agg [x0a, x0b, x0c, x0d, x0e])] = R10 (T k) k x0a x0b x0c x0d x0e := (tb k 10 _ rfl).trans (r10 ..)
/-- limelight/limelightref01.Is -/
def R11 (T : TT) (k : Nat) (x0 x1 : SVal) : Option Res :=
 ((sBin .geq x1 (.int .i64 0)).bind fun r1 =>
 guardX r1 true
 ((sLen x0).bind fun r2 =>
 (sBin .lss x1 r2).bind fun r3 =>
 (asB r3).bind fun b4 =>
 some [b4])
 (some [false])
 (none)).bind fun vs5 =>
 some { r := (.bool (vs5.getD 0 false)) }
theorem r11 (T : TT) (k : Nat) (x0 x1 : SVal) : bodyE P H T k 11 [x0, x1] = R11 T k x0 x1 := by kernel_rfl
theorem t11 (k : Nat) (x0 x1 : SVal) : T (k + 1) 11 [x0, x1] = R11 (T k) k x0 x1 := (tb k 11 _ rfl).trans (r11 ..)
/-- limelight/give.Area -/
def R12 (T : TT) (k : Nat) (x0a x0b x0c x0d x0e x1 : SVal) : Option Res :=
 (T 26 [(.agg [(weak x0a), (weak x0b), (weak x0c), (weak x0d), (weak x0e)]), x1, (.fn 27 [])]).bind fun r1 =>
 some { r := r1.r }
theorem r12 (T : TT) (k : Nat) (x0a x0b x0c x0d x0e x1 : SVal) : bodyE P H T k 12 [(.agg [x0a, x0b, x0c, x0d, x0e]), x1] = R12 T k x0a x0b x0c x0d x0e x1 := by kernel_rfl
noncomputable def D12 (T : TT) (k : Nat) : List SVal → Option Res
  | [(.agg [x0a, x0b, x0c, x0d, x0e]), x1] => R12 T k x0a x0b x0c x0d x0e x1
  | a => bodyE P H T k 12 a
theorem d12 (T : TT) (k : Nat) (a : List SVal) : D12 T k a = bodyE P H T k 12 a := by
  unfold D12
  split
  · exact (r12 ..).symm
  · rfl
theorem t12 (k : Nat) (x0a x0b x0c x0d x0e x1 : SVal) : T (k + 1) 12 [(.agg [x0a, x0b, x0c, x0d, x0e]), x1] = R12 (T k) k x0a x0b x0c x0d x0e x1 := (tb k 12 _ rfl).trans (r12 ..)
/-- limelight/give.Delegate -/
def R13 (T : TT) (k : Nat) (x0a x0b x0c x0d x0e x1 : SVal) : Option Res :=
 (T 26 [(.agg [(weak x0a), (weak x0b), (weak x0c), (weak x0d), (weak x0e)]), x1, (.fn 28 [])]).bind fun r1 =>
 some { r := r1.r }
theorem r13 (T : TT) (k : Nat) (x0a x0b x0c x0d x0e x1 : SVal) : bodyE P H T k 13 [(.agg [x0a, x0b, x0c, x0d, x0e]), x1] = R13 T k x0a x0b x0c x0d x0e x1 := by kernel_rfl
noncomputable def D13 (T : TT) (k : Nat) : List SVal → Option Res
  | [(.agg [x0a, x0b, x0c, x0d, x0e]), x1] => R13 T k x0a x0b x0c x0d x0e x1
  | a => bodyE P H T k 13 a
theorem d13 (T : TT) (k : Nat) (a : List SVal) : D13 T k a = bodyE P H T k 13 a := by
  unfold D13
  split
  · exact (r13 ..).symm
  · rfl
theorem t13 (k : Nat) (x0a x0b x0c x0d x0e x1 : SVal) : T (k + 1) 13 [(.agg [x0a, x0b, x0c, x0d, x0e]), x1] = R13 (T k) k x0a x0b x0c x0d x0e x1 := (tb k 13 _ rfl).trans (r13 ..)
/-- limelight/give.First -/
def R14 (T : TT) (k : Nat) (x0a x0b x0c x0d x0e x1 : SVal) : Option Res :=
 (T 26 [(.agg [(weak x0a), (weak x0b), (weak x0c), (weak x0d), (weak x0e)]), x1, (.fn 29 [])]).bind fun r1 =>
 some { r := r1.r }
theorem r14 (T : TT) (k : Nat) (x0a x0b x0c x0d x0e x1 : SVal) : bodyE P H T k 14 [(.agg [x0a, x0b, x0c, x0d, x0e]), x1] = R14 T k x0a x0b x0c x0d x0e x1 := by kernel_rfl
noncomputable def D14 (T : TT) (k : Nat) : List SVal → Option Res
  | [(.agg [x0a, x0b, x0c, x0d, x0e]), x1] => R14 T k x0a x0b x0c x0d x0e x1
  | a => bodyE P H T k 14 a
theorem d14 (T : TT) (k : Nat) (a : List SVal) : D14 T k a = bodyE P H T k 14 a := by
  unfold D14
  split
  · exact (r14 ..).symm
  · rfl
theorem t14 (k : Nat) (x0a x0b x0c x0d x0e x1 : SVal) : T (k + 1) 14 [(.agg [x0a, x0b, x0c, x0d, x0e]), x1] = R14 (T k) k x0a x0b x0c x0d x0e x1 := (tb k 14 _ rfl).trans (r14 ..)
/-- limelight/limelightref14.Area -/
def R15 (T : TT) (k : Nat) (x0a x0b x0c x0d x0e x1 : SVal) : Option Res :=
 (T 18 [(.agg [(weak x0a), (weak x0b), (weak x0c), (weak x0d), (weak x0e)]), x1]).bind fun r1 =>
 pickC r1.r
 (some { r := x1 })
 ((T 20 [(weak x0a), x1]).bind fun r2 =>
 pickC r2.r
 ((T 16 [(.agg [(weak x0a), (weak x0b), (weak x0c), (weak x0d), (weak x0e)]), x1]).bind fun r3 =>
 some { r := r3.r })
 (some { r := (.int .i64 (-1)) }))
theorem r15 (T : TT) (k : Nat) (x0a x0b x0c x0d x0e x1 : SVal) : bodyE P H T k 15 [(.agg [x0a, x0b, x0c, x0d, x0e]), x1] = R15 T k x0a x0b x0c x0d x0e x1 := by kernel_rfl
theorem t15 (k : Nat) (x0a x0b x0c x0d x0e x1 : SVal) : T (k + 1) 15 [(.agg [x0a, x0b, x0c, x0d, x0e]), x1] = R15 (T k) k x0a x0b x0c x0d x0e x1 := (tb k 15 _ rfl).trans (r15 ..)
/-- limelight/limelightref14.Delegate -/
def R16 (T : TT) (k : Nat) (x0a x0b x0c x0d x0e x1 : SVal) : Option Res :=
 (sIdx true 7 x0a x1).bind fun e1 =>
 (sBin .neq (SVal.cell e1 5) (.int .i64 (-1))).bind fun r2 =>
 pickC r2
 ((T 20 [(weak x0a), x1]).bind fun r3 =>
 (sNot r3.r).bind fun r4 =>
 pickC r4
 (some { r := (.int .i64 (-1)) })
 ((sIdx true 7 x0a x1).bind fun e5 =>
 (T 17 [(.agg [(weak x0a), (weak x0b), (weak x0c), (weak x0d), (weak x0e)]), (SVal.cell e5 5)]).bind fun r6 =>
 (sBin .neq r6.r (.int .i64 (-1))).bind fun r7 =>
 pickC r7
 (some { r := r6.r })
 ((T 21 [(weak x0a), (SVal.cell e5 5)]).bind fun r8 =>
 loopN (fun s9 next9 =>
 (sLen s9.k2).bind fun r10 =>
 (sBin .lss s9.k3 r10).bind fun r11 =>
 pickC r11
 ((sIdx false 1 s9.k2 s9.k3).bind fun e12 =>
 (sIdx true 7 (SVal.cell s9.k1 0) s9.k0).bind fun e13 =>
 (sBin .eql (SVal.cell e13 1) (.int .i64 2)).bind fun r14 =>
 (T 30 [(.agg [(weak (SVal.cell s9.k1 0)), (weak (SVal.cell s9.k1 1)), (weak (SVal.cell s9.k1 2)), (weak (SVal.cell s9.k1 3)), (weak (SVal.cell s9.k1 4))]), e12, r14]).bind fun r15 =>
 (sBin .neq r15.r (.int .i64 (-1))).bind fun r16 =>
 pickC r16
 (some { r := r15.r })
 ((sBin .add s9.k3 (.int .i64 1)).bind fun r17 =>
 next9 ⟨[s9.k0, (.rp [(SVal.cell s9.k1 0), (SVal.cell s9.k1 1), (SVal.cell s9.k1 2), (SVal.cell s9.k1 3), (SVal.cell s9.k1 4)]), (weak s9.k2), r17], [], false⟩))
 (some { r := (.int .i64 (-1)) })) k ⟨[x1, (.rp [x0a, x0b, x0c, x0d, x0e]), (weak r8.r), (.int .i64 1)], [], false⟩)))
 ((T 17 [(.agg [(weak x0a), (weak x0b), (weak x0c), (weak x0d), (weak x0e)]), x1]).bind fun r18 =>
 (sBin .neq r18.r (.int .i64 (-1))).bind fun r19 =>
 pickC r19
 (some { r := r18.r })
 ((T 21 [(weak x0a), x1]).bind fun r20 =>
 loopN (fun s21 next21 =>
 (sLen s21.k2).bind fun r22 =>
 (sBin .lss s21.k3 r22).bind fun r23 =>
 pickC r23
 ((sIdx false 1 s21.k2 s21.k3).bind fun e24 =>
 (sIdx true 7 (SVal.cell s21.k1 0) s21.k0).bind fun e25 =>
 (sBin .eql (SVal.cell e25 1) (.int .i64 2)).bind fun r26 =>
 (T 30 [(.agg [(weak (SVal.cell s21.k1 0)), (weak (SVal.cell s21.k1 1)), (weak (SVal.cell s21.k1 2)), (weak (SVal.cell s21.k1 3)), (weak (SVal.cell s21.k1 4))]), e24, r26]).bind fun r27 =>
 (sBin .neq r27.r (.int .i64 (-1))).bind fun r28 =>
 pickC r28
 (some { r := r27.r })
 ((sBin .add s21.k3 (.int .i64 1)).bind fun r29 =>
 next21 ⟨[s21.k0, (.rp [(SVal.cell s21.k1 0), (SVal.cell s21.k1 1), (SVal.cell s21.k1 2), (SVal.cell s21.k1 3), (SVal.cell s21.k1 4)]), (weak s21.k2), r29], [], false⟩))
 (some { r := (.int .i64 (-1)) })) k ⟨[x1, (.rp [x0a, x0b, x0c, x0d, x0e]), (weak r20.r), (.int .i64 1)], [], false⟩))
theorem r16 (T : TT) (k : Nat) (x0a x0b x0c x0d x0e x1 : SVal) : bodyE P H T k 16 [(.agg [x0a, x0b, x0c, x0d, x0e]), x1] = R16 T k x0a x0b x0c x0d x0e x1 := by kernel_rfl
theorem t16 (k : Nat) (x0a x0b x0c x0d x0e x1 : SVal) : T (k + 1) 16 [(.agg [x0a, x0b, x0c, x0d, x0e]), x1] = R16 (T k) k x0a x0b x0c x0d x0e x1 := (tb k 16 _ rfl).trans (r16 ..)
/-- limelight/limelightref14.First -/
def R17 (T : TT) (k : Nat) (x0a x0b x0c x0d x0e x1 : SVal) : Option Res :=
 (T 21 [(weak x0a), x1]).bind fun r1 =>
 loopN (fun s2 next2 =>
 (sLen s2.k1).bind fun r3 =>
 (sBin .lss s2.k2 r3).bind fun r4 =>
 pickC r4
 ((sIdx false 1 s2.k1 s2.k2).bind fun e5 =>
 (T 22 [(weak (SVal.cell s2.k0 0)), e5, (.int .i64 5)]).bind fun r6 =>
 pickC r6.r
 ((sIdx false 1 s2.k1 s2.k2).bind fun e7 =>
 (T 15 [(.agg [(weak (SVal.cell s2.k0 0)), (weak (SVal.cell s2.k0 1)), (weak (SVal.cell s2.k0 2)), (weak (SVal.cell s2.k0 3)), (weak (SVal.cell s2.k0 4))]), e7]).bind fun r8 =>
 (sBin .neq r8.r (.int .i64 (-1))).bind fun r9 =>
 pickC r9
 (some { r := r8.r })
 ((sBin .add s2.k2 (.int .i64 1)).bind fun r10 =>
 next2 ⟨[(.rp [(SVal.cell s2.k0 0), (SVal.cell s2.k0 1), (SVal.cell s2.k0 2), (SVal.cell s2.k0 3), (SVal.cell s2.k0 4)]), (weak s2.k1), r10], [], false⟩))
 ((sBin .add s2.k2 (.int .i64 1)).bind fun r11 =>
 next2 ⟨[(.rp [(SVal.cell s2.k0 0), (SVal.cell s2.k0 1), (SVal.cell s2.k0 2), (SVal.cell s2.k0 3), (SVal.cell s2.k0 4)]), (weak s2.k1), r11], [], false⟩))
 (some { r := (.int .i64 (-1)) })) k ⟨[(.rp [x0a, x0b, x0c, x0d, x0e]), (weak r1.r), (.int .i64 0)], [], false⟩
theorem r17 (T : TT) (k : Nat) (x0a x0b x0c x0d x0e x1 : SVal) : bodyE P H T k 17 [(.agg [x0a, x0b, x0c, x0d, x0e]), x1] = R17 T k x0a x0b x0c x0d x0e x1 := by kernel_rfl
theorem t17 (k : Nat) (x0a x0b x0c x0d x0e x1 : SVal) : T (k + 1) 17 [(.agg [x0a, x0b, x0c, x0d, x0e]), x1] = R17 (T k) k x0a x0b x0c x0d x0e x1 := (tb k 17 _ rfl).trans (r17 ..)
/-- limelight/limelightref13.Is -/
def R18 (T : TT) (k : Nat) (x0a x0b x0c x0d x0e x1 : SVal) : Option Res :=
 (T 31 [(weak x0a), x1]).bind fun r1 =>
 (guardX r1.r.c1 true
 ((T 32 [(weak x0a), x1]).bind fun r2 =>
 (sNot r2.r).bind fun r3 =>
 guardX r3 true
 ((T 20 [(weak x0a), x1]).bind fun r4 =>
 (sNot r4.r).bind fun r5 =>
 guardX r5 true
 ((T 33 [(.agg [(weak x0a), (weak x0b), (weak x0c), (weak x0d), (weak x0e)]), x1]).bind fun r6 =>
 guardX r6.r true
 ((T 34 [(.agg [(weak x0a), (weak x0b), (weak x0c), (weak x0d), (weak x0e)]), x1]).bind fun r7 =>
 (sNot r7.r).bind fun r8 =>
 (asB r8).bind fun b9 =>
 some [b9])
 (some [false])
 (none))
 (some [false])
 (none))
 (some [false])
 (none))
 (some [false])
 (none)).bind fun vs10 =>
 some { r := (.bool (vs10.getD 0 false)) }
theorem r18 (T : TT) (k : Nat) (x0a x0b x0c x0d x0e x1 : SVal) : bodyE P H T k 18 [(.agg [x0a, x0b, x0c, x0d, x0e]), x1] = R18 T k x0a x0b x0c x0d x0e x1 := by kernel_rfl
theorem t18 (k : Nat) (x0a x0b x0c x0d x0e x1 : SVal) : T (k + 1) 18 [(.agg [x0a, x0b, x0c, x0d, x0e]), x1] = R18 (T k) k x0a x0b x0c x0d x0e x1 := (tb k 18 _ rfl).trans (r18 ..)
/-- limelight/limelightref04.Above -/
def R19 (T : TT) (k : Nat) (x0 x1 x2 : SVal) : Option Res :=
 (T 36 [(weak x0), x2]).bind fun r1 =>
 (T 35 [(weak r1.r), x1]).bind fun r2 =>
 if isSc1 r2.r = true then
 some { r := r2.r }
 else none
theorem r19 (T : TT) (k : Nat) (x0 x1 x2 : SVal) : bodyE P H T k 19 [x0, x1, x2] = R19 T k x0 x1 x2 := by kernel_rfl
theorem t19 (k : Nat) (x0 x1 x2 : SVal) : T (k + 1) 19 [x0, x1, x2] = R19 (T k) k x0 x1 x2 := (tb k 19 _ rfl).trans (r19 ..)
/-- limelight/limelightref13.Delegates -/
def R20 (T : TT) (k : Nat) (x0 x1 : SVal) : Option Res :=
 ((sIdx true 7 x0 x1).bind fun e1 =>
 (sBin .neq (SVal.cell e1 5) (.int .i64 (-1))).bind fun r2 =>
 guardX r2 true
 ((sIdx true 7 x0 x1).bind fun e3 =>
 (T 22 [(weak x0), (SVal.cell e3 5), (.int .i64 7)]).bind fun r4 =>
 (asB r4.r).bind fun b5 =>
 some [b5])
 (some [false])
 (none)).bind fun vs6 =>
 some { r := (.bool (vs6.getD 0 false)) }
theorem r20 (T : TT) (k : Nat) (x0 x1 : SVal) : bodyE P H T k 20 [x0, x1] = R20 T k x0 x1 := by kernel_rfl
theorem t20 (k : Nat) (x0 x1 : SVal) : T (k + 1) 20 [x0, x1] = R20 (T k) k x0 x1 := (tb k 20 _ rfl).trans (r20 ..)
/-- limelight/limelightref03.List -/
def R21 (T : TT) (k : Nat) (x0 x1 : SVal) : Option Res :=
 if (List.all [[.v x1]] allOne) = true then
 loopN (fun s1 next1 =>
 (sIdx true 7 s1.k0 s1.k1).bind fun e2 =>
 (sLen (SVal.cell e2 3)).bind fun r3 =>
 (sBin .lss s1.k3 r3).bind fun r4 =>
 pickC r4
 ((sIdx true 7 s1.k0 s1.k1).bind fun e5 =>
 (sIdx false 1 (SVal.cell e5 3) s1.k3).bind fun e6 =>
 (T 21 [(weak s1.k0), e6]).bind fun r7 =>
 (elems 1 r7.r).bind fun ys8 =>
 if (s1.k2.xs.length + ys8.length) * 8 ≤ maxAppend then
 (sBin .add s1.k3 (.int .i64 1)).bind fun r9 =>
 next1 ⟨[(weak s1.k0), s1.k1, (.sl 1 true false (s1.k2.xs ++ ys8)), r9], [], false⟩
 else none)
 (some { r := (.sl 1 false false s1.k2.xs) })) k ⟨[(weak x0), x1, (.sl 1 true false [x1]), (.int .i64 0)], [], false⟩
 else none
theorem r21 (T : TT) (k : Nat) (x0 x1 : SVal) : bodyE P H T k 21 [x0, x1] = R21 T k x0 x1 := by kernel_rfl
theorem t21 (k : Nat) (x0 x1 : SVal) : T (k + 1) 21 [x0, x1] = R21 (T k) k x0 x1 := (tb k 21 _ rfl).trans (r21 ..)
/-- limelight/limelightref02.Has -/
def R22 (T : TT) (k : Nat) (x0 x1 x2 : SVal) : Option Res :=
 (T 37 [(weak x0), x1, x2]).bind fun r1 =>
 some { r := r1.r.c1 }
theorem r22 (T : TT) (k : Nat) (x0 x1 x2 : SVal) : bodyE P H T k 22 [x0, x1, x2] = R22 T k x0 x1 x2 := by kernel_rfl
theorem t22 (k : Nat) (x0 x1 x2 : SVal) : T (k + 1) 22 [x0, x1, x2] = R22 (T k) k x0 x1 x2 := (tb k 22 _ rfl).trans (r22 ..)
/-- limelight/limelightref01.Small -/
def R23 (T : TT) (k : Nat) (x0 : SVal) : Option Res :=
 loopN (fun s1 next1 =>
 ((sLen s1.k0).bind fun r2 =>
 (sBin .lss s1.k1 r2).bind fun r3 =>
 guardX r3 true
 ((sLen s1.k0).bind fun r4 =>
 (sBin .leq r4 (.int .i64 70)).bind fun r5 =>
 (asB r5).bind fun b6 =>
 some [b6])
 (some [false])
 (none)).bind fun vs7 =>
 pickC (.bool (vs7.getD 0 false))
 (((sIdx true 7 s1.k0 s1.k1).bind fun e8 =>
 (sLen (SVal.cell e8 3)).bind fun r9 =>
 (sBin .gtr r9 (.int .i64 80)).bind fun r10 =>
 guardX r10 false
 ((sIdx true 7 s1.k0 s1.k1).bind fun e11 =>
 (sLen (SVal.cell e11 6)).bind fun r12 =>
 (sBin .gtr r12 (.int .i64 20)).bind fun r13 =>
 (asB r13).bind fun b14 =>
 some [b14])
 (some [true])
 (none)).bind fun vs15 =>
 pickC (.bool (vs15.getD 0 false))
 (some { r := (.bool false) })
 ((sBin .add s1.k1 (.int .i64 1)).bind fun r16 =>
 next1 ⟨[(weak s1.k0), r16], [], false⟩))
 ((sLen s1.k0).bind fun r17 =>
 (sBin .leq r17 (.int .i64 70)).bind fun r18 =>
 some { r := r18 })) k ⟨[(weak x0), (.int .i64 0)], [], false⟩
theorem r23 (T : TT) (k : Nat) (x0 : SVal) : bodyE P H T k 23 [x0] = R23 T k x0 := by kernel_rfl
theorem t23 (k : Nat) (x0 : SVal) : T (k + 1) 23 [x0] = R23 (T k) k x0 := (tb k 23 _ rfl).trans (r23 ..)
/-- limelight/limelightref01.May -/
def R24 (T : TT) (k : Nat) (x0 : SVal) : Option Res :=
 ((sLen x0).bind fun r1 =>
 (sBin .lss r1 (.int .i64 1)).bind fun r2 =>
 guardX r2 false
 ((sLen x0).bind fun r3 =>
 (sBin .gtr r3 (.int .i64 64)).bind fun r4 =>
 (asB r4).bind fun b5 =>
 some [b5])
 (some [true])
 (none)).bind fun vs6 =>
 pickC (.bool (vs6.getD 0 false))
 (some { r := (.bool false) })
 (loopN (fun s7 next7 =>
 (sLen s7.k0).bind fun r8 =>
 (sBin .lss s7.k1 r8).bind fun r9 =>
 pickC r9
 (((sIdx true 7 s7.k0 s7.k1).bind fun e10 =>
 (T 38 [(.agg [(SVal.cell e10 0), (SVal.cell e10 1), (SVal.cell e10 2), (weak (SVal.cell e10 3)), (SVal.cell e10 4), (SVal.cell e10 5), (weak (SVal.cell e10 6))]), s7.k1]).bind fun r11 =>
 (sNot r11.r).bind fun r12 =>
 guardX r12 false
 ((sIdx true 7 s7.k0 s7.k1).bind fun e13 =>
 (T 39 [(.agg [(SVal.cell e13 0), (SVal.cell e13 1), (SVal.cell e13 2), (weak (SVal.cell e13 3)), (SVal.cell e13 4), (SVal.cell e13 5), (weak (SVal.cell e13 6))])]).bind fun r14 =>
 (sNot r14.r).bind fun r15 =>
 guardX r15 false
 ((T 40 [(weak s7.k0), s7.k1]).bind fun r16 =>
 (sNot r16.r).bind fun r17 =>
 guardX r17 false
 ((T 41 [(weak s7.k0), s7.k1]).bind fun r18 =>
 (sNot r18.r).bind fun r19 =>
 (asB r19).bind fun b20 =>
 some [b20])
 (some [true])
 (none))
 (some [true])
 (none))
 (some [true])
 (none)).bind fun vs21 =>
 pickC (.bool (vs21.getD 0 false))
 (some { r := (.bool false) })
 ((sBin .add s7.k1 (.int .i64 1)).bind fun r22 =>
 next7 ⟨[(weak s7.k0), r22], [], false⟩))
 (loopN (fun s23 next23 =>
 (sLen s23.k0).bind fun r24 =>
 (sBin .lss s23.k1 r24).bind fun r25 =>
 pickC r25
 ((T 42 [(weak s23.k0), s23.k1]).bind fun r26 =>
 (sNot r26.r).bind fun r27 =>
 pickC r27
 (some { r := (.bool false) })
 ((sBin .add s23.k1 (.int .i64 1)).bind fun r28 =>
 next23 ⟨[(weak s23.k0), r28], [], false⟩))
 (some { r := (.bool true) })) k ⟨[(weak s7.k0), (.int .i64 0)], [], false⟩)) k ⟨[(weak x0), (.int .i64 0)], [], false⟩)
theorem r24 (T : TT) (k : Nat) (x0 : SVal) : bodyE P H T k 24 [x0] = R24 T k x0 := by kernel_rfl
theorem t24 (k : Nat) (x0 : SVal) : T (k + 1) 24 [x0] = R24 (T k) k x0 := (tb k 24 _ rfl).trans (r24 ..)
/-- limelight/limelightref10.May -/
def R25 (T : TT) (k : Nat) (x0a x0b x0c x0d x0e : SVal) : Option Res :=
 (T 43 [(.agg [(weak x0a), (weak x0b), (weak x0c), (weak x0d), (weak x0e)])]).bind fun r1 =>
 loopN (fun s2 next2 =>
 (sLen s2.k1).bind fun r3 =>
 (sBin .lss s2.k2 r3).bind fun r4 =>
 pickC r4
 ((sLen (SVal.cell s2.k0 1)).bind fun r5 =>
 (sLen (SVal.cell s2.k0 2)).bind fun r6 =>
 (sBin .add r5 r6).bind fun r7 =>
 (sBin .lss s2.k2 r7).bind fun r8 =>
 pickC r8
 ((sIdx false 1 s2.k1 s2.k2).bind fun e9 =>
 (T 44 [(weak (SVal.cell s2.k0 0)), e9]).bind fun r10 =>
 (sNot r10.r).bind fun r11 =>
 pickC r11
 (some { r := (.bool false) })
 ((sBin .add s2.k2 (.int .i64 1)).bind fun r12 =>
 next2 ⟨[(.rp [(SVal.cell s2.k0 0), (SVal.cell s2.k0 1), (SVal.cell s2.k0 2), (SVal.cell s2.k0 3), (SVal.cell s2.k0 4)]), (weak s2.k1), r12], [], false⟩))
 ((sIdx false 1 s2.k1 s2.k2).bind fun e13 =>
 (T 45 [(weak (SVal.cell s2.k0 0)), e13]).bind fun r14 =>
 (sNot r14.r).bind fun r15 =>
 pickC r15
 (some { r := (.bool false) })
 ((sBin .add s2.k2 (.int .i64 1)).bind fun r16 =>
 next2 ⟨[(.rp [(SVal.cell s2.k0 0), (SVal.cell s2.k0 1), (SVal.cell s2.k0 2), (SVal.cell s2.k0 3), (SVal.cell s2.k0 4)]), (weak s2.k1), r16], [], false⟩)))
 (loopN (fun s17 next17 =>
 (sLen (SVal.cell s17.k0 3)).bind fun r18 =>
 (sBin .lss s17.k2 r18).bind fun r19 =>
 pickC r19
 ((sIdx true 2 (SVal.cell s17.k0 3) s17.k2).bind fun e20 =>
 ((sBin .neq (SVal.cell e20 1) (.int .i64 (-1))).bind fun r21 =>
 guardX r21 true
 ((T 11 [(weak (SVal.cell s17.k0 0)), (SVal.cell e20 1)]).bind fun r22 =>
 (sNot r22.r).bind fun r23 =>
 (asB r23).bind fun b24 =>
 some [b24])
 (some [false])
 (none)).bind fun vs25 =>
 pickC (.bool (vs25.getD 0 false))
 (some { r := (.bool false) })
 ((sBin .add s17.k2 (.int .i64 1)).bind fun r26 =>
 next17 ⟨[(.rp [(SVal.cell s17.k0 0), (SVal.cell s17.k0 1), (SVal.cell s17.k0 2), (SVal.cell s17.k0 3), (SVal.cell s17.k0 4)]), (weak s17.k1), r26], [], false⟩))
 ((sLen (SVal.cell s17.k0 1)).bind fun r27 =>
 (sSlice 1 s17.k1 (some r27) none).bind fun r28 =>
 loopN (fun s29 next29 =>
 (sLen s29.k2).bind fun r30 =>
 (sBin .lss s29.k3 r30).bind fun r31 =>
 pickC r31
 ((sIdx false 1 s29.k2 s29.k3).bind fun e32 =>
 (T 35 [(weak (SVal.cell s29.k0 4)), e32]).bind fun r33 =>
 if isSc1 r33.r = true then
 (sNot r33.r).bind fun r34 =>
 pickC r34
 (some { r := (.bool false) })
 ((sBin .add s29.k3 (.int .i64 1)).bind fun r35 =>
 next29 ⟨[(.rp [(SVal.cell s29.k0 0), (SVal.cell s29.k0 1), (SVal.cell s29.k0 2), (SVal.cell s29.k0 3), (SVal.cell s29.k0 4)]), (weak s29.k1), (weak s29.k2), r35], [], false⟩)
 else none)
 (((T 46 [(weak s29.k1)]).bind fun r36 =>
 guardX r36.r true
 ((T 46 [(weak (SVal.cell s29.k0 4))]).bind fun r37 =>
 guardX r37.r true
 ((sLen (SVal.cell s29.k0 4)).bind fun r38 =>
 (sLen s29.k2).bind fun r39 =>
 (sBin .eql r38 r39).bind fun r40 =>
 (asB r40).bind fun b41 =>
 some [b41])
 (some [false])
 (none))
 (some [false])
 (none)).bind fun vs42 =>
 some { r := (.bool (vs42.getD 0 false)) })) k ⟨[(.rp [(SVal.cell s17.k0 0), (SVal.cell s17.k0 1), (SVal.cell s17.k0 2), (SVal.cell s17.k0 3), (SVal.cell s17.k0 4)]), (weak s17.k1), (weak r28), (.int .i64 0)], [], false⟩)) k ⟨[(.rp [(SVal.cell s2.k0 0), (SVal.cell s2.k0 1), (SVal.cell s2.k0 2), (SVal.cell s2.k0 3), (SVal.cell s2.k0 4)]), (weak s2.k1), (.int .i64 0)], [], false⟩)) k ⟨[(.rp [x0a, x0b, x0c, x0d, x0e]), (weak r1.r), (.int .i64 0)], [], false⟩
theorem r25 (T : TT) (k : Nat) (x0a x0b x0c x0d x0e : SVal) : bodyE P H T k 25 [(.agg [x0a, x0b, x0c, x0d, x0e])] = R25 T k x0a x0b x0c x0d x0e := by kernel_rfl
theorem t25 (k : Nat) (x0a x0b x0c x0d x0e : SVal) : T (k + 1) 25 [(.agg [x0a, x0b, x0c, x0d, x0e])] = R25 (T k) k x0a x0b x0c x0d x0e := (tb k 25 _ rfl).trans (r25 ..)
/-- limelight/give.to -/
def R26 (T : TT) (k : Nat) (x0a x0b x0c x0d x0e x1 x2 : SVal) : Option Res :=
 ((T 47 [(.agg [(weak x0a), (weak x0b), (weak x0c), (weak x0d), (weak x0e)])]).bind fun r1 =>
 (sBin .neq r1.r (.int .i64 0)).bind fun r2 =>
 guardX r2 false
 ((sBin .lss x1 (.int .i64 0)).bind fun r3 =>
 guardX r3 false
 ((sLen x0a).bind fun r4 =>
 (sBin .geq x1 r4).bind fun r5 =>
 (asB r5).bind fun b6 =>
 some [b6])
 (some [true])
 (none))
 (some [true])
 (none)).bind fun vs7 =>
 pickC (.bool (vs7.getD 0 false))
 (some { r := (.int .i64 (-1)) })
 (if (6 ≤ 6 ∧ (oneS (.cch (gsV T x0a x0b x0c x0d x0e))) = true) then
 (callV H T x2 [(.agg [x0a, x0b, x0c, x0d, x0e, (.cch (gsV T x0a x0b x0c x0d x0e))]), x1]).bind fun y8 =>
 some { r := y8 }
 else none)
theorem r26 (T : TT) (k : Nat) (x0a x0b x0c x0d x0e x1 x2 : SVal) : bodyE P H T k 26 [(.agg [x0a, x0b, x0c, x0d, x0e]), x1, x2] = R26 T k x0a x0b x0c x0d x0e x1 x2 := by kernel_rfl
noncomputable def D26 (T : TT) (k : Nat) : List SVal → Option Res
  | [(.agg [x0a, x0b, x0c, x0d, x0e]), x1, x2] => R26 T k x0a x0b x0c x0d x0e x1 x2
  | a => bodyE P H T k 26 a
theorem d26 (T : TT) (k : Nat) (a : List SVal) : D26 T k a = bodyE P H T k 26 a := by
  unfold D26
  split
  · exact (r26 ..).symm
  · rfl
theorem t26 (k : Nat) (x0a x0b x0c x0d x0e x1 x2 : SVal) : T (k + 1) 26 [(.agg [x0a, x0b, x0c, x0d, x0e]), x1, x2] = R26 (T k) k x0a x0b x0c x0d x0e x1 x2 := (tb k 26 _ rfl).trans (r26 ..)
/-- (limelight/give.giver).area -/
def R27 (T : TT) (k : Nat) (x0a x0b x0c x0d x0e x0f x1 : SVal) : Option Res :=
 (T 48 [(.agg [(weak x0a), (weak x0b), (weak x0c), (weak x0d), (weak x0e)]), x1]).bind fun r1 =>
 pickC r1.r
 (some { r := x1 })
 ((T 49 [(weak x0a), x1]).bind fun r2 =>
 pickC r2.r
 ((T 28 [(.agg [(weak x0a), (weak x0b), (weak x0c), (weak x0d), (weak x0e), x0f]), x1]).bind fun r3 =>
 some { r := r3.r })
 (some { r := (.int .i64 (-1)) }))
theorem r27 (T : TT) (k : Nat) (x0a x0b x0c x0d x0e x0f x1 : SVal) : bodyE P H T k 27 [(.agg [x0a, x0b, x0c, x0d, x0e, x0f]), x1] = R27 T k x0a x0b x0c x0d x0e x0f x1 := by kernel_rfl
noncomputable def D27 (T : TT) (k : Nat) : List SVal → Option Res
  | [(.agg [x0a, x0b, x0c, x0d, x0e, x0f]), x1] => R27 T k x0a x0b x0c x0d x0e x0f x1
  | a => bodyE P H T k 27 a
theorem d27 (T : TT) (k : Nat) (a : List SVal) : D27 T k a = bodyE P H T k 27 a := by
  unfold D27
  split
  · exact (r27 ..).symm
  · rfl
theorem t27 (k : Nat) (x0a x0b x0c x0d x0e x0f x1 : SVal) : T (k + 1) 27 [(.agg [x0a, x0b, x0c, x0d, x0e, x0f]), x1] = R27 (T k) k x0a x0b x0c x0d x0e x0f x1 := (tb k 27 _ rfl).trans (r27 ..)
/-- (limelight/give.giver).auto -/
def R29 (T : TT) (k : Nat) (x0a x0b x0c x0d x0e x0f x1 : SVal) : Option Res :=
 (T 53 [(weak x0a), x1]).bind fun r1 =>
 (T 52 [(weak r1.r), (.fn 54 [(.rp [x0a, x0b, x0c, x0d, x0e, x0f])])]).bind fun r2 =>
 (T 51 [r2.r]).bind fun r3 =>
 some { r := r3.r }
theorem r29 (T : TT) (k : Nat) (x0a x0b x0c x0d x0e x0f x1 : SVal) : bodyE P H T k 29 [(.agg [x0a, x0b, x0c, x0d, x0e, x0f]), x1] = R29 T k x0a x0b x0c x0d x0e x0f x1 := by kernel_rfl
noncomputable def D29 (T : TT) (k : Nat) : List SVal → Option Res
  | [(.agg [x0a, x0b, x0c, x0d, x0e, x0f]), x1] => R29 T k x0a x0b x0c x0d x0e x0f x1
  | a => bodyE P H T k 29 a
theorem d29 (T : TT) (k : Nat) (a : List SVal) : D29 T k a = bodyE P H T k 29 a := by
  unfold D29
  split
  · exact (r29 ..).symm
  · rfl
theorem t29 (k : Nat) (x0a x0b x0c x0d x0e x0f x1 : SVal) : T (k + 1) 29 [(.agg [x0a, x0b, x0c, x0d, x0e, x0f]), x1] = R29 (T k) k x0a x0b x0c x0d x0e x0f x1 := (tb k 29 _ rfl).trans (r29 ..)
/-- limelight/limelightref14.of -/
def R30 (T : TT) (k : Nat) (x0a x0b x0c x0d x0e x1 x2 : SVal) : Option Res :=
 ((T 56 [(.agg [(weak x0a), (weak x0b), (weak x0c), (weak x0d), (weak x0e)]), x1]).bind fun r1 =>
 guardX r1.r false
 ((sNot x2).bind fun r2 =>
 guardX r2 true
 ((T 18 [(.agg [(weak x0a), (weak x0b), (weak x0c), (weak x0d), (weak x0e)]), x1]).bind fun r3 =>
 (asB r3.r).bind fun b4 =>
 some [b4])
 (some [false])
 (none))
 (some [true])
 (none)).bind fun vs5 =>
 pickC (.bool (vs5.getD 0 false))
 (some { r := x1 })
 ((T 20 [(weak x0a), x1]).bind fun r6 =>
 pickC r6.r
 ((T 16 [(.agg [(weak x0a), (weak x0b), (weak x0c), (weak x0d), (weak x0e)]), x1]).bind fun r7 =>
 some { r := r7.r })
 (some { r := (.int .i64 (-1)) }))
theorem r30 (T : TT) (k : Nat) (x0a x0b x0c x0d x0e x1 x2 : SVal) : bodyE P H T k 30 [(.agg [x0a, x0b, x0c, x0d, x0e]), x1, x2] = R30 T k x0a x0b x0c x0d x0e x1 x2 := by kernel_rfl
theorem t30 (k : Nat) (x0a x0b x0c x0d x0e x1 x2 : SVal) : T (k + 1) 30 [(.agg [x0a, x0b, x0c, x0d, x0e]), x1, x2] = R30 (T k) k x0a x0b x0c x0d x0e x1 x2 := (tb k 30 _ rfl).trans (r30 ..)
/-- limelight/limelightref13.Index -/
def R31 (T : TT) (k : Nat) (x0 x1 : SVal) : Option Res :=
 (T 37 [(weak x0), x1, (.int .i64 0)]).bind fun r1 =>
 guardX r1.r.c1 false
 ((sIdx true 7 x0 x1).bind fun e2 =>
 (sBin .eql (SVal.cell e2 1) (.int .i64 1)).bind fun r3 =>
 guardX r3 false
 ((sIdx true 7 x0 x1).bind fun e4 =>
 (sBin .eql (SVal.cell e4 1) (.int .i64 4)).bind fun r5 =>
 some { r := (.tup [r1.r.c0, r5]) })
 (some { r := (.tup [r1.r.c0, (.bool true)]) })
 (none))
 (some { r := (.tup [r1.r.c0, (.bool true)]) })
 (none)
theorem r31 (T : TT) (k : Nat) (x0 x1 : SVal) : bodyE P H T k 31 [x0, x1] = R31 T k x0 x1 := by kernel_rfl
theorem t31 (k : Nat) (x0 x1 : SVal) : T (k + 1) 31 [x0, x1] = R31 (T k) k x0 x1 := (tb k 31 _ rfl).trans (r31 ..)
/-- limelight/limelightref13.Disabled -/
def R32 (T : TT) (k : Nat) (x0 x1 : SVal) : Option Res :=
 ((sIdx true 7 x0 x1).bind fun e1 =>
 (sBin .eql (SVal.cell e1 1) (.int .i64 1)).bind fun r2 =>
 guardX r2 true
 ((T 22 [(weak x0), x1, (.int .i64 1)]).bind fun r3 =>
 (asB r3.r).bind fun b4 =>
 some [b4])
 (some [false])
 (none)).bind fun vs5 =>
 some { r := (.bool (vs5.getD 0 false)) }
theorem r32 (T : TT) (k : Nat) (x0 x1 : SVal) : bodyE P H T k 32 [x0, x1] = R32 T k x0 x1 := by kernel_rfl
theorem t32 (k : Nat) (x0 x1 : SVal) : T (k + 1) 32 [x0, x1] = R32 (T k) k x0 x1 := (tb k 32 _ rfl).trans (r32 ..)
/-- limelight/limelightref11.Is -/
def R33 (T : TT) (k : Nat) (x0a x0b x0c x0d x0e x1 : SVal) : Option Res :=
 (T 57 [(weak x0a), x1]).bind fun r1 =>
 loopN (fun s2 next2 =>
 (sLen s2.k2).bind fun r3 =>
 (sBin .lss s2.k3 r3).bind fun r4 =>
 pickC r4
 ((sIdx false 1 s2.k2 s2.k3).bind fun e5 =>
 (T 58 [(.agg [(weak (SVal.cell s2.k1 0)), (weak (SVal.cell s2.k1 1)), (weak (SVal.cell s2.k1 2)), (weak (SVal.cell s2.k1 3)), (weak (SVal.cell s2.k1 4))]), e5]).bind fun r6 =>
 (sNot r6.r).bind fun r7 =>
 pickC r7
 (some { r := (.bool false) })
 ((sBin .add s2.k3 (.int .i64 1)).bind fun r8 =>
 next2 ⟨[s2.k0, (.rp [(SVal.cell s2.k1 0), (SVal.cell s2.k1 1), (SVal.cell s2.k1 2), (SVal.cell s2.k1 3), (SVal.cell s2.k1 4)]), (weak s2.k2), r8], [], false⟩))
 ((T 59 [(weak (SVal.cell s2.k1 0)), s2.k0]).bind fun r9 =>
 some { r := r9.r })) k ⟨[x1, (.rp [x0a, x0b, x0c, x0d, x0e]), (weak r1.r), (.int .i64 0)], [], false⟩
theorem r33 (T : TT) (k : Nat) (x0a x0b x0c x0d x0e x1 : SVal) : bodyE P H T k 33 [(.agg [x0a, x0b, x0c, x0d, x0e]), x1] = R33 T k x0a x0b x0c x0d x0e x1 := by kernel_rfl
theorem t33 (k : Nat) (x0a x0b x0c x0d x0e x1 : SVal) : T (k + 1) 33 [(.agg [x0a, x0b, x0c, x0d, x0e]), x1] = R33 (T k) k x0a x0b x0c x0d x0e x1 := (tb k 33 _ rfl).trans (r33 ..)
end Go.Proofs.YtcdnmiaelaombaaGreat.K
