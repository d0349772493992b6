/- What the evaluator makes of the functions, by program (wip/tr/resid.py); each equation is checked by the kernel. -/
import Derived.Test.YtkebikngkeehfaaGreatLmAJ
import Derived.Test.YtkebikngkeehfaaGreatLmAB
import Derived.KernelRfl
set_option linter.unusedVariables false
set_option linter.unusedSimpArgs false
set_option linter.unnecessarySimpa false
set_option linter.all false
set_option maxRecDepth 100000
namespace Go.Proofs.YtkebikngkeehfaaGreat.K
open Go Go.Lm
/-- limelight/limelightlaw10.TopTells -/
def R3 (T : Nat → List SVal → Option Res) (k : Nat) (x0a : SVal) (x0b : SVal) (x0c : SVal) (x0d : SVal) (x0e : SVal) : Option Res :=
  (T 9 [(.agg [(weak x0a), (weak x0b), (weak x0c), (weak x0d), (weak x0e)])]).bind fun r1 =>
  (sNot r1.r).bind fun r2 =>
  pickC r2
  ((T 10 []).bind fun r3 =>
   some { r := r3.r })
  ((T 11 [(.agg [(weak x0a), (weak x0b), (weak x0c), (weak x0d), (weak x0e)])]).bind fun r4 =>
   (sBin .eql r4.r (.int .i64 0)).bind fun r5 =>
   pickC r5
   ((T 12 [(.agg [(weak x0a), (weak x0b), (weak x0c), (weak x0d), (weak x0e)])]).bind fun r6 =>
    (T 13 [(.agg [(weak x0a), (weak x0b), (weak x0c), (weak x0d), (weak x0e)])]).bind fun r7 =>
    if (allOne [.v r7.r.c0.c0, .v r7.r.c0.c1, .v r7.r.c0.c2, .v r7.r.c0.c3, .v r7.r.c0.c4]) = true then
    (T 14 [(.agg [(weak x0a), (weak x0b), (weak x0c), (weak x0d), (weak x0e)])]).bind fun r8 =>
    if (allOne [.v r8.r.c0.c0, .v r8.r.c0.c1, .v r8.r.c0.c2, .v r8.r.c0.c3, .v r8.r.c0.c4]) = true then
    ((T 15 [(.agg [(weak x0a), (weak x0b), (weak x0c), (weak x0d), (weak x0e)])]).bind fun r9 =>
     (T 11 [(.agg [(weak x0a), (weak x0b), (weak x0c), (weak x0d), (weak x0e)])]).bind fun r10 =>
     (sBin .eql r9.r r10.r).bind fun r11 =>
     guardX r11 true
     ((T 16 [(.agg [(weak x0a), (weak x0b), (weak x0c), (weak x0d), (weak x0e)])]).bind fun r12 =>
      (sBin .eql r12.r r6.r).bind fun r13 =>
      guardX r13 true
      ((T 18 [(.agg [(weak x0a), (weak x0b), (weak x0c), (weak x0d), (weak x0e)])]).bind fun r14 =>
       (T 17 [(.agg [(weak r14.r.c0), (.sl 1 false false r14.r.c1.xs), (.sl 1 false false r14.r.c2.xs), (.sl 2 false false r14.r.c3.xs), (.sl 1 false false r14.r.c4.xs)]), (.agg [(weak x0a), (weak x0b), (weak x0c), (weak x0d), (weak x0e)])]).bind fun r15 =>
       guardX r15.r true
       ((T 17 [(.agg [(weak r7.r.c0.c0), (weak r7.r.c0.c1), (weak r7.r.c0.c2), (weak r7.r.c0.c3), (weak r7.r.c0.c4)]), (.agg [(weak r8.r.c0.c0), (weak r8.r.c0.c1), (weak r8.r.c0.c2), (weak r8.r.c0.c3), (weak r8.r.c0.c4)])]).bind fun r16 =>
        guardX r16.r true
        ((T 19 [(weak r7.r.c1), (weak r8.r.c1)]).bind fun r17 =>
         guardX r17.r true
         ((sBin .eql r7.r.c2 r8.r.c2).bind fun r18 =>
          guardX r18 true
          ((T 10 []).bind fun r19 =>
           (asB r19.r).bind fun b20 =>
           some [b20])
          (some [false])
          (none))
         (some [false])
         (none))
        (some [false])
        (none))
       (some [false])
       (none))
      (some [false])
      (none))
     (some [false])
     (none)).bind fun vs21 =>
    some { r := (.bool (vs21.getD 0 false)) }
    else none
    else none)
   ((T 13 [(.agg [(weak x0a), (weak x0b), (weak x0c), (weak x0d), (weak x0e)])]).bind fun r22 =>
    if (allOne [.v r22.r.c0.c0, .v r22.r.c0.c1, .v r22.r.c0.c2, .v r22.r.c0.c3, .v r22.r.c0.c4]) = true then
    (T 14 [(.agg [(weak x0a), (weak x0b), (weak x0c), (weak x0d), (weak x0e)])]).bind fun r23 =>
    if (allOne [.v r23.r.c0.c0, .v r23.r.c0.c1, .v r23.r.c0.c2, .v r23.r.c0.c3, .v r23.r.c0.c4]) = true then
    ((T 15 [(.agg [(weak x0a), (weak x0b), (weak x0c), (weak x0d), (weak x0e)])]).bind fun r24 =>
     (T 11 [(.agg [(weak x0a), (weak x0b), (weak x0c), (weak x0d), (weak x0e)])]).bind fun r25 =>
     (sBin .eql r24.r r25.r).bind fun r26 =>
     guardX r26 true
     ((T 16 [(.agg [(weak x0a), (weak x0b), (weak x0c), (weak x0d), (weak x0e)])]).bind fun r27 =>
      (sBin .eql r27.r (.int .i64 (-1))).bind fun r28 =>
      guardX r28 true
      ((T 18 [(.agg [(weak x0a), (weak x0b), (weak x0c), (weak x0d), (weak x0e)])]).bind fun r29 =>
       (T 17 [(.agg [(weak r29.r.c0), (.sl 1 false false r29.r.c1.xs), (.sl 1 false false r29.r.c2.xs), (.sl 2 false false r29.r.c3.xs), (.sl 1 false false r29.r.c4.xs)]), (.agg [(weak x0a), (weak x0b), (weak x0c), (weak x0d), (weak x0e)])]).bind fun r30 =>
       guardX r30.r true
       ((T 17 [(.agg [(weak r22.r.c0.c0), (weak r22.r.c0.c1), (weak r22.r.c0.c2), (weak r22.r.c0.c3), (weak r22.r.c0.c4)]), (.agg [(weak r23.r.c0.c0), (weak r23.r.c0.c1), (weak r23.r.c0.c2), (weak r23.r.c0.c3), (weak r23.r.c0.c4)])]).bind fun r31 =>
        guardX r31.r true
        ((T 19 [(weak r22.r.c1), (weak r23.r.c1)]).bind fun r32 =>
         guardX r32.r true
         ((sBin .eql r22.r.c2 r23.r.c2).bind fun r33 =>
          guardX r33 true
          ((T 10 []).bind fun r34 =>
           (asB r34.r).bind fun b35 =>
           some [b35])
          (some [false])
          (none))
         (some [false])
         (none))
        (some [false])
        (none))
       (some [false])
       (none))
      (some [false])
      (none))
     (some [false])
     (none)).bind fun vs36 =>
    some { r := (.bool (vs36.getD 0 false)) }
    else none
    else none))
theorem r3 (T : Nat → List SVal → Option Res) (k : Nat) (x0a : SVal) (x0b : SVal) (x0c : SVal) (x0d : SVal) (x0e : SVal) : bodyE P H T k 3 [(.agg [x0a, x0b, x0c, x0d, x0e])] = R3 T k x0a x0b x0c x0d x0e := by kernel_rfl
noncomputable def D3 (T : Nat → List SVal → Option Res) (k : Nat) : List SVal → Option Res
  | [(.agg [x0a, x0b, x0c, x0d, x0e])] => R3 T k x0a x0b x0c x0d x0e
  | a => bodyE P H T k 3 a
theorem d3 (T : Nat → List SVal → Option Res) (k : Nat) (a : List SVal) : D3 T k a = bodyE P H T k 3 a := by
  unfold D3
  split
  · exact (r3 ..).symm
  · rfl
theorem t3 (k : Nat) (x0a : SVal) (x0b : SVal) (x0c : SVal) (x0d : SVal) (x0e : SVal) : T (k + 1) 3 [(.agg [x0a, x0b, x0c, x0d, x0e])] = R3 (T k) k x0a x0b x0c x0d x0e := (by kernel_rfl : T (k + 1) 3 [(.agg [x0a, x0b, x0c, x0d, x0e])] = bodyE P H (T k) k 3 [(.agg [x0a, x0b, x0c, x0d, x0e])]).trans (r3 ..)
/-- limelight/limelightlaw10.TopOpens -/
def R4 (T : Nat → List SVal → Option Res) (k : Nat) (x0a : SVal) (x0b : SVal) (x0c : SVal) (x0d : SVal) (x0e : SVal) (x1a : SVal) (x1b : SVal) (x2 : SVal) : Option Res :=
  (T 9 [(.agg [(weak x0a), (weak x0b), (weak x0c), (weak x0d), (weak x0e)])]).bind fun r1 =>
  (sNot r1.r).bind fun r2 =>
  pickC r2
  ((T 10 []).bind fun r3 =>
   some { r := r3.r })
  ((T 20 [(.agg [(weak x0a), (weak x0b), (weak x0c), (weak x0d), (weak x0e)]), x1a, x2]).bind fun r4 =>
   if (allOne [.v r4.r.c0.c0, .v r4.r.c0.c1, .v r4.r.c0.c2, .v r4.r.c0.c3, .v r4.r.c0.c4]) = true then
   (T 21 [(.agg [(weak x0a), (weak x0b), (weak x0c), (weak x0d), (weak x0e)]), x1a, x2]).bind fun r5 =>
   if (allOne [.v r5.r.c0.c0, .v r5.r.c0.c1, .v r5.r.c0.c2, .v r5.r.c0.c3, .v r5.r.c0.c4]) = true then
   (T 22 [(.agg [(weak x0a), (weak x0b), (weak x0c), (weak x0d), (weak x0e)]), (.agg [x1a, x1b])]).bind fun r6 =>
   if (allOne [.v r6.r.c0.c0, .v r6.r.c0.c1, .v r6.r.c0.c2, .v r6.r.c0.c3, .v r6.r.c0.c4]) = true then
   (T 23 [(.agg [(weak x0a), (weak x0b), (weak x0c), (weak x0d), (weak x0e)]), (.agg [x1a, x1b])]).bind fun r7 =>
   if (allOne [.v r7.r.c0.c0, .v r7.r.c0.c1, .v r7.r.c0.c2, .v r7.r.c0.c3, .v r7.r.c0.c4]) = true then
   (T 24 [(.agg [(weak x0a), (weak x0b), (weak x0c), (weak x0d), (weak x0e)]), x1a]).bind fun r8 =>
   if (allOne [.v r8.r.c0.c0, .v r8.r.c0.c1, .v r8.r.c0.c2, .v r8.r.c0.c3, .v r8.r.c0.c4]) = true then
   (T 25 [(.agg [(weak x0a), (weak x0b), (weak x0c), (weak x0d), (weak x0e)]), x1a]).bind fun r9 =>
   if (allOne [.v r9.r.c0.c0, .v r9.r.c0.c1, .v r9.r.c0.c2, .v r9.r.c0.c3, .v r9.r.c0.c4]) = true then
   ((T 17 [(.agg [(weak r4.r.c0.c0), (weak r4.r.c0.c1), (weak r4.r.c0.c2), (weak r4.r.c0.c3), (weak r4.r.c0.c4)]), (.agg [(weak r5.r.c0.c0), (weak r5.r.c0.c1), (weak r5.r.c0.c2), (weak r5.r.c0.c3), (weak r5.r.c0.c4)])]).bind fun r10 =>
    guardX r10.r true
    ((sBin .eql r4.r.c1 r5.r.c1).bind fun r11 =>
     guardX r11 true
     ((T 17 [(.agg [(weak r6.r.c0.c0), (weak r6.r.c0.c1), (weak r6.r.c0.c2), (weak r6.r.c0.c3), (weak r6.r.c0.c4)]), (.agg [(weak r7.r.c0.c0), (weak r7.r.c0.c1), (weak r7.r.c0.c2), (weak r7.r.c0.c3), (weak r7.r.c0.c4)])]).bind fun r12 =>
      guardX r12.r true
      ((sBin .eql r6.r.c1 r7.r.c1).bind fun r13 =>
       guardX r13 true
       ((T 17 [(.agg [(weak r8.r.c0.c0), (weak r8.r.c0.c1), (weak r8.r.c0.c2), (weak r8.r.c0.c3), (weak r8.r.c0.c4)]), (.agg [(weak r9.r.c0.c0), (weak r9.r.c0.c1), (weak r9.r.c0.c2), (weak r9.r.c0.c3), (weak r9.r.c0.c4)])]).bind fun r14 =>
        guardX r14.r true
        ((sBin .eql r8.r.c1 r9.r.c1).bind fun r15 =>
         guardX r15 true
         ((T 10 []).bind fun r16 =>
          (asB r16.r).bind fun b17 =>
          some [b17])
         (some [false])
         (none))
        (some [false])
        (none))
       (some [false])
       (none))
      (some [false])
      (none))
     (some [false])
     (none))
    (some [false])
    (none)).bind fun vs18 =>
   some { r := (.bool (vs18.getD 0 false)) }
   else none
   else none
   else none
   else none
   else none
   else none)
theorem r4 (T : Nat → List SVal → Option Res) (k : Nat) (x0a : SVal) (x0b : SVal) (x0c : SVal) (x0d : SVal) (x0e : SVal) (x1a : SVal) (x1b : SVal) (x2 : SVal) : bodyE P H T k 4 [(.agg [x0a, x0b, x0c, x0d, x0e]), (.agg [x1a, x1b]), x2] = R4 T k x0a x0b x0c x0d x0e x1a x1b x2 := by kernel_rfl
noncomputable def D4 (T : Nat → List SVal → Option Res) (k : Nat) : List SVal → Option Res
  | [(.agg [x0a, x0b, x0c, x0d, x0e]), (.agg [x1a, x1b]), x2] => R4 T k x0a x0b x0c x0d x0e x1a x1b x2
  | a => bodyE P H T k 4 a
theorem d4 (T : Nat → List SVal → Option Res) (k : Nat) (a : List SVal) : D4 T k a = bodyE P H T k 4 a := by
  unfold D4
  split
  · exact (r4 ..).symm
  · rfl
theorem t4 (k : Nat) (x0a : SVal) (x0b : SVal) (x0c : SVal) (x0d : SVal) (x0e : SVal) (x1a : SVal) (x1b : SVal) (x2 : SVal) : T (k + 1) 4 [(.agg [x0a, x0b, x0c, x0d, x0e]), (.agg [x1a, x1b]), x2] = R4 (T k) k x0a x0b x0c x0d x0e x1a x1b x2 := (by kernel_rfl : T (k + 1) 4 [(.agg [x0a, x0b, x0c, x0d, x0e]), (.agg [x1a, x1b]), x2] = bodyE P H (T k) k 4 [(.agg [x0a, x0b, x0c, x0d, x0e]), (.agg [x1a, x1b]), x2]).trans (r4 ..)
/-- limelight/limelightlaw10.TopStays -/
def R5 (T : Nat → List SVal → Option Res) (k : Nat) (x0a : SVal) (x0b : SVal) (x0c : SVal) (x0d : SVal) (x0e : SVal) (x1a : SVal) (x1b : SVal) (x2 : SVal) : Option Res :=
  ((T 9 [(.agg [(weak x0a), (weak x0b), (weak x0c), (weak x0d), (weak x0e)])]).bind fun r1 =>
   (sNot r1.r).bind fun r2 =>
   guardX r2 false
   ((T 11 [(.agg [(weak x0a), (weak x0b), (weak x0c), (weak x0d), (weak x0e)])]).bind fun r3 =>
    (sBin .neq r3.r (.int .i64 0)).bind fun r4 =>
    (asB r4).bind fun b5 =>
    some [b5])
   (some [true])
   (none)).bind fun vs6 =>
  pickC (.bool (vs6.getD 0 false))
  ((T 10 []).bind fun r7 =>
   some { r := r7.r })
  ((T 20 [(.agg [(weak x0a), (weak x0b), (weak x0c), (weak x0d), (weak x0e)]), x1a, x2]).bind fun r8 =>
   if (allOne [.v r8.r.c0.c0, .v r8.r.c0.c1, .v r8.r.c0.c2, .v r8.r.c0.c3, .v r8.r.c0.c4]) = true then
   (sBin .eql r8.r.c1 (.int .i64 0)).bind fun r9 =>
   pickC r9
   (((T 26 [(.agg [(weak r8.r.c0.c0), (weak r8.r.c0.c1), (weak r8.r.c0.c2), (weak r8.r.c0.c3), (weak r8.r.c0.c4)])]).bind fun r10 =>
     (sNot r10.r).bind fun r11 =>
     guardX r11 false
     (guardX x2 true
      ((sLen r8.r.c0.c4).bind fun r12 =>
       (sBin .eql r12 (.int .i64 0)).bind fun r13 =>
       guardX r13 false
       ((sLen r8.r.c0.c4).bind fun r14 =>
        (sBin .sub r14 (.int .i64 1)).bind fun r15 =>
        (sIdx false 1 r8.r.c0.c4 r15).bind fun e16 =>
        (sBin .neq e16 x1a).bind fun r17 =>
        guardX r17 false
        ((T 16 [(.agg [(weak r8.r.c0.c0), (weak r8.r.c0.c1), (weak r8.r.c0.c2), (weak r8.r.c0.c3), (weak r8.r.c0.c4)])]).bind fun r18 =>
         (sBin .neq r18.r x1a).bind fun r19 =>
         (asB r19).bind fun b20 =>
         some [b20])
        (some [true])
        (none))
       (some [true])
       (none))
      (some [false])
      (none))
     (some [true])
     (none)).bind fun vs21 =>
    pickC (.bool (vs21.getD 0 false))
    (some { r := (.bool false) })
    ((T 24 [(.agg [(weak r8.r.c0.c0), (weak r8.r.c0.c1), (weak r8.r.c0.c2), (weak r8.r.c0.c3), (weak r8.r.c0.c4)]), x1a]).bind fun r22 =>
     if (allOne [.v r22.r.c0.c0, .v r22.r.c0.c1, .v r22.r.c0.c2, .v r22.r.c0.c3, .v r22.r.c0.c4]) = true then
     ((sBin .neq r22.r.c1 (.int .i64 0)).bind fun r23 =>
      guardX r23 false
      ((T 17 [(.agg [(weak r22.r.c0.c0), (weak r22.r.c0.c1), (weak r22.r.c0.c2), (weak r22.r.c0.c3), (weak r22.r.c0.c4)]), (.agg [(weak x0a), (weak x0b), (weak x0c), (weak x0d), (weak x0e)])]).bind fun r24 =>
       (sNot r24.r).bind fun r25 =>
       (asB r25).bind fun b26 =>
       some [b26])
      (some [true])
      (none)).bind fun vs27 =>
     pickC (.bool (vs27.getD 0 false))
     (some { r := (.bool false) })
     ((T 22 [(.agg [(weak x0a), (weak x0b), (weak x0c), (weak x0d), (weak x0e)]), (.agg [x1a, x1b])]).bind fun r28 =>
      if (allOne [.v r28.r.c0.c0, .v r28.r.c0.c1, .v r28.r.c0.c2, .v r28.r.c0.c3, .v r28.r.c0.c4]) = true then
      (sBin .eql r28.r.c1 (.int .i64 0)).bind fun r29 =>
      pickC r29
      (((T 26 [(.agg [(weak r28.r.c0.c0), (weak r28.r.c0.c1), (weak r28.r.c0.c2), (weak r28.r.c0.c3), (weak r28.r.c0.c4)])]).bind fun r30 =>
        (sNot r30.r).bind fun r31 =>
        guardX r31 false
        ((sLen r28.r.c0.c4).bind fun r32 =>
         (sBin .eql r32 (.int .i64 0)).bind fun r33 =>
         guardX r33 false
         ((sLen r28.r.c0.c4).bind fun r34 =>
          (sBin .sub r34 (.int .i64 1)).bind fun r35 =>
          (sIdx false 1 r28.r.c0.c4 r35).bind fun e36 =>
          (sBin .neq e36 x1a).bind fun r37 =>
          guardX r37 false
          ((T 16 [(.agg [(weak r28.r.c0.c0), (weak r28.r.c0.c1), (weak r28.r.c0.c2), (weak r28.r.c0.c3), (weak r28.r.c0.c4)])]).bind fun r38 =>
           (T 16 [(.agg [(weak x0a), (weak x0b), (weak x0c), (weak x0d), (weak x0e)])]).bind fun r39 =>
           (sBin .neq r38.r r39.r).bind fun r40 =>
           (asB r40).bind fun b41 =>
           some [b41])
          (some [true])
          (none))
         (some [true])
         (none))
        (some [true])
        (none)).bind fun vs42 =>
       pickC (.bool (vs42.getD 0 false))
       (some { r := (.bool false) })
       ((T 24 [(.agg [(weak r28.r.c0.c0), (weak r28.r.c0.c1), (weak r28.r.c0.c2), (weak r28.r.c0.c3), (weak r28.r.c0.c4)]), x1a]).bind fun r43 =>
        if (allOne [.v r43.r.c0.c0, .v r43.r.c0.c1, .v r43.r.c0.c2, .v r43.r.c0.c3, .v r43.r.c0.c4]) = true then
        ((sBin .neq r43.r.c1 (.int .i64 0)).bind fun r44 =>
         guardX r44 false
         ((T 17 [(.agg [(weak r43.r.c0.c0), (weak r43.r.c0.c1), (weak r43.r.c0.c2), (weak r43.r.c0.c3), (weak r43.r.c0.c4)]), (.agg [(weak x0a), (weak x0b), (weak x0c), (weak x0d), (weak x0e)])]).bind fun r45 =>
          (sNot r45.r).bind fun r46 =>
          (asB r46).bind fun b47 =>
          some [b47])
         (some [true])
         (none)).bind fun vs48 =>
        pickC (.bool (vs48.getD 0 false))
        (some { r := (.bool false) })
        ((T 24 [(.agg [(weak x0a), (weak x0b), (weak x0c), (weak x0d), (weak x0e)]), x1a]).bind fun r49 =>
         if (allOne [.v r49.r.c0.c0, .v r49.r.c0.c1, .v r49.r.c0.c2, .v r49.r.c0.c3, .v r49.r.c0.c4]) = true then
         ((sBin .eql r49.r.c1 (.int .i64 0)).bind fun r50 =>
          guardX r50 true
          ((T 26 [(.agg [(weak r49.r.c0.c0), (weak r49.r.c0.c1), (weak r49.r.c0.c2), (weak r49.r.c0.c3), (weak r49.r.c0.c4)])]).bind fun r51 =>
           (sNot r51.r).bind fun r52 =>
           guardX r52 false
           ((T 27 [(.agg [(weak r49.r.c0.c0), (weak r49.r.c0.c1), (weak r49.r.c0.c2), (weak r49.r.c0.c3), (weak r49.r.c0.c4)]), x1a]).bind fun r53 =>
            guardX r53.r false
            ((T 28 [(weak r49.r.c0.c4), x1a]).bind fun r54 =>
             (asB r54.r).bind fun b55 =>
             some [b55])
            (some [true])
            (none))
           (some [true])
           (none))
          (some [false])
          (none)).bind fun vs56 =>
         pickC (.bool (vs56.getD 0 false))
         (some { r := (.bool false) })
         ((T 10 []).bind fun r57 =>
          some { r := r57.r })
         else none)
        else none))
      ((T 24 [(.agg [(weak x0a), (weak x0b), (weak x0c), (weak x0d), (weak x0e)]), x1a]).bind fun r58 =>
       if (allOne [.v r58.r.c0.c0, .v r58.r.c0.c1, .v r58.r.c0.c2, .v r58.r.c0.c3, .v r58.r.c0.c4]) = true then
       ((sBin .eql r58.r.c1 (.int .i64 0)).bind fun r59 =>
        guardX r59 true
        ((T 26 [(.agg [(weak r58.r.c0.c0), (weak r58.r.c0.c1), (weak r58.r.c0.c2), (weak r58.r.c0.c3), (weak r58.r.c0.c4)])]).bind fun r60 =>
         (sNot r60.r).bind fun r61 =>
         guardX r61 false
         ((T 27 [(.agg [(weak r58.r.c0.c0), (weak r58.r.c0.c1), (weak r58.r.c0.c2), (weak r58.r.c0.c3), (weak r58.r.c0.c4)]), x1a]).bind fun r62 =>
          guardX r62.r false
          ((T 28 [(weak r58.r.c0.c4), x1a]).bind fun r63 =>
           (asB r63.r).bind fun b64 =>
           some [b64])
          (some [true])
          (none))
         (some [true])
         (none))
        (some [false])
        (none)).bind fun vs65 =>
       pickC (.bool (vs65.getD 0 false))
       (some { r := (.bool false) })
       ((T 10 []).bind fun r66 =>
        some { r := r66.r })
       else none)
      else none)
     else none))
   ((T 22 [(.agg [(weak x0a), (weak x0b), (weak x0c), (weak x0d), (weak x0e)]), (.agg [x1a, x1b])]).bind fun r67 =>
    if (allOne [.v r67.r.c0.c0, .v r67.r.c0.c1, .v r67.r.c0.c2, .v r67.r.c0.c3, .v r67.r.c0.c4]) = true then
    (sBin .eql r67.r.c1 (.int .i64 0)).bind fun r68 =>
    pickC r68
    (((T 26 [(.agg [(weak r67.r.c0.c0), (weak r67.r.c0.c1), (weak r67.r.c0.c2), (weak r67.r.c0.c3), (weak r67.r.c0.c4)])]).bind fun r69 =>
      (sNot r69.r).bind fun r70 =>
      guardX r70 false
      ((sLen r67.r.c0.c4).bind fun r71 =>
       (sBin .eql r71 (.int .i64 0)).bind fun r72 =>
       guardX r72 false
       ((sLen r67.r.c0.c4).bind fun r73 =>
        (sBin .sub r73 (.int .i64 1)).bind fun r74 =>
        (sIdx false 1 r67.r.c0.c4 r74).bind fun e75 =>
        (sBin .neq e75 x1a).bind fun r76 =>
        guardX r76 false
        ((T 16 [(.agg [(weak r67.r.c0.c0), (weak r67.r.c0.c1), (weak r67.r.c0.c2), (weak r67.r.c0.c3), (weak r67.r.c0.c4)])]).bind fun r77 =>
         (T 16 [(.agg [(weak x0a), (weak x0b), (weak x0c), (weak x0d), (weak x0e)])]).bind fun r78 =>
         (sBin .neq r77.r r78.r).bind fun r79 =>
         (asB r79).bind fun b80 =>
         some [b80])
        (some [true])
        (none))
       (some [true])
       (none))
      (some [true])
      (none)).bind fun vs81 =>
     pickC (.bool (vs81.getD 0 false))
     (some { r := (.bool false) })
     ((T 24 [(.agg [(weak r67.r.c0.c0), (weak r67.r.c0.c1), (weak r67.r.c0.c2), (weak r67.r.c0.c3), (weak r67.r.c0.c4)]), x1a]).bind fun r82 =>
      if (allOne [.v r82.r.c0.c0, .v r82.r.c0.c1, .v r82.r.c0.c2, .v r82.r.c0.c3, .v r82.r.c0.c4]) = true then
      ((sBin .neq r82.r.c1 (.int .i64 0)).bind fun r83 =>
       guardX r83 false
       ((T 17 [(.agg [(weak r82.r.c0.c0), (weak r82.r.c0.c1), (weak r82.r.c0.c2), (weak r82.r.c0.c3), (weak r82.r.c0.c4)]), (.agg [(weak x0a), (weak x0b), (weak x0c), (weak x0d), (weak x0e)])]).bind fun r84 =>
        (sNot r84.r).bind fun r85 =>
        (asB r85).bind fun b86 =>
        some [b86])
       (some [true])
       (none)).bind fun vs87 =>
      pickC (.bool (vs87.getD 0 false))
      (some { r := (.bool false) })
      ((T 24 [(.agg [(weak x0a), (weak x0b), (weak x0c), (weak x0d), (weak x0e)]), x1a]).bind fun r88 =>
       if (allOne [.v r88.r.c0.c0, .v r88.r.c0.c1, .v r88.r.c0.c2, .v r88.r.c0.c3, .v r88.r.c0.c4]) = true then
       ((sBin .eql r88.r.c1 (.int .i64 0)).bind fun r89 =>
        guardX r89 true
        ((T 26 [(.agg [(weak r88.r.c0.c0), (weak r88.r.c0.c1), (weak r88.r.c0.c2), (weak r88.r.c0.c3), (weak r88.r.c0.c4)])]).bind fun r90 =>
         (sNot r90.r).bind fun r91 =>
         guardX r91 false
         ((T 27 [(.agg [(weak r88.r.c0.c0), (weak r88.r.c0.c1), (weak r88.r.c0.c2), (weak r88.r.c0.c3), (weak r88.r.c0.c4)]), x1a]).bind fun r92 =>
          guardX r92.r false
          ((T 28 [(weak r88.r.c0.c4), x1a]).bind fun r93 =>
           (asB r93.r).bind fun b94 =>
           some [b94])
          (some [true])
          (none))
         (some [true])
         (none))
        (some [false])
        (none)).bind fun vs95 =>
       pickC (.bool (vs95.getD 0 false))
       (some { r := (.bool false) })
       ((T 10 []).bind fun r96 =>
        some { r := r96.r })
       else none)
      else none))
    ((T 24 [(.agg [(weak x0a), (weak x0b), (weak x0c), (weak x0d), (weak x0e)]), x1a]).bind fun r97 =>
     if (allOne [.v r97.r.c0.c0, .v r97.r.c0.c1, .v r97.r.c0.c2, .v r97.r.c0.c3, .v r97.r.c0.c4]) = true then
     ((sBin .eql r97.r.c1 (.int .i64 0)).bind fun r98 =>
      guardX r98 true
      ((T 26 [(.agg [(weak r97.r.c0.c0), (weak r97.r.c0.c1), (weak r97.r.c0.c2), (weak r97.r.c0.c3), (weak r97.r.c0.c4)])]).bind fun r99 =>
       (sNot r99.r).bind fun r100 =>
       guardX r100 false
       ((T 27 [(.agg [(weak r97.r.c0.c0), (weak r97.r.c0.c1), (weak r97.r.c0.c2), (weak r97.r.c0.c3), (weak r97.r.c0.c4)]), x1a]).bind fun r101 =>
        guardX r101.r false
        ((T 28 [(weak r97.r.c0.c4), x1a]).bind fun r102 =>
         (asB r102.r).bind fun b103 =>
         some [b103])
        (some [true])
        (none))
       (some [true])
       (none))
      (some [false])
      (none)).bind fun vs104 =>
     pickC (.bool (vs104.getD 0 false))
     (some { r := (.bool false) })
     ((T 10 []).bind fun r105 =>
      some { r := r105.r })
     else none)
    else none)
   else none)
theorem r5 (T : Nat → List SVal → Option Res) (k : Nat) (x0a : SVal) (x0b : SVal) (x0c : SVal) (x0d : SVal) (x0e : SVal) (x1a : SVal) (x1b : SVal) (x2 : SVal) : bodyE P H T k 5 [(.agg [x0a, x0b, x0c, x0d, x0e]), (.agg [x1a, x1b]), x2] = R5 T k x0a x0b x0c x0d x0e x1a x1b x2 := by kernel_rfl
noncomputable def D5 (T : Nat → List SVal → Option Res) (k : Nat) : List SVal → Option Res
  | [(.agg [x0a, x0b, x0c, x0d, x0e]), (.agg [x1a, x1b]), x2] => R5 T k x0a x0b x0c x0d x0e x1a x1b x2
  | a => bodyE P H T k 5 a
theorem d5 (T : Nat → List SVal → Option Res) (k : Nat) (a : List SVal) : D5 T k a = bodyE P H T k 5 a := by
  unfold D5
  split
  · exact (r5 ..).symm
  · rfl
theorem t5 (k : Nat) (x0a : SVal) (x0b : SVal) (x0c : SVal) (x0d : SVal) (x0e : SVal) (x1a : SVal) (x1b : SVal) (x2 : SVal) : T (k + 1) 5 [(.agg [x0a, x0b, x0c, x0d, x0e]), (.agg [x1a, x1b]), x2] = R5 (T k) k x0a x0b x0c x0d x0e x1a x1b x2 := (by kernel_rfl : T (k + 1) 5 [(.agg [x0a, x0b, x0c, x0d, x0e]), (.agg [x1a, x1b]), x2] = bodyE P H (T k) k 5 [(.agg [x0a, x0b, x0c, x0d, x0e]), (.agg [x1a, x1b]), x2]).trans (r5 ..)
/-- limelight/limelightlaw10.TopFix -/
def R6 (T : Nat → List SVal → Option Res) (k : Nat) (x0a : SVal) (x0b : SVal) (x0c : SVal) (x0d : SVal) (x0e : SVal) : Option Res :=
  ((T 9 [(.agg [(weak x0a), (weak x0b), (weak x0c), (weak x0d), (weak x0e)])]).bind fun r1 =>
   (sNot r1.r).bind fun r2 =>
   guardX r2 false
   ((T 29 [(weak x0a)]).bind fun r3 =>
    (sNot r3.r).bind fun r4 =>
    (asB r4).bind fun b5 =>
    some [b5])
   (some [true])
   (none)).bind fun vs6 =>
  pickC (.bool (vs6.getD 0 false))
  ((T 10 []).bind fun r7 =>
   some { r := r7.r })
  ((elems 1 x0b).bind fun ys8 =>
   if ys8.length * 8 ≤ maxAppend then
   (elems 1 x0c).bind fun ys9 =>
   if (ys8.length + ys9.length) * 8 ≤ maxAppend then
   (T 30 [(weak x0d)]).bind fun r10 =>
   (elems 1 r10.r).bind fun ys11 =>
   if ((ys8 ++ ys9).length + ys11.length) * 8 ≤ maxAppend then
   (sLen x0b).bind fun r12 =>
   (sSlice 1 (.sl 1 false false ((ys8 ++ ys9) ++ ys11)) (some r12) none).bind fun r13 =>
   ((T 31 [(.sl 1 false false ((ys8 ++ ys9) ++ ys11))]).bind fun r14 =>
    (sNot r14.r).bind fun r15 =>
    guardX r15 false
    ((T 31 [(weak x0e)]).bind fun r16 =>
     (sNot r16.r).bind fun r17 =>
     guardX r17 false
     ((sLen x0e).bind fun r18 =>
      (sLen r13).bind fun r19 =>
      (sBin .neq r18 r19).bind fun r20 =>
      (asB r20).bind fun b21 =>
      some [b21])
     (some [true])
     (none))
    (some [true])
    (none)).bind fun vs22 =>
   pickC (.bool (vs22.getD 0 false))
   ((T 10 []).bind fun r23 =>
    some { r := r23.r })
   (loopN (fun s24 next24 =>
     (sLen s24.k2).bind fun r25 =>
     (sBin .lss s24.k3 r25).bind fun r26 =>
     pickC r26
     ((sIdx false 1 s24.k2 s24.k3).bind fun e27 =>
      (T 28 [(weak (SVal.cell s24.k0 4)), e27]).bind fun r28 =>
      (sNot r28.r).bind fun r29 =>
      pickC r29
      ((T 10 []).bind fun r30 =>
       some { r := r30.r })
      ((sBin .add s24.k3 (.int .i64 1)).bind fun r31 =>
       next24 ⟨[(.rp [(SVal.cell s24.k0 0), (SVal.cell s24.k0 1), (SVal.cell s24.k0 2), (SVal.cell s24.k0 3), (SVal.cell s24.k0 4)]), (weak s24.k1), (weak s24.k2), r31], [], false⟩))
     ((T 13 [(.agg [(weak (SVal.cell s24.k0 0)), (weak (SVal.cell s24.k0 1)), (weak (SVal.cell s24.k0 2)), (weak (SVal.cell s24.k0 3)), (weak (SVal.cell s24.k0 4))])]).bind fun r32 =>
      if (allOne [.v r32.r.c0.c0, .v r32.r.c0.c1, .v r32.r.c0.c2, .v r32.r.c0.c3, .v r32.r.c0.c4]) = true then
      (T 13 [(.agg [(weak r32.r.c0.c0), (weak r32.r.c0.c1), (weak r32.r.c0.c2), (weak r32.r.c0.c3), (weak r32.r.c0.c4)])]).bind fun r33 =>
      if (allOne [.v r33.r.c0.c0, .v r33.r.c0.c1, .v r33.r.c0.c2, .v r33.r.c0.c3, .v r33.r.c0.c4]) = true then
      ((sBin .eql r32.r.c2 (.int .i64 0)).bind fun r34 =>
       guardX r34 true
       ((sBin .eql r33.r.c2 (.int .i64 0)).bind fun r35 =>
        guardX r35 true
        ((T 26 [(.agg [(weak r32.r.c0.c0), (weak r32.r.c0.c1), (weak r32.r.c0.c2), (weak r32.r.c0.c3), (weak r32.r.c0.c4)])]).bind fun r36 =>
         guardX r36.r true
         ((sLen r33.r.c1).bind fun r37 =>
          (sBin .eql r37 (.int .i64 0)).bind fun r38 =>
          guardX r38 true
          ((T 17 [(.agg [(weak r32.r.c0.c0), (weak r32.r.c0.c1), (weak r32.r.c0.c2), (weak r32.r.c0.c3), (weak r32.r.c0.c4)]), (.agg [(weak r33.r.c0.c0), (weak r33.r.c0.c1), (weak r33.r.c0.c2), (weak r33.r.c0.c3), (weak r33.r.c0.c4)])]).bind fun r39 =>
           guardX r39.r true
           ((sLen r32.r.c1).bind fun r40 =>
            (sLen r32.r.c0.c1).bind fun r41 =>
            (sBin .add r40 r41).bind fun r42 =>
            (sLen r32.r.c0.c2).bind fun r43 =>
            (sBin .add r42 r43).bind fun r44 =>
            (sLen r32.r.c0.c3).bind fun r45 =>
            (sBin .add r44 r45).bind fun r46 =>
            (sLen s24.k1).bind fun r47 =>
            (sBin .eql r46 r47).bind fun r48 =>
            guardX r48 true
            ((T 10 []).bind fun r49 =>
             (asB r49.r).bind fun b50 =>
             some [b50])
            (some [false])
            (none))
           (some [false])
           (none))
          (some [false])
          (none))
         (some [false])
         (none))
        (some [false])
        (none))
       (some [false])
       (none)).bind fun vs51 =>
      some { r := (.bool (vs51.getD 0 false)) }
      else none
      else none)) k ⟨[(.rp [x0a, x0b, x0c, x0d, x0e]), (.sl 1 false false ((ys8 ++ ys9) ++ ys11)), (weak r13), (.int .i64 0)], [], false⟩)
   else none
   else none
   else none)
theorem r6 (T : Nat → List SVal → Option Res) (k : Nat) (x0a : SVal) (x0b : SVal) (x0c : SVal) (x0d : SVal) (x0e : SVal) : bodyE P H T k 6 [(.agg [x0a, x0b, x0c, x0d, x0e])] = R6 T k x0a x0b x0c x0d x0e := by kernel_rfl
noncomputable def D6 (T : Nat → List SVal → Option Res) (k : Nat) : List SVal → Option Res
  | [(.agg [x0a, x0b, x0c, x0d, x0e])] => R6 T k x0a x0b x0c x0d x0e
  | a => bodyE P H T k 6 a
theorem d6 (T : Nat → List SVal → Option Res) (k : Nat) (a : List SVal) : D6 T k a = bodyE P H T k 6 a := by
  unfold D6
  split
  · exact (r6 ..).symm
  · rfl
theorem t6 (k : Nat) (x0a : SVal) (x0b : SVal) (x0c : SVal) (x0d : SVal) (x0e : SVal) : T (k + 1) 6 [(.agg [x0a, x0b, x0c, x0d, x0e])] = R6 (T k) k x0a x0b x0c x0d x0e := (by kernel_rfl : T (k + 1) 6 [(.agg [x0a, x0b, x0c, x0d, x0e])] = bodyE P H (T k) k 6 [(.agg [x0a, x0b, x0c, x0d, x0e])]).trans (r6 ..)
/-- limelight/limelightlaw10.TopHighest -/
def R7 (T : Nat → List SVal → Option Res) (k : Nat) (x0a : SVal) (x0b : SVal) (x0c : SVal) (x0d : SVal) (x0e : SVal) : Option Res :=
  ((T 9 [(.agg [(weak x0a), (weak x0b), (weak x0c), (weak x0d), (weak x0e)])]).bind fun r1 =>
   (sNot r1.r).bind fun r2 =>
   guardX r2 false
   ((T 11 [(.agg [(weak x0a), (weak x0b), (weak x0c), (weak x0d), (weak x0e)])]).bind fun r3 =>
    (sBin .neq r3.r (.int .i64 0)).bind fun r4 =>
    (asB r4).bind fun b5 =>
    some [b5])
   (some [true])
   (none)).bind fun vs6 =>
  pickC (.bool (vs6.getD 0 false))
  ((T 10 []).bind fun r7 =>
   some { r := r7.r })
  ((T 16 [(.agg [(weak x0a), (weak x0b), (weak x0c), (weak x0d), (weak x0e)])]).bind fun r8 =>
   (sBin .eql r8.r (.int .i64 (-1))).bind fun r9 =>
   pickC r9
   (((sLen x0c).bind fun r10 =>
     (sBin .eql r10 (.int .i64 0)).bind fun r11 =>
     guardX r11 true
     ((T 10 []).bind fun r12 =>
      (asB r12.r).bind fun b13 =>
      some [b13])
     (some [false])
     (none)).bind fun vs14 =>
    some { r := (.bool (vs14.getD 0 false)) })
   ((T 32 [(weak x0e), r8.r]).bind fun r15 =>
    ((sBin .lss r15.r (.int .i64 0)).bind fun r16 =>
     guardX r16 false
     ((T 28 [(weak x0c), r8.r]).bind fun r17 =>
      (sNot r17.r).bind fun r18 =>
      (asB r18).bind fun b19 =>
      some [b19])
     (some [true])
     (none)).bind fun vs20 =>
    pickC (.bool (vs20.getD 0 false))
    (some { r := (.bool false) })
    ((sBin .add r15.r (.int .i64 1)).bind fun r21 =>
     loopN (fun s22 next22 =>
      (sLen (SVal.cell s22.k0 4)).bind fun r23 =>
      (sBin .lss s22.k1 r23).bind fun r24 =>
      pickC r24
      ((sIdx false 1 (SVal.cell s22.k0 4) s22.k1).bind fun e25 =>
       (T 28 [(weak (SVal.cell s22.k0 2)), e25]).bind fun r26 =>
       pickC r26.r
       (some { r := (.bool false) })
       ((sBin .add s22.k1 (.int .i64 1)).bind fun r27 =>
        next22 ⟨[(.rp [(SVal.cell s22.k0 0), (SVal.cell s22.k0 1), (SVal.cell s22.k0 2), (SVal.cell s22.k0 3), (SVal.cell s22.k0 4)]), r27], [], false⟩))
      ((T 10 []).bind fun r28 =>
       some { r := r28.r })) k ⟨[(.rp [x0a, x0b, x0c, x0d, x0e]), r21], [], false⟩)))
theorem r7 (T : Nat → List SVal → Option Res) (k : Nat) (x0a : SVal) (x0b : SVal) (x0c : SVal) (x0d : SVal) (x0e : SVal) : bodyE P H T k 7 [(.agg [x0a, x0b, x0c, x0d, x0e])] = R7 T k x0a x0b x0c x0d x0e := by kernel_rfl
noncomputable def D7 (T : Nat → List SVal → Option Res) (k : Nat) : List SVal → Option Res
  | [(.agg [x0a, x0b, x0c, x0d, x0e])] => R7 T k x0a x0b x0c x0d x0e
  | a => bodyE P H T k 7 a
theorem d7 (T : Nat → List SVal → Option Res) (k : Nat) (a : List SVal) : D7 T k a = bodyE P H T k 7 a := by
  unfold D7
  split
  · exact (r7 ..).symm
  · rfl
theorem t7 (k : Nat) (x0a : SVal) (x0b : SVal) (x0c : SVal) (x0d : SVal) (x0e : SVal) : T (k + 1) 7 [(.agg [x0a, x0b, x0c, x0d, x0e])] = R7 (T k) k x0a x0b x0c x0d x0e := (by kernel_rfl : T (k + 1) 7 [(.agg [x0a, x0b, x0c, x0d, x0e])] = bodyE P H (T k) k 7 [(.agg [x0a, x0b, x0c, x0d, x0e])]).trans (r7 ..)
/-- limelight/limelightlaw10.TopOrder -/
def R8 (T : Nat → List SVal → Option Res) (k : Nat) (x0 : SVal) (x1 : SVal) : Option Res :=
  ((T 33 [(weak x0)]).bind fun r1 =>
   (sNot r1.r).bind fun r2 =>
   guardX r2 false
   ((sLen x0).bind fun r3 =>
    (sBin .gtr r3 (.int .i64 16)).bind fun r4 =>
    guardX r4 false
    ((sLen x1).bind fun r5 =>
     (sBin .gtr r5 (.int .i64 20)).bind fun r6 =>
     guardX r6 false
     ((T 29 [(weak x0)]).bind fun r7 =>
      (sNot r7.r).bind fun r8 =>
      (asB r8).bind fun b9 =>
      some [b9])
     (some [true])
     (none))
    (some [true])
    (none))
   (some [true])
   (none)).bind fun vs10 =>
  pickC (.bool (vs10.getD 0 false))
  ((T 10 []).bind fun r11 =>
   some { r := r11.r })
  (if (1 ≤ 5 ∧ (oneS x0) = true) then
   if (allOne [.v x0, .v (.sl 1 false true []), .v (.sl 1 false true []), .v (.sl 2 false true []), .v (.sl 1 false true [])]) = true then
   loopN (fun s12 next12 =>
    (sLen s12.k0).bind fun r13 =>
    (sBin .lss s12.k3 r13).bind fun r14 =>
    pickC r14
    ((sIdx true 2 s12.k0 s12.k3).bind fun e15 =>
     (sBin .rem s12.k3 (.int .i64 2)).bind fun r16 =>
     (sBin .eql r16 (.int .i64 0)).bind fun r17 =>
     (T 20 [(.agg [(weak s12.k1.c0), (weak s12.k1.c1), (weak s12.k1.c2), (weak s12.k1.c3), (weak s12.k1.c4)]), (SVal.cell e15 0), r17]).bind fun r18 =>
     if (allOne [.v r18.r.c0.c0, .v r18.r.c0.c1, .v r18.r.c0.c2, .v r18.r.c0.c3, .v r18.r.c0.c4]) = true then
     (sBin .eql r18.r.c1 (.int .i64 0)).bind fun r19 =>
     pickC r19
     (if (allOne [.v r18.r.c0.c0, .v r18.r.c0.c1, .v r18.r.c0.c2, .v r18.r.c0.c3, .v r18.r.c0.c4]) = true then
      (sBin .rem s12.k3 (.int .i64 2)).bind fun r20 =>
      (sBin .eql r20 (.int .i64 0)).bind fun r21 =>
      pickC r21
      ((sIdx true 2 s12.k0 s12.k3).bind fun e22 =>
       if (List.all [[.v (SVal.cell e22 0)]] allOne) = true then
       if (s12.k2.xs.length + ([(SVal.cell e22 0)] : List SVal).length) * 8 ≤ maxAppend then
       (sBin .add s12.k3 (.int .i64 1)).bind fun r23 =>
       next12 ⟨[(weak s12.k0), (.mb [(weak r18.r.c0.c0), (weak r18.r.c0.c1), (weak r18.r.c0.c2), (weak r18.r.c0.c3), (weak r18.r.c0.c4)]), (.sl 1 true false (s12.k2.xs ++ [(SVal.cell e22 0)])), r23], [], false⟩
       else none
       else none)
      ((sBin .add s12.k3 (.int .i64 1)).bind fun r24 =>
       next12 ⟨[(weak s12.k0), (.mb [(weak r18.r.c0.c0), (weak r18.r.c0.c1), (weak r18.r.c0.c2), (weak r18.r.c0.c3), (weak r18.r.c0.c4)]), (.sl 1 true false s12.k2.xs), r24], [], false⟩)
      else none)
     ((sIdx true 2 s12.k0 s12.k3).bind fun e25 =>
      (T 22 [(.agg [(weak s12.k1.c0), (weak s12.k1.c1), (weak s12.k1.c2), (weak s12.k1.c3), (weak s12.k1.c4)]), (.agg [(SVal.cell e25 0), (SVal.cell e25 1)])]).bind fun r26 =>
      if (allOne [.v r26.r.c0.c0, .v r26.r.c0.c1, .v r26.r.c0.c2, .v r26.r.c0.c3, .v r26.r.c0.c4]) = true then
      (sBin .eql r26.r.c1 (.int .i64 0)).bind fun r27 =>
      pickC r27
      (if (allOne [.v r26.r.c0.c0, .v r26.r.c0.c1, .v r26.r.c0.c2, .v r26.r.c0.c3, .v r26.r.c0.c4]) = true then
       (sIdx true 2 s12.k0 s12.k3).bind fun e28 =>
       if (List.all [[.v (SVal.cell e28 0)]] allOne) = true then
       if (s12.k2.xs.length + ([(SVal.cell e28 0)] : List SVal).length) * 8 ≤ maxAppend then
       (sBin .add s12.k3 (.int .i64 1)).bind fun r29 =>
       next12 ⟨[(weak s12.k0), (.mb [(weak r26.r.c0.c0), (weak r26.r.c0.c1), (weak r26.r.c0.c2), (weak r26.r.c0.c3), (weak r26.r.c0.c4)]), (.sl 1 true false (s12.k2.xs ++ [(SVal.cell e28 0)])), r29], [], false⟩
       else none
       else none
       else none)
      ((sBin .add s12.k3 (.int .i64 1)).bind fun r30 =>
       next12 ⟨[(weak s12.k0), (.mb [(weak s12.k1.c0), (weak s12.k1.c1), (weak s12.k1.c2), (weak s12.k1.c3), (weak s12.k1.c4)]), (.sl 1 true false s12.k2.xs), r30], [], false⟩)
      else none)
     else none)
    (((T 19 [(weak s12.k1.c4), (.sl 1 false false s12.k2.xs)]).bind fun r31 =>
      guardX r31.r true
      ((T 15 [(.agg [(weak s12.k1.c0), (weak s12.k1.c1), (weak s12.k1.c2), (weak s12.k1.c3), (weak s12.k1.c4)])]).bind fun r32 =>
       (sBin .eql r32.r (.int .i64 0)).bind fun r33 =>
       guardX r33 true
       ((T 10 []).bind fun r34 =>
        (asB r34.r).bind fun b35 =>
        some [b35])
       (some [false])
       (none))
      (some [false])
      (none)).bind fun vs36 =>
     some { r := (.bool (vs36.getD 0 false)) })) k ⟨[(weak x1), (.mb [(weak x0), (.sl 1 false false []), (.sl 1 false false []), (.sl 2 false false []), (.sl 1 false false [])]), (.sl 1 true false []), (.int .i64 0)], [], false⟩
   else none
   else none)
theorem r8 (T : Nat → List SVal → Option Res) (k : Nat) (x0 : SVal) (x1 : SVal) : bodyE P H T k 8 [x0, x1] = R8 T k x0 x1 := by kernel_rfl
noncomputable def D8 (T : Nat → List SVal → Option Res) (k : Nat) : List SVal → Option Res
  | [x0, x1] => R8 T k x0 x1
  | a => bodyE P H T k 8 a
theorem d8 (T : Nat → List SVal → Option Res) (k : Nat) (a : List SVal) : D8 T k a = bodyE P H T k 8 a := by
  unfold D8
  split
  · exact (r8 ..).symm
  · rfl
theorem t8 (k : Nat) (x0 : SVal) (x1 : SVal) : T (k + 1) 8 [x0, x1] = R8 (T k) k x0 x1 := (by kernel_rfl : T (k + 1) 8 [x0, x1] = bodyE P H (T k) k 8 [x0, x1]).trans (r8 ..)
/-- limelight/limelightref10.Small -/
def R9 (T : Nat → List SVal → Option Res) (k : Nat) (x0a : SVal) (x0b : SVal) (x0c : SVal) (x0d : SVal) (x0e : SVal) : Option Res :=
  ((T 33 [(weak x0a)]).bind fun r1 =>
   guardX r1.r true
   ((sLen x0a).bind fun r2 =>
    (sBin .leq r2 (.int .i64 16)).bind fun r3 =>
    guardX r3 true
    ((sLen x0b).bind fun r4 =>
     (sBin .leq r4 (.int .i64 40)).bind fun r5 =>
     guardX r5 true
     ((sLen x0c).bind fun r6 =>
      (sBin .leq r6 (.int .i64 40)).bind fun r7 =>
      guardX r7 true
      ((sLen x0d).bind fun r8 =>
       (sBin .leq r8 (.int .i64 40)).bind fun r9 =>
       guardX r9 true
       ((sLen x0e).bind fun r10 =>
        (sBin .leq r10 (.int .i64 80)).bind fun r11 =>
        (asB r11).bind fun b12 =>
        some [b12])
       (some [false])
       (none))
      (some [false])
      (none))
     (some [false])
     (none))
    (some [false])
    (none))
   (some [false])
   (none)).bind fun vs13 =>
  some { r := (.bool (vs13.getD 0 false)) }
theorem r9 (T : Nat → List SVal → Option Res) (k : Nat) (x0a : SVal) (x0b : SVal) (x0c : SVal) (x0d : SVal) (x0e : SVal) : bodyE P H T k 9 [(.agg [x0a, x0b, x0c, x0d, x0e])] = R9 T k x0a x0b x0c x0d x0e := by kernel_rfl
noncomputable def D9 (T : Nat → List SVal → Option Res) (k : Nat) : List SVal → Option Res
  | [(.agg [x0a, x0b, x0c, x0d, x0e])] => R9 T k x0a x0b x0c x0d x0e
  | a => bodyE P H T k 9 a
theorem d9 (T : Nat → List SVal → Option Res) (k : Nat) (a : List SVal) : D9 T k a = bodyE P H T k 9 a := by
  unfold D9
  split
  · exact (r9 ..).symm
  · rfl
theorem t9 (k : Nat) (x0a : SVal) (x0b : SVal) (x0c : SVal) (x0d : SVal) (x0e : SVal) : T (k + 1) 9 [(.agg [x0a, x0b, x0c, x0d, x0e])] = R9 (T k) k x0a x0b x0c x0d x0e := (by kernel_rfl : T (k + 1) 9 [(.agg [x0a, x0b, x0c, x0d, x0e])] = bodyE P H (T k) k 9 [(.agg [x0a, x0b, x0c, x0d, x0e])]).trans (r9 ..)
/-- limelight/limelightlaw10.live -/
def R10 (T : Nat → List SVal → Option Res) (k : Nat) : Option Res :=
  (T 20 [(.agg [(.sl 7 false false [(.agg [(.int .i64 0), (.int .i64 0), (.int .i64 (-1)), (.sl 1 false true [(.int .i64 1), (.int .i64 2)]), (.int .i64 (-1)), (.int .i64 (-1)), (.sl 2 false true [])]), (.agg [(.int .i64 1), (.int .i64 2), (.int .i64 0), (.sl 1 false true []), (.int .i64 (-1)), (.int .i64 (-1)), (.sl 2 false true [])]), (.agg [(.int .i64 1), (.int .i64 0), (.int .i64 0), (.sl 1 false true []), (.int .i64 (-1)), (.int .i64 (-1)), (.sl 2 false true [(.agg [(.int .i64 6), (.int .i64 1)])])]), (.agg [(.int .i64 1), (.int .i64 2), (.int .i64 (-1)), (.sl 1 false true []), (.int .i64 (-1)), (.int .i64 (-1)), (.sl 2 false true [])])]), (.sl 1 false false []), (.sl 1 false false []), (.sl 2 false false []), (.sl 1 false false [])]), (.int .i64 1), (.bool true)]).bind fun r1 =>
  if (allOne [.v r1.r.c0.c0, .v r1.r.c0.c1, .v r1.r.c0.c2, .v r1.r.c0.c3, .v r1.r.c0.c4]) = true then
  (T 22 [(.agg [(weak r1.r.c0.c0), (weak r1.r.c0.c1), (weak r1.r.c0.c2), (weak r1.r.c0.c3), (weak r1.r.c0.c4)]), (.agg [(.int .i64 2), (.int .i64 1)])]).bind fun r2 =>
  if (allOne [.v r2.r.c0.c0, .v r2.r.c0.c1, .v r2.r.c0.c2, .v r2.r.c0.c3, .v r2.r.c0.c4]) = true then
  (T 20 [(.agg [(weak r2.r.c0.c0), (weak r2.r.c0.c1), (weak r2.r.c0.c2), (weak r2.r.c0.c3), (weak r2.r.c0.c4)]), (.int .i64 1), (.bool false)]).bind fun r3 =>
  if (allOne [.v r3.r.c0.c0, .v r3.r.c0.c1, .v r3.r.c0.c2, .v r3.r.c0.c3, .v r3.r.c0.c4]) = true then
  (T 20 [(.agg [(weak r2.r.c0.c0), (weak r2.r.c0.c1), (weak r2.r.c0.c2), (weak r2.r.c0.c3), (weak r2.r.c0.c4)]), (.int .i64 3), (.bool false)]).bind fun r4 =>
  if (allOne [.v r4.r.c0.c0, .v r4.r.c0.c1, .v r4.r.c0.c2, .v r4.r.c0.c3, .v r4.r.c0.c4]) = true then
  (T 24 [(.agg [(weak r2.r.c0.c0), (weak r2.r.c0.c1), (weak r2.r.c0.c2), (weak r2.r.c0.c3), (weak r2.r.c0.c4)]), (.int .i64 1)]).bind fun r5 =>
  if (allOne [.v r5.r.c0.c0, .v r5.r.c0.c1, .v r5.r.c0.c2, .v r5.r.c0.c3, .v r5.r.c0.c4]) = true then
  (T 13 [(.agg [(.sl 7 false false [(.agg [(.int .i64 0), (.int .i64 0), (.int .i64 (-1)), (.sl 1 false true [(.int .i64 1), (.int .i64 2)]), (.int .i64 (-1)), (.int .i64 (-1)), (.sl 2 false true [])]), (.agg [(.int .i64 1), (.int .i64 2), (.int .i64 0), (.sl 1 false true []), (.int .i64 (-1)), (.int .i64 (-1)), (.sl 2 false true [])]), (.agg [(.int .i64 1), (.int .i64 0), (.int .i64 0), (.sl 1 false true []), (.int .i64 (-1)), (.int .i64 (-1)), (.sl 2 false true [(.agg [(.int .i64 6), (.int .i64 1)])])]), (.agg [(.int .i64 1), (.int .i64 2), (.int .i64 (-1)), (.sl 1 false true []), (.int .i64 (-1)), (.int .i64 (-1)), (.sl 2 false true [])])]), (.sl 1 false false []), (.sl 1 false false [(.int .i64 3), (.int .i64 1)]), (.sl 2 false false []), (.sl 1 false false [(.int .i64 3), (.int .i64 1)])])]).bind fun r6 =>
  if (allOne [.v r6.r.c0.c0, .v r6.r.c0.c1, .v r6.r.c0.c2, .v r6.r.c0.c3, .v r6.r.c0.c4]) = true then
  ((sBin .eql r1.r.c1 (.int .i64 0)).bind fun r7 =>
   guardX r7 true
   ((sBin .eql r2.r.c1 (.int .i64 0)).bind fun r8 =>
    guardX r8 true
    ((T 19 [(weak r2.r.c0.c4), (.sl 1 false false [(.int .i64 1), (.int .i64 2)])]).bind fun r9 =>
     guardX r9.r true
     ((T 16 [(.agg [(weak r2.r.c0.c0), (weak r2.r.c0.c1), (weak r2.r.c0.c2), (weak r2.r.c0.c3), (weak r2.r.c0.c4)])]).bind fun r10 =>
      (sBin .eql r10.r (.int .i64 1)).bind fun r11 =>
      guardX r11 true
      ((sBin .eql r3.r.c1 (.int .i64 9)).bind fun r12 =>
       guardX r12 true
       ((sBin .eql r4.r.c1 (.int .i64 3)).bind fun r13 =>
        guardX r13 true
        ((sBin .eql r5.r.c1 (.int .i64 0)).bind fun r14 =>
         guardX r14 true
         ((T 19 [(weak r5.r.c0.c4), (.sl 1 false false [(.int .i64 2)])]).bind fun r15 =>
          guardX r15.r true
          ((T 16 [(.agg [(weak r5.r.c0.c0), (weak r5.r.c0.c1), (weak r5.r.c0.c2), (weak r5.r.c0.c3), (weak r5.r.c0.c4)])]).bind fun r16 =>
           (sBin .eql r16.r (.int .i64 (-1))).bind fun r17 =>
           guardX r17 true
           ((sBin .eql r6.r.c2 (.int .i64 0)).bind fun r18 =>
            guardX r18 true
            ((T 19 [(weak r6.r.c1), (.sl 1 false false [(.int .i64 3)])]).bind fun r19 =>
             guardX r19.r true
             ((T 19 [(weak r6.r.c0.c4), (.sl 1 false false [(.int .i64 1)])]).bind fun r20 =>
              guardX r20.r true
              ((T 15 [(.agg [(weak r2.r.c0.c0), (weak r2.r.c0.c1), (weak r2.r.c0.c2), (weak r2.r.c0.c3), (weak r2.r.c0.c4)])]).bind fun r21 =>
               (sBin .eql r21.r (.int .i64 0)).bind fun r22 =>
               guardX r22 true
               ((T 15 [(.agg [(.sl 7 false false [(.agg [(.int .i64 0), (.int .i64 0), (.int .i64 (-1)), (.sl 1 false true [(.int .i64 1), (.int .i64 2)]), (.int .i64 (-1)), (.int .i64 (-1)), (.sl 2 false true [])]), (.agg [(.int .i64 1), (.int .i64 2), (.int .i64 0), (.sl 1 false true []), (.int .i64 (-1)), (.int .i64 (-1)), (.sl 2 false true [])]), (.agg [(.int .i64 1), (.int .i64 0), (.int .i64 0), (.sl 1 false true []), (.int .i64 (-1)), (.int .i64 (-1)), (.sl 2 false true [(.agg [(.int .i64 6), (.int .i64 1)])])]), (.agg [(.int .i64 1), (.int .i64 2), (.int .i64 (-1)), (.sl 1 false true []), (.int .i64 (-1)), (.int .i64 (-1)), (.sl 2 false true [])])]), (.sl 1 false false [(.int .i64 2)]), (.sl 1 false false []), (.sl 2 false false []), (.sl 1 false false [])])]).bind fun r23 =>
                (sBin .eql r23.r (.int .i64 9)).bind fun r24 =>
                guardX r24 true
                ((T 15 [(.agg [(.sl 7 false false []), (.sl 1 false false []), (.sl 1 false false []), (.sl 2 false false []), (.sl 1 false false [])])]).bind fun r25 =>
                 (sBin .eql r25.r (.int .i64 1)).bind fun r26 =>
                 (asB r26).bind fun b27 =>
                 some [b27])
                (some [false])
                (none))
               (some [false])
               (none))
              (some [false])
              (none))
             (some [false])
             (none))
            (some [false])
            (none))
           (some [false])
           (none))
          (some [false])
          (none))
         (some [false])
         (none))
        (some [false])
        (none))
       (some [false])
       (none))
      (some [false])
      (none))
     (some [false])
     (none))
    (some [false])
    (none))
   (some [false])
   (none)).bind fun vs28 =>
  some { r := (.bool (vs28.getD 0 false)) }
  else none
  else none
  else none
  else none
  else none
  else none
theorem r10 (T : Nat → List SVal → Option Res) (k : Nat) : bodyE P H T k 10 [] = R10 T k  := by kernel_rfl
noncomputable def D10 (T : Nat → List SVal → Option Res) (k : Nat) : List SVal → Option Res
  | [] => R10 T k 
  | a => bodyE P H T k 10 a
theorem d10 (T : Nat → List SVal → Option Res) (k : Nat) (a : List SVal) : D10 T k a = bodyE P H T k 10 a := by
  unfold D10
  split
  · exact (r10 ..).symm
  · rfl
theorem t10 (k : Nat) : T (k + 1) 10 [] = R10 (T k) k  := (by kernel_rfl : T (k + 1) 10 [] = bodyE P H (T k) k 10 []).trans (r10 ..)
/-- limelight/limelightref10.Check -/
def R11 (T : Nat → List SVal → Option Res) (k : Nat) (x0a : SVal) (x0b : SVal) (x0c : SVal) (x0d : SVal) (x0e : SVal) : Option Res :=
  (T 29 [(weak x0a)]).bind fun r1 =>
  (sNot r1.r).bind fun r2 =>
  pickC r2
  (some { r := (.int .i64 1) })
  ((T 26 [(.agg [(weak x0a), (weak x0b), (weak x0c), (weak x0d), (weak x0e)])]).bind fun r3 =>
   (sNot r3.r).bind fun r4 =>
   pickC r4
   (some { r := (.int .i64 9) })
   (some { r := (.int .i64 0) }))
theorem r11 (T : Nat → List SVal → Option Res) (k : Nat) (x0a : SVal) (x0b : SVal) (x0c : SVal) (x0d : SVal) (x0e : SVal) : bodyE P H T k 11 [(.agg [x0a, x0b, x0c, x0d, x0e])] = R11 T k x0a x0b x0c x0d x0e := by kernel_rfl
noncomputable def D11 (T : Nat → List SVal → Option Res) (k : Nat) : List SVal → Option Res
  | [(.agg [x0a, x0b, x0c, x0d, x0e])] => R11 T k x0a x0b x0c x0d x0e
  | a => bodyE P H T k 11 a
theorem d11 (T : Nat → List SVal → Option Res) (k : Nat) (a : List SVal) : D11 T k a = bodyE P H T k 11 a := by
  unfold D11
  split
  · exact (r11 ..).symm
  · rfl
theorem t11 (k : Nat) (x0a : SVal) (x0b : SVal) (x0c : SVal) (x0d : SVal) (x0e : SVal) : T (k + 1) 11 [(.agg [x0a, x0b, x0c, x0d, x0e])] = R11 (T k) k x0a x0b x0c x0d x0e := (by kernel_rfl : T (k + 1) 11 [(.agg [x0a, x0b, x0c, x0d, x0e])] = bodyE P H (T k) k 11 [(.agg [x0a, x0b, x0c, x0d, x0e])]).trans (r11 ..)
/-- limelight/limelightref10.Highest -/
def R12 (T : Nat → List SVal → Option Res) (k : Nat) (x0a : SVal) (x0b : SVal) (x0c : SVal) (x0d : SVal) (x0e : SVal) : Option Res :=
  (sLen x0e).bind fun r1 =>
  (sBin .sub r1 (.int .i64 1)).bind fun r2 =>
  loopN (fun s3 next3 =>
   (sBin .geq s3.k1 (.int .i64 0)).bind fun r4 =>
   pickC r4
   ((sIdx false 1 (SVal.cell s3.k0 4) s3.k1).bind fun e5 =>
    (T 28 [(weak (SVal.cell s3.k0 2)), e5]).bind fun r6 =>
    pickC r6.r
    ((sIdx false 1 (SVal.cell s3.k0 4) s3.k1).bind fun e7 =>
     some { r := e7 })
    ((sBin .sub s3.k1 (.int .i64 1)).bind fun r8 =>
     next3 ⟨[(.rp [(SVal.cell s3.k0 0), (SVal.cell s3.k0 1), (SVal.cell s3.k0 2), (SVal.cell s3.k0 3), (SVal.cell s3.k0 4)]), r8], [], false⟩))
   (some { r := (.int .i64 (-1)) })) k ⟨[(.rp [x0a, x0b, x0c, x0d, x0e]), r2], [], false⟩
theorem r12 (T : Nat → List SVal → Option Res) (k : Nat) (x0a : SVal) (x0b : SVal) (x0c : SVal) (x0d : SVal) (x0e : SVal) : bodyE P H T k 12 [(.agg [x0a, x0b, x0c, x0d, x0e])] = R12 T k x0a x0b x0c x0d x0e := by kernel_rfl
noncomputable def D12 (T : Nat → List SVal → Option Res) (k : Nat) : List SVal → Option Res
  | [(.agg [x0a, x0b, x0c, x0d, x0e])] => R12 T k x0a x0b x0c x0d x0e
  | a => bodyE P H T k 12 a
theorem d12 (T : Nat → List SVal → Option Res) (k : Nat) (a : List SVal) : D12 T k a = bodyE P H T k 12 a := by
  unfold D12
  split
  · exact (r12 ..).symm
  · rfl
theorem t12 (k : Nat) (x0a : SVal) (x0b : SVal) (x0c : SVal) (x0d : SVal) (x0e : SVal) : T (k + 1) 12 [(.agg [x0a, x0b, x0c, x0d, x0e])] = R12 (T k) k x0a x0b x0c x0d x0e := (by kernel_rfl : T (k + 1) 12 [(.agg [x0a, x0b, x0c, x0d, x0e])] = bodyE P H (T k) k 12 [(.agg [x0a, x0b, x0c, x0d, x0e])]).trans (r12 ..)
/-- limelight/top.Fix -/
def R13 (T : Nat → List SVal → Option Res) (k : Nat) (x0a : SVal) (x0b : SVal) (x0c : SVal) (x0d : SVal) (x0e : SVal) : Option Res :=
  (T 34 [(weak x0a)]).bind fun r1 =>
  (sBin .neq r1.r (.int .i64 0)).bind fun r2 =>
  pickC r2
  (some { r := (.tup [(.agg [(.sl 7 false false []), (.sl 1 false false []), (.sl 1 false false []), (.sl 2 false false []), (.sl 1 false false [])]), (.sl 1 false false []), (.int .i64 1)]) })
  (if (oneS x0a) = true then
   (T 35 [(weak x0a)]).bind fun r3 =>
   if (1 ≤ 5 ∧ (oneS r3.r) = true) then
   if (allOne [.v r3.r, .v (.sl 1 false true []), .v (.sl 1 false true []), .v (.sl 2 false true []), .v (.sl 1 false true [])]) = true then
   (T 38 [(weak x0b), (.fn 36 [(.rp [x0a])])]).bind fun r4 =>
   if (oneS r4.r.c0) = true then
   (T 38 [(weak x0c), (.fn 36 [(.rp [x0a])])]).bind fun r5 =>
   if (oneS r5.r.c0) = true then
   (T 39 [(weak x0d), (.fn 40 [(.rp [x0a])])]).bind fun r6 =>
   loopN (fun s7 next7 =>
    (sBin .lss s7.k8 s7.k7).bind fun r8 =>
    pickC r8
    ((sIn s7.k3.c3.xs.length s7.k8).bind fun j9 =>
     (s7.k3.c3.xs[j9]?).bind fun e10 =>
     if (elemOk true 2 e10) = true then
     (T 42 [(weak (SVal.cell s7.k2 0)), (SVal.cell e10 1)]).bind fun r11 =>
     (sNot r11.r).bind fun r12 =>
     pickC r12
     ((sIn s7.k3.c3.xs.length s7.k8).bind fun j13 =>
      (s7.k3.c3.xs[j13]?).bind fun e14 =>
      if (elemOk true 2 e14) = true then
      (sBin .add s7.k8 (.int .i64 1)).bind fun r15 =>
      next7 ⟨[(.rp [(SVal.cell s7.k0 0), (SVal.cell s7.k0 1), (SVal.cell s7.k0 2), (SVal.cell s7.k0 3), (SVal.cell s7.k0 4)]), (.mb [(weak s7.k1.c0), (weak s7.k1.c1), (weak s7.k1.c2), (.sl 2 true false s7.k1.c3.xs), (weak s7.k1.c4)]), (.rp [(SVal.cell s7.k2 0)]), (.mb [(weak s7.k3.c0), (weak s7.k3.c1), (weak s7.k3.c2), (.sl 2 true false (s7.k3.c3.xs.set j13 (.agg [(SVal.cell e14 0), (.int .i64 (-1))]))), (weak s7.k3.c4)]), (weak s7.k4), (weak s7.k5), (weak s7.k6), s7.k7, r15], [], false⟩
      else none)
     ((sBin .add s7.k8 (.int .i64 1)).bind fun r16 =>
      next7 ⟨[(.rp [(SVal.cell s7.k0 0), (SVal.cell s7.k0 1), (SVal.cell s7.k0 2), (SVal.cell s7.k0 3), (SVal.cell s7.k0 4)]), (.mb [(weak s7.k1.c0), (weak s7.k1.c1), (weak s7.k1.c2), (.sl 2 true false s7.k1.c3.xs), (weak s7.k1.c4)]), (.rp [(SVal.cell s7.k2 0)]), (.mb [(weak s7.k3.c0), (weak s7.k3.c1), (weak s7.k3.c2), (.sl 2 true false s7.k3.c3.xs), (weak s7.k3.c4)]), (weak s7.k4), (weak s7.k5), (weak s7.k6), s7.k7, r16], [], false⟩)
     else none)
    ((T 43 [(.agg [(weak s7.k3.c0), (weak s7.k3.c1), (weak s7.k3.c2), (.sl 2 false false s7.k3.c3.xs), (weak s7.k3.c4)])]).bind fun r17 =>
     if (oneS r17.r) = true then
     (T 38 [(weak (SVal.cell s7.k0 4)), (.fn 44 [(.rp [r17.r])])]).bind fun r18 =>
     if (oneS r18.r.c0) = true then
     (T 47 [(weak s7.k6), (.fn 48 [])]).bind fun r19 =>
     if (List.all [[.v s7.k4], [.v s7.k5], [.v r19.r]] allOne) = true then
     (T 46 [(.sl 1 false false [s7.k4, s7.k5, r19.r])]).bind fun r20 =>
     if (allOne [.v s7.k3.c0, .v s7.k3.c1, .v s7.k3.c2, .la 2 0, .v r18.r.c0]) = true then
     some { r := (.tup [(.agg [(weak s7.k3.c0), (weak s7.k3.c1), (weak s7.k3.c2), (.sl 2 false false s7.k3.c3.xs), (weak r18.r.c0)]), (weak r20.r), (.int .i64 0)]) }
     else none
     else none
     else none
     else none)) k ⟨[(.rp [x0a, x0b, x0c, x0d, x0e]), (.mb [(.sl 7 false false []), (.sl 1 false false []), (.sl 1 false false []), (.sl 2 true false []), (.sl 1 false false [])]), (.rp [x0a]), (.mb [(weak r3.r), (weak r4.r.c0), (weak r5.r.c0), (.sl 2 true false r6.r.c0.xs), (.sl 1 false false [])]), (weak r4.r.c1), (weak r5.r.c1), (weak r6.r.c1), (.int .i64 (r6.r.c0.xs.length : Nat)), (.int .i64 0)], [], false⟩
   else none
   else none
   else none
   else none
   else none)
theorem r13 (T : Nat → List SVal → Option Res) (k : Nat) (x0a : SVal) (x0b : SVal) (x0c : SVal) (x0d : SVal) (x0e : SVal) : bodyE P H T k 13 [(.agg [x0a, x0b, x0c, x0d, x0e])] = R13 T k x0a x0b x0c x0d x0e := by kernel_rfl
noncomputable def D13 (T : Nat → List SVal → Option Res) (k : Nat) : List SVal → Option Res
  | [(.agg [x0a, x0b, x0c, x0d, x0e])] => R13 T k x0a x0b x0c x0d x0e
  | a => bodyE P H T k 13 a
theorem d13 (T : Nat → List SVal → Option Res) (k : Nat) (a : List SVal) : D13 T k a = bodyE P H T k 13 a := by
  unfold D13
  split
  · exact (r13 ..).symm
  · rfl
theorem t13 (k : Nat) (x0a : SVal) (x0b : SVal) (x0c : SVal) (x0d : SVal) (x0e : SVal) : T (k + 1) 13 [(.agg [x0a, x0b, x0c, x0d, x0e])] = R13 (T k) k x0a x0b x0c x0d x0e := (by kernel_rfl : T (k + 1) 13 [(.agg [x0a, x0b, x0c, x0d, x0e])] = bodyE P H (T k) k 13 [(.agg [x0a, x0b, x0c, x0d, x0e])]).trans (r13 ..)
end Go.Proofs.YtkebikngkeehfaaGreat.K
