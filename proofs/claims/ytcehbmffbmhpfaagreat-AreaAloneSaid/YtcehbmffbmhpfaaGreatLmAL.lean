/- What the evaluator makes of the functions, by program (wip/tr/resid.py); each equation is checked by the kernel. -/
import Derived.Test.YtcehbmffbmhpfaaGreatLmAK
import Derived.Test.YtcehbmffbmhpfaaGreatLmAB
import Derived.KernelRfl
set_option linter.unusedVariables false
set_option linter.unusedSimpArgs false
set_option linter.unnecessarySimpa false
set_option linter.all false
set_option maxRecDepth 100000
namespace Go.Proofs.YtcehbmffbmhpfaaGreat.K
open Go Go.Lm
/-- limelight/limelightlaw19.PopupTells -/
def R3 (T : Nat → List SVal → Option Res) (k : Nat) (x0a : SVal) (x0b : SVal) (x0c : SVal) (x0d : SVal) (x0e : SVal) (x1a : SVal) (x1b : SVal) : Option Res :=
  (T 14 [(.agg [(weak x0a), (weak x0b), (weak x0c), (weak x0d), (weak x0e)])]).bind fun r1 =>
  (sNot r1.r).bind fun r2 =>
  pickC r2
  ((T 15 []).bind fun r3 =>
   some { r := r3.r })
  (((T 16 [(.agg [(weak x0a), (weak x0b), (weak x0c), (weak x0d), (weak x0e)])]).bind fun r4 =>
    (sBin .neq r4.r (.int .i64 0)).bind fun r5 =>
    guardX r5 false
    ((T 17 [(weak x0a), x1a]).bind fun r6 =>
     (sNot r6.r).bind fun r7 =>
     (asB r7).bind fun b8 =>
     some [b8])
    (some [true])
    (none)).bind fun vs9 =>
   pickC (.bool (vs9.getD 0 false))
   (((T 18 [(.agg [(weak x0a), (weak x0b), (weak x0c), (weak x0d), (weak x0e)]), x1a]).bind fun r10 =>
     (sBin .eql r10.r (.int .i64 0)).bind fun r11 =>
     guardX r11 true
     ((T 19 [(.agg [(weak x0a), (weak x0b), (weak x0c), (weak x0d), (weak x0e)]), (.agg [x1a, x1b])]).bind fun r12 =>
      (sBin .eql r12.r (.int .i64 (-1))).bind fun r13 =>
      guardX r13 true
      ((T 20 [(.agg [(weak x0a), (weak x0b), (weak x0c), (weak x0d), (weak x0e)]), (.agg [x1a, x1b])]).bind fun r14 =>
       (sLen r14.r).bind fun r15 =>
       (sBin .eql r15 (.int .i64 0)).bind fun r16 =>
       guardX r16 true
       ((T 21 [(.agg [(weak x0a), (weak x0b), (weak x0c), (weak x0d), (weak x0e)]), x1a]).bind fun r17 =>
        (sLen r17.r).bind fun r18 =>
        (sBin .eql r18 (.int .i64 0)).bind fun r19 =>
        guardX r19 true
        ((T 22 [(.agg [(weak x0a), (weak x0b), (weak x0c), (weak x0d), (weak x0e)]), x1a]).bind fun r20 =>
         (sLen r20.r).bind fun r21 =>
         (sBin .eql r21 (.int .i64 0)).bind fun r22 =>
         guardX r22 true
         ((T 15 []).bind fun r23 =>
          (asB r23.r).bind fun b24 =>
          some [b24])
         (some [false])
         (none))
        (some [false])
        (none))
       (some [false])
       (none))
      (some [false])
      (none))
     (some [false])
     (none)).bind fun vs25 =>
    some { r := (.bool (vs25.getD 0 false)) })
   (((T 18 [(.agg [(weak x0a), (weak x0b), (weak x0c), (weak x0d), (weak x0e)]), x1a]).bind fun r26 =>
     (T 23 [(.agg [(weak x0a), (weak x0b), (weak x0c), (weak x0d), (weak x0e)]), x1a]).bind fun r27 =>
     (sBin .eql r26.r r27.r).bind fun r28 =>
     guardX r28 true
     ((T 19 [(.agg [(weak x0a), (weak x0b), (weak x0c), (weak x0d), (weak x0e)]), (.agg [x1a, x1b])]).bind fun r29 =>
      (T 24 [(.agg [(weak x0a), (weak x0b), (weak x0c), (weak x0d), (weak x0e)]), (.agg [x1a, x1b])]).bind fun r30 =>
      (sBin .eql r29.r r30.r).bind fun r31 =>
      guardX r31 true
      ((T 20 [(.agg [(weak x0a), (weak x0b), (weak x0c), (weak x0d), (weak x0e)]), (.agg [x1a, x1b])]).bind fun r32 =>
       (T 26 [(.agg [(weak x0a), (weak x0b), (weak x0c), (weak x0d), (weak x0e)]), (.agg [x1a, x1b])]).bind fun r33 =>
       (T 25 [(weak r32.r), (weak r33.r)]).bind fun r34 =>
       guardX r34.r true
       ((T 21 [(.agg [(weak x0a), (weak x0b), (weak x0c), (weak x0d), (weak x0e)]), x1a]).bind fun r35 =>
        (T 27 [(.agg [(weak x0a), (weak x0b), (weak x0c), (weak x0d), (weak x0e)]), x1a]).bind fun r36 =>
        (T 25 [(weak r35.r), (weak r36.r)]).bind fun r37 =>
        guardX r37.r true
        ((T 22 [(.agg [(weak x0a), (weak x0b), (weak x0c), (weak x0d), (weak x0e)]), x1a]).bind fun r38 =>
         (T 28 [(.agg [(weak x0a), (weak x0b), (weak x0c), (weak x0d), (weak x0e)]), x1a]).bind fun r39 =>
         (T 25 [(weak r38.r), (weak r39.r)]).bind fun r40 =>
         guardX r40.r true
         ((T 15 []).bind fun r41 =>
          (asB r41.r).bind fun b42 =>
          some [b42])
         (some [false])
         (none))
        (some [false])
        (none))
       (some [false])
       (none))
      (some [false])
      (none))
     (some [false])
     (none)).bind fun vs43 =>
    some { r := (.bool (vs43.getD 0 false)) }))
theorem r3 (T : Nat → List SVal → Option Res) (k : Nat) (x0a : SVal) (x0b : SVal) (x0c : SVal) (x0d : SVal) (x0e : SVal) (x1a : SVal) (x1b : SVal) : bodyE P H T k 3 [(.agg [x0a, x0b, x0c, x0d, x0e]), (.agg [x1a, x1b])] = R3 T k x0a x0b x0c x0d x0e x1a x1b := by kernel_rfl
noncomputable def D3 (T : Nat → List SVal → Option Res) (k : Nat) : List SVal → Option Res
  | [(.agg [x0a, x0b, x0c, x0d, x0e]), (.agg [x1a, x1b])] => R3 T k x0a x0b x0c x0d x0e x1a x1b
  | a => bodyE P H T k 3 a
theorem d3 (T : Nat → List SVal → Option Res) (k : Nat) (a : List SVal) : D3 T k a = bodyE P H T k 3 a := by
  unfold D3
  split
  · exact (r3 ..).symm
  · rfl
theorem t3 (k : Nat) (x0a : SVal) (x0b : SVal) (x0c : SVal) (x0d : SVal) (x0e : SVal) (x1a : SVal) (x1b : SVal) : T (k + 1) 3 [(.agg [x0a, x0b, x0c, x0d, x0e]), (.agg [x1a, x1b])] = R3 (T k) k x0a x0b x0c x0d x0e x1a x1b := (by kernel_rfl : T (k + 1) 3 [(.agg [x0a, x0b, x0c, x0d, x0e]), (.agg [x1a, x1b])] = bodyE P H (T k) k 3 [(.agg [x0a, x0b, x0c, x0d, x0e]), (.agg [x1a, x1b])]).trans (r3 ..)
/-- limelight/limelightlaw19.PopupSpares -/
def R4 (T : Nat → List SVal → Option Res) (k : Nat) (x0a : SVal) (x0b : SVal) (x0c : SVal) (x0d : SVal) (x0e : SVal) (x1a : SVal) (x1b : SVal) : Option Res :=
  ((T 14 [(.agg [(weak x0a), (weak x0b), (weak x0c), (weak x0d), (weak x0e)])]).bind fun r1 =>
   (sNot r1.r).bind fun r2 =>
   guardX r2 false
   ((T 16 [(.agg [(weak x0a), (weak x0b), (weak x0c), (weak x0d), (weak x0e)])]).bind fun r3 =>
    (sBin .neq r3.r (.int .i64 0)).bind fun r4 =>
    guardX r4 false
    ((T 17 [(weak x0a), x1a]).bind fun r5 =>
     (sNot r5.r).bind fun r6 =>
     (asB r6).bind fun b7 =>
     some [b7])
    (some [true])
    (none))
   (some [true])
   (none)).bind fun vs8 =>
  pickC (.bool (vs8.getD 0 false))
  ((T 15 []).bind fun r9 =>
   some { r := r9.r })
  ((T 20 [(.agg [(weak x0a), (weak x0b), (weak x0c), (weak x0d), (weak x0e)]), (.agg [x1a, x1b])]).bind fun r10 =>
   (T 29 [(weak x0d)]).bind fun r11 =>
   loopN (fun s12 next12 =>
    (sLen s12.k2).bind fun r13 =>
    (sBin .lss s12.k4 r13).bind fun r14 =>
    pickC r14
    ((sIdx false 1 s12.k2 s12.k4).bind fun e15 =>
     ((T 30 [(weak s12.k3), e15]).bind fun r16 =>
      if isSc1 r16.r = true then
      (sNot r16.r).bind fun r17 =>
      guardX r17 false
      ((T 18 [(.agg [(weak (SVal.cell s12.k0 0)), (weak (SVal.cell s12.k0 1)), (weak (SVal.cell s12.k0 2)), (weak (SVal.cell s12.k0 3)), (weak (SVal.cell s12.k0 4))]), e15]).bind fun r18 =>
       (sBin .eql r18.r (.int .i64 3)).bind fun r19 =>
       guardX r19 false
       ((sBin .eql e15 (SVal.cell s12.k1 0)).bind fun r20 =>
        guardX r20 false
        ((T 31 [(weak s12.k2), e15]).bind fun r21 =>
         (sBin .neq r21.r s12.k4).bind fun r22 =>
         guardX r22 false
         ((T 19 [(.agg [(weak (SVal.cell s12.k0 0)), (weak (SVal.cell s12.k0 1)), (weak (SVal.cell s12.k0 2)), (weak (SVal.cell s12.k0 3)), (weak (SVal.cell s12.k0 4))]), (.agg [(SVal.cell s12.k1 0), (SVal.cell s12.k1 1)])]).bind fun r23 =>
          (sBin .eql e15 r23.r).bind fun r24 =>
          (asB r24).bind fun b25 =>
          some [b25])
         (some [true])
         (none))
        (some [true])
        (none))
       (some [true])
       (none))
      (some [true])
      (none)
      else none).bind fun vs26 =>
     pickC (.bool (vs26.getD 0 false))
     (some { r := (.bool false) })
     ((T 32 [(weak (SVal.cell s12.k0 0)), e15, (SVal.cell s12.k1 0)]).bind fun r27 =>
      pickC r27.r
      (some { r := (.bool false) })
      (((T 17 [(weak (SVal.cell s12.k0 0)), (SVal.cell s12.k1 1)]).bind fun r28 =>
        guardX r28.r true
        ((T 32 [(weak (SVal.cell s12.k0 0)), e15, (SVal.cell s12.k1 1)]).bind fun r29 =>
         (asB r29.r).bind fun b30 =>
         some [b30])
        (some [false])
        (none)).bind fun vs31 =>
       pickC (.bool (vs31.getD 0 false))
       (some { r := (.bool false) })
       ((sBin .add s12.k4 (.int .i64 1)).bind fun r32 =>
        next12 ⟨[(.rp [(SVal.cell s12.k0 0), (SVal.cell s12.k0 1), (SVal.cell s12.k0 2), (SVal.cell s12.k0 3), (SVal.cell s12.k0 4)]), (.rp [(SVal.cell s12.k1 0), (SVal.cell s12.k1 1)]), (weak s12.k2), (weak s12.k3), r32], [], false⟩))))
    ((T 15 []).bind fun r33 =>
     some { r := r33.r })) k ⟨[(.rp [x0a, x0b, x0c, x0d, x0e]), (.rp [x1a, x1b]), (weak r10.r), (weak r11.r), (.int .i64 0)], [], false⟩)
theorem r4 (T : Nat → List SVal → Option Res) (k : Nat) (x0a : SVal) (x0b : SVal) (x0c : SVal) (x0d : SVal) (x0e : SVal) (x1a : SVal) (x1b : SVal) : bodyE P H T k 4 [(.agg [x0a, x0b, x0c, x0d, x0e]), (.agg [x1a, x1b])] = R4 T k x0a x0b x0c x0d x0e x1a x1b := by kernel_rfl
noncomputable def D4 (T : Nat → List SVal → Option Res) (k : Nat) : List SVal → Option Res
  | [(.agg [x0a, x0b, x0c, x0d, x0e]), (.agg [x1a, x1b])] => R4 T k x0a x0b x0c x0d x0e x1a x1b
  | a => bodyE P H T k 4 a
theorem d4 (T : Nat → List SVal → Option Res) (k : Nat) (a : List SVal) : D4 T k a = bodyE P H T k 4 a := by
  unfold D4
  split
  · exact (r4 ..).symm
  · rfl
theorem t4 (k : Nat) (x0a : SVal) (x0b : SVal) (x0c : SVal) (x0d : SVal) (x0e : SVal) (x1a : SVal) (x1b : SVal) : T (k + 1) 4 [(.agg [x0a, x0b, x0c, x0d, x0e]), (.agg [x1a, x1b])] = R4 (T k) k x0a x0b x0c x0d x0e x1a x1b := (by kernel_rfl : T (k + 1) 4 [(.agg [x0a, x0b, x0c, x0d, x0e]), (.agg [x1a, x1b])] = bodyE P H (T k) k 4 [(.agg [x0a, x0b, x0c, x0d, x0e]), (.agg [x1a, x1b])]).trans (r4 ..)
/-- limelight/limelightlaw19.PopupLight -/
def R5 (T : Nat → List SVal → Option Res) (k : Nat) (x0a : SVal) (x0b : SVal) (x0c : SVal) (x0d : SVal) (x0e : SVal) (x1 : SVal) : Option Res :=
  ((T 14 [(.agg [(weak x0a), (weak x0b), (weak x0c), (weak x0d), (weak x0e)])]).bind fun r1 =>
   (sNot r1.r).bind fun r2 =>
   guardX r2 false
   ((T 16 [(.agg [(weak x0a), (weak x0b), (weak x0c), (weak x0d), (weak x0e)])]).bind fun r3 =>
    (sBin .neq r3.r (.int .i64 0)).bind fun r4 =>
    guardX r4 false
    ((T 17 [(weak x0a), x1]).bind fun r5 =>
     (sNot r5.r).bind fun r6 =>
     (asB r6).bind fun b7 =>
     some [b7])
    (some [true])
    (none))
   (some [true])
   (none)).bind fun vs8 =>
  pickC (.bool (vs8.getD 0 false))
  ((T 15 []).bind fun r9 =>
   some { r := r9.r })
  ((T 22 [(.agg [(weak x0a), (weak x0b), (weak x0c), (weak x0d), (weak x0e)]), x1]).bind fun r10 =>
   (T 33 [(.agg [(weak x0a), (weak x0b), (weak x0c), (weak x0d), (weak x0e)])]).bind fun r11 =>
   loopN (fun s12 next12 =>
    (sLen s12.k3).bind fun r13 =>
    (sBin .lss s12.k5 r13).bind fun r14 =>
    pickC r14
    ((sIdx false 1 s12.k3 s12.k5).bind fun e15 =>
     (T 32 [(weak (SVal.cell s12.k1 0)), e15, s12.k0]).bind fun r16 =>
     pickC r16.r
     ((sBin .add s12.k5 (.int .i64 1)).bind fun r17 =>
      next12 ⟨[s12.k0, (.rp [(SVal.cell s12.k1 0), (SVal.cell s12.k1 1), (SVal.cell s12.k1 2), (SVal.cell s12.k1 3), (SVal.cell s12.k1 4)]), (weak s12.k2), (weak s12.k3), s12.k5, r17], [], false⟩)
     ((sBin .add s12.k5 (.int .i64 1)).bind fun r18 =>
      next12 ⟨[s12.k0, (.rp [(SVal.cell s12.k1 0), (SVal.cell s12.k1 1), (SVal.cell s12.k1 2), (SVal.cell s12.k1 3), (SVal.cell s12.k1 4)]), (weak s12.k2), (weak s12.k3), s12.k4, r18], [], false⟩))
    ((sLen s12.k2).bind fun r19 =>
     (sLen s12.k3).bind fun r20 =>
     (sBin .sub r20 (.int .i64 1)).bind fun r21 =>
     (sBin .sub r21 s12.k4).bind fun r22 =>
     (sBin .neq r19 r22).bind fun r23 =>
     pickC r23
     (some { r := (.bool false) })
     (loopN (fun s24 next24 =>
       (sLen s24.k1).bind fun r25 =>
       (sBin .lss s24.k4 r25).bind fun r26 =>
       pickC r26
       ((sIdx false 1 s24.k1 s24.k4).bind fun e27 =>
        (sLen s24.k2).bind fun r28 =>
        (sBin .sub r28 (.int .i64 1)).bind fun r29 =>
        (sBin .sub r29 s24.k4).bind fun r30 =>
        (sIdx false 1 s24.k2 r30).bind fun e31 =>
        (sBin .neq e27 e31).bind fun r32 =>
        pickC r32
        (some { r := (.bool false) })
        ((sBin .add s24.k4 (.int .i64 1)).bind fun r33 =>
         next24 ⟨[(.rp [(SVal.cell s24.k0 0), (SVal.cell s24.k0 1), (SVal.cell s24.k0 2), (SVal.cell s24.k0 3), (SVal.cell s24.k0 4)]), (weak s24.k1), (weak s24.k2), s24.k3, r33], [], false⟩))
       (((sBin .geq s24.k3 (.int .i64 0)).bind fun r34 =>
         guardX r34 true
         ((sIdx false 1 s24.k2 s24.k3).bind fun e35 =>
          (T 21 [(.agg [(weak (SVal.cell s24.k0 0)), (weak (SVal.cell s24.k0 1)), (weak (SVal.cell s24.k0 2)), (weak (SVal.cell s24.k0 3)), (weak (SVal.cell s24.k0 4))]), e35]).bind fun r36 =>
          (T 25 [(weak r36.r), (weak s24.k1)]).bind fun r37 =>
          (sNot r37.r).bind fun r38 =>
          (asB r38).bind fun b39 =>
          some [b39])
         (some [false])
         (none)).bind fun vs40 =>
        pickC (.bool (vs40.getD 0 false))
        (some { r := (.bool false) })
        ((T 15 []).bind fun r41 =>
         some { r := r41.r }))) k ⟨[(.rp [(SVal.cell s12.k1 0), (SVal.cell s12.k1 1), (SVal.cell s12.k1 2), (SVal.cell s12.k1 3), (SVal.cell s12.k1 4)]), (weak s12.k2), (weak s12.k3), s12.k4, (.int .i64 0)], [], false⟩))) k ⟨[x1, (.rp [x0a, x0b, x0c, x0d, x0e]), (weak r10.r), (weak r11.r), (.int .i64 (-1)), (.int .i64 0)], [], false⟩)
theorem r5 (T : Nat → List SVal → Option Res) (k : Nat) (x0a : SVal) (x0b : SVal) (x0c : SVal) (x0d : SVal) (x0e : SVal) (x1 : SVal) : bodyE P H T k 5 [(.agg [x0a, x0b, x0c, x0d, x0e]), x1] = R5 T k x0a x0b x0c x0d x0e x1 := by kernel_rfl
noncomputable def D5 (T : Nat → List SVal → Option Res) (k : Nat) : List SVal → Option Res
  | [(.agg [x0a, x0b, x0c, x0d, x0e]), x1] => R5 T k x0a x0b x0c x0d x0e x1
  | a => bodyE P H T k 5 a
theorem d5 (T : Nat → List SVal → Option Res) (k : Nat) (a : List SVal) : D5 T k a = bodyE P H T k 5 a := by
  unfold D5
  split
  · exact (r5 ..).symm
  · rfl
theorem t5 (k : Nat) (x0a : SVal) (x0b : SVal) (x0c : SVal) (x0d : SVal) (x0e : SVal) (x1 : SVal) : T (k + 1) 5 [(.agg [x0a, x0b, x0c, x0d, x0e]), x1] = R5 (T k) k x0a x0b x0c x0d x0e x1 := (by kernel_rfl : T (k + 1) 5 [(.agg [x0a, x0b, x0c, x0d, x0e]), x1] = bodyE P H (T k) k 5 [(.agg [x0a, x0b, x0c, x0d, x0e]), x1]).trans (r5 ..)
/-- limelight/limelightlaw19.PopupHands -/
def R6 (T : Nat → List SVal → Option Res) (k : Nat) (x0a : SVal) (x0b : SVal) (x0c : SVal) (x0d : SVal) (x0e : SVal) (x1a : SVal) (x1b : SVal) : Option Res :=
  ((T 14 [(.agg [(weak x0a), (weak x0b), (weak x0c), (weak x0d), (weak x0e)])]).bind fun r1 =>
   (sNot r1.r).bind fun r2 =>
   guardX r2 false
   ((T 16 [(.agg [(weak x0a), (weak x0b), (weak x0c), (weak x0d), (weak x0e)])]).bind fun r3 =>
    (sBin .neq r3.r (.int .i64 0)).bind fun r4 =>
    guardX r4 false
    ((T 17 [(weak x0a), x1a]).bind fun r5 =>
     (sNot r5.r).bind fun r6 =>
     (asB r6).bind fun b7 =>
     some [b7])
    (some [true])
    (none))
   (some [true])
   (none)).bind fun vs8 =>
  pickC (.bool (vs8.getD 0 false))
  ((T 15 []).bind fun r9 =>
   some { r := r9.r })
  ((T 20 [(.agg [(weak x0a), (weak x0b), (weak x0c), (weak x0d), (weak x0e)]), (.agg [x1a, x1b])]).bind fun r10 =>
   (T 22 [(.agg [(weak x0a), (weak x0b), (weak x0c), (weak x0d), (weak x0e)]), x1a]).bind fun r11 =>
   ((T 18 [(.agg [(weak x0a), (weak x0b), (weak x0c), (weak x0d), (weak x0e)]), x1a]).bind fun r12 =>
    (sBin .eql r12.r (.int .i64 3)).bind fun r13 =>
    guardX r13 true
    ((sLen r10.r).bind fun r14 =>
     (sBin .gtr r14 (.int .i64 0)).bind fun r15 =>
     guardX r15 false
     ((T 21 [(.agg [(weak x0a), (weak x0b), (weak x0c), (weak x0d), (weak x0e)]), x1a]).bind fun r16 =>
      (sLen r16.r).bind fun r17 =>
      (sBin .gtr r17 (.int .i64 0)).bind fun r18 =>
      (asB r18).bind fun b19 =>
      some [b19])
     (some [true])
     (none))
    (some [false])
    (none)).bind fun vs20 =>
   pickC (.bool (vs20.getD 0 false))
   (some { r := (.bool false) })
   (loopN (fun s21 next21 =>
     (sLen s21.k2).bind fun r22 =>
     (sBin .lss s21.k4 r22).bind fun r23 =>
     pickC r23
     ((sIdx false 1 s21.k2 s21.k4).bind fun e24 =>
      (T 18 [(.agg [(weak (SVal.cell s21.k0 0)), (weak (SVal.cell s21.k0 1)), (weak (SVal.cell s21.k0 2)), (weak (SVal.cell s21.k0 3)), (weak (SVal.cell s21.k0 4))]), e24]).bind fun r25 =>
      (sBin .eql r25.r (.int .i64 3)).bind fun r26 =>
      pickC r26
      (some { r := (.bool false) })
      ((sBin .add s21.k4 (.int .i64 1)).bind fun r27 =>
       next21 ⟨[(.rp [(SVal.cell s21.k0 0), (SVal.cell s21.k0 1), (SVal.cell s21.k0 2), (SVal.cell s21.k0 3), (SVal.cell s21.k0 4)]), (.rp [(SVal.cell s21.k1 0), (SVal.cell s21.k1 1)]), (weak s21.k2), (weak s21.k3), r27], [], false⟩))
     (loopN (fun s28 next28 =>
       (sLen s28.k2).bind fun r29 =>
       (sBin .lss s28.k3 r29).bind fun r30 =>
       pickC r30
       ((sIdx false 1 s28.k2 s28.k3).bind fun e31 =>
        (T 18 [(.agg [(weak (SVal.cell s28.k0 0)), (weak (SVal.cell s28.k0 1)), (weak (SVal.cell s28.k0 2)), (weak (SVal.cell s28.k0 3)), (weak (SVal.cell s28.k0 4))]), e31]).bind fun r32 =>
        (sBin .eql r32.r (.int .i64 3)).bind fun r33 =>
        pickC r33
        (some { r := (.bool false) })
        ((sBin .add s28.k3 (.int .i64 1)).bind fun r34 =>
         next28 ⟨[(.rp [(SVal.cell s28.k0 0), (SVal.cell s28.k0 1), (SVal.cell s28.k0 2), (SVal.cell s28.k0 3), (SVal.cell s28.k0 4)]), (.rp [(SVal.cell s28.k1 0), (SVal.cell s28.k1 1)]), (weak s28.k2), r34], [], false⟩))
       ((T 19 [(.agg [(weak (SVal.cell s28.k0 0)), (weak (SVal.cell s28.k0 1)), (weak (SVal.cell s28.k0 2)), (weak (SVal.cell s28.k0 3)), (weak (SVal.cell s28.k0 4))]), (.agg [(SVal.cell s28.k1 0), (SVal.cell s28.k1 1)])]).bind fun r35 =>
        ((sBin .eql r35.r (.int .i64 (-1))).bind fun r36 =>
         guardX r36 false
         ((T 18 [(.agg [(weak (SVal.cell s28.k0 0)), (weak (SVal.cell s28.k0 1)), (weak (SVal.cell s28.k0 2)), (weak (SVal.cell s28.k0 3)), (weak (SVal.cell s28.k0 4))]), r35.r]).bind fun r37 =>
          (sBin .eql r37.r (.int .i64 1)).bind fun r38 =>
          guardX r38 false
          ((T 18 [(.agg [(weak (SVal.cell s28.k0 0)), (weak (SVal.cell s28.k0 1)), (weak (SVal.cell s28.k0 2)), (weak (SVal.cell s28.k0 3)), (weak (SVal.cell s28.k0 4))]), r35.r]).bind fun r39 =>
           (sBin .eql r39.r (.int .i64 2)).bind fun r40 =>
           guardX r40 true
           ((T 15 []).bind fun r41 =>
            (asB r41.r).bind fun b42 =>
            some [b42])
           (some [false])
           (none))
          ((T 15 []).bind fun r43 =>
           (asB r43.r).bind fun b44 =>
           some [b44])
          (none))
         ((T 15 []).bind fun r45 =>
          (asB r45.r).bind fun b46 =>
          some [b46])
         (none)).bind fun vs47 =>
        some { r := (.bool (vs47.getD 0 false)) })) k ⟨[(.rp [(SVal.cell s21.k0 0), (SVal.cell s21.k0 1), (SVal.cell s21.k0 2), (SVal.cell s21.k0 3), (SVal.cell s21.k0 4)]), (.rp [(SVal.cell s21.k1 0), (SVal.cell s21.k1 1)]), (weak s21.k3), (.int .i64 0)], [], false⟩)) k ⟨[(.rp [x0a, x0b, x0c, x0d, x0e]), (.rp [x1a, x1b]), (weak r10.r), (weak r11.r), (.int .i64 0)], [], false⟩))
theorem r6 (T : Nat → List SVal → Option Res) (k : Nat) (x0a : SVal) (x0b : SVal) (x0c : SVal) (x0d : SVal) (x0e : SVal) (x1a : SVal) (x1b : SVal) : bodyE P H T k 6 [(.agg [x0a, x0b, x0c, x0d, x0e]), (.agg [x1a, x1b])] = R6 T k x0a x0b x0c x0d x0e x1a x1b := by kernel_rfl
noncomputable def D6 (T : Nat → List SVal → Option Res) (k : Nat) : List SVal → Option Res
  | [(.agg [x0a, x0b, x0c, x0d, x0e]), (.agg [x1a, x1b])] => R6 T k x0a x0b x0c x0d x0e x1a x1b
  | a => bodyE P H T k 6 a
theorem d6 (T : Nat → List SVal → Option Res) (k : Nat) (a : List SVal) : D6 T k a = bodyE P H T k 6 a := by
  unfold D6
  split
  · exact (r6 ..).symm
  · rfl
theorem t6 (k : Nat) (x0a : SVal) (x0b : SVal) (x0c : SVal) (x0d : SVal) (x0e : SVal) (x1a : SVal) (x1b : SVal) : T (k + 1) 6 [(.agg [x0a, x0b, x0c, x0d, x0e]), (.agg [x1a, x1b])] = R6 (T k) k x0a x0b x0c x0d x0e x1a x1b := (by kernel_rfl : T (k + 1) 6 [(.agg [x0a, x0b, x0c, x0d, x0e]), (.agg [x1a, x1b])] = bodyE P H (T k) k 6 [(.agg [x0a, x0b, x0c, x0d, x0e]), (.agg [x1a, x1b])]).trans (r6 ..)
/-- limelight/limelightlaw19.PopupHints -/
def R7 (T : Nat → List SVal → Option Res) (k : Nat) (x0a : SVal) (x0b : SVal) (x0c : SVal) (x0d : SVal) (x0e : SVal) (x1a : SVal) (x1b : SVal) : Option Res :=
  ((T 14 [(.agg [(weak x0a), (weak x0b), (weak x0c), (weak x0d), (weak x0e)])]).bind fun r1 =>
   (sNot r1.r).bind fun r2 =>
   guardX r2 false
   ((T 16 [(.agg [(weak x0a), (weak x0b), (weak x0c), (weak x0d), (weak x0e)])]).bind fun r3 =>
    (sBin .neq r3.r (.int .i64 0)).bind fun r4 =>
    guardX r4 false
    ((T 17 [(weak x0a), x1a]).bind fun r5 =>
     (sNot r5.r).bind fun r6 =>
     (asB r6).bind fun b7 =>
     some [b7])
    (some [true])
    (none))
   (some [true])
   (none)).bind fun vs8 =>
  pickC (.bool (vs8.getD 0 false))
  ((T 15 []).bind fun r9 =>
   some { r := r9.r })
  ((T 20 [(.agg [(weak x0a), (weak x0b), (weak x0c), (weak x0d), (weak x0e)]), (.agg [x1a, x1b])]).bind fun r10 =>
   (T 18 [(.agg [(weak x0a), (weak x0b), (weak x0c), (weak x0d), (weak x0e)]), x1a]).bind fun r11 =>
   (T 19 [(.agg [(weak x0a), (weak x0b), (weak x0c), (weak x0d), (weak x0e)]), (.agg [x1a, x1b])]).bind fun r12 =>
   (T 33 [(.agg [(weak x0a), (weak x0b), (weak x0c), (weak x0d), (weak x0e)])]).bind fun r13 =>
   loopN (fun s14 next14 =>
    (sLen s14.k5).bind fun r15 =>
    (sBin .lss s14.k6 r15).bind fun r16 =>
    pickC r16
    ((sIdx false 1 s14.k5 s14.k6).bind fun e17 =>
     (T 30 [(weak s14.k2), e17]).bind fun r18 =>
     if isSc1 r18.r = true then
     ((sBin .eql s14.k3 (.int .i64 2)).bind fun r19 =>
      guardX r19 true
      ((T 18 [(.agg [(weak (SVal.cell s14.k0 0)), (weak (SVal.cell s14.k0 1)), (weak (SVal.cell s14.k0 2)), (weak (SVal.cell s14.k0 3)), (weak (SVal.cell s14.k0 4))]), e17]).bind fun r20 =>
       (sBin .eql r20.r (.int .i64 1)).bind fun r21 =>
       guardX r21 true
       ((asB r18.r).bind fun b22 =>
        some [b22])
       (some [false])
       (none))
      (some [false])
      (none)).bind fun vs23 =>
     pickC (.bool (vs23.getD 0 false))
     (some { r := (.bool false) })
     (((sBin .eql s14.k4 (.int .i64 (-1))).bind fun r24 =>
       guardX r24 false
       ((T 31 [(weak s14.k5), s14.k4]).bind fun r25 =>
        (sBin .gtr s14.k6 r25.r).bind fun r26 =>
        (asB r26).bind fun b27 =>
        some [b27])
       (some [true])
       (none)).bind fun vs28 =>
      ((sBin .eql s14.k3 (.int .i64 1)).bind fun r29 =>
       guardX r29 true
       ((sBin .neq e17 (SVal.cell s14.k1 0)).bind fun r30 =>
        guardX r30 true
        ((sBinB .neq r18.r (.bool (vs28.getD 0 false))).bind fun r31 =>
         (asB r31).bind fun b32 =>
         some [b32])
        (some [false])
        (none))
       (some [false])
       (none)).bind fun vs33 =>
      pickC (.bool (vs33.getD 0 false))
      (some { r := (.bool false) })
      ((sBin .add s14.k6 (.int .i64 1)).bind fun r34 =>
       next14 ⟨[(.rp [(SVal.cell s14.k0 0), (SVal.cell s14.k0 1), (SVal.cell s14.k0 2), (SVal.cell s14.k0 3), (SVal.cell s14.k0 4)]), (.rp [(SVal.cell s14.k1 0), (SVal.cell s14.k1 1)]), (weak s14.k2), s14.k3, s14.k4, (weak s14.k5), r34], [], false⟩))
     else none)
    ((T 15 []).bind fun r35 =>
     some { r := r35.r })) k ⟨[(.rp [x0a, x0b, x0c, x0d, x0e]), (.rp [x1a, x1b]), (weak r10.r), r11.r, r12.r, (weak r13.r), (.int .i64 0)], [], false⟩)
theorem r7 (T : Nat → List SVal → Option Res) (k : Nat) (x0a : SVal) (x0b : SVal) (x0c : SVal) (x0d : SVal) (x0e : SVal) (x1a : SVal) (x1b : SVal) : bodyE P H T k 7 [(.agg [x0a, x0b, x0c, x0d, x0e]), (.agg [x1a, x1b])] = R7 T k x0a x0b x0c x0d x0e x1a x1b := by kernel_rfl
noncomputable def D7 (T : Nat → List SVal → Option Res) (k : Nat) : List SVal → Option Res
  | [(.agg [x0a, x0b, x0c, x0d, x0e]), (.agg [x1a, x1b])] => R7 T k x0a x0b x0c x0d x0e x1a x1b
  | a => bodyE P H T k 7 a
theorem d7 (T : Nat → List SVal → Option Res) (k : Nat) (a : List SVal) : D7 T k a = bodyE P H T k 7 a := by
  unfold D7
  split
  · exact (r7 ..).symm
  · rfl
theorem t7 (k : Nat) (x0a : SVal) (x0b : SVal) (x0c : SVal) (x0d : SVal) (x0e : SVal) (x1a : SVal) (x1b : SVal) : T (k + 1) 7 [(.agg [x0a, x0b, x0c, x0d, x0e]), (.agg [x1a, x1b])] = R7 (T k) k x0a x0b x0c x0d x0e x1a x1b := (by kernel_rfl : T (k + 1) 7 [(.agg [x0a, x0b, x0c, x0d, x0e]), (.agg [x1a, x1b])] = bodyE P H (T k) k 7 [(.agg [x0a, x0b, x0c, x0d, x0e]), (.agg [x1a, x1b])]).trans (r7 ..)
/-- limelight/limelightlaw19.PopupLone -/
def R8 (T : Nat → List SVal → Option Res) (k : Nat) (x0a : SVal) (x0b : SVal) (x0c : SVal) (x0d : SVal) (x0e : SVal) (x1a : SVal) (x1b : SVal) : Option Res :=
  ((T 14 [(.agg [(weak x0a), (weak x0b), (weak x0c), (weak x0d), (weak x0e)])]).bind fun r1 =>
   (sNot r1.r).bind fun r2 =>
   guardX r2 false
   ((T 16 [(.agg [(weak x0a), (weak x0b), (weak x0c), (weak x0d), (weak x0e)])]).bind fun r3 =>
    (sBin .neq r3.r (.int .i64 0)).bind fun r4 =>
    guardX r4 false
    ((T 17 [(weak x0a), x1a]).bind fun r5 =>
     (sNot r5.r).bind fun r6 =>
     (asB r6).bind fun b7 =>
     some [b7])
    (some [true])
    (none))
   (some [true])
   (none)).bind fun vs8 =>
  pickC (.bool (vs8.getD 0 false))
  ((T 15 []).bind fun r9 =>
   some { r := r9.r })
  ((T 20 [(.agg [(weak x0a), (weak x0b), (weak x0c), (weak x0d), (weak x0e)]), (.agg [x1a, x1b])]).bind fun r10 =>
   (sLen x0d).bind fun r11 =>
   (sBin .eql r11 (.int .i64 0)).bind fun r12 =>
   pickC r12
   (((sLen r10.r).bind fun r13 =>
     (sBin .eql r13 (.int .i64 0)).bind fun r14 =>
     guardX r14 true
     ((T 19 [(.agg [(weak x0a), (weak x0b), (weak x0c), (weak x0d), (weak x0e)]), (.agg [x1a, x1b])]).bind fun r15 =>
      (sBin .eql r15.r (.int .i64 (-1))).bind fun r16 =>
      guardX r16 true
      ((T 22 [(.agg [(weak x0a), (weak x0b), (weak x0c), (weak x0d), (weak x0e)]), x1a]).bind fun r17 =>
       (sLen r17.r).bind fun r18 =>
       (sBin .eql r18 (.int .i64 0)).bind fun r19 =>
       guardX r19 true
       ((T 15 []).bind fun r20 =>
        (asB r20.r).bind fun b21 =>
        some [b21])
       (some [false])
       (none))
      (some [false])
      (none))
     (some [false])
     (none)).bind fun vs22 =>
    some { r := (.bool (vs22.getD 0 false)) })
   ((T 33 [(.agg [(weak x0a), (weak x0b), (weak x0c), (weak x0d), (weak x0e)])]).bind fun r23 =>
    (T 19 [(.agg [(weak x0a), (weak x0b), (weak x0c), (weak x0d), (weak x0e)]), (.agg [x1a, x1b])]).bind fun r24 =>
    (T 31 [(weak r23.r), r24.r]).bind fun r25 =>
    loopN (fun s26 next26 =>
     (sBin .leq s26.k3 s26.k2).bind fun r27 =>
     pickC r27
     ((sIdx false 1 s26.k1 s26.k3).bind fun e28 =>
      (T 30 [(weak s26.k0), e28]).bind fun r29 =>
      if isSc1 r29.r = true then
      pickC r29.r
      (some { r := (.bool false) })
      ((sBin .add s26.k3 (.int .i64 1)).bind fun r30 =>
       next26 ⟨[(weak s26.k0), (weak s26.k1), s26.k2, r30], [], false⟩)
      else none)
     ((T 15 []).bind fun r31 =>
      some { r := r31.r })) k ⟨[(weak r10.r), (weak r23.r), r25.r, (.int .i64 0)], [], false⟩))
theorem r8 (T : Nat → List SVal → Option Res) (k : Nat) (x0a : SVal) (x0b : SVal) (x0c : SVal) (x0d : SVal) (x0e : SVal) (x1a : SVal) (x1b : SVal) : bodyE P H T k 8 [(.agg [x0a, x0b, x0c, x0d, x0e]), (.agg [x1a, x1b])] = R8 T k x0a x0b x0c x0d x0e x1a x1b := by kernel_rfl
noncomputable def D8 (T : Nat → List SVal → Option Res) (k : Nat) : List SVal → Option Res
  | [(.agg [x0a, x0b, x0c, x0d, x0e]), (.agg [x1a, x1b])] => R8 T k x0a x0b x0c x0d x0e x1a x1b
  | a => bodyE P H T k 8 a
theorem d8 (T : Nat → List SVal → Option Res) (k : Nat) (a : List SVal) : D8 T k a = bodyE P H T k 8 a := by
  unfold D8
  split
  · exact (r8 ..).symm
  · rfl
theorem t8 (k : Nat) (x0a : SVal) (x0b : SVal) (x0c : SVal) (x0d : SVal) (x0e : SVal) (x1a : SVal) (x1b : SVal) : T (k + 1) 8 [(.agg [x0a, x0b, x0c, x0d, x0e]), (.agg [x1a, x1b])] = R8 (T k) k x0a x0b x0c x0d x0e x1a x1b := (by kernel_rfl : T (k + 1) 8 [(.agg [x0a, x0b, x0c, x0d, x0e]), (.agg [x1a, x1b])] = bodyE P H (T k) k 8 [(.agg [x0a, x0b, x0c, x0d, x0e]), (.agg [x1a, x1b])]).trans (r8 ..)
/-- limelight/limelightlaw13.AreaTells -/
def R9 (T : Nat → List SVal → Option Res) (k : Nat) (x0a : SVal) (x0b : SVal) (x0c : SVal) (x0d : SVal) (x0e : SVal) (x1 : SVal) : Option Res :=
  (T 14 [(.agg [(weak x0a), (weak x0b), (weak x0c), (weak x0d), (weak x0e)])]).bind fun r1 =>
  (sNot r1.r).bind fun r2 =>
  pickC r2
  ((T 34 []).bind fun r3 =>
   some { r := r3.r })
  ((T 35 [(weak x0a), x1]).bind fun r4 =>
   (T 36 [(weak x0a), x1, x1]).bind fun r5 =>
   (sNot r5.r).bind fun r6 =>
   pickC r6
   (((sBin .eql r4.r.c0 (.int .i64 0)).bind fun r7 =>
     guardX r7 true
     ((sNot r4.r.c1).bind fun r8 =>
      guardX r8 true
      ((T 37 [(.agg [(weak x0a), (weak x0b), (weak x0c), (weak x0d), (weak x0e)]), x1]).bind fun r9 =>
       (sNot r9.r).bind fun r10 =>
       guardX r10 true
       ((T 38 [(.agg [(weak x0a), (weak x0b), (weak x0c), (weak x0d), (weak x0e)]), x1]).bind fun r11 =>
        (sNot r11.r).bind fun r12 =>
        guardX r12 true
        ((T 39 [(weak x0a), x1]).bind fun r13 =>
         (sNot r13.r).bind fun r14 =>
         guardX r14 true
         ((T 40 [(weak x0a), x1]).bind fun r15 =>
          (sNot r15.r).bind fun r16 =>
          guardX r16 true
          ((T 34 []).bind fun r17 =>
           (asB r17.r).bind fun b18 =>
           some [b18])
          (some [false])
          (none))
         (some [false])
         (none))
        (some [false])
        (none))
       (some [false])
       (none))
      (some [false])
      (none))
     (some [false])
     (none)).bind fun vs19 =>
    some { r := (.bool (vs19.getD 0 false)) })
   ((T 41 [(weak x0a), x1]).bind fun r20 =>
    ((sBin .neq r4.r.c0 r20.r.c0).bind fun r21 =>
     guardX r21 false
     ((sBinB .neq r4.r.c1 r20.r.c1).bind fun r22 =>
      guardX r22 false
      ((T 39 [(weak x0a), x1]).bind fun r23 =>
       (T 42 [(weak x0a), x1]).bind fun r24 =>
       (sBinB .neq r23.r r24.r).bind fun r25 =>
       guardX r25 false
       ((T 40 [(weak x0a), x1]).bind fun r26 =>
        (T 43 [(weak x0a), x1]).bind fun r27 =>
        (sBinB .neq r26.r r27.r).bind fun r28 =>
        (asB r28).bind fun b29 =>
        some [b29])
       (some [true])
       (none))
      (some [true])
      (none))
     (some [true])
     (none)).bind fun vs30 =>
    pickC (.bool (vs30.getD 0 false))
    (some { r := (.bool false) })
    ((T 16 [(.agg [(weak x0a), (weak x0b), (weak x0c), (weak x0d), (weak x0e)])]).bind fun r31 =>
     (sBin .neq r31.r (.int .i64 0)).bind fun r32 =>
     pickC r32
     (((T 37 [(.agg [(weak x0a), (weak x0b), (weak x0c), (weak x0d), (weak x0e)]), x1]).bind fun r33 =>
       (sNot r33.r).bind fun r34 =>
       guardX r34 true
       ((T 38 [(.agg [(weak x0a), (weak x0b), (weak x0c), (weak x0d), (weak x0e)]), x1]).bind fun r35 =>
        (sNot r35.r).bind fun r36 =>
        guardX r36 true
        ((T 44 [(.agg [(weak x0a), (weak x0b), (weak x0c), (weak x0d), (weak x0e)])]).bind fun r37 =>
         (sLen r37.r).bind fun r38 =>
         (sBin .eql r38 (.int .i64 0)).bind fun r39 =>
         guardX r39 true
         ((T 34 []).bind fun r40 =>
          (asB r40.r).bind fun b41 =>
          some [b41])
         (some [false])
         (none))
        (some [false])
        (none))
       (some [false])
       (none)).bind fun vs42 =>
      some { r := (.bool (vs42.getD 0 false)) })
     (((T 37 [(.agg [(weak x0a), (weak x0b), (weak x0c), (weak x0d), (weak x0e)]), x1]).bind fun r43 =>
       (T 45 [(.agg [(weak x0a), (weak x0b), (weak x0c), (weak x0d), (weak x0e)]), x1]).bind fun r44 =>
       (sBinB .eql r43.r r44.r).bind fun r45 =>
       guardX r45 true
       ((T 38 [(.agg [(weak x0a), (weak x0b), (weak x0c), (weak x0d), (weak x0e)]), x1]).bind fun r46 =>
        (T 46 [(.agg [(weak x0a), (weak x0b), (weak x0c), (weak x0d), (weak x0e)]), x1]).bind fun r47 =>
        (sBinB .eql r46.r r47.r).bind fun r48 =>
        guardX r48 true
        ((T 44 [(.agg [(weak x0a), (weak x0b), (weak x0c), (weak x0d), (weak x0e)])]).bind fun r49 =>
         (T 47 [(.agg [(weak x0a), (weak x0b), (weak x0c), (weak x0d), (weak x0e)])]).bind fun r50 =>
         (T 25 [(weak r49.r), (weak r50.r)]).bind fun r51 =>
         guardX r51.r true
         ((T 34 []).bind fun r52 =>
          (asB r52.r).bind fun b53 =>
          some [b53])
         (some [false])
         (none))
        (some [false])
        (none))
       (some [false])
       (none)).bind fun vs54 =>
      some { r := (.bool (vs54.getD 0 false)) }))))
theorem r9 (T : Nat → List SVal → Option Res) (k : Nat) (x0a : SVal) (x0b : SVal) (x0c : SVal) (x0d : SVal) (x0e : SVal) (x1 : SVal) : bodyE P H T k 9 [(.agg [x0a, x0b, x0c, x0d, x0e]), x1] = R9 T k x0a x0b x0c x0d x0e x1 := by kernel_rfl
noncomputable def D9 (T : Nat → List SVal → Option Res) (k : Nat) : List SVal → Option Res
  | [(.agg [x0a, x0b, x0c, x0d, x0e]), x1] => R9 T k x0a x0b x0c x0d x0e x1
  | a => bodyE P H T k 9 a
theorem d9 (T : Nat → List SVal → Option Res) (k : Nat) (a : List SVal) : D9 T k a = bodyE P H T k 9 a := by
  unfold D9
  split
  · exact (r9 ..).symm
  · rfl
theorem t9 (k : Nat) (x0a : SVal) (x0b : SVal) (x0c : SVal) (x0d : SVal) (x0e : SVal) (x1 : SVal) : T (k + 1) 9 [(.agg [x0a, x0b, x0c, x0d, x0e]), x1] = R9 (T k) k x0a x0b x0c x0d x0e x1 := (by kernel_rfl : T (k + 1) 9 [(.agg [x0a, x0b, x0c, x0d, x0e]), x1] = bodyE P H (T k) k 9 [(.agg [x0a, x0b, x0c, x0d, x0e]), x1]).trans (r9 ..)
/-- limelight/limelightlaw13.AreaLaws -/
def R10 (T : Nat → List SVal → Option Res) (k : Nat) (x0a : SVal) (x0b : SVal) (x0c : SVal) (x0d : SVal) (x0e : SVal) : Option Res :=
  ((T 14 [(.agg [(weak x0a), (weak x0b), (weak x0c), (weak x0d), (weak x0e)])]).bind fun r1 =>
   (sNot r1.r).bind fun r2 =>
   guardX r2 false
   ((T 16 [(.agg [(weak x0a), (weak x0b), (weak x0c), (weak x0d), (weak x0e)])]).bind fun r3 =>
    (sBin .neq r3.r (.int .i64 0)).bind fun r4 =>
    (asB r4).bind fun b5 =>
    some [b5])
   (some [true])
   (none)).bind fun vs6 =>
  pickC (.bool (vs6.getD 0 false))
  ((T 34 []).bind fun r7 =>
   some { r := r7.r })
  ((T 44 [(.agg [(weak x0a), (weak x0b), (weak x0c), (weak x0d), (weak x0e)])]).bind fun r8 =>
   loopN (fun s9 next9 =>
    (sLen (SVal.cell s9.k0 0)).bind fun r10 =>
    (sBin .lss s9.k3 r10).bind fun r11 =>
    pickC r11
    ((T 37 [(.agg [(weak (SVal.cell s9.k0 0)), (weak (SVal.cell s9.k0 1)), (weak (SVal.cell s9.k0 2)), (weak (SVal.cell s9.k0 3)), (weak (SVal.cell s9.k0 4))]), s9.k3]).bind fun r12 =>
     pickC r12.r
     ((sBin .add s9.k2 (.int .i64 1)).bind fun r13 =>
      (guardX r12.r true
       ((sIdx true 7 (SVal.cell s9.k0 0) s9.k3).bind fun e14 =>
        (sBin .neq (SVal.cell e14 0) (.int .i64 1)).bind fun r15 =>
        guardX r15 false
        ((T 48 [(.agg [(weak (SVal.cell s9.k0 0)), (weak (SVal.cell s9.k0 1)), (weak (SVal.cell s9.k0 2)), (weak (SVal.cell s9.k0 3)), (weak (SVal.cell s9.k0 4))]), s9.k3]).bind fun r16 =>
         (sNot r16.r).bind fun r17 =>
         guardX r17 false
         ((T 49 [(.agg [(weak (SVal.cell s9.k0 0)), (weak (SVal.cell s9.k0 1)), (weak (SVal.cell s9.k0 2)), (weak (SVal.cell s9.k0 3)), (weak (SVal.cell s9.k0 4))]), s9.k3]).bind fun r18 =>
          guardX r18.r false
          ((T 39 [(weak (SVal.cell s9.k0 0)), s9.k3]).bind fun r19 =>
           guardX r19.r false
           ((T 40 [(weak (SVal.cell s9.k0 0)), s9.k3]).bind fun r20 =>
            (asB r20.r).bind fun b21 =>
            some [b21])
           (some [true])
           (none))
          (some [true])
          (none))
         (some [true])
         (none))
        (some [true])
        (none))
       (some [false])
       (none)).bind fun vs22 =>
      pickC (.bool (vs22.getD 0 false))
      (some { r := (.bool false) })
      (((T 30 [(weak s9.k1), s9.k3]).bind fun r23 =>
        if isSc1 r23.r = true then
        (sBinB .neq r12.r r23.r).bind fun r24 =>
        guardX r24 false
        ((T 38 [(.agg [(weak (SVal.cell s9.k0 0)), (weak (SVal.cell s9.k0 1)), (weak (SVal.cell s9.k0 2)), (weak (SVal.cell s9.k0 3)), (weak (SVal.cell s9.k0 4))]), s9.k3]).bind fun r25 =>
         guardX r25.r true
         ((sNot r12.r).bind fun r26 =>
          (asB r26).bind fun b27 =>
          some [b27])
         (some [false])
         (none))
        (some [true])
        (none)
        else none).bind fun vs28 =>
       pickC (.bool (vs28.getD 0 false))
       (some { r := (.bool false) })
       ((sBin .add s9.k3 (.int .i64 1)).bind fun r29 =>
        next9 ⟨[(.rp [(SVal.cell s9.k0 0), (SVal.cell s9.k0 1), (SVal.cell s9.k0 2), (SVal.cell s9.k0 3), (SVal.cell s9.k0 4)]), (weak s9.k1), r13, r29], [], false⟩)))
     ((guardX r12.r true
       ((sIdx true 7 (SVal.cell s9.k0 0) s9.k3).bind fun e30 =>
        (sBin .neq (SVal.cell e30 0) (.int .i64 1)).bind fun r31 =>
        guardX r31 false
        ((T 48 [(.agg [(weak (SVal.cell s9.k0 0)), (weak (SVal.cell s9.k0 1)), (weak (SVal.cell s9.k0 2)), (weak (SVal.cell s9.k0 3)), (weak (SVal.cell s9.k0 4))]), s9.k3]).bind fun r32 =>
         (sNot r32.r).bind fun r33 =>
         guardX r33 false
         ((T 49 [(.agg [(weak (SVal.cell s9.k0 0)), (weak (SVal.cell s9.k0 1)), (weak (SVal.cell s9.k0 2)), (weak (SVal.cell s9.k0 3)), (weak (SVal.cell s9.k0 4))]), s9.k3]).bind fun r34 =>
          guardX r34.r false
          ((T 39 [(weak (SVal.cell s9.k0 0)), s9.k3]).bind fun r35 =>
           guardX r35.r false
           ((T 40 [(weak (SVal.cell s9.k0 0)), s9.k3]).bind fun r36 =>
            (asB r36.r).bind fun b37 =>
            some [b37])
           (some [true])
           (none))
          (some [true])
          (none))
         (some [true])
         (none))
        (some [true])
        (none))
       (some [false])
       (none)).bind fun vs38 =>
      pickC (.bool (vs38.getD 0 false))
      (some { r := (.bool false) })
      (((T 30 [(weak s9.k1), s9.k3]).bind fun r39 =>
        if isSc1 r39.r = true then
        (sBinB .neq r12.r r39.r).bind fun r40 =>
        guardX r40 false
        ((T 38 [(.agg [(weak (SVal.cell s9.k0 0)), (weak (SVal.cell s9.k0 1)), (weak (SVal.cell s9.k0 2)), (weak (SVal.cell s9.k0 3)), (weak (SVal.cell s9.k0 4))]), s9.k3]).bind fun r41 =>
         guardX r41.r true
         ((sNot r12.r).bind fun r42 =>
          (asB r42).bind fun b43 =>
          some [b43])
         (some [false])
         (none))
        (some [true])
        (none)
        else none).bind fun vs44 =>
       pickC (.bool (vs44.getD 0 false))
       (some { r := (.bool false) })
       ((sBin .add s9.k3 (.int .i64 1)).bind fun r45 =>
        next9 ⟨[(.rp [(SVal.cell s9.k0 0), (SVal.cell s9.k0 1), (SVal.cell s9.k0 2), (SVal.cell s9.k0 3), (SVal.cell s9.k0 4)]), (weak s9.k1), s9.k2, r45], [], false⟩))))
    (((sLen s9.k1).bind fun r46 =>
      (sBin .eql r46 s9.k2).bind fun r47 =>
      guardX r47 true
      ((T 34 []).bind fun r48 =>
       (asB r48.r).bind fun b49 =>
       some [b49])
      (some [false])
      (none)).bind fun vs50 =>
     some { r := (.bool (vs50.getD 0 false)) })) k ⟨[(.rp [x0a, x0b, x0c, x0d, x0e]), (weak r8.r), (.int .i64 0), (.int .i64 0)], [], false⟩)
theorem r10 (T : Nat → List SVal → Option Res) (k : Nat) (x0a : SVal) (x0b : SVal) (x0c : SVal) (x0d : SVal) (x0e : SVal) : bodyE P H T k 10 [(.agg [x0a, x0b, x0c, x0d, x0e])] = R10 T k x0a x0b x0c x0d x0e := by kernel_rfl
noncomputable def D10 (T : Nat → List SVal → Option Res) (k : Nat) : List SVal → Option Res
  | [(.agg [x0a, x0b, x0c, x0d, x0e])] => R10 T k x0a x0b x0c x0d x0e
  | a => bodyE P H T k 10 a
theorem d10 (T : Nat → List SVal → Option Res) (k : Nat) (a : List SVal) : D10 T k a = bodyE P H T k 10 a := by
  unfold D10
  split
  · exact (r10 ..).symm
  · rfl
theorem t10 (k : Nat) (x0a : SVal) (x0b : SVal) (x0c : SVal) (x0d : SVal) (x0e : SVal) : T (k + 1) 10 [(.agg [x0a, x0b, x0c, x0d, x0e])] = R10 (T k) k x0a x0b x0c x0d x0e := (by kernel_rfl : T (k + 1) 10 [(.agg [x0a, x0b, x0c, x0d, x0e])] = bodyE P H (T k) k 10 [(.agg [x0a, x0b, x0c, x0d, x0e])]).trans (r10 ..)
/-- limelight/limelightlaw13.AreaIndex -/
def R11 (T : Nat → List SVal → Option Res) (k : Nat) (x0 : SVal) (x1 : SVal) : Option Res :=
  ((T 50 [(weak x0)]).bind fun r1 =>
   (sNot r1.r).bind fun r2 =>
   guardX r2 false
   ((T 36 [(weak x0), x1, x1]).bind fun r3 =>
    (sNot r3.r).bind fun r4 =>
    (asB r4).bind fun b5 =>
    some [b5])
   (some [true])
   (none)).bind fun vs6 =>
  pickC (.bool (vs6.getD 0 false))
  ((T 34 []).bind fun r7 =>
   some { r := r7.r })
  ((T 35 [(weak x0), x1]).bind fun r8 =>
   loopN (fun s9 next9 =>
    (sIdx true 7 s9.k0 s9.k1).bind fun e10 =>
    (sLen (SVal.cell e10 6)).bind fun r11 =>
    (sBin .lss s9.k4 r11).bind fun r12 =>
    pickC r12
    ((sIdx true 7 s9.k0 s9.k1).bind fun e13 =>
     (sIdx true 2 (SVal.cell e13 6) s9.k4).bind fun e14 =>
     (sBin .eql (SVal.cell e14 0) (.int .i64 0)).bind fun r15 =>
     pickC r15
     ((guardX s9.k3 true
       ((sIdx true 7 s9.k0 s9.k1).bind fun e16 =>
        (sIdx true 2 (SVal.cell e16 6) s9.k4).bind fun e17 =>
        (sBin .eql s9.k2 (SVal.cell e17 1)).bind fun r18 =>
        guardX r18 true
        ((T 34 []).bind fun r19 =>
         (asB r19.r).bind fun b20 =>
         some [b20])
        (some [false])
        (none))
       (some [false])
       (none)).bind fun vs21 =>
      some { r := (.bool (vs21.getD 0 false)) })
     ((sBin .add s9.k4 (.int .i64 1)).bind fun r22 =>
      next9 ⟨[(weak s9.k0), s9.k1, s9.k2, s9.k3, r22], [], false⟩))
    (((sIdx true 7 s9.k0 s9.k1).bind fun e23 =>
      (sBin .eql (SVal.cell e23 0) (.int .i64 1)).bind fun r24 =>
      guardX r24 true
      ((sIdx true 7 s9.k0 s9.k1).bind fun e25 =>
       (sBin .eql (SVal.cell e25 1) (.int .i64 1)).bind fun r26 =>
       guardX r26 false
       ((sIdx true 7 s9.k0 s9.k1).bind fun e27 =>
        (sBin .eql (SVal.cell e27 1) (.int .i64 4)).bind fun r28 =>
        (asB r28).bind fun b29 =>
        some [b29])
       (some [true])
       (none))
      (some [false])
      (none)).bind fun vs30 =>
     ((sBinB .eql s9.k3 (.bool (vs30.getD 0 false))).bind fun r31 =>
      guardX r31 true
      ((sBin .eql s9.k2 (.int .i64 0)).bind fun r32 =>
       guardX r32 true
       ((T 34 []).bind fun r33 =>
        (asB r33.r).bind fun b34 =>
        some [b34])
       (some [false])
       (none))
      (some [false])
      (none)).bind fun vs35 =>
     some { r := (.bool (vs35.getD 0 false)) })) k ⟨[(weak x0), x1, r8.r.c0, r8.r.c1, (.int .i64 0)], [], false⟩)
theorem r11 (T : Nat → List SVal → Option Res) (k : Nat) (x0 : SVal) (x1 : SVal) : bodyE P H T k 11 [x0, x1] = R11 T k x0 x1 := by kernel_rfl
noncomputable def D11 (T : Nat → List SVal → Option Res) (k : Nat) : List SVal → Option Res
  | [x0, x1] => R11 T k x0 x1
  | a => bodyE P H T k 11 a
theorem d11 (T : Nat → List SVal → Option Res) (k : Nat) (a : List SVal) : D11 T k a = bodyE P H T k 11 a := by
  unfold D11
  split
  · exact (r11 ..).symm
  · rfl
theorem t11 (k : Nat) (x0 : SVal) (x1 : SVal) : T (k + 1) 11 [x0, x1] = R11 (T k) k x0 x1 := (by kernel_rfl : T (k + 1) 11 [x0, x1] = bodyE P H (T k) k 11 [x0, x1]).trans (r11 ..)
/-- limelight/limelightlaw13.AreaShown -/
def R12 (T : Nat → List SVal → Option Res) (k : Nat) (x0a : SVal) (x0b : SVal) (x0c : SVal) (x0d : SVal) (x0e : SVal) (x1 : SVal) : Option Res :=
  ((T 14 [(.agg [(weak x0a), (weak x0b), (weak x0c), (weak x0d), (weak x0e)])]).bind fun r1 =>
   (sNot r1.r).bind fun r2 =>
   guardX r2 false
   ((T 16 [(.agg [(weak x0a), (weak x0b), (weak x0c), (weak x0d), (weak x0e)])]).bind fun r3 =>
    (sBin .neq r3.r (.int .i64 0)).bind fun r4 =>
    guardX r4 false
    ((T 17 [(weak x0a), x1]).bind fun r5 =>
     (sNot r5.r).bind fun r6 =>
     (asB r6).bind fun b7 =>
     some [b7])
    (some [true])
    (none))
   (some [true])
   (none)).bind fun vs8 =>
  pickC (.bool (vs8.getD 0 false))
  ((T 34 []).bind fun r9 =>
   some { r := r9.r })
  ((T 51 [(.agg [(weak x0a), (weak x0b), (weak x0c), (weak x0d), (weak x0e)]), x1, (.bool false)]).bind fun r10 =>
   if (allOne [.v r10.r.c0.c0, .v r10.r.c0.c1, .v r10.r.c0.c2, .v r10.r.c0.c3, .v r10.r.c0.c4]) = true then
   (sBin .neq r10.r.c1 (.int .i64 0)).bind fun r11 =>
   pickC r11
   ((T 34 []).bind fun r12 =>
    some { r := r12.r })
   (loopN (fun s13 next13 =>
     (sLen (SVal.cell s13.k1 0)).bind fun r14 =>
     (sBin .lss s13.k3 r14).bind fun r15 =>
     pickC r15
     ((T 32 [(weak (SVal.cell s13.k1 0)), s13.k0, s13.k3]).bind fun r16 =>
      pickC r16.r
      (((T 37 [(.agg [(weak (SVal.cell s13.k1 0)), (weak (SVal.cell s13.k1 1)), (weak (SVal.cell s13.k1 2)), (weak (SVal.cell s13.k1 3)), (weak (SVal.cell s13.k1 4))]), s13.k3]).bind fun r17 =>
        guardX r17.r true
        ((T 29 [(weak (SVal.cell s13.k1 3))]).bind fun r18 =>
         (T 30 [(weak r18.r), s13.k0]).bind fun r19 =>
         if isSc1 r19.r = true then
         (sNot r19.r).bind fun r20 =>
         (asB r20).bind fun b21 =>
         some [b21]
         else none)
        (some [false])
        (none)).bind fun vs22 =>
       pickC (.bool (vs22.getD 0 false))
       (some { r := (.bool false) })
       ((sBin .add s13.k3 (.int .i64 1)).bind fun r23 =>
        next13 ⟨[s13.k0, (.rp [(SVal.cell s13.k1 0), (SVal.cell s13.k1 1), (SVal.cell s13.k1 2), (SVal.cell s13.k1 3), (SVal.cell s13.k1 4)]), (.rp [(SVal.cell s13.k2 0), (SVal.cell s13.k2 1), (SVal.cell s13.k2 2), (SVal.cell s13.k2 3), (SVal.cell s13.k2 4)]), r23], [], false⟩))
      ((T 37 [(.agg [(weak (SVal.cell s13.k1 0)), (weak (SVal.cell s13.k1 1)), (weak (SVal.cell s13.k1 2)), (weak (SVal.cell s13.k1 3)), (weak (SVal.cell s13.k1 4))]), s13.k3]).bind fun r24 =>
       (T 37 [(.agg [(weak (SVal.cell s13.k2 0)), (weak (SVal.cell s13.k2 1)), (weak (SVal.cell s13.k2 2)), (weak (SVal.cell s13.k2 3)), (weak (SVal.cell s13.k2 4))]), s13.k3]).bind fun r25 =>
       (sBinB .neq r24.r r25.r).bind fun r26 =>
       pickC r26
       (some { r := (.bool false) })
       ((sBin .add s13.k3 (.int .i64 1)).bind fun r27 =>
        next13 ⟨[s13.k0, (.rp [(SVal.cell s13.k1 0), (SVal.cell s13.k1 1), (SVal.cell s13.k1 2), (SVal.cell s13.k1 3), (SVal.cell s13.k1 4)]), (.rp [(SVal.cell s13.k2 0), (SVal.cell s13.k2 1), (SVal.cell s13.k2 2), (SVal.cell s13.k2 3), (SVal.cell s13.k2 4)]), r27], [], false⟩)))
     ((T 34 []).bind fun r28 =>
      some { r := r28.r })) k ⟨[x1, (.rp [x0a, x0b, x0c, x0d, x0e]), (.rp [r10.r.c0.c0, r10.r.c0.c1, r10.r.c0.c2, r10.r.c0.c3, r10.r.c0.c4]), (.int .i64 0)], [], false⟩)
   else none)
theorem r12 (T : Nat → List SVal → Option Res) (k : Nat) (x0a : SVal) (x0b : SVal) (x0c : SVal) (x0d : SVal) (x0e : SVal) (x1 : SVal) : bodyE P H T k 12 [(.agg [x0a, x0b, x0c, x0d, x0e]), x1] = R12 T k x0a x0b x0c x0d x0e x1 := by kernel_rfl
noncomputable def D12 (T : Nat → List SVal → Option Res) (k : Nat) : List SVal → Option Res
  | [(.agg [x0a, x0b, x0c, x0d, x0e]), x1] => R12 T k x0a x0b x0c x0d x0e x1
  | a => bodyE P H T k 12 a
theorem d12 (T : Nat → List SVal → Option Res) (k : Nat) (a : List SVal) : D12 T k a = bodyE P H T k 12 a := by
  unfold D12
  split
  · exact (r12 ..).symm
  · rfl
theorem t12 (k : Nat) (x0a : SVal) (x0b : SVal) (x0c : SVal) (x0d : SVal) (x0e : SVal) (x1 : SVal) : T (k + 1) 12 [(.agg [x0a, x0b, x0c, x0d, x0e]), x1] = R12 (T k) k x0a x0b x0c x0d x0e x1 := (by kernel_rfl : T (k + 1) 12 [(.agg [x0a, x0b, x0c, x0d, x0e]), x1] = bodyE P H (T k) k 12 [(.agg [x0a, x0b, x0c, x0d, x0e]), x1]).trans (r12 ..)
/-- limelight/limelightlaw13.AreaAlone -/
def R13 (T : Nat → List SVal → Option Res) (k : Nat) (x0 : SVal) (x1 : SVal) : Option Res :=
  if (2 ≤ 7 ∧ (oneS x0) = true) then
  if (7 ≤ 7 ∧ (oneS x1) = true) then
  if (List.all [[.v (.int .i64 0), .v (.int .i64 0), .v (.int .i64 (-1)), .la 32 0, .v (.int .i64 (-1)), .v (.int .i64 (-1)), .v (.sl 2 false true [])], [.v (.int .i64 1), .v x0, .v (.int .i64 0), .v (.sl 1 false true []), .v (.int .i64 (-1)), .v (.int .i64 (-1)), .v x1]] allOne) = true then
  ((sLen x1).bind fun r1 =>
   (sBin .gtr r1 (.int .i64 20)).bind fun r2 =>
   guardX r2 false
   ((T 52 [(.sl 7 false false [(.agg [(.int .i64 0), (.int .i64 0), (.int .i64 (-1)), (.sl 1 false false [(.int .i64 1)]), (.int .i64 (-1)), (.int .i64 (-1)), (.sl 2 false false [])]), (.agg [(.int .i64 1), (weak x0), (.int .i64 0), (.sl 1 false false []), (.int .i64 (-1)), (.int .i64 (-1)), (weak x1)])])]).bind fun r3 =>
    (sNot r3.r).bind fun r4 =>
    (asB r4).bind fun b5 =>
    some [b5])
   (some [true])
   (none)).bind fun vs6 =>
  pickC (.bool (vs6.getD 0 false))
  ((T 34 []).bind fun r7 =>
   some { r := r7.r })
  (((sBin .eql x0 (.int .i64 1)).bind fun r8 =>
    guardX r8 false
    ((sBin .eql x0 (.int .i64 4)).bind fun r9 =>
     (asB r9).bind fun b10 =>
     some [b10])
    (some [true])
    (none)).bind fun vs11 =>
   (sBin .eql x0 (.int .i64 2)).bind fun r12 =>
   loopN (fun s13 next13 =>
    (sLen s13.k1).bind fun r14 =>
    (sBin .lss s13.k6 r14).bind fun r15 =>
    pickC r15
    ((sIdx true 2 s13.k1 s13.k6).bind fun e16 =>
     (sBin .eql (SVal.cell e16 0) (.int .i64 0)).bind fun r17 =>
     pickC r17
     ((sIdx true 2 s13.k1 s13.k6).bind fun e18 =>
      (sBin .add s13.k6 (.int .i64 1)).bind fun r19 =>
      next13 ⟨[s13.k0, (weak s13.k1), (.sl 7 true false s13.k2.xs), (.bool true), (SVal.cell e18 1), s13.k5, r19], [], false⟩)
     ((sBin .eql (SVal.cell e16 0) (.int .i64 1)).bind fun r20 =>
      pickC r20
      ((guardX s13.k5 false
        ((sBin .eql s13.k0 (.int .i64 1)).bind fun r21 =>
         (asB r21).bind fun b22 =>
         some [b22])
        (some [true])
        (none)).bind fun vs23 =>
       (sBin .add s13.k6 (.int .i64 1)).bind fun r24 =>
       next13 ⟨[s13.k0, (weak s13.k1), (.sl 7 true false s13.k2.xs), s13.k3, s13.k4, (.bool (vs23.getD 0 false)), r24], [], false⟩)
      ((sBin .eql (SVal.cell e16 0) (.int .i64 2)).bind fun r25 =>
       pickC r25
       ((sBin .add s13.k6 (.int .i64 1)).bind fun r26 =>
        next13 ⟨[s13.k0, (weak s13.k1), (.sl 7 true false s13.k2.xs), s13.k3, s13.k4, (.bool true), r26], [], false⟩)
       ((sBin .eql (SVal.cell e16 0) (.int .i64 3)).bind fun r27 =>
        pickC r27
        ((sBin .add s13.k6 (.int .i64 1)).bind fun r28 =>
         next13 ⟨[s13.k0, (weak s13.k1), (.sl 7 true false s13.k2.xs), s13.k3, s13.k4, (.bool true), r28], [], false⟩)
        ((sBin .eql (SVal.cell e16 0) (.int .i64 6)).bind fun r29 =>
         pickC r29
         ((sBin .add s13.k6 (.int .i64 1)).bind fun r30 =>
          next13 ⟨[s13.k0, (weak s13.k1), (.sl 7 true false s13.k2.xs), s13.k3, s13.k4, (.bool true), r30], [], false⟩)
         ((sBin .add s13.k6 (.int .i64 1)).bind fun r31 =>
          next13 ⟨[s13.k0, (weak s13.k1), (.sl 7 true false s13.k2.xs), s13.k3, s13.k4, s13.k5, r31], [], false⟩))))))
    ((guardX s13.k3 true
      ((sNot s13.k5).bind fun r32 =>
       (asB r32).bind fun b33 =>
       some [b33])
      (some [false])
      (none)).bind fun vs34 =>
     ((T 37 [(.agg [(.sl 7 false false s13.k2.xs), (.sl 1 false false []), (.sl 1 false false []), (.sl 2 false false []), (.sl 1 false false [])]), (.int .i64 1)]).bind fun r35 =>
      (sBinB .eql r35.r (.bool (vs34.getD 0 false))).bind fun r36 =>
      guardX r36 true
      ((T 38 [(.agg [(.sl 7 false false s13.k2.xs), (.sl 1 false false []), (.sl 1 false false []), (.sl 2 false false []), (.sl 1 false false [])]), (.int .i64 1)]).bind fun r37 =>
       if (vs34.getD 0 false) = true then
       (sBin .geq s13.k4 (.int .i64 0)).bind fun r38 =>
       (sBinB .eql r37.r r38).bind fun r39 =>
       guardX r39 true
       ((T 37 [(.agg [(.sl 7 false false s13.k2.xs), (.sl 1 false false []), (.sl 1 false false []), (.sl 2 false false []), (.sl 1 false false [])]), (.int .i64 0)]).bind fun r40 =>
        (sNot r40.r).bind fun r41 =>
        guardX r41 true
        ((T 34 []).bind fun r42 =>
         (asB r42.r).bind fun b43 =>
         some [b43])
        (some [false])
        (none))
       (some [false])
       (none)
       else
       (sBinB .eql r37.r (.bool false)).bind fun r44 =>
       guardX r44 true
       ((T 37 [(.agg [(.sl 7 false false s13.k2.xs), (.sl 1 false false []), (.sl 1 false false []), (.sl 2 false false []), (.sl 1 false false [])]), (.int .i64 0)]).bind fun r45 =>
        (sNot r45.r).bind fun r46 =>
        guardX r46 true
        ((T 34 []).bind fun r47 =>
         (asB r47.r).bind fun b48 =>
         some [b48])
        (some [false])
        (none))
       (some [false])
       (none))
      (some [false])
      (none)).bind fun vs49 =>
     some { r := (.bool (vs49.getD 0 false)) })) k ⟨[x0, (weak x1), (.sl 7 true false [(.agg [(.int .i64 0), (.int .i64 0), (.int .i64 (-1)), (.sl 1 false false [(.int .i64 1)]), (.int .i64 (-1)), (.int .i64 (-1)), (.sl 2 false false [])]), (.agg [(.int .i64 1), (weak x0), (.int .i64 0), (.sl 1 false false []), (.int .i64 (-1)), (.int .i64 (-1)), (weak x1)])]), (.bool (vs11.getD 0 false)), (.int .i64 0), r12, (.int .i64 0)], [], false⟩)
  else none
  else none
  else none
theorem r13 (T : Nat → List SVal → Option Res) (k : Nat) (x0 : SVal) (x1 : SVal) : bodyE P H T k 13 [x0, x1] = R13 T k x0 x1 := by kernel_rfl
noncomputable def D13 (T : Nat → List SVal → Option Res) (k : Nat) : List SVal → Option Res
  | [x0, x1] => R13 T k x0 x1
  | a => bodyE P H T k 13 a
theorem d13 (T : Nat → List SVal → Option Res) (k : Nat) (a : List SVal) : D13 T k a = bodyE P H T k 13 a := by
  unfold D13
  split
  · exact (r13 ..).symm
  · rfl
theorem t13 (k : Nat) (x0 : SVal) (x1 : SVal) : T (k + 1) 13 [x0, x1] = R13 (T k) k x0 x1 := (by kernel_rfl : T (k + 1) 13 [x0, x1] = bodyE P H (T k) k 13 [x0, x1]).trans (r13 ..)
/-- limelight/limelightref10.Small -/
def R14 (T : Nat → List SVal → Option Res) (k : Nat) (x0a : SVal) (x0b : SVal) (x0c : SVal) (x0d : SVal) (x0e : SVal) : Option Res :=
  ((T 53 [(weak x0a)]).bind fun r1 =>
   guardX r1.r true
   ((sLen x0a).bind fun r2 =>
    (sBin .leq r2 (.int .i64 16)).bind fun r3 =>
    guardX r3 true
    ((sLen x0b).bind fun r4 =>
     (sBin .leq r4 (.int .i64 40)).bind fun r5 =>
     guardX r5 true
     ((sLen x0c).bind fun r6 =>
      (sBin .leq r6 (.int .i64 40)).bind fun r7 =>
      guardX r7 true
      ((sLen x0d).bind fun r8 =>
       (sBin .leq r8 (.int .i64 40)).bind fun r9 =>
       guardX r9 true
       ((sLen x0e).bind fun r10 =>
        (sBin .leq r10 (.int .i64 80)).bind fun r11 =>
        (asB r11).bind fun b12 =>
        some [b12])
       (some [false])
       (none))
      (some [false])
      (none))
     (some [false])
     (none))
    (some [false])
    (none))
   (some [false])
   (none)).bind fun vs13 =>
  some { r := (.bool (vs13.getD 0 false)) }
theorem r14 (T : Nat → List SVal → Option Res) (k : Nat) (x0a : SVal) (x0b : SVal) (x0c : SVal) (x0d : SVal) (x0e : SVal) : bodyE P H T k 14 [(.agg [x0a, x0b, x0c, x0d, x0e])] = R14 T k x0a x0b x0c x0d x0e := by kernel_rfl
noncomputable def D14 (T : Nat → List SVal → Option Res) (k : Nat) : List SVal → Option Res
  | [(.agg [x0a, x0b, x0c, x0d, x0e])] => R14 T k x0a x0b x0c x0d x0e
  | a => bodyE P H T k 14 a
theorem d14 (T : Nat → List SVal → Option Res) (k : Nat) (a : List SVal) : D14 T k a = bodyE P H T k 14 a := by
  unfold D14
  split
  · exact (r14 ..).symm
  · rfl
theorem t14 (k : Nat) (x0a : SVal) (x0b : SVal) (x0c : SVal) (x0d : SVal) (x0e : SVal) : T (k + 1) 14 [(.agg [x0a, x0b, x0c, x0d, x0e])] = R14 (T k) k x0a x0b x0c x0d x0e := (by kernel_rfl : T (k + 1) 14 [(.agg [x0a, x0b, x0c, x0d, x0e])] = bodyE P H (T k) k 14 [(.agg [x0a, x0b, x0c, x0d, x0e])]).trans (r14 ..)
end Go.Proofs.YtcehbmffbmhpfaaGreat.K
