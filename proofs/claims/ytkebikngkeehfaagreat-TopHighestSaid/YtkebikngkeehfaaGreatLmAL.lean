/- What the evaluator makes of the functions, by program (wip/tr/resid.py); each equation is checked by the kernel. -/
import Derived.Test.YtkebikngkeehfaaGreatLmAJ
import Derived.Test.YtkebikngkeehfaaGreatLmAB
import Derived.KernelRfl
set_option linter.unusedVariables false
set_option linter.unusedSimpArgs false
set_option linter.unnecessarySimpa false
set_option linter.all false
set_option maxRecDepth 100000
namespace Go.Proofs.YtkebikngkeehfaaGreat.K
open Go Go.Lm
/-- limelight/limelightref10.Fix -/
def R14 (T : Nat → List SVal → Option Res) (k : Nat) (x0a : SVal) (x0b : SVal) (x0c : SVal) (x0d : SVal) (x0e : SVal) : Option Res :=
  (T 29 [(weak x0a)]).bind fun r1 =>
  (sNot r1.r).bind fun r2 =>
  pickC r2
  (some { r := (.tup [(.agg [(.sl 7 false false []), (.sl 1 false false []), (.sl 1 false false []), (.sl 2 false false []), (.sl 1 false false [])]), (.sl 1 false false []), (.int .i64 1)]) })
  (if (1 ≤ 5 ∧ (oneS x0a) = true) then
   if (allOne [.v x0a, .v (.sl 1 false true []), .v (.sl 1 false true []), .v (.sl 2 false true []), .v (.sl 1 false true [])]) = true then
   loopN (fun s3 next3 =>
    (sLen (SVal.cell s3.k0 1)).bind fun r4 =>
    (sBin .lss s3.k4 r4).bind fun r5 =>
    pickC r5
    ((sIdx false 1 (SVal.cell s3.k0 1) s3.k4).bind fun e6 =>
     (T 49 [(weak (SVal.cell s3.k0 0)), e6]).bind fun r7 =>
     pickC r7.r
     ((sIdx false 1 (SVal.cell s3.k0 1) s3.k4).bind fun e8 =>
      if (List.all [[.v e8]] allOne) = true then
      if (s3.k2.c1.xs.length + ([e8] : List SVal).length) * 8 ≤ maxAppend then
      (sBin .add s3.k4 (.int .i64 1)).bind fun r9 =>
      next3 ⟨[(.rp [(SVal.cell s3.k0 0), (SVal.cell s3.k0 1), (SVal.cell s3.k0 2), (SVal.cell s3.k0 3), (SVal.cell s3.k0 4)]), (.mb [(weak s3.k1.c0), (.sl 1 true false s3.k1.c1.xs), (.sl 1 true false s3.k1.c2.xs), (.sl 2 true false s3.k1.c3.xs), (.sl 1 true false s3.k1.c4.xs)]), (.mb [(weak s3.k2.c0), (.sl 1 true false (s3.k2.c1.xs ++ [e8])), (.sl 1 true false s3.k2.c2.xs), (.sl 2 true false s3.k2.c3.xs), (.sl 1 true false s3.k2.c4.xs)]), (.sl 1 true false s3.k3.xs), r9], [], false⟩
      else none
      else none)
     ((sIdx false 1 (SVal.cell s3.k0 1) s3.k4).bind fun e10 =>
      if (List.all [[.v e10]] allOne) = true then
      if (s3.k3.xs.length + ([e10] : List SVal).length) * 8 ≤ maxAppend then
      (sBin .add s3.k4 (.int .i64 1)).bind fun r11 =>
      next3 ⟨[(.rp [(SVal.cell s3.k0 0), (SVal.cell s3.k0 1), (SVal.cell s3.k0 2), (SVal.cell s3.k0 3), (SVal.cell s3.k0 4)]), (.mb [(weak s3.k1.c0), (.sl 1 true false s3.k1.c1.xs), (.sl 1 true false s3.k1.c2.xs), (.sl 2 true false s3.k1.c3.xs), (.sl 1 true false s3.k1.c4.xs)]), (.mb [(weak s3.k2.c0), (.sl 1 true false s3.k2.c1.xs), (.sl 1 true false s3.k2.c2.xs), (.sl 2 true false s3.k2.c3.xs), (.sl 1 true false s3.k2.c4.xs)]), (.sl 1 true false (s3.k3.xs ++ [e10])), r11], [], false⟩
      else none
      else none))
    (loopN (fun s12 next12 =>
      (sLen (SVal.cell s12.k0 2)).bind fun r13 =>
      (sBin .lss s12.k4 r13).bind fun r14 =>
      pickC r14
      ((sIdx false 1 (SVal.cell s12.k0 2) s12.k4).bind fun e15 =>
       (T 49 [(weak (SVal.cell s12.k0 0)), e15]).bind fun r16 =>
       pickC r16.r
       ((sIdx false 1 (SVal.cell s12.k0 2) s12.k4).bind fun e17 =>
        if (List.all [[.v e17]] allOne) = true then
        if (s12.k2.c2.xs.length + ([e17] : List SVal).length) * 8 ≤ maxAppend then
        (sBin .add s12.k4 (.int .i64 1)).bind fun r18 =>
        next12 ⟨[(.rp [(SVal.cell s12.k0 0), (SVal.cell s12.k0 1), (SVal.cell s12.k0 2), (SVal.cell s12.k0 3), (SVal.cell s12.k0 4)]), (.mb [(weak s12.k1.c0), (.sl 1 true false s12.k1.c1.xs), (.sl 1 true false s12.k1.c2.xs), (.sl 2 true false s12.k1.c3.xs), (.sl 1 true false s12.k1.c4.xs)]), (.mb [(weak s12.k2.c0), (.sl 1 true false s12.k2.c1.xs), (.sl 1 true false (s12.k2.c2.xs ++ [e17])), (.sl 2 true false s12.k2.c3.xs), (.sl 1 true false s12.k2.c4.xs)]), (.sl 1 true false s12.k3.xs), r18], [], false⟩
        else none
        else none)
       ((sIdx false 1 (SVal.cell s12.k0 2) s12.k4).bind fun e19 =>
        if (List.all [[.v e19]] allOne) = true then
        if (s12.k3.xs.length + ([e19] : List SVal).length) * 8 ≤ maxAppend then
        (sBin .add s12.k4 (.int .i64 1)).bind fun r20 =>
        next12 ⟨[(.rp [(SVal.cell s12.k0 0), (SVal.cell s12.k0 1), (SVal.cell s12.k0 2), (SVal.cell s12.k0 3), (SVal.cell s12.k0 4)]), (.mb [(weak s12.k1.c0), (.sl 1 true false s12.k1.c1.xs), (.sl 1 true false s12.k1.c2.xs), (.sl 2 true false s12.k1.c3.xs), (.sl 1 true false s12.k1.c4.xs)]), (.mb [(weak s12.k2.c0), (.sl 1 true false s12.k2.c1.xs), (.sl 1 true false s12.k2.c2.xs), (.sl 2 true false s12.k2.c3.xs), (.sl 1 true false s12.k2.c4.xs)]), (.sl 1 true false (s12.k3.xs ++ [e19])), r20], [], false⟩
        else none
        else none))
      (loopN (fun s21 next21 =>
        (sLen (SVal.cell s21.k0 3)).bind fun r22 =>
        (sBin .lss s21.k4 r22).bind fun r23 =>
        pickC r23
        ((sIdx true 2 (SVal.cell s21.k0 3) s21.k4).bind fun e24 =>
         if (allOne [.v (SVal.cell e24 0), .v (SVal.cell e24 1)]) = true then
         (T 50 [(weak (SVal.cell s21.k0 0)), (SVal.cell e24 0)]).bind fun r25 =>
         (sNot r25.r).bind fun r26 =>
         pickC r26
         (if (List.all [[.v (SVal.cell e24 0)]] allOne) = true then
          if (s21.k3.xs.length + ([(SVal.cell e24 0)] : List SVal).length) * 8 ≤ maxAppend then
          (sBin .add s21.k4 (.int .i64 1)).bind fun r27 =>
          next21 ⟨[(.rp [(SVal.cell s21.k0 0), (SVal.cell s21.k0 1), (SVal.cell s21.k0 2), (SVal.cell s21.k0 3), (SVal.cell s21.k0 4)]), (.mb [(weak s21.k1.c0), (.sl 1 true false s21.k1.c1.xs), (.sl 1 true false s21.k1.c2.xs), (.sl 2 true false s21.k1.c3.xs), (.sl 1 true false s21.k1.c4.xs)]), (.mb [(weak s21.k2.c0), (.sl 1 true false s21.k2.c1.xs), (.sl 1 true false s21.k2.c2.xs), (.sl 2 true false s21.k2.c3.xs), (.sl 1 true false s21.k2.c4.xs)]), (.sl 1 true false (s21.k3.xs ++ [(SVal.cell e24 0)])), r27], [], false⟩
          else none
          else none)
         ((T 51 [(weak (SVal.cell s21.k0 0)), (SVal.cell e24 1)]).bind fun r28 =>
          (sNot r28.r).bind fun r29 =>
          pickC r29
          (if (List.all [[.v (SVal.cell e24 0), .v (.int .i64 (-1))]] allOne) = true then
           if (s21.k2.c3.xs.length + ([(.agg [(SVal.cell e24 0), (.int .i64 (-1))])] : List SVal).length) * 16 ≤ maxAppend then
           (sBin .add s21.k4 (.int .i64 1)).bind fun r30 =>
           next21 ⟨[(.rp [(SVal.cell s21.k0 0), (SVal.cell s21.k0 1), (SVal.cell s21.k0 2), (SVal.cell s21.k0 3), (SVal.cell s21.k0 4)]), (.mb [(weak s21.k1.c0), (.sl 1 true false s21.k1.c1.xs), (.sl 1 true false s21.k1.c2.xs), (.sl 2 true false s21.k1.c3.xs), (.sl 1 true false s21.k1.c4.xs)]), (.mb [(weak s21.k2.c0), (.sl 1 true false s21.k2.c1.xs), (.sl 1 true false s21.k2.c2.xs), (.sl 2 true false (s21.k2.c3.xs ++ [(.agg [(SVal.cell e24 0), (.int .i64 (-1))])])), (.sl 1 true false s21.k2.c4.xs)]), (.sl 1 true false s21.k3.xs), r30], [], false⟩
           else none
           else none)
          (if (List.all [[.v (SVal.cell e24 0), .v (SVal.cell e24 1)]] allOne) = true then
           if (s21.k2.c3.xs.length + ([(.agg [(SVal.cell e24 0), (SVal.cell e24 1)])] : List SVal).length) * 16 ≤ maxAppend then
           (sBin .add s21.k4 (.int .i64 1)).bind fun r31 =>
           next21 ⟨[(.rp [(SVal.cell s21.k0 0), (SVal.cell s21.k0 1), (SVal.cell s21.k0 2), (SVal.cell s21.k0 3), (SVal.cell s21.k0 4)]), (.mb [(weak s21.k1.c0), (.sl 1 true false s21.k1.c1.xs), (.sl 1 true false s21.k1.c2.xs), (.sl 2 true false s21.k1.c3.xs), (.sl 1 true false s21.k1.c4.xs)]), (.mb [(weak s21.k2.c0), (.sl 1 true false s21.k2.c1.xs), (.sl 1 true false s21.k2.c2.xs), (.sl 2 true false (s21.k2.c3.xs ++ [(.agg [(SVal.cell e24 0), (SVal.cell e24 1)])])), (.sl 1 true false s21.k2.c4.xs)]), (.sl 1 true false s21.k3.xs), r31], [], false⟩
           else none
           else none))
         else none)
        (loopN (fun s32 next32 =>
          (sLen (SVal.cell s32.k0 4)).bind fun r33 =>
          (sBin .lss s32.k4 r33).bind fun r34 =>
          pickC r34
          (((sIdx false 1 (SVal.cell s32.k0 4) s32.k4).bind fun e35 =>
            (T 28 [(.sl 1 false false s32.k2.c2.xs), e35]).bind fun r36 =>
            guardX r36.r false
            ((T 30 [(.sl 2 false false s32.k2.c3.xs)]).bind fun r37 =>
             (sIdx false 1 (SVal.cell s32.k0 4) s32.k4).bind fun e38 =>
             (T 28 [(weak r37.r), e38]).bind fun r39 =>
             (asB r39.r).bind fun b40 =>
             some [b40])
            (some [true])
            (none)).bind fun vs41 =>
           pickC (.bool (vs41.getD 0 false))
           ((sIdx false 1 (SVal.cell s32.k0 4) s32.k4).bind fun e42 =>
            if (List.all [[.v e42]] allOne) = true then
            if (s32.k2.c4.xs.length + ([e42] : List SVal).length) * 8 ≤ maxAppend then
            (sBin .add s32.k4 (.int .i64 1)).bind fun r43 =>
            next32 ⟨[(.rp [(SVal.cell s32.k0 0), (SVal.cell s32.k0 1), (SVal.cell s32.k0 2), (SVal.cell s32.k0 3), (SVal.cell s32.k0 4)]), (.mb [(weak s32.k1.c0), (.sl 1 true false s32.k1.c1.xs), (.sl 1 true false s32.k1.c2.xs), (.sl 2 true false s32.k1.c3.xs), (.sl 1 true false s32.k1.c4.xs)]), (.mb [(weak s32.k2.c0), (.sl 1 true false s32.k2.c1.xs), (.sl 1 true false s32.k2.c2.xs), (.sl 2 true false s32.k2.c3.xs), (.sl 1 true false (s32.k2.c4.xs ++ [e42]))]), (.sl 1 true false s32.k3.xs), r43], [], false⟩
            else none
            else none)
           ((sBin .add s32.k4 (.int .i64 1)).bind fun r44 =>
            next32 ⟨[(.rp [(SVal.cell s32.k0 0), (SVal.cell s32.k0 1), (SVal.cell s32.k0 2), (SVal.cell s32.k0 3), (SVal.cell s32.k0 4)]), (.mb [(weak s32.k1.c0), (.sl 1 true false s32.k1.c1.xs), (.sl 1 true false s32.k1.c2.xs), (.sl 2 true false s32.k1.c3.xs), (.sl 1 true false s32.k1.c4.xs)]), (.mb [(weak s32.k2.c0), (.sl 1 true false s32.k2.c1.xs), (.sl 1 true false s32.k2.c2.xs), (.sl 2 true false s32.k2.c3.xs), (.sl 1 true false s32.k2.c4.xs)]), (.sl 1 true false s32.k3.xs), r44], [], false⟩))
          (if (allOne [.v s32.k2.c0, .la 5 0, .la 6 0, .la 7 0, .la 8 0]) = true then
           some { r := (.tup [(.agg [(weak s32.k2.c0), (.sl 1 false false s32.k2.c1.xs), (.sl 1 false false s32.k2.c2.xs), (.sl 2 false false s32.k2.c3.xs), (.sl 1 false false s32.k2.c4.xs)]), (.sl 1 false false s32.k3.xs), (.int .i64 0)]) }
           else none)) k ⟨[(.rp [(SVal.cell s21.k0 0), (SVal.cell s21.k0 1), (SVal.cell s21.k0 2), (SVal.cell s21.k0 3), (SVal.cell s21.k0 4)]), (.mb [(weak s21.k1.c0), (.sl 1 true false s21.k1.c1.xs), (.sl 1 true false s21.k1.c2.xs), (.sl 2 true false s21.k1.c3.xs), (.sl 1 true false s21.k1.c4.xs)]), (.mb [(weak s21.k2.c0), (.sl 1 true false s21.k2.c1.xs), (.sl 1 true false s21.k2.c2.xs), (.sl 2 true false s21.k2.c3.xs), (.sl 1 true false s21.k2.c4.xs)]), (.sl 1 true false s21.k3.xs), (.int .i64 0)], [], false⟩)) k ⟨[(.rp [(SVal.cell s12.k0 0), (SVal.cell s12.k0 1), (SVal.cell s12.k0 2), (SVal.cell s12.k0 3), (SVal.cell s12.k0 4)]), (.mb [(weak s12.k1.c0), (.sl 1 true false s12.k1.c1.xs), (.sl 1 true false s12.k1.c2.xs), (.sl 2 true false s12.k1.c3.xs), (.sl 1 true false s12.k1.c4.xs)]), (.mb [(weak s12.k2.c0), (.sl 1 true false s12.k2.c1.xs), (.sl 1 true false s12.k2.c2.xs), (.sl 2 true false s12.k2.c3.xs), (.sl 1 true false s12.k2.c4.xs)]), (.sl 1 true false s12.k3.xs), (.int .i64 0)], [], false⟩)) k ⟨[(.rp [(SVal.cell s3.k0 0), (SVal.cell s3.k0 1), (SVal.cell s3.k0 2), (SVal.cell s3.k0 3), (SVal.cell s3.k0 4)]), (.mb [(weak s3.k1.c0), (.sl 1 true false s3.k1.c1.xs), (.sl 1 true false s3.k1.c2.xs), (.sl 2 true false s3.k1.c3.xs), (.sl 1 true false s3.k1.c4.xs)]), (.mb [(weak s3.k2.c0), (.sl 1 true false s3.k2.c1.xs), (.sl 1 true false s3.k2.c2.xs), (.sl 2 true false s3.k2.c3.xs), (.sl 1 true false s3.k2.c4.xs)]), (.sl 1 true false s3.k3.xs), (.int .i64 0)], [], false⟩)) k ⟨[(.rp [x0a, x0b, x0c, x0d, x0e]), (.mb [(.sl 7 false false []), (.sl 1 true false []), (.sl 1 true false []), (.sl 2 true false []), (.sl 1 true false [])]), (.mb [(weak x0a), (.sl 1 true false []), (.sl 1 true false []), (.sl 2 true false []), (.sl 1 true false [])]), (.sl 1 true false []), (.int .i64 0)], [], false⟩
   else none
   else none)
theorem r14 (T : Nat → List SVal → Option Res) (k : Nat) (x0a : SVal) (x0b : SVal) (x0c : SVal) (x0d : SVal) (x0e : SVal) : bodyE P H T k 14 [(.agg [x0a, x0b, x0c, x0d, x0e])] = R14 T k x0a x0b x0c x0d x0e := by kernel_rfl
noncomputable def D14 (T : Nat → List SVal → Option Res) (k : Nat) : List SVal → Option Res
  | [(.agg [x0a, x0b, x0c, x0d, x0e])] => R14 T k x0a x0b x0c x0d x0e
  | a => bodyE P H T k 14 a
theorem d14 (T : Nat → List SVal → Option Res) (k : Nat) (a : List SVal) : D14 T k a = bodyE P H T k 14 a := by
  unfold D14
  split
  · exact (r14 ..).symm
  · rfl
theorem t14 (k : Nat) (x0a : SVal) (x0b : SVal) (x0c : SVal) (x0d : SVal) (x0e : SVal) : T (k + 1) 14 [(.agg [x0a, x0b, x0c, x0d, x0e])] = R14 (T k) k x0a x0b x0c x0d x0e := (by kernel_rfl : T (k + 1) 14 [(.agg [x0a, x0b, x0c, x0d, x0e])] = bodyE P H (T k) k 14 [(.agg [x0a, x0b, x0c, x0d, x0e])]).trans (r14 ..)
/-- limelight/top.Check -/
def R15 (T : Nat → List SVal → Option Res) (k : Nat) (x0a : SVal) (x0b : SVal) (x0c : SVal) (x0d : SVal) (x0e : SVal) : Option Res :=
  (T 34 [(weak x0a)]).bind fun r1 =>
  (sBin .neq r1.r (.int .i64 0)).bind fun r2 =>
  pickC r2
  (some { r := (.int .i64 1) })
  ((T 52 [(.agg [(weak x0a), (weak x0b), (weak x0c), (weak x0d), (weak x0e)])]).bind fun r3 =>
   (sNot r3.r).bind fun r4 =>
   pickC r4
   (some { r := (.int .i64 9) })
   (some { r := (.int .i64 0) }))
theorem r15 (T : Nat → List SVal → Option Res) (k : Nat) (x0a : SVal) (x0b : SVal) (x0c : SVal) (x0d : SVal) (x0e : SVal) : bodyE P H T k 15 [(.agg [x0a, x0b, x0c, x0d, x0e])] = R15 T k x0a x0b x0c x0d x0e := by kernel_rfl
noncomputable def D15 (T : Nat → List SVal → Option Res) (k : Nat) : List SVal → Option Res
  | [(.agg [x0a, x0b, x0c, x0d, x0e])] => R15 T k x0a x0b x0c x0d x0e
  | a => bodyE P H T k 15 a
theorem d15 (T : Nat → List SVal → Option Res) (k : Nat) (a : List SVal) : D15 T k a = bodyE P H T k 15 a := by
  unfold D15
  split
  · exact (r15 ..).symm
  · rfl
theorem t15 (k : Nat) (x0a : SVal) (x0b : SVal) (x0c : SVal) (x0d : SVal) (x0e : SVal) : T (k + 1) 15 [(.agg [x0a, x0b, x0c, x0d, x0e])] = R15 (T k) k x0a x0b x0c x0d x0e := (by kernel_rfl : T (k + 1) 15 [(.agg [x0a, x0b, x0c, x0d, x0e])] = bodyE P H (T k) k 15 [(.agg [x0a, x0b, x0c, x0d, x0e])]).trans (r15 ..)
/-- limelight/top.Highest -/
def R16 (T : Nat → List SVal → Option Res) (k : Nat) (x0a : SVal) (x0b : SVal) (x0c : SVal) (x0d : SVal) (x0e : SVal) : Option Res :=
  (T 15 [(.agg [(weak x0a), (weak x0b), (weak x0c), (weak x0d), (weak x0e)])]).bind fun r1 =>
  (sBin .eql r1.r (.int .i64 0)).bind fun r2 =>
  pickC r2
  ((T 53 [(weak x0e)]).bind fun r3 =>
   (callIt T r3.r).bind fun ys4 =>
   rangeN (fun s5 y5 next5 =>
    (tup2 y5).bind fun z6 =>
    (T 45 [(weak (SVal.cell s5.k0 2)), z6.2]).bind fun r7 =>
    pickC r7.r
    (if (oneS z6.2) = true then
     some { r := z6.2 }
     else none)
    (next5 ⟨[(.rp [(SVal.cell s5.k0 0), (SVal.cell s5.k0 1), (SVal.cell s5.k0 2), (SVal.cell s5.k0 3), (SVal.cell s5.k0 4)]), (.mb [s5.k1.c0])], [], false⟩)) (fun s8 =>
    some { r := (.int .i64 (-1)) }) ys4 ⟨[(.rp [x0a, x0b, x0c, x0d, x0e]), (.mb [(.int .i64 0)])], [], false⟩)
  (some { r := (.int .i64 (-1)) })
theorem r16 (T : Nat → List SVal → Option Res) (k : Nat) (x0a : SVal) (x0b : SVal) (x0c : SVal) (x0d : SVal) (x0e : SVal) : bodyE P H T k 16 [(.agg [x0a, x0b, x0c, x0d, x0e])] = R16 T k x0a x0b x0c x0d x0e := by kernel_rfl
noncomputable def D16 (T : Nat → List SVal → Option Res) (k : Nat) : List SVal → Option Res
  | [(.agg [x0a, x0b, x0c, x0d, x0e])] => R16 T k x0a x0b x0c x0d x0e
  | a => bodyE P H T k 16 a
theorem d16 (T : Nat → List SVal → Option Res) (k : Nat) (a : List SVal) : D16 T k a = bodyE P H T k 16 a := by
  unfold D16
  split
  · exact (r16 ..).symm
  · rfl
theorem t16 (k : Nat) (x0a : SVal) (x0b : SVal) (x0c : SVal) (x0d : SVal) (x0e : SVal) : T (k + 1) 16 [(.agg [x0a, x0b, x0c, x0d, x0e])] = R16 (T k) k x0a x0b x0c x0d x0e := (by kernel_rfl : T (k + 1) 16 [(.agg [x0a, x0b, x0c, x0d, x0e])] = bodyE P H (T k) k 16 [(.agg [x0a, x0b, x0c, x0d, x0e])]).trans (r16 ..)
/-- limelight/limelightref10.Same -/
def R17 (T : Nat → List SVal → Option Res) (k : Nat) (x0a : SVal) (x0b : SVal) (x0c : SVal) (x0d : SVal) (x0e : SVal) (x1a : SVal) (x1b : SVal) (x1c : SVal) (x1d : SVal) (x1e : SVal) : Option Res :=
  (sLen x0d).bind fun r1 =>
  (sLen x1d).bind fun r2 =>
  (sBin .neq r1 r2).bind fun r3 =>
  pickC r3
  (some { r := (.bool false) })
  (loopN (fun s4 next4 =>
    (sLen (SVal.cell s4.k0 3)).bind fun r5 =>
    (sBin .lss s4.k2 r5).bind fun r6 =>
    pickC r6
    ((sIdx true 2 (SVal.cell s4.k0 3) s4.k2).bind fun e7 =>
     (sIdx true 2 (SVal.cell s4.k1 3) s4.k2).bind fun e8 =>
     (sEqA 2 true [(SVal.cell e7 0), (SVal.cell e7 1)] [(SVal.cell e8 0), (SVal.cell e8 1)]).bind fun r9 =>
     pickC r9
     (some { r := (.bool false) })
     ((sBin .add s4.k2 (.int .i64 1)).bind fun r10 =>
      next4 ⟨[(.rp [(SVal.cell s4.k0 0), (SVal.cell s4.k0 1), (SVal.cell s4.k0 2), (SVal.cell s4.k0 3), (SVal.cell s4.k0 4)]), (.rp [(SVal.cell s4.k1 0), (SVal.cell s4.k1 1), (SVal.cell s4.k1 2), (SVal.cell s4.k1 3), (SVal.cell s4.k1 4)]), r10], [], false⟩))
    (((T 54 [(weak (SVal.cell s4.k0 0)), (weak (SVal.cell s4.k1 0))]).bind fun r11 =>
      guardX r11.r true
      ((T 19 [(weak (SVal.cell s4.k0 1)), (weak (SVal.cell s4.k1 1))]).bind fun r12 =>
       guardX r12.r true
       ((T 19 [(weak (SVal.cell s4.k0 2)), (weak (SVal.cell s4.k1 2))]).bind fun r13 =>
        guardX r13.r true
        ((T 19 [(weak (SVal.cell s4.k0 4)), (weak (SVal.cell s4.k1 4))]).bind fun r14 =>
         (asB r14.r).bind fun b15 =>
         some [b15])
        (some [false])
        (none))
       (some [false])
       (none))
      (some [false])
      (none)).bind fun vs16 =>
     some { r := (.bool (vs16.getD 0 false)) })) k ⟨[(.rp [x0a, x0b, x0c, x0d, x0e]), (.rp [x1a, x1b, x1c, x1d, x1e]), (.int .i64 0)], [], false⟩)
theorem r17 (T : Nat → List SVal → Option Res) (k : Nat) (x0a : SVal) (x0b : SVal) (x0c : SVal) (x0d : SVal) (x0e : SVal) (x1a : SVal) (x1b : SVal) (x1c : SVal) (x1d : SVal) (x1e : SVal) : bodyE P H T k 17 [(.agg [x0a, x0b, x0c, x0d, x0e]), (.agg [x1a, x1b, x1c, x1d, x1e])] = R17 T k x0a x0b x0c x0d x0e x1a x1b x1c x1d x1e := by kernel_rfl
noncomputable def D17 (T : Nat → List SVal → Option Res) (k : Nat) : List SVal → Option Res
  | [(.agg [x0a, x0b, x0c, x0d, x0e]), (.agg [x1a, x1b, x1c, x1d, x1e])] => R17 T k x0a x0b x0c x0d x0e x1a x1b x1c x1d x1e
  | a => bodyE P H T k 17 a
theorem d17 (T : Nat → List SVal → Option Res) (k : Nat) (a : List SVal) : D17 T k a = bodyE P H T k 17 a := by
  unfold D17
  split
  · exact (r17 ..).symm
  · rfl
theorem t17 (k : Nat) (x0a : SVal) (x0b : SVal) (x0c : SVal) (x0d : SVal) (x0e : SVal) (x1a : SVal) (x1b : SVal) (x1c : SVal) (x1d : SVal) (x1e : SVal) : T (k + 1) 17 [(.agg [x0a, x0b, x0c, x0d, x0e]), (.agg [x1a, x1b, x1c, x1d, x1e])] = R17 (T k) k x0a x0b x0c x0d x0e x1a x1b x1c x1d x1e := (by kernel_rfl : T (k + 1) 17 [(.agg [x0a, x0b, x0c, x0d, x0e]), (.agg [x1a, x1b, x1c, x1d, x1e])] = bodyE P H (T k) k 17 [(.agg [x0a, x0b, x0c, x0d, x0e]), (.agg [x1a, x1b, x1c, x1d, x1e])]).trans (r17 ..)
/-- limelight/top.Copy -/
def R18 (T : Nat → List SVal → Option Res) (k : Nat) (x0a : SVal) (x0b : SVal) (x0c : SVal) (x0d : SVal) (x0e : SVal) : Option Res :=
  (T 35 [(weak x0a)]).bind fun r1 =>
  (T 55 [(weak x0b)]).bind fun r2 =>
  (T 55 [(weak x0c)]).bind fun r3 =>
  (T 56 [(weak x0d)]).bind fun r4 =>
  (T 55 [(weak x0e)]).bind fun r5 =>
  if (1 ≤ 5 ∧ (oneS r1.r) = true) then
  if (allOne [.v r1.r, .la 224 0, .la 320 0, .la 416 0, .la 512 0]) = true then
  some { r := (.agg [(weak r1.r), (.sl 1 true false r2.r.xs), (.sl 1 true false r3.r.xs), (.sl 2 true false r4.r.xs), (.sl 1 true false r5.r.xs)]) }
  else none
  else none
theorem r18 (T : Nat → List SVal → Option Res) (k : Nat) (x0a : SVal) (x0b : SVal) (x0c : SVal) (x0d : SVal) (x0e : SVal) : bodyE P H T k 18 [(.agg [x0a, x0b, x0c, x0d, x0e])] = R18 T k x0a x0b x0c x0d x0e := by kernel_rfl
noncomputable def D18 (T : Nat → List SVal → Option Res) (k : Nat) : List SVal → Option Res
  | [(.agg [x0a, x0b, x0c, x0d, x0e])] => R18 T k x0a x0b x0c x0d x0e
  | a => bodyE P H T k 18 a
theorem d18 (T : Nat → List SVal → Option Res) (k : Nat) (a : List SVal) : D18 T k a = bodyE P H T k 18 a := by
  unfold D18
  split
  · exact (r18 ..).symm
  · rfl
theorem t18 (k : Nat) (x0a : SVal) (x0b : SVal) (x0c : SVal) (x0d : SVal) (x0e : SVal) : T (k + 1) 18 [(.agg [x0a, x0b, x0c, x0d, x0e])] = R18 (T k) k x0a x0b x0c x0d x0e := (by kernel_rfl : T (k + 1) 18 [(.agg [x0a, x0b, x0c, x0d, x0e])] = bodyE P H (T k) k 18 [(.agg [x0a, x0b, x0c, x0d, x0e])]).trans (r18 ..)
/-- limelight/limelightref01.Ints -/
def R19 (T : Nat → List SVal → Option Res) (k : Nat) (x0 : SVal) (x1 : SVal) : Option Res :=
  (sLen x0).bind fun r1 =>
  (sLen x1).bind fun r2 =>
  (sBin .neq r1 r2).bind fun r3 =>
  pickC r3
  (some { r := (.bool false) })
  (loopN (fun s4 next4 =>
    (sLen s4.k0).bind fun r5 =>
    (sBin .lss s4.k2 r5).bind fun r6 =>
    pickC r6
    ((sIdx false 1 s4.k0 s4.k2).bind fun e7 =>
     (sIdx false 1 s4.k1 s4.k2).bind fun e8 =>
     (sBin .neq e7 e8).bind fun r9 =>
     pickC r9
     (some { r := (.bool false) })
     ((sBin .add s4.k2 (.int .i64 1)).bind fun r10 =>
      next4 ⟨[(weak s4.k0), (weak s4.k1), r10], [], false⟩))
    (some { r := (.bool true) })) k ⟨[(weak x0), (weak x1), (.int .i64 0)], [], false⟩)
theorem r19 (T : Nat → List SVal → Option Res) (k : Nat) (x0 : SVal) (x1 : SVal) : bodyE P H T k 19 [x0, x1] = R19 T k x0 x1 := by kernel_rfl
noncomputable def D19 (T : Nat → List SVal → Option Res) (k : Nat) : List SVal → Option Res
  | [x0, x1] => R19 T k x0 x1
  | a => bodyE P H T k 19 a
theorem d19 (T : Nat → List SVal → Option Res) (k : Nat) (a : List SVal) : D19 T k a = bodyE P H T k 19 a := by
  unfold D19
  split
  · exact (r19 ..).symm
  · rfl
theorem t19 (k : Nat) (x0 : SVal) (x1 : SVal) : T (k + 1) 19 [x0, x1] = R19 (T k) k x0 x1 := (by kernel_rfl : T (k + 1) 19 [x0, x1] = bodyE P H (T k) k 19 [x0, x1]).trans (r19 ..)
/-- limelight/top.Dialog -/
def R20 (T : Nat → List SVal → Option Res) (k : Nat) (x0a : SVal) (x0b : SVal) (x0c : SVal) (x0d : SVal) (x0e : SVal) (x1 : SVal) (x2 : SVal) : Option Res :=
  (T 15 [(.agg [(weak x0a), (weak x0b), (weak x0c), (weak x0d), (weak x0e)])]).bind fun r1 =>
  (sBin .neq r1.r (.int .i64 0)).bind fun r2 =>
  pickC r2
  (some { r := (.tup [(.agg [(.sl 7 false false []), (.sl 1 false false []), (.sl 1 false false []), (.sl 2 false false []), (.sl 1 false false [])]), r1.r]) })
  ((T 57 [(.agg [(weak x0a), (weak x0b), (weak x0c), (weak x0d), (weak x0e)]), x1, (.fn 37 [])]).bind fun r3 =>
   (sBin .neq r3.r (.int .i64 0)).bind fun r4 =>
   pickC r4
   (if (allOne [.v x0a, .v x0b, .v x0c, .v x0d, .v x0e]) = true then
    some { r := (.tup [(.agg [(weak x0a), (weak x0b), (weak x0c), (weak x0d), (weak x0e)]), r3.r]) }
    else none)
   ((T 18 [(.agg [(weak x0a), (weak x0b), (weak x0c), (weak x0d), (weak x0e)])]).bind fun r5 =>
    if (allOne [.v r5.r.c0, .la 480 0, .la 481 0, .la 482 0, .la 483 0]) = true then
    pickC x2
    (if (List.all [[.v x1]] allOne) = true then
     if (r5.r.c2.xs.length + ([x1] : List SVal).length) * 8 ≤ maxAppend then
     if (List.all [[.v x1]] allOne) = true then
     if (r5.r.c4.xs.length + ([x1] : List SVal).length) * 8 ≤ maxAppend then
     if (allOne [.v r5.r.c0, .la 480 0, .la 481 1, .la 482 0, .la 483 1]) = true then
     some { r := (.tup [(.agg [(weak r5.r.c0), (.sl 1 false false r5.r.c1.xs), (.sl 1 false false (r5.r.c2.xs ++ [x1])), (.sl 2 false false r5.r.c3.xs), (.sl 1 false false (r5.r.c4.xs ++ [x1]))]), (.int .i64 0)]) }
     else none
     else none
     else none
     else none
     else none)
    (if (List.all [[.v x1]] allOne) = true then
     if (r5.r.c1.xs.length + ([x1] : List SVal).length) * 8 ≤ maxAppend then
     if (allOne [.v r5.r.c0, .la 480 1, .la 481 0, .la 482 0, .la 483 0]) = true then
     some { r := (.tup [(.agg [(weak r5.r.c0), (.sl 1 false false (r5.r.c1.xs ++ [x1])), (.sl 1 false false r5.r.c2.xs), (.sl 2 false false r5.r.c3.xs), (.sl 1 false false r5.r.c4.xs)]), (.int .i64 0)]) }
     else none
     else none
     else none)
    else none))
theorem r20 (T : Nat → List SVal → Option Res) (k : Nat) (x0a : SVal) (x0b : SVal) (x0c : SVal) (x0d : SVal) (x0e : SVal) (x1 : SVal) (x2 : SVal) : bodyE P H T k 20 [(.agg [x0a, x0b, x0c, x0d, x0e]), x1, x2] = R20 T k x0a x0b x0c x0d x0e x1 x2 := by kernel_rfl
noncomputable def D20 (T : Nat → List SVal → Option Res) (k : Nat) : List SVal → Option Res
  | [(.agg [x0a, x0b, x0c, x0d, x0e]), x1, x2] => R20 T k x0a x0b x0c x0d x0e x1 x2
  | a => bodyE P H T k 20 a
theorem d20 (T : Nat → List SVal → Option Res) (k : Nat) (a : List SVal) : D20 T k a = bodyE P H T k 20 a := by
  unfold D20
  split
  · exact (r20 ..).symm
  · rfl
theorem t20 (k : Nat) (x0a : SVal) (x0b : SVal) (x0c : SVal) (x0d : SVal) (x0e : SVal) (x1 : SVal) (x2 : SVal) : T (k + 1) 20 [(.agg [x0a, x0b, x0c, x0d, x0e]), x1, x2] = R20 (T k) k x0a x0b x0c x0d x0e x1 x2 := (by kernel_rfl : T (k + 1) 20 [(.agg [x0a, x0b, x0c, x0d, x0e]), x1, x2] = bodyE P H (T k) k 20 [(.agg [x0a, x0b, x0c, x0d, x0e]), x1, x2]).trans (r20 ..)
/-- limelight/limelightref10.Dialog -/
def R21 (T : Nat → List SVal → Option Res) (k : Nat) (x0a : SVal) (x0b : SVal) (x0c : SVal) (x0d : SVal) (x0e : SVal) (x1 : SVal) (x2 : SVal) : Option Res :=
  (T 11 [(.agg [(weak x0a), (weak x0b), (weak x0c), (weak x0d), (weak x0e)])]).bind fun r1 =>
  (sBin .neq r1.r (.int .i64 0)).bind fun r2 =>
  pickC r2
  (some { r := (.tup [(.agg [(.sl 7 false false []), (.sl 1 false false []), (.sl 1 false false []), (.sl 2 false false []), (.sl 1 false false [])]), r1.r]) })
  ((T 51 [(weak x0a), x1]).bind fun r3 =>
   (sNot r3.r).bind fun r4 =>
   pickC r4
   (if (allOne [.v x0a, .v x0b, .v x0c, .v x0d, .v x0e]) = true then
    some { r := (.tup [(.agg [(weak x0a), (weak x0b), (weak x0c), (weak x0d), (weak x0e)]), (.int .i64 2)]) }
    else none)
   ((T 49 [(weak x0a), x1]).bind fun r5 =>
    (sNot r5.r).bind fun r6 =>
    pickC r6
    (if (allOne [.v x0a, .v x0b, .v x0c, .v x0d, .v x0e]) = true then
     some { r := (.tup [(.agg [(weak x0a), (weak x0b), (weak x0c), (weak x0d), (weak x0e)]), (.int .i64 3)]) }
     else none)
    ((T 27 [(.agg [(weak x0a), (weak x0b), (weak x0c), (weak x0d), (weak x0e)]), x1]).bind fun r7 =>
     pickC r7.r
     (if (allOne [.v x0a, .v x0b, .v x0c, .v x0d, .v x0e]) = true then
      some { r := (.tup [(.agg [(weak x0a), (weak x0b), (weak x0c), (weak x0d), (weak x0e)]), (.int .i64 9)]) }
      else none)
     ((T 58 [(.agg [(weak x0a), (weak x0b), (weak x0c), (weak x0d), (weak x0e)])]).bind fun r8 =>
      if (allOne [.v r8.r.c0, .la 704 0, .la 705 0, .la 706 0, .la 707 0]) = true then
      pickC x2
      (if (List.all [[.v x1]] allOne) = true then
       if (r8.r.c2.xs.length + ([x1] : List SVal).length) * 8 ≤ maxAppend then
       if (List.all [[.v x1]] allOne) = true then
       if (r8.r.c4.xs.length + ([x1] : List SVal).length) * 8 ≤ maxAppend then
       if (allOne [.v r8.r.c0, .la 704 0, .la 705 1, .la 706 0, .la 707 1]) = true then
       some { r := (.tup [(.agg [(weak r8.r.c0), (.sl 1 false false r8.r.c1.xs), (.sl 1 false false (r8.r.c2.xs ++ [x1])), (.sl 2 false false r8.r.c3.xs), (.sl 1 false false (r8.r.c4.xs ++ [x1]))]), (.int .i64 0)]) }
       else none
       else none
       else none
       else none
       else none)
      (if (List.all [[.v x1]] allOne) = true then
       if (r8.r.c1.xs.length + ([x1] : List SVal).length) * 8 ≤ maxAppend then
       if (allOne [.v r8.r.c0, .la 704 1, .la 705 0, .la 706 0, .la 707 0]) = true then
       some { r := (.tup [(.agg [(weak r8.r.c0), (.sl 1 false false (r8.r.c1.xs ++ [x1])), (.sl 1 false false r8.r.c2.xs), (.sl 2 false false r8.r.c3.xs), (.sl 1 false false r8.r.c4.xs)]), (.int .i64 0)]) }
       else none
       else none
       else none)
      else none))))
theorem r21 (T : Nat → List SVal → Option Res) (k : Nat) (x0a : SVal) (x0b : SVal) (x0c : SVal) (x0d : SVal) (x0e : SVal) (x1 : SVal) (x2 : SVal) : bodyE P H T k 21 [(.agg [x0a, x0b, x0c, x0d, x0e]), x1, x2] = R21 T k x0a x0b x0c x0d x0e x1 x2 := by kernel_rfl
noncomputable def D21 (T : Nat → List SVal → Option Res) (k : Nat) : List SVal → Option Res
  | [(.agg [x0a, x0b, x0c, x0d, x0e]), x1, x2] => R21 T k x0a x0b x0c x0d x0e x1 x2
  | a => bodyE P H T k 21 a
theorem d21 (T : Nat → List SVal → Option Res) (k : Nat) (a : List SVal) : D21 T k a = bodyE P H T k 21 a := by
  unfold D21
  split
  · exact (r21 ..).symm
  · rfl
theorem t21 (k : Nat) (x0a : SVal) (x0b : SVal) (x0c : SVal) (x0d : SVal) (x0e : SVal) (x1 : SVal) (x2 : SVal) : T (k + 1) 21 [(.agg [x0a, x0b, x0c, x0d, x0e]), x1, x2] = R21 (T k) k x0a x0b x0c x0d x0e x1 x2 := (by kernel_rfl : T (k + 1) 21 [(.agg [x0a, x0b, x0c, x0d, x0e]), x1, x2] = bodyE P H (T k) k 21 [(.agg [x0a, x0b, x0c, x0d, x0e]), x1, x2]).trans (r21 ..)
/-- limelight/top.Popup -/
def R22 (T : Nat → List SVal → Option Res) (k : Nat) (x0a : SVal) (x0b : SVal) (x0c : SVal) (x0d : SVal) (x0e : SVal) (x1a : SVal) (x1b : SVal) : Option Res :=
  (T 15 [(.agg [(weak x0a), (weak x0b), (weak x0c), (weak x0d), (weak x0e)])]).bind fun r1 =>
  (sBin .neq r1.r (.int .i64 0)).bind fun r2 =>
  pickC r2
  (some { r := (.tup [(.agg [(.sl 7 false false []), (.sl 1 false false []), (.sl 1 false false []), (.sl 2 false false []), (.sl 1 false false [])]), r1.r]) })
  (((sBin .neq x1b (.int .i64 (-1))).bind fun r3 =>
    guardX r3 true
    ((T 42 [(weak x0a), x1b]).bind fun r4 =>
     (sNot r4.r).bind fun r5 =>
     (asB r5).bind fun b6 =>
     some [b6])
    (some [false])
    (none)).bind fun vs7 =>
   pickC (.bool (vs7.getD 0 false))
   (if (allOne [.v x0a, .v x0b, .v x0c, .v x0d, .v x0e]) = true then
    some { r := (.tup [(.agg [(weak x0a), (weak x0b), (weak x0c), (weak x0d), (weak x0e)]), (.int .i64 2)]) }
    else none)
   ((T 57 [(.agg [(weak x0a), (weak x0b), (weak x0c), (weak x0d), (weak x0e)]), x1a, (.fn 41 [])]).bind fun r8 =>
    (sBin .neq r8.r (.int .i64 0)).bind fun r9 =>
    pickC r9
    (if (allOne [.v x0a, .v x0b, .v x0c, .v x0d, .v x0e]) = true then
     some { r := (.tup [(.agg [(weak x0a), (weak x0b), (weak x0c), (weak x0d), (weak x0e)]), r8.r]) }
     else none)
    ((T 18 [(.agg [(weak x0a), (weak x0b), (weak x0c), (weak x0d), (weak x0e)])]).bind fun r10 =>
     if (allOne [.v r10.r.c0, .la 896 0, .la 897 0, .la 898 0, .la 899 0]) = true then
     if (List.all [[.v x1a, .v x1b]] allOne) = true then
     if (r10.r.c3.xs.length + ([(.agg [x1a, x1b])] : List SVal).length) * 16 ≤ maxAppend then
     if (List.all [[.v x1a]] allOne) = true then
     if (r10.r.c4.xs.length + ([x1a] : List SVal).length) * 8 ≤ maxAppend then
     if (allOne [.v r10.r.c0, .la 896 0, .la 897 0, .la 898 1, .la 899 1]) = true then
     some { r := (.tup [(.agg [(weak r10.r.c0), (.sl 1 false false r10.r.c1.xs), (.sl 1 false false r10.r.c2.xs), (.sl 2 false false (r10.r.c3.xs ++ [(.agg [x1a, x1b])])), (.sl 1 false false (r10.r.c4.xs ++ [x1a]))]), (.int .i64 0)]) }
     else none
     else none
     else none
     else none
     else none
     else none)))
theorem r22 (T : Nat → List SVal → Option Res) (k : Nat) (x0a : SVal) (x0b : SVal) (x0c : SVal) (x0d : SVal) (x0e : SVal) (x1a : SVal) (x1b : SVal) : bodyE P H T k 22 [(.agg [x0a, x0b, x0c, x0d, x0e]), (.agg [x1a, x1b])] = R22 T k x0a x0b x0c x0d x0e x1a x1b := by kernel_rfl
noncomputable def D22 (T : Nat → List SVal → Option Res) (k : Nat) : List SVal → Option Res
  | [(.agg [x0a, x0b, x0c, x0d, x0e]), (.agg [x1a, x1b])] => R22 T k x0a x0b x0c x0d x0e x1a x1b
  | a => bodyE P H T k 22 a
theorem d22 (T : Nat → List SVal → Option Res) (k : Nat) (a : List SVal) : D22 T k a = bodyE P H T k 22 a := by
  unfold D22
  split
  · exact (r22 ..).symm
  · rfl
theorem t22 (k : Nat) (x0a : SVal) (x0b : SVal) (x0c : SVal) (x0d : SVal) (x0e : SVal) (x1a : SVal) (x1b : SVal) : T (k + 1) 22 [(.agg [x0a, x0b, x0c, x0d, x0e]), (.agg [x1a, x1b])] = R22 (T k) k x0a x0b x0c x0d x0e x1a x1b := (by kernel_rfl : T (k + 1) 22 [(.agg [x0a, x0b, x0c, x0d, x0e]), (.agg [x1a, x1b])] = bodyE P H (T k) k 22 [(.agg [x0a, x0b, x0c, x0d, x0e]), (.agg [x1a, x1b])]).trans (r22 ..)
/-- limelight/limelightref10.Popup -/
def R23 (T : Nat → List SVal → Option Res) (k : Nat) (x0a : SVal) (x0b : SVal) (x0c : SVal) (x0d : SVal) (x0e : SVal) (x1a : SVal) (x1b : SVal) : Option Res :=
  (T 11 [(.agg [(weak x0a), (weak x0b), (weak x0c), (weak x0d), (weak x0e)])]).bind fun r1 =>
  (sBin .neq r1.r (.int .i64 0)).bind fun r2 =>
  pickC r2
  (some { r := (.tup [(.agg [(.sl 7 false false []), (.sl 1 false false []), (.sl 1 false false []), (.sl 2 false false []), (.sl 1 false false [])]), r1.r]) })
  (((T 51 [(weak x0a), x1a]).bind fun r3 =>
    (sNot r3.r).bind fun r4 =>
    guardX r4 false
    ((sBin .neq x1b (.int .i64 (-1))).bind fun r5 =>
     guardX r5 true
     ((T 51 [(weak x0a), x1b]).bind fun r6 =>
      (sNot r6.r).bind fun r7 =>
      (asB r7).bind fun b8 =>
      some [b8])
     (some [false])
     (none))
    (some [true])
    (none)).bind fun vs9 =>
   pickC (.bool (vs9.getD 0 false))
   (if (allOne [.v x0a, .v x0b, .v x0c, .v x0d, .v x0e]) = true then
    some { r := (.tup [(.agg [(weak x0a), (weak x0b), (weak x0c), (weak x0d), (weak x0e)]), (.int .i64 2)]) }
    else none)
   ((T 50 [(weak x0a), x1a]).bind fun r10 =>
    (sNot r10.r).bind fun r11 =>
    pickC r11
    (if (allOne [.v x0a, .v x0b, .v x0c, .v x0d, .v x0e]) = true then
     some { r := (.tup [(.agg [(weak x0a), (weak x0b), (weak x0c), (weak x0d), (weak x0e)]), (.int .i64 3)]) }
     else none)
    ((T 27 [(.agg [(weak x0a), (weak x0b), (weak x0c), (weak x0d), (weak x0e)]), x1a]).bind fun r12 =>
     pickC r12.r
     (if (allOne [.v x0a, .v x0b, .v x0c, .v x0d, .v x0e]) = true then
      some { r := (.tup [(.agg [(weak x0a), (weak x0b), (weak x0c), (weak x0d), (weak x0e)]), (.int .i64 9)]) }
      else none)
     ((T 58 [(.agg [(weak x0a), (weak x0b), (weak x0c), (weak x0d), (weak x0e)])]).bind fun r13 =>
      if (allOne [.v r13.r.c0, .la 1248 0, .la 1249 0, .la 1250 0, .la 1251 0]) = true then
      if (List.all [[.v x1a, .v x1b]] allOne) = true then
      if (r13.r.c3.xs.length + ([(.agg [x1a, x1b])] : List SVal).length) * 16 ≤ maxAppend then
      if (List.all [[.v x1a]] allOne) = true then
      if (r13.r.c4.xs.length + ([x1a] : List SVal).length) * 8 ≤ maxAppend then
      if (allOne [.v r13.r.c0, .la 1248 0, .la 1249 0, .la 1250 1, .la 1251 1]) = true then
      some { r := (.tup [(.agg [(weak r13.r.c0), (.sl 1 false false r13.r.c1.xs), (.sl 1 false false r13.r.c2.xs), (.sl 2 false false (r13.r.c3.xs ++ [(.agg [x1a, x1b])])), (.sl 1 false false (r13.r.c4.xs ++ [x1a]))]), (.int .i64 0)]) }
      else none
      else none
      else none
      else none
      else none
      else none))))
theorem r23 (T : Nat → List SVal → Option Res) (k : Nat) (x0a : SVal) (x0b : SVal) (x0c : SVal) (x0d : SVal) (x0e : SVal) (x1a : SVal) (x1b : SVal) : bodyE P H T k 23 [(.agg [x0a, x0b, x0c, x0d, x0e]), (.agg [x1a, x1b])] = R23 T k x0a x0b x0c x0d x0e x1a x1b := by kernel_rfl
noncomputable def D23 (T : Nat → List SVal → Option Res) (k : Nat) : List SVal → Option Res
  | [(.agg [x0a, x0b, x0c, x0d, x0e]), (.agg [x1a, x1b])] => R23 T k x0a x0b x0c x0d x0e x1a x1b
  | a => bodyE P H T k 23 a
theorem d23 (T : Nat → List SVal → Option Res) (k : Nat) (a : List SVal) : D23 T k a = bodyE P H T k 23 a := by
  unfold D23
  split
  · exact (r23 ..).symm
  · rfl
theorem t23 (k : Nat) (x0a : SVal) (x0b : SVal) (x0c : SVal) (x0d : SVal) (x0e : SVal) (x1a : SVal) (x1b : SVal) : T (k + 1) 23 [(.agg [x0a, x0b, x0c, x0d, x0e]), (.agg [x1a, x1b])] = R23 (T k) k x0a x0b x0c x0d x0e x1a x1b := (by kernel_rfl : T (k + 1) 23 [(.agg [x0a, x0b, x0c, x0d, x0e]), (.agg [x1a, x1b])] = bodyE P H (T k) k 23 [(.agg [x0a, x0b, x0c, x0d, x0e]), (.agg [x1a, x1b])]).trans (r23 ..)
/-- limelight/top.Close -/
def R24 (T : Nat → List SVal → Option Res) (k : Nat) (x0a : SVal) (x0b : SVal) (x0c : SVal) (x0d : SVal) (x0e : SVal) (x1 : SVal) : Option Res :=
  if (oneS x1) = true then
  (T 15 [(.agg [(weak x0a), (weak x0b), (weak x0c), (weak x0d), (weak x0e)])]).bind fun r1 =>
  (sBin .neq r1.r (.int .i64 0)).bind fun r2 =>
  pickC r2
  (some { r := (.tup [(.agg [(.sl 7 false false []), (.sl 1 false false []), (.sl 1 false false []), (.sl 2 false false []), (.sl 1 false false [])]), r1.r]) })
  ((T 42 [(weak x0a), x1]).bind fun r3 =>
   (sNot r3.r).bind fun r4 =>
   pickC r4
   (if (allOne [.v x0a, .v x0b, .v x0c, .v x0d, .v x0e]) = true then
    some { r := (.tup [(.agg [(weak x0a), (weak x0b), (weak x0c), (weak x0d), (weak x0e)]), (.int .i64 2)]) }
    else none)
   ((T 59 [(.agg [(weak x0a), (weak x0b), (weak x0c), (weak x0d), (weak x0e)]), x1]).bind fun r5 =>
    (sNot r5.r).bind fun r6 =>
    pickC r6
    (if (allOne [.v x0a, .v x0b, .v x0c, .v x0d, .v x0e]) = true then
     some { r := (.tup [(.agg [(weak x0a), (weak x0b), (weak x0c), (weak x0d), (weak x0e)]), (.int .i64 9)]) }
     else none)
    ((T 18 [(.agg [(weak x0a), (weak x0b), (weak x0c), (weak x0d), (weak x0e)])]).bind fun r7 =>
     if (allOne [.v r7.r.c0, .la 672 0, .la 673 0, .la 674 0, .la 675 0]) = true then
     (T 38 [(.sl 1 false false r7.r.c1.xs), (.fn 60 [(.rp [x1])])]).bind fun r8 =>
     if (oneS r8.r.c0) = true then
     (T 38 [(.sl 1 false false r7.r.c2.xs), (.fn 60 [(.rp [x1])])]).bind fun r9 =>
     if (oneS r9.r.c0) = true then
     (T 38 [(.sl 1 false false r7.r.c4.xs), (.fn 60 [(.rp [x1])])]).bind fun r10 =>
     if (oneS r10.r.c0) = true then
     (T 39 [(.sl 2 false false r7.r.c3.xs), (.fn 61 [(.rp [x1])])]).bind fun r11 =>
     if (allOne [.v r7.r.c0, .v r8.r.c0, .v r9.r.c0, .la 1792 0, .v r10.r.c0]) = true then
     some { r := (.tup [(.agg [(weak r7.r.c0), (weak r8.r.c0), (weak r9.r.c0), (.sl 2 false false r11.r.c0.xs), (weak r10.r.c0)]), (.int .i64 0)]) }
     else none
     else none
     else none
     else none
     else none)))
  else none
theorem r24 (T : Nat → List SVal → Option Res) (k : Nat) (x0a : SVal) (x0b : SVal) (x0c : SVal) (x0d : SVal) (x0e : SVal) (x1 : SVal) : bodyE P H T k 24 [(.agg [x0a, x0b, x0c, x0d, x0e]), x1] = R24 T k x0a x0b x0c x0d x0e x1 := by kernel_rfl
noncomputable def D24 (T : Nat → List SVal → Option Res) (k : Nat) : List SVal → Option Res
  | [(.agg [x0a, x0b, x0c, x0d, x0e]), x1] => R24 T k x0a x0b x0c x0d x0e x1
  | a => bodyE P H T k 24 a
theorem d24 (T : Nat → List SVal → Option Res) (k : Nat) (a : List SVal) : D24 T k a = bodyE P H T k 24 a := by
  unfold D24
  split
  · exact (r24 ..).symm
  · rfl
theorem t24 (k : Nat) (x0a : SVal) (x0b : SVal) (x0c : SVal) (x0d : SVal) (x0e : SVal) (x1 : SVal) : T (k + 1) 24 [(.agg [x0a, x0b, x0c, x0d, x0e]), x1] = R24 (T k) k x0a x0b x0c x0d x0e x1 := (by kernel_rfl : T (k + 1) 24 [(.agg [x0a, x0b, x0c, x0d, x0e]), x1] = bodyE P H (T k) k 24 [(.agg [x0a, x0b, x0c, x0d, x0e]), x1]).trans (r24 ..)
/-- limelight/limelightref10.Close -/
def R25 (T : Nat → List SVal → Option Res) (k : Nat) (x0a : SVal) (x0b : SVal) (x0c : SVal) (x0d : SVal) (x0e : SVal) (x1 : SVal) : Option Res :=
  (T 11 [(.agg [(weak x0a), (weak x0b), (weak x0c), (weak x0d), (weak x0e)])]).bind fun r1 =>
  (sBin .neq r1.r (.int .i64 0)).bind fun r2 =>
  pickC r2
  (some { r := (.tup [(.agg [(.sl 7 false false []), (.sl 1 false false []), (.sl 1 false false []), (.sl 2 false false []), (.sl 1 false false [])]), r1.r]) })
  ((T 51 [(weak x0a), x1]).bind fun r3 =>
   (sNot r3.r).bind fun r4 =>
   pickC r4
   (if (allOne [.v x0a, .v x0b, .v x0c, .v x0d, .v x0e]) = true then
    some { r := (.tup [(.agg [(weak x0a), (weak x0b), (weak x0c), (weak x0d), (weak x0e)]), (.int .i64 2)]) }
    else none)
   ((T 27 [(.agg [(weak x0a), (weak x0b), (weak x0c), (weak x0d), (weak x0e)]), x1]).bind fun r5 =>
    (sNot r5.r).bind fun r6 =>
    pickC r6
    (if (allOne [.v x0a, .v x0b, .v x0c, .v x0d, .v x0e]) = true then
     some { r := (.tup [(.agg [(weak x0a), (weak x0b), (weak x0c), (weak x0d), (weak x0e)]), (.int .i64 9)]) }
     else none)
    ((T 58 [(.agg [(weak x0a), (weak x0b), (weak x0c), (weak x0d), (weak x0e)])]).bind fun r7 =>
     if (allOne [.v r7.r.c0, .la 576 0, .la 577 0, .la 578 0, .la 579 0]) = true then
     (T 62 [(weak x0b), x1]).bind fun r8 =>
     if (oneS r8.r) = true then
     (T 62 [(weak x0c), x1]).bind fun r9 =>
     if (oneS r9.r) = true then
     (T 62 [(weak x0e), x1]).bind fun r10 =>
     if (oneS r10.r) = true then
     loopN (fun s11 next11 =>
      (sLen (SVal.cell s11.k1 3)).bind fun r12 =>
      (sBin .lss s11.k4 r12).bind fun r13 =>
      pickC r13
      ((sIdx true 2 (SVal.cell s11.k1 3) s11.k4).bind fun e14 =>
       (sBin .neq (SVal.cell e14 0) s11.k0).bind fun r15 =>
       pickC r15
       ((sIdx true 2 (SVal.cell s11.k1 3) s11.k4).bind fun e16 =>
        if (List.all [[.v (SVal.cell e16 0), .v (SVal.cell e16 1)]] allOne) = true then
        if (s11.k3.c3.xs.length + ([(.agg [(SVal.cell e16 0), (SVal.cell e16 1)])] : List SVal).length) * 16 ≤ maxAppend then
        (sBin .add s11.k4 (.int .i64 1)).bind fun r17 =>
        next11 ⟨[s11.k0, (.rp [(SVal.cell s11.k1 0), (SVal.cell s11.k1 1), (SVal.cell s11.k1 2), (SVal.cell s11.k1 3), (SVal.cell s11.k1 4)]), (.mb [(weak s11.k2.c0), (weak s11.k2.c1), (weak s11.k2.c2), (weak s11.k2.c3), (weak s11.k2.c4)]), (.mb [(weak s11.k3.c0), (weak s11.k3.c1), (weak s11.k3.c2), (.sl 2 true false (s11.k3.c3.xs ++ [(.agg [(SVal.cell e16 0), (SVal.cell e16 1)])])), (weak s11.k3.c4)]), r17], [], false⟩
        else none
        else none)
       ((sBin .add s11.k4 (.int .i64 1)).bind fun r18 =>
        next11 ⟨[s11.k0, (.rp [(SVal.cell s11.k1 0), (SVal.cell s11.k1 1), (SVal.cell s11.k1 2), (SVal.cell s11.k1 3), (SVal.cell s11.k1 4)]), (.mb [(weak s11.k2.c0), (weak s11.k2.c1), (weak s11.k2.c2), (weak s11.k2.c3), (weak s11.k2.c4)]), (.mb [(weak s11.k3.c0), (weak s11.k3.c1), (weak s11.k3.c2), (.sl 2 true false s11.k3.c3.xs), (weak s11.k3.c4)]), r18], [], false⟩))
      (if (allOne [.v s11.k3.c0, .v s11.k3.c1, .v s11.k3.c2, .la 1 0, .v s11.k3.c4]) = true then
       some { r := (.tup [(.agg [(weak s11.k3.c0), (weak s11.k3.c1), (weak s11.k3.c2), (.sl 2 false false s11.k3.c3.xs), (weak s11.k3.c4)]), (.int .i64 0)]) }
       else none)) k ⟨[x1, (.rp [x0a, x0b, x0c, x0d, x0e]), (.mb [(.sl 7 false false []), (.sl 1 false false []), (.sl 1 false false []), (.sl 2 false false []), (.sl 1 false false [])]), (.mb [(weak r7.r.c0), (weak r8.r), (weak r9.r), (.sl 2 true false []), (weak r10.r)]), (.int .i64 0)], [], false⟩
     else none
     else none
     else none
     else none)))
theorem r25 (T : Nat → List SVal → Option Res) (k : Nat) (x0a : SVal) (x0b : SVal) (x0c : SVal) (x0d : SVal) (x0e : SVal) (x1 : SVal) : bodyE P H T k 25 [(.agg [x0a, x0b, x0c, x0d, x0e]), x1] = R25 T k x0a x0b x0c x0d x0e x1 := by kernel_rfl
noncomputable def D25 (T : Nat → List SVal → Option Res) (k : Nat) : List SVal → Option Res
  | [(.agg [x0a, x0b, x0c, x0d, x0e]), x1] => R25 T k x0a x0b x0c x0d x0e x1
  | a => bodyE P H T k 25 a
theorem d25 (T : Nat → List SVal → Option Res) (k : Nat) (a : List SVal) : D25 T k a = bodyE P H T k 25 a := by
  unfold D25
  split
  · exact (r25 ..).symm
  · rfl
theorem t25 (k : Nat) (x0a : SVal) (x0b : SVal) (x0c : SVal) (x0d : SVal) (x0e : SVal) (x1 : SVal) : T (k + 1) 25 [(.agg [x0a, x0b, x0c, x0d, x0e]), x1] = R25 (T k) k x0a x0b x0c x0d x0e x1 := (by kernel_rfl : T (k + 1) 25 [(.agg [x0a, x0b, x0c, x0d, x0e]), x1] = bodyE P H (T k) k 25 [(.agg [x0a, x0b, x0c, x0d, x0e]), x1]).trans (r25 ..)
/-- limelight/limelightref10.May -/
def R26 (T : Nat → List SVal → Option Res) (k : Nat) (x0a : SVal) (x0b : SVal) (x0c : SVal) (x0d : SVal) (x0e : SVal) : Option Res :=
  (T 63 [(.agg [(weak x0a), (weak x0b), (weak x0c), (weak x0d), (weak x0e)])]).bind fun r1 =>
  loopN (fun s2 next2 =>
   (sLen s2.k1).bind fun r3 =>
   (sBin .lss s2.k2 r3).bind fun r4 =>
   pickC r4
   ((sLen (SVal.cell s2.k0 1)).bind fun r5 =>
    (sLen (SVal.cell s2.k0 2)).bind fun r6 =>
    (sBin .add r5 r6).bind fun r7 =>
    (sBin .lss s2.k2 r7).bind fun r8 =>
    pickC r8
    ((sIdx false 1 s2.k1 s2.k2).bind fun e9 =>
     (T 49 [(weak (SVal.cell s2.k0 0)), e9]).bind fun r10 =>
     (sNot r10.r).bind fun r11 =>
     pickC r11
     (some { r := (.bool false) })
     ((sBin .add s2.k2 (.int .i64 1)).bind fun r12 =>
      next2 ⟨[(.rp [(SVal.cell s2.k0 0), (SVal.cell s2.k0 1), (SVal.cell s2.k0 2), (SVal.cell s2.k0 3), (SVal.cell s2.k0 4)]), (weak s2.k1), r12], [], false⟩))
    ((sIdx false 1 s2.k1 s2.k2).bind fun e13 =>
     (T 50 [(weak (SVal.cell s2.k0 0)), e13]).bind fun r14 =>
     (sNot r14.r).bind fun r15 =>
     pickC r15
     (some { r := (.bool false) })
     ((sBin .add s2.k2 (.int .i64 1)).bind fun r16 =>
      next2 ⟨[(.rp [(SVal.cell s2.k0 0), (SVal.cell s2.k0 1), (SVal.cell s2.k0 2), (SVal.cell s2.k0 3), (SVal.cell s2.k0 4)]), (weak s2.k1), r16], [], false⟩)))
   (loopN (fun s17 next17 =>
     (sLen (SVal.cell s17.k0 3)).bind fun r18 =>
     (sBin .lss s17.k2 r18).bind fun r19 =>
     pickC r19
     ((sIdx true 2 (SVal.cell s17.k0 3) s17.k2).bind fun e20 =>
      ((sBin .neq (SVal.cell e20 1) (.int .i64 (-1))).bind fun r21 =>
       guardX r21 true
       ((T 51 [(weak (SVal.cell s17.k0 0)), (SVal.cell e20 1)]).bind fun r22 =>
        (sNot r22.r).bind fun r23 =>
        (asB r23).bind fun b24 =>
        some [b24])
       (some [false])
       (none)).bind fun vs25 =>
      pickC (.bool (vs25.getD 0 false))
      (some { r := (.bool false) })
      ((sBin .add s17.k2 (.int .i64 1)).bind fun r26 =>
       next17 ⟨[(.rp [(SVal.cell s17.k0 0), (SVal.cell s17.k0 1), (SVal.cell s17.k0 2), (SVal.cell s17.k0 3), (SVal.cell s17.k0 4)]), (weak s17.k1), r26], [], false⟩))
     ((sLen (SVal.cell s17.k0 1)).bind fun r27 =>
      (sSlice 1 s17.k1 (some r27) none).bind fun r28 =>
      loopN (fun s29 next29 =>
       (sLen s29.k2).bind fun r30 =>
       (sBin .lss s29.k3 r30).bind fun r31 =>
       pickC r31
       ((sIdx false 1 s29.k2 s29.k3).bind fun e32 =>
        (T 28 [(weak (SVal.cell s29.k0 4)), e32]).bind fun r33 =>
        (sNot r33.r).bind fun r34 =>
        pickC r34
        (some { r := (.bool false) })
        ((sBin .add s29.k3 (.int .i64 1)).bind fun r35 =>
         next29 ⟨[(.rp [(SVal.cell s29.k0 0), (SVal.cell s29.k0 1), (SVal.cell s29.k0 2), (SVal.cell s29.k0 3), (SVal.cell s29.k0 4)]), (weak s29.k1), (weak s29.k2), r35], [], false⟩))
       (((T 31 [(weak s29.k1)]).bind fun r36 =>
         guardX r36.r true
         ((T 31 [(weak (SVal.cell s29.k0 4))]).bind fun r37 =>
          guardX r37.r true
          ((sLen (SVal.cell s29.k0 4)).bind fun r38 =>
           (sLen s29.k2).bind fun r39 =>
           (sBin .eql r38 r39).bind fun r40 =>
           (asB r40).bind fun b41 =>
           some [b41])
          (some [false])
          (none))
         (some [false])
         (none)).bind fun vs42 =>
        some { r := (.bool (vs42.getD 0 false)) })) k ⟨[(.rp [(SVal.cell s17.k0 0), (SVal.cell s17.k0 1), (SVal.cell s17.k0 2), (SVal.cell s17.k0 3), (SVal.cell s17.k0 4)]), (weak s17.k1), (weak r28), (.int .i64 0)], [], false⟩)) k ⟨[(.rp [(SVal.cell s2.k0 0), (SVal.cell s2.k0 1), (SVal.cell s2.k0 2), (SVal.cell s2.k0 3), (SVal.cell s2.k0 4)]), (weak s2.k1), (.int .i64 0)], [], false⟩)) k ⟨[(.rp [x0a, x0b, x0c, x0d, x0e]), (weak r1.r), (.int .i64 0)], [], false⟩
theorem r26 (T : Nat → List SVal → Option Res) (k : Nat) (x0a : SVal) (x0b : SVal) (x0c : SVal) (x0d : SVal) (x0e : SVal) : bodyE P H T k 26 [(.agg [x0a, x0b, x0c, x0d, x0e])] = R26 T k x0a x0b x0c x0d x0e := by kernel_rfl
noncomputable def D26 (T : Nat → List SVal → Option Res) (k : Nat) : List SVal → Option Res
  | [(.agg [x0a, x0b, x0c, x0d, x0e])] => R26 T k x0a x0b x0c x0d x0e
  | a => bodyE P H T k 26 a
theorem d26 (T : Nat → List SVal → Option Res) (k : Nat) (a : List SVal) : D26 T k a = bodyE P H T k 26 a := by
  unfold D26
  split
  · exact (r26 ..).symm
  · rfl
theorem t26 (k : Nat) (x0a : SVal) (x0b : SVal) (x0c : SVal) (x0d : SVal) (x0e : SVal) : T (k + 1) 26 [(.agg [x0a, x0b, x0c, x0d, x0e])] = R26 (T k) k x0a x0b x0c x0d x0e := (by kernel_rfl : T (k + 1) 26 [(.agg [x0a, x0b, x0c, x0d, x0e])] = bodyE P H (T k) k 26 [(.agg [x0a, x0b, x0c, x0d, x0e])]).trans (r26 ..)
/-- limelight/limelightref10.IsOpen -/
def R27 (T : Nat → List SVal → Option Res) (k : Nat) (x0a : SVal) (x0b : SVal) (x0c : SVal) (x0d : SVal) (x0e : SVal) (x1 : SVal) : Option Res :=
  (T 63 [(.agg [(weak x0a), (weak x0b), (weak x0c), (weak x0d), (weak x0e)])]).bind fun r1 =>
  (T 28 [(weak r1.r), x1]).bind fun r2 =>
  some { r := r2.r }
theorem r27 (T : Nat → List SVal → Option Res) (k : Nat) (x0a : SVal) (x0b : SVal) (x0c : SVal) (x0d : SVal) (x0e : SVal) (x1 : SVal) : bodyE P H T k 27 [(.agg [x0a, x0b, x0c, x0d, x0e]), x1] = R27 T k x0a x0b x0c x0d x0e x1 := by kernel_rfl
noncomputable def D27 (T : Nat → List SVal → Option Res) (k : Nat) : List SVal → Option Res
  | [(.agg [x0a, x0b, x0c, x0d, x0e]), x1] => R27 T k x0a x0b x0c x0d x0e x1
  | a => bodyE P H T k 27 a
theorem d27 (T : Nat → List SVal → Option Res) (k : Nat) (a : List SVal) : D27 T k a = bodyE P H T k 27 a := by
  unfold D27
  split
  · exact (r27 ..).symm
  · rfl
theorem t27 (k : Nat) (x0a : SVal) (x0b : SVal) (x0c : SVal) (x0d : SVal) (x0e : SVal) (x1 : SVal) : T (k + 1) 27 [(.agg [x0a, x0b, x0c, x0d, x0e]), x1] = R27 (T k) k x0a x0b x0c x0d x0e x1 := (by kernel_rfl : T (k + 1) 27 [(.agg [x0a, x0b, x0c, x0d, x0e]), x1] = bodyE P H (T k) k 27 [(.agg [x0a, x0b, x0c, x0d, x0e]), x1]).trans (r27 ..)
/-- limelight/limelightref03.In -/
def R28 (T : Nat → List SVal → Option Res) (k : Nat) (x0 : SVal) (x1 : SVal) : Option Res :=
  (T 32 [(weak x0), x1]).bind fun r1 =>
  (sBin .geq r1.r (.int .i64 0)).bind fun r2 =>
  some { r := r2 }
theorem r28 (T : Nat → List SVal → Option Res) (k : Nat) (x0 : SVal) (x1 : SVal) : bodyE P H T k 28 [x0, x1] = R28 T k x0 x1 := by kernel_rfl
noncomputable def D28 (T : Nat → List SVal → Option Res) (k : Nat) : List SVal → Option Res
  | [x0, x1] => R28 T k x0 x1
  | a => bodyE P H T k 28 a
theorem d28 (T : Nat → List SVal → Option Res) (k : Nat) (a : List SVal) : D28 T k a = bodyE P H T k 28 a := by
  unfold D28
  split
  · exact (r28 ..).symm
  · rfl
theorem t28 (k : Nat) (x0 : SVal) (x1 : SVal) : T (k + 1) 28 [x0, x1] = R28 (T k) k x0 x1 := (by kernel_rfl : T (k + 1) 28 [x0, x1] = bodyE P H (T k) k 28 [x0, x1]).trans (r28 ..)
/-- limelight/limelightref01.May -/
def R29 (T : Nat → List SVal → Option Res) (k : Nat) (x0 : SVal) : Option Res :=
  ((sLen x0).bind fun r1 =>
   (sBin .lss r1 (.int .i64 1)).bind fun r2 =>
   guardX r2 false
   ((sLen x0).bind fun r3 =>
    (sBin .gtr r3 (.int .i64 64)).bind fun r4 =>
    (asB r4).bind fun b5 =>
    some [b5])
   (some [true])
   (none)).bind fun vs6 =>
  pickC (.bool (vs6.getD 0 false))
  (some { r := (.bool false) })
  (loopN (fun s7 next7 =>
    (sLen s7.k0).bind fun r8 =>
    (sBin .lss s7.k1 r8).bind fun r9 =>
    pickC r9
    (((sIdx true 7 s7.k0 s7.k1).bind fun e10 =>
      (T 64 [(.agg [(SVal.cell e10 0), (SVal.cell e10 1), (SVal.cell e10 2), (weak (SVal.cell e10 3)), (SVal.cell e10 4), (SVal.cell e10 5), (weak (SVal.cell e10 6))]), s7.k1]).bind fun r11 =>
      (sNot r11.r).bind fun r12 =>
      guardX r12 false
      ((sIdx true 7 s7.k0 s7.k1).bind fun e13 =>
       (T 65 [(.agg [(SVal.cell e13 0), (SVal.cell e13 1), (SVal.cell e13 2), (weak (SVal.cell e13 3)), (SVal.cell e13 4), (SVal.cell e13 5), (weak (SVal.cell e13 6))])]).bind fun r14 =>
       (sNot r14.r).bind fun r15 =>
       guardX r15 false
       ((T 66 [(weak s7.k0), s7.k1]).bind fun r16 =>
        (sNot r16.r).bind fun r17 =>
        guardX r17 false
        ((T 67 [(weak s7.k0), s7.k1]).bind fun r18 =>
         (sNot r18.r).bind fun r19 =>
         (asB r19).bind fun b20 =>
         some [b20])
        (some [true])
        (none))
       (some [true])
       (none))
      (some [true])
      (none)).bind fun vs21 =>
     pickC (.bool (vs21.getD 0 false))
     (some { r := (.bool false) })
     ((sBin .add s7.k1 (.int .i64 1)).bind fun r22 =>
      next7 ⟨[(weak s7.k0), r22], [], false⟩))
    (loopN (fun s23 next23 =>
      (sLen s23.k0).bind fun r24 =>
      (sBin .lss s23.k1 r24).bind fun r25 =>
      pickC r25
      ((T 68 [(weak s23.k0), s23.k1]).bind fun r26 =>
       (sNot r26.r).bind fun r27 =>
       pickC r27
       (some { r := (.bool false) })
       ((sBin .add s23.k1 (.int .i64 1)).bind fun r28 =>
        next23 ⟨[(weak s23.k0), r28], [], false⟩))
      (some { r := (.bool true) })) k ⟨[(weak s7.k0), (.int .i64 0)], [], false⟩)) k ⟨[(weak x0), (.int .i64 0)], [], false⟩)
theorem r29 (T : Nat → List SVal → Option Res) (k : Nat) (x0 : SVal) : bodyE P H T k 29 [x0] = R29 T k x0 := by kernel_rfl
noncomputable def D29 (T : Nat → List SVal → Option Res) (k : Nat) : List SVal → Option Res
  | [x0] => R29 T k x0
  | a => bodyE P H T k 29 a
theorem d29 (T : Nat → List SVal → Option Res) (k : Nat) (a : List SVal) : D29 T k a = bodyE P H T k 29 a := by
  unfold D29
  split
  · exact (r29 ..).symm
  · rfl
theorem t29 (k : Nat) (x0 : SVal) : T (k + 1) 29 [x0] = R29 (T k) k x0 := (by kernel_rfl : T (k + 1) 29 [x0] = bodyE P H (T k) k 29 [x0]).trans (r29 ..)
/-- limelight/limelightref10.Nodes -/
def R30 (T : Nat → List SVal → Option Res) (k : Nat) (x0 : SVal) : Option Res :=
  loopN (fun s1 next1 =>
   (sLen s1.k0).bind fun r2 =>
   (sBin .lss s1.k2 r2).bind fun r3 =>
   pickC r3
   ((sIdx true 2 s1.k0 s1.k2).bind fun e4 =>
    if (List.all [[.v (SVal.cell e4 0)]] allOne) = true then
    if (s1.k1.xs.length + ([(SVal.cell e4 0)] : List SVal).length) * 8 ≤ maxAppend then
    (sBin .add s1.k2 (.int .i64 1)).bind fun r5 =>
    next1 ⟨[(weak s1.k0), (.sl 1 true false (s1.k1.xs ++ [(SVal.cell e4 0)])), r5], [], false⟩
    else none
    else none)
   (some { r := (.sl 1 false false s1.k1.xs) })) k ⟨[(weak x0), (.sl 1 true false []), (.int .i64 0)], [], false⟩
theorem r30 (T : Nat → List SVal → Option Res) (k : Nat) (x0 : SVal) : bodyE P H T k 30 [x0] = R30 T k x0 := by kernel_rfl
noncomputable def D30 (T : Nat → List SVal → Option Res) (k : Nat) : List SVal → Option Res
  | [x0] => R30 T k x0
  | a => bodyE P H T k 30 a
theorem d30 (T : Nat → List SVal → Option Res) (k : Nat) (a : List SVal) : D30 T k a = bodyE P H T k 30 a := by
  unfold D30
  split
  · exact (r30 ..).symm
  · rfl
theorem t30 (k : Nat) (x0 : SVal) : T (k + 1) 30 [x0] = R30 (T k) k x0 := (by kernel_rfl : T (k + 1) 30 [x0] = bodyE P H (T k) k 30 [x0]).trans (r30 ..)
/-- limelight/limelightref10.Once -/
def R31 (T : Nat → List SVal → Option Res) (k : Nat) (x0 : SVal) : Option Res :=
  loopN (fun s1 next1 =>
   (sLen s1.k0).bind fun r2 =>
   (sBin .lss s1.k1 r2).bind fun r3 =>
   pickC r3
   ((sIdx false 1 s1.k0 s1.k1).bind fun e4 =>
    (T 32 [(weak s1.k0), e4]).bind fun r5 =>
    (sBin .neq r5.r s1.k1).bind fun r6 =>
    pickC r6
    (some { r := (.bool false) })
    ((sBin .add s1.k1 (.int .i64 1)).bind fun r7 =>
     next1 ⟨[(weak s1.k0), r7], [], false⟩))
   (some { r := (.bool true) })) k ⟨[(weak x0), (.int .i64 0)], [], false⟩
theorem r31 (T : Nat → List SVal → Option Res) (k : Nat) (x0 : SVal) : bodyE P H T k 31 [x0] = R31 T k x0 := by kernel_rfl
noncomputable def D31 (T : Nat → List SVal → Option Res) (k : Nat) : List SVal → Option Res
  | [x0] => R31 T k x0
  | a => bodyE P H T k 31 a
theorem d31 (T : Nat → List SVal → Option Res) (k : Nat) (a : List SVal) : D31 T k a = bodyE P H T k 31 a := by
  unfold D31
  split
  · exact (r31 ..).symm
  · rfl
theorem t31 (k : Nat) (x0 : SVal) : T (k + 1) 31 [x0] = R31 (T k) k x0 := (by kernel_rfl : T (k + 1) 31 [x0] = bodyE P H (T k) k 31 [x0]).trans (r31 ..)
/-- limelight/limelightref03.Place -/
def R32 (T : Nat → List SVal → Option Res) (k : Nat) (x0 : SVal) (x1 : SVal) : Option Res :=
  loopN (fun s1 next1 =>
   (sLen s1.k0).bind fun r2 =>
   (sBin .lss s1.k2 r2).bind fun r3 =>
   pickC r3
   ((sIdx false 1 s1.k0 s1.k2).bind fun e4 =>
    (sBin .eql e4 s1.k1).bind fun r5 =>
    pickC r5
    (some { r := s1.k2 })
    ((sBin .add s1.k2 (.int .i64 1)).bind fun r6 =>
     next1 ⟨[(weak s1.k0), s1.k1, r6], [], false⟩))
   (some { r := (.int .i64 (-1)) })) k ⟨[(weak x0), x1, (.int .i64 0)], [], false⟩
theorem r32 (T : Nat → List SVal → Option Res) (k : Nat) (x0 : SVal) (x1 : SVal) : bodyE P H T k 32 [x0, x1] = R32 T k x0 x1 := by kernel_rfl
noncomputable def D32 (T : Nat → List SVal → Option Res) (k : Nat) : List SVal → Option Res
  | [x0, x1] => R32 T k x0 x1
  | a => bodyE P H T k 32 a
theorem d32 (T : Nat → List SVal → Option Res) (k : Nat) (a : List SVal) : D32 T k a = bodyE P H T k 32 a := by
  unfold D32
  split
  · exact (r32 ..).symm
  · rfl
theorem t32 (k : Nat) (x0 : SVal) (x1 : SVal) : T (k + 1) 32 [x0, x1] = R32 (T k) k x0 x1 := (by kernel_rfl : T (k + 1) 32 [x0, x1] = bodyE P H (T k) k 32 [x0, x1]).trans (r32 ..)
/-- limelight/limelightref01.Small -/
def R33 (T : Nat → List SVal → Option Res) (k : Nat) (x0 : SVal) : Option Res :=
  loopN (fun s1 next1 =>
   ((sLen s1.k0).bind fun r2 =>
    (sBin .lss s1.k1 r2).bind fun r3 =>
    guardX r3 true
    ((sLen s1.k0).bind fun r4 =>
     (sBin .leq r4 (.int .i64 70)).bind fun r5 =>
     (asB r5).bind fun b6 =>
     some [b6])
    (some [false])
    (none)).bind fun vs7 =>
   pickC (.bool (vs7.getD 0 false))
   (((sIdx true 7 s1.k0 s1.k1).bind fun e8 =>
     (sLen (SVal.cell e8 3)).bind fun r9 =>
     (sBin .gtr r9 (.int .i64 80)).bind fun r10 =>
     guardX r10 false
     ((sIdx true 7 s1.k0 s1.k1).bind fun e11 =>
      (sLen (SVal.cell e11 6)).bind fun r12 =>
      (sBin .gtr r12 (.int .i64 20)).bind fun r13 =>
      (asB r13).bind fun b14 =>
      some [b14])
     (some [true])
     (none)).bind fun vs15 =>
    pickC (.bool (vs15.getD 0 false))
    (some { r := (.bool false) })
    ((sBin .add s1.k1 (.int .i64 1)).bind fun r16 =>
     next1 ⟨[(weak s1.k0), r16], [], false⟩))
   ((sLen s1.k0).bind fun r17 =>
    (sBin .leq r17 (.int .i64 70)).bind fun r18 =>
    some { r := r18 })) k ⟨[(weak x0), (.int .i64 0)], [], false⟩
theorem r33 (T : Nat → List SVal → Option Res) (k : Nat) (x0 : SVal) : bodyE P H T k 33 [x0] = R33 T k x0 := by kernel_rfl
noncomputable def D33 (T : Nat → List SVal → Option Res) (k : Nat) : List SVal → Option Res
  | [x0] => R33 T k x0
  | a => bodyE P H T k 33 a
theorem d33 (T : Nat → List SVal → Option Res) (k : Nat) (a : List SVal) : D33 T k a = bodyE P H T k 33 a := by
  unfold D33
  split
  · exact (r33 ..).symm
  · rfl
theorem t33 (k : Nat) (x0 : SVal) : T (k + 1) 33 [x0] = R33 (T k) k x0 := (by kernel_rfl : T (k + 1) 33 [x0] = bodyE P H (T k) k 33 [x0]).trans (r33 ..)
/-- limelight/tree.Check -/
def R34 (T : Nat → List SVal → Option Res) (k : Nat) (x0 : SVal) : Option Res :=
  (T 69 [(weak x0)]).bind fun r1 =>
  (sNot r1.r).bind fun r2 =>
  pickC r2
  (some { r := (.int .i64 1) })
  (some { r := (.int .i64 0) })
theorem r34 (T : Nat → List SVal → Option Res) (k : Nat) (x0 : SVal) : bodyE P H T k 34 [x0] = R34 T k x0 := by kernel_rfl
noncomputable def D34 (T : Nat → List SVal → Option Res) (k : Nat) : List SVal → Option Res
  | [x0] => R34 T k x0
  | a => bodyE P H T k 34 a
theorem d34 (T : Nat → List SVal → Option Res) (k : Nat) (a : List SVal) : D34 T k a = bodyE P H T k 34 a := by
  unfold D34
  split
  · exact (r34 ..).symm
  · rfl
theorem t34 (k : Nat) (x0 : SVal) : T (k + 1) 34 [x0] = R34 (T k) k x0 := (by kernel_rfl : T (k + 1) 34 [x0] = bodyE P H (T k) k 34 [x0]).trans (r34 ..)
end Go.Proofs.YtkebikngkeehfaaGreat.K
