/- What the evaluator makes of the functions, by program (wip/tr/resid.py); each equation is checked by the kernel. -/
import Derived.Test.YtcehbmffbmhpfaaGreatLmAK
import Derived.Test.YtcehbmffbmhpfaaGreatLmAB
import Derived.KernelRfl
set_option linter.unusedVariables false
set_option linter.unusedSimpArgs false
set_option linter.unnecessarySimpa false
set_option linter.all false
set_option maxRecDepth 100000
namespace Go.Proofs.YtcehbmffbmhpfaaGreat.K
open Go Go.Lm
/-- limelight/limelightlaw19.live -/
def R15 (T : Nat → List SVal → Option Res) (k : Nat) : Option Res :=
  ((T 18 [(.agg [(.sl 7 false false [(.agg [(.int .i64 0), (.int .i64 0), (.int .i64 (-1)), (.sl 1 false false [(.int .i64 1), (.int .i64 2), (.int .i64 3)]), (.int .i64 (-1)), (.int .i64 (-1)), (.sl 2 false false [])]), (.agg [(.int .i64 1), (.int .i64 0), (.int .i64 0), (.sl 1 false false [(.int .i64 4)]), (.int .i64 (-1)), (.int .i64 (-1)), (.sl 2 false false [(.agg [(.int .i64 6), (.int .i64 1)])])]), (.agg [(.int .i64 1), (.int .i64 0), (.int .i64 0), (.sl 1 false false []), (.int .i64 (-1)), (.int .i64 (-1)), (.sl 2 false false [(.agg [(.int .i64 6), (.int .i64 1)])])]), (.agg [(.int .i64 1), (.int .i64 0), (.int .i64 0), (.sl 1 false false []), (.int .i64 (-1)), (.int .i64 (-1)), (.sl 2 false false [(.agg [(.int .i64 6), (.int .i64 2)])])]), (.agg [(.int .i64 1), (.int .i64 0), (.int .i64 1), (.sl 1 false false []), (.int .i64 (-1)), (.int .i64 (-1)), (.sl 2 false false [])])]), (.sl 1 false false []), (.sl 1 false false []), (.sl 2 false false [(.agg [(.int .i64 1), (.int .i64 (-1))]), (.agg [(.int .i64 3), (.int .i64 (-1))])]), (.sl 1 false false [(.int .i64 1), (.int .i64 3)])]), (.int .i64 3)]).bind fun r1 =>
   (sBin .eql r1.r (.int .i64 2)).bind fun r2 =>
   guardX r2 true
   ((T 19 [(.agg [(.sl 7 false false [(.agg [(.int .i64 0), (.int .i64 0), (.int .i64 (-1)), (.sl 1 false false [(.int .i64 1), (.int .i64 2), (.int .i64 3)]), (.int .i64 (-1)), (.int .i64 (-1)), (.sl 2 false false [])]), (.agg [(.int .i64 1), (.int .i64 0), (.int .i64 0), (.sl 1 false false [(.int .i64 4)]), (.int .i64 (-1)), (.int .i64 (-1)), (.sl 2 false false [(.agg [(.int .i64 6), (.int .i64 1)])])]), (.agg [(.int .i64 1), (.int .i64 0), (.int .i64 0), (.sl 1 false false []), (.int .i64 (-1)), (.int .i64 (-1)), (.sl 2 false false [(.agg [(.int .i64 6), (.int .i64 1)])])]), (.agg [(.int .i64 1), (.int .i64 0), (.int .i64 0), (.sl 1 false false []), (.int .i64 (-1)), (.int .i64 (-1)), (.sl 2 false false [(.agg [(.int .i64 6), (.int .i64 2)])])]), (.agg [(.int .i64 1), (.int .i64 0), (.int .i64 1), (.sl 1 false false []), (.int .i64 (-1)), (.int .i64 (-1)), (.sl 2 false false [])])]), (.sl 1 false false []), (.sl 1 false false []), (.sl 2 false false [(.agg [(.int .i64 1), (.int .i64 (-1))]), (.agg [(.int .i64 3), (.int .i64 (-1))])]), (.sl 1 false false [(.int .i64 1), (.int .i64 3)])]), (.agg [(.int .i64 2), (.int .i64 4)])]).bind fun r3 =>
    (sBin .eql r3.r (.int .i64 1)).bind fun r4 =>
    guardX r4 true
    ((T 19 [(.agg [(.sl 7 false false [(.agg [(.int .i64 0), (.int .i64 0), (.int .i64 (-1)), (.sl 1 false false [(.int .i64 1), (.int .i64 2), (.int .i64 3)]), (.int .i64 (-1)), (.int .i64 (-1)), (.sl 2 false false [])]), (.agg [(.int .i64 1), (.int .i64 0), (.int .i64 0), (.sl 1 false false [(.int .i64 4)]), (.int .i64 (-1)), (.int .i64 (-1)), (.sl 2 false false [(.agg [(.int .i64 6), (.int .i64 1)])])]), (.agg [(.int .i64 1), (.int .i64 0), (.int .i64 0), (.sl 1 false false []), (.int .i64 (-1)), (.int .i64 (-1)), (.sl 2 false false [(.agg [(.int .i64 6), (.int .i64 1)])])]), (.agg [(.int .i64 1), (.int .i64 0), (.int .i64 0), (.sl 1 false false []), (.int .i64 (-1)), (.int .i64 (-1)), (.sl 2 false false [(.agg [(.int .i64 6), (.int .i64 2)])])]), (.agg [(.int .i64 1), (.int .i64 0), (.int .i64 1), (.sl 1 false false []), (.int .i64 (-1)), (.int .i64 (-1)), (.sl 2 false false [])])]), (.sl 1 false false []), (.sl 1 false false []), (.sl 2 false false [(.agg [(.int .i64 1), (.int .i64 (-1))]), (.agg [(.int .i64 3), (.int .i64 (-1))])]), (.sl 1 false false [(.int .i64 1), (.int .i64 3)])]), (.agg [(.int .i64 2), (.int .i64 (-1))])]).bind fun r5 =>
     (sBin .eql r5.r (.int .i64 (-1))).bind fun r6 =>
     guardX r6 true
     ((T 20 [(.agg [(.sl 7 false false [(.agg [(.int .i64 0), (.int .i64 0), (.int .i64 (-1)), (.sl 1 false false [(.int .i64 1), (.int .i64 2), (.int .i64 3)]), (.int .i64 (-1)), (.int .i64 (-1)), (.sl 2 false false [])]), (.agg [(.int .i64 1), (.int .i64 0), (.int .i64 0), (.sl 1 false false [(.int .i64 4)]), (.int .i64 (-1)), (.int .i64 (-1)), (.sl 2 false false [(.agg [(.int .i64 6), (.int .i64 1)])])]), (.agg [(.int .i64 1), (.int .i64 0), (.int .i64 0), (.sl 1 false false []), (.int .i64 (-1)), (.int .i64 (-1)), (.sl 2 false false [(.agg [(.int .i64 6), (.int .i64 1)])])]), (.agg [(.int .i64 1), (.int .i64 0), (.int .i64 0), (.sl 1 false false []), (.int .i64 (-1)), (.int .i64 (-1)), (.sl 2 false false [(.agg [(.int .i64 6), (.int .i64 2)])])]), (.agg [(.int .i64 1), (.int .i64 0), (.int .i64 1), (.sl 1 false false []), (.int .i64 (-1)), (.int .i64 (-1)), (.sl 2 false false [])])]), (.sl 1 false false []), (.sl 1 false false []), (.sl 2 false false [(.agg [(.int .i64 1), (.int .i64 (-1))]), (.agg [(.int .i64 3), (.int .i64 (-1))])]), (.sl 1 false false [(.int .i64 1), (.int .i64 3)])]), (.agg [(.int .i64 2), (.int .i64 (-1))])]).bind fun r7 =>
      (T 25 [(weak r7.r), (.sl 1 false false [(.int .i64 3), (.int .i64 1)])]).bind fun r8 =>
      guardX r8.r true
      ((T 20 [(.agg [(.sl 7 false false [(.agg [(.int .i64 0), (.int .i64 0), (.int .i64 (-1)), (.sl 1 false false [(.int .i64 1), (.int .i64 2), (.int .i64 3)]), (.int .i64 (-1)), (.int .i64 (-1)), (.sl 2 false false [])]), (.agg [(.int .i64 1), (.int .i64 0), (.int .i64 0), (.sl 1 false false [(.int .i64 4)]), (.int .i64 (-1)), (.int .i64 (-1)), (.sl 2 false false [(.agg [(.int .i64 6), (.int .i64 1)])])]), (.agg [(.int .i64 1), (.int .i64 0), (.int .i64 0), (.sl 1 false false []), (.int .i64 (-1)), (.int .i64 (-1)), (.sl 2 false false [(.agg [(.int .i64 6), (.int .i64 1)])])]), (.agg [(.int .i64 1), (.int .i64 0), (.int .i64 0), (.sl 1 false false []), (.int .i64 (-1)), (.int .i64 (-1)), (.sl 2 false false [(.agg [(.int .i64 6), (.int .i64 2)])])]), (.agg [(.int .i64 1), (.int .i64 0), (.int .i64 1), (.sl 1 false false []), (.int .i64 (-1)), (.int .i64 (-1)), (.sl 2 false false [])])]), (.sl 1 false false []), (.sl 1 false false []), (.sl 2 false false [(.agg [(.int .i64 1), (.int .i64 (-1))]), (.agg [(.int .i64 3), (.int .i64 (-1))])]), (.sl 1 false false [(.int .i64 1), (.int .i64 3)])]), (.agg [(.int .i64 2), (.int .i64 4)])]).bind fun r9 =>
       (T 25 [(weak r9.r), (.sl 1 false false [(.int .i64 3)])]).bind fun r10 =>
       guardX r10.r true
       ((T 21 [(.agg [(.sl 7 false false [(.agg [(.int .i64 0), (.int .i64 0), (.int .i64 (-1)), (.sl 1 false false [(.int .i64 1), (.int .i64 2), (.int .i64 3)]), (.int .i64 (-1)), (.int .i64 (-1)), (.sl 2 false false [])]), (.agg [(.int .i64 1), (.int .i64 0), (.int .i64 0), (.sl 1 false false [(.int .i64 4)]), (.int .i64 (-1)), (.int .i64 (-1)), (.sl 2 false false [(.agg [(.int .i64 6), (.int .i64 1)])])]), (.agg [(.int .i64 1), (.int .i64 0), (.int .i64 0), (.sl 1 false false []), (.int .i64 (-1)), (.int .i64 (-1)), (.sl 2 false false [(.agg [(.int .i64 6), (.int .i64 1)])])]), (.agg [(.int .i64 1), (.int .i64 0), (.int .i64 0), (.sl 1 false false []), (.int .i64 (-1)), (.int .i64 (-1)), (.sl 2 false false [(.agg [(.int .i64 6), (.int .i64 2)])])]), (.agg [(.int .i64 1), (.int .i64 0), (.int .i64 1), (.sl 1 false false []), (.int .i64 (-1)), (.int .i64 (-1)), (.sl 2 false false [])])]), (.sl 1 false false []), (.sl 1 false false []), (.sl 2 false false [(.agg [(.int .i64 1), (.int .i64 (-1))]), (.agg [(.int .i64 3), (.int .i64 (-1))])]), (.sl 1 false false [(.int .i64 1), (.int .i64 3)])]), (.int .i64 1)]).bind fun r11 =>
        (T 25 [(weak r11.r), (.sl 1 false false [(.int .i64 3)])]).bind fun r12 =>
        guardX r12.r true
        ((T 21 [(.agg [(.sl 7 false false [(.agg [(.int .i64 0), (.int .i64 0), (.int .i64 (-1)), (.sl 1 false false [(.int .i64 1), (.int .i64 2), (.int .i64 3)]), (.int .i64 (-1)), (.int .i64 (-1)), (.sl 2 false false [])]), (.agg [(.int .i64 1), (.int .i64 0), (.int .i64 0), (.sl 1 false false [(.int .i64 4)]), (.int .i64 (-1)), (.int .i64 (-1)), (.sl 2 false false [(.agg [(.int .i64 6), (.int .i64 1)])])]), (.agg [(.int .i64 1), (.int .i64 0), (.int .i64 0), (.sl 1 false false []), (.int .i64 (-1)), (.int .i64 (-1)), (.sl 2 false false [(.agg [(.int .i64 6), (.int .i64 1)])])]), (.agg [(.int .i64 1), (.int .i64 0), (.int .i64 0), (.sl 1 false false []), (.int .i64 (-1)), (.int .i64 (-1)), (.sl 2 false false [(.agg [(.int .i64 6), (.int .i64 2)])])]), (.agg [(.int .i64 1), (.int .i64 0), (.int .i64 1), (.sl 1 false false []), (.int .i64 (-1)), (.int .i64 (-1)), (.sl 2 false false [])])]), (.sl 1 false false []), (.sl 1 false false []), (.sl 2 false false [(.agg [(.int .i64 1), (.int .i64 (-1))]), (.agg [(.int .i64 3), (.int .i64 (-1))])]), (.sl 1 false false [(.int .i64 1), (.int .i64 3)])]), (.int .i64 2)]).bind fun r13 =>
         (sLen r13.r).bind fun r14 =>
         (sBin .eql r14 (.int .i64 0)).bind fun r15 =>
         guardX r15 true
         ((T 22 [(.agg [(.sl 7 false false [(.agg [(.int .i64 0), (.int .i64 0), (.int .i64 (-1)), (.sl 1 false false [(.int .i64 1), (.int .i64 2), (.int .i64 3)]), (.int .i64 (-1)), (.int .i64 (-1)), (.sl 2 false false [])]), (.agg [(.int .i64 1), (.int .i64 0), (.int .i64 0), (.sl 1 false false [(.int .i64 4)]), (.int .i64 (-1)), (.int .i64 (-1)), (.sl 2 false false [(.agg [(.int .i64 6), (.int .i64 1)])])]), (.agg [(.int .i64 1), (.int .i64 0), (.int .i64 0), (.sl 1 false false []), (.int .i64 (-1)), (.int .i64 (-1)), (.sl 2 false false [(.agg [(.int .i64 6), (.int .i64 1)])])]), (.agg [(.int .i64 1), (.int .i64 0), (.int .i64 0), (.sl 1 false false []), (.int .i64 (-1)), (.int .i64 (-1)), (.sl 2 false false [(.agg [(.int .i64 6), (.int .i64 2)])])]), (.agg [(.int .i64 1), (.int .i64 0), (.int .i64 1), (.sl 1 false false []), (.int .i64 (-1)), (.int .i64 (-1)), (.sl 2 false false [])])]), (.sl 1 false false []), (.sl 1 false false []), (.sl 2 false false [(.agg [(.int .i64 1), (.int .i64 (-1))]), (.agg [(.int .i64 3), (.int .i64 (-1))])]), (.sl 1 false false [(.int .i64 1), (.int .i64 3)])]), (.int .i64 4)]).bind fun r16 =>
          (T 25 [(weak r16.r), (.sl 1 false false [(.int .i64 3)])]).bind fun r17 =>
          guardX r17.r true
          ((T 22 [(.agg [(.sl 7 false false [(.agg [(.int .i64 0), (.int .i64 0), (.int .i64 (-1)), (.sl 1 false false [(.int .i64 1), (.int .i64 2), (.int .i64 3)]), (.int .i64 (-1)), (.int .i64 (-1)), (.sl 2 false false [])]), (.agg [(.int .i64 1), (.int .i64 0), (.int .i64 0), (.sl 1 false false [(.int .i64 4)]), (.int .i64 (-1)), (.int .i64 (-1)), (.sl 2 false false [(.agg [(.int .i64 6), (.int .i64 1)])])]), (.agg [(.int .i64 1), (.int .i64 0), (.int .i64 0), (.sl 1 false false []), (.int .i64 (-1)), (.int .i64 (-1)), (.sl 2 false false [(.agg [(.int .i64 6), (.int .i64 1)])])]), (.agg [(.int .i64 1), (.int .i64 0), (.int .i64 0), (.sl 1 false false []), (.int .i64 (-1)), (.int .i64 (-1)), (.sl 2 false false [(.agg [(.int .i64 6), (.int .i64 2)])])]), (.agg [(.int .i64 1), (.int .i64 0), (.int .i64 1), (.sl 1 false false []), (.int .i64 (-1)), (.int .i64 (-1)), (.sl 2 false false [])])]), (.sl 1 false false []), (.sl 1 false false []), (.sl 2 false false [(.agg [(.int .i64 1), (.int .i64 (-1))]), (.agg [(.int .i64 3), (.int .i64 (-1))])]), (.sl 1 false false [(.int .i64 1), (.int .i64 3)])]), (.int .i64 0)]).bind fun r18 =>
           (T 25 [(weak r18.r), (.sl 1 false false [(.int .i64 3), (.int .i64 1)])]).bind fun r19 =>
           guardX r19.r true
           ((T 18 [(.agg [(.sl 7 false false [(.agg [(.int .i64 0), (.int .i64 0), (.int .i64 (-1)), (.sl 1 false false [(.int .i64 1), (.int .i64 2), (.int .i64 3)]), (.int .i64 (-1)), (.int .i64 (-1)), (.sl 2 false false [])]), (.agg [(.int .i64 1), (.int .i64 0), (.int .i64 0), (.sl 1 false false [(.int .i64 4)]), (.int .i64 (-1)), (.int .i64 (-1)), (.sl 2 false false [(.agg [(.int .i64 6), (.int .i64 1)])])]), (.agg [(.int .i64 1), (.int .i64 0), (.int .i64 0), (.sl 1 false false []), (.int .i64 (-1)), (.int .i64 (-1)), (.sl 2 false false [(.agg [(.int .i64 6), (.int .i64 1)])])]), (.agg [(.int .i64 1), (.int .i64 0), (.int .i64 0), (.sl 1 false false []), (.int .i64 (-1)), (.int .i64 (-1)), (.sl 2 false false [(.agg [(.int .i64 6), (.int .i64 2)])])]), (.agg [(.int .i64 1), (.int .i64 0), (.int .i64 1), (.sl 1 false false []), (.int .i64 (-1)), (.int .i64 (-1)), (.sl 2 false false [])])]), (.sl 1 false false []), (.sl 1 false false []), (.sl 2 false false [(.agg [(.int .i64 1), (.int .i64 (-1))]), (.agg [(.int .i64 3), (.int .i64 (-1))])]), (.sl 1 false false [(.int .i64 1), (.int .i64 3)])]), (.int .i64 9)]).bind fun r20 =>
            (sBin .eql r20.r (.int .i64 0)).bind fun r21 =>
            guardX r21 true
            ((T 19 [(.agg [(.sl 7 false false []), (.sl 1 false false []), (.sl 1 false false []), (.sl 2 false false []), (.sl 1 false false [])]), (.agg [(.int .i64 0), (.int .i64 0)])]).bind fun r22 =>
             (sBin .eql r22.r (.int .i64 (-1))).bind fun r23 =>
             (asB r23).bind fun b24 =>
             some [b24])
            (some [false])
            (none))
           (some [false])
           (none))
          (some [false])
          (none))
         (some [false])
         (none))
        (some [false])
        (none))
       (some [false])
       (none))
      (some [false])
      (none))
     (some [false])
     (none))
    (some [false])
    (none))
   (some [false])
   (none)).bind fun vs25 =>
  some { r := (.bool (vs25.getD 0 false)) }
theorem r15 (T : Nat → List SVal → Option Res) (k : Nat) : bodyE P H T k 15 [] = R15 T k  := by kernel_rfl
noncomputable def D15 (T : Nat → List SVal → Option Res) (k : Nat) : List SVal → Option Res
  | [] => R15 T k 
  | a => bodyE P H T k 15 a
theorem d15 (T : Nat → List SVal → Option Res) (k : Nat) (a : List SVal) : D15 T k a = bodyE P H T k 15 a := by
  unfold D15
  split
  · exact (r15 ..).symm
  · rfl
theorem t15 (k : Nat) : T (k + 1) 15 [] = R15 (T k) k  := (by kernel_rfl : T (k + 1) 15 [] = bodyE P H (T k) k 15 []).trans (r15 ..)
/-- limelight/limelightref10.Check -/
def R16 (T : Nat → List SVal → Option Res) (k : Nat) (x0a : SVal) (x0b : SVal) (x0c : SVal) (x0d : SVal) (x0e : SVal) : Option Res :=
  (T 52 [(weak x0a)]).bind fun r1 =>
  (sNot r1.r).bind fun r2 =>
  pickC r2
  (some { r := (.int .i64 1) })
  ((T 54 [(.agg [(weak x0a), (weak x0b), (weak x0c), (weak x0d), (weak x0e)])]).bind fun r3 =>
   (sNot r3.r).bind fun r4 =>
   pickC r4
   (some { r := (.int .i64 9) })
   (some { r := (.int .i64 0) }))
theorem r16 (T : Nat → List SVal → Option Res) (k : Nat) (x0a : SVal) (x0b : SVal) (x0c : SVal) (x0d : SVal) (x0e : SVal) : bodyE P H T k 16 [(.agg [x0a, x0b, x0c, x0d, x0e])] = R16 T k x0a x0b x0c x0d x0e := by kernel_rfl
noncomputable def D16 (T : Nat → List SVal → Option Res) (k : Nat) : List SVal → Option Res
  | [(.agg [x0a, x0b, x0c, x0d, x0e])] => R16 T k x0a x0b x0c x0d x0e
  | a => bodyE P H T k 16 a
theorem d16 (T : Nat → List SVal → Option Res) (k : Nat) (a : List SVal) : D16 T k a = bodyE P H T k 16 a := by
  unfold D16
  split
  · exact (r16 ..).symm
  · rfl
theorem t16 (k : Nat) (x0a : SVal) (x0b : SVal) (x0c : SVal) (x0d : SVal) (x0e : SVal) : T (k + 1) 16 [(.agg [x0a, x0b, x0c, x0d, x0e])] = R16 (T k) k x0a x0b x0c x0d x0e := (by kernel_rfl : T (k + 1) 16 [(.agg [x0a, x0b, x0c, x0d, x0e])] = bodyE P H (T k) k 16 [(.agg [x0a, x0b, x0c, x0d, x0e])]).trans (r16 ..)
/-- limelight/limelightref01.Is -/
def R17 (T : Nat → List SVal → Option Res) (k : Nat) (x0 : SVal) (x1 : SVal) : Option Res :=
  ((sBin .geq x1 (.int .i64 0)).bind fun r1 =>
   guardX r1 true
   ((sLen x0).bind fun r2 =>
    (sBin .lss x1 r2).bind fun r3 =>
    (asB r3).bind fun b4 =>
    some [b4])
   (some [false])
   (none)).bind fun vs5 =>
  some { r := (.bool (vs5.getD 0 false)) }
theorem r17 (T : Nat → List SVal → Option Res) (k : Nat) (x0 : SVal) (x1 : SVal) : bodyE P H T k 17 [x0, x1] = R17 T k x0 x1 := by kernel_rfl
noncomputable def D17 (T : Nat → List SVal → Option Res) (k : Nat) : List SVal → Option Res
  | [x0, x1] => R17 T k x0 x1
  | a => bodyE P H T k 17 a
theorem d17 (T : Nat → List SVal → Option Res) (k : Nat) (a : List SVal) : D17 T k a = bodyE P H T k 17 a := by
  unfold D17
  split
  · exact (r17 ..).symm
  · rfl
theorem t17 (k : Nat) (x0 : SVal) (x1 : SVal) : T (k + 1) 17 [x0, x1] = R17 (T k) k x0 x1 := (by kernel_rfl : T (k + 1) 17 [x0, x1] = bodyE P H (T k) k 17 [x0, x1]).trans (r17 ..)
/-- limelight/popup.Kind -/
def R18 (T : Nat → List SVal → Option Res) (k : Nat) (x0a : SVal) (x0b : SVal) (x0c : SVal) (x0d : SVal) (x0e : SVal) (x1 : SVal) : Option Res :=
  (T 55 [(.agg [(weak x0a), (weak x0b), (weak x0c), (weak x0d), (weak x0e)]), x1]).bind fun r1 =>
  (sNot r1.r).bind fun r2 =>
  pickC r2
  (some { r := (.int .i64 0) })
  ((T 56 [(weak x0a), x1, (.int .i64 6)]).bind fun r3 =>
   some { r := r3.r.c0 })
theorem r18 (T : Nat → List SVal → Option Res) (k : Nat) (x0a : SVal) (x0b : SVal) (x0c : SVal) (x0d : SVal) (x0e : SVal) (x1 : SVal) : bodyE P H T k 18 [(.agg [x0a, x0b, x0c, x0d, x0e]), x1] = R18 T k x0a x0b x0c x0d x0e x1 := by kernel_rfl
noncomputable def D18 (T : Nat → List SVal → Option Res) (k : Nat) : List SVal → Option Res
  | [(.agg [x0a, x0b, x0c, x0d, x0e]), x1] => R18 T k x0a x0b x0c x0d x0e x1
  | a => bodyE P H T k 18 a
theorem d18 (T : Nat → List SVal → Option Res) (k : Nat) (a : List SVal) : D18 T k a = bodyE P H T k 18 a := by
  unfold D18
  split
  · exact (r18 ..).symm
  · rfl
theorem t18 (k : Nat) (x0a : SVal) (x0b : SVal) (x0c : SVal) (x0d : SVal) (x0e : SVal) (x1 : SVal) : T (k + 1) 18 [(.agg [x0a, x0b, x0c, x0d, x0e]), x1] = R18 (T k) k x0a x0b x0c x0d x0e x1 := (by kernel_rfl : T (k + 1) 18 [(.agg [x0a, x0b, x0c, x0d, x0e]), x1] = bodyE P H (T k) k 18 [(.agg [x0a, x0b, x0c, x0d, x0e]), x1]).trans (r18 ..)
/-- limelight/popup.Over -/
def R19 (T : Nat → List SVal → Option Res) (k : Nat) (x0a : SVal) (x0b : SVal) (x0c : SVal) (x0d : SVal) (x0e : SVal) (x1a : SVal) (x1b : SVal) : Option Res :=
  (T 55 [(.agg [(weak x0a), (weak x0b), (weak x0c), (weak x0d), (weak x0e)]), x1a]).bind fun r1 =>
  (sNot r1.r).bind fun r2 =>
  pickC r2
  (some { r := (.int .i64 (-1)) })
  ((T 57 [(.agg [(weak x0a), (weak x0b), (weak x0c), (weak x0d), (weak x0e)]), (.fn 58 [(.rp [x1a, x1b]), (.rp [x0a, x0b, x0c, x0d, x0e])])]).bind fun r3 =>
   some { r := r3.r })
theorem r19 (T : Nat → List SVal → Option Res) (k : Nat) (x0a : SVal) (x0b : SVal) (x0c : SVal) (x0d : SVal) (x0e : SVal) (x1a : SVal) (x1b : SVal) : bodyE P H T k 19 [(.agg [x0a, x0b, x0c, x0d, x0e]), (.agg [x1a, x1b])] = R19 T k x0a x0b x0c x0d x0e x1a x1b := by kernel_rfl
noncomputable def D19 (T : Nat → List SVal → Option Res) (k : Nat) : List SVal → Option Res
  | [(.agg [x0a, x0b, x0c, x0d, x0e]), (.agg [x1a, x1b])] => R19 T k x0a x0b x0c x0d x0e x1a x1b
  | a => bodyE P H T k 19 a
theorem d19 (T : Nat → List SVal → Option Res) (k : Nat) (a : List SVal) : D19 T k a = bodyE P H T k 19 a := by
  unfold D19
  split
  · exact (r19 ..).symm
  · rfl
theorem t19 (k : Nat) (x0a : SVal) (x0b : SVal) (x0c : SVal) (x0d : SVal) (x0e : SVal) (x1a : SVal) (x1b : SVal) : T (k + 1) 19 [(.agg [x0a, x0b, x0c, x0d, x0e]), (.agg [x1a, x1b])] = R19 (T k) k x0a x0b x0c x0d x0e x1a x1b := (by kernel_rfl : T (k + 1) 19 [(.agg [x0a, x0b, x0c, x0d, x0e]), (.agg [x1a, x1b])] = bodyE P H (T k) k 19 [(.agg [x0a, x0b, x0c, x0d, x0e]), (.agg [x1a, x1b])]).trans (r19 ..)
/-- limelight/popup.Before -/
def R20 (T : Nat → List SVal → Option Res) (k : Nat) (x0a : SVal) (x0b : SVal) (x0c : SVal) (x0d : SVal) (x0e : SVal) (x1a : SVal) (x1b : SVal) : Option Res :=
  (T 18 [(.agg [(weak x0a), (weak x0b), (weak x0c), (weak x0d), (weak x0e)]), x1a]).bind fun r1 =>
  if (oneS r1.r) = true then
  ((sBin .neq r1.r (.int .i64 1)).bind fun r2 =>
   guardX r2 true
   ((sBin .neq r1.r (.int .i64 2)).bind fun r3 =>
    (asB r3).bind fun b4 =>
    some [b4])
   (some [false])
   (none)).bind fun vs5 =>
  pickC (.bool (vs5.getD 0 false))
  (some { r := (.sl 1 false false []) })
  ((T 19 [(.agg [(weak x0a), (weak x0b), (weak x0c), (weak x0d), (weak x0e)]), (.agg [x1a, x1b])]).bind fun r6 =>
   (T 61 [(.agg [(weak x0a), (weak x0b), (weak x0c), (weak x0d), (weak x0e)]), r6.r]).bind fun r7 =>
   (T 60 [(.sl 1 true false r7.r.xs), (.fn 62 [(.rp [x1a, x1b]), (.rp [r1.r]), (.rp [x0a, x0b, x0c, x0d, x0e])])]).bind fun r8 =>
   some { r := (.sl 1 false false r8.r.xs) })
  else none
theorem r20 (T : Nat → List SVal → Option Res) (k : Nat) (x0a : SVal) (x0b : SVal) (x0c : SVal) (x0d : SVal) (x0e : SVal) (x1a : SVal) (x1b : SVal) : bodyE P H T k 20 [(.agg [x0a, x0b, x0c, x0d, x0e]), (.agg [x1a, x1b])] = R20 T k x0a x0b x0c x0d x0e x1a x1b := by kernel_rfl
noncomputable def D20 (T : Nat → List SVal → Option Res) (k : Nat) : List SVal → Option Res
  | [(.agg [x0a, x0b, x0c, x0d, x0e]), (.agg [x1a, x1b])] => R20 T k x0a x0b x0c x0d x0e x1a x1b
  | a => bodyE P H T k 20 a
theorem d20 (T : Nat → List SVal → Option Res) (k : Nat) (a : List SVal) : D20 T k a = bodyE P H T k 20 a := by
  unfold D20
  split
  · exact (r20 ..).symm
  · rfl
theorem t20 (k : Nat) (x0a : SVal) (x0b : SVal) (x0c : SVal) (x0d : SVal) (x0e : SVal) (x1a : SVal) (x1b : SVal) : T (k + 1) 20 [(.agg [x0a, x0b, x0c, x0d, x0e]), (.agg [x1a, x1b])] = R20 (T k) k x0a x0b x0c x0d x0e x1a x1b := (by kernel_rfl : T (k + 1) 20 [(.agg [x0a, x0b, x0c, x0d, x0e]), (.agg [x1a, x1b])] = bodyE P H (T k) k 20 [(.agg [x0a, x0b, x0c, x0d, x0e]), (.agg [x1a, x1b])]).trans (r20 ..)
/-- limelight/popup.Above -/
def R21 (T : Nat → List SVal → Option Res) (k : Nat) (x0a : SVal) (x0b : SVal) (x0c : SVal) (x0d : SVal) (x0e : SVal) (x1 : SVal) : Option Res :=
  ((T 55 [(.agg [(weak x0a), (weak x0b), (weak x0c), (weak x0d), (weak x0e)]), x1]).bind fun r1 =>
   (sNot r1.r).bind fun r2 =>
   guardX r2 false
   ((T 64 [(.agg [(weak x0a), (weak x0b), (weak x0c), (weak x0d), (weak x0e)])]).bind fun r3 =>
    (T 63 [(weak r3.r), x1]).bind fun r4 =>
    (sNot r4.r).bind fun r5 =>
    (asB r5).bind fun b6 =>
    some [b6])
   (some [true])
   (none)).bind fun vs7 =>
  pickC (.bool (vs7.getD 0 false))
  (some { r := (.sl 1 false false []) })
  ((T 61 [(.agg [(weak x0a), (weak x0b), (weak x0c), (weak x0d), (weak x0e)]), x1]).bind fun r8 =>
   some { r := (.sl 1 false false r8.r.xs) })
theorem r21 (T : Nat → List SVal → Option Res) (k : Nat) (x0a : SVal) (x0b : SVal) (x0c : SVal) (x0d : SVal) (x0e : SVal) (x1 : SVal) : bodyE P H T k 21 [(.agg [x0a, x0b, x0c, x0d, x0e]), x1] = R21 T k x0a x0b x0c x0d x0e x1 := by kernel_rfl
noncomputable def D21 (T : Nat → List SVal → Option Res) (k : Nat) : List SVal → Option Res
  | [(.agg [x0a, x0b, x0c, x0d, x0e]), x1] => R21 T k x0a x0b x0c x0d x0e x1
  | a => bodyE P H T k 21 a
theorem d21 (T : Nat → List SVal → Option Res) (k : Nat) (a : List SVal) : D21 T k a = bodyE P H T k 21 a := by
  unfold D21
  split
  · exact (r21 ..).symm
  · rfl
theorem t21 (k : Nat) (x0a : SVal) (x0b : SVal) (x0c : SVal) (x0d : SVal) (x0e : SVal) (x1 : SVal) : T (k + 1) 21 [(.agg [x0a, x0b, x0c, x0d, x0e]), x1] = R21 (T k) k x0a x0b x0c x0d x0e x1 := (by kernel_rfl : T (k + 1) 21 [(.agg [x0a, x0b, x0c, x0d, x0e]), x1] = bodyE P H (T k) k 21 [(.agg [x0a, x0b, x0c, x0d, x0e]), x1]).trans (r21 ..)
/-- limelight/popup.Light -/
def R22 (T : Nat → List SVal → Option Res) (k : Nat) (x0a : SVal) (x0b : SVal) (x0c : SVal) (x0d : SVal) (x0e : SVal) (x1 : SVal) : Option Res :=
  if (oneS x1) = true then
  (T 55 [(.agg [(weak x0a), (weak x0b), (weak x0c), (weak x0d), (weak x0e)]), x1]).bind fun r1 =>
  (sNot r1.r).bind fun r2 =>
  pickC r2
  (some { r := (.sl 1 false false []) })
  ((T 57 [(.agg [(weak x0a), (weak x0b), (weak x0c), (weak x0d), (weak x0e)]), (.fn 65 [(.rp [x0a, x0b, x0c, x0d, x0e]), (.rp [x1])])]).bind fun r3 =>
   (T 61 [(.agg [(weak x0a), (weak x0b), (weak x0c), (weak x0d), (weak x0e)]), r3.r]).bind fun r4 =>
   some { r := (.sl 1 false false r4.r.xs) })
  else none
theorem r22 (T : Nat → List SVal → Option Res) (k : Nat) (x0a : SVal) (x0b : SVal) (x0c : SVal) (x0d : SVal) (x0e : SVal) (x1 : SVal) : bodyE P H T k 22 [(.agg [x0a, x0b, x0c, x0d, x0e]), x1] = R22 T k x0a x0b x0c x0d x0e x1 := by kernel_rfl
noncomputable def D22 (T : Nat → List SVal → Option Res) (k : Nat) : List SVal → Option Res
  | [(.agg [x0a, x0b, x0c, x0d, x0e]), x1] => R22 T k x0a x0b x0c x0d x0e x1
  | a => bodyE P H T k 22 a
theorem d22 (T : Nat → List SVal → Option Res) (k : Nat) (a : List SVal) : D22 T k a = bodyE P H T k 22 a := by
  unfold D22
  split
  · exact (r22 ..).symm
  · rfl
theorem t22 (k : Nat) (x0a : SVal) (x0b : SVal) (x0c : SVal) (x0d : SVal) (x0e : SVal) (x1 : SVal) : T (k + 1) 22 [(.agg [x0a, x0b, x0c, x0d, x0e]), x1] = R22 (T k) k x0a x0b x0c x0d x0e x1 := (by kernel_rfl : T (k + 1) 22 [(.agg [x0a, x0b, x0c, x0d, x0e]), x1] = bodyE P H (T k) k 22 [(.agg [x0a, x0b, x0c, x0d, x0e]), x1]).trans (r22 ..)
/-- limelight/limelightref19.Kind -/
def R23 (T : Nat → List SVal → Option Res) (k : Nat) (x0a : SVal) (x0b : SVal) (x0c : SVal) (x0d : SVal) (x0e : SVal) (x1 : SVal) : Option Res :=
  (T 66 [(weak x0a), x1, (.int .i64 6)]).bind fun r1 =>
  some { r := r1.r.c0 }
theorem r23 (T : Nat → List SVal → Option Res) (k : Nat) (x0a : SVal) (x0b : SVal) (x0c : SVal) (x0d : SVal) (x0e : SVal) (x1 : SVal) : bodyE P H T k 23 [(.agg [x0a, x0b, x0c, x0d, x0e]), x1] = R23 T k x0a x0b x0c x0d x0e x1 := by kernel_rfl
noncomputable def D23 (T : Nat → List SVal → Option Res) (k : Nat) : List SVal → Option Res
  | [(.agg [x0a, x0b, x0c, x0d, x0e]), x1] => R23 T k x0a x0b x0c x0d x0e x1
  | a => bodyE P H T k 23 a
theorem d23 (T : Nat → List SVal → Option Res) (k : Nat) (a : List SVal) : D23 T k a = bodyE P H T k 23 a := by
  unfold D23
  split
  · exact (r23 ..).symm
  · rfl
theorem t23 (k : Nat) (x0a : SVal) (x0b : SVal) (x0c : SVal) (x0d : SVal) (x0e : SVal) (x1 : SVal) : T (k + 1) 23 [(.agg [x0a, x0b, x0c, x0d, x0e]), x1] = R23 (T k) k x0a x0b x0c x0d x0e x1 := (by kernel_rfl : T (k + 1) 23 [(.agg [x0a, x0b, x0c, x0d, x0e]), x1] = bodyE P H (T k) k 23 [(.agg [x0a, x0b, x0c, x0d, x0e]), x1]).trans (r23 ..)
/-- limelight/limelightref19.Over -/
def R24 (T : Nat → List SVal → Option Res) (k : Nat) (x0a : SVal) (x0b : SVal) (x0c : SVal) (x0d : SVal) (x0e : SVal) (x1a : SVal) (x1b : SVal) : Option Res :=
  (T 33 [(.agg [(weak x0a), (weak x0b), (weak x0c), (weak x0d), (weak x0e)])]).bind fun r1 =>
  loopN (fun s2 next2 =>
   (sLen s2.k3).bind fun r3 =>
   (sBin .lss s2.k4 r3).bind fun r4 =>
   pickC r4
   (((sIdx false 1 s2.k3 s2.k4).bind fun e5 =>
     (sBin .neq e5 (SVal.cell s2.k1 0)).bind fun r6 =>
     guardX r6 true
     ((sIdx false 1 s2.k3 s2.k4).bind fun e7 =>
      (T 32 [(weak (SVal.cell s2.k0 0)), e7, (SVal.cell s2.k1 0)]).bind fun r8 =>
      (asB r8.r).bind fun b9 =>
      some [b9])
     (some [false])
     (none)).bind fun vs10 =>
    pickC (.bool (vs10.getD 0 false))
    ((sIdx false 1 s2.k3 s2.k4).bind fun e11 =>
     (T 17 [(weak (SVal.cell s2.k0 0)), (SVal.cell s2.k1 1)]).bind fun r12 =>
     pickC r12.r
     ((sIdx false 1 s2.k3 s2.k4).bind fun e13 =>
      (T 32 [(weak (SVal.cell s2.k0 0)), e13, (SVal.cell s2.k1 1)]).bind fun r14 =>
      pickC r14.r
      ((sIdx false 1 s2.k3 s2.k4).bind fun e15 =>
       (sBin .add s2.k4 (.int .i64 1)).bind fun r16 =>
       next2 ⟨[(.rp [(SVal.cell s2.k0 0), (SVal.cell s2.k0 1), (SVal.cell s2.k0 2), (SVal.cell s2.k0 3), (SVal.cell s2.k0 4)]), (.rp [(SVal.cell s2.k1 0), (SVal.cell s2.k1 1)]), e15, (weak s2.k3), r16], [], false⟩)
      ((sBin .add s2.k4 (.int .i64 1)).bind fun r17 =>
       next2 ⟨[(.rp [(SVal.cell s2.k0 0), (SVal.cell s2.k0 1), (SVal.cell s2.k0 2), (SVal.cell s2.k0 3), (SVal.cell s2.k0 4)]), (.rp [(SVal.cell s2.k1 0), (SVal.cell s2.k1 1)]), e11, (weak s2.k3), r17], [], false⟩))
     ((sBin .add s2.k4 (.int .i64 1)).bind fun r18 =>
      next2 ⟨[(.rp [(SVal.cell s2.k0 0), (SVal.cell s2.k0 1), (SVal.cell s2.k0 2), (SVal.cell s2.k0 3), (SVal.cell s2.k0 4)]), (.rp [(SVal.cell s2.k1 0), (SVal.cell s2.k1 1)]), e11, (weak s2.k3), r18], [], false⟩))
    ((T 17 [(weak (SVal.cell s2.k0 0)), (SVal.cell s2.k1 1)]).bind fun r19 =>
     pickC r19.r
     ((sIdx false 1 s2.k3 s2.k4).bind fun e20 =>
      (T 32 [(weak (SVal.cell s2.k0 0)), e20, (SVal.cell s2.k1 1)]).bind fun r21 =>
      pickC r21.r
      ((sIdx false 1 s2.k3 s2.k4).bind fun e22 =>
       (sBin .add s2.k4 (.int .i64 1)).bind fun r23 =>
       next2 ⟨[(.rp [(SVal.cell s2.k0 0), (SVal.cell s2.k0 1), (SVal.cell s2.k0 2), (SVal.cell s2.k0 3), (SVal.cell s2.k0 4)]), (.rp [(SVal.cell s2.k1 0), (SVal.cell s2.k1 1)]), e22, (weak s2.k3), r23], [], false⟩)
      ((sBin .add s2.k4 (.int .i64 1)).bind fun r24 =>
       next2 ⟨[(.rp [(SVal.cell s2.k0 0), (SVal.cell s2.k0 1), (SVal.cell s2.k0 2), (SVal.cell s2.k0 3), (SVal.cell s2.k0 4)]), (.rp [(SVal.cell s2.k1 0), (SVal.cell s2.k1 1)]), s2.k2, (weak s2.k3), r24], [], false⟩))
     ((sBin .add s2.k4 (.int .i64 1)).bind fun r25 =>
      next2 ⟨[(.rp [(SVal.cell s2.k0 0), (SVal.cell s2.k0 1), (SVal.cell s2.k0 2), (SVal.cell s2.k0 3), (SVal.cell s2.k0 4)]), (.rp [(SVal.cell s2.k1 0), (SVal.cell s2.k1 1)]), s2.k2, (weak s2.k3), r25], [], false⟩)))
   (some { r := s2.k2 })) k ⟨[(.rp [x0a, x0b, x0c, x0d, x0e]), (.rp [x1a, x1b]), (.int .i64 (-1)), (weak r1.r), (.int .i64 0)], [], false⟩
theorem r24 (T : Nat → List SVal → Option Res) (k : Nat) (x0a : SVal) (x0b : SVal) (x0c : SVal) (x0d : SVal) (x0e : SVal) (x1a : SVal) (x1b : SVal) : bodyE P H T k 24 [(.agg [x0a, x0b, x0c, x0d, x0e]), (.agg [x1a, x1b])] = R24 T k x0a x0b x0c x0d x0e x1a x1b := by kernel_rfl
noncomputable def D24 (T : Nat → List SVal → Option Res) (k : Nat) : List SVal → Option Res
  | [(.agg [x0a, x0b, x0c, x0d, x0e]), (.agg [x1a, x1b])] => R24 T k x0a x0b x0c x0d x0e x1a x1b
  | a => bodyE P H T k 24 a
theorem d24 (T : Nat → List SVal → Option Res) (k : Nat) (a : List SVal) : D24 T k a = bodyE P H T k 24 a := by
  unfold D24
  split
  · exact (r24 ..).symm
  · rfl
theorem t24 (k : Nat) (x0a : SVal) (x0b : SVal) (x0c : SVal) (x0d : SVal) (x0e : SVal) (x1a : SVal) (x1b : SVal) : T (k + 1) 24 [(.agg [x0a, x0b, x0c, x0d, x0e]), (.agg [x1a, x1b])] = R24 (T k) k x0a x0b x0c x0d x0e x1a x1b := (by kernel_rfl : T (k + 1) 24 [(.agg [x0a, x0b, x0c, x0d, x0e]), (.agg [x1a, x1b])] = bodyE P H (T k) k 24 [(.agg [x0a, x0b, x0c, x0d, x0e]), (.agg [x1a, x1b])]).trans (r24 ..)
/-- limelight/limelightref01.Ints -/
def R25 (T : Nat → List SVal → Option Res) (k : Nat) (x0 : SVal) (x1 : SVal) : Option Res :=
  (sLen x0).bind fun r1 =>
  (sLen x1).bind fun r2 =>
  (sBin .neq r1 r2).bind fun r3 =>
  pickC r3
  (some { r := (.bool false) })
  (loopN (fun s4 next4 =>
    (sLen s4.k0).bind fun r5 =>
    (sBin .lss s4.k2 r5).bind fun r6 =>
    pickC r6
    ((sIdx false 1 s4.k0 s4.k2).bind fun e7 =>
     (sIdx false 1 s4.k1 s4.k2).bind fun e8 =>
     (sBin .neq e7 e8).bind fun r9 =>
     pickC r9
     (some { r := (.bool false) })
     ((sBin .add s4.k2 (.int .i64 1)).bind fun r10 =>
      next4 ⟨[(weak s4.k0), (weak s4.k1), r10], [], false⟩))
    (some { r := (.bool true) })) k ⟨[(weak x0), (weak x1), (.int .i64 0)], [], false⟩)
theorem r25 (T : Nat → List SVal → Option Res) (k : Nat) (x0 : SVal) (x1 : SVal) : bodyE P H T k 25 [x0, x1] = R25 T k x0 x1 := by kernel_rfl
noncomputable def D25 (T : Nat → List SVal → Option Res) (k : Nat) : List SVal → Option Res
  | [x0, x1] => R25 T k x0 x1
  | a => bodyE P H T k 25 a
theorem d25 (T : Nat → List SVal → Option Res) (k : Nat) (a : List SVal) : D25 T k a = bodyE P H T k 25 a := by
  unfold D25
  split
  · exact (r25 ..).symm
  · rfl
theorem t25 (k : Nat) (x0 : SVal) (x1 : SVal) : T (k + 1) 25 [x0, x1] = R25 (T k) k x0 x1 := (by kernel_rfl : T (k + 1) 25 [x0, x1] = bodyE P H (T k) k 25 [x0, x1]).trans (r25 ..)
/-- limelight/limelightref19.Before -/
def R26 (T : Nat → List SVal → Option Res) (k : Nat) (x0a : SVal) (x0b : SVal) (x0c : SVal) (x0d : SVal) (x0e : SVal) (x1a : SVal) (x1b : SVal) : Option Res :=
  (T 23 [(.agg [(weak x0a), (weak x0b), (weak x0c), (weak x0d), (weak x0e)]), x1a]).bind fun r1 =>
  ((sBin .neq r1.r (.int .i64 1)).bind fun r2 =>
   guardX r2 true
   ((sBin .neq r1.r (.int .i64 2)).bind fun r3 =>
    (asB r3).bind fun b4 =>
    some [b4])
   (some [false])
   (none)).bind fun vs5 =>
  pickC (.bool (vs5.getD 0 false))
  (some { r := (.sl 1 false false []) })
  ((T 33 [(.agg [(weak x0a), (weak x0b), (weak x0c), (weak x0d), (weak x0e)])]).bind fun r6 =>
   (T 24 [(.agg [(weak x0a), (weak x0b), (weak x0c), (weak x0d), (weak x0e)]), (.agg [x1a, x1b])]).bind fun r7 =>
   (T 67 [(weak r6.r), r7.r]).bind fun r8 =>
   loopN (fun s9 next9 =>
    (sLen s9.k4).bind fun r10 =>
    (sBin .lss s9.k5 r10).bind fun r11 =>
    pickC r11
    (((sIdx false 1 s9.k4 s9.k5).bind fun e12 =>
      (sBin .neq e12 (SVal.cell s9.k1 0)).bind fun r13 =>
      guardX r13 true
      ((sBin .eql s9.k3 (.int .i64 1)).bind fun r14 =>
       guardX r14 false
       ((sIdx false 1 s9.k4 s9.k5).bind fun e15 =>
        (T 23 [(.agg [(weak (SVal.cell s9.k0 0)), (weak (SVal.cell s9.k0 1)), (weak (SVal.cell s9.k0 2)), (weak (SVal.cell s9.k0 3)), (weak (SVal.cell s9.k0 4))]), e15]).bind fun r16 =>
        (sBin .eql r16.r (.int .i64 2)).bind fun r17 =>
        (asB r17).bind fun b18 =>
        some [b18])
       (some [true])
       (none))
      (some [false])
      (none)).bind fun vs19 =>
     pickC (.bool (vs19.getD 0 false))
     ((sIdx false 1 s9.k4 s9.k5).bind fun e20 =>
      if (List.all [[.v e20]] allOne) = true then
      if (s9.k2.xs.length + ([e20] : List SVal).length) * 8 ≤ maxAppend then
      (sBin .add s9.k5 (.int .i64 1)).bind fun r21 =>
      next9 ⟨[(.rp [(SVal.cell s9.k0 0), (SVal.cell s9.k0 1), (SVal.cell s9.k0 2), (SVal.cell s9.k0 3), (SVal.cell s9.k0 4)]), (.rp [(SVal.cell s9.k1 0), (SVal.cell s9.k1 1)]), (.sl 1 true false (s9.k2.xs ++ ([e20] : List SVal))), s9.k3, (weak s9.k4), r21], [], false⟩
      else none
      else none)
     ((sBin .add s9.k5 (.int .i64 1)).bind fun r22 =>
      next9 ⟨[(.rp [(SVal.cell s9.k0 0), (SVal.cell s9.k0 1), (SVal.cell s9.k0 2), (SVal.cell s9.k0 3), (SVal.cell s9.k0 4)]), (.rp [(SVal.cell s9.k1 0), (SVal.cell s9.k1 1)]), (.sl 1 true false s9.k2.xs), s9.k3, (weak s9.k4), r22], [], false⟩))
    (some { r := (.sl 1 false false s9.k2.xs) })) k ⟨[(.rp [x0a, x0b, x0c, x0d, x0e]), (.rp [x1a, x1b]), (.sl 1 true false []), r1.r, (weak r8.r), (.int .i64 0)], [], false⟩)
theorem r26 (T : Nat → List SVal → Option Res) (k : Nat) (x0a : SVal) (x0b : SVal) (x0c : SVal) (x0d : SVal) (x0e : SVal) (x1a : SVal) (x1b : SVal) : bodyE P H T k 26 [(.agg [x0a, x0b, x0c, x0d, x0e]), (.agg [x1a, x1b])] = R26 T k x0a x0b x0c x0d x0e x1a x1b := by kernel_rfl
noncomputable def D26 (T : Nat → List SVal → Option Res) (k : Nat) : List SVal → Option Res
  | [(.agg [x0a, x0b, x0c, x0d, x0e]), (.agg [x1a, x1b])] => R26 T k x0a x0b x0c x0d x0e x1a x1b
  | a => bodyE P H T k 26 a
theorem d26 (T : Nat → List SVal → Option Res) (k : Nat) (a : List SVal) : D26 T k a = bodyE P H T k 26 a := by
  unfold D26
  split
  · exact (r26 ..).symm
  · rfl
theorem t26 (k : Nat) (x0a : SVal) (x0b : SVal) (x0c : SVal) (x0d : SVal) (x0e : SVal) (x1a : SVal) (x1b : SVal) : T (k + 1) 26 [(.agg [x0a, x0b, x0c, x0d, x0e]), (.agg [x1a, x1b])] = R26 (T k) k x0a x0b x0c x0d x0e x1a x1b := (by kernel_rfl : T (k + 1) 26 [(.agg [x0a, x0b, x0c, x0d, x0e]), (.agg [x1a, x1b])] = bodyE P H (T k) k 26 [(.agg [x0a, x0b, x0c, x0d, x0e]), (.agg [x1a, x1b])]).trans (r26 ..)
/-- limelight/limelightref19.Above -/
def R27 (T : Nat → List SVal → Option Res) (k : Nat) (x0a : SVal) (x0b : SVal) (x0c : SVal) (x0d : SVal) (x0e : SVal) (x1 : SVal) : Option Res :=
  (T 33 [(.agg [(weak x0a), (weak x0b), (weak x0c), (weak x0d), (weak x0e)])]).bind fun r1 =>
  (T 30 [(weak r1.r), x1]).bind fun r2 =>
  if isSc1 r2.r = true then
  (sNot r2.r).bind fun r3 =>
  pickC r3
  (some { r := (.sl 1 false false []) })
  ((T 67 [(weak r1.r), x1]).bind fun r4 =>
   some { r := (weak r4.r) })
  else none
theorem r27 (T : Nat → List SVal → Option Res) (k : Nat) (x0a : SVal) (x0b : SVal) (x0c : SVal) (x0d : SVal) (x0e : SVal) (x1 : SVal) : bodyE P H T k 27 [(.agg [x0a, x0b, x0c, x0d, x0e]), x1] = R27 T k x0a x0b x0c x0d x0e x1 := by kernel_rfl
noncomputable def D27 (T : Nat → List SVal → Option Res) (k : Nat) : List SVal → Option Res
  | [(.agg [x0a, x0b, x0c, x0d, x0e]), x1] => R27 T k x0a x0b x0c x0d x0e x1
  | a => bodyE P H T k 27 a
theorem d27 (T : Nat → List SVal → Option Res) (k : Nat) (a : List SVal) : D27 T k a = bodyE P H T k 27 a := by
  unfold D27
  split
  · exact (r27 ..).symm
  · rfl
theorem t27 (k : Nat) (x0a : SVal) (x0b : SVal) (x0c : SVal) (x0d : SVal) (x0e : SVal) (x1 : SVal) : T (k + 1) 27 [(.agg [x0a, x0b, x0c, x0d, x0e]), x1] = R27 (T k) k x0a x0b x0c x0d x0e x1 := (by kernel_rfl : T (k + 1) 27 [(.agg [x0a, x0b, x0c, x0d, x0e]), x1] = bodyE P H (T k) k 27 [(.agg [x0a, x0b, x0c, x0d, x0e]), x1]).trans (r27 ..)
/-- limelight/limelightref19.Light -/
def R28 (T : Nat → List SVal → Option Res) (k : Nat) (x0a : SVal) (x0b : SVal) (x0c : SVal) (x0d : SVal) (x0e : SVal) (x1 : SVal) : Option Res :=
  (T 33 [(.agg [(weak x0a), (weak x0b), (weak x0c), (weak x0d), (weak x0e)])]).bind fun r1 =>
  loopN (fun s2 next2 =>
   (sLen s2.k2).bind fun r3 =>
   (sBin .lss s2.k4 r3).bind fun r4 =>
   pickC r4
   ((sIdx false 1 s2.k2 s2.k4).bind fun e5 =>
    (T 32 [(weak (SVal.cell s2.k1 0)), e5, s2.k0]).bind fun r6 =>
    pickC r6.r
    ((sIdx false 1 s2.k2 s2.k4).bind fun e7 =>
     (sBin .add s2.k4 (.int .i64 1)).bind fun r8 =>
     next2 ⟨[s2.k0, (.rp [(SVal.cell s2.k1 0), (SVal.cell s2.k1 1), (SVal.cell s2.k1 2), (SVal.cell s2.k1 3), (SVal.cell s2.k1 4)]), (weak s2.k2), e7, r8], [], false⟩)
    ((sBin .add s2.k4 (.int .i64 1)).bind fun r9 =>
     next2 ⟨[s2.k0, (.rp [(SVal.cell s2.k1 0), (SVal.cell s2.k1 1), (SVal.cell s2.k1 2), (SVal.cell s2.k1 3), (SVal.cell s2.k1 4)]), (weak s2.k2), s2.k3, r9], [], false⟩))
   ((T 67 [(weak s2.k2), s2.k3]).bind fun r10 =>
    some { r := (weak r10.r) })) k ⟨[x1, (.rp [x0a, x0b, x0c, x0d, x0e]), (weak r1.r), (.int .i64 (-1)), (.int .i64 0)], [], false⟩
theorem r28 (T : Nat → List SVal → Option Res) (k : Nat) (x0a : SVal) (x0b : SVal) (x0c : SVal) (x0d : SVal) (x0e : SVal) (x1 : SVal) : bodyE P H T k 28 [(.agg [x0a, x0b, x0c, x0d, x0e]), x1] = R28 T k x0a x0b x0c x0d x0e x1 := by kernel_rfl
noncomputable def D28 (T : Nat → List SVal → Option Res) (k : Nat) : List SVal → Option Res
  | [(.agg [x0a, x0b, x0c, x0d, x0e]), x1] => R28 T k x0a x0b x0c x0d x0e x1
  | a => bodyE P H T k 28 a
theorem d28 (T : Nat → List SVal → Option Res) (k : Nat) (a : List SVal) : D28 T k a = bodyE P H T k 28 a := by
  unfold D28
  split
  · exact (r28 ..).symm
  · rfl
theorem t28 (k : Nat) (x0a : SVal) (x0b : SVal) (x0c : SVal) (x0d : SVal) (x0e : SVal) (x1 : SVal) : T (k + 1) 28 [(.agg [x0a, x0b, x0c, x0d, x0e]), x1] = R28 (T k) k x0a x0b x0c x0d x0e x1 := (by kernel_rfl : T (k + 1) 28 [(.agg [x0a, x0b, x0c, x0d, x0e]), x1] = bodyE P H (T k) k 28 [(.agg [x0a, x0b, x0c, x0d, x0e]), x1]).trans (r28 ..)
/-- limelight/limelightref10.Nodes -/
def R29 (T : Nat → List SVal → Option Res) (k : Nat) (x0 : SVal) : Option Res :=
  loopN (fun s1 next1 =>
   (sLen s1.k0).bind fun r2 =>
   (sBin .lss s1.k2 r2).bind fun r3 =>
   pickC r3
   ((sIdx true 2 s1.k0 s1.k2).bind fun e4 =>
    if (List.all [[.v (SVal.cell e4 0)]] allOne) = true then
    if (s1.k1.xs.length + ([(SVal.cell e4 0)] : List SVal).length) * 8 ≤ maxAppend then
    (sBin .add s1.k2 (.int .i64 1)).bind fun r5 =>
    next1 ⟨[(weak s1.k0), (.sl 1 true false (s1.k1.xs ++ ([(SVal.cell e4 0)] : List SVal))), r5], [], false⟩
    else none
    else none)
   (some { r := (.sl 1 false false s1.k1.xs) })) k ⟨[(weak x0), (.sl 1 true false []), (.int .i64 0)], [], false⟩
theorem r29 (T : Nat → List SVal → Option Res) (k : Nat) (x0 : SVal) : bodyE P H T k 29 [x0] = R29 T k x0 := by kernel_rfl
noncomputable def D29 (T : Nat → List SVal → Option Res) (k : Nat) : List SVal → Option Res
  | [x0] => R29 T k x0
  | a => bodyE P H T k 29 a
theorem d29 (T : Nat → List SVal → Option Res) (k : Nat) (a : List SVal) : D29 T k a = bodyE P H T k 29 a := by
  unfold D29
  split
  · exact (r29 ..).symm
  · rfl
theorem t29 (k : Nat) (x0 : SVal) : T (k + 1) 29 [x0] = R29 (T k) k x0 := (by kernel_rfl : T (k + 1) 29 [x0] = bodyE P H (T k) k 29 [x0]).trans (r29 ..)
/-- limelight/limelightref03.In -/
def R30 (T : Nat → List SVal → Option Res) (k : Nat) (x0 : SVal) (x1 : SVal) : Option Res :=
  (T 31 [(weak x0), x1]).bind fun r1 =>
  (sBin .geq r1.r (.int .i64 0)).bind fun r2 =>
  some { r := r2 }
theorem r30 (T : Nat → List SVal → Option Res) (k : Nat) (x0 : SVal) (x1 : SVal) : bodyE P H T k 30 [x0, x1] = R30 T k x0 x1 := by kernel_rfl
noncomputable def D30 (T : Nat → List SVal → Option Res) (k : Nat) : List SVal → Option Res
  | [x0, x1] => R30 T k x0 x1
  | a => bodyE P H T k 30 a
theorem d30 (T : Nat → List SVal → Option Res) (k : Nat) (a : List SVal) : D30 T k a = bodyE P H T k 30 a := by
  unfold D30
  split
  · exact (r30 ..).symm
  · rfl
theorem t30 (k : Nat) (x0 : SVal) (x1 : SVal) : T (k + 1) 30 [x0, x1] = R30 (T k) k x0 x1 := (by kernel_rfl : T (k + 1) 30 [x0, x1] = bodyE P H (T k) k 30 [x0, x1]).trans (r30 ..)
/-- limelight/limelightref03.Place -/
def R31 (T : Nat → List SVal → Option Res) (k : Nat) (x0 : SVal) (x1 : SVal) : Option Res :=
  loopN (fun s1 next1 =>
   (sLen s1.k0).bind fun r2 =>
   (sBin .lss s1.k2 r2).bind fun r3 =>
   pickC r3
   ((sIdx false 1 s1.k0 s1.k2).bind fun e4 =>
    (sBin .eql e4 s1.k1).bind fun r5 =>
    pickC r5
    (some { r := s1.k2 })
    ((sBin .add s1.k2 (.int .i64 1)).bind fun r6 =>
     next1 ⟨[(weak s1.k0), s1.k1, r6], [], false⟩))
   (some { r := (.int .i64 (-1)) })) k ⟨[(weak x0), x1, (.int .i64 0)], [], false⟩
theorem r31 (T : Nat → List SVal → Option Res) (k : Nat) (x0 : SVal) (x1 : SVal) : bodyE P H T k 31 [x0, x1] = R31 T k x0 x1 := by kernel_rfl
noncomputable def D31 (T : Nat → List SVal → Option Res) (k : Nat) : List SVal → Option Res
  | [x0, x1] => R31 T k x0 x1
  | a => bodyE P H T k 31 a
theorem d31 (T : Nat → List SVal → Option Res) (k : Nat) (a : List SVal) : D31 T k a = bodyE P H T k 31 a := by
  unfold D31
  split
  · exact (r31 ..).symm
  · rfl
theorem t31 (k : Nat) (x0 : SVal) (x1 : SVal) : T (k + 1) 31 [x0, x1] = R31 (T k) k x0 x1 := (by kernel_rfl : T (k + 1) 31 [x0, x1] = bodyE P H (T k) k 31 [x0, x1]).trans (r31 ..)
/-- limelight/limelightref06.Above -/
def R32 (T : Nat → List SVal → Option Res) (k : Nat) (x0 : SVal) (x1 : SVal) (x2 : SVal) : Option Res :=
  (T 68 [(weak x0), x2]).bind fun r1 =>
  (T 30 [(weak r1.r), x1]).bind fun r2 =>
  if isSc1 r2.r = true then
  some { r := r2.r }
  else none
theorem r32 (T : Nat → List SVal → Option Res) (k : Nat) (x0 : SVal) (x1 : SVal) (x2 : SVal) : bodyE P H T k 32 [x0, x1, x2] = R32 T k x0 x1 x2 := by kernel_rfl
noncomputable def D32 (T : Nat → List SVal → Option Res) (k : Nat) : List SVal → Option Res
  | [x0, x1, x2] => R32 T k x0 x1 x2
  | a => bodyE P H T k 32 a
theorem d32 (T : Nat → List SVal → Option Res) (k : Nat) (a : List SVal) : D32 T k a = bodyE P H T k 32 a := by
  unfold D32
  split
  · exact (r32 ..).symm
  · rfl
theorem t32 (k : Nat) (x0 : SVal) (x1 : SVal) (x2 : SVal) : T (k + 1) 32 [x0, x1, x2] = R32 (T k) k x0 x1 x2 := (by kernel_rfl : T (k + 1) 32 [x0, x1, x2] = bodyE P H (T k) k 32 [x0, x1, x2]).trans (r32 ..)
/-- limelight/limelightref19.Stack -/
def R33 (T : Nat → List SVal → Option Res) (k : Nat) (x0a : SVal) (x0b : SVal) (x0c : SVal) (x0d : SVal) (x0e : SVal) : Option Res :=
  loopN (fun s1 next1 =>
   (sBin .leq s1.k2 (.int .i64 2)).bind fun r2 =>
   pickC r2
   (loopN (fun s3 next3 =>
     (sLen (SVal.cell s3.k0 3)).bind fun r4 =>
     (sBin .lss s3.k3 r4).bind fun r5 =>
     pickC r5
     ((sIdx true 2 (SVal.cell s3.k0 3) s3.k3).bind fun e6 =>
      (T 23 [(.agg [(weak (SVal.cell s3.k0 0)), (weak (SVal.cell s3.k0 1)), (weak (SVal.cell s3.k0 2)), (weak (SVal.cell s3.k0 3)), (weak (SVal.cell s3.k0 4))]), (SVal.cell e6 0)]).bind fun r7 =>
      (sBin .eql r7.r s3.k2).bind fun r8 =>
      pickC r8
      ((sIdx true 2 (SVal.cell s3.k0 3) s3.k3).bind fun e9 =>
       if (List.all [[.v (SVal.cell e9 0)]] allOne) = true then
       if (s3.k1.xs.length + ([(SVal.cell e9 0)] : List SVal).length) * 8 ≤ maxAppend then
       (sBin .add s3.k3 (.int .i64 1)).bind fun r10 =>
       next3 ⟨[(.rp [(SVal.cell s3.k0 0), (SVal.cell s3.k0 1), (SVal.cell s3.k0 2), (SVal.cell s3.k0 3), (SVal.cell s3.k0 4)]), (.sl 1 true false (s3.k1.xs ++ ([(SVal.cell e9 0)] : List SVal))), s3.k2, r10], [], false⟩
       else none
       else none)
      ((sBin .add s3.k3 (.int .i64 1)).bind fun r11 =>
       next3 ⟨[(.rp [(SVal.cell s3.k0 0), (SVal.cell s3.k0 1), (SVal.cell s3.k0 2), (SVal.cell s3.k0 3), (SVal.cell s3.k0 4)]), (.sl 1 true false s3.k1.xs), s3.k2, r11], [], false⟩))
     ((sBin .add s3.k2 (.int .i64 1)).bind fun r12 =>
      next1 ⟨[(.rp [(SVal.cell s3.k0 0), (SVal.cell s3.k0 1), (SVal.cell s3.k0 2), (SVal.cell s3.k0 3), (SVal.cell s3.k0 4)]), (.sl 1 true false s3.k1.xs), r12], [], false⟩)) k ⟨[(.rp [(SVal.cell s1.k0 0), (SVal.cell s1.k0 1), (SVal.cell s1.k0 2), (SVal.cell s1.k0 3), (SVal.cell s1.k0 4)]), (.sl 1 true false s1.k1.xs), s1.k2, (.int .i64 0)], [], false⟩)
   (some { r := (.sl 1 false false s1.k1.xs) })) k ⟨[(.rp [x0a, x0b, x0c, x0d, x0e]), (.sl 1 true false []), (.int .i64 1)], [], false⟩
theorem r33 (T : Nat → List SVal → Option Res) (k : Nat) (x0a : SVal) (x0b : SVal) (x0c : SVal) (x0d : SVal) (x0e : SVal) : bodyE P H T k 33 [(.agg [x0a, x0b, x0c, x0d, x0e])] = R33 T k x0a x0b x0c x0d x0e := by kernel_rfl
noncomputable def D33 (T : Nat → List SVal → Option Res) (k : Nat) : List SVal → Option Res
  | [(.agg [x0a, x0b, x0c, x0d, x0e])] => R33 T k x0a x0b x0c x0d x0e
  | a => bodyE P H T k 33 a
theorem d33 (T : Nat → List SVal → Option Res) (k : Nat) (a : List SVal) : D33 T k a = bodyE P H T k 33 a := by
  unfold D33
  split
  · exact (r33 ..).symm
  · rfl
theorem t33 (k : Nat) (x0a : SVal) (x0b : SVal) (x0c : SVal) (x0d : SVal) (x0e : SVal) : T (k + 1) 33 [(.agg [x0a, x0b, x0c, x0d, x0e])] = R33 (T k) k x0a x0b x0c x0d x0e := (by kernel_rfl : T (k + 1) 33 [(.agg [x0a, x0b, x0c, x0d, x0e])] = bodyE P H (T k) k 33 [(.agg [x0a, x0b, x0c, x0d, x0e])]).trans (r33 ..)
/-- limelight/limelightlaw13.live -/
def R34 (T : Nat → List SVal → Option Res) (k : Nat) : Option Res :=
  (T 35 [(.sl 7 false false [(.agg [(.int .i64 0), (.int .i64 0), (.int .i64 (-1)), (.sl 1 false false [(.int .i64 1), (.int .i64 2), (.int .i64 3), (.int .i64 4)]), (.int .i64 (-1)), (.int .i64 (-1)), (.sl 2 false false [])]), (.agg [(.int .i64 1), (.int .i64 1), (.int .i64 0), (.sl 1 false false []), (.int .i64 (-1)), (.int .i64 (-1)), (.sl 2 false false [(.agg [(.int .i64 0), (.int .i64 (-1))])])]), (.agg [(.int .i64 1), (.int .i64 0), (.int .i64 0), (.sl 1 false false []), (.int .i64 (-1)), (.int .i64 (-1)), (.sl 2 false false [(.agg [(.int .i64 0), (.int .i64 0)])])]), (.agg [(.int .i64 1), (.int .i64 1), (.int .i64 0), (.sl 1 false false []), (.int .i64 (-1)), (.int .i64 (-1)), (.sl 2 false false [(.agg [(.int .i64 1), (.int .i64 0)])])]), (.agg [(.int .i64 1), (.int .i64 0), (.int .i64 0), (.sl 1 false false []), (.int .i64 (-1)), (.int .i64 (-1)), (.sl 2 false false [])])]), (.int .i64 1)]).bind fun r1 =>
  (T 35 [(.sl 7 false false [(.agg [(.int .i64 0), (.int .i64 0), (.int .i64 (-1)), (.sl 1 false false [(.int .i64 1), (.int .i64 2), (.int .i64 3), (.int .i64 4)]), (.int .i64 (-1)), (.int .i64 (-1)), (.sl 2 false false [])]), (.agg [(.int .i64 1), (.int .i64 1), (.int .i64 0), (.sl 1 false false []), (.int .i64 (-1)), (.int .i64 (-1)), (.sl 2 false false [(.agg [(.int .i64 0), (.int .i64 (-1))])])]), (.agg [(.int .i64 1), (.int .i64 0), (.int .i64 0), (.sl 1 false false []), (.int .i64 (-1)), (.int .i64 (-1)), (.sl 2 false false [(.agg [(.int .i64 0), (.int .i64 0)])])]), (.agg [(.int .i64 1), (.int .i64 1), (.int .i64 0), (.sl 1 false false []), (.int .i64 (-1)), (.int .i64 (-1)), (.sl 2 false false [(.agg [(.int .i64 1), (.int .i64 0)])])]), (.agg [(.int .i64 1), (.int .i64 0), (.int .i64 0), (.sl 1 false false []), (.int .i64 (-1)), (.int .i64 (-1)), (.sl 2 false false [])])]), (.int .i64 4)]).bind fun r2 =>
  ((T 44 [(.agg [(.sl 7 false false [(.agg [(.int .i64 0), (.int .i64 0), (.int .i64 (-1)), (.sl 1 false false [(.int .i64 1), (.int .i64 2), (.int .i64 3), (.int .i64 4)]), (.int .i64 (-1)), (.int .i64 (-1)), (.sl 2 false false [])]), (.agg [(.int .i64 1), (.int .i64 1), (.int .i64 0), (.sl 1 false false []), (.int .i64 (-1)), (.int .i64 (-1)), (.sl 2 false false [(.agg [(.int .i64 0), (.int .i64 (-1))])])]), (.agg [(.int .i64 1), (.int .i64 0), (.int .i64 0), (.sl 1 false false []), (.int .i64 (-1)), (.int .i64 (-1)), (.sl 2 false false [(.agg [(.int .i64 0), (.int .i64 0)])])]), (.agg [(.int .i64 1), (.int .i64 1), (.int .i64 0), (.sl 1 false false []), (.int .i64 (-1)), (.int .i64 (-1)), (.sl 2 false false [(.agg [(.int .i64 1), (.int .i64 0)])])]), (.agg [(.int .i64 1), (.int .i64 0), (.int .i64 0), (.sl 1 false false []), (.int .i64 (-1)), (.int .i64 (-1)), (.sl 2 false false [])])]), (.sl 1 false false []), (.sl 1 false false []), (.sl 2 false false []), (.sl 1 false false [])])]).bind fun r3 =>
   (T 25 [(weak r3.r), (.sl 1 false false [(.int .i64 1), (.int .i64 2)])]).bind fun r4 =>
   guardX r4.r true
   ((T 37 [(.agg [(.sl 7 false false [(.agg [(.int .i64 0), (.int .i64 0), (.int .i64 (-1)), (.sl 1 false false [(.int .i64 1), (.int .i64 2), (.int .i64 3), (.int .i64 4)]), (.int .i64 (-1)), (.int .i64 (-1)), (.sl 2 false false [])]), (.agg [(.int .i64 1), (.int .i64 1), (.int .i64 0), (.sl 1 false false []), (.int .i64 (-1)), (.int .i64 (-1)), (.sl 2 false false [(.agg [(.int .i64 0), (.int .i64 (-1))])])]), (.agg [(.int .i64 1), (.int .i64 0), (.int .i64 0), (.sl 1 false false []), (.int .i64 (-1)), (.int .i64 (-1)), (.sl 2 false false [(.agg [(.int .i64 0), (.int .i64 0)])])]), (.agg [(.int .i64 1), (.int .i64 1), (.int .i64 0), (.sl 1 false false []), (.int .i64 (-1)), (.int .i64 (-1)), (.sl 2 false false [(.agg [(.int .i64 1), (.int .i64 0)])])]), (.agg [(.int .i64 1), (.int .i64 0), (.int .i64 0), (.sl 1 false false []), (.int .i64 (-1)), (.int .i64 (-1)), (.sl 2 false false [])])]), (.sl 1 false false []), (.sl 1 false false []), (.sl 2 false false []), (.sl 1 false false [])]), (.int .i64 1)]).bind fun r5 =>
    guardX r5.r true
    ((T 38 [(.agg [(.sl 7 false false [(.agg [(.int .i64 0), (.int .i64 0), (.int .i64 (-1)), (.sl 1 false false [(.int .i64 1), (.int .i64 2), (.int .i64 3), (.int .i64 4)]), (.int .i64 (-1)), (.int .i64 (-1)), (.sl 2 false false [])]), (.agg [(.int .i64 1), (.int .i64 1), (.int .i64 0), (.sl 1 false false []), (.int .i64 (-1)), (.int .i64 (-1)), (.sl 2 false false [(.agg [(.int .i64 0), (.int .i64 (-1))])])]), (.agg [(.int .i64 1), (.int .i64 0), (.int .i64 0), (.sl 1 false false []), (.int .i64 (-1)), (.int .i64 (-1)), (.sl 2 false false [(.agg [(.int .i64 0), (.int .i64 0)])])]), (.agg [(.int .i64 1), (.int .i64 1), (.int .i64 0), (.sl 1 false false []), (.int .i64 (-1)), (.int .i64 (-1)), (.sl 2 false false [(.agg [(.int .i64 1), (.int .i64 0)])])]), (.agg [(.int .i64 1), (.int .i64 0), (.int .i64 0), (.sl 1 false false []), (.int .i64 (-1)), (.int .i64 (-1)), (.sl 2 false false [])])]), (.sl 1 false false []), (.sl 1 false false []), (.sl 2 false false []), (.sl 1 false false [])]), (.int .i64 1)]).bind fun r6 =>
     (sNot r6.r).bind fun r7 =>
     guardX r7 true
     ((T 38 [(.agg [(.sl 7 false false [(.agg [(.int .i64 0), (.int .i64 0), (.int .i64 (-1)), (.sl 1 false false [(.int .i64 1), (.int .i64 2), (.int .i64 3), (.int .i64 4)]), (.int .i64 (-1)), (.int .i64 (-1)), (.sl 2 false false [])]), (.agg [(.int .i64 1), (.int .i64 1), (.int .i64 0), (.sl 1 false false []), (.int .i64 (-1)), (.int .i64 (-1)), (.sl 2 false false [(.agg [(.int .i64 0), (.int .i64 (-1))])])]), (.agg [(.int .i64 1), (.int .i64 0), (.int .i64 0), (.sl 1 false false []), (.int .i64 (-1)), (.int .i64 (-1)), (.sl 2 false false [(.agg [(.int .i64 0), (.int .i64 0)])])]), (.agg [(.int .i64 1), (.int .i64 1), (.int .i64 0), (.sl 1 false false []), (.int .i64 (-1)), (.int .i64 (-1)), (.sl 2 false false [(.agg [(.int .i64 1), (.int .i64 0)])])]), (.agg [(.int .i64 1), (.int .i64 0), (.int .i64 0), (.sl 1 false false []), (.int .i64 (-1)), (.int .i64 (-1)), (.sl 2 false false [])])]), (.sl 1 false false []), (.sl 1 false false []), (.sl 2 false false []), (.sl 1 false false [])]), (.int .i64 2)]).bind fun r8 =>
      guardX r8.r true
      ((T 39 [(.sl 7 false false [(.agg [(.int .i64 0), (.int .i64 0), (.int .i64 (-1)), (.sl 1 false false [(.int .i64 1), (.int .i64 2), (.int .i64 3), (.int .i64 4)]), (.int .i64 (-1)), (.int .i64 (-1)), (.sl 2 false false [])]), (.agg [(.int .i64 1), (.int .i64 1), (.int .i64 0), (.sl 1 false false []), (.int .i64 (-1)), (.int .i64 (-1)), (.sl 2 false false [(.agg [(.int .i64 0), (.int .i64 (-1))])])]), (.agg [(.int .i64 1), (.int .i64 0), (.int .i64 0), (.sl 1 false false []), (.int .i64 (-1)), (.int .i64 (-1)), (.sl 2 false false [(.agg [(.int .i64 0), (.int .i64 0)])])]), (.agg [(.int .i64 1), (.int .i64 1), (.int .i64 0), (.sl 1 false false []), (.int .i64 (-1)), (.int .i64 (-1)), (.sl 2 false false [(.agg [(.int .i64 1), (.int .i64 0)])])]), (.agg [(.int .i64 1), (.int .i64 0), (.int .i64 0), (.sl 1 false false []), (.int .i64 (-1)), (.int .i64 (-1)), (.sl 2 false false [])])]), (.int .i64 3)]).bind fun r9 =>
       guardX r9.r true
       ((T 37 [(.agg [(.sl 7 false false [(.agg [(.int .i64 0), (.int .i64 0), (.int .i64 (-1)), (.sl 1 false false [(.int .i64 1), (.int .i64 2), (.int .i64 3), (.int .i64 4)]), (.int .i64 (-1)), (.int .i64 (-1)), (.sl 2 false false [])]), (.agg [(.int .i64 1), (.int .i64 1), (.int .i64 0), (.sl 1 false false []), (.int .i64 (-1)), (.int .i64 (-1)), (.sl 2 false false [(.agg [(.int .i64 0), (.int .i64 (-1))])])]), (.agg [(.int .i64 1), (.int .i64 0), (.int .i64 0), (.sl 1 false false []), (.int .i64 (-1)), (.int .i64 (-1)), (.sl 2 false false [(.agg [(.int .i64 0), (.int .i64 0)])])]), (.agg [(.int .i64 1), (.int .i64 1), (.int .i64 0), (.sl 1 false false []), (.int .i64 (-1)), (.int .i64 (-1)), (.sl 2 false false [(.agg [(.int .i64 1), (.int .i64 0)])])]), (.agg [(.int .i64 1), (.int .i64 0), (.int .i64 0), (.sl 1 false false []), (.int .i64 (-1)), (.int .i64 (-1)), (.sl 2 false false [])])]), (.sl 1 false false []), (.sl 1 false false []), (.sl 2 false false []), (.sl 1 false false [])]), (.int .i64 3)]).bind fun r10 =>
        (sNot r10.r).bind fun r11 =>
        guardX r11 true
        ((sBin .eql r1.r.c0 (.int .i64 (-1))).bind fun r12 =>
         guardX r12 true
         (guardX r1.r.c1 true
          ((sNot r2.r.c1).bind fun r13 =>
           guardX r13 true
           ((T 40 [(.sl 7 false false [(.agg [(.int .i64 0), (.int .i64 0), (.int .i64 (-1)), (.sl 1 false false [(.int .i64 1), (.int .i64 2), (.int .i64 3), (.int .i64 4)]), (.int .i64 (-1)), (.int .i64 (-1)), (.sl 2 false false [])]), (.agg [(.int .i64 1), (.int .i64 1), (.int .i64 0), (.sl 1 false false []), (.int .i64 (-1)), (.int .i64 (-1)), (.sl 2 false false [(.agg [(.int .i64 0), (.int .i64 (-1))])])]), (.agg [(.int .i64 1), (.int .i64 0), (.int .i64 0), (.sl 1 false false []), (.int .i64 (-1)), (.int .i64 (-1)), (.sl 2 false false [(.agg [(.int .i64 0), (.int .i64 0)])])]), (.agg [(.int .i64 1), (.int .i64 1), (.int .i64 0), (.sl 1 false false []), (.int .i64 (-1)), (.int .i64 (-1)), (.sl 2 false false [(.agg [(.int .i64 1), (.int .i64 0)])])]), (.agg [(.int .i64 1), (.int .i64 0), (.int .i64 0), (.sl 1 false false []), (.int .i64 (-1)), (.int .i64 (-1)), (.sl 2 false false [])])]), (.int .i64 1)]).bind fun r14 =>
            (sNot r14.r).bind fun r15 =>
            guardX r15 true
            ((T 37 [(.agg [(.sl 7 false false [(.agg [(.int .i64 0), (.int .i64 0), (.int .i64 (-1)), (.sl 1 false false [(.int .i64 1), (.int .i64 2), (.int .i64 3), (.int .i64 4)]), (.int .i64 (-1)), (.int .i64 (-1)), (.sl 2 false false [])]), (.agg [(.int .i64 1), (.int .i64 1), (.int .i64 0), (.sl 1 false false []), (.int .i64 (-1)), (.int .i64 (-1)), (.sl 2 false false [(.agg [(.int .i64 0), (.int .i64 (-1))])])]), (.agg [(.int .i64 1), (.int .i64 0), (.int .i64 0), (.sl 1 false false []), (.int .i64 (-1)), (.int .i64 (-1)), (.sl 2 false false [(.agg [(.int .i64 0), (.int .i64 0)])])]), (.agg [(.int .i64 1), (.int .i64 1), (.int .i64 0), (.sl 1 false false []), (.int .i64 (-1)), (.int .i64 (-1)), (.sl 2 false false [(.agg [(.int .i64 1), (.int .i64 0)])])]), (.agg [(.int .i64 1), (.int .i64 0), (.int .i64 0), (.sl 1 false false []), (.int .i64 (-1)), (.int .i64 (-1)), (.sl 2 false false [])])]), (.sl 1 false false []), (.sl 1 false false []), (.sl 2 false false []), (.sl 1 false false [])]), (.int .i64 9)]).bind fun r16 =>
             (sNot r16.r).bind fun r17 =>
             (asB r17).bind fun b18 =>
             some [b18])
            (some [false])
            (none))
           (some [false])
           (none))
          (some [false])
          (none))
         (some [false])
         (none))
        (some [false])
        (none))
       (some [false])
       (none))
      (some [false])
      (none))
     (some [false])
     (none))
    (some [false])
    (none))
   (some [false])
   (none)).bind fun vs19 =>
  some { r := (.bool (vs19.getD 0 false)) }
theorem r34 (T : Nat → List SVal → Option Res) (k : Nat) : bodyE P H T k 34 [] = R34 T k  := by kernel_rfl
noncomputable def D34 (T : Nat → List SVal → Option Res) (k : Nat) : List SVal → Option Res
  | [] => R34 T k 
  | a => bodyE P H T k 34 a
theorem d34 (T : Nat → List SVal → Option Res) (k : Nat) (a : List SVal) : D34 T k a = bodyE P H T k 34 a := by
  unfold D34
  split
  · exact (r34 ..).symm
  · rfl
theorem t34 (k : Nat) : T (k + 1) 34 [] = R34 (T k) k  := (by kernel_rfl : T (k + 1) 34 [] = bodyE P H (T k) k 34 []).trans (r34 ..)
/-- limelight/area.Index -/
def R35 (T : Nat → List SVal → Option Res) (k : Nat) (x0 : SVal) (x1 : SVal) : Option Res :=
  (T 69 [(weak x0), x1]).bind fun r1 =>
  if (allOne [.v r1.r.c0.c0, .v r1.r.c0.c1, .v r1.r.c0.c2, .v r1.r.c0.c3, .v r1.r.c0.c4, .v r1.r.c0.c5]) = true then
  (sNot r1.r.c1).bind fun r2 =>
  pickC r2
  (some { r := (.tup [(.int .i64 0), (.bool false)]) })
  ((T 70 [(.agg [(weak r1.r.c0.c0), (weak r1.r.c0.c1), (weak r1.r.c0.c2), (weak r1.r.c0.c3), (weak r1.r.c0.c4), r1.r.c0.c5])]).bind fun r3 =>
   some { r := (.tup [r3.r.c0, r3.r.c1]) })
  else none
theorem r35 (T : Nat → List SVal → Option Res) (k : Nat) (x0 : SVal) (x1 : SVal) : bodyE P H T k 35 [x0, x1] = R35 T k x0 x1 := by kernel_rfl
noncomputable def D35 (T : Nat → List SVal → Option Res) (k : Nat) : List SVal → Option Res
  | [x0, x1] => R35 T k x0 x1
  | a => bodyE P H T k 35 a
theorem d35 (T : Nat → List SVal → Option Res) (k : Nat) (a : List SVal) : D35 T k a = bodyE P H T k 35 a := by
  unfold D35
  split
  · exact (r35 ..).symm
  · rfl
theorem t35 (k : Nat) (x0 : SVal) (x1 : SVal) : T (k + 1) 35 [x0, x1] = R35 (T k) k x0 x1 := (by kernel_rfl : T (k + 1) 35 [x0, x1] = bodyE P H (T k) k 35 [x0, x1]).trans (r35 ..)
end Go.Proofs.YtcehbmffbmhpfaaGreat.K
