/- What the evaluator makes of the functions, by program (wip/tr/resid.py); each equation is checked by the kernel. -/
import Derived.Test.YtcehbmffbmhpfaaGreatLmAK
import Derived.Test.YtcehbmffbmhpfaaGreatLmAB
import Derived.KernelRfl
set_option linter.unusedVariables false
set_option linter.unusedSimpArgs false
set_option linter.unnecessarySimpa false
set_option linter.all false
set_option maxRecDepth 100000
namespace Go.Proofs.YtcehbmffbmhpfaaGreat.K
open Go Go.Lm
/-- limelight/area.of -/
def R69 (T : Nat → List SVal → Option Res) (k : Nat) (x0 : SVal) (x1 : SVal) : Option Res :=
  if (1 ≤ 5 ∧ (oneS x0) = true) then
  if (6 ≤ 6 ∧ (oneS x1) = true) then
  (T 98 [(weak x0)]).bind fun r1 =>
  (sBin .eql r1.r (.int .i64 0)).bind fun r2 =>
  guardX r2 true
  ((sBin .geq x1 (.int .i64 0)).bind fun r3 =>
   guardX r3 true
   ((sLen x0).bind fun r4 =>
    (sBin .lss x1 r4).bind fun r5 =>
    if (allOne [.v x0, .v (.sl 1 false true []), .v (.sl 1 false true []), .v (.sl 2 false true []), .v (.sl 1 false true []), .v x1]) = true then
    some { r := (.tup [(.agg [(weak x0), (.sl 1 false false []), (.sl 1 false false []), (.sl 2 false false []), (.sl 1 false false []), x1]), r5]) }
    else none)
   (if (allOne [.v x0, .v (.sl 1 false true []), .v (.sl 1 false true []), .v (.sl 2 false true []), .v (.sl 1 false true []), .v x1]) = true then
    some { r := (.tup [(.agg [(weak x0), (.sl 1 false false []), (.sl 1 false false []), (.sl 2 false false []), (.sl 1 false false []), x1]), (.bool false)]) }
    else none)
   (none))
  (if (allOne [.v x0, .v (.sl 1 false true []), .v (.sl 1 false true []), .v (.sl 2 false true []), .v (.sl 1 false true []), .v x1]) = true then
   some { r := (.tup [(.agg [(weak x0), (.sl 1 false false []), (.sl 1 false false []), (.sl 2 false false []), (.sl 1 false false []), x1]), (.bool false)]) }
   else none)
  (none)
  else none
  else none
theorem r69 (T : Nat → List SVal → Option Res) (k : Nat) (x0 : SVal) (x1 : SVal) : bodyE P H T k 69 [x0, x1] = R69 T k x0 x1 := by kernel_rfl
noncomputable def D69 (T : Nat → List SVal → Option Res) (k : Nat) : List SVal → Option Res
  | [x0, x1] => R69 T k x0 x1
  | a => bodyE P H T k 69 a
theorem d69 (T : Nat → List SVal → Option Res) (k : Nat) (a : List SVal) : D69 T k a = bodyE P H T k 69 a := by
  unfold D69
  split
  · exact (r69 ..).symm
  · rfl
theorem t69 (k : Nat) (x0 : SVal) (x1 : SVal) : T (k + 1) 69 [x0, x1] = R69 (T k) k x0 x1 := (by kernel_rfl : T (k + 1) 69 [x0, x1] = bodyE P H (T k) k 69 [x0, x1]).trans (r69 ..)
/-- (limelight/area.node).index -/
def R70 (T : Nat → List SVal → Option Res) (k : Nat) (x0a : SVal) (x0b : SVal) (x0c : SVal) (x0d : SVal) (x0e : SVal) (x0f : SVal) : Option Res :=
  (T 56 [(weak x0a), x0f, (.int .i64 0)]).bind fun r1 =>
  guardX r1.r.c1 false
  ((T 99 [(.agg [(weak x0a), (weak x0b), (weak x0c), (weak x0d), (weak x0e), x0f]), (.int .i64 1)]).bind fun r2 =>
   guardX r2.r false
   ((T 99 [(.agg [(weak x0a), (weak x0b), (weak x0c), (weak x0d), (weak x0e), x0f]), (.int .i64 4)]).bind fun r3 =>
    some { r := (.tup [r1.r.c0, r3.r]) })
   (some { r := (.tup [r1.r.c0, (.bool true)]) })
   (none))
  (some { r := (.tup [r1.r.c0, (.bool true)]) })
  (none)
theorem r70 (T : Nat → List SVal → Option Res) (k : Nat) (x0a : SVal) (x0b : SVal) (x0c : SVal) (x0d : SVal) (x0e : SVal) (x0f : SVal) : bodyE P H T k 70 [(.agg [x0a, x0b, x0c, x0d, x0e, x0f])] = R70 T k x0a x0b x0c x0d x0e x0f := by kernel_rfl
noncomputable def D70 (T : Nat → List SVal → Option Res) (k : Nat) : List SVal → Option Res
  | [(.agg [x0a, x0b, x0c, x0d, x0e, x0f])] => R70 T k x0a x0b x0c x0d x0e x0f
  | a => bodyE P H T k 70 a
theorem d70 (T : Nat → List SVal → Option Res) (k : Nat) (a : List SVal) : D70 T k a = bodyE P H T k 70 a := by
  unfold D70
  split
  · exact (r70 ..).symm
  · rfl
theorem t70 (k : Nat) (x0a : SVal) (x0b : SVal) (x0c : SVal) (x0d : SVal) (x0e : SVal) (x0f : SVal) : T (k + 1) 70 [(.agg [x0a, x0b, x0c, x0d, x0e, x0f])] = R70 (T k) k x0a x0b x0c x0d x0e x0f := (by kernel_rfl : T (k + 1) 70 [(.agg [x0a, x0b, x0c, x0d, x0e, x0f])] = bodyE P H (T k) k 70 [(.agg [x0a, x0b, x0c, x0d, x0e, x0f])]).trans (r70 ..)
/-- limelight/top.Check -/
def R71 (T : Nat → List SVal → Option Res) (k : Nat) (x0a : SVal) (x0b : SVal) (x0c : SVal) (x0d : SVal) (x0e : SVal) : Option Res :=
  (T 98 [(weak x0a)]).bind fun r1 =>
  (sBin .neq r1.r (.int .i64 0)).bind fun r2 =>
  pickC r2
  (some { r := (.int .i64 1) })
  ((T 100 [(.agg [(weak x0a), (weak x0b), (weak x0c), (weak x0d), (weak x0e)])]).bind fun r3 =>
   (sNot r3.r).bind fun r4 =>
   pickC r4
   (some { r := (.int .i64 9) })
   (some { r := (.int .i64 0) }))
theorem r71 (T : Nat → List SVal → Option Res) (k : Nat) (x0a : SVal) (x0b : SVal) (x0c : SVal) (x0d : SVal) (x0e : SVal) : bodyE P H T k 71 [(.agg [x0a, x0b, x0c, x0d, x0e])] = R71 T k x0a x0b x0c x0d x0e := by kernel_rfl
noncomputable def D71 (T : Nat → List SVal → Option Res) (k : Nat) : List SVal → Option Res
  | [(.agg [x0a, x0b, x0c, x0d, x0e])] => R71 T k x0a x0b x0c x0d x0e
  | a => bodyE P H T k 71 a
theorem d71 (T : Nat → List SVal → Option Res) (k : Nat) (a : List SVal) : D71 T k a = bodyE P H T k 71 a := by
  unfold D71
  split
  · exact (r71 ..).symm
  · rfl
theorem t71 (k : Nat) (x0a : SVal) (x0b : SVal) (x0c : SVal) (x0d : SVal) (x0e : SVal) : T (k + 1) 71 [(.agg [x0a, x0b, x0c, x0d, x0e])] = R71 (T k) k x0a x0b x0c x0d x0e := (by kernel_rfl : T (k + 1) 71 [(.agg [x0a, x0b, x0c, x0d, x0e])] = bodyE P H (T k) k 71 [(.agg [x0a, x0b, x0c, x0d, x0e])]).trans (r71 ..)
/-- (limelight/area.node).is -/
def R72 (T : Nat → List SVal → Option Res) (k : Nat) (x0a : SVal) (x0b : SVal) (x0c : SVal) (x0d : SVal) (x0e : SVal) (x0f : SVal) : Option Res :=
  (T 101 [(.sl 1 false false [(.bf 102 [(.agg [x0a, x0b, x0c, x0d, x0e, x0f])]), (.bf 73 [(.agg [x0a, x0b, x0c, x0d, x0e, x0f])]), (.bf 74 [(.agg [x0a, x0b, x0c, x0d, x0e, x0f])]), (.bf 103 [(.agg [x0a, x0b, x0c, x0d, x0e, x0f])]), (.bf 104 [(.agg [x0a, x0b, x0c, x0d, x0e, x0f])])]), (.fn 105 [])]).bind fun r1 =>
  (sNot r1.r).bind fun r2 =>
  some { r := r2 }
theorem r72 (T : Nat → List SVal → Option Res) (k : Nat) (x0a : SVal) (x0b : SVal) (x0c : SVal) (x0d : SVal) (x0e : SVal) (x0f : SVal) : bodyE P H T k 72 [(.agg [x0a, x0b, x0c, x0d, x0e, x0f])] = R72 T k x0a x0b x0c x0d x0e x0f := by kernel_rfl
noncomputable def D72 (T : Nat → List SVal → Option Res) (k : Nat) : List SVal → Option Res
  | [(.agg [x0a, x0b, x0c, x0d, x0e, x0f])] => R72 T k x0a x0b x0c x0d x0e x0f
  | a => bodyE P H T k 72 a
theorem d72 (T : Nat → List SVal → Option Res) (k : Nat) (a : List SVal) : D72 T k a = bodyE P H T k 72 a := by
  unfold D72
  split
  · exact (r72 ..).symm
  · rfl
theorem t72 (k : Nat) (x0a : SVal) (x0b : SVal) (x0c : SVal) (x0d : SVal) (x0e : SVal) (x0f : SVal) : T (k + 1) 72 [(.agg [x0a, x0b, x0c, x0d, x0e, x0f])] = R72 (T k) k x0a x0b x0c x0d x0e x0f := (by kernel_rfl : T (k + 1) 72 [(.agg [x0a, x0b, x0c, x0d, x0e, x0f])] = bodyE P H (T k) k 72 [(.agg [x0a, x0b, x0c, x0d, x0e, x0f])]).trans (r72 ..)
/-- (limelight/area.node).disabled -/
def R73 (T : Nat → List SVal → Option Res) (k : Nat) (x0a : SVal) (x0b : SVal) (x0c : SVal) (x0d : SVal) (x0e : SVal) (x0f : SVal) : Option Res :=
  ((T 99 [(.agg [(weak x0a), (weak x0b), (weak x0c), (weak x0d), (weak x0e), x0f]), (.int .i64 1)]).bind fun r1 =>
   guardX r1.r true
   ((T 106 [(weak x0a), x0f, (.int .i64 1)]).bind fun r2 =>
    (asB r2.r).bind fun b3 =>
    some [b3])
   (some [false])
   (none)).bind fun vs4 =>
  some { r := (.bool (vs4.getD 0 false)) }
theorem r73 (T : Nat → List SVal → Option Res) (k : Nat) (x0a : SVal) (x0b : SVal) (x0c : SVal) (x0d : SVal) (x0e : SVal) (x0f : SVal) : bodyE P H T k 73 [(.agg [x0a, x0b, x0c, x0d, x0e, x0f])] = R73 T k x0a x0b x0c x0d x0e x0f := by kernel_rfl
noncomputable def D73 (T : Nat → List SVal → Option Res) (k : Nat) : List SVal → Option Res
  | [(.agg [x0a, x0b, x0c, x0d, x0e, x0f])] => R73 T k x0a x0b x0c x0d x0e x0f
  | a => bodyE P H T k 73 a
theorem d73 (T : Nat → List SVal → Option Res) (k : Nat) (a : List SVal) : D73 T k a = bodyE P H T k 73 a := by
  unfold D73
  split
  · exact (r73 ..).symm
  · rfl
theorem t73 (k : Nat) (x0a : SVal) (x0b : SVal) (x0c : SVal) (x0d : SVal) (x0e : SVal) (x0f : SVal) : T (k + 1) 73 [(.agg [x0a, x0b, x0c, x0d, x0e, x0f])] = R73 (T k) k x0a x0b x0c x0d x0e x0f := (by kernel_rfl : T (k + 1) 73 [(.agg [x0a, x0b, x0c, x0d, x0e, x0f])] = bodyE P H (T k) k 73 [(.agg [x0a, x0b, x0c, x0d, x0e, x0f])]).trans (r73 ..)
/-- (limelight/area.node).delegates -/
def R74 (T : Nat → List SVal → Option Res) (k : Nat) (x0a : SVal) (x0b : SVal) (x0c : SVal) (x0d : SVal) (x0e : SVal) (x0f : SVal) : Option Res :=
  (sIdx true 7 x0a x0f).bind fun e1 =>
  ((sBin .neq (SVal.cell e1 5) (.int .i64 (-1))).bind fun r2 =>
   guardX r2 true
   ((T 106 [(weak x0a), (SVal.cell e1 5), (.int .i64 7)]).bind fun r3 =>
    (asB r3.r).bind fun b4 =>
    some [b4])
   (some [false])
   (none)).bind fun vs5 =>
  some { r := (.bool (vs5.getD 0 false)) }
theorem r74 (T : Nat → List SVal → Option Res) (k : Nat) (x0a : SVal) (x0b : SVal) (x0c : SVal) (x0d : SVal) (x0e : SVal) (x0f : SVal) : bodyE P H T k 74 [(.agg [x0a, x0b, x0c, x0d, x0e, x0f])] = R74 T k x0a x0b x0c x0d x0e x0f := by kernel_rfl
noncomputable def D74 (T : Nat → List SVal → Option Res) (k : Nat) : List SVal → Option Res
  | [(.agg [x0a, x0b, x0c, x0d, x0e, x0f])] => R74 T k x0a x0b x0c x0d x0e x0f
  | a => bodyE P H T k 74 a
theorem d74 (T : Nat → List SVal → Option Res) (k : Nat) (a : List SVal) : D74 T k a = bodyE P H T k 74 a := by
  unfold D74
  split
  · exact (r74 ..).symm
  · rfl
theorem t74 (k : Nat) (x0a : SVal) (x0b : SVal) (x0c : SVal) (x0d : SVal) (x0e : SVal) (x0f : SVal) : T (k + 1) 74 [(.agg [x0a, x0b, x0c, x0d, x0e, x0f])] = R74 (T k) k x0a x0b x0c x0d x0e x0f := (by kernel_rfl : T (k + 1) 74 [(.agg [x0a, x0b, x0c, x0d, x0e, x0f])] = bodyE P H (T k) k 74 [(.agg [x0a, x0b, x0c, x0d, x0e, x0f])]).trans (r74 ..)
/-- limelight/limelightref02.Has -/
def R75 (T : Nat → List SVal → Option Res) (k : Nat) (x0 : SVal) (x1 : SVal) (x2 : SVal) : Option Res :=
  (T 66 [(weak x0), x1, x2]).bind fun r1 =>
  some { r := r1.r.c1 }
theorem r75 (T : Nat → List SVal → Option Res) (k : Nat) (x0 : SVal) (x1 : SVal) (x2 : SVal) : bodyE P H T k 75 [x0, x1, x2] = R75 T k x0 x1 x2 := by kernel_rfl
noncomputable def D75 (T : Nat → List SVal → Option Res) (k : Nat) : List SVal → Option Res
  | [x0, x1, x2] => R75 T k x0 x1 x2
  | a => bodyE P H T k 75 a
theorem d75 (T : Nat → List SVal → Option Res) (k : Nat) (a : List SVal) : D75 T k a = bodyE P H T k 75 a := by
  unfold D75
  split
  · exact (r75 ..).symm
  · rfl
theorem t75 (k : Nat) (x0 : SVal) (x1 : SVal) (x2 : SVal) : T (k + 1) 75 [x0, x1, x2] = R75 (T k) k x0 x1 x2 := (by kernel_rfl : T (k + 1) 75 [x0, x1, x2] = bodyE P H (T k) k 75 [x0, x1, x2]).trans (r75 ..)
/-- limelight/limelightref11.Own -/
def R76 (T : Nat → List SVal → Option Res) (k : Nat) (x0a : SVal) (x0b : SVal) (x0c : SVal) (x0d : SVal) (x0e : SVal) (x1 : SVal) : Option Res :=
  (T 75 [(weak x0a), x1, (.int .i64 2)]).bind fun r1 =>
  pickC r1.r
  (some { r := (.bool false) })
  (((T 30 [(weak x0b), x1]).bind fun r2 =>
    if isSc1 r2.r = true then
    guardX r2.r false
    ((T 30 [(weak x0c), x1]).bind fun r3 =>
     if isSc1 r3.r = true then
     (asB r3.r).bind fun b4 =>
     some [b4]
     else none)
    (some [true])
    (none)
    else none).bind fun vs5 =>
   pickC (.bool (vs5.getD 0 false))
   (some { r := (.bool true) })
   ((sIdx true 7 x0a x1).bind fun e6 =>
    (sBin .eql (SVal.cell e6 1) (.int .i64 2)).bind fun r7 =>
    pickC r7
    (some { r := (.bool false) })
    (((T 75 [(weak x0a), x1, (.int .i64 6)]).bind fun r8 =>
      (sNot r8.r).bind fun r9 =>
      guardX r9 false
      ((T 29 [(weak x0d)]).bind fun r10 =>
       (T 30 [(weak r10.r), x1]).bind fun r11 =>
       if isSc1 r11.r = true then
       (asB r11.r).bind fun b12 =>
       some [b12]
       else none)
      (some [true])
      (none)).bind fun vs13 =>
     some { r := (.bool (vs13.getD 0 false)) })))
theorem r76 (T : Nat → List SVal → Option Res) (k : Nat) (x0a : SVal) (x0b : SVal) (x0c : SVal) (x0d : SVal) (x0e : SVal) (x1 : SVal) : bodyE P H T k 76 [(.agg [x0a, x0b, x0c, x0d, x0e]), x1] = R76 T k x0a x0b x0c x0d x0e x1 := by kernel_rfl
noncomputable def D76 (T : Nat → List SVal → Option Res) (k : Nat) : List SVal → Option Res
  | [(.agg [x0a, x0b, x0c, x0d, x0e]), x1] => R76 T k x0a x0b x0c x0d x0e x1
  | a => bodyE P H T k 76 a
theorem d76 (T : Nat → List SVal → Option Res) (k : Nat) (a : List SVal) : D76 T k a = bodyE P H T k 76 a := by
  unfold D76
  split
  · exact (r76 ..).symm
  · rfl
theorem t76 (k : Nat) (x0a : SVal) (x0b : SVal) (x0c : SVal) (x0d : SVal) (x0e : SVal) (x1 : SVal) : T (k + 1) 76 [(.agg [x0a, x0b, x0c, x0d, x0e]), x1] = R76 (T k) k x0a x0b x0c x0d x0e x1 := (by kernel_rfl : T (k + 1) 76 [(.agg [x0a, x0b, x0c, x0d, x0e]), x1] = bodyE P H (T k) k 76 [(.agg [x0a, x0b, x0c, x0d, x0e]), x1]).trans (r76 ..)
/-- limelight/limelightref06.Has -/
def R77 (T : Nat → List SVal → Option Res) (k : Nat) (x0 : SVal) (x1 : SVal) : Option Res :=
  (T 68 [(weak x0), x1]).bind fun r1 =>
  (T 30 [(weak r1.r), (.int .i64 0)]).bind fun r2 =>
  if isSc1 r2.r = true then
  some { r := r2.r }
  else none
theorem r77 (T : Nat → List SVal → Option Res) (k : Nat) (x0 : SVal) (x1 : SVal) : bodyE P H T k 77 [x0, x1] = R77 T k x0 x1 := by kernel_rfl
noncomputable def D77 (T : Nat → List SVal → Option Res) (k : Nat) : List SVal → Option Res
  | [x0, x1] => R77 T k x0 x1
  | a => bodyE P H T k 77 a
theorem d77 (T : Nat → List SVal → Option Res) (k : Nat) (a : List SVal) : D77 T k a = bodyE P H T k 77 a := by
  unfold D77
  split
  · exact (r77 ..).symm
  · rfl
theorem t77 (k : Nat) (x0 : SVal) (x1 : SVal) : T (k + 1) 77 [x0, x1] = R77 (T k) k x0 x1 := (by kernel_rfl : T (k + 1) 77 [x0, x1] = bodyE P H (T k) k 77 [x0, x1]).trans (r77 ..)
/-- limelight/limelightref12.Blocked -/
def R78 (T : Nat → List SVal → Option Res) (k : Nat) (x0a : SVal) (x0b : SVal) (x0c : SVal) (x0d : SVal) (x0e : SVal) (x1 : SVal) : Option Res :=
  (T 79 [(.agg [(weak x0a), (weak x0b), (weak x0c), (weak x0d), (weak x0e)])]).bind fun r1 =>
  ((sBin .neq x1 (.int .i64 0)).bind fun r2 =>
   guardX r2 true
   ((sBin .neq r1.r (.int .i64 (-1))).bind fun r3 =>
    guardX r3 true
    ((T 32 [(weak x0a), r1.r, x1]).bind fun r4 =>
     (sNot r4.r).bind fun r5 =>
     (asB r5).bind fun b6 =>
     some [b6])
    (some [false])
    (none))
   (some [false])
   (none)).bind fun vs7 =>
  some { r := (.bool (vs7.getD 0 false)) }
theorem r78 (T : Nat → List SVal → Option Res) (k : Nat) (x0a : SVal) (x0b : SVal) (x0c : SVal) (x0d : SVal) (x0e : SVal) (x1 : SVal) : bodyE P H T k 78 [(.agg [x0a, x0b, x0c, x0d, x0e]), x1] = R78 T k x0a x0b x0c x0d x0e x1 := by kernel_rfl
noncomputable def D78 (T : Nat → List SVal → Option Res) (k : Nat) : List SVal → Option Res
  | [(.agg [x0a, x0b, x0c, x0d, x0e]), x1] => R78 T k x0a x0b x0c x0d x0e x1
  | a => bodyE P H T k 78 a
theorem d78 (T : Nat → List SVal → Option Res) (k : Nat) (a : List SVal) : D78 T k a = bodyE P H T k 78 a := by
  unfold D78
  split
  · exact (r78 ..).symm
  · rfl
theorem t78 (k : Nat) (x0a : SVal) (x0b : SVal) (x0c : SVal) (x0d : SVal) (x0e : SVal) (x1 : SVal) : T (k + 1) 78 [(.agg [x0a, x0b, x0c, x0d, x0e]), x1] = R78 (T k) k x0a x0b x0c x0d x0e x1 := (by kernel_rfl : T (k + 1) 78 [(.agg [x0a, x0b, x0c, x0d, x0e]), x1] = bodyE P H (T k) k 78 [(.agg [x0a, x0b, x0c, x0d, x0e]), x1]).trans (r78 ..)
/-- limelight/limelightref10.Highest -/
def R79 (T : Nat → List SVal → Option Res) (k : Nat) (x0a : SVal) (x0b : SVal) (x0c : SVal) (x0d : SVal) (x0e : SVal) : Option Res :=
  (sLen x0e).bind fun r1 =>
  (sBin .sub r1 (.int .i64 1)).bind fun r2 =>
  loopN (fun s3 next3 =>
   (sBin .geq s3.k1 (.int .i64 0)).bind fun r4 =>
   pickC r4
   ((sIdx false 1 (SVal.cell s3.k0 4) s3.k1).bind fun e5 =>
    (T 30 [(weak (SVal.cell s3.k0 2)), e5]).bind fun r6 =>
    if isSc1 r6.r = true then
    pickC r6.r
    ((sIdx false 1 (SVal.cell s3.k0 4) s3.k1).bind fun e7 =>
     some { r := e7 })
    ((sBin .sub s3.k1 (.int .i64 1)).bind fun r8 =>
     next3 ⟨[(.rp [(SVal.cell s3.k0 0), (SVal.cell s3.k0 1), (SVal.cell s3.k0 2), (SVal.cell s3.k0 3), (SVal.cell s3.k0 4)]), r8], [], false⟩)
    else none)
   (some { r := (.int .i64 (-1)) })) k ⟨[(.rp [x0a, x0b, x0c, x0d, x0e]), r2], [], false⟩
theorem r79 (T : Nat → List SVal → Option Res) (k : Nat) (x0a : SVal) (x0b : SVal) (x0c : SVal) (x0d : SVal) (x0e : SVal) : bodyE P H T k 79 [(.agg [x0a, x0b, x0c, x0d, x0e])] = R79 T k x0a x0b x0c x0d x0e := by kernel_rfl
noncomputable def D79 (T : Nat → List SVal → Option Res) (k : Nat) : List SVal → Option Res
  | [(.agg [x0a, x0b, x0c, x0d, x0e])] => R79 T k x0a x0b x0c x0d x0e
  | a => bodyE P H T k 79 a
theorem d79 (T : Nat → List SVal → Option Res) (k : Nat) (a : List SVal) : D79 T k a = bodyE P H T k 79 a := by
  unfold D79
  split
  · exact (r79 ..).symm
  · rfl
theorem t79 (k : Nat) (x0a : SVal) (x0b : SVal) (x0c : SVal) (x0d : SVal) (x0e : SVal) : T (k + 1) 79 [(.agg [x0a, x0b, x0c, x0d, x0e])] = R79 (T k) k x0a x0b x0c x0d x0e := (by kernel_rfl : T (k + 1) 79 [(.agg [x0a, x0b, x0c, x0d, x0e])] = bodyE P H (T k) k 79 [(.agg [x0a, x0b, x0c, x0d, x0e])]).trans (r79 ..)
/-- limelight/limelightref10.Dialogs -/
def R80 (T : Nat → List SVal → Option Res) (k : Nat) (x0 : SVal) (x1 : SVal) : Option Res :=
  ((T 17 [(weak x0), x1]).bind fun r1 =>
   guardX r1.r true
   ((sIdx true 7 x0 x1).bind fun e2 =>
    (sBin .eql (SVal.cell e2 0) (.int .i64 1)).bind fun r3 =>
    guardX r3 true
    ((sIdx true 7 x0 x1).bind fun e4 =>
     (sBin .eql (SVal.cell e4 1) (.int .i64 2)).bind fun r5 =>
     guardX r5 true
     ((T 107 [(weak x0), x1]).bind fun r6 =>
      (asB r6.r).bind fun b7 =>
      some [b7])
     (some [false])
     (none))
    (some [false])
    (none))
   (some [false])
   (none)).bind fun vs8 =>
  some { r := (.bool (vs8.getD 0 false)) }
theorem r80 (T : Nat → List SVal → Option Res) (k : Nat) (x0 : SVal) (x1 : SVal) : bodyE P H T k 80 [x0, x1] = R80 T k x0 x1 := by kernel_rfl
noncomputable def D80 (T : Nat → List SVal → Option Res) (k : Nat) : List SVal → Option Res
  | [x0, x1] => R80 T k x0 x1
  | a => bodyE P H T k 80 a
theorem d80 (T : Nat → List SVal → Option Res) (k : Nat) (a : List SVal) : D80 T k a = bodyE P H T k 80 a := by
  unfold D80
  split
  · exact (r80 ..).symm
  · rfl
theorem t80 (k : Nat) (x0 : SVal) (x1 : SVal) : T (k + 1) 80 [x0, x1] = R80 (T k) k x0 x1 := (by kernel_rfl : T (k + 1) 80 [x0, x1] = bodyE P H (T k) k 80 [x0, x1]).trans (r80 ..)
/-- limelight/limelightref10.IsOpen -/
def R81 (T : Nat → List SVal → Option Res) (k : Nat) (x0a : SVal) (x0b : SVal) (x0c : SVal) (x0d : SVal) (x0e : SVal) (x1 : SVal) : Option Res :=
  (T 88 [(.agg [(weak x0a), (weak x0b), (weak x0c), (weak x0d), (weak x0e)])]).bind fun r1 =>
  (T 30 [(weak r1.r), x1]).bind fun r2 =>
  if isSc1 r2.r = true then
  some { r := r2.r }
  else none
theorem r81 (T : Nat → List SVal → Option Res) (k : Nat) (x0a : SVal) (x0b : SVal) (x0c : SVal) (x0d : SVal) (x0e : SVal) (x1 : SVal) : bodyE P H T k 81 [(.agg [x0a, x0b, x0c, x0d, x0e]), x1] = R81 T k x0a x0b x0c x0d x0e x1 := by kernel_rfl
noncomputable def D81 (T : Nat → List SVal → Option Res) (k : Nat) : List SVal → Option Res
  | [(.agg [x0a, x0b, x0c, x0d, x0e]), x1] => R81 T k x0a x0b x0c x0d x0e x1
  | a => bodyE P H T k 81 a
theorem d81 (T : Nat → List SVal → Option Res) (k : Nat) (a : List SVal) : D81 T k a = bodyE P H T k 81 a := by
  unfold D81
  split
  · exact (r81 ..).symm
  · rfl
theorem t81 (k : Nat) (x0a : SVal) (x0b : SVal) (x0c : SVal) (x0d : SVal) (x0e : SVal) (x1 : SVal) : T (k + 1) 81 [(.agg [x0a, x0b, x0c, x0d, x0e]), x1] = R81 (T k) k x0a x0b x0c x0d x0e x1 := (by kernel_rfl : T (k + 1) 81 [(.agg [x0a, x0b, x0c, x0d, x0e]), x1] = bodyE P H (T k) k 81 [(.agg [x0a, x0b, x0c, x0d, x0e]), x1]).trans (r81 ..)
/-- limelight/limelightref10.Copy -/
def R82 (T : Nat → List SVal → Option Res) (k : Nat) (x0a : SVal) (x0b : SVal) (x0c : SVal) (x0d : SVal) (x0e : SVal) : Option Res :=
  (T 108 [(weak x0a)]).bind fun r1 =>
  (elems 1 x0b).bind fun ys2 =>
  if ys2.length * 8 ≤ maxAppend then
  (elems 1 x0c).bind fun ys3 =>
  if ys3.length * 8 ≤ maxAppend then
  (elems 2 x0d).bind fun ys4 =>
  if ys4.length * 16 ≤ maxAppend then
  (elems 1 x0e).bind fun ys5 =>
  if ys5.length * 8 ≤ maxAppend then
  some { r := (.agg [(.sl 7 false false r1.r.xs), (.sl 1 true false ys2), (.sl 1 true false ys3), (.sl 2 true false ys4), (.sl 1 true false ys5)]) }
  else none
  else none
  else none
  else none
theorem r82 (T : Nat → List SVal → Option Res) (k : Nat) (x0a : SVal) (x0b : SVal) (x0c : SVal) (x0d : SVal) (x0e : SVal) : bodyE P H T k 82 [(.agg [x0a, x0b, x0c, x0d, x0e])] = R82 T k x0a x0b x0c x0d x0e := by kernel_rfl
noncomputable def D82 (T : Nat → List SVal → Option Res) (k : Nat) : List SVal → Option Res
  | [(.agg [x0a, x0b, x0c, x0d, x0e])] => R82 T k x0a x0b x0c x0d x0e
  | a => bodyE P H T k 82 a
theorem d82 (T : Nat → List SVal → Option Res) (k : Nat) (a : List SVal) : D82 T k a = bodyE P H T k 82 a := by
  unfold D82
  split
  · exact (r82 ..).symm
  · rfl
theorem t82 (k : Nat) (x0a : SVal) (x0b : SVal) (x0c : SVal) (x0d : SVal) (x0e : SVal) : T (k + 1) 82 [(.agg [x0a, x0b, x0c, x0d, x0e])] = R82 (T k) k x0a x0b x0c x0d x0e := (by kernel_rfl : T (k + 1) 82 [(.agg [x0a, x0b, x0c, x0d, x0e])] = bodyE P H (T k) k 82 [(.agg [x0a, x0b, x0c, x0d, x0e])]).trans (r82 ..)
/-- limelight/limelightref01.kind -/
def R83 (T : Nat → List SVal → Option Res) (k : Nat) (x0a : SVal) (x0b : SVal) (x0c : SVal) (x0d : SVal) (x0e : SVal) (x0f : SVal) (x0g : SVal) (x1 : SVal) : Option Res :=
  ((sBin .eql x0a (.int .i64 0)).bind fun r1 =>
   (sBin .eql x1 (.int .i64 0)).bind fun r2 =>
   (sBinB .neq r1 r2).bind fun r3 =>
   guardX r3 false
   ((sBin .lss x0a (.int .i64 0)).bind fun r4 =>
    guardX r4 false
    ((sBin .gtr x0a (.int .i64 3)).bind fun r5 =>
     (asB r5).bind fun b6 =>
     some [b6])
    (some [true])
    (none))
   (some [true])
   (none)).bind fun vs7 =>
  pickC (.bool (vs7.getD 0 false))
  (some { r := (.bool false) })
  ((sBin .eql x0a (.int .i64 1)).bind fun r8 =>
   pickC r8
   (((sBin .geq x0b (.int .i64 0)).bind fun r9 =>
     guardX r9 true
     ((sBin .leq x0b (.int .i64 4)).bind fun r10 =>
      (asB r10).bind fun b11 =>
      some [b11])
     (some [false])
     (none)).bind fun vs12 =>
    some { r := (.bool (vs12.getD 0 false)) })
   ((sBin .eql x0b (.int .i64 0)).bind fun r13 =>
    some { r := r13 }))
theorem r83 (T : Nat → List SVal → Option Res) (k : Nat) (x0a : SVal) (x0b : SVal) (x0c : SVal) (x0d : SVal) (x0e : SVal) (x0f : SVal) (x0g : SVal) (x1 : SVal) : bodyE P H T k 83 [(.agg [x0a, x0b, x0c, x0d, x0e, x0f, x0g]), x1] = R83 T k x0a x0b x0c x0d x0e x0f x0g x1 := by kernel_rfl
noncomputable def D83 (T : Nat → List SVal → Option Res) (k : Nat) : List SVal → Option Res
  | [(.agg [x0a, x0b, x0c, x0d, x0e, x0f, x0g]), x1] => R83 T k x0a x0b x0c x0d x0e x0f x0g x1
  | a => bodyE P H T k 83 a
theorem d83 (T : Nat → List SVal → Option Res) (k : Nat) (a : List SVal) : D83 T k a = bodyE P H T k 83 a := by
  unfold D83
  split
  · exact (r83 ..).symm
  · rfl
theorem t83 (k : Nat) (x0a : SVal) (x0b : SVal) (x0c : SVal) (x0d : SVal) (x0e : SVal) (x0f : SVal) (x0g : SVal) (x1 : SVal) : T (k + 1) 83 [(.agg [x0a, x0b, x0c, x0d, x0e, x0f, x0g]), x1] = R83 (T k) k x0a x0b x0c x0d x0e x0f x0g x1 := (by kernel_rfl : T (k + 1) 83 [(.agg [x0a, x0b, x0c, x0d, x0e, x0f, x0g]), x1] = bodyE P H (T k) k 83 [(.agg [x0a, x0b, x0c, x0d, x0e, x0f, x0g]), x1]).trans (r83 ..)
/-- limelight/limelightref01.attrs -/
def R84 (T : Nat → List SVal → Option Res) (k : Nat) (x0a : SVal) (x0b : SVal) (x0c : SVal) (x0d : SVal) (x0e : SVal) (x0f : SVal) (x0g : SVal) : Option Res :=
  loopN (fun s1 next1 =>
   (sLen (SVal.cell s1.k0 6)).bind fun r2 =>
   (sBin .lss s1.k1 r2).bind fun r3 =>
   pickC r3
   (((sIdx true 2 (SVal.cell s1.k0 6) s1.k1).bind fun e4 =>
     (T 109 [(SVal.cell s1.k0 0), (.agg [(SVal.cell e4 0), (SVal.cell e4 1)])]).bind fun r5 =>
     (sNot r5.r).bind fun r6 =>
     guardX r6 false
     ((sBin .gtr s1.k1 (.int .i64 0)).bind fun r7 =>
      guardX r7 true
      ((sIdx true 2 (SVal.cell s1.k0 6) s1.k1).bind fun e8 =>
       (sBin .sub s1.k1 (.int .i64 1)).bind fun r9 =>
       (sIdx true 2 (SVal.cell s1.k0 6) r9).bind fun e10 =>
       (sBin .leq (SVal.cell e8 0) (SVal.cell e10 0)).bind fun r11 =>
       (asB r11).bind fun b12 =>
       some [b12])
      (some [false])
      (none))
     (some [true])
     (none)).bind fun vs13 =>
    pickC (.bool (vs13.getD 0 false))
    (some { r := (.bool false) })
    ((sBin .add s1.k1 (.int .i64 1)).bind fun r14 =>
     next1 ⟨[(.rp [(SVal.cell s1.k0 0), (SVal.cell s1.k0 1), (SVal.cell s1.k0 2), (SVal.cell s1.k0 3), (SVal.cell s1.k0 4), (SVal.cell s1.k0 5), (SVal.cell s1.k0 6)]), r14], [], false⟩))
   (some { r := (.bool true) })) k ⟨[(.rp [x0a, x0b, x0c, x0d, x0e, x0f, x0g]), (.int .i64 0)], [], false⟩
theorem r84 (T : Nat → List SVal → Option Res) (k : Nat) (x0a : SVal) (x0b : SVal) (x0c : SVal) (x0d : SVal) (x0e : SVal) (x0f : SVal) (x0g : SVal) : bodyE P H T k 84 [(.agg [x0a, x0b, x0c, x0d, x0e, x0f, x0g])] = R84 T k x0a x0b x0c x0d x0e x0f x0g := by kernel_rfl
noncomputable def D84 (T : Nat → List SVal → Option Res) (k : Nat) : List SVal → Option Res
  | [(.agg [x0a, x0b, x0c, x0d, x0e, x0f, x0g])] => R84 T k x0a x0b x0c x0d x0e x0f x0g
  | a => bodyE P H T k 84 a
theorem d84 (T : Nat → List SVal → Option Res) (k : Nat) (a : List SVal) : D84 T k a = bodyE P H T k 84 a := by
  unfold D84
  split
  · exact (r84 ..).symm
  · rfl
theorem t84 (k : Nat) (x0a : SVal) (x0b : SVal) (x0c : SVal) (x0d : SVal) (x0e : SVal) (x0f : SVal) (x0g : SVal) : T (k + 1) 84 [(.agg [x0a, x0b, x0c, x0d, x0e, x0f, x0g])] = R84 (T k) k x0a x0b x0c x0d x0e x0f x0g := (by kernel_rfl : T (k + 1) 84 [(.agg [x0a, x0b, x0c, x0d, x0e, x0f, x0g])] = bodyE P H (T k) k 84 [(.agg [x0a, x0b, x0c, x0d, x0e, x0f, x0g])]).trans (r84 ..)
/-- limelight/limelightref01.kids -/
def R85 (T : Nat → List SVal → Option Res) (k : Nat) (x0 : SVal) (x1 : SVal) : Option Res :=
  (sIdx true 7 x0 x1).bind fun e1 =>
  if (allOne [.v (SVal.cell e1 0), .v (SVal.cell e1 1), .v (SVal.cell e1 2), .v (SVal.cell e1 3), .v (SVal.cell e1 4), .v (SVal.cell e1 5), .v (SVal.cell e1 6)]) = true then
  loopN (fun s2 next2 =>
   (sLen (SVal.cell s2.k2 3)).bind fun r3 =>
   (sBin .lss s2.k3 r3).bind fun r4 =>
   pickC r4
   ((sIdx false 1 (SVal.cell s2.k2 3) s2.k3).bind fun e5 =>
    ((T 17 [(weak s2.k0), e5]).bind fun r6 =>
     (sNot r6.r).bind fun r7 =>
     guardX r7 false
     ((T 110 [(weak (SVal.cell s2.k2 3)), e5]).bind fun r8 =>
      (sBin .neq r8.r (.int .i64 1)).bind fun r9 =>
      (asB r9).bind fun b10 =>
      some [b10])
     (some [true])
     (none)).bind fun vs11 =>
    pickC (.bool (vs11.getD 0 false))
    (some { r := (.bool false) })
    (((sIdx true 7 s2.k0 e5).bind fun e12 =>
      (sBin .neq (SVal.cell e12 2) s2.k1).bind fun r13 =>
      guardX r13 false
      ((sIdx true 7 s2.k0 e5).bind fun e14 =>
       (sBin .neq (SVal.cell e14 0) (.int .i64 1)).bind fun r15 =>
       guardX r15 true
       ((sIdx true 7 s2.k0 e5).bind fun e16 =>
        (sBin .neq (SVal.cell e16 0) (.int .i64 2)).bind fun r17 =>
        (asB r17).bind fun b18 =>
        some [b18])
       (some [false])
       (none))
      (some [true])
      (none)).bind fun vs19 =>
     pickC (.bool (vs19.getD 0 false))
     (some { r := (.bool false) })
     ((sBin .add s2.k3 (.int .i64 1)).bind fun r20 =>
      next2 ⟨[(weak s2.k0), s2.k1, (.rp [(SVal.cell s2.k2 0), (SVal.cell s2.k2 1), (SVal.cell s2.k2 2), (SVal.cell s2.k2 3), (SVal.cell s2.k2 4), (SVal.cell s2.k2 5), (SVal.cell s2.k2 6)]), r20], [], false⟩)))
   (((sBin .eql (SVal.cell s2.k2 0) (.int .i64 2)).bind fun r21 =>
     guardX r21 true
     ((sLen (SVal.cell s2.k2 3)).bind fun r22 =>
      (sBin .gtr r22 (.int .i64 0)).bind fun r23 =>
      (asB r23).bind fun b24 =>
      some [b24])
     (some [false])
     (none)).bind fun vs25 =>
    pickC (.bool (vs25.getD 0 false))
    (some { r := (.bool false) })
    ((sBin .eql (SVal.cell s2.k2 2) (.int .i64 (-1))).bind fun r26 =>
     pickC r26
     (some { r := (.bool true) })
     (((T 17 [(weak s2.k0), (SVal.cell s2.k2 2)]).bind fun r27 =>
       guardX r27.r true
       ((sIdx true 7 s2.k0 (SVal.cell s2.k2 2)).bind fun e28 =>
        (T 110 [(weak (SVal.cell e28 3)), s2.k1]).bind fun r29 =>
        (sBin .eql r29.r (.int .i64 1)).bind fun r30 =>
        (asB r30).bind fun b31 =>
        some [b31])
       (some [false])
       (none)).bind fun vs32 =>
      some { r := (.bool (vs32.getD 0 false)) })))) k ⟨[(weak x0), x1, (.rp [(SVal.cell e1 0), (SVal.cell e1 1), (SVal.cell e1 2), (SVal.cell e1 3), (SVal.cell e1 4), (SVal.cell e1 5), (SVal.cell e1 6)]), (.int .i64 0)], [], false⟩
  else none
theorem r85 (T : Nat → List SVal → Option Res) (k : Nat) (x0 : SVal) (x1 : SVal) : bodyE P H T k 85 [x0, x1] = R85 T k x0 x1 := by kernel_rfl
noncomputable def D85 (T : Nat → List SVal → Option Res) (k : Nat) : List SVal → Option Res
  | [x0, x1] => R85 T k x0 x1
  | a => bodyE P H T k 85 a
theorem d85 (T : Nat → List SVal → Option Res) (k : Nat) (a : List SVal) : D85 T k a = bodyE P H T k 85 a := by
  unfold D85
  split
  · exact (r85 ..).symm
  · rfl
theorem t85 (k : Nat) (x0 : SVal) (x1 : SVal) : T (k + 1) 85 [x0, x1] = R85 (T k) k x0 x1 := (by kernel_rfl : T (k + 1) 85 [x0, x1] = bodyE P H (T k) k 85 [x0, x1]).trans (r85 ..)
/-- limelight/limelightref01.shadow -/
def R86 (T : Nat → List SVal → Option Res) (k : Nat) (x0 : SVal) (x1 : SVal) : Option Res :=
  (sIdx true 7 x0 x1).bind fun e1 =>
  if (allOne [.v (SVal.cell e1 0), .v (SVal.cell e1 1), .v (SVal.cell e1 2), .v (SVal.cell e1 3), .v (SVal.cell e1 4), .v (SVal.cell e1 5), .v (SVal.cell e1 6)]) = true then
  (sBin .eql (SVal.cell e1 0) (.int .i64 3)).bind fun r2 =>
  pickC r2
  (((sBin .eql (SVal.cell e1 5) (.int .i64 (-1))).bind fun r3 =>
    guardX r3 true
    ((sBin .eql (SVal.cell e1 2) (.int .i64 (-1))).bind fun r4 =>
     guardX r4 true
     ((T 17 [(weak x0), (SVal.cell e1 4)]).bind fun r5 =>
      guardX r5.r true
      ((sIdx true 7 x0 (SVal.cell e1 4)).bind fun e6 =>
       (sBin .eql (SVal.cell e6 0) (.int .i64 1)).bind fun r7 =>
       guardX r7 true
       ((sIdx true 7 x0 (SVal.cell e1 4)).bind fun e8 =>
        (sBin .eql (SVal.cell e8 5) x1).bind fun r9 =>
        (asB r9).bind fun b10 =>
        some [b10])
       (some [false])
       (none))
      (some [false])
      (none))
     (some [false])
     (none))
    (some [false])
    (none)).bind fun vs11 =>
   some { r := (.bool (vs11.getD 0 false)) })
  ((sBin .neq (SVal.cell e1 4) (.int .i64 (-1))).bind fun r12 =>
   pickC r12
   (some { r := (.bool false) })
   ((sBin .eql (SVal.cell e1 5) (.int .i64 (-1))).bind fun r13 =>
    pickC r13
    (some { r := (.bool true) })
    (((sBin .eql (SVal.cell e1 0) (.int .i64 1)).bind fun r14 =>
      guardX r14 true
      ((T 17 [(weak x0), (SVal.cell e1 5)]).bind fun r15 =>
       guardX r15.r true
       ((sIdx true 7 x0 (SVal.cell e1 5)).bind fun e16 =>
        (sBin .eql (SVal.cell e16 0) (.int .i64 3)).bind fun r17 =>
        guardX r17 true
        ((sIdx true 7 x0 (SVal.cell e1 5)).bind fun e18 =>
         (sBin .eql (SVal.cell e18 4) x1).bind fun r19 =>
         (asB r19).bind fun b20 =>
         some [b20])
        (some [false])
        (none))
       (some [false])
       (none))
      (some [false])
      (none)).bind fun vs21 =>
     some { r := (.bool (vs21.getD 0 false)) })))
  else none
theorem r86 (T : Nat → List SVal → Option Res) (k : Nat) (x0 : SVal) (x1 : SVal) : bodyE P H T k 86 [x0, x1] = R86 T k x0 x1 := by kernel_rfl
noncomputable def D86 (T : Nat → List SVal → Option Res) (k : Nat) : List SVal → Option Res
  | [x0, x1] => R86 T k x0 x1
  | a => bodyE P H T k 86 a
theorem d86 (T : Nat → List SVal → Option Res) (k : Nat) (a : List SVal) : D86 T k a = bodyE P H T k 86 a := by
  unfold D86
  split
  · exact (r86 ..).symm
  · rfl
theorem t86 (k : Nat) (x0 : SVal) (x1 : SVal) : T (k + 1) 86 [x0, x1] = R86 (T k) k x0 x1 := (by kernel_rfl : T (k + 1) 86 [x0, x1] = bodyE P H (T k) k 86 [x0, x1]).trans (r86 ..)
/-- limelight/limelightref01.ends -/
def R87 (T : Nat → List SVal → Option Res) (k : Nat) (x0 : SVal) (x1 : SVal) : Option Res :=
  loopN (fun s1 next1 =>
   (sLen s1.k0).bind fun r2 =>
   (sBin .leq s1.k2 r2).bind fun r3 =>
   pickC r3
   ((sBin .eql s1.k1 (.int .i64 (-1))).bind fun r4 =>
    pickC r4
    (some { r := (.bool true) })
    ((T 111 [(weak s1.k0), s1.k1]).bind fun r5 =>
     (sBin .add s1.k2 (.int .i64 1)).bind fun r6 =>
     next1 ⟨[(weak s1.k0), r5.r, r6], [], false⟩))
   (some { r := (.bool false) })) k ⟨[(weak x0), x1, (.int .i64 0)], [], false⟩
theorem r87 (T : Nat → List SVal → Option Res) (k : Nat) (x0 : SVal) (x1 : SVal) : bodyE P H T k 87 [x0, x1] = R87 T k x0 x1 := by kernel_rfl
noncomputable def D87 (T : Nat → List SVal → Option Res) (k : Nat) : List SVal → Option Res
  | [x0, x1] => R87 T k x0 x1
  | a => bodyE P H T k 87 a
theorem d87 (T : Nat → List SVal → Option Res) (k : Nat) (a : List SVal) : D87 T k a = bodyE P H T k 87 a := by
  unfold D87
  split
  · exact (r87 ..).symm
  · rfl
theorem t87 (k : Nat) (x0 : SVal) (x1 : SVal) : T (k + 1) 87 [x0, x1] = R87 (T k) k x0 x1 := (by kernel_rfl : T (k + 1) 87 [x0, x1] = bodyE P H (T k) k 87 [x0, x1]).trans (r87 ..)
/-- limelight/limelightref10.open -/
def R88 (T : Nat → List SVal → Option Res) (k : Nat) (x0a : SVal) (x0b : SVal) (x0c : SVal) (x0d : SVal) (x0e : SVal) : Option Res :=
  (elems 1 x0b).bind fun ys1 =>
  if ys1.length * 8 ≤ maxAppend then
  (elems 1 x0c).bind fun ys2 =>
  if (ys1.length + ys2.length) * 8 ≤ maxAppend then
  (T 29 [(weak x0d)]).bind fun r3 =>
  (elems 1 r3.r).bind fun ys4 =>
  if ((ys1 ++ ys2).length + ys4.length) * 8 ≤ maxAppend then
  some { r := (.sl 1 false false ((ys1 ++ ys2) ++ ys4)) }
  else none
  else none
  else none
theorem r88 (T : Nat → List SVal → Option Res) (k : Nat) (x0a : SVal) (x0b : SVal) (x0c : SVal) (x0d : SVal) (x0e : SVal) : bodyE P H T k 88 [(.agg [x0a, x0b, x0c, x0d, x0e])] = R88 T k x0a x0b x0c x0d x0e := by kernel_rfl
noncomputable def D88 (T : Nat → List SVal → Option Res) (k : Nat) : List SVal → Option Res
  | [(.agg [x0a, x0b, x0c, x0d, x0e])] => R88 T k x0a x0b x0c x0d x0e
  | a => bodyE P H T k 88 a
theorem d88 (T : Nat → List SVal → Option Res) (k : Nat) (a : List SVal) : D88 T k a = bodyE P H T k 88 a := by
  unfold D88
  split
  · exact (r88 ..).symm
  · rfl
theorem t88 (k : Nat) (x0a : SVal) (x0b : SVal) (x0c : SVal) (x0d : SVal) (x0e : SVal) : T (k + 1) 88 [(.agg [x0a, x0b, x0c, x0d, x0e])] = R88 (T k) k x0a x0b x0c x0d x0e := (by kernel_rfl : T (k + 1) 88 [(.agg [x0a, x0b, x0c, x0d, x0e])] = bodyE P H (T k) k 88 [(.agg [x0a, x0b, x0c, x0d, x0e])]).trans (r88 ..)
/-- limelight/limelightref10.Popups -/
def R89 (T : Nat → List SVal → Option Res) (k : Nat) (x0 : SVal) (x1 : SVal) : Option Res :=
  ((T 17 [(weak x0), x1]).bind fun r1 =>
   guardX r1.r true
   ((sIdx true 7 x0 x1).bind fun e2 =>
    (sBin .eql (SVal.cell e2 0) (.int .i64 1)).bind fun r3 =>
    guardX r3 true
    ((T 75 [(weak x0), x1, (.int .i64 6)]).bind fun r4 =>
     guardX r4.r true
     ((T 107 [(weak x0), x1]).bind fun r5 =>
      (asB r5.r).bind fun b6 =>
      some [b6])
     (some [false])
     (none))
    (some [false])
    (none))
   (some [false])
   (none)).bind fun vs7 =>
  some { r := (.bool (vs7.getD 0 false)) }
theorem r89 (T : Nat → List SVal → Option Res) (k : Nat) (x0 : SVal) (x1 : SVal) : bodyE P H T k 89 [x0, x1] = R89 T k x0 x1 := by kernel_rfl
noncomputable def D89 (T : Nat → List SVal → Option Res) (k : Nat) : List SVal → Option Res
  | [x0, x1] => R89 T k x0 x1
  | a => bodyE P H T k 89 a
theorem d89 (T : Nat → List SVal → Option Res) (k : Nat) (a : List SVal) : D89 T k a = bodyE P H T k 89 a := by
  unfold D89
  split
  · exact (r89 ..).symm
  · rfl
theorem t89 (k : Nat) (x0 : SVal) (x1 : SVal) : T (k + 1) 89 [x0, x1] = R89 (T k) k x0 x1 := (by kernel_rfl : T (k + 1) 89 [x0, x1] = bodyE P H (T k) k 89 [x0, x1]).trans (r89 ..)
/-- limelight/limelightref10.Once -/
def R90 (T : Nat → List SVal → Option Res) (k : Nat) (x0 : SVal) : Option Res :=
  loopN (fun s1 next1 =>
   (sLen s1.k0).bind fun r2 =>
   (sBin .lss s1.k1 r2).bind fun r3 =>
   pickC r3
   ((sIdx false 1 s1.k0 s1.k1).bind fun e4 =>
    (T 31 [(weak s1.k0), e4]).bind fun r5 =>
    (sBin .neq r5.r s1.k1).bind fun r6 =>
    pickC r6
    (some { r := (.bool false) })
    ((sBin .add s1.k1 (.int .i64 1)).bind fun r7 =>
     next1 ⟨[(weak s1.k0), r7], [], false⟩))
   (some { r := (.bool true) })) k ⟨[(weak x0), (.int .i64 0)], [], false⟩
theorem r90 (T : Nat → List SVal → Option Res) (k : Nat) (x0 : SVal) : bodyE P H T k 90 [x0] = R90 T k x0 := by kernel_rfl
noncomputable def D90 (T : Nat → List SVal → Option Res) (k : Nat) : List SVal → Option Res
  | [x0] => R90 T k x0
  | a => bodyE P H T k 90 a
theorem d90 (T : Nat → List SVal → Option Res) (k : Nat) (a : List SVal) : D90 T k a = bodyE P H T k 90 a := by
  unfold D90
  split
  · exact (r90 ..).symm
  · rfl
theorem t90 (k : Nat) (x0 : SVal) : T (k + 1) 90 [x0] = R90 (T k) k x0 := (by kernel_rfl : T (k + 1) 90 [x0] = bodyE P H (T k) k 90 [x0]).trans (r90 ..)
/-- limelight/attr.node -/
def R91 (T : Nat → List SVal → Option Res) (k : Nat) (x0 : SVal) (x1 : SVal) : Option Res :=
  ((T 98 [(weak x0)]).bind fun r1 =>
   (sBin .eql r1.r (.int .i64 0)).bind fun r2 =>
   guardX r2 true
   ((sBin .geq x1 (.int .i64 0)).bind fun r3 =>
    guardX r3 true
    ((sLen x0).bind fun r4 =>
     (sBin .lss x1 r4).bind fun r5 =>
     (asB r5).bind fun b6 =>
     some [b6])
    (some [false])
    (none))
   (some [false])
   (none)).bind fun vs7 =>
  some { r := (.bool (vs7.getD 0 false)) }
theorem r91 (T : Nat → List SVal → Option Res) (k : Nat) (x0 : SVal) (x1 : SVal) : bodyE P H T k 91 [x0, x1] = R91 T k x0 x1 := by kernel_rfl
noncomputable def D91 (T : Nat → List SVal → Option Res) (k : Nat) : List SVal → Option Res
  | [x0, x1] => R91 T k x0 x1
  | a => bodyE P H T k 91 a
theorem d91 (T : Nat → List SVal → Option Res) (k : Nat) (a : List SVal) : D91 T k a = bodyE P H T k 91 a := by
  unfold D91
  split
  · exact (r91 ..).symm
  · rfl
theorem t91 (k : Nat) (x0 : SVal) (x1 : SVal) : T (k + 1) 91 [x0, x1] = R91 (T k) k x0 x1 := (by kernel_rfl : T (k + 1) 91 [x0, x1] = bodyE P H (T k) k 91 [x0, x1]).trans (r91 ..)
/-- limelight/attr.at -/
def R92 (T : Nat → List SVal → Option Res) (k : Nat) (x0a : SVal) (x0b : SVal) (x0c : SVal) (x0d : SVal) (x0e : SVal) (x0f : SVal) (x0g : SVal) (x1 : SVal) : Option Res :=
  if (oneS x1) = true then
  (T 112 [(weak x0g), (.fn 113 [(.rp [x1])])]).bind fun r1 =>
  some { r := r1.r }
  else none
theorem r92 (T : Nat → List SVal → Option Res) (k : Nat) (x0a : SVal) (x0b : SVal) (x0c : SVal) (x0d : SVal) (x0e : SVal) (x0f : SVal) (x0g : SVal) (x1 : SVal) : bodyE P H T k 92 [(.agg [x0a, x0b, x0c, x0d, x0e, x0f, x0g]), x1] = R92 T k x0a x0b x0c x0d x0e x0f x0g x1 := by kernel_rfl
noncomputable def D92 (T : Nat → List SVal → Option Res) (k : Nat) : List SVal → Option Res
  | [(.agg [x0a, x0b, x0c, x0d, x0e, x0f, x0g]), x1] => R92 T k x0a x0b x0c x0d x0e x0f x0g x1
  | a => bodyE P H T k 92 a
theorem d92 (T : Nat → List SVal → Option Res) (k : Nat) (a : List SVal) : D92 T k a = bodyE P H T k 92 a := by
  unfold D92
  split
  · exact (r92 ..).symm
  · rfl
theorem t92 (k : Nat) (x0a : SVal) (x0b : SVal) (x0c : SVal) (x0d : SVal) (x0e : SVal) (x0f : SVal) (x0g : SVal) (x1 : SVal) : T (k + 1) 92 [(.agg [x0a, x0b, x0c, x0d, x0e, x0f, x0g]), x1] = R92 (T k) k x0a x0b x0c x0d x0e x0f x0g x1 := (by kernel_rfl : T (k + 1) 92 [(.agg [x0a, x0b, x0c, x0d, x0e, x0f, x0g]), x1] = bodyE P H (T k) k 92 [(.agg [x0a, x0b, x0c, x0d, x0e, x0f, x0g]), x1]).trans (r92 ..)
/-- slices.Backward[[]int,int] -/
def R93 (T : Nat → List SVal → Option Res) (k : Nat) (x0 : SVal) : Option Res :=
  if (oneS x0) = true then
  some { r := (.fn 114 [(.rp [x0])]) }
  else none
theorem r93 (T : Nat → List SVal → Option Res) (k : Nat) (x0 : SVal) : bodyE P H T k 93 [x0] = R93 T k x0 := by kernel_rfl
noncomputable def D93 (T : Nat → List SVal → Option Res) (k : Nat) : List SVal → Option Res
  | [x0] => R93 T k x0
  | a => bodyE P H T k 93 a
theorem d93 (T : Nat → List SVal → Option Res) (k : Nat) (a : List SVal) : D93 T k a = bodyE P H T k 93 a := by
  unfold D93
  split
  · exact (r93 ..).symm
  · rfl
theorem t93 (k : Nat) (x0 : SVal) : T (k + 1) 93 [x0] = R93 (T k) k x0 := (by kernel_rfl : T (k + 1) 93 [x0] = bodyE P H (T k) k 93 [x0]).trans (r93 ..)
/-- limelight/flat.Up -/
def R94 (T : Nat → List SVal → Option Res) (k : Nat) (x0 : SVal) (x1 : SVal) : Option Res :=
  (T 115 [(weak x0), x1]).bind fun r1 =>
  (sNot r1.r).bind fun r2 =>
  pickC r2
  (some { r := (.sl 1 false false []) })
  ((T 117 [(weak x0), x1]).bind fun r3 =>
   (T 116 [r3.r]).bind fun r4 =>
   some { r := (.sl 1 false false r4.r.xs) })
theorem r94 (T : Nat → List SVal → Option Res) (k : Nat) (x0 : SVal) (x1 : SVal) : bodyE P H T k 94 [x0, x1] = R94 T k x0 x1 := by kernel_rfl
noncomputable def D94 (T : Nat → List SVal → Option Res) (k : Nat) : List SVal → Option Res
  | [x0, x1] => R94 T k x0 x1
  | a => bodyE P H T k 94 a
theorem d94 (T : Nat → List SVal → Option Res) (k : Nat) (a : List SVal) : D94 T k a = bodyE P H T k 94 a := by
  unfold D94
  split
  · exact (r94 ..).symm
  · rfl
theorem t94 (k : Nat) (x0 : SVal) (x1 : SVal) : T (k + 1) 94 [x0, x1] = R94 (T k) k x0 x1 := (by kernel_rfl : T (k + 1) 94 [x0, x1] = bodyE P H (T k) k 94 [x0, x1]).trans (r94 ..)
/-- slices.IndexFunc[[]int,int] -/
def R95 (T : Nat → List SVal → Option Res) (k : Nat) (x0 : SVal) (x1 : SVal) : Option Res :=
  (sLen x0).bind fun r1 =>
  loopN (fun s2 next2 =>
   (sBin .lss s2.k3 s2.k2).bind fun r3 =>
   pickC r3
   ((sIdx false 1 s2.k0 s2.k3).bind fun e4 =>
    (callV H T s2.k1 [e4]).bind fun y5 =>
    pickC y5
    (some { r := s2.k3 })
    ((sBin .add s2.k3 (.int .i64 1)).bind fun r6 =>
     next2 ⟨[(weak s2.k0), s2.k1, s2.k2, r6], [], false⟩))
   (some { r := (.int .i64 (-1)) })) k ⟨[(weak x0), x1, r1, (.int .i64 0)], [], false⟩
theorem r95 (T : Nat → List SVal → Option Res) (k : Nat) (x0 : SVal) (x1 : SVal) : bodyE P H T k 95 [x0, x1] = R95 T k x0 x1 := by kernel_rfl
noncomputable def D95 (T : Nat → List SVal → Option Res) (k : Nat) : List SVal → Option Res
  | [x0, x1] => R95 T k x0 x1
  | a => bodyE P H T k 95 a
theorem d95 (T : Nat → List SVal → Option Res) (k : Nat) (a : List SVal) : D95 T k a = bodyE P H T k 95 a := by
  unfold D95
  split
  · exact (r95 ..).symm
  · rfl
theorem t95 (k : Nat) (x0 : SVal) (x1 : SVal) : T (k + 1) 95 [x0, x1] = R95 (T k) k x0 x1 := (by kernel_rfl : T (k + 1) 95 [x0, x1] = bodyE P H (T k) k 95 [x0, x1]).trans (r95 ..)
/-- slices.Index[[]int,int] -/
def R96 (T : Nat → List SVal → Option Res) (k : Nat) (x0 : SVal) (x1 : SVal) : Option Res :=
  (sLen x0).bind fun r1 =>
  loopN (fun s2 next2 =>
   (sBin .lss s2.k3 s2.k2).bind fun r3 =>
   pickC r3
   ((sIdx false 1 s2.k0 s2.k3).bind fun e4 =>
    (sBin .eql s2.k1 e4).bind fun r5 =>
    pickC r5
    (some { r := s2.k3 })
    ((sBin .add s2.k3 (.int .i64 1)).bind fun r6 =>
     next2 ⟨[(weak s2.k0), s2.k1, s2.k2, r6], [], false⟩))
   (some { r := (.int .i64 (-1)) })) k ⟨[(weak x0), x1, r1, (.int .i64 0)], [], false⟩
theorem r96 (T : Nat → List SVal → Option Res) (k : Nat) (x0 : SVal) (x1 : SVal) : bodyE P H T k 96 [x0, x1] = R96 T k x0 x1 := by kernel_rfl
noncomputable def D96 (T : Nat → List SVal → Option Res) (k : Nat) : List SVal → Option Res
  | [x0, x1] => R96 T k x0 x1
  | a => bodyE P H T k 96 a
theorem d96 (T : Nat → List SVal → Option Res) (k : Nat) (a : List SVal) : D96 T k a = bodyE P H T k 96 a := by
  unfold D96
  split
  · exact (r96 ..).symm
  · rfl
theorem t96 (k : Nat) (x0 : SVal) (x1 : SVal) : T (k + 1) 96 [x0, x1] = R96 (T k) k x0 x1 := (by kernel_rfl : T (k + 1) 96 [x0, x1] = bodyE P H (T k) k 96 [x0, x1]).trans (r96 ..)
/-- limelight/limelightref06.Parent -/
def R97 (T : Nat → List SVal → Option Res) (k : Nat) (x0 : SVal) (x1 : SVal) : Option Res :=
  loopN (fun s1 next1 =>
   (sLen s1.k0).bind fun r2 =>
   (sBin .lss s1.k2 r2).bind fun r3 =>
   pickC r3
   ((T 118 [(weak s1.k0), s1.k2]).bind fun r4 =>
    (T 30 [(weak r4.r), s1.k1]).bind fun r5 =>
    if isSc1 r5.r = true then
    pickC r5.r
    (some { r := s1.k2 })
    ((sBin .add s1.k2 (.int .i64 1)).bind fun r6 =>
     next1 ⟨[(weak s1.k0), s1.k1, r6], [], false⟩)
    else none)
   (some { r := (.int .i64 (-1)) })) k ⟨[(weak x0), x1, (.int .i64 0)], [], false⟩
theorem r97 (T : Nat → List SVal → Option Res) (k : Nat) (x0 : SVal) (x1 : SVal) : bodyE P H T k 97 [x0, x1] = R97 T k x0 x1 := by kernel_rfl
noncomputable def D97 (T : Nat → List SVal → Option Res) (k : Nat) : List SVal → Option Res
  | [x0, x1] => R97 T k x0 x1
  | a => bodyE P H T k 97 a
theorem d97 (T : Nat → List SVal → Option Res) (k : Nat) (a : List SVal) : D97 T k a = bodyE P H T k 97 a := by
  unfold D97
  split
  · exact (r97 ..).symm
  · rfl
theorem t97 (k : Nat) (x0 : SVal) (x1 : SVal) : T (k + 1) 97 [x0, x1] = R97 (T k) k x0 x1 := (by kernel_rfl : T (k + 1) 97 [x0, x1] = bodyE P H (T k) k 97 [x0, x1]).trans (r97 ..)
/-- limelight/tree.Check -/
def R98 (T : Nat → List SVal → Option Res) (k : Nat) (x0 : SVal) : Option Res :=
  (T 119 [(weak x0)]).bind fun r1 =>
  (sNot r1.r).bind fun r2 =>
  pickC r2
  (some { r := (.int .i64 1) })
  (some { r := (.int .i64 0) })
theorem r98 (T : Nat → List SVal → Option Res) (k : Nat) (x0 : SVal) : bodyE P H T k 98 [x0] = R98 T k x0 := by kernel_rfl
noncomputable def D98 (T : Nat → List SVal → Option Res) (k : Nat) : List SVal → Option Res
  | [x0] => R98 T k x0
  | a => bodyE P H T k 98 a
theorem d98 (T : Nat → List SVal → Option Res) (k : Nat) (a : List SVal) : D98 T k a = bodyE P H T k 98 a := by
  unfold D98
  split
  · exact (r98 ..).symm
  · rfl
theorem t98 (k : Nat) (x0 : SVal) : T (k + 1) 98 [x0] = R98 (T k) k x0 := (by kernel_rfl : T (k + 1) 98 [x0] = bodyE P H (T k) k 98 [x0]).trans (r98 ..)
/-- (limelight/area.node).tag -/
def R99 (T : Nat → List SVal → Option Res) (k : Nat) (x0a : SVal) (x0b : SVal) (x0c : SVal) (x0d : SVal) (x0e : SVal) (x0f : SVal) (x1 : SVal) : Option Res :=
  (sIdx true 7 x0a x0f).bind fun e1 =>
  if (allOne [.v (SVal.cell e1 0), .v (SVal.cell e1 1), .v (SVal.cell e1 2), .v (SVal.cell e1 3), .v (SVal.cell e1 4), .v (SVal.cell e1 5), .v (SVal.cell e1 6)]) = true then
  ((sBin .eql (SVal.cell e1 0) (.int .i64 1)).bind fun r2 =>
   guardX r2 true
   ((sBin .eql (SVal.cell e1 1) x1).bind fun r3 =>
    (asB r3).bind fun b4 =>
    some [b4])
   (some [false])
   (none)).bind fun vs5 =>
  some { r := (.bool (vs5.getD 0 false)) }
  else none
theorem r99 (T : Nat → List SVal → Option Res) (k : Nat) (x0a : SVal) (x0b : SVal) (x0c : SVal) (x0d : SVal) (x0e : SVal) (x0f : SVal) (x1 : SVal) : bodyE P H T k 99 [(.agg [x0a, x0b, x0c, x0d, x0e, x0f]), x1] = R99 T k x0a x0b x0c x0d x0e x0f x1 := by kernel_rfl
noncomputable def D99 (T : Nat → List SVal → Option Res) (k : Nat) : List SVal → Option Res
  | [(.agg [x0a, x0b, x0c, x0d, x0e, x0f]), x1] => R99 T k x0a x0b x0c x0d x0e x0f x1
  | a => bodyE P H T k 99 a
theorem d99 (T : Nat → List SVal → Option Res) (k : Nat) (a : List SVal) : D99 T k a = bodyE P H T k 99 a := by
  unfold D99
  split
  · exact (r99 ..).symm
  · rfl
theorem t99 (k : Nat) (x0a : SVal) (x0b : SVal) (x0c : SVal) (x0d : SVal) (x0e : SVal) (x0f : SVal) (x1 : SVal) : T (k + 1) 99 [(.agg [x0a, x0b, x0c, x0d, x0e, x0f]), x1] = R99 (T k) k x0a x0b x0c x0d x0e x0f x1 := (by kernel_rfl : T (k + 1) 99 [(.agg [x0a, x0b, x0c, x0d, x0e, x0f]), x1] = bodyE P H (T k) k 99 [(.agg [x0a, x0b, x0c, x0d, x0e, x0f]), x1]).trans (r99 ..)
/-- limelight/top.may -/
def R100 (T : Nat → List SVal → Option Res) (k : Nat) (x0a : SVal) (x0b : SVal) (x0c : SVal) (x0d : SVal) (x0e : SVal) : Option Res :=
  if (oneS x0a) = true then
  if (List.all [[.v x0b], [.v x0c]] allOne) = true then
  (T 121 [(.sl 1 false false [x0b, x0c])]).bind fun r1 =>
  (T 120 [(weak r1.r), (.fn 122 [(.rp [x0a])])]).bind fun r2 =>
  (T 124 [(weak x0d), (.fn 125 [(.rp [x0a])])]).bind fun r3 =>
  (T 128 [(.agg [(weak x0a), (weak x0b), (weak x0c), (weak x0d), (weak x0e)])]).bind fun r4 =>
  (T 130 [(weak r4.r)]).bind fun r5 =>
  (T 129 [r5.r]).bind fun r6 =>
  ((sLen r2.r.c1).bind fun r7 =>
   (sBin .eql r7 (.int .i64 0)).bind fun r8 =>
   guardX r8 true
   ((sLen r3.r.c1).bind fun r9 =>
    (sBin .eql r9 (.int .i64 0)).bind fun r10 =>
    guardX r10 true
    (if (List.all [[.v x0b], [.v r4.r]] allOne) = true then
     (T 121 [(.sl 1 false false [x0b, r4.r])]).bind fun r11 =>
     (T 131 [(weak r11.r)]).bind fun r12 =>
     guardX r12.r true
     ((T 130 [(weak x0e)]).bind fun r13 =>
      (T 129 [r13.r]).bind fun r14 =>
      (T 132 [(weak r6.r), (weak r14.r)]).bind fun r15 =>
      (asB r15.r).bind fun b16 =>
      some [b16])
     (some [false])
     (none)
     else none)
    (some [false])
    (none))
   (some [false])
   (none)).bind fun vs17 =>
  some { r := (.bool (vs17.getD 0 false)) }
  else none
  else none
theorem r100 (T : Nat → List SVal → Option Res) (k : Nat) (x0a : SVal) (x0b : SVal) (x0c : SVal) (x0d : SVal) (x0e : SVal) : bodyE P H T k 100 [(.agg [x0a, x0b, x0c, x0d, x0e])] = R100 T k x0a x0b x0c x0d x0e := by kernel_rfl
noncomputable def D100 (T : Nat → List SVal → Option Res) (k : Nat) : List SVal → Option Res
  | [(.agg [x0a, x0b, x0c, x0d, x0e])] => R100 T k x0a x0b x0c x0d x0e
  | a => bodyE P H T k 100 a
theorem d100 (T : Nat → List SVal → Option Res) (k : Nat) (a : List SVal) : D100 T k a = bodyE P H T k 100 a := by
  unfold D100
  split
  · exact (r100 ..).symm
  · rfl
theorem t100 (k : Nat) (x0a : SVal) (x0b : SVal) (x0c : SVal) (x0d : SVal) (x0e : SVal) : T (k + 1) 100 [(.agg [x0a, x0b, x0c, x0d, x0e])] = R100 (T k) k x0a x0b x0c x0d x0e := (by kernel_rfl : T (k + 1) 100 [(.agg [x0a, x0b, x0c, x0d, x0e])] = bodyE P H (T k) k 100 [(.agg [x0a, x0b, x0c, x0d, x0e])]).trans (r100 ..)
/-- slices.ContainsFunc[[]func() bool,func() bool] -/
def R101 (T : Nat → List SVal → Option Res) (k : Nat) (x0 : SVal) (x1 : SVal) : Option Res :=
  (T 133 [(weak x0), x1]).bind fun r1 =>
  (sBin .geq r1.r (.int .i64 0)).bind fun r2 =>
  some { r := r2 }
theorem r101 (T : Nat → List SVal → Option Res) (k : Nat) (x0 : SVal) (x1 : SVal) : bodyE P H T k 101 [x0, x1] = R101 T k x0 x1 := by kernel_rfl
noncomputable def D101 (T : Nat → List SVal → Option Res) (k : Nat) : List SVal → Option Res
  | [x0, x1] => R101 T k x0 x1
  | a => bodyE P H T k 101 a
theorem d101 (T : Nat → List SVal → Option Res) (k : Nat) (a : List SVal) : D101 T k a = bodyE P H T k 101 a := by
  unfold D101
  split
  · exact (r101 ..).symm
  · rfl
theorem t101 (k : Nat) (x0 : SVal) (x1 : SVal) : T (k + 1) 101 [x0, x1] = R101 (T k) k x0 x1 := (by kernel_rfl : T (k + 1) 101 [x0, x1] = bodyE P H (T k) k 101 [x0, x1]).trans (r101 ..)
/-- (limelight/area.node).plain -/
def R102 (T : Nat → List SVal → Option Res) (k : Nat) (x0a : SVal) (x0b : SVal) (x0c : SVal) (x0d : SVal) (x0e : SVal) (x0f : SVal) : Option Res :=
  (T 70 [(.agg [(weak x0a), (weak x0b), (weak x0c), (weak x0d), (weak x0e), x0f])]).bind fun r1 =>
  (sNot r1.r.c1).bind fun r2 =>
  some { r := r2 }
theorem r102 (T : Nat → List SVal → Option Res) (k : Nat) (x0a : SVal) (x0b : SVal) (x0c : SVal) (x0d : SVal) (x0e : SVal) (x0f : SVal) : bodyE P H T k 102 [(.agg [x0a, x0b, x0c, x0d, x0e, x0f])] = R102 T k x0a x0b x0c x0d x0e x0f := by kernel_rfl
noncomputable def D102 (T : Nat → List SVal → Option Res) (k : Nat) : List SVal → Option Res
  | [(.agg [x0a, x0b, x0c, x0d, x0e, x0f])] => R102 T k x0a x0b x0c x0d x0e x0f
  | a => bodyE P H T k 102 a
theorem d102 (T : Nat → List SVal → Option Res) (k : Nat) (a : List SVal) : D102 T k a = bodyE P H T k 102 a := by
  unfold D102
  split
  · exact (r102 ..).symm
  · rfl
theorem t102 (k : Nat) (x0a : SVal) (x0b : SVal) (x0c : SVal) (x0d : SVal) (x0e : SVal) (x0f : SVal) : T (k + 1) 102 [(.agg [x0a, x0b, x0c, x0d, x0e, x0f])] = R102 (T k) k x0a x0b x0c x0d x0e x0f := (by kernel_rfl : T (k + 1) 102 [(.agg [x0a, x0b, x0c, x0d, x0e, x0f])] = bodyE P H (T k) k 102 [(.agg [x0a, x0b, x0c, x0d, x0e, x0f])]).trans (r102 ..)
/-- (limelight/area.node).unseen -/
def R103 (T : Nat → List SVal → Option Res) (k : Nat) (x0a : SVal) (x0b : SVal) (x0c : SVal) (x0d : SVal) (x0e : SVal) (x0f : SVal) : Option Res :=
  (T 134 [(.agg [(weak x0a), (weak x0b), (weak x0c), (weak x0d), (weak x0e)]), x0f]).bind fun r1 =>
  (sNot r1.r).bind fun r2 =>
  some { r := r2 }
theorem r103 (T : Nat → List SVal → Option Res) (k : Nat) (x0a : SVal) (x0b : SVal) (x0c : SVal) (x0d : SVal) (x0e : SVal) (x0f : SVal) : bodyE P H T k 103 [(.agg [x0a, x0b, x0c, x0d, x0e, x0f])] = R103 T k x0a x0b x0c x0d x0e x0f := by kernel_rfl
noncomputable def D103 (T : Nat → List SVal → Option Res) (k : Nat) : List SVal → Option Res
  | [(.agg [x0a, x0b, x0c, x0d, x0e, x0f])] => R103 T k x0a x0b x0c x0d x0e x0f
  | a => bodyE P H T k 103 a
theorem d103 (T : Nat → List SVal → Option Res) (k : Nat) (a : List SVal) : D103 T k a = bodyE P H T k 103 a := by
  unfold D103
  split
  · exact (r103 ..).symm
  · rfl
theorem t103 (k : Nat) (x0a : SVal) (x0b : SVal) (x0c : SVal) (x0d : SVal) (x0e : SVal) (x0f : SVal) : T (k + 1) 103 [(.agg [x0a, x0b, x0c, x0d, x0e, x0f])] = R103 (T k) k x0a x0b x0c x0d x0e x0f := (by kernel_rfl : T (k + 1) 103 [(.agg [x0a, x0b, x0c, x0d, x0e, x0f])] = bodyE P H (T k) k 103 [(.agg [x0a, x0b, x0c, x0d, x0e, x0f])]).trans (r103 ..)
/-- (limelight/area.node).inert -/
def R104 (T : Nat → List SVal → Option Res) (k : Nat) (x0a : SVal) (x0b : SVal) (x0c : SVal) (x0d : SVal) (x0e : SVal) (x0f : SVal) : Option Res :=
  (T 135 [(.agg [(weak x0a), (weak x0b), (weak x0c), (weak x0d), (weak x0e)]), x0f]).bind fun r1 =>
  some { r := r1.r }
theorem r104 (T : Nat → List SVal → Option Res) (k : Nat) (x0a : SVal) (x0b : SVal) (x0c : SVal) (x0d : SVal) (x0e : SVal) (x0f : SVal) : bodyE P H T k 104 [(.agg [x0a, x0b, x0c, x0d, x0e, x0f])] = R104 T k x0a x0b x0c x0d x0e x0f := by kernel_rfl
noncomputable def D104 (T : Nat → List SVal → Option Res) (k : Nat) : List SVal → Option Res
  | [(.agg [x0a, x0b, x0c, x0d, x0e, x0f])] => R104 T k x0a x0b x0c x0d x0e x0f
  | a => bodyE P H T k 104 a
theorem d104 (T : Nat → List SVal → Option Res) (k : Nat) (a : List SVal) : D104 T k a = bodyE P H T k 104 a := by
  unfold D104
  split
  · exact (r104 ..).symm
  · rfl
theorem t104 (k : Nat) (x0a : SVal) (x0b : SVal) (x0c : SVal) (x0d : SVal) (x0e : SVal) (x0f : SVal) : T (k + 1) 104 [(.agg [x0a, x0b, x0c, x0d, x0e, x0f])] = R104 (T k) k x0a x0b x0c x0d x0e x0f := (by kernel_rfl : T (k + 1) 104 [(.agg [x0a, x0b, x0c, x0d, x0e, x0f])] = bodyE P H (T k) k 104 [(.agg [x0a, x0b, x0c, x0d, x0e, x0f])]).trans (r104 ..)
/-- (limelight/area.node).is$1 -/
def R105 (T : Nat → List SVal → Option Res) (k : Nat) (x0 : SVal) : Option Res :=
  (callV H T x0 []).bind fun y1 =>
  some { r := y1 }
theorem r105 (T : Nat → List SVal → Option Res) (k : Nat) (x0 : SVal) : bodyE P H T k 105 [x0] = R105 T k x0 := by kernel_rfl
noncomputable def D105 (T : Nat → List SVal → Option Res) (k : Nat) : List SVal → Option Res
  | [x0] => R105 T k x0
  | a => bodyE P H T k 105 a
theorem d105 (T : Nat → List SVal → Option Res) (k : Nat) (a : List SVal) : D105 T k a = bodyE P H T k 105 a := by
  unfold D105
  split
  · exact (r105 ..).symm
  · rfl
theorem t105 (k : Nat) (x0 : SVal) : T (k + 1) 105 [x0] = R105 (T k) k x0 := (by kernel_rfl : T (k + 1) 105 [x0] = bodyE P H (T k) k 105 [x0]).trans (r105 ..)
/-- limelight/attr.Has -/
def R106 (T : Nat → List SVal → Option Res) (k : Nat) (x0 : SVal) (x1 : SVal) (x2 : SVal) : Option Res :=
  (T 56 [(weak x0), x1, x2]).bind fun r1 =>
  some { r := r1.r.c1 }
theorem r106 (T : Nat → List SVal → Option Res) (k : Nat) (x0 : SVal) (x1 : SVal) (x2 : SVal) : bodyE P H T k 106 [x0, x1, x2] = R106 T k x0 x1 x2 := by kernel_rfl
noncomputable def D106 (T : Nat → List SVal → Option Res) (k : Nat) : List SVal → Option Res
  | [x0, x1, x2] => R106 T k x0 x1 x2
  | a => bodyE P H T k 106 a
theorem d106 (T : Nat → List SVal → Option Res) (k : Nat) (a : List SVal) : D106 T k a = bodyE P H T k 106 a := by
  unfold D106
  split
  · exact (r106 ..).symm
  · rfl
theorem t106 (k : Nat) (x0 : SVal) (x1 : SVal) (x2 : SVal) : T (k + 1) 106 [x0, x1, x2] = R106 (T k) k x0 x1 x2 := (by kernel_rfl : T (k + 1) 106 [x0, x1, x2] = bodyE P H (T k) k 106 [x0, x1, x2]).trans (r106 ..)
/-- limelight/limelightref04.Connected -/
def R107 (T : Nat → List SVal → Option Res) (k : Nat) (x0 : SVal) (x1 : SVal) : Option Res :=
  (T 136 [(weak x0), (.int .i64 0), x1]).bind fun r1 =>
  some { r := r1.r }
theorem r107 (T : Nat → List SVal → Option Res) (k : Nat) (x0 : SVal) (x1 : SVal) : bodyE P H T k 107 [x0, x1] = R107 T k x0 x1 := by kernel_rfl
noncomputable def D107 (T : Nat → List SVal → Option Res) (k : Nat) : List SVal → Option Res
  | [x0, x1] => R107 T k x0 x1
  | a => bodyE P H T k 107 a
theorem d107 (T : Nat → List SVal → Option Res) (k : Nat) (a : List SVal) : D107 T k a = bodyE P H T k 107 a := by
  unfold D107
  split
  · exact (r107 ..).symm
  · rfl
theorem t107 (k : Nat) (x0 : SVal) (x1 : SVal) : T (k + 1) 107 [x0, x1] = R107 (T k) k x0 x1 := (by kernel_rfl : T (k + 1) 107 [x0, x1] = bodyE P H (T k) k 107 [x0, x1]).trans (r107 ..)
/-- limelight/limelightref01.Copy -/
def R108 (T : Nat → List SVal → Option Res) (k : Nat) (x0 : SVal) : Option Res :=
  loopN (fun s1 next1 =>
   (sLen s1.k0).bind fun r2 =>
   (sBin .lss s1.k2 r2).bind fun r3 =>
   pickC r3
   ((sIdx true 7 s1.k0 s1.k2).bind fun e4 =>
    if (allOne [.v (SVal.cell e4 0), .v (SVal.cell e4 1), .v (SVal.cell e4 2), .v (SVal.cell e4 3), .v (SVal.cell e4 4), .v (SVal.cell e4 5), .v (SVal.cell e4 6)]) = true then
    (elems 1 (SVal.cell e4 3)).bind fun ys5 =>
    if (([] : List SVal).length + ys5.length) * 8 ≤ maxAppend then
    (elems 2 (SVal.cell e4 6)).bind fun ys6 =>
    if (([] : List SVal).length + ys6.length) * 16 ≤ maxAppend then
    if (List.all [[.v (SVal.cell e4 0), .v (SVal.cell e4 1), .v (SVal.cell e4 2), .la 321 1, .v (SVal.cell e4 4), .v (SVal.cell e4 5), .la 513 1]] allOne) = true then
    if (s1.k1.xs.length + ([(.agg [(weak (SVal.cell e4 0)), (weak (SVal.cell e4 1)), (weak (SVal.cell e4 2)), (.sl 1 false false (([] : List SVal) ++ ys5)), (weak (SVal.cell e4 4)), (weak (SVal.cell e4 5)), (.sl 2 false false (([] : List SVal) ++ ys6))])] : List SVal).length) * 88 ≤ maxAppend then
    (sBin .add s1.k2 (.int .i64 1)).bind fun r7 =>
    next1 ⟨[(weak s1.k0), (.sl 7 true false (s1.k1.xs ++ ([(.agg [(weak (SVal.cell e4 0)), (weak (SVal.cell e4 1)), (weak (SVal.cell e4 2)), (.sl 1 false false (([] : List SVal) ++ ys5)), (weak (SVal.cell e4 4)), (weak (SVal.cell e4 5)), (.sl 2 false false (([] : List SVal) ++ ys6))])] : List SVal))), r7], [], false⟩
    else none
    else none
    else none
    else none
    else none)
   (some { r := (.sl 7 true false s1.k1.xs) })) k ⟨[(weak x0), (.sl 7 true false []), (.int .i64 0)], [], false⟩
theorem r108 (T : Nat → List SVal → Option Res) (k : Nat) (x0 : SVal) : bodyE P H T k 108 [x0] = R108 T k x0 := by kernel_rfl
noncomputable def D108 (T : Nat → List SVal → Option Res) (k : Nat) : List SVal → Option Res
  | [x0] => R108 T k x0
  | a => bodyE P H T k 108 a
theorem d108 (T : Nat → List SVal → Option Res) (k : Nat) (a : List SVal) : D108 T k a = bodyE P H T k 108 a := by
  unfold D108
  split
  · exact (r108 ..).symm
  · rfl
theorem t108 (k : Nat) (x0 : SVal) : T (k + 1) 108 [x0] = R108 (T k) k x0 := (by kernel_rfl : T (k + 1) 108 [x0] = bodyE P H (T k) k 108 [x0]).trans (r108 ..)
end Go.Proofs.YtcehbmffbmhpfaaGreat.K
