/- What the evaluator makes of the functions, by program (wip/tr/resid.py); each equation is checked by the kernel. -/
import Derived.Test.YtcehbmffbmhpfaaGreatLmAK
import Derived.Test.YtcehbmffbmhpfaaGreatLmAB
import Derived.KernelRfl
set_option linter.unusedVariables false
set_option linter.unusedSimpArgs false
set_option linter.unnecessarySimpa false
set_option linter.all false
set_option maxRecDepth 100000
namespace Go.Proofs.YtcehbmffbmhpfaaGreat.K
open Go Go.Lm
/-- limelight/limelightref03.Both -/
def R36 (T : Nat → List SVal → Option Res) (k : Nat) (x0 : SVal) (x1 : SVal) (x2 : SVal) : Option Res :=
  ((T 52 [(weak x0)]).bind fun r1 =>
   guardX r1.r true
   ((T 17 [(weak x0), x1]).bind fun r2 =>
    guardX r2.r true
    ((T 17 [(weak x0), x2]).bind fun r3 =>
     (asB r3.r).bind fun b4 =>
     some [b4])
    (some [false])
    (none))
   (some [false])
   (none)).bind fun vs5 =>
  some { r := (.bool (vs5.getD 0 false)) }
theorem r36 (T : Nat → List SVal → Option Res) (k : Nat) (x0 : SVal) (x1 : SVal) (x2 : SVal) : bodyE P H T k 36 [x0, x1, x2] = R36 T k x0 x1 x2 := by kernel_rfl
noncomputable def D36 (T : Nat → List SVal → Option Res) (k : Nat) : List SVal → Option Res
  | [x0, x1, x2] => R36 T k x0 x1 x2
  | a => bodyE P H T k 36 a
theorem d36 (T : Nat → List SVal → Option Res) (k : Nat) (a : List SVal) : D36 T k a = bodyE P H T k 36 a := by
  unfold D36
  split
  · exact (r36 ..).symm
  · rfl
theorem t36 (k : Nat) (x0 : SVal) (x1 : SVal) (x2 : SVal) : T (k + 1) 36 [x0, x1, x2] = R36 (T k) k x0 x1 x2 := (by kernel_rfl : T (k + 1) 36 [x0, x1, x2] = bodyE P H (T k) k 36 [x0, x1, x2]).trans (r36 ..)
/-- limelight/area.Is -/
def R37 (T : Nat → List SVal → Option Res) (k : Nat) (x0a : SVal) (x0b : SVal) (x0c : SVal) (x0d : SVal) (x0e : SVal) (x1 : SVal) : Option Res :=
  (T 69 [(weak x0a), x1]).bind fun r1 =>
  if (allOne [.v r1.r.c0.c0, .v r1.r.c0.c1, .v r1.r.c0.c2, .v r1.r.c0.c3, .v r1.r.c0.c4, .v r1.r.c0.c5]) = true then
  (guardX r1.r.c1 true
   ((T 71 [(.agg [(weak x0a), (weak x0b), (weak x0c), (weak x0d), (weak x0e)])]).bind fun r2 =>
    (sBin .eql r2.r (.int .i64 0)).bind fun r3 =>
    guardX r3 true
    (if (6 ≤ 6 ∧ (oneS x1) = true) then
     (T 72 [(.agg [(weak x0a), (weak x0b), (weak x0c), (weak x0d), (weak x0e), x1])]).bind fun r4 =>
     (asB r4.r).bind fun b5 =>
     some [b5]
     else none)
    (some [false])
    (none))
   (some [false])
   (none)).bind fun vs6 =>
  some { r := (.bool (vs6.getD 0 false)) }
  else none
theorem r37 (T : Nat → List SVal → Option Res) (k : Nat) (x0a : SVal) (x0b : SVal) (x0c : SVal) (x0d : SVal) (x0e : SVal) (x1 : SVal) : bodyE P H T k 37 [(.agg [x0a, x0b, x0c, x0d, x0e]), x1] = R37 T k x0a x0b x0c x0d x0e x1 := by kernel_rfl
noncomputable def D37 (T : Nat → List SVal → Option Res) (k : Nat) : List SVal → Option Res
  | [(.agg [x0a, x0b, x0c, x0d, x0e]), x1] => R37 T k x0a x0b x0c x0d x0e x1
  | a => bodyE P H T k 37 a
theorem d37 (T : Nat → List SVal → Option Res) (k : Nat) (a : List SVal) : D37 T k a = bodyE P H T k 37 a := by
  unfold D37
  split
  · exact (r37 ..).symm
  · rfl
theorem t37 (k : Nat) (x0a : SVal) (x0b : SVal) (x0c : SVal) (x0d : SVal) (x0e : SVal) (x1 : SVal) : T (k + 1) 37 [(.agg [x0a, x0b, x0c, x0d, x0e]), x1] = R37 (T k) k x0a x0b x0c x0d x0e x1 := (by kernel_rfl : T (k + 1) 37 [(.agg [x0a, x0b, x0c, x0d, x0e]), x1] = bodyE P H (T k) k 37 [(.agg [x0a, x0b, x0c, x0d, x0e]), x1]).trans (r37 ..)
/-- limelight/area.Tabs -/
def R38 (T : Nat → List SVal → Option Res) (k : Nat) (x0a : SVal) (x0b : SVal) (x0c : SVal) (x0d : SVal) (x0e : SVal) (x1 : SVal) : Option Res :=
  (T 35 [(weak x0a), x1]).bind fun r1 =>
  ((sBin .geq r1.r.c0 (.int .i64 0)).bind fun r2 =>
   guardX r2 true
   ((T 37 [(.agg [(weak x0a), (weak x0b), (weak x0c), (weak x0d), (weak x0e)]), x1]).bind fun r3 =>
    (asB r3.r).bind fun b4 =>
    some [b4])
   (some [false])
   (none)).bind fun vs5 =>
  some { r := (.bool (vs5.getD 0 false)) }
theorem r38 (T : Nat → List SVal → Option Res) (k : Nat) (x0a : SVal) (x0b : SVal) (x0c : SVal) (x0d : SVal) (x0e : SVal) (x1 : SVal) : bodyE P H T k 38 [(.agg [x0a, x0b, x0c, x0d, x0e]), x1] = R38 T k x0a x0b x0c x0d x0e x1 := by kernel_rfl
noncomputable def D38 (T : Nat → List SVal → Option Res) (k : Nat) : List SVal → Option Res
  | [(.agg [x0a, x0b, x0c, x0d, x0e]), x1] => R38 T k x0a x0b x0c x0d x0e x1
  | a => bodyE P H T k 38 a
theorem d38 (T : Nat → List SVal → Option Res) (k : Nat) (a : List SVal) : D38 T k a = bodyE P H T k 38 a := by
  unfold D38
  split
  · exact (r38 ..).symm
  · rfl
theorem t38 (k : Nat) (x0a : SVal) (x0b : SVal) (x0c : SVal) (x0d : SVal) (x0e : SVal) (x1 : SVal) : T (k + 1) 38 [(.agg [x0a, x0b, x0c, x0d, x0e]), x1] = R38 (T k) k x0a x0b x0c x0d x0e x1 := (by kernel_rfl : T (k + 1) 38 [(.agg [x0a, x0b, x0c, x0d, x0e]), x1] = bodyE P H (T k) k 38 [(.agg [x0a, x0b, x0c, x0d, x0e]), x1]).trans (r38 ..)
/-- limelight/area.Disabled -/
def R39 (T : Nat → List SVal → Option Res) (k : Nat) (x0 : SVal) (x1 : SVal) : Option Res :=
  (T 69 [(weak x0), x1]).bind fun r1 =>
  if (allOne [.v r1.r.c0.c0, .v r1.r.c0.c1, .v r1.r.c0.c2, .v r1.r.c0.c3, .v r1.r.c0.c4, .v r1.r.c0.c5]) = true then
  (guardX r1.r.c1 true
   ((T 73 [(.agg [(weak r1.r.c0.c0), (weak r1.r.c0.c1), (weak r1.r.c0.c2), (weak r1.r.c0.c3), (weak r1.r.c0.c4), r1.r.c0.c5])]).bind fun r2 =>
    (asB r2.r).bind fun b3 =>
    some [b3])
   (some [false])
   (none)).bind fun vs4 =>
  some { r := (.bool (vs4.getD 0 false)) }
  else none
theorem r39 (T : Nat → List SVal → Option Res) (k : Nat) (x0 : SVal) (x1 : SVal) : bodyE P H T k 39 [x0, x1] = R39 T k x0 x1 := by kernel_rfl
noncomputable def D39 (T : Nat → List SVal → Option Res) (k : Nat) : List SVal → Option Res
  | [x0, x1] => R39 T k x0 x1
  | a => bodyE P H T k 39 a
theorem d39 (T : Nat → List SVal → Option Res) (k : Nat) (a : List SVal) : D39 T k a = bodyE P H T k 39 a := by
  unfold D39
  split
  · exact (r39 ..).symm
  · rfl
theorem t39 (k : Nat) (x0 : SVal) (x1 : SVal) : T (k + 1) 39 [x0, x1] = R39 (T k) k x0 x1 := (by kernel_rfl : T (k + 1) 39 [x0, x1] = bodyE P H (T k) k 39 [x0, x1]).trans (r39 ..)
/-- limelight/area.Delegates -/
def R40 (T : Nat → List SVal → Option Res) (k : Nat) (x0 : SVal) (x1 : SVal) : Option Res :=
  (T 69 [(weak x0), x1]).bind fun r1 =>
  if (allOne [.v r1.r.c0.c0, .v r1.r.c0.c1, .v r1.r.c0.c2, .v r1.r.c0.c3, .v r1.r.c0.c4, .v r1.r.c0.c5]) = true then
  (guardX r1.r.c1 true
   ((T 74 [(.agg [(weak r1.r.c0.c0), (weak r1.r.c0.c1), (weak r1.r.c0.c2), (weak r1.r.c0.c3), (weak r1.r.c0.c4), r1.r.c0.c5])]).bind fun r2 =>
    (asB r2.r).bind fun b3 =>
    some [b3])
   (some [false])
   (none)).bind fun vs4 =>
  some { r := (.bool (vs4.getD 0 false)) }
  else none
theorem r40 (T : Nat → List SVal → Option Res) (k : Nat) (x0 : SVal) (x1 : SVal) : bodyE P H T k 40 [x0, x1] = R40 T k x0 x1 := by kernel_rfl
noncomputable def D40 (T : Nat → List SVal → Option Res) (k : Nat) : List SVal → Option Res
  | [x0, x1] => R40 T k x0 x1
  | a => bodyE P H T k 40 a
theorem d40 (T : Nat → List SVal → Option Res) (k : Nat) (a : List SVal) : D40 T k a = bodyE P H T k 40 a := by
  unfold D40
  split
  · exact (r40 ..).symm
  · rfl
theorem t40 (k : Nat) (x0 : SVal) (x1 : SVal) : T (k + 1) 40 [x0, x1] = R40 (T k) k x0 x1 := (by kernel_rfl : T (k + 1) 40 [x0, x1] = bodyE P H (T k) k 40 [x0, x1]).trans (r40 ..)
/-- limelight/limelightref13.Index -/
def R41 (T : Nat → List SVal → Option Res) (k : Nat) (x0 : SVal) (x1 : SVal) : Option Res :=
  (T 66 [(weak x0), x1, (.int .i64 0)]).bind fun r1 =>
  guardX r1.r.c1 false
  ((sIdx true 7 x0 x1).bind fun e2 =>
   (sBin .eql (SVal.cell e2 1) (.int .i64 1)).bind fun r3 =>
   guardX r3 false
   ((sIdx true 7 x0 x1).bind fun e4 =>
    (sBin .eql (SVal.cell e4 1) (.int .i64 4)).bind fun r5 =>
    some { r := (.tup [r1.r.c0, r5]) })
   (some { r := (.tup [r1.r.c0, (.bool true)]) })
   (none))
  (some { r := (.tup [r1.r.c0, (.bool true)]) })
  (none)
theorem r41 (T : Nat → List SVal → Option Res) (k : Nat) (x0 : SVal) (x1 : SVal) : bodyE P H T k 41 [x0, x1] = R41 T k x0 x1 := by kernel_rfl
noncomputable def D41 (T : Nat → List SVal → Option Res) (k : Nat) : List SVal → Option Res
  | [x0, x1] => R41 T k x0 x1
  | a => bodyE P H T k 41 a
theorem d41 (T : Nat → List SVal → Option Res) (k : Nat) (a : List SVal) : D41 T k a = bodyE P H T k 41 a := by
  unfold D41
  split
  · exact (r41 ..).symm
  · rfl
theorem t41 (k : Nat) (x0 : SVal) (x1 : SVal) : T (k + 1) 41 [x0, x1] = R41 (T k) k x0 x1 := (by kernel_rfl : T (k + 1) 41 [x0, x1] = bodyE P H (T k) k 41 [x0, x1]).trans (r41 ..)
/-- limelight/limelightref13.Disabled -/
def R42 (T : Nat → List SVal → Option Res) (k : Nat) (x0 : SVal) (x1 : SVal) : Option Res :=
  ((sIdx true 7 x0 x1).bind fun e1 =>
   (sBin .eql (SVal.cell e1 1) (.int .i64 1)).bind fun r2 =>
   guardX r2 true
   ((T 75 [(weak x0), x1, (.int .i64 1)]).bind fun r3 =>
    (asB r3.r).bind fun b4 =>
    some [b4])
   (some [false])
   (none)).bind fun vs5 =>
  some { r := (.bool (vs5.getD 0 false)) }
theorem r42 (T : Nat → List SVal → Option Res) (k : Nat) (x0 : SVal) (x1 : SVal) : bodyE P H T k 42 [x0, x1] = R42 T k x0 x1 := by kernel_rfl
noncomputable def D42 (T : Nat → List SVal → Option Res) (k : Nat) : List SVal → Option Res
  | [x0, x1] => R42 T k x0 x1
  | a => bodyE P H T k 42 a
theorem d42 (T : Nat → List SVal → Option Res) (k : Nat) (a : List SVal) : D42 T k a = bodyE P H T k 42 a := by
  unfold D42
  split
  · exact (r42 ..).symm
  · rfl
theorem t42 (k : Nat) (x0 : SVal) (x1 : SVal) : T (k + 1) 42 [x0, x1] = R42 (T k) k x0 x1 := (by kernel_rfl : T (k + 1) 42 [x0, x1] = bodyE P H (T k) k 42 [x0, x1]).trans (r42 ..)
/-- limelight/limelightref13.Delegates -/
def R43 (T : Nat → List SVal → Option Res) (k : Nat) (x0 : SVal) (x1 : SVal) : Option Res :=
  ((sIdx true 7 x0 x1).bind fun e1 =>
   (sBin .neq (SVal.cell e1 5) (.int .i64 (-1))).bind fun r2 =>
   guardX r2 true
   ((sIdx true 7 x0 x1).bind fun e3 =>
    (T 75 [(weak x0), (SVal.cell e3 5), (.int .i64 7)]).bind fun r4 =>
    (asB r4.r).bind fun b5 =>
    some [b5])
   (some [false])
   (none)).bind fun vs6 =>
  some { r := (.bool (vs6.getD 0 false)) }
theorem r43 (T : Nat → List SVal → Option Res) (k : Nat) (x0 : SVal) (x1 : SVal) : bodyE P H T k 43 [x0, x1] = R43 T k x0 x1 := by kernel_rfl
noncomputable def D43 (T : Nat → List SVal → Option Res) (k : Nat) : List SVal → Option Res
  | [x0, x1] => R43 T k x0 x1
  | a => bodyE P H T k 43 a
theorem d43 (T : Nat → List SVal → Option Res) (k : Nat) (a : List SVal) : D43 T k a = bodyE P H T k 43 a := by
  unfold D43
  split
  · exact (r43 ..).symm
  · rfl
theorem t43 (k : Nat) (x0 : SVal) (x1 : SVal) : T (k + 1) 43 [x0, x1] = R43 (T k) k x0 x1 := (by kernel_rfl : T (k + 1) 43 [x0, x1] = bodyE P H (T k) k 43 [x0, x1]).trans (r43 ..)
/-- limelight/area.All -/
def R44 (T : Nat → List SVal → Option Res) (k : Nat) (x0a : SVal) (x0b : SVal) (x0c : SVal) (x0d : SVal) (x0e : SVal) : Option Res :=
  (sLen x0a).bind fun r1 =>
  loopN (fun s2 next2 =>
   (sBin .lss s2.k3 s2.k2).bind fun r3 =>
   pickC r3
   ((T 37 [(.agg [(weak (SVal.cell s2.k0 0)), (weak (SVal.cell s2.k0 1)), (weak (SVal.cell s2.k0 2)), (weak (SVal.cell s2.k0 3)), (weak (SVal.cell s2.k0 4))]), s2.k3]).bind fun r4 =>
    pickC r4.r
    (if (List.all [[.v s2.k3]] allOne) = true then
     if (s2.k1.xs.length + ([s2.k3] : List SVal).length) * 8 ≤ maxAppend then
     (sBin .add s2.k3 (.int .i64 1)).bind fun r5 =>
     next2 ⟨[(.rp [(SVal.cell s2.k0 0), (SVal.cell s2.k0 1), (SVal.cell s2.k0 2), (SVal.cell s2.k0 3), (SVal.cell s2.k0 4)]), (.sl 1 true false (s2.k1.xs ++ ([s2.k3] : List SVal))), s2.k2, r5], [], false⟩
     else none
     else none)
    ((sBin .add s2.k3 (.int .i64 1)).bind fun r6 =>
     next2 ⟨[(.rp [(SVal.cell s2.k0 0), (SVal.cell s2.k0 1), (SVal.cell s2.k0 2), (SVal.cell s2.k0 3), (SVal.cell s2.k0 4)]), (.sl 1 true false s2.k1.xs), s2.k2, r6], [], false⟩))
   (some { r := (.sl 1 false false s2.k1.xs) })) k ⟨[(.rp [x0a, x0b, x0c, x0d, x0e]), (.sl 1 true false []), r1, (.int .i64 0)], [], false⟩
theorem r44 (T : Nat → List SVal → Option Res) (k : Nat) (x0a : SVal) (x0b : SVal) (x0c : SVal) (x0d : SVal) (x0e : SVal) : bodyE P H T k 44 [(.agg [x0a, x0b, x0c, x0d, x0e])] = R44 T k x0a x0b x0c x0d x0e := by kernel_rfl
noncomputable def D44 (T : Nat → List SVal → Option Res) (k : Nat) : List SVal → Option Res
  | [(.agg [x0a, x0b, x0c, x0d, x0e])] => R44 T k x0a x0b x0c x0d x0e
  | a => bodyE P H T k 44 a
theorem d44 (T : Nat → List SVal → Option Res) (k : Nat) (a : List SVal) : D44 T k a = bodyE P H T k 44 a := by
  unfold D44
  split
  · exact (r44 ..).symm
  · rfl
theorem t44 (k : Nat) (x0a : SVal) (x0b : SVal) (x0c : SVal) (x0d : SVal) (x0e : SVal) : T (k + 1) 44 [(.agg [x0a, x0b, x0c, x0d, x0e])] = R44 (T k) k x0a x0b x0c x0d x0e := (by kernel_rfl : T (k + 1) 44 [(.agg [x0a, x0b, x0c, x0d, x0e])] = bodyE P H (T k) k 44 [(.agg [x0a, x0b, x0c, x0d, x0e])]).trans (r44 ..)
/-- limelight/limelightref13.Is -/
def R45 (T : Nat → List SVal → Option Res) (k : Nat) (x0a : SVal) (x0b : SVal) (x0c : SVal) (x0d : SVal) (x0e : SVal) (x1 : SVal) : Option Res :=
  (T 41 [(weak x0a), x1]).bind fun r1 =>
  (guardX r1.r.c1 true
   ((T 42 [(weak x0a), x1]).bind fun r2 =>
    (sNot r2.r).bind fun r3 =>
    guardX r3 true
    ((T 43 [(weak x0a), x1]).bind fun r4 =>
     (sNot r4.r).bind fun r5 =>
     guardX r5 true
     ((T 48 [(.agg [(weak x0a), (weak x0b), (weak x0c), (weak x0d), (weak x0e)]), x1]).bind fun r6 =>
      guardX r6.r true
      ((T 49 [(.agg [(weak x0a), (weak x0b), (weak x0c), (weak x0d), (weak x0e)]), x1]).bind fun r7 =>
       (sNot r7.r).bind fun r8 =>
       (asB r8).bind fun b9 =>
       some [b9])
      (some [false])
      (none))
     (some [false])
     (none))
    (some [false])
    (none))
   (some [false])
   (none)).bind fun vs10 =>
  some { r := (.bool (vs10.getD 0 false)) }
theorem r45 (T : Nat → List SVal → Option Res) (k : Nat) (x0a : SVal) (x0b : SVal) (x0c : SVal) (x0d : SVal) (x0e : SVal) (x1 : SVal) : bodyE P H T k 45 [(.agg [x0a, x0b, x0c, x0d, x0e]), x1] = R45 T k x0a x0b x0c x0d x0e x1 := by kernel_rfl
noncomputable def D45 (T : Nat → List SVal → Option Res) (k : Nat) : List SVal → Option Res
  | [(.agg [x0a, x0b, x0c, x0d, x0e]), x1] => R45 T k x0a x0b x0c x0d x0e x1
  | a => bodyE P H T k 45 a
theorem d45 (T : Nat → List SVal → Option Res) (k : Nat) (a : List SVal) : D45 T k a = bodyE P H T k 45 a := by
  unfold D45
  split
  · exact (r45 ..).symm
  · rfl
theorem t45 (k : Nat) (x0a : SVal) (x0b : SVal) (x0c : SVal) (x0d : SVal) (x0e : SVal) (x1 : SVal) : T (k + 1) 45 [(.agg [x0a, x0b, x0c, x0d, x0e]), x1] = R45 (T k) k x0a x0b x0c x0d x0e x1 := (by kernel_rfl : T (k + 1) 45 [(.agg [x0a, x0b, x0c, x0d, x0e]), x1] = bodyE P H (T k) k 45 [(.agg [x0a, x0b, x0c, x0d, x0e]), x1]).trans (r45 ..)
/-- limelight/limelightref13.Tabs -/
def R46 (T : Nat → List SVal → Option Res) (k : Nat) (x0a : SVal) (x0b : SVal) (x0c : SVal) (x0d : SVal) (x0e : SVal) (x1 : SVal) : Option Res :=
  (T 41 [(weak x0a), x1]).bind fun r1 =>
  ((T 45 [(.agg [(weak x0a), (weak x0b), (weak x0c), (weak x0d), (weak x0e)]), x1]).bind fun r2 =>
   guardX r2.r true
   ((sBin .geq r1.r.c0 (.int .i64 0)).bind fun r3 =>
    (asB r3).bind fun b4 =>
    some [b4])
   (some [false])
   (none)).bind fun vs5 =>
  some { r := (.bool (vs5.getD 0 false)) }
theorem r46 (T : Nat → List SVal → Option Res) (k : Nat) (x0a : SVal) (x0b : SVal) (x0c : SVal) (x0d : SVal) (x0e : SVal) (x1 : SVal) : bodyE P H T k 46 [(.agg [x0a, x0b, x0c, x0d, x0e]), x1] = R46 T k x0a x0b x0c x0d x0e x1 := by kernel_rfl
noncomputable def D46 (T : Nat → List SVal → Option Res) (k : Nat) : List SVal → Option Res
  | [(.agg [x0a, x0b, x0c, x0d, x0e]), x1] => R46 T k x0a x0b x0c x0d x0e x1
  | a => bodyE P H T k 46 a
theorem d46 (T : Nat → List SVal → Option Res) (k : Nat) (a : List SVal) : D46 T k a = bodyE P H T k 46 a := by
  unfold D46
  split
  · exact (r46 ..).symm
  · rfl
theorem t46 (k : Nat) (x0a : SVal) (x0b : SVal) (x0c : SVal) (x0d : SVal) (x0e : SVal) (x1 : SVal) : T (k + 1) 46 [(.agg [x0a, x0b, x0c, x0d, x0e]), x1] = R46 (T k) k x0a x0b x0c x0d x0e x1 := (by kernel_rfl : T (k + 1) 46 [(.agg [x0a, x0b, x0c, x0d, x0e]), x1] = bodyE P H (T k) k 46 [(.agg [x0a, x0b, x0c, x0d, x0e]), x1]).trans (r46 ..)
/-- limelight/limelightref13.All -/
def R47 (T : Nat → List SVal → Option Res) (k : Nat) (x0a : SVal) (x0b : SVal) (x0c : SVal) (x0d : SVal) (x0e : SVal) : Option Res :=
  loopN (fun s1 next1 =>
   (sLen (SVal.cell s1.k0 0)).bind fun r2 =>
   (sBin .lss s1.k2 r2).bind fun r3 =>
   pickC r3
   ((T 45 [(.agg [(weak (SVal.cell s1.k0 0)), (weak (SVal.cell s1.k0 1)), (weak (SVal.cell s1.k0 2)), (weak (SVal.cell s1.k0 3)), (weak (SVal.cell s1.k0 4))]), s1.k2]).bind fun r4 =>
    pickC r4.r
    (if (List.all [[.v s1.k2]] allOne) = true then
     if (s1.k1.xs.length + ([s1.k2] : List SVal).length) * 8 ≤ maxAppend then
     (sBin .add s1.k2 (.int .i64 1)).bind fun r5 =>
     next1 ⟨[(.rp [(SVal.cell s1.k0 0), (SVal.cell s1.k0 1), (SVal.cell s1.k0 2), (SVal.cell s1.k0 3), (SVal.cell s1.k0 4)]), (.sl 1 true false (s1.k1.xs ++ ([s1.k2] : List SVal))), r5], [], false⟩
     else none
     else none)
    ((sBin .add s1.k2 (.int .i64 1)).bind fun r6 =>
     next1 ⟨[(.rp [(SVal.cell s1.k0 0), (SVal.cell s1.k0 1), (SVal.cell s1.k0 2), (SVal.cell s1.k0 3), (SVal.cell s1.k0 4)]), (.sl 1 true false s1.k1.xs), r6], [], false⟩))
   (some { r := (.sl 1 false false s1.k1.xs) })) k ⟨[(.rp [x0a, x0b, x0c, x0d, x0e]), (.sl 1 true false []), (.int .i64 0)], [], false⟩
theorem r47 (T : Nat → List SVal → Option Res) (k : Nat) (x0a : SVal) (x0b : SVal) (x0c : SVal) (x0d : SVal) (x0e : SVal) : bodyE P H T k 47 [(.agg [x0a, x0b, x0c, x0d, x0e])] = R47 T k x0a x0b x0c x0d x0e := by kernel_rfl
noncomputable def D47 (T : Nat → List SVal → Option Res) (k : Nat) : List SVal → Option Res
  | [(.agg [x0a, x0b, x0c, x0d, x0e])] => R47 T k x0a x0b x0c x0d x0e
  | a => bodyE P H T k 47 a
theorem d47 (T : Nat → List SVal → Option Res) (k : Nat) (a : List SVal) : D47 T k a = bodyE P H T k 47 a := by
  unfold D47
  split
  · exact (r47 ..).symm
  · rfl
theorem t47 (k : Nat) (x0a : SVal) (x0b : SVal) (x0c : SVal) (x0d : SVal) (x0e : SVal) : T (k + 1) 47 [(.agg [x0a, x0b, x0c, x0d, x0e])] = R47 (T k) k x0a x0b x0c x0d x0e := (by kernel_rfl : T (k + 1) 47 [(.agg [x0a, x0b, x0c, x0d, x0e])] = bodyE P H (T k) k 47 [(.agg [x0a, x0b, x0c, x0d, x0e])]).trans (r47 ..)
/-- limelight/limelightref11.Is -/
def R48 (T : Nat → List SVal → Option Res) (k : Nat) (x0a : SVal) (x0b : SVal) (x0c : SVal) (x0d : SVal) (x0e : SVal) (x1 : SVal) : Option Res :=
  (T 68 [(weak x0a), x1]).bind fun r1 =>
  loopN (fun s2 next2 =>
   (sLen s2.k2).bind fun r3 =>
   (sBin .lss s2.k3 r3).bind fun r4 =>
   pickC r4
   ((sIdx false 1 s2.k2 s2.k3).bind fun e5 =>
    (T 76 [(.agg [(weak (SVal.cell s2.k1 0)), (weak (SVal.cell s2.k1 1)), (weak (SVal.cell s2.k1 2)), (weak (SVal.cell s2.k1 3)), (weak (SVal.cell s2.k1 4))]), e5]).bind fun r6 =>
    (sNot r6.r).bind fun r7 =>
    pickC r7
    (some { r := (.bool false) })
    ((sBin .add s2.k3 (.int .i64 1)).bind fun r8 =>
     next2 ⟨[s2.k0, (.rp [(SVal.cell s2.k1 0), (SVal.cell s2.k1 1), (SVal.cell s2.k1 2), (SVal.cell s2.k1 3), (SVal.cell s2.k1 4)]), (weak s2.k2), r8], [], false⟩))
   ((T 77 [(weak (SVal.cell s2.k1 0)), s2.k0]).bind fun r9 =>
    some { r := r9.r })) k ⟨[x1, (.rp [x0a, x0b, x0c, x0d, x0e]), (weak r1.r), (.int .i64 0)], [], false⟩
theorem r48 (T : Nat → List SVal → Option Res) (k : Nat) (x0a : SVal) (x0b : SVal) (x0c : SVal) (x0d : SVal) (x0e : SVal) (x1 : SVal) : bodyE P H T k 48 [(.agg [x0a, x0b, x0c, x0d, x0e]), x1] = R48 T k x0a x0b x0c x0d x0e x1 := by kernel_rfl
noncomputable def D48 (T : Nat → List SVal → Option Res) (k : Nat) : List SVal → Option Res
  | [(.agg [x0a, x0b, x0c, x0d, x0e]), x1] => R48 T k x0a x0b x0c x0d x0e x1
  | a => bodyE P H T k 48 a
theorem d48 (T : Nat → List SVal → Option Res) (k : Nat) (a : List SVal) : D48 T k a = bodyE P H T k 48 a := by
  unfold D48
  split
  · exact (r48 ..).symm
  · rfl
theorem t48 (k : Nat) (x0a : SVal) (x0b : SVal) (x0c : SVal) (x0d : SVal) (x0e : SVal) (x1 : SVal) : T (k + 1) 48 [(.agg [x0a, x0b, x0c, x0d, x0e]), x1] = R48 (T k) k x0a x0b x0c x0d x0e x1 := (by kernel_rfl : T (k + 1) 48 [(.agg [x0a, x0b, x0c, x0d, x0e]), x1] = bodyE P H (T k) k 48 [(.agg [x0a, x0b, x0c, x0d, x0e]), x1]).trans (r48 ..)
/-- limelight/limelightref12.Is -/
def R49 (T : Nat → List SVal → Option Res) (k : Nat) (x0a : SVal) (x0b : SVal) (x0c : SVal) (x0d : SVal) (x0e : SVal) (x1 : SVal) : Option Res :=
  (T 78 [(.agg [(weak x0a), (weak x0b), (weak x0c), (weak x0d), (weak x0e)]), x1]).bind fun r1 =>
  pickC r1.r
  (some { r := (.bool true) })
  ((T 68 [(weak x0a), x1]).bind fun r2 =>
   (sLen r2.r).bind fun r3 =>
   (T 79 [(.agg [(weak x0a), (weak x0b), (weak x0c), (weak x0d), (weak x0e)])]).bind fun r4 =>
   (T 31 [(weak r2.r), r4.r]).bind fun r5 =>
   (sBin .geq r5.r (.int .i64 0)).bind fun r6 =>
   pickC r6
   ((sBin .add r5.r (.int .i64 1)).bind fun r7 =>
    loopN (fun s8 next8 =>
     (sBin .lss s8.k3 s8.k2).bind fun r9 =>
     pickC r9
     ((sIdx false 1 s8.k1 s8.k3).bind fun e10 =>
      (T 75 [(weak (SVal.cell s8.k0 0)), e10, (.int .i64 3)]).bind fun r11 =>
      pickC r11.r
      (some { r := (.bool true) })
      ((sBin .add s8.k3 (.int .i64 1)).bind fun r12 =>
       next8 ⟨[(.rp [(SVal.cell s8.k0 0), (SVal.cell s8.k0 1), (SVal.cell s8.k0 2), (SVal.cell s8.k0 3), (SVal.cell s8.k0 4)]), (weak s8.k1), s8.k2, r12], [], false⟩))
     (some { r := (.bool false) })) k ⟨[(.rp [x0a, x0b, x0c, x0d, x0e]), (weak r2.r), r7, (.int .i64 0)], [], false⟩)
   (loopN (fun s13 next13 =>
     (sBin .lss s13.k3 s13.k2).bind fun r14 =>
     pickC r14
     ((sIdx false 1 s13.k1 s13.k3).bind fun e15 =>
      (T 75 [(weak (SVal.cell s13.k0 0)), e15, (.int .i64 3)]).bind fun r16 =>
      pickC r16.r
      (some { r := (.bool true) })
      ((sBin .add s13.k3 (.int .i64 1)).bind fun r17 =>
       next13 ⟨[(.rp [(SVal.cell s13.k0 0), (SVal.cell s13.k0 1), (SVal.cell s13.k0 2), (SVal.cell s13.k0 3), (SVal.cell s13.k0 4)]), (weak s13.k1), s13.k2, r17], [], false⟩))
     (some { r := (.bool false) })) k ⟨[(.rp [x0a, x0b, x0c, x0d, x0e]), (weak r2.r), r3, (.int .i64 0)], [], false⟩))
theorem r49 (T : Nat → List SVal → Option Res) (k : Nat) (x0a : SVal) (x0b : SVal) (x0c : SVal) (x0d : SVal) (x0e : SVal) (x1 : SVal) : bodyE P H T k 49 [(.agg [x0a, x0b, x0c, x0d, x0e]), x1] = R49 T k x0a x0b x0c x0d x0e x1 := by kernel_rfl
noncomputable def D49 (T : Nat → List SVal → Option Res) (k : Nat) : List SVal → Option Res
  | [(.agg [x0a, x0b, x0c, x0d, x0e]), x1] => R49 T k x0a x0b x0c x0d x0e x1
  | a => bodyE P H T k 49 a
theorem d49 (T : Nat → List SVal → Option Res) (k : Nat) (a : List SVal) : D49 T k a = bodyE P H T k 49 a := by
  unfold D49
  split
  · exact (r49 ..).symm
  · rfl
theorem t49 (k : Nat) (x0a : SVal) (x0b : SVal) (x0c : SVal) (x0d : SVal) (x0e : SVal) (x1 : SVal) : T (k + 1) 49 [(.agg [x0a, x0b, x0c, x0d, x0e]), x1] = R49 (T k) k x0a x0b x0c x0d x0e x1 := (by kernel_rfl : T (k + 1) 49 [(.agg [x0a, x0b, x0c, x0d, x0e]), x1] = bodyE P H (T k) k 49 [(.agg [x0a, x0b, x0c, x0d, x0e]), x1]).trans (r49 ..)
/-- limelight/limelightref01.Few -/
def R50 (T : Nat → List SVal → Option Res) (k : Nat) (x0 : SVal) : Option Res :=
  ((T 53 [(weak x0)]).bind fun r1 =>
   guardX r1.r true
   ((sLen x0).bind fun r2 =>
    (sBin .leq r2 (.int .i64 30)).bind fun r3 =>
    (asB r3).bind fun b4 =>
    some [b4])
   (some [false])
   (none)).bind fun vs5 =>
  some { r := (.bool (vs5.getD 0 false)) }
theorem r50 (T : Nat → List SVal → Option Res) (k : Nat) (x0 : SVal) : bodyE P H T k 50 [x0] = R50 T k x0 := by kernel_rfl
noncomputable def D50 (T : Nat → List SVal → Option Res) (k : Nat) : List SVal → Option Res
  | [x0] => R50 T k x0
  | a => bodyE P H T k 50 a
theorem d50 (T : Nat → List SVal → Option Res) (k : Nat) (a : List SVal) : D50 T k a = bodyE P H T k 50 a := by
  unfold D50
  split
  · exact (r50 ..).symm
  · rfl
theorem t50 (k : Nat) (x0 : SVal) : T (k + 1) 50 [x0] = R50 (T k) k x0 := (by kernel_rfl : T (k + 1) 50 [x0] = bodyE P H (T k) k 50 [x0]).trans (r50 ..)
/-- limelight/limelightref10.Dialog -/
def R51 (T : Nat → List SVal → Option Res) (k : Nat) (x0a : SVal) (x0b : SVal) (x0c : SVal) (x0d : SVal) (x0e : SVal) (x1 : SVal) (x2 : SVal) : Option Res :=
  (T 16 [(.agg [(weak x0a), (weak x0b), (weak x0c), (weak x0d), (weak x0e)])]).bind fun r1 =>
  (sBin .neq r1.r (.int .i64 0)).bind fun r2 =>
  pickC r2
  (some { r := (.tup [(.agg [(.sl 7 false false []), (.sl 1 false false []), (.sl 1 false false []), (.sl 2 false false []), (.sl 1 false false [])]), r1.r]) })
  ((T 17 [(weak x0a), x1]).bind fun r3 =>
   (sNot r3.r).bind fun r4 =>
   pickC r4
   (if (allOne [.v x0a, .v x0b, .v x0c, .v x0d, .v x0e]) = true then
    some { r := (.tup [(.agg [(weak x0a), (weak x0b), (weak x0c), (weak x0d), (weak x0e)]), (.int .i64 2)]) }
    else none)
   ((T 80 [(weak x0a), x1]).bind fun r5 =>
    (sNot r5.r).bind fun r6 =>
    pickC r6
    (if (allOne [.v x0a, .v x0b, .v x0c, .v x0d, .v x0e]) = true then
     some { r := (.tup [(.agg [(weak x0a), (weak x0b), (weak x0c), (weak x0d), (weak x0e)]), (.int .i64 3)]) }
     else none)
    ((T 81 [(.agg [(weak x0a), (weak x0b), (weak x0c), (weak x0d), (weak x0e)]), x1]).bind fun r7 =>
     pickC r7.r
     (if (allOne [.v x0a, .v x0b, .v x0c, .v x0d, .v x0e]) = true then
      some { r := (.tup [(.agg [(weak x0a), (weak x0b), (weak x0c), (weak x0d), (weak x0e)]), (.int .i64 9)]) }
      else none)
     ((T 82 [(.agg [(weak x0a), (weak x0b), (weak x0c), (weak x0d), (weak x0e)])]).bind fun r8 =>
      if (allOne [.v r8.r.c0, .la 704 0, .la 705 0, .la 706 0, .la 707 0]) = true then
      pickC x2
      (if (List.all [[.v x1]] allOne) = true then
       if (r8.r.c2.xs.length + ([x1] : List SVal).length) * 8 ≤ maxAppend then
       if (List.all [[.v x1]] allOne) = true then
       if (r8.r.c4.xs.length + ([x1] : List SVal).length) * 8 ≤ maxAppend then
       if (allOne [.v r8.r.c0, .la 704 0, .la 705 1, .la 706 0, .la 707 1]) = true then
       some { r := (.tup [(.agg [(weak r8.r.c0), (.sl 1 false false r8.r.c1.xs), (.sl 1 false false (r8.r.c2.xs ++ ([x1] : List SVal))), (.sl 2 false false r8.r.c3.xs), (.sl 1 false false (r8.r.c4.xs ++ ([x1] : List SVal)))]), (.int .i64 0)]) }
       else none
       else none
       else none
       else none
       else none)
      (if (List.all [[.v x1]] allOne) = true then
       if (r8.r.c1.xs.length + ([x1] : List SVal).length) * 8 ≤ maxAppend then
       if (allOne [.v r8.r.c0, .la 704 1, .la 705 0, .la 706 0, .la 707 0]) = true then
       some { r := (.tup [(.agg [(weak r8.r.c0), (.sl 1 false false (r8.r.c1.xs ++ ([x1] : List SVal))), (.sl 1 false false r8.r.c2.xs), (.sl 2 false false r8.r.c3.xs), (.sl 1 false false r8.r.c4.xs)]), (.int .i64 0)]) }
       else none
       else none
       else none)
      else none))))
theorem r51 (T : Nat → List SVal → Option Res) (k : Nat) (x0a : SVal) (x0b : SVal) (x0c : SVal) (x0d : SVal) (x0e : SVal) (x1 : SVal) (x2 : SVal) : bodyE P H T k 51 [(.agg [x0a, x0b, x0c, x0d, x0e]), x1, x2] = R51 T k x0a x0b x0c x0d x0e x1 x2 := by kernel_rfl
noncomputable def D51 (T : Nat → List SVal → Option Res) (k : Nat) : List SVal → Option Res
  | [(.agg [x0a, x0b, x0c, x0d, x0e]), x1, x2] => R51 T k x0a x0b x0c x0d x0e x1 x2
  | a => bodyE P H T k 51 a
theorem d51 (T : Nat → List SVal → Option Res) (k : Nat) (a : List SVal) : D51 T k a = bodyE P H T k 51 a := by
  unfold D51
  split
  · exact (r51 ..).symm
  · rfl
theorem t51 (k : Nat) (x0a : SVal) (x0b : SVal) (x0c : SVal) (x0d : SVal) (x0e : SVal) (x1 : SVal) (x2 : SVal) : T (k + 1) 51 [(.agg [x0a, x0b, x0c, x0d, x0e]), x1, x2] = R51 (T k) k x0a x0b x0c x0d x0e x1 x2 := (by kernel_rfl : T (k + 1) 51 [(.agg [x0a, x0b, x0c, x0d, x0e]), x1, x2] = bodyE P H (T k) k 51 [(.agg [x0a, x0b, x0c, x0d, x0e]), x1, x2]).trans (r51 ..)
/-- limelight/limelightref01.May -/
def R52 (T : Nat → List SVal → Option Res) (k : Nat) (x0 : SVal) : Option Res :=
  ((sLen x0).bind fun r1 =>
   (sBin .lss r1 (.int .i64 1)).bind fun r2 =>
   guardX r2 false
   ((sLen x0).bind fun r3 =>
    (sBin .gtr r3 (.int .i64 64)).bind fun r4 =>
    (asB r4).bind fun b5 =>
    some [b5])
   (some [true])
   (none)).bind fun vs6 =>
  pickC (.bool (vs6.getD 0 false))
  (some { r := (.bool false) })
  (loopN (fun s7 next7 =>
    (sLen s7.k0).bind fun r8 =>
    (sBin .lss s7.k1 r8).bind fun r9 =>
    pickC r9
    (((sIdx true 7 s7.k0 s7.k1).bind fun e10 =>
      (T 83 [(.agg [(SVal.cell e10 0), (SVal.cell e10 1), (SVal.cell e10 2), (weak (SVal.cell e10 3)), (SVal.cell e10 4), (SVal.cell e10 5), (weak (SVal.cell e10 6))]), s7.k1]).bind fun r11 =>
      (sNot r11.r).bind fun r12 =>
      guardX r12 false
      ((sIdx true 7 s7.k0 s7.k1).bind fun e13 =>
       (T 84 [(.agg [(SVal.cell e13 0), (SVal.cell e13 1), (SVal.cell e13 2), (weak (SVal.cell e13 3)), (SVal.cell e13 4), (SVal.cell e13 5), (weak (SVal.cell e13 6))])]).bind fun r14 =>
       (sNot r14.r).bind fun r15 =>
       guardX r15 false
       ((T 85 [(weak s7.k0), s7.k1]).bind fun r16 =>
        (sNot r16.r).bind fun r17 =>
        guardX r17 false
        ((T 86 [(weak s7.k0), s7.k1]).bind fun r18 =>
         (sNot r18.r).bind fun r19 =>
         (asB r19).bind fun b20 =>
         some [b20])
        (some [true])
        (none))
       (some [true])
       (none))
      (some [true])
      (none)).bind fun vs21 =>
     pickC (.bool (vs21.getD 0 false))
     (some { r := (.bool false) })
     ((sBin .add s7.k1 (.int .i64 1)).bind fun r22 =>
      next7 ⟨[(weak s7.k0), r22], [], false⟩))
    (loopN (fun s23 next23 =>
      (sLen s23.k0).bind fun r24 =>
      (sBin .lss s23.k1 r24).bind fun r25 =>
      pickC r25
      ((T 87 [(weak s23.k0), s23.k1]).bind fun r26 =>
       (sNot r26.r).bind fun r27 =>
       pickC r27
       (some { r := (.bool false) })
       ((sBin .add s23.k1 (.int .i64 1)).bind fun r28 =>
        next23 ⟨[(weak s23.k0), r28], [], false⟩))
      (some { r := (.bool true) })) k ⟨[(weak s7.k0), (.int .i64 0)], [], false⟩)) k ⟨[(weak x0), (.int .i64 0)], [], false⟩)
theorem r52 (T : Nat → List SVal → Option Res) (k : Nat) (x0 : SVal) : bodyE P H T k 52 [x0] = R52 T k x0 := by kernel_rfl
noncomputable def D52 (T : Nat → List SVal → Option Res) (k : Nat) : List SVal → Option Res
  | [x0] => R52 T k x0
  | a => bodyE P H T k 52 a
theorem d52 (T : Nat → List SVal → Option Res) (k : Nat) (a : List SVal) : D52 T k a = bodyE P H T k 52 a := by
  unfold D52
  split
  · exact (r52 ..).symm
  · rfl
theorem t52 (k : Nat) (x0 : SVal) : T (k + 1) 52 [x0] = R52 (T k) k x0 := (by kernel_rfl : T (k + 1) 52 [x0] = bodyE P H (T k) k 52 [x0]).trans (r52 ..)
/-- limelight/limelightref01.Small -/
def R53 (T : Nat → List SVal → Option Res) (k : Nat) (x0 : SVal) : Option Res :=
  loopN (fun s1 next1 =>
   ((sLen s1.k0).bind fun r2 =>
    (sBin .lss s1.k1 r2).bind fun r3 =>
    guardX r3 true
    ((sLen s1.k0).bind fun r4 =>
     (sBin .leq r4 (.int .i64 70)).bind fun r5 =>
     (asB r5).bind fun b6 =>
     some [b6])
    (some [false])
    (none)).bind fun vs7 =>
   pickC (.bool (vs7.getD 0 false))
   (((sIdx true 7 s1.k0 s1.k1).bind fun e8 =>
     (sLen (SVal.cell e8 3)).bind fun r9 =>
     (sBin .gtr r9 (.int .i64 80)).bind fun r10 =>
     guardX r10 false
     ((sIdx true 7 s1.k0 s1.k1).bind fun e11 =>
      (sLen (SVal.cell e11 6)).bind fun r12 =>
      (sBin .gtr r12 (.int .i64 20)).bind fun r13 =>
      (asB r13).bind fun b14 =>
      some [b14])
     (some [true])
     (none)).bind fun vs15 =>
    pickC (.bool (vs15.getD 0 false))
    (some { r := (.bool false) })
    ((sBin .add s1.k1 (.int .i64 1)).bind fun r16 =>
     next1 ⟨[(weak s1.k0), r16], [], false⟩))
   ((sLen s1.k0).bind fun r17 =>
    (sBin .leq r17 (.int .i64 70)).bind fun r18 =>
    some { r := r18 })) k ⟨[(weak x0), (.int .i64 0)], [], false⟩
theorem r53 (T : Nat → List SVal → Option Res) (k : Nat) (x0 : SVal) : bodyE P H T k 53 [x0] = R53 T k x0 := by kernel_rfl
noncomputable def D53 (T : Nat → List SVal → Option Res) (k : Nat) : List SVal → Option Res
  | [x0] => R53 T k x0
  | a => bodyE P H T k 53 a
theorem d53 (T : Nat → List SVal → Option Res) (k : Nat) (a : List SVal) : D53 T k a = bodyE P H T k 53 a := by
  unfold D53
  split
  · exact (r53 ..).symm
  · rfl
theorem t53 (k : Nat) (x0 : SVal) : T (k + 1) 53 [x0] = R53 (T k) k x0 := (by kernel_rfl : T (k + 1) 53 [x0] = bodyE P H (T k) k 53 [x0]).trans (r53 ..)
/-- limelight/limelightref10.May -/
def R54 (T : Nat → List SVal → Option Res) (k : Nat) (x0a : SVal) (x0b : SVal) (x0c : SVal) (x0d : SVal) (x0e : SVal) : Option Res :=
  (T 88 [(.agg [(weak x0a), (weak x0b), (weak x0c), (weak x0d), (weak x0e)])]).bind fun r1 =>
  loopN (fun s2 next2 =>
   (sLen s2.k1).bind fun r3 =>
   (sBin .lss s2.k2 r3).bind fun r4 =>
   pickC r4
   ((sLen (SVal.cell s2.k0 1)).bind fun r5 =>
    (sLen (SVal.cell s2.k0 2)).bind fun r6 =>
    (sBin .add r5 r6).bind fun r7 =>
    (sBin .lss s2.k2 r7).bind fun r8 =>
    pickC r8
    ((sIdx false 1 s2.k1 s2.k2).bind fun e9 =>
     (T 80 [(weak (SVal.cell s2.k0 0)), e9]).bind fun r10 =>
     (sNot r10.r).bind fun r11 =>
     pickC r11
     (some { r := (.bool false) })
     ((sBin .add s2.k2 (.int .i64 1)).bind fun r12 =>
      next2 ⟨[(.rp [(SVal.cell s2.k0 0), (SVal.cell s2.k0 1), (SVal.cell s2.k0 2), (SVal.cell s2.k0 3), (SVal.cell s2.k0 4)]), (weak s2.k1), r12], [], false⟩))
    ((sIdx false 1 s2.k1 s2.k2).bind fun e13 =>
     (T 89 [(weak (SVal.cell s2.k0 0)), e13]).bind fun r14 =>
     (sNot r14.r).bind fun r15 =>
     pickC r15
     (some { r := (.bool false) })
     ((sBin .add s2.k2 (.int .i64 1)).bind fun r16 =>
      next2 ⟨[(.rp [(SVal.cell s2.k0 0), (SVal.cell s2.k0 1), (SVal.cell s2.k0 2), (SVal.cell s2.k0 3), (SVal.cell s2.k0 4)]), (weak s2.k1), r16], [], false⟩)))
   (loopN (fun s17 next17 =>
     (sLen (SVal.cell s17.k0 3)).bind fun r18 =>
     (sBin .lss s17.k2 r18).bind fun r19 =>
     pickC r19
     ((sIdx true 2 (SVal.cell s17.k0 3) s17.k2).bind fun e20 =>
      ((sBin .neq (SVal.cell e20 1) (.int .i64 (-1))).bind fun r21 =>
       guardX r21 true
       ((T 17 [(weak (SVal.cell s17.k0 0)), (SVal.cell e20 1)]).bind fun r22 =>
        (sNot r22.r).bind fun r23 =>
        (asB r23).bind fun b24 =>
        some [b24])
       (some [false])
       (none)).bind fun vs25 =>
      pickC (.bool (vs25.getD 0 false))
      (some { r := (.bool false) })
      ((sBin .add s17.k2 (.int .i64 1)).bind fun r26 =>
       next17 ⟨[(.rp [(SVal.cell s17.k0 0), (SVal.cell s17.k0 1), (SVal.cell s17.k0 2), (SVal.cell s17.k0 3), (SVal.cell s17.k0 4)]), (weak s17.k1), r26], [], false⟩))
     ((sLen (SVal.cell s17.k0 1)).bind fun r27 =>
      (sSlice 1 s17.k1 (some r27) none).bind fun r28 =>
      loopN (fun s29 next29 =>
       (sLen s29.k2).bind fun r30 =>
       (sBin .lss s29.k3 r30).bind fun r31 =>
       pickC r31
       ((sIdx false 1 s29.k2 s29.k3).bind fun e32 =>
        (T 30 [(weak (SVal.cell s29.k0 4)), e32]).bind fun r33 =>
        if isSc1 r33.r = true then
        (sNot r33.r).bind fun r34 =>
        pickC r34
        (some { r := (.bool false) })
        ((sBin .add s29.k3 (.int .i64 1)).bind fun r35 =>
         next29 ⟨[(.rp [(SVal.cell s29.k0 0), (SVal.cell s29.k0 1), (SVal.cell s29.k0 2), (SVal.cell s29.k0 3), (SVal.cell s29.k0 4)]), (weak s29.k1), (weak s29.k2), r35], [], false⟩)
        else none)
       (((T 90 [(weak s29.k1)]).bind fun r36 =>
         guardX r36.r true
         ((T 90 [(weak (SVal.cell s29.k0 4))]).bind fun r37 =>
          guardX r37.r true
          ((sLen (SVal.cell s29.k0 4)).bind fun r38 =>
           (sLen s29.k2).bind fun r39 =>
           (sBin .eql r38 r39).bind fun r40 =>
           (asB r40).bind fun b41 =>
           some [b41])
          (some [false])
          (none))
         (some [false])
         (none)).bind fun vs42 =>
        some { r := (.bool (vs42.getD 0 false)) })) k ⟨[(.rp [(SVal.cell s17.k0 0), (SVal.cell s17.k0 1), (SVal.cell s17.k0 2), (SVal.cell s17.k0 3), (SVal.cell s17.k0 4)]), (weak s17.k1), (weak r28), (.int .i64 0)], [], false⟩)) k ⟨[(.rp [(SVal.cell s2.k0 0), (SVal.cell s2.k0 1), (SVal.cell s2.k0 2), (SVal.cell s2.k0 3), (SVal.cell s2.k0 4)]), (weak s2.k1), (.int .i64 0)], [], false⟩)) k ⟨[(.rp [x0a, x0b, x0c, x0d, x0e]), (weak r1.r), (.int .i64 0)], [], false⟩
theorem r54 (T : Nat → List SVal → Option Res) (k : Nat) (x0a : SVal) (x0b : SVal) (x0c : SVal) (x0d : SVal) (x0e : SVal) : bodyE P H T k 54 [(.agg [x0a, x0b, x0c, x0d, x0e])] = R54 T k x0a x0b x0c x0d x0e := by kernel_rfl
noncomputable def D54 (T : Nat → List SVal → Option Res) (k : Nat) : List SVal → Option Res
  | [(.agg [x0a, x0b, x0c, x0d, x0e])] => R54 T k x0a x0b x0c x0d x0e
  | a => bodyE P H T k 54 a
theorem d54 (T : Nat → List SVal → Option Res) (k : Nat) (a : List SVal) : D54 T k a = bodyE P H T k 54 a := by
  unfold D54
  split
  · exact (r54 ..).symm
  · rfl
theorem t54 (k : Nat) (x0a : SVal) (x0b : SVal) (x0c : SVal) (x0d : SVal) (x0e : SVal) : T (k + 1) 54 [(.agg [x0a, x0b, x0c, x0d, x0e])] = R54 (T k) k x0a x0b x0c x0d x0e := (by kernel_rfl : T (k + 1) 54 [(.agg [x0a, x0b, x0c, x0d, x0e])] = bodyE P H (T k) k 54 [(.agg [x0a, x0b, x0c, x0d, x0e])]).trans (r54 ..)
/-- limelight/popup.may -/
def R55 (T : Nat → List SVal → Option Res) (k : Nat) (x0a : SVal) (x0b : SVal) (x0c : SVal) (x0d : SVal) (x0e : SVal) (x1 : SVal) : Option Res :=
  ((T 71 [(.agg [(weak x0a), (weak x0b), (weak x0c), (weak x0d), (weak x0e)])]).bind fun r1 =>
   (sBin .eql r1.r (.int .i64 0)).bind fun r2 =>
   guardX r2 true
   ((sBin .geq x1 (.int .i64 0)).bind fun r3 =>
    guardX r3 true
    ((sLen x0a).bind fun r4 =>
     (sBin .lss x1 r4).bind fun r5 =>
     (asB r5).bind fun b6 =>
     some [b6])
    (some [false])
    (none))
   (some [false])
   (none)).bind fun vs7 =>
  some { r := (.bool (vs7.getD 0 false)) }
theorem r55 (T : Nat → List SVal → Option Res) (k : Nat) (x0a : SVal) (x0b : SVal) (x0c : SVal) (x0d : SVal) (x0e : SVal) (x1 : SVal) : bodyE P H T k 55 [(.agg [x0a, x0b, x0c, x0d, x0e]), x1] = R55 T k x0a x0b x0c x0d x0e x1 := by kernel_rfl
noncomputable def D55 (T : Nat → List SVal → Option Res) (k : Nat) : List SVal → Option Res
  | [(.agg [x0a, x0b, x0c, x0d, x0e]), x1] => R55 T k x0a x0b x0c x0d x0e x1
  | a => bodyE P H T k 55 a
theorem d55 (T : Nat → List SVal → Option Res) (k : Nat) (a : List SVal) : D55 T k a = bodyE P H T k 55 a := by
  unfold D55
  split
  · exact (r55 ..).symm
  · rfl
theorem t55 (k : Nat) (x0a : SVal) (x0b : SVal) (x0c : SVal) (x0d : SVal) (x0e : SVal) (x1 : SVal) : T (k + 1) 55 [(.agg [x0a, x0b, x0c, x0d, x0e]), x1] = R55 (T k) k x0a x0b x0c x0d x0e x1 := (by kernel_rfl : T (k + 1) 55 [(.agg [x0a, x0b, x0c, x0d, x0e]), x1] = bodyE P H (T k) k 55 [(.agg [x0a, x0b, x0c, x0d, x0e]), x1]).trans (r55 ..)
/-- limelight/attr.Get -/
def R56 (T : Nat → List SVal → Option Res) (k : Nat) (x0 : SVal) (x1 : SVal) (x2 : SVal) : Option Res :=
  (T 91 [(weak x0), x1]).bind fun r1 =>
  (sNot r1.r).bind fun r2 =>
  pickC r2
  (some { r := (.tup [(.int .i64 0), (.bool false)]) })
  ((sIdx true 7 x0 x1).bind fun e3 =>
   (T 92 [(.agg [(SVal.cell e3 0), (SVal.cell e3 1), (SVal.cell e3 2), (weak (SVal.cell e3 3)), (SVal.cell e3 4), (SVal.cell e3 5), (weak (SVal.cell e3 6))]), x2]).bind fun r4 =>
   (sBin .lss r4.r (.int .i64 0)).bind fun r5 =>
   pickC r5
   (some { r := (.tup [(.int .i64 0), (.bool false)]) })
   ((sIdx true 7 x0 x1).bind fun e6 =>
    (sIdx true 2 (SVal.cell e6 6) r4.r).bind fun e7 =>
    some { r := (.tup [(SVal.cell e7 1), (.bool true)]) }))
theorem r56 (T : Nat → List SVal → Option Res) (k : Nat) (x0 : SVal) (x1 : SVal) (x2 : SVal) : bodyE P H T k 56 [x0, x1, x2] = R56 T k x0 x1 x2 := by kernel_rfl
noncomputable def D56 (T : Nat → List SVal → Option Res) (k : Nat) : List SVal → Option Res
  | [x0, x1, x2] => R56 T k x0 x1 x2
  | a => bodyE P H T k 56 a
theorem d56 (T : Nat → List SVal → Option Res) (k : Nat) (a : List SVal) : D56 T k a = bodyE P H T k 56 a := by
  unfold D56
  split
  · exact (r56 ..).symm
  · rfl
theorem t56 (k : Nat) (x0 : SVal) (x1 : SVal) (x2 : SVal) : T (k + 1) 56 [x0, x1, x2] = R56 (T k) k x0 x1 x2 := (by kernel_rfl : T (k + 1) 56 [x0, x1, x2] = bodyE P H (T k) k 56 [x0, x1, x2]).trans (r56 ..)
/-- limelight/popup.last -/
def R57 (T : Nat → List SVal → Option Res) (k : Nat) (x0a : SVal) (x0b : SVal) (x0c : SVal) (x0d : SVal) (x0e : SVal) (x1 : SVal) : Option Res :=
  if (oneS x1) = true then
  (T 64 [(.agg [(weak x0a), (weak x0b), (weak x0c), (weak x0d), (weak x0e)])]).bind fun r1 =>
  (T 93 [(weak r1.r)]).bind fun r2 =>
  (callIt T r2.r).bind fun ys3 =>
  rangeN (fun s4 y4 next4 =>
   (tup2 y4).bind fun z5 =>
   (callV H T (SVal.cell s4.k0 0) [z5.2]).bind fun y6 =>
   pickC y6
   (if (oneS z5.2) = true then
    some { r := z5.2 }
    else none)
   (next4 ⟨[(.rp [(SVal.cell s4.k0 0)]), (.mb [s4.k1.c0])], [], false⟩)) (fun s7 =>
   some { r := (.int .i64 (-1)) }) ys3 ⟨[(.rp [x1]), (.mb [(.int .i64 0)])], [], false⟩
  else none
theorem r57 (T : Nat → List SVal → Option Res) (k : Nat) (x0a : SVal) (x0b : SVal) (x0c : SVal) (x0d : SVal) (x0e : SVal) (x1 : SVal) : bodyE P H T k 57 [(.agg [x0a, x0b, x0c, x0d, x0e]), x1] = R57 T k x0a x0b x0c x0d x0e x1 := by kernel_rfl
noncomputable def D57 (T : Nat → List SVal → Option Res) (k : Nat) : List SVal → Option Res
  | [(.agg [x0a, x0b, x0c, x0d, x0e]), x1] => R57 T k x0a x0b x0c x0d x0e x1
  | a => bodyE P H T k 57 a
theorem d57 (T : Nat → List SVal → Option Res) (k : Nat) (a : List SVal) : D57 T k a = bodyE P H T k 57 a := by
  unfold D57
  split
  · exact (r57 ..).symm
  · rfl
theorem t57 (k : Nat) (x0a : SVal) (x0b : SVal) (x0c : SVal) (x0d : SVal) (x0e : SVal) (x1 : SVal) : T (k + 1) 57 [(.agg [x0a, x0b, x0c, x0d, x0e]), x1] = R57 (T k) k x0a x0b x0c x0d x0e x1 := (by kernel_rfl : T (k + 1) 57 [(.agg [x0a, x0b, x0c, x0d, x0e]), x1] = bodyE P H (T k) k 57 [(.agg [x0a, x0b, x0c, x0d, x0e]), x1]).trans (r57 ..)
/-- limelight/popup.Over$1 -/
def R58 (T : Nat → List SVal → Option Res) (k : Nat) (x0 : SVal) (x1a : SVal) (x1b : SVal) (x2a : SVal) (x2b : SVal) (x2c : SVal) (x2d : SVal) (x2e : SVal) : Option Res :=
  ((sBin .neq x0 x1a).bind fun r1 =>
   guardX r1 true
   ((T 59 [(weak x2a), x0, x1a]).bind fun r2 =>
    guardX r2.r false
    ((T 59 [(weak x2a), x0, x1b]).bind fun r3 =>
     (asB r3.r).bind fun b4 =>
     some [b4])
    (some [true])
    (none))
   ((T 59 [(weak x2a), x0, x1b]).bind fun r5 =>
    (asB r5.r).bind fun b6 =>
    some [b6])
   (none)).bind fun vs7 =>
  some { r := (.bool (vs7.getD 0 false)) }
theorem r58 (T : Nat → List SVal → Option Res) (k : Nat) (x0 : SVal) (x1a : SVal) (x1b : SVal) (x2a : SVal) (x2b : SVal) (x2c : SVal) (x2d : SVal) (x2e : SVal) : bodyE P H T k 58 [x0, (.rp [x1a, x1b]), (.rp [x2a, x2b, x2c, x2d, x2e])] = R58 T k x0 x1a x1b x2a x2b x2c x2d x2e := by kernel_rfl
noncomputable def D58 (T : Nat → List SVal → Option Res) (k : Nat) : List SVal → Option Res
  | [x0, (.rp [x1a, x1b]), (.rp [x2a, x2b, x2c, x2d, x2e])] => R58 T k x0 x1a x1b x2a x2b x2c x2d x2e
  | a => bodyE P H T k 58 a
theorem d58 (T : Nat → List SVal → Option Res) (k : Nat) (a : List SVal) : D58 T k a = bodyE P H T k 58 a := by
  unfold D58
  split
  · exact (r58 ..).symm
  · rfl
theorem t58 (k : Nat) (x0 : SVal) (x1a : SVal) (x1b : SVal) (x2a : SVal) (x2b : SVal) (x2c : SVal) (x2d : SVal) (x2e : SVal) : T (k + 1) 58 [x0, (.rp [x1a, x1b]), (.rp [x2a, x2b, x2c, x2d, x2e])] = R58 (T k) k x0 x1a x1b x2a x2b x2c x2d x2e := (by kernel_rfl : T (k + 1) 58 [x0, (.rp [x1a, x1b]), (.rp [x2a, x2b, x2c, x2d, x2e])] = bodyE P H (T k) k 58 [x0, (.rp [x1a, x1b]), (.rp [x2a, x2b, x2c, x2d, x2e])]).trans (r58 ..)
/-- limelight/flat.Above -/
def R59 (T : Nat → List SVal → Option Res) (k : Nat) (x0 : SVal) (x1 : SVal) (x2 : SVal) : Option Res :=
  (T 94 [(weak x0), x2]).bind fun r1 =>
  (T 63 [(weak r1.r), x1]).bind fun r2 =>
  some { r := r2.r }
theorem r59 (T : Nat → List SVal → Option Res) (k : Nat) (x0 : SVal) (x1 : SVal) (x2 : SVal) : bodyE P H T k 59 [x0, x1, x2] = R59 T k x0 x1 x2 := by kernel_rfl
noncomputable def D59 (T : Nat → List SVal → Option Res) (k : Nat) : List SVal → Option Res
  | [x0, x1, x2] => R59 T k x0 x1 x2
  | a => bodyE P H T k 59 a
theorem d59 (T : Nat → List SVal → Option Res) (k : Nat) (a : List SVal) : D59 T k a = bodyE P H T k 59 a := by
  unfold D59
  split
  · exact (r59 ..).symm
  · rfl
theorem t59 (k : Nat) (x0 : SVal) (x1 : SVal) (x2 : SVal) : T (k + 1) 59 [x0, x1, x2] = R59 (T k) k x0 x1 x2 := (by kernel_rfl : T (k + 1) 59 [x0, x1, x2] = bodyE P H (T k) k 59 [x0, x1, x2]).trans (r59 ..)
/-- slices.DeleteFunc[[]int,int] -/
def R60 (T : Nat → List SVal → Option Res) (k : Nat) (x0 : List SVal) (x1 : SVal) : Option Res :=
  (T 95 [(.sl 1 false false x0), x1]).bind fun r1 =>
  if isSc1 r1.r = true then
  (sBin .eql r1.r (.int .i64 (-1))).bind fun r2 =>
  pickC r2
  (some { r := (.sl 1 true false x0) })
  ((sBin .add r1.r (.int .i64 1)).bind fun r3 =>
   loopN (fun s4 next4 =>
    (sBin .lss s4.k3 (.int .i64 (s4.k0.xs.length : Nat))).bind fun r5 =>
    pickC r5
    ((sIn s4.k0.xs.length s4.k3).bind fun j6 =>
     (s4.k0.xs[j6]?).bind fun e7 =>
     if (elemOk false 1 e7) = true then
     (callV H T s4.k1 [e7]).bind fun y8 =>
     (sNot y8).bind fun r9 =>
     pickC r9
     ((sIn s4.k0.xs.length s4.k2).bind fun j10 =>
      (s4.k0.xs[j10]?).bind fun e11 =>
      if (elemOk false 1 e11) = true then
      if (oneS e7) = true then
      (sBin .add s4.k2 (.int .i64 1)).bind fun r12 =>
      (sBin .add s4.k3 (.int .i64 1)).bind fun r13 =>
      next4 ⟨[(.sl 1 true false (s4.k0.xs.set j10 e7)), s4.k1, r12, r13], [], false⟩
      else none
      else none)
     ((sBin .add s4.k3 (.int .i64 1)).bind fun r14 =>
      next4 ⟨[(.sl 1 true false s4.k0.xs), s4.k1, s4.k2, r14], [], false⟩)
     else none)
    ((sBnd s4.k0.xs.length s4.k2).bind fun n15 =>
     if n15 ≤ s4.k0.xs.length then
     (sBnd (s4.k0.xs.take n15 ++ List.replicate (s4.k0.xs.length - n15) (int 0)).length s4.k2).bind fun n16 =>
     some { r := (.sl 1 true false ((s4.k0.xs.take n15 ++ List.replicate (s4.k0.xs.length - n15) (int 0)).take n16)) }
     else none)) k ⟨[(.sl 1 true false x0), x1, r1.r, r3], [], false⟩)
  else none
theorem r60 (T : Nat → List SVal → Option Res) (k : Nat) (x0 : List SVal) (x1 : SVal) : bodyE P H T k 60 [(.sl 1 true false x0), x1] = R60 T k x0 x1 := by kernel_rfl
noncomputable def D60 (T : Nat → List SVal → Option Res) (k : Nat) : List SVal → Option Res
  | [(.sl 1 true false x0), x1] => R60 T k x0 x1
  | a => bodyE P H T k 60 a
theorem d60 (T : Nat → List SVal → Option Res) (k : Nat) (a : List SVal) : D60 T k a = bodyE P H T k 60 a := by
  unfold D60
  split
  · exact (r60 ..).symm
  · rfl
theorem t60 (k : Nat) (x0 : List SVal) (x1 : SVal) : T (k + 1) 60 [(.sl 1 true false x0), x1] = R60 (T k) k x0 x1 := (by kernel_rfl : T (k + 1) 60 [(.sl 1 true false x0), x1] = bodyE P H (T k) k 60 [(.sl 1 true false x0), x1]).trans (r60 ..)
/-- limelight/popup.behind -/
def R61 (T : Nat → List SVal → Option Res) (k : Nat) (x0a : SVal) (x0b : SVal) (x0c : SVal) (x0d : SVal) (x0e : SVal) (x1 : SVal) : Option Res :=
  if (oneS x1) = true then
  (T 64 [(.agg [(weak x0a), (weak x0b), (weak x0c), (weak x0d), (weak x0e)])]).bind fun r1 =>
  (T 93 [(weak r1.r)]).bind fun r2 =>
  (callIt T r2.r).bind fun ys3 =>
  rangeN (fun s4 y4 next4 =>
   (tup2 y4).bind fun z5 =>
   (sBin .eql z5.2 (SVal.cell s4.k0 0)).bind fun r6 =>
   pickC r6
   (some { r := (.sl 1 true false s4.k1.c0.xs) })
   (if (List.all [[.v z5.2]] allOne) = true then
    if (s4.k1.c0.xs.length + ([z5.2] : List SVal).length) * 8 ≤ maxAppend then
    next4 ⟨[(.rp [(SVal.cell s4.k0 0)]), (.mb [(.sl 1 true false (s4.k1.c0.xs ++ ([z5.2] : List SVal)))])], [], false⟩
    else none
    else none)) (fun s7 =>
   some { r := (.sl 1 true false s7.k1.c0.xs) }) ys3 ⟨[(.rp [x1]), (.mb [(.sl 1 true false [])])], [], false⟩
  else none
theorem r61 (T : Nat → List SVal → Option Res) (k : Nat) (x0a : SVal) (x0b : SVal) (x0c : SVal) (x0d : SVal) (x0e : SVal) (x1 : SVal) : bodyE P H T k 61 [(.agg [x0a, x0b, x0c, x0d, x0e]), x1] = R61 T k x0a x0b x0c x0d x0e x1 := by kernel_rfl
noncomputable def D61 (T : Nat → List SVal → Option Res) (k : Nat) : List SVal → Option Res
  | [(.agg [x0a, x0b, x0c, x0d, x0e]), x1] => R61 T k x0a x0b x0c x0d x0e x1
  | a => bodyE P H T k 61 a
theorem d61 (T : Nat → List SVal → Option Res) (k : Nat) (a : List SVal) : D61 T k a = bodyE P H T k 61 a := by
  unfold D61
  split
  · exact (r61 ..).symm
  · rfl
theorem t61 (k : Nat) (x0a : SVal) (x0b : SVal) (x0c : SVal) (x0d : SVal) (x0e : SVal) (x1 : SVal) : T (k + 1) 61 [(.agg [x0a, x0b, x0c, x0d, x0e]), x1] = R61 (T k) k x0a x0b x0c x0d x0e x1 := (by kernel_rfl : T (k + 1) 61 [(.agg [x0a, x0b, x0c, x0d, x0e]), x1] = bodyE P H (T k) k 61 [(.agg [x0a, x0b, x0c, x0d, x0e]), x1]).trans (r61 ..)
/-- limelight/popup.Before$1 -/
def R62 (T : Nat → List SVal → Option Res) (k : Nat) (x0 : SVal) (x1a : SVal) (x1b : SVal) (x2 : SVal) (x3a : SVal) (x3b : SVal) (x3c : SVal) (x3d : SVal) (x3e : SVal) : Option Res :=
  ((sBin .eql x0 x1a).bind fun r1 =>
   guardX r1 false
   ((sBin .eql x2 (.int .i64 2)).bind fun r2 =>
    guardX r2 true
    ((T 18 [(.agg [(weak x3a), (weak x3b), (weak x3c), (weak x3d), (weak x3e)]), x0]).bind fun r3 =>
     (sBin .neq r3.r (.int .i64 2)).bind fun r4 =>
     (asB r4).bind fun b5 =>
     some [b5])
    (some [false])
    (none))
   (some [true])
   (none)).bind fun vs6 =>
  some { r := (.bool (vs6.getD 0 false)) }
theorem r62 (T : Nat → List SVal → Option Res) (k : Nat) (x0 : SVal) (x1a : SVal) (x1b : SVal) (x2 : SVal) (x3a : SVal) (x3b : SVal) (x3c : SVal) (x3d : SVal) (x3e : SVal) : bodyE P H T k 62 [x0, (.rp [x1a, x1b]), (.rp [x2]), (.rp [x3a, x3b, x3c, x3d, x3e])] = R62 T k x0 x1a x1b x2 x3a x3b x3c x3d x3e := by kernel_rfl
noncomputable def D62 (T : Nat → List SVal → Option Res) (k : Nat) : List SVal → Option Res
  | [x0, (.rp [x1a, x1b]), (.rp [x2]), (.rp [x3a, x3b, x3c, x3d, x3e])] => R62 T k x0 x1a x1b x2 x3a x3b x3c x3d x3e
  | a => bodyE P H T k 62 a
theorem d62 (T : Nat → List SVal → Option Res) (k : Nat) (a : List SVal) : D62 T k a = bodyE P H T k 62 a := by
  unfold D62
  split
  · exact (r62 ..).symm
  · rfl
theorem t62 (k : Nat) (x0 : SVal) (x1a : SVal) (x1b : SVal) (x2 : SVal) (x3a : SVal) (x3b : SVal) (x3c : SVal) (x3d : SVal) (x3e : SVal) : T (k + 1) 62 [x0, (.rp [x1a, x1b]), (.rp [x2]), (.rp [x3a, x3b, x3c, x3d, x3e])] = R62 (T k) k x0 x1a x1b x2 x3a x3b x3c x3d x3e := (by kernel_rfl : T (k + 1) 62 [x0, (.rp [x1a, x1b]), (.rp [x2]), (.rp [x3a, x3b, x3c, x3d, x3e])] = bodyE P H (T k) k 62 [x0, (.rp [x1a, x1b]), (.rp [x2]), (.rp [x3a, x3b, x3c, x3d, x3e])]).trans (r62 ..)
/-- slices.Contains[[]int,int] -/
def R63 (T : Nat → List SVal → Option Res) (k : Nat) (x0 : SVal) (x1 : SVal) : Option Res :=
  (T 96 [(weak x0), x1]).bind fun r1 =>
  (sBin .geq r1.r (.int .i64 0)).bind fun r2 =>
  some { r := r2 }
theorem r63 (T : Nat → List SVal → Option Res) (k : Nat) (x0 : SVal) (x1 : SVal) : bodyE P H T k 63 [x0, x1] = R63 T k x0 x1 := by kernel_rfl
noncomputable def D63 (T : Nat → List SVal → Option Res) (k : Nat) : List SVal → Option Res
  | [x0, x1] => R63 T k x0 x1
  | a => bodyE P H T k 63 a
theorem d63 (T : Nat → List SVal → Option Res) (k : Nat) (a : List SVal) : D63 T k a = bodyE P H T k 63 a := by
  unfold D63
  split
  · exact (r63 ..).symm
  · rfl
theorem t63 (k : Nat) (x0 : SVal) (x1 : SVal) : T (k + 1) 63 [x0, x1] = R63 (T k) k x0 x1 := (by kernel_rfl : T (k + 1) 63 [x0, x1] = bodyE P H (T k) k 63 [x0, x1]).trans (r63 ..)
/-- limelight/popup.stack -/
def R64 (T : Nat → List SVal → Option Res) (k : Nat) (x0a : SVal) (x0b : SVal) (x0c : SVal) (x0d : SVal) (x0e : SVal) : Option Res :=
  (sLen x0d).bind fun r1 =>
  loopN (fun s2 next2 =>
   (sBin .lss s2.k5 s2.k4).bind fun r3 =>
   pickC r3
   ((sIdx true 2 s2.k3 s2.k5).bind fun e4 =>
    if (allOne [.v (SVal.cell e4 0), .v (SVal.cell e4 1)]) = true then
    (T 18 [(.agg [(weak (SVal.cell s2.k0 0)), (weak (SVal.cell s2.k0 1)), (weak (SVal.cell s2.k0 2)), (weak (SVal.cell s2.k0 3)), (weak (SVal.cell s2.k0 4))]), (SVal.cell e4 0)]).bind fun r5 =>
    (sBin .eql r5.r (.int .i64 1)).bind fun r6 =>
    pickC r6
    (if (List.all [[.v (SVal.cell e4 0)]] allOne) = true then
     if (s2.k1.xs.length + ([(SVal.cell e4 0)] : List SVal).length) * 8 ≤ maxAppend then
     (sBin .add s2.k5 (.int .i64 1)).bind fun r7 =>
     next2 ⟨[(.rp [(SVal.cell s2.k0 0), (SVal.cell s2.k0 1), (SVal.cell s2.k0 2), (SVal.cell s2.k0 3), (SVal.cell s2.k0 4)]), (.sl 1 true false (s2.k1.xs ++ ([(SVal.cell e4 0)] : List SVal))), (.sl 1 true false s2.k2.xs), (weak s2.k3), s2.k4, r7], [], false⟩
     else none
     else none)
    ((sBin .eql r5.r (.int .i64 2)).bind fun r8 =>
     pickC r8
     (if (List.all [[.v (SVal.cell e4 0)]] allOne) = true then
      if (s2.k2.xs.length + ([(SVal.cell e4 0)] : List SVal).length) * 8 ≤ maxAppend then
      (sBin .add s2.k5 (.int .i64 1)).bind fun r9 =>
      next2 ⟨[(.rp [(SVal.cell s2.k0 0), (SVal.cell s2.k0 1), (SVal.cell s2.k0 2), (SVal.cell s2.k0 3), (SVal.cell s2.k0 4)]), (.sl 1 true false s2.k1.xs), (.sl 1 true false (s2.k2.xs ++ ([(SVal.cell e4 0)] : List SVal))), (weak s2.k3), s2.k4, r9], [], false⟩
      else none
      else none)
     ((sBin .add s2.k5 (.int .i64 1)).bind fun r10 =>
      next2 ⟨[(.rp [(SVal.cell s2.k0 0), (SVal.cell s2.k0 1), (SVal.cell s2.k0 2), (SVal.cell s2.k0 3), (SVal.cell s2.k0 4)]), (.sl 1 true false s2.k1.xs), (.sl 1 true false s2.k2.xs), (weak s2.k3), s2.k4, r10], [], false⟩))
    else none)
   (if (s2.k1.xs.length + s2.k2.xs.length) * 8 ≤ maxAppend then
    some { r := (.sl 1 false false (s2.k1.xs ++ s2.k2.xs)) }
    else none)) k ⟨[(.rp [x0a, x0b, x0c, x0d, x0e]), (.sl 1 true false []), (.sl 1 true false []), (weak x0d), r1, (.int .i64 0)], [], false⟩
theorem r64 (T : Nat → List SVal → Option Res) (k : Nat) (x0a : SVal) (x0b : SVal) (x0c : SVal) (x0d : SVal) (x0e : SVal) : bodyE P H T k 64 [(.agg [x0a, x0b, x0c, x0d, x0e])] = R64 T k x0a x0b x0c x0d x0e := by kernel_rfl
noncomputable def D64 (T : Nat → List SVal → Option Res) (k : Nat) : List SVal → Option Res
  | [(.agg [x0a, x0b, x0c, x0d, x0e])] => R64 T k x0a x0b x0c x0d x0e
  | a => bodyE P H T k 64 a
theorem d64 (T : Nat → List SVal → Option Res) (k : Nat) (a : List SVal) : D64 T k a = bodyE P H T k 64 a := by
  unfold D64
  split
  · exact (r64 ..).symm
  · rfl
theorem t64 (k : Nat) (x0a : SVal) (x0b : SVal) (x0c : SVal) (x0d : SVal) (x0e : SVal) : T (k + 1) 64 [(.agg [x0a, x0b, x0c, x0d, x0e])] = R64 (T k) k x0a x0b x0c x0d x0e := (by kernel_rfl : T (k + 1) 64 [(.agg [x0a, x0b, x0c, x0d, x0e])] = bodyE P H (T k) k 64 [(.agg [x0a, x0b, x0c, x0d, x0e])]).trans (r64 ..)
/-- limelight/popup.Light$1 -/
def R65 (T : Nat → List SVal → Option Res) (k : Nat) (x0 : SVal) (x1a : SVal) (x1b : SVal) (x1c : SVal) (x1d : SVal) (x1e : SVal) (x2 : SVal) : Option Res :=
  (T 59 [(weak x1a), x0, x2]).bind fun r1 =>
  some { r := r1.r }
theorem r65 (T : Nat → List SVal → Option Res) (k : Nat) (x0 : SVal) (x1a : SVal) (x1b : SVal) (x1c : SVal) (x1d : SVal) (x1e : SVal) (x2 : SVal) : bodyE P H T k 65 [x0, (.rp [x1a, x1b, x1c, x1d, x1e]), (.rp [x2])] = R65 T k x0 x1a x1b x1c x1d x1e x2 := by kernel_rfl
noncomputable def D65 (T : Nat → List SVal → Option Res) (k : Nat) : List SVal → Option Res
  | [x0, (.rp [x1a, x1b, x1c, x1d, x1e]), (.rp [x2])] => R65 T k x0 x1a x1b x1c x1d x1e x2
  | a => bodyE P H T k 65 a
theorem d65 (T : Nat → List SVal → Option Res) (k : Nat) (a : List SVal) : D65 T k a = bodyE P H T k 65 a := by
  unfold D65
  split
  · exact (r65 ..).symm
  · rfl
theorem t65 (k : Nat) (x0 : SVal) (x1a : SVal) (x1b : SVal) (x1c : SVal) (x1d : SVal) (x1e : SVal) (x2 : SVal) : T (k + 1) 65 [x0, (.rp [x1a, x1b, x1c, x1d, x1e]), (.rp [x2])] = R65 (T k) k x0 x1a x1b x1c x1d x1e x2 := (by kernel_rfl : T (k + 1) 65 [x0, (.rp [x1a, x1b, x1c, x1d, x1e]), (.rp [x2])] = bodyE P H (T k) k 65 [x0, (.rp [x1a, x1b, x1c, x1d, x1e]), (.rp [x2])]).trans (r65 ..)
/-- limelight/limelightref02.Get -/
def R66 (T : Nat → List SVal → Option Res) (k : Nat) (x0 : SVal) (x1 : SVal) (x2 : SVal) : Option Res :=
  (T 17 [(weak x0), x1]).bind fun r1 =>
  (sNot r1.r).bind fun r2 =>
  pickC r2
  (some { r := (.tup [(.int .i64 0), (.bool false)]) })
  (loopN (fun s3 next3 =>
    (sIdx true 7 s3.k0 s3.k1).bind fun e4 =>
    (sLen (SVal.cell e4 6)).bind fun r5 =>
    (sBin .lss s3.k3 r5).bind fun r6 =>
    pickC r6
    ((sIdx true 7 s3.k0 s3.k1).bind fun e7 =>
     (sIdx true 2 (SVal.cell e7 6) s3.k3).bind fun e8 =>
     (sBin .eql (SVal.cell e8 0) s3.k2).bind fun r9 =>
     pickC r9
     ((sIdx true 7 s3.k0 s3.k1).bind fun e10 =>
      (sIdx true 2 (SVal.cell e10 6) s3.k3).bind fun e11 =>
      some { r := (.tup [(SVal.cell e11 1), (.bool true)]) })
     ((sBin .add s3.k3 (.int .i64 1)).bind fun r12 =>
      next3 ⟨[(weak s3.k0), s3.k1, s3.k2, r12], [], false⟩))
    (some { r := (.tup [(.int .i64 0), (.bool false)]) })) k ⟨[(weak x0), x1, x2, (.int .i64 0)], [], false⟩)
theorem r66 (T : Nat → List SVal → Option Res) (k : Nat) (x0 : SVal) (x1 : SVal) (x2 : SVal) : bodyE P H T k 66 [x0, x1, x2] = R66 T k x0 x1 x2 := by kernel_rfl
noncomputable def D66 (T : Nat → List SVal → Option Res) (k : Nat) : List SVal → Option Res
  | [x0, x1, x2] => R66 T k x0 x1 x2
  | a => bodyE P H T k 66 a
theorem d66 (T : Nat → List SVal → Option Res) (k : Nat) (a : List SVal) : D66 T k a = bodyE P H T k 66 a := by
  unfold D66
  split
  · exact (r66 ..).symm
  · rfl
theorem t66 (k : Nat) (x0 : SVal) (x1 : SVal) (x2 : SVal) : T (k + 1) 66 [x0, x1, x2] = R66 (T k) k x0 x1 x2 := (by kernel_rfl : T (k + 1) 66 [x0, x1, x2] = bodyE P H (T k) k 66 [x0, x1, x2]).trans (r66 ..)
/-- limelight/limelightref19.behind -/
def R67 (T : Nat → List SVal → Option Res) (k : Nat) (x0 : SVal) (x1 : SVal) : Option Res :=
  (sLen x0).bind fun r1 =>
  (sBin .sub r1 (.int .i64 1)).bind fun r2 =>
  loopN (fun s3 next3 =>
   (T 31 [(weak s3.k0), s3.k1]).bind fun r4 =>
   (sBin .gtr s3.k3 r4.r).bind fun r5 =>
   pickC r5
   ((sIdx false 1 s3.k0 s3.k3).bind fun e6 =>
    if (List.all [[.v e6]] allOne) = true then
    if (s3.k2.xs.length + ([e6] : List SVal).length) * 8 ≤ maxAppend then
    (sBin .sub s3.k3 (.int .i64 1)).bind fun r7 =>
    next3 ⟨[(weak s3.k0), s3.k1, (.sl 1 true false (s3.k2.xs ++ ([e6] : List SVal))), r7], [], false⟩
    else none
    else none)
   (some { r := (.sl 1 false false s3.k2.xs) })) k ⟨[(weak x0), x1, (.sl 1 true false []), r2], [], false⟩
theorem r67 (T : Nat → List SVal → Option Res) (k : Nat) (x0 : SVal) (x1 : SVal) : bodyE P H T k 67 [x0, x1] = R67 T k x0 x1 := by kernel_rfl
noncomputable def D67 (T : Nat → List SVal → Option Res) (k : Nat) : List SVal → Option Res
  | [x0, x1] => R67 T k x0 x1
  | a => bodyE P H T k 67 a
theorem d67 (T : Nat → List SVal → Option Res) (k : Nat) (a : List SVal) : D67 T k a = bodyE P H T k 67 a := by
  unfold D67
  split
  · exact (r67 ..).symm
  · rfl
theorem t67 (k : Nat) (x0 : SVal) (x1 : SVal) : T (k + 1) 67 [x0, x1] = R67 (T k) k x0 x1 := (by kernel_rfl : T (k + 1) 67 [x0, x1] = bodyE P H (T k) k 67 [x0, x1]).trans (r67 ..)
/-- limelight/limelightref06.Up -/
def R68 (T : Nat → List SVal → Option Res) (k : Nat) (x0 : SVal) (x1 : SVal) : Option Res :=
  loopN (fun s1 next1 =>
   (sBin .neq s1.k1 (.int .i64 (-1))).bind fun r2 =>
   pickC r2
   (if (List.all [[.v s1.k1]] allOne) = true then
    if (s1.k2.xs.length + ([s1.k1] : List SVal).length) * 8 ≤ maxAppend then
    (T 97 [(weak s1.k0), s1.k1]).bind fun r3 =>
    next1 ⟨[(weak s1.k0), r3.r, (.sl 1 true false (s1.k2.xs ++ ([s1.k1] : List SVal)))], [], false⟩
    else none
    else none)
   (some { r := (.sl 1 false false s1.k2.xs) })) k ⟨[(weak x0), x1, (.sl 1 true false [])], [], false⟩
theorem r68 (T : Nat → List SVal → Option Res) (k : Nat) (x0 : SVal) (x1 : SVal) : bodyE P H T k 68 [x0, x1] = R68 T k x0 x1 := by kernel_rfl
noncomputable def D68 (T : Nat → List SVal → Option Res) (k : Nat) : List SVal → Option Res
  | [x0, x1] => R68 T k x0 x1
  | a => bodyE P H T k 68 a
theorem d68 (T : Nat → List SVal → Option Res) (k : Nat) (a : List SVal) : D68 T k a = bodyE P H T k 68 a := by
  unfold D68
  split
  · exact (r68 ..).symm
  · rfl
theorem t68 (k : Nat) (x0 : SVal) (x1 : SVal) : T (k + 1) 68 [x0, x1] = R68 (T k) k x0 x1 := (by kernel_rfl : T (k + 1) 68 [x0, x1] = bodyE P H (T k) k 68 [x0, x1]).trans (r68 ..)
end Go.Proofs.YtcehbmffbmhpfaaGreat.K
