/- What the evaluator makes of the functions, by program (wip/tr/resid.py); each equation is checked by the kernel. -/
import Derived.Test.YtcehbmffbmhpfaaGreatLmAK
import Derived.Test.YtcehbmffbmhpfaaGreatLmAB
import Derived.KernelRfl
set_option linter.unusedVariables false
set_option linter.unusedSimpArgs false
set_option linter.unnecessarySimpa false
set_option linter.all false
set_option maxRecDepth 100000
namespace Go.Proofs.YtcehbmffbmhpfaaGreat.K
open Go Go.Lm
/-- limelight/limelightref01.Attr -/
def R109 (T : Nat → List SVal → Option Res) (k : Nat) (x0 : SVal) (x1a : SVal) (x1b : SVal) : Option Res :=
  ((sBin .lss x1a (.int .i64 0)).bind fun r1 =>
   guardX r1 false
   ((sBin .gtr x1a (.int .i64 9)).bind fun r2 =>
    guardX r2 false
    ((T 137 [x1a, x1b]).bind fun r3 =>
     (sNot r3.r).bind fun r4 =>
     (asB r4).bind fun b5 =>
     some [b5])
    (some [true])
    (none))
   (some [true])
   (none)).bind fun vs6 =>
  pickC (.bool (vs6.getD 0 false))
  (some { r := (.bool false) })
  ((sBin .eql x0 (.int .i64 3)).bind fun r7 =>
   pickC r7
   (((sBin .eql x1a (.int .i64 7)).bind fun r8 =>
     guardX r8 false
     ((sBin .eql x1a (.int .i64 8)).bind fun r9 =>
      (asB r9).bind fun b10 =>
      some [b10])
     (some [true])
     (none)).bind fun vs11 =>
    some { r := (.bool (vs11.getD 0 false)) })
   (((sBin .eql x0 (.int .i64 1)).bind fun r12 =>
     guardX r12 true
     ((sBin .neq x1a (.int .i64 7)).bind fun r13 =>
      guardX r13 true
      ((sBin .neq x1a (.int .i64 8)).bind fun r14 =>
       (asB r14).bind fun b15 =>
       some [b15])
      (some [false])
      (none))
     (some [false])
     (none)).bind fun vs16 =>
    some { r := (.bool (vs16.getD 0 false)) }))
theorem r109 (T : Nat → List SVal → Option Res) (k : Nat) (x0 : SVal) (x1a : SVal) (x1b : SVal) : bodyE P H T k 109 [x0, (.agg [x1a, x1b])] = R109 T k x0 x1a x1b := by kernel_rfl
noncomputable def D109 (T : Nat → List SVal → Option Res) (k : Nat) : List SVal → Option Res
  | [x0, (.agg [x1a, x1b])] => R109 T k x0 x1a x1b
  | a => bodyE P H T k 109 a
theorem d109 (T : Nat → List SVal → Option Res) (k : Nat) (a : List SVal) : D109 T k a = bodyE P H T k 109 a := by
  unfold D109
  split
  · exact (r109 ..).symm
  · rfl
theorem t109 (k : Nat) (x0 : SVal) (x1a : SVal) (x1b : SVal) : T (k + 1) 109 [x0, (.agg [x1a, x1b])] = R109 (T k) k x0 x1a x1b := (by kernel_rfl : T (k + 1) 109 [x0, (.agg [x1a, x1b])] = bodyE P H (T k) k 109 [x0, (.agg [x1a, x1b])]).trans (r109 ..)
/-- limelight/limelightref01.count -/
def R110 (T : Nat → List SVal → Option Res) (k : Nat) (x0 : SVal) (x1 : SVal) : Option Res :=
  loopN (fun s1 next1 =>
   (sLen s1.k0).bind fun r2 =>
   (sBin .lss s1.k3 r2).bind fun r3 =>
   pickC r3
   ((sIdx false 1 s1.k0 s1.k3).bind fun e4 =>
    (sBin .eql e4 s1.k1).bind fun r5 =>
    pickC r5
    ((sBin .add s1.k2 (.int .i64 1)).bind fun r6 =>
     (sBin .add s1.k3 (.int .i64 1)).bind fun r7 =>
     next1 ⟨[(weak s1.k0), s1.k1, r6, r7], [], false⟩)
    ((sBin .add s1.k3 (.int .i64 1)).bind fun r8 =>
     next1 ⟨[(weak s1.k0), s1.k1, s1.k2, r8], [], false⟩))
   (some { r := s1.k2 })) k ⟨[(weak x0), x1, (.int .i64 0), (.int .i64 0)], [], false⟩
theorem r110 (T : Nat → List SVal → Option Res) (k : Nat) (x0 : SVal) (x1 : SVal) : bodyE P H T k 110 [x0, x1] = R110 T k x0 x1 := by kernel_rfl
noncomputable def D110 (T : Nat → List SVal → Option Res) (k : Nat) : List SVal → Option Res
  | [x0, x1] => R110 T k x0 x1
  | a => bodyE P H T k 110 a
theorem d110 (T : Nat → List SVal → Option Res) (k : Nat) (a : List SVal) : D110 T k a = bodyE P H T k 110 a := by
  unfold D110
  split
  · exact (r110 ..).symm
  · rfl
theorem t110 (k : Nat) (x0 : SVal) (x1 : SVal) : T (k + 1) 110 [x0, x1] = R110 (T k) k x0 x1 := (by kernel_rfl : T (k + 1) 110 [x0, x1] = bodyE P H (T k) k 110 [x0, x1]).trans (r110 ..)
/-- limelight/limelightref01.Up -/
def R111 (T : Nat → List SVal → Option Res) (k : Nat) (x0 : SVal) (x1 : SVal) : Option Res :=
  (sIdx true 7 x0 x1).bind fun e1 =>
  (sBin .eql (SVal.cell e1 0) (.int .i64 3)).bind fun r2 =>
  pickC r2
  ((sIdx true 7 x0 x1).bind fun e3 =>
   some { r := (SVal.cell e3 4) })
  ((sIdx true 7 x0 x1).bind fun e4 =>
   some { r := (SVal.cell e4 2) })
theorem r111 (T : Nat → List SVal → Option Res) (k : Nat) (x0 : SVal) (x1 : SVal) : bodyE P H T k 111 [x0, x1] = R111 T k x0 x1 := by kernel_rfl
noncomputable def D111 (T : Nat → List SVal → Option Res) (k : Nat) : List SVal → Option Res
  | [x0, x1] => R111 T k x0 x1
  | a => bodyE P H T k 111 a
theorem d111 (T : Nat → List SVal → Option Res) (k : Nat) (a : List SVal) : D111 T k a = bodyE P H T k 111 a := by
  unfold D111
  split
  · exact (r111 ..).symm
  · rfl
theorem t111 (k : Nat) (x0 : SVal) (x1 : SVal) : T (k + 1) 111 [x0, x1] = R111 (T k) k x0 x1 := (by kernel_rfl : T (k + 1) 111 [x0, x1] = bodyE P H (T k) k 111 [x0, x1]).trans (r111 ..)
/-- slices.IndexFunc[[]limelight/api.Attr,limelight/api.Attr] -/
def R112 (T : Nat → List SVal → Option Res) (k : Nat) (x0 : SVal) (x1 : SVal) : Option Res :=
  (sLen x0).bind fun r1 =>
  loopN (fun s2 next2 =>
   (sBin .lss s2.k3 s2.k2).bind fun r3 =>
   pickC r3
   ((sIdx true 2 s2.k0 s2.k3).bind fun e4 =>
    (callV H T s2.k1 [(.agg [(SVal.cell e4 0), (SVal.cell e4 1)])]).bind fun y5 =>
    pickC y5
    (some { r := s2.k3 })
    ((sBin .add s2.k3 (.int .i64 1)).bind fun r6 =>
     next2 ⟨[(weak s2.k0), s2.k1, s2.k2, r6], [], false⟩))
   (some { r := (.int .i64 (-1)) })) k ⟨[(weak x0), x1, r1, (.int .i64 0)], [], false⟩
theorem r112 (T : Nat → List SVal → Option Res) (k : Nat) (x0 : SVal) (x1 : SVal) : bodyE P H T k 112 [x0, x1] = R112 T k x0 x1 := by kernel_rfl
noncomputable def D112 (T : Nat → List SVal → Option Res) (k : Nat) : List SVal → Option Res
  | [x0, x1] => R112 T k x0 x1
  | a => bodyE P H T k 112 a
theorem d112 (T : Nat → List SVal → Option Res) (k : Nat) (a : List SVal) : D112 T k a = bodyE P H T k 112 a := by
  unfold D112
  split
  · exact (r112 ..).symm
  · rfl
theorem t112 (k : Nat) (x0 : SVal) (x1 : SVal) : T (k + 1) 112 [x0, x1] = R112 (T k) k x0 x1 := (by kernel_rfl : T (k + 1) 112 [x0, x1] = bodyE P H (T k) k 112 [x0, x1]).trans (r112 ..)
/-- limelight/attr.at$1 -/
def R113 (T : Nat → List SVal → Option Res) (k : Nat) (x0a : SVal) (x0b : SVal) (x1 : SVal) : Option Res :=
  (sBin .eql x0a x1).bind fun r1 =>
  some { r := r1 }
theorem r113 (T : Nat → List SVal → Option Res) (k : Nat) (x0a : SVal) (x0b : SVal) (x1 : SVal) : bodyE P H T k 113 [(.agg [x0a, x0b]), (.rp [x1])] = R113 T k x0a x0b x1 := by kernel_rfl
noncomputable def D113 (T : Nat → List SVal → Option Res) (k : Nat) : List SVal → Option Res
  | [(.agg [x0a, x0b]), (.rp [x1])] => R113 T k x0a x0b x1
  | a => bodyE P H T k 113 a
theorem d113 (T : Nat → List SVal → Option Res) (k : Nat) (a : List SVal) : D113 T k a = bodyE P H T k 113 a := by
  unfold D113
  split
  · exact (r113 ..).symm
  · rfl
theorem t113 (k : Nat) (x0a : SVal) (x0b : SVal) (x1 : SVal) : T (k + 1) 113 [(.agg [x0a, x0b]), (.rp [x1])] = R113 (T k) k x0a x0b x1 := (by kernel_rfl : T (k + 1) 113 [(.agg [x0a, x0b]), (.rp [x1])] = bodyE P H (T k) k 113 [(.agg [x0a, x0b]), (.rp [x1])]).trans (r113 ..)
/-- slices.Backward[[]int,int]$1 -/
def R114 (T : Nat → List SVal → Option Res) (k : Nat) (x1 : SVal) : Option Res :=
  (sLen x1).bind fun r1 =>
  (sBin .sub r1 (.int .i64 1)).bind fun r2 =>
  loopN (fun s3 next3 =>
   (sBin .geq s3.k2 (.int .i64 0)).bind fun r4 =>
   pickC r4
   ((sIdx false 1 (SVal.cell s3.k1 0) s3.k2).bind fun e5 =>
    if (s3.stop) = true then none else
    both
    ((sBin .sub s3.k2 (.int .i64 1)).bind fun r6 =>
     next3 ⟨[.yld, (.rp [(SVal.cell s3.k1 0)]), r6], (s3.out ++ [(.tup [s3.k2, e5])]), s3.stop⟩)
    (some { r := (.tup []) }))
   (if (s3.stop) = true then
    some { r := (.tup []) }
    else
    some { r := (.tup []), out := s3.out })) k ⟨[.yld, (.rp [x1]), r2], [], false⟩
theorem r114 (T : Nat → List SVal → Option Res) (k : Nat) (x1 : SVal) : bodyE P H T k 114 [.yld, (.rp [x1])] = R114 T k x1 := by kernel_rfl
noncomputable def D114 (T : Nat → List SVal → Option Res) (k : Nat) : List SVal → Option Res
  | [.yld, (.rp [x1])] => R114 T k x1
  | a => bodyE P H T k 114 a
theorem d114 (T : Nat → List SVal → Option Res) (k : Nat) (a : List SVal) : D114 T k a = bodyE P H T k 114 a := by
  unfold D114
  split
  · exact (r114 ..).symm
  · rfl
theorem t114 (k : Nat) (x1 : SVal) : T (k + 1) 114 [.yld, (.rp [x1])] = R114 (T k) k x1 := (by kernel_rfl : T (k + 1) 114 [.yld, (.rp [x1])] = bodyE P H (T k) k 114 [.yld, (.rp [x1])]).trans (r114 ..)
/-- limelight/flat.is -/
def R115 (T : Nat → List SVal → Option Res) (k : Nat) (x0 : SVal) (x1 : SVal) : Option Res :=
  (T 138 [(weak x0), x1]).bind fun r1 =>
  (sBin .neq r1.r (.int .i64 (-1))).bind fun r2 =>
  some { r := r2 }
theorem r115 (T : Nat → List SVal → Option Res) (k : Nat) (x0 : SVal) (x1 : SVal) : bodyE P H T k 115 [x0, x1] = R115 T k x0 x1 := by kernel_rfl
noncomputable def D115 (T : Nat → List SVal → Option Res) (k : Nat) : List SVal → Option Res
  | [x0, x1] => R115 T k x0 x1
  | a => bodyE P H T k 115 a
theorem d115 (T : Nat → List SVal → Option Res) (k : Nat) (a : List SVal) : D115 T k a = bodyE P H T k 115 a := by
  unfold D115
  split
  · exact (r115 ..).symm
  · rfl
theorem t115 (k : Nat) (x0 : SVal) (x1 : SVal) : T (k + 1) 115 [x0, x1] = R115 (T k) k x0 x1 := (by kernel_rfl : T (k + 1) 115 [x0, x1] = bodyE P H (T k) k 115 [x0, x1]).trans (r115 ..)
/-- slices.Collect[int] -/
def R116 (T : Nat → List SVal → Option Res) (k : Nat) (x0 : SVal) : Option Res :=
  (T 139 [(.sl 1 true false []), x0]).bind fun r1 =>
  some { r := (.sl 1 true false r1.r.xs) }
theorem r116 (T : Nat → List SVal → Option Res) (k : Nat) (x0 : SVal) : bodyE P H T k 116 [x0] = R116 T k x0 := by kernel_rfl
noncomputable def D116 (T : Nat → List SVal → Option Res) (k : Nat) : List SVal → Option Res
  | [x0] => R116 T k x0
  | a => bodyE P H T k 116 a
theorem d116 (T : Nat → List SVal → Option Res) (k : Nat) (a : List SVal) : D116 T k a = bodyE P H T k 116 a := by
  unfold D116
  split
  · exact (r116 ..).symm
  · rfl
theorem t116 (k : Nat) (x0 : SVal) : T (k + 1) 116 [x0] = R116 (T k) k x0 := (by kernel_rfl : T (k + 1) 116 [x0] = bodyE P H (T k) k 116 [x0]).trans (r116 ..)
/-- limelight/flat.up -/
def R117 (T : Nat → List SVal → Option Res) (k : Nat) (x0 : SVal) (x1 : SVal) : Option Res :=
  if (oneS x0) = true then
  if (oneS x1) = true then
  some { r := (.fn 140 [(.mb [x1]), (.rp [x0])]) }
  else none
  else none
theorem r117 (T : Nat → List SVal → Option Res) (k : Nat) (x0 : SVal) (x1 : SVal) : bodyE P H T k 117 [x0, x1] = R117 T k x0 x1 := by kernel_rfl
noncomputable def D117 (T : Nat → List SVal → Option Res) (k : Nat) : List SVal → Option Res
  | [x0, x1] => R117 T k x0 x1
  | a => bodyE P H T k 117 a
theorem d117 (T : Nat → List SVal → Option Res) (k : Nat) (a : List SVal) : D117 T k a = bodyE P H T k 117 a := by
  unfold D117
  split
  · exact (r117 ..).symm
  · rfl
theorem t117 (k : Nat) (x0 : SVal) (x1 : SVal) : T (k + 1) 117 [x0, x1] = R117 (T k) k x0 x1 := (by kernel_rfl : T (k + 1) 117 [x0, x1] = bodyE P H (T k) k 117 [x0, x1]).trans (r117 ..)
/-- limelight/limelightref06.Kids -/
def R118 (T : Nat → List SVal → Option Res) (k : Nat) (x0 : SVal) (x1 : SVal) : Option Res :=
  (sIdx true 7 x0 x1).bind fun e1 =>
  (sBin .eql (SVal.cell e1 0) (.int .i64 3)).bind fun r2 =>
  pickC r2
  (some { r := (.sl 1 false false []) })
  ((sIdx true 7 x0 x1).bind fun e3 =>
   (sBin .neq (SVal.cell e3 5) (.int .i64 (-1))).bind fun r4 =>
   pickC r4
   ((sIdx true 7 x0 x1).bind fun e5 =>
    (sIdx true 7 x0 (SVal.cell e5 5)).bind fun e6 =>
    some { r := (weak (SVal.cell e6 3)) })
   ((T 142 [(weak x0), x1]).bind fun r7 =>
    (sLen r7.r).bind fun r8 =>
    (sBin .gtr r8 (.int .i64 0)).bind fun r9 =>
    pickC r9
    (some { r := (weak r7.r) })
    ((sIdx true 7 x0 x1).bind fun e10 =>
     some { r := (weak (SVal.cell e10 3)) })))
theorem r118 (T : Nat → List SVal → Option Res) (k : Nat) (x0 : SVal) (x1 : SVal) : bodyE P H T k 118 [x0, x1] = R118 T k x0 x1 := by kernel_rfl
noncomputable def D118 (T : Nat → List SVal → Option Res) (k : Nat) : List SVal → Option Res
  | [x0, x1] => R118 T k x0 x1
  | a => bodyE P H T k 118 a
theorem d118 (T : Nat → List SVal → Option Res) (k : Nat) (a : List SVal) : D118 T k a = bodyE P H T k 118 a := by
  unfold D118
  split
  · exact (r118 ..).symm
  · rfl
theorem t118 (k : Nat) (x0 : SVal) (x1 : SVal) : T (k + 1) 118 [x0, x1] = R118 (T k) k x0 x1 := (by kernel_rfl : T (k + 1) 118 [x0, x1] = bodyE P H (T k) k 118 [x0, x1]).trans (r118 ..)
/-- limelight/tree.may -/
def R119 (T : Nat → List SVal → Option Res) (k : Nat) (x0 : SVal) : Option Res :=
  (sLen x0).bind fun r1 =>
  (T 143 [r1, (.int .i64 1), (.int .i64 64)]).bind fun r2 =>
  (sNot r2.r).bind fun r3 =>
  pickC r3
  (some { r := (.bool false) })
  ((sLen x0).bind fun r4 =>
   loopN (fun s5 next5 =>
    (sBin .lss s5.k2 s5.k1).bind fun r6 =>
    pickC r6
    ((T 144 [(weak s5.k0), s5.k2]).bind fun r7 =>
     (sNot r7.r).bind fun r8 =>
     pickC r8
     (some { r := (.bool false) })
     ((sBin .add s5.k2 (.int .i64 1)).bind fun r9 =>
      next5 ⟨[(weak s5.k0), s5.k1, r9], [], false⟩))
    ((sLen s5.k0).bind fun r10 =>
     loopN (fun s11 next11 =>
      (sBin .lss s11.k2 s11.k1).bind fun r12 =>
      pickC r12
      ((T 145 [(weak s11.k0), s11.k2]).bind fun r13 =>
       pickC r13.r
       (some { r := (.bool false) })
       ((sBin .add s11.k2 (.int .i64 1)).bind fun r14 =>
        next11 ⟨[(weak s11.k0), s11.k1, r14], [], false⟩))
      (some { r := (.bool true) })) k ⟨[(weak s5.k0), r10, (.int .i64 0)], [], false⟩)) k ⟨[(weak x0), r4, (.int .i64 0)], [], false⟩)
theorem r119 (T : Nat → List SVal → Option Res) (k : Nat) (x0 : SVal) : bodyE P H T k 119 [x0] = R119 T k x0 := by kernel_rfl
noncomputable def D119 (T : Nat → List SVal → Option Res) (k : Nat) : List SVal → Option Res
  | [x0] => R119 T k x0
  | a => bodyE P H T k 119 a
theorem d119 (T : Nat → List SVal → Option Res) (k : Nat) (a : List SVal) : D119 T k a = bodyE P H T k 119 a := by
  unfold D119
  split
  · exact (r119 ..).symm
  · rfl
theorem t119 (k : Nat) (x0 : SVal) : T (k + 1) 119 [x0] = R119 (T k) k x0 := (by kernel_rfl : T (k + 1) 119 [x0] = bodyE P H (T k) k 119 [x0]).trans (r119 ..)
/-- limelight/top.only[int] -/
def R120 (T : Nat → List SVal → Option Res) (k : Nat) (x0 : SVal) (x1 : SVal) : Option Res :=
  (sLen x0).bind fun r1 =>
  loopN (fun s2 next2 =>
   (sBin .lss s2.k5 s2.k4).bind fun r3 =>
   pickC r3
   ((sIdx false 1 s2.k3 s2.k5).bind fun e4 =>
    (callV H T s2.k0 [e4]).bind fun y5 =>
    pickC y5
    (if (List.all [[.v e4]] allOne) = true then
     if (s2.k1.xs.length + ([e4] : List SVal).length) * 8 ≤ maxAppend then
     (sBin .add s2.k5 (.int .i64 1)).bind fun r6 =>
     next2 ⟨[s2.k0, (.sl 1 true false (s2.k1.xs ++ ([e4] : List SVal))), (.sl 1 true false s2.k2.xs), (weak s2.k3), s2.k4, r6], [], false⟩
     else none
     else none)
    (if (List.all [[.v e4]] allOne) = true then
     if (s2.k2.xs.length + ([e4] : List SVal).length) * 8 ≤ maxAppend then
     (sBin .add s2.k5 (.int .i64 1)).bind fun r7 =>
     next2 ⟨[s2.k0, (.sl 1 true false s2.k1.xs), (.sl 1 true false (s2.k2.xs ++ ([e4] : List SVal))), (weak s2.k3), s2.k4, r7], [], false⟩
     else none
     else none))
   (some { r := (.tup [(.sl 1 false false s2.k1.xs), (.sl 1 false false s2.k2.xs)]) })) k ⟨[x1, (.sl 1 true false []), (.sl 1 true false []), (weak x0), r1, (.int .i64 0)], [], false⟩
theorem r120 (T : Nat → List SVal → Option Res) (k : Nat) (x0 : SVal) (x1 : SVal) : bodyE P H T k 120 [x0, x1] = R120 T k x0 x1 := by kernel_rfl
noncomputable def D120 (T : Nat → List SVal → Option Res) (k : Nat) : List SVal → Option Res
  | [x0, x1] => R120 T k x0 x1
  | a => bodyE P H T k 120 a
theorem d120 (T : Nat → List SVal → Option Res) (k : Nat) (a : List SVal) : D120 T k a = bodyE P H T k 120 a := by
  unfold D120
  split
  · exact (r120 ..).symm
  · rfl
theorem t120 (k : Nat) (x0 : SVal) (x1 : SVal) : T (k + 1) 120 [x0, x1] = R120 (T k) k x0 x1 := (by kernel_rfl : T (k + 1) 120 [x0, x1] = bodyE P H (T k) k 120 [x0, x1]).trans (r120 ..)
/-- slices.Concat[[]int,int] -/
def R121 (T : Nat → List SVal → Option Res) (k : Nat) (x0 : SVal) : Option Res :=
  (sLen x0).bind fun r1 =>
  loopN (fun s2 next2 =>
   (sBin .lss s2.k4 s2.k3).bind fun r3 =>
   pickC r3
   ((sIdx false 1 s2.k2 s2.k4).bind fun e4 =>
    (sLen e4).bind fun r5 =>
    (sBin .add s2.k1 r5).bind fun r6 =>
    (sBin .lss r6 (.int .i64 0)).bind fun r7 =>
    pickC r7
    (none)
    ((sBin .add s2.k4 (.int .i64 1)).bind fun r8 =>
     next2 ⟨[(weak s2.k0), r6, (weak s2.k2), s2.k3, r8], [], false⟩))
   ((T 146 [(.sl 1 false true []), s2.k1]).bind fun r9 =>
    (sLen s2.k0).bind fun r10 =>
    loopN (fun s11 next11 =>
     (sBin .lss s11.k3 s11.k2).bind fun r12 =>
     pickC r12
     ((sIdx false 1 s11.k1 s11.k3).bind fun e13 =>
      (elems 1 e13).bind fun ys14 =>
      if (s11.k0.xs.length + ys14.length) * 8 ≤ maxAppend then
      (sBin .add s11.k3 (.int .i64 1)).bind fun r15 =>
      next11 ⟨[(.sl 1 true false (s11.k0.xs ++ ys14)), (weak s11.k1), s11.k2, r15], [], false⟩
      else none)
     (some { r := (.sl 1 false false s11.k0.xs) })) k ⟨[(.sl 1 true false r9.r.xs), (weak s2.k0), r10, (.int .i64 0)], [], false⟩)) k ⟨[(weak x0), (.int .i64 0), (weak x0), r1, (.int .i64 0)], [], false⟩
theorem r121 (T : Nat → List SVal → Option Res) (k : Nat) (x0 : SVal) : bodyE P H T k 121 [x0] = R121 T k x0 := by kernel_rfl
noncomputable def D121 (T : Nat → List SVal → Option Res) (k : Nat) : List SVal → Option Res
  | [x0] => R121 T k x0
  | a => bodyE P H T k 121 a
theorem d121 (T : Nat → List SVal → Option Res) (k : Nat) (a : List SVal) : D121 T k a = bodyE P H T k 121 a := by
  unfold D121
  split
  · exact (r121 ..).symm
  · rfl
theorem t121 (k : Nat) (x0 : SVal) : T (k + 1) 121 [x0] = R121 (T k) k x0 := (by kernel_rfl : T (k + 1) 121 [x0] = bodyE P H (T k) k 121 [x0]).trans (r121 ..)
/-- limelight/top.may$1 -/
def R122 (T : Nat → List SVal → Option Res) (k : Nat) (x0 : SVal) (x1 : SVal) : Option Res :=
  (T 123 [(weak x1), x0]).bind fun r1 =>
  some { r := r1.r }
theorem r122 (T : Nat → List SVal → Option Res) (k : Nat) (x0 : SVal) (x1 : SVal) : bodyE P H T k 122 [x0, (.rp [x1])] = R122 T k x0 x1 := by kernel_rfl
noncomputable def D122 (T : Nat → List SVal → Option Res) (k : Nat) : List SVal → Option Res
  | [x0, (.rp [x1])] => R122 T k x0 x1
  | a => bodyE P H T k 122 a
theorem d122 (T : Nat → List SVal → Option Res) (k : Nat) (a : List SVal) : D122 T k a = bodyE P H T k 122 a := by
  unfold D122
  split
  · exact (r122 ..).symm
  · rfl
theorem t122 (k : Nat) (x0 : SVal) (x1 : SVal) : T (k + 1) 122 [x0, (.rp [x1])] = R122 (T k) k x0 x1 := (by kernel_rfl : T (k + 1) 122 [x0, (.rp [x1])] = bodyE P H (T k) k 122 [x0, (.rp [x1])]).trans (r122 ..)
/-- limelight/top.dialog -/
def R123 (T : Nat → List SVal → Option Res) (k : Nat) (x0 : SVal) (x1 : SVal) : Option Res :=
  ((T 147 [(weak x0), x1]).bind fun r1 =>
   guardX r1.r true
   ((sIdx true 7 x0 x1).bind fun e2 =>
    (sBin .eql (SVal.cell e2 1) (.int .i64 2)).bind fun r3 =>
    (asB r3).bind fun b4 =>
    some [b4])
   (some [false])
   (none)).bind fun vs5 =>
  some { r := (.bool (vs5.getD 0 false)) }
theorem r123 (T : Nat → List SVal → Option Res) (k : Nat) (x0 : SVal) (x1 : SVal) : bodyE P H T k 123 [x0, x1] = R123 T k x0 x1 := by kernel_rfl
noncomputable def D123 (T : Nat → List SVal → Option Res) (k : Nat) : List SVal → Option Res
  | [x0, x1] => R123 T k x0 x1
  | a => bodyE P H T k 123 a
theorem d123 (T : Nat → List SVal → Option Res) (k : Nat) (a : List SVal) : D123 T k a = bodyE P H T k 123 a := by
  unfold D123
  split
  · exact (r123 ..).symm
  · rfl
theorem t123 (k : Nat) (x0 : SVal) (x1 : SVal) : T (k + 1) 123 [x0, x1] = R123 (T k) k x0 x1 := (by kernel_rfl : T (k + 1) 123 [x0, x1] = bodyE P H (T k) k 123 [x0, x1]).trans (r123 ..)
/-- limelight/top.only[limelight/api.Shown] -/
def R124 (T : Nat → List SVal → Option Res) (k : Nat) (x0 : SVal) (x1 : SVal) : Option Res :=
  (sLen x0).bind fun r1 =>
  loopN (fun s2 next2 =>
   (sBin .lss s2.k5 s2.k4).bind fun r3 =>
   pickC r3
   ((sIdx true 2 s2.k3 s2.k5).bind fun e4 =>
    if (allOne [.v (SVal.cell e4 0), .v (SVal.cell e4 1)]) = true then
    (callV H T s2.k0 [(.agg [(SVal.cell e4 0), (SVal.cell e4 1)])]).bind fun y5 =>
    pickC y5
    (if (List.all [[.v (SVal.cell e4 0), .v (SVal.cell e4 1)]] allOne) = true then
     if (s2.k1.xs.length + ([(.agg [(weak (SVal.cell e4 0)), (weak (SVal.cell e4 1))])] : List SVal).length) * 16 ≤ maxAppend then
     (sBin .add s2.k5 (.int .i64 1)).bind fun r6 =>
     next2 ⟨[s2.k0, (.sl 2 true false (s2.k1.xs ++ ([(.agg [(weak (SVal.cell e4 0)), (weak (SVal.cell e4 1))])] : List SVal))), (.sl 2 true false s2.k2.xs), (weak s2.k3), s2.k4, r6], [], false⟩
     else none
     else none)
    (if (List.all [[.v (SVal.cell e4 0), .v (SVal.cell e4 1)]] allOne) = true then
     if (s2.k2.xs.length + ([(.agg [(weak (SVal.cell e4 0)), (weak (SVal.cell e4 1))])] : List SVal).length) * 16 ≤ maxAppend then
     (sBin .add s2.k5 (.int .i64 1)).bind fun r7 =>
     next2 ⟨[s2.k0, (.sl 2 true false s2.k1.xs), (.sl 2 true false (s2.k2.xs ++ ([(.agg [(weak (SVal.cell e4 0)), (weak (SVal.cell e4 1))])] : List SVal))), (weak s2.k3), s2.k4, r7], [], false⟩
     else none
     else none)
    else none)
   (some { r := (.tup [(.sl 2 true false s2.k1.xs), (.sl 2 false false s2.k2.xs)]) })) k ⟨[x1, (.sl 2 true false []), (.sl 2 true false []), (weak x0), r1, (.int .i64 0)], [], false⟩
theorem r124 (T : Nat → List SVal → Option Res) (k : Nat) (x0 : SVal) (x1 : SVal) : bodyE P H T k 124 [x0, x1] = R124 T k x0 x1 := by kernel_rfl
noncomputable def D124 (T : Nat → List SVal → Option Res) (k : Nat) : List SVal → Option Res
  | [x0, x1] => R124 T k x0 x1
  | a => bodyE P H T k 124 a
theorem d124 (T : Nat → List SVal → Option Res) (k : Nat) (a : List SVal) : D124 T k a = bodyE P H T k 124 a := by
  unfold D124
  split
  · exact (r124 ..).symm
  · rfl
theorem t124 (k : Nat) (x0 : SVal) (x1 : SVal) : T (k + 1) 124 [x0, x1] = R124 (T k) k x0 x1 := (by kernel_rfl : T (k + 1) 124 [x0, x1] = bodyE P H (T k) k 124 [x0, x1]).trans (r124 ..)
/-- limelight/top.may$2 -/
def R125 (T : Nat → List SVal → Option Res) (k : Nat) (x0a : SVal) (x0b : SVal) (x1 : SVal) : Option Res :=
  ((T 126 [(weak x1), x0a]).bind fun r1 =>
   guardX r1.r true
   ((sBin .eql x0b (.int .i64 (-1))).bind fun r2 =>
    guardX r2 false
    ((T 127 [(weak x1), x0b]).bind fun r3 =>
     (asB r3.r).bind fun b4 =>
     some [b4])
    (some [true])
    (none))
   (some [false])
   (none)).bind fun vs5 =>
  some { r := (.bool (vs5.getD 0 false)) }
theorem r125 (T : Nat → List SVal → Option Res) (k : Nat) (x0a : SVal) (x0b : SVal) (x1 : SVal) : bodyE P H T k 125 [(.agg [x0a, x0b]), (.rp [x1])] = R125 T k x0a x0b x1 := by kernel_rfl
noncomputable def D125 (T : Nat → List SVal → Option Res) (k : Nat) : List SVal → Option Res
  | [(.agg [x0a, x0b]), (.rp [x1])] => R125 T k x0a x0b x1
  | a => bodyE P H T k 125 a
theorem d125 (T : Nat → List SVal → Option Res) (k : Nat) (a : List SVal) : D125 T k a = bodyE P H T k 125 a := by
  unfold D125
  split
  · exact (r125 ..).symm
  · rfl
theorem t125 (k : Nat) (x0a : SVal) (x0b : SVal) (x1 : SVal) : T (k + 1) 125 [(.agg [x0a, x0b]), (.rp [x1])] = R125 (T k) k x0a x0b x1 := (by kernel_rfl : T (k + 1) 125 [(.agg [x0a, x0b]), (.rp [x1])] = bodyE P H (T k) k 125 [(.agg [x0a, x0b]), (.rp [x1])]).trans (r125 ..)
/-- limelight/top.popup -/
def R126 (T : Nat → List SVal → Option Res) (k : Nat) (x0 : SVal) (x1 : SVal) : Option Res :=
  ((T 147 [(weak x0), x1]).bind fun r1 =>
   guardX r1.r true
   ((T 106 [(weak x0), x1, (.int .i64 6)]).bind fun r2 =>
    (asB r2.r).bind fun b3 =>
    some [b3])
   (some [false])
   (none)).bind fun vs4 =>
  some { r := (.bool (vs4.getD 0 false)) }
theorem r126 (T : Nat → List SVal → Option Res) (k : Nat) (x0 : SVal) (x1 : SVal) : bodyE P H T k 126 [x0, x1] = R126 T k x0 x1 := by kernel_rfl
noncomputable def D126 (T : Nat → List SVal → Option Res) (k : Nat) : List SVal → Option Res
  | [x0, x1] => R126 T k x0 x1
  | a => bodyE P H T k 126 a
theorem d126 (T : Nat → List SVal → Option Res) (k : Nat) (a : List SVal) : D126 T k a = bodyE P H T k 126 a := by
  unfold D126
  split
  · exact (r126 ..).symm
  · rfl
theorem t126 (k : Nat) (x0 : SVal) (x1 : SVal) : T (k + 1) 126 [x0, x1] = R126 (T k) k x0 x1 := (by kernel_rfl : T (k + 1) 126 [x0, x1] = bodyE P H (T k) k 126 [x0, x1]).trans (r126 ..)
/-- limelight/top.is -/
def R127 (T : Nat → List SVal → Option Res) (k : Nat) (x0 : SVal) (x1 : SVal) : Option Res :=
  ((sBin .geq x1 (.int .i64 0)).bind fun r1 =>
   guardX r1 true
   ((sLen x0).bind fun r2 =>
    (sBin .lss x1 r2).bind fun r3 =>
    (asB r3).bind fun b4 =>
    some [b4])
   (some [false])
   (none)).bind fun vs5 =>
  some { r := (.bool (vs5.getD 0 false)) }
theorem r127 (T : Nat → List SVal → Option Res) (k : Nat) (x0 : SVal) (x1 : SVal) : bodyE P H T k 127 [x0, x1] = R127 T k x0 x1 := by kernel_rfl
noncomputable def D127 (T : Nat → List SVal → Option Res) (k : Nat) : List SVal → Option Res
  | [x0, x1] => R127 T k x0 x1
  | a => bodyE P H T k 127 a
theorem d127 (T : Nat → List SVal → Option Res) (k : Nat) (a : List SVal) : D127 T k a = bodyE P H T k 127 a := by
  unfold D127
  split
  · exact (r127 ..).symm
  · rfl
theorem t127 (k : Nat) (x0 : SVal) (x1 : SVal) : T (k + 1) 127 [x0, x1] = R127 (T k) k x0 x1 := (by kernel_rfl : T (k + 1) 127 [x0, x1] = bodyE P H (T k) k 127 [x0, x1]).trans (r127 ..)
/-- limelight/top.high -/
def R128 (T : Nat → List SVal → Option Res) (k : Nat) (x0a : SVal) (x0b : SVal) (x0c : SVal) (x0d : SVal) (x0e : SVal) : Option Res :=
  (T 148 [(weak x0d), (.fn 149 [])]).bind fun r1 =>
  if (List.all [[.v x0c], [.v r1.r]] allOne) = true then
  (T 121 [(.sl 1 false false [x0c, r1.r])]).bind fun r2 =>
  some { r := (weak r2.r) }
  else none
theorem r128 (T : Nat → List SVal → Option Res) (k : Nat) (x0a : SVal) (x0b : SVal) (x0c : SVal) (x0d : SVal) (x0e : SVal) : bodyE P H T k 128 [(.agg [x0a, x0b, x0c, x0d, x0e])] = R128 T k x0a x0b x0c x0d x0e := by kernel_rfl
noncomputable def D128 (T : Nat → List SVal → Option Res) (k : Nat) : List SVal → Option Res
  | [(.agg [x0a, x0b, x0c, x0d, x0e])] => R128 T k x0a x0b x0c x0d x0e
  | a => bodyE P H T k 128 a
theorem d128 (T : Nat → List SVal → Option Res) (k : Nat) (a : List SVal) : D128 T k a = bodyE P H T k 128 a := by
  unfold D128
  split
  · exact (r128 ..).symm
  · rfl
theorem t128 (k : Nat) (x0a : SVal) (x0b : SVal) (x0c : SVal) (x0d : SVal) (x0e : SVal) : T (k + 1) 128 [(.agg [x0a, x0b, x0c, x0d, x0e])] = R128 (T k) k x0a x0b x0c x0d x0e := (by kernel_rfl : T (k + 1) 128 [(.agg [x0a, x0b, x0c, x0d, x0e])] = bodyE P H (T k) k 128 [(.agg [x0a, x0b, x0c, x0d, x0e])]).trans (r128 ..)
/-- slices.Sorted[int] -/
def R129 (T : Nat → List SVal → Option Res) (k : Nat) (x0 : SVal) : Option Res :=
  (T 116 [x0]).bind fun r1 =>
  (T 150 [(.sl 1 true false r1.r.xs)]).bind fun r2 =>
  some { r := (.sl 1 false false ((r2.outs.headD .undef).xs)) }
theorem r129 (T : Nat → List SVal → Option Res) (k : Nat) (x0 : SVal) : bodyE P H T k 129 [x0] = R129 T k x0 := by kernel_rfl
noncomputable def D129 (T : Nat → List SVal → Option Res) (k : Nat) : List SVal → Option Res
  | [x0] => R129 T k x0
  | a => bodyE P H T k 129 a
theorem d129 (T : Nat → List SVal → Option Res) (k : Nat) (a : List SVal) : D129 T k a = bodyE P H T k 129 a := by
  unfold D129
  split
  · exact (r129 ..).symm
  · rfl
theorem t129 (k : Nat) (x0 : SVal) : T (k + 1) 129 [x0] = R129 (T k) k x0 := (by kernel_rfl : T (k + 1) 129 [x0] = bodyE P H (T k) k 129 [x0]).trans (r129 ..)
/-- slices.Values[[]int,int] -/
def R130 (T : Nat → List SVal → Option Res) (k : Nat) (x0 : SVal) : Option Res :=
  if (oneS x0) = true then
  some { r := (.fn 151 [(.rp [x0])]) }
  else none
theorem r130 (T : Nat → List SVal → Option Res) (k : Nat) (x0 : SVal) : bodyE P H T k 130 [x0] = R130 T k x0 := by kernel_rfl
noncomputable def D130 (T : Nat → List SVal → Option Res) (k : Nat) : List SVal → Option Res
  | [x0] => R130 T k x0
  | a => bodyE P H T k 130 a
theorem d130 (T : Nat → List SVal → Option Res) (k : Nat) (a : List SVal) : D130 T k a = bodyE P H T k 130 a := by
  unfold D130
  split
  · exact (r130 ..).symm
  · rfl
theorem t130 (k : Nat) (x0 : SVal) : T (k + 1) 130 [x0] = R130 (T k) k x0 := (by kernel_rfl : T (k + 1) 130 [x0] = bodyE P H (T k) k 130 [x0]).trans (r130 ..)
/-- slices.Equal[[]int,int] -/
def R132 (T : Nat → List SVal → Option Res) (k : Nat) (x0 : SVal) (x1 : SVal) : Option Res :=
  (sLen x0).bind fun r1 =>
  (sLen x1).bind fun r2 =>
  (sBin .neq r1 r2).bind fun r3 =>
  pickC r3
  (some { r := (.bool false) })
  ((sLen x0).bind fun r4 =>
   loopN (fun s5 next5 =>
    (sBin .lss s5.k3 s5.k2).bind fun r6 =>
    pickC r6
    ((sIdx false 1 s5.k0 s5.k3).bind fun e7 =>
     (sIdx false 1 s5.k1 s5.k3).bind fun e8 =>
     (sBin .neq e7 e8).bind fun r9 =>
     pickC r9
     (some { r := (.bool false) })
     ((sBin .add s5.k3 (.int .i64 1)).bind fun r10 =>
      next5 ⟨[(weak s5.k0), (weak s5.k1), s5.k2, r10], [], false⟩))
    (some { r := (.bool true) })) k ⟨[(weak x0), (weak x1), r4, (.int .i64 0)], [], false⟩)
theorem r132 (T : Nat → List SVal → Option Res) (k : Nat) (x0 : SVal) (x1 : SVal) : bodyE P H T k 132 [x0, x1] = R132 T k x0 x1 := by kernel_rfl
noncomputable def D132 (T : Nat → List SVal → Option Res) (k : Nat) : List SVal → Option Res
  | [x0, x1] => R132 T k x0 x1
  | a => bodyE P H T k 132 a
theorem d132 (T : Nat → List SVal → Option Res) (k : Nat) (a : List SVal) : D132 T k a = bodyE P H T k 132 a := by
  unfold D132
  split
  · exact (r132 ..).symm
  · rfl
theorem t132 (k : Nat) (x0 : SVal) (x1 : SVal) : T (k + 1) 132 [x0, x1] = R132 (T k) k x0 x1 := (by kernel_rfl : T (k + 1) 132 [x0, x1] = bodyE P H (T k) k 132 [x0, x1]).trans (r132 ..)
/-- slices.IndexFunc[[]func() bool,func() bool] -/
def R133 (T : Nat → List SVal → Option Res) (k : Nat) (x0 : SVal) (x1 : SVal) : Option Res :=
  (sLen x0).bind fun r1 =>
  loopN (fun s2 next2 =>
   (sBin .lss s2.k3 s2.k2).bind fun r3 =>
   pickC r3
   ((sIdx false 1 s2.k0 s2.k3).bind fun e4 =>
    (callV H T s2.k1 [e4]).bind fun y5 =>
    pickC y5
    (some { r := s2.k3 })
    ((sBin .add s2.k3 (.int .i64 1)).bind fun r6 =>
     next2 ⟨[(weak s2.k0), s2.k1, s2.k2, r6], [], false⟩))
   (some { r := (.int .i64 (-1)) })) k ⟨[(weak x0), x1, r1, (.int .i64 0)], [], false⟩
theorem r133 (T : Nat → List SVal → Option Res) (k : Nat) (x0 : SVal) (x1 : SVal) : bodyE P H T k 133 [x0, x1] = R133 T k x0 x1 := by kernel_rfl
noncomputable def D133 (T : Nat → List SVal → Option Res) (k : Nat) : List SVal → Option Res
  | [x0, x1] => R133 T k x0 x1
  | a => bodyE P H T k 133 a
theorem d133 (T : Nat → List SVal → Option Res) (k : Nat) (a : List SVal) : D133 T k a = bodyE P H T k 133 a := by
  unfold D133
  split
  · exact (r133 ..).symm
  · rfl
theorem t133 (k : Nat) (x0 : SVal) (x1 : SVal) : T (k + 1) 133 [x0, x1] = R133 (T k) k x0 x1 := (by kernel_rfl : T (k + 1) 133 [x0, x1] = bodyE P H (T k) k 133 [x0, x1]).trans (r133 ..)
/-- limelight/render.Is -/
def R134 (T : Nat → List SVal → Option Res) (k : Nat) (x0a : SVal) (x0b : SVal) (x0c : SVal) (x0d : SVal) (x0e : SVal) (x1 : SVal) : Option Res :=
  ((T 154 [(.agg [(weak x0a), (weak x0b), (weak x0c), (weak x0d), (weak x0e)]), x1]).bind fun r1 =>
   (sNot r1.r).bind fun r2 =>
   guardX r2 false
   ((T 155 [(weak x0a), x1]).bind fun r3 =>
    (sNot r3.r).bind fun r4 =>
    (asB r4).bind fun b5 =>
    some [b5])
   (some [true])
   (none)).bind fun vs6 =>
  pickC (.bool (vs6.getD 0 false))
  (some { r := (.bool false) })
  ((T 94 [(weak x0a), x1]).bind fun r7 =>
   (T 156 [(weak r7.r), (.fn 157 [(.rp [x0a, x0b, x0c, x0d, x0e])])]).bind fun r8 =>
   (sNot r8.r).bind fun r9 =>
   some { r := r9 })
theorem r134 (T : Nat → List SVal → Option Res) (k : Nat) (x0a : SVal) (x0b : SVal) (x0c : SVal) (x0d : SVal) (x0e : SVal) (x1 : SVal) : bodyE P H T k 134 [(.agg [x0a, x0b, x0c, x0d, x0e]), x1] = R134 T k x0a x0b x0c x0d x0e x1 := by kernel_rfl
noncomputable def D134 (T : Nat → List SVal → Option Res) (k : Nat) : List SVal → Option Res
  | [(.agg [x0a, x0b, x0c, x0d, x0e]), x1] => R134 T k x0a x0b x0c x0d x0e x1
  | a => bodyE P H T k 134 a
theorem d134 (T : Nat → List SVal → Option Res) (k : Nat) (a : List SVal) : D134 T k a = bodyE P H T k 134 a := by
  unfold D134
  split
  · exact (r134 ..).symm
  · rfl
theorem t134 (k : Nat) (x0a : SVal) (x0b : SVal) (x0c : SVal) (x0d : SVal) (x0e : SVal) (x1 : SVal) : T (k + 1) 134 [(.agg [x0a, x0b, x0c, x0d, x0e]), x1] = R134 (T k) k x0a x0b x0c x0d x0e x1 := (by kernel_rfl : T (k + 1) 134 [(.agg [x0a, x0b, x0c, x0d, x0e]), x1] = bodyE P H (T k) k 134 [(.agg [x0a, x0b, x0c, x0d, x0e]), x1]).trans (r134 ..)
/-- limelight/inert.Is -/
def R135 (T : Nat → List SVal → Option Res) (k : Nat) (x0a : SVal) (x0b : SVal) (x0c : SVal) (x0d : SVal) (x0e : SVal) (x1 : SVal) : Option Res :=
  ((T 159 [(.agg [(weak x0a), (weak x0b), (weak x0c), (weak x0d), (weak x0e)]), x1]).bind fun r1 =>
   guardX r1.r true
   ((T 160 [(.agg [(weak x0a), (weak x0b), (weak x0c), (weak x0d), (weak x0e)]), x1]).bind fun r2 =>
    guardX r2.r false
    ((T 161 [(.agg [(weak x0a), (weak x0b), (weak x0c), (weak x0d), (weak x0e)]), x1]).bind fun r3 =>
     (asB r3.r).bind fun b4 =>
     some [b4])
    (some [true])
    (none))
   (some [false])
   (none)).bind fun vs5 =>
  some { r := (.bool (vs5.getD 0 false)) }
theorem r135 (T : Nat → List SVal → Option Res) (k : Nat) (x0a : SVal) (x0b : SVal) (x0c : SVal) (x0d : SVal) (x0e : SVal) (x1 : SVal) : bodyE P H T k 135 [(.agg [x0a, x0b, x0c, x0d, x0e]), x1] = R135 T k x0a x0b x0c x0d x0e x1 := by kernel_rfl
noncomputable def D135 (T : Nat → List SVal → Option Res) (k : Nat) : List SVal → Option Res
  | [(.agg [x0a, x0b, x0c, x0d, x0e]), x1] => R135 T k x0a x0b x0c x0d x0e x1
  | a => bodyE P H T k 135 a
theorem d135 (T : Nat → List SVal → Option Res) (k : Nat) (a : List SVal) : D135 T k a = bodyE P H T k 135 a := by
  unfold D135
  split
  · exact (r135 ..).symm
  · rfl
theorem t135 (k : Nat) (x0a : SVal) (x0b : SVal) (x0c : SVal) (x0d : SVal) (x0e : SVal) (x1 : SVal) : T (k + 1) 135 [(.agg [x0a, x0b, x0c, x0d, x0e]), x1] = R135 (T k) k x0a x0b x0c x0d x0e x1 := (by kernel_rfl : T (k + 1) 135 [(.agg [x0a, x0b, x0c, x0d, x0e]), x1] = bodyE P H (T k) k 135 [(.agg [x0a, x0b, x0c, x0d, x0e]), x1]).trans (r135 ..)
/-- limelight/limelightref04.Above -/
def R136 (T : Nat → List SVal → Option Res) (k : Nat) (x0 : SVal) (x1 : SVal) (x2 : SVal) : Option Res :=
  (T 162 [(weak x0), x2]).bind fun r1 =>
  (T 30 [(weak r1.r), x1]).bind fun r2 =>
  if isSc1 r2.r = true then
  some { r := r2.r }
  else none
theorem r136 (T : Nat → List SVal → Option Res) (k : Nat) (x0 : SVal) (x1 : SVal) (x2 : SVal) : bodyE P H T k 136 [x0, x1, x2] = R136 T k x0 x1 x2 := by kernel_rfl
noncomputable def D136 (T : Nat → List SVal → Option Res) (k : Nat) : List SVal → Option Res
  | [x0, x1, x2] => R136 T k x0 x1 x2
  | a => bodyE P H T k 136 a
theorem d136 (T : Nat → List SVal → Option Res) (k : Nat) (a : List SVal) : D136 T k a = bodyE P H T k 136 a := by
  unfold D136
  split
  · exact (r136 ..).symm
  · rfl
theorem t136 (k : Nat) (x0 : SVal) (x1 : SVal) (x2 : SVal) : T (k + 1) 136 [x0, x1, x2] = R136 (T k) k x0 x1 x2 := (by kernel_rfl : T (k + 1) 136 [x0, x1, x2] = bodyE P H (T k) k 136 [x0, x1, x2]).trans (r136 ..)
/-- limelight/limelightref01.value -/
def R137 (T : Nat → List SVal → Option Res) (k : Nat) (x0 : SVal) (x1 : SVal) : Option Res :=
  (sBin .eql x0 (.int .i64 0)).bind fun r1 =>
  pickC r1
  (((sBin .geq x1 (.int .i64 (-2147483648))).bind fun r2 =>
    guardX r2 true
    ((sBin .lss x1 (.int .i64 2147483648)).bind fun r3 =>
     (asB r3).bind fun b4 =>
     some [b4])
    (some [false])
    (none)).bind fun vs5 =>
   some { r := (.bool (vs5.getD 0 false)) })
  ((sBin .eql x0 (.int .i64 4)).bind fun r6 =>
   pickC r6
   (((sBin .geq x1 (.int .i64 0)).bind fun r7 =>
     guardX r7 true
     ((sBin .lss x1 (.int .i64 2147483648)).bind fun r8 =>
      (asB r8).bind fun b9 =>
      some [b9])
     (some [false])
     (none)).bind fun vs10 =>
    some { r := (.bool (vs10.getD 0 false)) })
   ((sBin .eql x0 (.int .i64 6)).bind fun r11 =>
    pickC r11
    (((sBin .geq x1 (.int .i64 1)).bind fun r12 =>
      guardX r12 true
      ((sBin .leq x1 (.int .i64 3)).bind fun r13 =>
       (asB r13).bind fun b14 =>
       some [b14])
      (some [false])
      (none)).bind fun vs15 =>
     some { r := (.bool (vs15.getD 0 false)) })
    ((sBin .eql x0 (.int .i64 9)).bind fun r16 =>
     pickC r16
     (((sBin .geq x1 (.int .i64 0)).bind fun r17 =>
       guardX r17 true
       ((sBin .leq x1 (.int .i64 63)).bind fun r18 =>
        (asB r18).bind fun b19 =>
        some [b19])
       (some [false])
       (none)).bind fun vs20 =>
      some { r := (.bool (vs20.getD 0 false)) })
     ((sBin .eql x1 (.int .i64 0)).bind fun r21 =>
      some { r := r21 }))))
theorem r137 (T : Nat → List SVal → Option Res) (k : Nat) (x0 : SVal) (x1 : SVal) : bodyE P H T k 137 [x0, x1] = R137 T k x0 x1 := by kernel_rfl
noncomputable def D137 (T : Nat → List SVal → Option Res) (k : Nat) : List SVal → Option Res
  | [x0, x1] => R137 T k x0 x1
  | a => bodyE P H T k 137 a
theorem d137 (T : Nat → List SVal → Option Res) (k : Nat) (a : List SVal) : D137 T k a = bodyE P H T k 137 a := by
  unfold D137
  split
  · exact (r137 ..).symm
  · rfl
theorem t137 (k : Nat) (x0 : SVal) (x1 : SVal) : T (k + 1) 137 [x0, x1] = R137 (T k) k x0 x1 := (by kernel_rfl : T (k + 1) 137 [x0, x1] = bodyE P H (T k) k 137 [x0, x1]).trans (r137 ..)
/-- limelight/order.Top -/
def R138 (T : Nat → List SVal → Option Res) (k : Nat) (x0 : SVal) (x1 : SVal) : Option Res :=
  if (List.all [[.v x1]] allOne) = true then
  (T 163 [(weak x0), (.sl 1 false false [x1])]).bind fun r1 =>
  pickC r1.r
  ((T 164 [(weak x0), x1]).bind fun r2 =>
   (callIt T r2.r).bind fun ys3 =>
   rangeN (fun s4 y4 next4 =>
    (notTup y4).bind fun z5 =>
    if (oneS z5) = true then
    next4 ⟨[(.mb [z5])], [], false⟩
    else none) (fun s6 =>
    some { r := s6.k0.c0 }) ys3 ⟨[(.mb [(.int .i64 (-1))])], [], false⟩)
  (some { r := (.int .i64 (-1)) })
  else none
theorem r138 (T : Nat → List SVal → Option Res) (k : Nat) (x0 : SVal) (x1 : SVal) : bodyE P H T k 138 [x0, x1] = R138 T k x0 x1 := by kernel_rfl
noncomputable def D138 (T : Nat → List SVal → Option Res) (k : Nat) : List SVal → Option Res
  | [x0, x1] => R138 T k x0 x1
  | a => bodyE P H T k 138 a
theorem d138 (T : Nat → List SVal → Option Res) (k : Nat) (a : List SVal) : D138 T k a = bodyE P H T k 138 a := by
  unfold D138
  split
  · exact (r138 ..).symm
  · rfl
theorem t138 (k : Nat) (x0 : SVal) (x1 : SVal) : T (k + 1) 138 [x0, x1] = R138 (T k) k x0 x1 := (by kernel_rfl : T (k + 1) 138 [x0, x1] = bodyE P H (T k) k 138 [x0, x1]).trans (r138 ..)
/-- slices.AppendSeq[[]int,int] -/
def R139 (T : Nat → List SVal → Option Res) (k : Nat) (x0 : List SVal) (x1 : SVal) : Option Res :=
  (callIt T x1).bind fun ys1 =>
  rangeN (fun s2 y2 next2 =>
   (notTup y2).bind fun z3 =>
   if (List.all [[.v z3]] allOne) = true then
   if (s2.k0.c0.xs.length + ([z3] : List SVal).length) * 8 ≤ maxAppend then
   next2 ⟨[(.mb [(.sl 1 true false (s2.k0.c0.xs ++ ([z3] : List SVal)))])], [], false⟩
   else none
   else none) (fun s4 =>
   some { r := (.sl 1 true false s4.k0.c0.xs) }) ys1 ⟨[(.mb [(.sl 1 true false x0)])], [], false⟩
theorem r139 (T : Nat → List SVal → Option Res) (k : Nat) (x0 : List SVal) (x1 : SVal) : bodyE P H T k 139 [(.sl 1 true false x0), x1] = R139 T k x0 x1 := by kernel_rfl
noncomputable def D139 (T : Nat → List SVal → Option Res) (k : Nat) : List SVal → Option Res
  | [(.sl 1 true false x0), x1] => R139 T k x0 x1
  | a => bodyE P H T k 139 a
theorem d139 (T : Nat → List SVal → Option Res) (k : Nat) (a : List SVal) : D139 T k a = bodyE P H T k 139 a := by
  unfold D139
  split
  · exact (r139 ..).symm
  · rfl
theorem t139 (k : Nat) (x0 : List SVal) (x1 : SVal) : T (k + 1) 139 [(.sl 1 true false x0), x1] = R139 (T k) k x0 x1 := (by kernel_rfl : T (k + 1) 139 [(.sl 1 true false x0), x1] = bodyE P H (T k) k 139 [(.sl 1 true false x0), x1]).trans (r139 ..)
/-- limelight/flat.up$1 -/
def R140 (T : Nat → List SVal → Option Res) (k : Nat) (x1 : SVal) (x2 : SVal) : Option Res :=
  loopN (fun s1 next1 =>
   (sBin .neq (SVal.cell s1.k1 0) (.int .i64 (-1))).bind fun r2 =>
   guardX r2 true
   (if (s1.stop) = true then none else
    (notTup (SVal.cell s1.k1 0)).bind fun y3 =>
    both
    ((T 141 [(weak (SVal.cell s1.k2 0)), (SVal.cell s1.k1 0)]).bind fun r4 =>
     if (oneS r4.r) = true then
     next1 ⟨[.yld, (.mb [r4.r]), (.rp [(SVal.cell s1.k2 0)])], (s1.out ++ [y3]), s1.stop⟩
     else none)
    (some { r := (.tup []) }))
   (if (s1.stop) = true then
    some { r := (.tup []) }
    else
    some { r := (.tup []), out := s1.out })
   (none)) k ⟨[.yld, (.mb [x1]), (.rp [x2])], [], false⟩
theorem r140 (T : Nat → List SVal → Option Res) (k : Nat) (x1 : SVal) (x2 : SVal) : bodyE P H T k 140 [.yld, (.mb [x1]), (.rp [x2])] = R140 T k x1 x2 := by kernel_rfl
noncomputable def D140 (T : Nat → List SVal → Option Res) (k : Nat) : List SVal → Option Res
  | [.yld, (.mb [x1]), (.rp [x2])] => R140 T k x1 x2
  | a => bodyE P H T k 140 a
theorem d140 (T : Nat → List SVal → Option Res) (k : Nat) (a : List SVal) : D140 T k a = bodyE P H T k 140 a := by
  unfold D140
  split
  · exact (r140 ..).symm
  · rfl
theorem t140 (k : Nat) (x1 : SVal) (x2 : SVal) : T (k + 1) 140 [.yld, (.mb [x1]), (.rp [x2])] = R140 (T k) k x1 x2 := (by kernel_rfl : T (k + 1) 140 [.yld, (.mb [x1]), (.rp [x2])] = bodyE P H (T k) k 140 [.yld, (.mb [x1]), (.rp [x2])]).trans (r140 ..)
/-- limelight/flat.Parent -/
def R141 (T : Nat → List SVal → Option Res) (k : Nat) (x0 : SVal) (x1 : SVal) : Option Res :=
  (T 115 [(weak x0), x1]).bind fun r1 =>
  (sNot r1.r).bind fun r2 =>
  pickC r2
  (some { r := (.int .i64 (-1)) })
  ((T 165 [(weak x0), x1]).bind fun r3 =>
   ((sBin .neq r3.r (.int .i64 (-1))).bind fun r4 =>
    guardX r4 true
    ((T 166 [(weak x0), r3.r]).bind fun r5 =>
     (T 63 [(weak r5.r), x1]).bind fun r6 =>
     (asB r6.r).bind fun b7 =>
     some [b7])
    (some [false])
    (none)).bind fun vs8 =>
   pickC (.bool (vs8.getD 0 false))
   (some { r := r3.r })
   (some { r := (.int .i64 (-1)) }))
theorem r141 (T : Nat → List SVal → Option Res) (k : Nat) (x0 : SVal) (x1 : SVal) : bodyE P H T k 141 [x0, x1] = R141 T k x0 x1 := by kernel_rfl
noncomputable def D141 (T : Nat → List SVal → Option Res) (k : Nat) : List SVal → Option Res
  | [x0, x1] => R141 T k x0 x1
  | a => bodyE P H T k 141 a
theorem d141 (T : Nat → List SVal → Option Res) (k : Nat) (a : List SVal) : D141 T k a = bodyE P H T k 141 a := by
  unfold D141
  split
  · exact (r141 ..).symm
  · rfl
theorem t141 (k : Nat) (x0 : SVal) (x1 : SVal) : T (k + 1) 141 [x0, x1] = R141 (T k) k x0 x1 := (by kernel_rfl : T (k + 1) 141 [x0, x1] = bodyE P H (T k) k 141 [x0, x1]).trans (r141 ..)
/-- limelight/limelightref05.Assigned -/
def R142 (T : Nat → List SVal → Option Res) (k : Nat) (x0 : SVal) (x1 : SVal) : Option Res :=
  (T 167 [(weak x0), x1]).bind fun r1 =>
  (sNot r1.r).bind fun r2 =>
  pickC r2
  (some { r := (.sl 1 false false []) })
  ((T 168 [(weak x0), x1]).bind fun r3 =>
   (sIdx true 7 x0 r3.r).bind fun e4 =>
   loopN (fun s5 next5 =>
    (sIdx true 7 s5.k0 s5.k3).bind fun e6 =>
    (sLen (SVal.cell e6 3)).bind fun r7 =>
    (sBin .lss s5.k4 r7).bind fun r8 =>
    pickC r8
    ((sIdx true 7 s5.k0 s5.k3).bind fun e9 =>
     (sIdx false 1 (SVal.cell e9 3) s5.k4).bind fun e10 =>
     (T 169 [(weak s5.k0), e10]).bind fun r11 =>
     (sBin .eql r11.r s5.k1).bind fun r12 =>
     pickC r12
     ((sIdx true 7 s5.k0 s5.k3).bind fun e13 =>
      (sIdx false 1 (SVal.cell e13 3) s5.k4).bind fun e14 =>
      if (List.all [[.v e14]] allOne) = true then
      if (s5.k2.xs.length + ([e14] : List SVal).length) * 8 ≤ maxAppend then
      (sBin .add s5.k4 (.int .i64 1)).bind fun r15 =>
      next5 ⟨[(weak s5.k0), s5.k1, (.sl 1 true false (s5.k2.xs ++ ([e14] : List SVal))), s5.k3, r15], [], false⟩
      else none
      else none)
     ((sBin .add s5.k4 (.int .i64 1)).bind fun r16 =>
      next5 ⟨[(weak s5.k0), s5.k1, (.sl 1 true false s5.k2.xs), s5.k3, r16], [], false⟩))
    (some { r := (.sl 1 false false s5.k2.xs) })) k ⟨[(weak x0), x1, (.sl 1 true false []), (SVal.cell e4 4), (.int .i64 0)], [], false⟩)
theorem r142 (T : Nat → List SVal → Option Res) (k : Nat) (x0 : SVal) (x1 : SVal) : bodyE P H T k 142 [x0, x1] = R142 T k x0 x1 := by kernel_rfl
noncomputable def D142 (T : Nat → List SVal → Option Res) (k : Nat) : List SVal → Option Res
  | [x0, x1] => R142 T k x0 x1
  | a => bodyE P H T k 142 a
theorem d142 (T : Nat → List SVal → Option Res) (k : Nat) (a : List SVal) : D142 T k a = bodyE P H T k 142 a := by
  unfold D142
  split
  · exact (r142 ..).symm
  · rfl
theorem t142 (k : Nat) (x0 : SVal) (x1 : SVal) : T (k + 1) 142 [x0, x1] = R142 (T k) k x0 x1 := (by kernel_rfl : T (k + 1) 142 [x0, x1] = bodyE P H (T k) k 142 [x0, x1]).trans (r142 ..)
/-- limelight/tree.in -/
def R143 (T : Nat → List SVal → Option Res) (k : Nat) (x0 : SVal) (x1 : SVal) (x2 : SVal) : Option Res :=
  ((sBin .geq x0 x1).bind fun r1 =>
   guardX r1 true
   ((sBin .leq x0 x2).bind fun r2 =>
    (asB r2).bind fun b3 =>
    some [b3])
   (some [false])
   (none)).bind fun vs4 =>
  some { r := (.bool (vs4.getD 0 false)) }
theorem r143 (T : Nat → List SVal → Option Res) (k : Nat) (x0 : SVal) (x1 : SVal) (x2 : SVal) : bodyE P H T k 143 [x0, x1, x2] = R143 T k x0 x1 x2 := by kernel_rfl
noncomputable def D143 (T : Nat → List SVal → Option Res) (k : Nat) : List SVal → Option Res
  | [x0, x1, x2] => R143 T k x0 x1 x2
  | a => bodyE P H T k 143 a
theorem d143 (T : Nat → List SVal → Option Res) (k : Nat) (a : List SVal) : D143 T k a = bodyE P H T k 143 a := by
  unfold D143
  split
  · exact (r143 ..).symm
  · rfl
theorem t143 (k : Nat) (x0 : SVal) (x1 : SVal) (x2 : SVal) : T (k + 1) 143 [x0, x1, x2] = R143 (T k) k x0 x1 x2 := (by kernel_rfl : T (k + 1) 143 [x0, x1, x2] = bodyE P H (T k) k 143 [x0, x1, x2]).trans (r143 ..)
/-- limelight/tree.node -/
def R144 (T : Nat → List SVal → Option Res) (k : Nat) (x0 : SVal) (x1 : SVal) : Option Res :=
  if (oneS x0) = true then
  if (oneS x1) = true then
  (sIdx true 7 x0 x1).bind fun e1 =>
  if (allOne [.v (SVal.cell e1 0), .v (SVal.cell e1 1), .v (SVal.cell e1 2), .v (SVal.cell e1 3), .v (SVal.cell e1 4), .v (SVal.cell e1 5), .v (SVal.cell e1 6)]) = true then
  ((T 143 [(SVal.cell e1 0), (.int .i64 0), (.int .i64 3)]).bind fun r2 =>
   (sNot r2.r).bind fun r3 =>
   guardX r3 false
   ((sBin .eql (SVal.cell e1 0) (.int .i64 0)).bind fun r4 =>
    (sBin .eql x1 (.int .i64 0)).bind fun r5 =>
    (sBinB .neq r4 r5).bind fun r6 =>
    (asB r6).bind fun b7 =>
    some [b7])
   (some [true])
   (none)).bind fun vs8 =>
  pickC (.bool (vs8.getD 0 false))
  (some { r := (.bool false) })
  (((sBin .eql (SVal.cell e1 0) (.int .i64 1)).bind fun r9 =>
    guardX r9 true
    ((T 143 [(SVal.cell e1 1), (.int .i64 0), (.int .i64 4)]).bind fun r10 =>
     (sNot r10.r).bind fun r11 =>
     guardX r11 false
     ((sBin .neq (SVal.cell e1 0) (.int .i64 1)).bind fun r12 =>
      guardX r12 true
      ((sBin .neq (SVal.cell e1 1) (.int .i64 0)).bind fun r13 =>
       (asB r13).bind fun b14 =>
       some [b14])
      (some [false])
      (none))
     (some [true])
     (none))
    ((sBin .neq (SVal.cell e1 0) (.int .i64 1)).bind fun r15 =>
     guardX r15 true
     ((sBin .neq (SVal.cell e1 1) (.int .i64 0)).bind fun r16 =>
      (asB r16).bind fun b17 =>
      some [b17])
     (some [false])
     (none))
    (none)).bind fun vs18 =>
   pickC (.bool (vs18.getD 0 false))
   (some { r := (.bool false) })
   (((sBin .eql (SVal.cell e1 0) (.int .i64 2)).bind fun r19 =>
     guardX r19 true
     ((sLen (SVal.cell e1 3)).bind fun r20 =>
      (sBin .gtr r20 (.int .i64 0)).bind fun r21 =>
      (asB r21).bind fun b22 =>
      some [b22])
     (some [false])
     (none)).bind fun vs23 =>
    pickC (.bool (vs23.getD 0 false))
    (some { r := (.bool false) })
    (((sBin .neq (SVal.cell e1 2) (.int .i64 (-1))).bind fun r24 =>
      guardX r24 true
      ((T 170 [(weak x0), (SVal.cell e1 2)]).bind fun r25 =>
       (sNot r25.r).bind fun r26 =>
       guardX r26 false
       ((sIdx true 7 x0 (SVal.cell e1 2)).bind fun e27 =>
        (T 171 [(weak (SVal.cell e27 3)), x1]).bind fun r28 =>
        (sNot r28.r).bind fun r29 =>
        (asB r29).bind fun b30 =>
        some [b30])
       (some [true])
       (none))
      (some [false])
      (none)).bind fun vs31 =>
     pickC (.bool (vs31.getD 0 false))
     (some { r := (.bool false) })
     (((T 172 [(.agg [(SVal.cell e1 0), (SVal.cell e1 1), (SVal.cell e1 2), (weak (SVal.cell e1 3)), (SVal.cell e1 4), (SVal.cell e1 5), (weak (SVal.cell e1 6))])]).bind fun r32 =>
       guardX r32.r true
       ((T 173 [(weak x0), x1]).bind fun r33 =>
        guardX r33.r true
        ((T 156 [(weak (SVal.cell e1 3)), (.fn 174 [(.rp [x0]), (.rp [x1])])]).bind fun r34 =>
         (sNot r34.r).bind fun r35 =>
         (asB r35).bind fun b36 =>
         some [b36])
        (some [false])
        (none))
       (some [false])
       (none)).bind fun vs37 =>
      some { r := (.bool (vs37.getD 0 false)) }))))
  else none
  else none
  else none
theorem r144 (T : Nat → List SVal → Option Res) (k : Nat) (x0 : SVal) (x1 : SVal) : bodyE P H T k 144 [x0, x1] = R144 T k x0 x1 := by kernel_rfl
noncomputable def D144 (T : Nat → List SVal → Option Res) (k : Nat) : List SVal → Option Res
  | [x0, x1] => R144 T k x0 x1
  | a => bodyE P H T k 144 a
theorem d144 (T : Nat → List SVal → Option Res) (k : Nat) (a : List SVal) : D144 T k a = bodyE P H T k 144 a := by
  unfold D144
  split
  · exact (r144 ..).symm
  · rfl
theorem t144 (k : Nat) (x0 : SVal) (x1 : SVal) : T (k + 1) 144 [x0, x1] = R144 (T k) k x0 x1 := (by kernel_rfl : T (k + 1) 144 [x0, x1] = bodyE P H (T k) k 144 [x0, x1]).trans (r144 ..)
/-- limelight/tree.turns -/
def R145 (T : Nat → List SVal → Option Res) (k : Nat) (x0 : SVal) (x1 : SVal) : Option Res :=
  (T 176 [(weak x0), x1]).bind fun r1 =>
  (callIt T r1.r).bind fun ys2 =>
  rangeN (fun s3 y3 next3 =>
   (notTup y3).bind fun z4 =>
   (sBin .add s3.k1.c0 (.int .i64 1)).bind fun r5 =>
   if (oneS r5) = true then
   next3 ⟨[(weak s3.k0), (.mb [r5])], [], false⟩
   else none) (fun s6 =>
   (sLen s6.k0).bind fun r7 =>
   (sBin .gtr s6.k1.c0 r7).bind fun r8 =>
   some { r := r8 }) ys2 ⟨[(weak x0), (.mb [(.int .i64 0)])], [], false⟩
theorem r145 (T : Nat → List SVal → Option Res) (k : Nat) (x0 : SVal) (x1 : SVal) : bodyE P H T k 145 [x0, x1] = R145 T k x0 x1 := by kernel_rfl
noncomputable def D145 (T : Nat → List SVal → Option Res) (k : Nat) : List SVal → Option Res
  | [x0, x1] => R145 T k x0 x1
  | a => bodyE P H T k 145 a
theorem d145 (T : Nat → List SVal → Option Res) (k : Nat) (a : List SVal) : D145 T k a = bodyE P H T k 145 a := by
  unfold D145
  split
  · exact (r145 ..).symm
  · rfl
theorem t145 (k : Nat) (x0 : SVal) (x1 : SVal) : T (k + 1) 145 [x0, x1] = R145 (T k) k x0 x1 := (by kernel_rfl : T (k + 1) 145 [x0, x1] = bodyE P H (T k) k 145 [x0, x1]).trans (r145 ..)
/-- slices.Grow[[]int,int] -/
noncomputable def R146 (T : Nat → List SVal → Option Res) (k : Nat) (x1 : SVal) : Option Res :=
  (sBin .lss x1 (.int .i64 0)).bind fun r1 =>
  pickC r1
  (none)
  ((sBin .sub (.int .i64 0) (.int .i64 0)).bind fun r2 =>
   (sBin .sub x1 r2).bind fun r3 =>
   (sBin .gtr r3 (.int .i64 0)).bind fun r4 =>
   pickC r4
   ((sSlice 1 (.sl 1 false true []) none (some (.int .i64 0))).bind fun r5 =>
    (elemsM P 24 3 (.v r5) r3).bind fun ys6 =>
    if isNilS r5 = true then
    if ys6.length * 8 ≤ maxAppend then
    (sBnd ys6.length (.int .i64 0)).bind fun n7 =>
    some { r := (.sl 1 true false (ys6.take n7)) }
    else none
    else none)
   (some { r := (.sl 1 true false []) }))
theorem r146 (T : Nat → List SVal → Option Res) (k : Nat) (x1 : SVal) : bodyE P H T k 146 [(.sl 1 false true []), x1] = R146 T k x1 := by kernel_rfl
noncomputable def D146 (T : Nat → List SVal → Option Res) (k : Nat) : List SVal → Option Res
  | [(.sl 1 false true []), x1] => R146 T k x1
  | a => bodyE P H T k 146 a
theorem d146 (T : Nat → List SVal → Option Res) (k : Nat) (a : List SVal) : D146 T k a = bodyE P H T k 146 a := by
  unfold D146
  split
  · exact (r146 ..).symm
  · rfl
theorem t146 (k : Nat) (x1 : SVal) : T (k + 1) 146 [(.sl 1 false true []), x1] = R146 (T k) k x1 := (by kernel_rfl : T (k + 1) 146 [(.sl 1 false true []), x1] = bodyE P H (T k) k 146 [(.sl 1 false true []), x1]).trans (r146 ..)
/-- limelight/top.element -/
def R147 (T : Nat → List SVal → Option Res) (k : Nat) (x0 : SVal) (x1 : SVal) : Option Res :=
  ((T 177 [(weak x0), x1]).bind fun r1 =>
   guardX r1.r true
   ((sIdx true 7 x0 x1).bind fun e2 =>
    (sBin .eql (SVal.cell e2 0) (.int .i64 1)).bind fun r3 =>
    (asB r3).bind fun b4 =>
    some [b4])
   (some [false])
   (none)).bind fun vs5 =>
  some { r := (.bool (vs5.getD 0 false)) }
theorem r147 (T : Nat → List SVal → Option Res) (k : Nat) (x0 : SVal) (x1 : SVal) : bodyE P H T k 147 [x0, x1] = R147 T k x0 x1 := by kernel_rfl
noncomputable def D147 (T : Nat → List SVal → Option Res) (k : Nat) : List SVal → Option Res
  | [x0, x1] => R147 T k x0 x1
  | a => bodyE P H T k 147 a
theorem d147 (T : Nat → List SVal → Option Res) (k : Nat) (a : List SVal) : D147 T k a = bodyE P H T k 147 a := by
  unfold D147
  split
  · exact (r147 ..).symm
  · rfl
theorem t147 (k : Nat) (x0 : SVal) (x1 : SVal) : T (k + 1) 147 [x0, x1] = R147 (T k) k x0 x1 := (by kernel_rfl : T (k + 1) 147 [x0, x1] = bodyE P H (T k) k 147 [x0, x1]).trans (r147 ..)
/-- limelight/top.each[limelight/api.Shown,int] -/
def R148 (T : Nat → List SVal → Option Res) (k : Nat) (x0 : SVal) (x1 : SVal) : Option Res :=
  (sLen x0).bind fun r1 =>
  loopN (fun s2 next2 =>
   (sBin .lss s2.k4 s2.k3).bind fun r3 =>
   pickC r3
   ((sIdx true 2 s2.k2 s2.k4).bind fun e4 =>
    if (allOne [.v (SVal.cell e4 0), .v (SVal.cell e4 1)]) = true then
    (callV H T s2.k0 [(.agg [(SVal.cell e4 0), (SVal.cell e4 1)])]).bind fun y5 =>
    if (List.all [[.v y5]] allOne) = true then
    if (s2.k1.xs.length + ([y5] : List SVal).length) * 8 ≤ maxAppend then
    (sBin .add s2.k4 (.int .i64 1)).bind fun r6 =>
    next2 ⟨[s2.k0, (.sl 1 true false (s2.k1.xs ++ ([y5] : List SVal))), (weak s2.k2), s2.k3, r6], [], false⟩
    else none
    else none
    else none)
   (some { r := (.sl 1 false false s2.k1.xs) })) k ⟨[x1, (.sl 1 true false []), (weak x0), r1, (.int .i64 0)], [], false⟩
theorem r148 (T : Nat → List SVal → Option Res) (k : Nat) (x0 : SVal) (x1 : SVal) : bodyE P H T k 148 [x0, x1] = R148 T k x0 x1 := by kernel_rfl
noncomputable def D148 (T : Nat → List SVal → Option Res) (k : Nat) : List SVal → Option Res
  | [x0, x1] => R148 T k x0 x1
  | a => bodyE P H T k 148 a
theorem d148 (T : Nat → List SVal → Option Res) (k : Nat) (a : List SVal) : D148 T k a = bodyE P H T k 148 a := by
  unfold D148
  split
  · exact (r148 ..).symm
  · rfl
theorem t148 (k : Nat) (x0 : SVal) (x1 : SVal) : T (k + 1) 148 [x0, x1] = R148 (T k) k x0 x1 := (by kernel_rfl : T (k + 1) 148 [x0, x1] = bodyE P H (T k) k 148 [x0, x1]).trans (r148 ..)
/-- limelight/top.node -/
def R149 (T : Nat → List SVal → Option Res) (k : Nat) (x0a : SVal) (x0b : SVal) : Option Res :=
  some { r := x0a }
theorem r149 (T : Nat → List SVal → Option Res) (k : Nat) (x0a : SVal) (x0b : SVal) : bodyE P H T k 149 [(.agg [x0a, x0b])] = R149 T k x0a x0b := by kernel_rfl
noncomputable def D149 (T : Nat → List SVal → Option Res) (k : Nat) : List SVal → Option Res
  | [(.agg [x0a, x0b])] => R149 T k x0a x0b
  | a => bodyE P H T k 149 a
theorem d149 (T : Nat → List SVal → Option Res) (k : Nat) (a : List SVal) : D149 T k a = bodyE P H T k 149 a := by
  unfold D149
  split
  · exact (r149 ..).symm
  · rfl
theorem t149 (k : Nat) (x0a : SVal) (x0b : SVal) : T (k + 1) 149 [(.agg [x0a, x0b])] = R149 (T k) k x0a x0b := (by kernel_rfl : T (k + 1) 149 [(.agg [x0a, x0b])] = bodyE P H (T k) k 149 [(.agg [x0a, x0b])]).trans (r149 ..)
/-- slices.Values[[]int,int]$1 -/
def R151 (T : Nat → List SVal → Option Res) (k : Nat) (x1 : SVal) : Option Res :=
  (sLen x1).bind fun r1 =>
  loopN (fun s2 next2 =>
   (sBin .lss s2.k3 s2.k2).bind fun r3 =>
   pickC r3
   ((sIdx false 1 s2.k1 s2.k3).bind fun e4 =>
    if (s2.stop) = true then none else
    (notTup e4).bind fun y5 =>
    both
    ((sBin .add s2.k3 (.int .i64 1)).bind fun r6 =>
     next2 ⟨[.yld, (weak s2.k1), s2.k2, r6], (s2.out ++ [y5]), s2.stop⟩)
    (some { r := (.tup []) }))
   (if (s2.stop) = true then
    some { r := (.tup []) }
    else
    some { r := (.tup []), out := s2.out })) k ⟨[.yld, (weak x1), r1, (.int .i64 0)], [], false⟩
theorem r151 (T : Nat → List SVal → Option Res) (k : Nat) (x1 : SVal) : bodyE P H T k 151 [.yld, (.rp [x1])] = R151 T k x1 := by kernel_rfl
noncomputable def D151 (T : Nat → List SVal → Option Res) (k : Nat) : List SVal → Option Res
  | [.yld, (.rp [x1])] => R151 T k x1
  | a => bodyE P H T k 151 a
theorem d151 (T : Nat → List SVal → Option Res) (k : Nat) (a : List SVal) : D151 T k a = bodyE P H T k 151 a := by
  unfold D151
  split
  · exact (r151 ..).symm
  · rfl
theorem t151 (k : Nat) (x1 : SVal) : T (k + 1) 151 [.yld, (.rp [x1])] = R151 (T k) k x1 := (by kernel_rfl : T (k + 1) 151 [.yld, (.rp [x1])] = bodyE P H (T k) k 151 [.yld, (.rp [x1])]).trans (r151 ..)
/-- limelight/render.may -/
def R154 (T : Nat → List SVal → Option Res) (k : Nat) (x0a : SVal) (x0b : SVal) (x0c : SVal) (x0d : SVal) (x0e : SVal) (x1 : SVal) : Option Res :=
  ((T 71 [(.agg [(weak x0a), (weak x0b), (weak x0c), (weak x0d), (weak x0e)])]).bind fun r1 =>
   (sBin .eql r1.r (.int .i64 0)).bind fun r2 =>
   guardX r2 true
   ((sBin .geq x1 (.int .i64 0)).bind fun r3 =>
    guardX r3 true
    ((sLen x0a).bind fun r4 =>
     (sBin .lss x1 r4).bind fun r5 =>
     (asB r5).bind fun b6 =>
     some [b6])
    (some [false])
    (none))
   (some [false])
   (none)).bind fun vs7 =>
  some { r := (.bool (vs7.getD 0 false)) }
theorem r154 (T : Nat → List SVal → Option Res) (k : Nat) (x0a : SVal) (x0b : SVal) (x0c : SVal) (x0d : SVal) (x0e : SVal) (x1 : SVal) : bodyE P H T k 154 [(.agg [x0a, x0b, x0c, x0d, x0e]), x1] = R154 T k x0a x0b x0c x0d x0e x1 := by kernel_rfl
noncomputable def D154 (T : Nat → List SVal → Option Res) (k : Nat) : List SVal → Option Res
  | [(.agg [x0a, x0b, x0c, x0d, x0e]), x1] => R154 T k x0a x0b x0c x0d x0e x1
  | a => bodyE P H T k 154 a
theorem d154 (T : Nat → List SVal → Option Res) (k : Nat) (a : List SVal) : D154 T k a = bodyE P H T k 154 a := by
  unfold D154
  split
  · exact (r154 ..).symm
  · rfl
theorem t154 (k : Nat) (x0a : SVal) (x0b : SVal) (x0c : SVal) (x0d : SVal) (x0e : SVal) (x1 : SVal) : T (k + 1) 154 [(.agg [x0a, x0b, x0c, x0d, x0e]), x1] = R154 (T k) k x0a x0b x0c x0d x0e x1 := (by kernel_rfl : T (k + 1) 154 [(.agg [x0a, x0b, x0c, x0d, x0e]), x1] = bodyE P H (T k) k 154 [(.agg [x0a, x0b, x0c, x0d, x0e]), x1]).trans (r154 ..)
/-- limelight/flat.Has -/
def R155 (T : Nat → List SVal → Option Res) (k : Nat) (x0 : SVal) (x1 : SVal) : Option Res :=
  (T 59 [(weak x0), (.int .i64 0), x1]).bind fun r1 =>
  some { r := r1.r }
theorem r155 (T : Nat → List SVal → Option Res) (k : Nat) (x0 : SVal) (x1 : SVal) : bodyE P H T k 155 [x0, x1] = R155 T k x0 x1 := by kernel_rfl
noncomputable def D155 (T : Nat → List SVal → Option Res) (k : Nat) : List SVal → Option Res
  | [x0, x1] => R155 T k x0 x1
  | a => bodyE P H T k 155 a
theorem d155 (T : Nat → List SVal → Option Res) (k : Nat) (a : List SVal) : D155 T k a = bodyE P H T k 155 a := by
  unfold D155
  split
  · exact (r155 ..).symm
  · rfl
theorem t155 (k : Nat) (x0 : SVal) (x1 : SVal) : T (k + 1) 155 [x0, x1] = R155 (T k) k x0 x1 := (by kernel_rfl : T (k + 1) 155 [x0, x1] = bodyE P H (T k) k 155 [x0, x1]).trans (r155 ..)
end Go.Proofs.YtcehbmffbmhpfaaGreat.K
