/- What the evaluator makes of the functions, by program (wip/tr/resid.py); each equation is checked by the kernel. -/
import Derived.Test.YtkebikngkeehfaaGreatLmAJ
import Derived.Test.YtkebikngkeehfaaGreatLmAB
import Derived.KernelRfl
set_option linter.unusedVariables false
set_option linter.unusedSimpArgs false
set_option linter.unnecessarySimpa false
set_option linter.all false
set_option maxRecDepth 100000
namespace Go.Proofs.YtkebikngkeehfaaGreat.K
open Go Go.Lm
/-- slices.Equal[[]int,int] -/
def R83 (T : Nat → List SVal → Option Res) (k : Nat) (x0 : SVal) (x1 : SVal) : Option Res :=
  (sLen x0).bind fun r1 =>
  (sLen x1).bind fun r2 =>
  (sBin .neq r1 r2).bind fun r3 =>
  pickC r3
  (some { r := (.bool false) })
  ((sLen x0).bind fun r4 =>
   loopN (fun s5 next5 =>
    (sBin .lss s5.k3 s5.k2).bind fun r6 =>
    pickC r6
    ((sIdx false 1 s5.k0 s5.k3).bind fun e7 =>
     (sIdx false 1 s5.k1 s5.k3).bind fun e8 =>
     (sBin .neq e7 e8).bind fun r9 =>
     pickC r9
     (some { r := (.bool false) })
     ((sBin .add s5.k3 (.int .i64 1)).bind fun r10 =>
      next5 ⟨[(weak s5.k0), (weak s5.k1), s5.k2, r10], [], false⟩))
    (some { r := (.bool true) })) k ⟨[(weak x0), (weak x1), r4, (.int .i64 0)], [], false⟩)
theorem r83 (T : Nat → List SVal → Option Res) (k : Nat) (x0 : SVal) (x1 : SVal) : bodyE P H T k 83 [x0, x1] = R83 T k x0 x1 := by kernel_rfl
noncomputable def D83 (T : Nat → List SVal → Option Res) (k : Nat) : List SVal → Option Res
  | [x0, x1] => R83 T k x0 x1
  | a => bodyE P H T k 83 a
theorem d83 (T : Nat → List SVal → Option Res) (k : Nat) (a : List SVal) : D83 T k a = bodyE P H T k 83 a := by
  unfold D83
  split
  · exact (r83 ..).symm
  · rfl
theorem t83 (k : Nat) (x0 : SVal) (x1 : SVal) : T (k + 1) 83 [x0, x1] = R83 (T k) k x0 x1 := (by kernel_rfl : T (k + 1) 83 [x0, x1] = bodyE P H (T k) k 83 [x0, x1]).trans (r83 ..)
/-- slices.Backward[[]int,int]$1 -/
def R84 (T : Nat → List SVal → Option Res) (k : Nat) (x1 : SVal) : Option Res :=
  (sLen x1).bind fun r1 =>
  (sBin .sub r1 (.int .i64 1)).bind fun r2 =>
  loopN (fun s3 next3 =>
   (sBin .geq s3.k2 (.int .i64 0)).bind fun r4 =>
   pickC r4
   ((sIdx false 1 (SVal.cell s3.k1 0) s3.k2).bind fun e5 =>
    if (s3.stop) = true then none else
    both
    ((sBin .sub s3.k2 (.int .i64 1)).bind fun r6 =>
     next3 ⟨[.yld, (.rp [(SVal.cell s3.k1 0)]), r6], (s3.out ++ [(.tup [s3.k2, e5])]), s3.stop⟩)
    (some { r := (.tup []) }))
   (if (s3.stop) = true then
    some { r := (.tup []) }
    else
    some { r := (.tup []), out := s3.out })) k ⟨[.yld, (.rp [x1]), r2], [], false⟩
theorem r84 (T : Nat → List SVal → Option Res) (k : Nat) (x1 : SVal) : bodyE P H T k 84 [.yld, (.rp [x1])] = R84 T k x1 := by kernel_rfl
noncomputable def D84 (T : Nat → List SVal → Option Res) (k : Nat) : List SVal → Option Res
  | [.yld, (.rp [x1])] => R84 T k x1
  | a => bodyE P H T k 84 a
theorem d84 (T : Nat → List SVal → Option Res) (k : Nat) (a : List SVal) : D84 T k a = bodyE P H T k 84 a := by
  unfold D84
  split
  · exact (r84 ..).symm
  · rfl
theorem t84 (k : Nat) (x1 : SVal) : T (k + 1) 84 [.yld, (.rp [x1])] = R84 (T k) k x1 := (by kernel_rfl : T (k + 1) 84 [.yld, (.rp [x1])] = bodyE P H (T k) k 84 [.yld, (.rp [x1])]).trans (r84 ..)
/-- limelight/limelightref01.One -/
def R85 (T : Nat → List SVal → Option Res) (k : Nat) (x0a : SVal) (x0b : SVal) (x0c : SVal) (x0d : SVal) (x0e : SVal) (x0f : SVal) (x0g : SVal) (x1a : SVal) (x1b : SVal) (x1c : SVal) (x1d : SVal) (x1e : SVal) (x1f : SVal) (x1g : SVal) : Option Res :=
  ((sBin .neq x0a x1a).bind fun r1 =>
   guardX r1 false
   ((sBin .neq x0b x1b).bind fun r2 =>
    guardX r2 false
    ((sBin .neq x0c x1c).bind fun r3 =>
     guardX r3 false
     ((sBin .neq x0e x1e).bind fun r4 =>
      guardX r4 false
      ((sBin .neq x0f x1f).bind fun r5 =>
       guardX r5 false
       ((sLen x0g).bind fun r6 =>
        (sLen x1g).bind fun r7 =>
        (sBin .neq r6 r7).bind fun r8 =>
        (asB r8).bind fun b9 =>
        some [b9])
       (some [true])
       (none))
      (some [true])
      (none))
     (some [true])
     (none))
    (some [true])
    (none))
   (some [true])
   (none)).bind fun vs10 =>
  pickC (.bool (vs10.getD 0 false))
  (some { r := (.bool false) })
  (loopN (fun s11 next11 =>
    (sLen (SVal.cell s11.k0 6)).bind fun r12 =>
    (sBin .lss s11.k2 r12).bind fun r13 =>
    pickC r13
    ((sIdx true 2 (SVal.cell s11.k0 6) s11.k2).bind fun e14 =>
     (sIdx true 2 (SVal.cell s11.k1 6) s11.k2).bind fun e15 =>
     (sEqA 2 true [(SVal.cell e14 0), (SVal.cell e14 1)] [(SVal.cell e15 0), (SVal.cell e15 1)]).bind fun r16 =>
     pickC r16
     (some { r := (.bool false) })
     ((sBin .add s11.k2 (.int .i64 1)).bind fun r17 =>
      next11 ⟨[(.rp [(SVal.cell s11.k0 0), (SVal.cell s11.k0 1), (SVal.cell s11.k0 2), (SVal.cell s11.k0 3), (SVal.cell s11.k0 4), (SVal.cell s11.k0 5), (SVal.cell s11.k0 6)]), (.rp [(SVal.cell s11.k1 0), (SVal.cell s11.k1 1), (SVal.cell s11.k1 2), (SVal.cell s11.k1 3), (SVal.cell s11.k1 4), (SVal.cell s11.k1 5), (SVal.cell s11.k1 6)]), r17], [], false⟩))
    ((T 19 [(weak (SVal.cell s11.k0 3)), (weak (SVal.cell s11.k1 3))]).bind fun r18 =>
     some { r := r18.r })) k ⟨[(.rp [x0a, x0b, x0c, x0d, x0e, x0f, x0g]), (.rp [x1a, x1b, x1c, x1d, x1e, x1f, x1g]), (.int .i64 0)], [], false⟩)
theorem r85 (T : Nat → List SVal → Option Res) (k : Nat) (x0a : SVal) (x0b : SVal) (x0c : SVal) (x0d : SVal) (x0e : SVal) (x0f : SVal) (x0g : SVal) (x1a : SVal) (x1b : SVal) (x1c : SVal) (x1d : SVal) (x1e : SVal) (x1f : SVal) (x1g : SVal) : bodyE P H T k 85 [(.agg [x0a, x0b, x0c, x0d, x0e, x0f, x0g]), (.agg [x1a, x1b, x1c, x1d, x1e, x1f, x1g])] = R85 T k x0a x0b x0c x0d x0e x0f x0g x1a x1b x1c x1d x1e x1f x1g := by kernel_rfl
noncomputable def D85 (T : Nat → List SVal → Option Res) (k : Nat) : List SVal → Option Res
  | [(.agg [x0a, x0b, x0c, x0d, x0e, x0f, x0g]), (.agg [x1a, x1b, x1c, x1d, x1e, x1f, x1g])] => R85 T k x0a x0b x0c x0d x0e x0f x0g x1a x1b x1c x1d x1e x1f x1g
  | a => bodyE P H T k 85 a
theorem d85 (T : Nat → List SVal → Option Res) (k : Nat) (a : List SVal) : D85 T k a = bodyE P H T k 85 a := by
  unfold D85
  split
  · exact (r85 ..).symm
  · rfl
theorem t85 (k : Nat) (x0a : SVal) (x0b : SVal) (x0c : SVal) (x0d : SVal) (x0e : SVal) (x0f : SVal) (x0g : SVal) (x1a : SVal) (x1b : SVal) (x1c : SVal) (x1d : SVal) (x1e : SVal) (x1f : SVal) (x1g : SVal) : T (k + 1) 85 [(.agg [x0a, x0b, x0c, x0d, x0e, x0f, x0g]), (.agg [x1a, x1b, x1c, x1d, x1e, x1f, x1g])] = R85 (T k) k x0a x0b x0c x0d x0e x0f x0g x1a x1b x1c x1d x1e x1f x1g := (by kernel_rfl : T (k + 1) 85 [(.agg [x0a, x0b, x0c, x0d, x0e, x0f, x0g]), (.agg [x1a, x1b, x1c, x1d, x1e, x1f, x1g])] = bodyE P H (T k) k 85 [(.agg [x0a, x0b, x0c, x0d, x0e, x0f, x0g]), (.agg [x1a, x1b, x1c, x1d, x1e, x1f, x1g])]).trans (r85 ..)
/-- limelight/limelightref01.Copy -/
def R86 (T : Nat → List SVal → Option Res) (k : Nat) (x0 : SVal) : Option Res :=
  loopN (fun s1 next1 =>
   (sLen s1.k0).bind fun r2 =>
   (sBin .lss s1.k2 r2).bind fun r3 =>
   pickC r3
   ((sIdx true 7 s1.k0 s1.k2).bind fun e4 =>
    if (allOne [.v (SVal.cell e4 0), .v (SVal.cell e4 1), .v (SVal.cell e4 2), .v (SVal.cell e4 3), .v (SVal.cell e4 4), .v (SVal.cell e4 5), .v (SVal.cell e4 6)]) = true then
    (elems 1 (SVal.cell e4 3)).bind fun ys5 =>
    if ys5.length * 8 ≤ maxAppend then
    (elems 2 (SVal.cell e4 6)).bind fun ys6 =>
    if ys6.length * 16 ≤ maxAppend then
    if (List.all [[.v (SVal.cell e4 0), .v (SVal.cell e4 1), .v (SVal.cell e4 2), .la 417 0, .v (SVal.cell e4 4), .v (SVal.cell e4 5), .la 609 0]] allOne) = true then
    if (s1.k1.xs.length + ([(.agg [(SVal.cell e4 0), (SVal.cell e4 1), (SVal.cell e4 2), (.sl 1 false false ys5), (SVal.cell e4 4), (SVal.cell e4 5), (.sl 2 false false ys6)])] : List SVal).length) * 88 ≤ maxAppend then
    (sBin .add s1.k2 (.int .i64 1)).bind fun r7 =>
    next1 ⟨[(weak s1.k0), (.sl 7 true false (s1.k1.xs ++ [(.agg [(SVal.cell e4 0), (SVal.cell e4 1), (SVal.cell e4 2), (.sl 1 false false ys5), (SVal.cell e4 4), (SVal.cell e4 5), (.sl 2 false false ys6)])])), r7], [], false⟩
    else none
    else none
    else none
    else none
    else none)
   (some { r := (.sl 7 true false s1.k1.xs) })) k ⟨[(weak x0), (.sl 7 true false []), (.int .i64 0)], [], false⟩
theorem r86 (T : Nat → List SVal → Option Res) (k : Nat) (x0 : SVal) : bodyE P H T k 86 [x0] = R86 T k x0 := by kernel_rfl
noncomputable def D86 (T : Nat → List SVal → Option Res) (k : Nat) : List SVal → Option Res
  | [x0] => R86 T k x0
  | a => bodyE P H T k 86 a
theorem d86 (T : Nat → List SVal → Option Res) (k : Nat) (a : List SVal) : D86 T k a = bodyE P H T k 86 a := by
  unfold D86
  split
  · exact (r86 ..).symm
  · rfl
theorem t86 (k : Nat) (x0 : SVal) : T (k + 1) 86 [x0] = R86 (T k) k x0 := (by kernel_rfl : T (k + 1) 86 [x0] = bodyE P H (T k) k 86 [x0]).trans (r86 ..)
/-- limelight/limelightref01.Attr -/
def R87 (T : Nat → List SVal → Option Res) (k : Nat) (x0 : SVal) (x1a : SVal) (x1b : SVal) : Option Res :=
  ((sBin .lss x1a (.int .i64 0)).bind fun r1 =>
   guardX r1 false
   ((sBin .gtr x1a (.int .i64 9)).bind fun r2 =>
    guardX r2 false
    ((T 101 [x1a, x1b]).bind fun r3 =>
     (sNot r3.r).bind fun r4 =>
     (asB r4).bind fun b5 =>
     some [b5])
    (some [true])
    (none))
   (some [true])
   (none)).bind fun vs6 =>
  pickC (.bool (vs6.getD 0 false))
  (some { r := (.bool false) })
  ((sBin .eql x0 (.int .i64 3)).bind fun r7 =>
   pickC r7
   (((sBin .eql x1a (.int .i64 7)).bind fun r8 =>
     guardX r8 false
     ((sBin .eql x1a (.int .i64 8)).bind fun r9 =>
      (asB r9).bind fun b10 =>
      some [b10])
     (some [true])
     (none)).bind fun vs11 =>
    some { r := (.bool (vs11.getD 0 false)) })
   (((sBin .eql x0 (.int .i64 1)).bind fun r12 =>
     guardX r12 true
     ((sBin .neq x1a (.int .i64 7)).bind fun r13 =>
      guardX r13 true
      ((sBin .neq x1a (.int .i64 8)).bind fun r14 =>
       (asB r14).bind fun b15 =>
       some [b15])
      (some [false])
      (none))
     (some [false])
     (none)).bind fun vs16 =>
    some { r := (.bool (vs16.getD 0 false)) }))
theorem r87 (T : Nat → List SVal → Option Res) (k : Nat) (x0 : SVal) (x1a : SVal) (x1b : SVal) : bodyE P H T k 87 [x0, (.agg [x1a, x1b])] = R87 T k x0 x1a x1b := by kernel_rfl
noncomputable def D87 (T : Nat → List SVal → Option Res) (k : Nat) : List SVal → Option Res
  | [x0, (.agg [x1a, x1b])] => R87 T k x0 x1a x1b
  | a => bodyE P H T k 87 a
theorem d87 (T : Nat → List SVal → Option Res) (k : Nat) (a : List SVal) : D87 T k a = bodyE P H T k 87 a := by
  unfold D87
  split
  · exact (r87 ..).symm
  · rfl
theorem t87 (k : Nat) (x0 : SVal) (x1a : SVal) (x1b : SVal) : T (k + 1) 87 [x0, (.agg [x1a, x1b])] = R87 (T k) k x0 x1a x1b := (by kernel_rfl : T (k + 1) 87 [x0, (.agg [x1a, x1b])] = bodyE P H (T k) k 87 [x0, (.agg [x1a, x1b])]).trans (r87 ..)
/-- limelight/limelightref01.count -/
def R88 (T : Nat → List SVal → Option Res) (k : Nat) (x0 : SVal) (x1 : SVal) : Option Res :=
  loopN (fun s1 next1 =>
   (sLen s1.k0).bind fun r2 =>
   (sBin .lss s1.k3 r2).bind fun r3 =>
   pickC r3
   ((sIdx false 1 s1.k0 s1.k3).bind fun e4 =>
    (sBin .eql e4 s1.k1).bind fun r5 =>
    pickC r5
    ((sBin .add s1.k2 (.int .i64 1)).bind fun r6 =>
     (sBin .add s1.k3 (.int .i64 1)).bind fun r7 =>
     next1 ⟨[(weak s1.k0), s1.k1, r6, r7], [], false⟩)
    ((sBin .add s1.k3 (.int .i64 1)).bind fun r8 =>
     next1 ⟨[(weak s1.k0), s1.k1, s1.k2, r8], [], false⟩))
   (some { r := s1.k2 })) k ⟨[(weak x0), x1, (.int .i64 0), (.int .i64 0)], [], false⟩
theorem r88 (T : Nat → List SVal → Option Res) (k : Nat) (x0 : SVal) (x1 : SVal) : bodyE P H T k 88 [x0, x1] = R88 T k x0 x1 := by kernel_rfl
noncomputable def D88 (T : Nat → List SVal → Option Res) (k : Nat) : List SVal → Option Res
  | [x0, x1] => R88 T k x0 x1
  | a => bodyE P H T k 88 a
theorem d88 (T : Nat → List SVal → Option Res) (k : Nat) (a : List SVal) : D88 T k a = bodyE P H T k 88 a := by
  unfold D88
  split
  · exact (r88 ..).symm
  · rfl
theorem t88 (k : Nat) (x0 : SVal) (x1 : SVal) : T (k + 1) 88 [x0, x1] = R88 (T k) k x0 x1 := (by kernel_rfl : T (k + 1) 88 [x0, x1] = bodyE P H (T k) k 88 [x0, x1]).trans (r88 ..)
/-- limelight/limelightref01.Up -/
def R89 (T : Nat → List SVal → Option Res) (k : Nat) (x0 : SVal) (x1 : SVal) : Option Res :=
  (sIdx true 7 x0 x1).bind fun e1 =>
  (sBin .eql (SVal.cell e1 0) (.int .i64 3)).bind fun r2 =>
  pickC r2
  ((sIdx true 7 x0 x1).bind fun e3 =>
   some { r := (SVal.cell e3 4) })
  ((sIdx true 7 x0 x1).bind fun e4 =>
   some { r := (SVal.cell e4 2) })
theorem r89 (T : Nat → List SVal → Option Res) (k : Nat) (x0 : SVal) (x1 : SVal) : bodyE P H T k 89 [x0, x1] = R89 T k x0 x1 := by kernel_rfl
noncomputable def D89 (T : Nat → List SVal → Option Res) (k : Nat) : List SVal → Option Res
  | [x0, x1] => R89 T k x0 x1
  | a => bodyE P H T k 89 a
theorem d89 (T : Nat → List SVal → Option Res) (k : Nat) (a : List SVal) : D89 T k a = bodyE P H T k 89 a := by
  unfold D89
  split
  · exact (r89 ..).symm
  · rfl
theorem t89 (k : Nat) (x0 : SVal) (x1 : SVal) : T (k + 1) 89 [x0, x1] = R89 (T k) k x0 x1 := (by kernel_rfl : T (k + 1) 89 [x0, x1] = bodyE P H (T k) k 89 [x0, x1]).trans (r89 ..)
/-- limelight/tree.in -/
def R90 (T : Nat → List SVal → Option Res) (k : Nat) (x0 : SVal) (x1 : SVal) (x2 : SVal) : Option Res :=
  ((sBin .geq x0 x1).bind fun r1 =>
   guardX r1 true
   ((sBin .leq x0 x2).bind fun r2 =>
    (asB r2).bind fun b3 =>
    some [b3])
   (some [false])
   (none)).bind fun vs4 =>
  some { r := (.bool (vs4.getD 0 false)) }
theorem r90 (T : Nat → List SVal → Option Res) (k : Nat) (x0 : SVal) (x1 : SVal) (x2 : SVal) : bodyE P H T k 90 [x0, x1, x2] = R90 T k x0 x1 x2 := by kernel_rfl
noncomputable def D90 (T : Nat → List SVal → Option Res) (k : Nat) : List SVal → Option Res
  | [x0, x1, x2] => R90 T k x0 x1 x2
  | a => bodyE P H T k 90 a
theorem d90 (T : Nat → List SVal → Option Res) (k : Nat) (a : List SVal) : D90 T k a = bodyE P H T k 90 a := by
  unfold D90
  split
  · exact (r90 ..).symm
  · rfl
theorem t90 (k : Nat) (x0 : SVal) (x1 : SVal) (x2 : SVal) : T (k + 1) 90 [x0, x1, x2] = R90 (T k) k x0 x1 x2 := (by kernel_rfl : T (k + 1) 90 [x0, x1, x2] = bodyE P H (T k) k 90 [x0, x1, x2]).trans (r90 ..)
/-- limelight/tree.node -/
def R91 (T : Nat → List SVal → Option Res) (k : Nat) (x0 : SVal) (x1 : SVal) : Option Res :=
  if (oneS x0) = true then
  if (oneS x1) = true then
  (sIdx true 7 x0 x1).bind fun e1 =>
  if (allOne [.v (SVal.cell e1 0), .v (SVal.cell e1 1), .v (SVal.cell e1 2), .v (SVal.cell e1 3), .v (SVal.cell e1 4), .v (SVal.cell e1 5), .v (SVal.cell e1 6)]) = true then
  ((T 90 [(SVal.cell e1 0), (.int .i64 0), (.int .i64 3)]).bind fun r2 =>
   (sNot r2.r).bind fun r3 =>
   guardX r3 false
   ((sBin .eql (SVal.cell e1 0) (.int .i64 0)).bind fun r4 =>
    (sBin .eql x1 (.int .i64 0)).bind fun r5 =>
    (sBinB .neq r4 r5).bind fun r6 =>
    (asB r6).bind fun b7 =>
    some [b7])
   (some [true])
   (none)).bind fun vs8 =>
  pickC (.bool (vs8.getD 0 false))
  (some { r := (.bool false) })
  (((sBin .eql (SVal.cell e1 0) (.int .i64 1)).bind fun r9 =>
    guardX r9 true
    ((T 90 [(SVal.cell e1 1), (.int .i64 0), (.int .i64 4)]).bind fun r10 =>
     (sNot r10.r).bind fun r11 =>
     guardX r11 false
     ((sBin .neq (SVal.cell e1 0) (.int .i64 1)).bind fun r12 =>
      guardX r12 true
      ((sBin .neq (SVal.cell e1 1) (.int .i64 0)).bind fun r13 =>
       (asB r13).bind fun b14 =>
       some [b14])
      (some [false])
      (none))
     (some [true])
     (none))
    ((sBin .neq (SVal.cell e1 0) (.int .i64 1)).bind fun r15 =>
     guardX r15 true
     ((sBin .neq (SVal.cell e1 1) (.int .i64 0)).bind fun r16 =>
      (asB r16).bind fun b17 =>
      some [b17])
     (some [false])
     (none))
    (none)).bind fun vs18 =>
   pickC (.bool (vs18.getD 0 false))
   (some { r := (.bool false) })
   (((sBin .eql (SVal.cell e1 0) (.int .i64 2)).bind fun r19 =>
     guardX r19 true
     ((sLen (SVal.cell e1 3)).bind fun r20 =>
      (sBin .gtr r20 (.int .i64 0)).bind fun r21 =>
      (asB r21).bind fun b22 =>
      some [b22])
     (some [false])
     (none)).bind fun vs23 =>
    pickC (.bool (vs23.getD 0 false))
    (some { r := (.bool false) })
    (((sBin .neq (SVal.cell e1 2) (.int .i64 (-1))).bind fun r24 =>
      guardX r24 true
      ((T 102 [(weak x0), (SVal.cell e1 2)]).bind fun r25 =>
       (sNot r25.r).bind fun r26 =>
       guardX r26 false
       ((sIdx true 7 x0 (SVal.cell e1 2)).bind fun e27 =>
        (T 103 [(weak (SVal.cell e27 3)), x1]).bind fun r28 =>
        (sNot r28.r).bind fun r29 =>
        (asB r29).bind fun b30 =>
        some [b30])
       (some [true])
       (none))
      (some [false])
      (none)).bind fun vs31 =>
     pickC (.bool (vs31.getD 0 false))
     (some { r := (.bool false) })
     (((T 104 [(.agg [(SVal.cell e1 0), (SVal.cell e1 1), (SVal.cell e1 2), (weak (SVal.cell e1 3)), (SVal.cell e1 4), (SVal.cell e1 5), (weak (SVal.cell e1 6))])]).bind fun r32 =>
       guardX r32.r true
       ((T 105 [(weak x0), x1]).bind fun r33 =>
        guardX r33.r true
        ((T 106 [(weak (SVal.cell e1 3)), (.fn 107 [(.rp [x0]), (.rp [x1])])]).bind fun r34 =>
         (sNot r34.r).bind fun r35 =>
         (asB r35).bind fun b36 =>
         some [b36])
        (some [false])
        (none))
       (some [false])
       (none)).bind fun vs37 =>
      some { r := (.bool (vs37.getD 0 false)) }))))
  else none
  else none
  else none
theorem r91 (T : Nat → List SVal → Option Res) (k : Nat) (x0 : SVal) (x1 : SVal) : bodyE P H T k 91 [x0, x1] = R91 T k x0 x1 := by kernel_rfl
noncomputable def D91 (T : Nat → List SVal → Option Res) (k : Nat) : List SVal → Option Res
  | [x0, x1] => R91 T k x0 x1
  | a => bodyE P H T k 91 a
theorem d91 (T : Nat → List SVal → Option Res) (k : Nat) (a : List SVal) : D91 T k a = bodyE P H T k 91 a := by
  unfold D91
  split
  · exact (r91 ..).symm
  · rfl
theorem t91 (k : Nat) (x0 : SVal) (x1 : SVal) : T (k + 1) 91 [x0, x1] = R91 (T k) k x0 x1 := (by kernel_rfl : T (k + 1) 91 [x0, x1] = bodyE P H (T k) k 91 [x0, x1]).trans (r91 ..)
/-- limelight/tree.turns -/
def R92 (T : Nat → List SVal → Option Res) (k : Nat) (x0 : SVal) (x1 : SVal) : Option Res :=
  (T 109 [(weak x0), x1]).bind fun r1 =>
  (callIt T r1.r).bind fun ys2 =>
  rangeN (fun s3 y3 next3 =>
   (notTup y3).bind fun z4 =>
   (sBin .add s3.k1.c0 (.int .i64 1)).bind fun r5 =>
   if (oneS r5) = true then
   next3 ⟨[(weak s3.k0), (.mb [r5])], [], false⟩
   else none) (fun s6 =>
   (sLen s6.k0).bind fun r7 =>
   (sBin .gtr s6.k1.c0 r7).bind fun r8 =>
   some { r := r8 }) ys2 ⟨[(weak x0), (.mb [(.int .i64 0)])], [], false⟩
theorem r92 (T : Nat → List SVal → Option Res) (k : Nat) (x0 : SVal) (x1 : SVal) : bodyE P H T k 92 [x0, x1] = R92 T k x0 x1 := by kernel_rfl
noncomputable def D92 (T : Nat → List SVal → Option Res) (k : Nat) : List SVal → Option Res
  | [x0, x1] => R92 T k x0 x1
  | a => bodyE P H T k 92 a
theorem d92 (T : Nat → List SVal → Option Res) (k : Nat) (a : List SVal) : D92 T k a = bodyE P H T k 92 a := by
  unfold D92
  split
  · exact (r92 ..).symm
  · rfl
theorem t92 (k : Nat) (x0 : SVal) (x1 : SVal) : T (k + 1) 92 [x0, x1] = R92 (T k) k x0 x1 := (by kernel_rfl : T (k + 1) 92 [x0, x1] = bodyE P H (T k) k 92 [x0, x1]).trans (r92 ..)
/-- limelight/shade.Connected -/
def R93 (T : Nat → List SVal → Option Res) (k : Nat) (x0 : SVal) (x1 : SVal) : Option Res :=
  (T 110 [(weak x0), (.int .i64 0), x1]).bind fun r1 =>
  some { r := r1.r }
theorem r93 (T : Nat → List SVal → Option Res) (k : Nat) (x0 : SVal) (x1 : SVal) : bodyE P H T k 93 [x0, x1] = R93 T k x0 x1 := by kernel_rfl
noncomputable def D93 (T : Nat → List SVal → Option Res) (k : Nat) : List SVal → Option Res
  | [x0, x1] => R93 T k x0 x1
  | a => bodyE P H T k 93 a
theorem d93 (T : Nat → List SVal → Option Res) (k : Nat) (a : List SVal) : D93 T k a = bodyE P H T k 93 a := by
  unfold D93
  split
  · exact (r93 ..).symm
  · rfl
theorem t93 (k : Nat) (x0 : SVal) (x1 : SVal) : T (k + 1) 93 [x0, x1] = R93 (T k) k x0 x1 := (by kernel_rfl : T (k + 1) 93 [x0, x1] = bodyE P H (T k) k 93 [x0, x1]).trans (r93 ..)
/-- limelight/attr.Get -/
def R94 (T : Nat → List SVal → Option Res) (k : Nat) (x0 : SVal) (x1 : SVal) (x2 : SVal) : Option Res :=
  (T 111 [(weak x0), x1]).bind fun r1 =>
  (sNot r1.r).bind fun r2 =>
  pickC r2
  (some { r := (.tup [(.int .i64 0), (.bool false)]) })
  ((sIdx true 7 x0 x1).bind fun e3 =>
   (T 112 [(.agg [(SVal.cell e3 0), (SVal.cell e3 1), (SVal.cell e3 2), (weak (SVal.cell e3 3)), (SVal.cell e3 4), (SVal.cell e3 5), (weak (SVal.cell e3 6))]), x2]).bind fun r4 =>
   (sBin .lss r4.r (.int .i64 0)).bind fun r5 =>
   pickC r5
   (some { r := (.tup [(.int .i64 0), (.bool false)]) })
   ((sIdx true 7 x0 x1).bind fun e6 =>
    (sIdx true 2 (SVal.cell e6 6) r4.r).bind fun e7 =>
    some { r := (.tup [(SVal.cell e7 1), (.bool true)]) }))
theorem r94 (T : Nat → List SVal → Option Res) (k : Nat) (x0 : SVal) (x1 : SVal) (x2 : SVal) : bodyE P H T k 94 [x0, x1, x2] = R94 T k x0 x1 x2 := by kernel_rfl
noncomputable def D94 (T : Nat → List SVal → Option Res) (k : Nat) : List SVal → Option Res
  | [x0, x1, x2] => R94 T k x0 x1 x2
  | a => bodyE P H T k 94 a
theorem d94 (T : Nat → List SVal → Option Res) (k : Nat) (a : List SVal) : D94 T k a = bodyE P H T k 94 a := by
  unfold D94
  split
  · exact (r94 ..).symm
  · rfl
theorem t94 (k : Nat) (x0 : SVal) (x1 : SVal) (x2 : SVal) : T (k + 1) 94 [x0, x1, x2] = R94 (T k) k x0 x1 x2 := (by kernel_rfl : T (k + 1) 94 [x0, x1, x2] = bodyE P H (T k) k 94 [x0, x1, x2]).trans (r94 ..)
/-- limelight/limelightref04.Above -/
def R95 (T : Nat → List SVal → Option Res) (k : Nat) (x0 : SVal) (x1 : SVal) (x2 : SVal) : Option Res :=
  (T 113 [(weak x0), x2]).bind fun r1 =>
  (T 28 [(weak r1.r), x1]).bind fun r2 =>
  some { r := r2.r }
theorem r95 (T : Nat → List SVal → Option Res) (k : Nat) (x0 : SVal) (x1 : SVal) (x2 : SVal) : bodyE P H T k 95 [x0, x1, x2] = R95 T k x0 x1 x2 := by kernel_rfl
noncomputable def D95 (T : Nat → List SVal → Option Res) (k : Nat) : List SVal → Option Res
  | [x0, x1, x2] => R95 T k x0 x1 x2
  | a => bodyE P H T k 95 a
theorem d95 (T : Nat → List SVal → Option Res) (k : Nat) (a : List SVal) : D95 T k a = bodyE P H T k 95 a := by
  unfold D95
  split
  · exact (r95 ..).symm
  · rfl
theorem t95 (k : Nat) (x0 : SVal) (x1 : SVal) (x2 : SVal) : T (k + 1) 95 [x0, x1, x2] = R95 (T k) k x0 x1 x2 := (by kernel_rfl : T (k + 1) 95 [x0, x1, x2] = bodyE P H (T k) k 95 [x0, x1, x2]).trans (r95 ..)
/-- limelight/limelightref02.Get -/
def R96 (T : Nat → List SVal → Option Res) (k : Nat) (x0 : SVal) (x1 : SVal) (x2 : SVal) : Option Res :=
  (T 51 [(weak x0), x1]).bind fun r1 =>
  (sNot r1.r).bind fun r2 =>
  pickC r2
  (some { r := (.tup [(.int .i64 0), (.bool false)]) })
  (loopN (fun s3 next3 =>
    (sIdx true 7 s3.k0 s3.k1).bind fun e4 =>
    (sLen (SVal.cell e4 6)).bind fun r5 =>
    (sBin .lss s3.k3 r5).bind fun r6 =>
    pickC r6
    ((sIdx true 7 s3.k0 s3.k1).bind fun e7 =>
     (sIdx true 2 (SVal.cell e7 6) s3.k3).bind fun e8 =>
     (sBin .eql (SVal.cell e8 0) s3.k2).bind fun r9 =>
     pickC r9
     ((sIdx true 7 s3.k0 s3.k1).bind fun e10 =>
      (sIdx true 2 (SVal.cell e10 6) s3.k3).bind fun e11 =>
      some { r := (.tup [(SVal.cell e11 1), (.bool true)]) })
     ((sBin .add s3.k3 (.int .i64 1)).bind fun r12 =>
      next3 ⟨[(weak s3.k0), s3.k1, s3.k2, r12], [], false⟩))
    (some { r := (.tup [(.int .i64 0), (.bool false)]) })) k ⟨[(weak x0), x1, x2, (.int .i64 0)], [], false⟩)
theorem r96 (T : Nat → List SVal → Option Res) (k : Nat) (x0 : SVal) (x1 : SVal) (x2 : SVal) : bodyE P H T k 96 [x0, x1, x2] = R96 T k x0 x1 x2 := by kernel_rfl
noncomputable def D96 (T : Nat → List SVal → Option Res) (k : Nat) : List SVal → Option Res
  | [x0, x1, x2] => R96 T k x0 x1 x2
  | a => bodyE P H T k 96 a
theorem d96 (T : Nat → List SVal → Option Res) (k : Nat) (a : List SVal) : D96 T k a = bodyE P H T k 96 a := by
  unfold D96
  split
  · exact (r96 ..).symm
  · rfl
theorem t96 (k : Nat) (x0 : SVal) (x1 : SVal) (x2 : SVal) : T (k + 1) 96 [x0, x1, x2] = R96 (T k) k x0 x1 x2 := (by kernel_rfl : T (k + 1) 96 [x0, x1, x2] = bodyE P H (T k) k 96 [x0, x1, x2]).trans (r96 ..)
/-- slices.Collect[int] -/
def R97 (T : Nat → List SVal → Option Res) (k : Nat) (x0 : SVal) : Option Res :=
  (T 114 [(.sl 1 true false []), x0]).bind fun r1 =>
  some { r := (.sl 1 true false r1.r.xs) }
theorem r97 (T : Nat → List SVal → Option Res) (k : Nat) (x0 : SVal) : bodyE P H T k 97 [x0] = R97 T k x0 := by kernel_rfl
noncomputable def D97 (T : Nat → List SVal → Option Res) (k : Nat) : List SVal → Option Res
  | [x0] => R97 T k x0
  | a => bodyE P H T k 97 a
theorem d97 (T : Nat → List SVal → Option Res) (k : Nat) (a : List SVal) : D97 T k a = bodyE P H T k 97 a := by
  unfold D97
  split
  · exact (r97 ..).symm
  · rfl
theorem t97 (k : Nat) (x0 : SVal) : T (k + 1) 97 [x0] = R97 (T k) k x0 := (by kernel_rfl : T (k + 1) 97 [x0] = bodyE P H (T k) k 97 [x0]).trans (r97 ..)
/-- slices.Values[[]int,int]$1 -/
def R99 (T : Nat → List SVal → Option Res) (k : Nat) (x1 : SVal) : Option Res :=
  (sLen x1).bind fun r1 =>
  loopN (fun s2 next2 =>
   (sBin .lss s2.k3 s2.k2).bind fun r3 =>
   pickC r3
   ((sIdx false 1 s2.k1 s2.k3).bind fun e4 =>
    if (s2.stop) = true then none else
    (notTup e4).bind fun y5 =>
    both
    ((sBin .add s2.k3 (.int .i64 1)).bind fun r6 =>
     next2 ⟨[.yld, (weak s2.k1), s2.k2, r6], (s2.out ++ [y5]), s2.stop⟩)
    (some { r := (.tup []) }))
   (if (s2.stop) = true then
    some { r := (.tup []) }
    else
    some { r := (.tup []), out := s2.out })) k ⟨[.yld, (weak x1), r1, (.int .i64 0)], [], false⟩
theorem r99 (T : Nat → List SVal → Option Res) (k : Nat) (x1 : SVal) : bodyE P H T k 99 [.yld, (.rp [x1])] = R99 T k x1 := by kernel_rfl
noncomputable def D99 (T : Nat → List SVal → Option Res) (k : Nat) : List SVal → Option Res
  | [.yld, (.rp [x1])] => R99 T k x1
  | a => bodyE P H T k 99 a
theorem d99 (T : Nat → List SVal → Option Res) (k : Nat) (a : List SVal) : D99 T k a = bodyE P H T k 99 a := by
  unfold D99
  split
  · exact (r99 ..).symm
  · rfl
theorem t99 (k : Nat) (x1 : SVal) : T (k + 1) 99 [.yld, (.rp [x1])] = R99 (T k) k x1 := (by kernel_rfl : T (k + 1) 99 [.yld, (.rp [x1])] = bodyE P H (T k) k 99 [.yld, (.rp [x1])]).trans (r99 ..)
/-- limelight/limelightref01.value -/
def R101 (T : Nat → List SVal → Option Res) (k : Nat) (x0 : SVal) (x1 : SVal) : Option Res :=
  (sBin .eql x0 (.int .i64 0)).bind fun r1 =>
  pickC r1
  (((sBin .geq x1 (.int .i64 (-2147483648))).bind fun r2 =>
    guardX r2 true
    ((sBin .lss x1 (.int .i64 2147483648)).bind fun r3 =>
     (asB r3).bind fun b4 =>
     some [b4])
    (some [false])
    (none)).bind fun vs5 =>
   some { r := (.bool (vs5.getD 0 false)) })
  ((sBin .eql x0 (.int .i64 4)).bind fun r6 =>
   pickC r6
   (((sBin .geq x1 (.int .i64 0)).bind fun r7 =>
     guardX r7 true
     ((sBin .lss x1 (.int .i64 2147483648)).bind fun r8 =>
      (asB r8).bind fun b9 =>
      some [b9])
     (some [false])
     (none)).bind fun vs10 =>
    some { r := (.bool (vs10.getD 0 false)) })
   ((sBin .eql x0 (.int .i64 6)).bind fun r11 =>
    pickC r11
    (((sBin .geq x1 (.int .i64 1)).bind fun r12 =>
      guardX r12 true
      ((sBin .leq x1 (.int .i64 3)).bind fun r13 =>
       (asB r13).bind fun b14 =>
       some [b14])
      (some [false])
      (none)).bind fun vs15 =>
     some { r := (.bool (vs15.getD 0 false)) })
    ((sBin .eql x0 (.int .i64 9)).bind fun r16 =>
     pickC r16
     (((sBin .geq x1 (.int .i64 0)).bind fun r17 =>
       guardX r17 true
       ((sBin .leq x1 (.int .i64 63)).bind fun r18 =>
        (asB r18).bind fun b19 =>
        some [b19])
       (some [false])
       (none)).bind fun vs20 =>
      some { r := (.bool (vs20.getD 0 false)) })
     ((sBin .eql x1 (.int .i64 0)).bind fun r21 =>
      some { r := r21 }))))
theorem r101 (T : Nat → List SVal → Option Res) (k : Nat) (x0 : SVal) (x1 : SVal) : bodyE P H T k 101 [x0, x1] = R101 T k x0 x1 := by kernel_rfl
noncomputable def D101 (T : Nat → List SVal → Option Res) (k : Nat) : List SVal → Option Res
  | [x0, x1] => R101 T k x0 x1
  | a => bodyE P H T k 101 a
theorem d101 (T : Nat → List SVal → Option Res) (k : Nat) (a : List SVal) : D101 T k a = bodyE P H T k 101 a := by
  unfold D101
  split
  · exact (r101 ..).symm
  · rfl
theorem t101 (k : Nat) (x0 : SVal) (x1 : SVal) : T (k + 1) 101 [x0, x1] = R101 (T k) k x0 x1 := (by kernel_rfl : T (k + 1) 101 [x0, x1] = bodyE P H (T k) k 101 [x0, x1]).trans (r101 ..)
/-- limelight/tree.is -/
def R102 (T : Nat → List SVal → Option Res) (k : Nat) (x0 : SVal) (x1 : SVal) : Option Res :=
  (sLen x0).bind fun r1 =>
  (sBin .sub r1 (.int .i64 1)).bind fun r2 =>
  (T 90 [x1, (.int .i64 0), r2]).bind fun r3 =>
  some { r := r3.r }
theorem r102 (T : Nat → List SVal → Option Res) (k : Nat) (x0 : SVal) (x1 : SVal) : bodyE P H T k 102 [x0, x1] = R102 T k x0 x1 := by kernel_rfl
noncomputable def D102 (T : Nat → List SVal → Option Res) (k : Nat) : List SVal → Option Res
  | [x0, x1] => R102 T k x0 x1
  | a => bodyE P H T k 102 a
theorem d102 (T : Nat → List SVal → Option Res) (k : Nat) (a : List SVal) : D102 T k a = bodyE P H T k 102 a := by
  unfold D102
  split
  · exact (r102 ..).symm
  · rfl
theorem t102 (k : Nat) (x0 : SVal) (x1 : SVal) : T (k + 1) 102 [x0, x1] = R102 (T k) k x0 x1 := (by kernel_rfl : T (k + 1) 102 [x0, x1] = bodyE P H (T k) k 102 [x0, x1]).trans (r102 ..)
/-- limelight/tree.once -/
def R103 (T : Nat → List SVal → Option Res) (k : Nat) (x0 : SVal) (x1 : SVal) : Option Res :=
  (T 74 [(weak x0), x1]).bind fun r1 =>
  ((sBin .geq r1.r (.int .i64 0)).bind fun r2 =>
   guardX r2 true
   ((sBin .add r1.r (.int .i64 1)).bind fun r3 =>
    (sSlice 1 x0 (some r3) none).bind fun r4 =>
    (T 45 [(weak r4), x1]).bind fun r5 =>
    (sNot r5.r).bind fun r6 =>
    (asB r6).bind fun b7 =>
    some [b7])
   (some [false])
   (none)).bind fun vs8 =>
  some { r := (.bool (vs8.getD 0 false)) }
theorem r103 (T : Nat → List SVal → Option Res) (k : Nat) (x0 : SVal) (x1 : SVal) : bodyE P H T k 103 [x0, x1] = R103 T k x0 x1 := by kernel_rfl
noncomputable def D103 (T : Nat → List SVal → Option Res) (k : Nat) : List SVal → Option Res
  | [x0, x1] => R103 T k x0 x1
  | a => bodyE P H T k 103 a
theorem d103 (T : Nat → List SVal → Option Res) (k : Nat) (a : List SVal) : D103 T k a = bodyE P H T k 103 a := by
  unfold D103
  split
  · exact (r103 ..).symm
  · rfl
theorem t103 (k : Nat) (x0 : SVal) (x1 : SVal) : T (k + 1) 103 [x0, x1] = R103 (T k) k x0 x1 := (by kernel_rfl : T (k + 1) 103 [x0, x1] = bodyE P H (T k) k 103 [x0, x1]).trans (r103 ..)
/-- limelight/tree.attrs -/
def R104 (T : Nat → List SVal → Option Res) (k : Nat) (x0a : SVal) (x0b : SVal) (x0c : SVal) (x0d : SVal) (x0e : SVal) (x0f : SVal) (x0g : SVal) : Option Res :=
  (sLen x0g).bind fun r1 =>
  loopN (fun s2 next2 =>
   (sBin .lss s2.k4 s2.k3).bind fun r3 =>
   pickC r3
   ((sIdx true 2 s2.k2 s2.k4).bind fun e4 =>
    if (allOne [.v (SVal.cell e4 0), .v (SVal.cell e4 1)]) = true then
    ((sBin .eql (SVal.cell e4 0) (.int .i64 7)).bind fun r5 =>
     guardX r5 false
     ((sBin .eql (SVal.cell e4 0) (.int .i64 8)).bind fun r6 =>
      (asB r6).bind fun b7 =>
      some [b7])
     (some [true])
     (none)).bind fun vs8 =>
    ((sBin .leq (SVal.cell e4 0) s2.k1).bind fun r9 =>
     guardX r9 false
     ((sBin .geq (SVal.cell e4 0) (.int .i64 10)).bind fun r10 =>
      guardX r10 false
      ((T 117 [(.agg [(SVal.cell e4 0), (SVal.cell e4 1)])]).bind fun r11 =>
       (sNot r11.r).bind fun r12 =>
       guardX r12 false
       ((sBin .eql (SVal.cell s2.k0 0) (.int .i64 3)).bind fun r13 =>
        (sBinB .neq (.bool (vs8.getD 0 false)) r13).bind fun r14 =>
        (asB r14).bind fun b15 =>
        some [b15])
       (some [true])
       (none))
      (some [true])
      (none))
     (some [true])
     (none)).bind fun vs16 =>
    pickC (.bool (vs16.getD 0 false))
    (some { r := (.bool false) })
    ((sBin .add s2.k4 (.int .i64 1)).bind fun r17 =>
     next2 ⟨[(.rp [(SVal.cell s2.k0 0), (SVal.cell s2.k0 1), (SVal.cell s2.k0 2), (SVal.cell s2.k0 3), (SVal.cell s2.k0 4), (SVal.cell s2.k0 5), (SVal.cell s2.k0 6)]), (SVal.cell e4 0), (weak s2.k2), s2.k3, r17], [], false⟩)
    else none)
   (((sLen (SVal.cell s2.k0 6)).bind fun r18 =>
     (sBin .eql r18 (.int .i64 0)).bind fun r19 =>
     guardX r19 false
     ((sBin .eql (SVal.cell s2.k0 0) (.int .i64 1)).bind fun r20 =>
      guardX r20 false
      ((sBin .eql (SVal.cell s2.k0 0) (.int .i64 3)).bind fun r21 =>
       (asB r21).bind fun b22 =>
       some [b22])
      (some [true])
      (none))
     (some [true])
     (none)).bind fun vs23 =>
    some { r := (.bool (vs23.getD 0 false)) })) k ⟨[(.rp [x0a, x0b, x0c, x0d, x0e, x0f, x0g]), (.int .i64 (-1)), (weak x0g), r1, (.int .i64 0)], [], false⟩
theorem r104 (T : Nat → List SVal → Option Res) (k : Nat) (x0a : SVal) (x0b : SVal) (x0c : SVal) (x0d : SVal) (x0e : SVal) (x0f : SVal) (x0g : SVal) : bodyE P H T k 104 [(.agg [x0a, x0b, x0c, x0d, x0e, x0f, x0g])] = R104 T k x0a x0b x0c x0d x0e x0f x0g := by kernel_rfl
noncomputable def D104 (T : Nat → List SVal → Option Res) (k : Nat) : List SVal → Option Res
  | [(.agg [x0a, x0b, x0c, x0d, x0e, x0f, x0g])] => R104 T k x0a x0b x0c x0d x0e x0f x0g
  | a => bodyE P H T k 104 a
theorem d104 (T : Nat → List SVal → Option Res) (k : Nat) (a : List SVal) : D104 T k a = bodyE P H T k 104 a := by
  unfold D104
  split
  · exact (r104 ..).symm
  · rfl
theorem t104 (k : Nat) (x0a : SVal) (x0b : SVal) (x0c : SVal) (x0d : SVal) (x0e : SVal) (x0f : SVal) (x0g : SVal) : T (k + 1) 104 [(.agg [x0a, x0b, x0c, x0d, x0e, x0f, x0g])] = R104 (T k) k x0a x0b x0c x0d x0e x0f x0g := (by kernel_rfl : T (k + 1) 104 [(.agg [x0a, x0b, x0c, x0d, x0e, x0f, x0g])] = bodyE P H (T k) k 104 [(.agg [x0a, x0b, x0c, x0d, x0e, x0f, x0g])]).trans (r104 ..)
/-- limelight/tree.shadow -/
def R105 (T : Nat → List SVal → Option Res) (k : Nat) (x0 : SVal) (x1 : SVal) : Option Res :=
  (sIdx true 7 x0 x1).bind fun e1 =>
  if (allOne [.v (SVal.cell e1 0), .v (SVal.cell e1 1), .v (SVal.cell e1 2), .v (SVal.cell e1 3), .v (SVal.cell e1 4), .v (SVal.cell e1 5), .v (SVal.cell e1 6)]) = true then
  (sBin .eql (SVal.cell e1 0) (.int .i64 3)).bind fun r2 =>
  pickC r2
  (((sBin .eql (SVal.cell e1 5) (.int .i64 (-1))).bind fun r3 =>
    guardX r3 true
    ((sBin .eql (SVal.cell e1 2) (.int .i64 (-1))).bind fun r4 =>
     guardX r4 true
     ((T 102 [(weak x0), (SVal.cell e1 4)]).bind fun r5 =>
      guardX r5.r true
      ((sIdx true 7 x0 (SVal.cell e1 4)).bind fun e6 =>
       (sBin .eql (SVal.cell e6 0) (.int .i64 1)).bind fun r7 =>
       guardX r7 true
       ((sIdx true 7 x0 (SVal.cell e1 4)).bind fun e8 =>
        (sBin .eql (SVal.cell e8 5) x1).bind fun r9 =>
        (asB r9).bind fun b10 =>
        some [b10])
       (some [false])
       (none))
      (some [false])
      (none))
     (some [false])
     (none))
    (some [false])
    (none)).bind fun vs11 =>
   some { r := (.bool (vs11.getD 0 false)) })
  ((sBin .neq (SVal.cell e1 4) (.int .i64 (-1))).bind fun r12 =>
   pickC r12
   (some { r := (.bool false) })
   ((sBin .eql (SVal.cell e1 5) (.int .i64 (-1))).bind fun r13 =>
    pickC r13
    (some { r := (.bool true) })
    (((sBin .eql (SVal.cell e1 0) (.int .i64 1)).bind fun r14 =>
      guardX r14 true
      ((T 102 [(weak x0), (SVal.cell e1 5)]).bind fun r15 =>
       guardX r15.r true
       ((sIdx true 7 x0 (SVal.cell e1 5)).bind fun e16 =>
        (sBin .eql (SVal.cell e16 0) (.int .i64 3)).bind fun r17 =>
        guardX r17 true
        ((sIdx true 7 x0 (SVal.cell e1 5)).bind fun e18 =>
         (sBin .eql (SVal.cell e18 4) x1).bind fun r19 =>
         (asB r19).bind fun b20 =>
         some [b20])
        (some [false])
        (none))
       (some [false])
       (none))
      (some [false])
      (none)).bind fun vs21 =>
     some { r := (.bool (vs21.getD 0 false)) })))
  else none
theorem r105 (T : Nat → List SVal → Option Res) (k : Nat) (x0 : SVal) (x1 : SVal) : bodyE P H T k 105 [x0, x1] = R105 T k x0 x1 := by kernel_rfl
noncomputable def D105 (T : Nat → List SVal → Option Res) (k : Nat) : List SVal → Option Res
  | [x0, x1] => R105 T k x0 x1
  | a => bodyE P H T k 105 a
theorem d105 (T : Nat → List SVal → Option Res) (k : Nat) (a : List SVal) : D105 T k a = bodyE P H T k 105 a := by
  unfold D105
  split
  · exact (r105 ..).symm
  · rfl
theorem t105 (k : Nat) (x0 : SVal) (x1 : SVal) : T (k + 1) 105 [x0, x1] = R105 (T k) k x0 x1 := (by kernel_rfl : T (k + 1) 105 [x0, x1] = bodyE P H (T k) k 105 [x0, x1]).trans (r105 ..)
/-- slices.ContainsFunc[[]int,int] -/
def R106 (T : Nat → List SVal → Option Res) (k : Nat) (x0 : SVal) (x1 : SVal) : Option Res :=
  (T 118 [(weak x0), x1]).bind fun r1 =>
  (sBin .geq r1.r (.int .i64 0)).bind fun r2 =>
  some { r := r2 }
theorem r106 (T : Nat → List SVal → Option Res) (k : Nat) (x0 : SVal) (x1 : SVal) : bodyE P H T k 106 [x0, x1] = R106 T k x0 x1 := by kernel_rfl
noncomputable def D106 (T : Nat → List SVal → Option Res) (k : Nat) : List SVal → Option Res
  | [x0, x1] => R106 T k x0 x1
  | a => bodyE P H T k 106 a
theorem d106 (T : Nat → List SVal → Option Res) (k : Nat) (a : List SVal) : D106 T k a = bodyE P H T k 106 a := by
  unfold D106
  split
  · exact (r106 ..).symm
  · rfl
theorem t106 (k : Nat) (x0 : SVal) (x1 : SVal) : T (k + 1) 106 [x0, x1] = R106 (T k) k x0 x1 := (by kernel_rfl : T (k + 1) 106 [x0, x1] = bodyE P H (T k) k 106 [x0, x1]).trans (r106 ..)
/-- limelight/tree.node$1 -/
def R107 (T : Nat → List SVal → Option Res) (k : Nat) (x0 : SVal) (x1 : SVal) (x2 : SVal) : Option Res :=
  (T 108 [(weak x1), x2, x0]).bind fun r1 =>
  (sNot r1.r).bind fun r2 =>
  some { r := r2 }
theorem r107 (T : Nat → List SVal → Option Res) (k : Nat) (x0 : SVal) (x1 : SVal) (x2 : SVal) : bodyE P H T k 107 [x0, (.rp [x1]), (.rp [x2])] = R107 T k x0 x1 x2 := by kernel_rfl
noncomputable def D107 (T : Nat → List SVal → Option Res) (k : Nat) : List SVal → Option Res
  | [x0, (.rp [x1]), (.rp [x2])] => R107 T k x0 x1 x2
  | a => bodyE P H T k 107 a
theorem d107 (T : Nat → List SVal → Option Res) (k : Nat) (a : List SVal) : D107 T k a = bodyE P H T k 107 a := by
  unfold D107
  split
  · exact (r107 ..).symm
  · rfl
theorem t107 (k : Nat) (x0 : SVal) (x1 : SVal) (x2 : SVal) : T (k + 1) 107 [x0, (.rp [x1]), (.rp [x2])] = R107 (T k) k x0 x1 x2 := (by kernel_rfl : T (k + 1) 107 [x0, (.rp [x1]), (.rp [x2])] = bodyE P H (T k) k 107 [x0, (.rp [x1]), (.rp [x2])]).trans (r107 ..)
/-- limelight/tree.below -/
def R108 (T : Nat → List SVal → Option Res) (k : Nat) (x0 : SVal) (x1 : SVal) (x2 : SVal) : Option Res :=
  ((T 102 [(weak x0), x2]).bind fun r1 =>
   guardX r1.r true
   ((sIdx true 7 x0 x1).bind fun e2 =>
    (T 103 [(weak (SVal.cell e2 3)), x2]).bind fun r3 =>
    guardX r3.r true
    ((sIdx true 7 x0 x2).bind fun e4 =>
     (sBin .eql (SVal.cell e4 2) x1).bind fun r5 =>
     guardX r5 true
     ((sIdx true 7 x0 x2).bind fun e6 =>
      (sBin .eql (SVal.cell e6 0) (.int .i64 1)).bind fun r7 =>
      guardX r7 false
      ((sIdx true 7 x0 x2).bind fun e8 =>
       (sBin .eql (SVal.cell e8 0) (.int .i64 2)).bind fun r9 =>
       (asB r9).bind fun b10 =>
       some [b10])
      (some [true])
      (none))
     (some [false])
     (none))
    (some [false])
    (none))
   (some [false])
   (none)).bind fun vs11 =>
  some { r := (.bool (vs11.getD 0 false)) }
theorem r108 (T : Nat → List SVal → Option Res) (k : Nat) (x0 : SVal) (x1 : SVal) (x2 : SVal) : bodyE P H T k 108 [x0, x1, x2] = R108 T k x0 x1 x2 := by kernel_rfl
noncomputable def D108 (T : Nat → List SVal → Option Res) (k : Nat) : List SVal → Option Res
  | [x0, x1, x2] => R108 T k x0 x1 x2
  | a => bodyE P H T k 108 a
theorem d108 (T : Nat → List SVal → Option Res) (k : Nat) (a : List SVal) : D108 T k a = bodyE P H T k 108 a := by
  unfold D108
  split
  · exact (r108 ..).symm
  · rfl
theorem t108 (k : Nat) (x0 : SVal) (x1 : SVal) (x2 : SVal) : T (k + 1) 108 [x0, x1, x2] = R108 (T k) k x0 x1 x2 := (by kernel_rfl : T (k + 1) 108 [x0, x1, x2] = bodyE P H (T k) k 108 [x0, x1, x2]).trans (r108 ..)
/-- limelight/tree.up -/
def R109 (T : Nat → List SVal → Option Res) (k : Nat) (x0 : SVal) (x1 : SVal) : Option Res :=
  if (oneS x0) = true then
  if (oneS x1) = true then
  some { r := (.fn 119 [(.rp [x0]), (.mb [x1])]) }
  else none
  else none
theorem r109 (T : Nat → List SVal → Option Res) (k : Nat) (x0 : SVal) (x1 : SVal) : bodyE P H T k 109 [x0, x1] = R109 T k x0 x1 := by kernel_rfl
noncomputable def D109 (T : Nat → List SVal → Option Res) (k : Nat) : List SVal → Option Res
  | [x0, x1] => R109 T k x0 x1
  | a => bodyE P H T k 109 a
theorem d109 (T : Nat → List SVal → Option Res) (k : Nat) (a : List SVal) : D109 T k a = bodyE P H T k 109 a := by
  unfold D109
  split
  · exact (r109 ..).symm
  · rfl
theorem t109 (k : Nat) (x0 : SVal) (x1 : SVal) : T (k + 1) 109 [x0, x1] = R109 (T k) k x0 x1 := (by kernel_rfl : T (k + 1) 109 [x0, x1] = bodyE P H (T k) k 109 [x0, x1]).trans (r109 ..)
/-- limelight/shade.Above -/
def R110 (T : Nat → List SVal → Option Res) (k : Nat) (x0 : SVal) (x1 : SVal) (x2 : SVal) : Option Res :=
  (T 120 [(weak x0), x2]).bind fun r1 =>
  (T 45 [(weak r1.r), x1]).bind fun r2 =>
  some { r := r2.r }
theorem r110 (T : Nat → List SVal → Option Res) (k : Nat) (x0 : SVal) (x1 : SVal) (x2 : SVal) : bodyE P H T k 110 [x0, x1, x2] = R110 T k x0 x1 x2 := by kernel_rfl
noncomputable def D110 (T : Nat → List SVal → Option Res) (k : Nat) : List SVal → Option Res
  | [x0, x1, x2] => R110 T k x0 x1 x2
  | a => bodyE P H T k 110 a
theorem d110 (T : Nat → List SVal → Option Res) (k : Nat) (a : List SVal) : D110 T k a = bodyE P H T k 110 a := by
  unfold D110
  split
  · exact (r110 ..).symm
  · rfl
theorem t110 (k : Nat) (x0 : SVal) (x1 : SVal) (x2 : SVal) : T (k + 1) 110 [x0, x1, x2] = R110 (T k) k x0 x1 x2 := (by kernel_rfl : T (k + 1) 110 [x0, x1, x2] = bodyE P H (T k) k 110 [x0, x1, x2]).trans (r110 ..)
/-- limelight/attr.node -/
def R111 (T : Nat → List SVal → Option Res) (k : Nat) (x0 : SVal) (x1 : SVal) : Option Res :=
  ((T 34 [(weak x0)]).bind fun r1 =>
   (sBin .eql r1.r (.int .i64 0)).bind fun r2 =>
   guardX r2 true
   ((sBin .geq x1 (.int .i64 0)).bind fun r3 =>
    guardX r3 true
    ((sLen x0).bind fun r4 =>
     (sBin .lss x1 r4).bind fun r5 =>
     (asB r5).bind fun b6 =>
     some [b6])
    (some [false])
    (none))
   (some [false])
   (none)).bind fun vs7 =>
  some { r := (.bool (vs7.getD 0 false)) }
theorem r111 (T : Nat → List SVal → Option Res) (k : Nat) (x0 : SVal) (x1 : SVal) : bodyE P H T k 111 [x0, x1] = R111 T k x0 x1 := by kernel_rfl
noncomputable def D111 (T : Nat → List SVal → Option Res) (k : Nat) : List SVal → Option Res
  | [x0, x1] => R111 T k x0 x1
  | a => bodyE P H T k 111 a
theorem d111 (T : Nat → List SVal → Option Res) (k : Nat) (a : List SVal) : D111 T k a = bodyE P H T k 111 a := by
  unfold D111
  split
  · exact (r111 ..).symm
  · rfl
theorem t111 (k : Nat) (x0 : SVal) (x1 : SVal) : T (k + 1) 111 [x0, x1] = R111 (T k) k x0 x1 := (by kernel_rfl : T (k + 1) 111 [x0, x1] = bodyE P H (T k) k 111 [x0, x1]).trans (r111 ..)
/-- limelight/attr.at -/
def R112 (T : Nat → List SVal → Option Res) (k : Nat) (x0a : SVal) (x0b : SVal) (x0c : SVal) (x0d : SVal) (x0e : SVal) (x0f : SVal) (x0g : SVal) (x1 : SVal) : Option Res :=
  if (oneS x1) = true then
  (T 121 [(weak x0g), (.fn 122 [(.rp [x1])])]).bind fun r1 =>
  some { r := r1.r }
  else none
theorem r112 (T : Nat → List SVal → Option Res) (k : Nat) (x0a : SVal) (x0b : SVal) (x0c : SVal) (x0d : SVal) (x0e : SVal) (x0f : SVal) (x0g : SVal) (x1 : SVal) : bodyE P H T k 112 [(.agg [x0a, x0b, x0c, x0d, x0e, x0f, x0g]), x1] = R112 T k x0a x0b x0c x0d x0e x0f x0g x1 := by kernel_rfl
noncomputable def D112 (T : Nat → List SVal → Option Res) (k : Nat) : List SVal → Option Res
  | [(.agg [x0a, x0b, x0c, x0d, x0e, x0f, x0g]), x1] => R112 T k x0a x0b x0c x0d x0e x0f x0g x1
  | a => bodyE P H T k 112 a
theorem d112 (T : Nat → List SVal → Option Res) (k : Nat) (a : List SVal) : D112 T k a = bodyE P H T k 112 a := by
  unfold D112
  split
  · exact (r112 ..).symm
  · rfl
theorem t112 (k : Nat) (x0a : SVal) (x0b : SVal) (x0c : SVal) (x0d : SVal) (x0e : SVal) (x0f : SVal) (x0g : SVal) (x1 : SVal) : T (k + 1) 112 [(.agg [x0a, x0b, x0c, x0d, x0e, x0f, x0g]), x1] = R112 (T k) k x0a x0b x0c x0d x0e x0f x0g x1 := (by kernel_rfl : T (k + 1) 112 [(.agg [x0a, x0b, x0c, x0d, x0e, x0f, x0g]), x1] = bodyE P H (T k) k 112 [(.agg [x0a, x0b, x0c, x0d, x0e, x0f, x0g]), x1]).trans (r112 ..)
/-- limelight/limelightref04.Up -/
def R113 (T : Nat → List SVal → Option Res) (k : Nat) (x0 : SVal) (x1 : SVal) : Option Res :=
  loopN (fun s1 next1 =>
   (sBin .neq s1.k1 (.int .i64 (-1))).bind fun r2 =>
   pickC r2
   (if (List.all [[.v s1.k1]] allOne) = true then
    if (s1.k2.xs.length + ([s1.k1] : List SVal).length) * 8 ≤ maxAppend then
    (T 89 [(weak s1.k0), s1.k1]).bind fun r3 =>
    next1 ⟨[(weak s1.k0), r3.r, (.sl 1 true false (s1.k2.xs ++ [s1.k1]))], [], false⟩
    else none
    else none)
   (some { r := (.sl 1 false false s1.k2.xs) })) k ⟨[(weak x0), x1, (.sl 1 true false [])], [], false⟩
theorem r113 (T : Nat → List SVal → Option Res) (k : Nat) (x0 : SVal) (x1 : SVal) : bodyE P H T k 113 [x0, x1] = R113 T k x0 x1 := by kernel_rfl
noncomputable def D113 (T : Nat → List SVal → Option Res) (k : Nat) : List SVal → Option Res
  | [x0, x1] => R113 T k x0 x1
  | a => bodyE P H T k 113 a
theorem d113 (T : Nat → List SVal → Option Res) (k : Nat) (a : List SVal) : D113 T k a = bodyE P H T k 113 a := by
  unfold D113
  split
  · exact (r113 ..).symm
  · rfl
theorem t113 (k : Nat) (x0 : SVal) (x1 : SVal) : T (k + 1) 113 [x0, x1] = R113 (T k) k x0 x1 := (by kernel_rfl : T (k + 1) 113 [x0, x1] = bodyE P H (T k) k 113 [x0, x1]).trans (r113 ..)
/-- slices.AppendSeq[[]int,int] -/
def R114 (T : Nat → List SVal → Option Res) (k : Nat) (x0 : List SVal) (x1 : SVal) : Option Res :=
  (callIt T x1).bind fun ys1 =>
  rangeN (fun s2 y2 next2 =>
   (notTup y2).bind fun z3 =>
   if (List.all [[.v z3]] allOne) = true then
   if (s2.k0.c0.xs.length + ([z3] : List SVal).length) * 8 ≤ maxAppend then
   next2 ⟨[(.mb [(.sl 1 true false (s2.k0.c0.xs ++ [z3]))])], [], false⟩
   else none
   else none) (fun s4 =>
   some { r := (.sl 1 true false s4.k0.c0.xs) }) ys1 ⟨[(.mb [(.sl 1 true false x0)])], [], false⟩
theorem r114 (T : Nat → List SVal → Option Res) (k : Nat) (x0 : List SVal) (x1 : SVal) : bodyE P H T k 114 [(.sl 1 true false x0), x1] = R114 T k x0 x1 := by kernel_rfl
noncomputable def D114 (T : Nat → List SVal → Option Res) (k : Nat) : List SVal → Option Res
  | [(.sl 1 true false x0), x1] => R114 T k x0 x1
  | a => bodyE P H T k 114 a
theorem d114 (T : Nat → List SVal → Option Res) (k : Nat) (a : List SVal) : D114 T k a = bodyE P H T k 114 a := by
  unfold D114
  split
  · exact (r114 ..).symm
  · rfl
theorem t114 (k : Nat) (x0 : List SVal) (x1 : SVal) : T (k + 1) 114 [(.sl 1 true false x0), x1] = R114 (T k) k x0 x1 := (by kernel_rfl : T (k + 1) 114 [(.sl 1 true false x0), x1] = bodyE P H (T k) k 114 [(.sl 1 true false x0), x1]).trans (r114 ..)
/-- limelight/tree.value -/
def R117 (T : Nat → List SVal → Option Res) (k : Nat) (x0a : SVal) (x0b : SVal) : Option Res :=
  (sBin .eql x0a (.int .i64 0)).bind fun r1 =>
  pickC r1
  ((T 90 [x0b, (.int .i64 (-2147483648)), (.int .i64 2147483647)]).bind fun r2 =>
   some { r := r2.r })
  ((sBin .eql x0a (.int .i64 4)).bind fun r3 =>
   pickC r3
   ((T 90 [x0b, (.int .i64 0), (.int .i64 2147483647)]).bind fun r4 =>
    some { r := r4.r })
   ((sBin .eql x0a (.int .i64 6)).bind fun r5 =>
    pickC r5
    ((T 90 [x0b, (.int .i64 1), (.int .i64 3)]).bind fun r6 =>
     some { r := r6.r })
    ((sBin .eql x0a (.int .i64 9)).bind fun r7 =>
     pickC r7
     ((T 90 [x0b, (.int .i64 0), (.int .i64 63)]).bind fun r8 =>
      some { r := r8.r })
     ((sBin .eql x0b (.int .i64 0)).bind fun r9 =>
      some { r := r9 }))))
theorem r117 (T : Nat → List SVal → Option Res) (k : Nat) (x0a : SVal) (x0b : SVal) : bodyE P H T k 117 [(.agg [x0a, x0b])] = R117 T k x0a x0b := by kernel_rfl
noncomputable def D117 (T : Nat → List SVal → Option Res) (k : Nat) : List SVal → Option Res
  | [(.agg [x0a, x0b])] => R117 T k x0a x0b
  | a => bodyE P H T k 117 a
theorem d117 (T : Nat → List SVal → Option Res) (k : Nat) (a : List SVal) : D117 T k a = bodyE P H T k 117 a := by
  unfold D117
  split
  · exact (r117 ..).symm
  · rfl
theorem t117 (k : Nat) (x0a : SVal) (x0b : SVal) : T (k + 1) 117 [(.agg [x0a, x0b])] = R117 (T k) k x0a x0b := (by kernel_rfl : T (k + 1) 117 [(.agg [x0a, x0b])] = bodyE P H (T k) k 117 [(.agg [x0a, x0b])]).trans (r117 ..)
/-- slices.IndexFunc[[]int,int] -/
def R118 (T : Nat → List SVal → Option Res) (k : Nat) (x0 : SVal) (x1 : SVal) : Option Res :=
  (sLen x0).bind fun r1 =>
  loopN (fun s2 next2 =>
   (sBin .lss s2.k3 s2.k2).bind fun r3 =>
   pickC r3
   ((sIdx false 1 s2.k0 s2.k3).bind fun e4 =>
    (callV H T s2.k1 [e4]).bind fun y5 =>
    pickC y5
    (some { r := s2.k3 })
    ((sBin .add s2.k3 (.int .i64 1)).bind fun r6 =>
     next2 ⟨[(weak s2.k0), s2.k1, s2.k2, r6], [], false⟩))
   (some { r := (.int .i64 (-1)) })) k ⟨[(weak x0), x1, r1, (.int .i64 0)], [], false⟩
theorem r118 (T : Nat → List SVal → Option Res) (k : Nat) (x0 : SVal) (x1 : SVal) : bodyE P H T k 118 [x0, x1] = R118 T k x0 x1 := by kernel_rfl
noncomputable def D118 (T : Nat → List SVal → Option Res) (k : Nat) : List SVal → Option Res
  | [x0, x1] => R118 T k x0 x1
  | a => bodyE P H T k 118 a
theorem d118 (T : Nat → List SVal → Option Res) (k : Nat) (a : List SVal) : D118 T k a = bodyE P H T k 118 a := by
  unfold D118
  split
  · exact (r118 ..).symm
  · rfl
theorem t118 (k : Nat) (x0 : SVal) (x1 : SVal) : T (k + 1) 118 [x0, x1] = R118 (T k) k x0 x1 := (by kernel_rfl : T (k + 1) 118 [x0, x1] = bodyE P H (T k) k 118 [x0, x1]).trans (r118 ..)
/-- limelight/tree.up$1 -/
def R119 (T : Nat → List SVal → Option Res) (k : Nat) (x1 : SVal) (x2 : SVal) : Option Res :=
  (sLen x1).bind fun r1 =>
  (sBin .add r1 (.int .i64 1)).bind fun r2 =>
  loopN (fun s3 next3 =>
   (sBin .lss s3.k4 s3.k3).bind fun r4 =>
   pickC r4
   ((sBin .eql (SVal.cell s3.k2 0) (.int .i64 (-1))).bind fun r5 =>
    guardX r5 false
    (if (s3.stop) = true then none else
     (notTup (SVal.cell s3.k2 0)).bind fun y6 =>
     both
     ((sIdx true 7 (SVal.cell s3.k1 0) (SVal.cell s3.k2 0)).bind fun e7 =>
      (sIdx true 7 (SVal.cell s3.k1 0) (SVal.cell s3.k2 0)).bind fun e8 =>
      (sMax (SVal.cell e7 2) (SVal.cell e8 4)).bind fun r9 =>
      if (oneS r9) = true then
      (sBin .add s3.k4 (.int .i64 1)).bind fun r10 =>
      next3 ⟨[.yld, (.rp [(SVal.cell s3.k1 0)]), (.mb [r9]), s3.k3, r10], (s3.out ++ [y6]), s3.stop⟩
      else none)
     (some { r := (.tup []) }))
    (if (s3.stop) = true then
     some { r := (.tup []) }
     else
     some { r := (.tup []), out := s3.out })
    (none))
   (if (s3.stop) = true then
    some { r := (.tup []) }
    else
    some { r := (.tup []), out := s3.out })) k ⟨[.yld, (.rp [x1]), (.mb [x2]), r2, (.int .i64 0)], [], false⟩
theorem r119 (T : Nat → List SVal → Option Res) (k : Nat) (x1 : SVal) (x2 : SVal) : bodyE P H T k 119 [.yld, (.rp [x1]), (.mb [x2])] = R119 T k x1 x2 := by kernel_rfl
noncomputable def D119 (T : Nat → List SVal → Option Res) (k : Nat) : List SVal → Option Res
  | [.yld, (.rp [x1]), (.mb [x2])] => R119 T k x1 x2
  | a => bodyE P H T k 119 a
theorem d119 (T : Nat → List SVal → Option Res) (k : Nat) (a : List SVal) : D119 T k a = bodyE P H T k 119 a := by
  unfold D119
  split
  · exact (r119 ..).symm
  · rfl
theorem t119 (k : Nat) (x1 : SVal) (x2 : SVal) : T (k + 1) 119 [.yld, (.rp [x1]), (.mb [x2])] = R119 (T k) k x1 x2 := (by kernel_rfl : T (k + 1) 119 [.yld, (.rp [x1]), (.mb [x2])] = bodyE P H (T k) k 119 [.yld, (.rp [x1]), (.mb [x2])]).trans (r119 ..)
/-- limelight/shade.Up -/
def R120 (T : Nat → List SVal → Option Res) (k : Nat) (x0 : SVal) (x1 : SVal) : Option Res :=
  (T 134 [(weak x0), x1]).bind fun r1 =>
  (elems 1 r1.r).bind fun ys2 =>
  if ys2.length * 8 ≤ maxAppend then
  (T 135 [(weak x0), x1]).bind fun r3 =>
  (sBin .neq r3.r (.int .i64 (-1))).bind fun r4 =>
  pickC r4
  (loopN (fun s5 next5 =>
    (T 134 [(weak s5.k0), s5.k1]).bind fun r6 =>
    (elems 1 r6.r).bind fun ys7 =>
    if (s5.k2.xs.length + ys7.length) * 8 ≤ maxAppend then
    (T 135 [(weak s5.k0), s5.k1]).bind fun r8 =>
    (sBin .neq r8.r (.int .i64 (-1))).bind fun r9 =>
    pickC r9
    (next5 ⟨[(weak s5.k0), r8.r, (.sl 1 true false (s5.k2.xs ++ ys7))], [], false⟩)
    (some { r := (.sl 1 false false (s5.k2.xs ++ ys7)) })
    else none) k ⟨[(weak x0), r3.r, (.sl 1 true false ys2)], [], false⟩)
  (some { r := (.sl 1 false false ys2) })
  else none
theorem r120 (T : Nat → List SVal → Option Res) (k : Nat) (x0 : SVal) (x1 : SVal) : bodyE P H T k 120 [x0, x1] = R120 T k x0 x1 := by kernel_rfl
noncomputable def D120 (T : Nat → List SVal → Option Res) (k : Nat) : List SVal → Option Res
  | [x0, x1] => R120 T k x0 x1
  | a => bodyE P H T k 120 a
theorem d120 (T : Nat → List SVal → Option Res) (k : Nat) (a : List SVal) : D120 T k a = bodyE P H T k 120 a := by
  unfold D120
  split
  · exact (r120 ..).symm
  · rfl
theorem t120 (k : Nat) (x0 : SVal) (x1 : SVal) : T (k + 1) 120 [x0, x1] = R120 (T k) k x0 x1 := (by kernel_rfl : T (k + 1) 120 [x0, x1] = bodyE P H (T k) k 120 [x0, x1]).trans (r120 ..)
/-- slices.IndexFunc[[]limelight/api.Attr,limelight/api.Attr] -/
def R121 (T : Nat → List SVal → Option Res) (k : Nat) (x0 : SVal) (x1 : SVal) : Option Res :=
  (sLen x0).bind fun r1 =>
  loopN (fun s2 next2 =>
   (sBin .lss s2.k3 s2.k2).bind fun r3 =>
   pickC r3
   ((sIdx true 2 s2.k0 s2.k3).bind fun e4 =>
    (callV H T s2.k1 [(.agg [(SVal.cell e4 0), (SVal.cell e4 1)])]).bind fun y5 =>
    pickC y5
    (some { r := s2.k3 })
    ((sBin .add s2.k3 (.int .i64 1)).bind fun r6 =>
     next2 ⟨[(weak s2.k0), s2.k1, s2.k2, r6], [], false⟩))
   (some { r := (.int .i64 (-1)) })) k ⟨[(weak x0), x1, r1, (.int .i64 0)], [], false⟩
theorem r121 (T : Nat → List SVal → Option Res) (k : Nat) (x0 : SVal) (x1 : SVal) : bodyE P H T k 121 [x0, x1] = R121 T k x0 x1 := by kernel_rfl
noncomputable def D121 (T : Nat → List SVal → Option Res) (k : Nat) : List SVal → Option Res
  | [x0, x1] => R121 T k x0 x1
  | a => bodyE P H T k 121 a
theorem d121 (T : Nat → List SVal → Option Res) (k : Nat) (a : List SVal) : D121 T k a = bodyE P H T k 121 a := by
  unfold D121
  split
  · exact (r121 ..).symm
  · rfl
theorem t121 (k : Nat) (x0 : SVal) (x1 : SVal) : T (k + 1) 121 [x0, x1] = R121 (T k) k x0 x1 := (by kernel_rfl : T (k + 1) 121 [x0, x1] = bodyE P H (T k) k 121 [x0, x1]).trans (r121 ..)
/-- limelight/attr.at$1 -/
def R122 (T : Nat → List SVal → Option Res) (k : Nat) (x0a : SVal) (x0b : SVal) (x1 : SVal) : Option Res :=
  (sBin .eql x0a x1).bind fun r1 =>
  some { r := r1 }
theorem r122 (T : Nat → List SVal → Option Res) (k : Nat) (x0a : SVal) (x0b : SVal) (x1 : SVal) : bodyE P H T k 122 [(.agg [x0a, x0b]), (.rp [x1])] = R122 T k x0a x0b x1 := by kernel_rfl
noncomputable def D122 (T : Nat → List SVal → Option Res) (k : Nat) : List SVal → Option Res
  | [(.agg [x0a, x0b]), (.rp [x1])] => R122 T k x0a x0b x1
  | a => bodyE P H T k 122 a
theorem d122 (T : Nat → List SVal → Option Res) (k : Nat) (a : List SVal) : D122 T k a = bodyE P H T k 122 a := by
  unfold D122
  split
  · exact (r122 ..).symm
  · rfl
theorem t122 (k : Nat) (x0a : SVal) (x0b : SVal) (x1 : SVal) : T (k + 1) 122 [(.agg [x0a, x0b]), (.rp [x1])] = R122 (T k) k x0a x0b x1 := (by kernel_rfl : T (k + 1) 122 [(.agg [x0a, x0b]), (.rp [x1])] = bodyE P H (T k) k 122 [(.agg [x0a, x0b]), (.rp [x1])]).trans (r122 ..)
/-- limelight/order.Up -/
def R134 (T : Nat → List SVal → Option Res) (k : Nat) (x0 : SVal) (x1 : SVal) : Option Res :=
  if (List.all [[.v x1]] allOne) = true then
  (T 142 [(weak x0), (.sl 1 false false [x1])]).bind fun r1 =>
  (sNot r1.r).bind fun r2 =>
  pickC r2
  (some { r := (.sl 1 false false []) })
  ((T 143 [(weak x0), x1]).bind fun r3 =>
   (T 97 [r3.r]).bind fun r4 =>
   some { r := (.sl 1 false false r4.r.xs) })
  else none
theorem r134 (T : Nat → List SVal → Option Res) (k : Nat) (x0 : SVal) (x1 : SVal) : bodyE P H T k 134 [x0, x1] = R134 T k x0 x1 := by kernel_rfl
noncomputable def D134 (T : Nat → List SVal → Option Res) (k : Nat) : List SVal → Option Res
  | [x0, x1] => R134 T k x0 x1
  | a => bodyE P H T k 134 a
theorem d134 (T : Nat → List SVal → Option Res) (k : Nat) (a : List SVal) : D134 T k a = bodyE P H T k 134 a := by
  unfold D134
  split
  · exact (r134 ..).symm
  · rfl
theorem t134 (k : Nat) (x0 : SVal) (x1 : SVal) : T (k + 1) 134 [x0, x1] = R134 (T k) k x0 x1 := (by kernel_rfl : T (k + 1) 134 [x0, x1] = bodyE P H (T k) k 134 [x0, x1]).trans (r134 ..)
/-- limelight/shade.Host -/
def R135 (T : Nat → List SVal → Option Res) (k : Nat) (x0 : SVal) (x1 : SVal) : Option Res :=
  (T 144 [(weak x0), x1]).bind fun r1 =>
  (sBin .eql r1.r (.int .i64 (-1))).bind fun r2 =>
  pickC r2
  (some { r := (.int .i64 (-1)) })
  ((sIdx true 7 x0 r1.r).bind fun e3 =>
   some { r := (SVal.cell e3 4) })
theorem r135 (T : Nat → List SVal → Option Res) (k : Nat) (x0 : SVal) (x1 : SVal) : bodyE P H T k 135 [x0, x1] = R135 T k x0 x1 := by kernel_rfl
noncomputable def D135 (T : Nat → List SVal → Option Res) (k : Nat) : List SVal → Option Res
  | [x0, x1] => R135 T k x0 x1
  | a => bodyE P H T k 135 a
theorem d135 (T : Nat → List SVal → Option Res) (k : Nat) (a : List SVal) : D135 T k a = bodyE P H T k 135 a := by
  unfold D135
  split
  · exact (r135 ..).symm
  · rfl
theorem t135 (k : Nat) (x0 : SVal) (x1 : SVal) : T (k + 1) 135 [x0, x1] = R135 (T k) k x0 x1 := (by kernel_rfl : T (k + 1) 135 [x0, x1] = bodyE P H (T k) k 135 [x0, x1]).trans (r135 ..)
/-- limelight/order.all -/
def R142 (T : Nat → List SVal → Option Res) (k : Nat) (x0 : SVal) (x1 : SVal) : Option Res :=
  if (oneS x0) = true then
  ((T 34 [(weak x0)]).bind fun r1 =>
   (sBin .eql r1.r (.int .i64 0)).bind fun r2 =>
   guardX r2 true
   ((T 106 [(weak x1), (.fn 146 [(.rp [x0])])]).bind fun r3 =>
    (sNot r3.r).bind fun r4 =>
    (asB r4).bind fun b5 =>
    some [b5])
   (some [false])
   (none)).bind fun vs6 =>
  some { r := (.bool (vs6.getD 0 false)) }
  else none
theorem r142 (T : Nat → List SVal → Option Res) (k : Nat) (x0 : SVal) (x1 : SVal) : bodyE P H T k 142 [x0, x1] = R142 T k x0 x1 := by kernel_rfl
noncomputable def D142 (T : Nat → List SVal → Option Res) (k : Nat) : List SVal → Option Res
  | [x0, x1] => R142 T k x0 x1
  | a => bodyE P H T k 142 a
theorem d142 (T : Nat → List SVal → Option Res) (k : Nat) (a : List SVal) : D142 T k a = bodyE P H T k 142 a := by
  unfold D142
  split
  · exact (r142 ..).symm
  · rfl
theorem t142 (k : Nat) (x0 : SVal) (x1 : SVal) : T (k + 1) 142 [x0, x1] = R142 (T k) k x0 x1 := (by kernel_rfl : T (k + 1) 142 [x0, x1] = bodyE P H (T k) k 142 [x0, x1]).trans (r142 ..)
/-- limelight/order.up -/
def R143 (T : Nat → List SVal → Option Res) (k : Nat) (x0 : SVal) (x1 : SVal) : Option Res :=
  if (oneS x0) = true then
  if (oneS x1) = true then
  some { r := (.fn 147 [(.mb [x1]), (.rp [x0])]) }
  else none
  else none
theorem r143 (T : Nat → List SVal → Option Res) (k : Nat) (x0 : SVal) (x1 : SVal) : bodyE P H T k 143 [x0, x1] = R143 T k x0 x1 := by kernel_rfl
noncomputable def D143 (T : Nat → List SVal → Option Res) (k : Nat) : List SVal → Option Res
  | [x0, x1] => R143 T k x0 x1
  | a => bodyE P H T k 143 a
theorem d143 (T : Nat → List SVal → Option Res) (k : Nat) (a : List SVal) : D143 T k a = bodyE P H T k 143 a := by
  unfold D143
  split
  · exact (r143 ..).symm
  · rfl
theorem t143 (k : Nat) (x0 : SVal) (x1 : SVal) : T (k + 1) 143 [x0, x1] = R143 (T k) k x0 x1 := (by kernel_rfl : T (k + 1) 143 [x0, x1] = bodyE P H (T k) k 143 [x0, x1]).trans (r143 ..)
end Go.Proofs.YtkebikngkeehfaaGreat.K
