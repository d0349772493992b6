/- What the evaluator makes of the functions, by program (wip/tr/resid.py); each equation is checked by the kernel. -/
import Derived.Test.YtccfkncajelbpaaGreatLmAK
import Derived.Test.YtccfkncajelbpaaGreatLmAB
import Derived.KernelRfl
set_option linter.unusedVariables false
set_option linter.unusedSimpArgs false
set_option linter.unnecessarySimpa false
set_option linter.all false
set_option maxRecDepth 100000
namespace Go.Proofs.YtccfkncajelbpaaGreat.K
open Go Go.Lm
/-- limelight/flat.Up -/
def R45 (T : Nat → List SVal → Option Res) (k : Nat) (x0 : SVal) (x1 : SVal) : Option Res :=
  (T 74 [(weak x0), x1]).bind fun r1 =>
  (sNot r1.r).bind fun r2 =>
  pickC r2
  (some { r := (.sl 1 false false []) })
  ((T 75 [(weak x0), x1]).bind fun r3 =>
   (T 48 [r3.r]).bind fun r4 =>
   some { r := (.sl 1 false false r4.r.xs) })
theorem r45 (T : Nat → List SVal → Option Res) (k : Nat) (x0 : SVal) (x1 : SVal) : bodyE P H T k 45 [x0, x1] = R45 T k x0 x1 := by kernel_rfl
noncomputable def D45 (T : Nat → List SVal → Option Res) (k : Nat) : List SVal → Option Res
  | [x0, x1] => R45 T k x0 x1
  | a => bodyE P H T k 45 a
theorem d45 (T : Nat → List SVal → Option Res) (k : Nat) (a : List SVal) : D45 T k a = bodyE P H T k 45 a := by
  unfold D45
  split
  · exact (r45 ..).symm
  · rfl
theorem t45 (k : Nat) (x0 : SVal) (x1 : SVal) : T (k + 1) 45 [x0, x1] = R45 (T k) k x0 x1 := (by kernel_rfl : T (k + 1) 45 [x0, x1] = bodyE P H (T k) k 45 [x0, x1]).trans (r45 ..)
/-- limelight/render.Is$1 -/
def R46 (T : Nat → List SVal → Option Res) (k : Nat) (x0 : SVal) (x1a : SVal) (x1b : SVal) (x1c : SVal) (x1d : SVal) (x1e : SVal) : Option Res :=
  (T 47 [(.agg [(weak x1a), (weak x1b), (weak x1c), (weak x1d), (weak x1e)]), x0]).bind fun r1 =>
  (sNot r1.r).bind fun r2 =>
  some { r := r2 }
theorem r46 (T : Nat → List SVal → Option Res) (k : Nat) (x0 : SVal) (x1a : SVal) (x1b : SVal) (x1c : SVal) (x1d : SVal) (x1e : SVal) : bodyE P H T k 46 [x0, (.rp [x1a, x1b, x1c, x1d, x1e])] = R46 T k x0 x1a x1b x1c x1d x1e := by kernel_rfl
noncomputable def D46 (T : Nat → List SVal → Option Res) (k : Nat) : List SVal → Option Res
  | [x0, (.rp [x1a, x1b, x1c, x1d, x1e])] => R46 T k x0 x1a x1b x1c x1d x1e
  | a => bodyE P H T k 46 a
theorem d46 (T : Nat → List SVal → Option Res) (k : Nat) (a : List SVal) : D46 T k a = bodyE P H T k 46 a := by
  unfold D46
  split
  · exact (r46 ..).symm
  · rfl
theorem t46 (k : Nat) (x0 : SVal) (x1a : SVal) (x1b : SVal) (x1c : SVal) (x1d : SVal) (x1e : SVal) : T (k + 1) 46 [x0, (.rp [x1a, x1b, x1c, x1d, x1e])] = R46 (T k) k x0 x1a x1b x1c x1d x1e := (by kernel_rfl : T (k + 1) 46 [x0, (.rp [x1a, x1b, x1c, x1d, x1e])] = bodyE P H (T k) k 46 [x0, (.rp [x1a, x1b, x1c, x1d, x1e])]).trans (r46 ..)
/-- limelight/render.own -/
def R47 (T : Nat → List SVal → Option Res) (k : Nat) (x0a : SVal) (x0b : SVal) (x0c : SVal) (x0d : SVal) (x0e : SVal) (x1 : SVal) : Option Res :=
  if (oneS x1) = true then
  (T 77 [(weak x0a), x1, (.int .i64 2)]).bind fun r1 =>
  pickC r1.r
  (some { r := (.bool false) })
  (((T 78 [(weak x0b), x1]).bind fun r2 =>
    guardX r2.r false
    ((T 78 [(weak x0c), x1]).bind fun r3 =>
     (asB r3.r).bind fun b4 =>
     some [b4])
    (some [true])
    (none)).bind fun vs5 =>
   pickC (.bool (vs5.getD 0 false))
   (some { r := (.bool true) })
   (((sIdx true 7 x0a x1).bind fun e6 =>
     (sBin .eql (SVal.cell e6 0) (.int .i64 1)).bind fun r7 =>
     guardX r7 true
     ((sIdx true 7 x0a x1).bind fun e8 =>
      (sBin .eql (SVal.cell e8 1) (.int .i64 2)).bind fun r9 =>
      (asB r9).bind fun b10 =>
      some [b10])
     (some [false])
     (none)).bind fun vs11 =>
    pickC (.bool (vs11.getD 0 false))
    (some { r := (.bool false) })
    (((T 77 [(weak x0a), x1, (.int .i64 6)]).bind fun r12 =>
      (sNot r12.r).bind fun r13 =>
      guardX r13 false
      ((T 79 [(weak x0d), (.fn 76 [(.rp [x1])])]).bind fun r14 =>
       (asB r14.r).bind fun b15 =>
       some [b15])
      (some [true])
      (none)).bind fun vs16 =>
     some { r := (.bool (vs16.getD 0 false)) })))
  else none
theorem r47 (T : Nat → List SVal → Option Res) (k : Nat) (x0a : SVal) (x0b : SVal) (x0c : SVal) (x0d : SVal) (x0e : SVal) (x1 : SVal) : bodyE P H T k 47 [(.agg [x0a, x0b, x0c, x0d, x0e]), x1] = R47 T k x0a x0b x0c x0d x0e x1 := by kernel_rfl
noncomputable def D47 (T : Nat → List SVal → Option Res) (k : Nat) : List SVal → Option Res
  | [(.agg [x0a, x0b, x0c, x0d, x0e]), x1] => R47 T k x0a x0b x0c x0d x0e x1
  | a => bodyE P H T k 47 a
theorem d47 (T : Nat → List SVal → Option Res) (k : Nat) (a : List SVal) : D47 T k a = bodyE P H T k 47 a := by
  unfold D47
  split
  · exact (r47 ..).symm
  · rfl
theorem t47 (k : Nat) (x0a : SVal) (x0b : SVal) (x0c : SVal) (x0d : SVal) (x0e : SVal) (x1 : SVal) : T (k + 1) 47 [(.agg [x0a, x0b, x0c, x0d, x0e]), x1] = R47 (T k) k x0a x0b x0c x0d x0e x1 := (by kernel_rfl : T (k + 1) 47 [(.agg [x0a, x0b, x0c, x0d, x0e]), x1] = bodyE P H (T k) k 47 [(.agg [x0a, x0b, x0c, x0d, x0e]), x1]).trans (r47 ..)
/-- slices.Collect[int] -/
def R48 (T : Nat → List SVal → Option Res) (k : Nat) (x0 : SVal) : Option Res :=
  (T 80 [(.sl 1 true false []), x0]).bind fun r1 =>
  some { r := (.sl 1 true false r1.r.xs) }
theorem r48 (T : Nat → List SVal → Option Res) (k : Nat) (x0 : SVal) : bodyE P H T k 48 [x0] = R48 T k x0 := by kernel_rfl
noncomputable def D48 (T : Nat → List SVal → Option Res) (k : Nat) : List SVal → Option Res
  | [x0] => R48 T k x0
  | a => bodyE P H T k 48 a
theorem d48 (T : Nat → List SVal → Option Res) (k : Nat) (a : List SVal) : D48 T k a = bodyE P H T k 48 a := by
  unfold D48
  split
  · exact (r48 ..).symm
  · rfl
theorem t48 (k : Nat) (x0 : SVal) : T (k + 1) 48 [x0] = R48 (T k) k x0 := (by kernel_rfl : T (k + 1) 48 [x0] = bodyE P H (T k) k 48 [x0]).trans (r48 ..)
/-- limelight/render.all -/
def R49 (T : Nat → List SVal → Option Res) (k : Nat) (x0a : SVal) (x0b : SVal) (x0c : SVal) (x0d : SVal) (x0e : SVal) : Option Res :=
  some { r := (.fn 81 [(.rp [x0a, x0b, x0c, x0d, x0e])]) }
theorem r49 (T : Nat → List SVal → Option Res) (k : Nat) (x0a : SVal) (x0b : SVal) (x0c : SVal) (x0d : SVal) (x0e : SVal) : bodyE P H T k 49 [(.agg [x0a, x0b, x0c, x0d, x0e])] = R49 T k x0a x0b x0c x0d x0e := by kernel_rfl
noncomputable def D49 (T : Nat → List SVal → Option Res) (k : Nat) : List SVal → Option Res
  | [(.agg [x0a, x0b, x0c, x0d, x0e])] => R49 T k x0a x0b x0c x0d x0e
  | a => bodyE P H T k 49 a
theorem d49 (T : Nat → List SVal → Option Res) (k : Nat) (a : List SVal) : D49 T k a = bodyE P H T k 49 a := by
  unfold D49
  split
  · exact (r49 ..).symm
  · rfl
theorem t49 (k : Nat) (x0a : SVal) (x0b : SVal) (x0c : SVal) (x0d : SVal) (x0e : SVal) : T (k + 1) 49 [(.agg [x0a, x0b, x0c, x0d, x0e])] = R49 (T k) k x0a x0b x0c x0d x0e := (by kernel_rfl : T (k + 1) 49 [(.agg [x0a, x0b, x0c, x0d, x0e])] = bodyE P H (T k) k 49 [(.agg [x0a, x0b, x0c, x0d, x0e])]).trans (r49 ..)
/-- limelight/limelightref06.Up -/
def R50 (T : Nat → List SVal → Option Res) (k : Nat) (x0 : SVal) (x1 : SVal) : Option Res :=
  loopN (fun s1 next1 =>
   (sBin .neq s1.k1 (.int .i64 (-1))).bind fun r2 =>
   pickC r2
   (if (List.all [[.v s1.k1]] allOne) = true then
    if (s1.k2.xs.length + ([s1.k1] : List SVal).length) * 8 ≤ maxAppend then
    (T 23 [(weak s1.k0), s1.k1]).bind fun r3 =>
    next1 ⟨[(weak s1.k0), r3.r, (.sl 1 true false (s1.k2.xs ++ ([s1.k1] : List SVal)))], [], false⟩
    else none
    else none)
   (some { r := (.sl 1 false false s1.k2.xs) })) k ⟨[(weak x0), x1, (.sl 1 true false [])], [], false⟩
theorem r50 (T : Nat → List SVal → Option Res) (k : Nat) (x0 : SVal) (x1 : SVal) : bodyE P H T k 50 [x0, x1] = R50 T k x0 x1 := by kernel_rfl
noncomputable def D50 (T : Nat → List SVal → Option Res) (k : Nat) : List SVal → Option Res
  | [x0, x1] => R50 T k x0 x1
  | a => bodyE P H T k 50 a
theorem d50 (T : Nat → List SVal → Option Res) (k : Nat) (a : List SVal) : D50 T k a = bodyE P H T k 50 a := by
  unfold D50
  split
  · exact (r50 ..).symm
  · rfl
theorem t50 (k : Nat) (x0 : SVal) (x1 : SVal) : T (k + 1) 50 [x0, x1] = R50 (T k) k x0 x1 := (by kernel_rfl : T (k + 1) 50 [x0, x1] = bodyE P H (T k) k 50 [x0, x1]).trans (r50 ..)
/-- limelight/limelightref06.Has -/
def R51 (T : Nat → List SVal → Option Res) (k : Nat) (x0 : SVal) (x1 : SVal) : Option Res :=
  (T 50 [(weak x0), x1]).bind fun r1 =>
  (T 24 [(weak r1.r), (.int .i64 0)]).bind fun r2 =>
  if isSc1 r2.r = true then
  some { r := r2.r }
  else none
theorem r51 (T : Nat → List SVal → Option Res) (k : Nat) (x0 : SVal) (x1 : SVal) : bodyE P H T k 51 [x0, x1] = R51 T k x0 x1 := by kernel_rfl
noncomputable def D51 (T : Nat → List SVal → Option Res) (k : Nat) : List SVal → Option Res
  | [x0, x1] => R51 T k x0 x1
  | a => bodyE P H T k 51 a
theorem d51 (T : Nat → List SVal → Option Res) (k : Nat) (a : List SVal) : D51 T k a = bodyE P H T k 51 a := by
  unfold D51
  split
  · exact (r51 ..).symm
  · rfl
theorem t51 (k : Nat) (x0 : SVal) (x1 : SVal) : T (k + 1) 51 [x0, x1] = R51 (T k) k x0 x1 := (by kernel_rfl : T (k + 1) 51 [x0, x1] = bodyE P H (T k) k 51 [x0, x1]).trans (r51 ..)
/-- limelight/limelightref10.Nodes -/
def R52 (T : Nat → List SVal → Option Res) (k : Nat) (x0 : SVal) : Option Res :=
  loopN (fun s1 next1 =>
   (sLen s1.k0).bind fun r2 =>
   (sBin .lss s1.k2 r2).bind fun r3 =>
   pickC r3
   ((sIdx true 2 s1.k0 s1.k2).bind fun e4 =>
    if (List.all [[.v (SVal.cell e4 0)]] allOne) = true then
    if (s1.k1.xs.length + ([(SVal.cell e4 0)] : List SVal).length) * 8 ≤ maxAppend then
    (sBin .add s1.k2 (.int .i64 1)).bind fun r5 =>
    next1 ⟨[(weak s1.k0), (.sl 1 true false (s1.k1.xs ++ ([(SVal.cell e4 0)] : List SVal))), r5], [], false⟩
    else none
    else none)
   (some { r := (.sl 1 false false s1.k1.xs) })) k ⟨[(weak x0), (.sl 1 true false []), (.int .i64 0)], [], false⟩
theorem r52 (T : Nat → List SVal → Option Res) (k : Nat) (x0 : SVal) : bodyE P H T k 52 [x0] = R52 T k x0 := by kernel_rfl
noncomputable def D52 (T : Nat → List SVal → Option Res) (k : Nat) : List SVal → Option Res
  | [x0] => R52 T k x0
  | a => bodyE P H T k 52 a
theorem d52 (T : Nat → List SVal → Option Res) (k : Nat) (a : List SVal) : D52 T k a = bodyE P H T k 52 a := by
  unfold D52
  split
  · exact (r52 ..).symm
  · rfl
theorem t52 (k : Nat) (x0 : SVal) : T (k + 1) 52 [x0] = R52 (T k) k x0 := (by kernel_rfl : T (k + 1) 52 [x0] = bodyE P H (T k) k 52 [x0]).trans (r52 ..)
/-- limelight/limelightref06.List -/
def R53 (T : Nat → List SVal → Option Res) (k : Nat) (x0 : SVal) : Option Res :=
  (T 83 [(weak x0), (.int .i64 0)]).bind fun r1 =>
  some { r := (weak r1.r) }
theorem r53 (T : Nat → List SVal → Option Res) (k : Nat) (x0 : SVal) : bodyE P H T k 53 [x0] = R53 T k x0 := by kernel_rfl
noncomputable def D53 (T : Nat → List SVal → Option Res) (k : Nat) : List SVal → Option Res
  | [x0] => R53 T k x0
  | a => bodyE P H T k 53 a
theorem d53 (T : Nat → List SVal → Option Res) (k : Nat) (a : List SVal) : D53 T k a = bodyE P H T k 53 a := by
  unfold D53
  split
  · exact (r53 ..).symm
  · rfl
theorem t53 (k : Nat) (x0 : SVal) : T (k + 1) 53 [x0] = R53 (T k) k x0 := (by kernel_rfl : T (k + 1) 53 [x0] = bodyE P H (T k) k 53 [x0]).trans (r53 ..)
/-- limelight/limelightref06.Kids -/
def R54 (T : Nat → List SVal → Option Res) (k : Nat) (x0 : SVal) (x1 : SVal) : Option Res :=
  (sIdx true 7 x0 x1).bind fun e1 =>
  (sBin .eql (SVal.cell e1 0) (.int .i64 3)).bind fun r2 =>
  pickC r2
  (some { r := (.sl 1 false false []) })
  ((sIdx true 7 x0 x1).bind fun e3 =>
   (sBin .neq (SVal.cell e3 5) (.int .i64 (-1))).bind fun r4 =>
   pickC r4
   ((sIdx true 7 x0 x1).bind fun e5 =>
    (sIdx true 7 x0 (SVal.cell e5 5)).bind fun e6 =>
    some { r := (weak (SVal.cell e6 3)) })
   ((T 84 [(weak x0), x1]).bind fun r7 =>
    (sLen r7.r).bind fun r8 =>
    (sBin .gtr r8 (.int .i64 0)).bind fun r9 =>
    pickC r9
    (some { r := (weak r7.r) })
    ((sIdx true 7 x0 x1).bind fun e10 =>
     some { r := (weak (SVal.cell e10 3)) })))
theorem r54 (T : Nat → List SVal → Option Res) (k : Nat) (x0 : SVal) (x1 : SVal) : bodyE P H T k 54 [x0, x1] = R54 T k x0 x1 := by kernel_rfl
noncomputable def D54 (T : Nat → List SVal → Option Res) (k : Nat) : List SVal → Option Res
  | [x0, x1] => R54 T k x0 x1
  | a => bodyE P H T k 54 a
theorem d54 (T : Nat → List SVal → Option Res) (k : Nat) (a : List SVal) : D54 T k a = bodyE P H T k 54 a := by
  unfold D54
  split
  · exact (r54 ..).symm
  · rfl
theorem t54 (k : Nat) (x0 : SVal) (x1 : SVal) : T (k + 1) 54 [x0, x1] = R54 (T k) k x0 x1 := (by kernel_rfl : T (k + 1) 54 [x0, x1] = bodyE P H (T k) k 54 [x0, x1]).trans (r54 ..)
/-- limelight/inert.may -/
def R55 (T : Nat → List SVal → Option Res) (k : Nat) (x0a : SVal) (x0b : SVal) (x0c : SVal) (x0d : SVal) (x0e : SVal) (x1 : SVal) : Option Res :=
  ((T 72 [(.agg [(weak x0a), (weak x0b), (weak x0c), (weak x0d), (weak x0e)])]).bind fun r1 =>
   (sBin .eql r1.r (.int .i64 0)).bind fun r2 =>
   guardX r2 true
   ((sBin .geq x1 (.int .i64 0)).bind fun r3 =>
    guardX r3 true
    ((sLen x0a).bind fun r4 =>
     (sBin .lss x1 r4).bind fun r5 =>
     (asB r5).bind fun b6 =>
     some [b6])
    (some [false])
    (none))
   (some [false])
   (none)).bind fun vs7 =>
  some { r := (.bool (vs7.getD 0 false)) }
theorem r55 (T : Nat → List SVal → Option Res) (k : Nat) (x0a : SVal) (x0b : SVal) (x0c : SVal) (x0d : SVal) (x0e : SVal) (x1 : SVal) : bodyE P H T k 55 [(.agg [x0a, x0b, x0c, x0d, x0e]), x1] = R55 T k x0a x0b x0c x0d x0e x1 := by kernel_rfl
noncomputable def D55 (T : Nat → List SVal → Option Res) (k : Nat) : List SVal → Option Res
  | [(.agg [x0a, x0b, x0c, x0d, x0e]), x1] => R55 T k x0a x0b x0c x0d x0e x1
  | a => bodyE P H T k 55 a
theorem d55 (T : Nat → List SVal → Option Res) (k : Nat) (a : List SVal) : D55 T k a = bodyE P H T k 55 a := by
  unfold D55
  split
  · exact (r55 ..).symm
  · rfl
theorem t55 (k : Nat) (x0a : SVal) (x0b : SVal) (x0c : SVal) (x0d : SVal) (x0e : SVal) (x1 : SVal) : T (k + 1) 55 [(.agg [x0a, x0b, x0c, x0d, x0e]), x1] = R55 (T k) k x0a x0b x0c x0d x0e x1 := (by kernel_rfl : T (k + 1) 55 [(.agg [x0a, x0b, x0c, x0d, x0e]), x1] = bodyE P H (T k) k 55 [(.agg [x0a, x0b, x0c, x0d, x0e]), x1]).trans (r55 ..)
/-- limelight/inert.marked -/
def R56 (T : Nat → List SVal → Option Res) (k : Nat) (x0a : SVal) (x0b : SVal) (x0c : SVal) (x0d : SVal) (x0e : SVal) (x1 : SVal) : Option Res :=
  (T 57 [(.agg [(weak x0a), (weak x0b), (weak x0c), (weak x0d), (weak x0e)])]).bind fun r1 =>
  (T 45 [(weak x0a), x1]).bind fun r2 =>
  (sLen r2.r).bind fun r3 =>
  loopN (fun s4 next4 =>
   (sBin .lss s4.k5 s4.k4).bind fun r5 =>
   pickC r5
   ((sIdx false 1 s4.k3 s4.k5).bind fun e6 =>
    (T 77 [(weak (SVal.cell s4.k0 0)), e6, (.int .i64 3)]).bind fun r7 =>
    (guardX r7.r false
     ((sBin .eql e6 s4.k1).bind fun r8 =>
      (asB r8).bind fun b9 =>
      some [b9])
     (some [true])
     (none)).bind fun vs10 =>
    pickC (.bool (vs10.getD 0 false))
    (some { r := r7.r })
    ((sBin .add s4.k5 (.int .i64 1)).bind fun r11 =>
     next4 ⟨[(.rp [(SVal.cell s4.k0 0), (SVal.cell s4.k0 1), (SVal.cell s4.k0 2), (SVal.cell s4.k0 3), (SVal.cell s4.k0 4)]), s4.k1, r7.r, (weak s4.k3), s4.k4, r11], [], false⟩))
   (some { r := s4.k2 })) k ⟨[(.rp [x0a, x0b, x0c, x0d, x0e]), r1.r, (.bool false), (weak r2.r), r3, (.int .i64 0)], [], false⟩
theorem r56 (T : Nat → List SVal → Option Res) (k : Nat) (x0a : SVal) (x0b : SVal) (x0c : SVal) (x0d : SVal) (x0e : SVal) (x1 : SVal) : bodyE P H T k 56 [(.agg [x0a, x0b, x0c, x0d, x0e]), x1] = R56 T k x0a x0b x0c x0d x0e x1 := by kernel_rfl
noncomputable def D56 (T : Nat → List SVal → Option Res) (k : Nat) : List SVal → Option Res
  | [(.agg [x0a, x0b, x0c, x0d, x0e]), x1] => R56 T k x0a x0b x0c x0d x0e x1
  | a => bodyE P H T k 56 a
theorem d56 (T : Nat → List SVal → Option Res) (k : Nat) (a : List SVal) : D56 T k a = bodyE P H T k 56 a := by
  unfold D56
  split
  · exact (r56 ..).symm
  · rfl
theorem t56 (k : Nat) (x0a : SVal) (x0b : SVal) (x0c : SVal) (x0d : SVal) (x0e : SVal) (x1 : SVal) : T (k + 1) 56 [(.agg [x0a, x0b, x0c, x0d, x0e]), x1] = R56 (T k) k x0a x0b x0c x0d x0e x1 := (by kernel_rfl : T (k + 1) 56 [(.agg [x0a, x0b, x0c, x0d, x0e]), x1] = bodyE P H (T k) k 56 [(.agg [x0a, x0b, x0c, x0d, x0e]), x1]).trans (r56 ..)
/-- limelight/top.Highest -/
def R57 (T : Nat → List SVal → Option Res) (k : Nat) (x0a : SVal) (x0b : SVal) (x0c : SVal) (x0d : SVal) (x0e : SVal) : Option Res :=
  (T 72 [(.agg [(weak x0a), (weak x0b), (weak x0c), (weak x0d), (weak x0e)])]).bind fun r1 =>
  (sBin .eql r1.r (.int .i64 0)).bind fun r2 =>
  pickC r2
  ((T 85 [(weak x0e)]).bind fun r3 =>
   (callIt T r3.r).bind fun ys4 =>
   rangeN (fun s5 y5 next5 =>
    (tup2 y5).bind fun z6 =>
    (T 78 [(weak (SVal.cell s5.k0 2)), z6.2]).bind fun r7 =>
    pickC r7.r
    (if (oneS z6.2) = true then
     some { r := z6.2 }
     else none)
    (next5 ⟨[(.rp [(SVal.cell s5.k0 0), (SVal.cell s5.k0 1), (SVal.cell s5.k0 2), (SVal.cell s5.k0 3), (SVal.cell s5.k0 4)]), (.mb [s5.k1.c0])], [], false⟩)) (fun s8 =>
    some { r := (.int .i64 (-1)) }) ys4 ⟨[(.rp [x0a, x0b, x0c, x0d, x0e]), (.mb [(.int .i64 0)])], [], false⟩)
  (some { r := (.int .i64 (-1)) })
theorem r57 (T : Nat → List SVal → Option Res) (k : Nat) (x0a : SVal) (x0b : SVal) (x0c : SVal) (x0d : SVal) (x0e : SVal) : bodyE P H T k 57 [(.agg [x0a, x0b, x0c, x0d, x0e])] = R57 T k x0a x0b x0c x0d x0e := by kernel_rfl
noncomputable def D57 (T : Nat → List SVal → Option Res) (k : Nat) : List SVal → Option Res
  | [(.agg [x0a, x0b, x0c, x0d, x0e])] => R57 T k x0a x0b x0c x0d x0e
  | a => bodyE P H T k 57 a
theorem d57 (T : Nat → List SVal → Option Res) (k : Nat) (a : List SVal) : D57 T k a = bodyE P H T k 57 a := by
  unfold D57
  split
  · exact (r57 ..).symm
  · rfl
theorem t57 (k : Nat) (x0a : SVal) (x0b : SVal) (x0c : SVal) (x0d : SVal) (x0e : SVal) : T (k + 1) 57 [(.agg [x0a, x0b, x0c, x0d, x0e])] = R57 (T k) k x0a x0b x0c x0d x0e := (by kernel_rfl : T (k + 1) 57 [(.agg [x0a, x0b, x0c, x0d, x0e])] = bodyE P H (T k) k 57 [(.agg [x0a, x0b, x0c, x0d, x0e])]).trans (r57 ..)
/-- limelight/flat.Above -/
def R58 (T : Nat → List SVal → Option Res) (k : Nat) (x0 : SVal) (x1 : SVal) (x2 : SVal) : Option Res :=
  (T 45 [(weak x0), x2]).bind fun r1 =>
  (T 78 [(weak r1.r), x1]).bind fun r2 =>
  some { r := r2.r }
theorem r58 (T : Nat → List SVal → Option Res) (k : Nat) (x0 : SVal) (x1 : SVal) (x2 : SVal) : bodyE P H T k 58 [x0, x1, x2] = R58 T k x0 x1 x2 := by kernel_rfl
noncomputable def D58 (T : Nat → List SVal → Option Res) (k : Nat) : List SVal → Option Res
  | [x0, x1, x2] => R58 T k x0 x1 x2
  | a => bodyE P H T k 58 a
theorem d58 (T : Nat → List SVal → Option Res) (k : Nat) (a : List SVal) : D58 T k a = bodyE P H T k 58 a := by
  unfold D58
  split
  · exact (r58 ..).symm
  · rfl
theorem t58 (k : Nat) (x0 : SVal) (x1 : SVal) (x2 : SVal) : T (k + 1) 58 [x0, x1, x2] = R58 (T k) k x0 x1 x2 := (by kernel_rfl : T (k + 1) 58 [x0, x1, x2] = bodyE P H (T k) k 58 [x0, x1, x2]).trans (r58 ..)
/-- slices.Clip[[]int,int] -/
def R59 (T : Nat → List SVal → Option Res) (k : Nat) (x0 : SVal) : Option Res :=
  (sLen x0).bind fun r1 =>
  (sLen x0).bind fun r2 =>
  (sSlice3 1 x0 r1 r2).bind fun r3 =>
  some { r := (weak r3) }
theorem r59 (T : Nat → List SVal → Option Res) (k : Nat) (x0 : SVal) : bodyE P H T k 59 [x0] = R59 T k x0 := by kernel_rfl
noncomputable def D59 (T : Nat → List SVal → Option Res) (k : Nat) : List SVal → Option Res
  | [x0] => R59 T k x0
  | a => bodyE P H T k 59 a
theorem d59 (T : Nat → List SVal → Option Res) (k : Nat) (a : List SVal) : D59 T k a = bodyE P H T k 59 a := by
  unfold D59
  split
  · exact (r59 ..).symm
  · rfl
theorem t59 (k : Nat) (x0 : SVal) : T (k + 1) 59 [x0] = R59 (T k) k x0 := (by kernel_rfl : T (k + 1) 59 [x0] = bodyE P H (T k) k 59 [x0]).trans (r59 ..)
/-- limelight/limelightref02.Get -/
def R60 (T : Nat → List SVal → Option Res) (k : Nat) (x0 : SVal) (x1 : SVal) (x2 : SVal) : Option Res :=
  (T 18 [(weak x0), x1]).bind fun r1 =>
  (sNot r1.r).bind fun r2 =>
  pickC r2
  (some { r := (.tup [(.int .i64 0), (.bool false)]) })
  (loopN (fun s3 next3 =>
    (sIdx true 7 s3.k0 s3.k1).bind fun e4 =>
    (sLen (SVal.cell e4 6)).bind fun r5 =>
    (sBin .lss s3.k3 r5).bind fun r6 =>
    pickC r6
    ((sIdx true 7 s3.k0 s3.k1).bind fun e7 =>
     (sIdx true 2 (SVal.cell e7 6) s3.k3).bind fun e8 =>
     (sBin .eql (SVal.cell e8 0) s3.k2).bind fun r9 =>
     pickC r9
     ((sIdx true 7 s3.k0 s3.k1).bind fun e10 =>
      (sIdx true 2 (SVal.cell e10 6) s3.k3).bind fun e11 =>
      some { r := (.tup [(SVal.cell e11 1), (.bool true)]) })
     ((sBin .add s3.k3 (.int .i64 1)).bind fun r12 =>
      next3 ⟨[(weak s3.k0), s3.k1, s3.k2, r12], [], false⟩))
    (some { r := (.tup [(.int .i64 0), (.bool false)]) })) k ⟨[(weak x0), x1, x2, (.int .i64 0)], [], false⟩)
theorem r60 (T : Nat → List SVal → Option Res) (k : Nat) (x0 : SVal) (x1 : SVal) (x2 : SVal) : bodyE P H T k 60 [x0, x1, x2] = R60 T k x0 x1 x2 := by kernel_rfl
noncomputable def D60 (T : Nat → List SVal → Option Res) (k : Nat) : List SVal → Option Res
  | [x0, x1, x2] => R60 T k x0 x1 x2
  | a => bodyE P H T k 60 a
theorem d60 (T : Nat → List SVal → Option Res) (k : Nat) (a : List SVal) : D60 T k a = bodyE P H T k 60 a := by
  unfold D60
  split
  · exact (r60 ..).symm
  · rfl
theorem t60 (k : Nat) (x0 : SVal) (x1 : SVal) (x2 : SVal) : T (k + 1) 60 [x0, x1, x2] = R60 (T k) k x0 x1 x2 := (by kernel_rfl : T (k + 1) 60 [x0, x1, x2] = bodyE P H (T k) k 60 [x0, x1, x2]).trans (r60 ..)
/-- limelight/limelightref10.Dialogs -/
def R61 (T : Nat → List SVal → Option Res) (k : Nat) (x0 : SVal) (x1 : SVal) : Option Res :=
  ((T 18 [(weak x0), x1]).bind fun r1 =>
   guardX r1.r true
   ((sIdx true 7 x0 x1).bind fun e2 =>
    (sBin .eql (SVal.cell e2 0) (.int .i64 1)).bind fun r3 =>
    guardX r3 true
    ((sIdx true 7 x0 x1).bind fun e4 =>
     (sBin .eql (SVal.cell e4 1) (.int .i64 2)).bind fun r5 =>
     guardX r5 true
     ((T 86 [(weak x0), x1]).bind fun r6 =>
      (asB r6.r).bind fun b7 =>
      some [b7])
     (some [false])
     (none))
    (some [false])
    (none))
   (some [false])
   (none)).bind fun vs8 =>
  some { r := (.bool (vs8.getD 0 false)) }
theorem r61 (T : Nat → List SVal → Option Res) (k : Nat) (x0 : SVal) (x1 : SVal) : bodyE P H T k 61 [x0, x1] = R61 T k x0 x1 := by kernel_rfl
noncomputable def D61 (T : Nat → List SVal → Option Res) (k : Nat) : List SVal → Option Res
  | [x0, x1] => R61 T k x0 x1
  | a => bodyE P H T k 61 a
theorem d61 (T : Nat → List SVal → Option Res) (k : Nat) (a : List SVal) : D61 T k a = bodyE P H T k 61 a := by
  unfold D61
  split
  · exact (r61 ..).symm
  · rfl
theorem t61 (k : Nat) (x0 : SVal) (x1 : SVal) : T (k + 1) 61 [x0, x1] = R61 (T k) k x0 x1 := (by kernel_rfl : T (k + 1) 61 [x0, x1] = bodyE P H (T k) k 61 [x0, x1]).trans (r61 ..)
/-- limelight/limelightref10.IsOpen -/
def R62 (T : Nat → List SVal → Option Res) (k : Nat) (x0a : SVal) (x0b : SVal) (x0c : SVal) (x0d : SVal) (x0e : SVal) (x1 : SVal) : Option Res :=
  (T 69 [(.agg [(weak x0a), (weak x0b), (weak x0c), (weak x0d), (weak x0e)])]).bind fun r1 =>
  (T 24 [(weak r1.r), x1]).bind fun r2 =>
  if isSc1 r2.r = true then
  some { r := r2.r }
  else none
theorem r62 (T : Nat → List SVal → Option Res) (k : Nat) (x0a : SVal) (x0b : SVal) (x0c : SVal) (x0d : SVal) (x0e : SVal) (x1 : SVal) : bodyE P H T k 62 [(.agg [x0a, x0b, x0c, x0d, x0e]), x1] = R62 T k x0a x0b x0c x0d x0e x1 := by kernel_rfl
noncomputable def D62 (T : Nat → List SVal → Option Res) (k : Nat) : List SVal → Option Res
  | [(.agg [x0a, x0b, x0c, x0d, x0e]), x1] => R62 T k x0a x0b x0c x0d x0e x1
  | a => bodyE P H T k 62 a
theorem d62 (T : Nat → List SVal → Option Res) (k : Nat) (a : List SVal) : D62 T k a = bodyE P H T k 62 a := by
  unfold D62
  split
  · exact (r62 ..).symm
  · rfl
theorem t62 (k : Nat) (x0a : SVal) (x0b : SVal) (x0c : SVal) (x0d : SVal) (x0e : SVal) (x1 : SVal) : T (k + 1) 62 [(.agg [x0a, x0b, x0c, x0d, x0e]), x1] = R62 (T k) k x0a x0b x0c x0d x0e x1 := (by kernel_rfl : T (k + 1) 62 [(.agg [x0a, x0b, x0c, x0d, x0e]), x1] = bodyE P H (T k) k 62 [(.agg [x0a, x0b, x0c, x0d, x0e]), x1]).trans (r62 ..)
/-- limelight/limelightref10.Copy -/
def R63 (T : Nat → List SVal → Option Res) (k : Nat) (x0a : SVal) (x0b : SVal) (x0c : SVal) (x0d : SVal) (x0e : SVal) : Option Res :=
  (T 25 [(weak x0a)]).bind fun r1 =>
  (elems 1 x0b).bind fun ys2 =>
  if ys2.length * 8 ≤ maxAppend then
  (elems 1 x0c).bind fun ys3 =>
  if ys3.length * 8 ≤ maxAppend then
  (elems 2 x0d).bind fun ys4 =>
  if ys4.length * 16 ≤ maxAppend then
  (elems 1 x0e).bind fun ys5 =>
  if ys5.length * 8 ≤ maxAppend then
  some { r := (.agg [(.sl 7 false false r1.r.xs), (.sl 1 true false ys2), (.sl 1 true false ys3), (.sl 2 true false ys4), (.sl 1 true false ys5)]) }
  else none
  else none
  else none
  else none
theorem r63 (T : Nat → List SVal → Option Res) (k : Nat) (x0a : SVal) (x0b : SVal) (x0c : SVal) (x0d : SVal) (x0e : SVal) : bodyE P H T k 63 [(.agg [x0a, x0b, x0c, x0d, x0e])] = R63 T k x0a x0b x0c x0d x0e := by kernel_rfl
noncomputable def D63 (T : Nat → List SVal → Option Res) (k : Nat) : List SVal → Option Res
  | [(.agg [x0a, x0b, x0c, x0d, x0e])] => R63 T k x0a x0b x0c x0d x0e
  | a => bodyE P H T k 63 a
theorem d63 (T : Nat → List SVal → Option Res) (k : Nat) (a : List SVal) : D63 T k a = bodyE P H T k 63 a := by
  unfold D63
  split
  · exact (r63 ..).symm
  · rfl
theorem t63 (k : Nat) (x0a : SVal) (x0b : SVal) (x0c : SVal) (x0d : SVal) (x0e : SVal) : T (k + 1) 63 [(.agg [x0a, x0b, x0c, x0d, x0e])] = R63 (T k) k x0a x0b x0c x0d x0e := (by kernel_rfl : T (k + 1) 63 [(.agg [x0a, x0b, x0c, x0d, x0e])] = bodyE P H (T k) k 63 [(.agg [x0a, x0b, x0c, x0d, x0e])]).trans (r63 ..)
/-- limelight/limelightref01.kind -/
def R64 (T : Nat → List SVal → Option Res) (k : Nat) (x0a : SVal) (x0b : SVal) (x0c : SVal) (x0d : SVal) (x0e : SVal) (x0f : SVal) (x0g : SVal) (x1 : SVal) : Option Res :=
  ((sBin .eql x0a (.int .i64 0)).bind fun r1 =>
   (sBin .eql x1 (.int .i64 0)).bind fun r2 =>
   (sBinB .neq r1 r2).bind fun r3 =>
   guardX r3 false
   ((sBin .lss x0a (.int .i64 0)).bind fun r4 =>
    guardX r4 false
    ((sBin .gtr x0a (.int .i64 3)).bind fun r5 =>
     (asB r5).bind fun b6 =>
     some [b6])
    (some [true])
    (none))
   (some [true])
   (none)).bind fun vs7 =>
  pickC (.bool (vs7.getD 0 false))
  (some { r := (.bool false) })
  ((sBin .eql x0a (.int .i64 1)).bind fun r8 =>
   pickC r8
   (((sBin .geq x0b (.int .i64 0)).bind fun r9 =>
     guardX r9 true
     ((sBin .leq x0b (.int .i64 4)).bind fun r10 =>
      (asB r10).bind fun b11 =>
      some [b11])
     (some [false])
     (none)).bind fun vs12 =>
    some { r := (.bool (vs12.getD 0 false)) })
   ((sBin .eql x0b (.int .i64 0)).bind fun r13 =>
    some { r := r13 }))
theorem r64 (T : Nat → List SVal → Option Res) (k : Nat) (x0a : SVal) (x0b : SVal) (x0c : SVal) (x0d : SVal) (x0e : SVal) (x0f : SVal) (x0g : SVal) (x1 : SVal) : bodyE P H T k 64 [(.agg [x0a, x0b, x0c, x0d, x0e, x0f, x0g]), x1] = R64 T k x0a x0b x0c x0d x0e x0f x0g x1 := by kernel_rfl
noncomputable def D64 (T : Nat → List SVal → Option Res) (k : Nat) : List SVal → Option Res
  | [(.agg [x0a, x0b, x0c, x0d, x0e, x0f, x0g]), x1] => R64 T k x0a x0b x0c x0d x0e x0f x0g x1
  | a => bodyE P H T k 64 a
theorem d64 (T : Nat → List SVal → Option Res) (k : Nat) (a : List SVal) : D64 T k a = bodyE P H T k 64 a := by
  unfold D64
  split
  · exact (r64 ..).symm
  · rfl
theorem t64 (k : Nat) (x0a : SVal) (x0b : SVal) (x0c : SVal) (x0d : SVal) (x0e : SVal) (x0f : SVal) (x0g : SVal) (x1 : SVal) : T (k + 1) 64 [(.agg [x0a, x0b, x0c, x0d, x0e, x0f, x0g]), x1] = R64 (T k) k x0a x0b x0c x0d x0e x0f x0g x1 := (by kernel_rfl : T (k + 1) 64 [(.agg [x0a, x0b, x0c, x0d, x0e, x0f, x0g]), x1] = bodyE P H (T k) k 64 [(.agg [x0a, x0b, x0c, x0d, x0e, x0f, x0g]), x1]).trans (r64 ..)
/-- limelight/limelightref01.attrs -/
def R65 (T : Nat → List SVal → Option Res) (k : Nat) (x0a : SVal) (x0b : SVal) (x0c : SVal) (x0d : SVal) (x0e : SVal) (x0f : SVal) (x0g : SVal) : Option Res :=
  loopN (fun s1 next1 =>
   (sLen (SVal.cell s1.k0 6)).bind fun r2 =>
   (sBin .lss s1.k1 r2).bind fun r3 =>
   pickC r3
   (((sIdx true 2 (SVal.cell s1.k0 6) s1.k1).bind fun e4 =>
     (T 87 [(SVal.cell s1.k0 0), (.agg [(SVal.cell e4 0), (SVal.cell e4 1)])]).bind fun r5 =>
     (sNot r5.r).bind fun r6 =>
     guardX r6 false
     ((sBin .gtr s1.k1 (.int .i64 0)).bind fun r7 =>
      guardX r7 true
      ((sIdx true 2 (SVal.cell s1.k0 6) s1.k1).bind fun e8 =>
       (sBin .sub s1.k1 (.int .i64 1)).bind fun r9 =>
       (sIdx true 2 (SVal.cell s1.k0 6) r9).bind fun e10 =>
       (sBin .leq (SVal.cell e8 0) (SVal.cell e10 0)).bind fun r11 =>
       (asB r11).bind fun b12 =>
       some [b12])
      (some [false])
      (none))
     (some [true])
     (none)).bind fun vs13 =>
    pickC (.bool (vs13.getD 0 false))
    (some { r := (.bool false) })
    ((sBin .add s1.k1 (.int .i64 1)).bind fun r14 =>
     next1 ⟨[(.rp [(SVal.cell s1.k0 0), (SVal.cell s1.k0 1), (SVal.cell s1.k0 2), (SVal.cell s1.k0 3), (SVal.cell s1.k0 4), (SVal.cell s1.k0 5), (SVal.cell s1.k0 6)]), r14], [], false⟩))
   (some { r := (.bool true) })) k ⟨[(.rp [x0a, x0b, x0c, x0d, x0e, x0f, x0g]), (.int .i64 0)], [], false⟩
theorem r65 (T : Nat → List SVal → Option Res) (k : Nat) (x0a : SVal) (x0b : SVal) (x0c : SVal) (x0d : SVal) (x0e : SVal) (x0f : SVal) (x0g : SVal) : bodyE P H T k 65 [(.agg [x0a, x0b, x0c, x0d, x0e, x0f, x0g])] = R65 T k x0a x0b x0c x0d x0e x0f x0g := by kernel_rfl
noncomputable def D65 (T : Nat → List SVal → Option Res) (k : Nat) : List SVal → Option Res
  | [(.agg [x0a, x0b, x0c, x0d, x0e, x0f, x0g])] => R65 T k x0a x0b x0c x0d x0e x0f x0g
  | a => bodyE P H T k 65 a
theorem d65 (T : Nat → List SVal → Option Res) (k : Nat) (a : List SVal) : D65 T k a = bodyE P H T k 65 a := by
  unfold D65
  split
  · exact (r65 ..).symm
  · rfl
theorem t65 (k : Nat) (x0a : SVal) (x0b : SVal) (x0c : SVal) (x0d : SVal) (x0e : SVal) (x0f : SVal) (x0g : SVal) : T (k + 1) 65 [(.agg [x0a, x0b, x0c, x0d, x0e, x0f, x0g])] = R65 (T k) k x0a x0b x0c x0d x0e x0f x0g := (by kernel_rfl : T (k + 1) 65 [(.agg [x0a, x0b, x0c, x0d, x0e, x0f, x0g])] = bodyE P H (T k) k 65 [(.agg [x0a, x0b, x0c, x0d, x0e, x0f, x0g])]).trans (r65 ..)
/-- limelight/limelightref01.kids -/
def R66 (T : Nat → List SVal → Option Res) (k : Nat) (x0 : SVal) (x1 : SVal) : Option Res :=
  (sIdx true 7 x0 x1).bind fun e1 =>
  if (allOne [.v (SVal.cell e1 0), .v (SVal.cell e1 1), .v (SVal.cell e1 2), .v (SVal.cell e1 3), .v (SVal.cell e1 4), .v (SVal.cell e1 5), .v (SVal.cell e1 6)]) = true then
  loopN (fun s2 next2 =>
   (sLen (SVal.cell s2.k2 3)).bind fun r3 =>
   (sBin .lss s2.k3 r3).bind fun r4 =>
   pickC r4
   ((sIdx false 1 (SVal.cell s2.k2 3) s2.k3).bind fun e5 =>
    ((T 18 [(weak s2.k0), e5]).bind fun r6 =>
     (sNot r6.r).bind fun r7 =>
     guardX r7 false
     ((T 88 [(weak (SVal.cell s2.k2 3)), e5]).bind fun r8 =>
      (sBin .neq r8.r (.int .i64 1)).bind fun r9 =>
      (asB r9).bind fun b10 =>
      some [b10])
     (some [true])
     (none)).bind fun vs11 =>
    pickC (.bool (vs11.getD 0 false))
    (some { r := (.bool false) })
    (((sIdx true 7 s2.k0 e5).bind fun e12 =>
      (sBin .neq (SVal.cell e12 2) s2.k1).bind fun r13 =>
      guardX r13 false
      ((sIdx true 7 s2.k0 e5).bind fun e14 =>
       (sBin .neq (SVal.cell e14 0) (.int .i64 1)).bind fun r15 =>
       guardX r15 true
       ((sIdx true 7 s2.k0 e5).bind fun e16 =>
        (sBin .neq (SVal.cell e16 0) (.int .i64 2)).bind fun r17 =>
        (asB r17).bind fun b18 =>
        some [b18])
       (some [false])
       (none))
      (some [true])
      (none)).bind fun vs19 =>
     pickC (.bool (vs19.getD 0 false))
     (some { r := (.bool false) })
     ((sBin .add s2.k3 (.int .i64 1)).bind fun r20 =>
      next2 ⟨[(weak s2.k0), s2.k1, (.rp [(SVal.cell s2.k2 0), (SVal.cell s2.k2 1), (SVal.cell s2.k2 2), (SVal.cell s2.k2 3), (SVal.cell s2.k2 4), (SVal.cell s2.k2 5), (SVal.cell s2.k2 6)]), r20], [], false⟩)))
   (((sBin .eql (SVal.cell s2.k2 0) (.int .i64 2)).bind fun r21 =>
     guardX r21 true
     ((sLen (SVal.cell s2.k2 3)).bind fun r22 =>
      (sBin .gtr r22 (.int .i64 0)).bind fun r23 =>
      (asB r23).bind fun b24 =>
      some [b24])
     (some [false])
     (none)).bind fun vs25 =>
    pickC (.bool (vs25.getD 0 false))
    (some { r := (.bool false) })
    ((sBin .eql (SVal.cell s2.k2 2) (.int .i64 (-1))).bind fun r26 =>
     pickC r26
     (some { r := (.bool true) })
     (((T 18 [(weak s2.k0), (SVal.cell s2.k2 2)]).bind fun r27 =>
       guardX r27.r true
       ((sIdx true 7 s2.k0 (SVal.cell s2.k2 2)).bind fun e28 =>
        (T 88 [(weak (SVal.cell e28 3)), s2.k1]).bind fun r29 =>
        (sBin .eql r29.r (.int .i64 1)).bind fun r30 =>
        (asB r30).bind fun b31 =>
        some [b31])
       (some [false])
       (none)).bind fun vs32 =>
      some { r := (.bool (vs32.getD 0 false)) })))) k ⟨[(weak x0), x1, (.rp [(SVal.cell e1 0), (SVal.cell e1 1), (SVal.cell e1 2), (SVal.cell e1 3), (SVal.cell e1 4), (SVal.cell e1 5), (SVal.cell e1 6)]), (.int .i64 0)], [], false⟩
  else none
theorem r66 (T : Nat → List SVal → Option Res) (k : Nat) (x0 : SVal) (x1 : SVal) : bodyE P H T k 66 [x0, x1] = R66 T k x0 x1 := by kernel_rfl
noncomputable def D66 (T : Nat → List SVal → Option Res) (k : Nat) : List SVal → Option Res
  | [x0, x1] => R66 T k x0 x1
  | a => bodyE P H T k 66 a
theorem d66 (T : Nat → List SVal → Option Res) (k : Nat) (a : List SVal) : D66 T k a = bodyE P H T k 66 a := by
  unfold D66
  split
  · exact (r66 ..).symm
  · rfl
theorem t66 (k : Nat) (x0 : SVal) (x1 : SVal) : T (k + 1) 66 [x0, x1] = R66 (T k) k x0 x1 := (by kernel_rfl : T (k + 1) 66 [x0, x1] = bodyE P H (T k) k 66 [x0, x1]).trans (r66 ..)
/-- limelight/limelightref01.shadow -/
def R67 (T : Nat → List SVal → Option Res) (k : Nat) (x0 : SVal) (x1 : SVal) : Option Res :=
  (sIdx true 7 x0 x1).bind fun e1 =>
  if (allOne [.v (SVal.cell e1 0), .v (SVal.cell e1 1), .v (SVal.cell e1 2), .v (SVal.cell e1 3), .v (SVal.cell e1 4), .v (SVal.cell e1 5), .v (SVal.cell e1 6)]) = true then
  (sBin .eql (SVal.cell e1 0) (.int .i64 3)).bind fun r2 =>
  pickC r2
  (((sBin .eql (SVal.cell e1 5) (.int .i64 (-1))).bind fun r3 =>
    guardX r3 true
    ((sBin .eql (SVal.cell e1 2) (.int .i64 (-1))).bind fun r4 =>
     guardX r4 true
     ((T 18 [(weak x0), (SVal.cell e1 4)]).bind fun r5 =>
      guardX r5.r true
      ((sIdx true 7 x0 (SVal.cell e1 4)).bind fun e6 =>
       (sBin .eql (SVal.cell e6 0) (.int .i64 1)).bind fun r7 =>
       guardX r7 true
       ((sIdx true 7 x0 (SVal.cell e1 4)).bind fun e8 =>
        (sBin .eql (SVal.cell e8 5) x1).bind fun r9 =>
        (asB r9).bind fun b10 =>
        some [b10])
       (some [false])
       (none))
      (some [false])
      (none))
     (some [false])
     (none))
    (some [false])
    (none)).bind fun vs11 =>
   some { r := (.bool (vs11.getD 0 false)) })
  ((sBin .neq (SVal.cell e1 4) (.int .i64 (-1))).bind fun r12 =>
   pickC r12
   (some { r := (.bool false) })
   ((sBin .eql (SVal.cell e1 5) (.int .i64 (-1))).bind fun r13 =>
    pickC r13
    (some { r := (.bool true) })
    (((sBin .eql (SVal.cell e1 0) (.int .i64 1)).bind fun r14 =>
      guardX r14 true
      ((T 18 [(weak x0), (SVal.cell e1 5)]).bind fun r15 =>
       guardX r15.r true
       ((sIdx true 7 x0 (SVal.cell e1 5)).bind fun e16 =>
        (sBin .eql (SVal.cell e16 0) (.int .i64 3)).bind fun r17 =>
        guardX r17 true
        ((sIdx true 7 x0 (SVal.cell e1 5)).bind fun e18 =>
         (sBin .eql (SVal.cell e18 4) x1).bind fun r19 =>
         (asB r19).bind fun b20 =>
         some [b20])
        (some [false])
        (none))
       (some [false])
       (none))
      (some [false])
      (none)).bind fun vs21 =>
     some { r := (.bool (vs21.getD 0 false)) })))
  else none
theorem r67 (T : Nat → List SVal → Option Res) (k : Nat) (x0 : SVal) (x1 : SVal) : bodyE P H T k 67 [x0, x1] = R67 T k x0 x1 := by kernel_rfl
noncomputable def D67 (T : Nat → List SVal → Option Res) (k : Nat) : List SVal → Option Res
  | [x0, x1] => R67 T k x0 x1
  | a => bodyE P H T k 67 a
theorem d67 (T : Nat → List SVal → Option Res) (k : Nat) (a : List SVal) : D67 T k a = bodyE P H T k 67 a := by
  unfold D67
  split
  · exact (r67 ..).symm
  · rfl
theorem t67 (k : Nat) (x0 : SVal) (x1 : SVal) : T (k + 1) 67 [x0, x1] = R67 (T k) k x0 x1 := (by kernel_rfl : T (k + 1) 67 [x0, x1] = bodyE P H (T k) k 67 [x0, x1]).trans (r67 ..)
/-- limelight/limelightref01.ends -/
def R68 (T : Nat → List SVal → Option Res) (k : Nat) (x0 : SVal) (x1 : SVal) : Option Res :=
  loopN (fun s1 next1 =>
   (sLen s1.k0).bind fun r2 =>
   (sBin .leq s1.k2 r2).bind fun r3 =>
   pickC r3
   ((sBin .eql s1.k1 (.int .i64 (-1))).bind fun r4 =>
    pickC r4
    (some { r := (.bool true) })
    ((T 89 [(weak s1.k0), s1.k1]).bind fun r5 =>
     (sBin .add s1.k2 (.int .i64 1)).bind fun r6 =>
     next1 ⟨[(weak s1.k0), r5.r, r6], [], false⟩))
   (some { r := (.bool false) })) k ⟨[(weak x0), x1, (.int .i64 0)], [], false⟩
theorem r68 (T : Nat → List SVal → Option Res) (k : Nat) (x0 : SVal) (x1 : SVal) : bodyE P H T k 68 [x0, x1] = R68 T k x0 x1 := by kernel_rfl
noncomputable def D68 (T : Nat → List SVal → Option Res) (k : Nat) : List SVal → Option Res
  | [x0, x1] => R68 T k x0 x1
  | a => bodyE P H T k 68 a
theorem d68 (T : Nat → List SVal → Option Res) (k : Nat) (a : List SVal) : D68 T k a = bodyE P H T k 68 a := by
  unfold D68
  split
  · exact (r68 ..).symm
  · rfl
theorem t68 (k : Nat) (x0 : SVal) (x1 : SVal) : T (k + 1) 68 [x0, x1] = R68 (T k) k x0 x1 := (by kernel_rfl : T (k + 1) 68 [x0, x1] = bodyE P H (T k) k 68 [x0, x1]).trans (r68 ..)
/-- limelight/limelightref10.open -/
def R69 (T : Nat → List SVal → Option Res) (k : Nat) (x0a : SVal) (x0b : SVal) (x0c : SVal) (x0d : SVal) (x0e : SVal) : Option Res :=
  (elems 1 x0b).bind fun ys1 =>
  if ys1.length * 8 ≤ maxAppend then
  (elems 1 x0c).bind fun ys2 =>
  if (ys1.length + ys2.length) * 8 ≤ maxAppend then
  (T 52 [(weak x0d)]).bind fun r3 =>
  (elems 1 r3.r).bind fun ys4 =>
  if ((ys1 ++ ys2).length + ys4.length) * 8 ≤ maxAppend then
  some { r := (.sl 1 false false ((ys1 ++ ys2) ++ ys4)) }
  else none
  else none
  else none
theorem r69 (T : Nat → List SVal → Option Res) (k : Nat) (x0a : SVal) (x0b : SVal) (x0c : SVal) (x0d : SVal) (x0e : SVal) : bodyE P H T k 69 [(.agg [x0a, x0b, x0c, x0d, x0e])] = R69 T k x0a x0b x0c x0d x0e := by kernel_rfl
noncomputable def D69 (T : Nat → List SVal → Option Res) (k : Nat) : List SVal → Option Res
  | [(.agg [x0a, x0b, x0c, x0d, x0e])] => R69 T k x0a x0b x0c x0d x0e
  | a => bodyE P H T k 69 a
theorem d69 (T : Nat → List SVal → Option Res) (k : Nat) (a : List SVal) : D69 T k a = bodyE P H T k 69 a := by
  unfold D69
  split
  · exact (r69 ..).symm
  · rfl
theorem t69 (k : Nat) (x0a : SVal) (x0b : SVal) (x0c : SVal) (x0d : SVal) (x0e : SVal) : T (k + 1) 69 [(.agg [x0a, x0b, x0c, x0d, x0e])] = R69 (T k) k x0a x0b x0c x0d x0e := (by kernel_rfl : T (k + 1) 69 [(.agg [x0a, x0b, x0c, x0d, x0e])] = bodyE P H (T k) k 69 [(.agg [x0a, x0b, x0c, x0d, x0e])]).trans (r69 ..)
/-- limelight/limelightref10.Popups -/
def R70 (T : Nat → List SVal → Option Res) (k : Nat) (x0 : SVal) (x1 : SVal) : Option Res :=
  ((T 18 [(weak x0), x1]).bind fun r1 =>
   guardX r1.r true
   ((sIdx true 7 x0 x1).bind fun e2 =>
    (sBin .eql (SVal.cell e2 0) (.int .i64 1)).bind fun r3 =>
    guardX r3 true
    ((T 36 [(weak x0), x1, (.int .i64 6)]).bind fun r4 =>
     guardX r4.r true
     ((T 86 [(weak x0), x1]).bind fun r5 =>
      (asB r5.r).bind fun b6 =>
      some [b6])
     (some [false])
     (none))
    (some [false])
    (none))
   (some [false])
   (none)).bind fun vs7 =>
  some { r := (.bool (vs7.getD 0 false)) }
theorem r70 (T : Nat → List SVal → Option Res) (k : Nat) (x0 : SVal) (x1 : SVal) : bodyE P H T k 70 [x0, x1] = R70 T k x0 x1 := by kernel_rfl
noncomputable def D70 (T : Nat → List SVal → Option Res) (k : Nat) : List SVal → Option Res
  | [x0, x1] => R70 T k x0 x1
  | a => bodyE P H T k 70 a
theorem d70 (T : Nat → List SVal → Option Res) (k : Nat) (a : List SVal) : D70 T k a = bodyE P H T k 70 a := by
  unfold D70
  split
  · exact (r70 ..).symm
  · rfl
theorem t70 (k : Nat) (x0 : SVal) (x1 : SVal) : T (k + 1) 70 [x0, x1] = R70 (T k) k x0 x1 := (by kernel_rfl : T (k + 1) 70 [x0, x1] = bodyE P H (T k) k 70 [x0, x1]).trans (r70 ..)
/-- limelight/limelightref10.Once -/
def R71 (T : Nat → List SVal → Option Res) (k : Nat) (x0 : SVal) : Option Res :=
  loopN (fun s1 next1 =>
   (sLen s1.k0).bind fun r2 =>
   (sBin .lss s1.k1 r2).bind fun r3 =>
   pickC r3
   ((sIdx false 1 s1.k0 s1.k1).bind fun e4 =>
    (T 27 [(weak s1.k0), e4]).bind fun r5 =>
    (sBin .neq r5.r s1.k1).bind fun r6 =>
    pickC r6
    (some { r := (.bool false) })
    ((sBin .add s1.k1 (.int .i64 1)).bind fun r7 =>
     next1 ⟨[(weak s1.k0), r7], [], false⟩))
   (some { r := (.bool true) })) k ⟨[(weak x0), (.int .i64 0)], [], false⟩
theorem r71 (T : Nat → List SVal → Option Res) (k : Nat) (x0 : SVal) : bodyE P H T k 71 [x0] = R71 T k x0 := by kernel_rfl
noncomputable def D71 (T : Nat → List SVal → Option Res) (k : Nat) : List SVal → Option Res
  | [x0] => R71 T k x0
  | a => bodyE P H T k 71 a
theorem d71 (T : Nat → List SVal → Option Res) (k : Nat) (a : List SVal) : D71 T k a = bodyE P H T k 71 a := by
  unfold D71
  split
  · exact (r71 ..).symm
  · rfl
theorem t71 (k : Nat) (x0 : SVal) : T (k + 1) 71 [x0] = R71 (T k) k x0 := (by kernel_rfl : T (k + 1) 71 [x0] = bodyE P H (T k) k 71 [x0]).trans (r71 ..)
/-- limelight/top.Check -/
def R72 (T : Nat → List SVal → Option Res) (k : Nat) (x0a : SVal) (x0b : SVal) (x0c : SVal) (x0d : SVal) (x0e : SVal) : Option Res :=
  (T 90 [(weak x0a)]).bind fun r1 =>
  (sBin .neq r1.r (.int .i64 0)).bind fun r2 =>
  pickC r2
  (some { r := (.int .i64 1) })
  ((T 91 [(.agg [(weak x0a), (weak x0b), (weak x0c), (weak x0d), (weak x0e)])]).bind fun r3 =>
   (sNot r3.r).bind fun r4 =>
   pickC r4
   (some { r := (.int .i64 9) })
   (some { r := (.int .i64 0) }))
theorem r72 (T : Nat → List SVal → Option Res) (k : Nat) (x0a : SVal) (x0b : SVal) (x0c : SVal) (x0d : SVal) (x0e : SVal) : bodyE P H T k 72 [(.agg [x0a, x0b, x0c, x0d, x0e])] = R72 T k x0a x0b x0c x0d x0e := by kernel_rfl
noncomputable def D72 (T : Nat → List SVal → Option Res) (k : Nat) : List SVal → Option Res
  | [(.agg [x0a, x0b, x0c, x0d, x0e])] => R72 T k x0a x0b x0c x0d x0e
  | a => bodyE P H T k 72 a
theorem d72 (T : Nat → List SVal → Option Res) (k : Nat) (a : List SVal) : D72 T k a = bodyE P H T k 72 a := by
  unfold D72
  split
  · exact (r72 ..).symm
  · rfl
theorem t72 (k : Nat) (x0a : SVal) (x0b : SVal) (x0c : SVal) (x0d : SVal) (x0e : SVal) : T (k + 1) 72 [(.agg [x0a, x0b, x0c, x0d, x0e])] = R72 (T k) k x0a x0b x0c x0d x0e := (by kernel_rfl : T (k + 1) 72 [(.agg [x0a, x0b, x0c, x0d, x0e])] = bodyE P H (T k) k 72 [(.agg [x0a, x0b, x0c, x0d, x0e])]).trans (r72 ..)
/-- slices.IndexFunc[[]int,int] -/
def R73 (T : Nat → List SVal → Option Res) (k : Nat) (x0 : SVal) (x1 : SVal) : Option Res :=
  (sLen x0).bind fun r1 =>
  loopN (fun s2 next2 =>
   (sBin .lss s2.k3 s2.k2).bind fun r3 =>
   pickC r3
   ((sIdx false 1 s2.k0 s2.k3).bind fun e4 =>
    (callV H T s2.k1 [e4]).bind fun y5 =>
    pickC y5
    (some { r := s2.k3 })
    ((sBin .add s2.k3 (.int .i64 1)).bind fun r6 =>
     next2 ⟨[(weak s2.k0), s2.k1, s2.k2, r6], [], false⟩))
   (some { r := (.int .i64 (-1)) })) k ⟨[(weak x0), x1, r1, (.int .i64 0)], [], false⟩
theorem r73 (T : Nat → List SVal → Option Res) (k : Nat) (x0 : SVal) (x1 : SVal) : bodyE P H T k 73 [x0, x1] = R73 T k x0 x1 := by kernel_rfl
noncomputable def D73 (T : Nat → List SVal → Option Res) (k : Nat) : List SVal → Option Res
  | [x0, x1] => R73 T k x0 x1
  | a => bodyE P H T k 73 a
theorem d73 (T : Nat → List SVal → Option Res) (k : Nat) (a : List SVal) : D73 T k a = bodyE P H T k 73 a := by
  unfold D73
  split
  · exact (r73 ..).symm
  · rfl
theorem t73 (k : Nat) (x0 : SVal) (x1 : SVal) : T (k + 1) 73 [x0, x1] = R73 (T k) k x0 x1 := (by kernel_rfl : T (k + 1) 73 [x0, x1] = bodyE P H (T k) k 73 [x0, x1]).trans (r73 ..)
/-- limelight/flat.is -/
def R74 (T : Nat → List SVal → Option Res) (k : Nat) (x0 : SVal) (x1 : SVal) : Option Res :=
  (T 92 [(weak x0), x1]).bind fun r1 =>
  (sBin .neq r1.r (.int .i64 (-1))).bind fun r2 =>
  some { r := r2 }
theorem r74 (T : Nat → List SVal → Option Res) (k : Nat) (x0 : SVal) (x1 : SVal) : bodyE P H T k 74 [x0, x1] = R74 T k x0 x1 := by kernel_rfl
noncomputable def D74 (T : Nat → List SVal → Option Res) (k : Nat) : List SVal → Option Res
  | [x0, x1] => R74 T k x0 x1
  | a => bodyE P H T k 74 a
theorem d74 (T : Nat → List SVal → Option Res) (k : Nat) (a : List SVal) : D74 T k a = bodyE P H T k 74 a := by
  unfold D74
  split
  · exact (r74 ..).symm
  · rfl
theorem t74 (k : Nat) (x0 : SVal) (x1 : SVal) : T (k + 1) 74 [x0, x1] = R74 (T k) k x0 x1 := (by kernel_rfl : T (k + 1) 74 [x0, x1] = bodyE P H (T k) k 74 [x0, x1]).trans (r74 ..)
/-- limelight/flat.up -/
def R75 (T : Nat → List SVal → Option Res) (k : Nat) (x0 : SVal) (x1 : SVal) : Option Res :=
  if (oneS x0) = true then
  if (oneS x1) = true then
  some { r := (.fn 93 [(.mb [x1]), (.rp [x0])]) }
  else none
  else none
theorem r75 (T : Nat → List SVal → Option Res) (k : Nat) (x0 : SVal) (x1 : SVal) : bodyE P H T k 75 [x0, x1] = R75 T k x0 x1 := by kernel_rfl
noncomputable def D75 (T : Nat → List SVal → Option Res) (k : Nat) : List SVal → Option Res
  | [x0, x1] => R75 T k x0 x1
  | a => bodyE P H T k 75 a
theorem d75 (T : Nat → List SVal → Option Res) (k : Nat) (a : List SVal) : D75 T k a = bodyE P H T k 75 a := by
  unfold D75
  split
  · exact (r75 ..).symm
  · rfl
theorem t75 (k : Nat) (x0 : SVal) (x1 : SVal) : T (k + 1) 75 [x0, x1] = R75 (T k) k x0 x1 := (by kernel_rfl : T (k + 1) 75 [x0, x1] = bodyE P H (T k) k 75 [x0, x1]).trans (r75 ..)
/-- limelight/render.own$1 -/
def R76 (T : Nat → List SVal → Option Res) (k : Nat) (x0a : SVal) (x0b : SVal) (x1 : SVal) : Option Res :=
  (sBin .eql x0a x1).bind fun r1 =>
  some { r := r1 }
theorem r76 (T : Nat → List SVal → Option Res) (k : Nat) (x0a : SVal) (x0b : SVal) (x1 : SVal) : bodyE P H T k 76 [(.agg [x0a, x0b]), (.rp [x1])] = R76 T k x0a x0b x1 := by kernel_rfl
noncomputable def D76 (T : Nat → List SVal → Option Res) (k : Nat) : List SVal → Option Res
  | [(.agg [x0a, x0b]), (.rp [x1])] => R76 T k x0a x0b x1
  | a => bodyE P H T k 76 a
theorem d76 (T : Nat → List SVal → Option Res) (k : Nat) (a : List SVal) : D76 T k a = bodyE P H T k 76 a := by
  unfold D76
  split
  · exact (r76 ..).symm
  · rfl
theorem t76 (k : Nat) (x0a : SVal) (x0b : SVal) (x1 : SVal) : T (k + 1) 76 [(.agg [x0a, x0b]), (.rp [x1])] = R76 (T k) k x0a x0b x1 := (by kernel_rfl : T (k + 1) 76 [(.agg [x0a, x0b]), (.rp [x1])] = bodyE P H (T k) k 76 [(.agg [x0a, x0b]), (.rp [x1])]).trans (r76 ..)
/-- limelight/attr.Has -/
def R77 (T : Nat → List SVal → Option Res) (k : Nat) (x0 : SVal) (x1 : SVal) (x2 : SVal) : Option Res :=
  (T 95 [(weak x0), x1, x2]).bind fun r1 =>
  some { r := r1.r.c1 }
theorem r77 (T : Nat → List SVal → Option Res) (k : Nat) (x0 : SVal) (x1 : SVal) (x2 : SVal) : bodyE P H T k 77 [x0, x1, x2] = R77 T k x0 x1 x2 := by kernel_rfl
noncomputable def D77 (T : Nat → List SVal → Option Res) (k : Nat) : List SVal → Option Res
  | [x0, x1, x2] => R77 T k x0 x1 x2
  | a => bodyE P H T k 77 a
theorem d77 (T : Nat → List SVal → Option Res) (k : Nat) (a : List SVal) : D77 T k a = bodyE P H T k 77 a := by
  unfold D77
  split
  · exact (r77 ..).symm
  · rfl
theorem t77 (k : Nat) (x0 : SVal) (x1 : SVal) (x2 : SVal) : T (k + 1) 77 [x0, x1, x2] = R77 (T k) k x0 x1 x2 := (by kernel_rfl : T (k + 1) 77 [x0, x1, x2] = bodyE P H (T k) k 77 [x0, x1, x2]).trans (r77 ..)
/-- slices.Contains[[]int,int] -/
def R78 (T : Nat → List SVal → Option Res) (k : Nat) (x0 : SVal) (x1 : SVal) : Option Res :=
  (T 96 [(weak x0), x1]).bind fun r1 =>
  (sBin .geq r1.r (.int .i64 0)).bind fun r2 =>
  some { r := r2 }
theorem r78 (T : Nat → List SVal → Option Res) (k : Nat) (x0 : SVal) (x1 : SVal) : bodyE P H T k 78 [x0, x1] = R78 T k x0 x1 := by kernel_rfl
noncomputable def D78 (T : Nat → List SVal → Option Res) (k : Nat) : List SVal → Option Res
  | [x0, x1] => R78 T k x0 x1
  | a => bodyE P H T k 78 a
theorem d78 (T : Nat → List SVal → Option Res) (k : Nat) (a : List SVal) : D78 T k a = bodyE P H T k 78 a := by
  unfold D78
  split
  · exact (r78 ..).symm
  · rfl
theorem t78 (k : Nat) (x0 : SVal) (x1 : SVal) : T (k + 1) 78 [x0, x1] = R78 (T k) k x0 x1 := (by kernel_rfl : T (k + 1) 78 [x0, x1] = bodyE P H (T k) k 78 [x0, x1]).trans (r78 ..)
/-- slices.ContainsFunc[[]limelight/api.Shown,limelight/api.Shown] -/
def R79 (T : Nat → List SVal → Option Res) (k : Nat) (x0 : SVal) (x1 : SVal) : Option Res :=
  (T 97 [(weak x0), x1]).bind fun r1 =>
  (sBin .geq r1.r (.int .i64 0)).bind fun r2 =>
  some { r := r2 }
theorem r79 (T : Nat → List SVal → Option Res) (k : Nat) (x0 : SVal) (x1 : SVal) : bodyE P H T k 79 [x0, x1] = R79 T k x0 x1 := by kernel_rfl
noncomputable def D79 (T : Nat → List SVal → Option Res) (k : Nat) : List SVal → Option Res
  | [x0, x1] => R79 T k x0 x1
  | a => bodyE P H T k 79 a
theorem d79 (T : Nat → List SVal → Option Res) (k : Nat) (a : List SVal) : D79 T k a = bodyE P H T k 79 a := by
  unfold D79
  split
  · exact (r79 ..).symm
  · rfl
theorem t79 (k : Nat) (x0 : SVal) (x1 : SVal) : T (k + 1) 79 [x0, x1] = R79 (T k) k x0 x1 := (by kernel_rfl : T (k + 1) 79 [x0, x1] = bodyE P H (T k) k 79 [x0, x1]).trans (r79 ..)
/-- slices.AppendSeq[[]int,int] -/
def R80 (T : Nat → List SVal → Option Res) (k : Nat) (x0 : List SVal) (x1 : SVal) : Option Res :=
  (callIt T x1).bind fun ys1 =>
  rangeN (fun s2 y2 next2 =>
   (notTup y2).bind fun z3 =>
   if (List.all [[.v z3]] allOne) = true then
   if (s2.k0.c0.xs.length + ([z3] : List SVal).length) * 8 ≤ maxAppend then
   next2 ⟨[(.mb [(.sl 1 true false (s2.k0.c0.xs ++ ([z3] : List SVal)))])], [], false⟩
   else none
   else none) (fun s4 =>
   some { r := (.sl 1 true false s4.k0.c0.xs) }) ys1 ⟨[(.mb [(.sl 1 true false x0)])], [], false⟩
theorem r80 (T : Nat → List SVal → Option Res) (k : Nat) (x0 : List SVal) (x1 : SVal) : bodyE P H T k 80 [(.sl 1 true false x0), x1] = R80 T k x0 x1 := by kernel_rfl
noncomputable def D80 (T : Nat → List SVal → Option Res) (k : Nat) : List SVal → Option Res
  | [(.sl 1 true false x0), x1] => R80 T k x0 x1
  | a => bodyE P H T k 80 a
theorem d80 (T : Nat → List SVal → Option Res) (k : Nat) (a : List SVal) : D80 T k a = bodyE P H T k 80 a := by
  unfold D80
  split
  · exact (r80 ..).symm
  · rfl
theorem t80 (k : Nat) (x0 : List SVal) (x1 : SVal) : T (k + 1) 80 [(.sl 1 true false x0), x1] = R80 (T k) k x0 x1 := (by kernel_rfl : T (k + 1) 80 [(.sl 1 true false x0), x1] = bodyE P H (T k) k 80 [(.sl 1 true false x0), x1]).trans (r80 ..)
/-- limelight/render.all$1 -/
def R81 (T : Nat → List SVal → Option Res) (k : Nat) (x1a : SVal) (x1b : SVal) (x1c : SVal) (x1d : SVal) (x1e : SVal) : Option Res :=
  (T 82 [(.agg [(weak x1a), (weak x1b), (weak x1c), (weak x1d), (weak x1e)]), (.int .i64 0), .yld]).bind fun r1 =>
  both
  (some { r := (.tup []), out := ([] ++ r1.out) })
  (some { r := (.tup []) })
theorem r81 (T : Nat → List SVal → Option Res) (k : Nat) (x1a : SVal) (x1b : SVal) (x1c : SVal) (x1d : SVal) (x1e : SVal) : bodyE P H T k 81 [.yld, (.rp [x1a, x1b, x1c, x1d, x1e])] = R81 T k x1a x1b x1c x1d x1e := by kernel_rfl
noncomputable def D81 (T : Nat → List SVal → Option Res) (k : Nat) : List SVal → Option Res
  | [.yld, (.rp [x1a, x1b, x1c, x1d, x1e])] => R81 T k x1a x1b x1c x1d x1e
  | a => bodyE P H T k 81 a
theorem d81 (T : Nat → List SVal → Option Res) (k : Nat) (a : List SVal) : D81 T k a = bodyE P H T k 81 a := by
  unfold D81
  split
  · exact (r81 ..).symm
  · rfl
theorem t81 (k : Nat) (x1a : SVal) (x1b : SVal) (x1c : SVal) (x1d : SVal) (x1e : SVal) : T (k + 1) 81 [.yld, (.rp [x1a, x1b, x1c, x1d, x1e])] = R81 (T k) k x1a x1b x1c x1d x1e := (by kernel_rfl : T (k + 1) 81 [.yld, (.rp [x1a, x1b, x1c, x1d, x1e])] = bodyE P H (T k) k 81 [.yld, (.rp [x1a, x1b, x1c, x1d, x1e])]).trans (r81 ..)
/-- limelight/render.below -/
def R82 (T : Nat → List SVal → Option Res) (k : Nat) (x0a : SVal) (x0b : SVal) (x0c : SVal) (x0d : SVal) (x0e : SVal) (x1 : SVal) : Option Res :=
  (T 47 [(.agg [(weak x0a), (weak x0b), (weak x0c), (weak x0d), (weak x0e)]), x1]).bind fun r1 =>
  (sNot r1.r).bind fun r2 =>
  pickC r2
  (some { r := (.bool true), out := [] })
  ((notTup x1).bind fun y3 =>
   both
   ((T 98 [(weak x0a), x1]).bind fun r4 =>
    (sLen r4.r).bind fun r5 =>
    loopN (fun s6 next6 =>
     (sBin .lss s6.k4 s6.k3).bind fun r7 =>
     pickC r7
     ((sIdx false 1 s6.k2 s6.k4).bind fun e8 =>
      if (s6.stop) = true then none else
      (T 82 [(.agg [(weak (SVal.cell s6.k1 0)), (weak (SVal.cell s6.k1 1)), (weak (SVal.cell s6.k1 2)), (weak (SVal.cell s6.k1 3)), (weak (SVal.cell s6.k1 4))]), e8, .yld]).bind fun r9 =>
      both
      ((sNot r9.r).bind fun r10 =>
       pickC r10
       (if (s6.stop) = true then
        some { r := (.bool false) }
        else
        some { r := (.bool false), out := (s6.out ++ r9.out) })
       ((sBin .add s6.k4 (.int .i64 1)).bind fun r11 =>
        next6 ⟨[.yld, (.rp [(SVal.cell s6.k1 0), (SVal.cell s6.k1 1), (SVal.cell s6.k1 2), (SVal.cell s6.k1 3), (SVal.cell s6.k1 4)]), (weak s6.k2), s6.k3, r11], (s6.out ++ r9.out), s6.stop⟩))
      (some { r := (.bool false) }))
     (if (s6.stop) = true then
      none
      else
      some { r := (.bool true), out := s6.out })) k ⟨[.yld, (.rp [x0a, x0b, x0c, x0d, x0e]), (weak r4.r), r5, (.int .i64 0)], ([] ++ [y3]), false⟩)
   (some { r := (.bool false) }))
theorem r82 (T : Nat → List SVal → Option Res) (k : Nat) (x0a : SVal) (x0b : SVal) (x0c : SVal) (x0d : SVal) (x0e : SVal) (x1 : SVal) : bodyE P H T k 82 [(.agg [x0a, x0b, x0c, x0d, x0e]), x1, .yld] = R82 T k x0a x0b x0c x0d x0e x1 := by kernel_rfl
noncomputable def D82 (T : Nat → List SVal → Option Res) (k : Nat) : List SVal → Option Res
  | [(.agg [x0a, x0b, x0c, x0d, x0e]), x1, .yld] => R82 T k x0a x0b x0c x0d x0e x1
  | a => bodyE P H T k 82 a
theorem d82 (T : Nat → List SVal → Option Res) (k : Nat) (a : List SVal) : D82 T k a = bodyE P H T k 82 a := by
  unfold D82
  split
  · exact (r82 ..).symm
  · rfl
theorem t82 (k : Nat) (x0a : SVal) (x0b : SVal) (x0c : SVal) (x0d : SVal) (x0e : SVal) (x1 : SVal) : T (k + 1) 82 [(.agg [x0a, x0b, x0c, x0d, x0e]), x1, .yld] = R82 (T k) k x0a x0b x0c x0d x0e x1 := (by kernel_rfl : T (k + 1) 82 [(.agg [x0a, x0b, x0c, x0d, x0e]), x1, .yld] = bodyE P H (T k) k 82 [(.agg [x0a, x0b, x0c, x0d, x0e]), x1, .yld]).trans (r82 ..)
/-- limelight/limelightref06.below -/
def R83 (T : Nat → List SVal → Option Res) (k : Nat) (x0 : SVal) (x1 : SVal) : Option Res :=
  if (List.all [[.v x1]] allOne) = true then
  (T 54 [(weak x0), x1]).bind fun r1 =>
  loopN (fun s2 next2 =>
   (sLen s2.k2).bind fun r3 =>
   (sBin .lss s2.k3 r3).bind fun r4 =>
   pickC r4
   ((sIdx false 1 s2.k2 s2.k3).bind fun e5 =>
    (T 83 [(weak s2.k0), e5]).bind fun r6 =>
    (elems 1 r6.r).bind fun ys7 =>
    if (s2.k1.xs.length + ys7.length) * 8 ≤ maxAppend then
    (sBin .add s2.k3 (.int .i64 1)).bind fun r8 =>
    next2 ⟨[(weak s2.k0), (.sl 1 true false (s2.k1.xs ++ ys7)), (weak s2.k2), r8], [], false⟩
    else none)
   (some { r := (.sl 1 false false s2.k1.xs) })) k ⟨[(weak x0), (.sl 1 true false [x1]), (weak r1.r), (.int .i64 0)], [], false⟩
  else none
theorem r83 (T : Nat → List SVal → Option Res) (k : Nat) (x0 : SVal) (x1 : SVal) : bodyE P H T k 83 [x0, x1] = R83 T k x0 x1 := by kernel_rfl
noncomputable def D83 (T : Nat → List SVal → Option Res) (k : Nat) : List SVal → Option Res
  | [x0, x1] => R83 T k x0 x1
  | a => bodyE P H T k 83 a
theorem d83 (T : Nat → List SVal → Option Res) (k : Nat) (a : List SVal) : D83 T k a = bodyE P H T k 83 a := by
  unfold D83
  split
  · exact (r83 ..).symm
  · rfl
theorem t83 (k : Nat) (x0 : SVal) (x1 : SVal) : T (k + 1) 83 [x0, x1] = R83 (T k) k x0 x1 := (by kernel_rfl : T (k + 1) 83 [x0, x1] = bodyE P H (T k) k 83 [x0, x1]).trans (r83 ..)
/-- limelight/limelightref05.Assigned -/
def R84 (T : Nat → List SVal → Option Res) (k : Nat) (x0 : SVal) (x1 : SVal) : Option Res :=
  (T 99 [(weak x0), x1]).bind fun r1 =>
  (sNot r1.r).bind fun r2 =>
  pickC r2
  (some { r := (.sl 1 false false []) })
  ((T 100 [(weak x0), x1]).bind fun r3 =>
   (sIdx true 7 x0 r3.r).bind fun e4 =>
   loopN (fun s5 next5 =>
    (sIdx true 7 s5.k0 s5.k3).bind fun e6 =>
    (sLen (SVal.cell e6 3)).bind fun r7 =>
    (sBin .lss s5.k4 r7).bind fun r8 =>
    pickC r8
    ((sIdx true 7 s5.k0 s5.k3).bind fun e9 =>
     (sIdx false 1 (SVal.cell e9 3) s5.k4).bind fun e10 =>
     (T 101 [(weak s5.k0), e10]).bind fun r11 =>
     (sBin .eql r11.r s5.k1).bind fun r12 =>
     pickC r12
     ((sIdx true 7 s5.k0 s5.k3).bind fun e13 =>
      (sIdx false 1 (SVal.cell e13 3) s5.k4).bind fun e14 =>
      if (List.all [[.v e14]] allOne) = true then
      if (s5.k2.xs.length + ([e14] : List SVal).length) * 8 ≤ maxAppend then
      (sBin .add s5.k4 (.int .i64 1)).bind fun r15 =>
      next5 ⟨[(weak s5.k0), s5.k1, (.sl 1 true false (s5.k2.xs ++ ([e14] : List SVal))), s5.k3, r15], [], false⟩
      else none
      else none)
     ((sBin .add s5.k4 (.int .i64 1)).bind fun r16 =>
      next5 ⟨[(weak s5.k0), s5.k1, (.sl 1 true false s5.k2.xs), s5.k3, r16], [], false⟩))
    (some { r := (.sl 1 false false s5.k2.xs) })) k ⟨[(weak x0), x1, (.sl 1 true false []), (SVal.cell e4 4), (.int .i64 0)], [], false⟩)
theorem r84 (T : Nat → List SVal → Option Res) (k : Nat) (x0 : SVal) (x1 : SVal) : bodyE P H T k 84 [x0, x1] = R84 T k x0 x1 := by kernel_rfl
noncomputable def D84 (T : Nat → List SVal → Option Res) (k : Nat) : List SVal → Option Res
  | [x0, x1] => R84 T k x0 x1
  | a => bodyE P H T k 84 a
theorem d84 (T : Nat → List SVal → Option Res) (k : Nat) (a : List SVal) : D84 T k a = bodyE P H T k 84 a := by
  unfold D84
  split
  · exact (r84 ..).symm
  · rfl
theorem t84 (k : Nat) (x0 : SVal) (x1 : SVal) : T (k + 1) 84 [x0, x1] = R84 (T k) k x0 x1 := (by kernel_rfl : T (k + 1) 84 [x0, x1] = bodyE P H (T k) k 84 [x0, x1]).trans (r84 ..)
/-- slices.Backward[[]int,int] -/
def R85 (T : Nat → List SVal → Option Res) (k : Nat) (x0 : SVal) : Option Res :=
  if (oneS x0) = true then
  some { r := (.fn 102 [(.rp [x0])]) }
  else none
theorem r85 (T : Nat → List SVal → Option Res) (k : Nat) (x0 : SVal) : bodyE P H T k 85 [x0] = R85 T k x0 := by kernel_rfl
noncomputable def D85 (T : Nat → List SVal → Option Res) (k : Nat) : List SVal → Option Res
  | [x0] => R85 T k x0
  | a => bodyE P H T k 85 a
theorem d85 (T : Nat → List SVal → Option Res) (k : Nat) (a : List SVal) : D85 T k a = bodyE P H T k 85 a := by
  unfold D85
  split
  · exact (r85 ..).symm
  · rfl
theorem t85 (k : Nat) (x0 : SVal) : T (k + 1) 85 [x0] = R85 (T k) k x0 := (by kernel_rfl : T (k + 1) 85 [x0] = bodyE P H (T k) k 85 [x0]).trans (r85 ..)
/-- limelight/limelightref04.Connected -/
def R86 (T : Nat → List SVal → Option Res) (k : Nat) (x0 : SVal) (x1 : SVal) : Option Res :=
  (T 103 [(weak x0), (.int .i64 0), x1]).bind fun r1 =>
  some { r := r1.r }
theorem r86 (T : Nat → List SVal → Option Res) (k : Nat) (x0 : SVal) (x1 : SVal) : bodyE P H T k 86 [x0, x1] = R86 T k x0 x1 := by kernel_rfl
noncomputable def D86 (T : Nat → List SVal → Option Res) (k : Nat) : List SVal → Option Res
  | [x0, x1] => R86 T k x0 x1
  | a => bodyE P H T k 86 a
theorem d86 (T : Nat → List SVal → Option Res) (k : Nat) (a : List SVal) : D86 T k a = bodyE P H T k 86 a := by
  unfold D86
  split
  · exact (r86 ..).symm
  · rfl
theorem t86 (k : Nat) (x0 : SVal) (x1 : SVal) : T (k + 1) 86 [x0, x1] = R86 (T k) k x0 x1 := (by kernel_rfl : T (k + 1) 86 [x0, x1] = bodyE P H (T k) k 86 [x0, x1]).trans (r86 ..)
end Go.Proofs.YtccfkncajelbpaaGreat.K
