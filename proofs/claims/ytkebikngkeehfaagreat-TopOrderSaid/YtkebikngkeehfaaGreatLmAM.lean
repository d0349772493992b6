/- What the evaluator makes of the functions, by program (wip/tr/resid.py); each equation is checked by the kernel. -/
import Derived.Test.YtkebikngkeehfaaGreatLmAJ
import Derived.Test.YtkebikngkeehfaaGreatLmAB
import Derived.KernelRfl
set_option linter.unusedVariables false
set_option linter.unusedSimpArgs false
set_option linter.unnecessarySimpa false
set_option linter.all false
set_option maxRecDepth 100000
namespace Go.Proofs.YtkebikngkeehfaaGreat.K
open Go Go.Lm
/-- limelight/tree.Copy -/
def R35 (T : Nat → List SVal → Option Res) (k : Nat) (x0 : SVal) : Option Res :=
  (T 70 [(weak x0)]).bind fun r1 =>
  loopN (fun s2 next2 =>
   (sBin .lss s2.k2 s2.k1).bind fun r3 =>
   pickC r3
   ((sIn s2.k0.xs.length s2.k2).bind fun j4 =>
    (s2.k0.xs[j4]?).bind fun e5 =>
    if (elemOk true 7 e5) = true then
    (T 55 [(weak (SVal.cell e5 3))]).bind fun r6 =>
    (sIn s2.k0.xs.length s2.k2).bind fun j7 =>
    (s2.k0.xs[j7]?).bind fun e8 =>
    if (elemOk true 7 e8) = true then
    (T 71 [(weak (SVal.cell e8 6))]).bind fun r9 =>
    (sIn s2.k0.xs.length s2.k2).bind fun j10 =>
    (s2.k0.xs[j10]?).bind fun e11 =>
    if (elemOk true 7 e11) = true then
    (sIn (s2.k0.xs.set j10 (.agg [(SVal.cell e11 0), (SVal.cell e11 1), (SVal.cell e11 2), (.sl 1 false false r6.r.xs), (SVal.cell e11 4), (SVal.cell e11 5), (SVal.cell e11 6)])).length s2.k2).bind fun j12 =>
    ((s2.k0.xs.set j10 (.agg [(SVal.cell e11 0), (SVal.cell e11 1), (SVal.cell e11 2), (.sl 1 false false r6.r.xs), (SVal.cell e11 4), (SVal.cell e11 5), (SVal.cell e11 6)]))[j12]?).bind fun e13 =>
    if (elemOk true 7 e13) = true then
    (sBin .add s2.k2 (.int .i64 1)).bind fun r14 =>
    next2 ⟨[(.sl 7 true false ((s2.k0.xs.set j10 (.agg [(SVal.cell e11 0), (SVal.cell e11 1), (SVal.cell e11 2), (.sl 1 false false r6.r.xs), (SVal.cell e11 4), (SVal.cell e11 5), (SVal.cell e11 6)])).set j12 (.agg [(SVal.cell e13 0), (SVal.cell e13 1), (SVal.cell e13 2), (SVal.cell e13 3), (SVal.cell e13 4), (SVal.cell e13 5), (.sl 2 false false r9.r.xs)]))), s2.k1, r14], [], false⟩
    else none
    else none
    else none
    else none)
   (some { r := (.sl 7 false false s2.k0.xs) })) k ⟨[(.sl 7 true false r1.r.xs), (.int .i64 (r1.r.xs.length : Nat)), (.int .i64 0)], [], false⟩
theorem r35 (T : Nat → List SVal → Option Res) (k : Nat) (x0 : SVal) : bodyE P H T k 35 [x0] = R35 T k x0 := by kernel_rfl
noncomputable def D35 (T : Nat → List SVal → Option Res) (k : Nat) : List SVal → Option Res
  | [x0] => R35 T k x0
  | a => bodyE P H T k 35 a
theorem d35 (T : Nat → List SVal → Option Res) (k : Nat) (a : List SVal) : D35 T k a = bodyE P H T k 35 a := by
  unfold D35
  split
  · exact (r35 ..).symm
  · rfl
theorem t35 (k : Nat) (x0 : SVal) : T (k + 1) 35 [x0] = R35 (T k) k x0 := (by kernel_rfl : T (k + 1) 35 [x0] = bodyE P H (T k) k 35 [x0]).trans (r35 ..)
/-- limelight/top.Fix$1 -/
def R36 (T : Nat → List SVal → Option Res) (k : Nat) (x0 : SVal) (x1 : SVal) : Option Res :=
  (T 37 [(weak x1), x0]).bind fun r1 =>
  some { r := r1.r }
theorem r36 (T : Nat → List SVal → Option Res) (k : Nat) (x0 : SVal) (x1 : SVal) : bodyE P H T k 36 [x0, (.rp [x1])] = R36 T k x0 x1 := by kernel_rfl
noncomputable def D36 (T : Nat → List SVal → Option Res) (k : Nat) : List SVal → Option Res
  | [x0, (.rp [x1])] => R36 T k x0 x1
  | a => bodyE P H T k 36 a
theorem d36 (T : Nat → List SVal → Option Res) (k : Nat) (a : List SVal) : D36 T k a = bodyE P H T k 36 a := by
  unfold D36
  split
  · exact (r36 ..).symm
  · rfl
theorem t36 (k : Nat) (x0 : SVal) (x1 : SVal) : T (k + 1) 36 [x0, (.rp [x1])] = R36 (T k) k x0 x1 := (by kernel_rfl : T (k + 1) 36 [x0, (.rp [x1])] = bodyE P H (T k) k 36 [x0, (.rp [x1])]).trans (r36 ..)
/-- limelight/top.dialog -/
def R37 (T : Nat → List SVal → Option Res) (k : Nat) (x0 : SVal) (x1 : SVal) : Option Res :=
  ((T 72 [(weak x0), x1]).bind fun r1 =>
   guardX r1.r true
   ((sIdx true 7 x0 x1).bind fun e2 =>
    (sBin .eql (SVal.cell e2 1) (.int .i64 2)).bind fun r3 =>
    (asB r3).bind fun b4 =>
    some [b4])
   (some [false])
   (none)).bind fun vs5 =>
  some { r := (.bool (vs5.getD 0 false)) }
theorem r37 (T : Nat → List SVal → Option Res) (k : Nat) (x0 : SVal) (x1 : SVal) : bodyE P H T k 37 [x0, x1] = R37 T k x0 x1 := by kernel_rfl
noncomputable def D37 (T : Nat → List SVal → Option Res) (k : Nat) : List SVal → Option Res
  | [x0, x1] => R37 T k x0 x1
  | a => bodyE P H T k 37 a
theorem d37 (T : Nat → List SVal → Option Res) (k : Nat) (a : List SVal) : D37 T k a = bodyE P H T k 37 a := by
  unfold D37
  split
  · exact (r37 ..).symm
  · rfl
theorem t37 (k : Nat) (x0 : SVal) (x1 : SVal) : T (k + 1) 37 [x0, x1] = R37 (T k) k x0 x1 := (by kernel_rfl : T (k + 1) 37 [x0, x1] = bodyE P H (T k) k 37 [x0, x1]).trans (r37 ..)
/-- limelight/top.only[int] -/
def R38 (T : Nat → List SVal → Option Res) (k : Nat) (x0 : SVal) (x1 : SVal) : Option Res :=
  (sLen x0).bind fun r1 =>
  loopN (fun s2 next2 =>
   (sBin .lss s2.k5 s2.k4).bind fun r3 =>
   pickC r3
   ((sIdx false 1 s2.k3 s2.k5).bind fun e4 =>
    (callV H T s2.k0 [e4]).bind fun y5 =>
    pickC y5
    (if (List.all [[.v e4]] allOne) = true then
     if (s2.k1.xs.length + ([e4] : List SVal).length) * 8 ≤ maxAppend then
     (sBin .add s2.k5 (.int .i64 1)).bind fun r6 =>
     next2 ⟨[s2.k0, (.sl 1 true false (s2.k1.xs ++ [e4])), (.sl 1 true false s2.k2.xs), (weak s2.k3), s2.k4, r6], [], false⟩
     else none
     else none)
    (if (List.all [[.v e4]] allOne) = true then
     if (s2.k2.xs.length + ([e4] : List SVal).length) * 8 ≤ maxAppend then
     (sBin .add s2.k5 (.int .i64 1)).bind fun r7 =>
     next2 ⟨[s2.k0, (.sl 1 true false s2.k1.xs), (.sl 1 true false (s2.k2.xs ++ [e4])), (weak s2.k3), s2.k4, r7], [], false⟩
     else none
     else none))
   (some { r := (.tup [(.sl 1 false false s2.k1.xs), (.sl 1 false false s2.k2.xs)]) })) k ⟨[x1, (.sl 1 true false []), (.sl 1 true false []), (weak x0), r1, (.int .i64 0)], [], false⟩
theorem r38 (T : Nat → List SVal → Option Res) (k : Nat) (x0 : SVal) (x1 : SVal) : bodyE P H T k 38 [x0, x1] = R38 T k x0 x1 := by kernel_rfl
noncomputable def D38 (T : Nat → List SVal → Option Res) (k : Nat) : List SVal → Option Res
  | [x0, x1] => R38 T k x0 x1
  | a => bodyE P H T k 38 a
theorem d38 (T : Nat → List SVal → Option Res) (k : Nat) (a : List SVal) : D38 T k a = bodyE P H T k 38 a := by
  unfold D38
  split
  · exact (r38 ..).symm
  · rfl
theorem t38 (k : Nat) (x0 : SVal) (x1 : SVal) : T (k + 1) 38 [x0, x1] = R38 (T k) k x0 x1 := (by kernel_rfl : T (k + 1) 38 [x0, x1] = bodyE P H (T k) k 38 [x0, x1]).trans (r38 ..)
/-- limelight/top.only[limelight/api.Shown] -/
def R39 (T : Nat → List SVal → Option Res) (k : Nat) (x0 : SVal) (x1 : SVal) : Option Res :=
  (sLen x0).bind fun r1 =>
  loopN (fun s2 next2 =>
   (sBin .lss s2.k5 s2.k4).bind fun r3 =>
   pickC r3
   ((sIdx true 2 s2.k3 s2.k5).bind fun e4 =>
    if (allOne [.v (SVal.cell e4 0), .v (SVal.cell e4 1)]) = true then
    (callV H T s2.k0 [(.agg [(SVal.cell e4 0), (SVal.cell e4 1)])]).bind fun y5 =>
    pickC y5
    (if (List.all [[.v (SVal.cell e4 0), .v (SVal.cell e4 1)]] allOne) = true then
     if (s2.k1.xs.length + ([(.agg [(SVal.cell e4 0), (SVal.cell e4 1)])] : List SVal).length) * 16 ≤ maxAppend then
     (sBin .add s2.k5 (.int .i64 1)).bind fun r6 =>
     next2 ⟨[s2.k0, (.sl 2 true false (s2.k1.xs ++ [(.agg [(SVal.cell e4 0), (SVal.cell e4 1)])])), (.sl 2 true false s2.k2.xs), (weak s2.k3), s2.k4, r6], [], false⟩
     else none
     else none)
    (if (List.all [[.v (SVal.cell e4 0), .v (SVal.cell e4 1)]] allOne) = true then
     if (s2.k2.xs.length + ([(.agg [(SVal.cell e4 0), (SVal.cell e4 1)])] : List SVal).length) * 16 ≤ maxAppend then
     (sBin .add s2.k5 (.int .i64 1)).bind fun r7 =>
     next2 ⟨[s2.k0, (.sl 2 true false s2.k1.xs), (.sl 2 true false (s2.k2.xs ++ [(.agg [(SVal.cell e4 0), (SVal.cell e4 1)])])), (weak s2.k3), s2.k4, r7], [], false⟩
     else none
     else none)
    else none)
   (some { r := (.tup [(.sl 2 true false s2.k1.xs), (.sl 2 false false s2.k2.xs)]) })) k ⟨[x1, (.sl 2 true false []), (.sl 2 true false []), (weak x0), r1, (.int .i64 0)], [], false⟩
theorem r39 (T : Nat → List SVal → Option Res) (k : Nat) (x0 : SVal) (x1 : SVal) : bodyE P H T k 39 [x0, x1] = R39 T k x0 x1 := by kernel_rfl
noncomputable def D39 (T : Nat → List SVal → Option Res) (k : Nat) : List SVal → Option Res
  | [x0, x1] => R39 T k x0 x1
  | a => bodyE P H T k 39 a
theorem d39 (T : Nat → List SVal → Option Res) (k : Nat) (a : List SVal) : D39 T k a = bodyE P H T k 39 a := by
  unfold D39
  split
  · exact (r39 ..).symm
  · rfl
theorem t39 (k : Nat) (x0 : SVal) (x1 : SVal) : T (k + 1) 39 [x0, x1] = R39 (T k) k x0 x1 := (by kernel_rfl : T (k + 1) 39 [x0, x1] = bodyE P H (T k) k 39 [x0, x1]).trans (r39 ..)
/-- limelight/top.Fix$2 -/
def R40 (T : Nat → List SVal → Option Res) (k : Nat) (x0a : SVal) (x0b : SVal) (x1 : SVal) : Option Res :=
  (T 41 [(weak x1), x0a]).bind fun r1 =>
  some { r := r1.r }
theorem r40 (T : Nat → List SVal → Option Res) (k : Nat) (x0a : SVal) (x0b : SVal) (x1 : SVal) : bodyE P H T k 40 [(.agg [x0a, x0b]), (.rp [x1])] = R40 T k x0a x0b x1 := by kernel_rfl
noncomputable def D40 (T : Nat → List SVal → Option Res) (k : Nat) : List SVal → Option Res
  | [(.agg [x0a, x0b]), (.rp [x1])] => R40 T k x0a x0b x1
  | a => bodyE P H T k 40 a
theorem d40 (T : Nat → List SVal → Option Res) (k : Nat) (a : List SVal) : D40 T k a = bodyE P H T k 40 a := by
  unfold D40
  split
  · exact (r40 ..).symm
  · rfl
theorem t40 (k : Nat) (x0a : SVal) (x0b : SVal) (x1 : SVal) : T (k + 1) 40 [(.agg [x0a, x0b]), (.rp [x1])] = R40 (T k) k x0a x0b x1 := (by kernel_rfl : T (k + 1) 40 [(.agg [x0a, x0b]), (.rp [x1])] = bodyE P H (T k) k 40 [(.agg [x0a, x0b]), (.rp [x1])]).trans (r40 ..)
/-- limelight/top.popup -/
def R41 (T : Nat → List SVal → Option Res) (k : Nat) (x0 : SVal) (x1 : SVal) : Option Res :=
  ((T 72 [(weak x0), x1]).bind fun r1 =>
   guardX r1.r true
   ((T 73 [(weak x0), x1, (.int .i64 6)]).bind fun r2 =>
    (asB r2.r).bind fun b3 =>
    some [b3])
   (some [false])
   (none)).bind fun vs4 =>
  some { r := (.bool (vs4.getD 0 false)) }
theorem r41 (T : Nat → List SVal → Option Res) (k : Nat) (x0 : SVal) (x1 : SVal) : bodyE P H T k 41 [x0, x1] = R41 T k x0 x1 := by kernel_rfl
noncomputable def D41 (T : Nat → List SVal → Option Res) (k : Nat) : List SVal → Option Res
  | [x0, x1] => R41 T k x0 x1
  | a => bodyE P H T k 41 a
theorem d41 (T : Nat → List SVal → Option Res) (k : Nat) (a : List SVal) : D41 T k a = bodyE P H T k 41 a := by
  unfold D41
  split
  · exact (r41 ..).symm
  · rfl
theorem t41 (k : Nat) (x0 : SVal) (x1 : SVal) : T (k + 1) 41 [x0, x1] = R41 (T k) k x0 x1 := (by kernel_rfl : T (k + 1) 41 [x0, x1] = bodyE P H (T k) k 41 [x0, x1]).trans (r41 ..)
/-- limelight/top.is -/
def R42 (T : Nat → List SVal → Option Res) (k : Nat) (x0 : SVal) (x1 : SVal) : Option Res :=
  ((sBin .geq x1 (.int .i64 0)).bind fun r1 =>
   guardX r1 true
   ((sLen x0).bind fun r2 =>
    (sBin .lss x1 r2).bind fun r3 =>
    (asB r3).bind fun b4 =>
    some [b4])
   (some [false])
   (none)).bind fun vs5 =>
  some { r := (.bool (vs5.getD 0 false)) }
theorem r42 (T : Nat → List SVal → Option Res) (k : Nat) (x0 : SVal) (x1 : SVal) : bodyE P H T k 42 [x0, x1] = R42 T k x0 x1 := by kernel_rfl
noncomputable def D42 (T : Nat → List SVal → Option Res) (k : Nat) : List SVal → Option Res
  | [x0, x1] => R42 T k x0 x1
  | a => bodyE P H T k 42 a
theorem d42 (T : Nat → List SVal → Option Res) (k : Nat) (a : List SVal) : D42 T k a = bodyE P H T k 42 a := by
  unfold D42
  split
  · exact (r42 ..).symm
  · rfl
theorem t42 (k : Nat) (x0 : SVal) (x1 : SVal) : T (k + 1) 42 [x0, x1] = R42 (T k) k x0 x1 := (by kernel_rfl : T (k + 1) 42 [x0, x1] = bodyE P H (T k) k 42 [x0, x1]).trans (r42 ..)
/-- limelight/top.high -/
def R43 (T : Nat → List SVal → Option Res) (k : Nat) (x0a : SVal) (x0b : SVal) (x0c : SVal) (x0d : SVal) (x0e : SVal) : Option Res :=
  (T 47 [(weak x0d), (.fn 48 [])]).bind fun r1 =>
  if (List.all [[.v x0c], [.v r1.r]] allOne) = true then
  (T 46 [(.sl 1 false false [x0c, r1.r])]).bind fun r2 =>
  some { r := (weak r2.r) }
  else none
theorem r43 (T : Nat → List SVal → Option Res) (k : Nat) (x0a : SVal) (x0b : SVal) (x0c : SVal) (x0d : SVal) (x0e : SVal) : bodyE P H T k 43 [(.agg [x0a, x0b, x0c, x0d, x0e])] = R43 T k x0a x0b x0c x0d x0e := by kernel_rfl
noncomputable def D43 (T : Nat → List SVal → Option Res) (k : Nat) : List SVal → Option Res
  | [(.agg [x0a, x0b, x0c, x0d, x0e])] => R43 T k x0a x0b x0c x0d x0e
  | a => bodyE P H T k 43 a
theorem d43 (T : Nat → List SVal → Option Res) (k : Nat) (a : List SVal) : D43 T k a = bodyE P H T k 43 a := by
  unfold D43
  split
  · exact (r43 ..).symm
  · rfl
theorem t43 (k : Nat) (x0a : SVal) (x0b : SVal) (x0c : SVal) (x0d : SVal) (x0e : SVal) : T (k + 1) 43 [(.agg [x0a, x0b, x0c, x0d, x0e])] = R43 (T k) k x0a x0b x0c x0d x0e := (by kernel_rfl : T (k + 1) 43 [(.agg [x0a, x0b, x0c, x0d, x0e])] = bodyE P H (T k) k 43 [(.agg [x0a, x0b, x0c, x0d, x0e])]).trans (r43 ..)
/-- limelight/top.Fix$3 -/
def R44 (T : Nat → List SVal → Option Res) (k : Nat) (x0 : SVal) (x1 : SVal) : Option Res :=
  (T 45 [(weak x1), x0]).bind fun r1 =>
  some { r := r1.r }
theorem r44 (T : Nat → List SVal → Option Res) (k : Nat) (x0 : SVal) (x1 : SVal) : bodyE P H T k 44 [x0, (.rp [x1])] = R44 T k x0 x1 := by kernel_rfl
noncomputable def D44 (T : Nat → List SVal → Option Res) (k : Nat) : List SVal → Option Res
  | [x0, (.rp [x1])] => R44 T k x0 x1
  | a => bodyE P H T k 44 a
theorem d44 (T : Nat → List SVal → Option Res) (k : Nat) (a : List SVal) : D44 T k a = bodyE P H T k 44 a := by
  unfold D44
  split
  · exact (r44 ..).symm
  · rfl
theorem t44 (k : Nat) (x0 : SVal) (x1 : SVal) : T (k + 1) 44 [x0, (.rp [x1])] = R44 (T k) k x0 x1 := (by kernel_rfl : T (k + 1) 44 [x0, (.rp [x1])] = bodyE P H (T k) k 44 [x0, (.rp [x1])]).trans (r44 ..)
/-- slices.Contains[[]int,int] -/
def R45 (T : Nat → List SVal → Option Res) (k : Nat) (x0 : SVal) (x1 : SVal) : Option Res :=
  (T 74 [(weak x0), x1]).bind fun r1 =>
  (sBin .geq r1.r (.int .i64 0)).bind fun r2 =>
  some { r := r2 }
theorem r45 (T : Nat → List SVal → Option Res) (k : Nat) (x0 : SVal) (x1 : SVal) : bodyE P H T k 45 [x0, x1] = R45 T k x0 x1 := by kernel_rfl
noncomputable def D45 (T : Nat → List SVal → Option Res) (k : Nat) : List SVal → Option Res
  | [x0, x1] => R45 T k x0 x1
  | a => bodyE P H T k 45 a
theorem d45 (T : Nat → List SVal → Option Res) (k : Nat) (a : List SVal) : D45 T k a = bodyE P H T k 45 a := by
  unfold D45
  split
  · exact (r45 ..).symm
  · rfl
theorem t45 (k : Nat) (x0 : SVal) (x1 : SVal) : T (k + 1) 45 [x0, x1] = R45 (T k) k x0 x1 := (by kernel_rfl : T (k + 1) 45 [x0, x1] = bodyE P H (T k) k 45 [x0, x1]).trans (r45 ..)
/-- slices.Concat[[]int,int] -/
def R46 (T : Nat → List SVal → Option Res) (k : Nat) (x0 : SVal) : Option Res :=
  (sLen x0).bind fun r1 =>
  loopN (fun s2 next2 =>
   (sBin .lss s2.k4 s2.k3).bind fun r3 =>
   pickC r3
   ((sIdx false 1 s2.k2 s2.k4).bind fun e4 =>
    (sLen e4).bind fun r5 =>
    (sBin .add s2.k1 r5).bind fun r6 =>
    (sBin .lss r6 (.int .i64 0)).bind fun r7 =>
    pickC r7
    (none)
    ((sBin .add s2.k4 (.int .i64 1)).bind fun r8 =>
     next2 ⟨[(weak s2.k0), r6, (weak s2.k2), s2.k3, r8], [], false⟩))
   ((T 75 [(.sl 1 false true []), s2.k1]).bind fun r9 =>
    (sLen s2.k0).bind fun r10 =>
    loopN (fun s11 next11 =>
     (sBin .lss s11.k3 s11.k2).bind fun r12 =>
     pickC r12
     ((sIdx false 1 s11.k1 s11.k3).bind fun e13 =>
      (elems 1 e13).bind fun ys14 =>
      if (s11.k0.xs.length + ys14.length) * 8 ≤ maxAppend then
      (sBin .add s11.k3 (.int .i64 1)).bind fun r15 =>
      next11 ⟨[(.sl 1 true false (s11.k0.xs ++ ys14)), (weak s11.k1), s11.k2, r15], [], false⟩
      else none)
     (some { r := (.sl 1 false false s11.k0.xs) })) k ⟨[(.sl 1 true false r9.r.xs), (weak s2.k0), r10, (.int .i64 0)], [], false⟩)) k ⟨[(weak x0), (.int .i64 0), (weak x0), r1, (.int .i64 0)], [], false⟩
theorem r46 (T : Nat → List SVal → Option Res) (k : Nat) (x0 : SVal) : bodyE P H T k 46 [x0] = R46 T k x0 := by kernel_rfl
noncomputable def D46 (T : Nat → List SVal → Option Res) (k : Nat) : List SVal → Option Res
  | [x0] => R46 T k x0
  | a => bodyE P H T k 46 a
theorem d46 (T : Nat → List SVal → Option Res) (k : Nat) (a : List SVal) : D46 T k a = bodyE P H T k 46 a := by
  unfold D46
  split
  · exact (r46 ..).symm
  · rfl
theorem t46 (k : Nat) (x0 : SVal) : T (k + 1) 46 [x0] = R46 (T k) k x0 := (by kernel_rfl : T (k + 1) 46 [x0] = bodyE P H (T k) k 46 [x0]).trans (r46 ..)
/-- limelight/top.each[limelight/api.Shown,int] -/
def R47 (T : Nat → List SVal → Option Res) (k : Nat) (x0 : SVal) (x1 : SVal) : Option Res :=
  (sLen x0).bind fun r1 =>
  loopN (fun s2 next2 =>
   (sBin .lss s2.k4 s2.k3).bind fun r3 =>
   pickC r3
   ((sIdx true 2 s2.k2 s2.k4).bind fun e4 =>
    if (allOne [.v (SVal.cell e4 0), .v (SVal.cell e4 1)]) = true then
    (callV H T s2.k0 [(.agg [(SVal.cell e4 0), (SVal.cell e4 1)])]).bind fun y5 =>
    if (List.all [[.v y5]] allOne) = true then
    if (s2.k1.xs.length + ([y5] : List SVal).length) * 8 ≤ maxAppend then
    (sBin .add s2.k4 (.int .i64 1)).bind fun r6 =>
    next2 ⟨[s2.k0, (.sl 1 true false (s2.k1.xs ++ [y5])), (weak s2.k2), s2.k3, r6], [], false⟩
    else none
    else none
    else none)
   (some { r := (.sl 1 false false s2.k1.xs) })) k ⟨[x1, (.sl 1 true false []), (weak x0), r1, (.int .i64 0)], [], false⟩
theorem r47 (T : Nat → List SVal → Option Res) (k : Nat) (x0 : SVal) (x1 : SVal) : bodyE P H T k 47 [x0, x1] = R47 T k x0 x1 := by kernel_rfl
noncomputable def D47 (T : Nat → List SVal → Option Res) (k : Nat) : List SVal → Option Res
  | [x0, x1] => R47 T k x0 x1
  | a => bodyE P H T k 47 a
theorem d47 (T : Nat → List SVal → Option Res) (k : Nat) (a : List SVal) : D47 T k a = bodyE P H T k 47 a := by
  unfold D47
  split
  · exact (r47 ..).symm
  · rfl
theorem t47 (k : Nat) (x0 : SVal) (x1 : SVal) : T (k + 1) 47 [x0, x1] = R47 (T k) k x0 x1 := (by kernel_rfl : T (k + 1) 47 [x0, x1] = bodyE P H (T k) k 47 [x0, x1]).trans (r47 ..)
/-- limelight/top.node -/
def R48 (T : Nat → List SVal → Option Res) (k : Nat) (x0a : SVal) (x0b : SVal) : Option Res :=
  some { r := x0a }
theorem r48 (T : Nat → List SVal → Option Res) (k : Nat) (x0a : SVal) (x0b : SVal) : bodyE P H T k 48 [(.agg [x0a, x0b])] = R48 T k x0a x0b := by kernel_rfl
noncomputable def D48 (T : Nat → List SVal → Option Res) (k : Nat) : List SVal → Option Res
  | [(.agg [x0a, x0b])] => R48 T k x0a x0b
  | a => bodyE P H T k 48 a
theorem d48 (T : Nat → List SVal → Option Res) (k : Nat) (a : List SVal) : D48 T k a = bodyE P H T k 48 a := by
  unfold D48
  split
  · exact (r48 ..).symm
  · rfl
theorem t48 (k : Nat) (x0a : SVal) (x0b : SVal) : T (k + 1) 48 [(.agg [x0a, x0b])] = R48 (T k) k x0a x0b := (by kernel_rfl : T (k + 1) 48 [(.agg [x0a, x0b])] = bodyE P H (T k) k 48 [(.agg [x0a, x0b])]).trans (r48 ..)
/-- limelight/limelightref10.Dialogs -/
def R49 (T : Nat → List SVal → Option Res) (k : Nat) (x0 : SVal) (x1 : SVal) : Option Res :=
  ((T 51 [(weak x0), x1]).bind fun r1 =>
   guardX r1.r true
   ((sIdx true 7 x0 x1).bind fun e2 =>
    (sBin .eql (SVal.cell e2 0) (.int .i64 1)).bind fun r3 =>
    guardX r3 true
    ((sIdx true 7 x0 x1).bind fun e4 =>
     (sBin .eql (SVal.cell e4 1) (.int .i64 2)).bind fun r5 =>
     guardX r5 true
     ((T 76 [(weak x0), x1]).bind fun r6 =>
      (asB r6.r).bind fun b7 =>
      some [b7])
     (some [false])
     (none))
    (some [false])
    (none))
   (some [false])
   (none)).bind fun vs8 =>
  some { r := (.bool (vs8.getD 0 false)) }
theorem r49 (T : Nat → List SVal → Option Res) (k : Nat) (x0 : SVal) (x1 : SVal) : bodyE P H T k 49 [x0, x1] = R49 T k x0 x1 := by kernel_rfl
noncomputable def D49 (T : Nat → List SVal → Option Res) (k : Nat) : List SVal → Option Res
  | [x0, x1] => R49 T k x0 x1
  | a => bodyE P H T k 49 a
theorem d49 (T : Nat → List SVal → Option Res) (k : Nat) (a : List SVal) : D49 T k a = bodyE P H T k 49 a := by
  unfold D49
  split
  · exact (r49 ..).symm
  · rfl
theorem t49 (k : Nat) (x0 : SVal) (x1 : SVal) : T (k + 1) 49 [x0, x1] = R49 (T k) k x0 x1 := (by kernel_rfl : T (k + 1) 49 [x0, x1] = bodyE P H (T k) k 49 [x0, x1]).trans (r49 ..)
/-- limelight/limelightref10.Popups -/
def R50 (T : Nat → List SVal → Option Res) (k : Nat) (x0 : SVal) (x1 : SVal) : Option Res :=
  ((T 51 [(weak x0), x1]).bind fun r1 =>
   guardX r1.r true
   ((sIdx true 7 x0 x1).bind fun e2 =>
    (sBin .eql (SVal.cell e2 0) (.int .i64 1)).bind fun r3 =>
    guardX r3 true
    ((T 77 [(weak x0), x1, (.int .i64 6)]).bind fun r4 =>
     guardX r4.r true
     ((T 76 [(weak x0), x1]).bind fun r5 =>
      (asB r5.r).bind fun b6 =>
      some [b6])
     (some [false])
     (none))
    (some [false])
    (none))
   (some [false])
   (none)).bind fun vs7 =>
  some { r := (.bool (vs7.getD 0 false)) }
theorem r50 (T : Nat → List SVal → Option Res) (k : Nat) (x0 : SVal) (x1 : SVal) : bodyE P H T k 50 [x0, x1] = R50 T k x0 x1 := by kernel_rfl
noncomputable def D50 (T : Nat → List SVal → Option Res) (k : Nat) : List SVal → Option Res
  | [x0, x1] => R50 T k x0 x1
  | a => bodyE P H T k 50 a
theorem d50 (T : Nat → List SVal → Option Res) (k : Nat) (a : List SVal) : D50 T k a = bodyE P H T k 50 a := by
  unfold D50
  split
  · exact (r50 ..).symm
  · rfl
theorem t50 (k : Nat) (x0 : SVal) (x1 : SVal) : T (k + 1) 50 [x0, x1] = R50 (T k) k x0 x1 := (by kernel_rfl : T (k + 1) 50 [x0, x1] = bodyE P H (T k) k 50 [x0, x1]).trans (r50 ..)
/-- limelight/limelightref01.Is -/
def R51 (T : Nat → List SVal → Option Res) (k : Nat) (x0 : SVal) (x1 : SVal) : Option Res :=
  ((sBin .geq x1 (.int .i64 0)).bind fun r1 =>
   guardX r1 true
   ((sLen x0).bind fun r2 =>
    (sBin .lss x1 r2).bind fun r3 =>
    (asB r3).bind fun b4 =>
    some [b4])
   (some [false])
   (none)).bind fun vs5 =>
  some { r := (.bool (vs5.getD 0 false)) }
theorem r51 (T : Nat → List SVal → Option Res) (k : Nat) (x0 : SVal) (x1 : SVal) : bodyE P H T k 51 [x0, x1] = R51 T k x0 x1 := by kernel_rfl
noncomputable def D51 (T : Nat → List SVal → Option Res) (k : Nat) : List SVal → Option Res
  | [x0, x1] => R51 T k x0 x1
  | a => bodyE P H T k 51 a
theorem d51 (T : Nat → List SVal → Option Res) (k : Nat) (a : List SVal) : D51 T k a = bodyE P H T k 51 a := by
  unfold D51
  split
  · exact (r51 ..).symm
  · rfl
theorem t51 (k : Nat) (x0 : SVal) (x1 : SVal) : T (k + 1) 51 [x0, x1] = R51 (T k) k x0 x1 := (by kernel_rfl : T (k + 1) 51 [x0, x1] = bodyE P H (T k) k 51 [x0, x1]).trans (r51 ..)
/-- limelight/top.may -/
def R52 (T : Nat → List SVal → Option Res) (k : Nat) (x0a : SVal) (x0b : SVal) (x0c : SVal) (x0d : SVal) (x0e : SVal) : Option Res :=
  if (oneS x0a) = true then
  if (List.all [[.v x0b], [.v x0c]] allOne) = true then
  (T 46 [(.sl 1 false false [x0b, x0c])]).bind fun r1 =>
  (T 38 [(weak r1.r), (.fn 78 [(.rp [x0a])])]).bind fun r2 =>
  (T 39 [(weak x0d), (.fn 79 [(.rp [x0a])])]).bind fun r3 =>
  (T 43 [(.agg [(weak x0a), (weak x0b), (weak x0c), (weak x0d), (weak x0e)])]).bind fun r4 =>
  (T 81 [(weak r4.r)]).bind fun r5 =>
  (T 80 [r5.r]).bind fun r6 =>
  ((sLen r2.r.c1).bind fun r7 =>
   (sBin .eql r7 (.int .i64 0)).bind fun r8 =>
   guardX r8 true
   ((sLen r3.r.c1).bind fun r9 =>
    (sBin .eql r9 (.int .i64 0)).bind fun r10 =>
    guardX r10 true
    (if (List.all [[.v x0b], [.v r4.r]] allOne) = true then
     (T 46 [(.sl 1 false false [x0b, r4.r])]).bind fun r11 =>
     (T 82 [(weak r11.r)]).bind fun r12 =>
     guardX r12.r true
     ((T 81 [(weak x0e)]).bind fun r13 =>
      (T 80 [r13.r]).bind fun r14 =>
      (T 83 [(weak r6.r), (weak r14.r)]).bind fun r15 =>
      (asB r15.r).bind fun b16 =>
      some [b16])
     (some [false])
     (none)
     else none)
    (some [false])
    (none))
   (some [false])
   (none)).bind fun vs17 =>
  some { r := (.bool (vs17.getD 0 false)) }
  else none
  else none
theorem r52 (T : Nat → List SVal → Option Res) (k : Nat) (x0a : SVal) (x0b : SVal) (x0c : SVal) (x0d : SVal) (x0e : SVal) : bodyE P H T k 52 [(.agg [x0a, x0b, x0c, x0d, x0e])] = R52 T k x0a x0b x0c x0d x0e := by kernel_rfl
noncomputable def D52 (T : Nat → List SVal → Option Res) (k : Nat) : List SVal → Option Res
  | [(.agg [x0a, x0b, x0c, x0d, x0e])] => R52 T k x0a x0b x0c x0d x0e
  | a => bodyE P H T k 52 a
theorem d52 (T : Nat → List SVal → Option Res) (k : Nat) (a : List SVal) : D52 T k a = bodyE P H T k 52 a := by
  unfold D52
  split
  · exact (r52 ..).symm
  · rfl
theorem t52 (k : Nat) (x0a : SVal) (x0b : SVal) (x0c : SVal) (x0d : SVal) (x0e : SVal) : T (k + 1) 52 [(.agg [x0a, x0b, x0c, x0d, x0e])] = R52 (T k) k x0a x0b x0c x0d x0e := (by kernel_rfl : T (k + 1) 52 [(.agg [x0a, x0b, x0c, x0d, x0e])] = bodyE P H (T k) k 52 [(.agg [x0a, x0b, x0c, x0d, x0e])]).trans (r52 ..)
/-- slices.Backward[[]int,int] -/
def R53 (T : Nat → List SVal → Option Res) (k : Nat) (x0 : SVal) : Option Res :=
  if (oneS x0) = true then
  some { r := (.fn 84 [(.rp [x0])]) }
  else none
theorem r53 (T : Nat → List SVal → Option Res) (k : Nat) (x0 : SVal) : bodyE P H T k 53 [x0] = R53 T k x0 := by kernel_rfl
noncomputable def D53 (T : Nat → List SVal → Option Res) (k : Nat) : List SVal → Option Res
  | [x0] => R53 T k x0
  | a => bodyE P H T k 53 a
theorem d53 (T : Nat → List SVal → Option Res) (k : Nat) (a : List SVal) : D53 T k a = bodyE P H T k 53 a := by
  unfold D53
  split
  · exact (r53 ..).symm
  · rfl
theorem t53 (k : Nat) (x0 : SVal) : T (k + 1) 53 [x0] = R53 (T k) k x0 := (by kernel_rfl : T (k + 1) 53 [x0] = bodyE P H (T k) k 53 [x0]).trans (r53 ..)
/-- limelight/limelightref01.Same -/
def R54 (T : Nat → List SVal → Option Res) (k : Nat) (x0 : SVal) (x1 : SVal) : Option Res :=
  (sLen x0).bind fun r1 =>
  (sLen x1).bind fun r2 =>
  (sBin .neq r1 r2).bind fun r3 =>
  pickC r3
  (some { r := (.bool false) })
  (loopN (fun s4 next4 =>
    (sLen s4.k0).bind fun r5 =>
    (sBin .lss s4.k2 r5).bind fun r6 =>
    pickC r6
    ((sIdx true 7 s4.k0 s4.k2).bind fun e7 =>
     (sIdx true 7 s4.k1 s4.k2).bind fun e8 =>
     (T 85 [(.agg [(SVal.cell e7 0), (SVal.cell e7 1), (SVal.cell e7 2), (weak (SVal.cell e7 3)), (SVal.cell e7 4), (SVal.cell e7 5), (weak (SVal.cell e7 6))]), (.agg [(SVal.cell e8 0), (SVal.cell e8 1), (SVal.cell e8 2), (weak (SVal.cell e8 3)), (SVal.cell e8 4), (SVal.cell e8 5), (weak (SVal.cell e8 6))])]).bind fun r9 =>
     (sNot r9.r).bind fun r10 =>
     pickC r10
     (some { r := (.bool false) })
     ((sBin .add s4.k2 (.int .i64 1)).bind fun r11 =>
      next4 ⟨[(weak s4.k0), (weak s4.k1), r11], [], false⟩))
    (some { r := (.bool true) })) k ⟨[(weak x0), (weak x1), (.int .i64 0)], [], false⟩)
theorem r54 (T : Nat → List SVal → Option Res) (k : Nat) (x0 : SVal) (x1 : SVal) : bodyE P H T k 54 [x0, x1] = R54 T k x0 x1 := by kernel_rfl
noncomputable def D54 (T : Nat → List SVal → Option Res) (k : Nat) : List SVal → Option Res
  | [x0, x1] => R54 T k x0 x1
  | a => bodyE P H T k 54 a
theorem d54 (T : Nat → List SVal → Option Res) (k : Nat) (a : List SVal) : D54 T k a = bodyE P H T k 54 a := by
  unfold D54
  split
  · exact (r54 ..).symm
  · rfl
theorem t54 (k : Nat) (x0 : SVal) (x1 : SVal) : T (k + 1) 54 [x0, x1] = R54 (T k) k x0 x1 := (by kernel_rfl : T (k + 1) 54 [x0, x1] = bodyE P H (T k) k 54 [x0, x1]).trans (r54 ..)
/-- limelight/top.wrong -/
def R57 (T : Nat → List SVal → Option Res) (k : Nat) (x0a : SVal) (x0b : SVal) (x0c : SVal) (x0d : SVal) (x0e : SVal) (x1 : SVal) (x2 : SVal) : Option Res :=
  (T 42 [(weak x0a), x1]).bind fun r1 =>
  (sNot r1.r).bind fun r2 =>
  pickC r2
  (some { r := (.int .i64 2) })
  ((callV H T x2 [x0a, x1]).bind fun y3 =>
   (sNot y3).bind fun r4 =>
   pickC r4
   (some { r := (.int .i64 3) })
   ((T 59 [(.agg [(weak x0a), (weak x0b), (weak x0c), (weak x0d), (weak x0e)]), x1]).bind fun r5 =>
    pickC r5.r
    (some { r := (.int .i64 9) })
    (some { r := (.int .i64 0) })))
theorem r57 (T : Nat → List SVal → Option Res) (k : Nat) (x0a : SVal) (x0b : SVal) (x0c : SVal) (x0d : SVal) (x0e : SVal) (x1 : SVal) (x2 : SVal) : bodyE P H T k 57 [(.agg [x0a, x0b, x0c, x0d, x0e]), x1, x2] = R57 T k x0a x0b x0c x0d x0e x1 x2 := by kernel_rfl
noncomputable def D57 (T : Nat → List SVal → Option Res) (k : Nat) : List SVal → Option Res
  | [(.agg [x0a, x0b, x0c, x0d, x0e]), x1, x2] => R57 T k x0a x0b x0c x0d x0e x1 x2
  | a => bodyE P H T k 57 a
theorem d57 (T : Nat → List SVal → Option Res) (k : Nat) (a : List SVal) : D57 T k a = bodyE P H T k 57 a := by
  unfold D57
  split
  · exact (r57 ..).symm
  · rfl
theorem t57 (k : Nat) (x0a : SVal) (x0b : SVal) (x0c : SVal) (x0d : SVal) (x0e : SVal) (x1 : SVal) (x2 : SVal) : T (k + 1) 57 [(.agg [x0a, x0b, x0c, x0d, x0e]), x1, x2] = R57 (T k) k x0a x0b x0c x0d x0e x1 x2 := (by kernel_rfl : T (k + 1) 57 [(.agg [x0a, x0b, x0c, x0d, x0e]), x1, x2] = bodyE P H (T k) k 57 [(.agg [x0a, x0b, x0c, x0d, x0e]), x1, x2]).trans (r57 ..)
/-- limelight/limelightref10.Copy -/
def R58 (T : Nat → List SVal → Option Res) (k : Nat) (x0a : SVal) (x0b : SVal) (x0c : SVal) (x0d : SVal) (x0e : SVal) : Option Res :=
  (T 86 [(weak x0a)]).bind fun r1 =>
  (elems 1 x0b).bind fun ys2 =>
  if ys2.length * 8 ≤ maxAppend then
  (elems 1 x0c).bind fun ys3 =>
  if ys3.length * 8 ≤ maxAppend then
  (elems 2 x0d).bind fun ys4 =>
  if ys4.length * 16 ≤ maxAppend then
  (elems 1 x0e).bind fun ys5 =>
  if ys5.length * 8 ≤ maxAppend then
  some { r := (.agg [(.sl 7 false false r1.r.xs), (.sl 1 true false ys2), (.sl 1 true false ys3), (.sl 2 true false ys4), (.sl 1 true false ys5)]) }
  else none
  else none
  else none
  else none
theorem r58 (T : Nat → List SVal → Option Res) (k : Nat) (x0a : SVal) (x0b : SVal) (x0c : SVal) (x0d : SVal) (x0e : SVal) : bodyE P H T k 58 [(.agg [x0a, x0b, x0c, x0d, x0e])] = R58 T k x0a x0b x0c x0d x0e := by kernel_rfl
noncomputable def D58 (T : Nat → List SVal → Option Res) (k : Nat) : List SVal → Option Res
  | [(.agg [x0a, x0b, x0c, x0d, x0e])] => R58 T k x0a x0b x0c x0d x0e
  | a => bodyE P H T k 58 a
theorem d58 (T : Nat → List SVal → Option Res) (k : Nat) (a : List SVal) : D58 T k a = bodyE P H T k 58 a := by
  unfold D58
  split
  · exact (r58 ..).symm
  · rfl
theorem t58 (k : Nat) (x0a : SVal) (x0b : SVal) (x0c : SVal) (x0d : SVal) (x0e : SVal) : T (k + 1) 58 [(.agg [x0a, x0b, x0c, x0d, x0e])] = R58 (T k) k x0a x0b x0c x0d x0e := (by kernel_rfl : T (k + 1) 58 [(.agg [x0a, x0b, x0c, x0d, x0e])] = bodyE P H (T k) k 58 [(.agg [x0a, x0b, x0c, x0d, x0e])]).trans (r58 ..)
/-- limelight/top.open -/
def R59 (T : Nat → List SVal → Option Res) (k : Nat) (x0a : SVal) (x0b : SVal) (x0c : SVal) (x0d : SVal) (x0e : SVal) (x1 : SVal) : Option Res :=
  ((T 45 [(weak x0b), x1]).bind fun r1 =>
   guardX r1.r false
   ((T 43 [(.agg [(weak x0a), (weak x0b), (weak x0c), (weak x0d), (weak x0e)])]).bind fun r2 =>
    (T 45 [(weak r2.r), x1]).bind fun r3 =>
    (asB r3.r).bind fun b4 =>
    some [b4])
   (some [true])
   (none)).bind fun vs5 =>
  some { r := (.bool (vs5.getD 0 false)) }
theorem r59 (T : Nat → List SVal → Option Res) (k : Nat) (x0a : SVal) (x0b : SVal) (x0c : SVal) (x0d : SVal) (x0e : SVal) (x1 : SVal) : bodyE P H T k 59 [(.agg [x0a, x0b, x0c, x0d, x0e]), x1] = R59 T k x0a x0b x0c x0d x0e x1 := by kernel_rfl
noncomputable def D59 (T : Nat → List SVal → Option Res) (k : Nat) : List SVal → Option Res
  | [(.agg [x0a, x0b, x0c, x0d, x0e]), x1] => R59 T k x0a x0b x0c x0d x0e x1
  | a => bodyE P H T k 59 a
theorem d59 (T : Nat → List SVal → Option Res) (k : Nat) (a : List SVal) : D59 T k a = bodyE P H T k 59 a := by
  unfold D59
  split
  · exact (r59 ..).symm
  · rfl
theorem t59 (k : Nat) (x0a : SVal) (x0b : SVal) (x0c : SVal) (x0d : SVal) (x0e : SVal) (x1 : SVal) : T (k + 1) 59 [(.agg [x0a, x0b, x0c, x0d, x0e]), x1] = R59 (T k) k x0a x0b x0c x0d x0e x1 := (by kernel_rfl : T (k + 1) 59 [(.agg [x0a, x0b, x0c, x0d, x0e]), x1] = bodyE P H (T k) k 59 [(.agg [x0a, x0b, x0c, x0d, x0e]), x1]).trans (r59 ..)
/-- limelight/top.Close$1 -/
def R60 (T : Nat → List SVal → Option Res) (k : Nat) (x0 : SVal) (x1 : SVal) : Option Res :=
  (sBin .neq x0 x1).bind fun r1 =>
  some { r := r1 }
theorem r60 (T : Nat → List SVal → Option Res) (k : Nat) (x0 : SVal) (x1 : SVal) : bodyE P H T k 60 [x0, (.rp [x1])] = R60 T k x0 x1 := by kernel_rfl
noncomputable def D60 (T : Nat → List SVal → Option Res) (k : Nat) : List SVal → Option Res
  | [x0, (.rp [x1])] => R60 T k x0 x1
  | a => bodyE P H T k 60 a
theorem d60 (T : Nat → List SVal → Option Res) (k : Nat) (a : List SVal) : D60 T k a = bodyE P H T k 60 a := by
  unfold D60
  split
  · exact (r60 ..).symm
  · rfl
theorem t60 (k : Nat) (x0 : SVal) (x1 : SVal) : T (k + 1) 60 [x0, (.rp [x1])] = R60 (T k) k x0 x1 := (by kernel_rfl : T (k + 1) 60 [x0, (.rp [x1])] = bodyE P H (T k) k 60 [x0, (.rp [x1])]).trans (r60 ..)
/-- limelight/top.Close$2 -/
def R61 (T : Nat → List SVal → Option Res) (k : Nat) (x0a : SVal) (x0b : SVal) (x1 : SVal) : Option Res :=
  (sBin .neq x0a x1).bind fun r1 =>
  some { r := r1 }
theorem r61 (T : Nat → List SVal → Option Res) (k : Nat) (x0a : SVal) (x0b : SVal) (x1 : SVal) : bodyE P H T k 61 [(.agg [x0a, x0b]), (.rp [x1])] = R61 T k x0a x0b x1 := by kernel_rfl
noncomputable def D61 (T : Nat → List SVal → Option Res) (k : Nat) : List SVal → Option Res
  | [(.agg [x0a, x0b]), (.rp [x1])] => R61 T k x0a x0b x1
  | a => bodyE P H T k 61 a
theorem d61 (T : Nat → List SVal → Option Res) (k : Nat) (a : List SVal) : D61 T k a = bodyE P H T k 61 a := by
  unfold D61
  split
  · exact (r61 ..).symm
  · rfl
theorem t61 (k : Nat) (x0a : SVal) (x0b : SVal) (x1 : SVal) : T (k + 1) 61 [(.agg [x0a, x0b]), (.rp [x1])] = R61 (T k) k x0a x0b x1 := (by kernel_rfl : T (k + 1) 61 [(.agg [x0a, x0b]), (.rp [x1])] = bodyE P H (T k) k 61 [(.agg [x0a, x0b]), (.rp [x1])]).trans (r61 ..)
/-- limelight/limelightref10.without -/
def R62 (T : Nat → List SVal → Option Res) (k : Nat) (x0 : SVal) (x1 : SVal) : Option Res :=
  loopN (fun s1 next1 =>
   (sLen s1.k0).bind fun r2 =>
   (sBin .lss s1.k3 r2).bind fun r3 =>
   pickC r3
   ((sIdx false 1 s1.k0 s1.k3).bind fun e4 =>
    (sBin .neq e4 s1.k1).bind fun r5 =>
    pickC r5
    ((sIdx false 1 s1.k0 s1.k3).bind fun e6 =>
     if (List.all [[.v e6]] allOne) = true then
     if (s1.k2.xs.length + ([e6] : List SVal).length) * 8 ≤ maxAppend then
     (sBin .add s1.k3 (.int .i64 1)).bind fun r7 =>
     next1 ⟨[(weak s1.k0), s1.k1, (.sl 1 true false (s1.k2.xs ++ [e6])), r7], [], false⟩
     else none
     else none)
    ((sBin .add s1.k3 (.int .i64 1)).bind fun r8 =>
     next1 ⟨[(weak s1.k0), s1.k1, (.sl 1 true false s1.k2.xs), r8], [], false⟩))
   (some { r := (.sl 1 false false s1.k2.xs) })) k ⟨[(weak x0), x1, (.sl 1 true false []), (.int .i64 0)], [], false⟩
theorem r62 (T : Nat → List SVal → Option Res) (k : Nat) (x0 : SVal) (x1 : SVal) : bodyE P H T k 62 [x0, x1] = R62 T k x0 x1 := by kernel_rfl
noncomputable def D62 (T : Nat → List SVal → Option Res) (k : Nat) : List SVal → Option Res
  | [x0, x1] => R62 T k x0 x1
  | a => bodyE P H T k 62 a
theorem d62 (T : Nat → List SVal → Option Res) (k : Nat) (a : List SVal) : D62 T k a = bodyE P H T k 62 a := by
  unfold D62
  split
  · exact (r62 ..).symm
  · rfl
theorem t62 (k : Nat) (x0 : SVal) (x1 : SVal) : T (k + 1) 62 [x0, x1] = R62 (T k) k x0 x1 := (by kernel_rfl : T (k + 1) 62 [x0, x1] = bodyE P H (T k) k 62 [x0, x1]).trans (r62 ..)
/-- limelight/limelightref10.open -/
def R63 (T : Nat → List SVal → Option Res) (k : Nat) (x0a : SVal) (x0b : SVal) (x0c : SVal) (x0d : SVal) (x0e : SVal) : Option Res :=
  (elems 1 x0b).bind fun ys1 =>
  if ys1.length * 8 ≤ maxAppend then
  (elems 1 x0c).bind fun ys2 =>
  if (ys1.length + ys2.length) * 8 ≤ maxAppend then
  (T 30 [(weak x0d)]).bind fun r3 =>
  (elems 1 r3.r).bind fun ys4 =>
  if ((ys1 ++ ys2).length + ys4.length) * 8 ≤ maxAppend then
  some { r := (.sl 1 false false ((ys1 ++ ys2) ++ ys4)) }
  else none
  else none
  else none
theorem r63 (T : Nat → List SVal → Option Res) (k : Nat) (x0a : SVal) (x0b : SVal) (x0c : SVal) (x0d : SVal) (x0e : SVal) : bodyE P H T k 63 [(.agg [x0a, x0b, x0c, x0d, x0e])] = R63 T k x0a x0b x0c x0d x0e := by kernel_rfl
noncomputable def D63 (T : Nat → List SVal → Option Res) (k : Nat) : List SVal → Option Res
  | [(.agg [x0a, x0b, x0c, x0d, x0e])] => R63 T k x0a x0b x0c x0d x0e
  | a => bodyE P H T k 63 a
theorem d63 (T : Nat → List SVal → Option Res) (k : Nat) (a : List SVal) : D63 T k a = bodyE P H T k 63 a := by
  unfold D63
  split
  · exact (r63 ..).symm
  · rfl
theorem t63 (k : Nat) (x0a : SVal) (x0b : SVal) (x0c : SVal) (x0d : SVal) (x0e : SVal) : T (k + 1) 63 [(.agg [x0a, x0b, x0c, x0d, x0e])] = R63 (T k) k x0a x0b x0c x0d x0e := (by kernel_rfl : T (k + 1) 63 [(.agg [x0a, x0b, x0c, x0d, x0e])] = bodyE P H (T k) k 63 [(.agg [x0a, x0b, x0c, x0d, x0e])]).trans (r63 ..)
/-- limelight/limelightref01.kind -/
def R64 (T : Nat → List SVal → Option Res) (k : Nat) (x0a : SVal) (x0b : SVal) (x0c : SVal) (x0d : SVal) (x0e : SVal) (x0f : SVal) (x0g : SVal) (x1 : SVal) : Option Res :=
  ((sBin .eql x0a (.int .i64 0)).bind fun r1 =>
   (sBin .eql x1 (.int .i64 0)).bind fun r2 =>
   (sBinB .neq r1 r2).bind fun r3 =>
   guardX r3 false
   ((sBin .lss x0a (.int .i64 0)).bind fun r4 =>
    guardX r4 false
    ((sBin .gtr x0a (.int .i64 3)).bind fun r5 =>
     (asB r5).bind fun b6 =>
     some [b6])
    (some [true])
    (none))
   (some [true])
   (none)).bind fun vs7 =>
  pickC (.bool (vs7.getD 0 false))
  (some { r := (.bool false) })
  ((sBin .eql x0a (.int .i64 1)).bind fun r8 =>
   pickC r8
   (((sBin .geq x0b (.int .i64 0)).bind fun r9 =>
     guardX r9 true
     ((sBin .leq x0b (.int .i64 4)).bind fun r10 =>
      (asB r10).bind fun b11 =>
      some [b11])
     (some [false])
     (none)).bind fun vs12 =>
    some { r := (.bool (vs12.getD 0 false)) })
   ((sBin .eql x0b (.int .i64 0)).bind fun r13 =>
    some { r := r13 }))
theorem r64 (T : Nat → List SVal → Option Res) (k : Nat) (x0a : SVal) (x0b : SVal) (x0c : SVal) (x0d : SVal) (x0e : SVal) (x0f : SVal) (x0g : SVal) (x1 : SVal) : bodyE P H T k 64 [(.agg [x0a, x0b, x0c, x0d, x0e, x0f, x0g]), x1] = R64 T k x0a x0b x0c x0d x0e x0f x0g x1 := by kernel_rfl
noncomputable def D64 (T : Nat → List SVal → Option Res) (k : Nat) : List SVal → Option Res
  | [(.agg [x0a, x0b, x0c, x0d, x0e, x0f, x0g]), x1] => R64 T k x0a x0b x0c x0d x0e x0f x0g x1
  | a => bodyE P H T k 64 a
theorem d64 (T : Nat → List SVal → Option Res) (k : Nat) (a : List SVal) : D64 T k a = bodyE P H T k 64 a := by
  unfold D64
  split
  · exact (r64 ..).symm
  · rfl
theorem t64 (k : Nat) (x0a : SVal) (x0b : SVal) (x0c : SVal) (x0d : SVal) (x0e : SVal) (x0f : SVal) (x0g : SVal) (x1 : SVal) : T (k + 1) 64 [(.agg [x0a, x0b, x0c, x0d, x0e, x0f, x0g]), x1] = R64 (T k) k x0a x0b x0c x0d x0e x0f x0g x1 := (by kernel_rfl : T (k + 1) 64 [(.agg [x0a, x0b, x0c, x0d, x0e, x0f, x0g]), x1] = bodyE P H (T k) k 64 [(.agg [x0a, x0b, x0c, x0d, x0e, x0f, x0g]), x1]).trans (r64 ..)
/-- limelight/limelightref01.attrs -/
def R65 (T : Nat → List SVal → Option Res) (k : Nat) (x0a : SVal) (x0b : SVal) (x0c : SVal) (x0d : SVal) (x0e : SVal) (x0f : SVal) (x0g : SVal) : Option Res :=
  loopN (fun s1 next1 =>
   (sLen (SVal.cell s1.k0 6)).bind fun r2 =>
   (sBin .lss s1.k1 r2).bind fun r3 =>
   pickC r3
   (((sIdx true 2 (SVal.cell s1.k0 6) s1.k1).bind fun e4 =>
     (T 87 [(SVal.cell s1.k0 0), (.agg [(SVal.cell e4 0), (SVal.cell e4 1)])]).bind fun r5 =>
     (sNot r5.r).bind fun r6 =>
     guardX r6 false
     ((sBin .gtr s1.k1 (.int .i64 0)).bind fun r7 =>
      guardX r7 true
      ((sIdx true 2 (SVal.cell s1.k0 6) s1.k1).bind fun e8 =>
       (sBin .sub s1.k1 (.int .i64 1)).bind fun r9 =>
       (sIdx true 2 (SVal.cell s1.k0 6) r9).bind fun e10 =>
       (sBin .leq (SVal.cell e8 0) (SVal.cell e10 0)).bind fun r11 =>
       (asB r11).bind fun b12 =>
       some [b12])
      (some [false])
      (none))
     (some [true])
     (none)).bind fun vs13 =>
    pickC (.bool (vs13.getD 0 false))
    (some { r := (.bool false) })
    ((sBin .add s1.k1 (.int .i64 1)).bind fun r14 =>
     next1 ⟨[(.rp [(SVal.cell s1.k0 0), (SVal.cell s1.k0 1), (SVal.cell s1.k0 2), (SVal.cell s1.k0 3), (SVal.cell s1.k0 4), (SVal.cell s1.k0 5), (SVal.cell s1.k0 6)]), r14], [], false⟩))
   (some { r := (.bool true) })) k ⟨[(.rp [x0a, x0b, x0c, x0d, x0e, x0f, x0g]), (.int .i64 0)], [], false⟩
theorem r65 (T : Nat → List SVal → Option Res) (k : Nat) (x0a : SVal) (x0b : SVal) (x0c : SVal) (x0d : SVal) (x0e : SVal) (x0f : SVal) (x0g : SVal) : bodyE P H T k 65 [(.agg [x0a, x0b, x0c, x0d, x0e, x0f, x0g])] = R65 T k x0a x0b x0c x0d x0e x0f x0g := by kernel_rfl
noncomputable def D65 (T : Nat → List SVal → Option Res) (k : Nat) : List SVal → Option Res
  | [(.agg [x0a, x0b, x0c, x0d, x0e, x0f, x0g])] => R65 T k x0a x0b x0c x0d x0e x0f x0g
  | a => bodyE P H T k 65 a
theorem d65 (T : Nat → List SVal → Option Res) (k : Nat) (a : List SVal) : D65 T k a = bodyE P H T k 65 a := by
  unfold D65
  split
  · exact (r65 ..).symm
  · rfl
theorem t65 (k : Nat) (x0a : SVal) (x0b : SVal) (x0c : SVal) (x0d : SVal) (x0e : SVal) (x0f : SVal) (x0g : SVal) : T (k + 1) 65 [(.agg [x0a, x0b, x0c, x0d, x0e, x0f, x0g])] = R65 (T k) k x0a x0b x0c x0d x0e x0f x0g := (by kernel_rfl : T (k + 1) 65 [(.agg [x0a, x0b, x0c, x0d, x0e, x0f, x0g])] = bodyE P H (T k) k 65 [(.agg [x0a, x0b, x0c, x0d, x0e, x0f, x0g])]).trans (r65 ..)
/-- limelight/limelightref01.kids -/
def R66 (T : Nat → List SVal → Option Res) (k : Nat) (x0 : SVal) (x1 : SVal) : Option Res :=
  (sIdx true 7 x0 x1).bind fun e1 =>
  if (allOne [.v (SVal.cell e1 0), .v (SVal.cell e1 1), .v (SVal.cell e1 2), .v (SVal.cell e1 3), .v (SVal.cell e1 4), .v (SVal.cell e1 5), .v (SVal.cell e1 6)]) = true then
  loopN (fun s2 next2 =>
   (sLen (SVal.cell s2.k2 3)).bind fun r3 =>
   (sBin .lss s2.k3 r3).bind fun r4 =>
   pickC r4
   ((sIdx false 1 (SVal.cell s2.k2 3) s2.k3).bind fun e5 =>
    ((T 51 [(weak s2.k0), e5]).bind fun r6 =>
     (sNot r6.r).bind fun r7 =>
     guardX r7 false
     ((T 88 [(weak (SVal.cell s2.k2 3)), e5]).bind fun r8 =>
      (sBin .neq r8.r (.int .i64 1)).bind fun r9 =>
      (asB r9).bind fun b10 =>
      some [b10])
     (some [true])
     (none)).bind fun vs11 =>
    pickC (.bool (vs11.getD 0 false))
    (some { r := (.bool false) })
    (((sIdx true 7 s2.k0 e5).bind fun e12 =>
      (sBin .neq (SVal.cell e12 2) s2.k1).bind fun r13 =>
      guardX r13 false
      ((sIdx true 7 s2.k0 e5).bind fun e14 =>
       (sBin .neq (SVal.cell e14 0) (.int .i64 1)).bind fun r15 =>
       guardX r15 true
       ((sIdx true 7 s2.k0 e5).bind fun e16 =>
        (sBin .neq (SVal.cell e16 0) (.int .i64 2)).bind fun r17 =>
        (asB r17).bind fun b18 =>
        some [b18])
       (some [false])
       (none))
      (some [true])
      (none)).bind fun vs19 =>
     pickC (.bool (vs19.getD 0 false))
     (some { r := (.bool false) })
     ((sBin .add s2.k3 (.int .i64 1)).bind fun r20 =>
      next2 ⟨[(weak s2.k0), s2.k1, (.rp [(SVal.cell s2.k2 0), (SVal.cell s2.k2 1), (SVal.cell s2.k2 2), (SVal.cell s2.k2 3), (SVal.cell s2.k2 4), (SVal.cell s2.k2 5), (SVal.cell s2.k2 6)]), r20], [], false⟩)))
   (((sBin .eql (SVal.cell s2.k2 0) (.int .i64 2)).bind fun r21 =>
     guardX r21 true
     ((sLen (SVal.cell s2.k2 3)).bind fun r22 =>
      (sBin .gtr r22 (.int .i64 0)).bind fun r23 =>
      (asB r23).bind fun b24 =>
      some [b24])
     (some [false])
     (none)).bind fun vs25 =>
    pickC (.bool (vs25.getD 0 false))
    (some { r := (.bool false) })
    ((sBin .eql (SVal.cell s2.k2 2) (.int .i64 (-1))).bind fun r26 =>
     pickC r26
     (some { r := (.bool true) })
     (((T 51 [(weak s2.k0), (SVal.cell s2.k2 2)]).bind fun r27 =>
       guardX r27.r true
       ((sIdx true 7 s2.k0 (SVal.cell s2.k2 2)).bind fun e28 =>
        (T 88 [(weak (SVal.cell e28 3)), s2.k1]).bind fun r29 =>
        (sBin .eql r29.r (.int .i64 1)).bind fun r30 =>
        (asB r30).bind fun b31 =>
        some [b31])
       (some [false])
       (none)).bind fun vs32 =>
      some { r := (.bool (vs32.getD 0 false)) })))) k ⟨[(weak x0), x1, (.rp [(SVal.cell e1 0), (SVal.cell e1 1), (SVal.cell e1 2), (SVal.cell e1 3), (SVal.cell e1 4), (SVal.cell e1 5), (SVal.cell e1 6)]), (.int .i64 0)], [], false⟩
  else none
theorem r66 (T : Nat → List SVal → Option Res) (k : Nat) (x0 : SVal) (x1 : SVal) : bodyE P H T k 66 [x0, x1] = R66 T k x0 x1 := by kernel_rfl
noncomputable def D66 (T : Nat → List SVal → Option Res) (k : Nat) : List SVal → Option Res
  | [x0, x1] => R66 T k x0 x1
  | a => bodyE P H T k 66 a
theorem d66 (T : Nat → List SVal → Option Res) (k : Nat) (a : List SVal) : D66 T k a = bodyE P H T k 66 a := by
  unfold D66
  split
  · exact (r66 ..).symm
  · rfl
theorem t66 (k : Nat) (x0 : SVal) (x1 : SVal) : T (k + 1) 66 [x0, x1] = R66 (T k) k x0 x1 := (by kernel_rfl : T (k + 1) 66 [x0, x1] = bodyE P H (T k) k 66 [x0, x1]).trans (r66 ..)
/-- limelight/limelightref01.shadow -/
def R67 (T : Nat → List SVal → Option Res) (k : Nat) (x0 : SVal) (x1 : SVal) : Option Res :=
  (sIdx true 7 x0 x1).bind fun e1 =>
  if (allOne [.v (SVal.cell e1 0), .v (SVal.cell e1 1), .v (SVal.cell e1 2), .v (SVal.cell e1 3), .v (SVal.cell e1 4), .v (SVal.cell e1 5), .v (SVal.cell e1 6)]) = true then
  (sBin .eql (SVal.cell e1 0) (.int .i64 3)).bind fun r2 =>
  pickC r2
  (((sBin .eql (SVal.cell e1 5) (.int .i64 (-1))).bind fun r3 =>
    guardX r3 true
    ((sBin .eql (SVal.cell e1 2) (.int .i64 (-1))).bind fun r4 =>
     guardX r4 true
     ((T 51 [(weak x0), (SVal.cell e1 4)]).bind fun r5 =>
      guardX r5.r true
      ((sIdx true 7 x0 (SVal.cell e1 4)).bind fun e6 =>
       (sBin .eql (SVal.cell e6 0) (.int .i64 1)).bind fun r7 =>
       guardX r7 true
       ((sIdx true 7 x0 (SVal.cell e1 4)).bind fun e8 =>
        (sBin .eql (SVal.cell e8 5) x1).bind fun r9 =>
        (asB r9).bind fun b10 =>
        some [b10])
       (some [false])
       (none))
      (some [false])
      (none))
     (some [false])
     (none))
    (some [false])
    (none)).bind fun vs11 =>
   some { r := (.bool (vs11.getD 0 false)) })
  ((sBin .neq (SVal.cell e1 4) (.int .i64 (-1))).bind fun r12 =>
   pickC r12
   (some { r := (.bool false) })
   ((sBin .eql (SVal.cell e1 5) (.int .i64 (-1))).bind fun r13 =>
    pickC r13
    (some { r := (.bool true) })
    (((sBin .eql (SVal.cell e1 0) (.int .i64 1)).bind fun r14 =>
      guardX r14 true
      ((T 51 [(weak x0), (SVal.cell e1 5)]).bind fun r15 =>
       guardX r15.r true
       ((sIdx true 7 x0 (SVal.cell e1 5)).bind fun e16 =>
        (sBin .eql (SVal.cell e16 0) (.int .i64 3)).bind fun r17 =>
        guardX r17 true
        ((sIdx true 7 x0 (SVal.cell e1 5)).bind fun e18 =>
         (sBin .eql (SVal.cell e18 4) x1).bind fun r19 =>
         (asB r19).bind fun b20 =>
         some [b20])
        (some [false])
        (none))
       (some [false])
       (none))
      (some [false])
      (none)).bind fun vs21 =>
     some { r := (.bool (vs21.getD 0 false)) })))
  else none
theorem r67 (T : Nat → List SVal → Option Res) (k : Nat) (x0 : SVal) (x1 : SVal) : bodyE P H T k 67 [x0, x1] = R67 T k x0 x1 := by kernel_rfl
noncomputable def D67 (T : Nat → List SVal → Option Res) (k : Nat) : List SVal → Option Res
  | [x0, x1] => R67 T k x0 x1
  | a => bodyE P H T k 67 a
theorem d67 (T : Nat → List SVal → Option Res) (k : Nat) (a : List SVal) : D67 T k a = bodyE P H T k 67 a := by
  unfold D67
  split
  · exact (r67 ..).symm
  · rfl
theorem t67 (k : Nat) (x0 : SVal) (x1 : SVal) : T (k + 1) 67 [x0, x1] = R67 (T k) k x0 x1 := (by kernel_rfl : T (k + 1) 67 [x0, x1] = bodyE P H (T k) k 67 [x0, x1]).trans (r67 ..)
/-- limelight/limelightref01.ends -/
def R68 (T : Nat → List SVal → Option Res) (k : Nat) (x0 : SVal) (x1 : SVal) : Option Res :=
  loopN (fun s1 next1 =>
   (sLen s1.k0).bind fun r2 =>
   (sBin .leq s1.k2 r2).bind fun r3 =>
   pickC r3
   ((sBin .eql s1.k1 (.int .i64 (-1))).bind fun r4 =>
    pickC r4
    (some { r := (.bool true) })
    ((T 89 [(weak s1.k0), s1.k1]).bind fun r5 =>
     (sBin .add s1.k2 (.int .i64 1)).bind fun r6 =>
     next1 ⟨[(weak s1.k0), r5.r, r6], [], false⟩))
   (some { r := (.bool false) })) k ⟨[(weak x0), x1, (.int .i64 0)], [], false⟩
theorem r68 (T : Nat → List SVal → Option Res) (k : Nat) (x0 : SVal) (x1 : SVal) : bodyE P H T k 68 [x0, x1] = R68 T k x0 x1 := by kernel_rfl
noncomputable def D68 (T : Nat → List SVal → Option Res) (k : Nat) : List SVal → Option Res
  | [x0, x1] => R68 T k x0 x1
  | a => bodyE P H T k 68 a
theorem d68 (T : Nat → List SVal → Option Res) (k : Nat) (a : List SVal) : D68 T k a = bodyE P H T k 68 a := by
  unfold D68
  split
  · exact (r68 ..).symm
  · rfl
theorem t68 (k : Nat) (x0 : SVal) (x1 : SVal) : T (k + 1) 68 [x0, x1] = R68 (T k) k x0 x1 := (by kernel_rfl : T (k + 1) 68 [x0, x1] = bodyE P H (T k) k 68 [x0, x1]).trans (r68 ..)
/-- limelight/tree.may -/
def R69 (T : Nat → List SVal → Option Res) (k : Nat) (x0 : SVal) : Option Res :=
  (sLen x0).bind fun r1 =>
  (T 90 [r1, (.int .i64 1), (.int .i64 64)]).bind fun r2 =>
  (sNot r2.r).bind fun r3 =>
  pickC r3
  (some { r := (.bool false) })
  ((sLen x0).bind fun r4 =>
   loopN (fun s5 next5 =>
    (sBin .lss s5.k2 s5.k1).bind fun r6 =>
    pickC r6
    ((T 91 [(weak s5.k0), s5.k2]).bind fun r7 =>
     (sNot r7.r).bind fun r8 =>
     pickC r8
     (some { r := (.bool false) })
     ((sBin .add s5.k2 (.int .i64 1)).bind fun r9 =>
      next5 ⟨[(weak s5.k0), s5.k1, r9], [], false⟩))
    ((sLen s5.k0).bind fun r10 =>
     loopN (fun s11 next11 =>
      (sBin .lss s11.k2 s11.k1).bind fun r12 =>
      pickC r12
      ((T 92 [(weak s11.k0), s11.k2]).bind fun r13 =>
       pickC r13.r
       (some { r := (.bool false) })
       ((sBin .add s11.k2 (.int .i64 1)).bind fun r14 =>
        next11 ⟨[(weak s11.k0), s11.k1, r14], [], false⟩))
      (some { r := (.bool true) })) k ⟨[(weak s5.k0), r10, (.int .i64 0)], [], false⟩)) k ⟨[(weak x0), r4, (.int .i64 0)], [], false⟩)
theorem r69 (T : Nat → List SVal → Option Res) (k : Nat) (x0 : SVal) : bodyE P H T k 69 [x0] = R69 T k x0 := by kernel_rfl
noncomputable def D69 (T : Nat → List SVal → Option Res) (k : Nat) : List SVal → Option Res
  | [x0] => R69 T k x0
  | a => bodyE P H T k 69 a
theorem d69 (T : Nat → List SVal → Option Res) (k : Nat) (a : List SVal) : D69 T k a = bodyE P H T k 69 a := by
  unfold D69
  split
  · exact (r69 ..).symm
  · rfl
theorem t69 (k : Nat) (x0 : SVal) : T (k + 1) 69 [x0] = R69 (T k) k x0 := (by kernel_rfl : T (k + 1) 69 [x0] = bodyE P H (T k) k 69 [x0]).trans (r69 ..)
/-- limelight/top.element -/
def R72 (T : Nat → List SVal → Option Res) (k : Nat) (x0 : SVal) (x1 : SVal) : Option Res :=
  ((T 93 [(weak x0), x1]).bind fun r1 =>
   guardX r1.r true
   ((sIdx true 7 x0 x1).bind fun e2 =>
    (sBin .eql (SVal.cell e2 0) (.int .i64 1)).bind fun r3 =>
    (asB r3).bind fun b4 =>
    some [b4])
   (some [false])
   (none)).bind fun vs5 =>
  some { r := (.bool (vs5.getD 0 false)) }
theorem r72 (T : Nat → List SVal → Option Res) (k : Nat) (x0 : SVal) (x1 : SVal) : bodyE P H T k 72 [x0, x1] = R72 T k x0 x1 := by kernel_rfl
noncomputable def D72 (T : Nat → List SVal → Option Res) (k : Nat) : List SVal → Option Res
  | [x0, x1] => R72 T k x0 x1
  | a => bodyE P H T k 72 a
theorem d72 (T : Nat → List SVal → Option Res) (k : Nat) (a : List SVal) : D72 T k a = bodyE P H T k 72 a := by
  unfold D72
  split
  · exact (r72 ..).symm
  · rfl
theorem t72 (k : Nat) (x0 : SVal) (x1 : SVal) : T (k + 1) 72 [x0, x1] = R72 (T k) k x0 x1 := (by kernel_rfl : T (k + 1) 72 [x0, x1] = bodyE P H (T k) k 72 [x0, x1]).trans (r72 ..)
/-- limelight/attr.Has -/
def R73 (T : Nat → List SVal → Option Res) (k : Nat) (x0 : SVal) (x1 : SVal) (x2 : SVal) : Option Res :=
  (T 94 [(weak x0), x1, x2]).bind fun r1 =>
  some { r := r1.r.c1 }
theorem r73 (T : Nat → List SVal → Option Res) (k : Nat) (x0 : SVal) (x1 : SVal) (x2 : SVal) : bodyE P H T k 73 [x0, x1, x2] = R73 T k x0 x1 x2 := by kernel_rfl
noncomputable def D73 (T : Nat → List SVal → Option Res) (k : Nat) : List SVal → Option Res
  | [x0, x1, x2] => R73 T k x0 x1 x2
  | a => bodyE P H T k 73 a
theorem d73 (T : Nat → List SVal → Option Res) (k : Nat) (a : List SVal) : D73 T k a = bodyE P H T k 73 a := by
  unfold D73
  split
  · exact (r73 ..).symm
  · rfl
theorem t73 (k : Nat) (x0 : SVal) (x1 : SVal) (x2 : SVal) : T (k + 1) 73 [x0, x1, x2] = R73 (T k) k x0 x1 x2 := (by kernel_rfl : T (k + 1) 73 [x0, x1, x2] = bodyE P H (T k) k 73 [x0, x1, x2]).trans (r73 ..)
/-- slices.Index[[]int,int] -/
def R74 (T : Nat → List SVal → Option Res) (k : Nat) (x0 : SVal) (x1 : SVal) : Option Res :=
  (sLen x0).bind fun r1 =>
  loopN (fun s2 next2 =>
   (sBin .lss s2.k3 s2.k2).bind fun r3 =>
   pickC r3
   ((sIdx false 1 s2.k0 s2.k3).bind fun e4 =>
    (sBin .eql s2.k1 e4).bind fun r5 =>
    pickC r5
    (some { r := s2.k3 })
    ((sBin .add s2.k3 (.int .i64 1)).bind fun r6 =>
     next2 ⟨[(weak s2.k0), s2.k1, s2.k2, r6], [], false⟩))
   (some { r := (.int .i64 (-1)) })) k ⟨[(weak x0), x1, r1, (.int .i64 0)], [], false⟩
theorem r74 (T : Nat → List SVal → Option Res) (k : Nat) (x0 : SVal) (x1 : SVal) : bodyE P H T k 74 [x0, x1] = R74 T k x0 x1 := by kernel_rfl
noncomputable def D74 (T : Nat → List SVal → Option Res) (k : Nat) : List SVal → Option Res
  | [x0, x1] => R74 T k x0 x1
  | a => bodyE P H T k 74 a
theorem d74 (T : Nat → List SVal → Option Res) (k : Nat) (a : List SVal) : D74 T k a = bodyE P H T k 74 a := by
  unfold D74
  split
  · exact (r74 ..).symm
  · rfl
theorem t74 (k : Nat) (x0 : SVal) (x1 : SVal) : T (k + 1) 74 [x0, x1] = R74 (T k) k x0 x1 := (by kernel_rfl : T (k + 1) 74 [x0, x1] = bodyE P H (T k) k 74 [x0, x1]).trans (r74 ..)
/-- slices.Grow[[]int,int] -/
noncomputable def R75 (T : Nat → List SVal → Option Res) (k : Nat) (x1 : SVal) : Option Res :=
  (sBin .lss x1 (.int .i64 0)).bind fun r1 =>
  pickC r1
  (none)
  ((sBin .sub (.int .i64 0) (.int .i64 0)).bind fun r2 =>
   (sBin .sub x1 r2).bind fun r3 =>
   (sBin .gtr r3 (.int .i64 0)).bind fun r4 =>
   pickC r4
   ((sSlice 1 (.sl 1 false true []) none (some (.int .i64 0))).bind fun r5 =>
    (elemsM P 24 3 (.v r5) r3).bind fun ys6 =>
    if isNilS r5 = true then
    if ys6.length * 8 ≤ maxAppend then
    (sBnd ys6.length (.int .i64 0)).bind fun n7 =>
    some { r := (.sl 1 true false (ys6.take n7)) }
    else none
    else none)
   (some { r := (.sl 1 true false []) }))
theorem r75 (T : Nat → List SVal → Option Res) (k : Nat) (x1 : SVal) : bodyE P H T k 75 [(.sl 1 false true []), x1] = R75 T k x1 := by kernel_rfl
noncomputable def D75 (T : Nat → List SVal → Option Res) (k : Nat) : List SVal → Option Res
  | [(.sl 1 false true []), x1] => R75 T k x1
  | a => bodyE P H T k 75 a
theorem d75 (T : Nat → List SVal → Option Res) (k : Nat) (a : List SVal) : D75 T k a = bodyE P H T k 75 a := by
  unfold D75
  split
  · exact (r75 ..).symm
  · rfl
theorem t75 (k : Nat) (x1 : SVal) : T (k + 1) 75 [(.sl 1 false true []), x1] = R75 (T k) k x1 := (by kernel_rfl : T (k + 1) 75 [(.sl 1 false true []), x1] = bodyE P H (T k) k 75 [(.sl 1 false true []), x1]).trans (r75 ..)
/-- limelight/limelightref04.Connected -/
def R76 (T : Nat → List SVal → Option Res) (k : Nat) (x0 : SVal) (x1 : SVal) : Option Res :=
  (T 95 [(weak x0), (.int .i64 0), x1]).bind fun r1 =>
  some { r := r1.r }
theorem r76 (T : Nat → List SVal → Option Res) (k : Nat) (x0 : SVal) (x1 : SVal) : bodyE P H T k 76 [x0, x1] = R76 T k x0 x1 := by kernel_rfl
noncomputable def D76 (T : Nat → List SVal → Option Res) (k : Nat) : List SVal → Option Res
  | [x0, x1] => R76 T k x0 x1
  | a => bodyE P H T k 76 a
theorem d76 (T : Nat → List SVal → Option Res) (k : Nat) (a : List SVal) : D76 T k a = bodyE P H T k 76 a := by
  unfold D76
  split
  · exact (r76 ..).symm
  · rfl
theorem t76 (k : Nat) (x0 : SVal) (x1 : SVal) : T (k + 1) 76 [x0, x1] = R76 (T k) k x0 x1 := (by kernel_rfl : T (k + 1) 76 [x0, x1] = bodyE P H (T k) k 76 [x0, x1]).trans (r76 ..)
/-- limelight/limelightref02.Has -/
def R77 (T : Nat → List SVal → Option Res) (k : Nat) (x0 : SVal) (x1 : SVal) (x2 : SVal) : Option Res :=
  (T 96 [(weak x0), x1, x2]).bind fun r1 =>
  some { r := r1.r.c1 }
theorem r77 (T : Nat → List SVal → Option Res) (k : Nat) (x0 : SVal) (x1 : SVal) (x2 : SVal) : bodyE P H T k 77 [x0, x1, x2] = R77 T k x0 x1 x2 := by kernel_rfl
noncomputable def D77 (T : Nat → List SVal → Option Res) (k : Nat) : List SVal → Option Res
  | [x0, x1, x2] => R77 T k x0 x1 x2
  | a => bodyE P H T k 77 a
theorem d77 (T : Nat → List SVal → Option Res) (k : Nat) (a : List SVal) : D77 T k a = bodyE P H T k 77 a := by
  unfold D77
  split
  · exact (r77 ..).symm
  · rfl
theorem t77 (k : Nat) (x0 : SVal) (x1 : SVal) (x2 : SVal) : T (k + 1) 77 [x0, x1, x2] = R77 (T k) k x0 x1 x2 := (by kernel_rfl : T (k + 1) 77 [x0, x1, x2] = bodyE P H (T k) k 77 [x0, x1, x2]).trans (r77 ..)
/-- limelight/top.may$1 -/
def R78 (T : Nat → List SVal → Option Res) (k : Nat) (x0 : SVal) (x1 : SVal) : Option Res :=
  (T 37 [(weak x1), x0]).bind fun r1 =>
  some { r := r1.r }
theorem r78 (T : Nat → List SVal → Option Res) (k : Nat) (x0 : SVal) (x1 : SVal) : bodyE P H T k 78 [x0, (.rp [x1])] = R78 T k x0 x1 := by kernel_rfl
noncomputable def D78 (T : Nat → List SVal → Option Res) (k : Nat) : List SVal → Option Res
  | [x0, (.rp [x1])] => R78 T k x0 x1
  | a => bodyE P H T k 78 a
theorem d78 (T : Nat → List SVal → Option Res) (k : Nat) (a : List SVal) : D78 T k a = bodyE P H T k 78 a := by
  unfold D78
  split
  · exact (r78 ..).symm
  · rfl
theorem t78 (k : Nat) (x0 : SVal) (x1 : SVal) : T (k + 1) 78 [x0, (.rp [x1])] = R78 (T k) k x0 x1 := (by kernel_rfl : T (k + 1) 78 [x0, (.rp [x1])] = bodyE P H (T k) k 78 [x0, (.rp [x1])]).trans (r78 ..)
/-- limelight/top.may$2 -/
def R79 (T : Nat → List SVal → Option Res) (k : Nat) (x0a : SVal) (x0b : SVal) (x1 : SVal) : Option Res :=
  ((T 41 [(weak x1), x0a]).bind fun r1 =>
   guardX r1.r true
   ((sBin .eql x0b (.int .i64 (-1))).bind fun r2 =>
    guardX r2 false
    ((T 42 [(weak x1), x0b]).bind fun r3 =>
     (asB r3.r).bind fun b4 =>
     some [b4])
    (some [true])
    (none))
   (some [false])
   (none)).bind fun vs5 =>
  some { r := (.bool (vs5.getD 0 false)) }
theorem r79 (T : Nat → List SVal → Option Res) (k : Nat) (x0a : SVal) (x0b : SVal) (x1 : SVal) : bodyE P H T k 79 [(.agg [x0a, x0b]), (.rp [x1])] = R79 T k x0a x0b x1 := by kernel_rfl
noncomputable def D79 (T : Nat → List SVal → Option Res) (k : Nat) : List SVal → Option Res
  | [(.agg [x0a, x0b]), (.rp [x1])] => R79 T k x0a x0b x1
  | a => bodyE P H T k 79 a
theorem d79 (T : Nat → List SVal → Option Res) (k : Nat) (a : List SVal) : D79 T k a = bodyE P H T k 79 a := by
  unfold D79
  split
  · exact (r79 ..).symm
  · rfl
theorem t79 (k : Nat) (x0a : SVal) (x0b : SVal) (x1 : SVal) : T (k + 1) 79 [(.agg [x0a, x0b]), (.rp [x1])] = R79 (T k) k x0a x0b x1 := (by kernel_rfl : T (k + 1) 79 [(.agg [x0a, x0b]), (.rp [x1])] = bodyE P H (T k) k 79 [(.agg [x0a, x0b]), (.rp [x1])]).trans (r79 ..)
/-- slices.Sorted[int] -/
def R80 (T : Nat → List SVal → Option Res) (k : Nat) (x0 : SVal) : Option Res :=
  (T 97 [x0]).bind fun r1 =>
  (T 98 [(.sl 1 true false r1.r.xs)]).bind fun r2 =>
  some { r := (.sl 1 false false ((r2.outs.headD .undef).xs)) }
theorem r80 (T : Nat → List SVal → Option Res) (k : Nat) (x0 : SVal) : bodyE P H T k 80 [x0] = R80 T k x0 := by kernel_rfl
noncomputable def D80 (T : Nat → List SVal → Option Res) (k : Nat) : List SVal → Option Res
  | [x0] => R80 T k x0
  | a => bodyE P H T k 80 a
theorem d80 (T : Nat → List SVal → Option Res) (k : Nat) (a : List SVal) : D80 T k a = bodyE P H T k 80 a := by
  unfold D80
  split
  · exact (r80 ..).symm
  · rfl
theorem t80 (k : Nat) (x0 : SVal) : T (k + 1) 80 [x0] = R80 (T k) k x0 := (by kernel_rfl : T (k + 1) 80 [x0] = bodyE P H (T k) k 80 [x0]).trans (r80 ..)
/-- slices.Values[[]int,int] -/
def R81 (T : Nat → List SVal → Option Res) (k : Nat) (x0 : SVal) : Option Res :=
  if (oneS x0) = true then
  some { r := (.fn 99 [(.rp [x0])]) }
  else none
theorem r81 (T : Nat → List SVal → Option Res) (k : Nat) (x0 : SVal) : bodyE P H T k 81 [x0] = R81 T k x0 := by kernel_rfl
noncomputable def D81 (T : Nat → List SVal → Option Res) (k : Nat) : List SVal → Option Res
  | [x0] => R81 T k x0
  | a => bodyE P H T k 81 a
theorem d81 (T : Nat → List SVal → Option Res) (k : Nat) (a : List SVal) : D81 T k a = bodyE P H T k 81 a := by
  unfold D81
  split
  · exact (r81 ..).symm
  · rfl
theorem t81 (k : Nat) (x0 : SVal) : T (k + 1) 81 [x0] = R81 (T k) k x0 := (by kernel_rfl : T (k + 1) 81 [x0] = bodyE P H (T k) k 81 [x0]).trans (r81 ..)
end Go.Proofs.YtkebikngkeehfaaGreat.K
