/- What the evaluator makes of the functions, by program (wip/tr/resid.py); each equation is checked by the kernel. -/
import Derived.Test.YtkebikngkeehfaaGreatLmAJ
import Derived.Test.YtkebikngkeehfaaGreatLmAB
import Derived.KernelRfl
set_option linter.unusedVariables false
set_option linter.unusedSimpArgs false
set_option linter.unnecessarySimpa false
set_option linter.all false
set_option maxRecDepth 100000
namespace Go.Proofs.YtkebikngkeehfaaGreat.K
open Go Go.Lm
/-- limelight/order.Top -/
def R144 (T : Nat → List SVal → Option Res) (k : Nat) (x0 : SVal) (x1 : SVal) : Option Res :=
  if (List.all [[.v x1]] allOne) = true then
  (T 142 [(weak x0), (.sl 1 false false [x1])]).bind fun r1 =>
  pickC r1.r
  ((T 143 [(weak x0), x1]).bind fun r2 =>
   (callIt T r2.r).bind fun ys3 =>
   rangeN (fun s4 y4 next4 =>
    (notTup y4).bind fun z5 =>
    if (oneS z5) = true then
    next4 ⟨[(.mb [z5])], [], false⟩
    else none) (fun s6 =>
    some { r := s6.k0.c0 }) ys3 ⟨[(.mb [(.int .i64 (-1))])], [], false⟩)
  (some { r := (.int .i64 (-1)) })
  else none
theorem r144 (T : Nat → List SVal → Option Res) (k : Nat) (x0 : SVal) (x1 : SVal) : bodyE P H T k 144 [x0, x1] = R144 T k x0 x1 := by kernel_rfl
noncomputable def D144 (T : Nat → List SVal → Option Res) (k : Nat) : List SVal → Option Res
  | [x0, x1] => R144 T k x0 x1
  | a => bodyE P H T k 144 a
theorem d144 (T : Nat → List SVal → Option Res) (k : Nat) (a : List SVal) : D144 T k a = bodyE P H T k 144 a := by
  unfold D144
  split
  · exact (r144 ..).symm
  · rfl
theorem t144 (k : Nat) (x0 : SVal) (x1 : SVal) : T (k + 1) 144 [x0, x1] = R144 (T k) k x0 x1 := (by kernel_rfl : T (k + 1) 144 [x0, x1] = bodyE P H (T k) k 144 [x0, x1]).trans (r144 ..)
/-- limelight/order.all$1 -/
def R146 (T : Nat → List SVal → Option Res) (k : Nat) (x0 : SVal) (x1 : SVal) : Option Res :=
  ((sBin .lss x0 (.int .i64 0)).bind fun r1 =>
   guardX r1 false
   ((sLen x1).bind fun r2 =>
    (sBin .geq x0 r2).bind fun r3 =>
    (asB r3).bind fun b4 =>
    some [b4])
   (some [true])
   (none)).bind fun vs5 =>
  some { r := (.bool (vs5.getD 0 false)) }
theorem r146 (T : Nat → List SVal → Option Res) (k : Nat) (x0 : SVal) (x1 : SVal) : bodyE P H T k 146 [x0, (.rp [x1])] = R146 T k x0 x1 := by kernel_rfl
noncomputable def D146 (T : Nat → List SVal → Option Res) (k : Nat) : List SVal → Option Res
  | [x0, (.rp [x1])] => R146 T k x0 x1
  | a => bodyE P H T k 146 a
theorem d146 (T : Nat → List SVal → Option Res) (k : Nat) (a : List SVal) : D146 T k a = bodyE P H T k 146 a := by
  unfold D146
  split
  · exact (r146 ..).symm
  · rfl
theorem t146 (k : Nat) (x0 : SVal) (x1 : SVal) : T (k + 1) 146 [x0, (.rp [x1])] = R146 (T k) k x0 x1 := (by kernel_rfl : T (k + 1) 146 [x0, (.rp [x1])] = bodyE P H (T k) k 146 [x0, (.rp [x1])]).trans (r146 ..)
/-- limelight/order.up$1 -/
def R147 (T : Nat → List SVal → Option Res) (k : Nat) (x1 : SVal) (x2 : SVal) : Option Res :=
  loopN (fun s1 next1 =>
   (sBin .neq (SVal.cell s1.k1 0) (.int .i64 (-1))).bind fun r2 =>
   guardX r2 true
   (if (s1.stop) = true then none else
    (notTup (SVal.cell s1.k1 0)).bind fun y3 =>
    both
    ((sIdx true 7 (SVal.cell s1.k2 0) (SVal.cell s1.k1 0)).bind fun e4 =>
     if (oneS (SVal.cell e4 2)) = true then
     next1 ⟨[.yld, (.mb [(SVal.cell e4 2)]), (.rp [(SVal.cell s1.k2 0)])], (s1.out ++ [y3]), s1.stop⟩
     else none)
    (some { r := (.tup []) }))
   (if (s1.stop) = true then
    some { r := (.tup []) }
    else
    some { r := (.tup []), out := s1.out })
   (none)) k ⟨[.yld, (.mb [x1]), (.rp [x2])], [], false⟩
theorem r147 (T : Nat → List SVal → Option Res) (k : Nat) (x1 : SVal) (x2 : SVal) : bodyE P H T k 147 [.yld, (.mb [x1]), (.rp [x2])] = R147 T k x1 x2 := by kernel_rfl
noncomputable def D147 (T : Nat → List SVal → Option Res) (k : Nat) : List SVal → Option Res
  | [.yld, (.mb [x1]), (.rp [x2])] => R147 T k x1 x2
  | a => bodyE P H T k 147 a
theorem d147 (T : Nat → List SVal → Option Res) (k : Nat) (a : List SVal) : D147 T k a = bodyE P H T k 147 a := by
  unfold D147
  split
  · exact (r147 ..).symm
  · rfl
theorem t147 (k : Nat) (x1 : SVal) (x2 : SVal) : T (k + 1) 147 [.yld, (.mb [x1]), (.rp [x2])] = R147 (T k) k x1 x2 := (by kernel_rfl : T (k + 1) 147 [.yld, (.mb [x1]), (.rp [x2])] = bodyE P H (T k) k 147 [.yld, (.mb [x1]), (.rp [x2])]).trans (r147 ..)
end Go.Proofs.YtkebikngkeehfaaGreat.K
