/- What the evaluator makes of the functions, by program (wip/tr/resid.py); each equation is checked by the kernel. -/
import Derived.Test.YtcehbmffbmhpfaaGreatLmAK
import Derived.Test.YtcehbmffbmhpfaaGreatLmAB
import Derived.KernelRfl
set_option linter.unusedVariables false
set_option linter.unusedSimpArgs false
set_option linter.unnecessarySimpa false
set_option linter.all false
set_option maxRecDepth 100000
namespace Go.Proofs.YtcehbmffbmhpfaaGreat.K
open Go Go.Lm
/-- limelight/slots.Assigned$1 -/
def R211 (T : Nat → List SVal → Option Res) (k : Nat) (x0 : SVal) (x1 : SVal) (x2 : SVal) : Option Res :=
  (T 186 [(weak x1), x0]).bind fun r1 =>
  (sBin .neq r1.r x2).bind fun r2 =>
  some { r := r2 }
theorem r211 (T : Nat → List SVal → Option Res) (k : Nat) (x0 : SVal) (x1 : SVal) (x2 : SVal) : bodyE P H T k 211 [x0, (.rp [x1]), (.rp [x2])] = R211 T k x0 x1 x2 := by kernel_rfl
noncomputable def D211 (T : Nat → List SVal → Option Res) (k : Nat) : List SVal → Option Res
  | [x0, (.rp [x1]), (.rp [x2])] => R211 T k x0 x1 x2
  | a => bodyE P H T k 211 a
theorem d211 (T : Nat → List SVal → Option Res) (k : Nat) (a : List SVal) : D211 T k a = bodyE P H T k 211 a := by
  unfold D211
  split
  · exact (r211 ..).symm
  · rfl
theorem t211 (k : Nat) (x0 : SVal) (x1 : SVal) (x2 : SVal) : T (k + 1) 211 [x0, (.rp [x1]), (.rp [x2])] = R211 (T k) k x0 x1 x2 := (by kernel_rfl : T (k + 1) 211 [x0, (.rp [x1]), (.rp [x2])] = bodyE P H (T k) k 211 [x0, (.rp [x1]), (.rp [x2])]).trans (r211 ..)
/-- limelight/limelightref03.List -/
def R212 (T : Nat → List SVal → Option Res) (k : Nat) (x0 : SVal) (x1 : SVal) : Option Res :=
  if (List.all [[.v x1]] allOne) = true then
  loopN (fun s1 next1 =>
   (sIdx true 7 s1.k0 s1.k1).bind fun e2 =>
   (sLen (SVal.cell e2 3)).bind fun r3 =>
   (sBin .lss s1.k3 r3).bind fun r4 =>
   pickC r4
   ((sIdx true 7 s1.k0 s1.k1).bind fun e5 =>
    (sIdx false 1 (SVal.cell e5 3) s1.k3).bind fun e6 =>
    (T 212 [(weak s1.k0), e6]).bind fun r7 =>
    (elems 1 r7.r).bind fun ys8 =>
    if (s1.k2.xs.length + ys8.length) * 8 ≤ maxAppend then
    (sBin .add s1.k3 (.int .i64 1)).bind fun r9 =>
    next1 ⟨[(weak s1.k0), s1.k1, (.sl 1 true false (s1.k2.xs ++ ys8)), r9], [], false⟩
    else none)
   (some { r := (.sl 1 false false s1.k2.xs) })) k ⟨[(weak x0), x1, (.sl 1 true false [x1]), (.int .i64 0)], [], false⟩
  else none
theorem r212 (T : Nat → List SVal → Option Res) (k : Nat) (x0 : SVal) (x1 : SVal) : bodyE P H T k 212 [x0, x1] = R212 T k x0 x1 := by kernel_rfl
noncomputable def D212 (T : Nat → List SVal → Option Res) (k : Nat) : List SVal → Option Res
  | [x0, x1] => R212 T k x0 x1
  | a => bodyE P H T k 212 a
theorem d212 (T : Nat → List SVal → Option Res) (k : Nat) (a : List SVal) : D212 T k a = bodyE P H T k 212 a := by
  unfold D212
  split
  · exact (r212 ..).symm
  · rfl
theorem t212 (k : Nat) (x0 : SVal) (x1 : SVal) : T (k + 1) 212 [x0, x1] = R212 (T k) k x0 x1 := (by kernel_rfl : T (k + 1) 212 [x0, x1] = bodyE P H (T k) k 212 [x0, x1]).trans (r212 ..)
/-- limelight/shade.Up -/
def R213 (T : Nat → List SVal → Option Res) (k : Nat) (x0 : SVal) (x1 : SVal) : Option Res :=
  (T 222 [(weak x0), x1]).bind fun r1 =>
  (elems 1 r1.r).bind fun ys2 =>
  if ys2.length * 8 ≤ maxAppend then
  (T 185 [(weak x0), x1]).bind fun r3 =>
  (sBin .neq r3.r (.int .i64 (-1))).bind fun r4 =>
  pickC r4
  (loopN (fun s5 next5 =>
    (T 222 [(weak s5.k0), s5.k1]).bind fun r6 =>
    (elems 1 r6.r).bind fun ys7 =>
    if (s5.k2.xs.length + ys7.length) * 8 ≤ maxAppend then
    (T 185 [(weak s5.k0), s5.k1]).bind fun r8 =>
    (sBin .neq r8.r (.int .i64 (-1))).bind fun r9 =>
    pickC r9
    (next5 ⟨[(weak s5.k0), r8.r, (.sl 1 true false (s5.k2.xs ++ ys7))], [], false⟩)
    (some { r := (.sl 1 false false (s5.k2.xs ++ ys7)) })
    else none) k ⟨[(weak x0), r3.r, (.sl 1 true false ys2)], [], false⟩)
  (some { r := (.sl 1 false false ys2) })
  else none
theorem r213 (T : Nat → List SVal → Option Res) (k : Nat) (x0 : SVal) (x1 : SVal) : bodyE P H T k 213 [x0, x1] = R213 T k x0 x1 := by kernel_rfl
noncomputable def D213 (T : Nat → List SVal → Option Res) (k : Nat) : List SVal → Option Res
  | [x0, x1] => R213 T k x0 x1
  | a => bodyE P H T k 213 a
theorem d213 (T : Nat → List SVal → Option Res) (k : Nat) (a : List SVal) : D213 T k a = bodyE P H T k 213 a := by
  unfold D213
  split
  · exact (r213 ..).symm
  · rfl
theorem t213 (k : Nat) (x0 : SVal) (x1 : SVal) : T (k + 1) 213 [x0, x1] = R213 (T k) k x0 x1 := (by kernel_rfl : T (k + 1) 213 [x0, x1] = bodyE P H (T k) k 213 [x0, x1]).trans (r213 ..)
/-- limelight/slots.within$1 -/
def R220 (T : Nat → List SVal → Option Res) (k : Nat) (x1 : SVal) (x2 : SVal) : Option Res :=
  (T 221 [(weak x1), x2]).bind fun r1 =>
  (sLen r1.r).bind fun r2 =>
  loopN (fun s3 next3 =>
   (sBin .lss s3.k4 s3.k3).bind fun r4 =>
   pickC r4
   ((sIdx false 1 s3.k2 s3.k4).bind fun e5 =>
    (T 210 [(weak (SVal.cell s3.k1 0)), e5]).bind fun r6 =>
    guardX r6.r true
    (if (s3.stop) = true then none else
     (notTup e5).bind fun y7 =>
     both
     ((sBin .add s3.k4 (.int .i64 1)).bind fun r8 =>
      next3 ⟨[.yld, (.rp [(SVal.cell s3.k1 0)]), (weak s3.k2), s3.k3, r8], (s3.out ++ [y7]), s3.stop⟩)
     (some { r := (.tup []) }))
    ((sBin .add s3.k4 (.int .i64 1)).bind fun r9 =>
     next3 ⟨[.yld, (.rp [(SVal.cell s3.k1 0)]), (weak s3.k2), s3.k3, r9], s3.out, s3.stop⟩)
    (none))
   (if (s3.stop) = true then
    some { r := (.tup []) }
    else
    some { r := (.tup []), out := s3.out })) k ⟨[.yld, (.rp [x1]), (weak r1.r), r2, (.int .i64 0)], [], false⟩
theorem r220 (T : Nat → List SVal → Option Res) (k : Nat) (x1 : SVal) (x2 : SVal) : bodyE P H T k 220 [.yld, (.rp [x1]), (.rp [x2])] = R220 T k x1 x2 := by kernel_rfl
noncomputable def D220 (T : Nat → List SVal → Option Res) (k : Nat) : List SVal → Option Res
  | [.yld, (.rp [x1]), (.rp [x2])] => R220 T k x1 x2
  | a => bodyE P H T k 220 a
theorem d220 (T : Nat → List SVal → Option Res) (k : Nat) (a : List SVal) : D220 T k a = bodyE P H T k 220 a := by
  unfold D220
  split
  · exact (r220 ..).symm
  · rfl
theorem t220 (k : Nat) (x1 : SVal) (x2 : SVal) : T (k + 1) 220 [.yld, (.rp [x1]), (.rp [x2])] = R220 (T k) k x1 x2 := (by kernel_rfl : T (k + 1) 220 [.yld, (.rp [x1]), (.rp [x2])] = bodyE P H (T k) k 220 [.yld, (.rp [x1]), (.rp [x2])]).trans (r220 ..)
/-- limelight/order.List -/
def R221 (T : Nat → List SVal → Option Res) (k : Nat) (x0 : SVal) (x1 : SVal) : Option Res :=
  if (List.all [[.v x1]] allOne) = true then
  (T 163 [(weak x0), (.sl 1 false false [x1])]).bind fun r1 =>
  (sNot r1.r).bind fun r2 =>
  pickC r2
  (some { r := (.sl 1 false false []) })
  ((T 224 [(weak x0), x1]).bind fun r3 =>
   (T 116 [r3.r]).bind fun r4 =>
   some { r := (.sl 1 false false r4.r.xs) })
  else none
theorem r221 (T : Nat → List SVal → Option Res) (k : Nat) (x0 : SVal) (x1 : SVal) : bodyE P H T k 221 [x0, x1] = R221 T k x0 x1 := by kernel_rfl
noncomputable def D221 (T : Nat → List SVal → Option Res) (k : Nat) : List SVal → Option Res
  | [x0, x1] => R221 T k x0 x1
  | a => bodyE P H T k 221 a
theorem d221 (T : Nat → List SVal → Option Res) (k : Nat) (a : List SVal) : D221 T k a = bodyE P H T k 221 a := by
  unfold D221
  split
  · exact (r221 ..).symm
  · rfl
theorem t221 (k : Nat) (x0 : SVal) (x1 : SVal) : T (k + 1) 221 [x0, x1] = R221 (T k) k x0 x1 := (by kernel_rfl : T (k + 1) 221 [x0, x1] = bodyE P H (T k) k 221 [x0, x1]).trans (r221 ..)
/-- limelight/order.Up -/
def R222 (T : Nat → List SVal → Option Res) (k : Nat) (x0 : SVal) (x1 : SVal) : Option Res :=
  if (List.all [[.v x1]] allOne) = true then
  (T 163 [(weak x0), (.sl 1 false false [x1])]).bind fun r1 =>
  (sNot r1.r).bind fun r2 =>
  pickC r2
  (some { r := (.sl 1 false false []) })
  ((T 164 [(weak x0), x1]).bind fun r3 =>
   (T 116 [r3.r]).bind fun r4 =>
   some { r := (.sl 1 false false r4.r.xs) })
  else none
theorem r222 (T : Nat → List SVal → Option Res) (k : Nat) (x0 : SVal) (x1 : SVal) : bodyE P H T k 222 [x0, x1] = R222 T k x0 x1 := by kernel_rfl
noncomputable def D222 (T : Nat → List SVal → Option Res) (k : Nat) : List SVal → Option Res
  | [x0, x1] => R222 T k x0 x1
  | a => bodyE P H T k 222 a
theorem d222 (T : Nat → List SVal → Option Res) (k : Nat) (a : List SVal) : D222 T k a = bodyE P H T k 222 a := by
  unfold D222
  split
  · exact (r222 ..).symm
  · rfl
theorem t222 (k : Nat) (x0 : SVal) (x1 : SVal) : T (k + 1) 222 [x0, x1] = R222 (T k) k x0 x1 := (by kernel_rfl : T (k + 1) 222 [x0, x1] = bodyE P H (T k) k 222 [x0, x1]).trans (r222 ..)
/-- limelight/order.list -/
def R224 (T : Nat → List SVal → Option Res) (k : Nat) (x0 : SVal) (x1 : SVal) : Option Res :=
  if (oneS x0) = true then
  if (oneS x1) = true then
  some { r := (.fn 225 [(.rp [x0]), (.rp [x1])]) }
  else none
  else none
theorem r224 (T : Nat → List SVal → Option Res) (k : Nat) (x0 : SVal) (x1 : SVal) : bodyE P H T k 224 [x0, x1] = R224 T k x0 x1 := by kernel_rfl
noncomputable def D224 (T : Nat → List SVal → Option Res) (k : Nat) : List SVal → Option Res
  | [x0, x1] => R224 T k x0 x1
  | a => bodyE P H T k 224 a
theorem d224 (T : Nat → List SVal → Option Res) (k : Nat) (a : List SVal) : D224 T k a = bodyE P H T k 224 a := by
  unfold D224
  split
  · exact (r224 ..).symm
  · rfl
theorem t224 (k : Nat) (x0 : SVal) (x1 : SVal) : T (k + 1) 224 [x0, x1] = R224 (T k) k x0 x1 := (by kernel_rfl : T (k + 1) 224 [x0, x1] = bodyE P H (T k) k 224 [x0, x1]).trans (r224 ..)
/-- limelight/order.list$1 -/
def R225 (T : Nat → List SVal → Option Res) (k : Nat) (x1 : SVal) (x2 : SVal) : Option Res :=
  (T 226 [(weak x1), x2, .yld]).bind fun r1 =>
  both
  (some { r := (.tup []), out := ([] ++ r1.out) })
  (some { r := (.tup []) })
theorem r225 (T : Nat → List SVal → Option Res) (k : Nat) (x1 : SVal) (x2 : SVal) : bodyE P H T k 225 [.yld, (.rp [x1]), (.rp [x2])] = R225 T k x1 x2 := by kernel_rfl
noncomputable def D225 (T : Nat → List SVal → Option Res) (k : Nat) : List SVal → Option Res
  | [.yld, (.rp [x1]), (.rp [x2])] => R225 T k x1 x2
  | a => bodyE P H T k 225 a
theorem d225 (T : Nat → List SVal → Option Res) (k : Nat) (a : List SVal) : D225 T k a = bodyE P H T k 225 a := by
  unfold D225
  split
  · exact (r225 ..).symm
  · rfl
theorem t225 (k : Nat) (x1 : SVal) (x2 : SVal) : T (k + 1) 225 [.yld, (.rp [x1]), (.rp [x2])] = R225 (T k) k x1 x2 := (by kernel_rfl : T (k + 1) 225 [.yld, (.rp [x1]), (.rp [x2])] = bodyE P H (T k) k 225 [.yld, (.rp [x1]), (.rp [x2])]).trans (r225 ..)
/-- limelight/order.down -/
def R226 (T : Nat → List SVal → Option Res) (k : Nat) (x0 : SVal) (x1 : SVal) : Option Res :=
  (notTup x1).bind fun y1 =>
  both
  ((sIdx true 7 x0 x1).bind fun e2 =>
   (sLen (SVal.cell e2 3)).bind fun r3 =>
   loopN (fun s4 next4 =>
    (sBin .lss s4.k4 s4.k3).bind fun r5 =>
    pickC r5
    ((sIdx false 1 s4.k2 s4.k4).bind fun e6 =>
     if (s4.stop) = true then none else
     (T 226 [(weak s4.k0), e6, .yld]).bind fun r7 =>
     both
     ((sNot r7.r).bind fun r8 =>
      pickC r8
      (if (s4.stop) = true then
       some { r := (.bool false) }
       else
       some { r := (.bool false), out := (s4.out ++ r7.out) })
      ((sBin .add s4.k4 (.int .i64 1)).bind fun r9 =>
       next4 ⟨[(weak s4.k0), .yld, (weak s4.k2), s4.k3, r9], (s4.out ++ r7.out), s4.stop⟩))
     (some { r := (.bool false) }))
    (if (s4.stop) = true then
     none
     else
     some { r := (.bool true), out := s4.out })) k ⟨[(weak x0), .yld, (weak (SVal.cell e2 3)), r3, (.int .i64 0)], ([] ++ [y1]), false⟩)
  (some { r := (.bool false) })
theorem r226 (T : Nat → List SVal → Option Res) (k : Nat) (x0 : SVal) (x1 : SVal) : bodyE P H T k 226 [x0, x1, .yld] = R226 T k x0 x1 := by kernel_rfl
noncomputable def D226 (T : Nat → List SVal → Option Res) (k : Nat) : List SVal → Option Res
  | [x0, x1, .yld] => R226 T k x0 x1
  | a => bodyE P H T k 226 a
theorem d226 (T : Nat → List SVal → Option Res) (k : Nat) (a : List SVal) : D226 T k a = bodyE P H T k 226 a := by
  unfold D226
  split
  · exact (r226 ..).symm
  · rfl
theorem t226 (k : Nat) (x0 : SVal) (x1 : SVal) : T (k + 1) 226 [x0, x1, .yld] = R226 (T k) k x0 x1 := (by kernel_rfl : T (k + 1) 226 [x0, x1, .yld] = bodyE P H (T k) k 226 [x0, x1, .yld]).trans (r226 ..)
end Go.Proofs.YtcehbmffbmhpfaaGreat.K
