/- What the evaluator makes of the functions, by program (wip/tr/resid.py); each equation is checked by the kernel. -/
import Derived.Test.YtccfkncajelbpaaGreatLmAK
import Derived.Test.YtccfkncajelbpaaGreatLmAB
import Derived.KernelRfl
set_option linter.unusedVariables false
set_option linter.unusedSimpArgs false
set_option linter.unnecessarySimpa false
set_option linter.all false
set_option maxRecDepth 100000
namespace Go.Proofs.YtccfkncajelbpaaGreat.K
open Go Go.Lm
/-- limelight/render.All -/
def R17 (T : Nat → List SVal → Option Res) (k : Nat) (x0a : SVal) (x0b : SVal) (x0c : SVal) (x0d : SVal) (x0e : SVal) : Option Res :=
  (T 42 [(.agg [(weak x0a), (weak x0b), (weak x0c), (weak x0d), (weak x0e)]), (.int .i64 0)]).bind fun r1 =>
  (sNot r1.r).bind fun r2 =>
  pickC r2
  (some { r := (.sl 1 false false []) })
  ((T 49 [(.agg [(weak x0a), (weak x0b), (weak x0c), (weak x0d), (weak x0e)])]).bind fun r3 =>
   (T 48 [r3.r]).bind fun r4 =>
   some { r := (.sl 1 false false r4.r.xs) })
theorem r17 (T : Nat → List SVal → Option Res) (k : Nat) (x0a : SVal) (x0b : SVal) (x0c : SVal) (x0d : SVal) (x0e : SVal) : bodyE P H T k 17 [(.agg [x0a, x0b, x0c, x0d, x0e])] = R17 T k x0a x0b x0c x0d x0e := by kernel_rfl
noncomputable def D17 (T : Nat → List SVal → Option Res) (k : Nat) : List SVal → Option Res
  | [(.agg [x0a, x0b, x0c, x0d, x0e])] => R17 T k x0a x0b x0c x0d x0e
  | a => bodyE P H T k 17 a
theorem d17 (T : Nat → List SVal → Option Res) (k : Nat) (a : List SVal) : D17 T k a = bodyE P H T k 17 a := by
  unfold D17
  split
  · exact (r17 ..).symm
  · rfl
theorem t17 (k : Nat) (x0a : SVal) (x0b : SVal) (x0c : SVal) (x0d : SVal) (x0e : SVal) : T (k + 1) 17 [(.agg [x0a, x0b, x0c, x0d, x0e])] = R17 (T k) k x0a x0b x0c x0d x0e := (by kernel_rfl : T (k + 1) 17 [(.agg [x0a, x0b, x0c, x0d, x0e])] = bodyE P H (T k) k 17 [(.agg [x0a, x0b, x0c, x0d, x0e])]).trans (r17 ..)
/-- limelight/limelightref01.Is -/
def R18 (T : Nat → List SVal → Option Res) (k : Nat) (x0 : SVal) (x1 : SVal) : Option Res :=
  ((sBin .geq x1 (.int .i64 0)).bind fun r1 =>
   guardX r1 true
   ((sLen x0).bind fun r2 =>
    (sBin .lss x1 r2).bind fun r3 =>
    (asB r3).bind fun b4 =>
    some [b4])
   (some [false])
   (none)).bind fun vs5 =>
  some { r := (.bool (vs5.getD 0 false)) }
theorem r18 (T : Nat → List SVal → Option Res) (k : Nat) (x0 : SVal) (x1 : SVal) : bodyE P H T k 18 [x0, x1] = R18 T k x0 x1 := by kernel_rfl
noncomputable def D18 (T : Nat → List SVal → Option Res) (k : Nat) : List SVal → Option Res
  | [x0, x1] => R18 T k x0 x1
  | a => bodyE P H T k 18 a
theorem d18 (T : Nat → List SVal → Option Res) (k : Nat) (a : List SVal) : D18 T k a = bodyE P H T k 18 a := by
  unfold D18
  split
  · exact (r18 ..).symm
  · rfl
theorem t18 (k : Nat) (x0 : SVal) (x1 : SVal) : T (k + 1) 18 [x0, x1] = R18 (T k) k x0 x1 := (by kernel_rfl : T (k + 1) 18 [x0, x1] = bodyE P H (T k) k 18 [x0, x1]).trans (r18 ..)
/-- limelight/limelightref11.Is -/
def R19 (T : Nat → List SVal → Option Res) (k : Nat) (x0a : SVal) (x0b : SVal) (x0c : SVal) (x0d : SVal) (x0e : SVal) (x1 : SVal) : Option Res :=
  (T 50 [(weak x0a), x1]).bind fun r1 =>
  loopN (fun s2 next2 =>
   (sLen s2.k2).bind fun r3 =>
   (sBin .lss s2.k3 r3).bind fun r4 =>
   pickC r4
   ((sIdx false 1 s2.k2 s2.k3).bind fun e5 =>
    (T 20 [(.agg [(weak (SVal.cell s2.k1 0)), (weak (SVal.cell s2.k1 1)), (weak (SVal.cell s2.k1 2)), (weak (SVal.cell s2.k1 3)), (weak (SVal.cell s2.k1 4))]), e5]).bind fun r6 =>
    (sNot r6.r).bind fun r7 =>
    pickC r7
    (some { r := (.bool false) })
    ((sBin .add s2.k3 (.int .i64 1)).bind fun r8 =>
     next2 ⟨[s2.k0, (.rp [(SVal.cell s2.k1 0), (SVal.cell s2.k1 1), (SVal.cell s2.k1 2), (SVal.cell s2.k1 3), (SVal.cell s2.k1 4)]), (weak s2.k2), r8], [], false⟩))
   ((T 51 [(weak (SVal.cell s2.k1 0)), s2.k0]).bind fun r9 =>
    some { r := r9.r })) k ⟨[x1, (.rp [x0a, x0b, x0c, x0d, x0e]), (weak r1.r), (.int .i64 0)], [], false⟩
theorem r19 (T : Nat → List SVal → Option Res) (k : Nat) (x0a : SVal) (x0b : SVal) (x0c : SVal) (x0d : SVal) (x0e : SVal) (x1 : SVal) : bodyE P H T k 19 [(.agg [x0a, x0b, x0c, x0d, x0e]), x1] = R19 T k x0a x0b x0c x0d x0e x1 := by kernel_rfl
noncomputable def D19 (T : Nat → List SVal → Option Res) (k : Nat) : List SVal → Option Res
  | [(.agg [x0a, x0b, x0c, x0d, x0e]), x1] => R19 T k x0a x0b x0c x0d x0e x1
  | a => bodyE P H T k 19 a
theorem d19 (T : Nat → List SVal → Option Res) (k : Nat) (a : List SVal) : D19 T k a = bodyE P H T k 19 a := by
  unfold D19
  split
  · exact (r19 ..).symm
  · rfl
theorem t19 (k : Nat) (x0a : SVal) (x0b : SVal) (x0c : SVal) (x0d : SVal) (x0e : SVal) (x1 : SVal) : T (k + 1) 19 [(.agg [x0a, x0b, x0c, x0d, x0e]), x1] = R19 (T k) k x0a x0b x0c x0d x0e x1 := (by kernel_rfl : T (k + 1) 19 [(.agg [x0a, x0b, x0c, x0d, x0e]), x1] = bodyE P H (T k) k 19 [(.agg [x0a, x0b, x0c, x0d, x0e]), x1]).trans (r19 ..)
/-- limelight/limelightref11.Own -/
def R20 (T : Nat → List SVal → Option Res) (k : Nat) (x0a : SVal) (x0b : SVal) (x0c : SVal) (x0d : SVal) (x0e : SVal) (x1 : SVal) : Option Res :=
  (T 36 [(weak x0a), x1, (.int .i64 2)]).bind fun r1 =>
  pickC r1.r
  (some { r := (.bool false) })
  (((T 24 [(weak x0b), x1]).bind fun r2 =>
    if isSc1 r2.r = true then
    guardX r2.r false
    ((T 24 [(weak x0c), x1]).bind fun r3 =>
     if isSc1 r3.r = true then
     (asB r3.r).bind fun b4 =>
     some [b4]
     else none)
    (some [true])
    (none)
    else none).bind fun vs5 =>
   pickC (.bool (vs5.getD 0 false))
   (some { r := (.bool true) })
   ((sIdx true 7 x0a x1).bind fun e6 =>
    (sBin .eql (SVal.cell e6 1) (.int .i64 2)).bind fun r7 =>
    pickC r7
    (some { r := (.bool false) })
    (((T 36 [(weak x0a), x1, (.int .i64 6)]).bind fun r8 =>
      (sNot r8.r).bind fun r9 =>
      guardX r9 false
      ((T 52 [(weak x0d)]).bind fun r10 =>
       (T 24 [(weak r10.r), x1]).bind fun r11 =>
       if isSc1 r11.r = true then
       (asB r11.r).bind fun b12 =>
       some [b12]
       else none)
      (some [true])
      (none)).bind fun vs13 =>
     some { r := (.bool (vs13.getD 0 false)) })))
theorem r20 (T : Nat → List SVal → Option Res) (k : Nat) (x0a : SVal) (x0b : SVal) (x0c : SVal) (x0d : SVal) (x0e : SVal) (x1 : SVal) : bodyE P H T k 20 [(.agg [x0a, x0b, x0c, x0d, x0e]), x1] = R20 T k x0a x0b x0c x0d x0e x1 := by kernel_rfl
noncomputable def D20 (T : Nat → List SVal → Option Res) (k : Nat) : List SVal → Option Res
  | [(.agg [x0a, x0b, x0c, x0d, x0e]), x1] => R20 T k x0a x0b x0c x0d x0e x1
  | a => bodyE P H T k 20 a
theorem d20 (T : Nat → List SVal → Option Res) (k : Nat) (a : List SVal) : D20 T k a = bodyE P H T k 20 a := by
  unfold D20
  split
  · exact (r20 ..).symm
  · rfl
theorem t20 (k : Nat) (x0a : SVal) (x0b : SVal) (x0c : SVal) (x0d : SVal) (x0e : SVal) (x1 : SVal) : T (k + 1) 20 [(.agg [x0a, x0b, x0c, x0d, x0e]), x1] = R20 (T k) k x0a x0b x0c x0d x0e x1 := (by kernel_rfl : T (k + 1) 20 [(.agg [x0a, x0b, x0c, x0d, x0e]), x1] = bodyE P H (T k) k 20 [(.agg [x0a, x0b, x0c, x0d, x0e]), x1]).trans (r20 ..)
/-- limelight/limelightref01.Ints -/
def R21 (T : Nat → List SVal → Option Res) (k : Nat) (x0 : SVal) (x1 : SVal) : Option Res :=
  (sLen x0).bind fun r1 =>
  (sLen x1).bind fun r2 =>
  (sBin .neq r1 r2).bind fun r3 =>
  pickC r3
  (some { r := (.bool false) })
  (loopN (fun s4 next4 =>
    (sLen s4.k0).bind fun r5 =>
    (sBin .lss s4.k2 r5).bind fun r6 =>
    pickC r6
    ((sIdx false 1 s4.k0 s4.k2).bind fun e7 =>
     (sIdx false 1 s4.k1 s4.k2).bind fun e8 =>
     (sBin .neq e7 e8).bind fun r9 =>
     pickC r9
     (some { r := (.bool false) })
     ((sBin .add s4.k2 (.int .i64 1)).bind fun r10 =>
      next4 ⟨[(weak s4.k0), (weak s4.k1), r10], [], false⟩))
    (some { r := (.bool true) })) k ⟨[(weak x0), (weak x1), (.int .i64 0)], [], false⟩)
theorem r21 (T : Nat → List SVal → Option Res) (k : Nat) (x0 : SVal) (x1 : SVal) : bodyE P H T k 21 [x0, x1] = R21 T k x0 x1 := by kernel_rfl
noncomputable def D21 (T : Nat → List SVal → Option Res) (k : Nat) : List SVal → Option Res
  | [x0, x1] => R21 T k x0 x1
  | a => bodyE P H T k 21 a
theorem d21 (T : Nat → List SVal → Option Res) (k : Nat) (a : List SVal) : D21 T k a = bodyE P H T k 21 a := by
  unfold D21
  split
  · exact (r21 ..).symm
  · rfl
theorem t21 (k : Nat) (x0 : SVal) (x1 : SVal) : T (k + 1) 21 [x0, x1] = R21 (T k) k x0 x1 := (by kernel_rfl : T (k + 1) 21 [x0, x1] = bodyE P H (T k) k 21 [x0, x1]).trans (r21 ..)
/-- limelight/limelightref11.All -/
def R22 (T : Nat → List SVal → Option Res) (k : Nat) (x0a : SVal) (x0b : SVal) (x0c : SVal) (x0d : SVal) (x0e : SVal) : Option Res :=
  (T 53 [(weak x0a)]).bind fun r1 =>
  loopN (fun s2 next2 =>
   (sLen s2.k2).bind fun r3 =>
   (sBin .lss s2.k3 r3).bind fun r4 =>
   pickC r4
   ((sIdx false 1 s2.k2 s2.k3).bind fun e5 =>
    (T 19 [(.agg [(weak (SVal.cell s2.k0 0)), (weak (SVal.cell s2.k0 1)), (weak (SVal.cell s2.k0 2)), (weak (SVal.cell s2.k0 3)), (weak (SVal.cell s2.k0 4))]), e5]).bind fun r6 =>
    pickC r6.r
    ((sIdx false 1 s2.k2 s2.k3).bind fun e7 =>
     if (List.all [[.v e7]] allOne) = true then
     if (s2.k1.xs.length + ([e7] : List SVal).length) * 8 ≤ maxAppend then
     (sBin .add s2.k3 (.int .i64 1)).bind fun r8 =>
     next2 ⟨[(.rp [(SVal.cell s2.k0 0), (SVal.cell s2.k0 1), (SVal.cell s2.k0 2), (SVal.cell s2.k0 3), (SVal.cell s2.k0 4)]), (.sl 1 true false (s2.k1.xs ++ ([e7] : List SVal))), (weak s2.k2), r8], [], false⟩
     else none
     else none)
    ((sBin .add s2.k3 (.int .i64 1)).bind fun r9 =>
     next2 ⟨[(.rp [(SVal.cell s2.k0 0), (SVal.cell s2.k0 1), (SVal.cell s2.k0 2), (SVal.cell s2.k0 3), (SVal.cell s2.k0 4)]), (.sl 1 true false s2.k1.xs), (weak s2.k2), r9], [], false⟩))
   (some { r := (.sl 1 false false s2.k1.xs) })) k ⟨[(.rp [x0a, x0b, x0c, x0d, x0e]), (.sl 1 true false []), (weak r1.r), (.int .i64 0)], [], false⟩
theorem r22 (T : Nat → List SVal → Option Res) (k : Nat) (x0a : SVal) (x0b : SVal) (x0c : SVal) (x0d : SVal) (x0e : SVal) : bodyE P H T k 22 [(.agg [x0a, x0b, x0c, x0d, x0e])] = R22 T k x0a x0b x0c x0d x0e := by kernel_rfl
noncomputable def D22 (T : Nat → List SVal → Option Res) (k : Nat) : List SVal → Option Res
  | [(.agg [x0a, x0b, x0c, x0d, x0e])] => R22 T k x0a x0b x0c x0d x0e
  | a => bodyE P H T k 22 a
theorem d22 (T : Nat → List SVal → Option Res) (k : Nat) (a : List SVal) : D22 T k a = bodyE P H T k 22 a := by
  unfold D22
  split
  · exact (r22 ..).symm
  · rfl
theorem t22 (k : Nat) (x0a : SVal) (x0b : SVal) (x0c : SVal) (x0d : SVal) (x0e : SVal) : T (k + 1) 22 [(.agg [x0a, x0b, x0c, x0d, x0e])] = R22 (T k) k x0a x0b x0c x0d x0e := (by kernel_rfl : T (k + 1) 22 [(.agg [x0a, x0b, x0c, x0d, x0e])] = bodyE P H (T k) k 22 [(.agg [x0a, x0b, x0c, x0d, x0e])]).trans (r22 ..)
/-- limelight/limelightref06.Parent -/
def R23 (T : Nat → List SVal → Option Res) (k : Nat) (x0 : SVal) (x1 : SVal) : Option Res :=
  loopN (fun s1 next1 =>
   (sLen s1.k0).bind fun r2 =>
   (sBin .lss s1.k2 r2).bind fun r3 =>
   pickC r3
   ((T 54 [(weak s1.k0), s1.k2]).bind fun r4 =>
    (T 24 [(weak r4.r), s1.k1]).bind fun r5 =>
    if isSc1 r5.r = true then
    pickC r5.r
    (some { r := s1.k2 })
    ((sBin .add s1.k2 (.int .i64 1)).bind fun r6 =>
     next1 ⟨[(weak s1.k0), s1.k1, r6], [], false⟩)
    else none)
   (some { r := (.int .i64 (-1)) })) k ⟨[(weak x0), x1, (.int .i64 0)], [], false⟩
theorem r23 (T : Nat → List SVal → Option Res) (k : Nat) (x0 : SVal) (x1 : SVal) : bodyE P H T k 23 [x0, x1] = R23 T k x0 x1 := by kernel_rfl
noncomputable def D23 (T : Nat → List SVal → Option Res) (k : Nat) : List SVal → Option Res
  | [x0, x1] => R23 T k x0 x1
  | a => bodyE P H T k 23 a
theorem d23 (T : Nat → List SVal → Option Res) (k : Nat) (a : List SVal) : D23 T k a = bodyE P H T k 23 a := by
  unfold D23
  split
  · exact (r23 ..).symm
  · rfl
theorem t23 (k : Nat) (x0 : SVal) (x1 : SVal) : T (k + 1) 23 [x0, x1] = R23 (T k) k x0 x1 := (by kernel_rfl : T (k + 1) 23 [x0, x1] = bodyE P H (T k) k 23 [x0, x1]).trans (r23 ..)
/-- limelight/limelightref03.In -/
def R24 (T : Nat → List SVal → Option Res) (k : Nat) (x0 : SVal) (x1 : SVal) : Option Res :=
  (T 27 [(weak x0), x1]).bind fun r1 =>
  (sBin .geq r1.r (.int .i64 0)).bind fun r2 =>
  some { r := r2 }
theorem r24 (T : Nat → List SVal → Option Res) (k : Nat) (x0 : SVal) (x1 : SVal) : bodyE P H T k 24 [x0, x1] = R24 T k x0 x1 := by kernel_rfl
noncomputable def D24 (T : Nat → List SVal → Option Res) (k : Nat) : List SVal → Option Res
  | [x0, x1] => R24 T k x0 x1
  | a => bodyE P H T k 24 a
theorem d24 (T : Nat → List SVal → Option Res) (k : Nat) (a : List SVal) : D24 T k a = bodyE P H T k 24 a := by
  unfold D24
  split
  · exact (r24 ..).symm
  · rfl
theorem t24 (k : Nat) (x0 : SVal) (x1 : SVal) : T (k + 1) 24 [x0, x1] = R24 (T k) k x0 x1 := (by kernel_rfl : T (k + 1) 24 [x0, x1] = bodyE P H (T k) k 24 [x0, x1]).trans (r24 ..)
/-- limelight/limelightref01.Copy -/
def R25 (T : Nat → List SVal → Option Res) (k : Nat) (x0 : SVal) : Option Res :=
  loopN (fun s1 next1 =>
   (sLen s1.k0).bind fun r2 =>
   (sBin .lss s1.k2 r2).bind fun r3 =>
   pickC r3
   ((sIdx true 7 s1.k0 s1.k2).bind fun e4 =>
    if (allOne [.v (SVal.cell e4 0), .v (SVal.cell e4 1), .v (SVal.cell e4 2), .v (SVal.cell e4 3), .v (SVal.cell e4 4), .v (SVal.cell e4 5), .v (SVal.cell e4 6)]) = true then
    (elems 1 (SVal.cell e4 3)).bind fun ys5 =>
    if (([] : List SVal).length + ys5.length) * 8 ≤ maxAppend then
    (elems 2 (SVal.cell e4 6)).bind fun ys6 =>
    if (([] : List SVal).length + ys6.length) * 16 ≤ maxAppend then
    if (List.all [[.v (SVal.cell e4 0), .v (SVal.cell e4 1), .v (SVal.cell e4 2), .la 321 1, .v (SVal.cell e4 4), .v (SVal.cell e4 5), .la 513 1]] allOne) = true then
    if (s1.k1.xs.length + ([(.agg [(SVal.cell e4 0), (SVal.cell e4 1), (SVal.cell e4 2), (.sl 1 false false (([] : List SVal) ++ ys5)), (SVal.cell e4 4), (SVal.cell e4 5), (.sl 2 false false (([] : List SVal) ++ ys6))])] : List SVal).length) * 88 ≤ maxAppend then
    (sBin .add s1.k2 (.int .i64 1)).bind fun r7 =>
    next1 ⟨[(weak s1.k0), (.sl 7 true false (s1.k1.xs ++ ([(.agg [(SVal.cell e4 0), (SVal.cell e4 1), (SVal.cell e4 2), (.sl 1 false false (([] : List SVal) ++ ys5)), (SVal.cell e4 4), (SVal.cell e4 5), (.sl 2 false false (([] : List SVal) ++ ys6))])] : List SVal))), r7], [], false⟩
    else none
    else none
    else none
    else none
    else none)
   (some { r := (.sl 7 true false s1.k1.xs) })) k ⟨[(weak x0), (.sl 7 true false []), (.int .i64 0)], [], false⟩
theorem r25 (T : Nat → List SVal → Option Res) (k : Nat) (x0 : SVal) : bodyE P H T k 25 [x0] = R25 T k x0 := by kernel_rfl
noncomputable def D25 (T : Nat → List SVal → Option Res) (k : Nat) : List SVal → Option Res
  | [x0] => R25 T k x0
  | a => bodyE P H T k 25 a
theorem d25 (T : Nat → List SVal → Option Res) (k : Nat) (a : List SVal) : D25 T k a = bodyE P H T k 25 a := by
  unfold D25
  split
  · exact (r25 ..).symm
  · rfl
theorem t25 (k : Nat) (x0 : SVal) : T (k + 1) 25 [x0] = R25 (T k) k x0 := (by kernel_rfl : T (k + 1) 25 [x0] = bodyE P H (T k) k 25 [x0]).trans (r25 ..)
/-- limelight/limelightref06.Above -/
def R26 (T : Nat → List SVal → Option Res) (k : Nat) (x0 : SVal) (x1 : SVal) (x2 : SVal) : Option Res :=
  (T 50 [(weak x0), x2]).bind fun r1 =>
  (T 24 [(weak r1.r), x1]).bind fun r2 =>
  if isSc1 r2.r = true then
  some { r := r2.r }
  else none
theorem r26 (T : Nat → List SVal → Option Res) (k : Nat) (x0 : SVal) (x1 : SVal) (x2 : SVal) : bodyE P H T k 26 [x0, x1, x2] = R26 T k x0 x1 x2 := by kernel_rfl
noncomputable def D26 (T : Nat → List SVal → Option Res) (k : Nat) : List SVal → Option Res
  | [x0, x1, x2] => R26 T k x0 x1 x2
  | a => bodyE P H T k 26 a
theorem d26 (T : Nat → List SVal → Option Res) (k : Nat) (a : List SVal) : D26 T k a = bodyE P H T k 26 a := by
  unfold D26
  split
  · exact (r26 ..).symm
  · rfl
theorem t26 (k : Nat) (x0 : SVal) (x1 : SVal) (x2 : SVal) : T (k + 1) 26 [x0, x1, x2] = R26 (T k) k x0 x1 x2 := (by kernel_rfl : T (k + 1) 26 [x0, x1, x2] = bodyE P H (T k) k 26 [x0, x1, x2]).trans (r26 ..)
/-- limelight/limelightref03.Place -/
def R27 (T : Nat → List SVal → Option Res) (k : Nat) (x0 : SVal) (x1 : SVal) : Option Res :=
  loopN (fun s1 next1 =>
   (sLen s1.k0).bind fun r2 =>
   (sBin .lss s1.k2 r2).bind fun r3 =>
   pickC r3
   ((sIdx false 1 s1.k0 s1.k2).bind fun e4 =>
    (sBin .eql e4 s1.k1).bind fun r5 =>
    pickC r5
    (some { r := s1.k2 })
    ((sBin .add s1.k2 (.int .i64 1)).bind fun r6 =>
     next1 ⟨[(weak s1.k0), s1.k1, r6], [], false⟩))
   (some { r := (.int .i64 (-1)) })) k ⟨[(weak x0), x1, (.int .i64 0)], [], false⟩
theorem r27 (T : Nat → List SVal → Option Res) (k : Nat) (x0 : SVal) (x1 : SVal) : bodyE P H T k 27 [x0, x1] = R27 T k x0 x1 := by kernel_rfl
noncomputable def D27 (T : Nat → List SVal → Option Res) (k : Nat) : List SVal → Option Res
  | [x0, x1] => R27 T k x0 x1
  | a => bodyE P H T k 27 a
theorem d27 (T : Nat → List SVal → Option Res) (k : Nat) (a : List SVal) : D27 T k a = bodyE P H T k 27 a := by
  unfold D27
  split
  · exact (r27 ..).symm
  · rfl
theorem t27 (k : Nat) (x0 : SVal) (x1 : SVal) : T (k + 1) 27 [x0, x1] = R27 (T k) k x0 x1 := (by kernel_rfl : T (k + 1) 27 [x0, x1] = bodyE P H (T k) k 27 [x0, x1]).trans (r27 ..)
/-- limelight/limelightlaw12.live -/
def R28 (T : Nat → List SVal → Option Res) (k : Nat) : Option Res :=
  ((T 31 [(.agg [(.sl 7 false false [(.agg [(.int .i64 0), (.int .i64 0), (.int .i64 (-1)), (.sl 1 false false [(.int .i64 1), (.int .i64 3)]), (.int .i64 (-1)), (.int .i64 (-1)), (.sl 2 false true [])]), (.agg [(.int .i64 1), (.int .i64 0), (.int .i64 0), (.sl 1 false false [(.int .i64 2)]), (.int .i64 (-1)), (.int .i64 (-1)), (.sl 2 false false [(.agg [(.int .i64 3), (.int .i64 0)])])]), (.agg [(.int .i64 1), (.int .i64 2), (.int .i64 1), (.sl 1 false false [(.int .i64 4)]), (.int .i64 (-1)), (.int .i64 (-1)), (.sl 2 false true [])]), (.agg [(.int .i64 1), (.int .i64 2), (.int .i64 0), (.sl 1 false true []), (.int .i64 (-1)), (.int .i64 (-1)), (.sl 2 false true [])]), (.agg [(.int .i64 1), (.int .i64 0), (.int .i64 2), (.sl 1 false true []), (.int .i64 (-1)), (.int .i64 (-1)), (.sl 2 false true [])])]), (.sl 1 false false []), (.sl 1 false false []), (.sl 2 false false []), (.sl 1 false false [])])]).bind fun r1 =>
   (T 21 [(weak r1.r), (.sl 1 false false [(.int .i64 1), (.int .i64 2), (.int .i64 4)])]).bind fun r2 =>
   guardX r2.r true
   ((T 31 [(.agg [(.sl 7 false false [(.agg [(.int .i64 0), (.int .i64 0), (.int .i64 (-1)), (.sl 1 false false [(.int .i64 1), (.int .i64 3)]), (.int .i64 (-1)), (.int .i64 (-1)), (.sl 2 false true [])]), (.agg [(.int .i64 1), (.int .i64 0), (.int .i64 0), (.sl 1 false false [(.int .i64 2)]), (.int .i64 (-1)), (.int .i64 (-1)), (.sl 2 false false [(.agg [(.int .i64 3), (.int .i64 0)])])]), (.agg [(.int .i64 1), (.int .i64 2), (.int .i64 1), (.sl 1 false false [(.int .i64 4)]), (.int .i64 (-1)), (.int .i64 (-1)), (.sl 2 false true [])]), (.agg [(.int .i64 1), (.int .i64 2), (.int .i64 0), (.sl 1 false true []), (.int .i64 (-1)), (.int .i64 (-1)), (.sl 2 false true [])]), (.agg [(.int .i64 1), (.int .i64 0), (.int .i64 2), (.sl 1 false true []), (.int .i64 (-1)), (.int .i64 (-1)), (.sl 2 false true [])])]), (.sl 1 false false []), (.sl 1 false false [(.int .i64 2)]), (.sl 2 false false []), (.sl 1 false false [(.int .i64 2)])])]).bind fun r3 =>
    (T 21 [(weak r3.r), (.sl 1 false false [(.int .i64 1), (.int .i64 3)])]).bind fun r4 =>
    guardX r4.r true
    ((T 31 [(.agg [(.sl 7 false false [(.agg [(.int .i64 0), (.int .i64 0), (.int .i64 (-1)), (.sl 1 false false [(.int .i64 1), (.int .i64 3)]), (.int .i64 (-1)), (.int .i64 (-1)), (.sl 2 false true [])]), (.agg [(.int .i64 1), (.int .i64 0), (.int .i64 0), (.sl 1 false false [(.int .i64 2)]), (.int .i64 (-1)), (.int .i64 (-1)), (.sl 2 false false [(.agg [(.int .i64 3), (.int .i64 0)])])]), (.agg [(.int .i64 1), (.int .i64 2), (.int .i64 1), (.sl 1 false false [(.int .i64 4)]), (.int .i64 (-1)), (.int .i64 (-1)), (.sl 2 false true [])]), (.agg [(.int .i64 1), (.int .i64 2), (.int .i64 0), (.sl 1 false true []), (.int .i64 (-1)), (.int .i64 (-1)), (.sl 2 false true [])]), (.agg [(.int .i64 1), (.int .i64 0), (.int .i64 2), (.sl 1 false true []), (.int .i64 (-1)), (.int .i64 (-1)), (.sl 2 false true [])])]), (.sl 1 false false []), (.sl 1 false false [(.int .i64 2), (.int .i64 3)]), (.sl 2 false false []), (.sl 1 false false [(.int .i64 2), (.int .i64 3)])])]).bind fun r5 =>
     (T 21 [(weak r5.r), (.sl 1 false false [(.int .i64 1), (.int .i64 2), (.int .i64 4)])]).bind fun r6 =>
     guardX r6.r true
     ((T 30 [(.agg [(.sl 7 false false [(.agg [(.int .i64 0), (.int .i64 0), (.int .i64 (-1)), (.sl 1 false false [(.int .i64 1), (.int .i64 3)]), (.int .i64 (-1)), (.int .i64 (-1)), (.sl 2 false true [])]), (.agg [(.int .i64 1), (.int .i64 0), (.int .i64 0), (.sl 1 false false [(.int .i64 2)]), (.int .i64 (-1)), (.int .i64 (-1)), (.sl 2 false false [(.agg [(.int .i64 3), (.int .i64 0)])])]), (.agg [(.int .i64 1), (.int .i64 2), (.int .i64 1), (.sl 1 false false [(.int .i64 4)]), (.int .i64 (-1)), (.int .i64 (-1)), (.sl 2 false true [])]), (.agg [(.int .i64 1), (.int .i64 2), (.int .i64 0), (.sl 1 false true []), (.int .i64 (-1)), (.int .i64 (-1)), (.sl 2 false true [])]), (.agg [(.int .i64 1), (.int .i64 0), (.int .i64 2), (.sl 1 false true []), (.int .i64 (-1)), (.int .i64 (-1)), (.sl 2 false true [])])]), (.sl 1 false false []), (.sl 1 false false [(.int .i64 2)]), (.sl 2 false false []), (.sl 1 false false [(.int .i64 2)])]), (.int .i64 3)]).bind fun r7 =>
      guardX r7.r true
      ((T 30 [(.agg [(.sl 7 false false [(.agg [(.int .i64 0), (.int .i64 0), (.int .i64 (-1)), (.sl 1 false false [(.int .i64 1), (.int .i64 3)]), (.int .i64 (-1)), (.int .i64 (-1)), (.sl 2 false true [])]), (.agg [(.int .i64 1), (.int .i64 0), (.int .i64 0), (.sl 1 false false [(.int .i64 2)]), (.int .i64 (-1)), (.int .i64 (-1)), (.sl 2 false false [(.agg [(.int .i64 3), (.int .i64 0)])])]), (.agg [(.int .i64 1), (.int .i64 2), (.int .i64 1), (.sl 1 false false [(.int .i64 4)]), (.int .i64 (-1)), (.int .i64 (-1)), (.sl 2 false true [])]), (.agg [(.int .i64 1), (.int .i64 2), (.int .i64 0), (.sl 1 false true []), (.int .i64 (-1)), (.int .i64 (-1)), (.sl 2 false true [])]), (.agg [(.int .i64 1), (.int .i64 0), (.int .i64 2), (.sl 1 false true []), (.int .i64 (-1)), (.int .i64 (-1)), (.sl 2 false true [])])]), (.sl 1 false false []), (.sl 1 false false [(.int .i64 2)]), (.sl 2 false false []), (.sl 1 false false [(.int .i64 2)])]), (.int .i64 4)]).bind fun r8 =>
       (sNot r8.r).bind fun r9 =>
       guardX r9 true
       ((T 30 [(.agg [(.sl 7 false false [(.agg [(.int .i64 0), (.int .i64 0), (.int .i64 (-1)), (.sl 1 false false [(.int .i64 1), (.int .i64 3)]), (.int .i64 (-1)), (.int .i64 (-1)), (.sl 2 false true [])]), (.agg [(.int .i64 1), (.int .i64 0), (.int .i64 0), (.sl 1 false false [(.int .i64 2)]), (.int .i64 (-1)), (.int .i64 (-1)), (.sl 2 false false [(.agg [(.int .i64 3), (.int .i64 0)])])]), (.agg [(.int .i64 1), (.int .i64 2), (.int .i64 1), (.sl 1 false false [(.int .i64 4)]), (.int .i64 (-1)), (.int .i64 (-1)), (.sl 2 false true [])]), (.agg [(.int .i64 1), (.int .i64 2), (.int .i64 0), (.sl 1 false true []), (.int .i64 (-1)), (.int .i64 (-1)), (.sl 2 false true [])]), (.agg [(.int .i64 1), (.int .i64 0), (.int .i64 2), (.sl 1 false true []), (.int .i64 (-1)), (.int .i64 (-1)), (.sl 2 false true [])])]), (.sl 1 false false []), (.sl 1 false false []), (.sl 2 false false []), (.sl 1 false false [])]), (.int .i64 1)]).bind fun r10 =>
        (sNot r10.r).bind fun r11 =>
        guardX r11 true
        ((T 29 [(.agg [(.sl 7 false false [(.agg [(.int .i64 0), (.int .i64 0), (.int .i64 (-1)), (.sl 1 false false [(.int .i64 1), (.int .i64 3)]), (.int .i64 (-1)), (.int .i64 (-1)), (.sl 2 false true [])]), (.agg [(.int .i64 1), (.int .i64 0), (.int .i64 0), (.sl 1 false false [(.int .i64 2)]), (.int .i64 (-1)), (.int .i64 (-1)), (.sl 2 false false [(.agg [(.int .i64 3), (.int .i64 0)])])]), (.agg [(.int .i64 1), (.int .i64 2), (.int .i64 1), (.sl 1 false false [(.int .i64 4)]), (.int .i64 (-1)), (.int .i64 (-1)), (.sl 2 false true [])]), (.agg [(.int .i64 1), (.int .i64 2), (.int .i64 0), (.sl 1 false true []), (.int .i64 (-1)), (.int .i64 (-1)), (.sl 2 false true [])]), (.agg [(.int .i64 1), (.int .i64 0), (.int .i64 2), (.sl 1 false true []), (.int .i64 (-1)), (.int .i64 (-1)), (.sl 2 false true [])])]), (.sl 1 false false []), (.sl 1 false false []), (.sl 2 false false []), (.sl 1 false false [])]), (.int .i64 4)]).bind fun r12 =>
         guardX r12.r true
         ((T 29 [(.agg [(.sl 7 false false [(.agg [(.int .i64 0), (.int .i64 0), (.int .i64 (-1)), (.sl 1 false false [(.int .i64 1), (.int .i64 3)]), (.int .i64 (-1)), (.int .i64 (-1)), (.sl 2 false true [])]), (.agg [(.int .i64 1), (.int .i64 0), (.int .i64 0), (.sl 1 false false [(.int .i64 2)]), (.int .i64 (-1)), (.int .i64 (-1)), (.sl 2 false false [(.agg [(.int .i64 3), (.int .i64 0)])])]), (.agg [(.int .i64 1), (.int .i64 2), (.int .i64 1), (.sl 1 false false [(.int .i64 4)]), (.int .i64 (-1)), (.int .i64 (-1)), (.sl 2 false true [])]), (.agg [(.int .i64 1), (.int .i64 2), (.int .i64 0), (.sl 1 false true []), (.int .i64 (-1)), (.int .i64 (-1)), (.sl 2 false true [])]), (.agg [(.int .i64 1), (.int .i64 0), (.int .i64 2), (.sl 1 false true []), (.int .i64 (-1)), (.int .i64 (-1)), (.sl 2 false true [])])]), (.sl 1 false false []), (.sl 1 false false [(.int .i64 2)]), (.sl 2 false false []), (.sl 1 false false [(.int .i64 2)])]), (.int .i64 4)]).bind fun r13 =>
          (sNot r13.r).bind fun r14 =>
          guardX r14 true
          ((T 29 [(.agg [(.sl 7 false false [(.agg [(.int .i64 0), (.int .i64 0), (.int .i64 (-1)), (.sl 1 false false [(.int .i64 1), (.int .i64 3)]), (.int .i64 (-1)), (.int .i64 (-1)), (.sl 2 false true [])]), (.agg [(.int .i64 1), (.int .i64 0), (.int .i64 0), (.sl 1 false false [(.int .i64 2)]), (.int .i64 (-1)), (.int .i64 (-1)), (.sl 2 false false [(.agg [(.int .i64 3), (.int .i64 0)])])]), (.agg [(.int .i64 1), (.int .i64 2), (.int .i64 1), (.sl 1 false false [(.int .i64 4)]), (.int .i64 (-1)), (.int .i64 (-1)), (.sl 2 false true [])]), (.agg [(.int .i64 1), (.int .i64 2), (.int .i64 0), (.sl 1 false true []), (.int .i64 (-1)), (.int .i64 (-1)), (.sl 2 false true [])]), (.agg [(.int .i64 1), (.int .i64 0), (.int .i64 2), (.sl 1 false true []), (.int .i64 (-1)), (.int .i64 (-1)), (.sl 2 false true [])])]), (.sl 1 false false []), (.sl 1 false false [(.int .i64 2)]), (.sl 2 false false []), (.sl 1 false false [(.int .i64 2)])]), (.int .i64 9)]).bind fun r15 =>
           (sNot r15.r).bind fun r16 =>
           (asB r16).bind fun b17 =>
           some [b17])
          (some [false])
          (none))
         (some [false])
         (none))
        (some [false])
        (none))
       (some [false])
       (none))
      (some [false])
      (none))
     (some [false])
     (none))
    (some [false])
    (none))
   (some [false])
   (none)).bind fun vs18 =>
  some { r := (.bool (vs18.getD 0 false)) }
theorem r28 (T : Nat → List SVal → Option Res) (k : Nat) : bodyE P H T k 28 [] = R28 T k  := by kernel_rfl
noncomputable def D28 (T : Nat → List SVal → Option Res) (k : Nat) : List SVal → Option Res
  | [] => R28 T k 
  | a => bodyE P H T k 28 a
theorem d28 (T : Nat → List SVal → Option Res) (k : Nat) (a : List SVal) : D28 T k a = bodyE P H T k 28 a := by
  unfold D28
  split
  · exact (r28 ..).symm
  · rfl
theorem t28 (k : Nat) : T (k + 1) 28 [] = R28 (T k) k  := (by kernel_rfl : T (k + 1) 28 [] = bodyE P H (T k) k 28 []).trans (r28 ..)
/-- limelight/inert.Is -/
def R29 (T : Nat → List SVal → Option Res) (k : Nat) (x0a : SVal) (x0b : SVal) (x0c : SVal) (x0d : SVal) (x0e : SVal) (x1 : SVal) : Option Res :=
  ((T 55 [(.agg [(weak x0a), (weak x0b), (weak x0c), (weak x0d), (weak x0e)]), x1]).bind fun r1 =>
   guardX r1.r true
   ((T 30 [(.agg [(weak x0a), (weak x0b), (weak x0c), (weak x0d), (weak x0e)]), x1]).bind fun r2 =>
    guardX r2.r false
    ((T 56 [(.agg [(weak x0a), (weak x0b), (weak x0c), (weak x0d), (weak x0e)]), x1]).bind fun r3 =>
     (asB r3.r).bind fun b4 =>
     some [b4])
    (some [true])
    (none))
   (some [false])
   (none)).bind fun vs5 =>
  some { r := (.bool (vs5.getD 0 false)) }
theorem r29 (T : Nat → List SVal → Option Res) (k : Nat) (x0a : SVal) (x0b : SVal) (x0c : SVal) (x0d : SVal) (x0e : SVal) (x1 : SVal) : bodyE P H T k 29 [(.agg [x0a, x0b, x0c, x0d, x0e]), x1] = R29 T k x0a x0b x0c x0d x0e x1 := by kernel_rfl
noncomputable def D29 (T : Nat → List SVal → Option Res) (k : Nat) : List SVal → Option Res
  | [(.agg [x0a, x0b, x0c, x0d, x0e]), x1] => R29 T k x0a x0b x0c x0d x0e x1
  | a => bodyE P H T k 29 a
theorem d29 (T : Nat → List SVal → Option Res) (k : Nat) (a : List SVal) : D29 T k a = bodyE P H T k 29 a := by
  unfold D29
  split
  · exact (r29 ..).symm
  · rfl
theorem t29 (k : Nat) (x0a : SVal) (x0b : SVal) (x0c : SVal) (x0d : SVal) (x0e : SVal) (x1 : SVal) : T (k + 1) 29 [(.agg [x0a, x0b, x0c, x0d, x0e]), x1] = R29 (T k) k x0a x0b x0c x0d x0e x1 := (by kernel_rfl : T (k + 1) 29 [(.agg [x0a, x0b, x0c, x0d, x0e]), x1] = bodyE P H (T k) k 29 [(.agg [x0a, x0b, x0c, x0d, x0e]), x1]).trans (r29 ..)
/-- limelight/inert.Blocked -/
def R30 (T : Nat → List SVal → Option Res) (k : Nat) (x0a : SVal) (x0b : SVal) (x0c : SVal) (x0d : SVal) (x0e : SVal) (x1 : SVal) : Option Res :=
  ((T 55 [(.agg [(weak x0a), (weak x0b), (weak x0c), (weak x0d), (weak x0e)]), x1]).bind fun r1 =>
   (sNot r1.r).bind fun r2 =>
   guardX r2 false
   ((sBin .eql x1 (.int .i64 0)).bind fun r3 =>
    (asB r3).bind fun b4 =>
    some [b4])
   (some [true])
   (none)).bind fun vs5 =>
  pickC (.bool (vs5.getD 0 false))
  (some { r := (.bool false) })
  ((T 57 [(.agg [(weak x0a), (weak x0b), (weak x0c), (weak x0d), (weak x0e)])]).bind fun r6 =>
   ((sBin .neq r6.r (.int .i64 (-1))).bind fun r7 =>
    guardX r7 true
    ((T 58 [(weak x0a), r6.r, x1]).bind fun r8 =>
     (sNot r8.r).bind fun r9 =>
     (asB r9).bind fun b10 =>
     some [b10])
    (some [false])
    (none)).bind fun vs11 =>
   some { r := (.bool (vs11.getD 0 false)) })
theorem r30 (T : Nat → List SVal → Option Res) (k : Nat) (x0a : SVal) (x0b : SVal) (x0c : SVal) (x0d : SVal) (x0e : SVal) (x1 : SVal) : bodyE P H T k 30 [(.agg [x0a, x0b, x0c, x0d, x0e]), x1] = R30 T k x0a x0b x0c x0d x0e x1 := by kernel_rfl
noncomputable def D30 (T : Nat → List SVal → Option Res) (k : Nat) : List SVal → Option Res
  | [(.agg [x0a, x0b, x0c, x0d, x0e]), x1] => R30 T k x0a x0b x0c x0d x0e x1
  | a => bodyE P H T k 30 a
theorem d30 (T : Nat → List SVal → Option Res) (k : Nat) (a : List SVal) : D30 T k a = bodyE P H T k 30 a := by
  unfold D30
  split
  · exact (r30 ..).symm
  · rfl
theorem t30 (k : Nat) (x0a : SVal) (x0b : SVal) (x0c : SVal) (x0d : SVal) (x0e : SVal) (x1 : SVal) : T (k + 1) 30 [(.agg [x0a, x0b, x0c, x0d, x0e]), x1] = R30 (T k) k x0a x0b x0c x0d x0e x1 := (by kernel_rfl : T (k + 1) 30 [(.agg [x0a, x0b, x0c, x0d, x0e]), x1] = bodyE P H (T k) k 30 [(.agg [x0a, x0b, x0c, x0d, x0e]), x1]).trans (r30 ..)
/-- limelight/inert.All -/
def R31 (T : Nat → List SVal → Option Res) (k : Nat) (x0a : SVal) (x0b : SVal) (x0c : SVal) (x0d : SVal) (x0e : SVal) : Option Res :=
  (sLen x0a).bind fun r1 =>
  loopN (fun s2 next2 =>
   (sBin .lss s2.k3 s2.k2).bind fun r3 =>
   pickC r3
   ((T 29 [(.agg [(weak (SVal.cell s2.k0 0)), (weak (SVal.cell s2.k0 1)), (weak (SVal.cell s2.k0 2)), (weak (SVal.cell s2.k0 3)), (weak (SVal.cell s2.k0 4))]), s2.k3]).bind fun r4 =>
    pickC r4.r
    (if (List.all [[.v s2.k3]] allOne) = true then
     if (s2.k1.xs.length + ([s2.k3] : List SVal).length) * 8 ≤ maxAppend then
     (sBin .add s2.k3 (.int .i64 1)).bind fun r5 =>
     next2 ⟨[(.rp [(SVal.cell s2.k0 0), (SVal.cell s2.k0 1), (SVal.cell s2.k0 2), (SVal.cell s2.k0 3), (SVal.cell s2.k0 4)]), (.sl 1 true false (s2.k1.xs ++ ([s2.k3] : List SVal))), s2.k2, r5], [], false⟩
     else none
     else none)
    ((sBin .add s2.k3 (.int .i64 1)).bind fun r6 =>
     next2 ⟨[(.rp [(SVal.cell s2.k0 0), (SVal.cell s2.k0 1), (SVal.cell s2.k0 2), (SVal.cell s2.k0 3), (SVal.cell s2.k0 4)]), (.sl 1 true false s2.k1.xs), s2.k2, r6], [], false⟩))
   ((T 59 [(.sl 1 false false s2.k1.xs)]).bind fun r7 =>
    some { r := (weak r7.r) })) k ⟨[(.rp [x0a, x0b, x0c, x0d, x0e]), (.sl 1 true false []), r1, (.int .i64 0)], [], false⟩
theorem r31 (T : Nat → List SVal → Option Res) (k : Nat) (x0a : SVal) (x0b : SVal) (x0c : SVal) (x0d : SVal) (x0e : SVal) : bodyE P H T k 31 [(.agg [x0a, x0b, x0c, x0d, x0e])] = R31 T k x0a x0b x0c x0d x0e := by kernel_rfl
noncomputable def D31 (T : Nat → List SVal → Option Res) (k : Nat) : List SVal → Option Res
  | [(.agg [x0a, x0b, x0c, x0d, x0e])] => R31 T k x0a x0b x0c x0d x0e
  | a => bodyE P H T k 31 a
theorem d31 (T : Nat → List SVal → Option Res) (k : Nat) (a : List SVal) : D31 T k a = bodyE P H T k 31 a := by
  unfold D31
  split
  · exact (r31 ..).symm
  · rfl
theorem t31 (k : Nat) (x0a : SVal) (x0b : SVal) (x0c : SVal) (x0d : SVal) (x0e : SVal) : T (k + 1) 31 [(.agg [x0a, x0b, x0c, x0d, x0e])] = R31 (T k) k x0a x0b x0c x0d x0e := (by kernel_rfl : T (k + 1) 31 [(.agg [x0a, x0b, x0c, x0d, x0e])] = bodyE P H (T k) k 31 [(.agg [x0a, x0b, x0c, x0d, x0e])]).trans (r31 ..)
/-- limelight/limelightref12.Is -/
def R32 (T : Nat → List SVal → Option Res) (k : Nat) (x0a : SVal) (x0b : SVal) (x0c : SVal) (x0d : SVal) (x0e : SVal) (x1 : SVal) : Option Res :=
  (T 33 [(.agg [(weak x0a), (weak x0b), (weak x0c), (weak x0d), (weak x0e)]), x1]).bind fun r1 =>
  pickC r1.r
  (some { r := (.bool true) })
  ((T 50 [(weak x0a), x1]).bind fun r2 =>
   (sLen r2.r).bind fun r3 =>
   (T 35 [(.agg [(weak x0a), (weak x0b), (weak x0c), (weak x0d), (weak x0e)])]).bind fun r4 =>
   (T 27 [(weak r2.r), r4.r]).bind fun r5 =>
   (sBin .geq r5.r (.int .i64 0)).bind fun r6 =>
   pickC r6
   ((sBin .add r5.r (.int .i64 1)).bind fun r7 =>
    loopN (fun s8 next8 =>
     (sBin .lss s8.k3 s8.k2).bind fun r9 =>
     pickC r9
     ((sIdx false 1 s8.k1 s8.k3).bind fun e10 =>
      (T 36 [(weak (SVal.cell s8.k0 0)), e10, (.int .i64 3)]).bind fun r11 =>
      pickC r11.r
      (some { r := (.bool true) })
      ((sBin .add s8.k3 (.int .i64 1)).bind fun r12 =>
       next8 ⟨[(.rp [(SVal.cell s8.k0 0), (SVal.cell s8.k0 1), (SVal.cell s8.k0 2), (SVal.cell s8.k0 3), (SVal.cell s8.k0 4)]), (weak s8.k1), s8.k2, r12], [], false⟩))
     (some { r := (.bool false) })) k ⟨[(.rp [x0a, x0b, x0c, x0d, x0e]), (weak r2.r), r7, (.int .i64 0)], [], false⟩)
   (loopN (fun s13 next13 =>
     (sBin .lss s13.k3 s13.k2).bind fun r14 =>
     pickC r14
     ((sIdx false 1 s13.k1 s13.k3).bind fun e15 =>
      (T 36 [(weak (SVal.cell s13.k0 0)), e15, (.int .i64 3)]).bind fun r16 =>
      pickC r16.r
      (some { r := (.bool true) })
      ((sBin .add s13.k3 (.int .i64 1)).bind fun r17 =>
       next13 ⟨[(.rp [(SVal.cell s13.k0 0), (SVal.cell s13.k0 1), (SVal.cell s13.k0 2), (SVal.cell s13.k0 3), (SVal.cell s13.k0 4)]), (weak s13.k1), s13.k2, r17], [], false⟩))
     (some { r := (.bool false) })) k ⟨[(.rp [x0a, x0b, x0c, x0d, x0e]), (weak r2.r), r3, (.int .i64 0)], [], false⟩))
theorem r32 (T : Nat → List SVal → Option Res) (k : Nat) (x0a : SVal) (x0b : SVal) (x0c : SVal) (x0d : SVal) (x0e : SVal) (x1 : SVal) : bodyE P H T k 32 [(.agg [x0a, x0b, x0c, x0d, x0e]), x1] = R32 T k x0a x0b x0c x0d x0e x1 := by kernel_rfl
noncomputable def D32 (T : Nat → List SVal → Option Res) (k : Nat) : List SVal → Option Res
  | [(.agg [x0a, x0b, x0c, x0d, x0e]), x1] => R32 T k x0a x0b x0c x0d x0e x1
  | a => bodyE P H T k 32 a
theorem d32 (T : Nat → List SVal → Option Res) (k : Nat) (a : List SVal) : D32 T k a = bodyE P H T k 32 a := by
  unfold D32
  split
  · exact (r32 ..).symm
  · rfl
theorem t32 (k : Nat) (x0a : SVal) (x0b : SVal) (x0c : SVal) (x0d : SVal) (x0e : SVal) (x1 : SVal) : T (k + 1) 32 [(.agg [x0a, x0b, x0c, x0d, x0e]), x1] = R32 (T k) k x0a x0b x0c x0d x0e x1 := (by kernel_rfl : T (k + 1) 32 [(.agg [x0a, x0b, x0c, x0d, x0e]), x1] = bodyE P H (T k) k 32 [(.agg [x0a, x0b, x0c, x0d, x0e]), x1]).trans (r32 ..)
/-- limelight/limelightref12.Blocked -/
def R33 (T : Nat → List SVal → Option Res) (k : Nat) (x0a : SVal) (x0b : SVal) (x0c : SVal) (x0d : SVal) (x0e : SVal) (x1 : SVal) : Option Res :=
  (T 35 [(.agg [(weak x0a), (weak x0b), (weak x0c), (weak x0d), (weak x0e)])]).bind fun r1 =>
  ((sBin .neq x1 (.int .i64 0)).bind fun r2 =>
   guardX r2 true
   ((sBin .neq r1.r (.int .i64 (-1))).bind fun r3 =>
    guardX r3 true
    ((T 26 [(weak x0a), r1.r, x1]).bind fun r4 =>
     (sNot r4.r).bind fun r5 =>
     (asB r5).bind fun b6 =>
     some [b6])
    (some [false])
    (none))
   (some [false])
   (none)).bind fun vs7 =>
  some { r := (.bool (vs7.getD 0 false)) }
theorem r33 (T : Nat → List SVal → Option Res) (k : Nat) (x0a : SVal) (x0b : SVal) (x0c : SVal) (x0d : SVal) (x0e : SVal) (x1 : SVal) : bodyE P H T k 33 [(.agg [x0a, x0b, x0c, x0d, x0e]), x1] = R33 T k x0a x0b x0c x0d x0e x1 := by kernel_rfl
noncomputable def D33 (T : Nat → List SVal → Option Res) (k : Nat) : List SVal → Option Res
  | [(.agg [x0a, x0b, x0c, x0d, x0e]), x1] => R33 T k x0a x0b x0c x0d x0e x1
  | a => bodyE P H T k 33 a
theorem d33 (T : Nat → List SVal → Option Res) (k : Nat) (a : List SVal) : D33 T k a = bodyE P H T k 33 a := by
  unfold D33
  split
  · exact (r33 ..).symm
  · rfl
theorem t33 (k : Nat) (x0a : SVal) (x0b : SVal) (x0c : SVal) (x0d : SVal) (x0e : SVal) (x1 : SVal) : T (k + 1) 33 [(.agg [x0a, x0b, x0c, x0d, x0e]), x1] = R33 (T k) k x0a x0b x0c x0d x0e x1 := (by kernel_rfl : T (k + 1) 33 [(.agg [x0a, x0b, x0c, x0d, x0e]), x1] = bodyE P H (T k) k 33 [(.agg [x0a, x0b, x0c, x0d, x0e]), x1]).trans (r33 ..)
/-- limelight/limelightref12.All -/
def R34 (T : Nat → List SVal → Option Res) (k : Nat) (x0a : SVal) (x0b : SVal) (x0c : SVal) (x0d : SVal) (x0e : SVal) : Option Res :=
  loopN (fun s1 next1 =>
   (sLen (SVal.cell s1.k0 0)).bind fun r2 =>
   (sBin .lss s1.k2 r2).bind fun r3 =>
   pickC r3
   ((T 32 [(.agg [(weak (SVal.cell s1.k0 0)), (weak (SVal.cell s1.k0 1)), (weak (SVal.cell s1.k0 2)), (weak (SVal.cell s1.k0 3)), (weak (SVal.cell s1.k0 4))]), s1.k2]).bind fun r4 =>
    pickC r4.r
    (if (List.all [[.v s1.k2]] allOne) = true then
     if (s1.k1.xs.length + ([s1.k2] : List SVal).length) * 8 ≤ maxAppend then
     (sBin .add s1.k2 (.int .i64 1)).bind fun r5 =>
     next1 ⟨[(.rp [(SVal.cell s1.k0 0), (SVal.cell s1.k0 1), (SVal.cell s1.k0 2), (SVal.cell s1.k0 3), (SVal.cell s1.k0 4)]), (.sl 1 true false (s1.k1.xs ++ ([s1.k2] : List SVal))), r5], [], false⟩
     else none
     else none)
    ((sBin .add s1.k2 (.int .i64 1)).bind fun r6 =>
     next1 ⟨[(.rp [(SVal.cell s1.k0 0), (SVal.cell s1.k0 1), (SVal.cell s1.k0 2), (SVal.cell s1.k0 3), (SVal.cell s1.k0 4)]), (.sl 1 true false s1.k1.xs), r6], [], false⟩))
   (some { r := (.sl 1 false false s1.k1.xs) })) k ⟨[(.rp [x0a, x0b, x0c, x0d, x0e]), (.sl 1 true false []), (.int .i64 0)], [], false⟩
theorem r34 (T : Nat → List SVal → Option Res) (k : Nat) (x0a : SVal) (x0b : SVal) (x0c : SVal) (x0d : SVal) (x0e : SVal) : bodyE P H T k 34 [(.agg [x0a, x0b, x0c, x0d, x0e])] = R34 T k x0a x0b x0c x0d x0e := by kernel_rfl
noncomputable def D34 (T : Nat → List SVal → Option Res) (k : Nat) : List SVal → Option Res
  | [(.agg [x0a, x0b, x0c, x0d, x0e])] => R34 T k x0a x0b x0c x0d x0e
  | a => bodyE P H T k 34 a
theorem d34 (T : Nat → List SVal → Option Res) (k : Nat) (a : List SVal) : D34 T k a = bodyE P H T k 34 a := by
  unfold D34
  split
  · exact (r34 ..).symm
  · rfl
theorem t34 (k : Nat) (x0a : SVal) (x0b : SVal) (x0c : SVal) (x0d : SVal) (x0e : SVal) : T (k + 1) 34 [(.agg [x0a, x0b, x0c, x0d, x0e])] = R34 (T k) k x0a x0b x0c x0d x0e := (by kernel_rfl : T (k + 1) 34 [(.agg [x0a, x0b, x0c, x0d, x0e])] = bodyE P H (T k) k 34 [(.agg [x0a, x0b, x0c, x0d, x0e])]).trans (r34 ..)
/-- limelight/limelightref10.Highest -/
def R35 (T : Nat → List SVal → Option Res) (k : Nat) (x0a : SVal) (x0b : SVal) (x0c : SVal) (x0d : SVal) (x0e : SVal) : Option Res :=
  (sLen x0e).bind fun r1 =>
  (sBin .sub r1 (.int .i64 1)).bind fun r2 =>
  loopN (fun s3 next3 =>
   (sBin .geq s3.k1 (.int .i64 0)).bind fun r4 =>
   pickC r4
   ((sIdx false 1 (SVal.cell s3.k0 4) s3.k1).bind fun e5 =>
    (T 24 [(weak (SVal.cell s3.k0 2)), e5]).bind fun r6 =>
    if isSc1 r6.r = true then
    pickC r6.r
    ((sIdx false 1 (SVal.cell s3.k0 4) s3.k1).bind fun e7 =>
     some { r := e7 })
    ((sBin .sub s3.k1 (.int .i64 1)).bind fun r8 =>
     next3 ⟨[(.rp [(SVal.cell s3.k0 0), (SVal.cell s3.k0 1), (SVal.cell s3.k0 2), (SVal.cell s3.k0 3), (SVal.cell s3.k0 4)]), r8], [], false⟩)
    else none)
   (some { r := (.int .i64 (-1)) })) k ⟨[(.rp [x0a, x0b, x0c, x0d, x0e]), r2], [], false⟩
theorem r35 (T : Nat → List SVal → Option Res) (k : Nat) (x0a : SVal) (x0b : SVal) (x0c : SVal) (x0d : SVal) (x0e : SVal) : bodyE P H T k 35 [(.agg [x0a, x0b, x0c, x0d, x0e])] = R35 T k x0a x0b x0c x0d x0e := by kernel_rfl
noncomputable def D35 (T : Nat → List SVal → Option Res) (k : Nat) : List SVal → Option Res
  | [(.agg [x0a, x0b, x0c, x0d, x0e])] => R35 T k x0a x0b x0c x0d x0e
  | a => bodyE P H T k 35 a
theorem d35 (T : Nat → List SVal → Option Res) (k : Nat) (a : List SVal) : D35 T k a = bodyE P H T k 35 a := by
  unfold D35
  split
  · exact (r35 ..).symm
  · rfl
theorem t35 (k : Nat) (x0a : SVal) (x0b : SVal) (x0c : SVal) (x0d : SVal) (x0e : SVal) : T (k + 1) 35 [(.agg [x0a, x0b, x0c, x0d, x0e])] = R35 (T k) k x0a x0b x0c x0d x0e := (by kernel_rfl : T (k + 1) 35 [(.agg [x0a, x0b, x0c, x0d, x0e])] = bodyE P H (T k) k 35 [(.agg [x0a, x0b, x0c, x0d, x0e])]).trans (r35 ..)
/-- limelight/limelightref02.Has -/
def R36 (T : Nat → List SVal → Option Res) (k : Nat) (x0 : SVal) (x1 : SVal) (x2 : SVal) : Option Res :=
  (T 60 [(weak x0), x1, x2]).bind fun r1 =>
  some { r := r1.r.c1 }
theorem r36 (T : Nat → List SVal → Option Res) (k : Nat) (x0 : SVal) (x1 : SVal) (x2 : SVal) : bodyE P H T k 36 [x0, x1, x2] = R36 T k x0 x1 x2 := by kernel_rfl
noncomputable def D36 (T : Nat → List SVal → Option Res) (k : Nat) : List SVal → Option Res
  | [x0, x1, x2] => R36 T k x0 x1 x2
  | a => bodyE P H T k 36 a
theorem d36 (T : Nat → List SVal → Option Res) (k : Nat) (a : List SVal) : D36 T k a = bodyE P H T k 36 a := by
  unfold D36
  split
  · exact (r36 ..).symm
  · rfl
theorem t36 (k : Nat) (x0 : SVal) (x1 : SVal) (x2 : SVal) : T (k + 1) 36 [x0, x1, x2] = R36 (T k) k x0 x1 x2 := (by kernel_rfl : T (k + 1) 36 [x0, x1, x2] = bodyE P H (T k) k 36 [x0, x1, x2]).trans (r36 ..)
/-- limelight/limelightref03.Both -/
def R37 (T : Nat → List SVal → Option Res) (k : Nat) (x0 : SVal) (x1 : SVal) (x2 : SVal) : Option Res :=
  ((T 40 [(weak x0)]).bind fun r1 =>
   guardX r1.r true
   ((T 18 [(weak x0), x1]).bind fun r2 =>
    guardX r2.r true
    ((T 18 [(weak x0), x2]).bind fun r3 =>
     (asB r3.r).bind fun b4 =>
     some [b4])
    (some [false])
    (none))
   (some [false])
   (none)).bind fun vs5 =>
  some { r := (.bool (vs5.getD 0 false)) }
theorem r37 (T : Nat → List SVal → Option Res) (k : Nat) (x0 : SVal) (x1 : SVal) (x2 : SVal) : bodyE P H T k 37 [x0, x1, x2] = R37 T k x0 x1 x2 := by kernel_rfl
noncomputable def D37 (T : Nat → List SVal → Option Res) (k : Nat) : List SVal → Option Res
  | [x0, x1, x2] => R37 T k x0 x1 x2
  | a => bodyE P H T k 37 a
theorem d37 (T : Nat → List SVal → Option Res) (k : Nat) (a : List SVal) : D37 T k a = bodyE P H T k 37 a := by
  unfold D37
  split
  · exact (r37 ..).symm
  · rfl
theorem t37 (k : Nat) (x0 : SVal) (x1 : SVal) (x2 : SVal) : T (k + 1) 37 [x0, x1, x2] = R37 (T k) k x0 x1 x2 := (by kernel_rfl : T (k + 1) 37 [x0, x1, x2] = bodyE P H (T k) k 37 [x0, x1, x2]).trans (r37 ..)
/-- limelight/limelightref10.Dialog -/
def R38 (T : Nat → List SVal → Option Res) (k : Nat) (x0a : SVal) (x0b : SVal) (x0c : SVal) (x0d : SVal) (x0e : SVal) (x1 : SVal) (x2 : SVal) : Option Res :=
  (T 14 [(.agg [(weak x0a), (weak x0b), (weak x0c), (weak x0d), (weak x0e)])]).bind fun r1 =>
  (sBin .neq r1.r (.int .i64 0)).bind fun r2 =>
  pickC r2
  (some { r := (.tup [(.agg [(.sl 7 false false []), (.sl 1 false false []), (.sl 1 false false []), (.sl 2 false false []), (.sl 1 false false [])]), r1.r]) })
  ((T 18 [(weak x0a), x1]).bind fun r3 =>
   (sNot r3.r).bind fun r4 =>
   pickC r4
   (if (allOne [.v x0a, .v x0b, .v x0c, .v x0d, .v x0e]) = true then
    some { r := (.tup [(.agg [(weak x0a), (weak x0b), (weak x0c), (weak x0d), (weak x0e)]), (.int .i64 2)]) }
    else none)
   ((T 61 [(weak x0a), x1]).bind fun r5 =>
    (sNot r5.r).bind fun r6 =>
    pickC r6
    (if (allOne [.v x0a, .v x0b, .v x0c, .v x0d, .v x0e]) = true then
     some { r := (.tup [(.agg [(weak x0a), (weak x0b), (weak x0c), (weak x0d), (weak x0e)]), (.int .i64 3)]) }
     else none)
    ((T 62 [(.agg [(weak x0a), (weak x0b), (weak x0c), (weak x0d), (weak x0e)]), x1]).bind fun r7 =>
     pickC r7.r
     (if (allOne [.v x0a, .v x0b, .v x0c, .v x0d, .v x0e]) = true then
      some { r := (.tup [(.agg [(weak x0a), (weak x0b), (weak x0c), (weak x0d), (weak x0e)]), (.int .i64 9)]) }
      else none)
     ((T 63 [(.agg [(weak x0a), (weak x0b), (weak x0c), (weak x0d), (weak x0e)])]).bind fun r8 =>
      if (allOne [.v r8.r.c0, .la 704 0, .la 705 0, .la 706 0, .la 707 0]) = true then
      pickC x2
      (if (List.all [[.v x1]] allOne) = true then
       if (r8.r.c2.xs.length + ([x1] : List SVal).length) * 8 ≤ maxAppend then
       if (List.all [[.v x1]] allOne) = true then
       if (r8.r.c4.xs.length + ([x1] : List SVal).length) * 8 ≤ maxAppend then
       if (allOne [.v r8.r.c0, .la 704 0, .la 705 1, .la 706 0, .la 707 1]) = true then
       some { r := (.tup [(.agg [(weak r8.r.c0), (.sl 1 false false r8.r.c1.xs), (.sl 1 false false (r8.r.c2.xs ++ ([x1] : List SVal))), (.sl 2 false false r8.r.c3.xs), (.sl 1 false false (r8.r.c4.xs ++ ([x1] : List SVal)))]), (.int .i64 0)]) }
       else none
       else none
       else none
       else none
       else none)
      (if (List.all [[.v x1]] allOne) = true then
       if (r8.r.c1.xs.length + ([x1] : List SVal).length) * 8 ≤ maxAppend then
       if (allOne [.v r8.r.c0, .la 704 1, .la 705 0, .la 706 0, .la 707 0]) = true then
       some { r := (.tup [(.agg [(weak r8.r.c0), (.sl 1 false false (r8.r.c1.xs ++ ([x1] : List SVal))), (.sl 1 false false r8.r.c2.xs), (.sl 2 false false r8.r.c3.xs), (.sl 1 false false r8.r.c4.xs)]), (.int .i64 0)]) }
       else none
       else none
       else none)
      else none))))
theorem r38 (T : Nat → List SVal → Option Res) (k : Nat) (x0a : SVal) (x0b : SVal) (x0c : SVal) (x0d : SVal) (x0e : SVal) (x1 : SVal) (x2 : SVal) : bodyE P H T k 38 [(.agg [x0a, x0b, x0c, x0d, x0e]), x1, x2] = R38 T k x0a x0b x0c x0d x0e x1 x2 := by kernel_rfl
noncomputable def D38 (T : Nat → List SVal → Option Res) (k : Nat) : List SVal → Option Res
  | [(.agg [x0a, x0b, x0c, x0d, x0e]), x1, x2] => R38 T k x0a x0b x0c x0d x0e x1 x2
  | a => bodyE P H T k 38 a
theorem d38 (T : Nat → List SVal → Option Res) (k : Nat) (a : List SVal) : D38 T k a = bodyE P H T k 38 a := by
  unfold D38
  split
  · exact (r38 ..).symm
  · rfl
theorem t38 (k : Nat) (x0a : SVal) (x0b : SVal) (x0c : SVal) (x0d : SVal) (x0e : SVal) (x1 : SVal) (x2 : SVal) : T (k + 1) 38 [(.agg [x0a, x0b, x0c, x0d, x0e]), x1, x2] = R38 (T k) k x0a x0b x0c x0d x0e x1 x2 := (by kernel_rfl : T (k + 1) 38 [(.agg [x0a, x0b, x0c, x0d, x0e]), x1, x2] = bodyE P H (T k) k 38 [(.agg [x0a, x0b, x0c, x0d, x0e]), x1, x2]).trans (r38 ..)
/-- limelight/limelightref01.Small -/
def R39 (T : Nat → List SVal → Option Res) (k : Nat) (x0 : SVal) : Option Res :=
  loopN (fun s1 next1 =>
   ((sLen s1.k0).bind fun r2 =>
    (sBin .lss s1.k1 r2).bind fun r3 =>
    guardX r3 true
    ((sLen s1.k0).bind fun r4 =>
     (sBin .leq r4 (.int .i64 70)).bind fun r5 =>
     (asB r5).bind fun b6 =>
     some [b6])
    (some [false])
    (none)).bind fun vs7 =>
   pickC (.bool (vs7.getD 0 false))
   (((sIdx true 7 s1.k0 s1.k1).bind fun e8 =>
     (sLen (SVal.cell e8 3)).bind fun r9 =>
     (sBin .gtr r9 (.int .i64 80)).bind fun r10 =>
     guardX r10 false
     ((sIdx true 7 s1.k0 s1.k1).bind fun e11 =>
      (sLen (SVal.cell e11 6)).bind fun r12 =>
      (sBin .gtr r12 (.int .i64 20)).bind fun r13 =>
      (asB r13).bind fun b14 =>
      some [b14])
     (some [true])
     (none)).bind fun vs15 =>
    pickC (.bool (vs15.getD 0 false))
    (some { r := (.bool false) })
    ((sBin .add s1.k1 (.int .i64 1)).bind fun r16 =>
     next1 ⟨[(weak s1.k0), r16], [], false⟩))
   ((sLen s1.k0).bind fun r17 =>
    (sBin .leq r17 (.int .i64 70)).bind fun r18 =>
    some { r := r18 })) k ⟨[(weak x0), (.int .i64 0)], [], false⟩
theorem r39 (T : Nat → List SVal → Option Res) (k : Nat) (x0 : SVal) : bodyE P H T k 39 [x0] = R39 T k x0 := by kernel_rfl
noncomputable def D39 (T : Nat → List SVal → Option Res) (k : Nat) : List SVal → Option Res
  | [x0] => R39 T k x0
  | a => bodyE P H T k 39 a
theorem d39 (T : Nat → List SVal → Option Res) (k : Nat) (a : List SVal) : D39 T k a = bodyE P H T k 39 a := by
  unfold D39
  split
  · exact (r39 ..).symm
  · rfl
theorem t39 (k : Nat) (x0 : SVal) : T (k + 1) 39 [x0] = R39 (T k) k x0 := (by kernel_rfl : T (k + 1) 39 [x0] = bodyE P H (T k) k 39 [x0]).trans (r39 ..)
/-- limelight/limelightref01.May -/
def R40 (T : Nat → List SVal → Option Res) (k : Nat) (x0 : SVal) : Option Res :=
  ((sLen x0).bind fun r1 =>
   (sBin .lss r1 (.int .i64 1)).bind fun r2 =>
   guardX r2 false
   ((sLen x0).bind fun r3 =>
    (sBin .gtr r3 (.int .i64 64)).bind fun r4 =>
    (asB r4).bind fun b5 =>
    some [b5])
   (some [true])
   (none)).bind fun vs6 =>
  pickC (.bool (vs6.getD 0 false))
  (some { r := (.bool false) })
  (loopN (fun s7 next7 =>
    (sLen s7.k0).bind fun r8 =>
    (sBin .lss s7.k1 r8).bind fun r9 =>
    pickC r9
    (((sIdx true 7 s7.k0 s7.k1).bind fun e10 =>
      (T 64 [(.agg [(SVal.cell e10 0), (SVal.cell e10 1), (SVal.cell e10 2), (weak (SVal.cell e10 3)), (SVal.cell e10 4), (SVal.cell e10 5), (weak (SVal.cell e10 6))]), s7.k1]).bind fun r11 =>
      (sNot r11.r).bind fun r12 =>
      guardX r12 false
      ((sIdx true 7 s7.k0 s7.k1).bind fun e13 =>
       (T 65 [(.agg [(SVal.cell e13 0), (SVal.cell e13 1), (SVal.cell e13 2), (weak (SVal.cell e13 3)), (SVal.cell e13 4), (SVal.cell e13 5), (weak (SVal.cell e13 6))])]).bind fun r14 =>
       (sNot r14.r).bind fun r15 =>
       guardX r15 false
       ((T 66 [(weak s7.k0), s7.k1]).bind fun r16 =>
        (sNot r16.r).bind fun r17 =>
        guardX r17 false
        ((T 67 [(weak s7.k0), s7.k1]).bind fun r18 =>
         (sNot r18.r).bind fun r19 =>
         (asB r19).bind fun b20 =>
         some [b20])
        (some [true])
        (none))
       (some [true])
       (none))
      (some [true])
      (none)).bind fun vs21 =>
     pickC (.bool (vs21.getD 0 false))
     (some { r := (.bool false) })
     ((sBin .add s7.k1 (.int .i64 1)).bind fun r22 =>
      next7 ⟨[(weak s7.k0), r22], [], false⟩))
    (loopN (fun s23 next23 =>
      (sLen s23.k0).bind fun r24 =>
      (sBin .lss s23.k1 r24).bind fun r25 =>
      pickC r25
      ((T 68 [(weak s23.k0), s23.k1]).bind fun r26 =>
       (sNot r26.r).bind fun r27 =>
       pickC r27
       (some { r := (.bool false) })
       ((sBin .add s23.k1 (.int .i64 1)).bind fun r28 =>
        next23 ⟨[(weak s23.k0), r28], [], false⟩))
      (some { r := (.bool true) })) k ⟨[(weak s7.k0), (.int .i64 0)], [], false⟩)) k ⟨[(weak x0), (.int .i64 0)], [], false⟩)
theorem r40 (T : Nat → List SVal → Option Res) (k : Nat) (x0 : SVal) : bodyE P H T k 40 [x0] = R40 T k x0 := by kernel_rfl
noncomputable def D40 (T : Nat → List SVal → Option Res) (k : Nat) : List SVal → Option Res
  | [x0] => R40 T k x0
  | a => bodyE P H T k 40 a
theorem d40 (T : Nat → List SVal → Option Res) (k : Nat) (a : List SVal) : D40 T k a = bodyE P H T k 40 a := by
  unfold D40
  split
  · exact (r40 ..).symm
  · rfl
theorem t40 (k : Nat) (x0 : SVal) : T (k + 1) 40 [x0] = R40 (T k) k x0 := (by kernel_rfl : T (k + 1) 40 [x0] = bodyE P H (T k) k 40 [x0]).trans (r40 ..)
/-- limelight/limelightref10.May -/
def R41 (T : Nat → List SVal → Option Res) (k : Nat) (x0a : SVal) (x0b : SVal) (x0c : SVal) (x0d : SVal) (x0e : SVal) : Option Res :=
  (T 69 [(.agg [(weak x0a), (weak x0b), (weak x0c), (weak x0d), (weak x0e)])]).bind fun r1 =>
  loopN (fun s2 next2 =>
   (sLen s2.k1).bind fun r3 =>
   (sBin .lss s2.k2 r3).bind fun r4 =>
   pickC r4
   ((sLen (SVal.cell s2.k0 1)).bind fun r5 =>
    (sLen (SVal.cell s2.k0 2)).bind fun r6 =>
    (sBin .add r5 r6).bind fun r7 =>
    (sBin .lss s2.k2 r7).bind fun r8 =>
    pickC r8
    ((sIdx false 1 s2.k1 s2.k2).bind fun e9 =>
     (T 61 [(weak (SVal.cell s2.k0 0)), e9]).bind fun r10 =>
     (sNot r10.r).bind fun r11 =>
     pickC r11
     (some { r := (.bool false) })
     ((sBin .add s2.k2 (.int .i64 1)).bind fun r12 =>
      next2 ⟨[(.rp [(SVal.cell s2.k0 0), (SVal.cell s2.k0 1), (SVal.cell s2.k0 2), (SVal.cell s2.k0 3), (SVal.cell s2.k0 4)]), (weak s2.k1), r12], [], false⟩))
    ((sIdx false 1 s2.k1 s2.k2).bind fun e13 =>
     (T 70 [(weak (SVal.cell s2.k0 0)), e13]).bind fun r14 =>
     (sNot r14.r).bind fun r15 =>
     pickC r15
     (some { r := (.bool false) })
     ((sBin .add s2.k2 (.int .i64 1)).bind fun r16 =>
      next2 ⟨[(.rp [(SVal.cell s2.k0 0), (SVal.cell s2.k0 1), (SVal.cell s2.k0 2), (SVal.cell s2.k0 3), (SVal.cell s2.k0 4)]), (weak s2.k1), r16], [], false⟩)))
   (loopN (fun s17 next17 =>
     (sLen (SVal.cell s17.k0 3)).bind fun r18 =>
     (sBin .lss s17.k2 r18).bind fun r19 =>
     pickC r19
     ((sIdx true 2 (SVal.cell s17.k0 3) s17.k2).bind fun e20 =>
      ((sBin .neq (SVal.cell e20 1) (.int .i64 (-1))).bind fun r21 =>
       guardX r21 true
       ((T 18 [(weak (SVal.cell s17.k0 0)), (SVal.cell e20 1)]).bind fun r22 =>
        (sNot r22.r).bind fun r23 =>
        (asB r23).bind fun b24 =>
        some [b24])
       (some [false])
       (none)).bind fun vs25 =>
      pickC (.bool (vs25.getD 0 false))
      (some { r := (.bool false) })
      ((sBin .add s17.k2 (.int .i64 1)).bind fun r26 =>
       next17 ⟨[(.rp [(SVal.cell s17.k0 0), (SVal.cell s17.k0 1), (SVal.cell s17.k0 2), (SVal.cell s17.k0 3), (SVal.cell s17.k0 4)]), (weak s17.k1), r26], [], false⟩))
     ((sLen (SVal.cell s17.k0 1)).bind fun r27 =>
      (sSlice 1 s17.k1 (some r27) none).bind fun r28 =>
      loopN (fun s29 next29 =>
       (sLen s29.k2).bind fun r30 =>
       (sBin .lss s29.k3 r30).bind fun r31 =>
       pickC r31
       ((sIdx false 1 s29.k2 s29.k3).bind fun e32 =>
        (T 24 [(weak (SVal.cell s29.k0 4)), e32]).bind fun r33 =>
        if isSc1 r33.r = true then
        (sNot r33.r).bind fun r34 =>
        pickC r34
        (some { r := (.bool false) })
        ((sBin .add s29.k3 (.int .i64 1)).bind fun r35 =>
         next29 ⟨[(.rp [(SVal.cell s29.k0 0), (SVal.cell s29.k0 1), (SVal.cell s29.k0 2), (SVal.cell s29.k0 3), (SVal.cell s29.k0 4)]), (weak s29.k1), (weak s29.k2), r35], [], false⟩)
        else none)
       (((T 71 [(weak s29.k1)]).bind fun r36 =>
         guardX r36.r true
         ((T 71 [(weak (SVal.cell s29.k0 4))]).bind fun r37 =>
          guardX r37.r true
          ((sLen (SVal.cell s29.k0 4)).bind fun r38 =>
           (sLen s29.k2).bind fun r39 =>
           (sBin .eql r38 r39).bind fun r40 =>
           (asB r40).bind fun b41 =>
           some [b41])
          (some [false])
          (none))
         (some [false])
         (none)).bind fun vs42 =>
        some { r := (.bool (vs42.getD 0 false)) })) k ⟨[(.rp [(SVal.cell s17.k0 0), (SVal.cell s17.k0 1), (SVal.cell s17.k0 2), (SVal.cell s17.k0 3), (SVal.cell s17.k0 4)]), (weak s17.k1), (weak r28), (.int .i64 0)], [], false⟩)) k ⟨[(.rp [(SVal.cell s2.k0 0), (SVal.cell s2.k0 1), (SVal.cell s2.k0 2), (SVal.cell s2.k0 3), (SVal.cell s2.k0 4)]), (weak s2.k1), (.int .i64 0)], [], false⟩)) k ⟨[(.rp [x0a, x0b, x0c, x0d, x0e]), (weak r1.r), (.int .i64 0)], [], false⟩
theorem r41 (T : Nat → List SVal → Option Res) (k : Nat) (x0a : SVal) (x0b : SVal) (x0c : SVal) (x0d : SVal) (x0e : SVal) : bodyE P H T k 41 [(.agg [x0a, x0b, x0c, x0d, x0e])] = R41 T k x0a x0b x0c x0d x0e := by kernel_rfl
noncomputable def D41 (T : Nat → List SVal → Option Res) (k : Nat) : List SVal → Option Res
  | [(.agg [x0a, x0b, x0c, x0d, x0e])] => R41 T k x0a x0b x0c x0d x0e
  | a => bodyE P H T k 41 a
theorem d41 (T : Nat → List SVal → Option Res) (k : Nat) (a : List SVal) : D41 T k a = bodyE P H T k 41 a := by
  unfold D41
  split
  · exact (r41 ..).symm
  · rfl
theorem t41 (k : Nat) (x0a : SVal) (x0b : SVal) (x0c : SVal) (x0d : SVal) (x0e : SVal) : T (k + 1) 41 [(.agg [x0a, x0b, x0c, x0d, x0e])] = R41 (T k) k x0a x0b x0c x0d x0e := (by kernel_rfl : T (k + 1) 41 [(.agg [x0a, x0b, x0c, x0d, x0e])] = bodyE P H (T k) k 41 [(.agg [x0a, x0b, x0c, x0d, x0e])]).trans (r41 ..)
/-- limelight/render.may -/
def R42 (T : Nat → List SVal → Option Res) (k : Nat) (x0a : SVal) (x0b : SVal) (x0c : SVal) (x0d : SVal) (x0e : SVal) (x1 : SVal) : Option Res :=
  ((T 72 [(.agg [(weak x0a), (weak x0b), (weak x0c), (weak x0d), (weak x0e)])]).bind fun r1 =>
   (sBin .eql r1.r (.int .i64 0)).bind fun r2 =>
   guardX r2 true
   ((sBin .geq x1 (.int .i64 0)).bind fun r3 =>
    guardX r3 true
    ((sLen x0a).bind fun r4 =>
     (sBin .lss x1 r4).bind fun r5 =>
     (asB r5).bind fun b6 =>
     some [b6])
    (some [false])
    (none))
   (some [false])
   (none)).bind fun vs7 =>
  some { r := (.bool (vs7.getD 0 false)) }
theorem r42 (T : Nat → List SVal → Option Res) (k : Nat) (x0a : SVal) (x0b : SVal) (x0c : SVal) (x0d : SVal) (x0e : SVal) (x1 : SVal) : bodyE P H T k 42 [(.agg [x0a, x0b, x0c, x0d, x0e]), x1] = R42 T k x0a x0b x0c x0d x0e x1 := by kernel_rfl
noncomputable def D42 (T : Nat → List SVal → Option Res) (k : Nat) : List SVal → Option Res
  | [(.agg [x0a, x0b, x0c, x0d, x0e]), x1] => R42 T k x0a x0b x0c x0d x0e x1
  | a => bodyE P H T k 42 a
theorem d42 (T : Nat → List SVal → Option Res) (k : Nat) (a : List SVal) : D42 T k a = bodyE P H T k 42 a := by
  unfold D42
  split
  · exact (r42 ..).symm
  · rfl
theorem t42 (k : Nat) (x0a : SVal) (x0b : SVal) (x0c : SVal) (x0d : SVal) (x0e : SVal) (x1 : SVal) : T (k + 1) 42 [(.agg [x0a, x0b, x0c, x0d, x0e]), x1] = R42 (T k) k x0a x0b x0c x0d x0e x1 := (by kernel_rfl : T (k + 1) 42 [(.agg [x0a, x0b, x0c, x0d, x0e]), x1] = bodyE P H (T k) k 42 [(.agg [x0a, x0b, x0c, x0d, x0e]), x1]).trans (r42 ..)
/-- limelight/flat.Has -/
def R43 (T : Nat → List SVal → Option Res) (k : Nat) (x0 : SVal) (x1 : SVal) : Option Res :=
  (T 58 [(weak x0), (.int .i64 0), x1]).bind fun r1 =>
  some { r := r1.r }
theorem r43 (T : Nat → List SVal → Option Res) (k : Nat) (x0 : SVal) (x1 : SVal) : bodyE P H T k 43 [x0, x1] = R43 T k x0 x1 := by kernel_rfl
noncomputable def D43 (T : Nat → List SVal → Option Res) (k : Nat) : List SVal → Option Res
  | [x0, x1] => R43 T k x0 x1
  | a => bodyE P H T k 43 a
theorem d43 (T : Nat → List SVal → Option Res) (k : Nat) (a : List SVal) : D43 T k a = bodyE P H T k 43 a := by
  unfold D43
  split
  · exact (r43 ..).symm
  · rfl
theorem t43 (k : Nat) (x0 : SVal) (x1 : SVal) : T (k + 1) 43 [x0, x1] = R43 (T k) k x0 x1 := (by kernel_rfl : T (k + 1) 43 [x0, x1] = bodyE P H (T k) k 43 [x0, x1]).trans (r43 ..)
/-- slices.ContainsFunc[[]int,int] -/
def R44 (T : Nat → List SVal → Option Res) (k : Nat) (x0 : SVal) (x1 : SVal) : Option Res :=
  (T 73 [(weak x0), x1]).bind fun r1 =>
  if isSc1 r1.r = true then
  (sBin .geq r1.r (.int .i64 0)).bind fun r2 =>
  some { r := r2 }
  else none
theorem r44 (T : Nat → List SVal → Option Res) (k : Nat) (x0 : SVal) (x1 : SVal) : bodyE P H T k 44 [x0, x1] = R44 T k x0 x1 := by kernel_rfl
noncomputable def D44 (T : Nat → List SVal → Option Res) (k : Nat) : List SVal → Option Res
  | [x0, x1] => R44 T k x0 x1
  | a => bodyE P H T k 44 a
theorem d44 (T : Nat → List SVal → Option Res) (k : Nat) (a : List SVal) : D44 T k a = bodyE P H T k 44 a := by
  unfold D44
  split
  · exact (r44 ..).symm
  · rfl
theorem t44 (k : Nat) (x0 : SVal) (x1 : SVal) : T (k + 1) 44 [x0, x1] = R44 (T k) k x0 x1 := (by kernel_rfl : T (k + 1) 44 [x0, x1] = bodyE P H (T k) k 44 [x0, x1]).trans (r44 ..)
end Go.Proofs.YtccfkncajelbpaaGreat.K
