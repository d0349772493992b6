/- What the evaluator makes of the functions, by program (wip/tr/resid.py); each equation is checked by the kernel. -/
import Derived.Test.YtcehbmffbmhpfaaGreatLmAK
import Derived.Test.YtcehbmffbmhpfaaGreatLmAB
import Derived.KernelRfl
set_option linter.unusedVariables false
set_option linter.unusedSimpArgs false
set_option linter.unnecessarySimpa false
set_option linter.all false
set_option maxRecDepth 100000
namespace Go.Proofs.YtcehbmffbmhpfaaGreat.K
open Go Go.Lm
/-- slices.ContainsFunc[[]int,int] -/
def R156 (T : Nat → List SVal → Option Res) (k : Nat) (x0 : SVal) (x1 : SVal) : Option Res :=
  (T 95 [(weak x0), x1]).bind fun r1 =>
  if isSc1 r1.r = true then
  (sBin .geq r1.r (.int .i64 0)).bind fun r2 =>
  some { r := r2 }
  else none
theorem r156 (T : Nat → List SVal → Option Res) (k : Nat) (x0 : SVal) (x1 : SVal) : bodyE P H T k 156 [x0, x1] = R156 T k x0 x1 := by kernel_rfl
noncomputable def D156 (T : Nat → List SVal → Option Res) (k : Nat) : List SVal → Option Res
  | [x0, x1] => R156 T k x0 x1
  | a => bodyE P H T k 156 a
theorem d156 (T : Nat → List SVal → Option Res) (k : Nat) (a : List SVal) : D156 T k a = bodyE P H T k 156 a := by
  unfold D156
  split
  · exact (r156 ..).symm
  · rfl
theorem t156 (k : Nat) (x0 : SVal) (x1 : SVal) : T (k + 1) 156 [x0, x1] = R156 (T k) k x0 x1 := (by kernel_rfl : T (k + 1) 156 [x0, x1] = bodyE P H (T k) k 156 [x0, x1]).trans (r156 ..)
/-- limelight/render.Is$1 -/
def R157 (T : Nat → List SVal → Option Res) (k : Nat) (x0 : SVal) (x1a : SVal) (x1b : SVal) (x1c : SVal) (x1d : SVal) (x1e : SVal) : Option Res :=
  (T 158 [(.agg [(weak x1a), (weak x1b), (weak x1c), (weak x1d), (weak x1e)]), x0]).bind fun r1 =>
  (sNot r1.r).bind fun r2 =>
  some { r := r2 }
theorem r157 (T : Nat → List SVal → Option Res) (k : Nat) (x0 : SVal) (x1a : SVal) (x1b : SVal) (x1c : SVal) (x1d : SVal) (x1e : SVal) : bodyE P H T k 157 [x0, (.rp [x1a, x1b, x1c, x1d, x1e])] = R157 T k x0 x1a x1b x1c x1d x1e := by kernel_rfl
noncomputable def D157 (T : Nat → List SVal → Option Res) (k : Nat) : List SVal → Option Res
  | [x0, (.rp [x1a, x1b, x1c, x1d, x1e])] => R157 T k x0 x1a x1b x1c x1d x1e
  | a => bodyE P H T k 157 a
theorem d157 (T : Nat → List SVal → Option Res) (k : Nat) (a : List SVal) : D157 T k a = bodyE P H T k 157 a := by
  unfold D157
  split
  · exact (r157 ..).symm
  · rfl
theorem t157 (k : Nat) (x0 : SVal) (x1a : SVal) (x1b : SVal) (x1c : SVal) (x1d : SVal) (x1e : SVal) : T (k + 1) 157 [x0, (.rp [x1a, x1b, x1c, x1d, x1e])] = R157 (T k) k x0 x1a x1b x1c x1d x1e := (by kernel_rfl : T (k + 1) 157 [x0, (.rp [x1a, x1b, x1c, x1d, x1e])] = bodyE P H (T k) k 157 [x0, (.rp [x1a, x1b, x1c, x1d, x1e])]).trans (r157 ..)
/-- limelight/render.own -/
def R158 (T : Nat → List SVal → Option Res) (k : Nat) (x0a : SVal) (x0b : SVal) (x0c : SVal) (x0d : SVal) (x0e : SVal) (x1 : SVal) : Option Res :=
  if (oneS x1) = true then
  (T 106 [(weak x0a), x1, (.int .i64 2)]).bind fun r1 =>
  pickC r1.r
  (some { r := (.bool false) })
  (((T 63 [(weak x0b), x1]).bind fun r2 =>
    guardX r2.r false
    ((T 63 [(weak x0c), x1]).bind fun r3 =>
     (asB r3.r).bind fun b4 =>
     some [b4])
    (some [true])
    (none)).bind fun vs5 =>
   pickC (.bool (vs5.getD 0 false))
   (some { r := (.bool true) })
   (((sIdx true 7 x0a x1).bind fun e6 =>
     (sBin .eql (SVal.cell e6 0) (.int .i64 1)).bind fun r7 =>
     guardX r7 true
     ((sIdx true 7 x0a x1).bind fun e8 =>
      (sBin .eql (SVal.cell e8 1) (.int .i64 2)).bind fun r9 =>
      (asB r9).bind fun b10 =>
      some [b10])
     (some [false])
     (none)).bind fun vs11 =>
    pickC (.bool (vs11.getD 0 false))
    (some { r := (.bool false) })
    (((T 106 [(weak x0a), x1, (.int .i64 6)]).bind fun r12 =>
      (sNot r12.r).bind fun r13 =>
      guardX r13 false
      ((T 181 [(weak x0d), (.fn 180 [(.rp [x1])])]).bind fun r14 =>
       (asB r14.r).bind fun b15 =>
       some [b15])
      (some [true])
      (none)).bind fun vs16 =>
     some { r := (.bool (vs16.getD 0 false)) })))
  else none
theorem r158 (T : Nat → List SVal → Option Res) (k : Nat) (x0a : SVal) (x0b : SVal) (x0c : SVal) (x0d : SVal) (x0e : SVal) (x1 : SVal) : bodyE P H T k 158 [(.agg [x0a, x0b, x0c, x0d, x0e]), x1] = R158 T k x0a x0b x0c x0d x0e x1 := by kernel_rfl
noncomputable def D158 (T : Nat → List SVal → Option Res) (k : Nat) : List SVal → Option Res
  | [(.agg [x0a, x0b, x0c, x0d, x0e]), x1] => R158 T k x0a x0b x0c x0d x0e x1
  | a => bodyE P H T k 158 a
theorem d158 (T : Nat → List SVal → Option Res) (k : Nat) (a : List SVal) : D158 T k a = bodyE P H T k 158 a := by
  unfold D158
  split
  · exact (r158 ..).symm
  · rfl
theorem t158 (k : Nat) (x0a : SVal) (x0b : SVal) (x0c : SVal) (x0d : SVal) (x0e : SVal) (x1 : SVal) : T (k + 1) 158 [(.agg [x0a, x0b, x0c, x0d, x0e]), x1] = R158 (T k) k x0a x0b x0c x0d x0e x1 := (by kernel_rfl : T (k + 1) 158 [(.agg [x0a, x0b, x0c, x0d, x0e]), x1] = bodyE P H (T k) k 158 [(.agg [x0a, x0b, x0c, x0d, x0e]), x1]).trans (r158 ..)
/-- limelight/inert.may -/
def R159 (T : Nat → List SVal → Option Res) (k : Nat) (x0a : SVal) (x0b : SVal) (x0c : SVal) (x0d : SVal) (x0e : SVal) (x1 : SVal) : Option Res :=
  ((T 71 [(.agg [(weak x0a), (weak x0b), (weak x0c), (weak x0d), (weak x0e)])]).bind fun r1 =>
   (sBin .eql r1.r (.int .i64 0)).bind fun r2 =>
   guardX r2 true
   ((sBin .geq x1 (.int .i64 0)).bind fun r3 =>
    guardX r3 true
    ((sLen x0a).bind fun r4 =>
     (sBin .lss x1 r4).bind fun r5 =>
     (asB r5).bind fun b6 =>
     some [b6])
    (some [false])
    (none))
   (some [false])
   (none)).bind fun vs7 =>
  some { r := (.bool (vs7.getD 0 false)) }
theorem r159 (T : Nat → List SVal → Option Res) (k : Nat) (x0a : SVal) (x0b : SVal) (x0c : SVal) (x0d : SVal) (x0e : SVal) (x1 : SVal) : bodyE P H T k 159 [(.agg [x0a, x0b, x0c, x0d, x0e]), x1] = R159 T k x0a x0b x0c x0d x0e x1 := by kernel_rfl
noncomputable def D159 (T : Nat → List SVal → Option Res) (k : Nat) : List SVal → Option Res
  | [(.agg [x0a, x0b, x0c, x0d, x0e]), x1] => R159 T k x0a x0b x0c x0d x0e x1
  | a => bodyE P H T k 159 a
theorem d159 (T : Nat → List SVal → Option Res) (k : Nat) (a : List SVal) : D159 T k a = bodyE P H T k 159 a := by
  unfold D159
  split
  · exact (r159 ..).symm
  · rfl
theorem t159 (k : Nat) (x0a : SVal) (x0b : SVal) (x0c : SVal) (x0d : SVal) (x0e : SVal) (x1 : SVal) : T (k + 1) 159 [(.agg [x0a, x0b, x0c, x0d, x0e]), x1] = R159 (T k) k x0a x0b x0c x0d x0e x1 := (by kernel_rfl : T (k + 1) 159 [(.agg [x0a, x0b, x0c, x0d, x0e]), x1] = bodyE P H (T k) k 159 [(.agg [x0a, x0b, x0c, x0d, x0e]), x1]).trans (r159 ..)
/-- limelight/inert.Blocked -/
def R160 (T : Nat → List SVal → Option Res) (k : Nat) (x0a : SVal) (x0b : SVal) (x0c : SVal) (x0d : SVal) (x0e : SVal) (x1 : SVal) : Option Res :=
  ((T 159 [(.agg [(weak x0a), (weak x0b), (weak x0c), (weak x0d), (weak x0e)]), x1]).bind fun r1 =>
   (sNot r1.r).bind fun r2 =>
   guardX r2 false
   ((sBin .eql x1 (.int .i64 0)).bind fun r3 =>
    (asB r3).bind fun b4 =>
    some [b4])
   (some [true])
   (none)).bind fun vs5 =>
  pickC (.bool (vs5.getD 0 false))
  (some { r := (.bool false) })
  ((T 182 [(.agg [(weak x0a), (weak x0b), (weak x0c), (weak x0d), (weak x0e)])]).bind fun r6 =>
   ((sBin .neq r6.r (.int .i64 (-1))).bind fun r7 =>
    guardX r7 true
    ((T 59 [(weak x0a), r6.r, x1]).bind fun r8 =>
     (sNot r8.r).bind fun r9 =>
     (asB r9).bind fun b10 =>
     some [b10])
    (some [false])
    (none)).bind fun vs11 =>
   some { r := (.bool (vs11.getD 0 false)) })
theorem r160 (T : Nat → List SVal → Option Res) (k : Nat) (x0a : SVal) (x0b : SVal) (x0c : SVal) (x0d : SVal) (x0e : SVal) (x1 : SVal) : bodyE P H T k 160 [(.agg [x0a, x0b, x0c, x0d, x0e]), x1] = R160 T k x0a x0b x0c x0d x0e x1 := by kernel_rfl
noncomputable def D160 (T : Nat → List SVal → Option Res) (k : Nat) : List SVal → Option Res
  | [(.agg [x0a, x0b, x0c, x0d, x0e]), x1] => R160 T k x0a x0b x0c x0d x0e x1
  | a => bodyE P H T k 160 a
theorem d160 (T : Nat → List SVal → Option Res) (k : Nat) (a : List SVal) : D160 T k a = bodyE P H T k 160 a := by
  unfold D160
  split
  · exact (r160 ..).symm
  · rfl
theorem t160 (k : Nat) (x0a : SVal) (x0b : SVal) (x0c : SVal) (x0d : SVal) (x0e : SVal) (x1 : SVal) : T (k + 1) 160 [(.agg [x0a, x0b, x0c, x0d, x0e]), x1] = R160 (T k) k x0a x0b x0c x0d x0e x1 := (by kernel_rfl : T (k + 1) 160 [(.agg [x0a, x0b, x0c, x0d, x0e]), x1] = bodyE P H (T k) k 160 [(.agg [x0a, x0b, x0c, x0d, x0e]), x1]).trans (r160 ..)
/-- limelight/inert.marked -/
def R161 (T : Nat → List SVal → Option Res) (k : Nat) (x0a : SVal) (x0b : SVal) (x0c : SVal) (x0d : SVal) (x0e : SVal) (x1 : SVal) : Option Res :=
  (T 182 [(.agg [(weak x0a), (weak x0b), (weak x0c), (weak x0d), (weak x0e)])]).bind fun r1 =>
  (T 94 [(weak x0a), x1]).bind fun r2 =>
  (sLen r2.r).bind fun r3 =>
  loopN (fun s4 next4 =>
   (sBin .lss s4.k5 s4.k4).bind fun r5 =>
   pickC r5
   ((sIdx false 1 s4.k3 s4.k5).bind fun e6 =>
    (T 106 [(weak (SVal.cell s4.k0 0)), e6, (.int .i64 3)]).bind fun r7 =>
    (guardX r7.r false
     ((sBin .eql e6 s4.k1).bind fun r8 =>
      (asB r8).bind fun b9 =>
      some [b9])
     (some [true])
     (none)).bind fun vs10 =>
    pickC (.bool (vs10.getD 0 false))
    (some { r := r7.r })
    ((sBin .add s4.k5 (.int .i64 1)).bind fun r11 =>
     next4 ⟨[(.rp [(SVal.cell s4.k0 0), (SVal.cell s4.k0 1), (SVal.cell s4.k0 2), (SVal.cell s4.k0 3), (SVal.cell s4.k0 4)]), s4.k1, r7.r, (weak s4.k3), s4.k4, r11], [], false⟩))
   (some { r := s4.k2 })) k ⟨[(.rp [x0a, x0b, x0c, x0d, x0e]), r1.r, (.bool false), (weak r2.r), r3, (.int .i64 0)], [], false⟩
theorem r161 (T : Nat → List SVal → Option Res) (k : Nat) (x0a : SVal) (x0b : SVal) (x0c : SVal) (x0d : SVal) (x0e : SVal) (x1 : SVal) : bodyE P H T k 161 [(.agg [x0a, x0b, x0c, x0d, x0e]), x1] = R161 T k x0a x0b x0c x0d x0e x1 := by kernel_rfl
noncomputable def D161 (T : Nat → List SVal → Option Res) (k : Nat) : List SVal → Option Res
  | [(.agg [x0a, x0b, x0c, x0d, x0e]), x1] => R161 T k x0a x0b x0c x0d x0e x1
  | a => bodyE P H T k 161 a
theorem d161 (T : Nat → List SVal → Option Res) (k : Nat) (a : List SVal) : D161 T k a = bodyE P H T k 161 a := by
  unfold D161
  split
  · exact (r161 ..).symm
  · rfl
theorem t161 (k : Nat) (x0a : SVal) (x0b : SVal) (x0c : SVal) (x0d : SVal) (x0e : SVal) (x1 : SVal) : T (k + 1) 161 [(.agg [x0a, x0b, x0c, x0d, x0e]), x1] = R161 (T k) k x0a x0b x0c x0d x0e x1 := (by kernel_rfl : T (k + 1) 161 [(.agg [x0a, x0b, x0c, x0d, x0e]), x1] = bodyE P H (T k) k 161 [(.agg [x0a, x0b, x0c, x0d, x0e]), x1]).trans (r161 ..)
/-- limelight/limelightref04.Up -/
def R162 (T : Nat → List SVal → Option Res) (k : Nat) (x0 : SVal) (x1 : SVal) : Option Res :=
  loopN (fun s1 next1 =>
   (sBin .neq s1.k1 (.int .i64 (-1))).bind fun r2 =>
   pickC r2
   (if (List.all [[.v s1.k1]] allOne) = true then
    if (s1.k2.xs.length + ([s1.k1] : List SVal).length) * 8 ≤ maxAppend then
    (T 111 [(weak s1.k0), s1.k1]).bind fun r3 =>
    next1 ⟨[(weak s1.k0), r3.r, (.sl 1 true false (s1.k2.xs ++ ([s1.k1] : List SVal)))], [], false⟩
    else none
    else none)
   (some { r := (.sl 1 false false s1.k2.xs) })) k ⟨[(weak x0), x1, (.sl 1 true false [])], [], false⟩
theorem r162 (T : Nat → List SVal → Option Res) (k : Nat) (x0 : SVal) (x1 : SVal) : bodyE P H T k 162 [x0, x1] = R162 T k x0 x1 := by kernel_rfl
noncomputable def D162 (T : Nat → List SVal → Option Res) (k : Nat) : List SVal → Option Res
  | [x0, x1] => R162 T k x0 x1
  | a => bodyE P H T k 162 a
theorem d162 (T : Nat → List SVal → Option Res) (k : Nat) (a : List SVal) : D162 T k a = bodyE P H T k 162 a := by
  unfold D162
  split
  · exact (r162 ..).symm
  · rfl
theorem t162 (k : Nat) (x0 : SVal) (x1 : SVal) : T (k + 1) 162 [x0, x1] = R162 (T k) k x0 x1 := (by kernel_rfl : T (k + 1) 162 [x0, x1] = bodyE P H (T k) k 162 [x0, x1]).trans (r162 ..)
/-- limelight/order.all -/
def R163 (T : Nat → List SVal → Option Res) (k : Nat) (x0 : SVal) (x1 : SVal) : Option Res :=
  if (oneS x0) = true then
  ((T 98 [(weak x0)]).bind fun r1 =>
   (sBin .eql r1.r (.int .i64 0)).bind fun r2 =>
   guardX r2 true
   ((T 156 [(weak x1), (.fn 183 [(.rp [x0])])]).bind fun r3 =>
    (sNot r3.r).bind fun r4 =>
    (asB r4).bind fun b5 =>
    some [b5])
   (some [false])
   (none)).bind fun vs6 =>
  some { r := (.bool (vs6.getD 0 false)) }
  else none
theorem r163 (T : Nat → List SVal → Option Res) (k : Nat) (x0 : SVal) (x1 : SVal) : bodyE P H T k 163 [x0, x1] = R163 T k x0 x1 := by kernel_rfl
noncomputable def D163 (T : Nat → List SVal → Option Res) (k : Nat) : List SVal → Option Res
  | [x0, x1] => R163 T k x0 x1
  | a => bodyE P H T k 163 a
theorem d163 (T : Nat → List SVal → Option Res) (k : Nat) (a : List SVal) : D163 T k a = bodyE P H T k 163 a := by
  unfold D163
  split
  · exact (r163 ..).symm
  · rfl
theorem t163 (k : Nat) (x0 : SVal) (x1 : SVal) : T (k + 1) 163 [x0, x1] = R163 (T k) k x0 x1 := (by kernel_rfl : T (k + 1) 163 [x0, x1] = bodyE P H (T k) k 163 [x0, x1]).trans (r163 ..)
/-- limelight/order.up -/
def R164 (T : Nat → List SVal → Option Res) (k : Nat) (x0 : SVal) (x1 : SVal) : Option Res :=
  if (oneS x0) = true then
  if (oneS x1) = true then
  some { r := (.fn 184 [(.mb [x1]), (.rp [x0])]) }
  else none
  else none
theorem r164 (T : Nat → List SVal → Option Res) (k : Nat) (x0 : SVal) (x1 : SVal) : bodyE P H T k 164 [x0, x1] = R164 T k x0 x1 := by kernel_rfl
noncomputable def D164 (T : Nat → List SVal → Option Res) (k : Nat) : List SVal → Option Res
  | [x0, x1] => R164 T k x0 x1
  | a => bodyE P H T k 164 a
theorem d164 (T : Nat → List SVal → Option Res) (k : Nat) (a : List SVal) : D164 T k a = bodyE P H T k 164 a := by
  unfold D164
  split
  · exact (r164 ..).symm
  · rfl
theorem t164 (k : Nat) (x0 : SVal) (x1 : SVal) : T (k + 1) 164 [x0, x1] = R164 (T k) k x0 x1 := (by kernel_rfl : T (k + 1) 164 [x0, x1] = bodyE P H (T k) k 164 [x0, x1]).trans (r164 ..)
/-- limelight/flat.over -/
def R165 (T : Nat → List SVal → Option Res) (k : Nat) (x0 : SVal) (x1 : SVal) : Option Res :=
  (sIdx true 7 x0 x1).bind fun e1 =>
  (sBin .eql (SVal.cell e1 2) (.int .i64 (-1))).bind fun r2 =>
  pickC r2
  (some { r := (.int .i64 (-1)) })
  ((sIdx true 7 x0 (SVal.cell e1 2)).bind fun e3 =>
   (sBin .eql (SVal.cell e3 0) (.int .i64 3)).bind fun r4 =>
   pickC r4
   ((T 185 [(weak x0), x1]).bind fun r5 =>
    some { r := r5.r })
   ((sIdx true 7 x0 (SVal.cell e1 2)).bind fun e6 =>
    (sBin .neq (SVal.cell e6 5) (.int .i64 (-1))).bind fun r7 =>
    pickC r7
    ((T 186 [(weak x0), x1]).bind fun r8 =>
     some { r := r8.r })
    (some { r := (SVal.cell e1 2) })))
theorem r165 (T : Nat → List SVal → Option Res) (k : Nat) (x0 : SVal) (x1 : SVal) : bodyE P H T k 165 [x0, x1] = R165 T k x0 x1 := by kernel_rfl
noncomputable def D165 (T : Nat → List SVal → Option Res) (k : Nat) : List SVal → Option Res
  | [x0, x1] => R165 T k x0 x1
  | a => bodyE P H T k 165 a
theorem d165 (T : Nat → List SVal → Option Res) (k : Nat) (a : List SVal) : D165 T k a = bodyE P H T k 165 a := by
  unfold D165
  split
  · exact (r165 ..).symm
  · rfl
theorem t165 (k : Nat) (x0 : SVal) (x1 : SVal) : T (k + 1) 165 [x0, x1] = R165 (T k) k x0 x1 := (by kernel_rfl : T (k + 1) 165 [x0, x1] = bodyE P H (T k) k 165 [x0, x1]).trans (r165 ..)
/-- limelight/flat.kids -/
def R166 (T : Nat → List SVal → Option Res) (k : Nat) (x0 : SVal) (x1 : SVal) : Option Res :=
  (sIdx true 7 x0 x1).bind fun e1 =>
  if (allOne [.v (SVal.cell e1 0), .v (SVal.cell e1 1), .v (SVal.cell e1 2), .v (SVal.cell e1 3), .v (SVal.cell e1 4), .v (SVal.cell e1 5), .v (SVal.cell e1 6)]) = true then
  (sBin .eql (SVal.cell e1 0) (.int .i64 3)).bind fun r2 =>
  pickC r2
  (some { r := (.sl 1 false false []) })
  ((sBin .neq (SVal.cell e1 5) (.int .i64 (-1))).bind fun r3 =>
   pickC r3
   ((sIdx true 7 x0 (SVal.cell e1 5)).bind fun e4 =>
    some { r := (weak (SVal.cell e4 3)) })
   ((T 187 [(weak x0), x1]).bind fun r5 =>
    (sLen r5.r).bind fun r6 =>
    (sBin .gtr r6 (.int .i64 0)).bind fun r7 =>
    pickC r7
    (some { r := (weak r5.r) })
    (some { r := (weak (SVal.cell e1 3)) })))
  else none
theorem r166 (T : Nat → List SVal → Option Res) (k : Nat) (x0 : SVal) (x1 : SVal) : bodyE P H T k 166 [x0, x1] = R166 T k x0 x1 := by kernel_rfl
noncomputable def D166 (T : Nat → List SVal → Option Res) (k : Nat) : List SVal → Option Res
  | [x0, x1] => R166 T k x0 x1
  | a => bodyE P H T k 166 a
theorem d166 (T : Nat → List SVal → Option Res) (k : Nat) (a : List SVal) : D166 T k a = bodyE P H T k 166 a := by
  unfold D166
  split
  · exact (r166 ..).symm
  · rfl
theorem t166 (k : Nat) (x0 : SVal) (x1 : SVal) : T (k + 1) 166 [x0, x1] = R166 (T k) k x0 x1 := (by kernel_rfl : T (k + 1) 166 [x0, x1] = bodyE P H (T k) k 166 [x0, x1]).trans (r166 ..)
/-- limelight/limelightref05.Is -/
def R167 (T : Nat → List SVal → Option Res) (k : Nat) (x0 : SVal) (x1 : SVal) : Option Res :=
  ((sIdx true 7 x0 x1).bind fun e1 =>
   (sBin .eql (SVal.cell e1 0) (.int .i64 1)).bind fun r2 =>
   guardX r2 true
   ((sIdx true 7 x0 x1).bind fun e3 =>
    (sBin .eql (SVal.cell e3 1) (.int .i64 3)).bind fun r4 =>
    guardX r4 true
    ((T 168 [(weak x0), x1]).bind fun r5 =>
     (sIdx true 7 x0 r5.r).bind fun e6 =>
     (sBin .eql (SVal.cell e6 0) (.int .i64 3)).bind fun r7 =>
     (asB r7).bind fun b8 =>
     some [b8])
    (some [false])
    (none))
   (some [false])
   (none)).bind fun vs9 =>
  some { r := (.bool (vs9.getD 0 false)) }
theorem r167 (T : Nat → List SVal → Option Res) (k : Nat) (x0 : SVal) (x1 : SVal) : bodyE P H T k 167 [x0, x1] = R167 T k x0 x1 := by kernel_rfl
noncomputable def D167 (T : Nat → List SVal → Option Res) (k : Nat) : List SVal → Option Res
  | [x0, x1] => R167 T k x0 x1
  | a => bodyE P H T k 167 a
theorem d167 (T : Nat → List SVal → Option Res) (k : Nat) (a : List SVal) : D167 T k a = bodyE P H T k 167 a := by
  unfold D167
  split
  · exact (r167 ..).symm
  · rfl
theorem t167 (k : Nat) (x0 : SVal) (x1 : SVal) : T (k + 1) 167 [x0, x1] = R167 (T k) k x0 x1 := (by kernel_rfl : T (k + 1) 167 [x0, x1] = bodyE P H (T k) k 167 [x0, x1]).trans (r167 ..)
/-- limelight/limelightref03.Top -/
def R168 (T : Nat → List SVal → Option Res) (k : Nat) (x0 : SVal) (x1 : SVal) : Option Res :=
  (T 188 [(weak x0), x1]).bind fun r1 =>
  (sLen r1.r).bind fun r2 =>
  (sBin .sub r2 (.int .i64 1)).bind fun r3 =>
  (sIdx false 1 r1.r r3).bind fun e4 =>
  some { r := e4 }
theorem r168 (T : Nat → List SVal → Option Res) (k : Nat) (x0 : SVal) (x1 : SVal) : bodyE P H T k 168 [x0, x1] = R168 T k x0 x1 := by kernel_rfl
noncomputable def D168 (T : Nat → List SVal → Option Res) (k : Nat) : List SVal → Option Res
  | [x0, x1] => R168 T k x0 x1
  | a => bodyE P H T k 168 a
theorem d168 (T : Nat → List SVal → Option Res) (k : Nat) (a : List SVal) : D168 T k a = bodyE P H T k 168 a := by
  unfold D168
  split
  · exact (r168 ..).symm
  · rfl
theorem t168 (k : Nat) (x0 : SVal) (x1 : SVal) : T (k + 1) 168 [x0, x1] = R168 (T k) k x0 x1 := (by kernel_rfl : T (k + 1) 168 [x0, x1] = bodyE P H (T k) k 168 [x0, x1]).trans (r168 ..)
/-- limelight/limelightref05.Of -/
def R169 (T : Nat → List SVal → Option Res) (k : Nat) (x0 : SVal) (x1 : SVal) : Option Res :=
  (sIdx true 7 x0 x1).bind fun e1 =>
  (sBin .eql (SVal.cell e1 2) (.int .i64 (-1))).bind fun r2 =>
  pickC r2
  (some { r := (.int .i64 (-1)) })
  ((sIdx true 7 x0 (SVal.cell e1 2)).bind fun e3 =>
   (sBin .eql (SVal.cell e3 5) (.int .i64 (-1))).bind fun r4 =>
   pickC r4
   (some { r := (.int .i64 (-1)) })
   ((T 189 [(weak x0), (SVal.cell e3 5)]).bind fun r5 =>
    (T 75 [(weak x0), (SVal.cell e3 5), (.int .i64 8)]).bind fun r6 =>
    pickC r6.r
    ((T 66 [(weak x0), x1, (.int .i64 9)]).bind fun r7 =>
     (guardX r7.r.c1 true
      ((T 30 [(weak r5.r), r7.r.c0]).bind fun r8 =>
       if isSc1 r8.r = true then
       (asB r8.r).bind fun b9 =>
       some [b9]
       else none)
      (some [false])
      (none)).bind fun vs10 =>
     pickC (.bool (vs10.getD 0 false))
     (some { r := r7.r.c0 })
     (some { r := (.int .i64 (-1)) }))
    (loopN (fun s11 next11 =>
      (sLen s11.k2).bind fun r12 =>
      (sBin .lss s11.k3 r12).bind fun r13 =>
      pickC r13
      ((sIdx false 1 s11.k2 s11.k3).bind fun e14 =>
       (T 190 [(weak s11.k0), e14]).bind fun r15 =>
       (T 190 [(weak s11.k0), s11.k1]).bind fun r16 =>
       (sBin .eql r15.r r16.r).bind fun r17 =>
       pickC r17
       ((sIdx false 1 s11.k2 s11.k3).bind fun e18 =>
        some { r := e18 })
       ((sBin .add s11.k3 (.int .i64 1)).bind fun r19 =>
        next11 ⟨[(weak s11.k0), s11.k1, (weak s11.k2), r19], [], false⟩))
      (some { r := (.int .i64 (-1)) })) k ⟨[(weak x0), x1, (weak r5.r), (.int .i64 0)], [], false⟩)))
theorem r169 (T : Nat → List SVal → Option Res) (k : Nat) (x0 : SVal) (x1 : SVal) : bodyE P H T k 169 [x0, x1] = R169 T k x0 x1 := by kernel_rfl
noncomputable def D169 (T : Nat → List SVal → Option Res) (k : Nat) : List SVal → Option Res
  | [x0, x1] => R169 T k x0 x1
  | a => bodyE P H T k 169 a
theorem d169 (T : Nat → List SVal → Option Res) (k : Nat) (a : List SVal) : D169 T k a = bodyE P H T k 169 a := by
  unfold D169
  split
  · exact (r169 ..).symm
  · rfl
theorem t169 (k : Nat) (x0 : SVal) (x1 : SVal) : T (k + 1) 169 [x0, x1] = R169 (T k) k x0 x1 := (by kernel_rfl : T (k + 1) 169 [x0, x1] = bodyE P H (T k) k 169 [x0, x1]).trans (r169 ..)
/-- limelight/tree.is -/
def R170 (T : Nat → List SVal → Option Res) (k : Nat) (x0 : SVal) (x1 : SVal) : Option Res :=
  (sLen x0).bind fun r1 =>
  (sBin .sub r1 (.int .i64 1)).bind fun r2 =>
  (T 143 [x1, (.int .i64 0), r2]).bind fun r3 =>
  some { r := r3.r }
theorem r170 (T : Nat → List SVal → Option Res) (k : Nat) (x0 : SVal) (x1 : SVal) : bodyE P H T k 170 [x0, x1] = R170 T k x0 x1 := by kernel_rfl
noncomputable def D170 (T : Nat → List SVal → Option Res) (k : Nat) : List SVal → Option Res
  | [x0, x1] => R170 T k x0 x1
  | a => bodyE P H T k 170 a
theorem d170 (T : Nat → List SVal → Option Res) (k : Nat) (a : List SVal) : D170 T k a = bodyE P H T k 170 a := by
  unfold D170
  split
  · exact (r170 ..).symm
  · rfl
theorem t170 (k : Nat) (x0 : SVal) (x1 : SVal) : T (k + 1) 170 [x0, x1] = R170 (T k) k x0 x1 := (by kernel_rfl : T (k + 1) 170 [x0, x1] = bodyE P H (T k) k 170 [x0, x1]).trans (r170 ..)
/-- limelight/tree.once -/
def R171 (T : Nat → List SVal → Option Res) (k : Nat) (x0 : SVal) (x1 : SVal) : Option Res :=
  (T 96 [(weak x0), x1]).bind fun r1 =>
  ((sBin .geq r1.r (.int .i64 0)).bind fun r2 =>
   guardX r2 true
   ((sBin .add r1.r (.int .i64 1)).bind fun r3 =>
    (sSlice 1 x0 (some r3) none).bind fun r4 =>
    (T 63 [(weak r4), x1]).bind fun r5 =>
    (sNot r5.r).bind fun r6 =>
    (asB r6).bind fun b7 =>
    some [b7])
   (some [false])
   (none)).bind fun vs8 =>
  some { r := (.bool (vs8.getD 0 false)) }
theorem r171 (T : Nat → List SVal → Option Res) (k : Nat) (x0 : SVal) (x1 : SVal) : bodyE P H T k 171 [x0, x1] = R171 T k x0 x1 := by kernel_rfl
noncomputable def D171 (T : Nat → List SVal → Option Res) (k : Nat) : List SVal → Option Res
  | [x0, x1] => R171 T k x0 x1
  | a => bodyE P H T k 171 a
theorem d171 (T : Nat → List SVal → Option Res) (k : Nat) (a : List SVal) : D171 T k a = bodyE P H T k 171 a := by
  unfold D171
  split
  · exact (r171 ..).symm
  · rfl
theorem t171 (k : Nat) (x0 : SVal) (x1 : SVal) : T (k + 1) 171 [x0, x1] = R171 (T k) k x0 x1 := (by kernel_rfl : T (k + 1) 171 [x0, x1] = bodyE P H (T k) k 171 [x0, x1]).trans (r171 ..)
/-- limelight/tree.attrs -/
def R172 (T : Nat → List SVal → Option Res) (k : Nat) (x0a : SVal) (x0b : SVal) (x0c : SVal) (x0d : SVal) (x0e : SVal) (x0f : SVal) (x0g : SVal) : Option Res :=
  (sLen x0g).bind fun r1 =>
  loopN (fun s2 next2 =>
   (sBin .lss s2.k4 s2.k3).bind fun r3 =>
   pickC r3
   ((sIdx true 2 s2.k2 s2.k4).bind fun e4 =>
    if (allOne [.v (SVal.cell e4 0), .v (SVal.cell e4 1)]) = true then
    ((sBin .eql (SVal.cell e4 0) (.int .i64 7)).bind fun r5 =>
     guardX r5 false
     ((sBin .eql (SVal.cell e4 0) (.int .i64 8)).bind fun r6 =>
      (asB r6).bind fun b7 =>
      some [b7])
     (some [true])
     (none)).bind fun vs8 =>
    ((sBin .leq (SVal.cell e4 0) s2.k1).bind fun r9 =>
     guardX r9 false
     ((sBin .geq (SVal.cell e4 0) (.int .i64 10)).bind fun r10 =>
      guardX r10 false
      ((T 191 [(.agg [(SVal.cell e4 0), (SVal.cell e4 1)])]).bind fun r11 =>
       (sNot r11.r).bind fun r12 =>
       guardX r12 false
       ((sBin .eql (SVal.cell s2.k0 0) (.int .i64 3)).bind fun r13 =>
        (sBinB .neq (.bool (vs8.getD 0 false)) r13).bind fun r14 =>
        (asB r14).bind fun b15 =>
        some [b15])
       (some [true])
       (none))
      (some [true])
      (none))
     (some [true])
     (none)).bind fun vs16 =>
    pickC (.bool (vs16.getD 0 false))
    (some { r := (.bool false) })
    ((sBin .add s2.k4 (.int .i64 1)).bind fun r17 =>
     next2 ⟨[(.rp [(SVal.cell s2.k0 0), (SVal.cell s2.k0 1), (SVal.cell s2.k0 2), (SVal.cell s2.k0 3), (SVal.cell s2.k0 4), (SVal.cell s2.k0 5), (SVal.cell s2.k0 6)]), (SVal.cell e4 0), (weak s2.k2), s2.k3, r17], [], false⟩)
    else none)
   (((sLen (SVal.cell s2.k0 6)).bind fun r18 =>
     (sBin .eql r18 (.int .i64 0)).bind fun r19 =>
     guardX r19 false
     ((sBin .eql (SVal.cell s2.k0 0) (.int .i64 1)).bind fun r20 =>
      guardX r20 false
      ((sBin .eql (SVal.cell s2.k0 0) (.int .i64 3)).bind fun r21 =>
       (asB r21).bind fun b22 =>
       some [b22])
      (some [true])
      (none))
     (some [true])
     (none)).bind fun vs23 =>
    some { r := (.bool (vs23.getD 0 false)) })) k ⟨[(.rp [x0a, x0b, x0c, x0d, x0e, x0f, x0g]), (.int .i64 (-1)), (weak x0g), r1, (.int .i64 0)], [], false⟩
theorem r172 (T : Nat → List SVal → Option Res) (k : Nat) (x0a : SVal) (x0b : SVal) (x0c : SVal) (x0d : SVal) (x0e : SVal) (x0f : SVal) (x0g : SVal) : bodyE P H T k 172 [(.agg [x0a, x0b, x0c, x0d, x0e, x0f, x0g])] = R172 T k x0a x0b x0c x0d x0e x0f x0g := by kernel_rfl
noncomputable def D172 (T : Nat → List SVal → Option Res) (k : Nat) : List SVal → Option Res
  | [(.agg [x0a, x0b, x0c, x0d, x0e, x0f, x0g])] => R172 T k x0a x0b x0c x0d x0e x0f x0g
  | a => bodyE P H T k 172 a
theorem d172 (T : Nat → List SVal → Option Res) (k : Nat) (a : List SVal) : D172 T k a = bodyE P H T k 172 a := by
  unfold D172
  split
  · exact (r172 ..).symm
  · rfl
theorem t172 (k : Nat) (x0a : SVal) (x0b : SVal) (x0c : SVal) (x0d : SVal) (x0e : SVal) (x0f : SVal) (x0g : SVal) : T (k + 1) 172 [(.agg [x0a, x0b, x0c, x0d, x0e, x0f, x0g])] = R172 (T k) k x0a x0b x0c x0d x0e x0f x0g := (by kernel_rfl : T (k + 1) 172 [(.agg [x0a, x0b, x0c, x0d, x0e, x0f, x0g])] = bodyE P H (T k) k 172 [(.agg [x0a, x0b, x0c, x0d, x0e, x0f, x0g])]).trans (r172 ..)
/-- limelight/tree.shadow -/
def R173 (T : Nat → List SVal → Option Res) (k : Nat) (x0 : SVal) (x1 : SVal) : Option Res :=
  (sIdx true 7 x0 x1).bind fun e1 =>
  if (allOne [.v (SVal.cell e1 0), .v (SVal.cell e1 1), .v (SVal.cell e1 2), .v (SVal.cell e1 3), .v (SVal.cell e1 4), .v (SVal.cell e1 5), .v (SVal.cell e1 6)]) = true then
  (sBin .eql (SVal.cell e1 0) (.int .i64 3)).bind fun r2 =>
  pickC r2
  (((sBin .eql (SVal.cell e1 5) (.int .i64 (-1))).bind fun r3 =>
    guardX r3 true
    ((sBin .eql (SVal.cell e1 2) (.int .i64 (-1))).bind fun r4 =>
     guardX r4 true
     ((T 170 [(weak x0), (SVal.cell e1 4)]).bind fun r5 =>
      guardX r5.r true
      ((sIdx true 7 x0 (SVal.cell e1 4)).bind fun e6 =>
       (sBin .eql (SVal.cell e6 0) (.int .i64 1)).bind fun r7 =>
       guardX r7 true
       ((sIdx true 7 x0 (SVal.cell e1 4)).bind fun e8 =>
        (sBin .eql (SVal.cell e8 5) x1).bind fun r9 =>
        (asB r9).bind fun b10 =>
        some [b10])
       (some [false])
       (none))
      (some [false])
      (none))
     (some [false])
     (none))
    (some [false])
    (none)).bind fun vs11 =>
   some { r := (.bool (vs11.getD 0 false)) })
  ((sBin .neq (SVal.cell e1 4) (.int .i64 (-1))).bind fun r12 =>
   pickC r12
   (some { r := (.bool false) })
   ((sBin .eql (SVal.cell e1 5) (.int .i64 (-1))).bind fun r13 =>
    pickC r13
    (some { r := (.bool true) })
    (((sBin .eql (SVal.cell e1 0) (.int .i64 1)).bind fun r14 =>
      guardX r14 true
      ((T 170 [(weak x0), (SVal.cell e1 5)]).bind fun r15 =>
       guardX r15.r true
       ((sIdx true 7 x0 (SVal.cell e1 5)).bind fun e16 =>
        (sBin .eql (SVal.cell e16 0) (.int .i64 3)).bind fun r17 =>
        guardX r17 true
        ((sIdx true 7 x0 (SVal.cell e1 5)).bind fun e18 =>
         (sBin .eql (SVal.cell e18 4) x1).bind fun r19 =>
         (asB r19).bind fun b20 =>
         some [b20])
        (some [false])
        (none))
       (some [false])
       (none))
      (some [false])
      (none)).bind fun vs21 =>
     some { r := (.bool (vs21.getD 0 false)) })))
  else none
theorem r173 (T : Nat → List SVal → Option Res) (k : Nat) (x0 : SVal) (x1 : SVal) : bodyE P H T k 173 [x0, x1] = R173 T k x0 x1 := by kernel_rfl
noncomputable def D173 (T : Nat → List SVal → Option Res) (k : Nat) : List SVal → Option Res
  | [x0, x1] => R173 T k x0 x1
  | a => bodyE P H T k 173 a
theorem d173 (T : Nat → List SVal → Option Res) (k : Nat) (a : List SVal) : D173 T k a = bodyE P H T k 173 a := by
  unfold D173
  split
  · exact (r173 ..).symm
  · rfl
theorem t173 (k : Nat) (x0 : SVal) (x1 : SVal) : T (k + 1) 173 [x0, x1] = R173 (T k) k x0 x1 := (by kernel_rfl : T (k + 1) 173 [x0, x1] = bodyE P H (T k) k 173 [x0, x1]).trans (r173 ..)
/-- limelight/tree.node$1 -/
def R174 (T : Nat → List SVal → Option Res) (k : Nat) (x0 : SVal) (x1 : SVal) (x2 : SVal) : Option Res :=
  (T 175 [(weak x1), x2, x0]).bind fun r1 =>
  (sNot r1.r).bind fun r2 =>
  some { r := r2 }
theorem r174 (T : Nat → List SVal → Option Res) (k : Nat) (x0 : SVal) (x1 : SVal) (x2 : SVal) : bodyE P H T k 174 [x0, (.rp [x1]), (.rp [x2])] = R174 T k x0 x1 x2 := by kernel_rfl
noncomputable def D174 (T : Nat → List SVal → Option Res) (k : Nat) : List SVal → Option Res
  | [x0, (.rp [x1]), (.rp [x2])] => R174 T k x0 x1 x2
  | a => bodyE P H T k 174 a
theorem d174 (T : Nat → List SVal → Option Res) (k : Nat) (a : List SVal) : D174 T k a = bodyE P H T k 174 a := by
  unfold D174
  split
  · exact (r174 ..).symm
  · rfl
theorem t174 (k : Nat) (x0 : SVal) (x1 : SVal) (x2 : SVal) : T (k + 1) 174 [x0, (.rp [x1]), (.rp [x2])] = R174 (T k) k x0 x1 x2 := (by kernel_rfl : T (k + 1) 174 [x0, (.rp [x1]), (.rp [x2])] = bodyE P H (T k) k 174 [x0, (.rp [x1]), (.rp [x2])]).trans (r174 ..)
/-- limelight/tree.below -/
def R175 (T : Nat → List SVal → Option Res) (k : Nat) (x0 : SVal) (x1 : SVal) (x2 : SVal) : Option Res :=
  ((T 170 [(weak x0), x2]).bind fun r1 =>
   guardX r1.r true
   ((sIdx true 7 x0 x1).bind fun e2 =>
    (T 171 [(weak (SVal.cell e2 3)), x2]).bind fun r3 =>
    guardX r3.r true
    ((sIdx true 7 x0 x2).bind fun e4 =>
     (sBin .eql (SVal.cell e4 2) x1).bind fun r5 =>
     guardX r5 true
     ((sIdx true 7 x0 x2).bind fun e6 =>
      (sBin .eql (SVal.cell e6 0) (.int .i64 1)).bind fun r7 =>
      guardX r7 false
      ((sIdx true 7 x0 x2).bind fun e8 =>
       (sBin .eql (SVal.cell e8 0) (.int .i64 2)).bind fun r9 =>
       (asB r9).bind fun b10 =>
       some [b10])
      (some [true])
      (none))
     (some [false])
     (none))
    (some [false])
    (none))
   (some [false])
   (none)).bind fun vs11 =>
  some { r := (.bool (vs11.getD 0 false)) }
theorem r175 (T : Nat → List SVal → Option Res) (k : Nat) (x0 : SVal) (x1 : SVal) (x2 : SVal) : bodyE P H T k 175 [x0, x1, x2] = R175 T k x0 x1 x2 := by kernel_rfl
noncomputable def D175 (T : Nat → List SVal → Option Res) (k : Nat) : List SVal → Option Res
  | [x0, x1, x2] => R175 T k x0 x1 x2
  | a => bodyE P H T k 175 a
theorem d175 (T : Nat → List SVal → Option Res) (k : Nat) (a : List SVal) : D175 T k a = bodyE P H T k 175 a := by
  unfold D175
  split
  · exact (r175 ..).symm
  · rfl
theorem t175 (k : Nat) (x0 : SVal) (x1 : SVal) (x2 : SVal) : T (k + 1) 175 [x0, x1, x2] = R175 (T k) k x0 x1 x2 := (by kernel_rfl : T (k + 1) 175 [x0, x1, x2] = bodyE P H (T k) k 175 [x0, x1, x2]).trans (r175 ..)
/-- limelight/tree.up -/
def R176 (T : Nat → List SVal → Option Res) (k : Nat) (x0 : SVal) (x1 : SVal) : Option Res :=
  if (oneS x0) = true then
  if (oneS x1) = true then
  some { r := (.fn 192 [(.rp [x0]), (.mb [x1])]) }
  else none
  else none
theorem r176 (T : Nat → List SVal → Option Res) (k : Nat) (x0 : SVal) (x1 : SVal) : bodyE P H T k 176 [x0, x1] = R176 T k x0 x1 := by kernel_rfl
noncomputable def D176 (T : Nat → List SVal → Option Res) (k : Nat) : List SVal → Option Res
  | [x0, x1] => R176 T k x0 x1
  | a => bodyE P H T k 176 a
theorem d176 (T : Nat → List SVal → Option Res) (k : Nat) (a : List SVal) : D176 T k a = bodyE P H T k 176 a := by
  unfold D176
  split
  · exact (r176 ..).symm
  · rfl
theorem t176 (k : Nat) (x0 : SVal) (x1 : SVal) : T (k + 1) 176 [x0, x1] = R176 (T k) k x0 x1 := (by kernel_rfl : T (k + 1) 176 [x0, x1] = bodyE P H (T k) k 176 [x0, x1]).trans (r176 ..)
/-- limelight/shade.Connected -/
def R177 (T : Nat → List SVal → Option Res) (k : Nat) (x0 : SVal) (x1 : SVal) : Option Res :=
  (T 193 [(weak x0), (.int .i64 0), x1]).bind fun r1 =>
  some { r := r1.r }
theorem r177 (T : Nat → List SVal → Option Res) (k : Nat) (x0 : SVal) (x1 : SVal) : bodyE P H T k 177 [x0, x1] = R177 T k x0 x1 := by kernel_rfl
noncomputable def D177 (T : Nat → List SVal → Option Res) (k : Nat) : List SVal → Option Res
  | [x0, x1] => R177 T k x0 x1
  | a => bodyE P H T k 177 a
theorem d177 (T : Nat → List SVal → Option Res) (k : Nat) (a : List SVal) : D177 T k a = bodyE P H T k 177 a := by
  unfold D177
  split
  · exact (r177 ..).symm
  · rfl
theorem t177 (k : Nat) (x0 : SVal) (x1 : SVal) : T (k + 1) 177 [x0, x1] = R177 (T k) k x0 x1 := (by kernel_rfl : T (k + 1) 177 [x0, x1] = bodyE P H (T k) k 177 [x0, x1]).trans (r177 ..)
/-- limelight/render.own$1 -/
def R180 (T : Nat → List SVal → Option Res) (k : Nat) (x0a : SVal) (x0b : SVal) (x1 : SVal) : Option Res :=
  (sBin .eql x0a x1).bind fun r1 =>
  some { r := r1 }
theorem r180 (T : Nat → List SVal → Option Res) (k : Nat) (x0a : SVal) (x0b : SVal) (x1 : SVal) : bodyE P H T k 180 [(.agg [x0a, x0b]), (.rp [x1])] = R180 T k x0a x0b x1 := by kernel_rfl
noncomputable def D180 (T : Nat → List SVal → Option Res) (k : Nat) : List SVal → Option Res
  | [(.agg [x0a, x0b]), (.rp [x1])] => R180 T k x0a x0b x1
  | a => bodyE P H T k 180 a
theorem d180 (T : Nat → List SVal → Option Res) (k : Nat) (a : List SVal) : D180 T k a = bodyE P H T k 180 a := by
  unfold D180
  split
  · exact (r180 ..).symm
  · rfl
theorem t180 (k : Nat) (x0a : SVal) (x0b : SVal) (x1 : SVal) : T (k + 1) 180 [(.agg [x0a, x0b]), (.rp [x1])] = R180 (T k) k x0a x0b x1 := (by kernel_rfl : T (k + 1) 180 [(.agg [x0a, x0b]), (.rp [x1])] = bodyE P H (T k) k 180 [(.agg [x0a, x0b]), (.rp [x1])]).trans (r180 ..)
/-- slices.ContainsFunc[[]limelight/api.Shown,limelight/api.Shown] -/
def R181 (T : Nat → List SVal → Option Res) (k : Nat) (x0 : SVal) (x1 : SVal) : Option Res :=
  (T 205 [(weak x0), x1]).bind fun r1 =>
  (sBin .geq r1.r (.int .i64 0)).bind fun r2 =>
  some { r := r2 }
theorem r181 (T : Nat → List SVal → Option Res) (k : Nat) (x0 : SVal) (x1 : SVal) : bodyE P H T k 181 [x0, x1] = R181 T k x0 x1 := by kernel_rfl
noncomputable def D181 (T : Nat → List SVal → Option Res) (k : Nat) : List SVal → Option Res
  | [x0, x1] => R181 T k x0 x1
  | a => bodyE P H T k 181 a
theorem d181 (T : Nat → List SVal → Option Res) (k : Nat) (a : List SVal) : D181 T k a = bodyE P H T k 181 a := by
  unfold D181
  split
  · exact (r181 ..).symm
  · rfl
theorem t181 (k : Nat) (x0 : SVal) (x1 : SVal) : T (k + 1) 181 [x0, x1] = R181 (T k) k x0 x1 := (by kernel_rfl : T (k + 1) 181 [x0, x1] = bodyE P H (T k) k 181 [x0, x1]).trans (r181 ..)
/-- limelight/top.Highest -/
def R182 (T : Nat → List SVal → Option Res) (k : Nat) (x0a : SVal) (x0b : SVal) (x0c : SVal) (x0d : SVal) (x0e : SVal) : Option Res :=
  (T 71 [(.agg [(weak x0a), (weak x0b), (weak x0c), (weak x0d), (weak x0e)])]).bind fun r1 =>
  (sBin .eql r1.r (.int .i64 0)).bind fun r2 =>
  pickC r2
  ((T 93 [(weak x0e)]).bind fun r3 =>
   (callIt T r3.r).bind fun ys4 =>
   rangeN (fun s5 y5 next5 =>
    (tup2 y5).bind fun z6 =>
    (T 63 [(weak (SVal.cell s5.k0 2)), z6.2]).bind fun r7 =>
    pickC r7.r
    (if (oneS z6.2) = true then
     some { r := z6.2 }
     else none)
    (next5 ⟨[(.rp [(SVal.cell s5.k0 0), (SVal.cell s5.k0 1), (SVal.cell s5.k0 2), (SVal.cell s5.k0 3), (SVal.cell s5.k0 4)]), (.mb [s5.k1.c0])], [], false⟩)) (fun s8 =>
    some { r := (.int .i64 (-1)) }) ys4 ⟨[(.rp [x0a, x0b, x0c, x0d, x0e]), (.mb [(.int .i64 0)])], [], false⟩)
  (some { r := (.int .i64 (-1)) })
theorem r182 (T : Nat → List SVal → Option Res) (k : Nat) (x0a : SVal) (x0b : SVal) (x0c : SVal) (x0d : SVal) (x0e : SVal) : bodyE P H T k 182 [(.agg [x0a, x0b, x0c, x0d, x0e])] = R182 T k x0a x0b x0c x0d x0e := by kernel_rfl
noncomputable def D182 (T : Nat → List SVal → Option Res) (k : Nat) : List SVal → Option Res
  | [(.agg [x0a, x0b, x0c, x0d, x0e])] => R182 T k x0a x0b x0c x0d x0e
  | a => bodyE P H T k 182 a
theorem d182 (T : Nat → List SVal → Option Res) (k : Nat) (a : List SVal) : D182 T k a = bodyE P H T k 182 a := by
  unfold D182
  split
  · exact (r182 ..).symm
  · rfl
theorem t182 (k : Nat) (x0a : SVal) (x0b : SVal) (x0c : SVal) (x0d : SVal) (x0e : SVal) : T (k + 1) 182 [(.agg [x0a, x0b, x0c, x0d, x0e])] = R182 (T k) k x0a x0b x0c x0d x0e := (by kernel_rfl : T (k + 1) 182 [(.agg [x0a, x0b, x0c, x0d, x0e])] = bodyE P H (T k) k 182 [(.agg [x0a, x0b, x0c, x0d, x0e])]).trans (r182 ..)
/-- limelight/order.all$1 -/
def R183 (T : Nat → List SVal → Option Res) (k : Nat) (x0 : SVal) (x1 : SVal) : Option Res :=
  ((sBin .lss x0 (.int .i64 0)).bind fun r1 =>
   guardX r1 false
   ((sLen x1).bind fun r2 =>
    (sBin .geq x0 r2).bind fun r3 =>
    (asB r3).bind fun b4 =>
    some [b4])
   (some [true])
   (none)).bind fun vs5 =>
  some { r := (.bool (vs5.getD 0 false)) }
theorem r183 (T : Nat → List SVal → Option Res) (k : Nat) (x0 : SVal) (x1 : SVal) : bodyE P H T k 183 [x0, (.rp [x1])] = R183 T k x0 x1 := by kernel_rfl
noncomputable def D183 (T : Nat → List SVal → Option Res) (k : Nat) : List SVal → Option Res
  | [x0, (.rp [x1])] => R183 T k x0 x1
  | a => bodyE P H T k 183 a
theorem d183 (T : Nat → List SVal → Option Res) (k : Nat) (a : List SVal) : D183 T k a = bodyE P H T k 183 a := by
  unfold D183
  split
  · exact (r183 ..).symm
  · rfl
theorem t183 (k : Nat) (x0 : SVal) (x1 : SVal) : T (k + 1) 183 [x0, (.rp [x1])] = R183 (T k) k x0 x1 := (by kernel_rfl : T (k + 1) 183 [x0, (.rp [x1])] = bodyE P H (T k) k 183 [x0, (.rp [x1])]).trans (r183 ..)
/-- limelight/order.up$1 -/
def R184 (T : Nat → List SVal → Option Res) (k : Nat) (x1 : SVal) (x2 : SVal) : Option Res :=
  loopN (fun s1 next1 =>
   (sBin .neq (SVal.cell s1.k1 0) (.int .i64 (-1))).bind fun r2 =>
   guardX r2 true
   (if (s1.stop) = true then none else
    (notTup (SVal.cell s1.k1 0)).bind fun y3 =>
    both
    ((sIdx true 7 (SVal.cell s1.k2 0) (SVal.cell s1.k1 0)).bind fun e4 =>
     if (oneS (SVal.cell e4 2)) = true then
     next1 ⟨[.yld, (.mb [(SVal.cell e4 2)]), (.rp [(SVal.cell s1.k2 0)])], (s1.out ++ [y3]), s1.stop⟩
     else none)
    (some { r := (.tup []) }))
   (if (s1.stop) = true then
    some { r := (.tup []) }
    else
    some { r := (.tup []), out := s1.out })
   (none)) k ⟨[.yld, (.mb [x1]), (.rp [x2])], [], false⟩
theorem r184 (T : Nat → List SVal → Option Res) (k : Nat) (x1 : SVal) (x2 : SVal) : bodyE P H T k 184 [.yld, (.mb [x1]), (.rp [x2])] = R184 T k x1 x2 := by kernel_rfl
noncomputable def D184 (T : Nat → List SVal → Option Res) (k : Nat) : List SVal → Option Res
  | [.yld, (.mb [x1]), (.rp [x2])] => R184 T k x1 x2
  | a => bodyE P H T k 184 a
theorem d184 (T : Nat → List SVal → Option Res) (k : Nat) (a : List SVal) : D184 T k a = bodyE P H T k 184 a := by
  unfold D184
  split
  · exact (r184 ..).symm
  · rfl
theorem t184 (k : Nat) (x1 : SVal) (x2 : SVal) : T (k + 1) 184 [.yld, (.mb [x1]), (.rp [x2])] = R184 (T k) k x1 x2 := (by kernel_rfl : T (k + 1) 184 [.yld, (.mb [x1]), (.rp [x2])] = bodyE P H (T k) k 184 [.yld, (.mb [x1]), (.rp [x2])]).trans (r184 ..)
/-- limelight/shade.Host -/
def R185 (T : Nat → List SVal → Option Res) (k : Nat) (x0 : SVal) (x1 : SVal) : Option Res :=
  (T 138 [(weak x0), x1]).bind fun r1 =>
  (sBin .eql r1.r (.int .i64 (-1))).bind fun r2 =>
  pickC r2
  (some { r := (.int .i64 (-1)) })
  ((sIdx true 7 x0 r1.r).bind fun e3 =>
   some { r := (SVal.cell e3 4) })
theorem r185 (T : Nat → List SVal → Option Res) (k : Nat) (x0 : SVal) (x1 : SVal) : bodyE P H T k 185 [x0, x1] = R185 T k x0 x1 := by kernel_rfl
noncomputable def D185 (T : Nat → List SVal → Option Res) (k : Nat) : List SVal → Option Res
  | [x0, x1] => R185 T k x0 x1
  | a => bodyE P H T k 185 a
theorem d185 (T : Nat → List SVal → Option Res) (k : Nat) (a : List SVal) : D185 T k a = bodyE P H T k 185 a := by
  unfold D185
  split
  · exact (r185 ..).symm
  · rfl
theorem t185 (k : Nat) (x0 : SVal) (x1 : SVal) : T (k + 1) 185 [x0, x1] = R185 (T k) k x0 x1 := (by kernel_rfl : T (k + 1) 185 [x0, x1] = bodyE P H (T k) k 185 [x0, x1]).trans (r185 ..)
/-- limelight/slots.Of -/
def R186 (T : Nat → List SVal → Option Res) (k : Nat) (x0 : SVal) (x1 : SVal) : Option Res :=
  if (oneS x0) = true then
  (T 206 [(weak x0), x1]).bind fun r1 =>
  (sBin .eql r1.r (.int .i64 (-1))).bind fun r2 =>
  pickC r2
  (some { r := (.int .i64 (-1)) })
  ((T 56 [(weak x0), x1, (.int .i64 9)]).bind fun r3 =>
   if (oneS r3.r.c0) = true then
   if (oneS r3.r.c1) = true then
   (T 106 [(weak x0), r1.r, (.int .i64 8)]).bind fun r4 =>
   if (oneS r4.r) = true then
   (T 207 [(weak x0), x1]).bind fun r5 =>
   if (oneS r5.r) = true then
   (T 208 [(weak x0), r1.r]).bind fun r6 =>
   (callIt T r6.r).bind fun ys7 =>
   rangeN (fun s8 y8 next8 =>
    (notTup y8).bind fun z9 =>
    (guardX (SVal.cell s8.k4 0) true
     (guardX (SVal.cell s8.k3 0) true
      ((sBin .eql z9 (SVal.cell s8.k2 0)).bind fun r10 =>
       guardX r10 false
       ((sNot (SVal.cell s8.k4 0)).bind fun r11 =>
        guardX r11 true
        ((T 207 [(weak (SVal.cell s8.k0 0)), z9]).bind fun r12 =>
         (sBin .eql r12.r (SVal.cell s8.k5 0)).bind fun r13 =>
         (asB r13).bind fun b14 =>
         some [b14])
        (some [false])
        (none))
       (some [true])
       (none))
      ((sNot (SVal.cell s8.k4 0)).bind fun r15 =>
       guardX r15 true
       ((T 207 [(weak (SVal.cell s8.k0 0)), z9]).bind fun r16 =>
        (sBin .eql r16.r (SVal.cell s8.k5 0)).bind fun r17 =>
        (asB r17).bind fun b18 =>
        some [b18])
       (some [false])
       (none))
      (none))
     ((sNot (SVal.cell s8.k4 0)).bind fun r19 =>
      guardX r19 true
      ((T 207 [(weak (SVal.cell s8.k0 0)), z9]).bind fun r20 =>
       (sBin .eql r20.r (SVal.cell s8.k5 0)).bind fun r21 =>
       (asB r21).bind fun b22 =>
       some [b22])
      (some [false])
      (none))
     (none)).bind fun vs23 =>
    pickC (.bool (vs23.getD 0 false))
    (if (oneS z9) = true then
     some { r := z9 }
     else none)
    (next8 ⟨[(.rp [(SVal.cell s8.k0 0)]), (.mb [s8.k1.c0]), (.rp [(SVal.cell s8.k2 0)]), (.rp [(SVal.cell s8.k3 0)]), (.rp [(SVal.cell s8.k4 0)]), (.rp [(SVal.cell s8.k5 0)])], [], false⟩)) (fun s24 =>
    some { r := (.int .i64 (-1)) }) ys7 ⟨[(.rp [x0]), (.mb [(.int .i64 0)]), (.rp [r3.r.c0]), (.rp [r3.r.c1]), (.rp [r4.r]), (.rp [r5.r])], [], false⟩
   else none
   else none
   else none
   else none)
  else none
theorem r186 (T : Nat → List SVal → Option Res) (k : Nat) (x0 : SVal) (x1 : SVal) : bodyE P H T k 186 [x0, x1] = R186 T k x0 x1 := by kernel_rfl
noncomputable def D186 (T : Nat → List SVal → Option Res) (k : Nat) : List SVal → Option Res
  | [x0, x1] => R186 T k x0 x1
  | a => bodyE P H T k 186 a
theorem d186 (T : Nat → List SVal → Option Res) (k : Nat) (a : List SVal) : D186 T k a = bodyE P H T k 186 a := by
  unfold D186
  split
  · exact (r186 ..).symm
  · rfl
theorem t186 (k : Nat) (x0 : SVal) (x1 : SVal) : T (k + 1) 186 [x0, x1] = R186 (T k) k x0 x1 := (by kernel_rfl : T (k + 1) 186 [x0, x1] = bodyE P H (T k) k 186 [x0, x1]).trans (r186 ..)
/-- limelight/slots.Assigned -/
def R187 (T : Nat → List SVal → Option Res) (k : Nat) (x0 : SVal) (x1 : SVal) : Option Res :=
  if (oneS x0) = true then
  if (oneS x1) = true then
  ((T 209 [(weak x0), x1]).bind fun r1 =>
   (sNot r1.r).bind fun r2 =>
   guardX r2 false
   ((T 210 [(weak x0), x1]).bind fun r3 =>
    (sNot r3.r).bind fun r4 =>
    (asB r4).bind fun b5 =>
    some [b5])
   (some [true])
   (none)).bind fun vs6 =>
  pickC (.bool (vs6.getD 0 false))
  (some { r := (.sl 1 false false []) })
  ((T 185 [(weak x0), x1]).bind fun r7 =>
   (sIdx true 7 x0 r7.r).bind fun e8 =>
   (T 152 [(weak (SVal.cell e8 3))]).bind fun r9 =>
   (T 60 [(.sl 1 true false r9.r.xs), (.fn 211 [(.rp [x0]), (.rp [x1])])]).bind fun r10 =>
   some { r := (.sl 1 false false r10.r.xs) })
  else none
  else none
theorem r187 (T : Nat → List SVal → Option Res) (k : Nat) (x0 : SVal) (x1 : SVal) : bodyE P H T k 187 [x0, x1] = R187 T k x0 x1 := by kernel_rfl
noncomputable def D187 (T : Nat → List SVal → Option Res) (k : Nat) : List SVal → Option Res
  | [x0, x1] => R187 T k x0 x1
  | a => bodyE P H T k 187 a
theorem d187 (T : Nat → List SVal → Option Res) (k : Nat) (a : List SVal) : D187 T k a = bodyE P H T k 187 a := by
  unfold D187
  split
  · exact (r187 ..).symm
  · rfl
theorem t187 (k : Nat) (x0 : SVal) (x1 : SVal) : T (k + 1) 187 [x0, x1] = R187 (T k) k x0 x1 := (by kernel_rfl : T (k + 1) 187 [x0, x1] = bodyE P H (T k) k 187 [x0, x1]).trans (r187 ..)
/-- limelight/limelightref03.Up -/
def R188 (T : Nat → List SVal → Option Res) (k : Nat) (x0 : SVal) (x1 : SVal) : Option Res :=
  loopN (fun s1 next1 =>
   (sBin .neq s1.k1 (.int .i64 (-1))).bind fun r2 =>
   pickC r2
   (if (List.all [[.v s1.k1]] allOne) = true then
    if (s1.k2.xs.length + ([s1.k1] : List SVal).length) * 8 ≤ maxAppend then
    (sIdx true 7 s1.k0 s1.k1).bind fun e3 =>
    next1 ⟨[(weak s1.k0), (SVal.cell e3 2), (.sl 1 true false (s1.k2.xs ++ ([s1.k1] : List SVal)))], [], false⟩
    else none
    else none)
   (some { r := (.sl 1 false false s1.k2.xs) })) k ⟨[(weak x0), x1, (.sl 1 true false [])], [], false⟩
theorem r188 (T : Nat → List SVal → Option Res) (k : Nat) (x0 : SVal) (x1 : SVal) : bodyE P H T k 188 [x0, x1] = R188 T k x0 x1 := by kernel_rfl
noncomputable def D188 (T : Nat → List SVal → Option Res) (k : Nat) : List SVal → Option Res
  | [x0, x1] => R188 T k x0 x1
  | a => bodyE P H T k 188 a
theorem d188 (T : Nat → List SVal → Option Res) (k : Nat) (a : List SVal) : D188 T k a = bodyE P H T k 188 a := by
  unfold D188
  split
  · exact (r188 ..).symm
  · rfl
theorem t188 (k : Nat) (x0 : SVal) (x1 : SVal) : T (k + 1) 188 [x0, x1] = R188 (T k) k x0 x1 := (by kernel_rfl : T (k + 1) 188 [x0, x1] = bodyE P H (T k) k 188 [x0, x1]).trans (r188 ..)
/-- limelight/limelightref05.All -/
def R189 (T : Nat → List SVal → Option Res) (k : Nat) (x0 : SVal) (x1 : SVal) : Option Res :=
  (sIdx true 7 x0 x1).bind fun e1 =>
  (sBin .neq (SVal.cell e1 0) (.int .i64 3)).bind fun r2 =>
  pickC r2
  (some { r := (.sl 1 false false []) })
  ((T 212 [(weak x0), x1]).bind fun r3 =>
   loopN (fun s4 next4 =>
    (sLen s4.k2).bind fun r5 =>
    (sBin .lss s4.k3 r5).bind fun r6 =>
    pickC r6
    ((sIdx false 1 s4.k2 s4.k3).bind fun e7 =>
     (T 167 [(weak s4.k0), e7]).bind fun r8 =>
     pickC r8.r
     ((sIdx false 1 s4.k2 s4.k3).bind fun e9 =>
      if (List.all [[.v e9]] allOne) = true then
      if (s4.k1.xs.length + ([e9] : List SVal).length) * 8 ≤ maxAppend then
      (sBin .add s4.k3 (.int .i64 1)).bind fun r10 =>
      next4 ⟨[(weak s4.k0), (.sl 1 true false (s4.k1.xs ++ ([e9] : List SVal))), (weak s4.k2), r10], [], false⟩
      else none
      else none)
     ((sBin .add s4.k3 (.int .i64 1)).bind fun r11 =>
      next4 ⟨[(weak s4.k0), (.sl 1 true false s4.k1.xs), (weak s4.k2), r11], [], false⟩))
    (some { r := (.sl 1 false false s4.k1.xs) })) k ⟨[(weak x0), (.sl 1 true false []), (weak r3.r), (.int .i64 0)], [], false⟩)
theorem r189 (T : Nat → List SVal → Option Res) (k : Nat) (x0 : SVal) (x1 : SVal) : bodyE P H T k 189 [x0, x1] = R189 T k x0 x1 := by kernel_rfl
noncomputable def D189 (T : Nat → List SVal → Option Res) (k : Nat) : List SVal → Option Res
  | [x0, x1] => R189 T k x0 x1
  | a => bodyE P H T k 189 a
theorem d189 (T : Nat → List SVal → Option Res) (k : Nat) (a : List SVal) : D189 T k a = bodyE P H T k 189 a := by
  unfold D189
  split
  · exact (r189 ..).symm
  · rfl
theorem t189 (k : Nat) (x0 : SVal) (x1 : SVal) : T (k + 1) 189 [x0, x1] = R189 (T k) k x0 x1 := (by kernel_rfl : T (k + 1) 189 [x0, x1] = bodyE P H (T k) k 189 [x0, x1]).trans (r189 ..)
/-- limelight/limelightref05.name -/
def R190 (T : Nat → List SVal → Option Res) (k : Nat) (x0 : SVal) (x1 : SVal) : Option Res :=
  (T 66 [(weak x0), x1, (.int .i64 4)]).bind fun r1 =>
  some { r := r1.r.c0 }
theorem r190 (T : Nat → List SVal → Option Res) (k : Nat) (x0 : SVal) (x1 : SVal) : bodyE P H T k 190 [x0, x1] = R190 T k x0 x1 := by kernel_rfl
noncomputable def D190 (T : Nat → List SVal → Option Res) (k : Nat) : List SVal → Option Res
  | [x0, x1] => R190 T k x0 x1
  | a => bodyE P H T k 190 a
theorem d190 (T : Nat → List SVal → Option Res) (k : Nat) (a : List SVal) : D190 T k a = bodyE P H T k 190 a := by
  unfold D190
  split
  · exact (r190 ..).symm
  · rfl
theorem t190 (k : Nat) (x0 : SVal) (x1 : SVal) : T (k + 1) 190 [x0, x1] = R190 (T k) k x0 x1 := (by kernel_rfl : T (k + 1) 190 [x0, x1] = bodyE P H (T k) k 190 [x0, x1]).trans (r190 ..)
/-- limelight/tree.value -/
def R191 (T : Nat → List SVal → Option Res) (k : Nat) (x0a : SVal) (x0b : SVal) : Option Res :=
  (sBin .eql x0a (.int .i64 0)).bind fun r1 =>
  pickC r1
  ((T 143 [x0b, (.int .i64 (-2147483648)), (.int .i64 2147483647)]).bind fun r2 =>
   some { r := r2.r })
  ((sBin .eql x0a (.int .i64 4)).bind fun r3 =>
   pickC r3
   ((T 143 [x0b, (.int .i64 0), (.int .i64 2147483647)]).bind fun r4 =>
    some { r := r4.r })
   ((sBin .eql x0a (.int .i64 6)).bind fun r5 =>
    pickC r5
    ((T 143 [x0b, (.int .i64 1), (.int .i64 3)]).bind fun r6 =>
     some { r := r6.r })
    ((sBin .eql x0a (.int .i64 9)).bind fun r7 =>
     pickC r7
     ((T 143 [x0b, (.int .i64 0), (.int .i64 63)]).bind fun r8 =>
      some { r := r8.r })
     ((sBin .eql x0b (.int .i64 0)).bind fun r9 =>
      some { r := r9 }))))
theorem r191 (T : Nat → List SVal → Option Res) (k : Nat) (x0a : SVal) (x0b : SVal) : bodyE P H T k 191 [(.agg [x0a, x0b])] = R191 T k x0a x0b := by kernel_rfl
noncomputable def D191 (T : Nat → List SVal → Option Res) (k : Nat) : List SVal → Option Res
  | [(.agg [x0a, x0b])] => R191 T k x0a x0b
  | a => bodyE P H T k 191 a
theorem d191 (T : Nat → List SVal → Option Res) (k : Nat) (a : List SVal) : D191 T k a = bodyE P H T k 191 a := by
  unfold D191
  split
  · exact (r191 ..).symm
  · rfl
theorem t191 (k : Nat) (x0a : SVal) (x0b : SVal) : T (k + 1) 191 [(.agg [x0a, x0b])] = R191 (T k) k x0a x0b := (by kernel_rfl : T (k + 1) 191 [(.agg [x0a, x0b])] = bodyE P H (T k) k 191 [(.agg [x0a, x0b])]).trans (r191 ..)
/-- limelight/tree.up$1 -/
def R192 (T : Nat → List SVal → Option Res) (k : Nat) (x1 : SVal) (x2 : SVal) : Option Res :=
  (sLen x1).bind fun r1 =>
  (sBin .add r1 (.int .i64 1)).bind fun r2 =>
  loopN (fun s3 next3 =>
   (sBin .lss s3.k4 s3.k3).bind fun r4 =>
   pickC r4
   ((sBin .eql (SVal.cell s3.k2 0) (.int .i64 (-1))).bind fun r5 =>
    guardX r5 false
    (if (s3.stop) = true then none else
     (notTup (SVal.cell s3.k2 0)).bind fun y6 =>
     both
     ((sIdx true 7 (SVal.cell s3.k1 0) (SVal.cell s3.k2 0)).bind fun e7 =>
      (sIdx true 7 (SVal.cell s3.k1 0) (SVal.cell s3.k2 0)).bind fun e8 =>
      (sMax (SVal.cell e7 2) (SVal.cell e8 4)).bind fun r9 =>
      if (oneS r9) = true then
      (sBin .add s3.k4 (.int .i64 1)).bind fun r10 =>
      next3 ⟨[.yld, (.rp [(SVal.cell s3.k1 0)]), (.mb [r9]), s3.k3, r10], (s3.out ++ [y6]), s3.stop⟩
      else none)
     (some { r := (.tup []) }))
    (if (s3.stop) = true then
     some { r := (.tup []) }
     else
     some { r := (.tup []), out := s3.out })
    (none))
   (if (s3.stop) = true then
    some { r := (.tup []) }
    else
    some { r := (.tup []), out := s3.out })) k ⟨[.yld, (.rp [x1]), (.mb [x2]), r2, (.int .i64 0)], [], false⟩
theorem r192 (T : Nat → List SVal → Option Res) (k : Nat) (x1 : SVal) (x2 : SVal) : bodyE P H T k 192 [.yld, (.rp [x1]), (.mb [x2])] = R192 T k x1 x2 := by kernel_rfl
noncomputable def D192 (T : Nat → List SVal → Option Res) (k : Nat) : List SVal → Option Res
  | [.yld, (.rp [x1]), (.mb [x2])] => R192 T k x1 x2
  | a => bodyE P H T k 192 a
theorem d192 (T : Nat → List SVal → Option Res) (k : Nat) (a : List SVal) : D192 T k a = bodyE P H T k 192 a := by
  unfold D192
  split
  · exact (r192 ..).symm
  · rfl
theorem t192 (k : Nat) (x1 : SVal) (x2 : SVal) : T (k + 1) 192 [.yld, (.rp [x1]), (.mb [x2])] = R192 (T k) k x1 x2 := (by kernel_rfl : T (k + 1) 192 [.yld, (.rp [x1]), (.mb [x2])] = bodyE P H (T k) k 192 [.yld, (.rp [x1]), (.mb [x2])]).trans (r192 ..)
/-- limelight/shade.Above -/
def R193 (T : Nat → List SVal → Option Res) (k : Nat) (x0 : SVal) (x1 : SVal) (x2 : SVal) : Option Res :=
  (T 213 [(weak x0), x2]).bind fun r1 =>
  (T 63 [(weak r1.r), x1]).bind fun r2 =>
  some { r := r2.r }
theorem r193 (T : Nat → List SVal → Option Res) (k : Nat) (x0 : SVal) (x1 : SVal) (x2 : SVal) : bodyE P H T k 193 [x0, x1, x2] = R193 T k x0 x1 x2 := by kernel_rfl
noncomputable def D193 (T : Nat → List SVal → Option Res) (k : Nat) : List SVal → Option Res
  | [x0, x1, x2] => R193 T k x0 x1 x2
  | a => bodyE P H T k 193 a
theorem d193 (T : Nat → List SVal → Option Res) (k : Nat) (a : List SVal) : D193 T k a = bodyE P H T k 193 a := by
  unfold D193
  split
  · exact (r193 ..).symm
  · rfl
theorem t193 (k : Nat) (x0 : SVal) (x1 : SVal) (x2 : SVal) : T (k + 1) 193 [x0, x1, x2] = R193 (T k) k x0 x1 x2 := (by kernel_rfl : T (k + 1) 193 [x0, x1, x2] = bodyE P H (T k) k 193 [x0, x1, x2]).trans (r193 ..)
/-- slices.IndexFunc[[]limelight/api.Shown,limelight/api.Shown] -/
def R205 (T : Nat → List SVal → Option Res) (k : Nat) (x0 : SVal) (x1 : SVal) : Option Res :=
  (sLen x0).bind fun r1 =>
  loopN (fun s2 next2 =>
   (sBin .lss s2.k3 s2.k2).bind fun r3 =>
   pickC r3
   ((sIdx true 2 s2.k0 s2.k3).bind fun e4 =>
    (callV H T s2.k1 [(.agg [(SVal.cell e4 0), (SVal.cell e4 1)])]).bind fun y5 =>
    pickC y5
    (some { r := s2.k3 })
    ((sBin .add s2.k3 (.int .i64 1)).bind fun r6 =>
     next2 ⟨[(weak s2.k0), s2.k1, s2.k2, r6], [], false⟩))
   (some { r := (.int .i64 (-1)) })) k ⟨[(weak x0), x1, r1, (.int .i64 0)], [], false⟩
theorem r205 (T : Nat → List SVal → Option Res) (k : Nat) (x0 : SVal) (x1 : SVal) : bodyE P H T k 205 [x0, x1] = R205 T k x0 x1 := by kernel_rfl
noncomputable def D205 (T : Nat → List SVal → Option Res) (k : Nat) : List SVal → Option Res
  | [x0, x1] => R205 T k x0 x1
  | a => bodyE P H T k 205 a
theorem d205 (T : Nat → List SVal → Option Res) (k : Nat) (a : List SVal) : D205 T k a = bodyE P H T k 205 a := by
  unfold D205
  split
  · exact (r205 ..).symm
  · rfl
theorem t205 (k : Nat) (x0 : SVal) (x1 : SVal) : T (k + 1) 205 [x0, x1] = R205 (T k) k x0 x1 := (by kernel_rfl : T (k + 1) 205 [x0, x1] = bodyE P H (T k) k 205 [x0, x1]).trans (r205 ..)
/-- limelight/slots.root -/
def R206 (T : Nat → List SVal → Option Res) (k : Nat) (x0 : SVal) (x1 : SVal) : Option Res :=
  ((T 209 [(weak x0), x1]).bind fun r1 =>
   (sNot r1.r).bind fun r2 =>
   guardX r2 false
   ((sIdx true 7 x0 x1).bind fun e3 =>
    (sBin .eql (SVal.cell e3 2) (.int .i64 (-1))).bind fun r4 =>
    (asB r4).bind fun b5 =>
    some [b5])
   (some [true])
   (none)).bind fun vs6 =>
  pickC (.bool (vs6.getD 0 false))
  (some { r := (.int .i64 (-1)) })
  ((sIdx true 7 x0 x1).bind fun e7 =>
   (sIdx true 7 x0 (SVal.cell e7 2)).bind fun e8 =>
   some { r := (SVal.cell e8 5) })
theorem r206 (T : Nat → List SVal → Option Res) (k : Nat) (x0 : SVal) (x1 : SVal) : bodyE P H T k 206 [x0, x1] = R206 T k x0 x1 := by kernel_rfl
noncomputable def D206 (T : Nat → List SVal → Option Res) (k : Nat) : List SVal → Option Res
  | [x0, x1] => R206 T k x0 x1
  | a => bodyE P H T k 206 a
theorem d206 (T : Nat → List SVal → Option Res) (k : Nat) (a : List SVal) : D206 T k a = bodyE P H T k 206 a := by
  unfold D206
  split
  · exact (r206 ..).symm
  · rfl
theorem t206 (k : Nat) (x0 : SVal) (x1 : SVal) : T (k + 1) 206 [x0, x1] = R206 (T k) k x0 x1 := (by kernel_rfl : T (k + 1) 206 [x0, x1] = bodyE P H (T k) k 206 [x0, x1]).trans (r206 ..)
/-- limelight/slots.name -/
def R207 (T : Nat → List SVal → Option Res) (k : Nat) (x0 : SVal) (x1 : SVal) : Option Res :=
  (T 56 [(weak x0), x1, (.int .i64 4)]).bind fun r1 =>
  some { r := r1.r.c0 }
theorem r207 (T : Nat → List SVal → Option Res) (k : Nat) (x0 : SVal) (x1 : SVal) : bodyE P H T k 207 [x0, x1] = R207 T k x0 x1 := by kernel_rfl
noncomputable def D207 (T : Nat → List SVal → Option Res) (k : Nat) : List SVal → Option Res
  | [x0, x1] => R207 T k x0 x1
  | a => bodyE P H T k 207 a
theorem d207 (T : Nat → List SVal → Option Res) (k : Nat) (a : List SVal) : D207 T k a = bodyE P H T k 207 a := by
  unfold D207
  split
  · exact (r207 ..).symm
  · rfl
theorem t207 (k : Nat) (x0 : SVal) (x1 : SVal) : T (k + 1) 207 [x0, x1] = R207 (T k) k x0 x1 := (by kernel_rfl : T (k + 1) 207 [x0, x1] = bodyE P H (T k) k 207 [x0, x1]).trans (r207 ..)
/-- limelight/slots.within -/
def R208 (T : Nat → List SVal → Option Res) (k : Nat) (x0 : SVal) (x1 : SVal) : Option Res :=
  if (oneS x0) = true then
  if (oneS x1) = true then
  some { r := (.fn 220 [(.rp [x0]), (.rp [x1])]) }
  else none
  else none
theorem r208 (T : Nat → List SVal → Option Res) (k : Nat) (x0 : SVal) (x1 : SVal) : bodyE P H T k 208 [x0, x1] = R208 T k x0 x1 := by kernel_rfl
noncomputable def D208 (T : Nat → List SVal → Option Res) (k : Nat) : List SVal → Option Res
  | [x0, x1] => R208 T k x0 x1
  | a => bodyE P H T k 208 a
theorem d208 (T : Nat → List SVal → Option Res) (k : Nat) (a : List SVal) : D208 T k a = bodyE P H T k 208 a := by
  unfold D208
  split
  · exact (r208 ..).symm
  · rfl
theorem t208 (k : Nat) (x0 : SVal) (x1 : SVal) : T (k + 1) 208 [x0, x1] = R208 (T k) k x0 x1 := (by kernel_rfl : T (k + 1) 208 [x0, x1] = bodyE P H (T k) k 208 [x0, x1]).trans (r208 ..)
/-- limelight/slots.is -/
def R209 (T : Nat → List SVal → Option Res) (k : Nat) (x0 : SVal) (x1 : SVal) : Option Res :=
  (T 138 [(weak x0), x1]).bind fun r1 =>
  (sBin .neq r1.r (.int .i64 (-1))).bind fun r2 =>
  some { r := r2 }
theorem r209 (T : Nat → List SVal → Option Res) (k : Nat) (x0 : SVal) (x1 : SVal) : bodyE P H T k 209 [x0, x1] = R209 T k x0 x1 := by kernel_rfl
noncomputable def D209 (T : Nat → List SVal → Option Res) (k : Nat) : List SVal → Option Res
  | [x0, x1] => R209 T k x0 x1
  | a => bodyE P H T k 209 a
theorem d209 (T : Nat → List SVal → Option Res) (k : Nat) (a : List SVal) : D209 T k a = bodyE P H T k 209 a := by
  unfold D209
  split
  · exact (r209 ..).symm
  · rfl
theorem t209 (k : Nat) (x0 : SVal) (x1 : SVal) : T (k + 1) 209 [x0, x1] = R209 (T k) k x0 x1 := (by kernel_rfl : T (k + 1) 209 [x0, x1] = bodyE P H (T k) k 209 [x0, x1]).trans (r209 ..)
/-- limelight/slots.slot -/
def R210 (T : Nat → List SVal → Option Res) (k : Nat) (x0 : SVal) (x1 : SVal) : Option Res :=
  ((sIdx true 7 x0 x1).bind fun e1 =>
   (sBin .eql (SVal.cell e1 0) (.int .i64 1)).bind fun r2 =>
   guardX r2 true
   ((sIdx true 7 x0 x1).bind fun e3 =>
    (sBin .eql (SVal.cell e3 1) (.int .i64 3)).bind fun r4 =>
    guardX r4 true
    ((T 185 [(weak x0), x1]).bind fun r5 =>
     (sBin .neq r5.r (.int .i64 (-1))).bind fun r6 =>
     (asB r6).bind fun b7 =>
     some [b7])
    (some [false])
    (none))
   (some [false])
   (none)).bind fun vs8 =>
  some { r := (.bool (vs8.getD 0 false)) }
theorem r210 (T : Nat → List SVal → Option Res) (k : Nat) (x0 : SVal) (x1 : SVal) : bodyE P H T k 210 [x0, x1] = R210 T k x0 x1 := by kernel_rfl
noncomputable def D210 (T : Nat → List SVal → Option Res) (k : Nat) : List SVal → Option Res
  | [x0, x1] => R210 T k x0 x1
  | a => bodyE P H T k 210 a
theorem d210 (T : Nat → List SVal → Option Res) (k : Nat) (a : List SVal) : D210 T k a = bodyE P H T k 210 a := by
  unfold D210
  split
  · exact (r210 ..).symm
  · rfl
theorem t210 (k : Nat) (x0 : SVal) (x1 : SVal) : T (k + 1) 210 [x0, x1] = R210 (T k) k x0 x1 := (by kernel_rfl : T (k + 1) 210 [x0, x1] = bodyE P H (T k) k 210 [x0, x1]).trans (r210 ..)
end Go.Proofs.YtcehbmffbmhpfaaGreat.K
