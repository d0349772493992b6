/- What the evaluator makes of the functions, by program (wip/tr/resid.py); each equation is checked by the kernel. -/
import Derived.Test.YtccfkncajelbpaaGreatLmAK
import Derived.Test.YtccfkncajelbpaaGreatLmAB
import Derived.KernelRfl
set_option linter.unusedVariables false
set_option linter.unusedSimpArgs false
set_option linter.unnecessarySimpa false
set_option linter.all false
set_option maxRecDepth 100000
namespace Go.Proofs.YtccfkncajelbpaaGreat.K
open Go Go.Lm
/-- limelight/tree.node -/
def R131 (T : Nat → List SVal → Option Res) (k : Nat) (x0 : SVal) (x1 : SVal) : Option Res :=
  if (oneS x0) = true then
  if (oneS x1) = true then
  (sIdx true 7 x0 x1).bind fun e1 =>
  if (allOne [.v (SVal.cell e1 0), .v (SVal.cell e1 1), .v (SVal.cell e1 2), .v (SVal.cell e1 3), .v (SVal.cell e1 4), .v (SVal.cell e1 5), .v (SVal.cell e1 6)]) = true then
  ((T 130 [(SVal.cell e1 0), (.int .i64 0), (.int .i64 3)]).bind fun r2 =>
   (sNot r2.r).bind fun r3 =>
   guardX r3 false
   ((sBin .eql (SVal.cell e1 0) (.int .i64 0)).bind fun r4 =>
    (sBin .eql x1 (.int .i64 0)).bind fun r5 =>
    (sBinB .neq r4 r5).bind fun r6 =>
    (asB r6).bind fun b7 =>
    some [b7])
   (some [true])
   (none)).bind fun vs8 =>
  pickC (.bool (vs8.getD 0 false))
  (some { r := (.bool false) })
  (((sBin .eql (SVal.cell e1 0) (.int .i64 1)).bind fun r9 =>
    guardX r9 true
    ((T 130 [(SVal.cell e1 1), (.int .i64 0), (.int .i64 4)]).bind fun r10 =>
     (sNot r10.r).bind fun r11 =>
     guardX r11 false
     ((sBin .neq (SVal.cell e1 0) (.int .i64 1)).bind fun r12 =>
      guardX r12 true
      ((sBin .neq (SVal.cell e1 1) (.int .i64 0)).bind fun r13 =>
       (asB r13).bind fun b14 =>
       some [b14])
      (some [false])
      (none))
     (some [true])
     (none))
    ((sBin .neq (SVal.cell e1 0) (.int .i64 1)).bind fun r15 =>
     guardX r15 true
     ((sBin .neq (SVal.cell e1 1) (.int .i64 0)).bind fun r16 =>
      (asB r16).bind fun b17 =>
      some [b17])
     (some [false])
     (none))
    (none)).bind fun vs18 =>
   pickC (.bool (vs18.getD 0 false))
   (some { r := (.bool false) })
   (((sBin .eql (SVal.cell e1 0) (.int .i64 2)).bind fun r19 =>
     guardX r19 true
     ((sLen (SVal.cell e1 3)).bind fun r20 =>
      (sBin .gtr r20 (.int .i64 0)).bind fun r21 =>
      (asB r21).bind fun b22 =>
      some [b22])
     (some [false])
     (none)).bind fun vs23 =>
    pickC (.bool (vs23.getD 0 false))
    (some { r := (.bool false) })
    (((sBin .neq (SVal.cell e1 2) (.int .i64 (-1))).bind fun r24 =>
      guardX r24 true
      ((T 148 [(weak x0), (SVal.cell e1 2)]).bind fun r25 =>
       (sNot r25.r).bind fun r26 =>
       guardX r26 false
       ((sIdx true 7 x0 (SVal.cell e1 2)).bind fun e27 =>
        (T 149 [(weak (SVal.cell e27 3)), x1]).bind fun r28 =>
        (sNot r28.r).bind fun r29 =>
        (asB r29).bind fun b30 =>
        some [b30])
       (some [true])
       (none))
      (some [false])
      (none)).bind fun vs31 =>
     pickC (.bool (vs31.getD 0 false))
     (some { r := (.bool false) })
     (((T 150 [(.agg [(SVal.cell e1 0), (SVal.cell e1 1), (SVal.cell e1 2), (weak (SVal.cell e1 3)), (SVal.cell e1 4), (SVal.cell e1 5), (weak (SVal.cell e1 6))])]).bind fun r32 =>
       guardX r32.r true
       ((T 151 [(weak x0), x1]).bind fun r33 =>
        guardX r33.r true
        ((T 44 [(weak (SVal.cell e1 3)), (.fn 152 [(.rp [x0]), (.rp [x1])])]).bind fun r34 =>
         (sNot r34.r).bind fun r35 =>
         (asB r35).bind fun b36 =>
         some [b36])
        (some [false])
        (none))
       (some [false])
       (none)).bind fun vs37 =>
      some { r := (.bool (vs37.getD 0 false)) }))))
  else none
  else none
  else none
theorem r131 (T : Nat → List SVal → Option Res) (k : Nat) (x0 : SVal) (x1 : SVal) : bodyE P H T k 131 [x0, x1] = R131 T k x0 x1 := by kernel_rfl
noncomputable def D131 (T : Nat → List SVal → Option Res) (k : Nat) : List SVal → Option Res
  | [x0, x1] => R131 T k x0 x1
  | a => bodyE P H T k 131 a
theorem d131 (T : Nat → List SVal → Option Res) (k : Nat) (a : List SVal) : D131 T k a = bodyE P H T k 131 a := by
  unfold D131
  split
  · exact (r131 ..).symm
  · rfl
theorem t131 (k : Nat) (x0 : SVal) (x1 : SVal) : T (k + 1) 131 [x0, x1] = R131 (T k) k x0 x1 := (by kernel_rfl : T (k + 1) 131 [x0, x1] = bodyE P H (T k) k 131 [x0, x1]).trans (r131 ..)
/-- limelight/tree.turns -/
def R132 (T : Nat → List SVal → Option Res) (k : Nat) (x0 : SVal) (x1 : SVal) : Option Res :=
  (T 154 [(weak x0), x1]).bind fun r1 =>
  (callIt T r1.r).bind fun ys2 =>
  rangeN (fun s3 y3 next3 =>
   (notTup y3).bind fun z4 =>
   (sBin .add s3.k1.c0 (.int .i64 1)).bind fun r5 =>
   if (oneS r5) = true then
   next3 ⟨[(weak s3.k0), (.mb [r5])], [], false⟩
   else none) (fun s6 =>
   (sLen s6.k0).bind fun r7 =>
   (sBin .gtr s6.k1.c0 r7).bind fun r8 =>
   some { r := r8 }) ys2 ⟨[(weak x0), (.mb [(.int .i64 0)])], [], false⟩
theorem r132 (T : Nat → List SVal → Option Res) (k : Nat) (x0 : SVal) (x1 : SVal) : bodyE P H T k 132 [x0, x1] = R132 T k x0 x1 := by kernel_rfl
noncomputable def D132 (T : Nat → List SVal → Option Res) (k : Nat) : List SVal → Option Res
  | [x0, x1] => R132 T k x0 x1
  | a => bodyE P H T k 132 a
theorem d132 (T : Nat → List SVal → Option Res) (k : Nat) (a : List SVal) : D132 T k a = bodyE P H T k 132 a := by
  unfold D132
  split
  · exact (r132 ..).symm
  · rfl
theorem t132 (k : Nat) (x0 : SVal) (x1 : SVal) : T (k + 1) 132 [x0, x1] = R132 (T k) k x0 x1 := (by kernel_rfl : T (k + 1) 132 [x0, x1] = bodyE P H (T k) k 132 [x0, x1]).trans (r132 ..)
/-- slices.Grow[[]int,int] -/
noncomputable def R133 (T : Nat → List SVal → Option Res) (k : Nat) (x1 : SVal) : Option Res :=
  (sBin .lss x1 (.int .i64 0)).bind fun r1 =>
  pickC r1
  (none)
  ((sBin .sub (.int .i64 0) (.int .i64 0)).bind fun r2 =>
   (sBin .sub x1 r2).bind fun r3 =>
   (sBin .gtr r3 (.int .i64 0)).bind fun r4 =>
   pickC r4
   ((sSlice 1 (.sl 1 false true []) none (some (.int .i64 0))).bind fun r5 =>
    (elemsM P 24 3 (.v r5) r3).bind fun ys6 =>
    if isNilS r5 = true then
    if ys6.length * 8 ≤ maxAppend then
    (sBnd ys6.length (.int .i64 0)).bind fun n7 =>
    some { r := (.sl 1 true false (ys6.take n7)) }
    else none
    else none)
   (some { r := (.sl 1 true false []) }))
theorem r133 (T : Nat → List SVal → Option Res) (k : Nat) (x1 : SVal) : bodyE P H T k 133 [(.sl 1 false true []), x1] = R133 T k x1 := by kernel_rfl
noncomputable def D133 (T : Nat → List SVal → Option Res) (k : Nat) : List SVal → Option Res
  | [(.sl 1 false true []), x1] => R133 T k x1
  | a => bodyE P H T k 133 a
theorem d133 (T : Nat → List SVal → Option Res) (k : Nat) (a : List SVal) : D133 T k a = bodyE P H T k 133 a := by
  unfold D133
  split
  · exact (r133 ..).symm
  · rfl
theorem t133 (k : Nat) (x1 : SVal) : T (k + 1) 133 [(.sl 1 false true []), x1] = R133 (T k) k x1 := (by kernel_rfl : T (k + 1) 133 [(.sl 1 false true []), x1] = bodyE P H (T k) k 133 [(.sl 1 false true []), x1]).trans (r133 ..)
/-- limelight/top.element -/
def R134 (T : Nat → List SVal → Option Res) (k : Nat) (x0 : SVal) (x1 : SVal) : Option Res :=
  ((T 155 [(weak x0), x1]).bind fun r1 =>
   guardX r1.r true
   ((sIdx true 7 x0 x1).bind fun e2 =>
    (sBin .eql (SVal.cell e2 0) (.int .i64 1)).bind fun r3 =>
    (asB r3).bind fun b4 =>
    some [b4])
   (some [false])
   (none)).bind fun vs5 =>
  some { r := (.bool (vs5.getD 0 false)) }
theorem r134 (T : Nat → List SVal → Option Res) (k : Nat) (x0 : SVal) (x1 : SVal) : bodyE P H T k 134 [x0, x1] = R134 T k x0 x1 := by kernel_rfl
noncomputable def D134 (T : Nat → List SVal → Option Res) (k : Nat) : List SVal → Option Res
  | [x0, x1] => R134 T k x0 x1
  | a => bodyE P H T k 134 a
theorem d134 (T : Nat → List SVal → Option Res) (k : Nat) (a : List SVal) : D134 T k a = bodyE P H T k 134 a := by
  unfold D134
  split
  · exact (r134 ..).symm
  · rfl
theorem t134 (k : Nat) (x0 : SVal) (x1 : SVal) : T (k + 1) 134 [x0, x1] = R134 (T k) k x0 x1 := (by kernel_rfl : T (k + 1) 134 [x0, x1] = bodyE P H (T k) k 134 [x0, x1]).trans (r134 ..)
/-- limelight/top.each[limelight/api.Shown,int] -/
def R135 (T : Nat → List SVal → Option Res) (k : Nat) (x0 : SVal) (x1 : SVal) : Option Res :=
  (sLen x0).bind fun r1 =>
  loopN (fun s2 next2 =>
   (sBin .lss s2.k4 s2.k3).bind fun r3 =>
   pickC r3
   ((sIdx true 2 s2.k2 s2.k4).bind fun e4 =>
    if (allOne [.v (SVal.cell e4 0), .v (SVal.cell e4 1)]) = true then
    (callV H T s2.k0 [(.agg [(SVal.cell e4 0), (SVal.cell e4 1)])]).bind fun y5 =>
    if (List.all [[.v y5]] allOne) = true then
    if (s2.k1.xs.length + ([y5] : List SVal).length) * 8 ≤ maxAppend then
    (sBin .add s2.k4 (.int .i64 1)).bind fun r6 =>
    next2 ⟨[s2.k0, (.sl 1 true false (s2.k1.xs ++ ([y5] : List SVal))), (weak s2.k2), s2.k3, r6], [], false⟩
    else none
    else none
    else none)
   (some { r := (.sl 1 false false s2.k1.xs) })) k ⟨[x1, (.sl 1 true false []), (weak x0), r1, (.int .i64 0)], [], false⟩
theorem r135 (T : Nat → List SVal → Option Res) (k : Nat) (x0 : SVal) (x1 : SVal) : bodyE P H T k 135 [x0, x1] = R135 T k x0 x1 := by kernel_rfl
noncomputable def D135 (T : Nat → List SVal → Option Res) (k : Nat) : List SVal → Option Res
  | [x0, x1] => R135 T k x0 x1
  | a => bodyE P H T k 135 a
theorem d135 (T : Nat → List SVal → Option Res) (k : Nat) (a : List SVal) : D135 T k a = bodyE P H T k 135 a := by
  unfold D135
  split
  · exact (r135 ..).symm
  · rfl
theorem t135 (k : Nat) (x0 : SVal) (x1 : SVal) : T (k + 1) 135 [x0, x1] = R135 (T k) k x0 x1 := (by kernel_rfl : T (k + 1) 135 [x0, x1] = bodyE P H (T k) k 135 [x0, x1]).trans (r135 ..)
/-- limelight/top.node -/
def R136 (T : Nat → List SVal → Option Res) (k : Nat) (x0a : SVal) (x0b : SVal) : Option Res :=
  some { r := x0a }
theorem r136 (T : Nat → List SVal → Option Res) (k : Nat) (x0a : SVal) (x0b : SVal) : bodyE P H T k 136 [(.agg [x0a, x0b])] = R136 T k x0a x0b := by kernel_rfl
noncomputable def D136 (T : Nat → List SVal → Option Res) (k : Nat) : List SVal → Option Res
  | [(.agg [x0a, x0b])] => R136 T k x0a x0b
  | a => bodyE P H T k 136 a
theorem d136 (T : Nat → List SVal → Option Res) (k : Nat) (a : List SVal) : D136 T k a = bodyE P H T k 136 a := by
  unfold D136
  split
  · exact (r136 ..).symm
  · rfl
theorem t136 (k : Nat) (x0a : SVal) (x0b : SVal) : T (k + 1) 136 [(.agg [x0a, x0b])] = R136 (T k) k x0a x0b := (by kernel_rfl : T (k + 1) 136 [(.agg [x0a, x0b])] = bodyE P H (T k) k 136 [(.agg [x0a, x0b])]).trans (r136 ..)
/-- slices.Values[[]int,int]$1 -/
def R138 (T : Nat → List SVal → Option Res) (k : Nat) (x1 : SVal) : Option Res :=
  (sLen x1).bind fun r1 =>
  loopN (fun s2 next2 =>
   (sBin .lss s2.k3 s2.k2).bind fun r3 =>
   pickC r3
   ((sIdx false 1 s2.k1 s2.k3).bind fun e4 =>
    if (s2.stop) = true then none else
    (notTup e4).bind fun y5 =>
    both
    ((sBin .add s2.k3 (.int .i64 1)).bind fun r6 =>
     next2 ⟨[.yld, (weak s2.k1), s2.k2, r6], (s2.out ++ [y5]), s2.stop⟩)
    (some { r := (.tup []) }))
   (if (s2.stop) = true then
    some { r := (.tup []) }
    else
    some { r := (.tup []), out := s2.out })) k ⟨[.yld, (weak x1), r1, (.int .i64 0)], [], false⟩
theorem r138 (T : Nat → List SVal → Option Res) (k : Nat) (x1 : SVal) : bodyE P H T k 138 [.yld, (.rp [x1])] = R138 T k x1 := by kernel_rfl
noncomputable def D138 (T : Nat → List SVal → Option Res) (k : Nat) : List SVal → Option Res
  | [.yld, (.rp [x1])] => R138 T k x1
  | a => bodyE P H T k 138 a
theorem d138 (T : Nat → List SVal → Option Res) (k : Nat) (a : List SVal) : D138 T k a = bodyE P H T k 138 a := by
  unfold D138
  split
  · exact (r138 ..).symm
  · rfl
theorem t138 (k : Nat) (x1 : SVal) : T (k + 1) 138 [.yld, (.rp [x1])] = R138 (T k) k x1 := (by kernel_rfl : T (k + 1) 138 [.yld, (.rp [x1])] = bodyE P H (T k) k 138 [.yld, (.rp [x1])]).trans (r138 ..)
/-- limelight/order.all$1 -/
def R140 (T : Nat → List SVal → Option Res) (k : Nat) (x0 : SVal) (x1 : SVal) : Option Res :=
  ((sBin .lss x0 (.int .i64 0)).bind fun r1 =>
   guardX r1 false
   ((sLen x1).bind fun r2 =>
    (sBin .geq x0 r2).bind fun r3 =>
    (asB r3).bind fun b4 =>
    some [b4])
   (some [true])
   (none)).bind fun vs5 =>
  some { r := (.bool (vs5.getD 0 false)) }
theorem r140 (T : Nat → List SVal → Option Res) (k : Nat) (x0 : SVal) (x1 : SVal) : bodyE P H T k 140 [x0, (.rp [x1])] = R140 T k x0 x1 := by kernel_rfl
noncomputable def D140 (T : Nat → List SVal → Option Res) (k : Nat) : List SVal → Option Res
  | [x0, (.rp [x1])] => R140 T k x0 x1
  | a => bodyE P H T k 140 a
theorem d140 (T : Nat → List SVal → Option Res) (k : Nat) (a : List SVal) : D140 T k a = bodyE P H T k 140 a := by
  unfold D140
  split
  · exact (r140 ..).symm
  · rfl
theorem t140 (k : Nat) (x0 : SVal) (x1 : SVal) : T (k + 1) 140 [x0, (.rp [x1])] = R140 (T k) k x0 x1 := (by kernel_rfl : T (k + 1) 140 [x0, (.rp [x1])] = bodyE P H (T k) k 140 [x0, (.rp [x1])]).trans (r140 ..)
/-- limelight/order.up$1 -/
def R141 (T : Nat → List SVal → Option Res) (k : Nat) (x1 : SVal) (x2 : SVal) : Option Res :=
  loopN (fun s1 next1 =>
   (sBin .neq (SVal.cell s1.k1 0) (.int .i64 (-1))).bind fun r2 =>
   guardX r2 true
   (if (s1.stop) = true then none else
    (notTup (SVal.cell s1.k1 0)).bind fun y3 =>
    both
    ((sIdx true 7 (SVal.cell s1.k2 0) (SVal.cell s1.k1 0)).bind fun e4 =>
     if (oneS (SVal.cell e4 2)) = true then
     next1 ⟨[.yld, (.mb [(SVal.cell e4 2)]), (.rp [(SVal.cell s1.k2 0)])], (s1.out ++ [y3]), s1.stop⟩
     else none)
    (some { r := (.tup []) }))
   (if (s1.stop) = true then
    some { r := (.tup []) }
    else
    some { r := (.tup []), out := s1.out })
   (none)) k ⟨[.yld, (.mb [x1]), (.rp [x2])], [], false⟩
theorem r141 (T : Nat → List SVal → Option Res) (k : Nat) (x1 : SVal) (x2 : SVal) : bodyE P H T k 141 [.yld, (.mb [x1]), (.rp [x2])] = R141 T k x1 x2 := by kernel_rfl
noncomputable def D141 (T : Nat → List SVal → Option Res) (k : Nat) : List SVal → Option Res
  | [.yld, (.mb [x1]), (.rp [x2])] => R141 T k x1 x2
  | a => bodyE P H T k 141 a
theorem d141 (T : Nat → List SVal → Option Res) (k : Nat) (a : List SVal) : D141 T k a = bodyE P H T k 141 a := by
  unfold D141
  split
  · exact (r141 ..).symm
  · rfl
theorem t141 (k : Nat) (x1 : SVal) (x2 : SVal) : T (k + 1) 141 [.yld, (.mb [x1]), (.rp [x2])] = R141 (T k) k x1 x2 := (by kernel_rfl : T (k + 1) 141 [.yld, (.mb [x1]), (.rp [x2])] = bodyE P H (T k) k 141 [.yld, (.mb [x1]), (.rp [x2])]).trans (r141 ..)
/-- limelight/shade.Host -/
def R142 (T : Nat → List SVal → Option Res) (k : Nat) (x0 : SVal) (x1 : SVal) : Option Res :=
  (T 92 [(weak x0), x1]).bind fun r1 =>
  (sBin .eql r1.r (.int .i64 (-1))).bind fun r2 =>
  pickC r2
  (some { r := (.int .i64 (-1)) })
  ((sIdx true 7 x0 r1.r).bind fun e3 =>
   some { r := (SVal.cell e3 4) })
theorem r142 (T : Nat → List SVal → Option Res) (k : Nat) (x0 : SVal) (x1 : SVal) : bodyE P H T k 142 [x0, x1] = R142 T k x0 x1 := by kernel_rfl
noncomputable def D142 (T : Nat → List SVal → Option Res) (k : Nat) : List SVal → Option Res
  | [x0, x1] => R142 T k x0 x1
  | a => bodyE P H T k 142 a
theorem d142 (T : Nat → List SVal → Option Res) (k : Nat) (a : List SVal) : D142 T k a = bodyE P H T k 142 a := by
  unfold D142
  split
  · exact (r142 ..).symm
  · rfl
theorem t142 (k : Nat) (x0 : SVal) (x1 : SVal) : T (k + 1) 142 [x0, x1] = R142 (T k) k x0 x1 := (by kernel_rfl : T (k + 1) 142 [x0, x1] = bodyE P H (T k) k 142 [x0, x1]).trans (r142 ..)
/-- limelight/slots.Of -/
def R143 (T : Nat → List SVal → Option Res) (k : Nat) (x0 : SVal) (x1 : SVal) : Option Res :=
  if (oneS x0) = true then
  (T 158 [(weak x0), x1]).bind fun r1 =>
  (sBin .eql r1.r (.int .i64 (-1))).bind fun r2 =>
  pickC r2
  (some { r := (.int .i64 (-1)) })
  ((T 95 [(weak x0), x1, (.int .i64 9)]).bind fun r3 =>
   if (oneS r3.r.c0) = true then
   if (oneS r3.r.c1) = true then
   (T 77 [(weak x0), r1.r, (.int .i64 8)]).bind fun r4 =>
   if (oneS r4.r) = true then
   (T 159 [(weak x0), x1]).bind fun r5 =>
   if (oneS r5.r) = true then
   (T 160 [(weak x0), r1.r]).bind fun r6 =>
   (callIt T r6.r).bind fun ys7 =>
   rangeN (fun s8 y8 next8 =>
    (notTup y8).bind fun z9 =>
    (guardX (SVal.cell s8.k4 0) true
     (guardX (SVal.cell s8.k3 0) true
      ((sBin .eql z9 (SVal.cell s8.k2 0)).bind fun r10 =>
       guardX r10 false
       ((sNot (SVal.cell s8.k4 0)).bind fun r11 =>
        guardX r11 true
        ((T 159 [(weak (SVal.cell s8.k0 0)), z9]).bind fun r12 =>
         (sBin .eql r12.r (SVal.cell s8.k5 0)).bind fun r13 =>
         (asB r13).bind fun b14 =>
         some [b14])
        (some [false])
        (none))
       (some [true])
       (none))
      ((sNot (SVal.cell s8.k4 0)).bind fun r15 =>
       guardX r15 true
       ((T 159 [(weak (SVal.cell s8.k0 0)), z9]).bind fun r16 =>
        (sBin .eql r16.r (SVal.cell s8.k5 0)).bind fun r17 =>
        (asB r17).bind fun b18 =>
        some [b18])
       (some [false])
       (none))
      (none))
     ((sNot (SVal.cell s8.k4 0)).bind fun r19 =>
      guardX r19 true
      ((T 159 [(weak (SVal.cell s8.k0 0)), z9]).bind fun r20 =>
       (sBin .eql r20.r (SVal.cell s8.k5 0)).bind fun r21 =>
       (asB r21).bind fun b22 =>
       some [b22])
      (some [false])
      (none))
     (none)).bind fun vs23 =>
    pickC (.bool (vs23.getD 0 false))
    (if (oneS z9) = true then
     some { r := z9 }
     else none)
    (next8 ⟨[(.rp [(SVal.cell s8.k0 0)]), (.mb [s8.k1.c0]), (.rp [(SVal.cell s8.k2 0)]), (.rp [(SVal.cell s8.k3 0)]), (.rp [(SVal.cell s8.k4 0)]), (.rp [(SVal.cell s8.k5 0)])], [], false⟩)) (fun s24 =>
    some { r := (.int .i64 (-1)) }) ys7 ⟨[(.rp [x0]), (.mb [(.int .i64 0)]), (.rp [r3.r.c0]), (.rp [r3.r.c1]), (.rp [r4.r]), (.rp [r5.r])], [], false⟩
   else none
   else none
   else none
   else none)
  else none
theorem r143 (T : Nat → List SVal → Option Res) (k : Nat) (x0 : SVal) (x1 : SVal) : bodyE P H T k 143 [x0, x1] = R143 T k x0 x1 := by kernel_rfl
noncomputable def D143 (T : Nat → List SVal → Option Res) (k : Nat) : List SVal → Option Res
  | [x0, x1] => R143 T k x0 x1
  | a => bodyE P H T k 143 a
theorem d143 (T : Nat → List SVal → Option Res) (k : Nat) (a : List SVal) : D143 T k a = bodyE P H T k 143 a := by
  unfold D143
  split
  · exact (r143 ..).symm
  · rfl
theorem t143 (k : Nat) (x0 : SVal) (x1 : SVal) : T (k + 1) 143 [x0, x1] = R143 (T k) k x0 x1 := (by kernel_rfl : T (k + 1) 143 [x0, x1] = bodyE P H (T k) k 143 [x0, x1]).trans (r143 ..)
/-- limelight/slots.Assigned -/
def R144 (T : Nat → List SVal → Option Res) (k : Nat) (x0 : SVal) (x1 : SVal) : Option Res :=
  if (oneS x0) = true then
  if (oneS x1) = true then
  ((T 161 [(weak x0), x1]).bind fun r1 =>
   (sNot r1.r).bind fun r2 =>
   guardX r2 false
   ((T 162 [(weak x0), x1]).bind fun r3 =>
    (sNot r3.r).bind fun r4 =>
    (asB r4).bind fun b5 =>
    some [b5])
   (some [true])
   (none)).bind fun vs6 =>
  pickC (.bool (vs6.getD 0 false))
  (some { r := (.sl 1 false false []) })
  ((T 142 [(weak x0), x1]).bind fun r7 =>
   (sIdx true 7 x0 r7.r).bind fun e8 =>
   (T 125 [(weak (SVal.cell e8 3))]).bind fun r9 =>
   (T 163 [(.sl 1 true false r9.r.xs), (.fn 164 [(.rp [x0]), (.rp [x1])])]).bind fun r10 =>
   some { r := (.sl 1 false false r10.r.xs) })
  else none
  else none
theorem r144 (T : Nat → List SVal → Option Res) (k : Nat) (x0 : SVal) (x1 : SVal) : bodyE P H T k 144 [x0, x1] = R144 T k x0 x1 := by kernel_rfl
noncomputable def D144 (T : Nat → List SVal → Option Res) (k : Nat) : List SVal → Option Res
  | [x0, x1] => R144 T k x0 x1
  | a => bodyE P H T k 144 a
theorem d144 (T : Nat → List SVal → Option Res) (k : Nat) (a : List SVal) : D144 T k a = bodyE P H T k 144 a := by
  unfold D144
  split
  · exact (r144 ..).symm
  · rfl
theorem t144 (k : Nat) (x0 : SVal) (x1 : SVal) : T (k + 1) 144 [x0, x1] = R144 (T k) k x0 x1 := (by kernel_rfl : T (k + 1) 144 [x0, x1] = bodyE P H (T k) k 144 [x0, x1]).trans (r144 ..)
/-- slices.IndexFunc[[]limelight/api.Attr,limelight/api.Attr] -/
def R145 (T : Nat → List SVal → Option Res) (k : Nat) (x0 : SVal) (x1 : SVal) : Option Res :=
  (sLen x0).bind fun r1 =>
  loopN (fun s2 next2 =>
   (sBin .lss s2.k3 s2.k2).bind fun r3 =>
   pickC r3
   ((sIdx true 2 s2.k0 s2.k3).bind fun e4 =>
    (callV H T s2.k1 [(.agg [(SVal.cell e4 0), (SVal.cell e4 1)])]).bind fun y5 =>
    pickC y5
    (some { r := s2.k3 })
    ((sBin .add s2.k3 (.int .i64 1)).bind fun r6 =>
     next2 ⟨[(weak s2.k0), s2.k1, s2.k2, r6], [], false⟩))
   (some { r := (.int .i64 (-1)) })) k ⟨[(weak x0), x1, r1, (.int .i64 0)], [], false⟩
theorem r145 (T : Nat → List SVal → Option Res) (k : Nat) (x0 : SVal) (x1 : SVal) : bodyE P H T k 145 [x0, x1] = R145 T k x0 x1 := by kernel_rfl
noncomputable def D145 (T : Nat → List SVal → Option Res) (k : Nat) : List SVal → Option Res
  | [x0, x1] => R145 T k x0 x1
  | a => bodyE P H T k 145 a
theorem d145 (T : Nat → List SVal → Option Res) (k : Nat) (a : List SVal) : D145 T k a = bodyE P H T k 145 a := by
  unfold D145
  split
  · exact (r145 ..).symm
  · rfl
theorem t145 (k : Nat) (x0 : SVal) (x1 : SVal) : T (k + 1) 145 [x0, x1] = R145 (T k) k x0 x1 := (by kernel_rfl : T (k + 1) 145 [x0, x1] = bodyE P H (T k) k 145 [x0, x1]).trans (r145 ..)
/-- limelight/attr.at$1 -/
def R146 (T : Nat → List SVal → Option Res) (k : Nat) (x0a : SVal) (x0b : SVal) (x1 : SVal) : Option Res :=
  (sBin .eql x0a x1).bind fun r1 =>
  some { r := r1 }
theorem r146 (T : Nat → List SVal → Option Res) (k : Nat) (x0a : SVal) (x0b : SVal) (x1 : SVal) : bodyE P H T k 146 [(.agg [x0a, x0b]), (.rp [x1])] = R146 T k x0a x0b x1 := by kernel_rfl
noncomputable def D146 (T : Nat → List SVal → Option Res) (k : Nat) : List SVal → Option Res
  | [(.agg [x0a, x0b]), (.rp [x1])] => R146 T k x0a x0b x1
  | a => bodyE P H T k 146 a
theorem d146 (T : Nat → List SVal → Option Res) (k : Nat) (a : List SVal) : D146 T k a = bodyE P H T k 146 a := by
  unfold D146
  split
  · exact (r146 ..).symm
  · rfl
theorem t146 (k : Nat) (x0a : SVal) (x0b : SVal) (x1 : SVal) : T (k + 1) 146 [(.agg [x0a, x0b]), (.rp [x1])] = R146 (T k) k x0a x0b x1 := (by kernel_rfl : T (k + 1) 146 [(.agg [x0a, x0b]), (.rp [x1])] = bodyE P H (T k) k 146 [(.agg [x0a, x0b]), (.rp [x1])]).trans (r146 ..)
/-- limelight/limelightref03.List -/
def R147 (T : Nat → List SVal → Option Res) (k : Nat) (x0 : SVal) (x1 : SVal) : Option Res :=
  if (List.all [[.v x1]] allOne) = true then
  loopN (fun s1 next1 =>
   (sIdx true 7 s1.k0 s1.k1).bind fun e2 =>
   (sLen (SVal.cell e2 3)).bind fun r3 =>
   (sBin .lss s1.k3 r3).bind fun r4 =>
   pickC r4
   ((sIdx true 7 s1.k0 s1.k1).bind fun e5 =>
    (sIdx false 1 (SVal.cell e5 3) s1.k3).bind fun e6 =>
    (T 147 [(weak s1.k0), e6]).bind fun r7 =>
    (elems 1 r7.r).bind fun ys8 =>
    if (s1.k2.xs.length + ys8.length) * 8 ≤ maxAppend then
    (sBin .add s1.k3 (.int .i64 1)).bind fun r9 =>
    next1 ⟨[(weak s1.k0), s1.k1, (.sl 1 true false (s1.k2.xs ++ ys8)), r9], [], false⟩
    else none)
   (some { r := (.sl 1 false false s1.k2.xs) })) k ⟨[(weak x0), x1, (.sl 1 true false [x1]), (.int .i64 0)], [], false⟩
  else none
theorem r147 (T : Nat → List SVal → Option Res) (k : Nat) (x0 : SVal) (x1 : SVal) : bodyE P H T k 147 [x0, x1] = R147 T k x0 x1 := by kernel_rfl
noncomputable def D147 (T : Nat → List SVal → Option Res) (k : Nat) : List SVal → Option Res
  | [x0, x1] => R147 T k x0 x1
  | a => bodyE P H T k 147 a
theorem d147 (T : Nat → List SVal → Option Res) (k : Nat) (a : List SVal) : D147 T k a = bodyE P H T k 147 a := by
  unfold D147
  split
  · exact (r147 ..).symm
  · rfl
theorem t147 (k : Nat) (x0 : SVal) (x1 : SVal) : T (k + 1) 147 [x0, x1] = R147 (T k) k x0 x1 := (by kernel_rfl : T (k + 1) 147 [x0, x1] = bodyE P H (T k) k 147 [x0, x1]).trans (r147 ..)
/-- limelight/tree.is -/
def R148 (T : Nat → List SVal → Option Res) (k : Nat) (x0 : SVal) (x1 : SVal) : Option Res :=
  (sLen x0).bind fun r1 =>
  (sBin .sub r1 (.int .i64 1)).bind fun r2 =>
  (T 130 [x1, (.int .i64 0), r2]).bind fun r3 =>
  some { r := r3.r }
theorem r148 (T : Nat → List SVal → Option Res) (k : Nat) (x0 : SVal) (x1 : SVal) : bodyE P H T k 148 [x0, x1] = R148 T k x0 x1 := by kernel_rfl
noncomputable def D148 (T : Nat → List SVal → Option Res) (k : Nat) : List SVal → Option Res
  | [x0, x1] => R148 T k x0 x1
  | a => bodyE P H T k 148 a
theorem d148 (T : Nat → List SVal → Option Res) (k : Nat) (a : List SVal) : D148 T k a = bodyE P H T k 148 a := by
  unfold D148
  split
  · exact (r148 ..).symm
  · rfl
theorem t148 (k : Nat) (x0 : SVal) (x1 : SVal) : T (k + 1) 148 [x0, x1] = R148 (T k) k x0 x1 := (by kernel_rfl : T (k + 1) 148 [x0, x1] = bodyE P H (T k) k 148 [x0, x1]).trans (r148 ..)
/-- limelight/tree.once -/
def R149 (T : Nat → List SVal → Option Res) (k : Nat) (x0 : SVal) (x1 : SVal) : Option Res :=
  (T 96 [(weak x0), x1]).bind fun r1 =>
  ((sBin .geq r1.r (.int .i64 0)).bind fun r2 =>
   guardX r2 true
   ((sBin .add r1.r (.int .i64 1)).bind fun r3 =>
    (sSlice 1 x0 (some r3) none).bind fun r4 =>
    (T 78 [(weak r4), x1]).bind fun r5 =>
    (sNot r5.r).bind fun r6 =>
    (asB r6).bind fun b7 =>
    some [b7])
   (some [false])
   (none)).bind fun vs8 =>
  some { r := (.bool (vs8.getD 0 false)) }
theorem r149 (T : Nat → List SVal → Option Res) (k : Nat) (x0 : SVal) (x1 : SVal) : bodyE P H T k 149 [x0, x1] = R149 T k x0 x1 := by kernel_rfl
noncomputable def D149 (T : Nat → List SVal → Option Res) (k : Nat) : List SVal → Option Res
  | [x0, x1] => R149 T k x0 x1
  | a => bodyE P H T k 149 a
theorem d149 (T : Nat → List SVal → Option Res) (k : Nat) (a : List SVal) : D149 T k a = bodyE P H T k 149 a := by
  unfold D149
  split
  · exact (r149 ..).symm
  · rfl
theorem t149 (k : Nat) (x0 : SVal) (x1 : SVal) : T (k + 1) 149 [x0, x1] = R149 (T k) k x0 x1 := (by kernel_rfl : T (k + 1) 149 [x0, x1] = bodyE P H (T k) k 149 [x0, x1]).trans (r149 ..)
/-- limelight/tree.attrs -/
def R150 (T : Nat → List SVal → Option Res) (k : Nat) (x0a : SVal) (x0b : SVal) (x0c : SVal) (x0d : SVal) (x0e : SVal) (x0f : SVal) (x0g : SVal) : Option Res :=
  (sLen x0g).bind fun r1 =>
  loopN (fun s2 next2 =>
   (sBin .lss s2.k4 s2.k3).bind fun r3 =>
   pickC r3
   ((sIdx true 2 s2.k2 s2.k4).bind fun e4 =>
    if (allOne [.v (SVal.cell e4 0), .v (SVal.cell e4 1)]) = true then
    ((sBin .eql (SVal.cell e4 0) (.int .i64 7)).bind fun r5 =>
     guardX r5 false
     ((sBin .eql (SVal.cell e4 0) (.int .i64 8)).bind fun r6 =>
      (asB r6).bind fun b7 =>
      some [b7])
     (some [true])
     (none)).bind fun vs8 =>
    ((sBin .leq (SVal.cell e4 0) s2.k1).bind fun r9 =>
     guardX r9 false
     ((sBin .geq (SVal.cell e4 0) (.int .i64 10)).bind fun r10 =>
      guardX r10 false
      ((T 165 [(.agg [(SVal.cell e4 0), (SVal.cell e4 1)])]).bind fun r11 =>
       (sNot r11.r).bind fun r12 =>
       guardX r12 false
       ((sBin .eql (SVal.cell s2.k0 0) (.int .i64 3)).bind fun r13 =>
        (sBinB .neq (.bool (vs8.getD 0 false)) r13).bind fun r14 =>
        (asB r14).bind fun b15 =>
        some [b15])
       (some [true])
       (none))
      (some [true])
      (none))
     (some [true])
     (none)).bind fun vs16 =>
    pickC (.bool (vs16.getD 0 false))
    (some { r := (.bool false) })
    ((sBin .add s2.k4 (.int .i64 1)).bind fun r17 =>
     next2 ⟨[(.rp [(SVal.cell s2.k0 0), (SVal.cell s2.k0 1), (SVal.cell s2.k0 2), (SVal.cell s2.k0 3), (SVal.cell s2.k0 4), (SVal.cell s2.k0 5), (SVal.cell s2.k0 6)]), (SVal.cell e4 0), (weak s2.k2), s2.k3, r17], [], false⟩)
    else none)
   (((sLen (SVal.cell s2.k0 6)).bind fun r18 =>
     (sBin .eql r18 (.int .i64 0)).bind fun r19 =>
     guardX r19 false
     ((sBin .eql (SVal.cell s2.k0 0) (.int .i64 1)).bind fun r20 =>
      guardX r20 false
      ((sBin .eql (SVal.cell s2.k0 0) (.int .i64 3)).bind fun r21 =>
       (asB r21).bind fun b22 =>
       some [b22])
      (some [true])
      (none))
     (some [true])
     (none)).bind fun vs23 =>
    some { r := (.bool (vs23.getD 0 false)) })) k ⟨[(.rp [x0a, x0b, x0c, x0d, x0e, x0f, x0g]), (.int .i64 (-1)), (weak x0g), r1, (.int .i64 0)], [], false⟩
theorem r150 (T : Nat → List SVal → Option Res) (k : Nat) (x0a : SVal) (x0b : SVal) (x0c : SVal) (x0d : SVal) (x0e : SVal) (x0f : SVal) (x0g : SVal) : bodyE P H T k 150 [(.agg [x0a, x0b, x0c, x0d, x0e, x0f, x0g])] = R150 T k x0a x0b x0c x0d x0e x0f x0g := by kernel_rfl
noncomputable def D150 (T : Nat → List SVal → Option Res) (k : Nat) : List SVal → Option Res
  | [(.agg [x0a, x0b, x0c, x0d, x0e, x0f, x0g])] => R150 T k x0a x0b x0c x0d x0e x0f x0g
  | a => bodyE P H T k 150 a
theorem d150 (T : Nat → List SVal → Option Res) (k : Nat) (a : List SVal) : D150 T k a = bodyE P H T k 150 a := by
  unfold D150
  split
  · exact (r150 ..).symm
  · rfl
theorem t150 (k : Nat) (x0a : SVal) (x0b : SVal) (x0c : SVal) (x0d : SVal) (x0e : SVal) (x0f : SVal) (x0g : SVal) : T (k + 1) 150 [(.agg [x0a, x0b, x0c, x0d, x0e, x0f, x0g])] = R150 (T k) k x0a x0b x0c x0d x0e x0f x0g := (by kernel_rfl : T (k + 1) 150 [(.agg [x0a, x0b, x0c, x0d, x0e, x0f, x0g])] = bodyE P H (T k) k 150 [(.agg [x0a, x0b, x0c, x0d, x0e, x0f, x0g])]).trans (r150 ..)
/-- limelight/tree.shadow -/
def R151 (T : Nat → List SVal → Option Res) (k : Nat) (x0 : SVal) (x1 : SVal) : Option Res :=
  (sIdx true 7 x0 x1).bind fun e1 =>
  if (allOne [.v (SVal.cell e1 0), .v (SVal.cell e1 1), .v (SVal.cell e1 2), .v (SVal.cell e1 3), .v (SVal.cell e1 4), .v (SVal.cell e1 5), .v (SVal.cell e1 6)]) = true then
  (sBin .eql (SVal.cell e1 0) (.int .i64 3)).bind fun r2 =>
  pickC r2
  (((sBin .eql (SVal.cell e1 5) (.int .i64 (-1))).bind fun r3 =>
    guardX r3 true
    ((sBin .eql (SVal.cell e1 2) (.int .i64 (-1))).bind fun r4 =>
     guardX r4 true
     ((T 148 [(weak x0), (SVal.cell e1 4)]).bind fun r5 =>
      guardX r5.r true
      ((sIdx true 7 x0 (SVal.cell e1 4)).bind fun e6 =>
       (sBin .eql (SVal.cell e6 0) (.int .i64 1)).bind fun r7 =>
       guardX r7 true
       ((sIdx true 7 x0 (SVal.cell e1 4)).bind fun e8 =>
        (sBin .eql (SVal.cell e8 5) x1).bind fun r9 =>
        (asB r9).bind fun b10 =>
        some [b10])
       (some [false])
       (none))
      (some [false])
      (none))
     (some [false])
     (none))
    (some [false])
    (none)).bind fun vs11 =>
   some { r := (.bool (vs11.getD 0 false)) })
  ((sBin .neq (SVal.cell e1 4) (.int .i64 (-1))).bind fun r12 =>
   pickC r12
   (some { r := (.bool false) })
   ((sBin .eql (SVal.cell e1 5) (.int .i64 (-1))).bind fun r13 =>
    pickC r13
    (some { r := (.bool true) })
    (((sBin .eql (SVal.cell e1 0) (.int .i64 1)).bind fun r14 =>
      guardX r14 true
      ((T 148 [(weak x0), (SVal.cell e1 5)]).bind fun r15 =>
       guardX r15.r true
       ((sIdx true 7 x0 (SVal.cell e1 5)).bind fun e16 =>
        (sBin .eql (SVal.cell e16 0) (.int .i64 3)).bind fun r17 =>
        guardX r17 true
        ((sIdx true 7 x0 (SVal.cell e1 5)).bind fun e18 =>
         (sBin .eql (SVal.cell e18 4) x1).bind fun r19 =>
         (asB r19).bind fun b20 =>
         some [b20])
        (some [false])
        (none))
       (some [false])
       (none))
      (some [false])
      (none)).bind fun vs21 =>
     some { r := (.bool (vs21.getD 0 false)) })))
  else none
theorem r151 (T : Nat → List SVal → Option Res) (k : Nat) (x0 : SVal) (x1 : SVal) : bodyE P H T k 151 [x0, x1] = R151 T k x0 x1 := by kernel_rfl
noncomputable def D151 (T : Nat → List SVal → Option Res) (k : Nat) : List SVal → Option Res
  | [x0, x1] => R151 T k x0 x1
  | a => bodyE P H T k 151 a
theorem d151 (T : Nat → List SVal → Option Res) (k : Nat) (a : List SVal) : D151 T k a = bodyE P H T k 151 a := by
  unfold D151
  split
  · exact (r151 ..).symm
  · rfl
theorem t151 (k : Nat) (x0 : SVal) (x1 : SVal) : T (k + 1) 151 [x0, x1] = R151 (T k) k x0 x1 := (by kernel_rfl : T (k + 1) 151 [x0, x1] = bodyE P H (T k) k 151 [x0, x1]).trans (r151 ..)
/-- limelight/tree.node$1 -/
def R152 (T : Nat → List SVal → Option Res) (k : Nat) (x0 : SVal) (x1 : SVal) (x2 : SVal) : Option Res :=
  (T 153 [(weak x1), x2, x0]).bind fun r1 =>
  (sNot r1.r).bind fun r2 =>
  some { r := r2 }
theorem r152 (T : Nat → List SVal → Option Res) (k : Nat) (x0 : SVal) (x1 : SVal) (x2 : SVal) : bodyE P H T k 152 [x0, (.rp [x1]), (.rp [x2])] = R152 T k x0 x1 x2 := by kernel_rfl
noncomputable def D152 (T : Nat → List SVal → Option Res) (k : Nat) : List SVal → Option Res
  | [x0, (.rp [x1]), (.rp [x2])] => R152 T k x0 x1 x2
  | a => bodyE P H T k 152 a
theorem d152 (T : Nat → List SVal → Option Res) (k : Nat) (a : List SVal) : D152 T k a = bodyE P H T k 152 a := by
  unfold D152
  split
  · exact (r152 ..).symm
  · rfl
theorem t152 (k : Nat) (x0 : SVal) (x1 : SVal) (x2 : SVal) : T (k + 1) 152 [x0, (.rp [x1]), (.rp [x2])] = R152 (T k) k x0 x1 x2 := (by kernel_rfl : T (k + 1) 152 [x0, (.rp [x1]), (.rp [x2])] = bodyE P H (T k) k 152 [x0, (.rp [x1]), (.rp [x2])]).trans (r152 ..)
/-- limelight/tree.below -/
def R153 (T : Nat → List SVal → Option Res) (k : Nat) (x0 : SVal) (x1 : SVal) (x2 : SVal) : Option Res :=
  ((T 148 [(weak x0), x2]).bind fun r1 =>
   guardX r1.r true
   ((sIdx true 7 x0 x1).bind fun e2 =>
    (T 149 [(weak (SVal.cell e2 3)), x2]).bind fun r3 =>
    guardX r3.r true
    ((sIdx true 7 x0 x2).bind fun e4 =>
     (sBin .eql (SVal.cell e4 2) x1).bind fun r5 =>
     guardX r5 true
     ((sIdx true 7 x0 x2).bind fun e6 =>
      (sBin .eql (SVal.cell e6 0) (.int .i64 1)).bind fun r7 =>
      guardX r7 false
      ((sIdx true 7 x0 x2).bind fun e8 =>
       (sBin .eql (SVal.cell e8 0) (.int .i64 2)).bind fun r9 =>
       (asB r9).bind fun b10 =>
       some [b10])
      (some [true])
      (none))
     (some [false])
     (none))
    (some [false])
    (none))
   (some [false])
   (none)).bind fun vs11 =>
  some { r := (.bool (vs11.getD 0 false)) }
theorem r153 (T : Nat → List SVal → Option Res) (k : Nat) (x0 : SVal) (x1 : SVal) (x2 : SVal) : bodyE P H T k 153 [x0, x1, x2] = R153 T k x0 x1 x2 := by kernel_rfl
noncomputable def D153 (T : Nat → List SVal → Option Res) (k : Nat) : List SVal → Option Res
  | [x0, x1, x2] => R153 T k x0 x1 x2
  | a => bodyE P H T k 153 a
theorem d153 (T : Nat → List SVal → Option Res) (k : Nat) (a : List SVal) : D153 T k a = bodyE P H T k 153 a := by
  unfold D153
  split
  · exact (r153 ..).symm
  · rfl
theorem t153 (k : Nat) (x0 : SVal) (x1 : SVal) (x2 : SVal) : T (k + 1) 153 [x0, x1, x2] = R153 (T k) k x0 x1 x2 := (by kernel_rfl : T (k + 1) 153 [x0, x1, x2] = bodyE P H (T k) k 153 [x0, x1, x2]).trans (r153 ..)
/-- limelight/tree.up -/
def R154 (T : Nat → List SVal → Option Res) (k : Nat) (x0 : SVal) (x1 : SVal) : Option Res :=
  if (oneS x0) = true then
  if (oneS x1) = true then
  some { r := (.fn 166 [(.rp [x0]), (.mb [x1])]) }
  else none
  else none
theorem r154 (T : Nat → List SVal → Option Res) (k : Nat) (x0 : SVal) (x1 : SVal) : bodyE P H T k 154 [x0, x1] = R154 T k x0 x1 := by kernel_rfl
noncomputable def D154 (T : Nat → List SVal → Option Res) (k : Nat) : List SVal → Option Res
  | [x0, x1] => R154 T k x0 x1
  | a => bodyE P H T k 154 a
theorem d154 (T : Nat → List SVal → Option Res) (k : Nat) (a : List SVal) : D154 T k a = bodyE P H T k 154 a := by
  unfold D154
  split
  · exact (r154 ..).symm
  · rfl
theorem t154 (k : Nat) (x0 : SVal) (x1 : SVal) : T (k + 1) 154 [x0, x1] = R154 (T k) k x0 x1 := (by kernel_rfl : T (k + 1) 154 [x0, x1] = bodyE P H (T k) k 154 [x0, x1]).trans (r154 ..)
/-- limelight/shade.Connected -/
def R155 (T : Nat → List SVal → Option Res) (k : Nat) (x0 : SVal) (x1 : SVal) : Option Res :=
  (T 167 [(weak x0), (.int .i64 0), x1]).bind fun r1 =>
  some { r := r1.r }
theorem r155 (T : Nat → List SVal → Option Res) (k : Nat) (x0 : SVal) (x1 : SVal) : bodyE P H T k 155 [x0, x1] = R155 T k x0 x1 := by kernel_rfl
noncomputable def D155 (T : Nat → List SVal → Option Res) (k : Nat) : List SVal → Option Res
  | [x0, x1] => R155 T k x0 x1
  | a => bodyE P H T k 155 a
theorem d155 (T : Nat → List SVal → Option Res) (k : Nat) (a : List SVal) : D155 T k a = bodyE P H T k 155 a := by
  unfold D155
  split
  · exact (r155 ..).symm
  · rfl
theorem t155 (k : Nat) (x0 : SVal) (x1 : SVal) : T (k + 1) 155 [x0, x1] = R155 (T k) k x0 x1 := (by kernel_rfl : T (k + 1) 155 [x0, x1] = bodyE P H (T k) k 155 [x0, x1]).trans (r155 ..)
/-- limelight/slots.root -/
def R158 (T : Nat → List SVal → Option Res) (k : Nat) (x0 : SVal) (x1 : SVal) : Option Res :=
  ((T 161 [(weak x0), x1]).bind fun r1 =>
   (sNot r1.r).bind fun r2 =>
   guardX r2 false
   ((sIdx true 7 x0 x1).bind fun e3 =>
    (sBin .eql (SVal.cell e3 2) (.int .i64 (-1))).bind fun r4 =>
    (asB r4).bind fun b5 =>
    some [b5])
   (some [true])
   (none)).bind fun vs6 =>
  pickC (.bool (vs6.getD 0 false))
  (some { r := (.int .i64 (-1)) })
  ((sIdx true 7 x0 x1).bind fun e7 =>
   (sIdx true 7 x0 (SVal.cell e7 2)).bind fun e8 =>
   some { r := (SVal.cell e8 5) })
theorem r158 (T : Nat → List SVal → Option Res) (k : Nat) (x0 : SVal) (x1 : SVal) : bodyE P H T k 158 [x0, x1] = R158 T k x0 x1 := by kernel_rfl
noncomputable def D158 (T : Nat → List SVal → Option Res) (k : Nat) : List SVal → Option Res
  | [x0, x1] => R158 T k x0 x1
  | a => bodyE P H T k 158 a
theorem d158 (T : Nat → List SVal → Option Res) (k : Nat) (a : List SVal) : D158 T k a = bodyE P H T k 158 a := by
  unfold D158
  split
  · exact (r158 ..).symm
  · rfl
theorem t158 (k : Nat) (x0 : SVal) (x1 : SVal) : T (k + 1) 158 [x0, x1] = R158 (T k) k x0 x1 := (by kernel_rfl : T (k + 1) 158 [x0, x1] = bodyE P H (T k) k 158 [x0, x1]).trans (r158 ..)
/-- limelight/slots.name -/
def R159 (T : Nat → List SVal → Option Res) (k : Nat) (x0 : SVal) (x1 : SVal) : Option Res :=
  (T 95 [(weak x0), x1, (.int .i64 4)]).bind fun r1 =>
  some { r := r1.r.c0 }
theorem r159 (T : Nat → List SVal → Option Res) (k : Nat) (x0 : SVal) (x1 : SVal) : bodyE P H T k 159 [x0, x1] = R159 T k x0 x1 := by kernel_rfl
noncomputable def D159 (T : Nat → List SVal → Option Res) (k : Nat) : List SVal → Option Res
  | [x0, x1] => R159 T k x0 x1
  | a => bodyE P H T k 159 a
theorem d159 (T : Nat → List SVal → Option Res) (k : Nat) (a : List SVal) : D159 T k a = bodyE P H T k 159 a := by
  unfold D159
  split
  · exact (r159 ..).symm
  · rfl
theorem t159 (k : Nat) (x0 : SVal) (x1 : SVal) : T (k + 1) 159 [x0, x1] = R159 (T k) k x0 x1 := (by kernel_rfl : T (k + 1) 159 [x0, x1] = bodyE P H (T k) k 159 [x0, x1]).trans (r159 ..)
/-- limelight/slots.within -/
def R160 (T : Nat → List SVal → Option Res) (k : Nat) (x0 : SVal) (x1 : SVal) : Option Res :=
  if (oneS x0) = true then
  if (oneS x1) = true then
  some { r := (.fn 179 [(.rp [x0]), (.rp [x1])]) }
  else none
  else none
theorem r160 (T : Nat → List SVal → Option Res) (k : Nat) (x0 : SVal) (x1 : SVal) : bodyE P H T k 160 [x0, x1] = R160 T k x0 x1 := by kernel_rfl
noncomputable def D160 (T : Nat → List SVal → Option Res) (k : Nat) : List SVal → Option Res
  | [x0, x1] => R160 T k x0 x1
  | a => bodyE P H T k 160 a
theorem d160 (T : Nat → List SVal → Option Res) (k : Nat) (a : List SVal) : D160 T k a = bodyE P H T k 160 a := by
  unfold D160
  split
  · exact (r160 ..).symm
  · rfl
theorem t160 (k : Nat) (x0 : SVal) (x1 : SVal) : T (k + 1) 160 [x0, x1] = R160 (T k) k x0 x1 := (by kernel_rfl : T (k + 1) 160 [x0, x1] = bodyE P H (T k) k 160 [x0, x1]).trans (r160 ..)
/-- limelight/slots.is -/
def R161 (T : Nat → List SVal → Option Res) (k : Nat) (x0 : SVal) (x1 : SVal) : Option Res :=
  (T 92 [(weak x0), x1]).bind fun r1 =>
  (sBin .neq r1.r (.int .i64 (-1))).bind fun r2 =>
  some { r := r2 }
theorem r161 (T : Nat → List SVal → Option Res) (k : Nat) (x0 : SVal) (x1 : SVal) : bodyE P H T k 161 [x0, x1] = R161 T k x0 x1 := by kernel_rfl
noncomputable def D161 (T : Nat → List SVal → Option Res) (k : Nat) : List SVal → Option Res
  | [x0, x1] => R161 T k x0 x1
  | a => bodyE P H T k 161 a
theorem d161 (T : Nat → List SVal → Option Res) (k : Nat) (a : List SVal) : D161 T k a = bodyE P H T k 161 a := by
  unfold D161
  split
  · exact (r161 ..).symm
  · rfl
theorem t161 (k : Nat) (x0 : SVal) (x1 : SVal) : T (k + 1) 161 [x0, x1] = R161 (T k) k x0 x1 := (by kernel_rfl : T (k + 1) 161 [x0, x1] = bodyE P H (T k) k 161 [x0, x1]).trans (r161 ..)
/-- limelight/slots.slot -/
def R162 (T : Nat → List SVal → Option Res) (k : Nat) (x0 : SVal) (x1 : SVal) : Option Res :=
  ((sIdx true 7 x0 x1).bind fun e1 =>
   (sBin .eql (SVal.cell e1 0) (.int .i64 1)).bind fun r2 =>
   guardX r2 true
   ((sIdx true 7 x0 x1).bind fun e3 =>
    (sBin .eql (SVal.cell e3 1) (.int .i64 3)).bind fun r4 =>
    guardX r4 true
    ((T 142 [(weak x0), x1]).bind fun r5 =>
     (sBin .neq r5.r (.int .i64 (-1))).bind fun r6 =>
     (asB r6).bind fun b7 =>
     some [b7])
    (some [false])
    (none))
   (some [false])
   (none)).bind fun vs8 =>
  some { r := (.bool (vs8.getD 0 false)) }
theorem r162 (T : Nat → List SVal → Option Res) (k : Nat) (x0 : SVal) (x1 : SVal) : bodyE P H T k 162 [x0, x1] = R162 T k x0 x1 := by kernel_rfl
noncomputable def D162 (T : Nat → List SVal → Option Res) (k : Nat) : List SVal → Option Res
  | [x0, x1] => R162 T k x0 x1
  | a => bodyE P H T k 162 a
theorem d162 (T : Nat → List SVal → Option Res) (k : Nat) (a : List SVal) : D162 T k a = bodyE P H T k 162 a := by
  unfold D162
  split
  · exact (r162 ..).symm
  · rfl
theorem t162 (k : Nat) (x0 : SVal) (x1 : SVal) : T (k + 1) 162 [x0, x1] = R162 (T k) k x0 x1 := (by kernel_rfl : T (k + 1) 162 [x0, x1] = bodyE P H (T k) k 162 [x0, x1]).trans (r162 ..)
/-- slices.DeleteFunc[[]int,int] -/
def R163 (T : Nat → List SVal → Option Res) (k : Nat) (x0 : List SVal) (x1 : SVal) : Option Res :=
  (T 73 [(.sl 1 false false x0), x1]).bind fun r1 =>
  if isSc1 r1.r = true then
  (sBin .eql r1.r (.int .i64 (-1))).bind fun r2 =>
  pickC r2
  (some { r := (.sl 1 true false x0) })
  ((sBin .add r1.r (.int .i64 1)).bind fun r3 =>
   loopN (fun s4 next4 =>
    (sBin .lss s4.k3 (.int .i64 (s4.k0.xs.length : Nat))).bind fun r5 =>
    pickC r5
    ((sIn s4.k0.xs.length s4.k3).bind fun j6 =>
     (s4.k0.xs[j6]?).bind fun e7 =>
     if (elemOk false 1 e7) = true then
     (callV H T s4.k1 [e7]).bind fun y8 =>
     (sNot y8).bind fun r9 =>
     pickC r9
     ((sIn s4.k0.xs.length s4.k2).bind fun j10 =>
      (s4.k0.xs[j10]?).bind fun e11 =>
      if (elemOk false 1 e11) = true then
      if (oneS e7) = true then
      (sBin .add s4.k2 (.int .i64 1)).bind fun r12 =>
      (sBin .add s4.k3 (.int .i64 1)).bind fun r13 =>
      next4 ⟨[(.sl 1 true false (s4.k0.xs.set j10 e7)), s4.k1, r12, r13], [], false⟩
      else none
      else none)
     ((sBin .add s4.k3 (.int .i64 1)).bind fun r14 =>
      next4 ⟨[(.sl 1 true false s4.k0.xs), s4.k1, s4.k2, r14], [], false⟩)
     else none)
    ((sBnd s4.k0.xs.length s4.k2).bind fun n15 =>
     if n15 ≤ s4.k0.xs.length then
     (sBnd (s4.k0.xs.take n15 ++ List.replicate (s4.k0.xs.length - n15) (int 0)).length s4.k2).bind fun n16 =>
     some { r := (.sl 1 true false ((s4.k0.xs.take n15 ++ List.replicate (s4.k0.xs.length - n15) (int 0)).take n16)) }
     else none)) k ⟨[(.sl 1 true false x0), x1, r1.r, r3], [], false⟩)
  else none
theorem r163 (T : Nat → List SVal → Option Res) (k : Nat) (x0 : List SVal) (x1 : SVal) : bodyE P H T k 163 [(.sl 1 true false x0), x1] = R163 T k x0 x1 := by kernel_rfl
noncomputable def D163 (T : Nat → List SVal → Option Res) (k : Nat) : List SVal → Option Res
  | [(.sl 1 true false x0), x1] => R163 T k x0 x1
  | a => bodyE P H T k 163 a
theorem d163 (T : Nat → List SVal → Option Res) (k : Nat) (a : List SVal) : D163 T k a = bodyE P H T k 163 a := by
  unfold D163
  split
  · exact (r163 ..).symm
  · rfl
theorem t163 (k : Nat) (x0 : List SVal) (x1 : SVal) : T (k + 1) 163 [(.sl 1 true false x0), x1] = R163 (T k) k x0 x1 := (by kernel_rfl : T (k + 1) 163 [(.sl 1 true false x0), x1] = bodyE P H (T k) k 163 [(.sl 1 true false x0), x1]).trans (r163 ..)
/-- limelight/slots.Assigned$1 -/
def R164 (T : Nat → List SVal → Option Res) (k : Nat) (x0 : SVal) (x1 : SVal) (x2 : SVal) : Option Res :=
  (T 143 [(weak x1), x0]).bind fun r1 =>
  (sBin .neq r1.r x2).bind fun r2 =>
  some { r := r2 }
theorem r164 (T : Nat → List SVal → Option Res) (k : Nat) (x0 : SVal) (x1 : SVal) (x2 : SVal) : bodyE P H T k 164 [x0, (.rp [x1]), (.rp [x2])] = R164 T k x0 x1 x2 := by kernel_rfl
noncomputable def D164 (T : Nat → List SVal → Option Res) (k : Nat) : List SVal → Option Res
  | [x0, (.rp [x1]), (.rp [x2])] => R164 T k x0 x1 x2
  | a => bodyE P H T k 164 a
theorem d164 (T : Nat → List SVal → Option Res) (k : Nat) (a : List SVal) : D164 T k a = bodyE P H T k 164 a := by
  unfold D164
  split
  · exact (r164 ..).symm
  · rfl
theorem t164 (k : Nat) (x0 : SVal) (x1 : SVal) (x2 : SVal) : T (k + 1) 164 [x0, (.rp [x1]), (.rp [x2])] = R164 (T k) k x0 x1 x2 := (by kernel_rfl : T (k + 1) 164 [x0, (.rp [x1]), (.rp [x2])] = bodyE P H (T k) k 164 [x0, (.rp [x1]), (.rp [x2])]).trans (r164 ..)
/-- limelight/tree.value -/
def R165 (T : Nat → List SVal → Option Res) (k : Nat) (x0a : SVal) (x0b : SVal) : Option Res :=
  (sBin .eql x0a (.int .i64 0)).bind fun r1 =>
  pickC r1
  ((T 130 [x0b, (.int .i64 (-2147483648)), (.int .i64 2147483647)]).bind fun r2 =>
   some { r := r2.r })
  ((sBin .eql x0a (.int .i64 4)).bind fun r3 =>
   pickC r3
   ((T 130 [x0b, (.int .i64 0), (.int .i64 2147483647)]).bind fun r4 =>
    some { r := r4.r })
   ((sBin .eql x0a (.int .i64 6)).bind fun r5 =>
    pickC r5
    ((T 130 [x0b, (.int .i64 1), (.int .i64 3)]).bind fun r6 =>
     some { r := r6.r })
    ((sBin .eql x0a (.int .i64 9)).bind fun r7 =>
     pickC r7
     ((T 130 [x0b, (.int .i64 0), (.int .i64 63)]).bind fun r8 =>
      some { r := r8.r })
     ((sBin .eql x0b (.int .i64 0)).bind fun r9 =>
      some { r := r9 }))))
theorem r165 (T : Nat → List SVal → Option Res) (k : Nat) (x0a : SVal) (x0b : SVal) : bodyE P H T k 165 [(.agg [x0a, x0b])] = R165 T k x0a x0b := by kernel_rfl
noncomputable def D165 (T : Nat → List SVal → Option Res) (k : Nat) : List SVal → Option Res
  | [(.agg [x0a, x0b])] => R165 T k x0a x0b
  | a => bodyE P H T k 165 a
theorem d165 (T : Nat → List SVal → Option Res) (k : Nat) (a : List SVal) : D165 T k a = bodyE P H T k 165 a := by
  unfold D165
  split
  · exact (r165 ..).symm
  · rfl
theorem t165 (k : Nat) (x0a : SVal) (x0b : SVal) : T (k + 1) 165 [(.agg [x0a, x0b])] = R165 (T k) k x0a x0b := (by kernel_rfl : T (k + 1) 165 [(.agg [x0a, x0b])] = bodyE P H (T k) k 165 [(.agg [x0a, x0b])]).trans (r165 ..)
/-- limelight/tree.up$1 -/
def R166 (T : Nat → List SVal → Option Res) (k : Nat) (x1 : SVal) (x2 : SVal) : Option Res :=
  (sLen x1).bind fun r1 =>
  (sBin .add r1 (.int .i64 1)).bind fun r2 =>
  loopN (fun s3 next3 =>
   (sBin .lss s3.k4 s3.k3).bind fun r4 =>
   pickC r4
   ((sBin .eql (SVal.cell s3.k2 0) (.int .i64 (-1))).bind fun r5 =>
    guardX r5 false
    (if (s3.stop) = true then none else
     (notTup (SVal.cell s3.k2 0)).bind fun y6 =>
     both
     ((sIdx true 7 (SVal.cell s3.k1 0) (SVal.cell s3.k2 0)).bind fun e7 =>
      (sIdx true 7 (SVal.cell s3.k1 0) (SVal.cell s3.k2 0)).bind fun e8 =>
      (sMax (SVal.cell e7 2) (SVal.cell e8 4)).bind fun r9 =>
      if (oneS r9) = true then
      (sBin .add s3.k4 (.int .i64 1)).bind fun r10 =>
      next3 ⟨[.yld, (.rp [(SVal.cell s3.k1 0)]), (.mb [r9]), s3.k3, r10], (s3.out ++ [y6]), s3.stop⟩
      else none)
     (some { r := (.tup []) }))
    (if (s3.stop) = true then
     some { r := (.tup []) }
     else
     some { r := (.tup []), out := s3.out })
    (none))
   (if (s3.stop) = true then
    some { r := (.tup []) }
    else
    some { r := (.tup []), out := s3.out })) k ⟨[.yld, (.rp [x1]), (.mb [x2]), r2, (.int .i64 0)], [], false⟩
theorem r166 (T : Nat → List SVal → Option Res) (k : Nat) (x1 : SVal) (x2 : SVal) : bodyE P H T k 166 [.yld, (.rp [x1]), (.mb [x2])] = R166 T k x1 x2 := by kernel_rfl
noncomputable def D166 (T : Nat → List SVal → Option Res) (k : Nat) : List SVal → Option Res
  | [.yld, (.rp [x1]), (.mb [x2])] => R166 T k x1 x2
  | a => bodyE P H T k 166 a
theorem d166 (T : Nat → List SVal → Option Res) (k : Nat) (a : List SVal) : D166 T k a = bodyE P H T k 166 a := by
  unfold D166
  split
  · exact (r166 ..).symm
  · rfl
theorem t166 (k : Nat) (x1 : SVal) (x2 : SVal) : T (k + 1) 166 [.yld, (.rp [x1]), (.mb [x2])] = R166 (T k) k x1 x2 := (by kernel_rfl : T (k + 1) 166 [.yld, (.rp [x1]), (.mb [x2])] = bodyE P H (T k) k 166 [.yld, (.rp [x1]), (.mb [x2])]).trans (r166 ..)
/-- limelight/shade.Above -/
def R167 (T : Nat → List SVal → Option Res) (k : Nat) (x0 : SVal) (x1 : SVal) (x2 : SVal) : Option Res :=
  (T 181 [(weak x0), x2]).bind fun r1 =>
  (T 78 [(weak r1.r), x1]).bind fun r2 =>
  some { r := r2.r }
theorem r167 (T : Nat → List SVal → Option Res) (k : Nat) (x0 : SVal) (x1 : SVal) (x2 : SVal) : bodyE P H T k 167 [x0, x1, x2] = R167 T k x0 x1 x2 := by kernel_rfl
noncomputable def D167 (T : Nat → List SVal → Option Res) (k : Nat) : List SVal → Option Res
  | [x0, x1, x2] => R167 T k x0 x1 x2
  | a => bodyE P H T k 167 a
theorem d167 (T : Nat → List SVal → Option Res) (k : Nat) (a : List SVal) : D167 T k a = bodyE P H T k 167 a := by
  unfold D167
  split
  · exact (r167 ..).symm
  · rfl
theorem t167 (k : Nat) (x0 : SVal) (x1 : SVal) (x2 : SVal) : T (k + 1) 167 [x0, x1, x2] = R167 (T k) k x0 x1 x2 := (by kernel_rfl : T (k + 1) 167 [x0, x1, x2] = bodyE P H (T k) k 167 [x0, x1, x2]).trans (r167 ..)
/-- limelight/slots.within$1 -/
def R179 (T : Nat → List SVal → Option Res) (k : Nat) (x1 : SVal) (x2 : SVal) : Option Res :=
  (T 180 [(weak x1), x2]).bind fun r1 =>
  (sLen r1.r).bind fun r2 =>
  loopN (fun s3 next3 =>
   (sBin .lss s3.k4 s3.k3).bind fun r4 =>
   pickC r4
   ((sIdx false 1 s3.k2 s3.k4).bind fun e5 =>
    (T 162 [(weak (SVal.cell s3.k1 0)), e5]).bind fun r6 =>
    guardX r6.r true
    (if (s3.stop) = true then none else
     (notTup e5).bind fun y7 =>
     both
     ((sBin .add s3.k4 (.int .i64 1)).bind fun r8 =>
      next3 ⟨[.yld, (.rp [(SVal.cell s3.k1 0)]), (weak s3.k2), s3.k3, r8], (s3.out ++ [y7]), s3.stop⟩)
     (some { r := (.tup []) }))
    ((sBin .add s3.k4 (.int .i64 1)).bind fun r9 =>
     next3 ⟨[.yld, (.rp [(SVal.cell s3.k1 0)]), (weak s3.k2), s3.k3, r9], s3.out, s3.stop⟩)
    (none))
   (if (s3.stop) = true then
    some { r := (.tup []) }
    else
    some { r := (.tup []), out := s3.out })) k ⟨[.yld, (.rp [x1]), (weak r1.r), r2, (.int .i64 0)], [], false⟩
theorem r179 (T : Nat → List SVal → Option Res) (k : Nat) (x1 : SVal) (x2 : SVal) : bodyE P H T k 179 [.yld, (.rp [x1]), (.rp [x2])] = R179 T k x1 x2 := by kernel_rfl
noncomputable def D179 (T : Nat → List SVal → Option Res) (k : Nat) : List SVal → Option Res
  | [.yld, (.rp [x1]), (.rp [x2])] => R179 T k x1 x2
  | a => bodyE P H T k 179 a
theorem d179 (T : Nat → List SVal → Option Res) (k : Nat) (a : List SVal) : D179 T k a = bodyE P H T k 179 a := by
  unfold D179
  split
  · exact (r179 ..).symm
  · rfl
theorem t179 (k : Nat) (x1 : SVal) (x2 : SVal) : T (k + 1) 179 [.yld, (.rp [x1]), (.rp [x2])] = R179 (T k) k x1 x2 := (by kernel_rfl : T (k + 1) 179 [.yld, (.rp [x1]), (.rp [x2])] = bodyE P H (T k) k 179 [.yld, (.rp [x1]), (.rp [x2])]).trans (r179 ..)
/-- limelight/order.List -/
def R180 (T : Nat → List SVal → Option Res) (k : Nat) (x0 : SVal) (x1 : SVal) : Option Res :=
  if (List.all [[.v x1]] allOne) = true then
  (T 119 [(weak x0), (.sl 1 false false [x1])]).bind fun r1 =>
  (sNot r1.r).bind fun r2 =>
  pickC r2
  (some { r := (.sl 1 false false []) })
  ((T 188 [(weak x0), x1]).bind fun r3 =>
   (T 48 [r3.r]).bind fun r4 =>
   some { r := (.sl 1 false false r4.r.xs) })
  else none
theorem r180 (T : Nat → List SVal → Option Res) (k : Nat) (x0 : SVal) (x1 : SVal) : bodyE P H T k 180 [x0, x1] = R180 T k x0 x1 := by kernel_rfl
noncomputable def D180 (T : Nat → List SVal → Option Res) (k : Nat) : List SVal → Option Res
  | [x0, x1] => R180 T k x0 x1
  | a => bodyE P H T k 180 a
theorem d180 (T : Nat → List SVal → Option Res) (k : Nat) (a : List SVal) : D180 T k a = bodyE P H T k 180 a := by
  unfold D180
  split
  · exact (r180 ..).symm
  · rfl
theorem t180 (k : Nat) (x0 : SVal) (x1 : SVal) : T (k + 1) 180 [x0, x1] = R180 (T k) k x0 x1 := (by kernel_rfl : T (k + 1) 180 [x0, x1] = bodyE P H (T k) k 180 [x0, x1]).trans (r180 ..)
/-- limelight/shade.Up -/
def R181 (T : Nat → List SVal → Option Res) (k : Nat) (x0 : SVal) (x1 : SVal) : Option Res :=
  (T 189 [(weak x0), x1]).bind fun r1 =>
  (elems 1 r1.r).bind fun ys2 =>
  if ys2.length * 8 ≤ maxAppend then
  (T 142 [(weak x0), x1]).bind fun r3 =>
  (sBin .neq r3.r (.int .i64 (-1))).bind fun r4 =>
  pickC r4
  (loopN (fun s5 next5 =>
    (T 189 [(weak s5.k0), s5.k1]).bind fun r6 =>
    (elems 1 r6.r).bind fun ys7 =>
    if (s5.k2.xs.length + ys7.length) * 8 ≤ maxAppend then
    (T 142 [(weak s5.k0), s5.k1]).bind fun r8 =>
    (sBin .neq r8.r (.int .i64 (-1))).bind fun r9 =>
    pickC r9
    (next5 ⟨[(weak s5.k0), r8.r, (.sl 1 true false (s5.k2.xs ++ ys7))], [], false⟩)
    (some { r := (.sl 1 false false (s5.k2.xs ++ ys7)) })
    else none) k ⟨[(weak x0), r3.r, (.sl 1 true false ys2)], [], false⟩)
  (some { r := (.sl 1 false false ys2) })
  else none
theorem r181 (T : Nat → List SVal → Option Res) (k : Nat) (x0 : SVal) (x1 : SVal) : bodyE P H T k 181 [x0, x1] = R181 T k x0 x1 := by kernel_rfl
noncomputable def D181 (T : Nat → List SVal → Option Res) (k : Nat) : List SVal → Option Res
  | [x0, x1] => R181 T k x0 x1
  | a => bodyE P H T k 181 a
theorem d181 (T : Nat → List SVal → Option Res) (k : Nat) (a : List SVal) : D181 T k a = bodyE P H T k 181 a := by
  unfold D181
  split
  · exact (r181 ..).symm
  · rfl
theorem t181 (k : Nat) (x0 : SVal) (x1 : SVal) : T (k + 1) 181 [x0, x1] = R181 (T k) k x0 x1 := (by kernel_rfl : T (k + 1) 181 [x0, x1] = bodyE P H (T k) k 181 [x0, x1]).trans (r181 ..)
/-- limelight/order.list -/
def R188 (T : Nat → List SVal → Option Res) (k : Nat) (x0 : SVal) (x1 : SVal) : Option Res :=
  if (oneS x0) = true then
  if (oneS x1) = true then
  some { r := (.fn 191 [(.rp [x0]), (.rp [x1])]) }
  else none
  else none
theorem r188 (T : Nat → List SVal → Option Res) (k : Nat) (x0 : SVal) (x1 : SVal) : bodyE P H T k 188 [x0, x1] = R188 T k x0 x1 := by kernel_rfl
noncomputable def D188 (T : Nat → List SVal → Option Res) (k : Nat) : List SVal → Option Res
  | [x0, x1] => R188 T k x0 x1
  | a => bodyE P H T k 188 a
theorem d188 (T : Nat → List SVal → Option Res) (k : Nat) (a : List SVal) : D188 T k a = bodyE P H T k 188 a := by
  unfold D188
  split
  · exact (r188 ..).symm
  · rfl
theorem t188 (k : Nat) (x0 : SVal) (x1 : SVal) : T (k + 1) 188 [x0, x1] = R188 (T k) k x0 x1 := (by kernel_rfl : T (k + 1) 188 [x0, x1] = bodyE P H (T k) k 188 [x0, x1]).trans (r188 ..)
/-- limelight/order.Up -/
def R189 (T : Nat → List SVal → Option Res) (k : Nat) (x0 : SVal) (x1 : SVal) : Option Res :=
  if (List.all [[.v x1]] allOne) = true then
  (T 119 [(weak x0), (.sl 1 false false [x1])]).bind fun r1 =>
  (sNot r1.r).bind fun r2 =>
  pickC r2
  (some { r := (.sl 1 false false []) })
  ((T 120 [(weak x0), x1]).bind fun r3 =>
   (T 48 [r3.r]).bind fun r4 =>
   some { r := (.sl 1 false false r4.r.xs) })
  else none
theorem r189 (T : Nat → List SVal → Option Res) (k : Nat) (x0 : SVal) (x1 : SVal) : bodyE P H T k 189 [x0, x1] = R189 T k x0 x1 := by kernel_rfl
noncomputable def D189 (T : Nat → List SVal → Option Res) (k : Nat) : List SVal → Option Res
  | [x0, x1] => R189 T k x0 x1
  | a => bodyE P H T k 189 a
theorem d189 (T : Nat → List SVal → Option Res) (k : Nat) (a : List SVal) : D189 T k a = bodyE P H T k 189 a := by
  unfold D189
  split
  · exact (r189 ..).symm
  · rfl
theorem t189 (k : Nat) (x0 : SVal) (x1 : SVal) : T (k + 1) 189 [x0, x1] = R189 (T k) k x0 x1 := (by kernel_rfl : T (k + 1) 189 [x0, x1] = bodyE P H (T k) k 189 [x0, x1]).trans (r189 ..)
/-- limelight/order.list$1 -/
def R191 (T : Nat → List SVal → Option Res) (k : Nat) (x1 : SVal) (x2 : SVal) : Option Res :=
  (T 192 [(weak x1), x2, .yld]).bind fun r1 =>
  both
  (some { r := (.tup []), out := ([] ++ r1.out) })
  (some { r := (.tup []) })
theorem r191 (T : Nat → List SVal → Option Res) (k : Nat) (x1 : SVal) (x2 : SVal) : bodyE P H T k 191 [.yld, (.rp [x1]), (.rp [x2])] = R191 T k x1 x2 := by kernel_rfl
noncomputable def D191 (T : Nat → List SVal → Option Res) (k : Nat) : List SVal → Option Res
  | [.yld, (.rp [x1]), (.rp [x2])] => R191 T k x1 x2
  | a => bodyE P H T k 191 a
theorem d191 (T : Nat → List SVal → Option Res) (k : Nat) (a : List SVal) : D191 T k a = bodyE P H T k 191 a := by
  unfold D191
  split
  · exact (r191 ..).symm
  · rfl
theorem t191 (k : Nat) (x1 : SVal) (x2 : SVal) : T (k + 1) 191 [.yld, (.rp [x1]), (.rp [x2])] = R191 (T k) k x1 x2 := (by kernel_rfl : T (k + 1) 191 [.yld, (.rp [x1]), (.rp [x2])] = bodyE P H (T k) k 191 [.yld, (.rp [x1]), (.rp [x2])]).trans (r191 ..)
/-- limelight/order.down -/
def R192 (T : Nat → List SVal → Option Res) (k : Nat) (x0 : SVal) (x1 : SVal) : Option Res :=
  (notTup x1).bind fun y1 =>
  both
  ((sIdx true 7 x0 x1).bind fun e2 =>
   (sLen (SVal.cell e2 3)).bind fun r3 =>
   loopN (fun s4 next4 =>
    (sBin .lss s4.k4 s4.k3).bind fun r5 =>
    pickC r5
    ((sIdx false 1 s4.k2 s4.k4).bind fun e6 =>
     if (s4.stop) = true then none else
     (T 192 [(weak s4.k0), e6, .yld]).bind fun r7 =>
     both
     ((sNot r7.r).bind fun r8 =>
      pickC r8
      (if (s4.stop) = true then
       some { r := (.bool false) }
       else
       some { r := (.bool false), out := (s4.out ++ r7.out) })
      ((sBin .add s4.k4 (.int .i64 1)).bind fun r9 =>
       next4 ⟨[(weak s4.k0), .yld, (weak s4.k2), s4.k3, r9], (s4.out ++ r7.out), s4.stop⟩))
     (some { r := (.bool false) }))
    (if (s4.stop) = true then
     none
     else
     some { r := (.bool true), out := s4.out })) k ⟨[(weak x0), .yld, (weak (SVal.cell e2 3)), r3, (.int .i64 0)], ([] ++ [y1]), false⟩)
  (some { r := (.bool false) })
theorem r192 (T : Nat → List SVal → Option Res) (k : Nat) (x0 : SVal) (x1 : SVal) : bodyE P H T k 192 [x0, x1, .yld] = R192 T k x0 x1 := by kernel_rfl
noncomputable def D192 (T : Nat → List SVal → Option Res) (k : Nat) : List SVal → Option Res
  | [x0, x1, .yld] => R192 T k x0 x1
  | a => bodyE P H T k 192 a
theorem d192 (T : Nat → List SVal → Option Res) (k : Nat) (a : List SVal) : D192 T k a = bodyE P H T k 192 a := by
  unfold D192
  split
  · exact (r192 ..).symm
  · rfl
theorem t192 (k : Nat) (x0 : SVal) (x1 : SVal) : T (k + 1) 192 [x0, x1, .yld] = R192 (T k) k x0 x1 := (by kernel_rfl : T (k + 1) 192 [x0, x1, .yld] = bodyE P H (T k) k 192 [x0, x1, .yld]).trans (r192 ..)
end Go.Proofs.YtccfkncajelbpaaGreat.K
