/- What the evaluator makes of the functions, by program (wip/tr/resid.py); each equation is checked by the kernel. -/
import Derived.Test.YtccfkncajelbpaaGreatLmAK
import Derived.Test.YtccfkncajelbpaaGreatLmAB
import Derived.KernelRfl
set_option linter.unusedVariables false
set_option linter.unusedSimpArgs false
set_option linter.unnecessarySimpa false
set_option linter.all false
set_option maxRecDepth 100000
namespace Go.Proofs.YtccfkncajelbpaaGreat.K
open Go Go.Lm
/-- limelight/limelightref01.Attr -/
def R87 (T : Nat → List SVal → Option Res) (k : Nat) (x0 : SVal) (x1a : SVal) (x1b : SVal) : Option Res :=
  ((sBin .lss x1a (.int .i64 0)).bind fun r1 =>
   guardX r1 false
   ((sBin .gtr x1a (.int .i64 9)).bind fun r2 =>
    guardX r2 false
    ((T 104 [x1a, x1b]).bind fun r3 =>
     (sNot r3.r).bind fun r4 =>
     (asB r4).bind fun b5 =>
     some [b5])
    (some [true])
    (none))
   (some [true])
   (none)).bind fun vs6 =>
  pickC (.bool (vs6.getD 0 false))
  (some { r := (.bool false) })
  ((sBin .eql x0 (.int .i64 3)).bind fun r7 =>
   pickC r7
   (((sBin .eql x1a (.int .i64 7)).bind fun r8 =>
     guardX r8 false
     ((sBin .eql x1a (.int .i64 8)).bind fun r9 =>
      (asB r9).bind fun b10 =>
      some [b10])
     (some [true])
     (none)).bind fun vs11 =>
    some { r := (.bool (vs11.getD 0 false)) })
   (((sBin .eql x0 (.int .i64 1)).bind fun r12 =>
     guardX r12 true
     ((sBin .neq x1a (.int .i64 7)).bind fun r13 =>
      guardX r13 true
      ((sBin .neq x1a (.int .i64 8)).bind fun r14 =>
       (asB r14).bind fun b15 =>
       some [b15])
      (some [false])
      (none))
     (some [false])
     (none)).bind fun vs16 =>
    some { r := (.bool (vs16.getD 0 false)) }))
theorem r87 (T : Nat → List SVal → Option Res) (k : Nat) (x0 : SVal) (x1a : SVal) (x1b : SVal) : bodyE P H T k 87 [x0, (.agg [x1a, x1b])] = R87 T k x0 x1a x1b := by kernel_rfl
noncomputable def D87 (T : Nat → List SVal → Option Res) (k : Nat) : List SVal → Option Res
  | [x0, (.agg [x1a, x1b])] => R87 T k x0 x1a x1b
  | a => bodyE P H T k 87 a
theorem d87 (T : Nat → List SVal → Option Res) (k : Nat) (a : List SVal) : D87 T k a = bodyE P H T k 87 a := by
  unfold D87
  split
  · exact (r87 ..).symm
  · rfl
theorem t87 (k : Nat) (x0 : SVal) (x1a : SVal) (x1b : SVal) : T (k + 1) 87 [x0, (.agg [x1a, x1b])] = R87 (T k) k x0 x1a x1b := (by kernel_rfl : T (k + 1) 87 [x0, (.agg [x1a, x1b])] = bodyE P H (T k) k 87 [x0, (.agg [x1a, x1b])]).trans (r87 ..)
/-- limelight/limelightref01.count -/
def R88 (T : Nat → List SVal → Option Res) (k : Nat) (x0 : SVal) (x1 : SVal) : Option Res :=
  loopN (fun s1 next1 =>
   (sLen s1.k0).bind fun r2 =>
   (sBin .lss s1.k3 r2).bind fun r3 =>
   pickC r3
   ((sIdx false 1 s1.k0 s1.k3).bind fun e4 =>
    (sBin .eql e4 s1.k1).bind fun r5 =>
    pickC r5
    ((sBin .add s1.k2 (.int .i64 1)).bind fun r6 =>
     (sBin .add s1.k3 (.int .i64 1)).bind fun r7 =>
     next1 ⟨[(weak s1.k0), s1.k1, r6, r7], [], false⟩)
    ((sBin .add s1.k3 (.int .i64 1)).bind fun r8 =>
     next1 ⟨[(weak s1.k0), s1.k1, s1.k2, r8], [], false⟩))
   (some { r := s1.k2 })) k ⟨[(weak x0), x1, (.int .i64 0), (.int .i64 0)], [], false⟩
theorem r88 (T : Nat → List SVal → Option Res) (k : Nat) (x0 : SVal) (x1 : SVal) : bodyE P H T k 88 [x0, x1] = R88 T k x0 x1 := by kernel_rfl
noncomputable def D88 (T : Nat → List SVal → Option Res) (k : Nat) : List SVal → Option Res
  | [x0, x1] => R88 T k x0 x1
  | a => bodyE P H T k 88 a
theorem d88 (T : Nat → List SVal → Option Res) (k : Nat) (a : List SVal) : D88 T k a = bodyE P H T k 88 a := by
  unfold D88
  split
  · exact (r88 ..).symm
  · rfl
theorem t88 (k : Nat) (x0 : SVal) (x1 : SVal) : T (k + 1) 88 [x0, x1] = R88 (T k) k x0 x1 := (by kernel_rfl : T (k + 1) 88 [x0, x1] = bodyE P H (T k) k 88 [x0, x1]).trans (r88 ..)
/-- limelight/limelightref01.Up -/
def R89 (T : Nat → List SVal → Option Res) (k : Nat) (x0 : SVal) (x1 : SVal) : Option Res :=
  (sIdx true 7 x0 x1).bind fun e1 =>
  (sBin .eql (SVal.cell e1 0) (.int .i64 3)).bind fun r2 =>
  pickC r2
  ((sIdx true 7 x0 x1).bind fun e3 =>
   some { r := (SVal.cell e3 4) })
  ((sIdx true 7 x0 x1).bind fun e4 =>
   some { r := (SVal.cell e4 2) })
theorem r89 (T : Nat → List SVal → Option Res) (k : Nat) (x0 : SVal) (x1 : SVal) : bodyE P H T k 89 [x0, x1] = R89 T k x0 x1 := by kernel_rfl
noncomputable def D89 (T : Nat → List SVal → Option Res) (k : Nat) : List SVal → Option Res
  | [x0, x1] => R89 T k x0 x1
  | a => bodyE P H T k 89 a
theorem d89 (T : Nat → List SVal → Option Res) (k : Nat) (a : List SVal) : D89 T k a = bodyE P H T k 89 a := by
  unfold D89
  split
  · exact (r89 ..).symm
  · rfl
theorem t89 (k : Nat) (x0 : SVal) (x1 : SVal) : T (k + 1) 89 [x0, x1] = R89 (T k) k x0 x1 := (by kernel_rfl : T (k + 1) 89 [x0, x1] = bodyE P H (T k) k 89 [x0, x1]).trans (r89 ..)
/-- limelight/tree.Check -/
def R90 (T : Nat → List SVal → Option Res) (k : Nat) (x0 : SVal) : Option Res :=
  (T 105 [(weak x0)]).bind fun r1 =>
  (sNot r1.r).bind fun r2 =>
  pickC r2
  (some { r := (.int .i64 1) })
  (some { r := (.int .i64 0) })
theorem r90 (T : Nat → List SVal → Option Res) (k : Nat) (x0 : SVal) : bodyE P H T k 90 [x0] = R90 T k x0 := by kernel_rfl
noncomputable def D90 (T : Nat → List SVal → Option Res) (k : Nat) : List SVal → Option Res
  | [x0] => R90 T k x0
  | a => bodyE P H T k 90 a
theorem d90 (T : Nat → List SVal → Option Res) (k : Nat) (a : List SVal) : D90 T k a = bodyE P H T k 90 a := by
  unfold D90
  split
  · exact (r90 ..).symm
  · rfl
theorem t90 (k : Nat) (x0 : SVal) : T (k + 1) 90 [x0] = R90 (T k) k x0 := (by kernel_rfl : T (k + 1) 90 [x0] = bodyE P H (T k) k 90 [x0]).trans (r90 ..)
/-- limelight/top.may -/
def R91 (T : Nat → List SVal → Option Res) (k : Nat) (x0a : SVal) (x0b : SVal) (x0c : SVal) (x0d : SVal) (x0e : SVal) : Option Res :=
  if (oneS x0a) = true then
  if (List.all [[.v x0b], [.v x0c]] allOne) = true then
  (T 107 [(.sl 1 false false [x0b, x0c])]).bind fun r1 =>
  (T 106 [(weak r1.r), (.fn 108 [(.rp [x0a])])]).bind fun r2 =>
  (T 110 [(weak x0d), (.fn 111 [(.rp [x0a])])]).bind fun r3 =>
  (T 114 [(.agg [(weak x0a), (weak x0b), (weak x0c), (weak x0d), (weak x0e)])]).bind fun r4 =>
  (T 116 [(weak r4.r)]).bind fun r5 =>
  (T 115 [r5.r]).bind fun r6 =>
  ((sLen r2.r.c1).bind fun r7 =>
   (sBin .eql r7 (.int .i64 0)).bind fun r8 =>
   guardX r8 true
   ((sLen r3.r.c1).bind fun r9 =>
    (sBin .eql r9 (.int .i64 0)).bind fun r10 =>
    guardX r10 true
    (if (List.all [[.v x0b], [.v r4.r]] allOne) = true then
     (T 107 [(.sl 1 false false [x0b, r4.r])]).bind fun r11 =>
     (T 117 [(weak r11.r)]).bind fun r12 =>
     guardX r12.r true
     ((T 116 [(weak x0e)]).bind fun r13 =>
      (T 115 [r13.r]).bind fun r14 =>
      (T 118 [(weak r6.r), (weak r14.r)]).bind fun r15 =>
      (asB r15.r).bind fun b16 =>
      some [b16])
     (some [false])
     (none)
     else none)
    (some [false])
    (none))
   (some [false])
   (none)).bind fun vs17 =>
  some { r := (.bool (vs17.getD 0 false)) }
  else none
  else none
theorem r91 (T : Nat → List SVal → Option Res) (k : Nat) (x0a : SVal) (x0b : SVal) (x0c : SVal) (x0d : SVal) (x0e : SVal) : bodyE P H T k 91 [(.agg [x0a, x0b, x0c, x0d, x0e])] = R91 T k x0a x0b x0c x0d x0e := by kernel_rfl
noncomputable def D91 (T : Nat → List SVal → Option Res) (k : Nat) : List SVal → Option Res
  | [(.agg [x0a, x0b, x0c, x0d, x0e])] => R91 T k x0a x0b x0c x0d x0e
  | a => bodyE P H T k 91 a
theorem d91 (T : Nat → List SVal → Option Res) (k : Nat) (a : List SVal) : D91 T k a = bodyE P H T k 91 a := by
  unfold D91
  split
  · exact (r91 ..).symm
  · rfl
theorem t91 (k : Nat) (x0a : SVal) (x0b : SVal) (x0c : SVal) (x0d : SVal) (x0e : SVal) : T (k + 1) 91 [(.agg [x0a, x0b, x0c, x0d, x0e])] = R91 (T k) k x0a x0b x0c x0d x0e := (by kernel_rfl : T (k + 1) 91 [(.agg [x0a, x0b, x0c, x0d, x0e])] = bodyE P H (T k) k 91 [(.agg [x0a, x0b, x0c, x0d, x0e])]).trans (r91 ..)
/-- limelight/order.Top -/
def R92 (T : Nat → List SVal → Option Res) (k : Nat) (x0 : SVal) (x1 : SVal) : Option Res :=
  if (List.all [[.v x1]] allOne) = true then
  (T 119 [(weak x0), (.sl 1 false false [x1])]).bind fun r1 =>
  pickC r1.r
  ((T 120 [(weak x0), x1]).bind fun r2 =>
   (callIt T r2.r).bind fun ys3 =>
   rangeN (fun s4 y4 next4 =>
    (notTup y4).bind fun z5 =>
    if (oneS z5) = true then
    next4 ⟨[(.mb [z5])], [], false⟩
    else none) (fun s6 =>
    some { r := s6.k0.c0 }) ys3 ⟨[(.mb [(.int .i64 (-1))])], [], false⟩)
  (some { r := (.int .i64 (-1)) })
  else none
theorem r92 (T : Nat → List SVal → Option Res) (k : Nat) (x0 : SVal) (x1 : SVal) : bodyE P H T k 92 [x0, x1] = R92 T k x0 x1 := by kernel_rfl
noncomputable def D92 (T : Nat → List SVal → Option Res) (k : Nat) : List SVal → Option Res
  | [x0, x1] => R92 T k x0 x1
  | a => bodyE P H T k 92 a
theorem d92 (T : Nat → List SVal → Option Res) (k : Nat) (a : List SVal) : D92 T k a = bodyE P H T k 92 a := by
  unfold D92
  split
  · exact (r92 ..).symm
  · rfl
theorem t92 (k : Nat) (x0 : SVal) (x1 : SVal) : T (k + 1) 92 [x0, x1] = R92 (T k) k x0 x1 := (by kernel_rfl : T (k + 1) 92 [x0, x1] = bodyE P H (T k) k 92 [x0, x1]).trans (r92 ..)
/-- limelight/flat.up$1 -/
def R93 (T : Nat → List SVal → Option Res) (k : Nat) (x1 : SVal) (x2 : SVal) : Option Res :=
  loopN (fun s1 next1 =>
   (sBin .neq (SVal.cell s1.k1 0) (.int .i64 (-1))).bind fun r2 =>
   guardX r2 true
   (if (s1.stop) = true then none else
    (notTup (SVal.cell s1.k1 0)).bind fun y3 =>
    both
    ((T 94 [(weak (SVal.cell s1.k2 0)), (SVal.cell s1.k1 0)]).bind fun r4 =>
     if (oneS r4.r) = true then
     next1 ⟨[.yld, (.mb [r4.r]), (.rp [(SVal.cell s1.k2 0)])], (s1.out ++ [y3]), s1.stop⟩
     else none)
    (some { r := (.tup []) }))
   (if (s1.stop) = true then
    some { r := (.tup []) }
    else
    some { r := (.tup []), out := s1.out })
   (none)) k ⟨[.yld, (.mb [x1]), (.rp [x2])], [], false⟩
theorem r93 (T : Nat → List SVal → Option Res) (k : Nat) (x1 : SVal) (x2 : SVal) : bodyE P H T k 93 [.yld, (.mb [x1]), (.rp [x2])] = R93 T k x1 x2 := by kernel_rfl
noncomputable def D93 (T : Nat → List SVal → Option Res) (k : Nat) : List SVal → Option Res
  | [.yld, (.mb [x1]), (.rp [x2])] => R93 T k x1 x2
  | a => bodyE P H T k 93 a
theorem d93 (T : Nat → List SVal → Option Res) (k : Nat) (a : List SVal) : D93 T k a = bodyE P H T k 93 a := by
  unfold D93
  split
  · exact (r93 ..).symm
  · rfl
theorem t93 (k : Nat) (x1 : SVal) (x2 : SVal) : T (k + 1) 93 [.yld, (.mb [x1]), (.rp [x2])] = R93 (T k) k x1 x2 := (by kernel_rfl : T (k + 1) 93 [.yld, (.mb [x1]), (.rp [x2])] = bodyE P H (T k) k 93 [.yld, (.mb [x1]), (.rp [x2])]).trans (r93 ..)
/-- limelight/flat.Parent -/
def R94 (T : Nat → List SVal → Option Res) (k : Nat) (x0 : SVal) (x1 : SVal) : Option Res :=
  (T 74 [(weak x0), x1]).bind fun r1 =>
  (sNot r1.r).bind fun r2 =>
  pickC r2
  (some { r := (.int .i64 (-1)) })
  ((T 121 [(weak x0), x1]).bind fun r3 =>
   ((sBin .neq r3.r (.int .i64 (-1))).bind fun r4 =>
    guardX r4 true
    ((T 122 [(weak x0), r3.r]).bind fun r5 =>
     (T 78 [(weak r5.r), x1]).bind fun r6 =>
     (asB r6.r).bind fun b7 =>
     some [b7])
    (some [false])
    (none)).bind fun vs8 =>
   pickC (.bool (vs8.getD 0 false))
   (some { r := r3.r })
   (some { r := (.int .i64 (-1)) }))
theorem r94 (T : Nat → List SVal → Option Res) (k : Nat) (x0 : SVal) (x1 : SVal) : bodyE P H T k 94 [x0, x1] = R94 T k x0 x1 := by kernel_rfl
noncomputable def D94 (T : Nat → List SVal → Option Res) (k : Nat) : List SVal → Option Res
  | [x0, x1] => R94 T k x0 x1
  | a => bodyE P H T k 94 a
theorem d94 (T : Nat → List SVal → Option Res) (k : Nat) (a : List SVal) : D94 T k a = bodyE P H T k 94 a := by
  unfold D94
  split
  · exact (r94 ..).symm
  · rfl
theorem t94 (k : Nat) (x0 : SVal) (x1 : SVal) : T (k + 1) 94 [x0, x1] = R94 (T k) k x0 x1 := (by kernel_rfl : T (k + 1) 94 [x0, x1] = bodyE P H (T k) k 94 [x0, x1]).trans (r94 ..)
/-- limelight/attr.Get -/
def R95 (T : Nat → List SVal → Option Res) (k : Nat) (x0 : SVal) (x1 : SVal) (x2 : SVal) : Option Res :=
  (T 123 [(weak x0), x1]).bind fun r1 =>
  (sNot r1.r).bind fun r2 =>
  pickC r2
  (some { r := (.tup [(.int .i64 0), (.bool false)]) })
  ((sIdx true 7 x0 x1).bind fun e3 =>
   (T 124 [(.agg [(SVal.cell e3 0), (SVal.cell e3 1), (SVal.cell e3 2), (weak (SVal.cell e3 3)), (SVal.cell e3 4), (SVal.cell e3 5), (weak (SVal.cell e3 6))]), x2]).bind fun r4 =>
   (sBin .lss r4.r (.int .i64 0)).bind fun r5 =>
   pickC r5
   (some { r := (.tup [(.int .i64 0), (.bool false)]) })
   ((sIdx true 7 x0 x1).bind fun e6 =>
    (sIdx true 2 (SVal.cell e6 6) r4.r).bind fun e7 =>
    some { r := (.tup [(SVal.cell e7 1), (.bool true)]) }))
theorem r95 (T : Nat → List SVal → Option Res) (k : Nat) (x0 : SVal) (x1 : SVal) (x2 : SVal) : bodyE P H T k 95 [x0, x1, x2] = R95 T k x0 x1 x2 := by kernel_rfl
noncomputable def D95 (T : Nat → List SVal → Option Res) (k : Nat) : List SVal → Option Res
  | [x0, x1, x2] => R95 T k x0 x1 x2
  | a => bodyE P H T k 95 a
theorem d95 (T : Nat → List SVal → Option Res) (k : Nat) (a : List SVal) : D95 T k a = bodyE P H T k 95 a := by
  unfold D95
  split
  · exact (r95 ..).symm
  · rfl
theorem t95 (k : Nat) (x0 : SVal) (x1 : SVal) (x2 : SVal) : T (k + 1) 95 [x0, x1, x2] = R95 (T k) k x0 x1 x2 := (by kernel_rfl : T (k + 1) 95 [x0, x1, x2] = bodyE P H (T k) k 95 [x0, x1, x2]).trans (r95 ..)
/-- slices.Index[[]int,int] -/
def R96 (T : Nat → List SVal → Option Res) (k : Nat) (x0 : SVal) (x1 : SVal) : Option Res :=
  (sLen x0).bind fun r1 =>
  loopN (fun s2 next2 =>
   (sBin .lss s2.k3 s2.k2).bind fun r3 =>
   pickC r3
   ((sIdx false 1 s2.k0 s2.k3).bind fun e4 =>
    (sBin .eql s2.k1 e4).bind fun r5 =>
    pickC r5
    (some { r := s2.k3 })
    ((sBin .add s2.k3 (.int .i64 1)).bind fun r6 =>
     next2 ⟨[(weak s2.k0), s2.k1, s2.k2, r6], [], false⟩))
   (some { r := (.int .i64 (-1)) })) k ⟨[(weak x0), x1, r1, (.int .i64 0)], [], false⟩
theorem r96 (T : Nat → List SVal → Option Res) (k : Nat) (x0 : SVal) (x1 : SVal) : bodyE P H T k 96 [x0, x1] = R96 T k x0 x1 := by kernel_rfl
noncomputable def D96 (T : Nat → List SVal → Option Res) (k : Nat) : List SVal → Option Res
  | [x0, x1] => R96 T k x0 x1
  | a => bodyE P H T k 96 a
theorem d96 (T : Nat → List SVal → Option Res) (k : Nat) (a : List SVal) : D96 T k a = bodyE P H T k 96 a := by
  unfold D96
  split
  · exact (r96 ..).symm
  · rfl
theorem t96 (k : Nat) (x0 : SVal) (x1 : SVal) : T (k + 1) 96 [x0, x1] = R96 (T k) k x0 x1 := (by kernel_rfl : T (k + 1) 96 [x0, x1] = bodyE P H (T k) k 96 [x0, x1]).trans (r96 ..)
/-- slices.IndexFunc[[]limelight/api.Shown,limelight/api.Shown] -/
def R97 (T : Nat → List SVal → Option Res) (k : Nat) (x0 : SVal) (x1 : SVal) : Option Res :=
  (sLen x0).bind fun r1 =>
  loopN (fun s2 next2 =>
   (sBin .lss s2.k3 s2.k2).bind fun r3 =>
   pickC r3
   ((sIdx true 2 s2.k0 s2.k3).bind fun e4 =>
    (callV H T s2.k1 [(.agg [(SVal.cell e4 0), (SVal.cell e4 1)])]).bind fun y5 =>
    pickC y5
    (some { r := s2.k3 })
    ((sBin .add s2.k3 (.int .i64 1)).bind fun r6 =>
     next2 ⟨[(weak s2.k0), s2.k1, s2.k2, r6], [], false⟩))
   (some { r := (.int .i64 (-1)) })) k ⟨[(weak x0), x1, r1, (.int .i64 0)], [], false⟩
theorem r97 (T : Nat → List SVal → Option Res) (k : Nat) (x0 : SVal) (x1 : SVal) : bodyE P H T k 97 [x0, x1] = R97 T k x0 x1 := by kernel_rfl
noncomputable def D97 (T : Nat → List SVal → Option Res) (k : Nat) : List SVal → Option Res
  | [x0, x1] => R97 T k x0 x1
  | a => bodyE P H T k 97 a
theorem d97 (T : Nat → List SVal → Option Res) (k : Nat) (a : List SVal) : D97 T k a = bodyE P H T k 97 a := by
  unfold D97
  split
  · exact (r97 ..).symm
  · rfl
theorem t97 (k : Nat) (x0 : SVal) (x1 : SVal) : T (k + 1) 97 [x0, x1] = R97 (T k) k x0 x1 := (by kernel_rfl : T (k + 1) 97 [x0, x1] = bodyE P H (T k) k 97 [x0, x1]).trans (r97 ..)
/-- limelight/flat.Kids -/
def R98 (T : Nat → List SVal → Option Res) (k : Nat) (x0 : SVal) (x1 : SVal) : Option Res :=
  (T 74 [(weak x0), x1]).bind fun r1 =>
  (sNot r1.r).bind fun r2 =>
  pickC r2
  (some { r := (.sl 1 false false []) })
  ((T 122 [(weak x0), x1]).bind fun r3 =>
   (T 125 [(weak r3.r)]).bind fun r4 =>
   some { r := (.sl 1 false false r4.r.xs) })
theorem r98 (T : Nat → List SVal → Option Res) (k : Nat) (x0 : SVal) (x1 : SVal) : bodyE P H T k 98 [x0, x1] = R98 T k x0 x1 := by kernel_rfl
noncomputable def D98 (T : Nat → List SVal → Option Res) (k : Nat) : List SVal → Option Res
  | [x0, x1] => R98 T k x0 x1
  | a => bodyE P H T k 98 a
theorem d98 (T : Nat → List SVal → Option Res) (k : Nat) (a : List SVal) : D98 T k a = bodyE P H T k 98 a := by
  unfold D98
  split
  · exact (r98 ..).symm
  · rfl
theorem t98 (k : Nat) (x0 : SVal) (x1 : SVal) : T (k + 1) 98 [x0, x1] = R98 (T k) k x0 x1 := (by kernel_rfl : T (k + 1) 98 [x0, x1] = bodyE P H (T k) k 98 [x0, x1]).trans (r98 ..)
/-- limelight/limelightref05.Is -/
def R99 (T : Nat → List SVal → Option Res) (k : Nat) (x0 : SVal) (x1 : SVal) : Option Res :=
  ((sIdx true 7 x0 x1).bind fun e1 =>
   (sBin .eql (SVal.cell e1 0) (.int .i64 1)).bind fun r2 =>
   guardX r2 true
   ((sIdx true 7 x0 x1).bind fun e3 =>
    (sBin .eql (SVal.cell e3 1) (.int .i64 3)).bind fun r4 =>
    guardX r4 true
    ((T 100 [(weak x0), x1]).bind fun r5 =>
     (sIdx true 7 x0 r5.r).bind fun e6 =>
     (sBin .eql (SVal.cell e6 0) (.int .i64 3)).bind fun r7 =>
     (asB r7).bind fun b8 =>
     some [b8])
    (some [false])
    (none))
   (some [false])
   (none)).bind fun vs9 =>
  some { r := (.bool (vs9.getD 0 false)) }
theorem r99 (T : Nat → List SVal → Option Res) (k : Nat) (x0 : SVal) (x1 : SVal) : bodyE P H T k 99 [x0, x1] = R99 T k x0 x1 := by kernel_rfl
noncomputable def D99 (T : Nat → List SVal → Option Res) (k : Nat) : List SVal → Option Res
  | [x0, x1] => R99 T k x0 x1
  | a => bodyE P H T k 99 a
theorem d99 (T : Nat → List SVal → Option Res) (k : Nat) (a : List SVal) : D99 T k a = bodyE P H T k 99 a := by
  unfold D99
  split
  · exact (r99 ..).symm
  · rfl
theorem t99 (k : Nat) (x0 : SVal) (x1 : SVal) : T (k + 1) 99 [x0, x1] = R99 (T k) k x0 x1 := (by kernel_rfl : T (k + 1) 99 [x0, x1] = bodyE P H (T k) k 99 [x0, x1]).trans (r99 ..)
/-- limelight/limelightref03.Top -/
def R100 (T : Nat → List SVal → Option Res) (k : Nat) (x0 : SVal) (x1 : SVal) : Option Res :=
  (T 126 [(weak x0), x1]).bind fun r1 =>
  (sLen r1.r).bind fun r2 =>
  (sBin .sub r2 (.int .i64 1)).bind fun r3 =>
  (sIdx false 1 r1.r r3).bind fun e4 =>
  some { r := e4 }
theorem r100 (T : Nat → List SVal → Option Res) (k : Nat) (x0 : SVal) (x1 : SVal) : bodyE P H T k 100 [x0, x1] = R100 T k x0 x1 := by kernel_rfl
noncomputable def D100 (T : Nat → List SVal → Option Res) (k : Nat) : List SVal → Option Res
  | [x0, x1] => R100 T k x0 x1
  | a => bodyE P H T k 100 a
theorem d100 (T : Nat → List SVal → Option Res) (k : Nat) (a : List SVal) : D100 T k a = bodyE P H T k 100 a := by
  unfold D100
  split
  · exact (r100 ..).symm
  · rfl
theorem t100 (k : Nat) (x0 : SVal) (x1 : SVal) : T (k + 1) 100 [x0, x1] = R100 (T k) k x0 x1 := (by kernel_rfl : T (k + 1) 100 [x0, x1] = bodyE P H (T k) k 100 [x0, x1]).trans (r100 ..)
/-- limelight/limelightref05.Of -/
def R101 (T : Nat → List SVal → Option Res) (k : Nat) (x0 : SVal) (x1 : SVal) : Option Res :=
  (sIdx true 7 x0 x1).bind fun e1 =>
  (sBin .eql (SVal.cell e1 2) (.int .i64 (-1))).bind fun r2 =>
  pickC r2
  (some { r := (.int .i64 (-1)) })
  ((sIdx true 7 x0 (SVal.cell e1 2)).bind fun e3 =>
   (sBin .eql (SVal.cell e3 5) (.int .i64 (-1))).bind fun r4 =>
   pickC r4
   (some { r := (.int .i64 (-1)) })
   ((T 127 [(weak x0), (SVal.cell e3 5)]).bind fun r5 =>
    (T 36 [(weak x0), (SVal.cell e3 5), (.int .i64 8)]).bind fun r6 =>
    pickC r6.r
    ((T 60 [(weak x0), x1, (.int .i64 9)]).bind fun r7 =>
     (guardX r7.r.c1 true
      ((T 24 [(weak r5.r), r7.r.c0]).bind fun r8 =>
       if isSc1 r8.r = true then
       (asB r8.r).bind fun b9 =>
       some [b9]
       else none)
      (some [false])
      (none)).bind fun vs10 =>
     pickC (.bool (vs10.getD 0 false))
     (some { r := r7.r.c0 })
     (some { r := (.int .i64 (-1)) }))
    (loopN (fun s11 next11 =>
      (sLen s11.k2).bind fun r12 =>
      (sBin .lss s11.k3 r12).bind fun r13 =>
      pickC r13
      ((sIdx false 1 s11.k2 s11.k3).bind fun e14 =>
       (T 128 [(weak s11.k0), e14]).bind fun r15 =>
       (T 128 [(weak s11.k0), s11.k1]).bind fun r16 =>
       (sBin .eql r15.r r16.r).bind fun r17 =>
       pickC r17
       ((sIdx false 1 s11.k2 s11.k3).bind fun e18 =>
        some { r := e18 })
       ((sBin .add s11.k3 (.int .i64 1)).bind fun r19 =>
        next11 ⟨[(weak s11.k0), s11.k1, (weak s11.k2), r19], [], false⟩))
      (some { r := (.int .i64 (-1)) })) k ⟨[(weak x0), x1, (weak r5.r), (.int .i64 0)], [], false⟩)))
theorem r101 (T : Nat → List SVal → Option Res) (k : Nat) (x0 : SVal) (x1 : SVal) : bodyE P H T k 101 [x0, x1] = R101 T k x0 x1 := by kernel_rfl
noncomputable def D101 (T : Nat → List SVal → Option Res) (k : Nat) : List SVal → Option Res
  | [x0, x1] => R101 T k x0 x1
  | a => bodyE P H T k 101 a
theorem d101 (T : Nat → List SVal → Option Res) (k : Nat) (a : List SVal) : D101 T k a = bodyE P H T k 101 a := by
  unfold D101
  split
  · exact (r101 ..).symm
  · rfl
theorem t101 (k : Nat) (x0 : SVal) (x1 : SVal) : T (k + 1) 101 [x0, x1] = R101 (T k) k x0 x1 := (by kernel_rfl : T (k + 1) 101 [x0, x1] = bodyE P H (T k) k 101 [x0, x1]).trans (r101 ..)
/-- slices.Backward[[]int,int]$1 -/
def R102 (T : Nat → List SVal → Option Res) (k : Nat) (x1 : SVal) : Option Res :=
  (sLen x1).bind fun r1 =>
  (sBin .sub r1 (.int .i64 1)).bind fun r2 =>
  loopN (fun s3 next3 =>
   (sBin .geq s3.k2 (.int .i64 0)).bind fun r4 =>
   pickC r4
   ((sIdx false 1 (SVal.cell s3.k1 0) s3.k2).bind fun e5 =>
    if (s3.stop) = true then none else
    both
    ((sBin .sub s3.k2 (.int .i64 1)).bind fun r6 =>
     next3 ⟨[.yld, (.rp [(SVal.cell s3.k1 0)]), r6], (s3.out ++ [(.tup [s3.k2, e5])]), s3.stop⟩)
    (some { r := (.tup []) }))
   (if (s3.stop) = true then
    some { r := (.tup []) }
    else
    some { r := (.tup []), out := s3.out })) k ⟨[.yld, (.rp [x1]), r2], [], false⟩
theorem r102 (T : Nat → List SVal → Option Res) (k : Nat) (x1 : SVal) : bodyE P H T k 102 [.yld, (.rp [x1])] = R102 T k x1 := by kernel_rfl
noncomputable def D102 (T : Nat → List SVal → Option Res) (k : Nat) : List SVal → Option Res
  | [.yld, (.rp [x1])] => R102 T k x1
  | a => bodyE P H T k 102 a
theorem d102 (T : Nat → List SVal → Option Res) (k : Nat) (a : List SVal) : D102 T k a = bodyE P H T k 102 a := by
  unfold D102
  split
  · exact (r102 ..).symm
  · rfl
theorem t102 (k : Nat) (x1 : SVal) : T (k + 1) 102 [.yld, (.rp [x1])] = R102 (T k) k x1 := (by kernel_rfl : T (k + 1) 102 [.yld, (.rp [x1])] = bodyE P H (T k) k 102 [.yld, (.rp [x1])]).trans (r102 ..)
/-- limelight/limelightref04.Above -/
def R103 (T : Nat → List SVal → Option Res) (k : Nat) (x0 : SVal) (x1 : SVal) (x2 : SVal) : Option Res :=
  (T 129 [(weak x0), x2]).bind fun r1 =>
  (T 24 [(weak r1.r), x1]).bind fun r2 =>
  if isSc1 r2.r = true then
  some { r := r2.r }
  else none
theorem r103 (T : Nat → List SVal → Option Res) (k : Nat) (x0 : SVal) (x1 : SVal) (x2 : SVal) : bodyE P H T k 103 [x0, x1, x2] = R103 T k x0 x1 x2 := by kernel_rfl
noncomputable def D103 (T : Nat → List SVal → Option Res) (k : Nat) : List SVal → Option Res
  | [x0, x1, x2] => R103 T k x0 x1 x2
  | a => bodyE P H T k 103 a
theorem d103 (T : Nat → List SVal → Option Res) (k : Nat) (a : List SVal) : D103 T k a = bodyE P H T k 103 a := by
  unfold D103
  split
  · exact (r103 ..).symm
  · rfl
theorem t103 (k : Nat) (x0 : SVal) (x1 : SVal) (x2 : SVal) : T (k + 1) 103 [x0, x1, x2] = R103 (T k) k x0 x1 x2 := (by kernel_rfl : T (k + 1) 103 [x0, x1, x2] = bodyE P H (T k) k 103 [x0, x1, x2]).trans (r103 ..)
/-- limelight/limelightref01.value -/
def R104 (T : Nat → List SVal → Option Res) (k : Nat) (x0 : SVal) (x1 : SVal) : Option Res :=
  (sBin .eql x0 (.int .i64 0)).bind fun r1 =>
  pickC r1
  (((sBin .geq x1 (.int .i64 (-2147483648))).bind fun r2 =>
    guardX r2 true
    ((sBin .lss x1 (.int .i64 2147483648)).bind fun r3 =>
     (asB r3).bind fun b4 =>
     some [b4])
    (some [false])
    (none)).bind fun vs5 =>
   some { r := (.bool (vs5.getD 0 false)) })
  ((sBin .eql x0 (.int .i64 4)).bind fun r6 =>
   pickC r6
   (((sBin .geq x1 (.int .i64 0)).bind fun r7 =>
     guardX r7 true
     ((sBin .lss x1 (.int .i64 2147483648)).bind fun r8 =>
      (asB r8).bind fun b9 =>
      some [b9])
     (some [false])
     (none)).bind fun vs10 =>
    some { r := (.bool (vs10.getD 0 false)) })
   ((sBin .eql x0 (.int .i64 6)).bind fun r11 =>
    pickC r11
    (((sBin .geq x1 (.int .i64 1)).bind fun r12 =>
      guardX r12 true
      ((sBin .leq x1 (.int .i64 3)).bind fun r13 =>
       (asB r13).bind fun b14 =>
       some [b14])
      (some [false])
      (none)).bind fun vs15 =>
     some { r := (.bool (vs15.getD 0 false)) })
    ((sBin .eql x0 (.int .i64 9)).bind fun r16 =>
     pickC r16
     (((sBin .geq x1 (.int .i64 0)).bind fun r17 =>
       guardX r17 true
       ((sBin .leq x1 (.int .i64 63)).bind fun r18 =>
        (asB r18).bind fun b19 =>
        some [b19])
       (some [false])
       (none)).bind fun vs20 =>
      some { r := (.bool (vs20.getD 0 false)) })
     ((sBin .eql x1 (.int .i64 0)).bind fun r21 =>
      some { r := r21 }))))
theorem r104 (T : Nat → List SVal → Option Res) (k : Nat) (x0 : SVal) (x1 : SVal) : bodyE P H T k 104 [x0, x1] = R104 T k x0 x1 := by kernel_rfl
noncomputable def D104 (T : Nat → List SVal → Option Res) (k : Nat) : List SVal → Option Res
  | [x0, x1] => R104 T k x0 x1
  | a => bodyE P H T k 104 a
theorem d104 (T : Nat → List SVal → Option Res) (k : Nat) (a : List SVal) : D104 T k a = bodyE P H T k 104 a := by
  unfold D104
  split
  · exact (r104 ..).symm
  · rfl
theorem t104 (k : Nat) (x0 : SVal) (x1 : SVal) : T (k + 1) 104 [x0, x1] = R104 (T k) k x0 x1 := (by kernel_rfl : T (k + 1) 104 [x0, x1] = bodyE P H (T k) k 104 [x0, x1]).trans (r104 ..)
/-- limelight/tree.may -/
def R105 (T : Nat → List SVal → Option Res) (k : Nat) (x0 : SVal) : Option Res :=
  (sLen x0).bind fun r1 =>
  (T 130 [r1, (.int .i64 1), (.int .i64 64)]).bind fun r2 =>
  (sNot r2.r).bind fun r3 =>
  pickC r3
  (some { r := (.bool false) })
  ((sLen x0).bind fun r4 =>
   loopN (fun s5 next5 =>
    (sBin .lss s5.k2 s5.k1).bind fun r6 =>
    pickC r6
    ((T 131 [(weak s5.k0), s5.k2]).bind fun r7 =>
     (sNot r7.r).bind fun r8 =>
     pickC r8
     (some { r := (.bool false) })
     ((sBin .add s5.k2 (.int .i64 1)).bind fun r9 =>
      next5 ⟨[(weak s5.k0), s5.k1, r9], [], false⟩))
    ((sLen s5.k0).bind fun r10 =>
     loopN (fun s11 next11 =>
      (sBin .lss s11.k2 s11.k1).bind fun r12 =>
      pickC r12
      ((T 132 [(weak s11.k0), s11.k2]).bind fun r13 =>
       pickC r13.r
       (some { r := (.bool false) })
       ((sBin .add s11.k2 (.int .i64 1)).bind fun r14 =>
        next11 ⟨[(weak s11.k0), s11.k1, r14], [], false⟩))
      (some { r := (.bool true) })) k ⟨[(weak s5.k0), r10, (.int .i64 0)], [], false⟩)) k ⟨[(weak x0), r4, (.int .i64 0)], [], false⟩)
theorem r105 (T : Nat → List SVal → Option Res) (k : Nat) (x0 : SVal) : bodyE P H T k 105 [x0] = R105 T k x0 := by kernel_rfl
noncomputable def D105 (T : Nat → List SVal → Option Res) (k : Nat) : List SVal → Option Res
  | [x0] => R105 T k x0
  | a => bodyE P H T k 105 a
theorem d105 (T : Nat → List SVal → Option Res) (k : Nat) (a : List SVal) : D105 T k a = bodyE P H T k 105 a := by
  unfold D105
  split
  · exact (r105 ..).symm
  · rfl
theorem t105 (k : Nat) (x0 : SVal) : T (k + 1) 105 [x0] = R105 (T k) k x0 := (by kernel_rfl : T (k + 1) 105 [x0] = bodyE P H (T k) k 105 [x0]).trans (r105 ..)
/-- limelight/top.only[int] -/
def R106 (T : Nat → List SVal → Option Res) (k : Nat) (x0 : SVal) (x1 : SVal) : Option Res :=
  (sLen x0).bind fun r1 =>
  loopN (fun s2 next2 =>
   (sBin .lss s2.k5 s2.k4).bind fun r3 =>
   pickC r3
   ((sIdx false 1 s2.k3 s2.k5).bind fun e4 =>
    (callV H T s2.k0 [e4]).bind fun y5 =>
    pickC y5
    (if (List.all [[.v e4]] allOne) = true then
     if (s2.k1.xs.length + ([e4] : List SVal).length) * 8 ≤ maxAppend then
     (sBin .add s2.k5 (.int .i64 1)).bind fun r6 =>
     next2 ⟨[s2.k0, (.sl 1 true false (s2.k1.xs ++ ([e4] : List SVal))), (.sl 1 true false s2.k2.xs), (weak s2.k3), s2.k4, r6], [], false⟩
     else none
     else none)
    (if (List.all [[.v e4]] allOne) = true then
     if (s2.k2.xs.length + ([e4] : List SVal).length) * 8 ≤ maxAppend then
     (sBin .add s2.k5 (.int .i64 1)).bind fun r7 =>
     next2 ⟨[s2.k0, (.sl 1 true false s2.k1.xs), (.sl 1 true false (s2.k2.xs ++ ([e4] : List SVal))), (weak s2.k3), s2.k4, r7], [], false⟩
     else none
     else none))
   (some { r := (.tup [(.sl 1 false false s2.k1.xs), (.sl 1 false false s2.k2.xs)]) })) k ⟨[x1, (.sl 1 true false []), (.sl 1 true false []), (weak x0), r1, (.int .i64 0)], [], false⟩
theorem r106 (T : Nat → List SVal → Option Res) (k : Nat) (x0 : SVal) (x1 : SVal) : bodyE P H T k 106 [x0, x1] = R106 T k x0 x1 := by kernel_rfl
noncomputable def D106 (T : Nat → List SVal → Option Res) (k : Nat) : List SVal → Option Res
  | [x0, x1] => R106 T k x0 x1
  | a => bodyE P H T k 106 a
theorem d106 (T : Nat → List SVal → Option Res) (k : Nat) (a : List SVal) : D106 T k a = bodyE P H T k 106 a := by
  unfold D106
  split
  · exact (r106 ..).symm
  · rfl
theorem t106 (k : Nat) (x0 : SVal) (x1 : SVal) : T (k + 1) 106 [x0, x1] = R106 (T k) k x0 x1 := (by kernel_rfl : T (k + 1) 106 [x0, x1] = bodyE P H (T k) k 106 [x0, x1]).trans (r106 ..)
/-- slices.Concat[[]int,int] -/
def R107 (T : Nat → List SVal → Option Res) (k : Nat) (x0 : SVal) : Option Res :=
  (sLen x0).bind fun r1 =>
  loopN (fun s2 next2 =>
   (sBin .lss s2.k4 s2.k3).bind fun r3 =>
   pickC r3
   ((sIdx false 1 s2.k2 s2.k4).bind fun e4 =>
    (sLen e4).bind fun r5 =>
    (sBin .add s2.k1 r5).bind fun r6 =>
    (sBin .lss r6 (.int .i64 0)).bind fun r7 =>
    pickC r7
    (none)
    ((sBin .add s2.k4 (.int .i64 1)).bind fun r8 =>
     next2 ⟨[(weak s2.k0), r6, (weak s2.k2), s2.k3, r8], [], false⟩))
   ((T 133 [(.sl 1 false true []), s2.k1]).bind fun r9 =>
    (sLen s2.k0).bind fun r10 =>
    loopN (fun s11 next11 =>
     (sBin .lss s11.k3 s11.k2).bind fun r12 =>
     pickC r12
     ((sIdx false 1 s11.k1 s11.k3).bind fun e13 =>
      (elems 1 e13).bind fun ys14 =>
      if (s11.k0.xs.length + ys14.length) * 8 ≤ maxAppend then
      (sBin .add s11.k3 (.int .i64 1)).bind fun r15 =>
      next11 ⟨[(.sl 1 true false (s11.k0.xs ++ ys14)), (weak s11.k1), s11.k2, r15], [], false⟩
      else none)
     (some { r := (.sl 1 false false s11.k0.xs) })) k ⟨[(.sl 1 true false r9.r.xs), (weak s2.k0), r10, (.int .i64 0)], [], false⟩)) k ⟨[(weak x0), (.int .i64 0), (weak x0), r1, (.int .i64 0)], [], false⟩
theorem r107 (T : Nat → List SVal → Option Res) (k : Nat) (x0 : SVal) : bodyE P H T k 107 [x0] = R107 T k x0 := by kernel_rfl
noncomputable def D107 (T : Nat → List SVal → Option Res) (k : Nat) : List SVal → Option Res
  | [x0] => R107 T k x0
  | a => bodyE P H T k 107 a
theorem d107 (T : Nat → List SVal → Option Res) (k : Nat) (a : List SVal) : D107 T k a = bodyE P H T k 107 a := by
  unfold D107
  split
  · exact (r107 ..).symm
  · rfl
theorem t107 (k : Nat) (x0 : SVal) : T (k + 1) 107 [x0] = R107 (T k) k x0 := (by kernel_rfl : T (k + 1) 107 [x0] = bodyE P H (T k) k 107 [x0]).trans (r107 ..)
/-- limelight/top.may$1 -/
def R108 (T : Nat → List SVal → Option Res) (k : Nat) (x0 : SVal) (x1 : SVal) : Option Res :=
  (T 109 [(weak x1), x0]).bind fun r1 =>
  some { r := r1.r }
theorem r108 (T : Nat → List SVal → Option Res) (k : Nat) (x0 : SVal) (x1 : SVal) : bodyE P H T k 108 [x0, (.rp [x1])] = R108 T k x0 x1 := by kernel_rfl
noncomputable def D108 (T : Nat → List SVal → Option Res) (k : Nat) : List SVal → Option Res
  | [x0, (.rp [x1])] => R108 T k x0 x1
  | a => bodyE P H T k 108 a
theorem d108 (T : Nat → List SVal → Option Res) (k : Nat) (a : List SVal) : D108 T k a = bodyE P H T k 108 a := by
  unfold D108
  split
  · exact (r108 ..).symm
  · rfl
theorem t108 (k : Nat) (x0 : SVal) (x1 : SVal) : T (k + 1) 108 [x0, (.rp [x1])] = R108 (T k) k x0 x1 := (by kernel_rfl : T (k + 1) 108 [x0, (.rp [x1])] = bodyE P H (T k) k 108 [x0, (.rp [x1])]).trans (r108 ..)
/-- limelight/top.dialog -/
def R109 (T : Nat → List SVal → Option Res) (k : Nat) (x0 : SVal) (x1 : SVal) : Option Res :=
  ((T 134 [(weak x0), x1]).bind fun r1 =>
   guardX r1.r true
   ((sIdx true 7 x0 x1).bind fun e2 =>
    (sBin .eql (SVal.cell e2 1) (.int .i64 2)).bind fun r3 =>
    (asB r3).bind fun b4 =>
    some [b4])
   (some [false])
   (none)).bind fun vs5 =>
  some { r := (.bool (vs5.getD 0 false)) }
theorem r109 (T : Nat → List SVal → Option Res) (k : Nat) (x0 : SVal) (x1 : SVal) : bodyE P H T k 109 [x0, x1] = R109 T k x0 x1 := by kernel_rfl
noncomputable def D109 (T : Nat → List SVal → Option Res) (k : Nat) : List SVal → Option Res
  | [x0, x1] => R109 T k x0 x1
  | a => bodyE P H T k 109 a
theorem d109 (T : Nat → List SVal → Option Res) (k : Nat) (a : List SVal) : D109 T k a = bodyE P H T k 109 a := by
  unfold D109
  split
  · exact (r109 ..).symm
  · rfl
theorem t109 (k : Nat) (x0 : SVal) (x1 : SVal) : T (k + 1) 109 [x0, x1] = R109 (T k) k x0 x1 := (by kernel_rfl : T (k + 1) 109 [x0, x1] = bodyE P H (T k) k 109 [x0, x1]).trans (r109 ..)
/-- limelight/top.only[limelight/api.Shown] -/
def R110 (T : Nat → List SVal → Option Res) (k : Nat) (x0 : SVal) (x1 : SVal) : Option Res :=
  (sLen x0).bind fun r1 =>
  loopN (fun s2 next2 =>
   (sBin .lss s2.k5 s2.k4).bind fun r3 =>
   pickC r3
   ((sIdx true 2 s2.k3 s2.k5).bind fun e4 =>
    if (allOne [.v (SVal.cell e4 0), .v (SVal.cell e4 1)]) = true then
    (callV H T s2.k0 [(.agg [(SVal.cell e4 0), (SVal.cell e4 1)])]).bind fun y5 =>
    pickC y5
    (if (List.all [[.v (SVal.cell e4 0), .v (SVal.cell e4 1)]] allOne) = true then
     if (s2.k1.xs.length + ([(.agg [(SVal.cell e4 0), (SVal.cell e4 1)])] : List SVal).length) * 16 ≤ maxAppend then
     (sBin .add s2.k5 (.int .i64 1)).bind fun r6 =>
     next2 ⟨[s2.k0, (.sl 2 true false (s2.k1.xs ++ ([(.agg [(SVal.cell e4 0), (SVal.cell e4 1)])] : List SVal))), (.sl 2 true false s2.k2.xs), (weak s2.k3), s2.k4, r6], [], false⟩
     else none
     else none)
    (if (List.all [[.v (SVal.cell e4 0), .v (SVal.cell e4 1)]] allOne) = true then
     if (s2.k2.xs.length + ([(.agg [(SVal.cell e4 0), (SVal.cell e4 1)])] : List SVal).length) * 16 ≤ maxAppend then
     (sBin .add s2.k5 (.int .i64 1)).bind fun r7 =>
     next2 ⟨[s2.k0, (.sl 2 true false s2.k1.xs), (.sl 2 true false (s2.k2.xs ++ ([(.agg [(SVal.cell e4 0), (SVal.cell e4 1)])] : List SVal))), (weak s2.k3), s2.k4, r7], [], false⟩
     else none
     else none)
    else none)
   (some { r := (.tup [(.sl 2 true false s2.k1.xs), (.sl 2 false false s2.k2.xs)]) })) k ⟨[x1, (.sl 2 true false []), (.sl 2 true false []), (weak x0), r1, (.int .i64 0)], [], false⟩
theorem r110 (T : Nat → List SVal → Option Res) (k : Nat) (x0 : SVal) (x1 : SVal) : bodyE P H T k 110 [x0, x1] = R110 T k x0 x1 := by kernel_rfl
noncomputable def D110 (T : Nat → List SVal → Option Res) (k : Nat) : List SVal → Option Res
  | [x0, x1] => R110 T k x0 x1
  | a => bodyE P H T k 110 a
theorem d110 (T : Nat → List SVal → Option Res) (k : Nat) (a : List SVal) : D110 T k a = bodyE P H T k 110 a := by
  unfold D110
  split
  · exact (r110 ..).symm
  · rfl
theorem t110 (k : Nat) (x0 : SVal) (x1 : SVal) : T (k + 1) 110 [x0, x1] = R110 (T k) k x0 x1 := (by kernel_rfl : T (k + 1) 110 [x0, x1] = bodyE P H (T k) k 110 [x0, x1]).trans (r110 ..)
/-- limelight/top.may$2 -/
def R111 (T : Nat → List SVal → Option Res) (k : Nat) (x0a : SVal) (x0b : SVal) (x1 : SVal) : Option Res :=
  ((T 112 [(weak x1), x0a]).bind fun r1 =>
   guardX r1.r true
   ((sBin .eql x0b (.int .i64 (-1))).bind fun r2 =>
    guardX r2 false
    ((T 113 [(weak x1), x0b]).bind fun r3 =>
     (asB r3.r).bind fun b4 =>
     some [b4])
    (some [true])
    (none))
   (some [false])
   (none)).bind fun vs5 =>
  some { r := (.bool (vs5.getD 0 false)) }
theorem r111 (T : Nat → List SVal → Option Res) (k : Nat) (x0a : SVal) (x0b : SVal) (x1 : SVal) : bodyE P H T k 111 [(.agg [x0a, x0b]), (.rp [x1])] = R111 T k x0a x0b x1 := by kernel_rfl
noncomputable def D111 (T : Nat → List SVal → Option Res) (k : Nat) : List SVal → Option Res
  | [(.agg [x0a, x0b]), (.rp [x1])] => R111 T k x0a x0b x1
  | a => bodyE P H T k 111 a
theorem d111 (T : Nat → List SVal → Option Res) (k : Nat) (a : List SVal) : D111 T k a = bodyE P H T k 111 a := by
  unfold D111
  split
  · exact (r111 ..).symm
  · rfl
theorem t111 (k : Nat) (x0a : SVal) (x0b : SVal) (x1 : SVal) : T (k + 1) 111 [(.agg [x0a, x0b]), (.rp [x1])] = R111 (T k) k x0a x0b x1 := (by kernel_rfl : T (k + 1) 111 [(.agg [x0a, x0b]), (.rp [x1])] = bodyE P H (T k) k 111 [(.agg [x0a, x0b]), (.rp [x1])]).trans (r111 ..)
/-- limelight/top.popup -/
def R112 (T : Nat → List SVal → Option Res) (k : Nat) (x0 : SVal) (x1 : SVal) : Option Res :=
  ((T 134 [(weak x0), x1]).bind fun r1 =>
   guardX r1.r true
   ((T 77 [(weak x0), x1, (.int .i64 6)]).bind fun r2 =>
    (asB r2.r).bind fun b3 =>
    some [b3])
   (some [false])
   (none)).bind fun vs4 =>
  some { r := (.bool (vs4.getD 0 false)) }
theorem r112 (T : Nat → List SVal → Option Res) (k : Nat) (x0 : SVal) (x1 : SVal) : bodyE P H T k 112 [x0, x1] = R112 T k x0 x1 := by kernel_rfl
noncomputable def D112 (T : Nat → List SVal → Option Res) (k : Nat) : List SVal → Option Res
  | [x0, x1] => R112 T k x0 x1
  | a => bodyE P H T k 112 a
theorem d112 (T : Nat → List SVal → Option Res) (k : Nat) (a : List SVal) : D112 T k a = bodyE P H T k 112 a := by
  unfold D112
  split
  · exact (r112 ..).symm
  · rfl
theorem t112 (k : Nat) (x0 : SVal) (x1 : SVal) : T (k + 1) 112 [x0, x1] = R112 (T k) k x0 x1 := (by kernel_rfl : T (k + 1) 112 [x0, x1] = bodyE P H (T k) k 112 [x0, x1]).trans (r112 ..)
/-- limelight/top.is -/
def R113 (T : Nat → List SVal → Option Res) (k : Nat) (x0 : SVal) (x1 : SVal) : Option Res :=
  ((sBin .geq x1 (.int .i64 0)).bind fun r1 =>
   guardX r1 true
   ((sLen x0).bind fun r2 =>
    (sBin .lss x1 r2).bind fun r3 =>
    (asB r3).bind fun b4 =>
    some [b4])
   (some [false])
   (none)).bind fun vs5 =>
  some { r := (.bool (vs5.getD 0 false)) }
theorem r113 (T : Nat → List SVal → Option Res) (k : Nat) (x0 : SVal) (x1 : SVal) : bodyE P H T k 113 [x0, x1] = R113 T k x0 x1 := by kernel_rfl
noncomputable def D113 (T : Nat → List SVal → Option Res) (k : Nat) : List SVal → Option Res
  | [x0, x1] => R113 T k x0 x1
  | a => bodyE P H T k 113 a
theorem d113 (T : Nat → List SVal → Option Res) (k : Nat) (a : List SVal) : D113 T k a = bodyE P H T k 113 a := by
  unfold D113
  split
  · exact (r113 ..).symm
  · rfl
theorem t113 (k : Nat) (x0 : SVal) (x1 : SVal) : T (k + 1) 113 [x0, x1] = R113 (T k) k x0 x1 := (by kernel_rfl : T (k + 1) 113 [x0, x1] = bodyE P H (T k) k 113 [x0, x1]).trans (r113 ..)
/-- limelight/top.high -/
def R114 (T : Nat → List SVal → Option Res) (k : Nat) (x0a : SVal) (x0b : SVal) (x0c : SVal) (x0d : SVal) (x0e : SVal) : Option Res :=
  (T 135 [(weak x0d), (.fn 136 [])]).bind fun r1 =>
  if (List.all [[.v x0c], [.v r1.r]] allOne) = true then
  (T 107 [(.sl 1 false false [x0c, r1.r])]).bind fun r2 =>
  some { r := (weak r2.r) }
  else none
theorem r114 (T : Nat → List SVal → Option Res) (k : Nat) (x0a : SVal) (x0b : SVal) (x0c : SVal) (x0d : SVal) (x0e : SVal) : bodyE P H T k 114 [(.agg [x0a, x0b, x0c, x0d, x0e])] = R114 T k x0a x0b x0c x0d x0e := by kernel_rfl
noncomputable def D114 (T : Nat → List SVal → Option Res) (k : Nat) : List SVal → Option Res
  | [(.agg [x0a, x0b, x0c, x0d, x0e])] => R114 T k x0a x0b x0c x0d x0e
  | a => bodyE P H T k 114 a
theorem d114 (T : Nat → List SVal → Option Res) (k : Nat) (a : List SVal) : D114 T k a = bodyE P H T k 114 a := by
  unfold D114
  split
  · exact (r114 ..).symm
  · rfl
theorem t114 (k : Nat) (x0a : SVal) (x0b : SVal) (x0c : SVal) (x0d : SVal) (x0e : SVal) : T (k + 1) 114 [(.agg [x0a, x0b, x0c, x0d, x0e])] = R114 (T k) k x0a x0b x0c x0d x0e := (by kernel_rfl : T (k + 1) 114 [(.agg [x0a, x0b, x0c, x0d, x0e])] = bodyE P H (T k) k 114 [(.agg [x0a, x0b, x0c, x0d, x0e])]).trans (r114 ..)
/-- slices.Sorted[int] -/
def R115 (T : Nat → List SVal → Option Res) (k : Nat) (x0 : SVal) : Option Res :=
  (T 48 [x0]).bind fun r1 =>
  (T 137 [(.sl 1 true false r1.r.xs)]).bind fun r2 =>
  some { r := (.sl 1 false false ((r2.outs.headD .undef).xs)) }
theorem r115 (T : Nat → List SVal → Option Res) (k : Nat) (x0 : SVal) : bodyE P H T k 115 [x0] = R115 T k x0 := by kernel_rfl
noncomputable def D115 (T : Nat → List SVal → Option Res) (k : Nat) : List SVal → Option Res
  | [x0] => R115 T k x0
  | a => bodyE P H T k 115 a
theorem d115 (T : Nat → List SVal → Option Res) (k : Nat) (a : List SVal) : D115 T k a = bodyE P H T k 115 a := by
  unfold D115
  split
  · exact (r115 ..).symm
  · rfl
theorem t115 (k : Nat) (x0 : SVal) : T (k + 1) 115 [x0] = R115 (T k) k x0 := (by kernel_rfl : T (k + 1) 115 [x0] = bodyE P H (T k) k 115 [x0]).trans (r115 ..)
/-- slices.Values[[]int,int] -/
def R116 (T : Nat → List SVal → Option Res) (k : Nat) (x0 : SVal) : Option Res :=
  if (oneS x0) = true then
  some { r := (.fn 138 [(.rp [x0])]) }
  else none
theorem r116 (T : Nat → List SVal → Option Res) (k : Nat) (x0 : SVal) : bodyE P H T k 116 [x0] = R116 T k x0 := by kernel_rfl
noncomputable def D116 (T : Nat → List SVal → Option Res) (k : Nat) : List SVal → Option Res
  | [x0] => R116 T k x0
  | a => bodyE P H T k 116 a
theorem d116 (T : Nat → List SVal → Option Res) (k : Nat) (a : List SVal) : D116 T k a = bodyE P H T k 116 a := by
  unfold D116
  split
  · exact (r116 ..).symm
  · rfl
theorem t116 (k : Nat) (x0 : SVal) : T (k + 1) 116 [x0] = R116 (T k) k x0 := (by kernel_rfl : T (k + 1) 116 [x0] = bodyE P H (T k) k 116 [x0]).trans (r116 ..)
/-- slices.Equal[[]int,int] -/
def R118 (T : Nat → List SVal → Option Res) (k : Nat) (x0 : SVal) (x1 : SVal) : Option Res :=
  (sLen x0).bind fun r1 =>
  (sLen x1).bind fun r2 =>
  (sBin .neq r1 r2).bind fun r3 =>
  pickC r3
  (some { r := (.bool false) })
  ((sLen x0).bind fun r4 =>
   loopN (fun s5 next5 =>
    (sBin .lss s5.k3 s5.k2).bind fun r6 =>
    pickC r6
    ((sIdx false 1 s5.k0 s5.k3).bind fun e7 =>
     (sIdx false 1 s5.k1 s5.k3).bind fun e8 =>
     (sBin .neq e7 e8).bind fun r9 =>
     pickC r9
     (some { r := (.bool false) })
     ((sBin .add s5.k3 (.int .i64 1)).bind fun r10 =>
      next5 ⟨[(weak s5.k0), (weak s5.k1), s5.k2, r10], [], false⟩))
    (some { r := (.bool true) })) k ⟨[(weak x0), (weak x1), r4, (.int .i64 0)], [], false⟩)
theorem r118 (T : Nat → List SVal → Option Res) (k : Nat) (x0 : SVal) (x1 : SVal) : bodyE P H T k 118 [x0, x1] = R118 T k x0 x1 := by kernel_rfl
noncomputable def D118 (T : Nat → List SVal → Option Res) (k : Nat) : List SVal → Option Res
  | [x0, x1] => R118 T k x0 x1
  | a => bodyE P H T k 118 a
theorem d118 (T : Nat → List SVal → Option Res) (k : Nat) (a : List SVal) : D118 T k a = bodyE P H T k 118 a := by
  unfold D118
  split
  · exact (r118 ..).symm
  · rfl
theorem t118 (k : Nat) (x0 : SVal) (x1 : SVal) : T (k + 1) 118 [x0, x1] = R118 (T k) k x0 x1 := (by kernel_rfl : T (k + 1) 118 [x0, x1] = bodyE P H (T k) k 118 [x0, x1]).trans (r118 ..)
/-- limelight/order.all -/
def R119 (T : Nat → List SVal → Option Res) (k : Nat) (x0 : SVal) (x1 : SVal) : Option Res :=
  if (oneS x0) = true then
  ((T 90 [(weak x0)]).bind fun r1 =>
   (sBin .eql r1.r (.int .i64 0)).bind fun r2 =>
   guardX r2 true
   ((T 44 [(weak x1), (.fn 140 [(.rp [x0])])]).bind fun r3 =>
    (sNot r3.r).bind fun r4 =>
    (asB r4).bind fun b5 =>
    some [b5])
   (some [false])
   (none)).bind fun vs6 =>
  some { r := (.bool (vs6.getD 0 false)) }
  else none
theorem r119 (T : Nat → List SVal → Option Res) (k : Nat) (x0 : SVal) (x1 : SVal) : bodyE P H T k 119 [x0, x1] = R119 T k x0 x1 := by kernel_rfl
noncomputable def D119 (T : Nat → List SVal → Option Res) (k : Nat) : List SVal → Option Res
  | [x0, x1] => R119 T k x0 x1
  | a => bodyE P H T k 119 a
theorem d119 (T : Nat → List SVal → Option Res) (k : Nat) (a : List SVal) : D119 T k a = bodyE P H T k 119 a := by
  unfold D119
  split
  · exact (r119 ..).symm
  · rfl
theorem t119 (k : Nat) (x0 : SVal) (x1 : SVal) : T (k + 1) 119 [x0, x1] = R119 (T k) k x0 x1 := (by kernel_rfl : T (k + 1) 119 [x0, x1] = bodyE P H (T k) k 119 [x0, x1]).trans (r119 ..)
/-- limelight/order.up -/
def R120 (T : Nat → List SVal → Option Res) (k : Nat) (x0 : SVal) (x1 : SVal) : Option Res :=
  if (oneS x0) = true then
  if (oneS x1) = true then
  some { r := (.fn 141 [(.mb [x1]), (.rp [x0])]) }
  else none
  else none
theorem r120 (T : Nat → List SVal → Option Res) (k : Nat) (x0 : SVal) (x1 : SVal) : bodyE P H T k 120 [x0, x1] = R120 T k x0 x1 := by kernel_rfl
noncomputable def D120 (T : Nat → List SVal → Option Res) (k : Nat) : List SVal → Option Res
  | [x0, x1] => R120 T k x0 x1
  | a => bodyE P H T k 120 a
theorem d120 (T : Nat → List SVal → Option Res) (k : Nat) (a : List SVal) : D120 T k a = bodyE P H T k 120 a := by
  unfold D120
  split
  · exact (r120 ..).symm
  · rfl
theorem t120 (k : Nat) (x0 : SVal) (x1 : SVal) : T (k + 1) 120 [x0, x1] = R120 (T k) k x0 x1 := (by kernel_rfl : T (k + 1) 120 [x0, x1] = bodyE P H (T k) k 120 [x0, x1]).trans (r120 ..)
/-- limelight/flat.over -/
def R121 (T : Nat → List SVal → Option Res) (k : Nat) (x0 : SVal) (x1 : SVal) : Option Res :=
  (sIdx true 7 x0 x1).bind fun e1 =>
  (sBin .eql (SVal.cell e1 2) (.int .i64 (-1))).bind fun r2 =>
  pickC r2
  (some { r := (.int .i64 (-1)) })
  ((sIdx true 7 x0 (SVal.cell e1 2)).bind fun e3 =>
   (sBin .eql (SVal.cell e3 0) (.int .i64 3)).bind fun r4 =>
   pickC r4
   ((T 142 [(weak x0), x1]).bind fun r5 =>
    some { r := r5.r })
   ((sIdx true 7 x0 (SVal.cell e1 2)).bind fun e6 =>
    (sBin .neq (SVal.cell e6 5) (.int .i64 (-1))).bind fun r7 =>
    pickC r7
    ((T 143 [(weak x0), x1]).bind fun r8 =>
     some { r := r8.r })
    (some { r := (SVal.cell e1 2) })))
theorem r121 (T : Nat → List SVal → Option Res) (k : Nat) (x0 : SVal) (x1 : SVal) : bodyE P H T k 121 [x0, x1] = R121 T k x0 x1 := by kernel_rfl
noncomputable def D121 (T : Nat → List SVal → Option Res) (k : Nat) : List SVal → Option Res
  | [x0, x1] => R121 T k x0 x1
  | a => bodyE P H T k 121 a
theorem d121 (T : Nat → List SVal → Option Res) (k : Nat) (a : List SVal) : D121 T k a = bodyE P H T k 121 a := by
  unfold D121
  split
  · exact (r121 ..).symm
  · rfl
theorem t121 (k : Nat) (x0 : SVal) (x1 : SVal) : T (k + 1) 121 [x0, x1] = R121 (T k) k x0 x1 := (by kernel_rfl : T (k + 1) 121 [x0, x1] = bodyE P H (T k) k 121 [x0, x1]).trans (r121 ..)
/-- limelight/flat.kids -/
def R122 (T : Nat → List SVal → Option Res) (k : Nat) (x0 : SVal) (x1 : SVal) : Option Res :=
  (sIdx true 7 x0 x1).bind fun e1 =>
  if (allOne [.v (SVal.cell e1 0), .v (SVal.cell e1 1), .v (SVal.cell e1 2), .v (SVal.cell e1 3), .v (SVal.cell e1 4), .v (SVal.cell e1 5), .v (SVal.cell e1 6)]) = true then
  (sBin .eql (SVal.cell e1 0) (.int .i64 3)).bind fun r2 =>
  pickC r2
  (some { r := (.sl 1 false false []) })
  ((sBin .neq (SVal.cell e1 5) (.int .i64 (-1))).bind fun r3 =>
   pickC r3
   ((sIdx true 7 x0 (SVal.cell e1 5)).bind fun e4 =>
    some { r := (weak (SVal.cell e4 3)) })
   ((T 144 [(weak x0), x1]).bind fun r5 =>
    (sLen r5.r).bind fun r6 =>
    (sBin .gtr r6 (.int .i64 0)).bind fun r7 =>
    pickC r7
    (some { r := (weak r5.r) })
    (some { r := (weak (SVal.cell e1 3)) })))
  else none
theorem r122 (T : Nat → List SVal → Option Res) (k : Nat) (x0 : SVal) (x1 : SVal) : bodyE P H T k 122 [x0, x1] = R122 T k x0 x1 := by kernel_rfl
noncomputable def D122 (T : Nat → List SVal → Option Res) (k : Nat) : List SVal → Option Res
  | [x0, x1] => R122 T k x0 x1
  | a => bodyE P H T k 122 a
theorem d122 (T : Nat → List SVal → Option Res) (k : Nat) (a : List SVal) : D122 T k a = bodyE P H T k 122 a := by
  unfold D122
  split
  · exact (r122 ..).symm
  · rfl
theorem t122 (k : Nat) (x0 : SVal) (x1 : SVal) : T (k + 1) 122 [x0, x1] = R122 (T k) k x0 x1 := (by kernel_rfl : T (k + 1) 122 [x0, x1] = bodyE P H (T k) k 122 [x0, x1]).trans (r122 ..)
/-- limelight/attr.node -/
def R123 (T : Nat → List SVal → Option Res) (k : Nat) (x0 : SVal) (x1 : SVal) : Option Res :=
  ((T 90 [(weak x0)]).bind fun r1 =>
   (sBin .eql r1.r (.int .i64 0)).bind fun r2 =>
   guardX r2 true
   ((sBin .geq x1 (.int .i64 0)).bind fun r3 =>
    guardX r3 true
    ((sLen x0).bind fun r4 =>
     (sBin .lss x1 r4).bind fun r5 =>
     (asB r5).bind fun b6 =>
     some [b6])
    (some [false])
    (none))
   (some [false])
   (none)).bind fun vs7 =>
  some { r := (.bool (vs7.getD 0 false)) }
theorem r123 (T : Nat → List SVal → Option Res) (k : Nat) (x0 : SVal) (x1 : SVal) : bodyE P H T k 123 [x0, x1] = R123 T k x0 x1 := by kernel_rfl
noncomputable def D123 (T : Nat → List SVal → Option Res) (k : Nat) : List SVal → Option Res
  | [x0, x1] => R123 T k x0 x1
  | a => bodyE P H T k 123 a
theorem d123 (T : Nat → List SVal → Option Res) (k : Nat) (a : List SVal) : D123 T k a = bodyE P H T k 123 a := by
  unfold D123
  split
  · exact (r123 ..).symm
  · rfl
theorem t123 (k : Nat) (x0 : SVal) (x1 : SVal) : T (k + 1) 123 [x0, x1] = R123 (T k) k x0 x1 := (by kernel_rfl : T (k + 1) 123 [x0, x1] = bodyE P H (T k) k 123 [x0, x1]).trans (r123 ..)
/-- limelight/attr.at -/
def R124 (T : Nat → List SVal → Option Res) (k : Nat) (x0a : SVal) (x0b : SVal) (x0c : SVal) (x0d : SVal) (x0e : SVal) (x0f : SVal) (x0g : SVal) (x1 : SVal) : Option Res :=
  if (oneS x1) = true then
  (T 145 [(weak x0g), (.fn 146 [(.rp [x1])])]).bind fun r1 =>
  some { r := r1.r }
  else none
theorem r124 (T : Nat → List SVal → Option Res) (k : Nat) (x0a : SVal) (x0b : SVal) (x0c : SVal) (x0d : SVal) (x0e : SVal) (x0f : SVal) (x0g : SVal) (x1 : SVal) : bodyE P H T k 124 [(.agg [x0a, x0b, x0c, x0d, x0e, x0f, x0g]), x1] = R124 T k x0a x0b x0c x0d x0e x0f x0g x1 := by kernel_rfl
noncomputable def D124 (T : Nat → List SVal → Option Res) (k : Nat) : List SVal → Option Res
  | [(.agg [x0a, x0b, x0c, x0d, x0e, x0f, x0g]), x1] => R124 T k x0a x0b x0c x0d x0e x0f x0g x1
  | a => bodyE P H T k 124 a
theorem d124 (T : Nat → List SVal → Option Res) (k : Nat) (a : List SVal) : D124 T k a = bodyE P H T k 124 a := by
  unfold D124
  split
  · exact (r124 ..).symm
  · rfl
theorem t124 (k : Nat) (x0a : SVal) (x0b : SVal) (x0c : SVal) (x0d : SVal) (x0e : SVal) (x0f : SVal) (x0g : SVal) (x1 : SVal) : T (k + 1) 124 [(.agg [x0a, x0b, x0c, x0d, x0e, x0f, x0g]), x1] = R124 (T k) k x0a x0b x0c x0d x0e x0f x0g x1 := (by kernel_rfl : T (k + 1) 124 [(.agg [x0a, x0b, x0c, x0d, x0e, x0f, x0g]), x1] = bodyE P H (T k) k 124 [(.agg [x0a, x0b, x0c, x0d, x0e, x0f, x0g]), x1]).trans (r124 ..)
/-- limelight/limelightref03.Up -/
def R126 (T : Nat → List SVal → Option Res) (k : Nat) (x0 : SVal) (x1 : SVal) : Option Res :=
  loopN (fun s1 next1 =>
   (sBin .neq s1.k1 (.int .i64 (-1))).bind fun r2 =>
   pickC r2
   (if (List.all [[.v s1.k1]] allOne) = true then
    if (s1.k2.xs.length + ([s1.k1] : List SVal).length) * 8 ≤ maxAppend then
    (sIdx true 7 s1.k0 s1.k1).bind fun e3 =>
    next1 ⟨[(weak s1.k0), (SVal.cell e3 2), (.sl 1 true false (s1.k2.xs ++ ([s1.k1] : List SVal)))], [], false⟩
    else none
    else none)
   (some { r := (.sl 1 false false s1.k2.xs) })) k ⟨[(weak x0), x1, (.sl 1 true false [])], [], false⟩
theorem r126 (T : Nat → List SVal → Option Res) (k : Nat) (x0 : SVal) (x1 : SVal) : bodyE P H T k 126 [x0, x1] = R126 T k x0 x1 := by kernel_rfl
noncomputable def D126 (T : Nat → List SVal → Option Res) (k : Nat) : List SVal → Option Res
  | [x0, x1] => R126 T k x0 x1
  | a => bodyE P H T k 126 a
theorem d126 (T : Nat → List SVal → Option Res) (k : Nat) (a : List SVal) : D126 T k a = bodyE P H T k 126 a := by
  unfold D126
  split
  · exact (r126 ..).symm
  · rfl
theorem t126 (k : Nat) (x0 : SVal) (x1 : SVal) : T (k + 1) 126 [x0, x1] = R126 (T k) k x0 x1 := (by kernel_rfl : T (k + 1) 126 [x0, x1] = bodyE P H (T k) k 126 [x0, x1]).trans (r126 ..)
/-- limelight/limelightref05.All -/
def R127 (T : Nat → List SVal → Option Res) (k : Nat) (x0 : SVal) (x1 : SVal) : Option Res :=
  (sIdx true 7 x0 x1).bind fun e1 =>
  (sBin .neq (SVal.cell e1 0) (.int .i64 3)).bind fun r2 =>
  pickC r2
  (some { r := (.sl 1 false false []) })
  ((T 147 [(weak x0), x1]).bind fun r3 =>
   loopN (fun s4 next4 =>
    (sLen s4.k2).bind fun r5 =>
    (sBin .lss s4.k3 r5).bind fun r6 =>
    pickC r6
    ((sIdx false 1 s4.k2 s4.k3).bind fun e7 =>
     (T 99 [(weak s4.k0), e7]).bind fun r8 =>
     pickC r8.r
     ((sIdx false 1 s4.k2 s4.k3).bind fun e9 =>
      if (List.all [[.v e9]] allOne) = true then
      if (s4.k1.xs.length + ([e9] : List SVal).length) * 8 ≤ maxAppend then
      (sBin .add s4.k3 (.int .i64 1)).bind fun r10 =>
      next4 ⟨[(weak s4.k0), (.sl 1 true false (s4.k1.xs ++ ([e9] : List SVal))), (weak s4.k2), r10], [], false⟩
      else none
      else none)
     ((sBin .add s4.k3 (.int .i64 1)).bind fun r11 =>
      next4 ⟨[(weak s4.k0), (.sl 1 true false s4.k1.xs), (weak s4.k2), r11], [], false⟩))
    (some { r := (.sl 1 false false s4.k1.xs) })) k ⟨[(weak x0), (.sl 1 true false []), (weak r3.r), (.int .i64 0)], [], false⟩)
theorem r127 (T : Nat → List SVal → Option Res) (k : Nat) (x0 : SVal) (x1 : SVal) : bodyE P H T k 127 [x0, x1] = R127 T k x0 x1 := by kernel_rfl
noncomputable def D127 (T : Nat → List SVal → Option Res) (k : Nat) : List SVal → Option Res
  | [x0, x1] => R127 T k x0 x1
  | a => bodyE P H T k 127 a
theorem d127 (T : Nat → List SVal → Option Res) (k : Nat) (a : List SVal) : D127 T k a = bodyE P H T k 127 a := by
  unfold D127
  split
  · exact (r127 ..).symm
  · rfl
theorem t127 (k : Nat) (x0 : SVal) (x1 : SVal) : T (k + 1) 127 [x0, x1] = R127 (T k) k x0 x1 := (by kernel_rfl : T (k + 1) 127 [x0, x1] = bodyE P H (T k) k 127 [x0, x1]).trans (r127 ..)
/-- limelight/limelightref05.name -/
def R128 (T : Nat → List SVal → Option Res) (k : Nat) (x0 : SVal) (x1 : SVal) : Option Res :=
  (T 60 [(weak x0), x1, (.int .i64 4)]).bind fun r1 =>
  some { r := r1.r.c0 }
theorem r128 (T : Nat → List SVal → Option Res) (k : Nat) (x0 : SVal) (x1 : SVal) : bodyE P H T k 128 [x0, x1] = R128 T k x0 x1 := by kernel_rfl
noncomputable def D128 (T : Nat → List SVal → Option Res) (k : Nat) : List SVal → Option Res
  | [x0, x1] => R128 T k x0 x1
  | a => bodyE P H T k 128 a
theorem d128 (T : Nat → List SVal → Option Res) (k : Nat) (a : List SVal) : D128 T k a = bodyE P H T k 128 a := by
  unfold D128
  split
  · exact (r128 ..).symm
  · rfl
theorem t128 (k : Nat) (x0 : SVal) (x1 : SVal) : T (k + 1) 128 [x0, x1] = R128 (T k) k x0 x1 := (by kernel_rfl : T (k + 1) 128 [x0, x1] = bodyE P H (T k) k 128 [x0, x1]).trans (r128 ..)
/-- limelight/limelightref04.Up -/
def R129 (T : Nat → List SVal → Option Res) (k : Nat) (x0 : SVal) (x1 : SVal) : Option Res :=
  loopN (fun s1 next1 =>
   (sBin .neq s1.k1 (.int .i64 (-1))).bind fun r2 =>
   pickC r2
   (if (List.all [[.v s1.k1]] allOne) = true then
    if (s1.k2.xs.length + ([s1.k1] : List SVal).length) * 8 ≤ maxAppend then
    (T 89 [(weak s1.k0), s1.k1]).bind fun r3 =>
    next1 ⟨[(weak s1.k0), r3.r, (.sl 1 true false (s1.k2.xs ++ ([s1.k1] : List SVal)))], [], false⟩
    else none
    else none)
   (some { r := (.sl 1 false false s1.k2.xs) })) k ⟨[(weak x0), x1, (.sl 1 true false [])], [], false⟩
theorem r129 (T : Nat → List SVal → Option Res) (k : Nat) (x0 : SVal) (x1 : SVal) : bodyE P H T k 129 [x0, x1] = R129 T k x0 x1 := by kernel_rfl
noncomputable def D129 (T : Nat → List SVal → Option Res) (k : Nat) : List SVal → Option Res
  | [x0, x1] => R129 T k x0 x1
  | a => bodyE P H T k 129 a
theorem d129 (T : Nat → List SVal → Option Res) (k : Nat) (a : List SVal) : D129 T k a = bodyE P H T k 129 a := by
  unfold D129
  split
  · exact (r129 ..).symm
  · rfl
theorem t129 (k : Nat) (x0 : SVal) (x1 : SVal) : T (k + 1) 129 [x0, x1] = R129 (T k) k x0 x1 := (by kernel_rfl : T (k + 1) 129 [x0, x1] = bodyE P H (T k) k 129 [x0, x1]).trans (r129 ..)
/-- limelight/tree.in -/
def R130 (T : Nat → List SVal → Option Res) (k : Nat) (x0 : SVal) (x1 : SVal) (x2 : SVal) : Option Res :=
  ((sBin .geq x0 x1).bind fun r1 =>
   guardX r1 true
   ((sBin .leq x0 x2).bind fun r2 =>
    (asB r2).bind fun b3 =>
    some [b3])
   (some [false])
   (none)).bind fun vs4 =>
  some { r := (.bool (vs4.getD 0 false)) }
theorem r130 (T : Nat → List SVal → Option Res) (k : Nat) (x0 : SVal) (x1 : SVal) (x2 : SVal) : bodyE P H T k 130 [x0, x1, x2] = R130 T k x0 x1 x2 := by kernel_rfl
noncomputable def D130 (T : Nat → List SVal → Option Res) (k : Nat) : List SVal → Option Res
  | [x0, x1, x2] => R130 T k x0 x1 x2
  | a => bodyE P H T k 130 a
theorem d130 (T : Nat → List SVal → Option Res) (k : Nat) (a : List SVal) : D130 T k a = bodyE P H T k 130 a := by
  unfold D130
  split
  · exact (r130 ..).symm
  · rfl
theorem t130 (k : Nat) (x0 : SVal) (x1 : SVal) (x2 : SVal) : T (k + 1) 130 [x0, x1, x2] = R130 (T k) k x0 x1 x2 := (by kernel_rfl : T (k + 1) 130 [x0, x1, x2] = bodyE P H (T k) k 130 [x0, x1, x2]).trans (r130 ..)
end Go.Proofs.YtccfkncajelbpaaGreat.K
