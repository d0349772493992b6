/- What the evaluator makes of the functions, by program (wip/tr/resid.py); each equation is checked by the kernel. -/
import Derived.Test.YtcdnmiaelaombaaGreatLmAI
import Derived.Test.YtcdnmiaelaombaaGreatLmAB
import Derived.KernelRfl
set_option linter.unusedVariables false
set_option linter.unusedSimpArgs false
set_option linter.unnecessarySimpa false
set_option linter.all false
set_option maxRecDepth 100000
namespace Go.Proofs.YtcdnmiaelaombaaGreat.K
open Go Go.Lm
/-- limelight/top.only[limelight/api.Shown] -/
def R89 (T : TT) (k : Nat) (x0 x1 : SVal) : Option Res :=
 (sLen x0).bind fun r1 =>
 loopN (fun s2 next2 =>
 (sBin .lss s2.k5 s2.k4).bind fun r3 =>
 pickC r3
 ((sIdx true 2 s2.k3 s2.k5).bind fun e4 =>
 if (allOne [.v (SVal.cell e4 0), .v (SVal.cell e4 1)]) = true then
 (callV H T s2.k0 [(.agg [(SVal.cell e4 0), (SVal.cell e4 1)])]).bind fun y5 =>
 pickC y5
 (if (List.all [[.v (SVal.cell e4 0), .v (SVal.cell e4 1)]] allOne) = true then
 if (s2.k1.xs.length + ([(.agg [(weak (SVal.cell e4 0)), (weak (SVal.cell e4 1))])] : List SVal).length) * 16 ≤ maxAppend then
 (sBin .add s2.k5 (.int .i64 1)).bind fun r6 =>
 next2 ⟨[s2.k0, (.sl 2 true false (s2.k1.xs ++ ([(.agg [(weak (SVal.cell e4 0)), (weak (SVal.cell e4 1))])] : List SVal))), (.sl 2 true false s2.k2.xs), (weak s2.k3), s2.k4, r6], [], false⟩
 else none
 else none)
 (if (List.all [[.v (SVal.cell e4 0), .v (SVal.cell e4 1)]] allOne) = true then
 if (s2.k2.xs.length + ([(.agg [(weak (SVal.cell e4 0)), (weak (SVal.cell e4 1))])] : List SVal).length) * 16 ≤ maxAppend then
 (sBin .add s2.k5 (.int .i64 1)).bind fun r7 =>
 next2 ⟨[s2.k0, (.sl 2 true false s2.k1.xs), (.sl 2 true false (s2.k2.xs ++ ([(.agg [(weak (SVal.cell e4 0)), (weak (SVal.cell e4 1))])] : List SVal))), (weak s2.k3), s2.k4, r7], [], false⟩
 else none
 else none)
 else none)
 (some { r := (.tup [(.sl 2 true false s2.k1.xs), (.sl 2 false false s2.k2.xs)]) })) k ⟨[x1, (.sl 2 true false []), (.sl 2 true false []), (weak x0), r1, (.int .i64 0)], [], false⟩
theorem r89 (T : TT) (k : Nat) (x0 x1 : SVal) : bodyE P H T k 89 [x0, x1] = R89 T k x0 x1 := by kernel_rfl
noncomputable def D89 (T : TT) (k : Nat) : List SVal → Option Res
  | [x0, x1] => R89 T k x0 x1
  | a => bodyE P H T k 89 a
theorem d89 (T : TT) (k : Nat) (a : List SVal) : D89 T k a = bodyE P H T k 89 a := by
  unfold D89
  split
  · exact (r89 ..).symm
  · rfl
theorem t89 (k : Nat) (x0 x1 : SVal) : T (k + 1) 89 [x0, x1] = R89 (T k) k x0 x1 := (tb k 89 _ rfl).trans (r89 ..)
/-- limelight/top.may$2 -/
def R90 (T : TT) (k : Nat) (x0a x0b x1 : SVal) : Option Res :=
 ((T 91 [(weak x1), x0a]).bind fun r1 =>
 guardX r1.r true
 ((sBin .eql x0b (.int .i64 (-1))).bind fun r2 =>
 guardX r2 false
 ((T 92 [(weak x1), x0b]).bind fun r3 =>
 (asB r3.r).bind fun b4 =>
 some [b4])
 (some [true])
 (none))
 (some [false])
 (none)).bind fun vs5 =>
 some { r := (.bool (vs5.getD 0 false)) }
theorem r90 (T : TT) (k : Nat) (x0a x0b x1 : SVal) : bodyE P H T k 90 [(.agg [x0a, x0b]), (.rp [x1])] = R90 T k x0a x0b x1 := by kernel_rfl
noncomputable def D90 (T : TT) (k : Nat) : List SVal → Option Res
  | [(.agg [x0a, x0b]), (.rp [x1])] => R90 T k x0a x0b x1
  | a => bodyE P H T k 90 a
theorem d90 (T : TT) (k : Nat) (a : List SVal) : D90 T k a = bodyE P H T k 90 a := by
  unfold D90
  split
  · exact (r90 ..).symm
  · rfl
theorem t90 (k : Nat) (x0a x0b x1 : SVal) : T (k + 1) 90 [(.agg [x0a, x0b]), (.rp [x1])] = R90 (T k) k x0a x0b x1 := (tb k 90 _ rfl).trans (r90 ..)
/-- limelight/top.popup -/
def R91 (T : TT) (k : Nat) (x0 x1 : SVal) : Option Res :=
 ((T 117 [(weak x0), x1]).bind fun r1 =>
 guardX r1.r true
 ((T 55 [(weak x0), x1, (.int .i64 6)]).bind fun r2 =>
 (asB r2.r).bind fun b3 =>
 some [b3])
 (some [false])
 (none)).bind fun vs4 =>
 some { r := (.bool (vs4.getD 0 false)) }
theorem r91 (T : TT) (k : Nat) (x0 x1 : SVal) : bodyE P H T k 91 [x0, x1] = R91 T k x0 x1 := by kernel_rfl
noncomputable def D91 (T : TT) (k : Nat) : List SVal → Option Res
  | [x0, x1] => R91 T k x0 x1
  | a => bodyE P H T k 91 a
theorem d91 (T : TT) (k : Nat) (a : List SVal) : D91 T k a = bodyE P H T k 91 a := by
  unfold D91
  split
  · exact (r91 ..).symm
  · rfl
theorem t91 (k : Nat) (x0 x1 : SVal) : T (k + 1) 91 [x0, x1] = R91 (T k) k x0 x1 := (tb k 91 _ rfl).trans (r91 ..)
/-- limelight/top.is -/
def R92 (T : TT) (k : Nat) (x0 x1 : SVal) : Option Res :=
 ((sBin .geq x1 (.int .i64 0)).bind fun r1 =>
 guardX r1 true
 ((sLen x0).bind fun r2 =>
 (sBin .lss x1 r2).bind fun r3 =>
 (asB r3).bind fun b4 =>
 some [b4])
 (some [false])
 (none)).bind fun vs5 =>
 some { r := (.bool (vs5.getD 0 false)) }
theorem r92 (T : TT) (k : Nat) (x0 x1 : SVal) : bodyE P H T k 92 [x0, x1] = R92 T k x0 x1 := by kernel_rfl
noncomputable def D92 (T : TT) (k : Nat) : List SVal → Option Res
  | [x0, x1] => R92 T k x0 x1
  | a => bodyE P H T k 92 a
theorem d92 (T : TT) (k : Nat) (a : List SVal) : D92 T k a = bodyE P H T k 92 a := by
  unfold D92
  split
  · exact (r92 ..).symm
  · rfl
theorem t92 (k : Nat) (x0 x1 : SVal) : T (k + 1) 92 [x0, x1] = R92 (T k) k x0 x1 := (tb k 92 _ rfl).trans (r92 ..)
/-- limelight/top.high -/
def R93 (T : TT) (k : Nat) (x0a x0b x0c x0d x0e : SVal) : Option Res :=
 (T 118 [(weak x0d), (.fn 119 [])]).bind fun r1 =>
 if (List.all [[.v x0c], [.v r1.r]] allOne) = true then
 (T 86 [(.sl 1 false false [x0c, r1.r])]).bind fun r2 =>
 some { r := (weak r2.r) }
 else none
theorem r93 (T : TT) (k : Nat) (x0a x0b x0c x0d x0e : SVal) : bodyE P H T k 93 [(.agg [x0a, x0b, x0c, x0d, x0e])] = R93 T k x0a x0b x0c x0d x0e := by kernel_rfl
noncomputable def D93 (T : TT) (k : Nat) : List SVal → Option Res
  | [(.agg [x0a, x0b, x0c, x0d, x0e])] => R93 T k x0a x0b x0c x0d x0e
  | a => bodyE P H T k 93 a
theorem d93 (T : TT) (k : Nat) (a : List SVal) : D93 T k a = bodyE P H T k 93 a := by
  unfold D93
  split
  · exact (r93 ..).symm
  · rfl
theorem t93 (k : Nat) (x0a x0b x0c x0d x0e : SVal) : T (k + 1) 93 [(.agg [x0a, x0b, x0c, x0d, x0e])] = R93 (T k) k x0a x0b x0c x0d x0e := (tb k 93 _ rfl).trans (r93 ..)
/-- slices.Sorted[int] -/
def R94 (T : TT) (k : Nat) (x0 : SVal) : Option Res :=
 (T 78 [x0]).bind fun r1 =>
 (T 120 [(.sl 1 true false r1.r.xs)]).bind fun r2 =>
 some { r := (.sl 1 false false ((r2.outs.headD .undef).xs)) }
theorem r94 (T : TT) (k : Nat) (x0 : SVal) : bodyE P H T k 94 [x0] = R94 T k x0 := by kernel_rfl
noncomputable def D94 (T : TT) (k : Nat) : List SVal → Option Res
  | [x0] => R94 T k x0
  | a => bodyE P H T k 94 a
theorem d94 (T : TT) (k : Nat) (a : List SVal) : D94 T k a = bodyE P H T k 94 a := by
  unfold D94
  split
  · exact (r94 ..).symm
  · rfl
theorem t94 (k : Nat) (x0 : SVal) : T (k + 1) 94 [x0] = R94 (T k) k x0 := (tb k 94 _ rfl).trans (r94 ..)
/-- slices.Values[[]int,int] -/
def R95 (T : TT) (k : Nat) (x0 : SVal) : Option Res :=
 if (oneS x0) = true then
 some { r := (.fn 121 [(.rp [x0])]) }
 else none
theorem r95 (T : TT) (k : Nat) (x0 : SVal) : bodyE P H T k 95 [x0] = R95 T k x0 := by kernel_rfl
noncomputable def D95 (T : TT) (k : Nat) : List SVal → Option Res
  | [x0] => R95 T k x0
  | a => bodyE P H T k 95 a
theorem d95 (T : TT) (k : Nat) (a : List SVal) : D95 T k a = bodyE P H T k 95 a := by
  unfold D95
  split
  · exact (r95 ..).symm
  · rfl
theorem t95 (k : Nat) (x0 : SVal) : T (k + 1) 95 [x0] = R95 (T k) k x0 := (tb k 95 _ rfl).trans (r95 ..)
/-- slices.Equal[[]int,int] -/
def R97 (T : TT) (k : Nat) (x0 x1 : SVal) : Option Res :=
 (sLen x0).bind fun r1 =>
 (sLen x1).bind fun r2 =>
 (sBin .neq r1 r2).bind fun r3 =>
 pickC r3
 (some { r := (.bool false) })
 ((sLen x0).bind fun r4 =>
 loopN (fun s5 next5 =>
 (sBin .lss s5.k3 s5.k2).bind fun r6 =>
 pickC r6
 ((sIdx false 1 s5.k0 s5.k3).bind fun e7 =>
 (sIdx false 1 s5.k1 s5.k3).bind fun e8 =>
 (sBin .neq e7 e8).bind fun r9 =>
 pickC r9
 (some { r := (.bool false) })
 ((sBin .add s5.k3 (.int .i64 1)).bind fun r10 =>
 next5 ⟨[(weak s5.k0), (weak s5.k1), s5.k2, r10], [], false⟩))
 (some { r := (.bool true) })) k ⟨[(weak x0), (weak x1), r4, (.int .i64 0)], [], false⟩)
theorem r97 (T : TT) (k : Nat) (x0 x1 : SVal) : bodyE P H T k 97 [x0, x1] = R97 T k x0 x1 := by kernel_rfl
noncomputable def D97 (T : TT) (k : Nat) : List SVal → Option Res
  | [x0, x1] => R97 T k x0 x1
  | a => bodyE P H T k 97 a
theorem d97 (T : TT) (k : Nat) (a : List SVal) : D97 T k a = bodyE P H T k 97 a := by
  unfold D97
  split
  · exact (r97 ..).symm
  · rfl
theorem t97 (k : Nat) (x0 x1 : SVal) : T (k + 1) 97 [x0, x1] = R97 (T k) k x0 x1 := (tb k 97 _ rfl).trans (r97 ..)
/-- slices.ContainsFunc[[]func() bool,func() bool] -/
def R98 (T : TT) (k : Nat) (x0 x1 : SVal) : Option Res :=
 (T 123 [(weak x0), x1]).bind fun r1 =>
 (sBin .geq r1.r (.int .i64 0)).bind fun r2 =>
 some { r := r2 }
theorem r98 (T : TT) (k : Nat) (x0 x1 : SVal) : bodyE P H T k 98 [x0, x1] = R98 T k x0 x1 := by kernel_rfl
noncomputable def D98 (T : TT) (k : Nat) : List SVal → Option Res
  | [x0, x1] => R98 T k x0 x1
  | a => bodyE P H T k 98 a
theorem d98 (T : TT) (k : Nat) (a : List SVal) : D98 T k a = bodyE P H T k 98 a := by
  unfold D98
  split
  · exact (r98 ..).symm
  · rfl
theorem t98 (k : Nat) (x0 x1 : SVal) : T (k + 1) 98 [x0, x1] = R98 (T k) k x0 x1 := (tb k 98 _ rfl).trans (r98 ..)
/-- (limelight/area.node).plain -/
def R99 (T : TT) (k : Nat) (x0a x0b x0c x0d x0e x0f : SVal) : Option Res :=
 (T 124 [(.agg [(weak x0a), (weak x0b), (weak x0c), (weak x0d), (weak x0e), x0f])]).bind fun r1 =>
 (sNot r1.r.c1).bind fun r2 =>
 some { r := r2 }
theorem r99 (T : TT) (k : Nat) (x0a x0b x0c x0d x0e x0f : SVal) : bodyE P H T k 99 [(.agg [x0a, x0b, x0c, x0d, x0e, x0f])] = R99 T k x0a x0b x0c x0d x0e x0f := by kernel_rfl
noncomputable def D99 (T : TT) (k : Nat) : List SVal → Option Res
  | [(.agg [x0a, x0b, x0c, x0d, x0e, x0f])] => R99 T k x0a x0b x0c x0d x0e x0f
  | a => bodyE P H T k 99 a
theorem d99 (T : TT) (k : Nat) (a : List SVal) : D99 T k a = bodyE P H T k 99 a := by
  unfold D99
  split
  · exact (r99 ..).symm
  · rfl
theorem t99 (k : Nat) (x0a x0b x0c x0d x0e x0f : SVal) : T (k + 1) 99 [(.agg [x0a, x0b, x0c, x0d, x0e, x0f])] = R99 (T k) k x0a x0b x0c x0d x0e x0f := (tb k 99 _ rfl).trans (r99 ..)
/-- (limelight/area.node).disabled -/
def R100 (T : TT) (k : Nat) (x0a x0b x0c x0d x0e x0f : SVal) : Option Res :=
 ((T 125 [(.agg [(weak x0a), (weak x0b), (weak x0c), (weak x0d), (weak x0e), x0f]), (.int .i64 1)]).bind fun r1 =>
 guardX r1.r true
 ((T 55 [(weak x0a), x0f, (.int .i64 1)]).bind fun r2 =>
 (asB r2.r).bind fun b3 =>
 some [b3])
 (some [false])
 (none)).bind fun vs4 =>
 some { r := (.bool (vs4.getD 0 false)) }
theorem r100 (T : TT) (k : Nat) (x0a x0b x0c x0d x0e x0f : SVal) : bodyE P H T k 100 [(.agg [x0a, x0b, x0c, x0d, x0e, x0f])] = R100 T k x0a x0b x0c x0d x0e x0f := by kernel_rfl
noncomputable def D100 (T : TT) (k : Nat) : List SVal → Option Res
  | [(.agg [x0a, x0b, x0c, x0d, x0e, x0f])] => R100 T k x0a x0b x0c x0d x0e x0f
  | a => bodyE P H T k 100 a
theorem d100 (T : TT) (k : Nat) (a : List SVal) : D100 T k a = bodyE P H T k 100 a := by
  unfold D100
  split
  · exact (r100 ..).symm
  · rfl
theorem t100 (k : Nat) (x0a x0b x0c x0d x0e x0f : SVal) : T (k + 1) 100 [(.agg [x0a, x0b, x0c, x0d, x0e, x0f])] = R100 (T k) k x0a x0b x0c x0d x0e x0f := (tb k 100 _ rfl).trans (r100 ..)
/-- (limelight/area.node).unseen -/
def R101 (T : TT) (k : Nat) (x0a x0b x0c x0d x0e x0f : SVal) : Option Res :=
 (T 126 [(.agg [(weak x0a), (weak x0b), (weak x0c), (weak x0d), (weak x0e)]), x0f]).bind fun r1 =>
 (sNot r1.r).bind fun r2 =>
 some { r := r2 }
theorem r101 (T : TT) (k : Nat) (x0a x0b x0c x0d x0e x0f : SVal) : bodyE P H T k 101 [(.agg [x0a, x0b, x0c, x0d, x0e, x0f])] = R101 T k x0a x0b x0c x0d x0e x0f := by kernel_rfl
noncomputable def D101 (T : TT) (k : Nat) : List SVal → Option Res
  | [(.agg [x0a, x0b, x0c, x0d, x0e, x0f])] => R101 T k x0a x0b x0c x0d x0e x0f
  | a => bodyE P H T k 101 a
theorem d101 (T : TT) (k : Nat) (a : List SVal) : D101 T k a = bodyE P H T k 101 a := by
  unfold D101
  split
  · exact (r101 ..).symm
  · rfl
theorem t101 (k : Nat) (x0a x0b x0c x0d x0e x0f : SVal) : T (k + 1) 101 [(.agg [x0a, x0b, x0c, x0d, x0e, x0f])] = R101 (T k) k x0a x0b x0c x0d x0e x0f := (tb k 101 _ rfl).trans (r101 ..)
/-- (limelight/area.node).inert -/
def R102 (T : TT) (k : Nat) (x0a x0b x0c x0d x0e x0f : SVal) : Option Res :=
 (T 127 [(.agg [(weak x0a), (weak x0b), (weak x0c), (weak x0d), (weak x0e)]), x0f]).bind fun r1 =>
 some { r := r1.r }
theorem r102 (T : TT) (k : Nat) (x0a x0b x0c x0d x0e x0f : SVal) : bodyE P H T k 102 [(.agg [x0a, x0b, x0c, x0d, x0e, x0f])] = R102 T k x0a x0b x0c x0d x0e x0f := by kernel_rfl
noncomputable def D102 (T : TT) (k : Nat) : List SVal → Option Res
  | [(.agg [x0a, x0b, x0c, x0d, x0e, x0f])] => R102 T k x0a x0b x0c x0d x0e x0f
  | a => bodyE P H T k 102 a
theorem d102 (T : TT) (k : Nat) (a : List SVal) : D102 T k a = bodyE P H T k 102 a := by
  unfold D102
  split
  · exact (r102 ..).symm
  · rfl
theorem t102 (k : Nat) (x0a x0b x0c x0d x0e x0f : SVal) : T (k + 1) 102 [(.agg [x0a, x0b, x0c, x0d, x0e, x0f])] = R102 (T k) k x0a x0b x0c x0d x0e x0f := (tb k 102 _ rfl).trans (r102 ..)
/-- (limelight/area.node).is$1 -/
def R103 (T : TT) (k : Nat) (x0 : SVal) : Option Res :=
 (callV H T x0 []).bind fun y1 =>
 some { r := y1 }
theorem r103 (T : TT) (k : Nat) (x0 : SVal) : bodyE P H T k 103 [x0] = R103 T k x0 := by kernel_rfl
noncomputable def D103 (T : TT) (k : Nat) : List SVal → Option Res
  | [x0] => R103 T k x0
  | a => bodyE P H T k 103 a
theorem d103 (T : TT) (k : Nat) (a : List SVal) : D103 T k a = bodyE P H T k 103 a := by
  unfold D103
  split
  · exact (r103 ..).symm
  · rfl
theorem t103 (k : Nat) (x0 : SVal) : T (k + 1) 103 [x0] = R103 (T k) k x0 := (tb k 103 _ rfl).trans (r103 ..)
/-- limelight/area.Index -/
def R104 (T : TT) (k : Nat) (x0 x1 : SVal) : Option Res :=
 (T 70 [(weak x0), x1]).bind fun r1 =>
 if (allOne [.v r1.r.c0.c0, .v r1.r.c0.c1, .v r1.r.c0.c2, .v r1.r.c0.c3, .v r1.r.c0.c4, .v r1.r.c0.c5]) = true then
 (sNot r1.r.c1).bind fun r2 =>
 pickC r2
 (some { r := (.tup [(.int .i64 0), (.bool false)]) })
 ((T 124 [(.agg [(weak r1.r.c0.c0), (weak r1.r.c0.c1), (weak r1.r.c0.c2), (weak r1.r.c0.c3), (weak r1.r.c0.c4), r1.r.c0.c5])]).bind fun r3 =>
 some { r := (.tup [r3.r.c0, r3.r.c1]) })
 else none
theorem r104 (T : TT) (k : Nat) (x0 x1 : SVal) : bodyE P H T k 104 [x0, x1] = R104 T k x0 x1 := by kernel_rfl
noncomputable def D104 (T : TT) (k : Nat) : List SVal → Option Res
  | [x0, x1] => R104 T k x0 x1
  | a => bodyE P H T k 104 a
theorem d104 (T : TT) (k : Nat) (a : List SVal) : D104 T k a = bodyE P H T k 104 a := by
  unfold D104
  split
  · exact (r104 ..).symm
  · rfl
theorem t104 (k : Nat) (x0 x1 : SVal) : T (k + 1) 104 [x0, x1] = R104 (T k) k x0 x1 := (tb k 104 _ rfl).trans (r104 ..)
/-- slices.ContainsFunc[[]int,int] -/
def R105 (T : TT) (k : Nat) (x0 x1 : SVal) : Option Res :=
 (T 128 [(weak x0), x1]).bind fun r1 =>
 if isSc1 r1.r = true then
 (sBin .geq r1.r (.int .i64 0)).bind fun r2 =>
 some { r := r2 }
 else none
theorem r105 (T : TT) (k : Nat) (x0 x1 : SVal) : bodyE P H T k 105 [x0, x1] = R105 T k x0 x1 := by kernel_rfl
noncomputable def D105 (T : TT) (k : Nat) : List SVal → Option Res
  | [x0, x1] => R105 T k x0 x1
  | a => bodyE P H T k 105 a
theorem d105 (T : TT) (k : Nat) (a : List SVal) : D105 T k a = bodyE P H T k 105 a := by
  unfold D105
  split
  · exact (r105 ..).symm
  · rfl
theorem t105 (k : Nat) (x0 x1 : SVal) : T (k + 1) 105 [x0, x1] = R105 (T k) k x0 x1 := (tb k 105 _ rfl).trans (r105 ..)
/-- limelight/order.all$1 -/
def R106 (T : TT) (k : Nat) (x0 x1 : SVal) : Option Res :=
 ((sBin .lss x0 (.int .i64 0)).bind fun r1 =>
 guardX r1 false
 ((sLen x1).bind fun r2 =>
 (sBin .geq x0 r2).bind fun r3 =>
 (asB r3).bind fun b4 =>
 some [b4])
 (some [true])
 (none)).bind fun vs5 =>
 some { r := (.bool (vs5.getD 0 false)) }
theorem r106 (T : TT) (k : Nat) (x0 x1 : SVal) : bodyE P H T k 106 [x0, (.rp [x1])] = R106 T k x0 x1 := by kernel_rfl
noncomputable def D106 (T : TT) (k : Nat) : List SVal → Option Res
  | [x0, (.rp [x1])] => R106 T k x0 x1
  | a => bodyE P H T k 106 a
theorem d106 (T : TT) (k : Nat) (a : List SVal) : D106 T k a = bodyE P H T k 106 a := by
  unfold D106
  split
  · exact (r106 ..).symm
  · rfl
theorem t106 (k : Nat) (x0 x1 : SVal) : T (k + 1) 106 [x0, (.rp [x1])] = R106 (T k) k x0 x1 := (tb k 106 _ rfl).trans (r106 ..)
/-- slices.AppendSeq[[]int,int] -/
def R107 (T : TT) (k : Nat) (x0 : List SVal) (x1 : SVal) : Option Res :=
 (callIt T x1).bind fun ys1 =>
 rangeN (fun s2 y2 next2 =>
 (notTup y2).bind fun z3 =>
 if (List.all [[.v z3]] allOne) = true then
 if (s2.k0.c0.xs.length + ([z3] : List SVal).length) * 8 ≤ maxAppend then
 next2 ⟨[(.mb [(.sl 1 true false (s2.k0.c0.xs ++ ([z3] : List SVal)))])], [], false⟩
 else none
 else none) (fun s4 =>
 some { r := (.sl 1 true false s4.k0.c0.xs) }) ys1 ⟨[(.mb [(.sl 1 true false x0)])], [], false⟩
theorem r107 (T : TT) (k : Nat) (x0 : List SVal) (x1 : SVal) : bodyE P H T k 107 [(.sl 1 true false x0), x1] = R107 T k x0 x1 := by kernel_rfl
noncomputable def D107 (T : TT) (k : Nat) : List SVal → Option Res
  | [(.sl 1 true false x0), x1] => R107 T k x0 x1
  | a => bodyE P H T k 107 a
theorem d107 (T : TT) (k : Nat) (a : List SVal) : D107 T k a = bodyE P H T k 107 a := by
  unfold D107
  split
  · exact (r107 ..).symm
  · rfl
theorem t107 (k : Nat) (x0 : List SVal) (x1 : SVal) : T (k + 1) 107 [(.sl 1 true false x0), x1] = R107 (T k) k x0 x1 := (tb k 107 _ rfl).trans (r107 ..)
/-- limelight/order.list$1 -/
def R108 (T : TT) (k : Nat) (x1 x2 : SVal) : Option Res :=
 (T 109 [(weak x1), x2, .yld]).bind fun r1 =>
 both
 (some { r := (.tup []), out := ([] ++ r1.out) })
 (some { r := (.tup []) })
theorem r108 (T : TT) (k : Nat) (x1 x2 : SVal) : bodyE P H T k 108 [.yld, (.rp [x1]), (.rp [x2])] = R108 T k x1 x2 := by kernel_rfl
noncomputable def D108 (T : TT) (k : Nat) : List SVal → Option Res
  | [.yld, (.rp [x1]), (.rp [x2])] => R108 T k x1 x2
  | a => bodyE P H T k 108 a
theorem d108 (T : TT) (k : Nat) (a : List SVal) : D108 T k a = bodyE P H T k 108 a := by
  unfold D108
  split
  · exact (r108 ..).symm
  · rfl
theorem t108 (k : Nat) (x1 x2 : SVal) : T (k + 1) 108 [.yld, (.rp [x1]), (.rp [x2])] = R108 (T k) k x1 x2 := (tb k 108 _ rfl).trans (r108 ..)
/-- limelight/order.down -/
def R109 (T : TT) (k : Nat) (x0 x1 : SVal) : Option Res :=
 (notTup x1).bind fun y1 =>
 both
 ((sIdx true 7 x0 x1).bind fun e2 =>
 (sLen (SVal.cell e2 3)).bind fun r3 =>
 loopN (fun s4 next4 =>
 (sBin .lss s4.k4 s4.k3).bind fun r5 =>
 pickC r5
 ((sIdx false 1 s4.k2 s4.k4).bind fun e6 =>
 if (s4.stop) = true then none else
 (T 109 [(weak s4.k0), e6, .yld]).bind fun r7 =>
 both
 ((sNot r7.r).bind fun r8 =>
 pickC r8
 (if (s4.stop) = true then
 some { r := (.bool false) }
 else
 some { r := (.bool false), out := (s4.out ++ r7.out) })
 ((sBin .add s4.k4 (.int .i64 1)).bind fun r9 =>
 next4 ⟨[(weak s4.k0), .yld, (weak s4.k2), s4.k3, r9], (s4.out ++ r7.out), s4.stop⟩))
 (some { r := (.bool false) }))
 (if (s4.stop) = true then
 none
 else
 some { r := (.bool true), out := s4.out })) k ⟨[(weak x0), .yld, (weak (SVal.cell e2 3)), r3, (.int .i64 0)], ([] ++ [y1]), false⟩)
 (some { r := (.bool false) })
theorem r109 (T : TT) (k : Nat) (x0 x1 : SVal) : bodyE P H T k 109 [x0, x1, .yld] = R109 T k x0 x1 := by kernel_rfl
noncomputable def D109 (T : TT) (k : Nat) : List SVal → Option Res
  | [x0, x1, .yld] => R109 T k x0 x1
  | a => bodyE P H T k 109 a
theorem d109 (T : TT) (k : Nat) (a : List SVal) : D109 T k a = bodyE P H T k 109 a := by
  unfold D109
  split
  · exact (r109 ..).symm
  · rfl
theorem t109 (k : Nat) (x0 x1 : SVal) : T (k + 1) 109 [x0, x1, .yld] = R109 (T k) k x0 x1 := (tb k 109 _ rfl).trans (r109 ..)
/-- limelight/attr.node -/
def R110 (T : TT) (k : Nat) (x0 x1 : SVal) : Option Res :=
 ((T 68 [(weak x0)]).bind fun r1 =>
 (sBin .eql r1.r (.int .i64 0)).bind fun r2 =>
 guardX r2 true
 ((sBin .geq x1 (.int .i64 0)).bind fun r3 =>
 guardX r3 true
 ((sLen x0).bind fun r4 =>
 (sBin .lss x1 r4).bind fun r5 =>
 (asB r5).bind fun b6 =>
 some [b6])
 (some [false])
 (none))
 (some [false])
 (none)).bind fun vs7 =>
 some { r := (.bool (vs7.getD 0 false)) }
theorem r110 (T : TT) (k : Nat) (x0 x1 : SVal) : bodyE P H T k 110 [x0, x1] = R110 T k x0 x1 := by kernel_rfl
noncomputable def D110 (T : TT) (k : Nat) : List SVal → Option Res
  | [x0, x1] => R110 T k x0 x1
  | a => bodyE P H T k 110 a
theorem d110 (T : TT) (k : Nat) (a : List SVal) : D110 T k a = bodyE P H T k 110 a := by
  unfold D110
  split
  · exact (r110 ..).symm
  · rfl
theorem t110 (k : Nat) (x0 x1 : SVal) : T (k + 1) 110 [x0, x1] = R110 (T k) k x0 x1 := (tb k 110 _ rfl).trans (r110 ..)
/-- limelight/attr.at -/
def R111 (T : TT) (k : Nat) (x0a x0b x0c x0d x0e x0f x0g x1 : SVal) : Option Res :=
 if (oneS x1) = true then
 (T 129 [(weak x0g), (.fn 130 [(.rp [x1])])]).bind fun r1 =>
 some { r := r1.r }
 else none
theorem r111 (T : TT) (k : Nat) (x0a x0b x0c x0d x0e x0f x0g x1 : SVal) : bodyE P H T k 111 [(.agg [x0a, x0b, x0c, x0d, x0e, x0f, x0g]), x1] = R111 T k x0a x0b x0c x0d x0e x0f x0g x1 := by kernel_rfl
noncomputable def D111 (T : TT) (k : Nat) : List SVal → Option Res
  | [(.agg [x0a, x0b, x0c, x0d, x0e, x0f, x0g]), x1] => R111 T k x0a x0b x0c x0d x0e x0f x0g x1
  | a => bodyE P H T k 111 a
theorem d111 (T : TT) (k : Nat) (a : List SVal) : D111 T k a = bodyE P H T k 111 a := by
  unfold D111
  split
  · exact (r111 ..).symm
  · rfl
theorem t111 (k : Nat) (x0a x0b x0c x0d x0e x0f x0g x1 : SVal) : T (k + 1) 111 [(.agg [x0a, x0b, x0c, x0d, x0e, x0f, x0g]), x1] = R111 (T k) k x0a x0b x0c x0d x0e x0f x0g x1 := (tb k 111 _ rfl).trans (r111 ..)
/-- limelight/limelightref06.Kids -/
def R112 (T : TT) (k : Nat) (x0 x1 : SVal) : Option Res :=
 (sIdx true 7 x0 x1).bind fun e1 =>
 (sBin .eql (SVal.cell e1 0) (.int .i64 3)).bind fun r2 =>
 pickC r2
 (some { r := (.sl 1 false false []) })
 ((sIdx true 7 x0 x1).bind fun e3 =>
 (sBin .neq (SVal.cell e3 5) (.int .i64 (-1))).bind fun r4 =>
 pickC r4
 ((sIdx true 7 x0 x1).bind fun e5 =>
 (sIdx true 7 x0 (SVal.cell e5 5)).bind fun e6 =>
 some { r := (weak (SVal.cell e6 3)) })
 ((T 131 [(weak x0), x1]).bind fun r7 =>
 (sLen r7.r).bind fun r8 =>
 (sBin .gtr r8 (.int .i64 0)).bind fun r9 =>
 pickC r9
 (some { r := (weak r7.r) })
 ((sIdx true 7 x0 x1).bind fun e10 =>
 some { r := (weak (SVal.cell e10 3)) })))
theorem r112 (T : TT) (k : Nat) (x0 x1 : SVal) : bodyE P H T k 112 [x0, x1] = R112 T k x0 x1 := by kernel_rfl
theorem t112 (k : Nat) (x0 x1 : SVal) : T (k + 1) 112 [x0, x1] = R112 (T k) k x0 x1 := (tb k 112 _ rfl).trans (r112 ..)
/-- limelight/tree.in -/
def R113 (T : TT) (k : Nat) (x0 x1 x2 : SVal) : Option Res :=
 ((sBin .geq x0 x1).bind fun r1 =>
 guardX r1 true
 ((sBin .leq x0 x2).bind fun r2 =>
 (asB r2).bind fun b3 =>
 some [b3])
 (some [false])
 (none)).bind fun vs4 =>
 some { r := (.bool (vs4.getD 0 false)) }
theorem r113 (T : TT) (k : Nat) (x0 x1 x2 : SVal) : bodyE P H T k 113 [x0, x1, x2] = R113 T k x0 x1 x2 := by kernel_rfl
noncomputable def D113 (T : TT) (k : Nat) : List SVal → Option Res
  | [x0, x1, x2] => R113 T k x0 x1 x2
  | a => bodyE P H T k 113 a
theorem d113 (T : TT) (k : Nat) (a : List SVal) : D113 T k a = bodyE P H T k 113 a := by
  unfold D113
  split
  · exact (r113 ..).symm
  · rfl
theorem t113 (k : Nat) (x0 x1 x2 : SVal) : T (k + 1) 113 [x0, x1, x2] = R113 (T k) k x0 x1 x2 := (tb k 113 _ rfl).trans (r113 ..)
/-- limelight/tree.node -/
def R114 (T : TT) (k : Nat) (x0 x1 : SVal) : Option Res :=
 if (oneS x0) = true then
 if (oneS x1) = true then
 (sIdx true 7 x0 x1).bind fun e1 =>
 if (allOne [.v (SVal.cell e1 0), .v (SVal.cell e1 1), .v (SVal.cell e1 2), .v (SVal.cell e1 3), .v (SVal.cell e1 4), .v (SVal.cell e1 5), .v (SVal.cell e1 6)]) = true then
 ((T 113 [(SVal.cell e1 0), (.int .i64 0), (.int .i64 3)]).bind fun r2 =>
 (sNot r2.r).bind fun r3 =>
 guardX r3 false
 ((sBin .eql (SVal.cell e1 0) (.int .i64 0)).bind fun r4 =>
 (sBin .eql x1 (.int .i64 0)).bind fun r5 =>
 (sBinB .neq r4 r5).bind fun r6 =>
 (asB r6).bind fun b7 =>
 some [b7])
 (some [true])
 (none)).bind fun vs8 =>
 pickC (.bool (vs8.getD 0 false))
 (some { r := (.bool false) })
 (((sBin .eql (SVal.cell e1 0) (.int .i64 1)).bind fun r9 =>
 guardX r9 true
 ((T 113 [(SVal.cell e1 1), (.int .i64 0), (.int .i64 4)]).bind fun r10 =>
 (sNot r10.r).bind fun r11 =>
 guardX r11 false
 ((sBin .neq (SVal.cell e1 0) (.int .i64 1)).bind fun r12 =>
 guardX r12 true
 ((sBin .neq (SVal.cell e1 1) (.int .i64 0)).bind fun r13 =>
 (asB r13).bind fun b14 =>
 some [b14])
 (some [false])
 (none))
 (some [true])
 (none))
 ((sBin .neq (SVal.cell e1 0) (.int .i64 1)).bind fun r15 =>
 guardX r15 true
 ((sBin .neq (SVal.cell e1 1) (.int .i64 0)).bind fun r16 =>
 (asB r16).bind fun b17 =>
 some [b17])
 (some [false])
 (none))
 (none)).bind fun vs18 =>
 pickC (.bool (vs18.getD 0 false))
 (some { r := (.bool false) })
 (((sBin .eql (SVal.cell e1 0) (.int .i64 2)).bind fun r19 =>
 guardX r19 true
 ((sLen (SVal.cell e1 3)).bind fun r20 =>
 (sBin .gtr r20 (.int .i64 0)).bind fun r21 =>
 (asB r21).bind fun b22 =>
 some [b22])
 (some [false])
 (none)).bind fun vs23 =>
 pickC (.bool (vs23.getD 0 false))
 (some { r := (.bool false) })
 (((sBin .neq (SVal.cell e1 2) (.int .i64 (-1))).bind fun r24 =>
 guardX r24 true
 ((T 132 [(weak x0), (SVal.cell e1 2)]).bind fun r25 =>
 (sNot r25.r).bind fun r26 =>
 guardX r26 false
 ((sIdx true 7 x0 (SVal.cell e1 2)).bind fun e27 =>
 (T 133 [(weak (SVal.cell e27 3)), x1]).bind fun r28 =>
 (sNot r28.r).bind fun r29 =>
 (asB r29).bind fun b30 =>
 some [b30])
 (some [true])
 (none))
 (some [false])
 (none)).bind fun vs31 =>
 pickC (.bool (vs31.getD 0 false))
 (some { r := (.bool false) })
 (((T 134 [(.agg [(SVal.cell e1 0), (SVal.cell e1 1), (SVal.cell e1 2), (weak (SVal.cell e1 3)), (SVal.cell e1 4), (SVal.cell e1 5), (weak (SVal.cell e1 6))])]).bind fun r32 =>
 guardX r32.r true
 ((T 135 [(weak x0), x1]).bind fun r33 =>
 guardX r33.r true
 ((T 105 [(weak (SVal.cell e1 3)), (.fn 136 [(.rp [x0]), (.rp [x1])])]).bind fun r34 =>
 (sNot r34.r).bind fun r35 =>
 (asB r35).bind fun b36 =>
 some [b36])
 (some [false])
 (none))
 (some [false])
 (none)).bind fun vs37 =>
 some { r := (.bool (vs37.getD 0 false)) }))))
 else none
 else none
 else none
theorem r114 (T : TT) (k : Nat) (x0 x1 : SVal) : bodyE P H T k 114 [x0, x1] = R114 T k x0 x1 := by kernel_rfl
noncomputable def D114 (T : TT) (k : Nat) : List SVal → Option Res
  | [x0, x1] => R114 T k x0 x1
  | a => bodyE P H T k 114 a
theorem d114 (T : TT) (k : Nat) (a : List SVal) : D114 T k a = bodyE P H T k 114 a := by
  unfold D114
  split
  · exact (r114 ..).symm
  · rfl
theorem t114 (k : Nat) (x0 x1 : SVal) : T (k + 1) 114 [x0, x1] = R114 (T k) k x0 x1 := (tb k 114 _ rfl).trans (r114 ..)
/-- limelight/tree.turns -/
def R115 (T : TT) (k : Nat) (x0 x1 : SVal) : Option Res :=
 (T 138 [(weak x0), x1]).bind fun r1 =>
 (callIt T r1.r).bind fun ys2 =>
 rangeN (fun s3 y3 next3 =>
 (notTup y3).bind fun z4 =>
 (sBin .add s3.k1.c0 (.int .i64 1)).bind fun r5 =>
 if (oneS r5) = true then
 next3 ⟨[(weak s3.k0), (.mb [r5])], [], false⟩
 else none) (fun s6 =>
 (sLen s6.k0).bind fun r7 =>
 (sBin .gtr s6.k1.c0 r7).bind fun r8 =>
 some { r := r8 }) ys2 ⟨[(weak x0), (.mb [(.int .i64 0)])], [], false⟩
theorem r115 (T : TT) (k : Nat) (x0 x1 : SVal) : bodyE P H T k 115 [x0, x1] = R115 T k x0 x1 := by kernel_rfl
noncomputable def D115 (T : TT) (k : Nat) : List SVal → Option Res
  | [x0, x1] => R115 T k x0 x1
  | a => bodyE P H T k 115 a
theorem d115 (T : TT) (k : Nat) (a : List SVal) : D115 T k a = bodyE P H T k 115 a := by
  unfold D115
  split
  · exact (r115 ..).symm
  · rfl
theorem t115 (k : Nat) (x0 x1 : SVal) : T (k + 1) 115 [x0, x1] = R115 (T k) k x0 x1 := (tb k 115 _ rfl).trans (r115 ..)
/-- slices.Grow[[]int,int] -/
noncomputable def R116 (T : TT) (k : Nat) (x1 : SVal) : Option Res :=
 (sBin .lss x1 (.int .i64 0)).bind fun r1 =>
 pickC r1
 (none)
 ((sBin .sub (.int .i64 0) (.int .i64 0)).bind fun r2 =>
 (sBin .sub x1 r2).bind fun r3 =>
 (sBin .gtr r3 (.int .i64 0)).bind fun r4 =>
 pickC r4
 ((sSlice 1 (.sl 1 false true []) none (some (.int .i64 0))).bind fun r5 =>
 (elemsM P 24 3 (.v r5) r3).bind fun ys6 =>
 if isNilS r5 = true then
 if ys6.length * 8 ≤ maxAppend then
 (sBnd ys6.length (.int .i64 0)).bind fun n7 =>
 some { r := (.sl 1 true false (ys6.take n7)) }
 else none
 else none)
 (some { r := (.sl 1 true false []) }))
theorem r116 (T : TT) (k : Nat) (x1 : SVal) : bodyE P H T k 116 [(.sl 1 false true []), x1] = R116 T k x1 := by kernel_rfl
noncomputable def D116 (T : TT) (k : Nat) : List SVal → Option Res
  | [(.sl 1 false true []), x1] => R116 T k x1
  | a => bodyE P H T k 116 a
theorem d116 (T : TT) (k : Nat) (a : List SVal) : D116 T k a = bodyE P H T k 116 a := by
  unfold D116
  split
  · exact (r116 ..).symm
  · rfl
theorem t116 (k : Nat) (x1 : SVal) : T (k + 1) 116 [(.sl 1 false true []), x1] = R116 (T k) k x1 := (tb k 116 _ rfl).trans (r116 ..)
/-- limelight/top.element -/
def R117 (T : TT) (k : Nat) (x0 x1 : SVal) : Option Res :=
 ((T 139 [(weak x0), x1]).bind fun r1 =>
 guardX r1.r true
 ((sIdx true 7 x0 x1).bind fun e2 =>
 (sBin .eql (SVal.cell e2 0) (.int .i64 1)).bind fun r3 =>
 (asB r3).bind fun b4 =>
 some [b4])
 (some [false])
 (none)).bind fun vs5 =>
 some { r := (.bool (vs5.getD 0 false)) }
theorem r117 (T : TT) (k : Nat) (x0 x1 : SVal) : bodyE P H T k 117 [x0, x1] = R117 T k x0 x1 := by kernel_rfl
noncomputable def D117 (T : TT) (k : Nat) : List SVal → Option Res
  | [x0, x1] => R117 T k x0 x1
  | a => bodyE P H T k 117 a
theorem d117 (T : TT) (k : Nat) (a : List SVal) : D117 T k a = bodyE P H T k 117 a := by
  unfold D117
  split
  · exact (r117 ..).symm
  · rfl
theorem t117 (k : Nat) (x0 x1 : SVal) : T (k + 1) 117 [x0, x1] = R117 (T k) k x0 x1 := (tb k 117 _ rfl).trans (r117 ..)
/-- limelight/top.each[limelight/api.Shown,int] -/
def R118 (T : TT) (k : Nat) (x0 x1 : SVal) : Option Res :=
 (sLen x0).bind fun r1 =>
 loopN (fun s2 next2 =>
 (sBin .lss s2.k4 s2.k3).bind fun r3 =>
 pickC r3
 ((sIdx true 2 s2.k2 s2.k4).bind fun e4 =>
 if (allOne [.v (SVal.cell e4 0), .v (SVal.cell e4 1)]) = true then
 (callV H T s2.k0 [(.agg [(SVal.cell e4 0), (SVal.cell e4 1)])]).bind fun y5 =>
 if (List.all [[.v y5]] allOne) = true then
 if (s2.k1.xs.length + ([y5] : List SVal).length) * 8 ≤ maxAppend then
 (sBin .add s2.k4 (.int .i64 1)).bind fun r6 =>
 next2 ⟨[s2.k0, (.sl 1 true false (s2.k1.xs ++ ([y5] : List SVal))), (weak s2.k2), s2.k3, r6], [], false⟩
 else none
 else none
 else none)
 (some { r := (.sl 1 false false s2.k1.xs) })) k ⟨[x1, (.sl 1 true false []), (weak x0), r1, (.int .i64 0)], [], false⟩
theorem r118 (T : TT) (k : Nat) (x0 x1 : SVal) : bodyE P H T k 118 [x0, x1] = R118 T k x0 x1 := by kernel_rfl
noncomputable def D118 (T : TT) (k : Nat) : List SVal → Option Res
  | [x0, x1] => R118 T k x0 x1
  | a => bodyE P H T k 118 a
theorem d118 (T : TT) (k : Nat) (a : List SVal) : D118 T k a = bodyE P H T k 118 a := by
  unfold D118
  split
  · exact (r118 ..).symm
  · rfl
theorem t118 (k : Nat) (x0 x1 : SVal) : T (k + 1) 118 [x0, x1] = R118 (T k) k x0 x1 := (tb k 118 _ rfl).trans (r118 ..)
/-- limelight/top.node -/
def R119 (T : TT) (k : Nat) (x0a x0b : SVal) : Option Res :=
 some { r := x0a }
theorem r119 (T : TT) (k : Nat) (x0a x0b : SVal) : bodyE P H T k 119 [(.agg [x0a, x0b])] = R119 T k x0a x0b := by kernel_rfl
noncomputable def D119 (T : TT) (k : Nat) : List SVal → Option Res
  | [(.agg [x0a, x0b])] => R119 T k x0a x0b
  | a => bodyE P H T k 119 a
theorem d119 (T : TT) (k : Nat) (a : List SVal) : D119 T k a = bodyE P H T k 119 a := by
  unfold D119
  split
  · exact (r119 ..).symm
  · rfl
theorem t119 (k : Nat) (x0a x0b : SVal) : T (k + 1) 119 [(.agg [x0a, x0b])] = R119 (T k) k x0a x0b := (tb k 119 _ rfl).trans (r119 ..)
/-- slices.Values[[]int,int]$1 -/
def R121 (T : TT) (k : Nat) (x1 : SVal) : Option Res :=
 (sLen x1).bind fun r1 =>
 loopN (fun s2 next2 =>
 (sBin .lss s2.k3 s2.k2).bind fun r3 =>
 pickC r3
 ((sIdx false 1 s2.k1 s2.k3).bind fun e4 =>
 if (s2.stop) = true then none else
 (notTup e4).bind fun y5 =>
 both
 ((sBin .add s2.k3 (.int .i64 1)).bind fun r6 =>
 next2 ⟨[.yld, (weak s2.k1), s2.k2, r6], (s2.out ++ [y5]), s2.stop⟩)
 (some { r := (.tup []) }))
 (if (s2.stop) = true then
 some { r := (.tup []) }
 else
 some { r := (.tup []), out := s2.out })) k ⟨[.yld, (weak x1), r1, (.int .i64 0)], [], false⟩
theorem r121 (T : TT) (k : Nat) (x1 : SVal) : bodyE P H T k 121 [.yld, (.rp [x1])] = R121 T k x1 := by kernel_rfl
noncomputable def D121 (T : TT) (k : Nat) : List SVal → Option Res
  | [.yld, (.rp [x1])] => R121 T k x1
  | a => bodyE P H T k 121 a
theorem d121 (T : TT) (k : Nat) (a : List SVal) : D121 T k a = bodyE P H T k 121 a := by
  unfold D121
  split
  · exact (r121 ..).symm
  · rfl
theorem t121 (k : Nat) (x1 : SVal) : T (k + 1) 121 [.yld, (.rp [x1])] = R121 (T k) k x1 := (tb k 121 _ rfl).trans (r121 ..)
/-- slices.IndexFunc[[]func() bool,func() bool] -/
def R123 (T : TT) (k : Nat) (x0 x1 : SVal) : Option Res :=
 (sLen x0).bind fun r1 =>
 loopN (fun s2 next2 =>
 (sBin .lss s2.k3 s2.k2).bind fun r3 =>
 pickC r3
 ((sIdx false 1 s2.k0 s2.k3).bind fun e4 =>
 (callV H T s2.k1 [e4]).bind fun y5 =>
 pickC y5
 (some { r := s2.k3 })
 ((sBin .add s2.k3 (.int .i64 1)).bind fun r6 =>
 next2 ⟨[(weak s2.k0), s2.k1, s2.k2, r6], [], false⟩))
 (some { r := (.int .i64 (-1)) })) k ⟨[(weak x0), x1, r1, (.int .i64 0)], [], false⟩
theorem r123 (T : TT) (k : Nat) (x0 x1 : SVal) : bodyE P H T k 123 [x0, x1] = R123 T k x0 x1 := by kernel_rfl
noncomputable def D123 (T : TT) (k : Nat) : List SVal → Option Res
  | [x0, x1] => R123 T k x0 x1
  | a => bodyE P H T k 123 a
theorem d123 (T : TT) (k : Nat) (a : List SVal) : D123 T k a = bodyE P H T k 123 a := by
  unfold D123
  split
  · exact (r123 ..).symm
  · rfl
theorem t123 (k : Nat) (x0 x1 : SVal) : T (k + 1) 123 [x0, x1] = R123 (T k) k x0 x1 := (tb k 123 _ rfl).trans (r123 ..)
/-- (limelight/area.node).index -/
def R124 (T : TT) (k : Nat) (x0a x0b x0c x0d x0e x0f : SVal) : Option Res :=
 (T 80 [(weak x0a), x0f, (.int .i64 0)]).bind fun r1 =>
 guardX r1.r.c1 false
 ((T 125 [(.agg [(weak x0a), (weak x0b), (weak x0c), (weak x0d), (weak x0e), x0f]), (.int .i64 1)]).bind fun r2 =>
 guardX r2.r false
 ((T 125 [(.agg [(weak x0a), (weak x0b), (weak x0c), (weak x0d), (weak x0e), x0f]), (.int .i64 4)]).bind fun r3 =>
 some { r := (.tup [r1.r.c0, r3.r]) })
 (some { r := (.tup [r1.r.c0, (.bool true)]) })
 (none))
 (some { r := (.tup [r1.r.c0, (.bool true)]) })
 (none)
theorem r124 (T : TT) (k : Nat) (x0a x0b x0c x0d x0e x0f : SVal) : bodyE P H T k 124 [(.agg [x0a, x0b, x0c, x0d, x0e, x0f])] = R124 T k x0a x0b x0c x0d x0e x0f := by kernel_rfl
noncomputable def D124 (T : TT) (k : Nat) : List SVal → Option Res
  | [(.agg [x0a, x0b, x0c, x0d, x0e, x0f])] => R124 T k x0a x0b x0c x0d x0e x0f
  | a => bodyE P H T k 124 a
theorem d124 (T : TT) (k : Nat) (a : List SVal) : D124 T k a = bodyE P H T k 124 a := by
  unfold D124
  split
  · exact (r124 ..).symm
  · rfl
theorem t124 (k : Nat) (x0a x0b x0c x0d x0e x0f : SVal) : T (k + 1) 124 [(.agg [x0a, x0b, x0c, x0d, x0e, x0f])] = R124 (T k) k x0a x0b x0c x0d x0e x0f := (tb k 124 _ rfl).trans (r124 ..)
/-- (limelight/area.node).tag -/
def R125 (T : TT) (k : Nat) (x0a x0b x0c x0d x0e x0f x1 : SVal) : Option Res :=
 (sIdx true 7 x0a x0f).bind fun e1 =>
 if (allOne [.v (SVal.cell e1 0), .v (SVal.cell e1 1), .v (SVal.cell e1 2), .v (SVal.cell e1 3), .v (SVal.cell e1 4), .v (SVal.cell e1 5), .v (SVal.cell e1 6)]) = true then
 ((sBin .eql (SVal.cell e1 0) (.int .i64 1)).bind fun r2 =>
 guardX r2 true
 ((sBin .eql (SVal.cell e1 1) x1).bind fun r3 =>
 (asB r3).bind fun b4 =>
 some [b4])
 (some [false])
 (none)).bind fun vs5 =>
 some { r := (.bool (vs5.getD 0 false)) }
 else none
theorem r125 (T : TT) (k : Nat) (x0a x0b x0c x0d x0e x0f x1 : SVal) : bodyE P H T k 125 [(.agg [x0a, x0b, x0c, x0d, x0e, x0f]), x1] = R125 T k x0a x0b x0c x0d x0e x0f x1 := by kernel_rfl
noncomputable def D125 (T : TT) (k : Nat) : List SVal → Option Res
  | [(.agg [x0a, x0b, x0c, x0d, x0e, x0f]), x1] => R125 T k x0a x0b x0c x0d x0e x0f x1
  | a => bodyE P H T k 125 a
theorem d125 (T : TT) (k : Nat) (a : List SVal) : D125 T k a = bodyE P H T k 125 a := by
  unfold D125
  split
  · exact (r125 ..).symm
  · rfl
theorem t125 (k : Nat) (x0a x0b x0c x0d x0e x0f x1 : SVal) : T (k + 1) 125 [(.agg [x0a, x0b, x0c, x0d, x0e, x0f]), x1] = R125 (T k) k x0a x0b x0c x0d x0e x0f x1 := (tb k 125 _ rfl).trans (r125 ..)
/-- limelight/render.Is -/
def R126 (T : TT) (k : Nat) (x0a x0b x0c x0d x0e x1 : SVal) : Option Res :=
 ((T 142 [(.agg [(weak x0a), (weak x0b), (weak x0c), (weak x0d), (weak x0e)]), x1]).bind fun r1 =>
 (sNot r1.r).bind fun r2 =>
 guardX r2 false
 ((T 143 [(weak x0a), x1]).bind fun r3 =>
 (sNot r3.r).bind fun r4 =>
 (asB r4).bind fun b5 =>
 some [b5])
 (some [true])
 (none)).bind fun vs6 =>
 pickC (.bool (vs6.getD 0 false))
 (some { r := (.bool false) })
 ((T 144 [(weak x0a), x1]).bind fun r7 =>
 (T 105 [(weak r7.r), (.fn 145 [(.rp [x0a, x0b, x0c, x0d, x0e])])]).bind fun r8 =>
 (sNot r8.r).bind fun r9 =>
 some { r := r9 })
theorem r126 (T : TT) (k : Nat) (x0a x0b x0c x0d x0e x1 : SVal) : bodyE P H T k 126 [(.agg [x0a, x0b, x0c, x0d, x0e]), x1] = R126 T k x0a x0b x0c x0d x0e x1 := by kernel_rfl
noncomputable def D126 (T : TT) (k : Nat) : List SVal → Option Res
  | [(.agg [x0a, x0b, x0c, x0d, x0e]), x1] => R126 T k x0a x0b x0c x0d x0e x1
  | a => bodyE P H T k 126 a
theorem d126 (T : TT) (k : Nat) (a : List SVal) : D126 T k a = bodyE P H T k 126 a := by
  unfold D126
  split
  · exact (r126 ..).symm
  · rfl
theorem t126 (k : Nat) (x0a x0b x0c x0d x0e x1 : SVal) : T (k + 1) 126 [(.agg [x0a, x0b, x0c, x0d, x0e]), x1] = R126 (T k) k x0a x0b x0c x0d x0e x1 := (tb k 126 _ rfl).trans (r126 ..)
/-- limelight/inert.Is -/
def R127 (T : TT) (k : Nat) (x0a x0b x0c x0d x0e x1 : SVal) : Option Res :=
 ((T 147 [(.agg [(weak x0a), (weak x0b), (weak x0c), (weak x0d), (weak x0e)]), x1]).bind fun r1 =>
 guardX r1.r true
 ((T 148 [(.agg [(weak x0a), (weak x0b), (weak x0c), (weak x0d), (weak x0e)]), x1]).bind fun r2 =>
 guardX r2.r false
 ((T 149 [(.agg [(weak x0a), (weak x0b), (weak x0c), (weak x0d), (weak x0e)]), x1]).bind fun r3 =>
 (asB r3.r).bind fun b4 =>
 some [b4])
 (some [true])
 (none))
 (some [false])
 (none)).bind fun vs5 =>
 some { r := (.bool (vs5.getD 0 false)) }
theorem r127 (T : TT) (k : Nat) (x0a x0b x0c x0d x0e x1 : SVal) : bodyE P H T k 127 [(.agg [x0a, x0b, x0c, x0d, x0e]), x1] = R127 T k x0a x0b x0c x0d x0e x1 := by kernel_rfl
noncomputable def D127 (T : TT) (k : Nat) : List SVal → Option Res
  | [(.agg [x0a, x0b, x0c, x0d, x0e]), x1] => R127 T k x0a x0b x0c x0d x0e x1
  | a => bodyE P H T k 127 a
theorem d127 (T : TT) (k : Nat) (a : List SVal) : D127 T k a = bodyE P H T k 127 a := by
  unfold D127
  split
  · exact (r127 ..).symm
  · rfl
theorem t127 (k : Nat) (x0a x0b x0c x0d x0e x1 : SVal) : T (k + 1) 127 [(.agg [x0a, x0b, x0c, x0d, x0e]), x1] = R127 (T k) k x0a x0b x0c x0d x0e x1 := (tb k 127 _ rfl).trans (r127 ..)
/-- slices.IndexFunc[[]int,int] -/
def R128 (T : TT) (k : Nat) (x0 x1 : SVal) : Option Res :=
 (sLen x0).bind fun r1 =>
 loopN (fun s2 next2 =>
 (sBin .lss s2.k3 s2.k2).bind fun r3 =>
 pickC r3
 ((sIdx false 1 s2.k0 s2.k3).bind fun e4 =>
 (callV H T s2.k1 [e4]).bind fun y5 =>
 pickC y5
 (some { r := s2.k3 })
 ((sBin .add s2.k3 (.int .i64 1)).bind fun r6 =>
 next2 ⟨[(weak s2.k0), s2.k1, s2.k2, r6], [], false⟩))
 (some { r := (.int .i64 (-1)) })) k ⟨[(weak x0), x1, r1, (.int .i64 0)], [], false⟩
theorem r128 (T : TT) (k : Nat) (x0 x1 : SVal) : bodyE P H T k 128 [x0, x1] = R128 T k x0 x1 := by kernel_rfl
noncomputable def D128 (T : TT) (k : Nat) : List SVal → Option Res
  | [x0, x1] => R128 T k x0 x1
  | a => bodyE P H T k 128 a
theorem d128 (T : TT) (k : Nat) (a : List SVal) : D128 T k a = bodyE P H T k 128 a := by
  unfold D128
  split
  · exact (r128 ..).symm
  · rfl
theorem t128 (k : Nat) (x0 x1 : SVal) : T (k + 1) 128 [x0, x1] = R128 (T k) k x0 x1 := (tb k 128 _ rfl).trans (r128 ..)
/-- slices.IndexFunc[[]limelight/api.Attr,limelight/api.Attr] -/
def R129 (T : TT) (k : Nat) (x0 x1 : SVal) : Option Res :=
 (sLen x0).bind fun r1 =>
 loopN (fun s2 next2 =>
 (sBin .lss s2.k3 s2.k2).bind fun r3 =>
 pickC r3
 ((sIdx true 2 s2.k0 s2.k3).bind fun e4 =>
 (callV H T s2.k1 [(.agg [(SVal.cell e4 0), (SVal.cell e4 1)])]).bind fun y5 =>
 pickC y5
 (some { r := s2.k3 })
 ((sBin .add s2.k3 (.int .i64 1)).bind fun r6 =>
 next2 ⟨[(weak s2.k0), s2.k1, s2.k2, r6], [], false⟩))
 (some { r := (.int .i64 (-1)) })) k ⟨[(weak x0), x1, r1, (.int .i64 0)], [], false⟩
theorem r129 (T : TT) (k : Nat) (x0 x1 : SVal) : bodyE P H T k 129 [x0, x1] = R129 T k x0 x1 := by kernel_rfl
noncomputable def D129 (T : TT) (k : Nat) : List SVal → Option Res
  | [x0, x1] => R129 T k x0 x1
  | a => bodyE P H T k 129 a
theorem d129 (T : TT) (k : Nat) (a : List SVal) : D129 T k a = bodyE P H T k 129 a := by
  unfold D129
  split
  · exact (r129 ..).symm
  · rfl
theorem t129 (k : Nat) (x0 x1 : SVal) : T (k + 1) 129 [x0, x1] = R129 (T k) k x0 x1 := (tb k 129 _ rfl).trans (r129 ..)
/-- limelight/attr.at$1 -/
def R130 (T : TT) (k : Nat) (x0a x0b x1 : SVal) : Option Res :=
 (sBin .eql x0a x1).bind fun r1 =>
 some { r := r1 }
theorem r130 (T : TT) (k : Nat) (x0a x0b x1 : SVal) : bodyE P H T k 130 [(.agg [x0a, x0b]), (.rp [x1])] = R130 T k x0a x0b x1 := by kernel_rfl
noncomputable def D130 (T : TT) (k : Nat) : List SVal → Option Res
  | [(.agg [x0a, x0b]), (.rp [x1])] => R130 T k x0a x0b x1
  | a => bodyE P H T k 130 a
theorem d130 (T : TT) (k : Nat) (a : List SVal) : D130 T k a = bodyE P H T k 130 a := by
  unfold D130
  split
  · exact (r130 ..).symm
  · rfl
theorem t130 (k : Nat) (x0a x0b x1 : SVal) : T (k + 1) 130 [(.agg [x0a, x0b]), (.rp [x1])] = R130 (T k) k x0a x0b x1 := (tb k 130 _ rfl).trans (r130 ..)
/-- limelight/limelightref05.Assigned -/
def R131 (T : TT) (k : Nat) (x0 x1 : SVal) : Option Res :=
 (T 150 [(weak x0), x1]).bind fun r1 =>
 (sNot r1.r).bind fun r2 =>
 pickC r2
 (some { r := (.sl 1 false false []) })
 ((T 151 [(weak x0), x1]).bind fun r3 =>
 (sIdx true 7 x0 r3.r).bind fun e4 =>
 loopN (fun s5 next5 =>
 (sIdx true 7 s5.k0 s5.k3).bind fun e6 =>
 (sLen (SVal.cell e6 3)).bind fun r7 =>
 (sBin .lss s5.k4 r7).bind fun r8 =>
 pickC r8
 ((sIdx true 7 s5.k0 s5.k3).bind fun e9 =>
 (sIdx false 1 (SVal.cell e9 3) s5.k4).bind fun e10 =>
 (T 152 [(weak s5.k0), e10]).bind fun r11 =>
 (sBin .eql r11.r s5.k1).bind fun r12 =>
 pickC r12
 ((sIdx true 7 s5.k0 s5.k3).bind fun e13 =>
 (sIdx false 1 (SVal.cell e13 3) s5.k4).bind fun e14 =>
 if (List.all [[.v e14]] allOne) = true then
 if (s5.k2.xs.length + ([e14] : List SVal).length) * 8 ≤ maxAppend then
 (sBin .add s5.k4 (.int .i64 1)).bind fun r15 =>
 next5 ⟨[(weak s5.k0), s5.k1, (.sl 1 true false (s5.k2.xs ++ ([e14] : List SVal))), s5.k3, r15], [], false⟩
 else none
 else none)
 ((sBin .add s5.k4 (.int .i64 1)).bind fun r16 =>
 next5 ⟨[(weak s5.k0), s5.k1, (.sl 1 true false s5.k2.xs), s5.k3, r16], [], false⟩))
 (some { r := (.sl 1 false false s5.k2.xs) })) k ⟨[(weak x0), x1, (.sl 1 true false []), (SVal.cell e4 4), (.int .i64 0)], [], false⟩)
theorem r131 (T : TT) (k : Nat) (x0 x1 : SVal) : bodyE P H T k 131 [x0, x1] = R131 T k x0 x1 := by kernel_rfl
theorem t131 (k : Nat) (x0 x1 : SVal) : T (k + 1) 131 [x0, x1] = R131 (T k) k x0 x1 := (tb k 131 _ rfl).trans (r131 ..)
/-- limelight/tree.is -/
def R132 (T : TT) (k : Nat) (x0 x1 : SVal) : Option Res :=
 (sLen x0).bind fun r1 =>
 (sBin .sub r1 (.int .i64 1)).bind fun r2 =>
 (T 113 [x1, (.int .i64 0), r2]).bind fun r3 =>
 some { r := r3.r }
theorem r132 (T : TT) (k : Nat) (x0 x1 : SVal) : bodyE P H T k 132 [x0, x1] = R132 T k x0 x1 := by kernel_rfl
noncomputable def D132 (T : TT) (k : Nat) : List SVal → Option Res
  | [x0, x1] => R132 T k x0 x1
  | a => bodyE P H T k 132 a
theorem d132 (T : TT) (k : Nat) (a : List SVal) : D132 T k a = bodyE P H T k 132 a := by
  unfold D132
  split
  · exact (r132 ..).symm
  · rfl
theorem t132 (k : Nat) (x0 x1 : SVal) : T (k + 1) 132 [x0, x1] = R132 (T k) k x0 x1 := (tb k 132 _ rfl).trans (r132 ..)
/-- limelight/tree.once -/
def R133 (T : TT) (k : Nat) (x0 x1 : SVal) : Option Res :=
 (T 153 [(weak x0), x1]).bind fun r1 =>
 ((sBin .geq r1.r (.int .i64 0)).bind fun r2 =>
 guardX r2 true
 ((sBin .add r1.r (.int .i64 1)).bind fun r3 =>
 (sSlice 1 x0 (some r3) none).bind fun r4 =>
 (T 154 [(weak r4), x1]).bind fun r5 =>
 (sNot r5.r).bind fun r6 =>
 (asB r6).bind fun b7 =>
 some [b7])
 (some [false])
 (none)).bind fun vs8 =>
 some { r := (.bool (vs8.getD 0 false)) }
theorem r133 (T : TT) (k : Nat) (x0 x1 : SVal) : bodyE P H T k 133 [x0, x1] = R133 T k x0 x1 := by kernel_rfl
noncomputable def D133 (T : TT) (k : Nat) : List SVal → Option Res
  | [x0, x1] => R133 T k x0 x1
  | a => bodyE P H T k 133 a
theorem d133 (T : TT) (k : Nat) (a : List SVal) : D133 T k a = bodyE P H T k 133 a := by
  unfold D133
  split
  · exact (r133 ..).symm
  · rfl
theorem t133 (k : Nat) (x0 x1 : SVal) : T (k + 1) 133 [x0, x1] = R133 (T k) k x0 x1 := (tb k 133 _ rfl).trans (r133 ..)
/-- limelight/tree.attrs -/
def R134 (T : TT) (k : Nat) (x0a x0b x0c x0d x0e x0f x0g : SVal) : Option Res :=
 (sLen x0g).bind fun r1 =>
 loopN (fun s2 next2 =>
 (sBin .lss s2.k4 s2.k3).bind fun r3 =>
 pickC r3
 ((sIdx true 2 s2.k2 s2.k4).bind fun e4 =>
 if (allOne [.v (SVal.cell e4 0), .v (SVal.cell e4 1)]) = true then
 ((sBin .eql (SVal.cell e4 0) (.int .i64 7)).bind fun r5 =>
 guardX r5 false
 ((sBin .eql (SVal.cell e4 0) (.int .i64 8)).bind fun r6 =>
 (asB r6).bind fun b7 =>
 some [b7])
 (some [true])
 (none)).bind fun vs8 =>
 ((sBin .leq (SVal.cell e4 0) s2.k1).bind fun r9 =>
 guardX r9 false
 ((sBin .geq (SVal.cell e4 0) (.int .i64 10)).bind fun r10 =>
 guardX r10 false
 ((T 155 [(.agg [(SVal.cell e4 0), (SVal.cell e4 1)])]).bind fun r11 =>
 (sNot r11.r).bind fun r12 =>
 guardX r12 false
 ((sBin .eql (SVal.cell s2.k0 0) (.int .i64 3)).bind fun r13 =>
 (sBinB .neq (.bool (vs8.getD 0 false)) r13).bind fun r14 =>
 (asB r14).bind fun b15 =>
 some [b15])
 (some [true])
 (none))
 (some [true])
 (none))
 (some [true])
 (none)).bind fun vs16 =>
 pickC (.bool (vs16.getD 0 false))
 (some { r := (.bool false) })
 ((sBin .add s2.k4 (.int .i64 1)).bind fun r17 =>
 next2 ⟨[(.rp [(SVal.cell s2.k0 0), (SVal.cell s2.k0 1), (SVal.cell s2.k0 2), (SVal.cell s2.k0 3), (SVal.cell s2.k0 4), (SVal.cell s2.k0 5), (SVal.cell s2.k0 6)]), (SVal.cell e4 0), (weak s2.k2), s2.k3, r17], [], false⟩)
 else none)
 (((sLen (SVal.cell s2.k0 6)).bind fun r18 =>
 (sBin .eql r18 (.int .i64 0)).bind fun r19 =>
 guardX r19 false
 ((sBin .eql (SVal.cell s2.k0 0) (.int .i64 1)).bind fun r20 =>
 guardX r20 false
 ((sBin .eql (SVal.cell s2.k0 0) (.int .i64 3)).bind fun r21 =>
 (asB r21).bind fun b22 =>
 some [b22])
 (some [true])
 (none))
 (some [true])
 (none)).bind fun vs23 =>
 some { r := (.bool (vs23.getD 0 false)) })) k ⟨[(.rp [x0a, x0b, x0c, x0d, x0e, x0f, x0g]), (.int .i64 (-1)), (weak x0g), r1, (.int .i64 0)], [], false⟩
theorem r134 (T : TT) (k : Nat) (x0a x0b x0c x0d x0e x0f x0g : SVal) : bodyE P H T k 134 [(.agg [x0a, x0b, x0c, x0d, x0e, x0f, x0g])] = R134 T k x0a x0b x0c x0d x0e x0f x0g := by kernel_rfl
noncomputable def D134 (T : TT) (k : Nat) : List SVal → Option Res
  | [(.agg [x0a, x0b, x0c, x0d, x0e, x0f, x0g])] => R134 T k x0a x0b x0c x0d x0e x0f x0g
  | a => bodyE P H T k 134 a
theorem d134 (T : TT) (k : Nat) (a : List SVal) : D134 T k a = bodyE P H T k 134 a := by
  unfold D134
  split
  · exact (r134 ..).symm
  · rfl
theorem t134 (k : Nat) (x0a x0b x0c x0d x0e x0f x0g : SVal) : T (k + 1) 134 [(.agg [x0a, x0b, x0c, x0d, x0e, x0f, x0g])] = R134 (T k) k x0a x0b x0c x0d x0e x0f x0g := (tb k 134 _ rfl).trans (r134 ..)
/-- limelight/tree.shadow -/
def R135 (T : TT) (k : Nat) (x0 x1 : SVal) : Option Res :=
 (sIdx true 7 x0 x1).bind fun e1 =>
 if (allOne [.v (SVal.cell e1 0), .v (SVal.cell e1 1), .v (SVal.cell e1 2), .v (SVal.cell e1 3), .v (SVal.cell e1 4), .v (SVal.cell e1 5), .v (SVal.cell e1 6)]) = true then
 (sBin .eql (SVal.cell e1 0) (.int .i64 3)).bind fun r2 =>
 pickC r2
 (((sBin .eql (SVal.cell e1 5) (.int .i64 (-1))).bind fun r3 =>
 guardX r3 true
 ((sBin .eql (SVal.cell e1 2) (.int .i64 (-1))).bind fun r4 =>
 guardX r4 true
 ((T 132 [(weak x0), (SVal.cell e1 4)]).bind fun r5 =>
 guardX r5.r true
 ((sIdx true 7 x0 (SVal.cell e1 4)).bind fun e6 =>
 (sBin .eql (SVal.cell e6 0) (.int .i64 1)).bind fun r7 =>
 guardX r7 true
 ((sIdx true 7 x0 (SVal.cell e1 4)).bind fun e8 =>
 (sBin .eql (SVal.cell e8 5) x1).bind fun r9 =>
 (asB r9).bind fun b10 =>
 some [b10])
 (some [false])
 (none))
 (some [false])
 (none))
 (some [false])
 (none))
 (some [false])
 (none)).bind fun vs11 =>
 some { r := (.bool (vs11.getD 0 false)) })
 ((sBin .neq (SVal.cell e1 4) (.int .i64 (-1))).bind fun r12 =>
 pickC r12
 (some { r := (.bool false) })
 ((sBin .eql (SVal.cell e1 5) (.int .i64 (-1))).bind fun r13 =>
 pickC r13
 (some { r := (.bool true) })
 (((sBin .eql (SVal.cell e1 0) (.int .i64 1)).bind fun r14 =>
 guardX r14 true
 ((T 132 [(weak x0), (SVal.cell e1 5)]).bind fun r15 =>
 guardX r15.r true
 ((sIdx true 7 x0 (SVal.cell e1 5)).bind fun e16 =>
 (sBin .eql (SVal.cell e16 0) (.int .i64 3)).bind fun r17 =>
 guardX r17 true
 ((sIdx true 7 x0 (SVal.cell e1 5)).bind fun e18 =>
 (sBin .eql (SVal.cell e18 4) x1).bind fun r19 =>
 (asB r19).bind fun b20 =>
 some [b20])
 (some [false])
 (none))
 (some [false])
 (none))
 (some [false])
 (none)).bind fun vs21 =>
 some { r := (.bool (vs21.getD 0 false)) })))
 else none
theorem r135 (T : TT) (k : Nat) (x0 x1 : SVal) : bodyE P H T k 135 [x0, x1] = R135 T k x0 x1 := by kernel_rfl
noncomputable def D135 (T : TT) (k : Nat) : List SVal → Option Res
  | [x0, x1] => R135 T k x0 x1
  | a => bodyE P H T k 135 a
theorem d135 (T : TT) (k : Nat) (a : List SVal) : D135 T k a = bodyE P H T k 135 a := by
  unfold D135
  split
  · exact (r135 ..).symm
  · rfl
theorem t135 (k : Nat) (x0 x1 : SVal) : T (k + 1) 135 [x0, x1] = R135 (T k) k x0 x1 := (tb k 135 _ rfl).trans (r135 ..)
/-- limelight/tree.node$1 -/
def R136 (T : TT) (k : Nat) (x0 x1 x2 : SVal) : Option Res :=
 (T 137 [(weak x1), x2, x0]).bind fun r1 =>
 (sNot r1.r).bind fun r2 =>
 some { r := r2 }
theorem r136 (T : TT) (k : Nat) (x0 x1 x2 : SVal) : bodyE P H T k 136 [x0, (.rp [x1]), (.rp [x2])] = R136 T k x0 x1 x2 := by kernel_rfl
noncomputable def D136 (T : TT) (k : Nat) : List SVal → Option Res
  | [x0, (.rp [x1]), (.rp [x2])] => R136 T k x0 x1 x2
  | a => bodyE P H T k 136 a
theorem d136 (T : TT) (k : Nat) (a : List SVal) : D136 T k a = bodyE P H T k 136 a := by
  unfold D136
  split
  · exact (r136 ..).symm
  · rfl
theorem t136 (k : Nat) (x0 x1 x2 : SVal) : T (k + 1) 136 [x0, (.rp [x1]), (.rp [x2])] = R136 (T k) k x0 x1 x2 := (tb k 136 _ rfl).trans (r136 ..)
/-- limelight/tree.below -/
def R137 (T : TT) (k : Nat) (x0 x1 x2 : SVal) : Option Res :=
 ((T 132 [(weak x0), x2]).bind fun r1 =>
 guardX r1.r true
 ((sIdx true 7 x0 x1).bind fun e2 =>
 (T 133 [(weak (SVal.cell e2 3)), x2]).bind fun r3 =>
 guardX r3.r true
 ((sIdx true 7 x0 x2).bind fun e4 =>
 (sBin .eql (SVal.cell e4 2) x1).bind fun r5 =>
 guardX r5 true
 ((sIdx true 7 x0 x2).bind fun e6 =>
 (sBin .eql (SVal.cell e6 0) (.int .i64 1)).bind fun r7 =>
 guardX r7 false
 ((sIdx true 7 x0 x2).bind fun e8 =>
 (sBin .eql (SVal.cell e8 0) (.int .i64 2)).bind fun r9 =>
 (asB r9).bind fun b10 =>
 some [b10])
 (some [true])
 (none))
 (some [false])
 (none))
 (some [false])
 (none))
 (some [false])
 (none)).bind fun vs11 =>
 some { r := (.bool (vs11.getD 0 false)) }
theorem r137 (T : TT) (k : Nat) (x0 x1 x2 : SVal) : bodyE P H T k 137 [x0, x1, x2] = R137 T k x0 x1 x2 := by kernel_rfl
noncomputable def D137 (T : TT) (k : Nat) : List SVal → Option Res
  | [x0, x1, x2] => R137 T k x0 x1 x2
  | a => bodyE P H T k 137 a
theorem d137 (T : TT) (k : Nat) (a : List SVal) : D137 T k a = bodyE P H T k 137 a := by
  unfold D137
  split
  · exact (r137 ..).symm
  · rfl
theorem t137 (k : Nat) (x0 x1 x2 : SVal) : T (k + 1) 137 [x0, x1, x2] = R137 (T k) k x0 x1 x2 := (tb k 137 _ rfl).trans (r137 ..)
/-- limelight/tree.up -/
def R138 (T : TT) (k : Nat) (x0 x1 : SVal) : Option Res :=
 if (oneS x0) = true then
 if (oneS x1) = true then
 some { r := (.fn 156 [(.rp [x0]), (.mb [x1])]) }
 else none
 else none
theorem r138 (T : TT) (k : Nat) (x0 x1 : SVal) : bodyE P H T k 138 [x0, x1] = R138 T k x0 x1 := by kernel_rfl
noncomputable def D138 (T : TT) (k : Nat) : List SVal → Option Res
  | [x0, x1] => R138 T k x0 x1
  | a => bodyE P H T k 138 a
theorem d138 (T : TT) (k : Nat) (a : List SVal) : D138 T k a = bodyE P H T k 138 a := by
  unfold D138
  split
  · exact (r138 ..).symm
  · rfl
theorem t138 (k : Nat) (x0 x1 : SVal) : T (k + 1) 138 [x0, x1] = R138 (T k) k x0 x1 := (tb k 138 _ rfl).trans (r138 ..)
/-- limelight/shade.Connected -/
def R139 (T : TT) (k : Nat) (x0 x1 : SVal) : Option Res :=
 (T 157 [(weak x0), (.int .i64 0), x1]).bind fun r1 =>
 some { r := r1.r }
theorem r139 (T : TT) (k : Nat) (x0 x1 : SVal) : bodyE P H T k 139 [x0, x1] = R139 T k x0 x1 := by kernel_rfl
noncomputable def D139 (T : TT) (k : Nat) : List SVal → Option Res
  | [x0, x1] => R139 T k x0 x1
  | a => bodyE P H T k 139 a
theorem d139 (T : TT) (k : Nat) (a : List SVal) : D139 T k a = bodyE P H T k 139 a := by
  unfold D139
  split
  · exact (r139 ..).symm
  · rfl
theorem t139 (k : Nat) (x0 x1 : SVal) : T (k + 1) 139 [x0, x1] = R139 (T k) k x0 x1 := (tb k 139 _ rfl).trans (r139 ..)
/-- limelight/render.may -/
def R142 (T : TT) (k : Nat) (x0a x0b x0c x0d x0e x1 : SVal) : Option Res :=
 ((T 47 [(.agg [(weak x0a), (weak x0b), (weak x0c), (weak x0d), (weak x0e)])]).bind fun r1 =>
 (sBin .eql r1.r (.int .i64 0)).bind fun r2 =>
 guardX r2 true
 ((sBin .geq x1 (.int .i64 0)).bind fun r3 =>
 guardX r3 true
 ((sLen x0a).bind fun r4 =>
 (sBin .lss x1 r4).bind fun r5 =>
 (asB r5).bind fun b6 =>
 some [b6])
 (some [false])
 (none))
 (some [false])
 (none)).bind fun vs7 =>
 some { r := (.bool (vs7.getD 0 false)) }
theorem r142 (T : TT) (k : Nat) (x0a x0b x0c x0d x0e x1 : SVal) : bodyE P H T k 142 [(.agg [x0a, x0b, x0c, x0d, x0e]), x1] = R142 T k x0a x0b x0c x0d x0e x1 := by kernel_rfl
noncomputable def D142 (T : TT) (k : Nat) : List SVal → Option Res
  | [(.agg [x0a, x0b, x0c, x0d, x0e]), x1] => R142 T k x0a x0b x0c x0d x0e x1
  | a => bodyE P H T k 142 a
theorem d142 (T : TT) (k : Nat) (a : List SVal) : D142 T k a = bodyE P H T k 142 a := by
  unfold D142
  split
  · exact (r142 ..).symm
  · rfl
theorem t142 (k : Nat) (x0a x0b x0c x0d x0e x1 : SVal) : T (k + 1) 142 [(.agg [x0a, x0b, x0c, x0d, x0e]), x1] = R142 (T k) k x0a x0b x0c x0d x0e x1 := (tb k 142 _ rfl).trans (r142 ..)
/-- limelight/flat.Has -/
def R143 (T : TT) (k : Nat) (x0 x1 : SVal) : Option Res :=
 (T 169 [(weak x0), (.int .i64 0), x1]).bind fun r1 =>
 some { r := r1.r }
theorem r143 (T : TT) (k : Nat) (x0 x1 : SVal) : bodyE P H T k 143 [x0, x1] = R143 T k x0 x1 := by kernel_rfl
noncomputable def D143 (T : TT) (k : Nat) : List SVal → Option Res
  | [x0, x1] => R143 T k x0 x1
  | a => bodyE P H T k 143 a
theorem d143 (T : TT) (k : Nat) (a : List SVal) : D143 T k a = bodyE P H T k 143 a := by
  unfold D143
  split
  · exact (r143 ..).symm
  · rfl
theorem t143 (k : Nat) (x0 x1 : SVal) : T (k + 1) 143 [x0, x1] = R143 (T k) k x0 x1 := (tb k 143 _ rfl).trans (r143 ..)
/-- limelight/flat.Up -/
def R144 (T : TT) (k : Nat) (x0 x1 : SVal) : Option Res :=
 (T 170 [(weak x0), x1]).bind fun r1 =>
 (sNot r1.r).bind fun r2 =>
 pickC r2
 (some { r := (.sl 1 false false []) })
 ((T 171 [(weak x0), x1]).bind fun r3 =>
 (T 78 [r3.r]).bind fun r4 =>
 some { r := (.sl 1 false false r4.r.xs) })
theorem r144 (T : TT) (k : Nat) (x0 x1 : SVal) : bodyE P H T k 144 [x0, x1] = R144 T k x0 x1 := by kernel_rfl
noncomputable def D144 (T : TT) (k : Nat) : List SVal → Option Res
  | [x0, x1] => R144 T k x0 x1
  | a => bodyE P H T k 144 a
theorem d144 (T : TT) (k : Nat) (a : List SVal) : D144 T k a = bodyE P H T k 144 a := by
  unfold D144
  split
  · exact (r144 ..).symm
  · rfl
theorem t144 (k : Nat) (x0 x1 : SVal) : T (k + 1) 144 [x0, x1] = R144 (T k) k x0 x1 := (tb k 144 _ rfl).trans (r144 ..)
/-- limelight/render.Is$1 -/
def R145 (T : TT) (k : Nat) (x0 x1a x1b x1c x1d x1e : SVal) : Option Res :=
 (T 146 [(.agg [(weak x1a), (weak x1b), (weak x1c), (weak x1d), (weak x1e)]), x0]).bind fun r1 =>
 (sNot r1.r).bind fun r2 =>
 some { r := r2 }
theorem r145 (T : TT) (k : Nat) (x0 x1a x1b x1c x1d x1e : SVal) : bodyE P H T k 145 [x0, (.rp [x1a, x1b, x1c, x1d, x1e])] = R145 T k x0 x1a x1b x1c x1d x1e := by kernel_rfl
noncomputable def D145 (T : TT) (k : Nat) : List SVal → Option Res
  | [x0, (.rp [x1a, x1b, x1c, x1d, x1e])] => R145 T k x0 x1a x1b x1c x1d x1e
  | a => bodyE P H T k 145 a
theorem d145 (T : TT) (k : Nat) (a : List SVal) : D145 T k a = bodyE P H T k 145 a := by
  unfold D145
  split
  · exact (r145 ..).symm
  · rfl
theorem t145 (k : Nat) (x0 x1a x1b x1c x1d x1e : SVal) : T (k + 1) 145 [x0, (.rp [x1a, x1b, x1c, x1d, x1e])] = R145 (T k) k x0 x1a x1b x1c x1d x1e := (tb k 145 _ rfl).trans (r145 ..)
/-- limelight/render.own -/
def R146 (T : TT) (k : Nat) (x0a x0b x0c x0d x0e x1 : SVal) : Option Res :=
 if (oneS x1) = true then
 (T 55 [(weak x0a), x1, (.int .i64 2)]).bind fun r1 =>
 pickC r1.r
 (some { r := (.bool false) })
 (((T 154 [(weak x0b), x1]).bind fun r2 =>
 guardX r2.r false
 ((T 154 [(weak x0c), x1]).bind fun r3 =>
 (asB r3.r).bind fun b4 =>
 some [b4])
 (some [true])
 (none)).bind fun vs5 =>
 pickC (.bool (vs5.getD 0 false))
 (some { r := (.bool true) })
 (((sIdx true 7 x0a x1).bind fun e6 =>
 (sBin .eql (SVal.cell e6 0) (.int .i64 1)).bind fun r7 =>
 guardX r7 true
 ((sIdx true 7 x0a x1).bind fun e8 =>
 (sBin .eql (SVal.cell e8 1) (.int .i64 2)).bind fun r9 =>
 (asB r9).bind fun b10 =>
 some [b10])
 (some [false])
 (none)).bind fun vs11 =>
 pickC (.bool (vs11.getD 0 false))
 (some { r := (.bool false) })
 (((T 55 [(weak x0a), x1, (.int .i64 6)]).bind fun r12 =>
 (sNot r12.r).bind fun r13 =>
 guardX r13 false
 ((T 173 [(weak x0d), (.fn 172 [(.rp [x1])])]).bind fun r14 =>
 (asB r14.r).bind fun b15 =>
 some [b15])
 (some [true])
 (none)).bind fun vs16 =>
 some { r := (.bool (vs16.getD 0 false)) })))
 else none
theorem r146 (T : TT) (k : Nat) (x0a x0b x0c x0d x0e x1 : SVal) : bodyE P H T k 146 [(.agg [x0a, x0b, x0c, x0d, x0e]), x1] = R146 T k x0a x0b x0c x0d x0e x1 := by kernel_rfl
noncomputable def D146 (T : TT) (k : Nat) : List SVal → Option Res
  | [(.agg [x0a, x0b, x0c, x0d, x0e]), x1] => R146 T k x0a x0b x0c x0d x0e x1
  | a => bodyE P H T k 146 a
theorem d146 (T : TT) (k : Nat) (a : List SVal) : D146 T k a = bodyE P H T k 146 a := by
  unfold D146
  split
  · exact (r146 ..).symm
  · rfl
theorem t146 (k : Nat) (x0a x0b x0c x0d x0e x1 : SVal) : T (k + 1) 146 [(.agg [x0a, x0b, x0c, x0d, x0e]), x1] = R146 (T k) k x0a x0b x0c x0d x0e x1 := (tb k 146 _ rfl).trans (r146 ..)
/-- limelight/inert.may -/
def R147 (T : TT) (k : Nat) (x0a x0b x0c x0d x0e x1 : SVal) : Option Res :=
 ((T 47 [(.agg [(weak x0a), (weak x0b), (weak x0c), (weak x0d), (weak x0e)])]).bind fun r1 =>
 (sBin .eql r1.r (.int .i64 0)).bind fun r2 =>
 guardX r2 true
 ((sBin .geq x1 (.int .i64 0)).bind fun r3 =>
 guardX r3 true
 ((sLen x0a).bind fun r4 =>
 (sBin .lss x1 r4).bind fun r5 =>
 (asB r5).bind fun b6 =>
 some [b6])
 (some [false])
 (none))
 (some [false])
 (none)).bind fun vs7 =>
 some { r := (.bool (vs7.getD 0 false)) }
theorem r147 (T : TT) (k : Nat) (x0a x0b x0c x0d x0e x1 : SVal) : bodyE P H T k 147 [(.agg [x0a, x0b, x0c, x0d, x0e]), x1] = R147 T k x0a x0b x0c x0d x0e x1 := by kernel_rfl
noncomputable def D147 (T : TT) (k : Nat) : List SVal → Option Res
  | [(.agg [x0a, x0b, x0c, x0d, x0e]), x1] => R147 T k x0a x0b x0c x0d x0e x1
  | a => bodyE P H T k 147 a
theorem d147 (T : TT) (k : Nat) (a : List SVal) : D147 T k a = bodyE P H T k 147 a := by
  unfold D147
  split
  · exact (r147 ..).symm
  · rfl
theorem t147 (k : Nat) (x0a x0b x0c x0d x0e x1 : SVal) : T (k + 1) 147 [(.agg [x0a, x0b, x0c, x0d, x0e]), x1] = R147 (T k) k x0a x0b x0c x0d x0e x1 := (tb k 147 _ rfl).trans (r147 ..)
end Go.Proofs.YtcdnmiaelaombaaGreat.K
