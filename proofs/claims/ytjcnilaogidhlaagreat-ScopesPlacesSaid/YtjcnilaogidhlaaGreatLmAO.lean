/- What the evaluator makes of the functions, by program (wip/tr/resid.py); each equation is checked by the kernel. -/
import Derived.Test.YtjcnilaogidhlaaGreatLmAJ
import Derived.Test.YtjcnilaogidhlaaGreatLmAB
import Derived.KernelRfl
set_option linter.unusedVariables false
set_option linter.unusedSimpArgs false
set_option linter.unnecessarySimpa false
set_option linter.all false
set_option maxRecDepth 100000
namespace Go.Proofs.YtjcnilaogidhlaaGreat.K
open Go Go.Lm
/-- limelight/slots.is -/
def R158 (T : TT) (k : Nat) (x0 x1 : SVal) : Option Res :=
 (T 119 [(weak x0), x1]).bind fun r1 =>
 (sBin .neq r1.r (.int .i64 (-1))).bind fun r2 =>
 some { r := r2 }
theorem r158 (T : TT) (k : Nat) (x0 x1 : SVal) : bodyE P H T k 158 [x0, x1] = R158 T k x0 x1 := by kernel_rfl
noncomputable def D158 (T : TT) (k : Nat) : List SVal → Option Res
  | [x0, x1] => R158 T k x0 x1
  | a => bodyE P H T k 158 a
theorem d158 (T : TT) (k : Nat) (a : List SVal) : D158 T k a = bodyE P H T k 158 a := by
  unfold D158
  split
  · exact (r158 ..).symm
  · rfl
theorem t158 (k : Nat) (x0 x1 : SVal) : T (k + 1) 158 [x0, x1] = R158 (T k) k x0 x1 := (tb k 158 _ rfl).trans (r158 ..)
/-- limelight/slots.slot -/
def R159 (T : TT) (k : Nat) (x0 x1 : SVal) : Option Res :=
 ((sIdx true 7 x0 x1).bind fun e1 =>
 (sBin .eql (SVal.cell e1 0) (.int .i64 1)).bind fun r2 =>
 guardX r2 true
 ((sIdx true 7 x0 x1).bind fun e3 =>
 (sBin .eql (SVal.cell e3 1) (.int .i64 3)).bind fun r4 =>
 guardX r4 true
 ((T 117 [(weak x0), x1]).bind fun r5 =>
 (sBin .neq r5.r (.int .i64 (-1))).bind fun r6 =>
 (asB r6).bind fun b7 =>
 some [b7])
 (some [false])
 (none))
 (some [false])
 (none)).bind fun vs8 =>
 some { r := (.bool (vs8.getD 0 false)) }
theorem r159 (T : TT) (k : Nat) (x0 x1 : SVal) : bodyE P H T k 159 [x0, x1] = R159 T k x0 x1 := by kernel_rfl
noncomputable def D159 (T : TT) (k : Nat) : List SVal → Option Res
  | [x0, x1] => R159 T k x0 x1
  | a => bodyE P H T k 159 a
theorem d159 (T : TT) (k : Nat) (a : List SVal) : D159 T k a = bodyE P H T k 159 a := by
  unfold D159
  split
  · exact (r159 ..).symm
  · rfl
theorem t159 (k : Nat) (x0 x1 : SVal) : T (k + 1) 159 [x0, x1] = R159 (T k) k x0 x1 := (tb k 159 _ rfl).trans (r159 ..)
/-- slices.DeleteFunc[[]int,int] -/
def R160 (T : TT) (k : Nat) (x0 : List SVal) (x1 : SVal) : Option Res :=
 (T 53 [(.sl 1 false false x0), x1]).bind fun r1 =>
 if isSc1 r1.r = true then
 (sBin .eql r1.r (.int .i64 (-1))).bind fun r2 =>
 pickC r2
 (some { r := (.sl 1 true false x0) })
 ((sBin .add r1.r (.int .i64 1)).bind fun r3 =>
 loopN (fun s4 next4 =>
 (sBin .lss s4.k3 (.int .i64 (s4.k0.xs.length : Nat))).bind fun r5 =>
 pickC r5
 ((sIn s4.k0.xs.length s4.k3).bind fun j6 =>
 (s4.k0.xs[j6]?).bind fun e7 =>
 if (elemOk false 1 e7) = true then
 (callV H T s4.k1 [e7]).bind fun y8 =>
 (sNot y8).bind fun r9 =>
 pickC r9
 ((sIn s4.k0.xs.length s4.k2).bind fun j10 =>
 (s4.k0.xs[j10]?).bind fun e11 =>
 if (elemOk false 1 e11) = true then
 if (oneS e7) = true then
 (sBin .add s4.k2 (.int .i64 1)).bind fun r12 =>
 (sBin .add s4.k3 (.int .i64 1)).bind fun r13 =>
 next4 ⟨[(.sl 1 true false (s4.k0.xs.set j10 e7)), s4.k1, r12, r13], [], false⟩
 else none
 else none)
 ((sBin .add s4.k3 (.int .i64 1)).bind fun r14 =>
 next4 ⟨[(.sl 1 true false s4.k0.xs), s4.k1, s4.k2, r14], [], false⟩)
 else none)
 ((sBnd s4.k0.xs.length s4.k2).bind fun n15 =>
 if n15 ≤ s4.k0.xs.length then
 (sBnd (s4.k0.xs.take n15 ++ List.replicate (s4.k0.xs.length - n15) (int 0)).length s4.k2).bind fun n16 =>
 some { r := (.sl 1 true false ((s4.k0.xs.take n15 ++ List.replicate (s4.k0.xs.length - n15) (int 0)).take n16)) }
 else none)) k ⟨[(.sl 1 true false x0), x1, r1.r, r3], [], false⟩)
 else none
theorem r160 (T : TT) (k : Nat) (x0 : List SVal) (x1 : SVal) : bodyE P H T k 160 [(.sl 1 true false x0), x1] = R160 T k x0 x1 := by kernel_rfl
noncomputable def D160 (T : TT) (k : Nat) : List SVal → Option Res
  | [(.sl 1 true false x0), x1] => R160 T k x0 x1
  | a => bodyE P H T k 160 a
theorem d160 (T : TT) (k : Nat) (a : List SVal) : D160 T k a = bodyE P H T k 160 a := by
  unfold D160
  split
  · exact (r160 ..).symm
  · rfl
theorem t160 (k : Nat) (x0 : List SVal) (x1 : SVal) : T (k + 1) 160 [(.sl 1 true false x0), x1] = R160 (T k) k x0 x1 := (tb k 160 _ rfl).trans (r160 ..)
/-- limelight/slots.Assigned$1 -/
def R161 (T : TT) (k : Nat) (x0 x1 x2 : SVal) : Option Res :=
 (T 162 [(weak x1), x0]).bind fun r1 =>
 (sBin .neq r1.r x2).bind fun r2 =>
 some { r := r2 }
theorem r161 (T : TT) (k : Nat) (x0 x1 x2 : SVal) : bodyE P H T k 161 [x0, (.rp [x1]), (.rp [x2])] = R161 T k x0 x1 x2 := by kernel_rfl
noncomputable def D161 (T : TT) (k : Nat) : List SVal → Option Res
  | [x0, (.rp [x1]), (.rp [x2])] => R161 T k x0 x1 x2
  | a => bodyE P H T k 161 a
theorem d161 (T : TT) (k : Nat) (a : List SVal) : D161 T k a = bodyE P H T k 161 a := by
  unfold D161
  split
  · exact (r161 ..).symm
  · rfl
theorem t161 (k : Nat) (x0 x1 x2 : SVal) : T (k + 1) 161 [x0, (.rp [x1]), (.rp [x2])] = R161 (T k) k x0 x1 x2 := (tb k 161 _ rfl).trans (r161 ..)
/-- limelight/slots.Of -/
def R162 (T : TT) (k : Nat) (x0 x1 : SVal) : Option Res :=
 if (oneS x0) = true then
 (T 190 [(weak x0), x1]).bind fun r1 =>
 (sBin .eql r1.r (.int .i64 (-1))).bind fun r2 =>
 pickC r2
 (some { r := (.int .i64 (-1)) })
 ((T 55 [(weak x0), x1, (.int .i64 9)]).bind fun r3 =>
 if (oneS r3.r.c0) = true then
 if (oneS r3.r.c1) = true then
 (T 181 [(weak x0), r1.r, (.int .i64 8)]).bind fun r4 =>
 if (oneS r4.r) = true then
 (T 191 [(weak x0), x1]).bind fun r5 =>
 if (oneS r5.r) = true then
 (T 192 [(weak x0), r1.r]).bind fun r6 =>
 (callIt T r6.r).bind fun ys7 =>
 rangeN (fun s8 y8 next8 =>
 (notTup y8).bind fun z9 =>
 (guardX (SVal.cell s8.k4 0) true
 (guardX (SVal.cell s8.k3 0) true
 ((sBin .eql z9 (SVal.cell s8.k2 0)).bind fun r10 =>
 guardX r10 false
 ((sNot (SVal.cell s8.k4 0)).bind fun r11 =>
 guardX r11 true
 ((T 191 [(weak (SVal.cell s8.k0 0)), z9]).bind fun r12 =>
 (sBin .eql r12.r (SVal.cell s8.k5 0)).bind fun r13 =>
 (asB r13).bind fun b14 =>
 some [b14])
 (some [false])
 (none))
 (some [true])
 (none))
 ((sNot (SVal.cell s8.k4 0)).bind fun r15 =>
 guardX r15 true
 ((T 191 [(weak (SVal.cell s8.k0 0)), z9]).bind fun r16 =>
 (sBin .eql r16.r (SVal.cell s8.k5 0)).bind fun r17 =>
 (asB r17).bind fun b18 =>
 some [b18])
 (some [false])
 (none))
 (none))
 ((sNot (SVal.cell s8.k4 0)).bind fun r19 =>
 guardX r19 true
 ((T 191 [(weak (SVal.cell s8.k0 0)), z9]).bind fun r20 =>
 (sBin .eql r20.r (SVal.cell s8.k5 0)).bind fun r21 =>
 (asB r21).bind fun b22 =>
 some [b22])
 (some [false])
 (none))
 (none)).bind fun vs23 =>
 pickC (.bool (vs23.getD 0 false))
 (if (oneS z9) = true then
 some { r := z9 }
 else none)
 (next8 ⟨[(.rp [(SVal.cell s8.k0 0)]), (.mb [s8.k1.c0]), (.rp [(SVal.cell s8.k2 0)]), (.rp [(SVal.cell s8.k3 0)]), (.rp [(SVal.cell s8.k4 0)]), (.rp [(SVal.cell s8.k5 0)])], [], false⟩)) (fun s24 =>
 some { r := (.int .i64 (-1)) }) ys7 ⟨[(.rp [x0]), (.mb [(.int .i64 0)]), (.rp [r3.r.c0]), (.rp [r3.r.c1]), (.rp [r4.r]), (.rp [r5.r])], [], false⟩
 else none
 else none
 else none
 else none)
 else none
theorem r162 (T : TT) (k : Nat) (x0 x1 : SVal) : bodyE P H T k 162 [x0, x1] = R162 T k x0 x1 := by kernel_rfl
noncomputable def D162 (T : TT) (k : Nat) : List SVal → Option Res
  | [x0, x1] => R162 T k x0 x1
  | a => bodyE P H T k 162 a
theorem d162 (T : TT) (k : Nat) (a : List SVal) : D162 T k a = bodyE P H T k 162 a := by
  unfold D162
  split
  · exact (r162 ..).symm
  · rfl
theorem t162 (k : Nat) (x0 x1 : SVal) : T (k + 1) 162 [x0, x1] = R162 (T k) k x0 x1 := (tb k 162 _ rfl).trans (r162 ..)
/-- (limelight/area.node).tag -/
def R163 (T : TT) (k : Nat) (x0a x0b x0c x0d x0e x0f x1 : SVal) : Option Res :=
 (sIdx true 7 x0a x0f).bind fun e1 =>
 if (allOne [.v (SVal.cell e1 0), .v (SVal.cell e1 1), .v (SVal.cell e1 2), .v (SVal.cell e1 3), .v (SVal.cell e1 4), .v (SVal.cell e1 5), .v (SVal.cell e1 6)]) = true then
 ((sBin .eql (SVal.cell e1 0) (.int .i64 1)).bind fun r2 =>
 guardX r2 true
 ((sBin .eql (SVal.cell e1 1) x1).bind fun r3 =>
 (asB r3).bind fun b4 =>
 some [b4])
 (some [false])
 (none)).bind fun vs5 =>
 some { r := (.bool (vs5.getD 0 false)) }
 else none
theorem r163 (T : TT) (k : Nat) (x0a x0b x0c x0d x0e x0f x1 : SVal) : bodyE P H T k 163 [(.agg [x0a, x0b, x0c, x0d, x0e, x0f]), x1] = R163 T k x0a x0b x0c x0d x0e x0f x1 := by kernel_rfl
noncomputable def D163 (T : TT) (k : Nat) : List SVal → Option Res
  | [(.agg [x0a, x0b, x0c, x0d, x0e, x0f]), x1] => R163 T k x0a x0b x0c x0d x0e x0f x1
  | a => bodyE P H T k 163 a
theorem d163 (T : TT) (k : Nat) (a : List SVal) : D163 T k a = bodyE P H T k 163 a := by
  unfold D163
  split
  · exact (r163 ..).symm
  · rfl
theorem t163 (k : Nat) (x0a x0b x0c x0d x0e x0f x1 : SVal) : T (k + 1) 163 [(.agg [x0a, x0b, x0c, x0d, x0e, x0f]), x1] = R163 (T k) k x0a x0b x0c x0d x0e x0f x1 := (tb k 163 _ rfl).trans (r163 ..)
/-- slices.ContainsFunc[[]func() bool,func() bool] -/
def R164 (T : TT) (k : Nat) (x0 x1 : SVal) : Option Res :=
 (T 193 [(weak x0), x1]).bind fun r1 =>
 (sBin .geq r1.r (.int .i64 0)).bind fun r2 =>
 some { r := r2 }
theorem r164 (T : TT) (k : Nat) (x0 x1 : SVal) : bodyE P H T k 164 [x0, x1] = R164 T k x0 x1 := by kernel_rfl
noncomputable def D164 (T : TT) (k : Nat) : List SVal → Option Res
  | [x0, x1] => R164 T k x0 x1
  | a => bodyE P H T k 164 a
theorem d164 (T : TT) (k : Nat) (a : List SVal) : D164 T k a = bodyE P H T k 164 a := by
  unfold D164
  split
  · exact (r164 ..).symm
  · rfl
theorem t164 (k : Nat) (x0 x1 : SVal) : T (k + 1) 164 [x0, x1] = R164 (T k) k x0 x1 := (tb k 164 _ rfl).trans (r164 ..)
/-- (limelight/area.node).plain -/
def R165 (T : TT) (k : Nat) (x0a x0b x0c x0d x0e x0f : SVal) : Option Res :=
 (T 123 [(.agg [(weak x0a), (weak x0b), (weak x0c), (weak x0d), (weak x0e), x0f])]).bind fun r1 =>
 (sNot r1.r.c1).bind fun r2 =>
 some { r := r2 }
theorem r165 (T : TT) (k : Nat) (x0a x0b x0c x0d x0e x0f : SVal) : bodyE P H T k 165 [(.agg [x0a, x0b, x0c, x0d, x0e, x0f])] = R165 T k x0a x0b x0c x0d x0e x0f := by kernel_rfl
noncomputable def D165 (T : TT) (k : Nat) : List SVal → Option Res
  | [(.agg [x0a, x0b, x0c, x0d, x0e, x0f])] => R165 T k x0a x0b x0c x0d x0e x0f
  | a => bodyE P H T k 165 a
theorem d165 (T : TT) (k : Nat) (a : List SVal) : D165 T k a = bodyE P H T k 165 a := by
  unfold D165
  split
  · exact (r165 ..).symm
  · rfl
theorem t165 (k : Nat) (x0a x0b x0c x0d x0e x0f : SVal) : T (k + 1) 165 [(.agg [x0a, x0b, x0c, x0d, x0e, x0f])] = R165 (T k) k x0a x0b x0c x0d x0e x0f := (tb k 165 _ rfl).trans (r165 ..)
/-- (limelight/area.node).disabled -/
def R166 (T : TT) (k : Nat) (x0a x0b x0c x0d x0e x0f : SVal) : Option Res :=
 ((T 163 [(.agg [(weak x0a), (weak x0b), (weak x0c), (weak x0d), (weak x0e), x0f]), (.int .i64 1)]).bind fun r1 =>
 guardX r1.r true
 ((T 181 [(weak x0a), x0f, (.int .i64 1)]).bind fun r2 =>
 (asB r2.r).bind fun b3 =>
 some [b3])
 (some [false])
 (none)).bind fun vs4 =>
 some { r := (.bool (vs4.getD 0 false)) }
theorem r166 (T : TT) (k : Nat) (x0a x0b x0c x0d x0e x0f : SVal) : bodyE P H T k 166 [(.agg [x0a, x0b, x0c, x0d, x0e, x0f])] = R166 T k x0a x0b x0c x0d x0e x0f := by kernel_rfl
noncomputable def D166 (T : TT) (k : Nat) : List SVal → Option Res
  | [(.agg [x0a, x0b, x0c, x0d, x0e, x0f])] => R166 T k x0a x0b x0c x0d x0e x0f
  | a => bodyE P H T k 166 a
theorem d166 (T : TT) (k : Nat) (a : List SVal) : D166 T k a = bodyE P H T k 166 a := by
  unfold D166
  split
  · exact (r166 ..).symm
  · rfl
theorem t166 (k : Nat) (x0a x0b x0c x0d x0e x0f : SVal) : T (k + 1) 166 [(.agg [x0a, x0b, x0c, x0d, x0e, x0f])] = R166 (T k) k x0a x0b x0c x0d x0e x0f := (tb k 166 _ rfl).trans (r166 ..)
/-- (limelight/area.node).delegates -/
def R167 (T : TT) (k : Nat) (x0a x0b x0c x0d x0e x0f : SVal) : Option Res :=
 (sIdx true 7 x0a x0f).bind fun e1 =>
 ((sBin .neq (SVal.cell e1 5) (.int .i64 (-1))).bind fun r2 =>
 guardX r2 true
 ((T 181 [(weak x0a), (SVal.cell e1 5), (.int .i64 7)]).bind fun r3 =>
 (asB r3.r).bind fun b4 =>
 some [b4])
 (some [false])
 (none)).bind fun vs5 =>
 some { r := (.bool (vs5.getD 0 false)) }
theorem r167 (T : TT) (k : Nat) (x0a x0b x0c x0d x0e x0f : SVal) : bodyE P H T k 167 [(.agg [x0a, x0b, x0c, x0d, x0e, x0f])] = R167 T k x0a x0b x0c x0d x0e x0f := by kernel_rfl
noncomputable def D167 (T : TT) (k : Nat) : List SVal → Option Res
  | [(.agg [x0a, x0b, x0c, x0d, x0e, x0f])] => R167 T k x0a x0b x0c x0d x0e x0f
  | a => bodyE P H T k 167 a
theorem d167 (T : TT) (k : Nat) (a : List SVal) : D167 T k a = bodyE P H T k 167 a := by
  unfold D167
  split
  · exact (r167 ..).symm
  · rfl
theorem t167 (k : Nat) (x0a x0b x0c x0d x0e x0f : SVal) : T (k + 1) 167 [(.agg [x0a, x0b, x0c, x0d, x0e, x0f])] = R167 (T k) k x0a x0b x0c x0d x0e x0f := (tb k 167 _ rfl).trans (r167 ..)
/-- (limelight/area.node).unseen -/
def R168 (T : TT) (k : Nat) (x0a x0b x0c x0d x0e x0f : SVal) : Option Res :=
 (T 194 [(.agg [(weak x0a), (weak x0b), (weak x0c), (weak x0d), (weak x0e)]), x0f]).bind fun r1 =>
 (sNot r1.r).bind fun r2 =>
 some { r := r2 }
theorem r168 (T : TT) (k : Nat) (x0a x0b x0c x0d x0e x0f : SVal) : bodyE P H T k 168 [(.agg [x0a, x0b, x0c, x0d, x0e, x0f])] = R168 T k x0a x0b x0c x0d x0e x0f := by kernel_rfl
noncomputable def D168 (T : TT) (k : Nat) : List SVal → Option Res
  | [(.agg [x0a, x0b, x0c, x0d, x0e, x0f])] => R168 T k x0a x0b x0c x0d x0e x0f
  | a => bodyE P H T k 168 a
theorem d168 (T : TT) (k : Nat) (a : List SVal) : D168 T k a = bodyE P H T k 168 a := by
  unfold D168
  split
  · exact (r168 ..).symm
  · rfl
theorem t168 (k : Nat) (x0a x0b x0c x0d x0e x0f : SVal) : T (k + 1) 168 [(.agg [x0a, x0b, x0c, x0d, x0e, x0f])] = R168 (T k) k x0a x0b x0c x0d x0e x0f := (tb k 168 _ rfl).trans (r168 ..)
/-- (limelight/area.node).inert -/
def R169 (T : TT) (k : Nat) (x0a x0b x0c x0d x0e x0f : SVal) : Option Res :=
 (T 195 [(.agg [(weak x0a), (weak x0b), (weak x0c), (weak x0d), (weak x0e)]), x0f]).bind fun r1 =>
 some { r := r1.r }
theorem r169 (T : TT) (k : Nat) (x0a x0b x0c x0d x0e x0f : SVal) : bodyE P H T k 169 [(.agg [x0a, x0b, x0c, x0d, x0e, x0f])] = R169 T k x0a x0b x0c x0d x0e x0f := by kernel_rfl
noncomputable def D169 (T : TT) (k : Nat) : List SVal → Option Res
  | [(.agg [x0a, x0b, x0c, x0d, x0e, x0f])] => R169 T k x0a x0b x0c x0d x0e x0f
  | a => bodyE P H T k 169 a
theorem d169 (T : TT) (k : Nat) (a : List SVal) : D169 T k a = bodyE P H T k 169 a := by
  unfold D169
  split
  · exact (r169 ..).symm
  · rfl
theorem t169 (k : Nat) (x0a x0b x0c x0d x0e x0f : SVal) : T (k + 1) 169 [(.agg [x0a, x0b, x0c, x0d, x0e, x0f])] = R169 (T k) k x0a x0b x0c x0d x0e x0f := (tb k 169 _ rfl).trans (r169 ..)
/-- (limelight/area.node).is$1 -/
def R170 (T : TT) (k : Nat) (x0 : SVal) : Option Res :=
 (callV H T x0 []).bind fun y1 =>
 some { r := y1 }
theorem r170 (T : TT) (k : Nat) (x0 : SVal) : bodyE P H T k 170 [x0] = R170 T k x0 := by kernel_rfl
noncomputable def D170 (T : TT) (k : Nat) : List SVal → Option Res
  | [x0] => R170 T k x0
  | a => bodyE P H T k 170 a
theorem d170 (T : TT) (k : Nat) (a : List SVal) : D170 T k a = bodyE P H T k 170 a := by
  unfold D170
  split
  · exact (r170 ..).symm
  · rfl
theorem t170 (k : Nat) (x0 : SVal) : T (k + 1) 170 [x0] = R170 (T k) k x0 := (tb k 170 _ rfl).trans (r170 ..)
/-- slices.rotateCmpFunc[int] -/
def R171 (T : TT) (k : Nat) (x0 : List SVal) (x1 x2 x3 x4 : SVal) : Option Res :=
 (sBin .sub x2 x1).bind fun r1 =>
 (sBin .sub x3 x2).bind fun r2 =>
 loopN (fun s3 next3 =>
 (sBin .neq s3.k3 s3.k4).bind fun r4 =>
 pickC r4
 ((sBin .gtr s3.k3 s3.k4).bind fun r5 =>
 pickC r5
 ((sBin .sub s3.k1 s3.k3).bind fun r6 =>
 (T 196 [(.sl 1 true false s3.k0.xs), r6, s3.k1, s3.k4, s3.k2]).bind fun r7 =>
 (sBin .sub s3.k3 s3.k4).bind fun r8 =>
 next3 ⟨[(.sl 1 true false ((r7.outs.headD .undef).xs)), s3.k1, s3.k2, r8, s3.k4], [], false⟩)
 ((sBin .sub s3.k1 s3.k3).bind fun r9 =>
 (sBin .add s3.k1 s3.k4).bind fun r10 =>
 (sBin .sub r10 s3.k3).bind fun r11 =>
 (T 196 [(.sl 1 true false s3.k0.xs), r9, r11, s3.k3, s3.k2]).bind fun r12 =>
 (sBin .sub s3.k4 s3.k3).bind fun r13 =>
 next3 ⟨[(.sl 1 true false ((r12.outs.headD .undef).xs)), s3.k1, s3.k2, s3.k3, r13], [], false⟩))
 ((sBin .sub s3.k1 s3.k3).bind fun r14 =>
 (T 196 [(.sl 1 true false s3.k0.xs), r14, s3.k1, s3.k3, s3.k2]).bind fun r15 =>
 some { r := (.tup []), outs := [(.sl 1 true false ((r15.outs.headD .undef).xs))] })) k ⟨[(.sl 1 true false x0), x2, x4, r1, r2], [], false⟩
theorem r171 (T : TT) (k : Nat) (x0 : List SVal) (x1 x2 x3 x4 : SVal) : bodyE P H T k 171 [(.sl 1 true false x0), x1, x2, x3, x4] = R171 T k x0 x1 x2 x3 x4 := by kernel_rfl
noncomputable def D171 (T : TT) (k : Nat) : List SVal → Option Res
  | [(.sl 1 true false x0), x1, x2, x3, x4] => R171 T k x0 x1 x2 x3 x4
  | a => bodyE P H T k 171 a
theorem d171 (T : TT) (k : Nat) (a : List SVal) : D171 T k a = bodyE P H T k 171 a := by
  unfold D171
  split
  · exact (r171 ..).symm
  · rfl
theorem t171 (k : Nat) (x0 : List SVal) (x1 x2 x3 x4 : SVal) : T (k + 1) 171 [(.sl 1 true false x0), x1, x2, x3, x4] = R171 (T k) k x0 x1 x2 x3 x4 := (tb k 171 _ rfl).trans (r171 ..)
/-- limelight/limelightref01.value -/
def R172 (T : TT) (k : Nat) (x0 x1 : SVal) : Option Res :=
 (sBin .eql x0 (.int .i64 0)).bind fun r1 =>
 pickC r1
 (((sBin .geq x1 (.int .i64 (-2147483648))).bind fun r2 =>
 guardX r2 true
 ((sBin .lss x1 (.int .i64 2147483648)).bind fun r3 =>
 (asB r3).bind fun b4 =>
 some [b4])
 (some [false])
 (none)).bind fun vs5 =>
 some { r := (.bool (vs5.getD 0 false)) })
 ((sBin .eql x0 (.int .i64 4)).bind fun r6 =>
 pickC r6
 (((sBin .geq x1 (.int .i64 0)).bind fun r7 =>
 guardX r7 true
 ((sBin .lss x1 (.int .i64 2147483648)).bind fun r8 =>
 (asB r8).bind fun b9 =>
 some [b9])
 (some [false])
 (none)).bind fun vs10 =>
 some { r := (.bool (vs10.getD 0 false)) })
 ((sBin .eql x0 (.int .i64 6)).bind fun r11 =>
 pickC r11
 (((sBin .geq x1 (.int .i64 1)).bind fun r12 =>
 guardX r12 true
 ((sBin .leq x1 (.int .i64 3)).bind fun r13 =>
 (asB r13).bind fun b14 =>
 some [b14])
 (some [false])
 (none)).bind fun vs15 =>
 some { r := (.bool (vs15.getD 0 false)) })
 ((sBin .eql x0 (.int .i64 9)).bind fun r16 =>
 pickC r16
 (((sBin .geq x1 (.int .i64 0)).bind fun r17 =>
 guardX r17 true
 ((sBin .leq x1 (.int .i64 63)).bind fun r18 =>
 (asB r18).bind fun b19 =>
 some [b19])
 (some [false])
 (none)).bind fun vs20 =>
 some { r := (.bool (vs20.getD 0 false)) })
 ((sBin .eql x1 (.int .i64 0)).bind fun r21 =>
 some { r := r21 }))))
theorem r172 (T : TT) (k : Nat) (x0 x1 : SVal) : bodyE P H T k 172 [x0, x1] = R172 T k x0 x1 := by kernel_rfl
theorem t172 (k : Nat) (x0 x1 : SVal) : T (k + 1) 172 [x0, x1] = R172 (T k) k x0 x1 := (tb k 172 _ rfl).trans (r172 ..)
/-- limelight/limelightref04.Above -/
def R173 (T : TT) (k : Nat) (x0 x1 x2 : SVal) : Option Res :=
 (T 197 [(weak x0), x2]).bind fun r1 =>
 (T 27 [(weak r1.r), x1]).bind fun r2 =>
 if isSc1 r2.r = true then
 some { r := r2.r }
 else none
theorem r173 (T : TT) (k : Nat) (x0 x1 x2 : SVal) : bodyE P H T k 173 [x0, x1, x2] = R173 T k x0 x1 x2 := by kernel_rfl
theorem t173 (k : Nat) (x0 x1 x2 : SVal) : T (k + 1) 173 [x0, x1, x2] = R173 (T k) k x0 x1 x2 := (tb k 173 _ rfl).trans (r173 ..)
/-- limelight/flat.over -/
def R174 (T : TT) (k : Nat) (x0 x1 : SVal) : Option Res :=
 (sIdx true 7 x0 x1).bind fun e1 =>
 (sBin .eql (SVal.cell e1 2) (.int .i64 (-1))).bind fun r2 =>
 pickC r2
 (some { r := (.int .i64 (-1)) })
 ((sIdx true 7 x0 (SVal.cell e1 2)).bind fun e3 =>
 (sBin .eql (SVal.cell e3 0) (.int .i64 3)).bind fun r4 =>
 pickC r4
 ((T 117 [(weak x0), x1]).bind fun r5 =>
 some { r := r5.r })
 ((sIdx true 7 x0 (SVal.cell e1 2)).bind fun e6 =>
 (sBin .neq (SVal.cell e6 5) (.int .i64 (-1))).bind fun r7 =>
 pickC r7
 ((T 162 [(weak x0), x1]).bind fun r8 =>
 some { r := r8.r })
 (some { r := (SVal.cell e1 2) })))
theorem r174 (T : TT) (k : Nat) (x0 x1 : SVal) : bodyE P H T k 174 [x0, x1] = R174 T k x0 x1 := by kernel_rfl
noncomputable def D174 (T : TT) (k : Nat) : List SVal → Option Res
  | [x0, x1] => R174 T k x0 x1
  | a => bodyE P H T k 174 a
theorem d174 (T : TT) (k : Nat) (a : List SVal) : D174 T k a = bodyE P H T k 174 a := by
  unfold D174
  split
  · exact (r174 ..).symm
  · rfl
theorem t174 (k : Nat) (x0 x1 : SVal) : T (k + 1) 174 [x0, x1] = R174 (T k) k x0 x1 := (tb k 174 _ rfl).trans (r174 ..)
/-- limelight/limelightref05.Of -/
def R175 (T : TT) (k : Nat) (x0 x1 : SVal) : Option Res :=
 (sIdx true 7 x0 x1).bind fun e1 =>
 (sBin .eql (SVal.cell e1 2) (.int .i64 (-1))).bind fun r2 =>
 pickC r2
 (some { r := (.int .i64 (-1)) })
 ((sIdx true 7 x0 (SVal.cell e1 2)).bind fun e3 =>
 (sBin .eql (SVal.cell e3 5) (.int .i64 (-1))).bind fun r4 =>
 pickC r4
 (some { r := (.int .i64 (-1)) })
 ((T 198 [(weak x0), (SVal.cell e3 5)]).bind fun r5 =>
 (T 131 [(weak x0), (SVal.cell e3 5), (.int .i64 8)]).bind fun r6 =>
 pickC r6.r
 ((T 60 [(weak x0), x1, (.int .i64 9)]).bind fun r7 =>
 (guardX r7.r.c1 true
 ((T 27 [(weak r5.r), r7.r.c0]).bind fun r8 =>
 if isSc1 r8.r = true then
 (asB r8.r).bind fun b9 =>
 some [b9]
 else none)
 (some [false])
 (none)).bind fun vs10 =>
 pickC (.bool (vs10.getD 0 false))
 (some { r := r7.r.c0 })
 (some { r := (.int .i64 (-1)) }))
 (loopN (fun s11 next11 =>
 (sLen s11.k2).bind fun r12 =>
 (sBin .lss s11.k3 r12).bind fun r13 =>
 pickC r13
 ((sIdx false 1 s11.k2 s11.k3).bind fun e14 =>
 (T 199 [(weak s11.k0), e14]).bind fun r15 =>
 (T 199 [(weak s11.k0), s11.k1]).bind fun r16 =>
 (sBin .eql r15.r r16.r).bind fun r17 =>
 pickC r17
 ((sIdx false 1 s11.k2 s11.k3).bind fun e18 =>
 some { r := e18 })
 ((sBin .add s11.k3 (.int .i64 1)).bind fun r19 =>
 next11 ⟨[(weak s11.k0), s11.k1, (weak s11.k2), r19], [], false⟩))
 (some { r := (.int .i64 (-1)) })) k ⟨[(weak x0), x1, (weak r5.r), (.int .i64 0)], [], false⟩)))
theorem r175 (T : TT) (k : Nat) (x0 x1 : SVal) : bodyE P H T k 175 [x0, x1] = R175 T k x0 x1 := by kernel_rfl
theorem t175 (k : Nat) (x0 x1 : SVal) : T (k + 1) 175 [x0, x1] = R175 (T k) k x0 x1 := (tb k 175 _ rfl).trans (r175 ..)
/-- limelight/tree.in -/
def R176 (T : TT) (k : Nat) (x0 x1 x2 : SVal) : Option Res :=
 ((sBin .geq x0 x1).bind fun r1 =>
 guardX r1 true
 ((sBin .leq x0 x2).bind fun r2 =>
 (asB r2).bind fun b3 =>
 some [b3])
 (some [false])
 (none)).bind fun vs4 =>
 some { r := (.bool (vs4.getD 0 false)) }
theorem r176 (T : TT) (k : Nat) (x0 x1 x2 : SVal) : bodyE P H T k 176 [x0, x1, x2] = R176 T k x0 x1 x2 := by kernel_rfl
noncomputable def D176 (T : TT) (k : Nat) : List SVal → Option Res
  | [x0, x1, x2] => R176 T k x0 x1 x2
  | a => bodyE P H T k 176 a
theorem d176 (T : TT) (k : Nat) (a : List SVal) : D176 T k a = bodyE P H T k 176 a := by
  unfold D176
  split
  · exact (r176 ..).symm
  · rfl
theorem t176 (k : Nat) (x0 x1 x2 : SVal) : T (k + 1) 176 [x0, x1, x2] = R176 (T k) k x0 x1 x2 := (tb k 176 _ rfl).trans (r176 ..)
/-- limelight/tree.node -/
def R177 (T : TT) (k : Nat) (x0 x1 : SVal) : Option Res :=
 if (oneS x0) = true then
 if (oneS x1) = true then
 (sIdx true 7 x0 x1).bind fun e1 =>
 if (allOne [.v (SVal.cell e1 0), .v (SVal.cell e1 1), .v (SVal.cell e1 2), .v (SVal.cell e1 3), .v (SVal.cell e1 4), .v (SVal.cell e1 5), .v (SVal.cell e1 6)]) = true then
 ((T 176 [(SVal.cell e1 0), (.int .i64 0), (.int .i64 3)]).bind fun r2 =>
 (sNot r2.r).bind fun r3 =>
 guardX r3 false
 ((sBin .eql (SVal.cell e1 0) (.int .i64 0)).bind fun r4 =>
 (sBin .eql x1 (.int .i64 0)).bind fun r5 =>
 (sBinB .neq r4 r5).bind fun r6 =>
 (asB r6).bind fun b7 =>
 some [b7])
 (some [true])
 (none)).bind fun vs8 =>
 pickC (.bool (vs8.getD 0 false))
 (some { r := (.bool false) })
 (((sBin .eql (SVal.cell e1 0) (.int .i64 1)).bind fun r9 =>
 guardX r9 true
 ((T 176 [(SVal.cell e1 1), (.int .i64 0), (.int .i64 4)]).bind fun r10 =>
 (sNot r10.r).bind fun r11 =>
 guardX r11 false
 ((sBin .neq (SVal.cell e1 0) (.int .i64 1)).bind fun r12 =>
 guardX r12 true
 ((sBin .neq (SVal.cell e1 1) (.int .i64 0)).bind fun r13 =>
 (asB r13).bind fun b14 =>
 some [b14])
 (some [false])
 (none))
 (some [true])
 (none))
 ((sBin .neq (SVal.cell e1 0) (.int .i64 1)).bind fun r15 =>
 guardX r15 true
 ((sBin .neq (SVal.cell e1 1) (.int .i64 0)).bind fun r16 =>
 (asB r16).bind fun b17 =>
 some [b17])
 (some [false])
 (none))
 (none)).bind fun vs18 =>
 pickC (.bool (vs18.getD 0 false))
 (some { r := (.bool false) })
 (((sBin .eql (SVal.cell e1 0) (.int .i64 2)).bind fun r19 =>
 guardX r19 true
 ((sLen (SVal.cell e1 3)).bind fun r20 =>
 (sBin .gtr r20 (.int .i64 0)).bind fun r21 =>
 (asB r21).bind fun b22 =>
 some [b22])
 (some [false])
 (none)).bind fun vs23 =>
 pickC (.bool (vs23.getD 0 false))
 (some { r := (.bool false) })
 (((sBin .neq (SVal.cell e1 2) (.int .i64 (-1))).bind fun r24 =>
 guardX r24 true
 ((T 200 [(weak x0), (SVal.cell e1 2)]).bind fun r25 =>
 (sNot r25.r).bind fun r26 =>
 guardX r26 false
 ((sIdx true 7 x0 (SVal.cell e1 2)).bind fun e27 =>
 (T 201 [(weak (SVal.cell e27 3)), x1]).bind fun r28 =>
 (sNot r28.r).bind fun r29 =>
 (asB r29).bind fun b30 =>
 some [b30])
 (some [true])
 (none))
 (some [false])
 (none)).bind fun vs31 =>
 pickC (.bool (vs31.getD 0 false))
 (some { r := (.bool false) })
 (((T 202 [(.agg [(SVal.cell e1 0), (SVal.cell e1 1), (SVal.cell e1 2), (weak (SVal.cell e1 3)), (SVal.cell e1 4), (SVal.cell e1 5), (weak (SVal.cell e1 6))])]).bind fun r32 =>
 guardX r32.r true
 ((T 203 [(weak x0), x1]).bind fun r33 =>
 guardX r33.r true
 ((T 187 [(weak (SVal.cell e1 3)), (.fn 204 [(.rp [x0]), (.rp [x1])])]).bind fun r34 =>
 (sNot r34.r).bind fun r35 =>
 (asB r35).bind fun b36 =>
 some [b36])
 (some [false])
 (none))
 (some [false])
 (none)).bind fun vs37 =>
 some { r := (.bool (vs37.getD 0 false)) }))))
 else none
 else none
 else none
theorem r177 (T : TT) (k : Nat) (x0 x1 : SVal) : bodyE P H T k 177 [x0, x1] = R177 T k x0 x1 := by kernel_rfl
noncomputable def D177 (T : TT) (k : Nat) : List SVal → Option Res
  | [x0, x1] => R177 T k x0 x1
  | a => bodyE P H T k 177 a
theorem d177 (T : TT) (k : Nat) (a : List SVal) : D177 T k a = bodyE P H T k 177 a := by
  unfold D177
  split
  · exact (r177 ..).symm
  · rfl
theorem t177 (k : Nat) (x0 x1 : SVal) : T (k + 1) 177 [x0, x1] = R177 (T k) k x0 x1 := (tb k 177 _ rfl).trans (r177 ..)
/-- limelight/tree.turns -/
def R178 (T : TT) (k : Nat) (x0 x1 : SVal) : Option Res :=
 (T 206 [(weak x0), x1]).bind fun r1 =>
 (callIt T r1.r).bind fun ys2 =>
 rangeN (fun s3 y3 next3 =>
 (notTup y3).bind fun z4 =>
 (sBin .add s3.k1.c0 (.int .i64 1)).bind fun r5 =>
 if (oneS r5) = true then
 next3 ⟨[(weak s3.k0), (.mb [r5])], [], false⟩
 else none) (fun s6 =>
 (sLen s6.k0).bind fun r7 =>
 (sBin .gtr s6.k1.c0 r7).bind fun r8 =>
 some { r := r8 }) ys2 ⟨[(weak x0), (.mb [(.int .i64 0)])], [], false⟩
theorem r178 (T : TT) (k : Nat) (x0 x1 : SVal) : bodyE P H T k 178 [x0, x1] = R178 T k x0 x1 := by kernel_rfl
noncomputable def D178 (T : TT) (k : Nat) : List SVal → Option Res
  | [x0, x1] => R178 T k x0 x1
  | a => bodyE P H T k 178 a
theorem d178 (T : TT) (k : Nat) (a : List SVal) : D178 T k a = bodyE P H T k 178 a := by
  unfold D178
  split
  · exact (r178 ..).symm
  · rfl
theorem t178 (k : Nat) (x0 x1 : SVal) : T (k + 1) 178 [x0, x1] = R178 (T k) k x0 x1 := (tb k 178 _ rfl).trans (r178 ..)
/-- slices.Grow[[]int,int] -/
noncomputable def R179 (T : TT) (k : Nat) (x1 : SVal) : Option Res :=
 (sBin .lss x1 (.int .i64 0)).bind fun r1 =>
 pickC r1
 (none)
 ((sBin .sub (.int .i64 0) (.int .i64 0)).bind fun r2 =>
 (sBin .sub x1 r2).bind fun r3 =>
 (sBin .gtr r3 (.int .i64 0)).bind fun r4 =>
 pickC r4
 ((sSlice 1 (.sl 1 false true []) none (some (.int .i64 0))).bind fun r5 =>
 (elemsM P 24 3 (.v r5) r3).bind fun ys6 =>
 if isNilS r5 = true then
 if ys6.length * 8 ≤ maxAppend then
 (sBnd ys6.length (.int .i64 0)).bind fun n7 =>
 some { r := (.sl 1 true false (ys6.take n7)) }
 else none
 else none)
 (some { r := (.sl 1 true false []) }))
theorem r179 (T : TT) (k : Nat) (x1 : SVal) : bodyE P H T k 179 [(.sl 1 false true []), x1] = R179 T k x1 := by kernel_rfl
noncomputable def D179 (T : TT) (k : Nat) : List SVal → Option Res
  | [(.sl 1 false true []), x1] => R179 T k x1
  | a => bodyE P H T k 179 a
theorem d179 (T : TT) (k : Nat) (a : List SVal) : D179 T k a = bodyE P H T k 179 a := by
  unfold D179
  split
  · exact (r179 ..).symm
  · rfl
theorem t179 (k : Nat) (x1 : SVal) : T (k + 1) 179 [(.sl 1 false true []), x1] = R179 (T k) k x1 := (tb k 179 _ rfl).trans (r179 ..)
/-- limelight/top.element -/
def R180 (T : TT) (k : Nat) (x0 x1 : SVal) : Option Res :=
 ((T 207 [(weak x0), x1]).bind fun r1 =>
 guardX r1.r true
 ((sIdx true 7 x0 x1).bind fun e2 =>
 (sBin .eql (SVal.cell e2 0) (.int .i64 1)).bind fun r3 =>
 (asB r3).bind fun b4 =>
 some [b4])
 (some [false])
 (none)).bind fun vs5 =>
 some { r := (.bool (vs5.getD 0 false)) }
theorem r180 (T : TT) (k : Nat) (x0 x1 : SVal) : bodyE P H T k 180 [x0, x1] = R180 T k x0 x1 := by kernel_rfl
noncomputable def D180 (T : TT) (k : Nat) : List SVal → Option Res
  | [x0, x1] => R180 T k x0 x1
  | a => bodyE P H T k 180 a
theorem d180 (T : TT) (k : Nat) (a : List SVal) : D180 T k a = bodyE P H T k 180 a := by
  unfold D180
  split
  · exact (r180 ..).symm
  · rfl
theorem t180 (k : Nat) (x0 x1 : SVal) : T (k + 1) 180 [x0, x1] = R180 (T k) k x0 x1 := (tb k 180 _ rfl).trans (r180 ..)
/-- limelight/attr.Has -/
def R181 (T : TT) (k : Nat) (x0 x1 x2 : SVal) : Option Res :=
 (T 55 [(weak x0), x1, x2]).bind fun r1 =>
 some { r := r1.r.c1 }
theorem r181 (T : TT) (k : Nat) (x0 x1 x2 : SVal) : bodyE P H T k 181 [x0, x1, x2] = R181 T k x0 x1 x2 := by kernel_rfl
noncomputable def D181 (T : TT) (k : Nat) : List SVal → Option Res
  | [x0, x1, x2] => R181 T k x0 x1 x2
  | a => bodyE P H T k 181 a
theorem d181 (T : TT) (k : Nat) (a : List SVal) : D181 T k a = bodyE P H T k 181 a := by
  unfold D181
  split
  · exact (r181 ..).symm
  · rfl
theorem t181 (k : Nat) (x0 x1 x2 : SVal) : T (k + 1) 181 [x0, x1, x2] = R181 (T k) k x0 x1 x2 := (tb k 181 _ rfl).trans (r181 ..)
/-- limelight/top.each[limelight/api.Shown,int] -/
def R182 (T : TT) (k : Nat) (x0 x1 : SVal) : Option Res :=
 (sLen x0).bind fun r1 =>
 loopN (fun s2 next2 =>
 (sBin .lss s2.k4 s2.k3).bind fun r3 =>
 pickC r3
 ((sIdx true 2 s2.k2 s2.k4).bind fun e4 =>
 if (allOne [.v (SVal.cell e4 0), .v (SVal.cell e4 1)]) = true then
 (callV H T s2.k0 [(.agg [(SVal.cell e4 0), (SVal.cell e4 1)])]).bind fun y5 =>
 if (List.all [[.v y5]] allOne) = true then
 if (s2.k1.xs.length + ([y5] : List SVal).length) * 8 ≤ maxAppend then
 (sBin .add s2.k4 (.int .i64 1)).bind fun r6 =>
 next2 ⟨[s2.k0, (.sl 1 true false (s2.k1.xs ++ ([y5] : List SVal))), (weak s2.k2), s2.k3, r6], [], false⟩
 else none
 else none
 else none)
 (some { r := (.sl 1 false false s2.k1.xs) })) k ⟨[x1, (.sl 1 true false []), (weak x0), r1, (.int .i64 0)], [], false⟩
theorem r182 (T : TT) (k : Nat) (x0 x1 : SVal) : bodyE P H T k 182 [x0, x1] = R182 T k x0 x1 := by kernel_rfl
noncomputable def D182 (T : TT) (k : Nat) : List SVal → Option Res
  | [x0, x1] => R182 T k x0 x1
  | a => bodyE P H T k 182 a
theorem d182 (T : TT) (k : Nat) (a : List SVal) : D182 T k a = bodyE P H T k 182 a := by
  unfold D182
  split
  · exact (r182 ..).symm
  · rfl
theorem t182 (k : Nat) (x0 x1 : SVal) : T (k + 1) 182 [x0, x1] = R182 (T k) k x0 x1 := (tb k 182 _ rfl).trans (r182 ..)
/-- limelight/top.node -/
def R183 (T : TT) (k : Nat) (x0a x0b : SVal) : Option Res :=
 some { r := x0a }
theorem r183 (T : TT) (k : Nat) (x0a x0b : SVal) : bodyE P H T k 183 [(.agg [x0a, x0b])] = R183 T k x0a x0b := by kernel_rfl
noncomputable def D183 (T : TT) (k : Nat) : List SVal → Option Res
  | [(.agg [x0a, x0b])] => R183 T k x0a x0b
  | a => bodyE P H T k 183 a
theorem d183 (T : TT) (k : Nat) (a : List SVal) : D183 T k a = bodyE P H T k 183 a := by
  unfold D183
  split
  · exact (r183 ..).symm
  · rfl
theorem t183 (k : Nat) (x0a x0b : SVal) : T (k + 1) 183 [(.agg [x0a, x0b])] = R183 (T k) k x0a x0b := (tb k 183 _ rfl).trans (r183 ..)
/-- slices.Values[[]int,int]$1 -/
def R185 (T : TT) (k : Nat) (x1 : SVal) : Option Res :=
 (sLen x1).bind fun r1 =>
 loopN (fun s2 next2 =>
 (sBin .lss s2.k3 s2.k2).bind fun r3 =>
 pickC r3
 ((sIdx false 1 s2.k1 s2.k3).bind fun e4 =>
 if (s2.stop) = true then none else
 (notTup e4).bind fun y5 =>
 both
 ((sBin .add s2.k3 (.int .i64 1)).bind fun r6 =>
 next2 ⟨[.yld, (weak s2.k1), s2.k2, r6], (s2.out ++ [y5]), s2.stop⟩)
 (some { r := (.tup []) }))
 (if (s2.stop) = true then
 some { r := (.tup []) }
 else
 some { r := (.tup []), out := s2.out })) k ⟨[.yld, (weak x1), r1, (.int .i64 0)], [], false⟩
theorem r185 (T : TT) (k : Nat) (x1 : SVal) : bodyE P H T k 185 [.yld, (.rp [x1])] = R185 T k x1 := by kernel_rfl
noncomputable def D185 (T : TT) (k : Nat) : List SVal → Option Res
  | [.yld, (.rp [x1])] => R185 T k x1
  | a => bodyE P H T k 185 a
theorem d185 (T : TT) (k : Nat) (a : List SVal) : D185 T k a = bodyE P H T k 185 a := by
  unfold D185
  split
  · exact (r185 ..).symm
  · rfl
theorem t185 (k : Nat) (x1 : SVal) : T (k + 1) 185 [.yld, (.rp [x1])] = R185 (T k) k x1 := (tb k 185 _ rfl).trans (r185 ..)
/-- slices.ContainsFunc[[]int,int] -/
def R187 (T : TT) (k : Nat) (x0 x1 : SVal) : Option Res :=
 (T 53 [(weak x0), x1]).bind fun r1 =>
 if isSc1 r1.r = true then
 (sBin .geq r1.r (.int .i64 0)).bind fun r2 =>
 some { r := r2 }
 else none
theorem r187 (T : TT) (k : Nat) (x0 x1 : SVal) : bodyE P H T k 187 [x0, x1] = R187 T k x0 x1 := by kernel_rfl
noncomputable def D187 (T : TT) (k : Nat) : List SVal → Option Res
  | [x0, x1] => R187 T k x0 x1
  | a => bodyE P H T k 187 a
theorem d187 (T : TT) (k : Nat) (a : List SVal) : D187 T k a = bodyE P H T k 187 a := by
  unfold D187
  split
  · exact (r187 ..).symm
  · rfl
theorem t187 (k : Nat) (x0 x1 : SVal) : T (k + 1) 187 [x0, x1] = R187 (T k) k x0 x1 := (tb k 187 _ rfl).trans (r187 ..)
/-- limelight/order.all$1 -/
def R188 (T : TT) (k : Nat) (x0 x1 : SVal) : Option Res :=
 ((sBin .lss x0 (.int .i64 0)).bind fun r1 =>
 guardX r1 false
 ((sLen x1).bind fun r2 =>
 (sBin .geq x0 r2).bind fun r3 =>
 (asB r3).bind fun b4 =>
 some [b4])
 (some [true])
 (none)).bind fun vs5 =>
 some { r := (.bool (vs5.getD 0 false)) }
theorem r188 (T : TT) (k : Nat) (x0 x1 : SVal) : bodyE P H T k 188 [x0, (.rp [x1])] = R188 T k x0 x1 := by kernel_rfl
noncomputable def D188 (T : TT) (k : Nat) : List SVal → Option Res
  | [x0, (.rp [x1])] => R188 T k x0 x1
  | a => bodyE P H T k 188 a
theorem d188 (T : TT) (k : Nat) (a : List SVal) : D188 T k a = bodyE P H T k 188 a := by
  unfold D188
  split
  · exact (r188 ..).symm
  · rfl
theorem t188 (k : Nat) (x0 x1 : SVal) : T (k + 1) 188 [x0, (.rp [x1])] = R188 (T k) k x0 x1 := (tb k 188 _ rfl).trans (r188 ..)
/-- limelight/order.up$1 -/
def R189 (T : TT) (k : Nat) (x1 x2 : SVal) : Option Res :=
 loopN (fun s1 next1 =>
 (sBin .neq (SVal.cell s1.k1 0) (.int .i64 (-1))).bind fun r2 =>
 guardX r2 true
 (if (s1.stop) = true then none else
 (notTup (SVal.cell s1.k1 0)).bind fun y3 =>
 both
 ((sIdx true 7 (SVal.cell s1.k2 0) (SVal.cell s1.k1 0)).bind fun e4 =>
 if (oneS (SVal.cell e4 2)) = true then
 next1 ⟨[.yld, (.mb [(SVal.cell e4 2)]), (.rp [(SVal.cell s1.k2 0)])], (s1.out ++ [y3]), s1.stop⟩
 else none)
 (some { r := (.tup []) }))
 (if (s1.stop) = true then
 some { r := (.tup []) }
 else
 some { r := (.tup []), out := s1.out })
 (none)) k ⟨[.yld, (.mb [x1]), (.rp [x2])], [], false⟩
theorem r189 (T : TT) (k : Nat) (x1 x2 : SVal) : bodyE P H T k 189 [.yld, (.mb [x1]), (.rp [x2])] = R189 T k x1 x2 := by kernel_rfl
noncomputable def D189 (T : TT) (k : Nat) : List SVal → Option Res
  | [.yld, (.mb [x1]), (.rp [x2])] => R189 T k x1 x2
  | a => bodyE P H T k 189 a
theorem d189 (T : TT) (k : Nat) (a : List SVal) : D189 T k a = bodyE P H T k 189 a := by
  unfold D189
  split
  · exact (r189 ..).symm
  · rfl
theorem t189 (k : Nat) (x1 x2 : SVal) : T (k + 1) 189 [.yld, (.mb [x1]), (.rp [x2])] = R189 (T k) k x1 x2 := (tb k 189 _ rfl).trans (r189 ..)
/-- limelight/slots.root -/
def R190 (T : TT) (k : Nat) (x0 x1 : SVal) : Option Res :=
 ((T 158 [(weak x0), x1]).bind fun r1 =>
 (sNot r1.r).bind fun r2 =>
 guardX r2 false
 ((sIdx true 7 x0 x1).bind fun e3 =>
 (sBin .eql (SVal.cell e3 2) (.int .i64 (-1))).bind fun r4 =>
 (asB r4).bind fun b5 =>
 some [b5])
 (some [true])
 (none)).bind fun vs6 =>
 pickC (.bool (vs6.getD 0 false))
 (some { r := (.int .i64 (-1)) })
 ((sIdx true 7 x0 x1).bind fun e7 =>
 (sIdx true 7 x0 (SVal.cell e7 2)).bind fun e8 =>
 some { r := (SVal.cell e8 5) })
theorem r190 (T : TT) (k : Nat) (x0 x1 : SVal) : bodyE P H T k 190 [x0, x1] = R190 T k x0 x1 := by kernel_rfl
noncomputable def D190 (T : TT) (k : Nat) : List SVal → Option Res
  | [x0, x1] => R190 T k x0 x1
  | a => bodyE P H T k 190 a
theorem d190 (T : TT) (k : Nat) (a : List SVal) : D190 T k a = bodyE P H T k 190 a := by
  unfold D190
  split
  · exact (r190 ..).symm
  · rfl
theorem t190 (k : Nat) (x0 x1 : SVal) : T (k + 1) 190 [x0, x1] = R190 (T k) k x0 x1 := (tb k 190 _ rfl).trans (r190 ..)
/-- limelight/slots.name -/
def R191 (T : TT) (k : Nat) (x0 x1 : SVal) : Option Res :=
 (T 55 [(weak x0), x1, (.int .i64 4)]).bind fun r1 =>
 some { r := r1.r.c0 }
theorem r191 (T : TT) (k : Nat) (x0 x1 : SVal) : bodyE P H T k 191 [x0, x1] = R191 T k x0 x1 := by kernel_rfl
noncomputable def D191 (T : TT) (k : Nat) : List SVal → Option Res
  | [x0, x1] => R191 T k x0 x1
  | a => bodyE P H T k 191 a
theorem d191 (T : TT) (k : Nat) (a : List SVal) : D191 T k a = bodyE P H T k 191 a := by
  unfold D191
  split
  · exact (r191 ..).symm
  · rfl
theorem t191 (k : Nat) (x0 x1 : SVal) : T (k + 1) 191 [x0, x1] = R191 (T k) k x0 x1 := (tb k 191 _ rfl).trans (r191 ..)
/-- limelight/slots.within -/
def R192 (T : TT) (k : Nat) (x0 x1 : SVal) : Option Res :=
 if (oneS x0) = true then
 if (oneS x1) = true then
 some { r := (.fn 210 [(.rp [x0]), (.rp [x1])]) }
 else none
 else none
theorem r192 (T : TT) (k : Nat) (x0 x1 : SVal) : bodyE P H T k 192 [x0, x1] = R192 T k x0 x1 := by kernel_rfl
noncomputable def D192 (T : TT) (k : Nat) : List SVal → Option Res
  | [x0, x1] => R192 T k x0 x1
  | a => bodyE P H T k 192 a
theorem d192 (T : TT) (k : Nat) (a : List SVal) : D192 T k a = bodyE P H T k 192 a := by
  unfold D192
  split
  · exact (r192 ..).symm
  · rfl
theorem t192 (k : Nat) (x0 x1 : SVal) : T (k + 1) 192 [x0, x1] = R192 (T k) k x0 x1 := (tb k 192 _ rfl).trans (r192 ..)
/-- slices.IndexFunc[[]func() bool,func() bool] -/
def R193 (T : TT) (k : Nat) (x0 x1 : SVal) : Option Res :=
 (sLen x0).bind fun r1 =>
 loopN (fun s2 next2 =>
 (sBin .lss s2.k3 s2.k2).bind fun r3 =>
 pickC r3
 ((sIdx false 1 s2.k0 s2.k3).bind fun e4 =>
 (callV H T s2.k1 [e4]).bind fun y5 =>
 pickC y5
 (some { r := s2.k3 })
 ((sBin .add s2.k3 (.int .i64 1)).bind fun r6 =>
 next2 ⟨[(weak s2.k0), s2.k1, s2.k2, r6], [], false⟩))
 (some { r := (.int .i64 (-1)) })) k ⟨[(weak x0), x1, r1, (.int .i64 0)], [], false⟩
theorem r193 (T : TT) (k : Nat) (x0 x1 : SVal) : bodyE P H T k 193 [x0, x1] = R193 T k x0 x1 := by kernel_rfl
noncomputable def D193 (T : TT) (k : Nat) : List SVal → Option Res
  | [x0, x1] => R193 T k x0 x1
  | a => bodyE P H T k 193 a
theorem d193 (T : TT) (k : Nat) (a : List SVal) : D193 T k a = bodyE P H T k 193 a := by
  unfold D193
  split
  · exact (r193 ..).symm
  · rfl
theorem t193 (k : Nat) (x0 x1 : SVal) : T (k + 1) 193 [x0, x1] = R193 (T k) k x0 x1 := (tb k 193 _ rfl).trans (r193 ..)
/-- limelight/render.Is -/
def R194 (T : TT) (k : Nat) (x0a x0b x0c x0d x0e x1 : SVal) : Option Res :=
 ((T 212 [(.agg [(weak x0a), (weak x0b), (weak x0c), (weak x0d), (weak x0e)]), x1]).bind fun r1 =>
 (sNot r1.r).bind fun r2 =>
 guardX r2 false
 ((T 213 [(weak x0a), x1]).bind fun r3 =>
 (sNot r3.r).bind fun r4 =>
 (asB r4).bind fun b5 =>
 some [b5])
 (some [true])
 (none)).bind fun vs6 =>
 pickC (.bool (vs6.getD 0 false))
 (some { r := (.bool false) })
 ((T 52 [(weak x0a), x1]).bind fun r7 =>
 (T 187 [(weak r7.r), (.fn 214 [(.rp [x0a, x0b, x0c, x0d, x0e])])]).bind fun r8 =>
 (sNot r8.r).bind fun r9 =>
 some { r := r9 })
theorem r194 (T : TT) (k : Nat) (x0a x0b x0c x0d x0e x1 : SVal) : bodyE P H T k 194 [(.agg [x0a, x0b, x0c, x0d, x0e]), x1] = R194 T k x0a x0b x0c x0d x0e x1 := by kernel_rfl
noncomputable def D194 (T : TT) (k : Nat) : List SVal → Option Res
  | [(.agg [x0a, x0b, x0c, x0d, x0e]), x1] => R194 T k x0a x0b x0c x0d x0e x1
  | a => bodyE P H T k 194 a
theorem d194 (T : TT) (k : Nat) (a : List SVal) : D194 T k a = bodyE P H T k 194 a := by
  unfold D194
  split
  · exact (r194 ..).symm
  · rfl
theorem t194 (k : Nat) (x0a x0b x0c x0d x0e x1 : SVal) : T (k + 1) 194 [(.agg [x0a, x0b, x0c, x0d, x0e]), x1] = R194 (T k) k x0a x0b x0c x0d x0e x1 := (tb k 194 _ rfl).trans (r194 ..)
/-- limelight/inert.Is -/
def R195 (T : TT) (k : Nat) (x0a x0b x0c x0d x0e x1 : SVal) : Option Res :=
 ((T 216 [(.agg [(weak x0a), (weak x0b), (weak x0c), (weak x0d), (weak x0e)]), x1]).bind fun r1 =>
 guardX r1.r true
 ((T 217 [(.agg [(weak x0a), (weak x0b), (weak x0c), (weak x0d), (weak x0e)]), x1]).bind fun r2 =>
 guardX r2.r false
 ((T 218 [(.agg [(weak x0a), (weak x0b), (weak x0c), (weak x0d), (weak x0e)]), x1]).bind fun r3 =>
 (asB r3.r).bind fun b4 =>
 some [b4])
 (some [true])
 (none))
 (some [false])
 (none)).bind fun vs5 =>
 some { r := (.bool (vs5.getD 0 false)) }
theorem r195 (T : TT) (k : Nat) (x0a x0b x0c x0d x0e x1 : SVal) : bodyE P H T k 195 [(.agg [x0a, x0b, x0c, x0d, x0e]), x1] = R195 T k x0a x0b x0c x0d x0e x1 := by kernel_rfl
noncomputable def D195 (T : TT) (k : Nat) : List SVal → Option Res
  | [(.agg [x0a, x0b, x0c, x0d, x0e]), x1] => R195 T k x0a x0b x0c x0d x0e x1
  | a => bodyE P H T k 195 a
theorem d195 (T : TT) (k : Nat) (a : List SVal) : D195 T k a = bodyE P H T k 195 a := by
  unfold D195
  split
  · exact (r195 ..).symm
  · rfl
theorem t195 (k : Nat) (x0a x0b x0c x0d x0e x1 : SVal) : T (k + 1) 195 [(.agg [x0a, x0b, x0c, x0d, x0e]), x1] = R195 (T k) k x0a x0b x0c x0d x0e x1 := (tb k 195 _ rfl).trans (r195 ..)
/-- slices.swapRangeCmpFunc[int] -/
def R196 (T : TT) (k : Nat) (x0 : List SVal) (x1 x2 x3 x4 : SVal) : Option Res :=
 loopN (fun s1 next1 =>
 (sBin .lss s1.k4 s1.k3).bind fun r2 =>
 pickC r2
 ((sBin .add s1.k1 s1.k4).bind fun r3 =>
 (sBin .add s1.k2 s1.k4).bind fun r4 =>
 (sBin .add s1.k2 s1.k4).bind fun r5 =>
 (sIn s1.k0.xs.length r5).bind fun j6 =>
 (s1.k0.xs[j6]?).bind fun e7 =>
 if (elemOk false 1 e7) = true then
 (sBin .add s1.k1 s1.k4).bind fun r8 =>
 (sIn s1.k0.xs.length r8).bind fun j9 =>
 (s1.k0.xs[j9]?).bind fun e10 =>
 if (elemOk false 1 e10) = true then
 (sIn s1.k0.xs.length r3).bind fun j11 =>
 (s1.k0.xs[j11]?).bind fun e12 =>
 if (elemOk false 1 e12) = true then
 if (oneS e7) = true then
 (sIn (s1.k0.xs.set j11 e7).length r4).bind fun j13 =>
 ((s1.k0.xs.set j11 e7)[j13]?).bind fun e14 =>
 if (elemOk false 1 e14) = true then
 if (oneS e10) = true then
 (sBin .add s1.k4 (.int .i64 1)).bind fun r15 =>
 next1 ⟨[(.sl 1 true false ((s1.k0.xs.set j11 e7).set j13 e10)), s1.k1, s1.k2, s1.k3, r15], [], false⟩
 else none
 else none
 else none
 else none
 else none
 else none)
 (some { r := (.tup []), outs := [(.sl 1 true false s1.k0.xs)] })) k ⟨[(.sl 1 true false x0), x1, x2, x3, (.int .i64 0)], [], false⟩
theorem r196 (T : TT) (k : Nat) (x0 : List SVal) (x1 x2 x3 x4 : SVal) : bodyE P H T k 196 [(.sl 1 true false x0), x1, x2, x3, x4] = R196 T k x0 x1 x2 x3 x4 := by kernel_rfl
noncomputable def D196 (T : TT) (k : Nat) : List SVal → Option Res
  | [(.sl 1 true false x0), x1, x2, x3, x4] => R196 T k x0 x1 x2 x3 x4
  | a => bodyE P H T k 196 a
theorem d196 (T : TT) (k : Nat) (a : List SVal) : D196 T k a = bodyE P H T k 196 a := by
  unfold D196
  split
  · exact (r196 ..).symm
  · rfl
theorem t196 (k : Nat) (x0 : List SVal) (x1 x2 x3 x4 : SVal) : T (k + 1) 196 [(.sl 1 true false x0), x1, x2, x3, x4] = R196 (T k) k x0 x1 x2 x3 x4 := (tb k 196 _ rfl).trans (r196 ..)
/-- limelight/limelightref04.Up -/
def R197 (T : TT) (k : Nat) (x0 x1 : SVal) : Option Res :=
 loopN (fun s1 next1 =>
 (sBin .neq s1.k1 (.int .i64 (-1))).bind fun r2 =>
 pickC r2
 (if (List.all [[.v s1.k1]] allOne) = true then
 if (s1.k2.xs.length + ([s1.k1] : List SVal).length) * 8 ≤ maxAppend then
 (T 129 [(weak s1.k0), s1.k1]).bind fun r3 =>
 next1 ⟨[(weak s1.k0), r3.r, (.sl 1 true false (s1.k2.xs ++ ([s1.k1] : List SVal)))], [], false⟩
 else none
 else none)
 (some { r := (.sl 1 false false s1.k2.xs) })) k ⟨[(weak x0), x1, (.sl 1 true false [])], [], false⟩
theorem r197 (T : TT) (k : Nat) (x0 x1 : SVal) : bodyE P H T k 197 [x0, x1] = R197 T k x0 x1 := by kernel_rfl
theorem t197 (k : Nat) (x0 x1 : SVal) : T (k + 1) 197 [x0, x1] = R197 (T k) k x0 x1 := (tb k 197 _ rfl).trans (r197 ..)
/-- limelight/limelightref05.All -/
def R198 (T : TT) (k : Nat) (x0 x1 : SVal) : Option Res :=
 (sIdx true 7 x0 x1).bind fun e1 =>
 (sBin .neq (SVal.cell e1 0) (.int .i64 3)).bind fun r2 =>
 pickC r2
 (some { r := (.sl 1 false false []) })
 ((T 219 [(weak x0), x1]).bind fun r3 =>
 loopN (fun s4 next4 =>
 (sLen s4.k2).bind fun r5 =>
 (sBin .lss s4.k3 r5).bind fun r6 =>
 pickC r6
 ((sIdx false 1 s4.k2 s4.k3).bind fun e7 =>
 (T 64 [(weak s4.k0), e7]).bind fun r8 =>
 pickC r8.r
 ((sIdx false 1 s4.k2 s4.k3).bind fun e9 =>
 if (List.all [[.v e9]] allOne) = true then
 if (s4.k1.xs.length + ([e9] : List SVal).length) * 8 ≤ maxAppend then
 (sBin .add s4.k3 (.int .i64 1)).bind fun r10 =>
 next4 ⟨[(weak s4.k0), (.sl 1 true false (s4.k1.xs ++ ([e9] : List SVal))), (weak s4.k2), r10], [], false⟩
 else none
 else none)
 ((sBin .add s4.k3 (.int .i64 1)).bind fun r11 =>
 next4 ⟨[(weak s4.k0), (.sl 1 true false s4.k1.xs), (weak s4.k2), r11], [], false⟩))
 (some { r := (.sl 1 false false s4.k1.xs) })) k ⟨[(weak x0), (.sl 1 true false []), (weak r3.r), (.int .i64 0)], [], false⟩)
theorem r198 (T : TT) (k : Nat) (x0 x1 : SVal) : bodyE P H T k 198 [x0, x1] = R198 T k x0 x1 := by kernel_rfl
theorem t198 (k : Nat) (x0 x1 : SVal) : T (k + 1) 198 [x0, x1] = R198 (T k) k x0 x1 := (tb k 198 _ rfl).trans (r198 ..)
/-- limelight/limelightref05.name -/
def R199 (T : TT) (k : Nat) (x0 x1 : SVal) : Option Res :=
 (T 60 [(weak x0), x1, (.int .i64 4)]).bind fun r1 =>
 some { r := r1.r.c0 }
theorem r199 (T : TT) (k : Nat) (x0 x1 : SVal) : bodyE P H T k 199 [x0, x1] = R199 T k x0 x1 := by kernel_rfl
theorem t199 (k : Nat) (x0 x1 : SVal) : T (k + 1) 199 [x0, x1] = R199 (T k) k x0 x1 := (tb k 199 _ rfl).trans (r199 ..)
/-- limelight/tree.is -/
def R200 (T : TT) (k : Nat) (x0 x1 : SVal) : Option Res :=
 (sLen x0).bind fun r1 =>
 (sBin .sub r1 (.int .i64 1)).bind fun r2 =>
 (T 176 [x1, (.int .i64 0), r2]).bind fun r3 =>
 some { r := r3.r }
theorem r200 (T : TT) (k : Nat) (x0 x1 : SVal) : bodyE P H T k 200 [x0, x1] = R200 T k x0 x1 := by kernel_rfl
noncomputable def D200 (T : TT) (k : Nat) : List SVal → Option Res
  | [x0, x1] => R200 T k x0 x1
  | a => bodyE P H T k 200 a
theorem d200 (T : TT) (k : Nat) (a : List SVal) : D200 T k a = bodyE P H T k 200 a := by
  unfold D200
  split
  · exact (r200 ..).symm
  · rfl
theorem t200 (k : Nat) (x0 x1 : SVal) : T (k + 1) 200 [x0, x1] = R200 (T k) k x0 x1 := (tb k 200 _ rfl).trans (r200 ..)
/-- limelight/tree.once -/
def R201 (T : TT) (k : Nat) (x0 x1 : SVal) : Option Res :=
 (T 112 [(weak x0), x1]).bind fun r1 =>
 ((sBin .geq r1.r (.int .i64 0)).bind fun r2 =>
 guardX r2 true
 ((sBin .add r1.r (.int .i64 1)).bind fun r3 =>
 (sSlice 1 x0 (some r3) none).bind fun r4 =>
 (T 70 [(weak r4), x1]).bind fun r5 =>
 (sNot r5.r).bind fun r6 =>
 (asB r6).bind fun b7 =>
 some [b7])
 (some [false])
 (none)).bind fun vs8 =>
 some { r := (.bool (vs8.getD 0 false)) }
theorem r201 (T : TT) (k : Nat) (x0 x1 : SVal) : bodyE P H T k 201 [x0, x1] = R201 T k x0 x1 := by kernel_rfl
noncomputable def D201 (T : TT) (k : Nat) : List SVal → Option Res
  | [x0, x1] => R201 T k x0 x1
  | a => bodyE P H T k 201 a
theorem d201 (T : TT) (k : Nat) (a : List SVal) : D201 T k a = bodyE P H T k 201 a := by
  unfold D201
  split
  · exact (r201 ..).symm
  · rfl
theorem t201 (k : Nat) (x0 x1 : SVal) : T (k + 1) 201 [x0, x1] = R201 (T k) k x0 x1 := (tb k 201 _ rfl).trans (r201 ..)
/-- limelight/tree.attrs -/
def R202 (T : TT) (k : Nat) (x0a x0b x0c x0d x0e x0f x0g : SVal) : Option Res :=
 (sLen x0g).bind fun r1 =>
 loopN (fun s2 next2 =>
 (sBin .lss s2.k4 s2.k3).bind fun r3 =>
 pickC r3
 ((sIdx true 2 s2.k2 s2.k4).bind fun e4 =>
 if (allOne [.v (SVal.cell e4 0), .v (SVal.cell e4 1)]) = true then
 ((sBin .eql (SVal.cell e4 0) (.int .i64 7)).bind fun r5 =>
 guardX r5 false
 ((sBin .eql (SVal.cell e4 0) (.int .i64 8)).bind fun r6 =>
 (asB r6).bind fun b7 =>
 some [b7])
 (some [true])
 (none)).bind fun vs8 =>
 ((sBin .leq (SVal.cell e4 0) s2.k1).bind fun r9 =>
 guardX r9 false
 ((sBin .geq (SVal.cell e4 0) (.int .i64 10)).bind fun r10 =>
 guardX r10 false
 ((T 220 [(.agg [(SVal.cell e4 0), (SVal.cell e4 1)])]).bind fun r11 =>
 (sNot r11.r).bind fun r12 =>
 guardX r12 false
 ((sBin .eql (SVal.cell s2.k0 0) (.int .i64 3)).bind fun r13 =>
 (sBinB .neq (.bool (vs8.getD 0 false)) r13).bind fun r14 =>
 (asB r14).bind fun b15 =>
 some [b15])
 (some [true])
 (none))
 (some [true])
 (none))
 (some [true])
 (none)).bind fun vs16 =>
 pickC (.bool (vs16.getD 0 false))
 (some { r := (.bool false) })
 ((sBin .add s2.k4 (.int .i64 1)).bind fun r17 =>
 next2 ⟨[(.rp [(SVal.cell s2.k0 0), (SVal.cell s2.k0 1), (SVal.cell s2.k0 2), (SVal.cell s2.k0 3), (SVal.cell s2.k0 4), (SVal.cell s2.k0 5), (SVal.cell s2.k0 6)]), (SVal.cell e4 0), (weak s2.k2), s2.k3, r17], [], false⟩)
 else none)
 (((sLen (SVal.cell s2.k0 6)).bind fun r18 =>
 (sBin .eql r18 (.int .i64 0)).bind fun r19 =>
 guardX r19 false
 ((sBin .eql (SVal.cell s2.k0 0) (.int .i64 1)).bind fun r20 =>
 guardX r20 false
 ((sBin .eql (SVal.cell s2.k0 0) (.int .i64 3)).bind fun r21 =>
 (asB r21).bind fun b22 =>
 some [b22])
 (some [true])
 (none))
 (some [true])
 (none)).bind fun vs23 =>
 some { r := (.bool (vs23.getD 0 false)) })) k ⟨[(.rp [x0a, x0b, x0c, x0d, x0e, x0f, x0g]), (.int .i64 (-1)), (weak x0g), r1, (.int .i64 0)], [], false⟩
theorem r202 (T : TT) (k : Nat) (x0a x0b x0c x0d x0e x0f x0g : SVal) : bodyE P H T k 202 [(.agg [x0a, x0b, x0c, x0d, x0e, x0f, x0g])] = R202 T k x0a x0b x0c x0d x0e x0f x0g := by kernel_rfl
noncomputable def D202 (T : TT) (k : Nat) : List SVal → Option Res
  | [(.agg [x0a, x0b, x0c, x0d, x0e, x0f, x0g])] => R202 T k x0a x0b x0c x0d x0e x0f x0g
  | a => bodyE P H T k 202 a
theorem d202 (T : TT) (k : Nat) (a : List SVal) : D202 T k a = bodyE P H T k 202 a := by
  unfold D202
  split
  · exact (r202 ..).symm
  · rfl
theorem t202 (k : Nat) (x0a x0b x0c x0d x0e x0f x0g : SVal) : T (k + 1) 202 [(.agg [x0a, x0b, x0c, x0d, x0e, x0f, x0g])] = R202 (T k) k x0a x0b x0c x0d x0e x0f x0g := (tb k 202 _ rfl).trans (r202 ..)
/-- limelight/tree.shadow -/
def R203 (T : TT) (k : Nat) (x0 x1 : SVal) : Option Res :=
 (sIdx true 7 x0 x1).bind fun e1 =>
 if (allOne [.v (SVal.cell e1 0), .v (SVal.cell e1 1), .v (SVal.cell e1 2), .v (SVal.cell e1 3), .v (SVal.cell e1 4), .v (SVal.cell e1 5), .v (SVal.cell e1 6)]) = true then
 (sBin .eql (SVal.cell e1 0) (.int .i64 3)).bind fun r2 =>
 pickC r2
 (((sBin .eql (SVal.cell e1 5) (.int .i64 (-1))).bind fun r3 =>
 guardX r3 true
 ((sBin .eql (SVal.cell e1 2) (.int .i64 (-1))).bind fun r4 =>
 guardX r4 true
 ((T 200 [(weak x0), (SVal.cell e1 4)]).bind fun r5 =>
 guardX r5.r true
 ((sIdx true 7 x0 (SVal.cell e1 4)).bind fun e6 =>
 (sBin .eql (SVal.cell e6 0) (.int .i64 1)).bind fun r7 =>
 guardX r7 true
 ((sIdx true 7 x0 (SVal.cell e1 4)).bind fun e8 =>
 (sBin .eql (SVal.cell e8 5) x1).bind fun r9 =>
 (asB r9).bind fun b10 =>
 some [b10])
 (some [false])
 (none))
 (some [false])
 (none))
 (some [false])
 (none))
 (some [false])
 (none)).bind fun vs11 =>
 some { r := (.bool (vs11.getD 0 false)) })
 ((sBin .neq (SVal.cell e1 4) (.int .i64 (-1))).bind fun r12 =>
 pickC r12
 (some { r := (.bool false) })
 ((sBin .eql (SVal.cell e1 5) (.int .i64 (-1))).bind fun r13 =>
 pickC r13
 (some { r := (.bool true) })
 (((sBin .eql (SVal.cell e1 0) (.int .i64 1)).bind fun r14 =>
 guardX r14 true
 ((T 200 [(weak x0), (SVal.cell e1 5)]).bind fun r15 =>
 guardX r15.r true
 ((sIdx true 7 x0 (SVal.cell e1 5)).bind fun e16 =>
 (sBin .eql (SVal.cell e16 0) (.int .i64 3)).bind fun r17 =>
 guardX r17 true
 ((sIdx true 7 x0 (SVal.cell e1 5)).bind fun e18 =>
 (sBin .eql (SVal.cell e18 4) x1).bind fun r19 =>
 (asB r19).bind fun b20 =>
 some [b20])
 (some [false])
 (none))
 (some [false])
 (none))
 (some [false])
 (none)).bind fun vs21 =>
 some { r := (.bool (vs21.getD 0 false)) })))
 else none
theorem r203 (T : TT) (k : Nat) (x0 x1 : SVal) : bodyE P H T k 203 [x0, x1] = R203 T k x0 x1 := by kernel_rfl
noncomputable def D203 (T : TT) (k : Nat) : List SVal → Option Res
  | [x0, x1] => R203 T k x0 x1
  | a => bodyE P H T k 203 a
theorem d203 (T : TT) (k : Nat) (a : List SVal) : D203 T k a = bodyE P H T k 203 a := by
  unfold D203
  split
  · exact (r203 ..).symm
  · rfl
theorem t203 (k : Nat) (x0 x1 : SVal) : T (k + 1) 203 [x0, x1] = R203 (T k) k x0 x1 := (tb k 203 _ rfl).trans (r203 ..)
/-- limelight/tree.node$1 -/
def R204 (T : TT) (k : Nat) (x0 x1 x2 : SVal) : Option Res :=
 (T 205 [(weak x1), x2, x0]).bind fun r1 =>
 (sNot r1.r).bind fun r2 =>
 some { r := r2 }
theorem r204 (T : TT) (k : Nat) (x0 x1 x2 : SVal) : bodyE P H T k 204 [x0, (.rp [x1]), (.rp [x2])] = R204 T k x0 x1 x2 := by kernel_rfl
noncomputable def D204 (T : TT) (k : Nat) : List SVal → Option Res
  | [x0, (.rp [x1]), (.rp [x2])] => R204 T k x0 x1 x2
  | a => bodyE P H T k 204 a
theorem d204 (T : TT) (k : Nat) (a : List SVal) : D204 T k a = bodyE P H T k 204 a := by
  unfold D204
  split
  · exact (r204 ..).symm
  · rfl
theorem t204 (k : Nat) (x0 x1 x2 : SVal) : T (k + 1) 204 [x0, (.rp [x1]), (.rp [x2])] = R204 (T k) k x0 x1 x2 := (tb k 204 _ rfl).trans (r204 ..)
/-- limelight/tree.below -/
def R205 (T : TT) (k : Nat) (x0 x1 x2 : SVal) : Option Res :=
 ((T 200 [(weak x0), x2]).bind fun r1 =>
 guardX r1.r true
 ((sIdx true 7 x0 x1).bind fun e2 =>
 (T 201 [(weak (SVal.cell e2 3)), x2]).bind fun r3 =>
 guardX r3.r true
 ((sIdx true 7 x0 x2).bind fun e4 =>
 (sBin .eql (SVal.cell e4 2) x1).bind fun r5 =>
 guardX r5 true
 ((sIdx true 7 x0 x2).bind fun e6 =>
 (sBin .eql (SVal.cell e6 0) (.int .i64 1)).bind fun r7 =>
 guardX r7 false
 ((sIdx true 7 x0 x2).bind fun e8 =>
 (sBin .eql (SVal.cell e8 0) (.int .i64 2)).bind fun r9 =>
 (asB r9).bind fun b10 =>
 some [b10])
 (some [true])
 (none))
 (some [false])
 (none))
 (some [false])
 (none))
 (some [false])
 (none)).bind fun vs11 =>
 some { r := (.bool (vs11.getD 0 false)) }
theorem r205 (T : TT) (k : Nat) (x0 x1 x2 : SVal) : bodyE P H T k 205 [x0, x1, x2] = R205 T k x0 x1 x2 := by kernel_rfl
noncomputable def D205 (T : TT) (k : Nat) : List SVal → Option Res
  | [x0, x1, x2] => R205 T k x0 x1 x2
  | a => bodyE P H T k 205 a
theorem d205 (T : TT) (k : Nat) (a : List SVal) : D205 T k a = bodyE P H T k 205 a := by
  unfold D205
  split
  · exact (r205 ..).symm
  · rfl
theorem t205 (k : Nat) (x0 x1 x2 : SVal) : T (k + 1) 205 [x0, x1, x2] = R205 (T k) k x0 x1 x2 := (tb k 205 _ rfl).trans (r205 ..)
/-- limelight/tree.up -/
def R206 (T : TT) (k : Nat) (x0 x1 : SVal) : Option Res :=
 if (oneS x0) = true then
 if (oneS x1) = true then
 some { r := (.fn 221 [(.rp [x0]), (.mb [x1])]) }
 else none
 else none
theorem r206 (T : TT) (k : Nat) (x0 x1 : SVal) : bodyE P H T k 206 [x0, x1] = R206 T k x0 x1 := by kernel_rfl
noncomputable def D206 (T : TT) (k : Nat) : List SVal → Option Res
  | [x0, x1] => R206 T k x0 x1
  | a => bodyE P H T k 206 a
theorem d206 (T : TT) (k : Nat) (a : List SVal) : D206 T k a = bodyE P H T k 206 a := by
  unfold D206
  split
  · exact (r206 ..).symm
  · rfl
theorem t206 (k : Nat) (x0 x1 : SVal) : T (k + 1) 206 [x0, x1] = R206 (T k) k x0 x1 := (tb k 206 _ rfl).trans (r206 ..)
/-- limelight/shade.Connected -/
def R207 (T : TT) (k : Nat) (x0 x1 : SVal) : Option Res :=
 (T 222 [(weak x0), (.int .i64 0), x1]).bind fun r1 =>
 some { r := r1.r }
theorem r207 (T : TT) (k : Nat) (x0 x1 : SVal) : bodyE P H T k 207 [x0, x1] = R207 T k x0 x1 := by kernel_rfl
noncomputable def D207 (T : TT) (k : Nat) : List SVal → Option Res
  | [x0, x1] => R207 T k x0 x1
  | a => bodyE P H T k 207 a
theorem d207 (T : TT) (k : Nat) (a : List SVal) : D207 T k a = bodyE P H T k 207 a := by
  unfold D207
  split
  · exact (r207 ..).symm
  · rfl
theorem t207 (k : Nat) (x0 x1 : SVal) : T (k + 1) 207 [x0, x1] = R207 (T k) k x0 x1 := (tb k 207 _ rfl).trans (r207 ..)
/-- limelight/slots.within$1 -/
def R210 (T : TT) (k : Nat) (x1 x2 : SVal) : Option Res :=
 (T 211 [(weak x1), x2]).bind fun r1 =>
 (sLen r1.r).bind fun r2 =>
 loopN (fun s3 next3 =>
 (sBin .lss s3.k4 s3.k3).bind fun r4 =>
 pickC r4
 ((sIdx false 1 s3.k2 s3.k4).bind fun e5 =>
 (T 159 [(weak (SVal.cell s3.k1 0)), e5]).bind fun r6 =>
 guardX r6.r true
 (if (s3.stop) = true then none else
 (notTup e5).bind fun y7 =>
 both
 ((sBin .add s3.k4 (.int .i64 1)).bind fun r8 =>
 next3 ⟨[.yld, (.rp [(SVal.cell s3.k1 0)]), (weak s3.k2), s3.k3, r8], (s3.out ++ [y7]), s3.stop⟩)
 (some { r := (.tup []) }))
 ((sBin .add s3.k4 (.int .i64 1)).bind fun r9 =>
 next3 ⟨[.yld, (.rp [(SVal.cell s3.k1 0)]), (weak s3.k2), s3.k3, r9], s3.out, s3.stop⟩)
 (none))
 (if (s3.stop) = true then
 some { r := (.tup []) }
 else
 some { r := (.tup []), out := s3.out })) k ⟨[.yld, (.rp [x1]), (weak r1.r), r2, (.int .i64 0)], [], false⟩
theorem r210 (T : TT) (k : Nat) (x1 x2 : SVal) : bodyE P H T k 210 [.yld, (.rp [x1]), (.rp [x2])] = R210 T k x1 x2 := by kernel_rfl
noncomputable def D210 (T : TT) (k : Nat) : List SVal → Option Res
  | [.yld, (.rp [x1]), (.rp [x2])] => R210 T k x1 x2
  | a => bodyE P H T k 210 a
theorem d210 (T : TT) (k : Nat) (a : List SVal) : D210 T k a = bodyE P H T k 210 a := by
  unfold D210
  split
  · exact (r210 ..).symm
  · rfl
theorem t210 (k : Nat) (x1 x2 : SVal) : T (k + 1) 210 [.yld, (.rp [x1]), (.rp [x2])] = R210 (T k) k x1 x2 := (tb k 210 _ rfl).trans (r210 ..)
/-- limelight/order.List -/
def R211 (T : TT) (k : Nat) (x0 x1 : SVal) : Option Res :=
 if (List.all [[.v x1]] allOne) = true then
 (T 156 [(weak x0), (.sl 1 false false [x1])]).bind fun r1 =>
 (sNot r1.r).bind fun r2 =>
 pickC r2
 (some { r := (.sl 1 false false []) })
 ((T 234 [(weak x0), x1]).bind fun r3 =>
 (T 66 [r3.r]).bind fun r4 =>
 some { r := (.sl 1 false false r4.r.xs) })
 else none
theorem r211 (T : TT) (k : Nat) (x0 x1 : SVal) : bodyE P H T k 211 [x0, x1] = R211 T k x0 x1 := by kernel_rfl
noncomputable def D211 (T : TT) (k : Nat) : List SVal → Option Res
  | [x0, x1] => R211 T k x0 x1
  | a => bodyE P H T k 211 a
theorem d211 (T : TT) (k : Nat) (a : List SVal) : D211 T k a = bodyE P H T k 211 a := by
  unfold D211
  split
  · exact (r211 ..).symm
  · rfl
theorem t211 (k : Nat) (x0 x1 : SVal) : T (k + 1) 211 [x0, x1] = R211 (T k) k x0 x1 := (tb k 211 _ rfl).trans (r211 ..)
/-- limelight/render.may -/
def R212 (T : TT) (k : Nat) (x0a x0b x0c x0d x0e x1 : SVal) : Option Res :=
 ((T 65 [(.agg [(weak x0a), (weak x0b), (weak x0c), (weak x0d), (weak x0e)])]).bind fun r1 =>
 (sBin .eql r1.r (.int .i64 0)).bind fun r2 =>
 guardX r2 true
 ((sBin .geq x1 (.int .i64 0)).bind fun r3 =>
 guardX r3 true
 ((sLen x0a).bind fun r4 =>
 (sBin .lss x1 r4).bind fun r5 =>
 (asB r5).bind fun b6 =>
 some [b6])
 (some [false])
 (none))
 (some [false])
 (none)).bind fun vs7 =>
 some { r := (.bool (vs7.getD 0 false)) }
theorem r212 (T : TT) (k : Nat) (x0a x0b x0c x0d x0e x1 : SVal) : bodyE P H T k 212 [(.agg [x0a, x0b, x0c, x0d, x0e]), x1] = R212 T k x0a x0b x0c x0d x0e x1 := by kernel_rfl
noncomputable def D212 (T : TT) (k : Nat) : List SVal → Option Res
  | [(.agg [x0a, x0b, x0c, x0d, x0e]), x1] => R212 T k x0a x0b x0c x0d x0e x1
  | a => bodyE P H T k 212 a
theorem d212 (T : TT) (k : Nat) (a : List SVal) : D212 T k a = bodyE P H T k 212 a := by
  unfold D212
  split
  · exact (r212 ..).symm
  · rfl
theorem t212 (k : Nat) (x0a x0b x0c x0d x0e x1 : SVal) : T (k + 1) 212 [(.agg [x0a, x0b, x0c, x0d, x0e]), x1] = R212 (T k) k x0a x0b x0c x0d x0e x1 := (tb k 212 _ rfl).trans (r212 ..)
end Go.Proofs.YtjcnilaogidhlaaGreat.K
