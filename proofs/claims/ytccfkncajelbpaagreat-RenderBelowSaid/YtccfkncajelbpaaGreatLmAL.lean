/- What the evaluator makes of the functions, by program (wip/tr/resid.py); each equation is checked by the kernel. -/
import Derived.Test.YtccfkncajelbpaaGreatLmAK
import Derived.Test.YtccfkncajelbpaaGreatLmAB
import Derived.KernelRfl
set_option linter.unusedVariables false
set_option linter.unusedSimpArgs false
set_option linter.unnecessarySimpa false
set_option linter.all false
set_option maxRecDepth 100000
namespace Go.Proofs.YtccfkncajelbpaaGreat.K
open Go Go.Lm
/-- limelight/limelightlaw11.RenderTells -/
def R3 (T : Nat → List SVal → Option Res) (k : Nat) (x0a : SVal) (x0b : SVal) (x0c : SVal) (x0d : SVal) (x0e : SVal) (x1 : SVal) : Option Res :=
  (T 12 [(.agg [(weak x0a), (weak x0b), (weak x0c), (weak x0d), (weak x0e)])]).bind fun r1 =>
  (sNot r1.r).bind fun r2 =>
  pickC r2
  ((T 13 []).bind fun r3 =>
   some { r := r3.r })
  ((T 14 [(.agg [(weak x0a), (weak x0b), (weak x0c), (weak x0d), (weak x0e)])]).bind fun r4 =>
   (sBin .neq r4.r (.int .i64 0)).bind fun r5 =>
   pickC r5
   (((T 15 [(.agg [(weak x0a), (weak x0b), (weak x0c), (weak x0d), (weak x0e)]), x1]).bind fun r6 =>
     (sNot r6.r).bind fun r7 =>
     guardX r7 true
     ((T 16 [(.agg [(weak x0a), (weak x0b), (weak x0c), (weak x0d), (weak x0e)]), x1]).bind fun r8 =>
      (sNot r8.r).bind fun r9 =>
      guardX r9 true
      ((T 17 [(.agg [(weak x0a), (weak x0b), (weak x0c), (weak x0d), (weak x0e)])]).bind fun r10 =>
       (sLen r10.r).bind fun r11 =>
       (sBin .eql r11 (.int .i64 0)).bind fun r12 =>
       guardX r12 true
       ((T 13 []).bind fun r13 =>
        (asB r13.r).bind fun b14 =>
        some [b14])
       (some [false])
       (none))
      (some [false])
      (none))
     (some [false])
     (none)).bind fun vs15 =>
    some { r := (.bool (vs15.getD 0 false)) })
   ((T 18 [(weak x0a), x1]).bind fun r16 =>
    (sNot r16.r).bind fun r17 =>
    pickC r17
    (((T 15 [(.agg [(weak x0a), (weak x0b), (weak x0c), (weak x0d), (weak x0e)]), x1]).bind fun r18 =>
      (sNot r18.r).bind fun r19 =>
      guardX r19 true
      ((T 16 [(.agg [(weak x0a), (weak x0b), (weak x0c), (weak x0d), (weak x0e)]), x1]).bind fun r20 =>
       (sNot r20.r).bind fun r21 =>
       guardX r21 true
       ((T 13 []).bind fun r22 =>
        (asB r22.r).bind fun b23 =>
        some [b23])
       (some [false])
       (none))
      (some [false])
      (none)).bind fun vs24 =>
     some { r := (.bool (vs24.getD 0 false)) })
    (((T 15 [(.agg [(weak x0a), (weak x0b), (weak x0c), (weak x0d), (weak x0e)]), x1]).bind fun r25 =>
      (T 19 [(.agg [(weak x0a), (weak x0b), (weak x0c), (weak x0d), (weak x0e)]), x1]).bind fun r26 =>
      (sBinB .eql r25.r r26.r).bind fun r27 =>
      guardX r27 true
      ((T 16 [(.agg [(weak x0a), (weak x0b), (weak x0c), (weak x0d), (weak x0e)]), x1]).bind fun r28 =>
       (T 20 [(.agg [(weak x0a), (weak x0b), (weak x0c), (weak x0d), (weak x0e)]), x1]).bind fun r29 =>
       (sBinB .eql r28.r r29.r).bind fun r30 =>
       guardX r30 true
       ((T 17 [(.agg [(weak x0a), (weak x0b), (weak x0c), (weak x0d), (weak x0e)])]).bind fun r31 =>
        (T 22 [(.agg [(weak x0a), (weak x0b), (weak x0c), (weak x0d), (weak x0e)])]).bind fun r32 =>
        (T 21 [(weak r31.r), (weak r32.r)]).bind fun r33 =>
        guardX r33.r true
        ((T 13 []).bind fun r34 =>
         (asB r34.r).bind fun b35 =>
         some [b35])
        (some [false])
        (none))
       (some [false])
       (none))
      (some [false])
      (none)).bind fun vs36 =>
     some { r := (.bool (vs36.getD 0 false)) })))
theorem r3 (T : Nat → List SVal → Option Res) (k : Nat) (x0a : SVal) (x0b : SVal) (x0c : SVal) (x0d : SVal) (x0e : SVal) (x1 : SVal) : bodyE P H T k 3 [(.agg [x0a, x0b, x0c, x0d, x0e]), x1] = R3 T k x0a x0b x0c x0d x0e x1 := by kernel_rfl
noncomputable def D3 (T : Nat → List SVal → Option Res) (k : Nat) : List SVal → Option Res
  | [(.agg [x0a, x0b, x0c, x0d, x0e]), x1] => R3 T k x0a x0b x0c x0d x0e x1
  | a => bodyE P H T k 3 a
theorem d3 (T : Nat → List SVal → Option Res) (k : Nat) (a : List SVal) : D3 T k a = bodyE P H T k 3 a := by
  unfold D3
  split
  · exact (r3 ..).symm
  · rfl
theorem t3 (k : Nat) (x0a : SVal) (x0b : SVal) (x0c : SVal) (x0d : SVal) (x0e : SVal) (x1 : SVal) : T (k + 1) 3 [(.agg [x0a, x0b, x0c, x0d, x0e]), x1] = R3 (T k) k x0a x0b x0c x0d x0e x1 := (by kernel_rfl : T (k + 1) 3 [(.agg [x0a, x0b, x0c, x0d, x0e]), x1] = bodyE P H (T k) k 3 [(.agg [x0a, x0b, x0c, x0d, x0e]), x1]).trans (r3 ..)
/-- limelight/limelightlaw11.RenderBelow -/
def R4 (T : Nat → List SVal → Option Res) (k : Nat) (x0a : SVal) (x0b : SVal) (x0c : SVal) (x0d : SVal) (x0e : SVal) : Option Res :=
  ((T 12 [(.agg [(weak x0a), (weak x0b), (weak x0c), (weak x0d), (weak x0e)])]).bind fun r1 =>
   (sNot r1.r).bind fun r2 =>
   guardX r2 false
   ((T 14 [(.agg [(weak x0a), (weak x0b), (weak x0c), (weak x0d), (weak x0e)])]).bind fun r3 =>
    (sBin .neq r3.r (.int .i64 0)).bind fun r4 =>
    (asB r4).bind fun b5 =>
    some [b5])
   (some [true])
   (none)).bind fun vs6 =>
  pickC (.bool (vs6.getD 0 false))
  ((T 13 []).bind fun r7 =>
   some { r := r7.r })
  ((T 17 [(.agg [(weak x0a), (weak x0b), (weak x0c), (weak x0d), (weak x0e)])]).bind fun r8 =>
   loopN (fun s9 next9 =>
    (sLen (SVal.cell s9.k0 0)).bind fun r10 =>
    (sBin .lss s9.k3 r10).bind fun r11 =>
    pickC r11
    ((T 23 [(weak (SVal.cell s9.k0 0)), s9.k3]).bind fun r12 =>
     (T 15 [(.agg [(weak (SVal.cell s9.k0 0)), (weak (SVal.cell s9.k0 1)), (weak (SVal.cell s9.k0 2)), (weak (SVal.cell s9.k0 3)), (weak (SVal.cell s9.k0 4))]), s9.k3]).bind fun r13 =>
     pickC r13.r
     ((sBin .add s9.k2 (.int .i64 1)).bind fun r14 =>
      ((T 24 [(weak s9.k1), s9.k3]).bind fun r15 =>
       if isSc1 r15.r = true then
       (sNot r15.r).bind fun r16 =>
       guardX r16 false
       ((sBin .gtr s9.k3 (.int .i64 0)).bind fun r17 =>
        guardX r17 true
        ((sBin .lss r12.r (.int .i64 0)).bind fun r18 =>
         guardX r18 false
         ((T 15 [(.agg [(weak (SVal.cell s9.k0 0)), (weak (SVal.cell s9.k0 1)), (weak (SVal.cell s9.k0 2)), (weak (SVal.cell s9.k0 3)), (weak (SVal.cell s9.k0 4))]), r12.r]).bind fun r19 =>
          (sNot r19.r).bind fun r20 =>
          guardX r20 false
          ((T 16 [(.agg [(weak (SVal.cell s9.k0 0)), (weak (SVal.cell s9.k0 1)), (weak (SVal.cell s9.k0 2)), (weak (SVal.cell s9.k0 3)), (weak (SVal.cell s9.k0 4))]), s9.k3]).bind fun r21 =>
           (sNot r21.r).bind fun r22 =>
           (asB r22).bind fun b23 =>
           some [b23])
          (some [true])
          (none))
         (some [true])
         (none))
        ((T 16 [(.agg [(weak (SVal.cell s9.k0 0)), (weak (SVal.cell s9.k0 1)), (weak (SVal.cell s9.k0 2)), (weak (SVal.cell s9.k0 3)), (weak (SVal.cell s9.k0 4))]), s9.k3]).bind fun r24 =>
         (sNot r24.r).bind fun r25 =>
         (asB r25).bind fun b26 =>
         some [b26])
        (none))
       (some [true])
       (none)
       else none).bind fun vs27 =>
      pickC (.bool (vs27.getD 0 false))
      (some { r := (.bool false) })
      ((sBin .add s9.k3 (.int .i64 1)).bind fun r28 =>
       next9 ⟨[(.rp [(SVal.cell s9.k0 0), (SVal.cell s9.k0 1), (SVal.cell s9.k0 2), (SVal.cell s9.k0 3), (SVal.cell s9.k0 4)]), (weak s9.k1), r14, r28], [], false⟩))
     (((sBin .geq r12.r (.int .i64 0)).bind fun r29 =>
       guardX r29 true
       ((T 15 [(.agg [(weak (SVal.cell s9.k0 0)), (weak (SVal.cell s9.k0 1)), (weak (SVal.cell s9.k0 2)), (weak (SVal.cell s9.k0 3)), (weak (SVal.cell s9.k0 4))]), r12.r]).bind fun r30 =>
        guardX r30.r true
        ((T 16 [(.agg [(weak (SVal.cell s9.k0 0)), (weak (SVal.cell s9.k0 1)), (weak (SVal.cell s9.k0 2)), (weak (SVal.cell s9.k0 3)), (weak (SVal.cell s9.k0 4))]), s9.k3]).bind fun r31 =>
         (asB r31.r).bind fun b32 =>
         some [b32])
        (some [false])
        (none))
       (some [false])
       (none)).bind fun vs33 =>
      pickC (.bool (vs33.getD 0 false))
      (some { r := (.bool false) })
      ((sBin .add s9.k3 (.int .i64 1)).bind fun r34 =>
       next9 ⟨[(.rp [(SVal.cell s9.k0 0), (SVal.cell s9.k0 1), (SVal.cell s9.k0 2), (SVal.cell s9.k0 3), (SVal.cell s9.k0 4)]), (weak s9.k1), s9.k2, r34], [], false⟩)))
    (((sLen s9.k1).bind fun r35 =>
      (sBin .eql r35 s9.k2).bind fun r36 =>
      guardX r36 true
      ((T 13 []).bind fun r37 =>
       (asB r37.r).bind fun b38 =>
       some [b38])
      (some [false])
      (none)).bind fun vs39 =>
     some { r := (.bool (vs39.getD 0 false)) })) k ⟨[(.rp [x0a, x0b, x0c, x0d, x0e]), (weak r8.r), (.int .i64 0), (.int .i64 0)], [], false⟩)
theorem r4 (T : Nat → List SVal → Option Res) (k : Nat) (x0a : SVal) (x0b : SVal) (x0c : SVal) (x0d : SVal) (x0e : SVal) : bodyE P H T k 4 [(.agg [x0a, x0b, x0c, x0d, x0e])] = R4 T k x0a x0b x0c x0d x0e := by kernel_rfl
noncomputable def D4 (T : Nat → List SVal → Option Res) (k : Nat) : List SVal → Option Res
  | [(.agg [x0a, x0b, x0c, x0d, x0e])] => R4 T k x0a x0b x0c x0d x0e
  | a => bodyE P H T k 4 a
theorem d4 (T : Nat → List SVal → Option Res) (k : Nat) (a : List SVal) : D4 T k a = bodyE P H T k 4 a := by
  unfold D4
  split
  · exact (r4 ..).symm
  · rfl
theorem t4 (k : Nat) (x0a : SVal) (x0b : SVal) (x0c : SVal) (x0d : SVal) (x0e : SVal) : T (k + 1) 4 [(.agg [x0a, x0b, x0c, x0d, x0e])] = R4 (T k) k x0a x0b x0c x0d x0e := (by kernel_rfl : T (k + 1) 4 [(.agg [x0a, x0b, x0c, x0d, x0e])] = bodyE P H (T k) k 4 [(.agg [x0a, x0b, x0c, x0d, x0e])]).trans (r4 ..)
/-- limelight/limelightlaw11.RenderHides -/
def R5 (T : Nat → List SVal → Option Res) (k : Nat) (x0a : SVal) (x0b : SVal) (x0c : SVal) (x0d : SVal) (x0e : SVal) (x1 : SVal) : Option Res :=
  ((T 12 [(.agg [(weak x0a), (weak x0b), (weak x0c), (weak x0d), (weak x0e)])]).bind fun r1 =>
   (sNot r1.r).bind fun r2 =>
   guardX r2 false
   ((T 14 [(.agg [(weak x0a), (weak x0b), (weak x0c), (weak x0d), (weak x0e)])]).bind fun r3 =>
    (sBin .neq r3.r (.int .i64 0)).bind fun r4 =>
    guardX r4 false
    ((T 18 [(weak x0a), x1]).bind fun r5 =>
     (sNot r5.r).bind fun r6 =>
     (asB r6).bind fun b7 =>
     some [b7])
    (some [true])
    (none))
   (some [true])
   (none)).bind fun vs8 =>
  pickC (.bool (vs8.getD 0 false))
  ((T 13 []).bind fun r9 =>
   some { r := r9.r })
  ((sIdx true 7 x0a x1).bind fun e10 =>
   (sBin .neq (SVal.cell e10 0) (.int .i64 1)).bind fun r11 =>
   pickC r11
   ((T 13 []).bind fun r12 =>
    some { r := r12.r })
   (if (allOne [.v x0a, .v x0b, .v x0c, .v x0d, .v x0e]) = true then
    (T 25 [(weak x0a)]).bind fun r13 =>
    loopN (fun s14 next14 =>
     (sIn s14.k2.c0.xs.length s14.k0).bind fun j15 =>
     (s14.k2.c0.xs[j15]?).bind fun e16 =>
     if (elemOk true 7 e16) = true then
     (sLen (SVal.cell e16 6)).bind fun r17 =>
     (sBin .lss s14.k5 r17).bind fun r18 =>
     pickC r18
     ((sIn s14.k2.c0.xs.length s14.k0).bind fun j19 =>
      (s14.k2.c0.xs[j19]?).bind fun e20 =>
      if (elemOk true 7 e20) = true then
      (sIdx true 2 (SVal.cell e20 6) s14.k5).bind fun e21 =>
      if (allOne [.v (SVal.cell e21 0), .v (SVal.cell e21 1)]) = true then
      ((sBin .gtr (SVal.cell e21 0) (.int .i64 2)).bind fun r22 =>
       guardX r22 true
       ((sNot s14.k4).bind fun r23 =>
        (asB r23).bind fun b24 =>
        some [b24])
       (some [false])
       (none)).bind fun vs25 =>
      pickC (.bool (vs25.getD 0 false))
      (if (s14.k3.xs.length + ([(.agg [(.int .i64 2), (.int .i64 0)])] : List SVal).length) * 16 ≤ maxAppend then
       if (List.all [[.v (SVal.cell e21 0), .v (SVal.cell e21 1)]] allOne) = true then
       if ((s14.k3.xs ++ ([(.agg [(.int .i64 2), (.int .i64 0)])] : List SVal)).length + ([(.agg [(SVal.cell e21 0), (SVal.cell e21 1)])] : List SVal).length) * 16 ≤ maxAppend then
       (sBin .add s14.k5 (.int .i64 1)).bind fun r26 =>
       next14 ⟨[s14.k0, (.rp [(SVal.cell s14.k1 0), (SVal.cell s14.k1 1), (SVal.cell s14.k1 2), (SVal.cell s14.k1 3), (SVal.cell s14.k1 4)]), (.mb [(.sl 7 true false s14.k2.c0.xs), (weak s14.k2.c1), (weak s14.k2.c2), (weak s14.k2.c3), (weak s14.k2.c4)]), (.sl 2 true false ((s14.k3.xs ++ ([(.agg [(.int .i64 2), (.int .i64 0)])] : List SVal)) ++ ([(.agg [(SVal.cell e21 0), (SVal.cell e21 1)])] : List SVal))), (.bool true), r26], [], false⟩
       else none
       else none
       else none)
      ((guardX s14.k4 false
        ((sBin .eql (SVal.cell e21 0) (.int .i64 2)).bind fun r27 =>
         (asB r27).bind fun b28 =>
         some [b28])
        (some [true])
        (none)).bind fun vs29 =>
       if (List.all [[.v (SVal.cell e21 0), .v (SVal.cell e21 1)]] allOne) = true then
       if (s14.k3.xs.length + ([(.agg [(SVal.cell e21 0), (SVal.cell e21 1)])] : List SVal).length) * 16 ≤ maxAppend then
       (sBin .add s14.k5 (.int .i64 1)).bind fun r30 =>
       next14 ⟨[s14.k0, (.rp [(SVal.cell s14.k1 0), (SVal.cell s14.k1 1), (SVal.cell s14.k1 2), (SVal.cell s14.k1 3), (SVal.cell s14.k1 4)]), (.mb [(.sl 7 true false s14.k2.c0.xs), (weak s14.k2.c1), (weak s14.k2.c2), (weak s14.k2.c3), (weak s14.k2.c4)]), (.sl 2 true false (s14.k3.xs ++ ([(.agg [(SVal.cell e21 0), (SVal.cell e21 1)])] : List SVal))), (.bool (vs29.getD 0 false)), r30], [], false⟩
       else none
       else none)
      else none
      else none)
     ((sNot s14.k4).bind fun r31 =>
      pickC r31
      (if (s14.k3.xs.length + ([(.agg [(.int .i64 2), (.int .i64 0)])] : List SVal).length) * 16 ≤ maxAppend then
       (sIn s14.k2.c0.xs.length s14.k0).bind fun j32 =>
       (s14.k2.c0.xs[j32]?).bind fun e33 =>
       if (elemOk true 7 e33) = true then
       loopN (fun s34 next34 =>
        (sLen (SVal.cell s34.k1 0)).bind fun r35 =>
        (sBin .lss s34.k3 r35).bind fun r36 =>
        pickC r36
        ((T 26 [(weak (SVal.cell s34.k1 0)), s34.k0, s34.k3]).bind fun r37 =>
         (guardX r37.r true
          ((T 15 [(.agg [(.sl 7 false false s34.k2.c0.xs), (weak s34.k2.c1), (weak s34.k2.c2), (weak s34.k2.c3), (weak s34.k2.c4)]), s34.k3]).bind fun r38 =>
           (asB r38.r).bind fun b39 =>
           some [b39])
          (some [false])
          (none)).bind fun vs40 =>
         pickC (.bool (vs40.getD 0 false))
         (some { r := (.bool false) })
         (((sNot r37.r).bind fun r41 =>
           guardX r41 true
           ((T 15 [(.agg [(.sl 7 false false s34.k2.c0.xs), (weak s34.k2.c1), (weak s34.k2.c2), (weak s34.k2.c3), (weak s34.k2.c4)]), s34.k3]).bind fun r42 =>
            (T 15 [(.agg [(weak (SVal.cell s34.k1 0)), (weak (SVal.cell s34.k1 1)), (weak (SVal.cell s34.k1 2)), (weak (SVal.cell s34.k1 3)), (weak (SVal.cell s34.k1 4))]), s34.k3]).bind fun r43 =>
            (sBinB .neq r42.r r43.r).bind fun r44 =>
            (asB r44).bind fun b45 =>
            some [b45])
           (some [false])
           (none)).bind fun vs46 =>
          pickC (.bool (vs46.getD 0 false))
          (some { r := (.bool false) })
          ((sBin .add s34.k3 (.int .i64 1)).bind fun r47 =>
           next34 ⟨[s34.k0, (.rp [(SVal.cell s34.k1 0), (SVal.cell s34.k1 1), (SVal.cell s34.k1 2), (SVal.cell s34.k1 3), (SVal.cell s34.k1 4)]), (.mb [(.sl 7 true false s34.k2.c0.xs), (weak s34.k2.c1), (weak s34.k2.c2), (weak s34.k2.c3), (weak s34.k2.c4)]), r47], [], false⟩)))
        ((T 13 []).bind fun r48 =>
         some { r := r48.r })) k ⟨[s14.k0, (.rp [(SVal.cell s14.k1 0), (SVal.cell s14.k1 1), (SVal.cell s14.k1 2), (SVal.cell s14.k1 3), (SVal.cell s14.k1 4)]), (.mb [(.sl 7 true false (s14.k2.c0.xs.set j32 (.agg [(SVal.cell e33 0), (SVal.cell e33 1), (SVal.cell e33 2), (SVal.cell e33 3), (SVal.cell e33 4), (SVal.cell e33 5), (.sl 2 false false (s14.k3.xs ++ ([(.agg [(.int .i64 2), (.int .i64 0)])] : List SVal)))]))), (weak s14.k2.c1), (weak s14.k2.c2), (weak s14.k2.c3), (weak s14.k2.c4)]), (.int .i64 0)], [], false⟩
       else none
       else none)
      ((sIn s14.k2.c0.xs.length s14.k0).bind fun j49 =>
       (s14.k2.c0.xs[j49]?).bind fun e50 =>
       if (elemOk true 7 e50) = true then
       loopN (fun s51 next51 =>
        (sLen (SVal.cell s51.k1 0)).bind fun r52 =>
        (sBin .lss s51.k3 r52).bind fun r53 =>
        pickC r53
        ((T 26 [(weak (SVal.cell s51.k1 0)), s51.k0, s51.k3]).bind fun r54 =>
         (guardX r54.r true
          ((T 15 [(.agg [(.sl 7 false false s51.k2.c0.xs), (weak s51.k2.c1), (weak s51.k2.c2), (weak s51.k2.c3), (weak s51.k2.c4)]), s51.k3]).bind fun r55 =>
           (asB r55.r).bind fun b56 =>
           some [b56])
          (some [false])
          (none)).bind fun vs57 =>
         pickC (.bool (vs57.getD 0 false))
         (some { r := (.bool false) })
         (((sNot r54.r).bind fun r58 =>
           guardX r58 true
           ((T 15 [(.agg [(.sl 7 false false s51.k2.c0.xs), (weak s51.k2.c1), (weak s51.k2.c2), (weak s51.k2.c3), (weak s51.k2.c4)]), s51.k3]).bind fun r59 =>
            (T 15 [(.agg [(weak (SVal.cell s51.k1 0)), (weak (SVal.cell s51.k1 1)), (weak (SVal.cell s51.k1 2)), (weak (SVal.cell s51.k1 3)), (weak (SVal.cell s51.k1 4))]), s51.k3]).bind fun r60 =>
            (sBinB .neq r59.r r60.r).bind fun r61 =>
            (asB r61).bind fun b62 =>
            some [b62])
           (some [false])
           (none)).bind fun vs63 =>
          pickC (.bool (vs63.getD 0 false))
          (some { r := (.bool false) })
          ((sBin .add s51.k3 (.int .i64 1)).bind fun r64 =>
           next51 ⟨[s51.k0, (.rp [(SVal.cell s51.k1 0), (SVal.cell s51.k1 1), (SVal.cell s51.k1 2), (SVal.cell s51.k1 3), (SVal.cell s51.k1 4)]), (.mb [(.sl 7 true false s51.k2.c0.xs), (weak s51.k2.c1), (weak s51.k2.c2), (weak s51.k2.c3), (weak s51.k2.c4)]), r64], [], false⟩)))
        ((T 13 []).bind fun r65 =>
         some { r := r65.r })) k ⟨[s14.k0, (.rp [(SVal.cell s14.k1 0), (SVal.cell s14.k1 1), (SVal.cell s14.k1 2), (SVal.cell s14.k1 3), (SVal.cell s14.k1 4)]), (.mb [(.sl 7 true false (s14.k2.c0.xs.set j49 (.agg [(SVal.cell e50 0), (SVal.cell e50 1), (SVal.cell e50 2), (SVal.cell e50 3), (SVal.cell e50 4), (SVal.cell e50 5), (.sl 2 false false s14.k3.xs)]))), (weak s14.k2.c1), (weak s14.k2.c2), (weak s14.k2.c3), (weak s14.k2.c4)]), (.int .i64 0)], [], false⟩
       else none))
     else none) k ⟨[x1, (.rp [x0a, x0b, x0c, x0d, x0e]), (.mb [(.sl 7 true false r13.r.xs), (weak x0b), (weak x0c), (weak x0d), (weak x0e)]), (.sl 2 true false []), (.bool false), (.int .i64 0)], [], false⟩
    else none))
theorem r5 (T : Nat → List SVal → Option Res) (k : Nat) (x0a : SVal) (x0b : SVal) (x0c : SVal) (x0d : SVal) (x0e : SVal) (x1 : SVal) : bodyE P H T k 5 [(.agg [x0a, x0b, x0c, x0d, x0e]), x1] = R5 T k x0a x0b x0c x0d x0e x1 := by kernel_rfl
noncomputable def D5 (T : Nat → List SVal → Option Res) (k : Nat) : List SVal → Option Res
  | [(.agg [x0a, x0b, x0c, x0d, x0e]), x1] => R5 T k x0a x0b x0c x0d x0e x1
  | a => bodyE P H T k 5 a
theorem d5 (T : Nat → List SVal → Option Res) (k : Nat) (a : List SVal) : D5 T k a = bodyE P H T k 5 a := by
  unfold D5
  split
  · exact (r5 ..).symm
  · rfl
theorem t5 (k : Nat) (x0a : SVal) (x0b : SVal) (x0c : SVal) (x0d : SVal) (x0e : SVal) (x1 : SVal) : T (k + 1) 5 [(.agg [x0a, x0b, x0c, x0d, x0e]), x1] = R5 (T k) k x0a x0b x0c x0d x0e x1 := (by kernel_rfl : T (k + 1) 5 [(.agg [x0a, x0b, x0c, x0d, x0e]), x1] = bodyE P H (T k) k 5 [(.agg [x0a, x0b, x0c, x0d, x0e]), x1]).trans (r5 ..)
/-- limelight/limelightlaw11.RenderFirst -/
def R6 (T : Nat → List SVal → Option Res) (k : Nat) (x0a : SVal) (x0b : SVal) (x0c : SVal) (x0d : SVal) (x0e : SVal) : Option Res :=
  ((T 12 [(.agg [(weak x0a), (weak x0b), (weak x0c), (weak x0d), (weak x0e)])]).bind fun r1 =>
   (sNot r1.r).bind fun r2 =>
   guardX r2 false
   ((T 14 [(.agg [(weak x0a), (weak x0b), (weak x0c), (weak x0d), (weak x0e)])]).bind fun r3 =>
    (sBin .neq r3.r (.int .i64 0)).bind fun r4 =>
    (asB r4).bind fun b5 =>
    some [b5])
   (some [true])
   (none)).bind fun vs6 =>
  pickC (.bool (vs6.getD 0 false))
  ((T 13 []).bind fun r7 =>
   some { r := r7.r })
  ((T 17 [(.agg [(weak x0a), (weak x0b), (weak x0c), (weak x0d), (weak x0e)])]).bind fun r8 =>
   ((sLen r8.r).bind fun r9 =>
    (sBin .eql r9 (.int .i64 0)).bind fun r10 =>
    guardX r10 false
    ((sIdx false 1 r8.r (.int .i64 0)).bind fun e11 =>
     (sBin .neq e11 (.int .i64 0)).bind fun r12 =>
     guardX r12 false
     ((T 15 [(.agg [(weak x0a), (weak x0b), (weak x0c), (weak x0d), (weak x0e)]), (.int .i64 0)]).bind fun r13 =>
      (sNot r13.r).bind fun r14 =>
      (asB r14).bind fun b15 =>
      some [b15])
     (some [true])
     (none))
    (some [true])
    (none)).bind fun vs16 =>
   pickC (.bool (vs16.getD 0 false))
   (some { r := (.bool false) })
   (loopN (fun s17 next17 =>
     (sLen s17.k1).bind fun r18 =>
     (sBin .lss s17.k2 r18).bind fun r19 =>
     pickC r19
     ((sIdx false 1 s17.k1 s17.k2).bind fun e20 =>
      (T 23 [(weak (SVal.cell s17.k0 0)), e20]).bind fun r21 =>
      (T 27 [(weak s17.k1), r21.r]).bind fun r22 =>
      ((sBin .lss r22.r (.int .i64 0)).bind fun r23 =>
       guardX r23 false
       ((sBin .geq r22.r s17.k2).bind fun r24 =>
        (asB r24).bind fun b25 =>
        some [b25])
       (some [true])
       (none)).bind fun vs26 =>
      pickC (.bool (vs26.getD 0 false))
      (some { r := (.bool false) })
      ((sBin .add s17.k2 (.int .i64 1)).bind fun r27 =>
       next17 ⟨[(.rp [(SVal.cell s17.k0 0), (SVal.cell s17.k0 1), (SVal.cell s17.k0 2), (SVal.cell s17.k0 3), (SVal.cell s17.k0 4)]), (weak s17.k1), r27], [], false⟩))
     ((T 13 []).bind fun r28 =>
      some { r := r28.r })) k ⟨[(.rp [x0a, x0b, x0c, x0d, x0e]), (weak r8.r), (.int .i64 1)], [], false⟩))
theorem r6 (T : Nat → List SVal → Option Res) (k : Nat) (x0a : SVal) (x0b : SVal) (x0c : SVal) (x0d : SVal) (x0e : SVal) : bodyE P H T k 6 [(.agg [x0a, x0b, x0c, x0d, x0e])] = R6 T k x0a x0b x0c x0d x0e := by kernel_rfl
noncomputable def D6 (T : Nat → List SVal → Option Res) (k : Nat) : List SVal → Option Res
  | [(.agg [x0a, x0b, x0c, x0d, x0e])] => R6 T k x0a x0b x0c x0d x0e
  | a => bodyE P H T k 6 a
theorem d6 (T : Nat → List SVal → Option Res) (k : Nat) (a : List SVal) : D6 T k a = bodyE P H T k 6 a := by
  unfold D6
  split
  · exact (r6 ..).symm
  · rfl
theorem t6 (k : Nat) (x0a : SVal) (x0b : SVal) (x0c : SVal) (x0d : SVal) (x0e : SVal) : T (k + 1) 6 [(.agg [x0a, x0b, x0c, x0d, x0e])] = R6 (T k) k x0a x0b x0c x0d x0e := (by kernel_rfl : T (k + 1) 6 [(.agg [x0a, x0b, x0c, x0d, x0e])] = bodyE P H (T k) k 6 [(.agg [x0a, x0b, x0c, x0d, x0e])]).trans (r6 ..)
/-- limelight/limelightlaw12.InertTells -/
def R7 (T : Nat → List SVal → Option Res) (k : Nat) (x0a : SVal) (x0b : SVal) (x0c : SVal) (x0d : SVal) (x0e : SVal) (x1 : SVal) : Option Res :=
  (T 12 [(.agg [(weak x0a), (weak x0b), (weak x0c), (weak x0d), (weak x0e)])]).bind fun r1 =>
  (sNot r1.r).bind fun r2 =>
  pickC r2
  ((T 28 []).bind fun r3 =>
   some { r := r3.r })
  ((T 14 [(.agg [(weak x0a), (weak x0b), (weak x0c), (weak x0d), (weak x0e)])]).bind fun r4 =>
   (sBin .neq r4.r (.int .i64 0)).bind fun r5 =>
   pickC r5
   (((T 29 [(.agg [(weak x0a), (weak x0b), (weak x0c), (weak x0d), (weak x0e)]), x1]).bind fun r6 =>
     (sNot r6.r).bind fun r7 =>
     guardX r7 true
     ((T 30 [(.agg [(weak x0a), (weak x0b), (weak x0c), (weak x0d), (weak x0e)]), x1]).bind fun r8 =>
      (sNot r8.r).bind fun r9 =>
      guardX r9 true
      ((T 31 [(.agg [(weak x0a), (weak x0b), (weak x0c), (weak x0d), (weak x0e)])]).bind fun r10 =>
       (sLen r10.r).bind fun r11 =>
       (sBin .eql r11 (.int .i64 0)).bind fun r12 =>
       guardX r12 true
       ((T 28 []).bind fun r13 =>
        (asB r13.r).bind fun b14 =>
        some [b14])
       (some [false])
       (none))
      (some [false])
      (none))
     (some [false])
     (none)).bind fun vs15 =>
    some { r := (.bool (vs15.getD 0 false)) })
   ((T 18 [(weak x0a), x1]).bind fun r16 =>
    (sNot r16.r).bind fun r17 =>
    pickC r17
    (((T 29 [(.agg [(weak x0a), (weak x0b), (weak x0c), (weak x0d), (weak x0e)]), x1]).bind fun r18 =>
      (sNot r18.r).bind fun r19 =>
      guardX r19 true
      ((T 30 [(.agg [(weak x0a), (weak x0b), (weak x0c), (weak x0d), (weak x0e)]), x1]).bind fun r20 =>
       (sNot r20.r).bind fun r21 =>
       guardX r21 true
       ((T 28 []).bind fun r22 =>
        (asB r22.r).bind fun b23 =>
        some [b23])
       (some [false])
       (none))
      (some [false])
      (none)).bind fun vs24 =>
     some { r := (.bool (vs24.getD 0 false)) })
    (((T 29 [(.agg [(weak x0a), (weak x0b), (weak x0c), (weak x0d), (weak x0e)]), x1]).bind fun r25 =>
      (T 32 [(.agg [(weak x0a), (weak x0b), (weak x0c), (weak x0d), (weak x0e)]), x1]).bind fun r26 =>
      (sBinB .eql r25.r r26.r).bind fun r27 =>
      guardX r27 true
      ((T 30 [(.agg [(weak x0a), (weak x0b), (weak x0c), (weak x0d), (weak x0e)]), x1]).bind fun r28 =>
       (T 33 [(.agg [(weak x0a), (weak x0b), (weak x0c), (weak x0d), (weak x0e)]), x1]).bind fun r29 =>
       (sBinB .eql r28.r r29.r).bind fun r30 =>
       guardX r30 true
       ((T 31 [(.agg [(weak x0a), (weak x0b), (weak x0c), (weak x0d), (weak x0e)])]).bind fun r31 =>
        (T 34 [(.agg [(weak x0a), (weak x0b), (weak x0c), (weak x0d), (weak x0e)])]).bind fun r32 =>
        (T 21 [(weak r31.r), (weak r32.r)]).bind fun r33 =>
        guardX r33.r true
        ((T 28 []).bind fun r34 =>
         (asB r34.r).bind fun b35 =>
         some [b35])
        (some [false])
        (none))
       (some [false])
       (none))
      (some [false])
      (none)).bind fun vs36 =>
     some { r := (.bool (vs36.getD 0 false)) })))
theorem r7 (T : Nat → List SVal → Option Res) (k : Nat) (x0a : SVal) (x0b : SVal) (x0c : SVal) (x0d : SVal) (x0e : SVal) (x1 : SVal) : bodyE P H T k 7 [(.agg [x0a, x0b, x0c, x0d, x0e]), x1] = R7 T k x0a x0b x0c x0d x0e x1 := by kernel_rfl
noncomputable def D7 (T : Nat → List SVal → Option Res) (k : Nat) : List SVal → Option Res
  | [(.agg [x0a, x0b, x0c, x0d, x0e]), x1] => R7 T k x0a x0b x0c x0d x0e x1
  | a => bodyE P H T k 7 a
theorem d7 (T : Nat → List SVal → Option Res) (k : Nat) (a : List SVal) : D7 T k a = bodyE P H T k 7 a := by
  unfold D7
  split
  · exact (r7 ..).symm
  · rfl
theorem t7 (k : Nat) (x0a : SVal) (x0b : SVal) (x0c : SVal) (x0d : SVal) (x0e : SVal) (x1 : SVal) : T (k + 1) 7 [(.agg [x0a, x0b, x0c, x0d, x0e]), x1] = R7 (T k) k x0a x0b x0c x0d x0e x1 := (by kernel_rfl : T (k + 1) 7 [(.agg [x0a, x0b, x0c, x0d, x0e]), x1] = bodyE P H (T k) k 7 [(.agg [x0a, x0b, x0c, x0d, x0e]), x1]).trans (r7 ..)
/-- limelight/limelightlaw12.InertModal -/
def R8 (T : Nat → List SVal → Option Res) (k : Nat) (x0a : SVal) (x0b : SVal) (x0c : SVal) (x0d : SVal) (x0e : SVal) : Option Res :=
  ((T 12 [(.agg [(weak x0a), (weak x0b), (weak x0c), (weak x0d), (weak x0e)])]).bind fun r1 =>
   (sNot r1.r).bind fun r2 =>
   guardX r2 false
   ((T 14 [(.agg [(weak x0a), (weak x0b), (weak x0c), (weak x0d), (weak x0e)])]).bind fun r3 =>
    (sBin .neq r3.r (.int .i64 0)).bind fun r4 =>
    (asB r4).bind fun b5 =>
    some [b5])
   (some [true])
   (none)).bind fun vs6 =>
  pickC (.bool (vs6.getD 0 false))
  ((T 28 []).bind fun r7 =>
   some { r := r7.r })
  ((T 35 [(.agg [(weak x0a), (weak x0b), (weak x0c), (weak x0d), (weak x0e)])]).bind fun r8 =>
   loopN (fun s9 next9 =>
    (sLen (SVal.cell s9.k0 0)).bind fun r10 =>
    (sBin .lss s9.k2 r10).bind fun r11 =>
    pickC r11
    (((sBin .eql s9.k1 (.int .i64 (-1))).bind fun r12 =>
      guardX r12 false
      ((T 26 [(weak (SVal.cell s9.k0 0)), s9.k1, s9.k2]).bind fun r13 =>
       (asB r13.r).bind fun b14 =>
       some [b14])
      (some [true])
      (none)).bind fun vs15 =>
     ((sNot (.bool (vs15.getD 0 false))).bind fun r16 =>
      guardX r16 true
      ((sBin .neq s9.k2 (.int .i64 0)).bind fun r17 =>
       (asB r17).bind fun b18 =>
       some [b18])
      (some [false])
      (none)).bind fun vs19 =>
     pickC (.bool (vs19.getD 0 false))
     (((T 29 [(.agg [(weak (SVal.cell s9.k0 0)), (weak (SVal.cell s9.k0 1)), (weak (SVal.cell s9.k0 2)), (weak (SVal.cell s9.k0 3)), (weak (SVal.cell s9.k0 4))]), s9.k2]).bind fun r20 =>
       (sNot r20.r).bind fun r21 =>
       guardX r21 false
       ((T 30 [(.agg [(weak (SVal.cell s9.k0 0)), (weak (SVal.cell s9.k0 1)), (weak (SVal.cell s9.k0 2)), (weak (SVal.cell s9.k0 3)), (weak (SVal.cell s9.k0 4))]), s9.k2]).bind fun r22 =>
        (sNot r22.r).bind fun r23 =>
        (asB r23).bind fun b24 =>
        some [b24])
       (some [true])
       (none)).bind fun vs25 =>
      pickC (.bool (vs25.getD 0 false))
      (some { r := (.bool false) })
      ((sBin .add s9.k2 (.int .i64 1)).bind fun r26 =>
       next9 ⟨[(.rp [(SVal.cell s9.k0 0), (SVal.cell s9.k0 1), (SVal.cell s9.k0 2), (SVal.cell s9.k0 3), (SVal.cell s9.k0 4)]), s9.k1, r26], [], false⟩))
     (loopN (fun s27 next27 =>
       (sLen (SVal.cell s27.k0 0)).bind fun r28 =>
       (sBin .lss s27.k5 r28).bind fun r29 =>
       pickC r29
       (((T 36 [(weak (SVal.cell s27.k0 0)), s27.k5, (.int .i64 3)]).bind fun r30 =>
         guardX r30.r true
         ((T 26 [(weak (SVal.cell s27.k0 0)), s27.k5, s27.k2]).bind fun r31 =>
          guardX r31.r true
          ((sNot s27.k3).bind fun r32 =>
           guardX r32 false
           ((sBin .eql s27.k1 (.int .i64 (-1))).bind fun r33 =>
            guardX r33 false
            ((T 26 [(weak (SVal.cell s27.k0 0)), s27.k1, s27.k5]).bind fun r34 =>
             (asB r34.r).bind fun b35 =>
             some [b35])
            (some [true])
            (none))
           (some [true])
           (none))
          (some [false])
          (none))
         (some [false])
         (none)).bind fun vs36 =>
        pickC (.bool (vs36.getD 0 false))
        ((sBin .add s27.k5 (.int .i64 1)).bind fun r37 =>
         next27 ⟨[(.rp [(SVal.cell s27.k0 0), (SVal.cell s27.k0 1), (SVal.cell s27.k0 2), (SVal.cell s27.k0 3), (SVal.cell s27.k0 4)]), s27.k1, s27.k2, s27.k3, (.bool true), r37], [], false⟩)
        ((sBin .add s27.k5 (.int .i64 1)).bind fun r38 =>
         next27 ⟨[(.rp [(SVal.cell s27.k0 0), (SVal.cell s27.k0 1), (SVal.cell s27.k0 2), (SVal.cell s27.k0 3), (SVal.cell s27.k0 4)]), s27.k1, s27.k2, s27.k3, s27.k4, r38], [], false⟩))
       (((T 29 [(.agg [(weak (SVal.cell s27.k0 0)), (weak (SVal.cell s27.k0 1)), (weak (SVal.cell s27.k0 2)), (weak (SVal.cell s27.k0 3)), (weak (SVal.cell s27.k0 4))]), s27.k2]).bind fun r39 =>
         (sBinB .neq r39.r s27.k4).bind fun r40 =>
         guardX r40 false
         ((T 31 [(.agg [(weak (SVal.cell s27.k0 0)), (weak (SVal.cell s27.k0 1)), (weak (SVal.cell s27.k0 2)), (weak (SVal.cell s27.k0 3)), (weak (SVal.cell s27.k0 4))])]).bind fun r41 =>
          (T 24 [(weak r41.r), s27.k2]).bind fun r42 =>
          if isSc1 r42.r = true then
          (sBinB .neq r42.r s27.k4).bind fun r43 =>
          (asB r43).bind fun b44 =>
          some [b44]
          else none)
         (some [true])
         (none)).bind fun vs45 =>
        pickC (.bool (vs45.getD 0 false))
        (some { r := (.bool false) })
        ((sBin .add s27.k2 (.int .i64 1)).bind fun r46 =>
         next9 ⟨[(.rp [(SVal.cell s27.k0 0), (SVal.cell s27.k0 1), (SVal.cell s27.k0 2), (SVal.cell s27.k0 3), (SVal.cell s27.k0 4)]), s27.k1, r46], [], false⟩))) k ⟨[(.rp [(SVal.cell s9.k0 0), (SVal.cell s9.k0 1), (SVal.cell s9.k0 2), (SVal.cell s9.k0 3), (SVal.cell s9.k0 4)]), s9.k1, s9.k2, (.bool (vs15.getD 0 false)), (.bool false), (.int .i64 0)], [], false⟩))
    ((T 28 []).bind fun r47 =>
     some { r := r47.r })) k ⟨[(.rp [x0a, x0b, x0c, x0d, x0e]), r8.r, (.int .i64 0)], [], false⟩)
theorem r8 (T : Nat → List SVal → Option Res) (k : Nat) (x0a : SVal) (x0b : SVal) (x0c : SVal) (x0d : SVal) (x0e : SVal) : bodyE P H T k 8 [(.agg [x0a, x0b, x0c, x0d, x0e])] = R8 T k x0a x0b x0c x0d x0e := by kernel_rfl
noncomputable def D8 (T : Nat → List SVal → Option Res) (k : Nat) : List SVal → Option Res
  | [(.agg [x0a, x0b, x0c, x0d, x0e])] => R8 T k x0a x0b x0c x0d x0e
  | a => bodyE P H T k 8 a
theorem d8 (T : Nat → List SVal → Option Res) (k : Nat) (a : List SVal) : D8 T k a = bodyE P H T k 8 a := by
  unfold D8
  split
  · exact (r8 ..).symm
  · rfl
theorem t8 (k : Nat) (x0a : SVal) (x0b : SVal) (x0c : SVal) (x0d : SVal) (x0e : SVal) : T (k + 1) 8 [(.agg [x0a, x0b, x0c, x0d, x0e])] = R8 (T k) k x0a x0b x0c x0d x0e := (by kernel_rfl : T (k + 1) 8 [(.agg [x0a, x0b, x0c, x0d, x0e])] = bodyE P H (T k) k 8 [(.agg [x0a, x0b, x0c, x0d, x0e])]).trans (r8 ..)
/-- limelight/limelightlaw12.InertNone -/
def R9 (T : Nat → List SVal → Option Res) (k : Nat) (x0a : SVal) (x0b : SVal) (x0c : SVal) (x0d : SVal) (x0e : SVal) : Option Res :=
  ((T 12 [(.agg [(weak x0a), (weak x0b), (weak x0c), (weak x0d), (weak x0e)])]).bind fun r1 =>
   (sNot r1.r).bind fun r2 =>
   guardX r2 false
   ((T 14 [(.agg [(weak x0a), (weak x0b), (weak x0c), (weak x0d), (weak x0e)])]).bind fun r3 =>
    (sBin .neq r3.r (.int .i64 0)).bind fun r4 =>
    (asB r4).bind fun b5 =>
    some [b5])
   (some [true])
   (none)).bind fun vs6 =>
  pickC (.bool (vs6.getD 0 false))
  ((T 28 []).bind fun r7 =>
   some { r := r7.r })
  (loopN (fun s8 next8 =>
    (sLen (SVal.cell s8.k0 0)).bind fun r9 =>
    (sBin .lss s8.k2 r9).bind fun r10 =>
    pickC r10
    ((guardX s8.k1 false
      ((T 36 [(weak (SVal.cell s8.k0 0)), s8.k2, (.int .i64 3)]).bind fun r11 =>
       (asB r11.r).bind fun b12 =>
       some [b12])
      (some [true])
      (none)).bind fun vs13 =>
     (sBin .add s8.k2 (.int .i64 1)).bind fun r14 =>
     next8 ⟨[(.rp [(SVal.cell s8.k0 0), (SVal.cell s8.k0 1), (SVal.cell s8.k0 2), (SVal.cell s8.k0 3), (SVal.cell s8.k0 4)]), (.bool (vs13.getD 0 false)), r14], [], false⟩)
    ((T 31 [(.agg [(weak (SVal.cell s8.k0 0)), (weak (SVal.cell s8.k0 1)), (weak (SVal.cell s8.k0 2)), (weak (SVal.cell s8.k0 3)), (weak (SVal.cell s8.k0 4))])]).bind fun r15 =>
     ((sNot s8.k1).bind fun r16 =>
      guardX r16 true
      ((sLen (SVal.cell s8.k0 2)).bind fun r17 =>
       (sBin .eql r17 (.int .i64 0)).bind fun r18 =>
       guardX r18 true
       ((sLen r15.r).bind fun r19 =>
        (sBin .gtr r19 (.int .i64 0)).bind fun r20 =>
        (asB r20).bind fun b21 =>
        some [b21])
       (some [false])
       (none))
      (some [false])
      (none)).bind fun vs22 =>
     pickC (.bool (vs22.getD 0 false))
     (some { r := (.bool false) })
     (((T 24 [(weak r15.r), (.int .i64 0)]).bind fun r23 =>
       if isSc1 r23.r = true then
       (sNot r23.r).bind fun r24 =>
       guardX r24 true
       ((T 30 [(.agg [(weak (SVal.cell s8.k0 0)), (weak (SVal.cell s8.k0 1)), (weak (SVal.cell s8.k0 2)), (weak (SVal.cell s8.k0 3)), (weak (SVal.cell s8.k0 4))]), (.int .i64 0)]).bind fun r25 =>
        (sNot r25.r).bind fun r26 =>
        guardX r26 true
        ((T 28 []).bind fun r27 =>
         (asB r27.r).bind fun b28 =>
         some [b28])
        (some [false])
        (none))
       (some [false])
       (none)
       else none).bind fun vs29 =>
      some { r := (.bool (vs29.getD 0 false)) }))) k ⟨[(.rp [x0a, x0b, x0c, x0d, x0e]), (.bool false), (.int .i64 0)], [], false⟩)
theorem r9 (T : Nat → List SVal → Option Res) (k : Nat) (x0a : SVal) (x0b : SVal) (x0c : SVal) (x0d : SVal) (x0e : SVal) : bodyE P H T k 9 [(.agg [x0a, x0b, x0c, x0d, x0e])] = R9 T k x0a x0b x0c x0d x0e := by kernel_rfl
noncomputable def D9 (T : Nat → List SVal → Option Res) (k : Nat) : List SVal → Option Res
  | [(.agg [x0a, x0b, x0c, x0d, x0e])] => R9 T k x0a x0b x0c x0d x0e
  | a => bodyE P H T k 9 a
theorem d9 (T : Nat → List SVal → Option Res) (k : Nat) (a : List SVal) : D9 T k a = bodyE P H T k 9 a := by
  unfold D9
  split
  · exact (r9 ..).symm
  · rfl
theorem t9 (k : Nat) (x0a : SVal) (x0b : SVal) (x0c : SVal) (x0d : SVal) (x0e : SVal) : T (k + 1) 9 [(.agg [x0a, x0b, x0c, x0d, x0e])] = R9 (T k) k x0a x0b x0c x0d x0e := (by kernel_rfl : T (k + 1) 9 [(.agg [x0a, x0b, x0c, x0d, x0e])] = bodyE P H (T k) k 9 [(.agg [x0a, x0b, x0c, x0d, x0e])]).trans (r9 ..)
/-- limelight/limelightlaw12.InertBelow -/
def R10 (T : Nat → List SVal → Option Res) (k : Nat) (x0a : SVal) (x0b : SVal) (x0c : SVal) (x0d : SVal) (x0e : SVal) (x1 : SVal) (x2 : SVal) : Option Res :=
  ((T 12 [(.agg [(weak x0a), (weak x0b), (weak x0c), (weak x0d), (weak x0e)])]).bind fun r1 =>
   (sNot r1.r).bind fun r2 =>
   guardX r2 false
   ((T 14 [(.agg [(weak x0a), (weak x0b), (weak x0c), (weak x0d), (weak x0e)])]).bind fun r3 =>
    (sBin .neq r3.r (.int .i64 0)).bind fun r4 =>
    guardX r4 false
    ((T 37 [(weak x0a), x1, x2]).bind fun r5 =>
     (sNot r5.r).bind fun r6 =>
     (asB r6).bind fun b7 =>
     some [b7])
    (some [true])
    (none))
   (some [true])
   (none)).bind fun vs8 =>
  pickC (.bool (vs8.getD 0 false))
  ((T 28 []).bind fun r9 =>
   some { r := r9.r })
  (((T 26 [(weak x0a), x1, x2]).bind fun r10 =>
    (sNot r10.r).bind fun r11 =>
    guardX r11 false
    ((T 29 [(.agg [(weak x0a), (weak x0b), (weak x0c), (weak x0d), (weak x0e)]), x1]).bind fun r12 =>
     (sNot r12.r).bind fun r13 =>
     (asB r13).bind fun b14 =>
     some [b14])
    (some [true])
    (none)).bind fun vs15 =>
   pickC (.bool (vs15.getD 0 false))
   ((T 28 []).bind fun r16 =>
    some { r := r16.r })
   ((T 35 [(.agg [(weak x0a), (weak x0b), (weak x0c), (weak x0d), (weak x0e)])]).bind fun r17 =>
    ((sBin .neq r17.r (.int .i64 (-1))).bind fun r18 =>
     guardX r18 true
     ((T 26 [(weak x0a), r17.r, x2]).bind fun r19 =>
      guardX r19.r true
      ((T 26 [(weak x0a), r17.r, x1]).bind fun r20 =>
       (sNot r20.r).bind fun r21 =>
       (asB r21).bind fun b22 =>
       some [b22])
      (some [false])
      (none))
     (some [false])
     (none)).bind fun vs23 =>
    pickC (.bool (vs23.getD 0 false))
    ((T 28 []).bind fun r24 =>
     some { r := r24.r })
    (((T 29 [(.agg [(weak x0a), (weak x0b), (weak x0c), (weak x0d), (weak x0e)]), x2]).bind fun r25 =>
      guardX r25.r true
      ((T 28 []).bind fun r26 =>
       (asB r26.r).bind fun b27 =>
       some [b27])
      (some [false])
      (none)).bind fun vs28 =>
     some { r := (.bool (vs28.getD 0 false)) })))
theorem r10 (T : Nat → List SVal → Option Res) (k : Nat) (x0a : SVal) (x0b : SVal) (x0c : SVal) (x0d : SVal) (x0e : SVal) (x1 : SVal) (x2 : SVal) : bodyE P H T k 10 [(.agg [x0a, x0b, x0c, x0d, x0e]), x1, x2] = R10 T k x0a x0b x0c x0d x0e x1 x2 := by kernel_rfl
noncomputable def D10 (T : Nat → List SVal → Option Res) (k : Nat) : List SVal → Option Res
  | [(.agg [x0a, x0b, x0c, x0d, x0e]), x1, x2] => R10 T k x0a x0b x0c x0d x0e x1 x2
  | a => bodyE P H T k 10 a
theorem d10 (T : Nat → List SVal → Option Res) (k : Nat) (a : List SVal) : D10 T k a = bodyE P H T k 10 a := by
  unfold D10
  split
  · exact (r10 ..).symm
  · rfl
theorem t10 (k : Nat) (x0a : SVal) (x0b : SVal) (x0c : SVal) (x0d : SVal) (x0e : SVal) (x1 : SVal) (x2 : SVal) : T (k + 1) 10 [(.agg [x0a, x0b, x0c, x0d, x0e]), x1, x2] = R10 (T k) k x0a x0b x0c x0d x0e x1 x2 := (by kernel_rfl : T (k + 1) 10 [(.agg [x0a, x0b, x0c, x0d, x0e]), x1, x2] = bodyE P H (T k) k 10 [(.agg [x0a, x0b, x0c, x0d, x0e]), x1, x2]).trans (r10 ..)
/-- limelight/limelightlaw12.InertHighest -/
def R11 (T : Nat → List SVal → Option Res) (k : Nat) (x0a : SVal) (x0b : SVal) (x0c : SVal) (x0d : SVal) (x0e : SVal) (x1 : SVal) : Option Res :=
  ((T 12 [(.agg [(weak x0a), (weak x0b), (weak x0c), (weak x0d), (weak x0e)])]).bind fun r1 =>
   (sNot r1.r).bind fun r2 =>
   guardX r2 false
   ((T 14 [(.agg [(weak x0a), (weak x0b), (weak x0c), (weak x0d), (weak x0e)])]).bind fun r3 =>
    (sBin .neq r3.r (.int .i64 0)).bind fun r4 =>
    (asB r4).bind fun b5 =>
    some [b5])
   (some [true])
   (none)).bind fun vs6 =>
  pickC (.bool (vs6.getD 0 false))
  ((T 28 []).bind fun r7 =>
   some { r := r7.r })
  ((T 35 [(.agg [(weak x0a), (weak x0b), (weak x0c), (weak x0d), (weak x0e)])]).bind fun r8 =>
   loopN (fun s9 next9 =>
    ((sLen (SVal.cell s9.k1 0)).bind fun r10 =>
     (sBin .lss s9.k3 r10).bind fun r11 =>
     guardX r11 true
     ((sBin .neq s9.k2 (.int .i64 (-1))).bind fun r12 =>
      (asB r12).bind fun b13 =>
      some [b13])
     (some [false])
     (none)).bind fun vs14 =>
    pickC (.bool (vs14.getD 0 false))
    (((T 26 [(weak (SVal.cell s9.k1 0)), s9.k2, s9.k3]).bind fun r15 =>
      guardX r15.r true
      ((T 30 [(.agg [(weak (SVal.cell s9.k1 0)), (weak (SVal.cell s9.k1 1)), (weak (SVal.cell s9.k1 2)), (weak (SVal.cell s9.k1 3)), (weak (SVal.cell s9.k1 4))]), s9.k3]).bind fun r16 =>
       (asB r16.r).bind fun b17 =>
       some [b17])
      (some [false])
      (none)).bind fun vs18 =>
     pickC (.bool (vs18.getD 0 false))
     (some { r := (.bool false) })
     ((sBin .add s9.k3 (.int .i64 1)).bind fun r19 =>
      next9 ⟨[s9.k0, (.rp [(SVal.cell s9.k1 0), (SVal.cell s9.k1 1), (SVal.cell s9.k1 2), (SVal.cell s9.k1 3), (SVal.cell s9.k1 4)]), s9.k2, r19], [], false⟩))
    ((T 38 [(.agg [(weak (SVal.cell s9.k1 0)), (weak (SVal.cell s9.k1 1)), (weak (SVal.cell s9.k1 2)), (weak (SVal.cell s9.k1 3)), (weak (SVal.cell s9.k1 4))]), s9.k0, (.bool true)]).bind fun r20 =>
     if (allOne [.v r20.r.c0.c0, .v r20.r.c0.c1, .v r20.r.c0.c2, .v r20.r.c0.c3, .v r20.r.c0.c4]) = true then
     (sBin .neq r20.r.c1 (.int .i64 0)).bind fun r21 =>
     pickC r21
     ((T 28 []).bind fun r22 =>
      some { r := r22.r })
     (((sBin .neq s9.k2 (.int .i64 (-1))).bind fun r23 =>
       guardX r23 true
       ((T 30 [(.agg [(weak r20.r.c0.c0), (weak r20.r.c0.c1), (weak r20.r.c0.c2), (weak r20.r.c0.c3), (weak r20.r.c0.c4)]), s9.k2]).bind fun r24 =>
        (T 26 [(weak (SVal.cell s9.k1 0)), s9.k0, s9.k2]).bind fun r25 =>
        (sBinB .eql r24.r r25.r).bind fun r26 =>
        (asB r26).bind fun b27 =>
        some [b27])
       (some [false])
       (none)).bind fun vs28 =>
      pickC (.bool (vs28.getD 0 false))
      (some { r := (.bool false) })
      (((T 30 [(.agg [(weak r20.r.c0.c0), (weak r20.r.c0.c1), (weak r20.r.c0.c2), (weak r20.r.c0.c3), (weak r20.r.c0.c4)]), s9.k0]).bind fun r29 =>
        (sNot r29.r).bind fun r30 =>
        guardX r30 true
        ((T 28 []).bind fun r31 =>
         (asB r31.r).bind fun b32 =>
         some [b32])
        (some [false])
        (none)).bind fun vs33 =>
       some { r := (.bool (vs33.getD 0 false)) }))
     else none)) k ⟨[x1, (.rp [x0a, x0b, x0c, x0d, x0e]), r8.r, (.int .i64 0)], [], false⟩)
theorem r11 (T : Nat → List SVal → Option Res) (k : Nat) (x0a : SVal) (x0b : SVal) (x0c : SVal) (x0d : SVal) (x0e : SVal) (x1 : SVal) : bodyE P H T k 11 [(.agg [x0a, x0b, x0c, x0d, x0e]), x1] = R11 T k x0a x0b x0c x0d x0e x1 := by kernel_rfl
noncomputable def D11 (T : Nat → List SVal → Option Res) (k : Nat) : List SVal → Option Res
  | [(.agg [x0a, x0b, x0c, x0d, x0e]), x1] => R11 T k x0a x0b x0c x0d x0e x1
  | a => bodyE P H T k 11 a
theorem d11 (T : Nat → List SVal → Option Res) (k : Nat) (a : List SVal) : D11 T k a = bodyE P H T k 11 a := by
  unfold D11
  split
  · exact (r11 ..).symm
  · rfl
theorem t11 (k : Nat) (x0a : SVal) (x0b : SVal) (x0c : SVal) (x0d : SVal) (x0e : SVal) (x1 : SVal) : T (k + 1) 11 [(.agg [x0a, x0b, x0c, x0d, x0e]), x1] = R11 (T k) k x0a x0b x0c x0d x0e x1 := (by kernel_rfl : T (k + 1) 11 [(.agg [x0a, x0b, x0c, x0d, x0e]), x1] = bodyE P H (T k) k 11 [(.agg [x0a, x0b, x0c, x0d, x0e]), x1]).trans (r11 ..)
/-- limelight/limelightref10.Small -/
def R12 (T : Nat → List SVal → Option Res) (k : Nat) (x0a : SVal) (x0b : SVal) (x0c : SVal) (x0d : SVal) (x0e : SVal) : Option Res :=
  ((T 39 [(weak x0a)]).bind fun r1 =>
   guardX r1.r true
   ((sLen x0a).bind fun r2 =>
    (sBin .leq r2 (.int .i64 16)).bind fun r3 =>
    guardX r3 true
    ((sLen x0b).bind fun r4 =>
     (sBin .leq r4 (.int .i64 40)).bind fun r5 =>
     guardX r5 true
     ((sLen x0c).bind fun r6 =>
      (sBin .leq r6 (.int .i64 40)).bind fun r7 =>
      guardX r7 true
      ((sLen x0d).bind fun r8 =>
       (sBin .leq r8 (.int .i64 40)).bind fun r9 =>
       guardX r9 true
       ((sLen x0e).bind fun r10 =>
        (sBin .leq r10 (.int .i64 80)).bind fun r11 =>
        (asB r11).bind fun b12 =>
        some [b12])
       (some [false])
       (none))
      (some [false])
      (none))
     (some [false])
     (none))
    (some [false])
    (none))
   (some [false])
   (none)).bind fun vs13 =>
  some { r := (.bool (vs13.getD 0 false)) }
theorem r12 (T : Nat → List SVal → Option Res) (k : Nat) (x0a : SVal) (x0b : SVal) (x0c : SVal) (x0d : SVal) (x0e : SVal) : bodyE P H T k 12 [(.agg [x0a, x0b, x0c, x0d, x0e])] = R12 T k x0a x0b x0c x0d x0e := by kernel_rfl
noncomputable def D12 (T : Nat → List SVal → Option Res) (k : Nat) : List SVal → Option Res
  | [(.agg [x0a, x0b, x0c, x0d, x0e])] => R12 T k x0a x0b x0c x0d x0e
  | a => bodyE P H T k 12 a
theorem d12 (T : Nat → List SVal → Option Res) (k : Nat) (a : List SVal) : D12 T k a = bodyE P H T k 12 a := by
  unfold D12
  split
  · exact (r12 ..).symm
  · rfl
theorem t12 (k : Nat) (x0a : SVal) (x0b : SVal) (x0c : SVal) (x0d : SVal) (x0e : SVal) : T (k + 1) 12 [(.agg [x0a, x0b, x0c, x0d, x0e])] = R12 (T k) k x0a x0b x0c x0d x0e := (by kernel_rfl : T (k + 1) 12 [(.agg [x0a, x0b, x0c, x0d, x0e])] = bodyE P H (T k) k 12 [(.agg [x0a, x0b, x0c, x0d, x0e])]).trans (r12 ..)
/-- limelight/limelightlaw11.live -/
def R13 (T : Nat → List SVal → Option Res) (k : Nat) : Option Res :=
  ((T 17 [(.agg [(.sl 7 false false [(.agg [(.int .i64 0), (.int .i64 0), (.int .i64 (-1)), (.sl 1 false false [(.int .i64 1), (.int .i64 3), (.int .i64 4)]), (.int .i64 (-1)), (.int .i64 (-1)), (.sl 2 false true [])]), (.agg [(.int .i64 1), (.int .i64 2), (.int .i64 0), (.sl 1 false false [(.int .i64 2)]), (.int .i64 (-1)), (.int .i64 (-1)), (.sl 2 false true [])]), (.agg [(.int .i64 2), (.int .i64 0), (.int .i64 1), (.sl 1 false true []), (.int .i64 (-1)), (.int .i64 (-1)), (.sl 2 false true [])]), (.agg [(.int .i64 1), (.int .i64 0), (.int .i64 0), (.sl 1 false true []), (.int .i64 (-1)), (.int .i64 (-1)), (.sl 2 false false [(.agg [(.int .i64 2), (.int .i64 0)])])]), (.agg [(.int .i64 1), (.int .i64 0), (.int .i64 0), (.sl 1 false true []), (.int .i64 (-1)), (.int .i64 (-1)), (.sl 2 false false [(.agg [(.int .i64 6), (.int .i64 1)])])])]), (.sl 1 false false []), (.sl 1 false false []), (.sl 2 false false []), (.sl 1 false false [])])]).bind fun r1 =>
   (T 21 [(weak r1.r), (.sl 1 false false [(.int .i64 0)])]).bind fun r2 =>
   guardX r2.r true
   ((T 17 [(.agg [(.sl 7 false false [(.agg [(.int .i64 0), (.int .i64 0), (.int .i64 (-1)), (.sl 1 false false [(.int .i64 1), (.int .i64 3), (.int .i64 4)]), (.int .i64 (-1)), (.int .i64 (-1)), (.sl 2 false true [])]), (.agg [(.int .i64 1), (.int .i64 2), (.int .i64 0), (.sl 1 false false [(.int .i64 2)]), (.int .i64 (-1)), (.int .i64 (-1)), (.sl 2 false true [])]), (.agg [(.int .i64 2), (.int .i64 0), (.int .i64 1), (.sl 1 false true []), (.int .i64 (-1)), (.int .i64 (-1)), (.sl 2 false true [])]), (.agg [(.int .i64 1), (.int .i64 0), (.int .i64 0), (.sl 1 false true []), (.int .i64 (-1)), (.int .i64 (-1)), (.sl 2 false false [(.agg [(.int .i64 2), (.int .i64 0)])])]), (.agg [(.int .i64 1), (.int .i64 0), (.int .i64 0), (.sl 1 false true []), (.int .i64 (-1)), (.int .i64 (-1)), (.sl 2 false false [(.agg [(.int .i64 6), (.int .i64 1)])])])]), (.sl 1 false false [(.int .i64 1)]), (.sl 1 false false []), (.sl 2 false false [(.agg [(.int .i64 4), (.int .i64 (-1))])]), (.sl 1 false false [(.int .i64 4)])])]).bind fun r3 =>
    (T 21 [(weak r3.r), (.sl 1 false false [(.int .i64 0), (.int .i64 1), (.int .i64 2), (.int .i64 4)])]).bind fun r4 =>
    guardX r4.r true
    ((T 15 [(.agg [(.sl 7 false false [(.agg [(.int .i64 0), (.int .i64 0), (.int .i64 (-1)), (.sl 1 false false [(.int .i64 1), (.int .i64 3), (.int .i64 4)]), (.int .i64 (-1)), (.int .i64 (-1)), (.sl 2 false true [])]), (.agg [(.int .i64 1), (.int .i64 2), (.int .i64 0), (.sl 1 false false [(.int .i64 2)]), (.int .i64 (-1)), (.int .i64 (-1)), (.sl 2 false true [])]), (.agg [(.int .i64 2), (.int .i64 0), (.int .i64 1), (.sl 1 false true []), (.int .i64 (-1)), (.int .i64 (-1)), (.sl 2 false true [])]), (.agg [(.int .i64 1), (.int .i64 0), (.int .i64 0), (.sl 1 false true []), (.int .i64 (-1)), (.int .i64 (-1)), (.sl 2 false false [(.agg [(.int .i64 2), (.int .i64 0)])])]), (.agg [(.int .i64 1), (.int .i64 0), (.int .i64 0), (.sl 1 false true []), (.int .i64 (-1)), (.int .i64 (-1)), (.sl 2 false false [(.agg [(.int .i64 6), (.int .i64 1)])])])]), (.sl 1 false false []), (.sl 1 false false []), (.sl 2 false false []), (.sl 1 false false [])]), (.int .i64 2)]).bind fun r5 =>
     (sNot r5.r).bind fun r6 =>
     guardX r6 true
     ((T 16 [(.agg [(.sl 7 false false [(.agg [(.int .i64 0), (.int .i64 0), (.int .i64 (-1)), (.sl 1 false false [(.int .i64 1), (.int .i64 3), (.int .i64 4)]), (.int .i64 (-1)), (.int .i64 (-1)), (.sl 2 false true [])]), (.agg [(.int .i64 1), (.int .i64 2), (.int .i64 0), (.sl 1 false false [(.int .i64 2)]), (.int .i64 (-1)), (.int .i64 (-1)), (.sl 2 false true [])]), (.agg [(.int .i64 2), (.int .i64 0), (.int .i64 1), (.sl 1 false true []), (.int .i64 (-1)), (.int .i64 (-1)), (.sl 2 false true [])]), (.agg [(.int .i64 1), (.int .i64 0), (.int .i64 0), (.sl 1 false true []), (.int .i64 (-1)), (.int .i64 (-1)), (.sl 2 false false [(.agg [(.int .i64 2), (.int .i64 0)])])]), (.agg [(.int .i64 1), (.int .i64 0), (.int .i64 0), (.sl 1 false true []), (.int .i64 (-1)), (.int .i64 (-1)), (.sl 2 false false [(.agg [(.int .i64 6), (.int .i64 1)])])])]), (.sl 1 false false []), (.sl 1 false false []), (.sl 2 false false []), (.sl 1 false false [])]), (.int .i64 2)]).bind fun r7 =>
      guardX r7.r true
      ((T 15 [(.agg [(.sl 7 false false [(.agg [(.int .i64 0), (.int .i64 0), (.int .i64 (-1)), (.sl 1 false false [(.int .i64 1), (.int .i64 3), (.int .i64 4)]), (.int .i64 (-1)), (.int .i64 (-1)), (.sl 2 false true [])]), (.agg [(.int .i64 1), (.int .i64 2), (.int .i64 0), (.sl 1 false false [(.int .i64 2)]), (.int .i64 (-1)), (.int .i64 (-1)), (.sl 2 false true [])]), (.agg [(.int .i64 2), (.int .i64 0), (.int .i64 1), (.sl 1 false true []), (.int .i64 (-1)), (.int .i64 (-1)), (.sl 2 false true [])]), (.agg [(.int .i64 1), (.int .i64 0), (.int .i64 0), (.sl 1 false true []), (.int .i64 (-1)), (.int .i64 (-1)), (.sl 2 false false [(.agg [(.int .i64 2), (.int .i64 0)])])]), (.agg [(.int .i64 1), (.int .i64 0), (.int .i64 0), (.sl 1 false true []), (.int .i64 (-1)), (.int .i64 (-1)), (.sl 2 false false [(.agg [(.int .i64 6), (.int .i64 1)])])])]), (.sl 1 false false [(.int .i64 1)]), (.sl 1 false false []), (.sl 2 false false [(.agg [(.int .i64 4), (.int .i64 (-1))])]), (.sl 1 false false [(.int .i64 4)])]), (.int .i64 2)]).bind fun r8 =>
       guardX r8.r true
       ((T 15 [(.agg [(.sl 7 false false [(.agg [(.int .i64 0), (.int .i64 0), (.int .i64 (-1)), (.sl 1 false false [(.int .i64 1), (.int .i64 3), (.int .i64 4)]), (.int .i64 (-1)), (.int .i64 (-1)), (.sl 2 false true [])]), (.agg [(.int .i64 1), (.int .i64 2), (.int .i64 0), (.sl 1 false false [(.int .i64 2)]), (.int .i64 (-1)), (.int .i64 (-1)), (.sl 2 false true [])]), (.agg [(.int .i64 2), (.int .i64 0), (.int .i64 1), (.sl 1 false true []), (.int .i64 (-1)), (.int .i64 (-1)), (.sl 2 false true [])]), (.agg [(.int .i64 1), (.int .i64 0), (.int .i64 0), (.sl 1 false true []), (.int .i64 (-1)), (.int .i64 (-1)), (.sl 2 false false [(.agg [(.int .i64 2), (.int .i64 0)])])]), (.agg [(.int .i64 1), (.int .i64 0), (.int .i64 0), (.sl 1 false true []), (.int .i64 (-1)), (.int .i64 (-1)), (.sl 2 false false [(.agg [(.int .i64 6), (.int .i64 1)])])])]), (.sl 1 false false [(.int .i64 1)]), (.sl 1 false false []), (.sl 2 false false [(.agg [(.int .i64 4), (.int .i64 (-1))])]), (.sl 1 false false [(.int .i64 4)])]), (.int .i64 3)]).bind fun r9 =>
        (sNot r9.r).bind fun r10 =>
        guardX r10 true
        ((T 16 [(.agg [(.sl 7 false false [(.agg [(.int .i64 0), (.int .i64 0), (.int .i64 (-1)), (.sl 1 false false [(.int .i64 1), (.int .i64 3), (.int .i64 4)]), (.int .i64 (-1)), (.int .i64 (-1)), (.sl 2 false true [])]), (.agg [(.int .i64 1), (.int .i64 2), (.int .i64 0), (.sl 1 false false [(.int .i64 2)]), (.int .i64 (-1)), (.int .i64 (-1)), (.sl 2 false true [])]), (.agg [(.int .i64 2), (.int .i64 0), (.int .i64 1), (.sl 1 false true []), (.int .i64 (-1)), (.int .i64 (-1)), (.sl 2 false true [])]), (.agg [(.int .i64 1), (.int .i64 0), (.int .i64 0), (.sl 1 false true []), (.int .i64 (-1)), (.int .i64 (-1)), (.sl 2 false false [(.agg [(.int .i64 2), (.int .i64 0)])])]), (.agg [(.int .i64 1), (.int .i64 0), (.int .i64 0), (.sl 1 false true []), (.int .i64 (-1)), (.int .i64 (-1)), (.sl 2 false false [(.agg [(.int .i64 6), (.int .i64 1)])])])]), (.sl 1 false false [(.int .i64 1)]), (.sl 1 false false []), (.sl 2 false false [(.agg [(.int .i64 4), (.int .i64 (-1))])]), (.sl 1 false false [(.int .i64 4)])]), (.int .i64 3)]).bind fun r11 =>
         (sNot r11.r).bind fun r12 =>
         guardX r12 true
         ((T 15 [(.agg [(.sl 7 false false [(.agg [(.int .i64 0), (.int .i64 0), (.int .i64 (-1)), (.sl 1 false false [(.int .i64 1), (.int .i64 3), (.int .i64 4)]), (.int .i64 (-1)), (.int .i64 (-1)), (.sl 2 false true [])]), (.agg [(.int .i64 1), (.int .i64 2), (.int .i64 0), (.sl 1 false false [(.int .i64 2)]), (.int .i64 (-1)), (.int .i64 (-1)), (.sl 2 false true [])]), (.agg [(.int .i64 2), (.int .i64 0), (.int .i64 1), (.sl 1 false true []), (.int .i64 (-1)), (.int .i64 (-1)), (.sl 2 false true [])]), (.agg [(.int .i64 1), (.int .i64 0), (.int .i64 0), (.sl 1 false true []), (.int .i64 (-1)), (.int .i64 (-1)), (.sl 2 false false [(.agg [(.int .i64 2), (.int .i64 0)])])]), (.agg [(.int .i64 1), (.int .i64 0), (.int .i64 0), (.sl 1 false true []), (.int .i64 (-1)), (.int .i64 (-1)), (.sl 2 false false [(.agg [(.int .i64 6), (.int .i64 1)])])])]), (.sl 1 false false [(.int .i64 1)]), (.sl 1 false false []), (.sl 2 false false [(.agg [(.int .i64 4), (.int .i64 (-1))])]), (.sl 1 false false [(.int .i64 4)])]), (.int .i64 9)]).bind fun r13 =>
          (sNot r13.r).bind fun r14 =>
          (asB r14).bind fun b15 =>
          some [b15])
         (some [false])
         (none))
        (some [false])
        (none))
       (some [false])
       (none))
      (some [false])
      (none))
     (some [false])
     (none))
    (some [false])
    (none))
   (some [false])
   (none)).bind fun vs16 =>
  some { r := (.bool (vs16.getD 0 false)) }
theorem r13 (T : Nat → List SVal → Option Res) (k : Nat) : bodyE P H T k 13 [] = R13 T k  := by kernel_rfl
noncomputable def D13 (T : Nat → List SVal → Option Res) (k : Nat) : List SVal → Option Res
  | [] => R13 T k 
  | a => bodyE P H T k 13 a
theorem d13 (T : Nat → List SVal → Option Res) (k : Nat) (a : List SVal) : D13 T k a = bodyE P H T k 13 a := by
  unfold D13
  split
  · exact (r13 ..).symm
  · rfl
theorem t13 (k : Nat) : T (k + 1) 13 [] = R13 (T k) k  := (by kernel_rfl : T (k + 1) 13 [] = bodyE P H (T k) k 13 []).trans (r13 ..)
/-- limelight/limelightref10.Check -/
def R14 (T : Nat → List SVal → Option Res) (k : Nat) (x0a : SVal) (x0b : SVal) (x0c : SVal) (x0d : SVal) (x0e : SVal) : Option Res :=
  (T 40 [(weak x0a)]).bind fun r1 =>
  (sNot r1.r).bind fun r2 =>
  pickC r2
  (some { r := (.int .i64 1) })
  ((T 41 [(.agg [(weak x0a), (weak x0b), (weak x0c), (weak x0d), (weak x0e)])]).bind fun r3 =>
   (sNot r3.r).bind fun r4 =>
   pickC r4
   (some { r := (.int .i64 9) })
   (some { r := (.int .i64 0) }))
theorem r14 (T : Nat → List SVal → Option Res) (k : Nat) (x0a : SVal) (x0b : SVal) (x0c : SVal) (x0d : SVal) (x0e : SVal) : bodyE P H T k 14 [(.agg [x0a, x0b, x0c, x0d, x0e])] = R14 T k x0a x0b x0c x0d x0e := by kernel_rfl
noncomputable def D14 (T : Nat → List SVal → Option Res) (k : Nat) : List SVal → Option Res
  | [(.agg [x0a, x0b, x0c, x0d, x0e])] => R14 T k x0a x0b x0c x0d x0e
  | a => bodyE P H T k 14 a
theorem d14 (T : Nat → List SVal → Option Res) (k : Nat) (a : List SVal) : D14 T k a = bodyE P H T k 14 a := by
  unfold D14
  split
  · exact (r14 ..).symm
  · rfl
theorem t14 (k : Nat) (x0a : SVal) (x0b : SVal) (x0c : SVal) (x0d : SVal) (x0e : SVal) : T (k + 1) 14 [(.agg [x0a, x0b, x0c, x0d, x0e])] = R14 (T k) k x0a x0b x0c x0d x0e := (by kernel_rfl : T (k + 1) 14 [(.agg [x0a, x0b, x0c, x0d, x0e])] = bodyE P H (T k) k 14 [(.agg [x0a, x0b, x0c, x0d, x0e])]).trans (r14 ..)
/-- limelight/render.Is -/
def R15 (T : Nat → List SVal → Option Res) (k : Nat) (x0a : SVal) (x0b : SVal) (x0c : SVal) (x0d : SVal) (x0e : SVal) (x1 : SVal) : Option Res :=
  ((T 42 [(.agg [(weak x0a), (weak x0b), (weak x0c), (weak x0d), (weak x0e)]), x1]).bind fun r1 =>
   (sNot r1.r).bind fun r2 =>
   guardX r2 false
   ((T 43 [(weak x0a), x1]).bind fun r3 =>
    (sNot r3.r).bind fun r4 =>
    (asB r4).bind fun b5 =>
    some [b5])
   (some [true])
   (none)).bind fun vs6 =>
  pickC (.bool (vs6.getD 0 false))
  (some { r := (.bool false) })
  ((T 45 [(weak x0a), x1]).bind fun r7 =>
   (T 44 [(weak r7.r), (.fn 46 [(.rp [x0a, x0b, x0c, x0d, x0e])])]).bind fun r8 =>
   (sNot r8.r).bind fun r9 =>
   some { r := r9 })
theorem r15 (T : Nat → List SVal → Option Res) (k : Nat) (x0a : SVal) (x0b : SVal) (x0c : SVal) (x0d : SVal) (x0e : SVal) (x1 : SVal) : bodyE P H T k 15 [(.agg [x0a, x0b, x0c, x0d, x0e]), x1] = R15 T k x0a x0b x0c x0d x0e x1 := by kernel_rfl
noncomputable def D15 (T : Nat → List SVal → Option Res) (k : Nat) : List SVal → Option Res
  | [(.agg [x0a, x0b, x0c, x0d, x0e]), x1] => R15 T k x0a x0b x0c x0d x0e x1
  | a => bodyE P H T k 15 a
theorem d15 (T : Nat → List SVal → Option Res) (k : Nat) (a : List SVal) : D15 T k a = bodyE P H T k 15 a := by
  unfold D15
  split
  · exact (r15 ..).symm
  · rfl
theorem t15 (k : Nat) (x0a : SVal) (x0b : SVal) (x0c : SVal) (x0d : SVal) (x0e : SVal) (x1 : SVal) : T (k + 1) 15 [(.agg [x0a, x0b, x0c, x0d, x0e]), x1] = R15 (T k) k x0a x0b x0c x0d x0e x1 := (by kernel_rfl : T (k + 1) 15 [(.agg [x0a, x0b, x0c, x0d, x0e]), x1] = bodyE P H (T k) k 15 [(.agg [x0a, x0b, x0c, x0d, x0e]), x1]).trans (r15 ..)
/-- limelight/render.Own -/
def R16 (T : Nat → List SVal → Option Res) (k : Nat) (x0a : SVal) (x0b : SVal) (x0c : SVal) (x0d : SVal) (x0e : SVal) (x1 : SVal) : Option Res :=
  ((T 42 [(.agg [(weak x0a), (weak x0b), (weak x0c), (weak x0d), (weak x0e)]), x1]).bind fun r1 =>
   guardX r1.r true
   ((T 47 [(.agg [(weak x0a), (weak x0b), (weak x0c), (weak x0d), (weak x0e)]), x1]).bind fun r2 =>
    (asB r2.r).bind fun b3 =>
    some [b3])
   (some [false])
   (none)).bind fun vs4 =>
  some { r := (.bool (vs4.getD 0 false)) }
theorem r16 (T : Nat → List SVal → Option Res) (k : Nat) (x0a : SVal) (x0b : SVal) (x0c : SVal) (x0d : SVal) (x0e : SVal) (x1 : SVal) : bodyE P H T k 16 [(.agg [x0a, x0b, x0c, x0d, x0e]), x1] = R16 T k x0a x0b x0c x0d x0e x1 := by kernel_rfl
noncomputable def D16 (T : Nat → List SVal → Option Res) (k : Nat) : List SVal → Option Res
  | [(.agg [x0a, x0b, x0c, x0d, x0e]), x1] => R16 T k x0a x0b x0c x0d x0e x1
  | a => bodyE P H T k 16 a
theorem d16 (T : Nat → List SVal → Option Res) (k : Nat) (a : List SVal) : D16 T k a = bodyE P H T k 16 a := by
  unfold D16
  split
  · exact (r16 ..).symm
  · rfl
theorem t16 (k : Nat) (x0a : SVal) (x0b : SVal) (x0c : SVal) (x0d : SVal) (x0e : SVal) (x1 : SVal) : T (k + 1) 16 [(.agg [x0a, x0b, x0c, x0d, x0e]), x1] = R16 (T k) k x0a x0b x0c x0d x0e x1 := (by kernel_rfl : T (k + 1) 16 [(.agg [x0a, x0b, x0c, x0d, x0e]), x1] = bodyE P H (T k) k 16 [(.agg [x0a, x0b, x0c, x0d, x0e]), x1]).trans (r16 ..)
end Go.Proofs.YtccfkncajelbpaaGreat.K
