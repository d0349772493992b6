/- What becomes of views, in plain words. -/
import Derived.Test.YtcehbmffbmhpfaaGreatLmAG
set_option linter.unusedVariables false
set_option linter.unusedSimpArgs false
set_option linter.unnecessarySimpa false
set_option linter.all false
namespace Go.Lm
@[simp] theorem c0_V (v : View) : SVal.c0 (encV v) = encT v.tree := rfl
@[simp] theorem c1_V (v : View) : SVal.c1 (encV v) = encI v.op := rfl
@[simp] theorem c2_V (v : View) : SVal.c2 (encV v) = encI v.modal := rfl
@[simp] theorem c3_V (v : View) : SVal.c3 (encV v) = encP v.popups := rfl
@[simp] theorem c4_V (v : View) : SVal.c4 (encV v) = encI v.top := rfl
@[simp] theorem fold_I3 (l : List Int) (n : Int) : SVal.sl 1 false false (l.map (SVal.int .i64) ++ [int n]) = encI (l ++ [n]) := by simp [encI]
@[simp] theorem fold_P3 (l : List Shown) (x : Shown) : SVal.sl 2 false false (l.map encS ++ [encS x]) = encP (l ++ [x]) := fold_P2 l [x]
@[simp] theorem c3_mb' (a b c d : SVal) (l : List SVal) : SVal.c3 (.agg (a :: b :: c :: d :: l)) = d := rfl
@[simp] theorem xs_I (l : List Int) : SVal.xs (encI l) = l.map (SVal.int .i64) := rfl
@[simp] theorem xs_P (l : List Shown) : SVal.xs (encP l) = l.map encS := rfl
/-- A copy whose rows may grow. -/
def copyE (v : View) : SVal := .agg [encT v.tree, .sl 1 true false (v.op.map (SVal.int .i64)), .sl 1 true false (v.modal.map (SVal.int .i64)), .sl 2 true false (v.popups.map encS), .sl 1 true false (v.top.map (SVal.int .i64))]
@[simp] theorem c0_cp (v : View) : SVal.c0 (copyE v) = encT v.tree := rfl
@[simp] theorem c1_cp (v : View) : SVal.c1 (copyE v) = .sl 1 true false (v.op.map (SVal.int .i64)) := rfl
@[simp] theorem c2_cp (v : View) : SVal.c2 (copyE v) = .sl 1 true false (v.modal.map (SVal.int .i64)) := rfl
@[simp] theorem c3_cp (v : View) : SVal.c3 (copyE v) = .sl 2 true false (v.popups.map encS) := rfl
@[simp] theorem c4_cp (v : View) : SVal.c4 (copyE v) = .sl 1 true false (v.top.map (SVal.int .i64)) := rfl
def dlgR (v : View) (n : Int) (m : Bool) : View × Int :=
  if ¬ chkV v = 0 then (vNil, chkV v) else if isN v.tree n = false then (v, 2) else if dlg v.tree n = false then (v, 3) else if n ∈ openL v then (v, 9) else
    (if m = true then { v with modal := v.modal ++ [n], top := v.top ++ [n] } else { v with op := v.op ++ [n] }, 0)
def popR (v : View) (x : Shown) : View × Int :=
  if ¬ chkV v = 0 then (vNil, chkV v) else if (isN v.tree x.node && (decide (x.invoker = -1) || isN v.tree x.invoker)) = false then (v, 2) else if pop v.tree x.node = false then (v, 3) else if x.node ∈ openL v then (v, 9) else
    ({ v with popups := v.popups ++ [x], top := v.top ++ [x.node] }, 0)
def without (l : List Int) (n : Int) : List Int := l.filter fun x => decide (¬ x = n)
def withoutP (l : List Shown) (n : Int) : List Shown := l.filter fun x => decide (¬ x.node = n)
def clsR (v : View) (n : Int) : View × Int :=
  if ¬ chkV v = 0 then (vNil, chkV v) else if isN v.tree n = false then (v, 2) else if n ∈ openL v then
    (⟨v.tree, without v.op n, without v.modal n, withoutP v.popups n, without v.top n⟩, 0) else (v, 9)
def fixP (t : List Nod) (x : Shown) : Shown := if isN t x.invoker = true then x else ⟨x.node, -1⟩
def fixV (v : View) : View :=
  let m := v.modal.filter (dlg v.tree)
  let p := (v.popups.filter fun x => pop v.tree x.node).map (fixP v.tree)
  ⟨v.tree, v.op.filter (dlg v.tree), m, p, v.top.filter fun n => decide (n ∈ m ++ nodesP p)⟩
def goneV (v : View) : List Int := (v.op.filter fun n => !dlg v.tree n) ++ (v.modal.filter fun n => !dlg v.tree n) ++ nodesP (v.popups.filter fun x => !pop v.tree x.node)
def fixR (v : View) : View × List Int × Int := if mayT v.tree = true then (fixV v, goneV v, 0) else (vNil, [], 1)
def encQ (q : List Shown) : List SVal := q.map encS
@[simp] theorem fold_Q (q : List Shown) : SVal.sl 2 false false (encQ q) = encP q := rfl
theorem encQ_at (o r : List Shown) (x : Shown) : (encQ (o ++ x :: r))[o.length]? = some (encS x) := by simp [encQ]
theorem encQ_set (o r : List Shown) (x y : Shown) : (encQ (o ++ x :: r)).set o.length (encS y) = encQ (o ++ y :: r) := by simp [encQ]
theorem encQ_len (q : List Shown) : (encQ q).length = q.length := by simp [encQ]
@[simp] theorem elemOk_int (n : Int) : elemOk false 1 (int n) = true := rfl
end Go.Lm
namespace Go.Lm
@[simp] theorem fold_V0' : SVal.agg [.sl 7 false false [], encI [], encI [], .sl 2 false false [], encI []] = encV vNil := rfl
end Go.Lm
namespace Go.Lm
section
variable (a0 a1 a2 a3 a4 a5 a6 a7 a8 a9 a10 a11 a12 a13 a14 a15 : SVal) (ls : List SVal) (os : List SVal) (st : Bool)
@[simp] theorem k7_mk : LS.k7 ⟨a0 :: a1 :: a2 :: a3 :: a4 :: a5 :: a6 :: a7 :: ls, os, st⟩ = a7 := rfl
@[simp] theorem k8_mk : LS.k8 ⟨a0 :: a1 :: a2 :: a3 :: a4 :: a5 :: a6 :: a7 :: a8 :: ls, os, st⟩ = a8 := rfl
@[simp] theorem k9_mk : LS.k9 ⟨a0 :: a1 :: a2 :: a3 :: a4 :: a5 :: a6 :: a7 :: a8 :: a9 :: ls, os, st⟩ = a9 := rfl
end
end Go.Lm
