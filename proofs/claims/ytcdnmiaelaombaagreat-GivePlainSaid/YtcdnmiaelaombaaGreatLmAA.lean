/- A semantic evaluator over pure values for the loaded code: definitions alone. -/
import Derived.RangeFuncLeaves
import Derived.KernelRfl
set_option linter.unusedVariables false
set_option linter.unusedSimpArgs false
set_option linter.unnecessarySimpa false
set_option linter.all false
section
namespace Go.Lm

/-- Pure values. 'un': the machine's undef; 'undef': nothing is known. -/
inductive SVal where
  | undef | un
  | int (k : IntKind) (n : Int)
  | bool (b : Bool)
  | str (s : ByteArray)
  | sl (sz : Nat) (own full : Bool) (xs : List SVal)
  | rp (cs : List SVal)
  | mb (cs : List SVal)
  | fn (f : Nat) (caps : List SVal)
  | bf (f : Nat) (first : List SVal)
  | agg (cs : List SVal)
  | tup (vs : List SVal)
  | nilp | nilfn | yld
  | cch (ds : List Int)
  deriving Inhabited

def SVal.xs : SVal → List SVal | .sl _ _ _ xs => xs | _ => []
def SVal.cs : SVal → List SVal | .agg cs => cs | .mb cs => cs | .tup cs => cs | .rp cs => cs | _ => []
def SVal.cell (x : SVal) (i : Nat) : SVal := x.cs.getD i .undef

/-- Values within an activation: pure ones, and references to its own objects. -/
inductive IVal where
  | unk
  | v (x : SVal)
  | la (i ver : Nat)
  | lp (i ver idx off : Nat)
  | it (i : Nat)
  | lt (i ver lo : Nat)
  | yld
  | agg (cs : List IVal)
  | tup (vs : List IVal)
  | clo (f : Nat) (caps : List IVal)
  deriving Inhabited

inductive Obj where
  | dead
  | box (cs : List IVal)
  | arr (ver sz : Nat) (xs : List SVal)
  | iter (x : SVal)
  | frz (ver sz : Nat) (xs : List SVal)
  | frzb (cs : List SVal)
  deriving Inhabited

def Obj.live : Obj → Bool | .box _ => true | .arr .. => true | .iter _ => true | _ => false
def Obj.ver? : Obj → Option Nat | .dead => none | .box _ => some 0 | .arr v _ _ => some v | .iter _ => some 0 | .frz v _ _ => some v | .frzb _ => some 0
inductive Shape where
  | plain
  | scalar
  | own (sz : Nat)
  | box (n : Nat)
  | rp (n : Nat)
  | iter
  | yld
  | agg (cs : List Shape)
  | tup (cs : List Shape)
  | boxs (cs : List Shape)
  | slc
  deriving Inhabited

structure Res where
  r : SVal
  out : List SVal := []
  outs : List SVal := []
  deriving Inhabited

structure FH where
  params : List Shape := []
  res : Shape := .plain
  back : Bool := false
  bor : Bool := false
  keep : List (List (Nat × Shape)) := []
  join : List (Nat × List Nat) := []
  cool : List Nat := []
  guess : (Nat → List SVal → Option Res) → IVal → List Int := fun _ _ => []
  deriving Inhabited

structure St where
  env : Nat → IVal
  loc : Nat → Obj
  nid : Nat
  out : List SVal
  stop : Bool

structure Upd where
  val : IVal := .v .un
  wr : List (Nat × Obj) := []
  rd : List Nat := []

def upd {α : Type} (f : Nat → α) (i : Nat) (x : α) : Nat → α := fun j => if j = i then x else f j
def updL (f : Nat → Obj) : List (Nat × Obj) → Nat → Obj
  | [] => f
  | (i, o) :: r => updL (upd f i o) r

def St.put (st : St) (d : Option Nat) (x : IVal) : St := match d with | some d => { st with env := upd st.env d x } | none => st
def St.apply (st : St) (d : Option Nat) (u : Upd) : St := { st.put d u.val with loc := updL st.loc u.wr }

/-! ### The program's types -/
def isAggT (P : Program) (t : Nat) : Bool := match P.underlying t with | some (.struct _) | some (.array ..) => true | _ => false
def szT (P : Program) (t : Nat) : Nat := match P.info? t with | some i => i.size | none => 0
def elemT (P : Program) (t : Nat) : Nat := match P.underlying t with | some (.slice e) => e | _ => 0
def szE (P : Program) (t : Nat) : Nat := szT P (elemT P t)
def bytesE (P : Program) (t : Nat) : Nat := match P.info? (elemT P t) with | some i => i.bytes | none => 0
def fieldO (P : Program) (s f : Nat) : Option Nat :=
  match P.underlying s with
  | some (.struct fs) => match fs[f]? with | some x => if szT P x.type = 0 then none else some x.offset | none => none
  | _ => none
/-- Is '==' of this type decided cell by cell on whole numbers? -/
def eqT (P : Program) (t : Nat) : Bool :=
  match P.underlying t with
  | some (.struct fs) => (fs.toList.zipIdx.all fun q => q.1.name != "_" && decide (q.1.offset = q.2) && match P.underlying q.1.type with | some (.int _) => true | _ => false) &&
      !P.stoodInHeld t && !P.eqGuardType P.depth t && decide (fs.size = szT P t)
  | _ => false

/-! ### Operations on pure values -/
/-- One cell's worth. -/
def oneS : SVal → Bool | .int _ _ => true | .bool _ => true | .str _ => true | .sl _ false _ _ => true | .rp _ => true | .fn _ _ => true | .bf _ _ => true | .nilp => true | .nilfn => true | .cch _ => true | _ => false
def oneI : IVal → Bool | .v x => oneS x | .la _ _ => true | .lp _ _ _ _ => true | .it _ => true | .lt _ _ _ => true | .yld => true | .clo _ _ => true | _ => false

def sBin (op : BinOp) : SVal → SVal → Option SVal
  | .int k a, .int k' b => if k = k' then
      (match op with
      | .add => some (.int k (k.wrap (a + b)))
      | .sub => some (.int k (k.wrap (a - b)))
      | .mul => some (.int k (k.wrap (a * b)))
      | .rem => if b = 0 then none else some (.int k (a.tmod b))
      | .eql => some (.bool (decide (a = b)))
      | .neq => some (.bool (!decide (a = b)))
      | .lss => some (.bool (decide (a < b)))
      | .leq => some (.bool (decide (a ≤ b)))
      | .gtr => some (.bool (decide (b < a)))
      | .geq => some (.bool (decide (b ≤ a)))
      | _ => none) else none
  | _, _ => none
def sBinB (op : BinOp) : SVal → SVal → Option SVal
  | .bool a, .bool b => (match op with | .eql => some (.bool (a == b)) | .neq => some (.bool (a != b)) | _ => none)
  | _, _ => none
def intsOf : List SVal → Option (List Int)
  | [] => some []
  | .int .i64 n :: r => (intsOf r).map (n :: ·)
  | _ :: _ => none
/-- '==' of two structs of whole numbers. -/
def sEqA (n : Nat) (neg : Bool) (x y : List SVal) : Option SVal :=
  (intsOf x).bind fun a => (intsOf y).bind fun b => if a.length = n ∧ b.length = n then some (.bool (decide (a = b) != neg)) else none
def sNot : SVal → Option SVal | .bool b => some (.bool !b) | _ => none
def asB : SVal → Option Bool | .bool b => some b | _ => none
def sLen : SVal → Option SVal | .sl _ _ _ xs => some (.int .i64 xs.length) | _ => none
def sCap : SVal → Option SVal | .sl _ _ true xs => some (.int .i64 xs.length) | _ => none
def elemOk (agg : Bool) (sz : Nat) : SVal → Bool
  | .agg cs => agg && cs.length == sz
  | x => !agg && sz == 1 && oneS x
def sIn (n : Nat) : SVal → Option Nat
  | .int _ i => if 0 ≤ i ∧ i < (n : Int) then some i.toNat else none
  | _ => none
def sIdx (agg : Bool) (sz : Nat) (x i : SVal) : Option SVal :=
  match x with
  | .sl sz' false _ xs => if sz' = sz then (sIn xs.length i).bind fun j => (xs[j]?).bind fun e => if elemOk agg sz e = true then some e else none else none
  | _ => none
def sBnd (n : Nat) : SVal → Option Nat
  | .int _ i => if 0 ≤ i ∧ i ≤ (n : Int) then some i.toNat else none
  | _ => none
def sSlice (sz : Nat) (x : SVal) (lo hi : Option SVal) : Option SVal :=
  match x with
  | .sl sz' false full xs => if sz' = sz then
      (match hi with | some h => sBnd xs.length h | none => some xs.length).bind fun h =>
      (match lo with | some l => sBnd h l | none => some 0).bind fun l => some (.sl sz false (full && decide (h = xs.length)) ((xs.take h).drop l)) else none
  | _ => none
/-- A row cut to so many, with no room behind. -/
def sSlice3 (sz : Nat) (x h m : SVal) : Option SVal :=
  match x with
  | .sl sz' false _ xs => if sz' = sz ∧ sBnd xs.length m = sBnd xs.length h then (sBnd xs.length h).bind fun n => some (.sl sz false true (xs.take n)) else none
  | _ => none
def sMax : SVal → SVal → Option SVal
  | .int k a, .int k' b => if k = k' then some (.int k (if a < b then b else a)) else none
  | _, _ => none
def sMin : SVal → SVal → Option SVal
  | .int k a, .int k' b => if k = k' then some (.int k (if b < a then b else a)) else none
  | _, _ => none
def allOne : List IVal → Bool | [] => true | [x] => oneI x | x :: y :: r => oneI x && allOne (y :: r)
def isSc1 : SVal → Bool | .int _ _ => true | .bool _ => true | _ => false
def isScalar : SVal → Bool | .tup vs => vs.all isSc1 | x => isSc1 x

section
variable {α : Type}
def pickC (x : SVal) (p q : Option α) : Option α := match x with | .bool b => if b = true then p else q | _ => none

/-! ### Into an activation, and out of it -/
def cellsV (n : Nat) (x : SVal) : List SVal := (List.range n).map x.cell
def mapO {β γ : Type} (f : β → Option γ) : List β → Option (List γ)
  | [] => some []
  | x :: xs => (f x).bind fun y => (mapO f xs).bind fun ys => some (y :: ys)
mutual
def imp : Shape → SVal → Nat → IVal × List (Nat × Obj) × Nat
  | .plain, x, n => (.v x, [], n)
  | .scalar, x, n => (.v x, [], n)
  | .slc, x, n => (.v x, [], n)
  | .own sz, x, n => (.la n 0, [(n, .arr 0 sz x.xs)], n + 1)
  | .box m, x, n => (.lp n 0 0 0, [(n, .box ((cellsV m x).map .v))], n + 1)
  | .rp m, x, n => (.v (.rp (cellsV m x)), [], n)
  | .iter, x, n => (.it n, [(n, .iter x)], n + 1)
  | .yld, _, n => (.yld, [], n)
  | .agg ss, x, n => let r := imps ss x.cs n; (.agg r.1, r.2)
  | .tup ss, x, n => let r := imps ss x.cs n; (.tup r.1, r.2)
  | .boxs ss, x, n => let r := imps ss x.cs n; (.lp r.2.2 0 0 0, r.2.1 ++ [(r.2.2, .box r.1)], r.2.2 + 1)
def imps : List Shape → List SVal → Nat → List IVal × List (Nat × Obj) × Nat
  | [], _, n => ([], [], n)
  | s :: ss, xs, n => let r := imp s (xs.headD .undef) n; let q := imps ss xs.tail r.2.2; (r.1 :: q.1, r.2.1 ++ q.2.1, q.2.2)
end

/-- A pure view of a value; the objects that it leads to. -/
def exps (loc : Nat → Obj) : Nat → IVal → Option (SVal × List Nat)
  | 0, _ => none
  | _ + 1, .v x => some (x, [])
  | _ + 1, .la i ver => match loc i with
    | .arr ver' sz xs => if ver = ver' then some (.sl sz false false xs, [i]) else none
    | .frz ver' sz xs => if ver = ver' then some (.sl sz false false xs, [i]) else none
    | _ => none
  | k + 1, .lp i ver idx off => if ver = 0 ∧ idx = 0 ∧ off = 0 then (match loc i with
    | .box cs => (mapO (exps loc k) cs).bind fun r => some (.rp (r.map (·.1)), i :: r.flatMap (·.2))
    | .frzb cs => some (.rp cs, [i])
    | _ => none) else none
  | _ + 1, .lt i ver lo => match loc i with
    | .arr ver' sz xs => if ver = ver' then some (.sl sz false false (xs.drop lo), [i]) else none
    | .frz ver' sz xs => if ver = ver' then some (.sl sz false false (xs.drop lo), [i]) else none
    | _ => none
  | _ + 1, .it _ => none
  | _ + 1, .yld => none
  | _ + 1, .unk => none
  | k + 1, .agg cs => (mapO (exps loc k) cs).bind fun r => some (.agg (r.map (·.1)), r.flatMap (·.2))
  | _ + 1, .tup _ => none
  | k + 1, .clo f caps => (mapO (exps loc k) caps).bind fun r => some (.fn f (r.map (·.1)), r.flatMap (·.2))
def frzO (loc : Nat → Obj) (i : Nat) : Obj := match loc i with
  | .arr ver sz xs => .frz ver sz xs
  | .box cs => match mapO (exps loc 6) cs with | some r => .frzb (r.map (·.1)) | none => .dead
  | .iter _ => .dead
  | o => o
def frzL (loc : Nat → Obj) (l : List Nat) : List (Nat × Obj) := (l.filter fun i => (loc i).live).map fun i => (i, frzO loc i)

/-- Shapes that a closure for a range may have captured. -/
def simpleSh : Shape → Bool | .plain => true | .slc => true | .scalar => true | .rp _ => true | .box _ => true | .own _ => true | _ => false
/-- Out by shape: the value; what it leads to and stays readable; what is handed over. -/
structure Ex where
  x : SVal
  brw : List Nat := []
  con : List Nat := []
/-- That a slice has no room is forgotten. -/
def weak : SVal → SVal | .sl sz o _ xs => .sl sz o false xs | x => x
/-- An element that goes into a row: it keeps no word of how long its rows may grow. -/
def weakE : SVal → SVal | .agg cs => .agg (cs.map weak) | x => weak x
def wkE (b : Bool) (xs : List SVal) : List SVal := if b = true then xs.map weakE else xs
def asV : IVal → Option SVal | .v x => some x | _ => none
def expS (H : Nat → FH) (loc : Nat → Obj) : Nat → Shape → IVal → Option Ex
  | 0, _, _ => none
  | _ + 1, .plain, iv => (exps loc 6 iv).bind fun r => some ⟨r.1, r.2, []⟩
  | _ + 1, .slc, iv => (exps loc 6 iv).bind fun r => some ⟨weak r.1, r.2, []⟩
  | _ + 1, .scalar, .v x => some ⟨x, [], []⟩
  | _ + 1, .scalar, .tup vs => (mapO asV vs).bind fun xs => some ⟨.tup xs, [], []⟩
  | _ + 1, .scalar, _ => none
  | _ + 1, .own sz, .la i ver => match loc i with
    | .arr ver' sz' xs => if ver = ver' ∧ sz = sz' then some ⟨.sl sz true false xs, [], [i]⟩ else none
    | _ => none
  | _ + 1, .own sz, .v (.sl _ false true []) => if 0 < sz then some ⟨.sl sz true false [], [], []⟩ else none
  | _ + 1, .own _, _ => none
  | _ + 1, .box m, .lp i ver idx off => if ver = 0 ∧ idx = 0 ∧ off = 0 then (match loc i with
    | .box cs => if cs.length = m then (mapO (exps loc 6) cs).bind fun r => some ⟨.mb (r.map (·.1)), r.flatMap (·.2), [i]⟩ else none
    | _ => none) else none
  | _ + 1, .box _, _ => none
  | _ + 1, .rp m, iv => (exps loc 6 iv).bind fun r => match r.1 with | .rp cs => if cs.length = m then some ⟨.rp cs, r.2, []⟩ else none | _ => none
  | _ + 1, .iter, .it i => match loc i with | .iter x => some ⟨x, [], [i]⟩ | _ => none
  | k + 1, .iter, .clo f caps => match (H f).params with
    | .yld :: ss => if ss.length = caps.length ∧ ss.all simpleSh = true then
        (mapO (fun p => expS H loc k p.1 p.2) (ss.zip caps)).bind fun r => some ⟨.fn f (r.map (·.x)), r.flatMap (·.brw), r.flatMap (·.con)⟩ else none
    | _ => none
  | _ + 1, .iter, _ => none
  | _ + 1, .yld, .yld => some ⟨.yld, [], []⟩
  | _ + 1, .yld, _ => none
  | k + 1, .agg ss, .agg cs => if ss.length = cs.length then
      (mapO (fun p => expS H loc k p.1 p.2) (ss.zip cs)).bind fun r => some ⟨.agg (r.map (·.x)), r.flatMap (·.brw), r.flatMap (·.con)⟩ else none
  | _ + 1, .agg _, _ => none
  | k + 1, .tup ss, .tup cs => if ss.length = cs.length then
      (mapO (fun p => expS H loc k p.1 p.2) (ss.zip cs)).bind fun r => some ⟨.tup (r.map (·.x)), r.flatMap (·.brw), r.flatMap (·.con)⟩ else none
  | _ + 1, .tup _, _ => none
  | k + 1, .boxs ss, .lp i ver idx off => if ver = 0 ∧ idx = 0 ∧ off = 0 then (match loc i with
    | .box cs => if ss.length = cs.length then
        (mapO (fun p => expS H loc k p.1 p.2) (ss.zip cs)).bind fun r => some ⟨.mb (r.map (·.x)), r.flatMap (·.brw), r.flatMap (·.con) ++ [i]⟩ else none
    | _ => none) else none
  | _ + 1, .boxs _, _ => none
end
end Go.Lm
end
section
namespace Go.Lm
section
variable (P : Program) (H : Nat → FH) (T : Nat → List SVal → Option Res)

def constI (t : Nat) : Value → IVal
  | .int k n => .v (.int k n)
  | .bool b => .v (.bool b)
  | .string s => .v (.str s)
  | .slice none 0 0 => .v (.sl (szE P t) false true [])
  | .pointer none => .v .nilp
  | .nilFunc => .v .nilfn
  | _ => .unk
def ev (st : St) (t : Nat) : Operand → IVal
  | .tmp u => st.env u
  | .const c => constI P t c
  | .func f => .clo f []
  | .global _ => .unk
def evs (st : St) (ts : Array Nat) (xs : Array Operand) : List IVal := xs.toList.zipIdx.map fun p => ev P st (ts.getD p.2 0) p.1

mutual
def shOk : Shape → SVal → Bool
  | .plain, _ => true
  | .scalar, x => isScalar x
  | .slc, _ => true
  | .rp m, .rp cs => cs.length == m
  | .agg ss, .agg cs => shOks ss cs
  | _, _ => false
def shOks : List Shape → List SVal → Bool
  | [], [] => true
  | s :: ss, x :: xs => shOk s x && shOks ss xs
  | _, _ => false
end
def fieldTy (s f : Nat) : Nat := match P.underlying s with | some (.struct fs) => (match fs[f]? with | some x => x.type | none => 0) | _ => 0
def isSliceT (t : Nat) : Bool := match P.underlying t with | some (.slice _) => true | _ => false
/-- May elements of this slice type be appended? -/
def appOk (t : Nat) : Bool := isSliceT P t && decide (0 < szE P t) && decide (0 < bytesE P t) && match P.info? (elemT P t) with | some i => (match i.zero with | some z => decide (z.cells.size = i.size) | none => false) | none => false
def callV (x : SVal) (args : List SVal) : Option SVal :=
  match x with
  | .fn f caps => match (H f).res with
    | .plain | .scalar => if shOks (H f).params (args ++ caps) = true then (T f (args ++ caps)).bind fun r => some r.r else none
    | _ => none
  | .bf f first => match (H f).res with
    | .plain | .scalar => if shOks (H f).params (first ++ args) = true then (T f (first ++ args)).bind fun r => some r.r else none
    | _ => none
  | _ => none
def callIt (x : SVal) : Option (List SVal) :=
  match x with
  | .fn g caps => (T g (.yld :: caps)).bind fun r => some r.out
  | _ => none

def tyOk (t : Nat) : Bool := (P.underlying t).isSome && (P.info? t).isSome
/-- The cells of a value of type t. -/
def cellsI (t : Nat) (iv : IVal) : Option (List IVal) :=
  if tyOk P t = true then if isAggT P t = true then (match iv with
    | .agg cs => if cs.length = szT P t then some cs else none
    | .v (.agg cs) => if cs.length = szT P t then some (cs.map .v) else none
    | _ => none)
  else if szT P t = 1 then some [iv] else none else none
/-- A value of type t out of cells. -/
def ofCells (t : Nat) (cs : List IVal) : Option IVal :=
  if tyOk P t = true then
    if isAggT P t = true then (if szT P t ≤ cs.length then some (.agg (cs.take (szT P t))) else none) else cs.head?
  else none
/-- Does a pure cell tell a value? -/
def relB : IVal → Value → Bool
  | .v (.int k n), .int k' n' => decide (k = k') && decide (n = n')
  | .v (.bool b), .bool b' => b == b'
  | .v (.sl _ false true []), .slice none 0 0 => true
  | .v .nilp, .pointer none => true
  | .v .nilfn, .nilFunc => true
  | .unk, _ => true
  | _, _ => false
def relBs : List IVal → List Value → Bool
  | [], [] => true
  | x :: xs, v :: vs => relB x v && relBs xs vs
  | _, _ => false
def zeroI : Value → IVal
  | .int k n => .v (.int k n)
  | .bool b => .v (.bool b)
  | .string s => .v (.str s)
  | .slice none 0 0 => .v (.sl 0 false true [])
  | .pointer none => .v .nilp
  | .nilFunc => .v .nilfn
  | _ => .unk
/-- The zero cells of a type, a slice's with its element's size. -/
def zeroCs : Nat → Nat → List IVal
  | 0, _ => []
  | k + 1, t => match P.underlying t with
    | some (.struct fs) => fs.toList.flatMap fun f => zeroCs k f.type
    | some (.slice _) => [.v (.sl (szE P t) false true [])]
    | _ => match P.info? t with
      | some i => match i.zero with | some z => [zeroI z] | none => []
      | none => []
def zeroOk (t : Nat) : Bool := match P.info? t with | some i => (match i.zero with | some z => relBs (zeroCs P 8 t) z.cells.toList | none => false) | none => false
def setAt {β : Type} (cs : List β) (off : Nat) (new : List β) : List β := cs.take off ++ new ++ cs.drop (off + new.length)
def elemCells (agg : Bool) (sz : Nat) (e : SVal) : List SVal := if agg then cellsV sz e else [e]
def setElem (agg : Bool) (sz off : Nat) (new : List SVal) (e : SVal) : SVal :=
  if agg then .agg (setAt (cellsV sz e) off new) else new.headD .undef
/-- Of what element type is a local array? Told by its store's and load's address types: kept with the element itself. -/
def aggE : SVal → Bool | .agg _ => true | _ => false

section
variable {α : Type}
def isNilS : SVal → Bool | .sl _ false true [] => true | _ => false
def elems (sz : Nat) : SVal → Option (List SVal)
  | .sl sz' false _ xs => if sz' = sz ∨ xs = [] then some xs else none
  | _ => none
/-- 'append(nil, make([]int, n)...)'. -/
def makeOk (t tx : Nat) : Bool := (match P.underlying tx with | some (.int _) => true | _ => false) && (match P.info? (elemT P t) with | some i => (match i.zero with | some (.int .i64 0) => decide (i.size = 1) | _ => false) | none => false)
/-- Rows of whole numbers. -/
def zeroEl (t : Nat) : Bool := isSliceT P t && (match P.info? (elemT P t) with | some i => (match i.zero with | some (.int .i64 0) => decide (i.size = 1) | _ => false) | none => false)
def elemsM (t tx : Nat) (s : IVal) (x : SVal) : Option (List SVal) :=
  if isSliceT P tx = true then elems (szE P t) x else if makeOk P t tx = true then (match s, x with
    | .v y, .int .i64 n => if isNilS y = true then (if 0 < n then some (List.replicate n.toNat (.int .i64 0)) else none) else none
    | _, _ => none) else none
def maxAppend : Nat := 140737488355328
def arrAt (loc : Nat → Obj) (i ver : Nat) : Option (Bool × Nat × List SVal) := match loc i with
  | .arr ver' sz xs => if ver = ver' then some (true, sz, xs) else none
  | .frz ver' sz xs => if ver = ver' then some (false, sz, xs) else none
  | _ => none
def appendC (st : St) (id t : Nat) (s : IVal) (ys : List SVal) (rd : List Nat) (k : Upd → Option α) : Option α :=
  if appOk P t = false then none else match s with
  | .la i ver => match st.loc i with
    | .arr ver' sz xs => if ver = ver' ∧ sz = szE P t then
        (if (xs.length + ys.length) * bytesE P t ≤ maxAppend then k { val := .la i (ver + 1), wr := [(i, .arr (ver + 1) sz (xs ++ ys))], rd := i :: rd } else none) else none
    | _ => none
  | .v x => if isNilS x = true then
      (if ys.length * bytesE P t ≤ maxAppend then k { val := .la id 0, wr := [(id, .arr 0 (szE P t) ys)], rd } else none) else none
  | _ => none
def exArgs (st : St) (f : Nat) (ivs : List IVal) : Option (List Ex) := mapO (fun p => expS H st.loc 6 p.1 p.2) ((H f).params.zip ivs)
/-- What becomes of what was handed over. -/
def ownSz : Shape → Option Nat
  | .own sz => some sz
  | .plain => none | .scalar => none | .slc => none | .box _ => none | .rp _ => none | .iter => none | .yld => none | .agg _ => none | .tup _ => none | .boxs _ => none
def conH (loc : Nat → Obj) (back : Bool) (s : Shape) (e : Ex) (outs : List SVal) : List (Nat × Obj) := match ownSz s with
  | some sz => (match e.con with
      | [i] => if back then (match loc i with | .arr ver _ _ => [(i, .arr ver sz (outs.headD .undef).xs)] | _ => []) else [(i, .dead)]
      | l => l.map fun i => (i, .dead))
  | none => e.con.map fun i => (i, .dead)
def conT (s : Shape) (outs : List SVal) : List SVal := match ownSz s with | some _ => outs.tail | none => outs
def conW (loc : Nat → Obj) (back : Bool) : List (Shape × Ex) → List SVal → List (Nat × Obj)
  | [], _ => []
  | (s, e) :: r, outs => conH loc back s e outs ++ conW loc back r (conT s outs)
def nodupB : List Nat → Bool | [] => true | x :: xs => !xs.contains x && nodupB xs
def disjB (a b : List Nat) : Bool := a.all fun x => !b.contains x
def callU (loc : Nat → Obj) (id f : Nat) (es : List Ex) (r : Res) : Upd :=
  { val := (imp (H f).res r.r id).1, wr := frzL loc (es.flatMap (·.brw)) ++ conW loc (H f).back ((H f).params.zip es) r.outs ++ (imp (H f).res r.r id).2.1, rd := es.flatMap (·.con) ++ es.flatMap (·.brw) }
def callE (st : St) (id f : Nat) (ivs : List IVal) (k : Upd → Res → Option α) : Option α :=
  (exArgs H st f ivs).bind fun es =>
    if nodupB (es.flatMap (·.con)) && disjB (es.flatMap (·.con)) (es.flatMap (·.brw)) && (ivs.length == (H f).params.length) then
      (T f (es.map (·.x))).bind fun r => if (imp (H f).res r.r id).2.2 ≤ id + 32 then k (callU H st.loc id f es r) r else none
    else none
/-- A call that answers a number or a truth: what is shown to it stays one's own. -/
def callB (st : St) (f : Nat) (ivs : List IVal) (k : Upd → Option α) : Option α :=
  match (H f).res with
  | .plain | .scalar => (exArgs H st f ivs).bind fun es =>
    if ((es.flatMap (·.con)).length == 0) && (ivs.length == (H f).params.length) then
      (T f (es.map (·.x))).bind fun r => if isSc1 r.r = true then k { val := .v r.r, rd := es.flatMap (·.brw) } else none
    else none
  | _ => none
/-- What a function of rounds answers that was told to stop. -/
def stopVal (f : Nat) : SVal := match P.funcs[f]? with | some fn => if fn.results.size = 0 then .tup [] else .bool false | none => .bool false
def isGen (f : Nat) : Bool := (H f).params.any fun | .yld => true | _ => false

/-- A struct is built, part by part. -/
def buildC (st : St) (fs : Array Field) : List (Nat × Operand) → List IVal → (List IVal → Option α) → Option α
  | [], cs, k => k cs
  | p :: r, cs, k => (fs[p.1]?).bind fun f => (cellsI P f.type (ev P st f.type p.2)).bind fun new =>
      if f.offset + new.length ≤ cs.length ∧ (isAggT P f.type || allOne new) = true then buildC st fs r (setAt cs f.offset new) k else none
theorem buildC_eq (st : St) (fs : Array Field) (k : List IVal → Option α) : ∀ (parts : List (Nat × Operand)) (cs : List IVal), buildC P st fs parts cs k =
    (parts.foldl (fun acc p => acc.bind fun cs => (fs[p.1]?).bind fun f => (cellsI P f.type (ev P st f.type p.2)).bind fun new =>
        if f.offset + new.length ≤ cs.length ∧ (isAggT P f.type || allOne new) = true then some (setAt cs f.offset new) else none) (some cs)).bind k
  | [], cs => rfl
  | p :: r, cs => by
    have hnone : ∀ (parts : List (Nat × Operand)), parts.foldl (fun acc p => acc.bind fun cs => (fs[p.1]?).bind fun f => (cellsI P f.type (ev P st f.type p.2)).bind fun new =>
        if f.offset + new.length ≤ cs.length ∧ (isAggT P f.type || allOne new) = true then some (setAt cs f.offset new) else none) (none : Option (List IVal)) = none := fun parts => by
      induction parts with
      | nil => rfl
      | cons q qs ih => simpa using ih
    simp only [buildC, List.foldl_cons, Option.bind_some]
    cases hf : fs[p.1]? with
    | none => simp only [Option.bind_none]; rw [hnone]; rfl
    | some f =>
      simp only [Option.bind_some]
      cases hc : cellsI P f.type (ev P st f.type p.2) with
      | none => simp only [Option.bind_none]; rw [hnone]; rfl
      | some new =>
        simp only [Option.bind_some]
        split
        · exact buildC_eq st fs k r _
        · rw [hnone]; rfl

def opC (st : St) (id : Nat) (o : Oper) (k : Upd → Option α) : Option α :=
  match o.op with
  | .move x | .assign x => k { val := ev P st o.type x }
  | .pick c a b => match ev P st o.type c with
    | .v x => pickC x (k { val := ev P st o.type a }) (k { val := ev P st o.type b })
    | _ => none
  | .alloc t => if zeroOk P t = true then k { val := .lp id 0 0 0, wr := [(id, .box (zeroCs P 8 t))] } else none
  | .box t x => (cellsI P t (ev P st t x)).bind fun cs => if (isAggT P t || allOne cs) = true then k { val := .lp id 0 0 0, wr := [(id, .box cs)] } else none
  | .load t a => match ev P st o.type a with
    | .lp i ver idx off => match st.loc i with
      | .box cs => if ver = 0 ∧ idx = 0 then (ofCells P t (cs.drop off)).bind fun x => k { val := x, rd := [i] } else none
      | .frzb cs => if ver = 0 ∧ idx = 0 then (ofCells P t ((cs.drop off).map .v)).bind fun x => k { val := x, rd := [i] } else none
      | .arr ver' sz xs => if ver = ver' then (xs[idx]?).bind fun e => if elemOk (decide (1 < sz)) sz e = true then (ofCells P t (((elemCells (decide (1 < sz)) sz e).drop off).map .v)).bind fun x => k { val := x, rd := [i] } else none else none
      | .frz ver' sz xs => if ver = ver' then (xs[idx]?).bind fun e => if elemOk (decide (1 < sz)) sz e = true then (ofCells P t (((elemCells (decide (1 < sz)) sz e).drop off).map .v)).bind fun x => k { val := x, rd := [i] } else none else none
      | _ => none
    | .v (.rp cs) => (ofCells P t (cs.map .v)).bind fun x => k { val := x }
    | _ => none
  | .store t a x => match ev P st o.type a with
    | .lp i ver idx off => match st.loc i with
      | .box cs => (cellsI P t (ev P st t x)).bind fun new => if ver = 0 ∧ idx = 0 ∧ off + new.length ≤ cs.length then (if allOne new = true then k { wr := [(i, .box (setAt cs off new))], rd := [i] } else none) else none
      | .arr ver' sz xs => (cellsI P t (ev P st t x)).bind fun new => (mapO (exps st.loc 6) new).bind fun r =>
          (xs[idx]?).bind fun e => if elemOk (decide (1 < sz)) sz e = true then (if off + new.length ≤ sz ∧ (r.flatMap (·.2)).contains i = false ∧ ver = ver' ∧ (decide (1 < sz) || new.length == 1) = true then (if allOne new = true then k { wr := frzL st.loc (r.flatMap (·.2)) ++ [(i, .arr ver sz (xs.set idx (setElem (decide (1 < sz)) sz off (r.map (·.1)) e)))], rd := i :: r.flatMap (·.2) } else none) else none) else none
      | _ => none
    | _ => none
  | .fieldAddr s x f => (fieldO P s f).bind fun d => match ev P st o.type x with
    | .lp i ver idx off => if (st.loc i).ver? = some ver then k { val := .lp i ver idx (off + d), rd := [i] } else none
    | .v (.rp cs) => k { val := .v (.rp (cs.drop d)) }
    | _ => none
  | .indexAddr t x ix => if isSliceT P t = true ∧ szE P t ≠ 0 then match ev P st o.type ix with
    | .v n => match ev P st t x with
      | .v r => (sIdx (isAggT P (elemT P t)) (szE P t) r n).bind fun e => k { val := .v (.rp (elemCells (isAggT P (elemT P t)) (szE P t) e)) }
      | .la i ver => (arrAt st.loc i ver).bind fun q => if q.2.1 = szE P t then (sIn q.2.2.length n).bind fun j => k { val := .lp i ver j 0, rd := [i] } else none
      | _ => none
    | _ => none else none
  | .extract x n => match ev P st o.type x with
    | .tup vs => (vs[n]?).bind fun iv => k { val := iv }
    | _ => none
  | .field t x f => (fieldO P t f).bind fun d => match ev P st t x with
    | .agg cs => (ofCells P (fieldTy P t f) (cs.drop d)).bind fun iv => k { val := iv }
    | _ => none
  | .binOp op t x y _ => match ev P st t x, ev P st t y with
    | .v a, .v b => match P.underlying t with
      | some (.int _) => (sBin op a b).bind fun r => k { val := .v r }
      | some .bool => (sBinB op a b).bind fun r => k { val := .v r }
      | _ => none
    | .agg a, .agg b => if eqT P t = true then (mapO asV a).bind fun a => (mapO asV b).bind fun b => (match op with
        | .eql => sEqA (szT P t) false a b | .neq => sEqA (szT P t) true a b | _ => none).bind fun r => k { val := .v r } else none
    | _, _ => none
  | .unOp op t x => match op, ev P st t x with
    | .not, .v a => (sNot a).bind fun r => k { val := .v r }
    | _, _ => none
  | .makeFunc (.func f) first caps => if first.size = 0 then k { val := .clo f (caps.toList.map (ev P st 0)) } else if caps.size = 0 then
      (mapO (exps st.loc 6) (first.toList.map (ev P st 0))).bind fun r => k { val := .v (.bf f (r.map (·.1))), rd := r.flatMap (·.2), wr := frzL st.loc (r.flatMap (·.2)) } else none
  | .makeMap _ none => k { val := .v (.cch ((H 0).guess T (st.env 0))) }
  | .build t parts => match P.underlying t with
    | some (.struct fs) => if zeroOk P t = true ∧ fs.toList.all (fun f => (P.info? f.type).isSome) = true then buildC P st fs parts.toList (zeroCs P 8 t) (fun cs => k { val := .agg cs }) else none
    | _ => none
  | .buildSlice t n parts => if parts.toList.map (·.1) = List.range n ∧ n * szE P t ≤ 16777216 ∧ 0 < szE P t ∧ isSliceT P t = true ∧ zeroOk P (elemT P t) = true then
      (mapO (fun p => cellsI P (elemT P t) (ev P st (elemT P t) p.2)) parts.toList).bind fun cs =>
      (mapO (exps st.loc 6) (parts.toList.map fun p => ev P st (elemT P t) p.2)).bind fun r =>
        if cs.all allOne = true then k { val := .la id 0, rd := r.flatMap (·.2), wr := frzL st.loc (r.flatMap (·.2)) ++ [(id, .arr 0 (szE P t) (wkE (isAggT P (elemT P t)) (r.map (·.1))))] } else none else none
  | .slice t x lo hi mx => match mx with
    | some m => if isSliceT P t = true ∧ szE P t ≠ 0 then (match ev P st t x, lo, hi.map (ev P st 0), ev P st 0 m with
      | .v r, none, some (.v h), .v m => (sSlice3 (szE P t) r h m).bind fun y => k { val := .v y }
      | _, _, _, _ => none) else none
    | none => if isSliceT P t = true ∧ szE P t ≠ 0 then match ev P st t x with
      | .v r => (mapO asV (lo.toList.map (ev P st 0))).bind fun lo => (mapO asV (hi.toList.map (ev P st 0))).bind fun hi =>
          (sSlice (szE P t) r lo.head? hi.head?).bind fun y => k { val := .v y }
      | .la i ver => match st.loc i, lo.map (ev P st 0), hi.map (ev P st 0) with
        | .arr ver' sz xs, none, some (.v h) => if ver = ver' ∧ sz = szE P t then (sBnd xs.length h).bind fun n => k { val := .la i (ver + 1), wr := [(i, .arr (ver + 1) sz (xs.take n))], rd := [i] } else none
        | .arr ver' sz xs, some (.v l), none => if ver = ver' ∧ sz = szE P t then (sBnd xs.length l).bind fun n => k { val := .lt i ver n, rd := [i] } else none
        | _, _, _ => (exps st.loc 6 (.la i ver)).bind fun r => (mapO asV (lo.toList.map (ev P st 0))).bind fun lo => (mapO asV (hi.toList.map (ev P st 0))).bind fun hi =>
            (sSlice (szE P t) r.1 lo.head? hi.head?).bind fun y => k { val := .v y, rd := r.2, wr := frzL st.loc r.2 }
      | _ => none else none
  | .nilCheck x => match ev P st o.type x with
    | .clo f cs => k { val := .clo f cs }
    | .lp i ver idx off => if (st.loc i).ver? = some ver then k { val := .lp i ver idx off, rd := [i] } else none
    | _ => none
  | .convert s t x => match P.underlying s, P.underlying t, ev P st s x with
    | some (.int _), some (.int j'), .v (.int _ n) => k { val := .v (.int j' (j'.wrap n)) }
    | some (.slice _), some (.slice _), _ => none
    | _, _, _ => none
  | .call c => match c.callee with
    | .value g => match ev P st 0 g with
      | .clo f caps => if isGen H f then none else if (H f).bor = true then callB H T st f (evs P st c.argTypes c.args ++ caps) k else callE H T st id f (evs P st c.argTypes c.args ++ caps) fun u _ => k u
      | .v x => (mapO (exps st.loc 6) (evs P st c.argTypes c.args)).bind fun r => (callV H T x (r.map (·.1))).bind fun y => k { val := .v y, rd := r.flatMap (·.2), wr := frzL st.loc (r.flatMap (·.2)) }
      | _ => none
    | .builtin .len => if isSliceT P (c.argTypes.getD 0 0) = false ∨ c.argTypes.size ≠ c.args.size then none else match evs P st c.argTypes c.args with
      | [.v x] => (sLen x).bind fun r => k { val := .v r }
      | [.la i ver] => (arrAt st.loc i ver).bind fun q => k { val := .v (.int .i64 q.2.2.length), rd := [i] }
      | _ => none
    | .builtin .append => if c.argTypes.size ≠ c.args.size then none else match evs P st c.argTypes c.args with
      | [s, .v x] => (elemsM P (c.argTypes.getD 0 0) (c.argTypes.getD 1 0) s x).bind fun ys => appendC P st id (c.argTypes.getD 0 0) s ys [] k
      | [s, .la j ver] => if isSliceT P (c.argTypes.getD 1 0) = false then none else (arrAt st.loc j ver).bind fun q => if q.2.1 = szE P (c.argTypes.getD 0 0) then
          (match s with | .la i _ => if i = j then none else appendC P st id (c.argTypes.getD 0 0) s q.2.2 [j] k | _ => appendC P st id (c.argTypes.getD 0 0) s q.2.2 [j] k) else none
      | _ => none
    | .builtin .clear => if c.argTypes.size ≠ c.args.size then none else match evs P st c.argTypes c.args with
      | [.lt i ver lo] => (match st.loc i with
        | .arr ver' sz xs => if ver = ver' ∧ sz = 1 ∧ zeroEl P (c.argTypes.getD 0 0) = true then if lo ≤ xs.length then k { val := .tup [], wr := [(i, .arr ver sz (xs.take lo ++ List.replicate (xs.length - lo) (.int .i64 0)))], rd := [i] } else none else none
        | _ => none)
      | _ => none
    | .builtin .cap => if isSliceT P (c.argTypes.getD 0 0) = false ∨ c.argTypes.size ≠ c.args.size then none else match evs P st c.argTypes c.args with
      | [.v x] => (sCap x).bind fun r => k { val := .v r }
      | _ => none
    | .builtin .max => match evs P st c.argTypes c.args with
      | [.v x, .v y] => (sMax x y).bind fun r => k { val := .v r }
      | _ => none
    | .builtin .min => match evs P st c.argTypes c.args with
      | [.v x, .v y] => (sMin x y).bind fun r => k { val := .v r }
      | _ => none
    | _ => none
  | _ => none

/-! ### Regions -/
def guardX (x : SVal) (want : Bool) (p q q' : Option α) : Option α := match x with
  | .bool b => if b = want then p else q
  | .un => q'
  | _ => none
def both (p q : Option α) : Option α := q.bind fun _ => p
def dstOk (nt : Nat) : Option Nat → Bool | none => true | some d => decide (d < nt)

def isTupS : SVal → Bool | .tup _ => true | .un => true | _ => false
/-- What is told by a call of yield: one value, or two. -/
def tellE (loc : Nat → Obj) : List IVal → Option (SVal × List Nat)
  | [iv] => (exps loc 6 iv).bind fun e => if isTupS e.1 = true then none else some e
  | [iv, iv'] => (exps loc 6 iv).bind fun e => (exps loc 6 iv').bind fun e' => some (.tup [e.1, e'.1], e.2 ++ e'.2)
  | _ => none
def notTup (x : SVal) : Option SVal := if isTupS x = true then none else some x
def tellC {α : Type} (loc : Nat → Obj) (ivs : List IVal) (k : SVal → List Nat → Option α) : Option α :=
  match ivs with
  | [iv] => (exps loc 6 iv).bind fun e => (notTup e.1).bind fun x => k x e.2
  | [iv, iv'] => (exps loc 6 iv).bind fun e => (exps loc 6 iv').bind fun e' => k (.tup [e.1, e'.1]) (e.2 ++ e'.2)
  | _ => none
theorem tellC_cps {α : Type} {loc : Nat → Obj} {ivs : List IVal} {k : SVal → List Nat → Option α} {r : α} (h : tellC loc ivs k = some r) : ∃ e, tellE loc ivs = some e ∧ k e.1 e.2 = some r := by
  unfold tellC at h
  unfold tellE
  split at h
  · obtain ⟨e, h1, h⟩ := Option.bind_eq_some_iff.1 h
    obtain ⟨x, h2, h⟩ := Option.bind_eq_some_iff.1 h
    unfold notTup at h2
    split at h2
    · cases h2
    · rename_i hn
      cases h2
      exact ⟨e, by simp only [h1, Option.bind_some]; rw [if_neg hn], h⟩
  · obtain ⟨e, h1, h⟩ := Option.bind_eq_some_iff.1 h
    obtain ⟨e', h2, h⟩ := Option.bind_eq_some_iff.1 h
    exact ⟨(.tup [e.1, e'.1], e.2 ++ e'.2), by simp only [h1, h2, Option.bind_some], h⟩
  · cases h
/-- What an operation has touched: its place; objects read, written, borrowed. -/
structure Foot where
  i : Nat
  rd : List Nat := []
  wr : List Nat := []
/-- One operation that is wanted. 'dr': no call of yield is taken. -/
def goC (dr : Bool) (nt id i : Nat) (o : Oper) (st : St) (fs : List Foot) (k : St → List Foot → Option α) : Option α :=
  let plain := opC P H T st id o fun u => k (st.apply o.dst u) (fs ++ [⟨i, u.rd, u.wr.map (·.1)⟩])
  if dstOk nt o.dst = true then
    (match o.op with
    | .call { callee := .value g, args, argTypes } => match ev P st 0 g with
      | .yld => if dr || st.stop then none else tellC st.loc (evs P st argTypes args) fun x ids => if ids.all (fun j => !(st.loc j).live) = true then
            both (k { st.put o.dst (.v (.bool true)) with out := st.out ++ [x] } (fs ++ [⟨i, [], []⟩]))
              (k { st.put o.dst (.v (.bool false)) with out := st.out ++ [x], stop := true } (fs ++ [⟨i, [], []⟩])) else none
      | .clo f caps => if isGen H f then
          (if dr || st.stop then none else callE H T st id f (evs P st argTypes args ++ caps) fun u x => match (H f).res, u.wr with
            | .scalar, [] => if u.rd.all (fun j => !(st.loc j).live) = true then
              both (k { st.put o.dst u.val with out := st.out ++ x.out } (fs ++ [⟨i, u.rd, []⟩]))
                (k { st.put o.dst (.v (stopVal P f)) with stop := true } (fs ++ [⟨i, u.rd, []⟩])) else none
            | _, _ => none)
        else plain
      | _ => plain
    | _ => plain) else none
def skipC (nt i : Nat) (o : Oper) (st : St) (fs : List Foot) (k : St → List Foot → Option α) : Option α :=
  if dstOk nt o.dst = true then k (st.put o.dst (.v .un)) (fs ++ [⟨i, [], []⟩]) else none
def stepC (dr : Bool) (nt : Nat) (ops : Array Oper) (id i : Nat) (o : Oper) (st : St) (fs : List Foot) (k : St → List Foot → Option α) : Option α :=
  match o.guard with
  | none => goC P H T dr nt id i o st fs k
  | some (j, want) => match (ops[j]?).bind (·.dst) with
    | some d => match st.env d with
      | .v x => guardX x want (goC P H T dr nt id i o (st.put (some d) (.v (.bool want))) fs k) (skipC nt i o (st.put (some d) (.v (.bool !want))) fs k) (skipC nt i o (st.put (some d) (.v .un)) fs k)
      | _ => none
    | none => none
/-- Operations in a list's order; then K. -/
def runC (dr : Bool) (nt : Nat) (ops : Array Oper) (base : Nat) : List (Nat × Oper) → St → List Foot → (St → List Foot → Option α) → Option α
  | [], st, fs, K => K st fs
  | (i, o) :: r, st, fs, K => stepC P H T dr nt ops (base + 32 * i) i o st fs fun st fs => runC dr nt ops base r st fs K
end
/-! ### May a region be walked in any order? -/
/-- What an operation is told by: of a map that is made, what the activation was first handed too. -/
def opnds (op : Op) : List Operand := match op with | .makeMap _ _ => [.tmp 0] | _ => op.operands.toList
def slotsOf (ops : Array Oper) (o : Oper) : List Nat :=
  o.dst.toList ++ ((opnds o.op).filterMap fun | .tmp t => some t | _ => none) ++ (match o.guard with | some (j, _) => ((ops[j]?).bind (·.dst)).toList | none => [])
def maskOf (acc : List Nat) (o : Oper) : Nat := o.after.toList.foldl (fun s e => if Region.binds .any e then s ||| 2 ^ e.on ||| acc.getD e.on 0 else s) 0
def befL : List Oper → List Nat → List Nat
  | [], acc => acc
  | o :: r, acc => befL r (acc ++ [maskOf acc o])
def ordB (bs : List Nat) (i j : Nat) : Bool := (bs.getD j 0).testBit i
def edgesOk (ops : List Oper) : Bool := ops.zipIdx.all fun p => p.1.after.toList.all fun e => !Region.binds .any e || decide (e.on < p.2)
def guardsOk (ops : List Oper) (bs : List Nat) : Bool := ops.zipIdx.all fun p => match p.1.guard with | some (j, _) => ordB bs j p.2 | none => true
def slotsOk (ops : Array Oper) (bs : List Nat) : Bool :=
  ops.toList.zipIdx.all fun p => ops.toList.zipIdx.all fun q => decide (q.2 ≤ p.2) || ordB bs p.2 q.2 ||
    ((match p.1.dst with | some d => !(slotsOf ops q.1).contains d | none => true) && (match q.1.dst with | some d => !(slotsOf ops p.1).contains d | none => true))
def footsOk (bs : List Nat) (fs : List Foot) : Bool :=
  fs.all fun p => fs.all fun q => decide (q.i ≤ p.i) || ordB bs p.i q.i || (disjB p.wr (q.rd ++ q.wr) && disjB q.wr (p.rd ++ p.wr))
section
variable {α : Type}
def setBoolsN (vs : List Bool) : Nat → List Nat → (Nat → IVal) → Nat → IVal
  | _, [], env => env
  | i, s :: r, env => setBoolsN vs (i + 1) r (upd env s (.v (.bool (vs.getD i false))))
def setBools (env : Nat → IVal) : List (Nat × Bool) → Nat → IVal
  | [] => env
  | (s, b) :: r => setBools (upd env s (.v (.bool b))) r
/-- The slots that operations write are forgotten. -/
def clearD : List Oper → (Nat → IVal) → Nat → IVal
  | [], env => env
  | o :: r, env => clearD r (match o.dst with | some d => upd env d .unk | none => env)
def asBI : IVal → Option Bool | .v x => asB x | _ => none
def regionC (nt : Nat) (h : FH) (gen : Bool) (id : Nat) (ops : Array Oper) (draw : Bool) (st : St) (K : St → Option α) : Option α :=
  let l := ops.toList.zipIdx.map fun p => (p.2, p.1)
  let bs := befL ops.toList []
  let ok := fun fs => !draw || (edgesOk ops.toList && guardsOk ops.toList bs && slotsOk ops bs && footsOk bs fs)
  match h.join.lookup id with
  | some slots =>
    (runC P H T true nt ops st.nid l { st with loc := frzO st.loc } [] fun st' fs => if ok fs = true then mapO (fun s => asBI (st'.env s)) slots else none).bind fun vs =>
      if slots.all (fun s => decide (s < nt)) = true then K { st with env := setBoolsN vs 0 slots (clearD ops.toList st.env), nid := st.nid + 32 * ops.size } else none
  | none => runC P H T (draw || !gen) nt ops st.nid l st [] fun st' fs => if ok fs = true then K { st' with nid := st.nid + 32 * ops.size } else none

/-! ### Code -/
inductive Ex' where | normal | exit (id : Nat) | ret | goto (l : Nat)
def loopsIn : Code → Nat
  | .seq a b => loopsIn a + loopsIn b
  | .cond _ a b => loopsIn a + loopsIn b
  | .block _ b => loopsIn b
  | .loop b => loopsIn b + 1
  | .rangeFunc _ _ a b => loopsIn a + loopsIn b + 1
  | .scope b => loopsIn b + 1
  | _ => 0
/-- Kept slots: out of an activation's state into pure values, and back. -/
def expKeep (loc : Nat → Obj) (env : Nat → IVal) : List (Nat × Shape) → Option (List Ex)
  | [] => some []
  | (s, sh) :: r => (expS H loc 6 sh (env s)).bind fun e => (expKeep loc env r).bind fun es => some (e :: es)
def keepOut (loc : Nat → Obj) (env : Nat → IVal) (keep : List (Nat × Shape)) : Option (List SVal × List Nat) :=
  (expKeep H loc env keep).bind fun es => if nodupB (es.flatMap (·.con)) && disjB (es.flatMap (·.con)) (es.flatMap (·.brw)) then some (es.map (·.x), []) else none
def impKeep : List (Nat × Shape) → List SVal → Nat → (Nat → IVal) × List (Nat × Obj) × Nat
  | [], _, n => (fun _ => .unk, [], n)
  | (s, sh) :: r, xs, n => let q := imp sh (xs.headD .undef) n; let p := impKeep r xs.tail q.2.2; (upd p.1 s q.1, q.2.1 ++ p.2.1, p.2.2)
/-- The state that a loop's head knows. -/
def keepIn (keep : List (Nat × Shape)) (xs : List SVal) (out : List SVal) (stop : Bool) : St :=
  let p := impKeep keep xs 0
  { env := p.1, loc := updL (fun _ => .dead) p.2.1, nid := p.2.2, out, stop }
end
end
end Go.Lm
end
section
namespace Go.Lm
section
variable (P : Program) (H : Nat → FH) (T : Nat → List SVal → Option Res)

/-- What a loop's head knows: the kept values; what has been told; whether one was told to stop. -/
structure LS where
  xs : List SVal
  out : List SVal
  stop : Bool
def LS.st (gen : Bool) (s : LS) (keep : List (Nat × Shape)) : St := keepIn keep s.xs (if gen then s.out else []) (if gen then s.stop else false)
section
variable {α : Type}
def loopN (body : LS → (LS → Option α) → Option α) : Nat → LS → Option α
  | 0, _ => none
  | k + 1, s => body s (loopN body k)
def rangeN (body : LS → SVal → (LS → Option α) → Option α) (done : LS → Option α) : List SVal → LS → Option α
  | [], s => done s
  | x :: xs, s => body s x (rangeN body done xs)
/-- The slots that code writes. -/
def wrs : Code → List Nat
  | .region _ ops _ => ops.toList.filterMap (·.dst)
  | .seq a b => wrs a ++ wrs b
  | .cond _ a b => wrs a ++ wrs b
  | .block _ b => wrs b
  | .loop b => wrs b
  | .scope b => wrs b
  | _ => []
/-- What a round is told goes into its slots. -/
def putR (nt : Nat) (st : St) : List Nat → SVal → Option St
  | [p], y => if p < nt ∧ isTupS y = false then some (st.put (some p) (.v y)) else none
  | [p, q], .tup [y, z] => if p < nt ∧ q < nt then some ((st.put (some p) (.v y)).put (some q) (.v z)) else none
  | _, _ => none
def tup2 : SVal → Option (SVal × SVal) | .tup [y, z] => some (y, z) | _ => none
def putC {α : Type} (nt : Nat) (st : St) (ps : List Nat) (y : SVal) (k : St → Option α) : Option α :=
  match ps with
  | [p] => if p < nt then (notTup y).bind fun y => k (st.put (some p) (.v y)) else none
  | [p, q] => if p < nt ∧ q < nt then (tup2 y).bind fun z => k ((st.put (some p) (.v z.1)).put (some q) (.v z.2)) else none
  | _ => none
theorem putC_cps {α : Type} {nt : Nat} {st : St} {ps : List Nat} {y : SVal} {k : St → Option α} {r : α} (h : putC nt st ps y k = some r) : ∃ st0, putR nt st ps y = some st0 ∧ k st0 = some r := by
  unfold putC at h
  split at h
  · split at h
    · rename_i hp
      obtain ⟨z, h1, h⟩ := Option.bind_eq_some_iff.1 h
      unfold notTup at h1
      split at h1
      · cases h1
      · rename_i hn
        cases h1
        exact ⟨_, by simp only [putR]; rw [if_pos ⟨hp, by simpa using hn⟩], h⟩
    · cases h
  · split at h
    · rename_i hp
      obtain ⟨z, h1, h⟩ := Option.bind_eq_some_iff.1 h
      unfold tup2 at h1
      split at h1
      · cases h1
        exact ⟨_, by simp only [putR]; rw [if_pos hp], h⟩
      · cases h1
    · cases h
  · cases h
def refine (st : St) (c : Operand) (b : Bool) : St := match c with | .tmp t => st.put (some t) (.v (.bool b)) | _ => st
def keepLS (gen : Bool) (st : St) (env : Nat → IVal) (keep : List (Nat × Shape)) (k : LS → Option α) : Option α :=
  (keepOut H st.loc env keep).bind fun r => k ⟨r.1, if gen then st.out else [], if gen then st.stop else false⟩

/-- Before some regions, what is one's own is frozen. -/
def coolS (h : FH) (id : Nat) (st : St) : St := { st with loc := if h.cool.contains id = true then frzO st.loc else st.loc }
def codeC (fuel nt : Nat) (h : FH) (gen rf : Bool) : Nat → Nat → Code → St → (Ex' → St → Option α) → Option α
  | 0, _, _, _, _ => none
  | d + 1, n, c, st, K =>
    match c with
    | .skip => K .normal st
    | .label _ => K .normal st
    | .ret => K .ret st
    | .exit id => K (.exit id) st
    | .goto l => K (.goto l) st
    | .region id ops draw => regionC P H T nt h gen id ops draw (coolS h id st) (K .normal)
    | .seq a b => codeC fuel nt h gen rf d n a st fun x st' => match x with
      | .normal => codeC fuel nt h gen rf d (n + loopsIn a) b st' K
      | x => K x st'
    | .cond c a b => match ev P st 0 c with
      | .v x => pickC x (codeC fuel nt h gen rf d n a (refine st c true) K) (codeC fuel nt h gen rf d (n + loopsIn a) b (refine st c false) K)
      | _ => none
    | .block id b => codeC fuel nt h gen rf d n b st fun x st' => match x with
      | .exit i => if i = id then K .normal st' else K (.exit i) st'
      | x => K x st'
    | .loop b => keepLS H gen st st.env (h.keep.getD n []) fun s => loopN (fun s next =>
        codeC fuel nt h gen rf d (n + 1) b (s.st gen (h.keep.getD n [])) fun x st' => match x with
          | .normal => keepLS H gen st' st'.env (h.keep.getD n []) next
          | x => K x st') fuel s
    | .scope b => codeC fuel nt h gen rf d (n + 1) b st fun x st' => match x with
      | .goto l => match findLabel b l with
        | some rest => keepLS H gen st' st'.env (h.keep.getD n []) fun s => loopN (fun s next =>
            codeC fuel nt h gen rf d (n + 1) rest (s.st gen (h.keep.getD n [])) fun x st' => match x with
              | .goto l' => if l' = l then keepLS H gen st' st'.env (h.keep.getD n []) next else none
              | x => K x st') fuel s
        | none => K (.goto l) st'
      | x => K x st'
    | .rangeFunc g ps assign b => if gen || !rf then none else match ev P st 0 g with
      | .it i => match st.loc i, ps.toList with
        | .iter x, ps => if (h.keep.getD n []).all (fun q => !(ps ++ wrs assign ++ wrs b).contains q.1) = true then (callIt T x).bind fun ys => keepLS H gen { st with loc := upd st.loc i .dead } st.env (h.keep.getD n []) fun s =>
            rangeN (fun s y next => putC nt (s.st gen (h.keep.getD n [])) ps y fun st0 =>
              codeC fuel nt h gen false d (n + 1) assign st0 fun x st1 => match x with
                | .normal => codeC fuel nt h gen false d (n + 1 + loopsIn assign) b st1 fun x st2 =>
                    keepLS H gen st2 st2.env (h.keep.getD n []) fun s' => match x with
                      | .normal => next s'
                      | x => K x (s'.st gen (h.keep.getD n []))
                | _ => none)
              (fun s => K .normal (s.st gen (h.keep.getD n []))) ys s else none
        | _, _ => none
      | _ => none
    | .refuse _ => none

end
/-! ### Functions -/
def impArgs : List Shape → List SVal → Nat → Nat → (Nat → IVal) × List (Nat × Obj) × Nat
  | _, [], _, n => (fun _ => .v .un, [], n)
  | ss, x :: xs, t, n => let q := imp (ss.headD .plain) x n; let p := impArgs ss.tail xs (t + 1) q.2.2; (upd p.1 t q.1, q.2.1 ++ p.2.1, p.2.2)
def initSt (f : Nat) (args : List SVal) : St :=
  let p := impArgs (H f).params args 0 0
  { env := p.1, loc := updL (fun _ => .dead) p.2.1, nid := p.2.2, out := [], stop := false }
def resI (st : St) : ResultVar → Option IVal
  | .tmp t => some (st.env t)
  | .cell p ty => match st.env p with
    | .lp i ver idx off => match st.loc i with
      | .box cs => if ver = 0 ∧ idx = 0 then ofCells P ty (cs.drop off) else none
      | .frzb cs => if ver = 0 ∧ idx = 0 then ofCells P ty ((cs.drop off).map .v) else none
      | _ => none
    | _ => none
def stopRes : SVal → SVal → Bool | .bool false, .bool false => true | .tup [], .tup [] => true | _, _ => false
/-- The rows of one's own that were handed in, as they are now: their places, and what is handed back. -/
def backO (st : St) (wr : List Nat) : List Shape → Nat → Option (List (Nat × SVal))
  | [], _ => some []
  | s :: ss, t => match ownSz s with
    | some sz => if wr.contains t = true then none else (match st.env t with
      | .la i 0 => (match st.loc i with
        | .arr 0 sz' xs => if sz' = sz then (backO st wr ss (t + 1)).bind fun r => some ((i, .sl sz true false xs) :: r) else none
        | _ => none)
      | _ => none)
    | none => backO st wr ss (t + 1)
def wrB (fn : Func) : List Nat := match fn.body with | some c => wrs c | none => []
def finish (f : Nat) (fn : Func) (st : St) : Option Res :=
  (mapO (resI P st) fn.results.toList).bind fun rs =>
    (expS H st.loc 6 (H f).res (match rs with | [r] => r | rs => .tup rs)).bind fun e =>
      if nodupB e.con && disjB e.con e.brw then
        (if st.stop then (if stopRes (stopVal P f) e.x = true ∧ (H f).back = false then some { r := e.x } else none)
         else if (H f).back = false then some { r := e.x, out := if isGen H f then st.out else [] }
         else (backO st (wrB fn) (H f).params 0).bind fun bo =>
           if isGen H f = false ∧ e.con.isEmpty = true ∧ disjB (bo.map (·.1)) e.brw = true then some { r := e.x, outs := bo.map (·.2) } else none) else none
def bodyE (fuel f : Nat) (args : List SVal) : Option Res :=
  match P.funcs[f]? with
  | some fn => match fn.body with
    | some c => if args.length = (H f).params.length ∧ args.length ≤ fn.ntmps then
        codeC P H T fuel fn.ntmps (H f) (isGen H f) true 100 0 c (initSt H f args) fun x st => match x with
          | .normal => finish P H f fn st
          | .ret => finish P H f fn st
          | _ => none else none
    | none => none
  | none => none
end
/-- What a function answers, with so much fuel. 'prim': functions that are told by themselves. -/
def TN (P : Program) (H : Nat → FH) (prim : Nat → Option ((Nat → List SVal → Option Res) → List SVal → Option Res)) : Nat → Nat → List SVal → Option Res
  | 0, _, _ => none
  | k + 1, f, args => match prim f with
    | some p => p (TN P H prim k) args
    | none => bodyE P H (TN P H prim k) k f args
end Go.Lm
end
