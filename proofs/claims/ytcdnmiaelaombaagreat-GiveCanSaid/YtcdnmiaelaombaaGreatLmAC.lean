/- Primitives that are told by themselves; what holds from some fuel on; loops; values. -/
import Derived.Test.YtcdnmiaelaombaaGreatLmAB
import Derived.Laws.BitsLemmas
set_option linter.unusedVariables false
set_option linter.unusedSimpArgs false
set_option linter.unnecessarySimpa false
set_option linter.all false
namespace Go.Lm
def intList : List SVal → Option (List Int)
  | [] => some []
  | .int .i64 n :: r => (intList r).bind fun l => some (n :: l)
  | _ :: _ => none
def primClone (sz : Nat) : List SVal → Option Res
  | [.sl sz' false _ xs] => if sz' = sz ∧ xs.length ≤ 1000000 then some { r := .sl sz true false xs } else none
  | _ => none
def insI (n : Int) : List Int → List Int
  | [] => [n]
  | m :: l => if n ≤ m then n :: m :: l else m :: insI n l
def sortI : List Int → List Int
  | [] => []
  | n :: l => insI n (sortI l)
def primSort : List SVal → Option Res
  | [.sl 1 true false xs] => (intList xs).bind fun l => if l.length ≤ 1000000 then some { r := .tup [], outs := [.sl 1 true false ((sortI l).map (SVal.int .i64))] } else none
  | _ => none
def onceI : List Int → Bool
  | [] => true
  | n :: l => !l.contains n && onceI l
/-- A cache: what is told by another function, if it is as the cache's entries are to be. -/
def primCache (find : Nat) (T : Nat → List SVal → Option Res) : List SVal → Option Res
  | [.agg [a, b, c, d, e, .cch ds], .int .i64 n] => (T find [.agg [a, b, c, d, e, .cch ds], .int .i64 n]).bind fun r => match r.r with
    | .int .i64 x => if 0 ≤ n ∧ ds[n.toNat]? = some x then some { r := .int .i64 x } else none
    | _ => none
  | _ => none
def primApart : List SVal → Option Res
  | [.sl 1 false _ xs] => (intList xs).bind fun l => if l.length ≤ 1000000 then some { r := .bool (onceI l) } else none
  | _ => none
/-- From some fuel on. -/
def Ev (p : Nat → Prop) : Prop := ∃ k0, ∀ k, k0 ≤ k → p k
theorem Ev.mono {p q : Nat → Prop} (h : Ev p) (f : ∀ k, p k → q k) : Ev q := let ⟨k0, h⟩ := h; ⟨k0, fun k hk => f k (h k hk)⟩
theorem Ev.and {p q : Nat → Prop} (h : Ev p) (h' : Ev q) : Ev fun k => p k ∧ q k :=
  let ⟨a, h⟩ := h; let ⟨b, h'⟩ := h'; ⟨max a b, fun k hk => ⟨h k (by omega), h' k (by omega)⟩⟩
theorem Ev.ge (n : Nat) : Ev fun k => n ≤ k := ⟨n, fun _ h => h⟩
theorem Ev.step {p q : Nat → Prop} (h : Ev p) (f : ∀ k, p k → q (k + 1)) : Ev q := by
  obtain ⟨k0, h⟩ := h
  refine ⟨k0 + 1, fun k hk => ?_⟩
  obtain ⟨k, rfl⟩ : ∃ j, k = j + 1 := ⟨k - 1, by omega⟩
  exact f k (h k (by omega))
/-- Both: with so much fuel. -/
theorem Ev.at {p q : Nat → Prop} (n : Nat) (h : Ev p) (f : ∀ k, n ≤ k → p k → q (k + 1)) : Ev q := ((Ev.ge n).and h).step fun k h => f k h.1 h.2
theorem Ev.pure {q : Nat → Prop} (n : Nat) (f : ∀ k, n ≤ k → q (k + 1)) : Ev q := (Ev.ge n).step f
/-- A loop, by what it leaves to do. -/
theorem loop_wf {α σ : Type} {body : LS → (LS → Option α) → Option α} (S : σ → LS) (F : σ → Option α) (m : σ → Nat) (Inv : σ → Prop)
    (h : ∀ s, Inv s → ∀ next, (∀ s', Inv s' → m s' < m s → next (S s') = F s') → body (S s) next = F s) : ∀ (k : Nat) (s : σ), Inv s → m s < k → loopN body k (S s) = F s
  | 0, _, _, hm => by omega
  | k + 1, s, hi, hm => by
    simp only [loopN]
    exact h s hi _ fun s' hi' hm' => loop_wf S F m Inv h k s' hi' (by omega)
/-- A range over what was told. -/
theorem range_wf {α σ : Type} {body : LS → SVal → (LS → Option α) → Option α} {done : LS → Option α} (S : σ → LS) (F : List SVal → σ → Option α) (Inv : List SVal → σ → Prop)
    (h0 : ∀ s, Inv [] s → done (S s) = F [] s) (h : ∀ x xs s, Inv (x :: xs) s → ∀ next, (∀ s', Inv xs s' → next (S s') = F xs s') → body (S s) x next = F (x :: xs) s) :
    ∀ (xs : List SVal) (s : σ), Inv xs s → rangeN body done xs (S s) = F xs s
  | [], s, hi => by simp only [rangeN]; exact h0 s hi
  | x :: xs, s, hi => by
    simp only [rangeN]
    exact h x xs s hi _ fun s' hi' => range_wf S F Inv h0 h xs s' hi'
/-- An answer. -/
abbrev ok (x : SVal) : Option Res := some { r := x }
/-! ### Steps -/
abbrev int (n : Int) : SVal := .int .i64 n
theorem wrapS {n : Int} (h1 : -4611686018427387904 ≤ n) (h2 : n ≤ 4611686018427387904) : IntKind.i64.wrap n = n := by rw [IntKind.wrap_i64]; omega
section
variable {α : Type}
@[simp] theorem pickC_b (b : Bool) (p q : Option α) : pickC (.bool b) p q = if b = true then p else q := rfl
theorem guardX_b (b w : Bool) (p q r : Option α) : guardX (.bool b) w p q r = if b = w then p else q := rfl
@[simp] theorem guardX_un (w : Bool) (p q r : Option α) : guardX .un w p q r = r := rfl
@[simp] theorem both_some (x y : α) : both (some x) (some y) = some x := rfl
end
@[simp] theorem sLen_sl (sz : Nat) (o f : Bool) (xs : List SVal) : sLen (.sl sz o f xs) = some (int xs.length) := rfl
@[simp] theorem sNot_b (b : Bool) : sNot (.bool b) = some (.bool !b) := rfl
@[simp] theorem asB_b (b : Bool) : asB (.bool b) = some b := rfl
@[simp] theorem sBin_add (a b : Int) : sBin .add (int a) (int b) = some (int (IntKind.i64.wrap (a + b))) := rfl
@[simp] theorem sBin_sub (a b : Int) : sBin .sub (int a) (int b) = some (int (IntKind.i64.wrap (a - b))) := rfl
@[simp] theorem sBin_eql (a b : Int) : sBin .eql (int a) (int b) = some (.bool (decide (a = b))) := rfl
@[simp] theorem sBin_neq (a b : Int) : sBin .neq (int a) (int b) = some (.bool (!decide (a = b))) := rfl
@[simp] theorem sBin_lss (a b : Int) : sBin .lss (int a) (int b) = some (.bool (decide (a < b))) := rfl
@[simp] theorem sBin_leq (a b : Int) : sBin .leq (int a) (int b) = some (.bool (decide (a ≤ b))) := rfl
@[simp] theorem sBin_gtr (a b : Int) : sBin .gtr (int a) (int b) = some (.bool (decide (b < a))) := rfl
@[simp] theorem sBin_geq (a b : Int) : sBin .geq (int a) (int b) = some (.bool (decide (b ≤ a))) := rfl
@[simp] theorem sBinB_eql (a b : Bool) : sBinB .eql (.bool a) (.bool b) = some (.bool (a == b)) := rfl
@[simp] theorem sBinB_neq (a b : Bool) : sBinB .neq (.bool a) (.bool b) = some (.bool (a != b)) := rfl
@[simp] theorem weak_sl (sz : Nat) (o f : Bool) (xs : List SVal) : weak (.sl sz o f xs) = .sl sz o false xs := rfl
@[simp] theorem cell_agg (cs : List SVal) (i : Nat) : SVal.cell (.agg cs) i = cs.getD i .undef := rfl
@[simp] theorem cell_rp (cs : List SVal) (i : Nat) : SVal.cell (.rp cs) i = cs.getD i .undef := rfl
@[simp] theorem cell_mb (cs : List SVal) (i : Nat) : SVal.cell (.mb cs) i = cs.getD i .undef := rfl
@[simp] theorem sv_xs (sz : Nat) (o f : Bool) (xs : List SVal) : (SVal.sl sz o f xs).xs = xs := rfl
@[simp] theorem oneS_int (k : IntKind) (n : Int) : oneS (.int k n) = true := rfl
@[simp] theorem oneS_bool (b : Bool) : oneS (.bool b) = true := rfl
@[simp] theorem oneS_sl (sz : Nat) (f : Bool) (xs : List SVal) : oneS (.sl sz false f xs) = true := rfl
@[simp] theorem notTup_int (k : IntKind) (n : Int) : notTup (.int k n) = some (.int k n) := rfl
@[simp] theorem tup2_mk (x y : SVal) : tup2 (.tup [x, y]) = some (x, y) := rfl
section
variable (a b c d e f g : SVal) (l : List SVal) (o : List SVal) (s : Bool)
@[simp] theorem k0_mk : LS.k0 ⟨a :: l, o, s⟩ = a := rfl
@[simp] theorem k1_mk : LS.k1 ⟨a :: b :: l, o, s⟩ = b := rfl
@[simp] theorem k2_mk : LS.k2 ⟨a :: b :: c :: l, o, s⟩ = c := rfl
@[simp] theorem k3_mk : LS.k3 ⟨a :: b :: c :: d :: l, o, s⟩ = d := rfl
@[simp] theorem k4_mk : LS.k4 ⟨a :: b :: c :: d :: e :: l, o, s⟩ = e := rfl
@[simp] theorem k5_mk : LS.k5 ⟨a :: b :: c :: d :: e :: f :: l, o, s⟩ = f := rfl
@[simp] theorem k6_mk : LS.k6 ⟨a :: b :: c :: d :: e :: f :: g :: l, o, s⟩ = g := rfl
@[simp] theorem c0_agg : SVal.c0 (.agg (a :: l)) = a := rfl
@[simp] theorem c1_agg : SVal.c1 (.agg (a :: b :: l)) = b := rfl
@[simp] theorem c2_agg : SVal.c2 (.agg (a :: b :: c :: l)) = c := rfl
@[simp] theorem c3_agg : SVal.c3 (.agg (a :: b :: c :: d :: l)) = d := rfl
@[simp] theorem c4_agg : SVal.c4 (.agg (a :: b :: c :: d :: e :: l)) = e := rfl
@[simp] theorem c0_tup : SVal.c0 (.tup (a :: l)) = a := rfl
@[simp] theorem c1_tup : SVal.c1 (.tup (a :: b :: l)) = b := rfl
@[simp] theorem c2_tup : SVal.c2 (.tup (a :: b :: c :: l)) = c := rfl
@[simp] theorem c0_mb : SVal.c0 (.mb (a :: l)) = a := rfl
@[simp] theorem c1_mb : SVal.c1 (.mb (a :: b :: l)) = b := rfl
@[simp] theorem c2_mb : SVal.c2 (.mb (a :: b :: c :: l)) = c := rfl
@[simp] theorem c3_mb : SVal.c3 (.mb (a :: b :: c :: d :: l)) = d := rfl
@[simp] theorem c4_mb : SVal.c4 (.mb (a :: b :: c :: d :: e :: l)) = e := rfl
end
/-! ### Elements -/
theorem sIn_nat {n i : Nat} (h : i < n) : sIn n (int i) = some i := by
  have h2 : (0 : Int) ≤ (i : Int) ∧ (i : Int) < (n : Int) := ⟨by omega, by omega⟩
  simp only [sIn, h2]; simp
theorem sIdx_at {ag : Bool} {sz : Nat} {f : Bool} {xs : List SVal} {i : Nat} {e : SVal} (h : xs[i]? = some e) (he : elemOk ag sz e = true) : sIdx ag sz (.sl sz false f xs) (int i) = some e := by
  have hi := (List.getElem?_eq_some_iff.1 h).1
  simp only [sIdx, if_true]
  rw [sIn_nat hi, Option.bind_some, h, Option.bind_some, if_pos he]
theorem sBnd_nat {n i : Nat} (h : i ≤ n) : sBnd n (int i) = some i := by
  have h2 : (0 : Int) ≤ (i : Int) ∧ (i : Int) ≤ (n : Int) := ⟨by omega, by omega⟩
  simp only [sBnd, h2]; simp
theorem intList_map (l : List Int) : intList (l.map (SVal.int .i64)) = some l := by
  induction l with
  | nil => rfl
  | cons n l ih => simp only [List.map_cons, intList, ih, Option.bind_some]
/-! ### The program's data -/
structure Attr where
  name : Int
  value : Int
  deriving DecidableEq, Inhabited
structure Nod where
  kind : Int
  tag : Int
  parent : Int
  kids : List Int
  host : Int
  root : Int
  attrs : List Attr
  deriving DecidableEq, Inhabited
structure Shown where
  node : Int
  invoker : Int
  deriving DecidableEq, Inhabited
structure View where
  tree : List Nod
  op : List Int
  modal : List Int
  popups : List Shown
  top : List Int
  deriving DecidableEq, Inhabited
def encI (l : List Int) : SVal := .sl 1 false false (l.map (SVal.int .i64))
def encA (a : Attr) : SVal := .agg [int a.name, int a.value]
def encAs (l : List Attr) : SVal := .sl 2 false false (l.map encA)
def encN (x : Nod) : SVal := .agg [int x.kind, int x.tag, int x.parent, encI x.kids, int x.host, int x.root, encAs x.attrs]
def encT (t : List Nod) : SVal := .sl 7 false false (t.map encN)
def encS (x : Shown) : SVal := .agg [int x.node, int x.invoker]
def encP (l : List Shown) : SVal := .sl 2 false false (l.map encS)
def encV (v : View) : SVal := .agg [encT v.tree, encI v.op, encI v.modal, encP v.popups, encI v.top]
@[simp] theorem sLen_I (l : List Int) : sLen (encI l) = some (int l.length) := by simp [encI]
@[simp] theorem sLen_As (l : List Attr) : sLen (encAs l) = some (int l.length) := by simp [encAs]
@[simp] theorem sLen_T (l : List Nod) : sLen (encT l) = some (int l.length) := by simp [encT]
@[simp] theorem sLen_P (l : List Shown) : sLen (encP l) = some (int l.length) := by simp [encP]
@[simp] theorem weak_I (l : List Int) : weak (encI l) = encI l := rfl
@[simp] theorem weak_As (l : List Attr) : weak (encAs l) = encAs l := rfl
@[simp] theorem weak_T (l : List Nod) : weak (encT l) = encT l := rfl
@[simp] theorem weak_P (l : List Shown) : weak (encP l) = encP l := rfl
@[simp] theorem one_I (l : List Int) : oneS (encI l) = true := rfl
@[simp] theorem one_As (l : List Attr) : oneS (encAs l) = true := rfl
@[simp] theorem one_T (l : List Nod) : oneS (encT l) = true := rfl
@[simp] theorem one_P (l : List Shown) : oneS (encP l) = true := rfl
theorem idx_I {l : List Int} {i : Nat} (h : i < l.length) : sIdx false 1 (encI l) (int i) = some (int l[i]) := sIdx_at (by simp [h]) rfl
theorem idx_As {l : List Attr} {i : Nat} (h : i < l.length) : sIdx true 2 (encAs l) (int i) = some (encA l[i]) := sIdx_at (by simp [h]) rfl
theorem idx_T {l : List Nod} {i : Nat} (h : i < l.length) : sIdx true 7 (encT l) (int i) = some (encN l[i]) := sIdx_at (by simp [h]) rfl
theorem idx_P {l : List Shown} {i : Nat} (h : i < l.length) : sIdx true 2 (encP l) (int i) = some (encS l[i]) := sIdx_at (by simp [h]) rfl
@[simp] theorem encA_c0 (x : Attr) : SVal.cell (encA x) 0 = int x.name := rfl
@[simp] theorem encA_c1 (x : Attr) : SVal.cell (encA x) 1 = int x.value := rfl
@[simp] theorem encS_c0 (x : Shown) : SVal.cell (encS x) 0 = int x.node := rfl
@[simp] theorem encS_c1 (x : Shown) : SVal.cell (encS x) 1 = int x.invoker := rfl
@[simp] theorem encN_c0 (x : Nod) : SVal.cell (encN x) 0 = int x.kind := rfl
@[simp] theorem encN_c1 (x : Nod) : SVal.cell (encN x) 1 = int x.tag := rfl
@[simp] theorem encN_c2 (x : Nod) : SVal.cell (encN x) 2 = int x.parent := rfl
@[simp] theorem encN_c3 (x : Nod) : SVal.cell (encN x) 3 = encI x.kids := rfl
@[simp] theorem encN_c4 (x : Nod) : SVal.cell (encN x) 4 = int x.host := rfl
@[simp] theorem encN_c5 (x : Nod) : SVal.cell (encN x) 5 = int x.root := rfl
@[simp] theorem encN_c6 (x : Nod) : SVal.cell (encN x) 6 = encAs x.attrs := rfl
end Go.Lm
