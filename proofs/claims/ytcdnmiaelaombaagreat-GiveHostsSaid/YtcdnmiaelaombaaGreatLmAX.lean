/- A part of the proof. -/
import Derived.Test.YtcdnmiaelaombaaGreatLmAA
set_option linter.unusedVariables false
set_option linter.unusedSimpArgs false
set_option linter.unnecessarySimpa false
set_option linter.all false
section
namespace Go.Lm
abbrev Kt := Nat → Nat → Option Value
def Kt.le (K K' : Kt) : Prop := ∀ b o v, K b o = some v → K' b o = some v
theorem Kt.le.refl (K : Kt) : K.le K := fun _ _ _ h => h
theorem Kt.le.trans {K K' K'' : Kt} (h : K.le K') (h' : K'.le K'') : K.le K'' := fun b o v x => h' b o v (h b o v x)
/-- What is kept of a map that is a cache: by a value that no pure one tells. -/
def mkV (ds : List Int) : Value := .iface 0 (.agg (ds.map (Value.int .i64)).toArray)
def isMk : Value → Bool | .iface _ _ => true | _ => false
mutual
def VR (K : Kt) (l : Nat) : SVal → Value → Prop
  | .undef, _ => False
  | .un, v => v = Go.undef
  | .int k n, v => v = .int k n
  | .bool b, v => v = .bool b
  | .str s, v => v = .string s
  | .sl sz own full xs, v => own = false ∧ ∃ A c, v = .slice A xs.length c ∧ xs.length ≤ c ∧ (full = true → c = xs.length) ∧ VE K l sz A 0 xs
  | .rp cs, v => ∃ b o vals, v = .pointer (some ⟨b, o, none⟩) ∧ VRs K l cs vals ∧ ∀ j u, vals[j]? = some u → K b (o + j) = some u
  | .mb _, _ => False
  | .fn f caps, v => ∃ vals, v = .func (.func f) #[] vals.toArray ∧ VRs K l caps vals
  | .bf f first, v => ∃ vals, v = .func (.func f) vals.toArray #[] ∧ VRs K l first vals
  | .agg cs, v => ∃ vals, v = .agg vals.toArray ∧ VRs K l cs vals
  | .tup cs, v => ∃ vals, v = .tuple vals.toArray ∧ VRs K l cs vals
  | .nilp, v => v = .pointer none
  | .nilfn, v => v = .nilFunc
  | .yld, _ => False
  | .cch ds, v => ∃ b, v = .map (some b) ∧ K b 0 = some (mkV ds)
def VRs (K : Kt) (l : Nat) : List SVal → List Value → Prop
  | [], vs => vs = []
  | x :: xs, vs => ∃ v vt, vs = v :: vt ∧ VR K l x v ∧ VRs K l xs vt
def VE (K : Kt) (l : Nat) (sz : Nat) (A : Option Addr) : Nat → List SVal → Prop
  | _, [] => True
  | i, x :: xs => (∃ b o v, A = some ⟨b, o, none⟩ ∧ VR K l x v ∧ v.cells.size = sz ∧ (∀ u ∈ v.cells, u.oneCell' = true) ∧ ∀ j u, v.cells[j]? = some u → K b (o + (i * sz + j)) = some u) ∧ VE K l sz A (i + 1) xs
end
mutual
theorem VR.mono {K K' : Kt} (h : K.le K') {l : Nat} : ∀ (x : SVal) (v : Value), VR K l x v → VR K' l x v
  | .undef, _, hx => by simp [VR] at hx
  | .un, _, hx => by simpa [VR] using hx
  | .int k n, _, hx => by simpa [VR] using hx
  | .bool b, _, hx => by simpa [VR] using hx
  | .str s, _, hx => by simpa [VR] using hx
  | .sl sz own full xs, v, hx => by
    simp only [VR] at hx ⊢
    obtain ⟨h0, A, c, h1, h2, h3, h4⟩ := hx
    exact ⟨h0, A, c, h1, h2, h3, VE.mono h sz A 0 xs h4⟩
  | .rp cs, v, hx => by
    simp only [VR] at hx ⊢
    obtain ⟨b, o, vals, h1, h2, h3⟩ := hx
    exact ⟨b, o, vals, h1, VRs.mono h cs vals h2, fun j u hj => h _ _ _ (h3 j u hj)⟩
  | .mb _, _, hx => by simp [VR] at hx
  | .fn f caps, v, hx => by
    simp only [VR] at hx ⊢
    obtain ⟨vals, h1, h2⟩ := hx
    exact ⟨vals, h1, VRs.mono h caps vals h2⟩
  | .bf f first, v, hx => by
    simp only [VR] at hx ⊢
    obtain ⟨vals, h1, h2⟩ := hx
    exact ⟨vals, h1, VRs.mono h first vals h2⟩
  | .agg cs, v, hx => by
    simp only [VR] at hx ⊢
    obtain ⟨vals, h1, h2⟩ := hx
    exact ⟨vals, h1, VRs.mono h cs vals h2⟩
  | .tup cs, v, hx => by
    simp only [VR] at hx ⊢
    obtain ⟨vals, h1, h2⟩ := hx
    exact ⟨vals, h1, VRs.mono h cs vals h2⟩
  | .nilp, _, hx => by simpa [VR] using hx
  | .nilfn, _, hx => by simpa [VR] using hx
  | .yld, _, hx => by simp [VR] at hx
  | .cch _, _, hx => by
    simp only [VR] at hx ⊢
    obtain ⟨b, h1, h2⟩ := hx
    exact ⟨b, h1, h _ _ _ h2⟩
theorem VRs.mono {K K' : Kt} (h : K.le K') {l : Nat} : ∀ (xs : List SVal) (vs : List Value), VRs K l xs vs → VRs K' l xs vs
  | [], _, hx => by simpa [VRs] using hx
  | x :: xs, vs, hx => by
    simp only [VRs] at hx ⊢
    obtain ⟨v, vt, h1, h2, h3⟩ := hx
    exact ⟨v, vt, h1, VR.mono h x v h2, VRs.mono h xs vt h3⟩
theorem VE.mono {K K' : Kt} (h : K.le K') {l : Nat} : ∀ (sz : Nat) (A : Option Addr) (i : Nat) (xs : List SVal), VE K l sz A i xs → VE K' l sz A i xs
  | _, _, _, [], _ => by simp [VE]
  | sz, A, i, x :: xs, hx => by
    simp only [VE] at hx ⊢
    obtain ⟨⟨b, o, v, h1, h2, h3, h3', h4⟩, h5⟩ := hx
    exact ⟨⟨b, o, v, h1, VR.mono h x v h2, h3, h3', fun j u hj => h _ _ _ (h4 j u hj)⟩, VE.mono h sz A (i + 1) xs h5⟩
end
theorem VRs.length {K : Kt} {l : Nat} : ∀ {xs : List SVal} {vs : List Value}, VRs K l xs vs → vs.length = xs.length
  | [], _, h => by simp only [VRs] at h; simp [h]
  | _ :: xs, _, h => by
    simp only [VRs] at h
    obtain ⟨v, vt, rfl, _, h⟩ := h
    simp [VRs.length h]
theorem VRs.get {K : Kt} {l : Nat} : ∀ {xs : List SVal} {vs : List Value}, VRs K l xs vs → ∀ {j : Nat} {x : SVal}, xs[j]? = some x → ∃ v, vs[j]? = some v ∧ VR K l x v
  | [], _, _, j, x, hj => by simp at hj
  | _ :: xs, _, h, j, x, hj => by
    simp only [VRs] at h
    obtain ⟨v, vt, rfl, h1, h2⟩ := h
    cases j with
    | zero => simp at hj; subst hj; exact ⟨v, by simp, h1⟩
    | succ j => simp at hj; obtain ⟨u, hu, h3⟩ := VRs.get h2 hj; exact ⟨u, by simpa using hu, h3⟩
theorem VRs.of_get {K : Kt} {l : Nat} : ∀ {xs : List SVal} {vs : List Value}, vs.length = xs.length → (∀ (j : Nat) (x : SVal) (v : Value), xs[j]? = some x → vs[j]? = some v → VR K l x v) → VRs K l xs vs
  | [], vs, h, _ => by simp only [VRs]; exact List.eq_nil_of_length_eq_zero h
  | x :: xs, [], h, _ => by simp at h
  | x :: xs, v :: vs, h, hg => by
    simp only [VRs]
    exact ⟨v, vs, rfl, hg 0 x v rfl rfl, VRs.of_get (by simpa using h) fun j x v h1 h2 => hg (j + 1) x v (by simpa using h1) (by simpa using h2)⟩
theorem VRs.append {K : Kt} {l : Nat} {xs ys : List SVal} {vs us : List Value} (h : VRs K l xs vs) (h' : VRs K l ys us) : VRs K l (xs ++ ys) (vs ++ us) := by
  induction xs generalizing vs with
  | nil => simp only [VRs] at h; subst h; simpa using h'
  | cons x xs ih =>
    simp only [VRs] at h
    obtain ⟨v, vt, rfl, h1, h2⟩ := h
    simp only [List.cons_append, VRs]
    exact ⟨v, vt ++ us, rfl, h1, ih h2⟩
theorem VE_iff {K : Kt} {l sz : Nat} {A : Option Addr} : ∀ {xs : List SVal} {i : Nat}, VE K l sz A i xs ↔
    ∀ (j : Nat) (x : SVal), xs[j]? = some x → ∃ b o v, A = some ⟨b, o, none⟩ ∧ VR K l x v ∧ v.cells.size = sz ∧ (∀ u ∈ v.cells, u.oneCell' = true) ∧ ∀ q u, v.cells[q]? = some u → K b (o + ((i + j) * sz + q)) = some u
  | [], i => by simp [VE]
  | y :: xs, i => by
    simp only [VE]
    rw [VE_iff (xs := xs) (i := i + 1)]
    constructor
    · rintro ⟨h0, h1⟩ j x hj
      cases j with
      | zero => simp at hj; subst hj; simpa using h0
      | succ j => simp at hj; have := h1 j x hj; rwa [show i + 1 + j = i + (j + 1) by omega] at this
    · intro h
      refine ⟨by simpa using h 0 y rfl, fun j x hj => ?_⟩
      have := h (j + 1) x (by simpa using hj)
      rwa [show i + (j + 1) = i + 1 + j by omega] at this
theorem oneS_cell {K : Kt} {l : Nat} : ∀ {x : SVal} {v : Value}, VR K l x v → oneS x = true → v.oneCell' = true
  | .int _ _, _, h, _ => by simp only [VR] at h; subst h; rfl
  | .bool _, _, h, _ => by simp only [VR] at h; subst h; rfl
  | .str _, _, h, _ => by simp only [VR] at h; subst h; rfl
  | .sl _ _ _ _, _, h, _ => by simp only [VR] at h; obtain ⟨_, A, c, rfl, _⟩ := h; rfl
  | .rp _, _, h, _ => by simp only [VR] at h; obtain ⟨_, _, _, rfl, _⟩ := h; rfl
  | .fn _ _, _, h, _ => by simp only [VR] at h; obtain ⟨_, rfl, _⟩ := h; rfl
  | .bf _ _, _, h, _ => by simp only [VR] at h; obtain ⟨_, rfl, _⟩ := h; rfl
  | .nilp, _, h, _ => by simp only [VR] at h; subst h; rfl
  | .nilfn, _, h, _ => by simp only [VR] at h; subst h; rfl
  | .yld, _, h, _ => by simp [VR] at h
  | .cch _, _, h, _ => by simp only [VR] at h; obtain ⟨_, rfl, _⟩ := h; rfl
  | .undef, _, h, _ => by simp [VR] at h
  | .un, _, _, h => by simp [oneS] at h
  | .mb _, _, _, h => by simp [oneS] at h
  | .agg _, _, _, h => by simp [oneS] at h
  | .tup _, _, _, h => by simp [oneS] at h
theorem VR.noMk {K : Kt} {l : Nat} {x : SVal} {v : Value} (h : VR K l x v) : isMk v = false := by
  cases x <;> simp only [VR] at h <;> first | exact h.elim | (subst h; rfl) | (obtain ⟨_, _, _, rfl, _⟩ := h; rfl) | (obtain ⟨_, _, rfl, _⟩ := h; rfl) | (obtain ⟨_, rfl, _⟩ := h; rfl) | (obtain ⟨_, _, _, _, rfl, _⟩ := h; rfl)
theorem VRs.noMk {K : Kt} {l : Nat} : ∀ {xs : List SVal} {vs : List Value}, VRs K l xs vs → ∀ u ∈ vs, isMk u = false
  | [], _, h, u, hu => by simp only [VRs] at h; subst h; simp at hu
  | _ :: xs, _, h, u, hu => by
    simp only [VRs] at h
    obtain ⟨v, vt, rfl, h1, h2⟩ := h
    rcases List.mem_cons.1 hu with rfl | hu
    · exact h1.noMk
    · exact VRs.noMk h2 u hu
theorem VRs.noMk' {K : Kt} {l : Nat} {xs : List SVal} {vs : List Value} (h : VRs K l xs vs) {j : Nat} {u : Value} (hj : vs[j]? = some u) : isMk u = false := h.noMk u (List.mem_of_getElem? hj)
theorem VR.noMkC {K : Kt} {l : Nat} {x : SVal} {v : Value} (h : VR K l x v) : ∀ u ∈ v.cells.toList, isMk u = false := by
  have h1 := h.noMk
  have key : (∃ vals : Array Value, v = .agg vals ∧ ∀ u ∈ vals.toList, isMk u = false) ∨ v.cells = #[v] := by
    cases x <;> simp only [VR] at h
    case agg => obtain ⟨vals, rfl, h⟩ := h; exact .inl ⟨_, rfl, fun u hu => h.noMk u (by simpa using hu)⟩
    all_goals first | exact h.elim | (subst h; exact .inr rfl) | (obtain ⟨_, _, _, rfl, _⟩ := h; exact .inr rfl) | (obtain ⟨_, _, rfl, _⟩ := h; exact .inr rfl) | (obtain ⟨_, rfl, _⟩ := h; exact .inr rfl) | (obtain ⟨_, _, _, _, rfl, _⟩ := h; exact .inr rfl)
  rcases key with ⟨vals, rfl, hv⟩ | hv
  · exact hv
  · intro u hu
    rw [hv] at hu
    simp at hu
    subst hu; exact h1
theorem VR.noMk' {K : Kt} {l : Nat} {x : SVal} {v : Value} (h : VR K l x v) {q : Nat} {u : Value} (hq : v.cells[q]? = some u) : isMk u = false := h.noMkC u (List.mem_of_getElem? (by rw [Array.getElem?_toList]; exact hq))
theorem weak_VR0 {K : Kt} {l : Nat} {x : SVal} {v : Value} (h : VR K l x v) : VR K l (weak x) v := by
  cases x with
  | sl sz o f xs =>
    simp only [weak, VR] at h ⊢
    obtain ⟨h0, A, c, h1, h2, _, h4⟩ := h
    exact ⟨h0, A, c, h1, h2, (fun e => by cases e), h4⟩
  | _ => exact h
theorem VRs_weak {K : Kt} {l : Nat} : ∀ {xs : List SVal} {vs : List Value}, VRs K l xs vs → VRs K l (xs.map weak) vs
  | [], _, h => h
  | x :: xs, vs, h => by
    simp only [VRs, List.map_cons] at h ⊢
    obtain ⟨v, vt, h1, h2, h3⟩ := h
    exact ⟨v, vt, h1, weak_VR0 h2, VRs_weak h3⟩
theorem weakE_VR {K : Kt} {l : Nat} {x : SVal} {v : Value} (h : VR K l x v) : VR K l (weakE x) v := by
  cases x with
  | agg cs =>
    simp only [weakE, VR] at h ⊢
    obtain ⟨vals, h1, h2⟩ := h
    exact ⟨vals, h1, VRs_weak h2⟩
  | sl sz o f xs => exact weak_VR0 h
  | _ => exact h
theorem VRs_weakE {K : Kt} {l : Nat} : ∀ {xs : List SVal} {vs : List Value}, VRs K l xs vs → VRs K l (xs.map weakE) vs
  | [], _, h => h
  | x :: xs, vs, h => by
    simp only [VRs, List.map_cons] at h ⊢
    obtain ⟨v, vt, h1, h2, h3⟩ := h
    exact ⟨v, vt, h1, weakE_VR h2, VRs_weakE h3⟩
theorem VRs_wkE {K : Kt} {l : Nat} (b : Bool) {xs : List SVal} {vs : List Value} (h : VRs K l xs vs) : VRs K l (wkE b xs) vs := by
  unfold wkE
  split
  · exact VRs_weakE h
  · exact h
end Go.Lm
end
section
namespace Go.Lm
structure GO where
  blk : Nat
  bs : List Nat
  val : Value
  top : Nat
def Obj.stride : Obj → Nat | .arr _ sz _ => sz | .frz _ sz _ => sz | _ => 0
abbrev Gt := Nat → Option GO

/-- A row from a place on. -/
def tailV (sz lo : Nat) : Value → Value
  | .slice A n c => .slice (if c = lo then A else A.map (·.add (lo * sz))) (n - lo) (c - lo)
  | v => v
mutual
def IR (K : Kt) (l : Nat) (loc : Nat → Obj) (G : Gt) : IVal → Value → Prop
  | .unk, _ => True
  | .v x, v => VR K l x v
  | .la i ver, v => v.oneCell' = true ∧ ∃ g, G i = some g ∧ ver ≤ g.top ∧ ((loc i).ver? = some ver → v = g.val)
  | .lp i ver idx off, v => v.oneCell' = true ∧ ∃ g, G i = some g ∧ ver ≤ g.top ∧ ((loc i).ver? = some ver → v = .pointer (some ⟨g.blk, idx * (loc i).stride + off, none⟩))
  | .it i, v => v.oneCell' = true ∧ ∃ g, G i = some g ∧ ((loc i).ver? = some 0 → v = g.val)
  | .lt i ver lo, v => v.oneCell' = true ∧ ∃ g, G i = some g ∧ ver ≤ g.top ∧ ((loc i).ver? = some ver → v = tailV (loc i).stride lo g.val)
  | .yld, v => v = .func (.yield l) #[] #[]
  | .agg cs, v => ∃ vals, v = .agg vals.toArray ∧ IRs K l loc G cs vals
  | .tup cs, v => ∃ vals, v = .tuple vals.toArray ∧ IRs K l loc G cs vals
  | .clo f cs, v => ∃ vals, v = .func (.func f) #[] vals.toArray ∧ IRs K l loc G cs vals
def IRs (K : Kt) (l : Nat) (loc : Nat → Obj) (G : Gt) : List IVal → List Value → Prop
  | [], vs => vs = []
  | x :: xs, vs => ∃ v vt, vs = v :: vt ∧ IR K l loc G x v ∧ IRs K l loc G xs vt
end
/-- References keep what they mean. -/
def Ext (loc : Nat → Obj) (G : Gt) (loc' : Nat → Obj) (G' : Gt) : Prop :=
  ∀ i g, G i = some g → ∃ g', G' i = some g' ∧ g.top ≤ g'.top ∧ ∀ ver, ver ≤ g.top → (loc' i).ver? = some ver → (loc i).ver? = some ver ∧ g'.val = g.val ∧ g'.blk = g.blk ∧ (loc' i).stride = (loc i).stride
theorem Ext.refl (loc : Nat → Obj) (G : Gt) : Ext loc G loc G := fun _ g h => ⟨g, h, Nat.le_refl _, fun _ _ h => ⟨h, rfl, rfl, rfl⟩⟩
theorem Ext.trans {loc loc' loc'' : Nat → Obj} {G G' G'' : Gt} (h : Ext loc G loc' G') (h' : Ext loc' G' loc'' G'') : Ext loc G loc'' G'' := fun i g hg => by
  obtain ⟨g1, h1, h2, h3⟩ := h i g hg
  obtain ⟨g2, k1, k2, k3⟩ := h' i g1 h1
  refine ⟨g2, k1, Nat.le_trans h2 k2, fun ver hv hl => ?_⟩
  obtain ⟨a1, a2, a3, a4⟩ := k3 ver (Nat.le_trans hv h2) hl
  obtain ⟨b1, b2, b3, b4⟩ := h3 ver hv a1
  exact ⟨b1, a2.trans b2, a3.trans b3, a4.trans b4⟩
mutual
theorem IR.mono {K K' : Kt} (hK : K.le K') {l : Nat} {loc loc' : Nat → Obj} {G G' : Gt} (h : Ext loc G loc' G') : ∀ (x : IVal) (v : Value), IR K l loc G x v → IR K' l loc' G' x v
  | .unk, _, _ => by simp [IR]
  | .yld, _, hx => by simpa [IR] using hx
  | .v x, v, hx => by simp only [IR] at hx ⊢; exact hx.mono hK
  | .la i ver, v, hx => by
    simp only [IR] at hx ⊢
    obtain ⟨h0, g, h1, h2, h3⟩ := hx
    obtain ⟨g', k1, k2, k3⟩ := h i g h1
    exact ⟨h0, g', k1, Nat.le_trans h2 k2, fun hl => by obtain ⟨a, b, _⟩ := k3 ver h2 hl; rw [b]; exact h3 a⟩
  | .lp i ver idx off, v, hx => by
    simp only [IR] at hx ⊢
    obtain ⟨h0, g, h1, h2, h3⟩ := hx
    obtain ⟨g', k1, k2, k3⟩ := h i g h1
    exact ⟨h0, g', k1, Nat.le_trans h2 k2, fun hl => by obtain ⟨a, _, c, d⟩ := k3 ver h2 hl; rw [c, d]; exact h3 a⟩
  | .lt i ver lo, v, hx => by
    simp only [IR] at hx ⊢
    obtain ⟨h0, g, h1, h2, h3⟩ := hx
    obtain ⟨g', k1, k2, k3⟩ := h i g h1
    exact ⟨h0, g', k1, Nat.le_trans h2 k2, fun hl => by obtain ⟨a, b, _, d⟩ := k3 ver h2 hl; rw [b, d]; exact h3 a⟩
  | .it i, v, hx => by
    simp only [IR] at hx ⊢
    obtain ⟨h0, g, h1, h3⟩ := hx
    obtain ⟨g', k1, k2, k3⟩ := h i g h1
    exact ⟨h0, g', k1, fun hl => by obtain ⟨a, b, _⟩ := k3 0 (Nat.zero_le _) hl; rw [b]; exact h3 a⟩
  | .agg cs, v, hx => by
    simp only [IR] at hx ⊢
    obtain ⟨vals, h1, h2⟩ := hx
    exact ⟨vals, h1, IRs.mono hK h cs vals h2⟩
  | .tup cs, v, hx => by
    simp only [IR] at hx ⊢
    obtain ⟨vals, h1, h2⟩ := hx
    exact ⟨vals, h1, IRs.mono hK h cs vals h2⟩
  | .clo f cs, v, hx => by
    simp only [IR] at hx ⊢
    obtain ⟨vals, h1, h2⟩ := hx
    exact ⟨vals, h1, IRs.mono hK h cs vals h2⟩
theorem IRs.mono {K K' : Kt} (hK : K.le K') {l : Nat} {loc loc' : Nat → Obj} {G G' : Gt} (h : Ext loc G loc' G') : ∀ (xs : List IVal) (vs : List Value), IRs K l loc G xs vs → IRs K' l loc' G' xs vs
  | [], _, hx => by simpa [IRs] using hx
  | x :: xs, vs, hx => by
    simp only [IRs] at hx ⊢
    obtain ⟨v, vt, h1, h2, h3⟩ := hx
    exact ⟨v, vt, h1, IR.mono hK h x v h2, IRs.mono hK h xs vt h3⟩
end
section
variable {K : Kt} {l : Nat} {loc : Nat → Obj} {G : Gt}
theorem IRs.length : ∀ {xs : List IVal} {vs : List Value}, IRs K l loc G xs vs → vs.length = xs.length
  | [], _, h => by simp only [IRs] at h; simp [h]
  | _ :: xs, _, h => by
    simp only [IRs] at h
    obtain ⟨v, vt, rfl, _, h⟩ := h
    simp [IRs.length h]
theorem IRs.get : ∀ {xs : List IVal} {vs : List Value}, IRs K l loc G xs vs → ∀ {j : Nat} {x : IVal}, xs[j]? = some x → ∃ v, vs[j]? = some v ∧ IR K l loc G x v
  | [], _, _, j, x, hj => by simp at hj
  | _ :: xs, _, h, j, x, hj => by
    simp only [IRs] at h
    obtain ⟨v, vt, rfl, h1, h2⟩ := h
    cases j with
    | zero => simp at hj; subst hj; exact ⟨v, by simp, h1⟩
    | succ j => simp at hj; obtain ⟨u, hu, h3⟩ := IRs.get h2 hj; exact ⟨u, by simpa using hu, h3⟩
theorem IRs.of_get : ∀ {xs : List IVal} {vs : List Value}, vs.length = xs.length → (∀ (j : Nat) (x : IVal) (v : Value), xs[j]? = some x → vs[j]? = some v → IR K l loc G x v) → IRs K l loc G xs vs
  | [], vs, h, _ => by simp only [IRs]; exact List.eq_nil_of_length_eq_zero h
  | x :: xs, [], h, _ => by simp at h
  | x :: xs, v :: vs, h, hg => by
    simp only [IRs]
    exact ⟨v, vs, rfl, hg 0 x v rfl rfl, IRs.of_get (by simpa using h) fun j x v h1 h2 => hg (j + 1) x v (by simpa using h1) (by simpa using h2)⟩
theorem IRs.ofVRs {xs : List SVal} {vs : List Value} (h : VRs K l xs vs) : IRs K l loc G (xs.map .v) vs :=
  IRs.of_get (by simp [h.length]) fun j x v h1 h2 => by
    simp only [List.getElem?_map, Option.map_eq_some_iff] at h1
    obtain ⟨y, hy, rfl⟩ := h1
    obtain ⟨u, hu, h3⟩ := h.get hy
    rw [hu] at h2; cases h2
    simpa only [IR] using h3
theorem IRs.take {xs : List IVal} {vs : List Value} (h : IRs K l loc G xs vs) (n : Nat) : IRs K l loc G (xs.take n) (vs.take n) :=
  IRs.of_get (by simp [h.length]) fun j x v h1 h2 => by
    rw [List.getElem?_take] at h1 h2
    split at h1
    · rename_i hj
      rw [if_pos hj] at h2
      obtain ⟨u, hu, h3⟩ := h.get h1
      rw [hu] at h2; cases h2; exact h3
    · cases h1
theorem IRs.drop {xs : List IVal} {vs : List Value} (h : IRs K l loc G xs vs) (n : Nat) : IRs K l loc G (xs.drop n) (vs.drop n) :=
  IRs.of_get (by simp [h.length]) fun j x v h1 h2 => by
    rw [List.getElem?_drop] at h1 h2
    obtain ⟨u, hu, h3⟩ := h.get h1
    rw [hu] at h2; cases h2; exact h3
theorem IRs.append {xs ys : List IVal} {vs us : List Value} (h : IRs K l loc G xs vs) (h' : IRs K l loc G ys us) : IRs K l loc G (xs ++ ys) (vs ++ us) := by
  induction xs generalizing vs with
  | nil => simp only [IRs] at h; subst h; simpa using h'
  | cons x xs ih =>
    simp only [IRs] at h
    obtain ⟨v, vt, rfl, h1, h2⟩ := h
    simp only [List.cons_append, IRs]
    exact ⟨v, vt ++ us, rfl, h1, ih h2⟩
theorem oneI_cell : ∀ {x : IVal} {v : Value}, IR K l loc G x v → oneI x = true → v.oneCell' = true
  | .v x, v, h, h1 => by simp only [IR] at h; exact oneS_cell h h1
  | .la _ _, v, h, _ => by simp only [IR] at h; exact h.1
  | .lp _ _ _ _, v, h, _ => by simp only [IR] at h; exact h.1
  | .it _, v, h, _ => by simp only [IR] at h; exact h.1
  | .lt _ _ _, v, h, _ => by simp only [IR] at h; exact h.1
  | .yld, v, h, _ => by simp only [IR] at h; subst h; rfl
  | .clo _ _, v, h, _ => by simp only [IR] at h; obtain ⟨_, rfl, _⟩ := h; rfl
  | .unk, _, _, h => by simp [oneI] at h
  | .agg _, _, _, h => by simp [oneI] at h
  | .tup _, _, _, h => by simp [oneI] at h
end

/-- The elements of an owned row. -/
def AE (K : Kt) (l sz : Nat) (arr : Array Value) (xs : List SVal) : Prop :=
  ∀ (j : Nat) (x : SVal), xs[j]? = some x → ∃ v, VR K l x v ∧ v.cells.size = sz ∧ (∀ u ∈ v.cells, u.oneCell' = true) ∧ ∀ q u, v.cells[q]? = some u → arr[j * sz + q]? = some u
/-- A row of one's own: its value; its block, if it has one. -/
def OwnR (K : Kt) (l : Nat) (w : World) (sz : Nat) (xs : List SVal) (v : Value) (blk : Nat) (bs : List Nat) : Prop :=
  0 < sz ∧ ((xs = [] ∧ bs = [] ∧ ∃ A, v = .slice A 0 0) ∨
  (bs = [blk] ∧ ∃ arr t cap, 0 < cap ∧ w.heap[blk]? = some (.cells arr t (0, 0)) ∧ v = .slice (some ⟨blk, 0, none⟩) xs.length cap ∧ arr.size = cap * sz ∧ xs.length ≤ cap ∧ AE K l sz arr xs))
def BoxR (K : Kt) (l : Nat) (w : World) (cs : List SVal) (b : Nat) : Prop := ∃ vals t, w.heap[b]? = some (.cells vals.toArray t (0, 0)) ∧ VRs K l cs vals
section
variable (H : Nat → FH) (K : Kt) (l : Nat) (w : World)
/-- What is handed over, by shape, with the blocks that go with it: what may be captured. -/
def XS0 : Shape → SVal → Value → List Nat → Prop
  | .plain, x, v, bs => bs = [] ∧ VR K l x v
  | .scalar, x, v, bs => bs = [] ∧ VR K l x v
  | .slc, x, v, bs => bs = [] ∧ VR K l x v
  | .rp n, x, v, bs => bs = [] ∧ VR K l x v ∧ ∃ cs, x = .rp cs ∧ cs.length = n
  | .own sz, x, v, bs => ∃ xs blk, x = .sl sz true false xs ∧ OwnR K l w sz xs v blk bs
  | .box n, x, v, bs => ∃ cs b, x = .mb cs ∧ cs.length = n ∧ bs = [b] ∧ v = .pointer (some ⟨b, 0, none⟩) ∧ BoxR K l w cs b
  | _, _, _, _ => False
def XS0s : List Shape → List SVal → List Value → List Nat → Prop
  | [], xs, vs, bs => xs = [] ∧ vs = [] ∧ bs = []
  | s :: ss, xs, vs, bs => ∃ x xt v vt b1 b2, xs = x :: xt ∧ vs = v :: vt ∧ bs = b1 ++ b2 ∧ XS0 K l w s x v b1 ∧ XS0s ss xt vt b2
mutual
def XS : Shape → SVal → Value → List Nat → Prop
  | .iter, x, v, bs => ∃ g caps vals ss, x = .fn g caps ∧ v = .func (.func g) #[] vals.toArray ∧ (H g).params = .yld :: ss ∧ ss.all simpleSh = true ∧ XS0s K l w ss caps vals bs
  | .yld, x, v, bs => bs = [] ∧ x = .yld ∧ v = .func (.yield l) #[] #[]
  | .agg ss, x, v, bs => ∃ cs vals, x = .agg cs ∧ v = .agg vals.toArray ∧ XSs ss cs vals bs
  | .tup ss, x, v, bs => ∃ cs vals, x = .tup cs ∧ v = .tuple vals.toArray ∧ XSs ss cs vals bs
  | .boxs ss, x, v, bs => ∃ cs b vals bs' t, x = .mb cs ∧ bs = bs' ++ [b] ∧ v = .pointer (some ⟨b, 0, none⟩) ∧ w.heap[b]? = some (.cells vals.toArray t (0, 0)) ∧ XSs ss cs vals bs'
  | .plain, x, v, bs => XS0 K l w .plain x v bs
  | .scalar, x, v, bs => XS0 K l w .scalar x v bs
  | .slc, x, v, bs => XS0 K l w .slc x v bs
  | .rp n, x, v, bs => XS0 K l w (.rp n) x v bs
  | .own sz, x, v, bs => XS0 K l w (.own sz) x v bs
  | .box n, x, v, bs => XS0 K l w (.box n) x v bs
def XSs : List Shape → List SVal → List Value → List Nat → Prop
  | [], xs, vs, bs => xs = [] ∧ vs = [] ∧ bs = []
  | s :: ss, xs, vs, bs => ∃ x xt v vt b1 b2, xs = x :: xt ∧ vs = v :: vt ∧ bs = b1 ++ b2 ∧ XS s x v b1 ∧ XSs ss xt vt b2
end
end
/-- An object of the activation, as it lies in memory. -/
def OR (H : Nat → FH) (K : Kt) (l : Nat) (loc : Nat → Obj) (G : Gt) (w : World) (g : GO) : Obj → Prop
  | .dead => True
  | .box cs => g.top = 0 ∧ g.bs = [g.blk] ∧ ∃ vals t, w.heap[g.blk]? = some (.cells vals.toArray t (0, 0)) ∧ IRs K l loc G cs vals
  | .arr ver sz xs => g.top = ver ∧ OwnR K l w sz xs g.val g.blk g.bs
  | .iter x => g.top = 0 ∧ XS H K l w .iter x g.val g.bs
  | .frz ver sz xs => g.top = ver ∧ 0 < sz ∧ VR K l (.sl sz false false xs) g.val ∧ (xs ≠ [] → ∃ n c, g.val = .slice (some ⟨g.blk, 0, none⟩) n c)
  | .frzb cs => g.top = 0 ∧ VR K l (.rp cs) (.pointer (some ⟨g.blk, 0, none⟩))
/-- The heap, but for what lies in maps. -/
def vw (w : World) (b : Nat) : Option Go.Obj := match w.heap[b]? with | some (.map _ _) => some (.map #[] 0) | o => o
def isMapO : Go.Obj → Bool | .map _ _ => true | _ => false
theorem vw_of {w w' : World} {b : Nat} (h : w'.heap[b]? = w.heap[b]?) : vw w' b = vw w b := by unfold vw; rw [h]
theorem vw_get {w w' : World} {b : Nat} {o : Go.Obj} (h : vw w' b = vw w b) (h1 : w.heap[b]? = some o) (hm : isMapO o = false := by rfl) : w'.heap[b]? = some o := by
  unfold vw at h
  rw [h1] at h
  cases hb : w'.heap[b]? with
  | none => rw [hb] at h; cases o <;> first | (cases h; done) | (simp [isMapO] at hm; done)
  | some o' => rw [hb] at h; cases o <;> cases o' <;> first | (simp [isMapO] at hm; done) | exact h | (cases h; done)
/-- A cache's entries are as they are to be. -/
def CacheOk (ds : Array Value) (es : Array MapEntry) : Prop := ∀ e ∈ es.toList, ∃ (a x : Int), e.key = .int .i64 a ∧ e.val = .int .i64 x ∧ 0 ≤ a ∧ ds[a.toNat]? = some (.int .i64 x)
/-- All that a map holds, as a value. -/
def encM (es : Array MapEntry) (c : Nat) : Value := .tuple #[.agg (es.map (·.key)), .agg (es.map (·.val)), .agg (es.map fun e => .int .i64 e.born), .int .i64 c]
theorem encM_inj {es es' : Array MapEntry} {c c' : Nat} (h : encM es c = encM es' c') : es = es' ∧ c = c' := by
  simp only [encM, Value.tuple.injEq] at h
  have h := congrArg Array.toList h
  simp only [List.cons.injEq, Value.agg.injEq, Value.int.injEq, true_and, and_true] at h
  obtain ⟨h1, h2, h3, h4⟩ := h
  refine ⟨?_, by omega⟩
  have hs : es.size = es'.size := by have := congrArg Array.size h1; simpa using this
  refine Array.ext hs fun i hi hi' => ?_
  have a1 : (es.map (·.key))[i]? = (es'.map (·.key))[i]? := by rw [h1]
  have a2 : (es.map (·.val))[i]? = (es'.map (·.val))[i]? := by rw [h2]
  have a3 : (es.map fun e => Value.int .i64 e.born)[i]? = (es'.map fun e => Value.int .i64 e.born)[i]? := by rw [h3]
  simp only [Array.getElem?_map, Array.getElem?_eq_getElem hi, Array.getElem?_eq_getElem hi', Option.map_some, Option.some.injEq, Value.int.injEq, true_and] at a1 a2 a3
  have a3 : es[i].born = es'[i].born := by omega
  revert a1 a2 a3
  cases es[i]; cases es'[i]
  intro a1 a2 a3
  simp only at a1 a2 a3
  subst a1 a2 a3; rfl
/-- What is known of a place: its cell; of a mark, that a cache lies there. -/
def Kat (w : World) (b o : Nat) (v : Value) : Prop := match v with
  | .iface t d => o = 0 ∧ ∃ es c, w.heap[b]? = some (.map es c) ∧ if t = 0 then CacheOk d.cells es else d = encM es c
  | v => w.cell? ⟨b, o, none⟩ = some v
theorem Kat.cell {w : World} {b o : Nat} {v : Value} (h : Kat w b o v) (hm : isMk v = false) : w.cell? ⟨b, o, none⟩ = some v := by
  cases v <;> first | exact h | (simp [isMk] at hm)
theorem Kat.of_cell {w : World} {b o : Nat} {v : Value} (h : w.cell? ⟨b, o, none⟩ = some v) (hm : isMk v = false) : Kat w b o v := by
  cases v <;> first | exact h | (simp [isMk] at hm)
theorem Kat.of_heap {w w' : World} {b o : Nat} {v : Value} (h : w'.heap[b]? = w.heap[b]?) (hk : Kat w b o v) : Kat w' b o v := by
  cases v with
  | iface t d =>
    obtain ⟨h0, es, c, h1, h2⟩ := hk
    exact ⟨h0, es, c, h.trans h1, h2⟩
  | _ => simp only [Kat, World.cell?, h] at hk ⊢; exact hk
theorem Kat.obj {w : World} {b o : Nat} {v : Value} (hk : Kat w b o v) : ∃ ob, w.heap[b]? = some ob ∧ ((∃ c t f, ob = .cells c t f) ∨ (∃ es c, ob = .map es c)) := by
  cases v with
  | iface t d =>
    obtain ⟨_, es, c, h1, h2⟩ := hk
    exact ⟨_, h1, .inr ⟨_, _, rfl⟩⟩
  | _ =>
    simp only [Kat, World.cell?] at hk
    split at hk
    · rename_i hc; exact ⟨_, hc, .inl ⟨_, _, _, rfl⟩⟩
    · cases hk
theorem Kat.lt {w : World} {b o : Nat} {v : Value} (hk : Kat w b o v) : b < w.heap.size := by
  obtain ⟨ob, h, _⟩ := hk.obj
  exact (Array.getElem?_eq_some_iff.1 h).1
theorem Kat.not {w : World} {b o : Nat} {v : Value} {ob : Go.Obj} (hk : Kat w b o v) (h : w.heap[b]? = some ob) (h1 : (match ob with | .cells .. => true | .map .. => true | _ => false) = false) : False := by
  obtain ⟨ob', h2, h3⟩ := hk.obj
  rw [h] at h2; cases h2
  rcases h3 with ⟨c, t, f, rfl⟩ | ⟨es, c, rfl⟩ <;> cases h1
structure SameW (w w' : World) : Prop where
  os : w'.os = w.os
  tape : w'.tape = w.tape
  output : w'.output = w.output
  size : w.heap.size ≤ w'.heap.size
theorem SameW.refl (w : World) : SameW w w := ⟨rfl, rfl, rfl, Nat.le_refl _⟩
theorem SameW.trans {w w' w'' : World} (h : SameW w w') (h' : SameW w' w'') : SameW w w'' := ⟨h'.os.trans h.os, h'.tape.trans h.tape, h'.output.trans h.output, Nat.le_trans h.size h'.size⟩
/-- How the world of one who owns the blocks O may go on. -/
structure Evo (K : Kt) (O : Nat → Prop) (w : World) (K' : Kt) (O' : Nat → Prop) (w' : World) : Prop where
  same : SameW w w'
  keep : ∀ b, b < w.heap.size → ¬ O b → vw w' b = vw w b
  kok : ∀ b o v, K b o = some v → Kat w b o v → Kat w' b o v
  kle : K.le K'
  knew : ∀ b o v, K' b o = some v → K b o = some v ∨ O b ∨ w.heap.size ≤ b
  onew : ∀ b, O' b → O b ∨ w.heap.size ≤ b
theorem Evo.refl (K : Kt) (O : Nat → Prop) (w : World) : Evo K O w K O w := ⟨SameW.refl _, fun _ _ _ => rfl, fun _ _ _ _ h => h, Kt.le.refl _, fun _ _ _ h => .inl h, fun _ h => .inl h⟩
theorem Evo.trans {K K' K'' : Kt} {O O' O'' : Nat → Prop} {w w' w'' : World} (h : Evo K O w K' O' w') (h' : Evo K' O' w' K'' O'' w'') : Evo K O w K'' O'' w'' where
  same := h.same.trans h'.same
  keep := fun b hb hO => by
    rw [h'.keep b (Nat.lt_of_lt_of_le hb h.same.size) (fun hO' => (h.onew b hO').elim hO (fun h => absurd hb (by omega))), h.keep b hb hO]
  kok := fun b o v hv hk => h'.kok b o v (h.kle b o v hv) (h.kok b o v hv hk)
  kle := h.kle.trans h'.kle
  knew := fun b o v hv => by
    rcases h'.knew b o v hv with h1 | h1 | h1
    · exact h.knew b o v h1
    · exact .inr (h.onew b h1)
    · exact .inr (.inr (Nat.le_trans h.same.size h1))
  onew := fun b hb => by
    rcases h'.onew b hb with h1 | h1
    · exact h.onew b h1
    · exact .inr (Nat.le_trans h.same.size h1)
abbrev Prot := List Value → Kt → (Nat → Prop) → World → Prop
def Stable (J : Prot) : Prop := ∀ ov K O w K' O' w', J ov K O w → Evo K O w K' O' w' → J ov K' O' w'
structure Ctx where
  P : Program
  H : Nat → FH
  l : Nat
  w0 : World
  O : Nat → Prop
  K0 : Kt
  J : Prot
  Jx : Prot
  nt : Nat
def OwnB (c : Ctx) (loc : Nat → Obj) (G : Gt) (ds : List Nat) (b : Nat) : Prop :=
  (∃ i g, G i = some g ∧ (loc i).live = true ∧ b ∈ g.bs) ∨ b ∈ ds
abbrev mark (d : Nat) : Deferred := { target := .collected d, args := #[] }
structure Sim (c : Ctx) (K : Kt) (G : Gt) (ov : List Value) (ds : List Nat) (st : St) (a : Act) (w : World) : Prop where
  kok : ∀ b o v, K b o = some v → Kat w b o v
  k0 : c.K0.le K
  kO : ∀ b o v, c.O b → K b o = some v → c.K0 b o = some v
  slots : ∀ t, IR K c.l st.loc G (st.env t) (a.tmps.getD t Go.undef)
  nt : a.tmps.size = c.nt
  objs : ∀ i g, G i = some g → OR c.H K c.l st.loc G w g (st.loc i)
  gnone : ∀ i, G i = none → st.loc i = .dead
  own : ∀ i g, G i = some g → (st.loc i).live = true → ∀ b ∈ g.bs, b < w.heap.size ∧ ¬ c.O b ∧ b ∉ ds ∧ ∀ o, K b o = none
  nd : ∀ i g, G i = some g → (st.loc i).live = true → g.bs.Nodup
  sep : ∀ i j g g' b, i ≠ j → G i = some g → G j = some g' → (st.loc i).live = true → (st.loc j).live = true → b ∈ g.bs → b ∉ g'.bs
  same : SameW c.w0 w
  frame : ∀ b, c.O b → vw w b = vw c.w0 b
  oB : ∀ b, c.O b → b < c.w0.heap.size
  outs : st.stop = false → VRs K c.l st.out ov
  prot : st.stop = false → c.J ov K (OwnB c st.loc G ds) w
  protx : st.stop = true → ∃ pre, c.Jx pre K (OwnB c st.loc G ds) w
  dfs : a.defers = ds.map mark
  dnd : ds.Nodup
  dob : ∀ d ∈ ds, w.heap[d]? = some (.deferred (some [])) ∧ ¬ c.O d
  hJ : Stable c.J
  hJx : Stable c.Jx
end Go.Lm
end
section
namespace Go.Lm
/-! ### What holds goes on to hold -/
theorem AE.mono {K K' : Kt} (h : K.le K') {l sz : Nat} {arr : Array Value} {xs : List SVal} (ha : AE K l sz arr xs) : AE K' l sz arr xs := fun j x hj => by
  obtain ⟨v, h1, h2, h3⟩ := ha j x hj
  exact ⟨v, h1.mono h, h2, h3⟩
theorem OwnR.mono {K K' : Kt} (h : K.le K') {l : Nat} {w w' : World} {sz : Nat} {xs : List SVal} {v : Value} {blk : Nat} {bs : List Nat} (ho : OwnR K l w sz xs v blk bs)
    (hw : ∀ b ∈ bs, vw w' b = vw w b) : OwnR K' l w' sz xs v blk bs := by
  obtain ⟨h0, ho⟩ := ho
  refine ⟨h0, ?_⟩
  rcases ho with ho | ⟨hb, arr, t, cap, hcp, h1, h2, h3, h4, h5⟩
  · exact .inl ho
  · exact .inr ⟨hb, arr, t, cap, hcp, vw_get (hw blk (by simp [hb])) h1, h2, h3, h4, h5.mono h⟩
theorem BoxR.mono {K K' : Kt} (h : K.le K') {l : Nat} {w w' : World} {cs : List SVal} {b : Nat} (ho : BoxR K l w cs b) (hw : vw w' b = vw w b) : BoxR K' l w' cs b := by
  obtain ⟨vals, t, h1, h2⟩ := ho
  exact ⟨vals, t, vw_get hw h1, h2.mono h⟩
theorem XS0.mono {K K' : Kt} (h : K.le K') {l : Nat} {w w' : World} {s : Shape} {x : SVal} {v : Value} {bs : List Nat} (hx : XS0 K l w s x v bs)
    (hw : ∀ b ∈ bs, vw w' b = vw w b) : XS0 K' l w' s x v bs := by
  cases s with
  | plain => exact ⟨hx.1, hx.2.mono h⟩
  | scalar => exact ⟨hx.1, hx.2.mono h⟩
  | slc => exact ⟨hx.1, hx.2.mono h⟩
  | rp n => exact ⟨hx.1, hx.2.1.mono h, hx.2.2⟩
  | own sz =>
    obtain ⟨xs, blk, h1, h2⟩ := hx
    exact ⟨xs, blk, h1, h2.mono h hw⟩
  | box n =>
    obtain ⟨cs, b, h1, h2, h3, h4, h5⟩ := hx
    exact ⟨cs, b, h1, h2, h3, h4, h5.mono h (hw b (by simp [h3]))⟩
  | iter => exact hx.elim
  | yld => exact hx.elim
  | agg ss => exact hx.elim
  | tup ss => exact hx.elim
  | boxs ss => exact hx.elim
theorem XS0s.mono {K K' : Kt} (h : K.le K') {l : Nat} {w w' : World} : ∀ {ss : List Shape} {xs : List SVal} {vs : List Value} {bs : List Nat}, XS0s K l w ss xs vs bs →
    (∀ b ∈ bs, vw w' b = vw w b) → XS0s K' l w' ss xs vs bs
  | [], _, _, _, hx, _ => hx
  | s :: ss, _, _, _, hx, hw => by
    obtain ⟨x, xt, v, vt, b1, b2, h1, h2, h3, h4, h5⟩ := hx
    subst h3
    exact ⟨x, xt, v, vt, b1, b2, h1, h2, rfl, h4.mono h (fun b hb => hw b (List.mem_append.2 (.inl hb))), XS0s.mono h h5 (fun b hb => hw b (List.mem_append.2 (.inr hb)))⟩
mutual
theorem XS.mono {H : Nat → FH} {K K' : Kt} (h : K.le K') {l : Nat} {w w' : World} : ∀ (s : Shape) {x : SVal} {v : Value} {bs : List Nat}, XS H K l w s x v bs →
    (∀ b ∈ bs, vw w' b = vw w b) → XS H K' l w' s x v bs
  | .plain, _, _, _, hx, hw => by simp only [XS] at hx ⊢; exact hx.mono h hw
  | .scalar, _, _, _, hx, hw => by simp only [XS] at hx ⊢; exact hx.mono h hw
  | .slc, _, _, _, hx, hw => by simp only [XS] at hx ⊢; exact hx.mono h hw
  | .rp n, _, _, _, hx, hw => by simp only [XS] at hx ⊢; exact hx.mono h hw
  | .own sz, _, _, _, hx, hw => by simp only [XS] at hx ⊢; exact hx.mono h hw
  | .box n, _, _, _, hx, hw => by simp only [XS] at hx ⊢; exact hx.mono h hw
  | .iter, _, _, _, hx, hw => by
    simp only [XS] at hx ⊢
    obtain ⟨g, caps, vals, ss, h1, h2, h3, h4, h5⟩ := hx
    exact ⟨g, caps, vals, ss, h1, h2, h3, h4, h5.mono h hw⟩
  | .yld, _, _, _, hx, _ => by simp only [XS] at hx ⊢; exact hx
  | .agg ss, _, _, _, hx, hw => by
    simp only [XS] at hx ⊢
    obtain ⟨cs, vals, h1, h2, h3⟩ := hx
    exact ⟨cs, vals, h1, h2, XSs.mono h ss h3 hw⟩
  | .boxs ss, _, _, _, hx, hw => by
    simp only [XS] at hx ⊢
    obtain ⟨cs, b, vals, bs', t, h1, rfl, h3, h4, h5⟩ := hx
    exact ⟨cs, b, vals, bs', t, h1, rfl, h3, vw_get (hw b (by simp)) h4, XSs.mono h ss h5 fun b' hb' => hw b' (by simp [hb'])⟩
  | .tup ss, _, _, _, hx, hw => by
    simp only [XS] at hx ⊢
    obtain ⟨cs, vals, h1, h2, h3⟩ := hx
    exact ⟨cs, vals, h1, h2, XSs.mono h ss h3 hw⟩
theorem XSs.mono {H : Nat → FH} {K K' : Kt} (h : K.le K') {l : Nat} {w w' : World} : ∀ (ss : List Shape) {xs : List SVal} {vs : List Value} {bs : List Nat}, XSs H K l w ss xs vs bs →
    (∀ b ∈ bs, vw w' b = vw w b) → XSs H K' l w' ss xs vs bs
  | [], _, _, _, hx, _ => by simp only [XSs] at hx ⊢; exact hx
  | s :: ss, _, _, _, hx, hw => by
    simp only [XSs] at hx ⊢
    obtain ⟨x, xt, v, vt, b1, b2, h1, h2, h3, h4, h5⟩ := hx
    subst h3
    exact ⟨x, xt, v, vt, b1, b2, h1, h2, rfl, XS.mono h s h4 (fun b hb => hw b (List.mem_append.2 (.inl hb))), XSs.mono h ss h5 (fun b hb => hw b (List.mem_append.2 (.inr hb)))⟩
end
theorem OR.mono {H : Nat → FH} {K K' : Kt} (h : K.le K') {l : Nat} {loc loc' : Nat → Obj} {G G' : Gt} (he : Ext loc G loc' G') {w w' : World} {g : GO} {o : Obj} (ho : OR H K l loc G w g o)
    (hw : o.live = true → ∀ b ∈ g.bs, vw w' b = vw w b) : OR H K' l loc' G' w' g o := by
  cases o with
  | dead => trivial
  | box cs =>
    obtain ⟨h0, h1, vals, t, h2, h3⟩ := ho
    exact ⟨h0, h1, vals, t, vw_get (hw rfl g.blk (by simp [h1])) h2, h3.mono h he⟩
  | arr ver sz xs => exact ⟨ho.1, ho.2.mono h (hw rfl)⟩
  | iter x => exact ⟨ho.1, XS.mono h _ ho.2 (hw rfl)⟩
  | frz ver sz xs => exact ⟨ho.1, ho.2.1, ho.2.2.1.mono h, ho.2.2.2⟩
  | frzb cs => exact ⟨ho.1, ho.2.mono h⟩

/-! ### The world's cells -/
theorem cell_of_heap {w w' : World} {b : Nat} (h : w'.heap[b]? = w.heap[b]?) (o : Nat) : w'.cell? ⟨b, o, none⟩ = w.cell? ⟨b, o, none⟩ := by
  simp only [World.cell?, h]
theorem lt_of_cell {w : World} {b o : Nat} {v : Value} (h : w.cell? ⟨b, o, none⟩ = some v) : b < w.heap.size := by
  simp only [World.cell?] at h
  split at h
  · rename_i hc; exact (Array.getElem?_eq_some_iff.1 hc).1
  · cases h
section
variable {c : Ctx} {K : Kt} {G : Gt} {ov : List Value} {ds : List Nat} {st : St} {a : Act} {w : World}
theorem Sim.klt (hs : Sim c K G ov ds st a w) {b o : Nat} {v : Value} (h : K b o = some v) : b < w.heap.size := (hs.kok b o v h).lt
theorem Sim.olt (hs : Sim c K G ov ds st a w) {b : Nat} (h : c.O b) : b < w.heap.size := Nat.lt_of_lt_of_le (hs.oB b h) hs.same.size
theorem Sim.dlt (hs : Sim c K G ov ds st a w) {d : Nat} (h : d ∈ ds) : d < w.heap.size := (Array.getElem?_eq_some_iff.1 (hs.dob d h).1).1
theorem Sim.knone (hs : Sim c K G ov ds st a w) {b : Nat} (h : w.heap.size ≤ b) (o : Nat) : K b o = none := by
  cases hk : K b o with
  | none => rfl
  | some v => exact absurd (hs.klt hk) (by omega)
theorem upd_same {α : Type} (f : Nat → α) (i : Nat) (x : α) : upd f i x i = x := by simp [upd]
theorem upd_other {α : Type} (f : Nat → α) {i j : Nat} (x : α) (h : j ≠ i) : upd f i x j = f j := by simp [upd, h]
theorem Sim.ext1 (hs : Sim c K G ov ds st a w) (i : Nat) (o' : Obj) (g' : GO)
    (hG : ∀ g, G i = some g → g.top ≤ g'.top ∧ ∀ ver, ver ≤ g.top → o'.ver? = some ver → (st.loc i).ver? = some ver ∧ g'.val = g.val ∧ g'.blk = g.blk ∧ o'.stride = (st.loc i).stride) :
    Ext st.loc G (upd st.loc i o') (upd G i (some g')) := fun j g hg => by
  by_cases hj : j = i
  · subst hj
    rw [upd_same, upd_same]
    obtain ⟨h1, h2⟩ := hG g hg
    exact ⟨g', rfl, h1, h2⟩
  · rw [upd_other _ _ hj, upd_other _ _ hj]
    exact ⟨g, hg, Nat.le_refl _, fun _ _ h => ⟨h, rfl, rfl, rfl⟩⟩
/-- One object turns: it is new, written, cut or given away. -/
theorem Sim.obj1 (hs : Sim c K G ov ds st a w) (i : Nat) (o' : Obj) (g' : GO) (w' : World)
    (hG : ∀ g, G i = some g → g.top ≤ g'.top ∧ ∀ ver, ver ≤ g.top → o'.ver? = some ver → (st.loc i).ver? = some ver ∧ g'.val = g.val ∧ g'.blk = g.blk ∧ o'.stride = (st.loc i).stride)
    (hsame : SameW w w')
    (hkeep : ∀ b, b < w.heap.size → (∀ g, G i = some g → (st.loc i).live = true → b ∉ g.bs) → w'.heap[b]? = w.heap[b]?)
    (hobj : OR c.H K c.l (upd st.loc i o') (upd G i (some g')) w' g' o')
    (hbs : o'.live = true → g'.bs.Nodup ∧ ∀ b ∈ g'.bs, b < w'.heap.size ∧ ((∃ g, G i = some g ∧ (st.loc i).live = true ∧ b ∈ g.bs) ∨ w.heap.size ≤ b)) :
    Sim c K (upd G i (some g')) ov ds { st with loc := upd st.loc i o' } a w' := by
  have he := hs.ext1 i o' g' hG
  have hnot : ∀ b, OwnB c (upd st.loc i o') (upd G i (some g')) ds b → OwnB c st.loc G ds b ∨ w.heap.size ≤ b := by
    rintro b (⟨j, g, hg, hl, hb⟩ | hb)
    · by_cases hj : j = i
      · subst hj
        rw [upd_same] at hg hl
        cases hg
        rcases ((hbs hl).2 b hb).2 with ⟨g0, h1, h2, h3⟩ | h1
        · exact .inl (.inl ⟨j, g0, h1, h2, h3⟩)
        · exact .inr h1
      · rw [upd_other _ _ hj] at hg hl
        exact .inl (.inl ⟨j, g, hg, hl, hb⟩)
    · exact .inl (.inr hb)
  have hevo : Evo K (OwnB c st.loc G ds) w K (OwnB c (upd st.loc i o') (upd G i (some g')) ds) w' :=
    ⟨hsame, fun b hb hO => vw_of (hkeep b hb fun g hg hl hin => hO (.inl ⟨i, g, hg, hl, hin⟩)), fun b o v hv hk => hk.of_heap (hkeep b hk.lt fun g hg hl hin => by rw [(hs.own i g hg hl b hin).2.2.2 o] at hv; cases hv), Kt.le.refl _, fun _ _ _ h => .inl h, hnot⟩
  have hk : ∀ b, (∃ o v, K b o = some v) → w'.heap[b]? = w.heap[b]? := by
    rintro b ⟨o, v, hv⟩
    refine hkeep b (hs.klt hv) fun g hg hl hin => ?_
    have := (hs.own i g hg hl b hin).2.2.2 o
    rw [this] at hv; cases hv
  have hother : ∀ j g, j ≠ i → G j = some g → (st.loc j).live = true → ∀ b ∈ g.bs, w'.heap[b]? = w.heap[b]? := fun j g hj hg hl b hb =>
    hkeep b (hs.own j g hg hl b hb).1 fun g0 hg0 hl0 hin => hs.sep i j g0 g b (Ne.symm hj) hg0 hg hl0 hl hin hb
  refine { kok := ?_, k0 := hs.k0, kO := hs.kO, slots := ?_, nt := hs.nt, objs := ?_, gnone := ?_, own := ?_, nd := ?_, sep := ?_, same := hs.same.trans hsame, frame := ?_, oB := hs.oB, outs := hs.outs, prot := ?_, protx := ?_, dfs := hs.dfs, dnd := hs.dnd, dob := ?_, hJ := hs.hJ, hJx := hs.hJx }
  · intro b o v hv
    exact (hs.kok b o v hv).of_heap (hk b ⟨o, v, hv⟩)
  · exact fun t => (hs.slots t).mono (Kt.le.refl _) he
  · intro j g hg
    by_cases hj : j = i
    · subst hj
      simp only [upd_same] at hg ⊢
      cases hg
      exact hobj
    · simp only [upd_other _ _ hj] at hg ⊢
      exact (hs.objs j g hg).mono (Kt.le.refl _) he fun hl b hb => vw_of (hother j g hj hg hl b hb)
  · intro j hj
    by_cases hji : j = i
    · subst hji; rw [upd_same] at hj; cases hj
    · simp only [upd_other _ _ hji] at hj ⊢
      exact hs.gnone j hj
  · intro j g hg hl b hb
    by_cases hj : j = i
    · subst hj
      simp only [upd_same] at hg hl
      cases hg
      obtain ⟨h1, h2⟩ := (hbs hl).2 b hb
      rcases h2 with ⟨g0, k1, k2, k3⟩ | h2
      · exact ⟨h1, (hs.own j g0 k1 k2 b k3).2⟩
      · exact ⟨h1, fun hO => absurd (hs.olt hO) (by omega), fun hd => absurd (hs.dlt hd) (by omega), hs.knone h2⟩
    · simp only [upd_other _ _ hj] at hg hl
      exact ⟨Nat.lt_of_lt_of_le (hs.own j g hg hl b hb).1 hsame.size, (hs.own j g hg hl b hb).2⟩
  · intro j g hg hl
    by_cases hj : j = i
    · subst hj
      simp only [upd_same] at hg hl
      cases hg
      exact (hbs hl).1
    · simp only [upd_other _ _ hj] at hg hl
      exact hs.nd j g hg hl
  · intro j k g g0 b hjk hg hg0 hl hl0 hb hb0
    by_cases hj : j = i
    · subst hj
      have hk' : k ≠ j := Ne.symm hjk
      simp only [upd_same] at hg hl
      simp only [upd_other _ _ hk'] at hg0 hl0
      cases hg
      rcases ((hbs hl).2 b hb).2 with ⟨g1, k1, k2, k3⟩ | h2
      · exact hs.sep j k g1 g0 b hjk k1 hg0 k2 hl0 k3 hb0
      · exact absurd (hs.own k g0 hg0 hl0 b hb0).1 (by omega)
    · simp only [upd_other _ _ hj] at hg hl
      by_cases hk' : k = i
      · subst hk'
        simp only [upd_same] at hg0 hl0
        cases hg0
        rcases ((hbs hl0).2 b hb0).2 with ⟨g1, k1, k2, k3⟩ | h2
        · exact hs.sep j k g g1 b hjk hg k1 hl k2 hb k3
        · exact absurd (hs.own j g hg hl b hb).1 (by omega)
      · simp only [upd_other _ _ hk'] at hg0 hl0
        exact hs.sep j k g g0 b hjk hg hg0 hl hl0 hb hb0
  · intro b hb
    exact (vw_of (hkeep b (hs.olt hb) fun g hg hl hin => (hs.own i g hg hl b hin).2.1 hb)).trans (hs.frame b hb)
  · exact fun hst => hs.hJ _ _ _ _ _ _ _ (hs.prot hst) hevo
  · exact fun hst => let ⟨pre, h⟩ := hs.protx hst; ⟨pre, hs.hJx _ _ _ _ _ _ _ h hevo⟩
  · intro d hd
    refine ⟨(hkeep d (hs.dlt hd) fun g hg hl hin => (hs.own i g hg hl d hin).2.2.1 hd).trans (hs.dob d hd).1, (hs.dob d hd).2⟩
/-- A slot is written. -/
theorem Sim.put (hs : Sim c K G ov ds st a w) (d : Option Nat) (iv : IVal) (v : Value) (hd : dstOk c.nt d = true) (hv : IR K c.l st.loc G iv v) :
    Sim c K G ov ds (st.put d iv) (a.put d v) w := by
  cases d with
  | none => exact hs
  | some d =>
    have hlt : d < c.nt := by simpa [dstOk] using hd
    refine { hs with slots := ?_, nt := ?_ }
    · intro t
      simp only [St.put, Act.put]
      by_cases ht : t = d
      · subst ht
        rw [upd_same, Array.getD_eq_getD_getElem?, Array.getElem?_setIfInBounds_self_of_lt (by rw [hs.nt]; exact hlt)]
        exact hv
      · rw [upd_other _ _ ht, Array.getD_eq_getD_getElem?, Array.getElem?_setIfInBounds_ne (Ne.symm ht), ← Array.getD_eq_getD_getElem?]
        exact hs.slots t
    · simp only [Act.put, Array.size_setIfInBounds]; exact hs.nt
end
end Go.Lm
end
section
namespace Go.Lm
theorem mapO_len {β γ : Type} {f : β → Option γ} : ∀ {xs : List β} {ys : List γ}, mapO f xs = some ys → ys.length = xs.length
  | [], ys, h => by simp [mapO] at h; simp [← h]
  | x :: xs, ys, h => by
    simp only [mapO, Option.bind_eq_some_iff] at h
    obtain ⟨y, _, yt, h2, h3⟩ := h
    cases h3
    simp [mapO_len h2]
theorem mapO_get {β γ : Type} {f : β → Option γ} : ∀ {xs : List β} {ys : List γ}, mapO f xs = some ys → ∀ {j : Nat} {x : β}, xs[j]? = some x → ∃ y, ys[j]? = some y ∧ f x = some y
  | [], _, _, j, x, hj => by simp at hj
  | x0 :: xs, ys, h, j, x, hj => by
    simp only [mapO, Option.bind_eq_some_iff] at h
    obtain ⟨y, h1, yt, h2, h3⟩ := h
    cases h3
    cases j with
    | zero => simp at hj; subst hj; exact ⟨y, by simp, h1⟩
    | succ j => simp at hj; obtain ⟨z, hz, hf⟩ := mapO_get h2 hj; exact ⟨z, by simpa using hz, hf⟩
theorem mapO_get' {β γ : Type} {f : β → Option γ} {xs : List β} {ys : List γ} (h : mapO f xs = some ys) {j : Nat} {y : γ} (hj : ys[j]? = some y) : ∃ x, xs[j]? = some x ∧ f x = some y := by
  have hlt : j < xs.length := by rw [← mapO_len h]; exact (List.getElem?_eq_some_iff.1 hj).1
  obtain ⟨z, hz, hf⟩ := mapO_get h (List.getElem?_eq_getElem hlt)
  rw [hj] at hz; cases hz
  exact ⟨_, List.getElem?_eq_getElem hlt, hf⟩
theorem mapO_mono {β γ : Type} {f g : β → Option γ} : ∀ {xs : List β} {ys : List γ}, (∀ x ∈ xs, ∀ y, f x = some y → g x = some y) → mapO f xs = some ys → mapO g xs = some ys
  | [], ys, _, h => h
  | x :: xs, ys, hfg, h => by
    simp only [mapO, Option.bind_eq_some_iff] at h ⊢
    obtain ⟨y, h1, yt, h2, h3⟩ := h
    exact ⟨y, hfg x (by simp) y h1, yt, mapO_mono (fun z hz => hfg z (by simp [hz])) h2, h3⟩
theorem exps_mono {loc : Nat → Obj} : ∀ (k : Nat) (iv : IVal) (r : SVal × List Nat), exps loc k iv = some r → exps loc (k + 1) iv = some r
  | 0, _, _, h => by simp [exps] at h
  | k + 1, .v x, r, h => by simpa [exps] using h
  | k + 1, .la i ver, r, h => by simpa [exps] using h
  | k + 1, .lt i ver lo, r, h => by simpa [exps] using h
  | k + 1, .it i, r, h => by simp [exps] at h
  | k + 1, .unk, r, h => by simp [exps] at h
  | k + 1, .tup _, r, h => by simp [exps] at h
  | k + 1, .lp i ver idx off, r, h => by
    simp only [exps] at h ⊢
    split at h
    · rename_i hc
      rw [if_pos hc]
      cases hl : loc i with
      | box cs =>
        simp only [hl, Option.bind_eq_some_iff] at h ⊢
        obtain ⟨q, h1, h2⟩ := h
        exact ⟨q, mapO_mono (fun x _ y hy => exps_mono k x y hy) h1, h2⟩
      | frzb cs => simpa [hl] using h
      | dead => simp [hl] at h
      | arr _ _ _ => simp [hl] at h
      | frz _ _ _ => simp [hl] at h
      | iter _ => simp [hl] at h
    · cases h
  | k + 1, .agg cs, r, h => by
    simp only [exps, Option.bind_eq_some_iff] at h ⊢
    obtain ⟨q, h1, h2⟩ := h
    exact ⟨q, mapO_mono (fun x _ y hy => exps_mono k x y hy) h1, h2⟩
  | k + 1, .clo f cs, r, h => by
    simp only [exps, Option.bind_eq_some_iff] at h ⊢
    obtain ⟨q, h1, h2⟩ := h
    exact ⟨q, mapO_mono (fun x _ y hy => exps_mono k x y hy) h1, h2⟩
theorem exps_le {loc : Nat → Obj} {k n : Nat} (hkn : k ≤ n) {iv : IVal} {r : SVal × List Nat} (h : exps loc k iv = some r) : exps loc n iv = some r := by
  obtain ⟨d, rfl⟩ := Nat.exists_eq_add_of_le hkn
  clear hkn
  induction d with
  | zero => exact h
  | succ d ih => exact exps_mono _ _ _ ih
theorem pointer_zero (b n : Nat) : (⟨b, 0 * n + 0, none⟩ : Addr) = ⟨b, 0, none⟩ := by simp
theorem own_VR {K K' : Kt} (hK : K.le K') {l : Nat} {w : World} {sz : Nat} {xs : List SVal} {v : Value} {blk : Nat} {bs : List Nat} (h : OwnR K l w sz xs v blk bs)
    (hc : ∀ b ∈ bs, ∀ o u, isMk u = false → w.cell? ⟨b, o, none⟩ = some u → K' b o = some u) : VR K' l (.sl sz false false xs) v := by
  obtain ⟨h0, h⟩ := h
  simp only [VR]
  refine ⟨trivial, ?_⟩
  rcases h with ⟨rfl, _, A, rfl⟩ | ⟨hb, arr, t, cap, _, h1, h2, h3, h4, h5⟩
  · exact ⟨A, 0, rfl, by simp, by simp, by simp [VE]⟩
  · refine ⟨some ⟨blk, 0, none⟩, cap, h2, h4, by simp, VE_iff.2 fun j x hj => ?_⟩
    obtain ⟨u, k1, k2, k2', k3⟩ := h5 j x hj
    refine ⟨blk, 0, u, rfl, k1.mono hK, k2, k2', fun q y hq => hc blk (by simp [hb]) _ _ (k1.noMk' hq) ?_⟩
    simp only [World.cell?, h1]
    have := k3 q y hq
    simpa using this
theorem VR_tail {K : Kt} {l sz lo : Nat} {xs : List SVal} {v : Value} (h : VR K l (.sl sz false false xs) v) : VR K l (.sl sz false false (xs.drop lo)) (tailV sz lo v) := by
  simp only [VR] at h ⊢
  obtain ⟨_, A, c, rfl, hc, _, hve⟩ := h
  refine ⟨trivial, if c = lo then A else A.map (·.add (lo * sz)), c - lo, by simp [tailV], by simp; omega, fun h => (by cases h), ?_⟩
  rw [VE_iff]
  intro j x hj
  rw [List.getElem?_drop] at hj
  have hlt := (List.getElem?_eq_some_iff.1 hj).1
  obtain ⟨b, o, u, e1, k1, k2, k3, k4⟩ := VE_iff.1 hve (lo + j) x hj
  subst e1
  rw [if_neg (by omega)]
  refine ⟨b, o + lo * sz, u, by simp [Addr.add], k1, k2, k3, fun q y hq => ?_⟩
  have := k4 q y hq
  rw [Nat.zero_add] at this ⊢
  rw [show o + lo * sz + (j * sz + q) = o + ((lo + j) * sz + q) by rw [Nat.add_mul]; omega]
  exact this
theorem exps_sound {H : Nat → FH} {K K' : Kt} (hK : K.le K') {l : Nat} {loc : Nat → Obj} {G : Gt} {w : World} (ho : ∀ i g, G i = some g → OR H K l loc G w g (loc i)) :
    ∀ (k : Nat) (iv : IVal) (x : SVal) (ids : List Nat) (v : Value), exps loc k iv = some (x, ids) → IR K l loc G iv v →
    (∀ i ∈ ids, ∀ g, G i = some g → (loc i).live = true → ∀ b ∈ g.bs, ∀ o u, isMk u = false → w.cell? ⟨b, o, none⟩ = some u → K' b o = some u) → VR K' l x v
  | 0, _, _, _, _, h, _, _ => by simp [exps] at h
  | k + 1, .v x, y, ids, v, h, hr, _ => by
    simp only [exps, Option.some.injEq, Prod.mk.injEq] at h
    obtain ⟨rfl, rfl⟩ := h
    simp only [IR] at hr
    exact hr.mono hK
  | k + 1, .la i ver, y, ids, v, h, hr, hc => by
    simp only [IR] at hr
    obtain ⟨_, g, hg, hv, hval⟩ := hr
    have hor := ho i g hg
    simp only [exps] at h
    cases hl : loc i with
    | arr ver' sz xs =>
      simp only [hl] at h
      split at h
      · rename_i he
        subst he
        simp only [Option.some.injEq, Prod.mk.injEq] at h
        obtain ⟨rfl, rfl⟩ := h
        rw [hval (by simp [hl, Obj.ver?])]
        rw [hl] at hor
        exact own_VR hK hor.2 fun b hb => hc i (by simp) g hg (by simp [hl, Obj.live]) b hb
      · cases h
    | frz ver' sz xs =>
      simp only [hl] at h
      split at h
      · rename_i he
        subst he
        simp only [Option.some.injEq, Prod.mk.injEq] at h
        obtain ⟨rfl, rfl⟩ := h
        rw [hval (by simp [hl, Obj.ver?])]
        rw [hl] at hor
        exact hor.2.2.1.mono hK
      · cases h
    | dead => simp [hl] at h
    | box _ => simp [hl] at h
    | iter _ => simp [hl] at h
    | frzb _ => simp [hl] at h
  | k + 1, .lt i ver lo, y, ids, v, h, hr, hc => by
    simp only [IR] at hr
    obtain ⟨_, g, hg, hv, hval⟩ := hr
    have hor := ho i g hg
    simp only [exps] at h
    cases hl : loc i with
    | arr ver' sz xs =>
      simp only [hl] at h
      split at h
      · rename_i he
        subst he
        simp only [Option.some.injEq, Prod.mk.injEq] at h
        obtain ⟨rfl, rfl⟩ := h
        rw [hval (by simp [hl, Obj.ver?])]
        rw [hl] at hor
        simp only [hl, Obj.stride]
        exact VR_tail (own_VR hK hor.2 fun b hb => hc i (by simp) g hg (by simp [hl, Obj.live]) b hb)
      · cases h
    | frz ver' sz xs =>
      simp only [hl] at h
      split at h
      · rename_i he
        subst he
        simp only [Option.some.injEq, Prod.mk.injEq] at h
        obtain ⟨rfl, rfl⟩ := h
        rw [hval (by simp [hl, Obj.ver?])]
        rw [hl] at hor
        simp only [hl, Obj.stride]
        exact VR_tail (hor.2.2.1.mono hK)
      · cases h
    | dead => simp [hl] at h
    | box _ => simp [hl] at h
    | iter _ => simp [hl] at h
    | frzb _ => simp [hl] at h
  | k + 1, .it i, _, _, _, h, _, _ => by simp [exps] at h
  | k + 1, .unk, _, _, _, h, _, _ => by simp [exps] at h
  | k + 1, .tup _, _, _, _, h, _, _ => by simp [exps] at h
  | k + 1, .lp i ver idx off, y, ids, v, h, hr, hc => by
    simp only [IR] at hr
    obtain ⟨_, g, hg, hv, hval⟩ := hr
    have hor := ho i g hg
    simp only [exps] at h
    split at h
    · rename_i he
      obtain ⟨rfl, rfl, rfl⟩ := he
      cases hl : loc i with
      | box cs =>
        simp only [hl, Option.bind_eq_some_iff, Option.some.injEq, Prod.mk.injEq] at h
        obtain ⟨r, h1, rfl, rfl⟩ := h
        rw [hl] at hor
        obtain ⟨_, hbs, vals, t, h2, h3⟩ := hor
        rw [hval (by simp [hl, Obj.ver?])]
        simp only [VR, Obj.stride, hl]
        have hvrs : VRs K' l (r.map (·.1)) vals := VRs.of_get (by simp [h3.length, mapO_len h1]) (by
          intro j x u hx hu
          simp only [List.getElem?_map, Option.map_eq_some_iff] at hx
          obtain ⟨q, hq, rfl⟩ := hx
          obtain ⟨z, hz, hf⟩ := mapO_get' h1 hq
          obtain ⟨u', hu', hir⟩ := h3.get hz
          rw [hu] at hu'; cases hu'
          refine exps_sound hK ho k z q.1 q.2 u hf hir fun i' hi' => hc i' ?_
          exact List.mem_cons_of_mem _ (List.mem_flatMap.2 ⟨q, List.mem_of_getElem? hq, hi'⟩))
        refine ⟨g.blk, 0, vals, by simp, hvrs, fun j u hj => ?_⟩
        · refine hc i (by simp) g hg (by simp [hl, Obj.live]) g.blk (by simp [hbs]) _ _ (hvrs.noMk' hj) ?_
          simp only [World.cell?, h2]
          simpa using hj
      | frzb cs =>
        simp only [hl, Option.some.injEq, Prod.mk.injEq] at h
        obtain ⟨rfl, rfl⟩ := h
        rw [hl] at hor
        rw [hval (by simp [hl, Obj.ver?])]
        simp only [Obj.stride, hl]
        exact (by simpa using hor.2.mono hK)
      | dead => simp [hl] at h
      | arr _ _ _ => simp [hl] at h
      | frz _ _ _ => simp [hl] at h
      | iter _ => simp [hl] at h
    · cases h
  | k + 1, .agg cs, y, ids, v, h, hr, hc => by
    simp only [exps, Option.bind_eq_some_iff, Option.some.injEq, Prod.mk.injEq] at h
    obtain ⟨r, h1, rfl, rfl⟩ := h
    simp only [IR] at hr
    obtain ⟨vals, rfl, h3⟩ := hr
    simp only [VR]
    refine ⟨vals, rfl, VRs.of_get (by simp [h3.length, mapO_len h1]) ?_⟩
    intro j x u hx hu
    simp only [List.getElem?_map, Option.map_eq_some_iff] at hx
    obtain ⟨q, hq, rfl⟩ := hx
    obtain ⟨z, hz, hf⟩ := mapO_get' h1 hq
    obtain ⟨u', hu', hir⟩ := h3.get hz
    rw [hu] at hu'; cases hu'
    exact exps_sound hK ho k z q.1 q.2 u hf hir fun i' hi' => hc i' (List.mem_flatMap.2 ⟨q, List.mem_of_getElem? hq, hi'⟩)
  | k + 1, .clo f cs, y, ids, v, h, hr, hc => by
    simp only [exps, Option.bind_eq_some_iff, Option.some.injEq, Prod.mk.injEq] at h
    obtain ⟨r, h1, rfl, rfl⟩ := h
    simp only [IR] at hr
    obtain ⟨vals, rfl, h3⟩ := hr
    simp only [VR]
    refine ⟨vals, rfl, VRs.of_get (by simp [h3.length, mapO_len h1]) ?_⟩
    intro j x u hx hu
    simp only [List.getElem?_map, Option.map_eq_some_iff] at hx
    obtain ⟨q, hq, rfl⟩ := hx
    obtain ⟨z, hz, hf⟩ := mapO_get' h1 hq
    obtain ⟨u', hu', hir⟩ := h3.get hz
    rw [hu] at hu'; cases hu'
    exact exps_sound hK ho k z q.1 q.2 u hf hir fun i' hi' => hc i' (List.mem_flatMap.2 ⟨q, List.mem_of_getElem? hq, hi'⟩)

section
variable {c : Ctx} {K : Kt} {G : Gt} {ov : List Value} {ds : List Nat} {st : St} {a : Act} {w : World}
/-- More is known to stay: what lies in new blocks. -/
theorem Sim.growK (hs : Sim c K G ov ds st a w) (K' : Kt) (w' : World) (hsame : SameW w w') (hkeep : ∀ b, b < w.heap.size → vw w' b = vw w b)
    (hkok : ∀ b o v, K' b o = some v → Kat w' b o v) (hle : K.le K') (hnew : ∀ b o v, K' b o = some v → K b o = some v ∨ w.heap.size ≤ b) : Sim c K' G ov ds st a w' := by
  have hevo : Evo K (OwnB c st.loc G ds) w K' (OwnB c st.loc G ds) w' :=
    ⟨hsame, fun b hb _ => hkeep b hb, fun b o v hv _ => hkok b o v (hle b o v hv), hle, fun b o v hv => (hnew b o v hv).elim .inl fun h => .inr (.inr h), fun _ h => .inl h⟩
  refine { kok := hkok, k0 := hs.k0.trans hle, kO := ?_, slots := fun t => (hs.slots t).mono hle (Ext.refl _ _), nt := hs.nt, objs := ?_, gnone := hs.gnone, own := ?_, nd := hs.nd, sep := hs.sep, same := hs.same.trans hsame, frame := ?_, oB := hs.oB, outs := fun h => (hs.outs h).mono hle, prot := ?_, protx := ?_, dfs := hs.dfs, dnd := hs.dnd, dob := ?_, hJ := hs.hJ, hJx := hs.hJx }
  · intro b o v hO hv
    rcases hnew b o v hv with h | h
    · exact hs.kO b o v hO h
    · exact absurd (hs.olt hO) (by omega)
  · exact fun i g hg => (hs.objs i g hg).mono hle (Ext.refl _ _) fun hl b hb => hkeep b (hs.own i g hg hl b hb).1
  · intro i g hg hl b hb
    obtain ⟨h1, h2, h3, h4⟩ := hs.own i g hg hl b hb
    refine ⟨Nat.lt_of_lt_of_le h1 hsame.size, h2, h3, fun o => ?_⟩
    cases hk : K' b o with
    | none => rfl
    | some v =>
      rcases hnew b o v hk with h | h
      · rw [h4 o] at h; cases h
      · omega
  · exact fun b hb => (hkeep b (hs.olt hb)).trans (hs.frame b hb)
  · exact fun h => hs.hJ _ _ _ _ _ _ _ (hs.prot h) hevo
  · exact fun h => let ⟨pre, h⟩ := hs.protx h; ⟨pre, hs.hJx _ _ _ _ _ _ _ h hevo⟩
  · exact fun d hd => ⟨vw_get (hkeep d (hs.dlt hd)) (hs.dob d hd).1, (hs.dob d hd).2⟩
/-- The blocks of some objects. -/
def blks (G : Gt) (loc : Nat → Obj) (ids : List Nat) (b : Nat) : Prop := ∃ i ∈ ids, ∃ g, G i = some g ∧ (loc i).live = true ∧ b ∈ g.bs
open Classical in
noncomputable def frzK (K : Kt) (G : Gt) (loc : Nat → Obj) (ids : List Nat) (w : World) : Kt := fun b o => if blks G loc ids b then (w.cell? ⟨b, o, none⟩).bind (fun u => if isMk u = true then none else some u) else K b o
def frzS (loc : Nat → Obj) (ids : List Nat) : Nat → Obj := fun j => if j ∈ ids then frzO loc j else loc j
theorem Sim.frzK_le (hs : Sim c K G ov ds st a w) (ids : List Nat) : K.le (frzK K G st.loc ids w) := fun b o v hv => by
  unfold frzK
  split
  · rename_i h
    obtain ⟨i, _, g, hg, hl, hb⟩ := h
    rw [(hs.own i g hg hl b hb).2.2.2 o] at hv; cases hv
  · exact hv
theorem frzK_has {ids : List Nat} {loc : Nat → Obj} : ∀ i ∈ ids, ∀ g, G i = some g → (loc i).live = true → ∀ b ∈ g.bs, ∀ o u, isMk u = false → w.cell? ⟨b, o, none⟩ = some u → frzK K G loc ids w b o = some u := by
  intro i hi g hg hl b hb o u hm hu
  unfold frzK
  rw [if_pos ⟨i, hi, g, hg, hl, hb⟩, hu]
  simp [hm]
/-- Nothing is left out that a frozen box leads to. -/
def Closed (loc : Nat → Obj) (ids : List Nat) : Prop := ∀ i ∈ ids, ∀ cs, loc i = .box cs → ∀ r, mapO (exps loc 6) cs = some r → ∀ q ∈ r, ∀ j ∈ q.2, j ∈ ids
theorem frzO_live (loc : Nat → Obj) (i : Nat) : (frzO loc i).live = false := by
  unfold frzO
  cases h : loc i with
  | box cs => simp only; split <;> rfl
  | arr _ _ _ => rfl
  | iter _ => rfl
  | dead => rfl
  | frz _ _ _ => rfl
  | frzb _ => rfl
theorem frzO_ver (loc : Nat → Obj) (i ver : Nat) (h : (frzO loc i).ver? = some ver) : (loc i).ver? = some ver ∧ (frzO loc i).stride = (loc i).stride := by
  unfold frzO at h ⊢
  cases hl : loc i with
  | box cs =>
    simp only [hl] at h ⊢
    split at h
    · rename_i r hr; exact ⟨h, by first | rfl | (split <;> rfl) | (simp only [hr]; rfl)⟩
    · simp [Obj.ver?] at h
  | arr _ _ _ => rw [hl] at h; exact ⟨h, rfl⟩
  | iter _ => simp [hl, Obj.ver?] at h
  | dead => simp [hl, Obj.ver?] at h
  | frz _ _ _ => rw [hl] at h; exact ⟨h, rfl⟩
  | frzb _ => rw [hl] at h; exact ⟨h, rfl⟩
theorem ext_frzS (loc : Nat → Obj) (G : Gt) (ids : List Nat) : Ext loc G (frzS loc ids) G := fun i g hg => ⟨g, hg, Nat.le_refl _, fun ver _ h => by
  unfold frzS at h ⊢
  split at h
  · rename_i hi
    rw [if_pos hi]
    obtain ⟨h1, h2⟩ := frzO_ver loc i ver h
    exact ⟨h1, rfl, rfl, h2⟩
  · rename_i hi
    rw [if_neg hi]
    exact ⟨h, rfl, rfl, rfl⟩⟩
theorem OR_frz {H : Nat → FH} {K K' : Kt} (hK : K.le K') {l : Nat} {loc : Nat → Obj} {G : Gt} {w : World} (ho : ∀ i g, G i = some g → OR H K l loc G w g (loc i)) (ids : List Nat) (hcl : Closed loc ids)
    (hhas : ∀ i ∈ ids, ∀ g, G i = some g → (loc i).live = true → ∀ b ∈ g.bs, ∀ o u, isMk u = false → w.cell? ⟨b, o, none⟩ = some u → K' b o = some u)
    (loc' : Nat → Obj) (i : Nat) (hi : i ∈ ids) (g : GO) (hg : G i = some g) : OR H K' l loc' G w g (frzO loc i) := by
  have hor := ho i g hg
  unfold frzO
  cases hl : loc i with
  | dead => trivial
  | iter _ => trivial
  | frz _ _ _ => rw [hl] at hor; exact ⟨hor.1, hor.2.1, hor.2.2.1.mono hK, hor.2.2.2⟩
  | frzb _ => rw [hl] at hor; exact ⟨hor.1, hor.2.mono hK⟩
  | arr ver sz xs =>
    rw [hl] at hor
    have hh := hhas i hi g hg (by simp [hl, Obj.live])
    refine ⟨hor.1, hor.2.1, own_VR hK hor.2 hh, fun hne => ?_⟩
    rcases hor.2.2 with ⟨h, _⟩ | ⟨_, arr, t, cap, _, _, h, _⟩
    · exact absurd h hne
    · exact ⟨_, _, h⟩
  | box cs =>
    rw [hl] at hor
    obtain ⟨h0, hbs, vals, t, h2, h3⟩ := hor
    simp only
    split
    · rename_i r hr
      refine ⟨h0, ?_⟩
      simp only [VR]
      have hvrs : VRs K' l (r.map (·.1)) vals := VRs.of_get (by simp [h3.length, mapO_len hr]) (by
        intro j x u hx hu
        simp only [List.getElem?_map, Option.map_eq_some_iff] at hx
        obtain ⟨q, hq, rfl⟩ := hx
        obtain ⟨z, hz, hf⟩ := mapO_get' hr hq
        obtain ⟨u', hu', hir⟩ := h3.get hz
        rw [hu] at hu'; cases hu'
        exact exps_sound hK ho 6 z q.1 q.2 u hf hir fun i' hi' => hhas i' (hcl i hi cs hl r hr q (List.mem_of_getElem? hq) i' hi'))
      refine ⟨g.blk, 0, vals, rfl, hvrs, fun j u hj => ?_⟩
      · refine hhas i hi g hg (by simp [hl, Obj.live]) g.blk (by simp [hbs]) _ _ (hvrs.noMk' hj) ?_
        simp only [World.cell?, h2]
        simpa using hj
    · trivial
theorem Sim.freeze (hs : Sim c K G ov ds st a w) (ids : List Nat) (hcl : Closed st.loc ids) :
    Sim c (frzK K G st.loc ids w) G ov ds { st with loc := frzS st.loc ids } a w := by
  have hle := hs.frzK_le ids
  have he := ext_frzS st.loc G ids
  have hlive : ∀ i, (frzS st.loc ids i).live = true → i ∉ ids ∧ frzS st.loc ids i = st.loc i := fun i h => by
    unfold frzS at h ⊢
    split at h
    · rw [frzO_live] at h; cases h
    · rename_i hi; exact ⟨hi, if_neg hi⟩
  have hnew : ∀ b o v, frzK K G st.loc ids w b o = some v → K b o = some v ∨ (blks G st.loc ids b ∧ Kat w b o v) := fun b o v hv => by
    unfold frzK at hv
    split at hv
    · rename_i hb
      obtain ⟨u, h1, h2⟩ := Option.bind_eq_some_iff.1 hv
      split at h2
      · cases h2
      · rename_i hm; cases h2; exact .inr ⟨hb, .of_cell h1 (by simpa using hm)⟩
    · exact .inl hv
  have hown : ∀ b, OwnB c (frzS st.loc ids) G ds b → OwnB c st.loc G ds b := by
    rintro b (⟨i, g, hg, hl, hb⟩ | h)
    · exact .inl ⟨i, g, hg, by rw [← (hlive i hl).2]; exact hl, hb⟩
    · exact .inr h
  have hevo : Evo K (OwnB c st.loc G ds) w (frzK K G st.loc ids w) (OwnB c (frzS st.loc ids) G ds) w :=
    ⟨SameW.refl _, fun _ _ _ => rfl, fun _ _ _ _ hk => hk, hle, fun b o v hv => by
      rcases hnew b o v hv with h | ⟨⟨i, _, g, hg, hl, hb⟩, _⟩
      · exact .inl h
      · exact .inr (.inl (.inl ⟨i, g, hg, hl, hb⟩)), fun b h => .inl (hown b h)⟩
  refine { kok := ?_, k0 := hs.k0.trans hle, kO := ?_, slots := fun t => (hs.slots t).mono hle he, nt := hs.nt, objs := ?_, gnone := ?_, own := ?_, nd := ?_, sep := ?_, same := hs.same, frame := hs.frame, oB := hs.oB, outs := fun h => (hs.outs h).mono hle, prot := ?_, protx := ?_, dfs := hs.dfs, dnd := hs.dnd, dob := hs.dob, hJ := hs.hJ, hJx := hs.hJx }
  · intro b o v hv
    rcases hnew b o v hv with h | h
    · exact hs.kok b o v h
    · exact h.2
  · intro b o v hO hv
    rcases hnew b o v hv with h | ⟨⟨i, _, g, hg, hl, hb⟩, _⟩
    · exact hs.kO b o v hO h
    · exact absurd hO (hs.own i g hg hl b hb).2.1
  · intro i g hg
    simp only [frzS]
    split
    · rename_i hi
      exact OR_frz hle hs.objs ids hcl frzK_has _ i hi g hg
    · exact (hs.objs i g hg).mono hle he fun _ _ _ => rfl
  · intro i hg
    have := hs.gnone i hg
    simp only [frzS]
    split
    · simp [frzO, this]
    · exact this
  · intro i g hg hl b hb
    obtain ⟨hi, hle'⟩ := hlive i hl
    have hl' : (st.loc i).live = true := by rw [← hle']; exact hl
    obtain ⟨h1, h2, h3, h4⟩ := hs.own i g hg hl' b hb
    refine ⟨h1, h2, h3, fun o => ?_⟩
    cases hk : frzK K G st.loc ids w b o with
    | none => rfl
    | some v =>
      rcases hnew b o v hk with h | ⟨⟨j, hj, g', hg', hl'', hb'⟩, _⟩
      · rw [h4 o] at h; cases h
      · by_cases hij : i = j
        · exact absurd (hij ▸ hj) hi
        · exact absurd hb' (hs.sep i j g g' b hij hg hg' hl' hl'' hb)
  · intro i g hg hl
    exact hs.nd i g hg (by rw [← (hlive i hl).2]; exact hl)
  · intro i j g g' b hij hg hg' hl hl' hb
    exact hs.sep i j g g' b hij hg hg' (by rw [← (hlive i hl).2]; exact hl) (by rw [← (hlive j hl').2]; exact hl') hb
  · exact fun h => hs.hJ _ _ _ _ _ _ _ (hs.prot h) hevo
  · exact fun h => let ⟨pre, h⟩ := hs.protx h; ⟨pre, hs.hJx _ _ _ _ _ _ _ h hevo⟩
end
end Go.Lm
end
