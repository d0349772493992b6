/- How what is handed to a law is read as values of the evaluator. -/
import Derived.Test.YtcdnmiaelaombaaGreatLmBI
import Derived.Test.YtcdnmiaelaombaaGreatLmAC
import Derived.Deep.Slices
import Derived.ProofKit
set_option linter.unusedVariables false
set_option linter.unusedSimpArgs false
set_option linter.unnecessarySimpa false
set_option linter.all false
section
namespace Go.Lm
open Go.Deep
/-- What the world holds. -/
def KW (W : World) : Kt := fun b o => match W.heap[b]? with
  | some (.map es c) => if o = 0 then some (.iface 1 (encM es c)) else none
  | _ => (W.cell? ⟨b, o, none⟩).bind fun u => if isMk u = true then none else some u
theorem KW_kok (W : World) : Kok (KW W) W := fun b o v h => by
  unfold KW at h
  split at h
  · rename_i es c hb
    split at h
    · rename_i h0; cases h; exact ⟨h0, es, c, hb, by simp⟩
    · cases h
  · obtain ⟨u, h1, h2⟩ := Option.bind_eq_some_iff.1 h
    split at h2
    · cases h2
    · rename_i hm; cases h2; exact .of_cell h1 (by simpa using hm)
theorem KW_has {W : World} {b o : Nat} {u : Value} (h : W.cell? ⟨b, o, none⟩ = some u) (hm : isMk u = false) : KW W b o = some u := by
  unfold KW
  split
  · rename_i es c hb
    simp only [World.cell?, hb] at h; cases h
  · rw [h]; simp [hm]
theorem KW_map {W : World} {b : Nat} {es : Array MapEntry} {c : Nat} (hb : W.heap[b]? = some (.map es c)) : KW W b 0 = some (.iface 1 (encM es c)) := by
  unfold KW; rw [hb]; rfl
section
variable {H : Type} {enc : TypeId × Value → H} {P : Program} {W : World}
def Rd (enc : TypeId × Value → H) (P : Program) (W : World) (t : TypeId) {α : Type} (dec : α → List SVal) : Prop :=
  ∀ fuel cs x, DataW.trod enc P W 0 (fun _ => true) true fuel t cs = some x → ∃ a, VRs (KW W) 0 (dec a) cs ∧ ∀ u ∈ cs, u.oneCell' = true
theorem Rd_int {t : TypeId} (ht : P.underlying t = some (.int .i64)) : Rd enc P W t (fun n : Int => [int n]) := fun fuel cs x h => by
  obtain ⟨a, e0, _, _⟩ := DataW.trod_int ht h
  subst e0
  exact ⟨a, by simp [VRs, VR], by simp [Value.oneCell']⟩
theorem Rd_bool {t : TypeId} (ht : P.underlying t = some .bool) : Rd enc P W t (fun b : Bool => [SVal.bool b]) := fun fuel cs x h => by
  cases fuel with
  | zero => simp [DataW.trod] at h
  | succ n =>
    unfold DataW.trod at h
    rw [ht] at h
    simp only at h
    split at h <;> first | (cases h; done) | skip
    all_goals first
      | (rename_i hf; cases hf; done)
      | (rename_i hf _; cases hf; done)
      | (rename_i b _; exact ⟨b, by simp [VRs, VR], by simp [Value.oneCell']⟩)
      | (rename_i b; exact ⟨b, by simp [VRs, VR], by simp [Value.oneCell']⟩)
      | simp_all
theorem mapM_some' {α β : Type} {f : α → Option β} : ∀ {l : List α} {r : List β}, l.mapM f = some r → r.length = l.length ∧ ∀ (j : Nat) (x : α), l[j]? = some x → ∃ y, r[j]? = some y ∧ f x = some y
  | [], r, h => by simp at h; subst h; simp
  | a :: l, r, h => by
    simp only [List.mapM_cons, Option.bind_eq_bind, Option.bind_eq_some_iff, Option.pure_def, Option.some.injEq] at h
    obtain ⟨y, h1, ys, h2, rfl⟩ := h
    obtain ⟨k1, k2⟩ := mapM_some' h2
    refine ⟨by simp [k1], fun j x hj => ?_⟩
    cases j with
    | zero => simp at hj; subst hj; exact ⟨y, by simp, h1⟩
    | succ j => simp at hj; obtain ⟨z, hz, hf⟩ := k2 j x hj; exact ⟨z, by simpa using hz, hf⟩
theorem cells_get {a : Addr} {n : Nat} {cs : List Value} (h : W.cells? 0 a n = some cs) : cs.length = n ∧ ∀ j u, cs[j]? = some u → W.cell? (a.add j) = some u := by
  unfold World.cells? at h
  rw [if_pos (Nat.zero_le _)] at h
  obtain ⟨h1, h2⟩ := mapM_some' h
  refine ⟨by simpa using h1, fun j u hj => ?_⟩
  have hlt : j < n := by have := (List.getElem?_eq_some_iff.1 hj).1; rw [h1] at this; simpa using this
  obtain ⟨y, hy, hf⟩ := h2 j j (by simp [hlt])
  rw [hj] at hy; cases hy
  exact hf
theorem spot_none {a : Addr} {u : Value} (h : W.cell? a = some u) : a.spot = none := by
  unfold World.cell? at h
  split at h
  · split at h
    · cases h
    · rename_i hs; cases hh : a.spot with
      | none => rfl
      | some _ => rw [hh] at hs; simp at hs
  · cases h
/-- An element of a slice. -/
def elS {α : Type} (ag : Bool) (dec : α → List SVal) (a : α) : SVal := if ag then .agg (dec a) else (dec a).headD .undef
theorem Rd_slice {α : Type} [Inhabited α] {t e : TypeId} {dec : α → List SVal} {sz : Nat} (ag : Bool) (ht : P.underlying t = some (.slice e)) (hsz : P.cellsOf e = sz) (hpos : 0 < sz) (hr : Rd enc P W e dec) (hlen : ∀ a, (dec a).length = sz) (hag : ag = false → sz = 1) :
    Rd enc P W t (fun l : List α => [SVal.sl sz false false (l.map (elS ag dec))]) := fun fuel cs x h => by
  rcases open_slice ht h with ⟨rfl, _⟩ | ⟨a, len, cap, m, n, D, Pl, rfl, _, hl, _, hm, _, hel⟩
  · exact ⟨[], by simp [VRs, VR, VE], by simp [Value.oneCell']⟩
  · rw [hsz] at hel
    simp only [if_true] at hm
    have hel' : ∀ i, i < len → ∃ p : α × List Value, W.cells? 0 (a.add (i * sz)) sz = some p.2 ∧ VRs (KW W) 0 (dec p.1) p.2 ∧ ∀ u ∈ p.2, u.oneCell' = true := fun i hi => by
      obtain ⟨cs', h1, h2⟩ := hel i (by omega)
      obtain ⟨b, h3, h4⟩ := hr _ _ _ h2
      exact ⟨(b, cs'), h1, h3, h4⟩
    obtain ⟨f, hf⟩ := choose_lt hel'
    refine ⟨(List.range len).map fun i => (f i).1, ?_, by simp [Value.oneCell']⟩
    simp only [VRs]
    refine ⟨_, [], rfl, ?_, rfl⟩
    simp only [VR]
    refine ⟨trivial, some a, cap, by simp, by simpa using hl, (fun h => by cases h), VE_iff.2 fun j x hj => ?_⟩
    simp only [List.getElem?_map, Option.map_eq_some_iff] at hj
    obtain ⟨b, ⟨i, hi, rfl⟩, rfl⟩ := hj
    obtain ⟨hilt, hij⟩ := List.getElem?_eq_some_iff.1 hi
    simp at hilt hij
    subst hij
    obtain ⟨q1, q2, q3⟩ := hf j hilt
    obtain ⟨c1, c2⟩ := cells_get q1
    obtain ⟨r1, _, _⟩ := hf 0 (by omega)
    obtain ⟨d1, d2⟩ := cells_get r1
    obtain ⟨u0, hu0⟩ : ∃ u0, (f 0).2[0]? = some u0 := ⟨_, List.getElem?_eq_getElem (by omega)⟩
    have hspot : a.spot = none := by
      have := spot_none (d2 0 u0 hu0)
      simpa [Addr.add] using this
    obtain ⟨ab, ao, asp⟩ := a
    simp only at hspot
    subst hspot
    have key : ∀ v : Value, v.cells.toList = (f j).2 → VR (KW W) 0 (elS ag dec (f j).1) v → ∃ b o v, (some (⟨ab, ao, none⟩ : Addr)) = some ⟨b, o, none⟩ ∧ VR (KW W) 0 (elS ag dec (f j).1) v ∧ v.cells.size = sz ∧ (∀ u ∈ v.cells, u.oneCell' = true) ∧ ∀ q u, v.cells[q]? = some u → KW W b (o + ((0 + j) * sz + q)) = some u := fun v hv hvr =>
      ⟨ab, ao, v, rfl, hvr, by rw [← Array.length_toList, hv]; exact c1, fun u hu => q3 u (by rw [← hv]; simpa using hu), fun q u hq => by
        have := c2 q u (by rw [← hv]; simpa using hq)
        rw [add_at, add_at] at this
        refine KW_has ?_ (hvr.noMk' hq)
        rw [← this]
        rw [Nat.zero_add, Nat.add_assoc]⟩
    cases ag with
    | true => exact key (.agg (f j).2.toArray) (by simp [Value.cells]) (by simp only [elS, if_true, VR]; exact ⟨_, rfl, q2⟩)
    | false =>
      have h1 := hag rfl
      subst h1
      obtain ⟨u, hu⟩ := List.length_eq_one_iff.1 c1
      rw [hu] at q2 q3
      obtain ⟨y, hy⟩ := List.length_eq_one_iff.1 (hlen (f j).1)
      refine key u (by rw [cells_of_one (q3 u (by simp)), hu]) ?_
      rw [hy] at q2
      simp only [elS, hy, Bool.false_eq_true, if_false, List.headD_cons]
      simp only [VRs] at q2
      obtain ⟨v, vt, e1, hv, rfl⟩ := q2
      cases e1
      exact hv
/-- A struct whose fields are one cell each. -/
theorem struct_cells {t : TypeId} {fs : Array Field} (ht : P.underlying t = some (.struct fs)) {fuel : Nat} {cs : List Value} {x : DataW H × List MemPlace} (h : DataW.trod enc P W 0 (fun _ => true) true fuel t cs = some x) :
    cs.length = P.cellsOf t ∧ ∀ (i : Nat) (f : Field), fs[i]? = some f → ∃ n y, DataW.trod enc P W 0 (fun _ => true) true n f.type ((cs.drop f.offset).take (P.cellsOf f.type)) = some y := by
  cases fuel with
  | zero => simp [DataW.trod] at h
  | succ n =>
    unfold DataW.trod at h
    rw [ht] at h
    simp only at h
    split at h
    · rename_i hl
      obtain ⟨xs, h1, _⟩ := Option.map_eq_some_iff.1 h
      obtain ⟨_, h3⟩ := mapM_some' h1
      refine ⟨hl, fun i f hf => ?_⟩
      obtain ⟨y, _, hy⟩ := h3 i f (by simpa using hf)
      exact ⟨n, y, hy⟩
    · cases h
end
end Go.Lm
end
section
namespace Go.Lm
open Go.Deep Go.ChangeShapes Go.WideShapes Go.RowKit
section
variable {H : Type} {enc : TypeId × Value → H} {P : Program} {W : World}
theorem Rd.map {t : TypeId} {α β : Type} {dec : α → List SVal} {dec' : β → List SVal} (g : α → β) (h : Rd enc P W t dec) (hg : ∀ a, dec a = dec' (g a)) : Rd enc P W t dec' := fun fuel cs x hx =>
  let ⟨a, h1, h2⟩ := h fuel cs x hx; ⟨g a, hg a ▸ h1, h2⟩
/-- The fields of a struct, from one on. -/
def RdF (enc : TypeId × Value → H) (P : Program) (W : World) (ts : List TypeId) {α : Type} (dec : α → List SVal) : Prop :=
  ∀ cs : List Value, cs.length = ts.length → (∀ (i : Nat) (t : TypeId), ts[i]? = some t → ∃ n y, DataW.trod enc P W 0 (fun _ => true) true n t ((cs.drop i).take 1) = some y) → ∃ a, VRs (KW W) 0 (dec a) cs ∧ ∀ u ∈ cs, u.oneCell' = true
theorem RdF.nil : RdF enc P W [] fun _ : Unit => [] := fun cs hl _ => by
  cases cs with
  | nil => exact ⟨(), by simp [VRs], by simp⟩
  | cons _ _ => simp at hl
theorem RdF.cons {t : TypeId} {ts : List TypeId} {α β : Type} {d : α → SVal} {dec : β → List SVal} (h : Rd enc P W t fun a => [d a]) (hs : RdF enc P W ts dec) : RdF enc P W (t :: ts) fun p : α × β => d p.1 :: dec p.2 := fun cs hl hr => by
  cases cs with
  | nil => simp at hl
  | cons v vs =>
    obtain ⟨n, y, h0⟩ := hr 0 t rfl
    obtain ⟨a, h1, h2⟩ := h _ _ _ h0
    obtain ⟨b, h3, h4⟩ := hs vs (by simpa using hl) fun i t' ht' => by simpa using hr (i + 1) t' (by simpa using ht')
    simp only [List.drop_zero, List.take_succ_cons, List.take_zero] at h1 h2
    simp only [VRs] at h1
    obtain ⟨v', vt, e1, h5, e2⟩ := h1
    cases e1
    refine ⟨(a, b), ?_, ?_⟩
    · simp only [VRs]
      exact ⟨v, vs, rfl, h5, h3⟩
    · intro u hu
      rcases List.mem_cons.1 hu with rfl | hu
      · exact h2 _ (by simp)
      · exact h4 u hu
def onesAt (P : Program) : Nat → List Field → List TypeId → Bool
  | _, [], [] => true
  | n, f :: fs, t :: ts => f.type == t && f.offset == n && P.cellsOf t == 1 && onesAt P (n + 1) fs ts
  | _, _, _ => false
theorem onesAt_spec {P : Program} : ∀ {n : Nat} {fs : List Field} {ts : List TypeId}, onesAt P n fs ts = true → ∀ (i : Nat) (t : TypeId), ts[i]? = some t → ∃ f, fs[i]? = some f ∧ f.type = t ∧ f.offset = n + i ∧ P.cellsOf t = 1
  | _, [], [], _, i, t, h => by simp at h
  | n, f :: fs, t :: ts, h, i, t', ht => by
    simp only [onesAt, Bool.and_eq_true, beq_iff_eq] at h
    obtain ⟨⟨⟨h1, h2⟩, h3⟩, h4⟩ := h
    cases i with
    | zero => simp at ht; subst ht; exact ⟨f, rfl, h1, by simpa using h2, h3⟩
    | succ i =>
      simp at ht
      obtain ⟨g, hg, k1, k2, k3⟩ := onesAt_spec h4 i t' ht
      exact ⟨g, by simpa using hg, k1, by omega, k3⟩
  | _, [], _ :: _, h, _, _, _ => by simp [onesAt] at h
  | _, _ :: _, [], h, _, _, _ => by simp [onesAt] at h
theorem Rd_struct {t : TypeId} {fs : Array Field} {ts : List TypeId} {α : Type} {dec : α → List SVal} (ht : P.underlying t = some (.struct fs)) (ho : onesAt P 0 fs.toList ts = true) (hc : P.cellsOf t = ts.length) (hs : RdF enc P W ts dec) : Rd enc P W t dec := fun fuel cs x hx => by
  obtain ⟨h1, h2⟩ := struct_cells ht hx
  refine hs cs (by rw [h1, hc]) fun i t' ht' => ?_
  obtain ⟨f, hf, e1, e2, e3⟩ := onesAt_spec ho i t' ht'
  obtain ⟨n, y, hy⟩ := h2 i f (by simpa using hf)
  rw [e1, e2, e3, Nat.zero_add] at hy
  exact ⟨n, y, hy⟩
/-! ### The program's types -/
structure Tys where
  attr : TypeId
  attrs : TypeId
  int : TypeId
  ints : TypeId
  node : TypeId
  tree : TypeId
  shown : TypeId
  shows : TypeId
  view : TypeId
def structOk (P : Program) (t : TypeId) (ts : List TypeId) : Bool := match P.underlying t with | some (.struct fs) => onesAt P 0 fs.toList ts && P.cellsOf t == ts.length | _ => false
def sliceOk (P : Program) (t e : TypeId) (sz : Nat) : Bool := match P.underlying t with | some (.slice e') => e' == e && P.cellsOf e == sz | _ => false
def Tys.ok (P : Program) (T : Tys) : Bool :=
  (match P.underlying T.int with | some (.int .i64) => true | _ => false) && sliceOk P T.ints T.int 1 && structOk P T.attr [T.int, T.int] && sliceOk P T.attrs T.attr 2 &&
    structOk P T.node [T.int, T.int, T.int, T.ints, T.int, T.int, T.attrs] && sliceOk P T.tree T.node 7 && structOk P T.shown [T.int, T.int] && sliceOk P T.shows T.shown 2 &&
    structOk P T.view [T.tree, T.ints, T.ints, T.shows, T.ints]
theorem structOk_spec {t : TypeId} {ts : List TypeId} (h : structOk P t ts = true) : ∃ fs, P.underlying t = some (.struct fs) ∧ onesAt P 0 fs.toList ts = true ∧ P.cellsOf t = ts.length := by
  unfold structOk at h
  split at h
  · rename_i fs hf; simp only [Bool.and_eq_true, beq_iff_eq] at h; exact ⟨fs, hf, h.1, h.2⟩
  · cases h
theorem sliceOk_spec {t e : TypeId} {sz : Nat} (h : sliceOk P t e sz = true) : P.underlying t = some (.slice e) ∧ P.cellsOf e = sz := by
  unfold sliceOk at h
  split at h
  · rename_i e' hf; simp only [Bool.and_eq_true, beq_iff_eq] at h; exact ⟨by rw [hf, h.1], h.2⟩
  · cases h
structure Tys.Ok (P : Program) (T : Tys) : Prop where
  int : P.underlying T.int = some (.int .i64)
  ints : P.underlying T.ints = some (.slice T.int) ∧ P.cellsOf T.int = 1
  attr : ∃ fs, P.underlying T.attr = some (.struct fs) ∧ onesAt P 0 fs.toList [T.int, T.int] = true ∧ P.cellsOf T.attr = 2
  attrs : P.underlying T.attrs = some (.slice T.attr) ∧ P.cellsOf T.attr = 2
  node : ∃ fs, P.underlying T.node = some (.struct fs) ∧ onesAt P 0 fs.toList [T.int, T.int, T.int, T.ints, T.int, T.int, T.attrs] = true ∧ P.cellsOf T.node = 7
  tree : P.underlying T.tree = some (.slice T.node) ∧ P.cellsOf T.node = 7
  shown : ∃ fs, P.underlying T.shown = some (.struct fs) ∧ onesAt P 0 fs.toList [T.int, T.int] = true ∧ P.cellsOf T.shown = 2
  shows : P.underlying T.shows = some (.slice T.shown) ∧ P.cellsOf T.shown = 2
  view : ∃ fs, P.underlying T.view = some (.struct fs) ∧ onesAt P 0 fs.toList [T.tree, T.ints, T.ints, T.shows, T.ints] = true ∧ P.cellsOf T.view = 5
theorem Tys.ok_spec {T : Tys} (h : T.ok P = true) : T.Ok P := by
  simp only [Tys.ok, Bool.and_eq_true] at h
  obtain ⟨⟨⟨⟨⟨⟨⟨⟨h1, h2⟩, h3⟩, h4⟩, h5⟩, h6⟩, h7⟩, h8⟩, h9⟩ := h
  refine ⟨?_, sliceOk_spec h2, structOk_spec h3, sliceOk_spec h4, structOk_spec h5, sliceOk_spec h6, structOk_spec h7, sliceOk_spec h8, structOk_spec h9⟩
  split at h1
  · assumption
  · cases h1
section
variable {T : Tys} (hT : T.Ok P)
include hT
theorem rd_int : Rd enc P W T.int fun n : Int => [int n] := Rd_int hT.int
theorem rd_ints : Rd enc P W T.ints fun l : List Int => [encI l] := (Rd_slice false hT.ints.1 hT.ints.2 (by omega) (rd_int hT) (fun _ => rfl) fun _ => rfl).map id fun l => by simp [encI, elS]
theorem rd_attr : Rd enc P W T.attr fun a : Attr => [int a.name, int a.value] := by
  obtain ⟨fs, h1, h2, h3⟩ := hT.attr
  exact (Rd_struct h1 h2 h3 (RdF.cons (rd_int hT) (RdF.cons (rd_int hT) RdF.nil))).map (fun p => ⟨p.1, p.2.1⟩) fun _ => rfl
theorem rd_attrs : Rd enc P W T.attrs fun l : List Attr => [encAs l] := (Rd_slice true hT.attrs.1 hT.attrs.2 (by omega) (rd_attr hT) (fun _ => rfl) fun h => by cases h).map id fun l => by simp [encAs, elS]; intros; rfl
theorem rd_node : Rd enc P W T.node fun x : Nod => [int x.kind, int x.tag, int x.parent, encI x.kids, int x.host, int x.root, encAs x.attrs] := by
  obtain ⟨fs, h1, h2, h3⟩ := hT.node
  exact (Rd_struct h1 h2 h3 (RdF.cons (rd_int hT) (RdF.cons (rd_int hT) (RdF.cons (rd_int hT) (RdF.cons (rd_ints hT) (RdF.cons (rd_int hT) (RdF.cons (rd_int hT) (RdF.cons (rd_attrs hT) RdF.nil)))))))).map
    (fun p => ⟨p.1, p.2.1, p.2.2.1, p.2.2.2.1, p.2.2.2.2.1, p.2.2.2.2.2.1, p.2.2.2.2.2.2.1⟩) fun _ => rfl
theorem rd_tree : Rd enc P W T.tree fun t : List Nod => [encT t] := (Rd_slice true hT.tree.1 hT.tree.2 (by omega) (rd_node hT) (fun _ => rfl) fun h => by cases h).map id fun l => by simp [encT, elS]; intros; rfl
theorem rd_shown : Rd enc P W T.shown fun x : Shown => [int x.node, int x.invoker] := by
  obtain ⟨fs, h1, h2, h3⟩ := hT.shown
  exact (Rd_struct h1 h2 h3 (RdF.cons (rd_int hT) (RdF.cons (rd_int hT) RdF.nil))).map (fun p => ⟨p.1, p.2.1⟩) fun _ => rfl
theorem rd_shows : Rd enc P W T.shows fun l : List Shown => [encP l] := (Rd_slice true hT.shows.1 hT.shows.2 (by omega) (rd_shown hT) (fun _ => rfl) fun h => by cases h).map id fun l => by simp [encP, elS]; intros; rfl
theorem rd_view : Rd enc P W T.view fun v : View => [encT v.tree, encI v.op, encI v.modal, encP v.popups, encI v.top] := by
  obtain ⟨fs, h1, h2, h3⟩ := hT.view
  exact (Rd_struct h1 h2 h3 (RdF.cons (rd_tree hT) (RdF.cons (rd_ints hT) (RdF.cons (rd_ints hT) (RdF.cons (rd_shows hT) (RdF.cons (rd_ints hT) RdF.nil)))))).map (fun p => ⟨p.1, p.2.1, p.2.2.1, p.2.2.2.1, p.2.2.2.2.1⟩) fun _ => rfl
end
/-! ### Arguments -/
/-- What may stand for a parameter of this type. -/
def RdA (enc : TypeId × Value → H) (P : Program) (W : World) (t : TypeId) {α : Type} (dec : α → SVal) : Prop :=
  ∀ (r : Reach) (b0 : Nat) v d ps, Value.okWide P W r b0 t v → DataW.Trod enc P W 0 (fun _ => true) true t v d ps → ∃ a, VR (KW W) 0 (dec a) v
theorem RdA_struct {t : TypeId} {fs : Array Field} {α : Type} {dec : α → List SVal} (ht : P.underlying t = some (.struct fs)) (h : Rd enc P W t dec) : RdA enc P W t fun a => .agg (dec a) := fun r b0 v d ps hv hd => by
  obtain ⟨cs, rfl, _⟩ := okWide_struct ht hv
  obtain ⟨n, hn⟩ := hd
  obtain ⟨a, h1, _⟩ := h n _ _ hn
  refine ⟨a, ?_⟩
  simp only [VR]
  exact ⟨cs.toList, by simp, by simpa [Value.cells] using h1⟩
theorem RdA_slice {t e : TypeId} {α : Type} {dec : α → SVal} (ht : P.underlying t = some (.slice e)) (h : Rd enc P W t fun a => [dec a]) : RdA enc P W t dec := fun r b0 v d ps hv hd => by
  obtain ⟨a, len, cap, rfl⟩ := okWide_slice ht hv
  obtain ⟨n, hn⟩ := hd
  obtain ⟨x, h1, _⟩ := h n _ _ hn
  refine ⟨x, ?_⟩
  simp only [Value.cells, VRs] at h1
  obtain ⟨v, vt, e1, hv, rfl⟩ := h1
  cases e1
  exact hv
theorem RdA_int {t : TypeId} (ht : P.underlying t = some (.int .i64)) : RdA enc P W t int := fun r b0 v d ps hv hd => by
  obtain ⟨n, rfl, _⟩ := open_int ht hv hd
  exact ⟨n, by simp [VR]⟩
theorem RdA_bool {t : TypeId} (ht : P.underlying t = some .bool) : RdA enc P W t SVal.bool := fun r b0 v d ps hv hd => by
  obtain ⟨b, rfl, _⟩ := open_bool ht hv hd
  exact ⟨b, by simp [VR]⟩
section
variable {T : Tys} (hT : T.Ok P)
include hT
theorem ra_view : RdA enc P W T.view encV := by obtain ⟨_, h, _⟩ := hT.view; exact RdA_struct h (rd_view hT)
theorem ra_shown : RdA enc P W T.shown encS := by obtain ⟨_, h, _⟩ := hT.shown; exact RdA_struct h (rd_shown hT)
theorem ra_tree : RdA enc P W T.tree encT := RdA_slice hT.tree.1 (rd_tree hT)
theorem ra_ints : RdA enc P W T.ints encI := RdA_slice hT.ints.1 (rd_ints hT)
theorem ra_attrs : RdA enc P W T.attrs encAs := RdA_slice hT.attrs.1 (rd_attrs hT)
theorem ra_shows : RdA enc P W T.shows encP := RdA_slice hT.shows.1 (rd_shows hT)
theorem ra_int : RdA enc P W T.int int := RdA_int hT.int
end
theorem Below.trodAll (hl : laidOutB P = true) {W' : World} (hb : Below W.heap.size W W') : ∀ {ts : List TypeId} {vs : List Value} {ds : List (DataW H)} {ps : List MemPlace}, (ts.all fun t => P.readableRec t && decide (t < P.types.size)) = true →
    DataW.TrodAll enc P W 0 (fun _ => true) true ts vs ds ps → (∀ x ∈ ps, x.block < W.heap.size) → DataW.TrodAll enc P W' 0 (fun b => decide (b < W.heap.size)) true ts vs ds ps
  | [], vs, ds, ps, _, h, _ => by
    obtain ⟨rfl, rfl, rfl⟩ := trodAll_nil h
    simp [DataW.TrodAll]
  | t :: ts, vs, ds, ps, hr, h, hlt => by
    obtain ⟨v, vs', d, ds', p, q, rfl, rfl, rfl, h1, h2⟩ := trodAll_cons h
    simp only [List.all_cons, Bool.and_eq_true, decide_eq_true_eq] at hr
    exact ⟨p, q, Below.trod hl hr.1.1 hr.1.2 h1 hb fun x hx => hlt x (by simp [hx]), Below.trodAll hl hb hr.2 h2 fun x hx => hlt x (by simp [hx]), rfl⟩
/-- A law that answers true. -/
theorem law_calls {Hn : Nat → FH} {f : Nat} {args : List SVal} {r : Res} (hg : Good P Hn f args r) (hr : r.r = .bool true) (hres : (Hn f).res = .plain) (hsh : shOks (Hn f).params args = true) {vals : List Value} (hv : VRs (KW W) 0 args vals) :
    Calls P f vals.toArray W fun e W' => e = .returned (.bool true) ∧ Below W.heap.size W W' := by
  have hl : ((args.map fun _ => ([] : List Nat)).flatten) = [] := map_nil_flat args
  refine (hg.2 (KW W) (· < W.heap.size) 0 Tr Tr vals (args.map fun _ => []) W (KW_kok W) (fun _ h => h) (shOks_XL hsh hv) (by rw [hl]; exact List.nodup_nil) (by rw [hl]; simp) (fun _ _ _ _ _ _ _ _ _ => trivial) (fun _ _ _ _ _ _ _ _ _ => trivial)
    (fun h => by have h2 : isGen Hn f = false := shOks_gen hsh
                 rw [h2] at h; cases h)).mono fun e W' h => ?_
  obtain ⟨v, K', rfl, h1, h2, h3, h4, h5, h6⟩ := h
  rcases h6 with ⟨bs, bk, ov, hx, _⟩ | ⟨hgen, _⟩
  · rw [hres, hr] at hx
    simp only [XS, XS0, VR] at hx
    refine ⟨?_, h4.os, h4.tape, h4.output, h4.size, fun k hk => ?_⟩
    rotate_left
    · clear hx
      have h7 := h5 k hk
      cases hm : W.heap[k]? with
      | none => exact absurd (Array.getElem?_eq_none_iff.1 hm) (by omega)
      | some ob =>
        by_cases ho : isMapO ob = false
        · exact vw_get h7 hm ho
        · cases ob <;> first | exact absurd rfl ho | skip
          rename_i es c
          obtain ⟨_, es', c', e1, e2⟩ := h1 k 0 _ (h2 k 0 _ (KW_map hm))
          rw [if_neg (by decide)] at e2
          obtain ⟨rfl, rfl⟩ := encM_inj e2
          exact e1
    first
      | (obtain ⟨_, rfl⟩ := hx; rfl)
      | (obtain ⟨rfl, _⟩ := hx; rfl)
  · have h2 : isGen Hn f = false := shOks_gen hsh
    rw [h2] at hgen; cases hgen
end
end Go.Lm
end
