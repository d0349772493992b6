/- A row is copied by the library's function: what it tells holds. -/
import Derived.Test.YtcdnmiaelaombaaGreatLmBI
import Derived.Test.YtcdnmiaelaombaaGreatLmAC
import Derived.Shelf.SlicesE.Clone
import Derived.Deep.Slices
set_option linter.unusedVariables false
set_option linter.unusedSimpArgs false
set_option linter.unnecessarySimpa false
set_option linter.all false
namespace Go.Lm
open Go.Shelf Go.RowKit Go.Lib Go.Proofs
section
variable {P : Program} {ρ : Ren}
set_option maxHeartbeats 2000000 in
set_option maxRecDepth 100000 in
/-- Of a row of no elements, wherever it lies. -/
theorem clone_zero (L : SlLaysE0.n41 P ρ) (i0 : TypeInfo) (z : Value) (size bytes : Nat) (hi : P.info? (ρ.t 23) = some i0) (hz0 : i0.zero = some z) (hz1 : i0.size = size) (hz2 : i0.bytes = bytes) (hzs : z.cells.size = size) (hsz : 0 < size)
    (z23 : ∀ w, (Go.sizeOf (ρ.t 23)).run P w = .ok size w) (a : Addr) (c : Nat) (w : World) :
    Calls P (ρ.f 41) #[.slice (some a) 0 c] w fun e w' => ∃ v', e = .returned v' ∧ w'.ownsRow w.heap.size (ρ.t 23) size v' 0 [] ∧ Below w.heap.size w w' := by
  have mixed := L.mixed; have t4 := L.t4; have a4 := L.a4; have z4 := L.z4; have v4 := L.v4; have t22 := L.t22; have a22 := L.a22; have z22 := L.z22; have v22 := L.v22
  have q22 : ∀ (w : World) (a : Option Addr) (n c n' c' : Nat), (binOp .eql (ρ.t 22) (.slice a n c) (.slice none n' c')).run P w = .ok (.bool a.isNone) w := fun w a n c n' c' => Lib.run_eql_slice_nil w _ _ a n c n' c' L.t22
  have u22 : ∀ w, Sem.run P (underlying (ρ.t 22)) w = .ok (TypeDesc.slice (ρ.t 23)) w := run_underlying t22
  obtain ⟨_, _, FG⟩ := L.f41
  go_enter FG, SlBodyN.n41_ntmps ρ
  go_wp2_with (at_builtin; refine wpList_append_own _ rfl _ _ (ρ.t 22) rfl w.heap.size (ρ.t 23) i0 z size bytes t22 hi hz0 hz1 hz2 hzs hsz _ _ _ rfl (World.ownsRow_made w #[] 0 (Nat.le_refl _) (Nat.zero_le _) (by simp)) a 0 c [] rfl (by simp) (by intro j u hj; simp at hj) (by intro u hu; cases hu) (by unfold maxLen; omega) (by omega) (by simp) ?_)
  intro v' w1 hown hgrow hnil
  go_wp2
  go_ret
  refine ⟨v', rfl, by simpa using hown, ?_⟩
  exact ((Below.refl _ w).alloc (Nat.le_refl _) _).grown hgrow (by simp) (by intro k hk; simp [Value.ownBlock] at hk; omega)
theorem flat_at {sz : Nat} : ∀ {ls : List (List Value)}, (∀ x ∈ ls, x.length = sz) → ∀ (j q : Nat) (x : List Value), ls[j]? = some x → q < sz → (ls.flatten)[j * sz + q]? = x[q]?
  | [], _, j, q, x, h, _ => by simp at h
  | y :: ls, hl, j, q, x, h, hq => by
    have hy := hl y (by simp)
    cases j with
    | zero =>
      simp at h; subst h
      simp only [List.flatten_cons, Nat.zero_mul, Nat.zero_add]
      rw [List.getElem?_append_left (by omega)]
    | succ j =>
      simp only [List.getElem?_cons_succ] at h
      simp only [List.flatten_cons]
      rw [List.getElem?_append_right (by rw [Nat.succ_mul]; omega), ← flat_at (fun x hx => hl x (by simp [hx])) j q x h hq]
      congr 1
      rw [Nat.succ_mul]; omega
theorem flat_len' {sz : Nat} : ∀ {ls : List (List Value)}, (∀ x ∈ ls, x.length = sz) → ls.flatten.length = ls.length * sz
  | [], _ => by simp
  | y :: ls, hl => by
    have := flat_len' (fun x hx => hl x (by simp [hx]) : ∀ x ∈ ls, x.length = sz)
    simp only [List.flatten_cons, List.length_append, List.length_cons, hl y (by simp), this, Nat.succ_mul]; omega
theorem Below.sameW {w w' : World} (h : Below w.heap.size w w') : SameW w w' := ⟨h.os, h.tape, h.output, h.size⟩
theorem Below.kok {K : Kt} {w w' : World} (h : Below w.heap.size w w') (hk : Kok K w) : Kok K w' := fun b o v hv => (hk b o v hv).of_heap (h.block b (hk b o v hv).lt)
theorem Kok.free {K : Kt} {w : World} (hk : Kok K w) {b : Nat} (hb : w.heap.size ≤ b) (o : Nat) : K b o = none := by
  cases h : K b o with
  | none => rfl
  | some v =>
    exact absurd (hk b o v h).lt (by omega)
/-- What a row of the call's own is. -/
theorem own_row {K : Kt} {l : Nat} {w : World} {base : Nat} {e : TypeId} {sz : Nat} {v : Value} {xs : List SVal} {news : List Value} (hsz : 0 < sz) (h : w.ownsRow base e sz v xs.length news)
    (hn : ∀ (j : Nat) (x : SVal), xs[j]? = some x → ∃ u, VR K l x u ∧ u.cells.size = sz ∧ (∀ y ∈ u.cells, y.oneCell' = true) ∧ ∀ q y, u.cells[q]? = some y → news[j * sz + q]? = some y) :
    ∃ blk bs, OwnR K l w sz xs v blk bs ∧ bs.Nodup ∧ ∀ b ∈ bs, base ≤ b ∧ b < w.heap.size := by
  obtain ⟨hl, ⟨rfl, h0⟩ | ⟨g, cap, cur, rfl, hg, hh, h1, h2, h3, h4⟩⟩ := h
  · refine ⟨0, [], ⟨hsz, .inl ⟨List.length_eq_zero_iff.1 h0, rfl, none, rfl⟩⟩, List.nodup_nil, by simp⟩
  · by_cases hcap : cap = 0
    · subst hcap
      have hx0 : xs = [] := List.length_eq_zero_iff.1 (by omega)
      subst hx0
      exact ⟨0, [], ⟨hsz, .inl ⟨rfl, rfl, some ⟨g, 0, none⟩, rfl⟩⟩, List.nodup_nil, by simp⟩
    refine ⟨g, [g], ⟨hsz, .inr ⟨rfl, cur, e, cap, by omega, hh, rfl, h3, h1, fun j x hx => ?_⟩⟩, by simp, fun b hb => ?_⟩
    · obtain ⟨u, a1, a2, a3, a4⟩ := hn j x hx
      refine ⟨u, a1, a2, a3, fun q y hy => ?_⟩
      have := a4 q y hy
      rw [← h4] at this
      have h5 := (List.getElem?_eq_some_iff.1 this).1
      rw [List.getElem?_take_of_lt (by simp at h5; omega)] at this
      simpa using this
    · simp at hb; subst hb
      exact ⟨hg, (Array.getElem?_eq_some_iff.1 hh).1⟩
theorem good_clone {H : Nat → FH} (L : SlLaysE0.n41 P ρ) {f : Nat} (hf : ρ.f 41 = f) (he : EnterOk P f) {i0 : TypeInfo} {z : Value} {size bytes : Nat} (hi : P.info? (ρ.t 23) = some i0) (hz0 : i0.zero = some z) (hz1 : i0.size = size) (hz2 : i0.bytes = bytes) (hzs : z.cells.size = size) (hsz : 0 < size)
    (hby : bytes ≤ 1000) (z23 : ∀ w, (Go.sizeOf (ρ.t 23)).run P w = .ok size w) (hH : H f = { params := [.slc], res := .own size }) {args : List SVal} {r : Res} (h : primClone size args = some r) : Good P H f args r := by
  unfold primClone at h
  split at h
  rotate_left; · cases h
  rename_i sz' full xs
  split at h
  rotate_left; · cases h
  rename_i hc
  obtain ⟨rfl, hlen⟩ := hc
  cases h
  refine ⟨he, fun K O l J Jx vals bss w hk hO hx hnd hfr hJ hJx hgen => ?_⟩
  rw [hH] at hx
  have hgn : isGen H f = false := by unfold isGen; rw [hH]; rfl
  match vals, bss, hx with
  | [], _, hx => simp [XL] at hx
  | _ :: _ :: _, [], hx => simp [XL] at hx
  | _ :: _ :: _, _ :: _, hx => simp [XL] at hx
  | [_], [], hx => simp [XL] at hx
  | [_], _ :: _ :: _, hx => simp [XL] at hx
  | [v], [b0], hx =>
    simp only [XL, XS, XS0, VR, and_true] at hx
    obtain ⟨rfl, _, A, c, rfl, hc1, _, hve⟩ := hx
    -- what comes behind
    have fin : ∀ (news : List Value), (∀ (j : Nat) (x : SVal), xs[j]? = some x → ∃ u, VR K l x u ∧ u.cells.size = sz' ∧ (∀ y ∈ u.cells, y.oneCell' = true) ∧ ∀ q y, u.cells[q]? = some y → news[j * sz' + q]? = some y) →
        ∀ e w', (∃ v', e = .returned v' ∧ w'.ownsRow w.heap.size (ρ.t 23) sz' v' xs.length news ∧ Below w.heap.size w w') → GoodPost P H f { r := .sl sz' true false xs } K O l J Jx [.slice A xs.length c] [[]] w e w' := by
      rintro news hn e w' ⟨v', rfl, hown, hb⟩
      obtain ⟨blk, bs, ho, hbn, hbb⟩ := own_row hsz hown hn
      refine ⟨v', K, rfl, Below.kok hb hk, fun _ _ _ h => h, fun _ _ _ _ h => h, Below.sameW hb, fun b h => vw_of (hb.block b (hO b h)), .inl ⟨bs, [], [], ?_, by simpa using hbn, fun b hb' => ?_, fun h => ?_, fun _ => rfl, fun h => ?_⟩⟩
      · rw [hH]; simp only [XS, XS0]; exact ⟨xs, blk, rfl, ho⟩
      · simp only [List.append_nil] at hb'
        have h2 := hbb b hb'
        exact ⟨h2.2, fun hob => by have := hO b hob; omega, fun o => Kok.free hk h2.1 o⟩
      · rw [hH] at h; cases h
      · rw [hgn] at h; cases h
    subst hf
    by_cases h0 : xs = []
    · subst h0
      cases A with
      | none =>
        refine (AnyE.slices_Clone_nil L 0 c w).mono fun e w' ⟨h1, h2⟩ => fin [] (fun j x hx => by simp at hx) e w' ?_
        subst h1 h2
        exact ⟨_, rfl, ⟨by simp, .inl ⟨rfl, rfl⟩⟩, Below.refl _ _⟩
      | some a => exact (clone_zero L i0 z sz' bytes hi hz0 hz1 hz2 hzs hsz z23 a c w).mono fun e w' h => fin [] (fun j x hx => by simp at hx) e w' h
    · have hve' := VE_iff.1 hve
      obtain ⟨x0, hx0⟩ : ∃ x0, xs[0]? = some x0 := ⟨xs[0]'(List.length_pos_iff.2 h0), by simp [List.length_pos_iff.2 h0]⟩
      obtain ⟨b, o, _, rfl, _⟩ := hve' 0 x0 hx0
      have hall : ∀ j, j < xs.length → ∃ u : Value, (∀ x, xs[j]? = some x → VR K l x u) ∧ u.cells.size = sz' ∧ (∀ y ∈ u.cells, y.oneCell' = true) ∧ ∀ q y, u.cells[q]? = some y → K b (o + (j * sz' + q)) = some y := fun j hj => by
        obtain ⟨b', o', u, e1, e2, e3, e4, e5⟩ := hve' j xs[j] (by simp [hj])
        cases e1
        exact ⟨u, fun x hx => by rw [List.getElem?_eq_getElem hj] at hx; cases hx; exact e2, e3, e4, fun q y hy => by simpa using e5 q y hy⟩
      obtain ⟨g, hg⟩ := Go.Deep.choose_lt hall
      let ls : List (List Value) := (List.range xs.length).map fun j => (g j).cells.toList
      have hls : ∀ x ∈ ls, x.length = sz' := fun x hx => by
        obtain ⟨j, hj, rfl⟩ := List.mem_map.1 hx
        simpa using (hg j (by simpa using hj)).2.1
      have hat : ∀ j, j < xs.length → ls[j]? = some (g j).cells.toList := fun j hj => by simp [ls, hj]
      have hnews : ∀ j q y, j < xs.length → (g j).cells[q]? = some y → ls.flatten[j * sz' + q]? = some y := fun j q y hj hy => by
        have hq : q < sz' := by rw [← (hg j hj).2.1]; exact (Array.getElem?_eq_some_iff.1 hy).1
        rw [flat_at hls j q _ (hat j hj) hq]; simpa using hy
      have hfl : ls.flatten.length = xs.length * sz' := by rw [flat_len' hls]; simp [ls]
      refine (AnyE.slices_Clone L i0 z sz' bytes hi hz0 hz1 hz2 hzs hsz z23 b o xs.length c ls.flatten w hfl (by unfold maxLen; omega) (Nat.le_trans (Nat.mul_le_mul hlen hby) (by omega)) (fun i u hu => ?_) (fun u hu => ?_)).mono fun e w' h => fin ls.flatten (fun j x hx => ?_) e w' ?_
      · have hi' : i < xs.length * sz' := by rw [← hfl]; exact (List.getElem?_eq_some_iff.1 hu).1
        have hd : i / sz' < xs.length := Nat.div_lt_of_lt_mul (by rw [Nat.mul_comm]; exact hi')
        have hm : i % sz' < sz' := Nat.mod_lt _ hsz
        have e : i / sz' * sz' + i % sz' = i := by rw [Nat.mul_comm]; exact Nat.div_add_mod i sz'
        have hq : i % sz' < (g (i / sz')).cells.size := by rw [(hg _ hd).2.1]; exact hm
        have h1 := hnews (i / sz') (i % sz') _ hd (Array.getElem?_eq_getElem hq)
        rw [e, hu] at h1
        cases h1
        have h2 := (hg _ hd).2.2.2 (i % sz') _ (Array.getElem?_eq_getElem hq)
        rw [e] at h2
        exact (hk _ _ _ h2).cell (((hg _ hd).1 xs[i / sz'] (List.getElem?_eq_getElem hd)).noMk' (Array.getElem?_eq_getElem hq))
      · obtain ⟨y, hy, hu⟩ := List.mem_flatten.1 hu
        obtain ⟨j, hj, rfl⟩ := List.mem_map.1 hy
        exact (hg j (by simpa using hj)).2.2.1 u (by simpa using hu)
      · have hj := (List.getElem?_eq_some_iff.1 hx).1
        exact ⟨g j, (hg j hj).1 x hx, (hg j hj).2.1, (hg j hj).2.2.1, fun q y hy => hnews j q y hj hy⟩
      · obtain ⟨v', h1, h2, _, h3⟩ := h
        exact ⟨v', h1, h2, h3⟩
end
end Go.Lm
