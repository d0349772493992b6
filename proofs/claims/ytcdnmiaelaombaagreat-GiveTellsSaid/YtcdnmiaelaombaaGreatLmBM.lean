/- A row of the caller's own is put in order by the library's function. -/
import Derived.Test.YtcdnmiaelaombaaGreatLmBL
import Derived.Test.YtcdnmiaelaombaaGreatLmAG
import Derived.Sort.Grow
set_option linter.unusedVariables false
set_option linter.unusedSimpArgs false
set_option linter.unnecessarySimpa false
set_option linter.all false
namespace Go.Lm
open Go.Sort
theorem insI_le {n : Int} : ∀ {l : List Int}, (∀ x ∈ l, n ≤ x) → insI n l = n :: l
  | [], _ => rfl
  | m :: l, h => by simp only [insI]; rw [if_pos (h m (by simp))]
theorem sortI_sorted : ∀ {l : List Int}, l.Pairwise (· ≤ ·) → sortI l = l
  | [], _ => rfl
  | n :: l, h => by
    have h' := List.pairwise_cons.1 h
    simp only [sortI]
    rw [sortI_sorted h'.2, insI_le h'.1]
theorem merge_sortI (l : List Int) : (l.mergeSort fun x y => decide (x ≤ y)) = sortI l := by
  have hp : (l.mergeSort fun x y => decide (x ≤ y)).Perm l := List.mergeSort_perm _ _
  have hs : (l.mergeSort fun x y => decide (x ≤ y)).Pairwise (· ≤ ·) := by
    have := List.pairwise_mergeSort (le := fun x y : Int => decide (x ≤ y)) (fun a b c h1 h2 => by simp at *; omega) (fun a b => by simp; omega) l
    exact this.imp fun h => by simpa using h
  rw [← sortI_sorted hs]
  exact sortI_eq hp
theorem intList_some : ∀ {xs : List SVal} {l : List Int}, intList xs = some l → xs = l.map (SVal.int .i64)
  | [], l, h => by simp [intList] at h; subst h; rfl
  | x :: xs, l, h => by
    unfold intList at h
    split at h
    · rename_i e; cases e
    · rename_i n r e
      cases e
      obtain ⟨l', h1, h2⟩ := Option.bind_eq_some_iff.1 h
      cases h2
      rw [List.map_cons, ← intList_some h1]
    · cases h
theorem heap_sort (w : World) (n blk : Nat) (d : Array Int) (os : Array Go.Obj) {b : Nat} (hb : b < w.heap.size) (hne : b ≠ blk) : (grow (putRow (Value.int .i64) (Sort.ahead w n) blk 0 d) os).heap[b]? = w.heap[b]? := by
  simp only [grow, putRow, mapBlock, Sort.ahead]
  rw [Array.getElem?_append_left (by simpa using hb), Array.getElem?_modify, if_neg (Ne.symm hne)]
theorem heap_sorted (w : World) (n blk : Nat) (d : Array Int) (os : Array Go.Obj) {arr : Array Value} {t : TypeId} {fr : Nat × Nat} (h : w.heap[blk]? = some (.cells arr t fr)) :
    (grow (putRow (Value.int .i64) (Sort.ahead w n) blk 0 d) os).heap[blk]? = some (.cells (putCells (Value.int .i64) 0 d arr) t fr) := by
  have hb := (Array.getElem?_eq_some_iff.1 h).1
  simp only [grow, putRow, mapBlock, Sort.ahead]
  rw [Array.getElem?_append_left (by simpa using hb), Array.getElem?_modify, if_pos rfl, h]
  rfl
section
variable {P : Program}
theorem good_sort {H : Nat → FH} {f : Nat} (he : EnterOk P f)
    (hs : ∀ (blk off cap : Nat) (zs : List Int) (w : World), Holds (Value.int .i64) w blk off zs.toArray → blk < w.heap.size → zs.length < 4611686018427387904 →
      Calls P f #[.slice (some ⟨blk, off, none⟩) zs.length cap] w fun e w' => e = .returned (.tuple #[]) ∧ ∃ n os, w' = grow (putRow (Value.int .i64) (Sort.ahead w n) blk off (zs.mergeSort fun x y => decide (x ≤ y)).toArray) os)
    (hs0 : ∀ (p : Option Addr) (cap : Nat) (w : World), Calls P f #[.slice p 0 cap] w fun e w' => e = .returned (.tuple #[]) ∧ w' = w)
    (hH : H f = { params := [.own 1], res := .tup [], back := true }) {args : List SVal} {r : Res} (h : primSort args = some r) : Good P H f args r := by
  unfold primSort at h
  split at h
  rotate_left; · cases h
  rename_i xs
  obtain ⟨l0, hl0, h⟩ := Option.bind_eq_some_iff.1 h
  split at h
  rotate_left; · cases h
  rename_i hlen
  cases h
  have hxs := intList_some hl0
  subst hxs
  refine ⟨he, fun K O l J Jx vals bss w hk hO hx hnd hfr hJ hJx hgen => ?_⟩
  rw [hH] at hx
  have hgn : isGen H f = false := by unfold isGen; rw [hH]; rfl
  match vals, bss, hx with
  | [], _, hx => simp [XL] at hx
  | _ :: _ :: _, [], hx => simp [XL] at hx
  | _ :: _ :: _, _ :: _, hx => simp [XL] at hx
  | [_], [], hx => simp [XL] at hx
  | [_], _ :: _ :: _, hx => simp [XL] at hx
  | [v], [b0], hx =>
    simp only [XL, XS, XS0, and_true] at hx
    obtain ⟨xs, blk, e1, ho⟩ := hx
    cases e1
    simp only [List.flatten_cons, List.flatten_nil, List.append_nil] at hfr hnd
    -- what comes behind
    have fin : ∀ w', Kok K w' → SameW w w' → (∀ b, O b → vw w' b = vw w b) → w.heap.size ≤ w'.heap.size → OwnR K l w' 1 ((sortI l0).map (SVal.int .i64)) v blk b0 →
        GoodPost P H f { r := .tup [], outs := [.sl 1 true false ((sortI l0).map (SVal.int .i64))] } K O l J Jx [v] [b0] w (.returned (.tuple #[])) w' := by
      intro w' h1 h2 h3 h4 h5
      refine ⟨.tuple #[], K, rfl, h1, fun _ _ _ h => h, fun _ _ _ _ h => h, h2, h3, .inl ⟨[], b0, [], ?_, by simpa using hnd, fun b hb => ?_, fun _ => ?_, fun h => ?_, fun h => ?_⟩⟩
      · rw [hH]; simp only [XS, XSs]; refine ⟨[], [], rfl, rfl, ?_⟩; simp
      · simp only [List.nil_append] at hb
        have := hfr b hb
        exact ⟨Nat.lt_of_lt_of_le this.1 h4, this.2⟩
      · rw [hH]
        refine ⟨by simp [ownBs], ?_⟩
        simp only [BackR]
        exact ⟨_, [], blk, rfl, h5, trivial⟩
      · rw [hH] at h; cases h
      · rw [hgn] at h; cases h
    obtain ⟨hsz, ⟨h0, rfl, A, rfl⟩ | ⟨rfl, arr, t, cap, hcp, hh, rfl, ha, hc, hAE⟩⟩ := ho
    · have hl : l0 = [] := by simpa using h0
      subst hl
      refine (hs0 A 0 w).mono fun e w' ⟨e1, e2⟩ => ?_
      subst e1
      rw [e2]
      exact fin w hk (SameW.refl _) (fun _ _ => rfl) (Nat.le_refl _) ⟨by omega, .inl ⟨by simp [sortI], rfl, A, rfl⟩⟩
    · have hcell : ∀ (j : Nat) (hj : j < l0.length), arr[j]? = some (.int .i64 l0[j]) := fun j hj => by
        obtain ⟨u, a1, a2, a3, a4⟩ := hAE j (int l0[j]) (by simp [hj])
        simp only [VR] at a1
        subst a1
        have := a4 0 (.int .i64 l0[j]) (by simp [Value.cells])
        simpa using this
      have hH2 : Holds (Value.int .i64) w blk 0 l0.toArray := fun j hj => by
        have hj' : j < l0.length := by simpa using hj
        refine ⟨?_, ?_⟩
        · simp only [World.cell?, hh, Nat.zero_add]
          simp [hcell j hj', hj']
        · simp [World.frozen?, hh]
      have hb := (Array.getElem?_eq_some_iff.1 hh).1
      have hv : (List.map (SVal.int IntKind.i64) l0).length = l0.length := by simp
      rw [hv]
      rw [hv] at hc fin
      refine (hs blk 0 cap l0 w hH2 hb (by omega)).mono fun e w' ⟨e1, n, os, e2⟩ => ?_
      rw [merge_sortI] at e2
      subst e1 e2
      have hsl : (sortI l0).length = l0.length := (sortI_perm l0).length_eq
      have hfree := hfr blk (by simp)
      have hKb : ∀ b o u, K b o = some u → b ≠ blk ∧ b < w.heap.size := fun b o u hu => by
        refine ⟨fun e => ?_, ?_⟩
        · subst e; rw [hfree.2.2 o] at hu; cases hu
        · by_cases hlt : b < w.heap.size
          · exact hlt
          · rw [Kok.free hk (by omega) o] at hu; cases hu
      refine fin _ (fun b o u hu => ?_) ⟨rfl, rfl, rfl, by simp [grow, putRow, mapBlock, Sort.ahead]⟩ (fun b hob => vw_of (heap_sort w n blk _ os (hO b hob) fun e => hfree.2.1 (e ▸ hob))) (by simp [grow, putRow, mapBlock, Sort.ahead]) ⟨by omega, .inr ⟨rfl, _, t, cap, hcp, heap_sorted w n blk _ os hh, ?_, ?_, ?_, ?_⟩⟩
      · have h1 := hk b o u hu
        obtain ⟨h2, h3⟩ := hKb b o u hu
        exact h1.of_heap (heap_sort w n blk _ os h3 h2)
      · simp [hsl]
      · simpa [putCells] using ha
      · simpa [hsl] using hc
      · intro j x hx
        simp only [List.getElem?_map, Option.map_eq_some_iff] at hx
        obtain ⟨m, hm, rfl⟩ := hx
        have hj := (List.getElem?_eq_some_iff.1 hm).1
        refine ⟨.int .i64 m, by simp [VR], by simp [Value.cells], by simp [Value.cells, Value.oneCell'], fun q y hy => ?_⟩
        have hq : q = 0 := by have := (Array.getElem?_eq_some_iff.1 hy).1; simp [Value.cells] at this; exact this
        subst hq
        simp [Value.cells] at hy
        subst hy
        have h1 := hcell j (by omega)
        simp only [putCells, Nat.mul_one, Nat.add_zero, Array.getElem?_mapIdx, h1, Option.map_some]
        rw [if_pos ⟨Nat.zero_le _, by simpa using hj⟩]
        simp [hm]
end
end Go.Lm
