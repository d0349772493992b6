/- Is nobody twice in a row: a copy is put in order, and its runs become one. -/
import Derived.Test.YtcdnmiaelaombaaGreatLmBK
import Derived.Test.YtcdnmiaelaombaaGreatLmBN
import Derived.WalkKit
import Derived.WalkSpells
import Derived.Sort.Grow
import Derived.RowKitTokens
import Derived.Lib.OwnBridge
import Derived.Sort.OwnSortedInts
set_option linter.unusedVariables false
set_option linter.unusedSimpArgs false
set_option linter.unnecessarySimpa false
set_option linter.all false
namespace Go.Proofs.YtcdnmiaelaombaaGreat.K
open Go Go.RowKit Go.Shelf Go.Sort
set_option maxRecDepth 100000 in
set_option maxHeartbeats 400000 in
theorem apart_any (b off c : Nat) (zs : List Int) (w : World) (hz : 0 < zs.length) (hbig : zs.length * 8 ≤ 140737488355328) (hc : ∀ j, j < zs.length → w.cell? ⟨b, off + j, none⟩ = some (.int .i64 (zs.getD j 0))) :
    Calls Tryz.prog 96 #[.slice (some ⟨b, off, none⟩) zs.length c] w fun e w' => e = .returned (.bool (Lm.onceI zs)) ∧ Below w.heap.size w w' := by
  have hclone := Tryz.slices_Clone_int b off zs.length c zs w (Nat.le_refl _) hbig hc
  clear hc
  go_enter Tryz.func96, Tryz.ntmps96
  go_wp2_with (first
    | (go_at_call 73; refine hclone.mono ?_; rintro e w1 ⟨v1, rfl, hown, hnn, hbel⟩
       obtain ⟨g, cap, rfl, hbg, hgl, hncap, hcm, hlen, hH⟩ := Lib.holds_of_ownsRow hown hnn
       rw [List.take_length] at hlen hH
       have hsort := Tryz.slices_Sort_int g 0 cap zs w1 hH hgl (by omega)
       have X : Aside (Below w.heap.size w w1 ∧ w.heap.size ≤ g ∧ g < w1.heap.size ∧ zs.length ≤ cap ∧ Holds (Value.int .i64) w1 g 0 zs.toArray) := ⟨hbel, hbg, hgl, hncap, hH⟩
       clear hown hbel hH hnn hlen hclone)
    | (go_at_call 120; refine hsort.mono ?_; rintro e w2 ⟨rfl, nn, os, hw2⟩
       have hH2 : Holds (Value.int .i64) w2 g 0 (Lm.sortI zs).toArray := by
         rw [← Lm.merge_sortI]
         subst hw2
         exact holds_grow _ _ os g 0 _ (by simpa [putRow, mapBlock, Sort.ahead] using X.out.2.2.1) (holds_putRow _ _ g 0 _ _ (holds_ahead _ w1 nn g 0 _ X.out.2.2.2.2) (by simp))
       have hB2 : Below w.heap.size w w2 := by
         subst hw2
         exact X.out.1.grown (grownBy_sortedI _) X.out.1.size (fun j hj => by cases hj; exact X.out.2.1)
       have hSl : (Lm.sortI zs).length = zs.length := (Lm.sortI_perm zs).length_eq
       have hcomp := Tryz.slices_Compact_int g 0 cap (Lm.sortI zs) w2 hH2 (by omega) (by have := X.out.2.2.2.1; omega)
       rw [hSl] at hcomp
       have Y : Aside (Below w.heap.size w w2 ∧ w.heap.size ≤ g) := ⟨hB2, X.out.2.1⟩
       clear hw2 hsort hH2 hB2 X)
    | (go_at_call 122; refine hcomp.mono ?_; rintro e w3 ⟨rfl, q, hw3⟩
       have hB3 : Below w.heap.size w w3 := by
         subst hw3
         refine ⟨Y.out.1.os, Y.out.1.tape, Y.out.1.output, by simpa [putRow, mapBlock, Sort.ahead] using Y.out.1.size, fun k hk => ?_⟩
         have hne : g ≠ k := by have := Y.out.2; omega
         simp only [putRow, mapBlock, Sort.ahead, Array.getElem?_modify, if_neg hne]
         exact Y.out.1.block k hk
       clear hcomp hw3 Y))
  go_ret
  refine ⟨?_, hB3⟩
  rw [← Lm.compact_once]
  have e : ∀ a b : Nat, (((a : Int) == (b : Int)) : Bool) = decide (a = b) := fun a b => by rw [Bool.eq_iff_iff]; simp; omega
  show Ending.returned (Value.bool _) = _
  rw [e]
theorem clone_none (A : Option Addr) (c : Nat) (w : World) : Calls Tryz.prog 73 #[.slice A 0 c] w fun e w' => ∃ p cap, e = .returned (.slice p 0 cap) ∧ Below w.heap.size w w' := by
  cases A with
  | none => exact (Tryz.slices_Clone_int_nil 0 c w).mono fun e w' ⟨h1, h2⟩ => ⟨none, 0, h1, h2 ▸ Below.refl _ _⟩
  | some a =>
    refine (Tryz.slices_Clone_int_zero a c w).mono fun e w' ⟨v', h1, h2, _, h3⟩ => ?_
    obtain ⟨_, ⟨e1, _⟩ | ⟨g, cap, cur, e1, _⟩⟩ := h2
    · exact ⟨none, 0, by rw [h1, e1], h3⟩
    · exact ⟨_, cap, by rw [h1, e1], h3⟩
set_option maxRecDepth 100000 in
set_option maxHeartbeats 400000 in
theorem apart_none (A : Option Addr) (c : Nat) (w : World) :
    Calls Tryz.prog 96 #[.slice A 0 c] w fun e w' => e = .returned (.bool true) ∧ Below w.heap.size w w' := by
  have hclone := clone_none A c w
  go_enter Tryz.func96, Tryz.ntmps96
  go_wp2_with (first
    | (go_at_call 73; refine hclone.mono ?_; rintro e w1 ⟨p, cap, rfl, hbel⟩
       have hsort := Tryz.slices_Sort_int_none p cap w1
       have X : Aside (Below w.heap.size w w1) := hbel
       clear hbel hclone)
    | (go_at_call 120; refine hsort.mono ?_; rintro e w2 ⟨rfl, hw2⟩
       have hcomp := Tryz.slices_Compact_int_empty p cap w2
       have Y : Aside (Below w.heap.size w w2) := hw2 ▸ X.out
       clear hw2 hsort X)
    | (go_at_call 122; refine hcomp.mono ?_; rintro e w3 ⟨rfl, hw3⟩
       have hB3 : Below w.heap.size w w3 := hw3 ▸ Y.out
       clear hcomp hw3 Y))
  go_ret
  exact ⟨by simp, hB3⟩
/-- What is told of it holds. -/
theorem good_apart {H : Nat → Lm.FH} (he : Lm.EnterOk Tryz.prog 96) (hH : H 96 = { params := [.slc], res := .plain }) {args : List Lm.SVal} {r : Lm.Res} (h : Lm.primApart args = some r) : Lm.Good Tryz.prog H 96 args r := by
  unfold Lm.primApart at h
  split at h
  rotate_left; · cases h
  rename_i full xs
  obtain ⟨l0, hl0, h⟩ := Option.bind_eq_some_iff.1 h
  split at h
  rotate_left; · cases h
  rename_i hlen
  cases h
  have hxs := Lm.intList_some hl0
  subst hxs
  refine ⟨he, fun K O l J Jx vals bss w hk hO hx hnd hfr hJ hJx hgen => ?_⟩
  rw [hH] at hx
  have hgn : Lm.isGen H 96 = false := by unfold Lm.isGen; rw [hH]; rfl
  match vals, bss, hx with
  | [], _, hx => simp [Lm.XL] at hx
  | _ :: _ :: _, [], hx => simp [Lm.XL] at hx
  | _ :: _ :: _, _ :: _, hx => simp [Lm.XL] at hx
  | [_], [], hx => simp [Lm.XL] at hx
  | [_], _ :: _ :: _, hx => simp [Lm.XL] at hx
  | [v], [b0], hx =>
    simp only [Lm.XL, Lm.XS, Lm.XS0, Lm.VR, and_true] at hx
    obtain ⟨rfl, _, A, c, rfl, hc1, _, hve⟩ := hx
    have fin : ∀ e w', (e = .returned (.bool (Lm.onceI l0)) ∧ Below w.heap.size w w') → Lm.GoodPost Tryz.prog H 96 { r := .bool (Lm.onceI l0) } K O l J Jx [.slice A (l0.map (Lm.SVal.int .i64)).length c] [[]] w e w' := by
      rintro e w' ⟨rfl, hb⟩
      refine ⟨_, K, rfl, Lm.Below.kok hb hk, fun _ _ _ h => h, fun _ _ _ _ h => h, Lm.Below.sameW hb, fun b h => Lm.vw_of (hb.block b (hO b h)), .inl ⟨[], [], [], ?_, by simp, by simp, fun h => ?_, fun _ => rfl, fun h => ?_⟩⟩
      · rw [hH]; simp [Lm.XS, Lm.XS0, Lm.VR]
      · rw [hH] at h; cases h
      · rw [hgn] at h; cases h
    by_cases h0 : l0 = []
    · subst h0
      exact (apart_none A c w).mono fun e w' h => fin e w' h
    · have hve' := Lm.VE_iff.1 hve
      have hpos := List.length_pos_iff.2 h0
      obtain ⟨b, o, _, rfl, _⟩ := hve' 0 (.int .i64 l0[0]) (by simp [hpos])
      rw [List.length_map] at fin ⊢
      refine (apart_any b o c l0 w hpos (by omega) fun j hj => ?_).mono fun e w' h => fin e w' h
      obtain ⟨b', o', u, e1, e2, e3, e4, e5⟩ := hve' j (.int .i64 l0[j]) (by simp [hj])
      cases e1
      simp only [Lm.VR] at e2
      subst e2
      have := e5 0 (.int .i64 l0[j]) (by simp [Value.cells])
      have := hk _ _ _ (by simpa using this)
      simpa [hj] using this.cell rfl
end Go.Proofs.YtcdnmiaelaombaaGreat.K
