/- A cache's owner: what is told is told by another function, once. -/
import Derived.Test.YtcdnmiaelaombaaGreatLmAI
import Derived.Test.YtcdnmiaelaombaaGreatLmBQ
import Derived.WalkKit
import Derived.WalkSpells
import Derived.RowKitTokens
set_option linter.unusedVariables false
set_option linter.unusedSimpArgs false
set_option linter.unnecessarySimpa false
set_option linter.all false
namespace Go.Proofs.YtcdnmiaelaombaaGreat.K
open Go Go.RowKit
theorem zeroI (w : World) : (zeroValue 3).run Tryz.prog w = .ok (.int .i64 0) w := by kernel_rfl
set_option maxRecDepth 100000 in
set_option maxHeartbeats 800000 in
theorem delegate_walk (va vb vc vd ve : Value) (mb : Nat) (n x : Int) (ds : Array Value) (w : World) (hmb : mb < w.heap.size) {es : Array MapEntry} {c : Nat} (hmap : w.heap[mb]? = some (.map es c)) (hok : Lm.CacheOk ds es) (hn : 0 ≤ n) (hx : ds[n.toNat]? = some (.int .i64 x))
    (R : World → Prop) (hfind : ∀ w1, Lm.SameW w w1 → (∀ j, j < w.heap.size → w1.heap[j]? = w.heap[j]?) → Calls Tryz.prog 50 #[.agg #[va, vb, vc, vd, ve, .map (some mb)], .int .i64 n] w1 fun e w2 =>
      e = .returned (.int .i64 x) ∧ Lm.SameW w1 w2 ∧ (∀ j, j < w1.heap.size → Lm.vw w2 j = Lm.vw w1 j) ∧ (∃ es c, w2.heap[mb]? = some (.map es c) ∧ Lm.CacheOk ds es) ∧ R w2) :
    Calls Tryz.prog 28 #[.agg #[va, vb, vc, vd, ve, .map (some mb)], .int .i64 n] w fun e w' => e = .returned (.int .i64 x) ∧ Lm.SameW w w' ∧ (∀ j, j < w.heap.size → Lm.vw w' j = Lm.vw w j) ∧
      ((∀ j, j < w.heap.size → w'.heap[j]? = w.heap[j]?) ∨ ∃ w2, R w2 ∧ (∀ j, j ≠ mb → w'.heap[j]? = w2.heap[j]?) ∧ (∃ es c, w2.heap[mb]? = some (.map es c)) ∧ ∃ es' c', w'.heap[mb]? = some (.map es' c') ∧ Lm.CacheOk ds es') := by
  obtain ⟨ob, hob⟩ : ∃ ob : Go.Obj, ob = .cells #[va, vb, vc, vd, ve, .map (some mb)] 48 := ⟨_, rfl⟩
  have h1 : ∀ j, j < w.heap.size → (w.alloc ob).heap[j]? = w.heap[j]? := fun j hj => Lm.heap_lt w ob j hj
  have hs1 : Lm.SameW w (w.alloc ob) := Lm.SameW.alloc w ob
  have hcall := hfind (w.alloc ob) hs1 h1
  have hb1 : (w.alloc ob).heap[mb]? = some (.map es c) := (h1 mb hmb).trans hmap
  have hnew : (w.alloc ob).heap[w.heap.size]? = some ob := Lm.heap_new w ob
  have hsz : (w.alloc ob).heap.size = w.heap.size + 1 := by simp
  have X : Aside (∀ j, j < w.heap.size → (w.alloc ob).heap[j]? = w.heap[j]?) := h1
  subst hob
  clear hfind h1
  go_enter Tryz.func28, Tryz.ntmps28
  go_wp2_with (first
    | (at_lookup; refine Lm.wpList_lookup_cache rfl _ _ 46 rfl 3 3 Tryz.underlying46 Tryz.underlying3 (zeroI _) mb hb1 hok rfl n rfl ?_ ?_)
    | (go_at_call 50; refine hcall.mono ?_; rintro e w2 ⟨rfl, hs2, hv2, ⟨es2, c2, hm2, hok2⟩, hR⟩
       have hbx : w2.heap[w.heap.size]? = some (.cells #[va, vb, vc, vd, ve, .map (some mb)] 48) := Lm.vw_get (hv2 _ (by rw [hsz]; omega)) hnew
       have hcell : w2.cell? ⟨w.heap.size, 5, none⟩ = some (.map (some mb)) := by simp [World.cell?, hbx])
    | (at_mapUpdate; refine Lm.wpList_mapUpdate_cache rfl _ _ _ 46 rfl 3 3 Tryz.underlying46 Tryz.underlying3 mb hm2 hok2 rfl n x rfl rfl hn hx ?_; intro w3 hs3 hk3 hm3)
    | go_in)
  · go_ret
    exact ⟨rfl, hs1, fun j hj => Lm.vw_of (X.out j hj), .inl X.out⟩
  · go_ret
    refine ⟨rfl, (hs1.trans hs2).trans hs3, fun j hj => ?_, .inr ⟨w2, hR, hk3, ⟨es2, c2, hm2⟩, hm3⟩⟩
    have e1 : Lm.vw w2 j = Lm.vw w j := (hv2 j (by rw [hsz]; omega)).trans (Lm.vw_of (X.out j hj))
    by_cases hjm : j = mb
    · subst hjm
      obtain ⟨es', c', h1, _⟩ := hm3
      rw [← e1]
      simp only [Lm.vw, h1, hm2]
    · rw [← e1]
      exact Lm.vw_of (hk3 j hjm)
abbrev TrP : Lm.Prot := fun _ _ _ _ => True
/-- What a cache's owner tells holds, if what it asks tells so. -/
theorem good_cache {T' : Nat → List Lm.SVal → Option Lm.Res} (he : Lm.EnterOk Tryz.prog 28) (hT : ∀ f a r, T' f a = some r → Lm.Good Tryz.prog H f a r) {args : List Lm.SVal} {r : Lm.Res} (h : Lm.primCache 50 T' args = some r) : Lm.Good Tryz.prog H 28 args r := by
  unfold Lm.primCache at h
  split at h
  rotate_left; · cases h
  rename_i a b c d e ds n
  obtain ⟨rr, hrr, h⟩ := Option.bind_eq_some_iff.1 h
  split at h
  rotate_left; · cases h
  rename_i x hrx
  split at h
  rotate_left; · cases h
  rename_i hnx
  obtain ⟨hn, hdx⟩ := hnx
  cases h
  have hg := hT _ _ _ hrr
  have hp1 : (H 28).params = [.agg [.slc, .slc, .slc, .slc, .slc, .plain], .plain] := by kernel_rfl
  have hr1 : (H 28).res = .plain := by kernel_rfl
  have hb1 : (H 28).back = false := by kernel_rfl
  have hp2 : (H 50).params = [.agg [.slc, .slc, .slc, .slc, .slc, .plain], .plain] := by kernel_rfl
  have hr2 : (H 50).res = .plain := by kernel_rfl
  have hg1 : Lm.isGen H 28 = false := by unfold Lm.isGen; rw [hp1]; rfl
  have hg2 : Lm.isGen H 50 = false := by unfold Lm.isGen; rw [hp2]; rfl
  refine ⟨he, fun K O l J Jx vals bss w hk hO hx hnd hfr hJ hJx hgen => ?_⟩
  rw [hp1] at hx
  match vals, bss, hx with
  | [], _, hx => simp [Lm.XL] at hx
  | [_], [], hx => simp [Lm.XL] at hx
  | [_], [_], hx => simp [Lm.XL] at hx
  | [_], _ :: _ :: _, hx => simp [Lm.XL] at hx
  | _ :: _ :: _ :: _, [], hx => simp [Lm.XL] at hx
  | _ :: _ :: _ :: _, [_], hx => simp [Lm.XL] at hx
  | _ :: _ :: _ :: _, _ :: _ :: _, hx => simp [Lm.XL] at hx
  | [_, _], [], hx => simp [Lm.XL] at hx
  | [_, _], [_], hx => simp [Lm.XL] at hx
  | [_, _], _ :: _ :: _ :: _, hx => simp [Lm.XL] at hx
  | [v0, v1], [c0, c1], hx =>
    have hxall := hx
    simp only [Lm.XL, Lm.XS, Lm.XS0, Lm.XSs, and_true] at hx
    obtain ⟨⟨cs, vs, e1, rfl, h1⟩, rfl, hv1⟩ := hx
    cases e1
    obtain ⟨_, _, va, _, _, _, e1, rfl, rfl, ⟨rfl, ha⟩, h1⟩ := h1
    cases e1
    obtain ⟨_, _, vb, _, _, _, e1, rfl, rfl, ⟨rfl, hb⟩, h1⟩ := h1
    cases e1
    obtain ⟨_, _, vc, _, _, _, e1, rfl, rfl, ⟨rfl, hc⟩, h1⟩ := h1
    cases e1
    obtain ⟨_, _, vd, _, _, _, e1, rfl, rfl, ⟨rfl, hd⟩, h1⟩ := h1
    cases e1
    obtain ⟨_, _, ve, _, _, _, e1, rfl, rfl, ⟨rfl, hv⟩, h1⟩ := h1
    cases e1
    obtain ⟨_, _, vm, _, _, _, e1, rfl, rfl, ⟨rfl, hm⟩, h1⟩ := h1
    cases e1
    obtain ⟨_, rfl, rfl⟩ := h1
    simp only [Lm.VR] at hm hv1
    obtain ⟨mb, rfl, hkm⟩ := hm
    subst hv1
    obtain ⟨_, es, cl, hmap, hok⟩ := hk mb 0 _ hkm
    rw [if_pos rfl] at hok
    have hmb := (hk mb 0 _ hkm).lt
    have hdx' : ((ds.map (Value.int .i64)).toArray)[n.toNat]? = some (.int .i64 x) := by simp [hdx]
    have key := delegate_walk va vb vc vd ve mb n x _ w hmb hmap hok hn hdx' (fun w2 => ∃ K2 : Lm.Kt, Lm.Kok K2 w2 ∧ K.le K2 ∧ ∀ b o u, b < w.heap.size → K2 b o = some u → K b o = some u) (fun w1 hs hh => by
      have hk1 : Lm.Kok K w1 := fun b o v hv => (hk b o v hv).of_heap (hh b (hk b o v hv).lt)
      have hXL := Lm.XL_l (w' := w1) (Lm.Kt.le.refl K) hxall (fun b hb => by simp at hb)
      rw [← hp2] at hXL
      refine (hg.2 K (fun b => b < w1.heap.size) l TrP TrP _ _ w1 hk1 (fun b h => h) hXL (by simp) (by simp) (fun _ _ _ _ _ _ _ _ _ => trivial) (fun _ _ _ _ _ _ _ _ _ => trivial) (fun h => by rw [hg2] at h; cases h)).mono ?_
      rintro e' w2 ⟨v, K2, rfl, k1, k2, k3, k4, k5, k6⟩
      obtain ⟨bs, bk, ov, k7, _⟩ := k6.resolve_right fun h => by rw [hg2] at h; cases h.1
      rw [hr2, hrx] at k7
      simp only [Lm.XS, Lm.XS0, Lm.VR] at k7
      obtain ⟨_, rfl⟩ := k7
      obtain ⟨_, es2, cl2, q1, q2⟩ := k1 mb 0 _ (k2 _ _ _ hkm)
      rw [if_pos rfl] at q2
      exact ⟨rfl, k4, k5, ⟨es2, cl2, q1, q2⟩, K2, k1, k2, fun b o u hb hu => k3 b o u (Nat.lt_of_lt_of_le hb hs.size) hu⟩)
    refine Calls.mono key ?_
    rintro e' w' ⟨rfl, hsame, hfrm, hcase⟩
    have fin : ∀ K' : Lm.Kt, Lm.Kok K' w' → K.le K' → (∀ b o u, O b → K' b o = some u → K b o = some u) → Lm.GoodPost Tryz.prog H 28 { r := .int .i64 x } K O l J Jx [.agg #[va, vb, vc, vd, ve, .map (some mb)], .int .i64 n] [[], []] w (.returned (.int .i64 x)) w' := fun K' q1 q2 q3 => by
      refine ⟨_, K', rfl, q1, q2, q3, hsame, fun b hb => hfrm b (hO b hb), .inl ⟨[], [], [], ?_, by simp, by simp, fun h => ?_, fun _ => rfl, fun h => ?_⟩⟩
      · rw [hr1]; simp [Lm.XS, Lm.XS0, Lm.VR]
      · rw [hb1] at h; cases h
      · rw [hg1] at h; cases h
    rcases hcase with hsm | ⟨w2, ⟨K2, k1, k2, k3⟩, hoth, ⟨es2, cl2, hm2⟩, es', c', hm', hok'⟩
    · exact fin K (fun b o v hv => (hk b o v hv).of_heap (hsm b (hk b o v hv).lt)) (fun _ _ _ h => h) (fun _ _ _ _ h => h)
    · refine fin K2 (fun b o v hv => ?_) k2 (fun b o u hb hu => k3 b o u (hO b hb) hu)
      have hkat := k1 b o v hv
      by_cases hbm : b = mb
      · subst hbm
        by_cases hmk : Lm.isMk v = true
        · cases v <;> first | (simp [Lm.isMk] at hmk; done) | skip
          obtain ⟨rfl, _⟩ := hkat
          have e2 := k2 _ _ _ hkm
          rw [hv] at e2
          cases e2
          exact ⟨rfl, es', c', hm', by rw [if_pos rfl]; exact hok'⟩
        · have := hkat.cell (by simpa using hmk)
          simp [World.cell?, hm2] at this
      · exact hkat.of_heap (hoth b hbm)
end Go.Proofs.YtcdnmiaelaombaaGreat.K
