/- A part of the proof. -/
import Derived.Test.YtcdnmiaelaombaaGreatLmBB
import Derived.Great.FillDense
set_option linter.unusedVariables false
set_option linter.unusedSimpArgs false
set_option linter.unnecessarySimpa false
set_option linter.all false
section
namespace Go.Lm
section
variable {P : Program} {c : Ctx} {K : Kt} {G : Gt} {ov : List Value} {ds : List Nat} {st : St} {a : Act} {w : World}
theorem VRs.take {l : Nat} {xs : List SVal} {vs : List Value} (h : VRs K l xs vs) (n : Nat) : VRs K l (xs.take n) (vs.take n) :=
  VRs.of_get (by simp [h.length]) fun j x v h1 h2 => by
    rw [List.getElem?_take] at h1 h2
    split at h1
    · rename_i hj
      rw [if_pos hj] at h2
      obtain ⟨u, hu, h3⟩ := h.get h1
      rw [hu] at h2; cases h2; exact h3
    · cases h1
theorem VRs.drop {l : Nat} {xs : List SVal} {vs : List Value} (h : VRs K l xs vs) (n : Nat) : VRs K l (xs.drop n) (vs.drop n) :=
  VRs.of_get (by simp [h.length]) fun j x v h1 h2 => by
    rw [List.getElem?_drop] at h1 h2
    obtain ⟨u, hu, h3⟩ := h.get h1
    rw [hu] at h2; cases h2; exact h3
theorem VRs.setAt {l : Nat} {cs new : List SVal} {vs us : List Value} (h : VRs K l cs vs) (h' : VRs K l new us) (off : Nat) : VRs K l (setAt cs off new) (vs.take off ++ us ++ vs.drop (off + us.length)) := by
  unfold Lm.setAt
  rw [h'.length]
  exact ((h.take off).append h').append (h.drop _)
theorem cells_agg (vs : Array Value) : (Value.agg vs).cells = vs := rfl
/-- An element of an own row is written. -/
theorem setElem_sound {l : Nat} {sz off : Nat} {e : SVal} {v : Value} (he : VR K l e v) (hsz : v.cells.size = sz) (hone : ∀ u ∈ v.cells, u.oneCell' = true) {new : List SVal} {us : List Value} (hn : VRs K l new us)
    (hus : ∀ u ∈ us, u.oneCell' = true) (hfit : off + new.length ≤ sz) (hag : (aggE e || new.length == 1) = true) :
    ∃ v', VR K l (setElem (aggE e) sz off new e) v' ∧ v'.cells.toList = v.cells.toList.take off ++ us ++ v.cells.toList.drop (off + us.length) ∧ v'.cells.size = sz ∧ ∀ u ∈ v'.cells, u.oneCell' = true := by
  have hl := hn.length
  unfold setElem
  cases hA : aggE e with
  | true =>
    simp only [if_true]
    have hcs : ∃ cs, e = .agg cs := by
      unfold aggE at hA; split at hA
      · exact ⟨_, rfl⟩
      · cases hA
    obtain ⟨cs, rfl⟩ := hcs
    have h1 := elem_cells he hsz
    simp only [hA, elemCells, if_true] at h1
    refine ⟨.agg (v.cells.toList.take off ++ us ++ v.cells.toList.drop (off + us.length)).toArray, ?_, by simp [cells_agg], by simp [cells_agg]; omega, ?_⟩
    · simp only [VR]
      exact ⟨_, rfl, h1.setAt hn off⟩
    · intro u hu
      simp only [cells_agg, List.mem_toArray, List.mem_append] at hu
      rcases hu with (hu | hu) | hu
      · exact hone u (by simpa using List.mem_of_mem_take hu)
      · exact hus u hu
      · exact hone u (by simpa using List.mem_of_mem_drop hu)
  | false =>
    rw [hA] at hag
    have h1 : new.length = 1 := by simpa using hag
    have hv : v.cells = #[v] := cells_of_notAgg fun cs hc => by
      subst hc
      cases e <;> simp [VR, aggE, Go.undef] at he hA
    have hs1 : sz = 1 := by rw [← hsz, hv]; rfl
    match new, us, hn, h1 with
    | [x], us, hn, _ =>
      simp only [VRs] at hn
      obtain ⟨u, _, rfl, hx, rfl⟩ := hn
      have hu1 := cells_of_one (hus u (by simp))
      have : off = 0 := by simp at hfit; omega
      subst this
      refine ⟨u, by simpa using hx, by rw [hu1, hv]; simp, by rw [hu1, hs1]; rfl, fun y hy => ?_⟩
      rw [hu1] at hy
      simp at hy; subst hy
      exact hus _ (by simp)
theorem take_drop_get {α : Type} (xs new : List α) (o : Nat) (ho : o + new.length ≤ xs.length) (k : Nat) :
    (xs.take o ++ new ++ xs.drop (o + new.length))[k]? = if o ≤ k ∧ k < o + new.length then new[k - o]? else xs[k]? := by
  by_cases h1 : k < o
  · rw [if_neg (by omega), List.append_assoc, List.getElem?_append_left (by simp; omega), List.getElem?_take, if_pos h1]
  · by_cases h2 : k < o + new.length
    · rw [if_pos ⟨by omega, h2⟩, List.append_assoc, List.getElem?_append_right (by simp; omega), List.getElem?_append_left (by simp; omega)]
      congr 1; simp; omega
    · rw [if_neg (by omega), List.getElem?_append_right (by simp; omega), List.getElem?_drop]
      congr 1; simp; omega
/-- A place of an own row is written. -/
theorem OwnR.set {l : Nat} {sz : Nat} {xs : List SVal} {v : Value} {blk : Nat} {bs : List Nat} (h : OwnR K l w sz xs v blk bs) {idx off : Nat} {e : SVal} (he : xs[idx]? = some e) {new : List SVal} {us : List Value} (hn : VRs K l new us)
    (hus : ∀ u ∈ us, u.oneCell' = true) (hfit : off + new.length ≤ sz) (hag : (aggE e || new.length == 1) = true) :
    bs = [blk] ∧ ∃ arr ty, w.heap[blk]? = some (.cells arr ty (0, 0)) ∧ idx * sz + off + us.length ≤ arr.size ∧
      OwnR K l (w.setRow blk (arr.toList.take (idx * sz + off) ++ us ++ arr.toList.drop (idx * sz + off + us.length)).toArray) sz (xs.set idx (setElem (aggE e) sz off new e)) v blk bs := by
  obtain ⟨hp, ho⟩ := h
  rcases ho with ⟨rfl, _⟩ | ⟨hb, arr, ty, cap, hcp, h1, h2, h3, h4, h5⟩
  · simp at he
  · have hidx : idx < xs.length := (List.getElem?_eq_some_iff.1 he).1
    have hul := hn.length
    have hm : (idx + 1) * sz ≤ cap * sz := Nat.mul_le_mul_right _ (by omega)
    rw [Nat.add_mul, Nat.one_mul] at hm
    have hfit2 : idx * sz + off + us.length ≤ arr.size := by omega
    refine ⟨hb, arr, ty, h1, hfit2, hp, .inr ⟨hb, _, ty, cap, hcp, setRow_heap w blk _ _ ty (0, 0) h1, by simpa using h2, by simp; omega, by simpa using h4, fun j x hj => ?_⟩⟩
    have hget : ∀ k, (arr.toList.take (idx * sz + off) ++ us ++ arr.toList.drop (idx * sz + off + us.length)).toArray[k]? = if idx * sz + off ≤ k ∧ k < idx * sz + off + us.length then us[k - (idx * sz + off)]? else arr[k]? := fun k => by
      rw [List.getElem?_toArray, take_drop_get _ _ _ (by simpa using hfit2)]
      simp
    by_cases hj' : j = idx
    · subst hj'
      rw [List.getElem?_set_self hidx] at hj
      cases hj
      obtain ⟨v0, k1, k2, k3, k4⟩ := h5 j e he
      obtain ⟨v', q1, q2, q3, q4⟩ := setElem_sound k1 k2 k3 hn hus hfit hag
      refine ⟨v', q1, q3, q4, fun q u hq => ?_⟩
      have hq' : v'.cells.toList[q]? = some u := by simpa using hq
      rw [q2, take_drop_get _ _ _ (by simp; omega)] at hq'
      rw [hget]
      split at hq'
      · rename_i hc
        rw [if_pos (by omega), ← hq']
        congr 1; omega
      · rename_i hc
        rw [if_neg (by omega)]
        exact k4 q u (by simpa using hq')
    · rw [List.getElem?_set_ne (Ne.symm hj')] at hj
      obtain ⟨v0, k1, k2, k3, k4⟩ := h5 j x hj
      refine ⟨v0, k1, k2, k3, fun q u hq => ?_⟩
      have hq1 : q < sz := by rw [← k2]; exact (Array.getElem?_eq_some_iff.1 hq).1
      rw [hget, if_neg]
      · exact k4 q u hq
      · rintro ⟨c1, c2⟩
        rcases Nat.lt_or_gt_of_ne hj' with hlt | hgt
        · have : (j + 1) * sz ≤ idx * sz := Nat.mul_le_mul_right _ hlt
          rw [Nat.add_mul, Nat.one_mul] at this
          omega
        · have : (idx + 1) * sz ≤ j * sz := Nat.mul_le_mul_right _ hgt
          rw [Nat.add_mul, Nat.one_mul] at this
          omega
theorem exps_none (hs : Sim c K G ov ds st a w) {ivs : List IVal} {r : List (SVal × List Nat)} (h : mapO (exps st.loc 6) ivs = some r) (hr : (r.flatMap (·.2)).all (fun j => !(st.loc j).live) = true) {vs : List Value} (hv : IRs K c.l st.loc G ivs vs) : VRs K c.l (r.map (·.1)) vs := by
  refine VRs.of_get (by simp [hv.length, mapO_len h]) fun j x v hx hvj => ?_
  simp only [List.getElem?_map, Option.map_eq_some_iff] at hx
  obtain ⟨q, hq, rfl⟩ := hx
  obtain ⟨z, hz, hf⟩ := mapO_get' h hq
  obtain ⟨v', hv', hir⟩ := hv.get hz
  rw [hvj] at hv'; cases hv'
  exact exps_sound (Kt.le.refl _) hs.objs 6 z q.1 q.2 v hf hir fun i hi g _ hl => by
    have := List.all_eq_true.1 hr i (List.mem_flatMap.2 ⟨q, List.mem_of_getElem? hq, hi⟩)
    simp [hl] at this
theorem op_store (hs : Sim c K G ov ds st a w) {o : Oper} (hd : dstOk c.nt o.dst = true) {id : Nat} {H : Nat → FH} {T : Nat → List SVal → Option Res} {t : Nat} {x y : Operand} (ho : o.op = .store t x y) {u : Upd}
    (h : opC P H T st id o some = some u) : OpOk P c ov ds st G id o u a w := by
  simp only [opC, ho] at h
  split at h
  · rename_i i ver idx off hx
    split at h
    · rename_i cs hl
      obtain ⟨new, k1, h⟩ := Option.bind_eq_some_iff.1 h
      split at h
      · rename_i hc
        split at h
        · rename_i hone
          cases h
          obtain ⟨rfl, rfl, hfit⟩ := hc
          exact op_store_box hs hd ho hx hl k1 hfit hone
        · cases h
      · cases h
    · rename_i ver' sz xs hl
      obtain ⟨new, k1, h⟩ := Option.bind_eq_some_iff.1 h
      obtain ⟨r, k2, h⟩ := Option.bind_eq_some_iff.1 h
      obtain ⟨e, k3, h⟩ := Option.bind_eq_some_iff.1 h
      split at h
      rotate_left; · cases h
      rename_i hek
      rw [← elemOk_agg hek] at h
      split at h
      · rename_i hc
        split at h
        · rename_i hok
          cases h
          obtain ⟨hfit, hni, rfl, hag⟩ := hc
          have h1 := ev_sound (P := P) hs o.type x
          rw [hx] at h1
          simp only [IR] at h1
          obtain ⟨_, g, hg, hv, hval⟩ := h1
          obtain ⟨q1, q2, q3, q4⟩ := cellsI_one k1 hok (ev_sound (P := P) hs t y)
          obtain ⟨d, inf, _, hi⟩ := tyOk_spec q3
          obtain ⟨hcl, hvs⟩ := exps_list hs k2 q1
          have hrl : (r.map (·.1)).length = new.length := by simp [mapO_len k2]
          have hs1 := hs.freeze _ hcl
          have hwr : ∀ ob, updL st.loc (frzL st.loc (r.flatMap (·.2)) ++ [(i, ob)]) = upd (frzS st.loc (r.flatMap (·.2))) i ob := fun ob => by rw [updL_append, updL_frzL]; rfl
          generalize hids : r.flatMap (·.2) = ids at *
          generalize hK1 : frzK K G st.loc ids w = K1 at *
          have hni' : i ∉ ids := by simpa using hni
          have hl1 : frzS st.loc ids i = .arr ver sz xs := by rw [← hl]; exact if_neg hni'
          have hlive : (frzS st.loc ids i).live = true := by simp [hl1, Obj.live]
          have hor := hs1.objs i g hg
          rw [show ({ st with loc := frzS st.loc ids } : St).loc i = .arr ver sz xs from hl1] at hor
          obtain ⟨htop, hown⟩ := hor
          obtain ⟨hb, arr, ty, r1, r2, r3⟩ := hown.set k3 hvs (fun u hu => q4 u (by simpa using hu)) (by rw [hrl]; exact hfit) (by rw [hrl]; exact hag)
          have hlen : new.length = (a.eval y).cells.size := by rw [← q1.length]; simp
          have hrun := run_storeAt (P := P) hi r1 (o := idx * sz + off) (v := a.eval y) (by rw [← hlen, q2]) (by simpa using r2) q4
          have hev : a.eval x = .pointer (some ⟨g.blk, idx * sz + off, none⟩) := by rw [hval (by simp [hl, Obj.ver?])]; simp [hl, Obj.stride]
          have hlt : g.blk < w.heap.size := (Array.getElem?_eq_some_iff.1 r1).1
          have h4 := hs1.obj1 i (.arr ver sz (xs.set idx (setElem (aggE e) sz off (r.map (·.1)) e))) g _ (by
              intro g0 hg0
              rw [hg] at hg0; cases hg0
              exact ⟨Nat.le_refl _, fun ver _ h => ⟨by show (frzS st.loc ids i).ver? = _; rw [hl1]; exact h, rfl, rfl, by show _ = (frzS st.loc ids i).stride; rw [hl1]; rfl⟩⟩)
            (SameW.setRow w g.blk (arr.toList.take (idx * sz + off) ++ (a.eval y).cells.toList ++ arr.toList.drop (idx * sz + off + (a.eval y).cells.size)).toArray)
            (fun b hb' hnb => setRow_other w g.blk b _ fun he => hnb g hg hlive (by simp [hb, he]))
            ⟨htop, by simpa using r3⟩
            (fun _ => ⟨by simp [hb], fun b hb' => ⟨by simp [hb] at hb'; subst hb'; simpa using hlt, .inl ⟨g, hg, hlive, hb'⟩⟩⟩)
          have h5 := h4.put o.dst (.v .un) Go.undef hd (by simp [IR, VR])
          have hGi : upd G i (some g) = G := by
            funext j
            by_cases hj : j = i
            · subst hj; rw [upd_same, hg]
            · rw [upd_other _ _ hj]
          rw [hGi] at h5
          refine ⟨Go.undef, _, K1, G, .inr ⟨exec_store ho (by rw [hev]; exact hrun), rfl⟩, ?_, fun i h => .inl h⟩
          have : ∀ ob rd, st.apply o.dst { wr := frzL st.loc ids ++ [(i, ob)], rd := rd } = { st with loc := upd (frzS st.loc ids) i ob }.put o.dst (.v .un) := fun ob rd => by
            rw [← hwr ob]; cases o.dst <;> rfl
          rw [this]; exact h5
        · cases h
      · cases h
    · cases h
  · cases h
/-! ### A tail is cleared -/
theorem zeroEl_spec {t : Nat} (h : zeroEl P t = true) : isSliceT P t = true ∧ ∃ i, P.info? (elemT P t) = some i ∧ i.zero = some (.int .i64 0) ∧ i.size = 1 := by
  unfold zeroEl at h
  simp only [Bool.and_eq_true] at h
  obtain ⟨h1, h2⟩ := h
  refine ⟨h1, ?_⟩
  split at h2
  · rename_i i hi
    split at h2
    · rename_i hz; exact ⟨i, hi, hz, by simpa using h2⟩
    · cases h2
  · cases h2
theorem zeros_list (m : Nat) : (Builtin.zeroCells #[.int .i64 0] m).toList = List.replicate m (.int .i64 0) := by
  apply List.ext_getElem?
  intro k
  by_cases hk : k < m
  · simp [Builtin.zeroCells, hk, Nat.mod_one]
  · simp [Builtin.zeroCells, hk]
theorem OwnR.cleared {l : Nat} {xs : List SVal} {v : Value} {blk : Nat} {bs : List Nat} (h : OwnR K l w 1 xs v blk bs) {lo : Nat} (hlo : lo ≤ xs.length) {t ty : Nat} (ht : zeroEl P t = true) :
    ∃ w', (Builtin.clear_ #[t] ty #[tailV 1 lo v]).run P w = .ok (.tuple #[]) w' ∧ SameW w w' ∧ (∀ b, b ∉ bs → w'.heap[b]? = w.heap[b]?) ∧ (∀ b ∈ bs, b < w'.heap.size ∧ b < w.heap.size) ∧ bs.Nodup ∧
      OwnR K l w' 1 (xs.take lo ++ List.replicate (xs.length - lo) (.int .i64 0)) v blk bs := by
  obtain ⟨hsl, i, hi, hz, hs1⟩ := zeroEl_spec ht
  have hu := isSliceT_spec hsl
  obtain ⟨hp, ho⟩ := h
  rcases ho with ⟨rfl, rfl, A, rfl⟩ | ⟨rfl, arr, t', cap, hcp, h1, rfl, h3, h4, h5⟩
  · refine ⟨w, ?_, SameW.refl _, fun _ _ => rfl, by simp, List.nodup_nil, hp, .inl ⟨by simp, rfl, A, rfl⟩⟩
    have h0 : lo = 0 := by simpa using hlo
    subst h0
    cases A <;> simp [Builtin.clear_, tailV, run_underlying hu]
  · have hb := (Array.getElem?_eq_some_iff.1 h1).1
    by_cases hn : xs.length - lo = 0
    · have hl : lo = xs.length := by omega
      refine ⟨w, ?_, SameW.refl _, fun _ _ => rfl, fun b hb' => by simp at hb'; subst hb'; exact ⟨hb, hb⟩, by simp, hp, .inr ⟨rfl, arr, t', cap, hcp, h1, ?_, h3, ?_, ?_⟩⟩
      · simp only [tailV, hn]
        generalize (if cap = lo then some (⟨blk, 0, none⟩ : Addr) else (some (⟨blk, 0, none⟩ : Addr)).map (·.add (lo * 1))) = A
        cases A <;> simp [Builtin.clear_, run_underlying hu]
      · rw [hn, hl]; simp
      · rw [hn, hl]; simpa using h4
      · rw [hn, hl]; simpa using h5
    · have hlt : lo < xs.length := by omega
      have hc : ¬ cap = lo := by omega
      have hst := run_storeCells_at (P := P) blk lo t' (List.replicate (xs.length - lo) (.int .i64 0)) 0 arr w h1 (by simp; omega) (fun u hu => by rw [(List.mem_replicate.1 hu).2]; rfl)
      simp only [Nat.add_zero, List.length_replicate] at hst
      obtain ⟨d, hd⟩ : ∃ d, xs.length - lo = d + 1 := ⟨xs.length - lo - 1, by omega⟩
      have key : ∀ na : Array Value, na = (arr.toList.take lo ++ List.replicate (xs.length - lo) (Value.int .i64 0) ++ arr.toList.drop (lo + (xs.length - lo))).toArray →
          ∃ w', (Builtin.clear_ #[t] ty #[tailV 1 lo (.slice (some ⟨blk, 0, none⟩) xs.length cap)]).run P w = .ok (.tuple #[]) w' ∧ w' = w.setRow blk na := fun na hna => by
        refine ⟨w.setRow blk na, ?_, rfl⟩
        rw [← hna] at hst
        have e : tailV 1 lo (.slice (some ⟨blk, 0, none⟩) xs.length cap) = .slice (some ⟨blk, lo, none⟩) (d + 1) (cap - lo) := by
          simp [tailV, hc, Addr.add, hd]
          try omega
        rw [e]
        rw [hd] at hst
        simp [Builtin.clear_, run_underlying hu, zeroValue, typeInfo, hi, hz, Value.cells, zeros_list, hst]
      obtain ⟨na, hna⟩ : ∃ na : Array Value, na = (arr.toList.take lo ++ List.replicate (xs.length - lo) (Value.int .i64 0) ++ arr.toList.drop (lo + (xs.length - lo))).toArray := ⟨_, rfl⟩
      obtain ⟨w', hr, hw'⟩ := key na hna
      subst hw'
      refine ⟨_, hr, SameW.setRow w blk na, fun b hb' => setRow_other w blk b na fun he => hb' (by simp [he]), fun b hb' => ?_, by simp, hp, .inr ⟨rfl, na, t', cap, hcp, setRow_heap w blk _ _ t' (0, 0) h1, ?_, ?_, ?_, ?_⟩⟩
      · simp at hb'; subst hb'; exact ⟨by simpa using hb, hb⟩
      · have : (xs.take lo ++ List.replicate (xs.length - lo) (SVal.int .i64 0)).length = xs.length := by simp; omega
        rw [this]
      · rw [hna]; simp; omega
      · simp; omega
      · intro j x hj
        have hget : ∀ k, (arr.toList.take lo ++ List.replicate (xs.length - lo) (Value.int .i64 0) ++ arr.toList.drop (lo + (xs.length - lo))).toArray[k]? = if lo ≤ k ∧ k < lo + (xs.length - lo) then (List.replicate (xs.length - lo) (Value.int .i64 0))[k - lo]? else arr[k]? := fun k => by
          have := take_drop_get arr.toList (List.replicate (xs.length - lo) (Value.int .i64 0)) lo (by simp; omega) k
          simp only [List.length_replicate] at this
          rw [List.getElem?_toArray, this]
          simp
        rw [← hna] at hget
        by_cases hjl : j < lo
        · rw [List.getElem?_append_left (by simp; omega), List.getElem?_take, if_pos hjl] at hj
          obtain ⟨u, k1, k2, k3, k4⟩ := h5 j x hj
          refine ⟨u, k1, k2, k3, fun q y hq => ?_⟩
          have hq0 : q < 1 := by rw [← k2]; exact (Array.getElem?_eq_some_iff.1 hq).1
          rw [hget, if_neg (by omega)]
          exact k4 q y hq
        · rw [List.getElem?_append_right (by simp; omega), List.getElem?_replicate] at hj
          split at hj
          · rename_i hj2
            cases hj
            simp at hj2
            refine ⟨.int .i64 0, by simp [VR], by simp [Value.cells], by simp [Value.cells, Value.oneCell'], fun q u hq => ?_⟩
            have hq0 : q = 0 ∧ u = .int .i64 0 := by
              simp only [Value.cells] at hq
              cases q with
              | zero => simp at hq; exact ⟨rfl, hq.symm⟩
              | succ q => simp at hq
            obtain ⟨rfl, rfl⟩ := hq0
            rw [hget, if_pos (by omega), List.getElem?_replicate, if_pos (by omega)]
          · cases hj
theorem op_clear (hs : Sim c K G ov ds st a w) {o : Oper} (hd : dstOk c.nt o.dst = true) {id : Nat} {H : Nat → FH} {T : Nat → List SVal → Option Res} {cl : Call} (ho : o.op = .call cl) (hc : cl.callee = .builtin .clear) {u : Upd}
    (h : opC P H T st id o some = some u) : OpOk P c ov ds st G id o u a w := by
  simp only [opC, ho, hc] at h
  split at h
  · cases h
  · rename_i hok
    have hsl : cl.argTypes.size = cl.args.size := by
      by_cases h2 : cl.argTypes.size = cl.args.size
      · exact h2
      · simp_all
    have he := evs_sound (P := P) hs cl.argTypes cl.args
    split at h
    · rename_i i ver lo hx
      rw [hx] at he
      obtain ⟨v, h1, h2⟩ := he.one
      have hn : cl.args.size = 1 := by simpa using evs_len hx
      split at h
      · rename_i ver' sz xs hl
        split at h
        rotate_left; · cases h
        rename_i hcc
        obtain ⟨rfl, rfl, hz⟩ := hcc
        split at h
        · rename_i hlo
          cases h
          simp only [IR] at h2
          obtain ⟨_, g, hg, hv1, hval⟩ := h2
          have hval := hval (by simp [hl, Obj.ver?])
          have hor := hs.objs i g hg
          rw [hl] at hor
          obtain ⟨htop, hown⟩ := hor
          have hlive : (st.loc i).live = true := by simp [hl, Obj.live]
          obtain ⟨w', r1, r2, r3, r4, r5, r6⟩ := hown.cleared hlo hz (ty := o.type)
          refine OpOk.turn hs hd (.inl (by rw [hg]; simp)) _ _ _ g w' (.tuple #[]) ?_ r2 ?_ ?_ ?_ ?_ (exec_builtin (n := .value (.tuple #[])) ho hc ?_)
          · intro g0 hg0
            rw [hg] at hg0; cases hg0
            exact ⟨Nat.le_refl _, fun ver2 _ hv2 => ⟨by rw [hl]; exact hv2, rfl, rfl, by rw [hl]; rfl⟩⟩
          · exact fun b hb hnb => r3 b (hnb g hg hlive)
          · intro loc' G' _
            exact ⟨htop, r6⟩
          · exact fun _ => ⟨r5, fun b hb => ⟨(r4 b hb).1, .inl ⟨g, hg, hlive, hb⟩⟩⟩
          · intro loc' G' _ hG' hl'
            simp only [IR]
            exact ⟨[], rfl, by simp [IRs]⟩
          · rw [args1 h1, types1 (hsl.trans hn), hval]
            have e : (st.loc i).stride = 1 := by rw [hl]; rfl
            rw [e]
            simp only [builtin, Sem.run_bind, r1, Result.andThen_ok, Sem.run_pure]
        · cases h
      · cases h
    · cases h
/-! ### Values built -/
theorem foldl_setAt (off : Nat) (new cs : Array Value) (h : off + new.size ≤ cs.size) : new.zipIdx.foldl (fun cs (x : Value × Nat) => cs.setIfInBounds (off + x.2) x.1) cs = (cs.toList.take off ++ new.toList ++ cs.toList.drop (off + new.size)).toArray := by
  obtain ⟨h1, h2⟩ := Great.foldl_set off new.toList 0 cs
  rw [← Array.foldl_toList, Array.toList_zipIdx]
  apply Array.ext_getElem?
  intro k
  have := take_drop_get cs.toList new.toList off (by simpa using h) k
  simp only [Array.length_toList] at this
  have e2 : (cs.toList.take off ++ new.toList ++ cs.toList.drop (off + new.size)).toArray[k]? = (cs.toList.take off ++ new.toList ++ cs.toList.drop (off + new.size))[k]? := by simp
  rw [h2 k, e2, this]
  simp only [Nat.add_zero, Array.length_toList]
  by_cases hc : off ≤ k ∧ k < off + new.size
  · rw [if_pos ⟨hc.1, hc.2, by omega⟩, if_pos hc]
  · rw [if_neg (by omega), if_neg hc]; simp
theorem fill_sound {l : Nat} {loc : Nat → Obj} {fs : Array Field} {places : List (Nat × Nat)} (hp : ∀ (i : Nat) (f : Field), fs[i]? = some f → places[i]? = some (f.offset, szT P f.type)) (st : St) (ρ : Operand → Value)
    (hρ : ∀ t x, IR K l loc G (ev P st t x) (ρ x)) : ∀ (parts : List (Nat × Operand)) (cs0 : List IVal) (cells : Array Value) (cs : List IVal), IRs K l loc G cs0 cells.toList →
    parts.foldl (fun acc p => acc.bind fun cs => (fs[p.1]?).bind fun f => (cellsI P f.type (ev P st f.type p.2)).bind fun new =>
        if f.offset + new.length ≤ cs.length ∧ (isAggT P f.type || allOne new) = true then some (setAt cs f.offset new) else none) (some cs0) = some cs →
    ∃ r, Instr.fill (places[·]?) cells (parts.map fun p => (p.1, ρ p.2)) = some r ∧ IRs K l loc G cs r.toList
  | [], cs0, cells, cs, h0, h => by cases h; exact ⟨cells, rfl, h0⟩
  | p :: parts, cs0, cells, cs, h0, h => by
    have hnone : ∀ (parts : List (Nat × Operand)), parts.foldl (fun acc p => acc.bind fun cs => (fs[p.1]?).bind fun f => (cellsI P f.type (ev P st f.type p.2)).bind fun new =>
        if f.offset + new.length ≤ cs.length ∧ (isAggT P f.type || allOne new) = true then some (setAt cs f.offset new) else none) (none : Option (List IVal)) = none := fun parts => by
      induction parts with
      | nil => rfl
      | cons q qs ih => simpa using ih
    simp only [List.foldl_cons, Option.bind_some] at h
    cases hf : fs[p.1]? with
    | none => rw [hf] at h; simp only [Option.bind_none] at h; rw [hnone] at h; cases h
    | some f =>
      rw [hf] at h
      simp only [Option.bind_some] at h
      cases hc : cellsI P f.type (ev P st f.type p.2) with
      | none => rw [hc] at h; simp only [Option.bind_none] at h; rw [hnone] at h; cases h
      | some new =>
        rw [hc] at h
        simp only [Option.bind_some] at h
        split at h
        · rename_i hok
          have hx := hρ f.type p.2
          have hone : isAggT P f.type = false → (ρ p.2).cells = #[ρ p.2] := fun hag => by
            have hok := hok.2
            rw [hag, Bool.false_or] at hok
            have : new = [ev P st f.type p.2] := by
              unfold cellsI at hc
              split at hc
              · rw [if_neg (by simp [hag])] at hc
                split at hc
                · cases hc; rfl
                · cases hc
              · cases hc
            subst this
            exact cells_of_one (oneI_cell hx hok)
          obtain ⟨k1, k2, k3⟩ := cellsI_sound hc hx hone
          have hlen : (ρ p.2).cells.size = new.length := by simpa using k1.length
          have hl0 : cells.size = cs0.length := by simpa using h0.length
          have hset := foldl_setAt f.offset (ρ p.2).cells cells (by rw [hlen, hl0]; exact hok.1)
          obtain ⟨r, r1, r2⟩ := fill_sound hp st ρ hρ parts (setAt cs0 f.offset new) _ cs (by
            have := h0.setAt k1 f.offset
            simpa using this) h
          refine ⟨r, ?_, r2⟩
          simp only [List.map_cons]
          unfold Instr.fill
          simp only [hp p.1 f hf]
          rw [if_neg (by simp; rw [hlen, hl0]; exact ⟨k2, hok.1⟩), hset]
          simpa using r1
        · rw [hnone] at h; cases h
theorem exec_build {o : Oper} {t : Nat} {parts : Array (Nat × Operand)} (ho : o.op = .build t parts) {v : Value} (h : (Instr.build t (parts.map fun (i, x) => (i, a.eval x))).run P w = .ok v w) : (execOp a.eval o).run P w = .ok (.value v) w := by
  simp [execOp, ho, h]
theorem mapM_places : ∀ {fs : List Field}, fs.all (fun f => (P.info? f.type).isSome) = true → fs.mapM (fun f => (P.info? f.type).map fun i => (f.offset, i.size)) = some (fs.map fun f => (f.offset, szT P f.type))
  | [], _ => by simp
  | f :: fs, h => by
    simp only [List.all_cons, Bool.and_eq_true] at h
    obtain ⟨i, hi⟩ := Option.isSome_iff_exists.1 h.1
    simp [List.mapM_cons, hi, mapM_places h.2, szT]
theorem op_build (hs : Sim c K G ov ds st a w) {o : Oper} (hd : dstOk c.nt o.dst = true) {id : Nat} {H : Nat → FH} {T : Nat → List SVal → Option Res} {t : Nat} {parts : Array (Nat × Operand)} (ho : o.op = .build t parts) {u : Upd}
    (h : opC P H T st id o some = some u) : OpOk P c ov ds st G id o u a w := by
  simp only [opC, ho, buildC_eq] at h
  split at h
  · rename_i fs hu
    split at h
    · rename_i hok
      obtain ⟨cs, k1, h⟩ := Option.bind_eq_some_iff.1 h
      cases h
      obtain ⟨hz, hall⟩ := hok
      unfold zeroOk at hz
      split at hz
      · rename_i i hi
        split at hz
        · rename_i z hz'
          have h0 : IRs K c.l st.loc G (zeroCs P 8 t) z.cells.toList := relBs_sound hz
          obtain ⟨r, r1, r2⟩ := fill_sound (places := fs.toList.map fun f => (f.offset, szT P f.type)) (fun i f hf => by
            simp only [List.getElem?_map, Array.getElem?_toList, hf, Option.map_some]) st a.eval (fun t x => ev_sound hs t x) parts.toList _ z.cells cs h0 k1
          refine .pure hs hd (v := .agg r) (by simp only [IR]; exact ⟨r.toList, by simp, r2⟩) (exec_build ho (run_build w t _ r ?_))
          simp only [Program.built, hi, hu, hz', mapM_places hall]
          simpa using r1
        · cases hz
      · cases hz
    · cases h
  · cases h
end
end Go.Lm
end
section
namespace Go.Lm
section
variable {P : Program} {c : Ctx} {K : Kt} {G : Gt} {ov : List Value} {ds : List Nat} {st : St} {a : Act} {w : World}
theorem zip_range {α : Type} : ∀ (l : List (Nat × α)) (s : Nat), l.map (·.1) = List.range' s l.length → l = ((l.map (·.2)).zipIdx s).map fun x => (x.2, x.1)
  | [], _, _ => rfl
  | (i, x) :: l, s, h => by
    simp only [List.map_cons, List.length_cons, List.range'_succ, List.cons.injEq] at h
    obtain ⟨rfl, h⟩ := h
    have := zip_range l (i + 1) h
    simp only [List.map_cons, List.zipIdx_cons]
    rw [← this]
theorem exec_buildSlice {o : Oper} {t n : Nat} {parts : Array (Nat × Operand)} (ho : o.op = .buildSlice t n parts) {v : Value} {w' : World} (h : (Instr.buildSlice t n (parts.map fun (i, x) => (i, a.eval x))).run P w = .ok v w') : (execOp a.eval o).run P w = .ok (.value v) w' := by
  simp [execOp, ho, h]
theorem map_range0 {α : Type} (f : Nat → α) {n : Nat} (h : n = 0) : (Array.range n).map f = #[] := by
  subst h
  have e0 : Array.range 0 = #[] := rfl
  rw [e0]; simp
theorem run_buildSlice' (w : World) (t e : TypeId) (len : Nat) (parts : Array (Nat × Value)) (cells : Array Value) (ie : TypeInfo) (z : Value)
    (hu : P.underlying t = some (.slice e)) (hie : P.info? e = some ie) (hz : ie.zero = some z) (hsmall : ¬ len * ie.size > 2 ^ 24)
    (h : Instr.fill (fun i => some (i * ie.size, ie.size)) ((Array.range (len * ie.size)).map (z.cells[· % z.cells.size]!)) parts.toList = some cells) :
    (Instr.buildSlice t len parts).run P w = .ok (.slice (some ⟨w.heap.size, 0, none⟩) len len) (w.alloc (.cells cells e)) := by
  by_cases hpos : len * ie.size = 0
  · rw [map_range0 _ hpos] at h
    have hs2 : ¬ 16777216 < len * ie.size := by simpa using hsmall
    simp [Instr.buildSlice, run_underlying hu, sizeOf, typeInfo, hie, newRow]
    rw [if_neg hs2, if_pos hpos, map_range0 _ hpos, h]
    simp
  · exact run_buildSlice w t e len parts cells ie z hu hie hz hsmall hpos h
theorem OpOk.frozenTurn (hs : Sim c K G ov ds st a w) {o : Oper} (hd : dstOk c.nt o.dst = true) {id i : Nat} {ids : List Nat} (hcl : Closed st.loc ids) (hi : G i ≠ none ∨ (id ≤ i ∧ i < id + 32)) (ob : Obj) (iv : IVal) (rd : List Nat) (g : GO) (w' : World) (v : Value)
    (hG : ∀ g0, G i = some g0 → g0.top ≤ g.top ∧ ∀ ver, ver ≤ g0.top → ob.ver? = some ver → (frzS st.loc ids i).ver? = some ver ∧ g.val = g0.val ∧ g.blk = g0.blk ∧ ob.stride = (frzS st.loc ids i).stride)
    (hsame : SameW w w')
    (hkeep : ∀ b, b < w.heap.size → (∀ g, G i = some g → (frzS st.loc ids i).live = true → b ∉ g.bs) → w'.heap[b]? = w.heap[b]?)
    (hor : ∀ loc' G', Ext (frzS st.loc ids) G loc' G' → OR c.H (frzK K G st.loc ids w) c.l loc' G' w' g ob)
    (hbs : ob.live = true → g.bs.Nodup ∧ ∀ b ∈ g.bs, b < w'.heap.size ∧ ((∃ g, G i = some g ∧ (frzS st.loc ids i).live = true ∧ b ∈ g.bs) ∨ w.heap.size ≤ b))
    (hv : ∀ loc' G', Ext (frzS st.loc ids) G loc' G' → G' i = some g → loc' i = ob → IR (frzK K G st.loc ids w) c.l loc' G' iv v)
    (hrun : (execOp a.eval o).run P w = .ok (.value v) w') :
    OpOk P c ov ds st G id o { val := iv, wr := frzL st.loc ids ++ [(i, ob)], rd := rd } a w := by
  have ht := OpOk.turn (st := { st with loc := frzS st.loc ids }) (rd := rd) (hs.freeze ids hcl) hd hi ob iv g w' v hG hsame hkeep hor hbs hv hrun
  obtain ⟨v, w', K', G', h1, h2, h3⟩ := ht
  refine ⟨v, w', K', G', h1, ?_, h3⟩
  have e : st.apply o.dst { val := iv, wr := frzL st.loc ids ++ [(i, ob)], rd := rd } = ({ st with loc := frzS st.loc ids } : St).apply o.dst { val := iv, wr := [(i, ob)], rd := rd } := by
    cases o.dst <;> simp [St.apply, St.put, updL_append, updL_frzL]
  rw [e]; exact h2
theorem flat_size {sz : Nat} : ∀ {vals : List Value}, (∀ v ∈ vals, v.cells.size = sz) → (vals.flatMap fun v => v.cells.toList).length = vals.length * sz
  | [], _ => by simp
  | v :: vals, h => by
    rw [List.flatMap_cons, List.length_append, flat_size fun x hx => h x (by simp [hx])]
    have := h v (by simp)
    simp only [Array.length_toList, this, List.length_cons, Nat.succ_mul]; omega
theorem op_buildSlice (hs : Sim c K G ov ds st a w) {o : Oper} (hd : dstOk c.nt o.dst = true) {id : Nat} (hfr : G id = none) {H : Nat → FH} {T : Nat → List SVal → Option Res} {t n : Nat} {parts : Array (Nat × Operand)} (ho : o.op = .buildSlice t n parts) {u : Upd}
    (h : opC P H T st id o some = some u) : OpOk P c ov ds st G id o u a w := by
  simp only [opC, ho] at h
  split at h
  · rename_i hok
    obtain ⟨hrange, hbig, hpos, hsl, hz⟩ := hok
    obtain ⟨cs, k1, h⟩ := Option.bind_eq_some_iff.1 h
    obtain ⟨r, k2, h⟩ := Option.bind_eq_some_iff.1 h
    split at h
    · rename_i hone
      cases h
      have hlen : parts.toList.length = n := by simpa using congrArg List.length hrange
      have hir : IRs K c.l st.loc G (parts.toList.map fun p => ev P st (elemT P t) p.2) (parts.toList.map fun p => a.eval p.2) :=
        IRs.of_get (by simp) fun j x v h1 h2 => by
          simp only [List.getElem?_map, Option.map_eq_some_iff] at h1 h2
          obtain ⟨p, hp, rfl⟩ := h1
          obtain ⟨p', hp', rfl⟩ := h2
          rw [hp] at hp'; cases hp'
          exact ev_sound hs _ _
      have hcell : ∀ v ∈ parts.toList.map (fun p => a.eval p.2), v.cells.size = szE P t ∧ ∀ u ∈ v.cells, u.oneCell' = true := fun v hv => by
        obtain ⟨p, hp, rfl⟩ := List.mem_map.1 hv
        obtain ⟨j, hj⟩ := List.mem_iff_getElem?.1 hp
        obtain ⟨y, hy, hf⟩ := mapO_get k1 hj
        obtain ⟨q1, q2, q3, q4⟩ := cellsI_one hf (List.all_eq_true.1 hone y (List.mem_of_getElem? hy)) (ev_sound (P := P) hs (elemT P t) p.2)
        exact ⟨by rw [show szE P t = szT P (elemT P t) from rfl, ← q2, ← q1.length]; simp, q4⟩
      obtain ⟨hcl, hvs⟩ := exps_list hs k2 hir
      replace hvs := VRs_wkE (isAggT P (elemT P t)) hvs
      unfold zeroOk at hz
      split at hz
      · rename_i i hi
        split at hz
        · rename_i z hz'
          have hsz : i.size = szE P t := by simp [szE, szT, hi]
          have hp : 0 < szE P t := hpos
          have hparts : (parts.map fun (i, x) => (i, a.eval x)).toList = ((parts.toList.map fun p => a.eval p.2).zipIdx 0).map fun x => (x.2, x.1) := by
            have := zip_range (parts.toList.map fun p => (p.1, a.eval p.2)) 0 (by
              rw [List.map_map, List.length_map, hlen, ← List.range_eq_range', ← hrange]; rfl)
            rw [List.map_map] at this
            rw [Array.toList_map]
            exact this
          have hfill := Great.fill_whole hp (parts.toList.map fun p => a.eval p.2) ((Array.range (n * i.size)).map (z.cells[· % z.cells.size]!)) (fun v hv => (hcell v hv).1) (by simp [hsz]; rw [← Array.length_toList, hlen])
          have hrun := run_buildSlice' (P := P) w t (elemT P t) n (parts.map fun (i, x) => (i, a.eval x)) _ i z (isSliceT_spec hsl) hi hz' (by rw [hsz]; omega) (by rw [hparts, hsz]; rw [hsz] at hfill; exact hfill)
          generalize hvals : (parts.toList.map fun p => a.eval p.2) = vals at *
          have hvl : vals.length = n := by rw [← hvals]; simpa using hlen
          generalize hrow : (vals.flatMap fun v => v.cells.toList).toArray = row at hrun
          have hxl : (wkE (isAggT P (elemT P t)) (r.map (·.1))).length = n := by rw [← hvl, hvs.length]
          have hrs : row.size = n * szE P t := by rw [← hrow]; simp only [List.size_toArray]; rw [flat_size fun v hv => (hcell v hv).1, hvl]
          refine OpOk.frozenTurn hs hd hcl (.inr ⟨Nat.le_refl _, by omega⟩) (.arr 0 (szE P t) (wkE (isAggT P (elemT P t)) (r.map (·.1)))) (.la id 0) _ ⟨w.heap.size, if n = 0 then [] else [w.heap.size], .slice (some ⟨w.heap.size, 0, none⟩) n n, 0⟩ _ _ ?_ (SameW.alloc w _) (fun b hb _ => heap_lt w _ b hb) ?_ ?_ ?_ (exec_buildSlice ho hrun)
          · intro g0 hg0
            rw [hfr] at hg0; cases hg0
          · intro loc' G' _
            refine ⟨rfl, hp, ?_⟩
            by_cases hn : n = 0
            · subst hn
              exact .inl ⟨List.length_eq_zero_iff.1 hxl, by simp, _, rfl⟩
            · refine .inr ⟨by simp [hn], row, elemT P t, n, by omega, heap_new w _, by rw [hxl], hrs, by rw [hxl]; exact Nat.le_refl _, fun j x hj => ?_⟩
              obtain ⟨v, hv, hvr⟩ := hvs.get hj
              obtain ⟨c1, c2⟩ := hcell v (List.mem_of_getElem? hv)
              refine ⟨v, hvr, c1, c2, fun q u hq => ?_⟩
              rw [← hrow, List.getElem?_toArray, Great.flat_get hp vals (fun v hv => (hcell v hv).1)]
              have hq1 : q < szE P t := by rw [← c1]; exact (Array.getElem?_eq_some_iff.1 hq).1
              have d1 : (j * szE P t + q) / szE P t = j := by
                rw [Nat.add_comm, Nat.add_mul_div_right _ _ hp, Nat.div_eq_of_lt hq1, Nat.zero_add]
              have d2 : (j * szE P t + q) % szE P t = q := by
                rw [Nat.add_comm, Nat.add_mul_mod_self_right, Nat.mod_eq_of_lt hq1]
              rw [d1, d2, hv]
              exact hq
          · intro _
            by_cases hn : n = 0
            · simp [hn]
            · simp [hn]
          · intro loc' G' _ hG' hl'
            simp only [IR]
            exact ⟨rfl, _, hG', Nat.le_refl _, fun _ => rfl⟩
        · cases hz
      · cases hz
    · cases h
  · cases h
end
end Go.Lm
end
section
namespace Go.Lm
section
variable {P : Program} {H : Nat → FH} {T : Nat → List SVal → Option Res}
theorem pickC_cps {α : Type} {x : SVal} {p q : Option α} {r : α} (h : pickC x p q = some r) : ∃ b, x = .bool b ∧ (if b = true then p else q) = some r := by
  unfold pickC at h
  split at h
  · exact ⟨_, rfl, h⟩
  · cases h
theorem callE_spec {α : Type} {st : St} {id f : Nat} {ivs : List IVal} {k : Upd → Res → Option α} {r : α} (h : callE H T st id f ivs k = some r) :
    ∃ es x, exArgs H st f ivs = some es ∧ (nodupB (es.flatMap (·.con)) && disjB (es.flatMap (·.con)) (es.flatMap (·.brw)) && (ivs.length == (H f).params.length)) = true ∧
      T f (es.map (·.x)) = some x ∧ (imp (H f).res x.r id).2.2 ≤ id + 32 ∧ k (callU H st.loc id f es x) x = some r := by
  unfold callE at h
  obtain ⟨es, h1, h⟩ := Option.bind_eq_some_iff.1 h
  split at h
  · rename_i hc
    obtain ⟨x, h2, h⟩ := Option.bind_eq_some_iff.1 h
    split at h
    · rename_i hi
      exact ⟨es, x, h1, hc, h2, hi, h⟩
    · cases h
  · cases h
theorem callE_of {α : Type} {st : St} {id f : Nat} {ivs : List IVal} (k : Upd → Res → Option α) {es : List Ex} {x : Res} (h1 : exArgs H st f ivs = some es)
    (h2 : (nodupB (es.flatMap (·.con)) && disjB (es.flatMap (·.con)) (es.flatMap (·.brw)) && (ivs.length == (H f).params.length)) = true)
    (h3 : T f (es.map (·.x)) = some x) (h4 : (imp (H f).res x.r id).2.2 ≤ id + 32) : callE H T st id f ivs k = k (callU H st.loc id f es x) x := by
  unfold callE
  rw [h1, Option.bind_some, if_pos h2, h3, Option.bind_some, if_pos h4]
theorem callE_cps {α : Type} {st : St} {id f : Nat} {ivs : List IVal} {k : Upd → Res → Option α} {r : α} (h : callE H T st id f ivs k = some r) :
    ∃ u x, callE H T st id f ivs (fun u x => some (u, x)) = some (u, x) ∧ k u x = some r := by
  obtain ⟨es, x, h1, h2, h3, h4, h5⟩ := callE_spec h
  exact ⟨_, x, callE_of _ h1 h2 h3 h4, h5⟩
theorem callE_some {st : St} {id f : Nat} {ivs : List IVal} {u : Upd} {x : Res} (h : callE H T st id f ivs (fun u x => some (u, x)) = some (u, x)) : callE H T st id f ivs (fun u _ => some u) = some u := by
  obtain ⟨es, x', h1, h2, h3, h4, h5⟩ := callE_spec h
  rw [callE_of _ h1 h2 h3 h4]
  cases h5; rfl
theorem callB_spec {α : Type} {st : St} {f : Nat} {ivs : List IVal} {k : Upd → Option α} {r : α} (h : callB H T st f ivs k = some r) :
    ∃ es x, ((H f).res = .plain ∨ (H f).res = .scalar) ∧ exArgs H st f ivs = some es ∧ es.flatMap (·.con) = [] ∧ ivs.length = (H f).params.length ∧ T f (es.map (·.x)) = some x ∧ isSc1 x.r = true ∧ k { val := .v x.r, rd := es.flatMap (·.brw) } = some r := by
  unfold callB at h
  have key : (((exArgs H st f ivs).bind fun es => if ((es.flatMap (·.con)).length == 0) && (ivs.length == (H f).params.length) then
      (T f (es.map (·.x))).bind fun r => if isSc1 r.r = true then k { val := .v r.r, rd := es.flatMap (·.brw) } else none else none) = some r) → ∃ es x, exArgs H st f ivs = some es ∧ es.flatMap (·.con) = [] ∧ ivs.length = (H f).params.length ∧ T f (es.map (·.x)) = some x ∧ isSc1 x.r = true ∧ k { val := .v x.r, rd := es.flatMap (·.brw) } = some r := by
    intro h
    obtain ⟨es, h1, h⟩ := Option.bind_eq_some_iff.1 h
    split at h
    · rename_i hc
      simp only [Bool.and_eq_true, beq_iff_eq] at hc
      obtain ⟨x, h2, h⟩ := Option.bind_eq_some_iff.1 h
      split at h
      · rename_i hi
        exact ⟨es, x, h1, List.length_eq_zero_iff.1 hc.1, hc.2, h2, hi, h⟩
      · cases h
    · cases h
  split at h
  · rename_i hr
    obtain ⟨es, x, q⟩ := key h
    exact ⟨es, x, .inl hr, q⟩
  · rename_i hr
    obtain ⟨es, x, q⟩ := key h
    exact ⟨es, x, .inr hr, q⟩
  · cases h
theorem callB_of {α : Type} {st : St} {f : Nat} {ivs : List IVal} (k : Upd → Option α) {es : List Ex} {x : Res} (h0 : (H f).res = .plain ∨ (H f).res = .scalar) (h1 : exArgs H st f ivs = some es) (h2 : es.flatMap (·.con) = []) (h3 : ivs.length = (H f).params.length)
    (h4 : T f (es.map (·.x)) = some x) (h5 : isSc1 x.r = true) : callB H T st f ivs k = k { val := .v x.r, rd := es.flatMap (·.brw) } := by
  unfold callB
  rcases h0 with h0 | h0 <;> simp only [h0, h1, Option.bind_some, h2, h3, h4, h5, List.length_nil, beq_self_eq_true, Bool.and_self, if_true]
theorem callB_cps {α : Type} {st : St} {f : Nat} {ivs : List IVal} {k : Upd → Option α} {r : α} (h : callB H T st f ivs k = some r) : ∃ u, callB H T st f ivs some = some u ∧ k u = some r := by
  obtain ⟨es, x, h0, h1, h2, h3, h4, h5, h6⟩ := callB_spec h
  exact ⟨_, callB_of some h0 h1 h2 h3 h4 h5, h6⟩
theorem appendC_cps {α : Type} {st : St} {id t : Nat} {s : IVal} {ys : List SVal} {rd : List Nat} {k : Upd → Option α} {r : α} (h : appendC P st id t s ys rd k = some r) : ∃ u, appendC P st id t s ys rd some = some u ∧ k u = some r := by
  unfold appendC at h ⊢
  repeat' first
    | (cases h; done)
    | exact ⟨_, rfl, h⟩
    | (obtain ⟨_, hb, h⟩ := Option.bind_eq_some_iff.1 h; rw [hb, Option.bind_some])
    | (split at h <;> first | (cases h; done) | (rename_i heq; first | rw [if_pos heq] | rw [if_neg heq] | simp only [heq]) | skip)
set_option maxHeartbeats 1600000 in
theorem opC_cps {α : Type} {st : St} {id : Nat} {o : Oper} {k : Upd → Option α} {r : α} (h : opC P H T st id o k = some r) : ∃ u, opC P H T st id o some = some u ∧ k u = some r := by
  cases ho : o.op <;> simp only [opC, ho, buildC_eq] at h ⊢ <;> repeat' first
    | (cases h; done)
    | exact ⟨_, rfl, h⟩
    | (have h' := callE_cps h; obtain ⟨u, x, hb, h⟩ := h'; exact ⟨u, callE_some hb, h⟩)
    | (have h' := callB_cps h; obtain ⟨u, hb, h⟩ := h'; exact ⟨u, hb, h⟩)
    | (have h' := appendC_cps h; obtain ⟨u, hb, h⟩ := h'; exact ⟨u, hb, h⟩)
    | (obtain ⟨_, hb, h⟩ := Option.bind_eq_some_iff.1 h; rw [hb, Option.bind_some])
    | (obtain ⟨b, hb, h⟩ := pickC_cps h; subst hb; cases b)
    | (split at h <;> first | (cases h; done) | (rename_i heq; first | rw [if_pos heq] | rw [if_neg heq] | simp only [heq]) | skip)
end
end Go.Lm
end
section
namespace Go.Lm
section
variable {P : Program} {c : Ctx} {K : Kt} {G : Gt} {ov : List Value} {ds : List Nat} {st : St} {a : Act} {w : World}
/-- A map is made: a cache that nothing lies in. -/
theorem op_makeMap (hs : Sim c K G ov ds st a w) {o : Oper} (hd : dstOk c.nt o.dst = true) {id : Nat} {t : Nat} (ho : o.op = .makeMap t none) (es : List Int) : OpOk P c ov ds st G id o { val := .v (.cch es) } a w := by
  have hcl : Closed st.loc [] := fun i hi => by simp at hi
  have hf := hs.freeze [] hcl
  have hno : ∀ o, frzK K G st.loc [] w w.heap.size o = none := fun o => hf.knone (Nat.le_refl _) o
  refine OpOk.frozen hs hd hcl (x := .cch es) (rd := []) (v := .map (some w.heap.size)) (w' := w.alloc (.map #[] 0)) (fun b o => if b = w.heap.size ∧ o = 0 then some (mkV es) else frzK K G st.loc [] w b o) (SameW.alloc w _) (fun b hb => heap_lt w _ b hb) (fun b o v hv => ?_) (fun b o v hv => ?_) ?_ ?_
  · show (if b = w.heap.size ∧ o = 0 then some (mkV es) else frzK K G st.loc [] w b o) = some v
    rw [if_neg fun h : b = w.heap.size ∧ o = 0 => by rw [h.1, hno] at hv; cases hv]; exact hv
  · split at hv
    · rename_i h
      obtain ⟨rfl, rfl⟩ := h
      cases hv
      exact .inr ⟨Nat.le_refl _, rfl, #[], 0, heap_new w _, by simp [CacheOk]⟩
    · exact .inl hv
  · simp only [VR]
    exact ⟨w.heap.size, rfl, by simp⟩
  · simp [execOp, ho, Instr.makeMap, go_sem]
def isFCall (o : Oper) : Bool := match o.op with | .call cl => (match cl.callee with | .value _ => true | _ => false) | _ => false
/-- Every operation that is no call of a function. -/
theorem op_sound (hs : Sim c K G ov ds st a w) {o : Oper} (hd : dstOk c.nt o.dst = true) {id : Nat} (hfr : G id = none) {H : Nat → FH} {T : Nat → List SVal → Option Res} (hnc : isFCall o = false) {u : Upd}
    (h : opC P H T st id o some = some u) : OpOk P c ov ds st G id o u a w := by
  cases ho : o.op with
  | move x => simp only [opC, ho] at h; cases h; exact op_move hs hd (.inl ho)
  | assign x => simp only [opC, ho] at h; cases h; exact op_move hs hd (.inr ho)
  | pick x y z =>
    simp only [opC, ho] at h
    split at h
    · rename_i v hx
      obtain ⟨b, rfl, h⟩ := pickC_cps h
      have := op_pick (P := P) hs hd (id := id) ho hx
      cases b <;> cases h <;> exact this
    · cases h
  | alloc t => exact op_alloc hs hd hfr ho h
  | box t x => exact op_box hs hd hfr ho h
  | load t x => exact op_load hs hd ho h
  | store t x y => exact op_store hs hd ho h
  | fieldAddr s x f => exact op_fieldAddr hs hd ho h
  | indexAddr t x y => exact op_indexAddr hs hd ho h
  | extract x n => exact op_extract hs hd ho h
  | field t x f => exact op_field hs hd ho h
  | binOp op t x y t' => exact op_binOp hs hd ho h
  | unOp op t x => exact op_unOp hs hd ho h
  | makeFunc fn first caps => exact op_makeFunc hs hd ho h
  | makeMap t r =>
    cases r with
    | none => simp only [opC, ho] at h; cases h; exact op_makeMap hs hd ho _
    | some r => simp [opC, ho] at h
  | build t parts => exact op_build hs hd ho h
  | buildSlice t n parts => exact op_buildSlice hs hd hfr ho h
  | slice t x lo hi mx => exact op_slice hs hd ho h
  | nilCheck x => exact op_nilCheck hs hd ho h
  | convert s t x => exact op_convert hs hd ho h
  | call cl =>
    cases hc : cl.callee with
    | value g => simp [isFCall, ho, hc] at hnc
    | invoke g n => simp [opC, ho, hc] at h
    | builtin b =>
      cases b with
      | len => exact op_len hs hd ho hc h
      | cap => exact op_cap hs hd ho hc h
      | clear => exact op_clear hs hd ho hc h
      | append => exact op_append hs hd hfr ho hc h
      | max => exact op_max hs hd ho hc h
      | min => exact op_min hs hd ho hc h
      | _ => simp [opC, ho, hc] at h
  | _ => simp [opC, ho] at h
end
end Go.Lm
end
section
namespace Go.Lm
/-! ### What is handed over -/
def bsO (G : Gt) (ids : List Nat) : List Nat := ids.flatMap fun i => match G i with | some g => g.bs | none => []
theorem bsO_append (G : Gt) (a b : List Nat) : bsO G (a ++ b) = bsO G a ++ bsO G b := by simp [bsO]
theorem bsO_one {G : Gt} {i : Nat} {g : GO} (h : G i = some g) : bsO G [i] = g.bs := by simp [bsO, h]
theorem bsO_nil (G : Gt) : bsO G [] = [] := rfl
section
variable {H : Nat → FH}
/-- What a shape lets out. -/
inductive ExpS (H : Nat → FH) (loc : Nat → Obj) : Shape → IVal → Ex → Prop
  | plain {iv x ids} : exps loc 6 iv = some (x, ids) → ExpS H loc .plain iv ⟨x, ids, []⟩
  | slc {iv x ids} : exps loc 6 iv = some (x, ids) → ExpS H loc .slc iv ⟨weak x, ids, []⟩
  | sc1 {x} : ExpS H loc .scalar (.v x) ⟨x, [], []⟩
  | scs {vs : List IVal} {xs : List SVal} : mapO asV vs = some xs → ExpS H loc .scalar (.tup vs) ⟨.tup xs, [], []⟩
  | own {i ver sz : Nat} {xs : List SVal} : loc i = .arr ver sz xs → ExpS H loc (.own sz) (.la i ver) ⟨.sl sz true false xs, [], [i]⟩
  | ownNil {n sz} : 0 < sz → ExpS H loc (.own sz) (.v (.sl n false true [])) ⟨.sl sz true false [], [], []⟩
  | box {i m : Nat} {cs : List IVal} {r : List (SVal × List Nat)} : loc i = .box cs → cs.length = m → mapO (exps loc 6) cs = some r → ExpS H loc (.box m) (.lp i 0 0 0) ⟨.mb (r.map (·.1)), r.flatMap (·.2), [i]⟩
  | rp {iv : IVal} {cs : List SVal} {ids : List Nat} {m : Nat} : exps loc 6 iv = some (.rp cs, ids) → cs.length = m → ExpS H loc (.rp m) iv ⟨.rp cs, ids, []⟩
  | it {i x} : loc i = .iter x → ExpS H loc .iter (.it i) ⟨x, [], [i]⟩
  | iter {f : Nat} {caps : List IVal} {ss : List Shape} {r : List Ex} : (H f).params = .yld :: ss → ss.length = caps.length → ss.all simpleSh = true → r.length = ss.length → (∀ (j : Nat) (s : Shape) (c : IVal) (e : Ex), ss[j]? = some s → caps[j]? = some c → r[j]? = some e → ExpS H loc s c e) →
      ExpS H loc .iter (.clo f caps) ⟨.fn f (r.map (·.x)), r.flatMap (·.brw), r.flatMap (·.con)⟩
  | yld : ExpS H loc .yld .yld ⟨.yld, [], []⟩
  | agg {ss : List Shape} {cs : List IVal} {r : List Ex} : ss.length = cs.length → r.length = ss.length → (∀ (j : Nat) (s : Shape) (c : IVal) (e : Ex), ss[j]? = some s → cs[j]? = some c → r[j]? = some e → ExpS H loc s c e) →
      ExpS H loc (.agg ss) (.agg cs) ⟨.agg (r.map (·.x)), r.flatMap (·.brw), r.flatMap (·.con)⟩
  | tup {ss : List Shape} {cs : List IVal} {r : List Ex} : ss.length = cs.length → r.length = ss.length → (∀ (j : Nat) (s : Shape) (c : IVal) (e : Ex), ss[j]? = some s → cs[j]? = some c → r[j]? = some e → ExpS H loc s c e) →
      ExpS H loc (.tup ss) (.tup cs) ⟨.tup (r.map (·.x)), r.flatMap (·.brw), r.flatMap (·.con)⟩
  | boxs {i : Nat} {ss : List Shape} {cs : List IVal} {r : List Ex} : loc i = .box cs → ss.length = cs.length → r.length = ss.length → (∀ (j : Nat) (s : Shape) (c : IVal) (e : Ex), ss[j]? = some s → cs[j]? = some c → r[j]? = some e → ExpS H loc s c e) →
      ExpS H loc (.boxs ss) (.lp i 0 0 0) ⟨.mb (r.map (·.x)), r.flatMap (·.brw), r.flatMap (·.con) ++ [i]⟩
theorem expS_inv {loc : Nat → Obj} : ∀ (k : Nat) (s : Shape) (iv : IVal) (e : Ex), expS H loc k s iv = some e → ExpS H loc s iv e
  | 0, _, _, _, h => by simp [expS] at h
  | k + 1, s, iv, e, h => by
    have many : ∀ {ss : List Shape} {cs : List IVal} {r : List Ex}, ss.length = cs.length → mapO (fun p => expS H loc k p.1 p.2) (ss.zip cs) = some r →
        r.length = ss.length ∧ ∀ (j : Nat) (s : Shape) (c : IVal) (e : Ex), ss[j]? = some s → cs[j]? = some c → r[j]? = some e → ExpS H loc s c e := fun {ss cs r} hl hm =>
      ⟨by rw [mapO_len hm]; simp [hl], fun j s c e h1 h2 h3 => by
        obtain ⟨z, hz, hf⟩ := mapO_get' hm h3
        rw [List.getElem?_zip_eq_some] at hz
        rw [h1, h2] at hz
        obtain ⟨h4, h5⟩ := hz
        cases h4; cases h5
        exact expS_inv k _ _ _ hf⟩
    cases s with
    | plain =>
      simp only [expS] at h
      obtain ⟨r, h1, h⟩ := Option.bind_eq_some_iff.1 h
      cases h
      exact .plain h1
    | slc =>
      simp only [expS] at h
      obtain ⟨r, h1, h⟩ := Option.bind_eq_some_iff.1 h
      cases h
      exact .slc h1
    | scalar =>
      cases iv <;> simp only [expS] at h <;> try (cases h; done)
      · cases h; exact .sc1
      · obtain ⟨r, h1, h⟩ := Option.bind_eq_some_iff.1 h
        cases h; exact .scs h1
    | own sz =>
      unfold expS at h
      split at h <;> try (first | (cases h; done) | (rename_i hs; cases hs; done) | (rename_i hs _; cases hs; done))
      all_goals try (rename_i hs; cases hs)
      · split at h
        · split at h
          · rename_i hl hc
            obtain ⟨rfl, rfl⟩ := hc
            cases h
            exact .own hl
          · cases h
        · cases h
      · split at h
        · rename_i h0
          cases h; exact .ownNil h0
        · cases h
    | box m =>
      cases iv <;> simp only [expS] at h <;> try (cases h; done)
      split at h
      · rename_i hc
        obtain ⟨rfl, rfl, rfl⟩ := hc
        split at h
        · rename_i hl
          split at h
          · rename_i hm
            obtain ⟨r, h1, h⟩ := Option.bind_eq_some_iff.1 h
            cases h
            exact .box hl hm h1
          · cases h
        · cases h
      · cases h
    | rp m =>
      simp only [expS] at h
      obtain ⟨r, h1, h⟩ := Option.bind_eq_some_iff.1 h
      obtain ⟨x, ids⟩ := r
      simp only at h
      split at h
      · split at h
        · rename_i hm
          cases h; exact .rp h1 hm
        · cases h
      · cases h
    | iter =>
      cases iv <;> simp only [expS] at h <;> try (cases h; done)
      · split at h
        · rename_i hl
          cases h; exact .it hl
        · cases h
      · split at h
        · rename_i hp
          split at h
          · rename_i hc
            obtain ⟨r, h1, h⟩ := Option.bind_eq_some_iff.1 h
            cases h
            obtain ⟨k1, k2⟩ := many hc.1 h1
            exact .iter hp hc.1 hc.2 k1 k2
          · cases h
        · cases h
    | yld =>
      cases iv <;> simp only [expS] at h <;> try (cases h; done)
      cases h; exact .yld
    | agg ss =>
      cases iv <;> simp only [expS] at h <;> try (cases h; done)
      split at h
      · rename_i hc
        obtain ⟨r, h1, h⟩ := Option.bind_eq_some_iff.1 h
        cases h
        obtain ⟨k1, k2⟩ := many hc h1
        exact .agg hc k1 k2
      · cases h
    | tup ss =>
      cases iv <;> simp only [expS] at h <;> try (cases h; done)
      split at h
      · rename_i hc
        obtain ⟨r, h1, h⟩ := Option.bind_eq_some_iff.1 h
        cases h
        obtain ⟨k1, k2⟩ := many hc h1
        exact .tup hc k1 k2
      · cases h
    | boxs ss =>
      cases iv <;> simp only [expS] at h <;> try (cases h; done)
      split at h
      · rename_i hc
        obtain ⟨rfl, rfl, rfl⟩ := hc
        split at h
        · rename_i hl
          split at h
          · rename_i hc
            obtain ⟨r, h1, h⟩ := Option.bind_eq_some_iff.1 h
            cases h
            obtain ⟨k1, k2⟩ := many hc h1
            exact .boxs hl hc k1 k2
          · cases h
        · cases h
      · cases h
theorem expS_cl {loc : Nat → Obj} {s : Shape} {iv : IVal} {e : Ex} (h : ExpS H loc s iv e) : Closed loc e.brw := by
  have manyx : ∀ {cs : List IVal} {r : List (SVal × List Nat)}, mapO (exps loc 6) cs = some r → Closed loc (r.flatMap (·.2)) := fun {cs r} hm =>
    Closed.flat fun q hq => by
      obtain ⟨m, hm'⟩ := List.mem_iff_getElem?.1 hq
      obtain ⟨z, _, hf⟩ := mapO_get' hm hm'
      exact exps_closed 6 (Nat.le_refl _) z q.1 q.2 hf
  have nil : Closed loc [] := by intro i hi; simp at hi
  have many : ∀ {ss : List Shape} {cs : List IVal} {r : List Ex}, ss.length = cs.length → r.length = ss.length → (∀ (j : Nat) (s : Shape) (c : IVal) (e : Ex), ss[j]? = some s → cs[j]? = some c → r[j]? = some e → Closed loc e.brw) → Closed loc (r.flatMap (·.brw)) := fun {ss cs r} h1 h2 h3 =>
    Closed.flat fun q hq => by
      obtain ⟨m, hm⟩ := List.mem_iff_getElem?.1 hq
      have hlt := (List.getElem?_eq_some_iff.1 hm).1
      exact h3 m _ _ q (List.getElem?_eq_getElem (by omega)) (List.getElem?_eq_getElem (by omega)) hm
  induction h with
  | plain h => exact exps_closed 6 (Nat.le_refl _) _ _ _ h
  | slc h => exact exps_closed 6 (Nat.le_refl _) _ _ _ h
  | rp h _ => exact exps_closed 6 (Nat.le_refl _) _ _ _ h
  | box _ _ h => exact manyx h
  | iter _ h1 _ h2 _ ih => exact many h1 h2 ih
  | agg h1 h2 _ ih => exact many h1 h2 ih
  | tup h1 h2 _ ih => exact many h1 h2 ih
  | boxs _ h1 h2 _ ih => exact many h1 h2 ih
  | _ => exact nil
end
theorem weak_VR {K : Kt} {l : Nat} {x : SVal} {v : Value} (h : VR K l x v) : VR K l (weak x) v := by
  cases x <;> try exact h
  simp only [weak, VR] at h ⊢
  obtain ⟨h0, A, c, h1, h2, _, h4⟩ := h
  exact ⟨h0, A, c, h1, h2, (fun h => by cases h), h4⟩
theorem XS_simple {H : Nat → FH} {K : Kt} {l : Nat} {w : World} {s : Shape} {x : SVal} {v : Value} {bs : List Nat} (hs : simpleSh s = true) (h : XS H K l w s x v bs) : XS0 K l w s x v bs := by
  cases s <;> simp only [simpleSh, Bool.false_eq_true] at hs <;> simpa only [XS] using h
theorem XSs_of {H : Nat → FH} {K : Kt} {l : Nat} {w : World} {G : Gt} : ∀ {ss : List Shape} {r : List Ex} {vals : List Value}, r.length = ss.length → vals.length = ss.length →
    (∀ (j : Nat) (s : Shape) (e : Ex) (v : Value), ss[j]? = some s → r[j]? = some e → vals[j]? = some v → XS H K l w s e.x v (bsO G e.con)) → XSs H K l w ss (r.map (·.x)) vals (bsO G (r.flatMap (·.con)))
  | [], [], [], _, _, _ => by simp [XSs, bsO]
  | s :: ss, e :: r, v :: vals, h1, h2, h => by
    simp only [XSs, List.map_cons, List.flatMap_cons]
    exact ⟨_, _, _, _, _, _, rfl, rfl, bsO_append _ _ _, h 0 s e v rfl rfl rfl, XSs_of (by simpa using h1) (by simpa using h2) fun j s e v a b c => h (j + 1) s e v (by simpa using a) (by simpa using b) (by simpa using c)⟩
  | [], _ :: _, _, h, _, _ => by simp at h
  | _ :: _, [], _, h, _, _ => by simp at h
  | [], [], _ :: _, _, h, _ => by simp at h
  | _ :: _, _ :: _, [], _, h, _ => by simp at h
theorem XS0s_of {K : Kt} {l : Nat} {w : World} {G : Gt} : ∀ {ss : List Shape} {r : List Ex} {vals : List Value}, r.length = ss.length → vals.length = ss.length →
    (∀ (j : Nat) (s : Shape) (e : Ex) (v : Value), ss[j]? = some s → r[j]? = some e → vals[j]? = some v → XS0 K l w s e.x v (bsO G e.con)) → XS0s K l w ss (r.map (·.x)) vals (bsO G (r.flatMap (·.con)))
  | [], [], [], _, _, _ => by simp [XS0s, bsO]
  | s :: ss, e :: r, v :: vals, h1, h2, h => by
    simp only [XS0s, List.map_cons, List.flatMap_cons]
    exact ⟨_, _, _, _, _, _, rfl, rfl, bsO_append _ _ _, h 0 s e v rfl rfl rfl, XS0s_of (by simpa using h1) (by simpa using h2) fun j s e v a b c => h (j + 1) s e v (by simpa using a) (by simpa using b) (by simpa using c)⟩
  | [], _ :: _, _, h, _, _ => by simp at h
  | _ :: _, [], _, h, _, _ => by simp at h
  | [], [], _ :: _, _, h, _ => by simp at h
  | _ :: _, _ :: _, [], _, h, _ => by simp at h
section
variable {c : Ctx} {K : Kt} {G : Gt} {ov : List Value} {ds : List Nat} {st : St} {a : Act} {w : World}
theorem expS_sound (hs : Sim c K G ov ds st a w) {ids : List Nat} {s : Shape} {iv : IVal} {e : Ex} (h : ExpS c.H st.loc s iv e) :
    (∀ i ∈ e.brw, i ∈ ids) → ∀ v, IR K c.l st.loc G iv v → XS c.H (frzK K G st.loc ids w) c.l w s e.x v (bsO G e.con) ∧ ∀ i ∈ e.con, ∃ g, G i = some g ∧ (st.loc i).live = true := by
  have hle := hs.frzK_le ids
  have plainx : ∀ {iv : IVal} {x : SVal} {js : List Nat} {v : Value}, exps st.loc 6 iv = some (x, js) → (∀ i ∈ js, i ∈ ids) → IR K c.l st.loc G iv v → VR (frzK K G st.loc ids w) c.l x v := fun {iv x js v} he hb hv =>
    exps_sound hle hs.objs 6 iv x js v he hv fun i hi => frzK_has i (hb i hi)
  have many : ∀ {ss : List Shape} {cs : List IVal} {r : List Ex} {vals : List Value}, ss.length = cs.length → r.length = ss.length →
      (∀ (j : Nat) (s : Shape) (c' : IVal) (e : Ex), ss[j]? = some s → cs[j]? = some c' → r[j]? = some e → (∀ i ∈ e.brw, i ∈ ids) → ∀ v, IR K c.l st.loc G c' v → XS c.H (frzK K G st.loc ids w) c.l w s e.x v (bsO G e.con) ∧ ∀ i ∈ e.con, ∃ g, G i = some g ∧ (st.loc i).live = true) →
      (∀ i ∈ r.flatMap (·.brw), i ∈ ids) → IRs K c.l st.loc G cs vals →
      vals.length = ss.length ∧ (∀ (j : Nat) (s : Shape) (e : Ex) (v : Value), ss[j]? = some s → r[j]? = some e → vals[j]? = some v → XS c.H (frzK K G st.loc ids w) c.l w s e.x v (bsO G e.con)) ∧ ∀ i ∈ r.flatMap (·.con), ∃ g, G i = some g ∧ (st.loc i).live = true := by
    intro ss cs r vals h1 h2 h3 hb hv
    have hvl := hv.length
    have hbj : ∀ (j : Nat) (e : Ex), r[j]? = some e → ∀ i ∈ e.brw, i ∈ ids := fun j e he i hi => hb i (List.mem_flatMap.2 ⟨e, List.mem_of_getElem? he, hi⟩)
    refine ⟨by omega, fun j s e v hs' he hv' => ?_, fun i hi => ?_⟩
    · have hlt := (List.getElem?_eq_some_iff.1 hs').1
      obtain ⟨u, hu, hir⟩ := hv.get (List.getElem?_eq_getElem (show j < cs.length by omega))
      rw [hv'] at hu; cases hu
      exact (h3 j s _ e hs' (List.getElem?_eq_getElem (by omega)) he (hbj j e he) v hir).1
    · obtain ⟨e, he, hi⟩ := List.mem_flatMap.1 hi
      obtain ⟨j, hj⟩ := List.mem_iff_getElem?.1 he
      have hlt := (List.getElem?_eq_some_iff.1 hj).1
      obtain ⟨u, hu, hir⟩ := hv.get (List.getElem?_eq_getElem (show j < cs.length by omega))
      exact (h3 j _ _ e (List.getElem?_eq_getElem (by omega)) (List.getElem?_eq_getElem (by omega)) hj (hbj j e hj) u hir).2 i hi
  induction h with
  | plain h => exact fun hb v hv => ⟨by simp only [XS]; exact ⟨rfl, plainx h hb hv⟩, by simp⟩
  | slc h => exact fun hb v hv => ⟨by simp only [XS]; exact ⟨rfl, weak_VR (plainx h hb hv)⟩, by simp⟩
  | sc1 => exact fun hb v hv => ⟨by simp only [XS]; exact ⟨rfl, (IR_v hv).mono hle⟩, by simp⟩
  | @scs vs xs h =>
    refine fun hb v hv => ⟨?_, by simp⟩
    simp only [IR] at hv
    obtain ⟨vals, rfl, hv⟩ := hv
    simp only [XS]
    refine ⟨rfl, ?_⟩
    simp only [VR]
    refine ⟨vals, rfl, VRs.of_get (by rw [hv.length, mapO_len h]) fun j x u hx hu => ?_⟩
    obtain ⟨z, hz, hf⟩ := mapO_get' h hx
    obtain ⟨u', hu', hir⟩ := hv.get hz
    rw [hu] at hu'; cases hu'
    cases z <;> simp only [asV, reduceCtorEq, Option.some.injEq] at hf
    subst hf
    exact (IR_v hir).mono hle
  | @own i ver sz xs h =>
    intro hb v hv
    simp only [IR] at hv
    obtain ⟨_, g, hg, _, hval⟩ := hv
    have hor := hs.objs i g hg
    rw [h] at hor
    refine ⟨?_, fun j hj => ?_⟩
    · simp only [XS]
      exact ⟨xs, g.blk, rfl, by rw [bsO_one hg, hval (by simp [h, Obj.ver?])]; exact hor.2.mono hle fun _ _ => rfl⟩
    · simp at hj; subst hj
      exact ⟨g, hg, by simp [h, Obj.live]⟩
  | ownNil h0 =>
    refine fun hb v hv => ⟨?_, by simp⟩
    have hv := IR_v hv
    simp only [VR] at hv
    obtain ⟨_, A, cc, rfl, _, h3, _⟩ := hv
    have : cc = 0 := by simpa using h3
    subst this
    simp only [XS]
    exact ⟨[], 0, rfl, h0, .inl ⟨rfl, rfl, A, rfl⟩⟩
  | @box i m cs r h hm hr =>
    intro hb v hv
    simp only [IR] at hv
    obtain ⟨_, g, hg, _, hval⟩ := hv
    have hor := hs.objs i g hg
    rw [h] at hor
    obtain ⟨_, hbs, vals, t, h2, h3⟩ := hor
    refine ⟨?_, fun j hj => ?_⟩
    · simp only [XS]
      refine ⟨_, g.blk, rfl, by simp [mapO_len hr, hm], by rw [bsO_one hg, hbs], by rw [hval (by simp [h, Obj.ver?])]; simp [h, Obj.stride], vals, t, h2, ?_⟩
      refine VRs.of_get (by simp [h3.length, mapO_len hr]) fun j x u hx hu => ?_
      simp only [List.getElem?_map, Option.map_eq_some_iff] at hx
      obtain ⟨q, hq, rfl⟩ := hx
      obtain ⟨z, hz, hf⟩ := mapO_get' hr hq
      obtain ⟨u', hu', hir⟩ := h3.get hz
      rw [hu] at hu'; cases hu'
      exact plainx hf (fun i hi => hb i (List.mem_flatMap.2 ⟨q, List.mem_of_getElem? hq, hi⟩)) hir
    · simp at hj; subst hj
      exact ⟨g, hg, by simp [h, Obj.live]⟩
  | rp h hm => exact fun hb v hv => ⟨by simp only [XS]; exact ⟨rfl, plainx h hb hv, _, rfl, hm⟩, by simp⟩
  | @it i x h =>
    intro hb v hv
    simp only [IR] at hv
    obtain ⟨_, g, hg, hval⟩ := hv
    have hor := hs.objs i g hg
    rw [h] at hor
    refine ⟨?_, fun j hj => ?_⟩
    · rw [hval (by simp [h, Obj.ver?]), bsO_one hg]
      exact XS.mono hle _ hor.2 fun _ _ => rfl
    · simp at hj; subst hj
      exact ⟨g, hg, by simp [h, Obj.live]⟩
  | @iter f caps ss r hp h1 h2 h3 _ ih =>
    intro hb v hv
    simp only [IR] at hv
    obtain ⟨vals, rfl, hv⟩ := hv
    obtain ⟨k1, k2, k3⟩ := many h1 h3 ih hb hv
    refine ⟨?_, k3⟩
    simp only [XS]
    exact ⟨f, _, vals, ss, rfl, rfl, hp, h2, XS0s_of h3 k1 fun j s e v a b d => XS_simple (List.all_eq_true.1 h2 s (List.mem_of_getElem? a)) (k2 j s e v a b d)⟩
  | yld =>
    refine fun hb v hv => ⟨?_, by simp⟩
    simp only [IR] at hv
    simp only [XS]
    refine ⟨?_, ?_, hv⟩ <;> first | rfl | trivial
  | agg h1 h2 _ ih =>
    intro hb v hv
    simp only [IR] at hv
    obtain ⟨vals, rfl, hv⟩ := hv
    obtain ⟨k1, k2, k3⟩ := many h1 h2 ih hb hv
    exact ⟨by simp only [XS]; exact ⟨_, vals, rfl, rfl, XSs_of h2 k1 k2⟩, k3⟩
  | tup h1 h2 _ ih =>
    intro hb v hv
    simp only [IR] at hv
    obtain ⟨vals, rfl, hv⟩ := hv
    obtain ⟨k1, k2, k3⟩ := many h1 h2 ih hb hv
    exact ⟨by simp only [XS]; exact ⟨_, vals, rfl, rfl, XSs_of h2 k1 k2⟩, k3⟩
  | @boxs i ss cs r hl h1 h2 _ ih =>
    intro hb v hv
    simp only [IR] at hv
    obtain ⟨_, g, hg, _, hval⟩ := hv
    have hor := hs.objs i g hg
    rw [hl] at hor
    obtain ⟨_, hbs, vals, t, h3, h4⟩ := hor
    obtain ⟨k1, k2, k3⟩ := many h1 h2 ih hb h4
    refine ⟨?_, fun j hj => ?_⟩
    · simp only [XS]
      exact ⟨_, g.blk, vals, bsO G (r.flatMap (·.con)), t, rfl, by rw [bsO_append, bsO_one hg, hbs], by rw [hval (by simp [hl, Obj.ver?])]; simp [hl, Obj.stride], h3, XSs_of h2 k1 k2⟩
    · rcases List.mem_append.1 hj with hj | hj
      · exact k3 j hj
      · simp at hj; subst hj
        exact ⟨g, hg, by simp [hl, Obj.live]⟩
end
end Go.Lm
end
section
namespace Go.Lm
def Kok (K : Kt) (w : World) : Prop := ∀ b o v, K b o = some v → Kat w b o v
def Ctx.triv (c : Ctx) : Ctx := { c with J := fun _ _ _ _ => True, Jx := fun _ _ _ _ => True }
section
variable {c : Ctx} {K : Kt} {G : Gt} {ov : List Value} {ds : List Nat} {st : St} {a : Act} {w : World}
theorem Sim.toTriv (hs : Sim c K G ov ds st a w) : Sim c.triv K G ov ds st a w where
  kok := hs.kok
  k0 := hs.k0
  kO := hs.kO
  slots := hs.slots
  nt := hs.nt
  objs := hs.objs
  gnone := hs.gnone
  own := hs.own
  nd := hs.nd
  sep := hs.sep
  same := hs.same
  frame := hs.frame
  oB := hs.oB
  outs := hs.outs
  prot := fun _ => trivial
  protx := fun _ => ⟨[], trivial⟩
  dfs := hs.dfs
  dnd := hs.dnd
  dob := hs.dob
  hJ := fun _ _ _ _ _ _ _ _ _ => trivial
  hJx := fun _ _ _ _ _ _ _ _ _ => trivial
theorem Sim.ofTriv (hs : Sim c.triv K G ov ds st a w) (hJ : Stable c.J) (hJx : Stable c.Jx) (hp : st.stop = false → c.J ov K (OwnB c st.loc G ds) w) (hpx : st.stop = true → ∃ pre, c.Jx pre K (OwnB c st.loc G ds) w) : Sim c K G ov ds st a w where
  kok := hs.kok
  k0 := hs.k0
  kO := hs.kO
  slots := hs.slots
  nt := hs.nt
  objs := hs.objs
  gnone := hs.gnone
  own := hs.own
  nd := hs.nd
  sep := hs.sep
  same := hs.same
  frame := hs.frame
  oB := hs.oB
  outs := hs.outs
  prot := hp
  protx := hpx
  dfs := hs.dfs
  dnd := hs.dnd
  dob := hs.dob
  hJ := hJ
  hJx := hJx
/-- The world goes on: objects stay, die, or are written by another. -/
theorem Sim.step (hs : Sim c.triv K G ov ds st a w) (K' : Kt) (w' : World) (loc' : Nat → Obj) (ov' : List Value) (out' : List SVal) (stop' : Bool) (hsame : SameW w w') (hle : K.le K') (hkok : Kok K' w')
    (hloc : ∀ i g, G i = some g → (loc' i = st.loc i ∧ ((st.loc i).live = true → ∀ b ∈ g.bs, vw w' b = vw w b)) ∨ loc' i = .dead ∨
      (∃ ver sz xs xs', st.loc i = .arr ver sz xs ∧ loc' i = .arr ver sz xs' ∧ OwnR K' c.l w' sz xs' g.val g.blk g.bs))
    (hnone : ∀ i, G i = none → loc' i = .dead) (hO : ∀ b, c.O b → vw w' b = vw w b) (hKO : ∀ b o u, c.O b → K' b o = some u → K b o = some u)
    (hKown : ∀ i g, G i = some g → (loc' i).live = true → ∀ b ∈ g.bs, ∀ o, K' b o = none) (hds : ∀ d ∈ ds, vw w' d = vw w d) (hout : stop' = false → VRs K' c.l out' ov') :
    Sim c.triv K' G ov' ds { st with loc := loc', out := out', stop := stop' } a w' := by
  have hext : Ext st.loc G loc' G := fun i g hg => ⟨g, hg, Nat.le_refl _, fun ver _ h => by
    rcases hloc i g hg with ⟨h1, _⟩ | h1 | ⟨ver', sz, xs, xs', h1, h2, _⟩
    · rw [h1] at h ⊢; exact ⟨h, rfl, rfl, rfl⟩
    · rw [h1] at h; simp [Obj.ver?] at h
    · rw [h2] at h ⊢; rw [h1]; exact ⟨h, rfl, rfl, rfl⟩⟩
  have hlive : ∀ i g, G i = some g → (loc' i).live = true → (st.loc i).live = true := fun i g hg h => by
    rcases hloc i g hg with ⟨h1, _⟩ | h1 | ⟨ver', sz, xs, xs', h1, h2, _⟩
    · rw [← h1]; exact h
    · rw [h1] at h; simp [Obj.live] at h
    · rw [h1]; rfl
  refine { kok := hkok, k0 := hs.k0.trans hle, kO := fun b o v h1 h2 => hs.kO b o v h1 (hKO b o v h1 h2), slots := fun t => (hs.slots t).mono hle hext, nt := hs.nt, objs := ?_, gnone := hnone, own := ?_, nd := fun i g hg hl => hs.nd i g hg (hlive i g hg hl), sep := fun i j g g' b hij hg hg' hl hl' => hs.sep i j g g' b hij hg hg' (hlive i g hg hl) (hlive j g' hg' hl'), same := hs.same.trans hsame, frame := fun b hb => (hO b hb).trans (hs.frame b hb), oB := hs.oB, outs := hout, prot := fun _ => trivial, protx := fun _ => ⟨[], trivial⟩, dfs := hs.dfs, dnd := hs.dnd, dob := fun d hd => ⟨vw_get (hds d hd) (hs.dob d hd).1, (hs.dob d hd).2⟩, hJ := hs.hJ, hJx := hs.hJx }
  · intro i g hg
    have hor := hs.objs i g hg
    show OR c.H K' c.l loc' G w' g (loc' i)
    rcases hloc i g hg with ⟨h1, h2⟩ | h1 | ⟨ver', sz, xs, xs', h1, h2, h3⟩
    · rw [h1]
      exact hor.mono hle hext h2
    · rw [h1]; trivial
    · rw [h2]; rw [h1] at hor
      exact ⟨hor.1, h3⟩
  · intro i g hg hl b hb
    obtain ⟨k1, k2, k3, _⟩ := hs.own i g hg (hlive i g hg hl) b hb
    exact ⟨Nat.lt_of_lt_of_le k1 hsame.size, k2, k3, hKown i g hg hl b hb⟩
/-- An object that another laid is taken over. -/
theorem Sim.adopt (hs : Sim c.triv K G ov ds st a w) {i : Nat} (hi : G i = none) (o' : Obj) (g' : GO) (hobj : ∀ loc' G', Ext st.loc G loc' G' → OR c.H K c.l loc' G' w g' o') (hnd : g'.bs.Nodup)
    (hbs : ∀ b ∈ g'.bs, b < w.heap.size ∧ ¬ c.O b ∧ b ∉ ds ∧ (∀ o, K b o = none) ∧ ∀ j g, G j = some g → (st.loc j).live = true → b ∉ g.bs) :
    Sim c.triv K (upd G i (some g')) ov ds { st with loc := upd st.loc i o' } a w := by
  have he := hs.ext1 i o' g' (fun g hg => by rw [hi] at hg; cases hg)
  refine { kok := hs.kok, k0 := hs.k0, kO := hs.kO, slots := fun t => (hs.slots t).mono (Kt.le.refl _) he, nt := hs.nt, objs := ?_, gnone := ?_, own := ?_, nd := ?_, sep := ?_, same := hs.same, frame := hs.frame, oB := hs.oB, outs := hs.outs, prot := fun _ => trivial, protx := fun _ => ⟨[], trivial⟩, dfs := hs.dfs, dnd := hs.dnd, dob := hs.dob, hJ := hs.hJ, hJx := hs.hJx }
  · intro j g hg
    by_cases hj : j = i
    · subst hj
      simp only [upd_same] at hg ⊢
      cases hg
      exact hobj _ _ he
    · simp only [upd_other _ _ hj] at hg ⊢
      exact (hs.objs j g hg).mono (Kt.le.refl _) he fun _ _ _ => rfl
  · intro j hj
    by_cases hji : j = i
    · subst hji; rw [upd_same] at hj; cases hj
    · simp only [upd_other _ _ hji] at hj ⊢
      exact hs.gnone j hj
  · intro j g hg hl b hb
    by_cases hj : j = i
    · subst hj
      simp only [upd_same] at hg
      cases hg
      obtain ⟨h1, h2, h3, h4, _⟩ := hbs b hb
      exact ⟨h1, h2, h3, h4⟩
    · simp only [upd_other _ _ hj] at hg hl
      exact hs.own j g hg hl b hb
  · intro j g hg hl
    by_cases hj : j = i
    · subst hj
      simp only [upd_same] at hg
      cases hg
      exact hnd
    · simp only [upd_other _ _ hj] at hg hl
      exact hs.nd j g hg hl
  · intro j k g g0 b hjk hg hg0 hl hl0 hb hb0
    by_cases hj : j = i
    · subst hj
      simp only [upd_same] at hg
      cases hg
      simp only [upd_other _ _ (Ne.symm hjk)] at hg0 hl0
      exact (hbs b hb).2.2.2.2 k g0 hg0 hl0 hb0
    · simp only [upd_other _ _ hj] at hg hl
      by_cases hk : k = i
      · subst hk
        simp only [upd_same] at hg0
        cases hg0
        exact (hbs b hb0).2.2.2.2 j g hg hl hb
      · simp only [upd_other _ _ hk] at hg0 hl0
        exact hs.sep j k g g0 b hjk hg hg0 hl hl0 hb hb0
@[simp] theorem xs_sl (sz : Nat) (o f : Bool) (xs : List SVal) : (SVal.sl sz o f xs).xs = xs := rfl
@[simp] theorem cs_agg (cs : List SVal) : (SVal.agg cs).cs = cs := rfl
@[simp] theorem cs_tup (cs : List SVal) : (SVal.tup cs).cs = cs := rfl
@[simp] theorem cs_mb (cs : List SVal) : (SVal.mb cs).cs = cs := rfl
@[simp] theorem cs_rp (cs : List SVal) : (SVal.rp cs).cs = cs := rfl
theorem cellsV_eq {m : Nat} {x : SVal} {cs : List SVal} (h : x.cs = cs) (hm : cs.length = m) : cellsV m x = cs := by
  subst hm
  apply List.ext_getElem?
  intro j
  simp only [cellsV, List.getElem?_map]
  by_cases hj : j < cs.length
  · rw [List.getElem?_range hj, List.getElem?_eq_getElem hj]
    simp [SVal.cell, h, hj]
  · rw [List.getElem?_eq_none (by simpa using hj), List.getElem?_eq_none (by omega)]; rfl
theorem own_cell {K : Kt} {l : Nat} {w : World} {sz : Nat} {xs : List SVal} {v : Value} {blk : Nat} {bs : List Nat} (h : OwnR K l w sz xs v blk bs) : v.oneCell' = true := by
  obtain ⟨_, ho2⟩ := h
  rcases ho2 with ⟨e0, _, A, rfl⟩ | ⟨_, _, _, cap, _, _, rfl, _⟩ <;> rfl
/-- What is taken over lies free. -/
def Free (c : Ctx) (K : Kt) (G : Gt) (loc : Nat → Obj) (ds : List Nat) (w : World) (bs : List Nat) : Prop :=
  bs.Nodup ∧ ∀ b ∈ bs, b < w.heap.size ∧ ¬ c.O b ∧ b ∉ ds ∧ (∀ o, K b o = none) ∧ ∀ j g, G j = some g → (loc j).live = true → b ∉ g.bs
/-- The outcome of taking over. -/
structure Took (c : Ctx) (K : Kt) (G : Gt) (ov : List Value) (ds : List Nat) (st : St) (a : Act) (w : World) (n n' : Nat) (bs : List Nat) (wr : List (Nat × Obj)) (G' : Gt) : Prop where
  sim : Sim c.triv K G' ov ds { st with loc := updL st.loc wr } a w
  ext : Ext st.loc G (updL st.loc wr) G'
  fresh : ∀ i, G' i ≠ none → G i ≠ none ∨ (n ≤ i ∧ i < n')
  old : ∀ i, G i ≠ none → G' i = G i ∧ updL st.loc wr i = st.loc i
  blks : ∀ i g b, G' i = some g → (updL st.loc wr i).live = true → b ∈ g.bs → (∃ g0, G i = some g0 ∧ (st.loc i).live = true ∧ b ∈ g0.bs) ∨ b ∈ bs
theorem Took.nil (hs : Sim c.triv K G ov ds st a w) (n : Nat) (bs : List Nat) : Took c K G ov ds st a w n n bs [] G :=
  ⟨hs, Ext.refl _ _, fun _ h => .inl h, fun _ _ => ⟨rfl, rfl⟩, fun i g b h1 h2 h3 => .inl ⟨g, h1, h2, h3⟩⟩
theorem Took.one (hs : Sim c.triv K G ov ds st a w) {n : Nat} (hn : G n = none) (o' : Obj) (g' : GO) (hobj : ∀ loc' G', Ext st.loc G loc' G' → OR c.H K c.l loc' G' w g' o') (hf : Free c K G st.loc ds w g'.bs) :
    Took c K G ov ds st a w n (n + 1) g'.bs [(n, o')] (upd G n (some g')) where
  sim := hs.adopt hn o' g' hobj hf.1 hf.2
  ext := hs.ext1 n o' g' (fun g hg => by rw [hn] at hg; cases hg)
  fresh := fun i h => by
    by_cases hi : i = n
    · exact .inr ⟨by omega, by omega⟩
    · rw [upd_other _ _ hi] at h; exact .inl h
  old := fun i h => by
    have hi : i ≠ n := fun e => h (e ▸ hn)
    simp [updL, upd_other _ _ hi]
  blks := fun i g b h1 h2 h3 => by
    by_cases hi : i = n
    · subst hi; rw [upd_same] at h1; cases h1; exact .inr h3
    · rw [upd_other _ _ hi] at h1
      simp only [updL, upd_other _ _ hi] at h2
      exact .inl ⟨g, h1, h2, h3⟩
theorem Took.trans {n n' n'' : Nat} {b1 b2 : List Nat} {wr wr' : List (Nat × Obj)} {G' G'' : Gt} (h : Took c K G ov ds st a w n n' b1 wr G') (hn : n ≤ n') (hn' : n' ≤ n'')
    (h' : Took c K G' ov ds { st with loc := updL st.loc wr } a w n' n'' b2 wr' G'') : Took c K G ov ds st a w n n'' (b1 ++ b2) (wr ++ wr') G'' where
  sim := by have := h'.sim; simpa [updL_append] using this
  ext := by have := h.ext.trans h'.ext; simpa [updL_append] using this
  fresh := fun i hi => by
    rcases h'.fresh i hi with h1 | ⟨h1, h2⟩
    · rcases h.fresh i h1 with h1 | ⟨h1, h2⟩
      · exact .inl h1
      · exact .inr ⟨h1, by omega⟩
    · exact .inr ⟨by omega, h2⟩
  old := fun i hi => by
    obtain ⟨h1, h2⟩ := h.old i hi
    obtain ⟨h3, h4⟩ := h'.old i (by rw [h1]; exact hi)
    rw [updL_append]
    exact ⟨h3.trans h1, h4.trans h2⟩
  blks := fun i g b h1 h2 h3 => by
    rw [updL_append] at h2
    rcases h'.blks i g b h1 h2 h3 with ⟨g0, k1, k2, k3⟩ | k
    · rcases h.blks i g0 b k1 k2 k3 with k | k
      · exact .inl k
      · exact .inr (List.mem_append.2 (.inl k))
    · exact .inr (List.mem_append.2 (.inr k))
theorem Free.left {b1 b2 : List Nat} (h : Free c K G st.loc ds w (b1 ++ b2)) : Free c K G st.loc ds w b1 := ⟨(List.nodup_append.1 h.1).1, fun b hb => h.2 b (List.mem_append.2 (.inl hb))⟩
theorem Free.right {b1 b2 : List Nat} {n n' : Nat} {wr : List (Nat × Obj)} {G' : Gt} (h : Free c K G st.loc ds w (b1 ++ b2)) (ht : Took c K G ov ds st a w n n' b1 wr G') : Free c K G' (updL st.loc wr) ds w b2 :=
  ⟨(List.nodup_append.1 h.1).2.1, fun b hb => by
    obtain ⟨h1, h2, h3, h4, h5⟩ := h.2 b (List.mem_append.2 (.inr hb))
    refine ⟨h1, h2, h3, h4, fun j g hg hl hin => ?_⟩
    rcases ht.blks j g b hg hl hin with ⟨g0, k1, k2, k3⟩ | k
    · exact h5 j g0 k1 k2 k3
    · exact (List.nodup_append.1 h.1).2.2 b k b hb rfl⟩
mutual
theorem imp_ge : ∀ (s : Shape) (x : SVal) (n : Nat), n ≤ (imp s x n).2.2
  | .plain, _, _ => by simp [imp]
  | .scalar, _, _ => by simp [imp]
  | .slc, _, _ => by simp [imp]
  | .own _, _, _ => by simp [imp]
  | .box _, _, _ => by simp [imp]
  | .rp _, _, _ => by simp [imp]
  | .iter, _, _ => by simp [imp]
  | .yld, _, _ => by simp [imp]
  | .agg ss, x, n => by simpa [imp] using imps_ge ss x.cs n
  | .tup ss, x, n => by simpa [imp] using imps_ge ss x.cs n
  | .boxs ss, x, n => by simpa [imp] using Nat.le_succ_of_le (imps_ge ss x.cs n)
theorem imps_ge : ∀ (ss : List Shape) (xs : List SVal) (n : Nat), n ≤ (imps ss xs n).2.2
  | [], _, _ => by simp [imps]
  | s :: ss, xs, n => by
    simp only [imps]
    exact Nat.le_trans (imp_ge s (xs.headD .undef) n) (imps_ge ss xs.tail _)
end
mutual
theorem imp_sound : ∀ (s : Shape) (x : SVal) (v : Value) (bs : List Nat) (n : Nat) (st : St) (G : Gt), Sim c.triv K G ov ds st a w → XS c.H K c.l w s x v bs → (∀ i, n ≤ i → i < (imp s x n).2.2 → G i = none) → Free c K G st.loc ds w bs →
    ∃ G', Took c K G ov ds st a w n (imp s x n).2.2 bs (imp s x n).2.1 G' ∧ IR K c.l (updL st.loc (imp s x n).2.1) G' (imp s x n).1 v
  | .plain, x, v, bs, n, st, G, hs, hx, _, _ => by
    simp only [XS] at hx
    obtain ⟨rfl, hx⟩ := hx
    exact ⟨G, by simpa only [imp] using Took.nil hs n [], v_IR hx⟩
  | .scalar, x, v, bs, n, st, G, hs, hx, _, _ => by
    simp only [XS] at hx
    obtain ⟨rfl, hx⟩ := hx
    exact ⟨G, by simpa only [imp] using Took.nil hs n [], v_IR hx⟩
  | .slc, x, v, bs, n, st, G, hs, hx, _, _ => by
    simp only [XS] at hx
    obtain ⟨rfl, hx⟩ := hx
    exact ⟨G, by simpa only [imp] using Took.nil hs n [], v_IR hx⟩
  | .rp m, x, v, bs, n, st, G, hs, hx, _, _ => by
    simp only [XS] at hx
    obtain ⟨rfl, hx, cs, rfl, hm⟩ := hx
    refine ⟨G, by simpa only [imp] using Took.nil hs n [], ?_⟩
    simp only [imp]
    rw [cellsV_eq (x := .rp cs) rfl hm]
    exact v_IR hx
  | .yld, x, v, bs, n, st, G, hs, hx, _, _ => by
    simp only [XS] at hx
    obtain ⟨rfl, _, hx⟩ := hx
    exact ⟨G, by simpa only [imp] using Took.nil hs n [], by simpa only [imp, IR] using hx⟩
  | .own sz, x, v, bs, n, st, G, hs, hx, hfr, hf => by
    simp only [XS] at hx
    obtain ⟨xs, blk, rfl, ho⟩ := hx
    have hn : G n = none := hfr n (Nat.le_refl _) (by simp [imp])
    have := Took.one hs hn (.arr 0 sz xs) ⟨blk, bs, v, 0⟩ (fun _ _ _ => ⟨rfl, ho⟩) hf
    refine ⟨_, by simpa only [imp, xs_sl] using this, ?_⟩
    simp only [imp, IR, updL, xs_sl]
    exact ⟨own_cell ho, _, upd_same _ _ _, Nat.le_refl _, fun _ => rfl⟩
  | .box m, x, v, bs, n, st, G, hs, hx, hfr, hf => by
    simp only [XS] at hx
    obtain ⟨cs, b, rfl, hm, rfl, rfl, vals, t, h1, h2⟩ := hx
    have hn : G n = none := hfr n (Nat.le_refl _) (by simp [imp])
    have hcs : (cellsV m (.mb cs)).map IVal.v = cs.map IVal.v := by rw [cellsV_eq (x := .mb cs) (cs_mb cs) hm]
    have := Took.one hs hn (.box (cs.map .v)) ⟨b, [b], .pointer none, 0⟩ (fun _ _ _ => ⟨rfl, rfl, vals, t, h1, IRs.ofVRs h2⟩) hf
    refine ⟨_, by simpa only [imp, hcs] using this, ?_⟩
    simp only [imp, IR, updL]
    exact ⟨rfl, _, upd_same _ _ _, Nat.le_refl _, fun _ => by simp [upd_same, Obj.stride]⟩
  | .iter, x, v, bs, n, st, G, hs, hx, hfr, hf => by
    have hn : G n = none := hfr n (Nat.le_refl _) (by simp [imp])
    have := Took.one hs hn (.iter x) ⟨0, bs, v, 0⟩ (fun _ _ _ => ⟨rfl, hx⟩) hf
    refine ⟨_, by simpa only [imp, xs_sl] using this, ?_⟩
    simp only [imp, IR, updL]
    refine ⟨?_, _, upd_same _ _ _, fun _ => rfl⟩
    simp only [XS] at hx
    obtain ⟨_, _, _, _, _, rfl, _⟩ := hx
    rfl
  | .boxs ss, x, v, bs, n, st, G, hs, hx, hfr, hf => by
    simp only [XS] at hx
    obtain ⟨cs, b, vals, bs', t, rfl, rfl, rfl, hb, hx⟩ := hx
    simp only [imp, cs_mb] at hfr ⊢
    have hge := imps_ge ss cs n
    obtain ⟨G1, h1, h2⟩ := imps_sound ss cs vals bs' n st G hs hx (fun i a b => hfr i a (by omega)) hf.left
    have hn : G1 (imps ss cs n).2.2 = none := by
      cases hg : G1 (imps ss cs n).2.2 with
      | none => rfl
      | some g =>
        rcases h1.fresh _ (by rw [hg]; simp) with h | ⟨_, h⟩
        · exact absurd (hfr _ hge (by omega)) h
        · omega
    have h3 := Took.one h1.sim hn (.box (imps ss cs n).1) ⟨b, [b], .pointer none, 0⟩ (fun loc' G' he => ⟨rfl, rfl, vals, t, hb, h2.mono (Kt.le.refl _) he⟩) (hf.right h1)
    have h4 := h1.trans hge (Nat.le_succ _) h3
    refine ⟨_, h4, ?_⟩
    simp only [IR, updL_append, updL]
    exact ⟨rfl, _, upd_same _ _ _, Nat.le_refl _, fun _ => by simp [upd_same, Obj.stride]⟩
  | .agg ss, x, v, bs, n, st, G, hs, hx, hfr, hf => by
    simp only [XS] at hx
    obtain ⟨cs, vals, rfl, rfl, hx⟩ := hx
    obtain ⟨G', h1, h2⟩ := imps_sound ss cs vals bs n st G hs hx (by simpa only [imp, cs_agg, cs_tup] using hfr) hf
    exact ⟨G', by simpa only [imp, cs_agg, cs_tup] using h1, by simp only [imp, IR, cs_agg, cs_tup]; exact ⟨vals, rfl, h2⟩⟩
  | .tup ss, x, v, bs, n, st, G, hs, hx, hfr, hf => by
    simp only [XS] at hx
    obtain ⟨cs, vals, rfl, rfl, hx⟩ := hx
    obtain ⟨G', h1, h2⟩ := imps_sound ss cs vals bs n st G hs hx (by simpa only [imp, cs_agg, cs_tup] using hfr) hf
    exact ⟨G', by simpa only [imp, cs_agg, cs_tup] using h1, by simp only [imp, IR, cs_agg, cs_tup]; exact ⟨vals, rfl, h2⟩⟩
theorem imps_sound : ∀ (ss : List Shape) (xs : List SVal) (vs : List Value) (bs : List Nat) (n : Nat) (st : St) (G : Gt), Sim c.triv K G ov ds st a w → XSs c.H K c.l w ss xs vs bs → (∀ i, n ≤ i → i < (imps ss xs n).2.2 → G i = none) → Free c K G st.loc ds w bs →
    ∃ G', Took c K G ov ds st a w n (imps ss xs n).2.2 bs (imps ss xs n).2.1 G' ∧ IRs K c.l (updL st.loc (imps ss xs n).2.1) G' (imps ss xs n).1 vs
  | [], xs, vs, bs, n, st, G, hs, hx, _, _ => by
    simp only [XSs] at hx
    obtain ⟨rfl, rfl, rfl⟩ := hx
    exact ⟨G, by simpa only [imps] using Took.nil hs n [], by simp [imps, IRs]⟩
  | s :: ss, xs, vs, bs, n, st, G, hs, hx, hfr, hf => by
    simp only [XSs] at hx
    obtain ⟨x, xt, v, vt, b1, b2, rfl, rfl, rfl, hx1, hx2⟩ := hx
    simp only [imps, List.headD_cons, List.tail_cons] at hfr ⊢
    have g1 := imp_ge s x n
    have g2 := imps_ge ss xt (imp s x n).2.2
    obtain ⟨G1, h1, h2⟩ := imp_sound s x v b1 n st G hs hx1 (fun i a b => hfr i a (by omega)) hf.left
    have hs1 := h1.sim
    obtain ⟨G2, h3, h4⟩ := imps_sound ss xt vt b2 (imp s x n).2.2 { st with loc := updL st.loc (imp s x n).2.1 } G1 hs1 hx2 (fun i a b => by
      cases hg : G1 i with
      | none => rfl
      | some g =>
        rcases h1.fresh i (by rw [hg]; simp) with h | ⟨_, h⟩
        · exact absurd (hfr i (by omega) b) h
        · omega) (hf.right h1)
    refine ⟨G2, h1.trans g1 g2 h3, ?_⟩
    simp only [IRs, updL_append]
    exact ⟨v, vt, rfl, h2.mono (Kt.le.refl _) h3.ext, h4⟩
end
end
end Go.Lm
end
section
namespace Go.Lm
/-! ### The contract of a function -/
def yArgs : Value → Array Value | .tuple vs => vs | v => #[v]
def Yields (P : Program) (l : Nat) (J Jx : Prot) (full : List SVal) (B : Nat → Prop) : Prop :=
  ∀ (ov : List Value) (K : Kt) (O : Nat → Prop) (w : World) (xs : List SVal) (x : SVal) (v : Value), J ov K O w → VRs K l xs ov → VR K l x v → (∃ rest, full = xs ++ x :: rest) → Kok K w → (∀ b, O b ∨ B b → b < w.heap.size) → (∀ b, O b → ∀ o, K b o = none) →
    ∃ (fn : Nat) (tmps : Array Value) (assign body : Code), (Instr.yield l (yArgs v)).run P w = .ok (.round l fn tmps assign body) w ∧
      RoundIn Fence.wide 0 P l fn tmps assign body w (fun e w' => ∃ (b : Bool) (K' : Kt), e = .returned (.bool b) ∧ K.le K' ∧ Kok K' w' ∧ SameW w w' ∧
        (∀ b, O b ∨ B b → vw w' b = vw w b) ∧ (∀ b o u, O b ∨ B b → K' b o = some u → K b o = some u) ∧
        (b = true → J (ov ++ [v]) K' O w') ∧ (b = false → Jx (ov ++ [v]) K' O w'))
section
variable (H : Nat → FH) (K : Kt) (l : Nat) (w : World)
def XL : List Shape → List SVal → List Value → List (List Nat) → Prop
  | [], [], [], [] => True
  | s :: ss, x :: xs, v :: vs, b :: bs => XS H K l w s x v b ∧ XL ss xs vs bs
  | _, _, _, _ => False
/-- Rows that are handed back as they then are. -/
def BackR : List Shape → List Value → List (List Nat) → List SVal → Prop
  | .own sz :: ss, v :: vs, b :: bss, outs => ∃ xs outs' blk, outs = .sl sz true false xs :: outs' ∧ OwnR K l w sz xs v blk b ∧ BackR ss vs bss outs'
  | _ :: ss, _ :: vs, _ :: bss, outs => BackR ss vs bss outs
  | _, _, _, _ => True
end
def ownBs : List Shape → List (List Nat) → List Nat
  | .own _ :: ss, b :: bss => b ++ ownBs ss bss
  | _ :: ss, _ :: bss => ownBs ss bss
  | _, _ => []
def GoodPost (P : Program) (H : Nat → FH) (f : Nat) (r : Res) (K : Kt) (O : Nat → Prop) (l : Nat) (J Jx : Prot) (vals : List Value) (bss : List (List Nat)) (w : World) (e : Ending) (w' : World) : Prop :=
  ∃ v K', e = .returned v ∧ Kok K' w' ∧ K.le K' ∧ (∀ b o u, O b → K' b o = some u → K b o = some u) ∧ SameW w w' ∧ (∀ b, O b → vw w' b = vw w b) ∧
    ((∃ bs bk ov, XS H K' l w' (H f).res r.r v bs ∧ (bs ++ bk).Nodup ∧ (∀ b ∈ bs ++ bk, b < w'.heap.size ∧ ¬ O b ∧ ∀ o, K' b o = none) ∧
      ((H f).back = true → bk = ownBs (H f).params bss ∧ BackR K' l w' (H f).params vals bss r.outs) ∧ ((H f).back = false → bk = []) ∧ (isGen H f = true → VRs K' l r.out ov ∧ J ov K' (· ∈ bs) w')) ∨
     (isGen H f = true ∧ VR K' l (stopVal P f) v ∧ ∃ pre, Jx pre K' (fun _ => False) w'))
def EnterOk (P : Program) (f : Nat) : Prop := ∀ args w, (callFunc f args).run P w = .ok (.enter f args) w
def Good (P : Program) (H : Nat → FH) (f : Nat) (args : List SVal) (r : Res) : Prop :=
  EnterOk P f ∧
  ∀ (K : Kt) (O : Nat → Prop) (l : Nat) (J Jx : Prot) (vals : List Value) (bss : List (List Nat)) (w : World), Kok K w → (∀ b, O b → b < w.heap.size) → XL H K l w (H f).params args vals bss →
    bss.flatten.Nodup → (∀ b ∈ bss.flatten, b < w.heap.size ∧ ¬ O b ∧ ∀ o, K b o = none) → Stable J → Stable Jx → (isGen H f = true → J [] K (· ∈ bss.flatten) w ∧ Yields P l J Jx r.out O) →
    Calls P f vals.toArray w (GoodPost P H f r K O l J Jx vals bss w)
/-! ### Lists of places -/
theorem nodupB_spec : ∀ {l : List Nat}, nodupB l = true → l.Nodup
  | [], _ => List.nodup_nil
  | x :: xs, h => by
    simp only [nodupB, Bool.and_eq_true, Bool.not_eq_true'] at h
    exact List.nodup_cons.2 ⟨fun hm => absurd (List.contains_iff_mem.2 hm) (by rw [h.1]; simp), nodupB_spec h.2⟩
theorem disjB_spec {a b : List Nat} (h : disjB a b = true) {x : Nat} (ha : x ∈ a) : x ∉ b := fun hb => by
  have h1 : (!b.contains x) = true := List.all_eq_true.1 h x ha
  rw [List.contains_iff_mem.2 hb] at h1
  cases h1
section
variable {c : Ctx} {K : Kt} {G : Gt} {ov : List Value} {ds : List Nat} {st : St} {a : Act} {w : World}
theorem mem_bsO {G : Gt} {ids : List Nat} {b : Nat} : b ∈ bsO G ids ↔ ∃ i ∈ ids, ∃ g, G i = some g ∧ b ∈ g.bs := by
  simp only [bsO, List.mem_flatMap]
  constructor
  · rintro ⟨i, hi, hb⟩
    cases hg : G i with
    | none => rw [hg] at hb; simp at hb
    | some g => rw [hg] at hb; exact ⟨i, hi, g, hg, hb⟩
  · rintro ⟨i, hi, g, hg, hb⟩
    exact ⟨i, hi, by rw [hg]; exact hb⟩
theorem bsO_nodup (hs : Sim c K G ov ds st a w) : ∀ {ids : List Nat}, ids.Nodup → (∀ i ∈ ids, ∃ g, G i = some g ∧ (st.loc i).live = true) → (bsO G ids).Nodup
  | [], _, _ => List.nodup_nil
  | i :: ids, hn, hl => by
    obtain ⟨hi, hn⟩ := List.nodup_cons.1 hn
    obtain ⟨g, hg, hlive⟩ := hl i (by simp)
    have e : bsO G (i :: ids) = g.bs ++ bsO G ids := by simp [bsO, hg]
    rw [e]
    refine List.nodup_append.2 ⟨hs.nd i g hg hlive, bsO_nodup hs hn fun j hj => hl j (by simp [hj]), fun b hb b' hb' hbb => ?_⟩
    subst hbb
    obtain ⟨j, hj, g', hg', hb'⟩ := mem_bsO.1 hb'
    obtain ⟨g2, hg2, hl2⟩ := hl j (by simp [hj])
    rw [hg'] at hg2; cases hg2
    exact hs.sep i j g g' b (fun e => hi (e ▸ hj)) hg hg' hlive hl2 hb hb'
theorem flat_bsO (G : Gt) : ∀ (es : List Ex), (es.map fun e => bsO G e.con).flatten = bsO G (es.flatMap (·.con))
  | [] => rfl
  | e :: es => by rw [List.map_cons, List.flatten_cons, List.flatMap_cons, bsO_append, flat_bsO G es]
/-- The arguments' exports. -/
inductive Exps (H : Nat → FH) (loc : Nat → Obj) : List Shape → List IVal → List Ex → Prop
  | nil : Exps H loc [] [] []
  | cons {s iv e ss ivs es} : ExpS H loc s iv e → Exps H loc ss ivs es → Exps H loc (s :: ss) (iv :: ivs) (e :: es)
theorem exps_of {H : Nat → FH} {loc : Nat → Obj} : ∀ {ss : List Shape} {ivs : List IVal} {es : List Ex}, ivs.length = ss.length → es.length = ivs.length →
    (∀ (j : Nat) (s : Shape) (iv : IVal) (e : Ex), ss[j]? = some s → ivs[j]? = some iv → es[j]? = some e → ExpS H loc s iv e) → Exps H loc ss ivs es
  | [], [], [], _, _, _ => .nil
  | s :: ss, iv :: ivs, e :: es, h1, h2, h => .cons (h 0 s iv e rfl rfl rfl) (exps_of (by simpa using h1) (by simpa using h2) fun j s iv e a b d => h (j + 1) s iv e (by simpa using a) (by simpa using b) (by simpa using d))
  | [], _ :: _, _, h, _, _ => by simp at h
  | _ :: _, [], _, h, _, _ => by simp at h
  | [], [], _ :: _, _, h, _ => by simp at h
  | _ :: _, _ :: _, [], _, h, _ => by simp at h
theorem exArgs_spec {H : Nat → FH} {st : St} {f : Nat} {ivs : List IVal} {es : List Ex} (h : exArgs H st f ivs = some es) (hl : ivs.length = (H f).params.length) : Exps H st.loc (H f).params ivs es := by
  have hn := mapO_len h
  rw [List.length_zip] at hn
  refine exps_of hl (by omega) fun j s iv e h1 h2 h3 => ?_
  obtain ⟨z, hz, hf⟩ := mapO_get' h h3
  rw [List.getElem?_zip_eq_some] at hz
  rw [h1, h2] at hz
  obtain ⟨h4, h5⟩ := hz
  cases h4; cases h5
  exact expS_inv 6 _ _ _ hf
/-- The arguments as they are handed over. -/
theorem exps_XL (hs : Sim c K G ov ds st a w) {ids : List Nat} : ∀ {ss : List Shape} {ivs : List IVal} {es : List Ex} {vals : List Value}, Exps c.H st.loc ss ivs es → (∀ i ∈ es.flatMap (·.brw), i ∈ ids) → IRs K c.l st.loc G ivs vals →
    XL c.H (frzK K G st.loc ids w) c.l w ss (es.map (·.x)) vals (es.map fun e => bsO G e.con) ∧ ∀ i ∈ es.flatMap (·.con), ∃ g, G i = some g ∧ (st.loc i).live = true
  | _, _, _, vals, .nil, _, hv => by
    simp only [IRs] at hv
    subst hv
    exact ⟨trivial, by simp⟩
  | _, _, _, vals, .cons (e := e) (es := es) he hr, hb, hv => by
    simp only [IRs] at hv
    obtain ⟨v, vt, rfl, h1, h2⟩ := hv
    obtain ⟨k1, k2⟩ := expS_sound hs (ids := ids) he (fun i hi => hb i (by simp [hi])) v h1
    obtain ⟨k3, k4⟩ := exps_XL hs hr (fun i hi => hb i (by
      rw [List.flatMap_cons]; exact List.mem_append.2 (.inr hi))) h2
    refine ⟨⟨k1, k3⟩, fun i hi => ?_⟩
    rw [List.flatMap_cons] at hi
    rcases List.mem_append.1 hi with hi | hi
    · exact k2 i hi
    · exact k4 i hi
theorem exps_cl {H : Nat → FH} {loc : Nat → Obj} : ∀ {ss : List Shape} {ivs : List IVal} {es : List Ex}, Exps H loc ss ivs es → Closed loc (es.flatMap (·.brw))
  | _, _, _, .nil => by intro i hi; simp at hi
  | _, _, _, .cons he hr => by
    rw [List.flatMap_cons]
    exact (expS_cl he).union (exps_cl hr)
theorem OwnR.blk {K K' : Kt} {l : Nat} {w w' : World} {sz sz' : Nat} {xs xs' : List SVal} {v : Value} {b b' : Nat} {bs : List Nat} (h : OwnR K l w sz xs v b bs) (h' : OwnR K' l w' sz' xs' v b' bs) : OwnR K' l w' sz' xs' v b bs := by
  obtain ⟨p, h⟩ := h
  obtain ⟨p', h'⟩ := h'
  refine ⟨p', ?_⟩
  rcases h with ⟨_, rfl, _⟩ | ⟨e, _⟩
  · rcases h' with h' | ⟨e', _⟩
    · exact .inl h'
    · cases e'
  · rcases h' with h' | ⟨e', r⟩
    · exact .inl h'
    · rw [e] at e'; cases e'
      exact .inr ⟨e, r⟩
/-- What becomes of the objects handed over. -/
theorem updL_not_mem : ∀ (l : List (Nat × Obj)) (f : Nat → Obj) (j : Nat), j ∉ l.map (·.1) → updL f l j = f j
  | [], _, _, _ => rfl
  | (i, o) :: l, f, j, h => by
    simp only [List.map_cons, List.mem_cons, not_or] at h
    simp only [updL]
    rw [updL_not_mem l _ j h.2, upd_other _ _ h.1]
theorem conW_ids (loc : Nat → Obj) (back : Bool) : ∀ (zs : List (Shape × Ex)) (outs : List SVal) (j : Nat), j ∉ zs.flatMap (·.2.con) → j ∉ (conW loc back zs outs).map (·.1)
  | [], _, _, _ => by simp [conW]
  | (s, e) :: zs, outs, j, h => by
    rw [List.flatMap_cons, List.mem_append, not_or] at h
    have hm : ∀ (l : List Nat), j ∉ l → j ∉ (l.map fun i => (i, Obj.dead)).map (·.1) := fun l hl => by simpa using hl
    have ih := fun outs => conW_ids loc back zs outs j h.2
    simp only [conW]
    rw [List.map_append, List.mem_append, not_or]
    refine ⟨?_, ih _⟩
    unfold conH
    split
    · split
      · rename_i i hc
        have hji : j ≠ i := fun e => h.1 (by rw [e]; simp [hc])
        split
        · split
          · simpa using hji
          · simp
        · simpa using hji
      · exact hm _ h.1
    · exact hm _ h.1
end
end Go.Lm
end
section
namespace Go.Lm
section
variable {P : Program} {c : Ctx} {K : Kt} {G : Gt} {ov : List Value} {ds : List Nat} {st : St} {a : Act} {w : World}
theorem updL_dead (loc0 : Nat → Obj) (l : List Nat) (i : Nat) (h : i ∈ l) : updL loc0 (l.map fun i => (i, Obj.dead)) i = .dead := by
  have := updL_mem loc0 (fun _ => Obj.dead) l loc0 (fun _ => .inl rfl) i
  rw [this, if_pos h]
theorem conW_cons (loc : Nat → Obj) (back : Bool) (s : Shape) (e : Ex) (zs : List (Shape × Ex)) (outs : List SVal) : conW loc back ((s, e) :: zs) outs = conH loc back s e outs ++ conW loc back zs (conT s outs) := by
  rfl
theorem conW_ok (hs : Sim c K G ov ds st a w) {K' : Kt} {w' : World} {back : Bool} : ∀ {ss : List Shape} {ivs : List IVal} {es : List Ex} {vals : List Value} {outs : List SVal} (loc0 : Nat → Obj), Exps c.H st.loc ss ivs es → IRs K c.l st.loc G ivs vals →
    (es.flatMap (·.con)).Nodup → (back = true → BackR K' c.l w' ss vals (es.map fun e => bsO G e.con) outs) →
    ∀ i g, G i = some g → i ∈ es.flatMap (·.con) → updL loc0 (conW st.loc back (ss.zip es) outs) i = .dead ∨
      (back = true ∧ (∀ b ∈ g.bs, b ∈ ownBs ss (es.map fun e => bsO G e.con)) ∧ ∃ ver sz xs xs', st.loc i = .arr ver sz xs ∧ updL loc0 (conW st.loc back (ss.zip es) outs) i = .arr ver sz xs' ∧ OwnR K' c.l w' sz xs' g.val g.blk g.bs)
  | _, _, _, _, _, _, .nil, _, _, _ => by intro i g _ hi; simp at hi
  | _, _, _, vals, outs, loc0, .cons (s := s) (iv := iv) (e := e) (ss := ss) (ivs := ivs) (es := es) he hr, hv, hn, hb => by
    intro i g hg hi
    simp only [IRs] at hv
    obtain ⟨v, vt, rfl, hv1, hv2⟩ := hv
    rw [List.flatMap_cons] at hn hi
    rw [List.zip_cons_cons, conW_cons, updL_append]
    obtain ⟨hn1, hn2, hn3⟩ := List.nodup_append.1 hn
    by_cases hie : i ∈ e.con
    · have hnot : i ∉ (conW st.loc back (ss.zip es) (conT s outs)).map (·.1) := conW_ids _ _ _ _ _ fun hm => by
        obtain ⟨z, hz, hm⟩ := List.mem_flatMap.1 hm
        exact hn3 i hie i (List.mem_flatMap.2 ⟨z.2, (List.of_mem_zip hz).2, hm⟩) rfl
      rw [updL_not_mem _ _ _ hnot]
      have dead : conH st.loc back s e outs = e.con.map (fun i => (i, .dead)) → updL loc0 (conH st.loc back s e outs) i = .dead := fun h => by
        rw [h]; exact updL_dead _ _ _ hie
      cases he with
      | @own i' ver sz xs hl =>
        simp only [List.mem_singleton] at hie
        subst hie
        cases back with
        | false => exact .inl (dead rfl)
        | true =>
          have hb := hb rfl
          simp only [List.map_cons, BackR] at hb
          obtain ⟨xs', outs', blk, rfl, ho, _⟩ := hb
          have hval : v = g.val := by
            simp only [IR] at hv1
            obtain ⟨_, g', hg', _, hval⟩ := hv1
            rw [hg] at hg'; cases hg'
            exact hval (by simp [hl, Obj.ver?])
          have hor := hs.objs i g hg
          rw [hl] at hor
          refine .inr ⟨rfl, fun b hbm => ?_, ver, sz, xs, xs', hl, by simp [conH, ownSz, hl, updL, upd_same], ?_⟩
          · simp only [List.map_cons, ownBs]
            exact List.mem_append.2 (.inl (by rw [bsO_one hg]; exact hbm))
          · rw [hval, bsO_one hg] at ho
            exact hor.2.blk ho
      | plain _ => simp at hie
      | slc _ => simp at hie
      | sc1 => simp at hie
      | scs _ => simp at hie
      | ownNil _ => simp at hie
      | rp _ _ => simp at hie
      | yld => simp at hie
      | box _ _ _ => exact .inl (dead rfl)
      | it _ => exact .inl (dead rfl)
      | iter _ _ _ _ _ => exact .inl (dead rfl)
      | agg _ _ _ => exact .inl (dead rfl)
      | tup _ _ _ => exact .inl (dead rfl)
      | boxs _ _ _ _ => exact .inl (dead rfl)
    · have hir : i ∈ es.flatMap (·.con) := (List.mem_append.1 hi).resolve_left hie
      have hbt : back = true → BackR K' c.l w' ss vt (es.map fun e => bsO G e.con) (conT s outs) := fun h => by
        have hb := hb h
        cases s with
        | own sz =>
          simp only [List.map_cons, BackR] at hb
          obtain ⟨xs', outs', blk, rfl, _, hb⟩ := hb
          exact hb
        | _ => simp only [List.map_cons, BackR] at hb; exact hb
      rcases conW_ok hs (updL loc0 (conH st.loc back s e outs)) hr hv2 hn2 hbt i g hg hir with h | ⟨h1, h2, h3⟩
      · exact .inl h
      · refine .inr ⟨h1, fun b hbm => ?_, h3⟩
        have := h2 b hbm
        cases s <;> simp only [List.map_cons, ownBs] <;> first | exact this | exact List.mem_append.2 (.inr this)
theorem XL_flat {H : Nat → FH} {K : Kt} {l : Nat} {w : World} : ∀ {ss : List Shape} {xs : List SVal} {vs : List Value} {bs : List (List Nat)}, XL H K l w ss xs vs bs → vs.length = ss.length ∧ xs.length = ss.length
  | [], [], [], [], _ => ⟨rfl, rfl⟩
  | _ :: ss, _ :: xs, _ :: vs, _ :: bs, h => by
    obtain ⟨h1, h2⟩ := XL_flat h.2
    exact ⟨by simp [h1], by simp [h2]⟩
  | [], _ :: _, _, _, h => by simp [XL] at h
  | [], [], _ :: _, _, h => by simp [XL] at h
  | [], [], [], _ :: _, h => by simp [XL] at h
  | _ :: _, [], _, _, h => by simp [XL] at h
  | _ :: _, _ :: _, [], _, h => by simp [XL] at h
  | _ :: _, _ :: _, _ :: _, [], h => by simp [XL] at h
/-- What a call comes to. -/
def CallOk (c : Ctx) (G : Gt) (ov : List Value) (ds : List Nat) (st : St) (a : Act) (id : Nat) (u : Upd) (e : Ending) (w' : World) : Prop :=
  ∃ v K' G', e = .returned v ∧ Sim c K' G' ov ds { st with loc := updL st.loc u.wr } a w' ∧ IR K' c.l (updL st.loc u.wr) G' u.val v ∧ ∀ i, G' i ≠ none → G i ≠ none ∨ (id ≤ i ∧ i < id + 32)
theorem frzS_con {loc : Nat → Obj} {ids : List Nat} {i : Nat} (h : i ∉ ids) : frzS loc ids i = loc i := if_neg h
theorem call_sound (hs : Sim c K G ov ds st a w) {f id : Nat} {es : List Ex} {x : Res} {ivs : List IVal} {vals : List Value} (hgood : Good P c.H f (es.map (·.x)) x) (hng : isGen c.H f = false) (hv : IRs K c.l st.loc G ivs vals) (hfr : ∀ i, id ≤ i → i < id + 32 → G i = none)
    (h1 : exArgs c.H st f ivs = some es) (h2 : (nodupB (es.flatMap (·.con)) && disjB (es.flatMap (·.con)) (es.flatMap (·.brw)) && (ivs.length == (c.H f).params.length)) = true) (h4 : (imp (c.H f).res x.r id).2.2 ≤ id + 32) :
    Calls P f vals.toArray w (CallOk c G ov ds st a id (callU c.H st.loc id f es x)) := by
  simp only [Bool.and_eq_true, beq_iff_eq] at h2
  obtain ⟨⟨hnd, hdj⟩, hlen⟩ := h2
  have hnd := nodupB_spec hnd
  have hex := exArgs_spec h1 hlen
  generalize hids : es.flatMap (·.brw) = ids at *
  have hcl : Closed st.loc ids := hids ▸ exps_cl hex
  obtain ⟨hXL, hlive⟩ := exps_XL hs (ids := ids) hex (fun i hi => hids ▸ hi) hv
  have hs1 := hs.freeze ids hcl
  generalize hK1 : frzK K G st.loc ids w = K1 at *
  have hflat := flat_bsO G es
  generalize hcon : es.flatMap (·.con) = con at *
  have hcon1 : ∀ i ∈ con, frzS st.loc ids i = st.loc i := fun i hi => frzS_con (disjB_spec hdj hi)
  have hlive1 : ∀ i ∈ con, ∃ g, G i = some g ∧ (frzS st.loc ids i).live = true := fun i hi => by rw [hcon1 i hi]; exact hlive i hi
  have hnodup := bsO_nodup hs hnd hlive
  have hmem : ∀ b ∈ bsO G con, ∃ i ∈ con, ∃ g, G i = some g ∧ (frzS st.loc ids i).live = true ∧ b ∈ g.bs := fun b hb => by
    obtain ⟨i, hi, g, hg, hb⟩ := mem_bsO.1 hb
    obtain ⟨g', hg', hl⟩ := hlive1 i hi
    rw [hg] at hg'; cases hg'
    exact ⟨i, hi, g, hg, hl, hb⟩
  have hOwn1 : ∀ b ∈ bsO G con, b < w.heap.size ∧ ¬ c.O b ∧ b ∉ ds ∧ ∀ o, K1 b o = none := fun b hb => by
    obtain ⟨i, hi, g, hg, hl, hb⟩ := hmem b hb
    exact hs1.own i g hg hl b hb
  refine Calls.mono (hgood.2 K1 (fun b => b < w.heap.size ∧ b ∉ bsO G con) c.l (fun _ _ _ _ => True) (fun _ _ _ _ => True) vals (es.map fun e => bsO G e.con) w hs1.kok (fun b h => h.1) hXL (by rw [hflat]; exact hnodup)
    (fun b hb => by rw [hflat] at hb; obtain ⟨k1, _, _, k4⟩ := hOwn1 b hb; exact ⟨k1, fun h => h.2 hb, k4⟩) (fun _ _ _ _ _ _ _ _ _ => trivial) (fun _ _ _ _ _ _ _ _ _ => trivial) (fun h => by rw [hng] at h; cases h)) ?_
  rintro e w' ⟨v, K', rfl, hkok, hle, hKO, hsame, hframe, hpost⟩
  obtain ⟨bs, bk, ov', hX, hbn, hbb, hbk1, hbk2, _⟩ := hpost.resolve_right fun h => by rw [hng] at h; cases h.1
  have hO : ∀ b, b < w.heap.size → b ∉ bsO G con → vw w' b = vw w b := fun b h h' => hframe b ⟨h, h'⟩
  have hsep1 : ∀ i g, i ∉ con → G i = some g → (frzS st.loc ids i).live = true → ∀ b ∈ g.bs, b ∉ bsO G con := fun i g hi hg hl b hb hm => by
    obtain ⟨j, hj, g', hg', hl', hb'⟩ := hmem b hm
    exact hs1.sep i j g g' b (fun e => hi (e ▸ hj)) hg hg' hl hl' hb hb'
  have hW := fun i g => conW_ok hs (K' := K') (w' := w') (back := (c.H f).back) (outs := x.outs) (frzS st.loc ids) hex hv (hcon ▸ hnd) (fun h => (hbk1 h).2) i g
  rw [hcon] at hW
  generalize hcw : updL (frzS st.loc ids) (conW st.loc (c.H f).back ((c.H f).params.zip es) x.outs) = loc1 at *
  have hnotc : ∀ i, i ∉ con → loc1 i = frzS st.loc ids i := fun i hi => by
    rw [← hcw]
    refine updL_not_mem _ _ _ (conW_ids _ _ _ _ _ fun hm => hi ?_)
    obtain ⟨z, hz, hm⟩ := List.mem_flatMap.1 hm
    rw [← hcon]
    exact List.mem_flatMap.2 ⟨z.2, (List.of_mem_zip hz).2, hm⟩
  have hlive2 : ∀ i g, G i = some g → (loc1 i).live = true → (frzS st.loc ids i).live = true ∧ (i ∉ con ∨ (i ∈ con ∧ ∀ b ∈ g.bs, b ∈ bk)) := fun i g hg hl => by
    by_cases hi : i ∈ con
    · refine ⟨by obtain ⟨g', hg', h⟩ := hlive1 i hi; exact h, .inr ⟨hi, ?_⟩⟩
      rcases hW i g hg hi with h | ⟨hb, h, _⟩
      · rw [h] at hl; cases hl
      · rw [(hbk1 hb).1]; exact h
    · rw [hnotc i hi] at hl
      exact ⟨hl, .inl hi⟩
  have hs2 := hs1.toTriv.step K' w' loc1 ov st.out st.stop hsame hle hkok (fun i g hg => by
      by_cases hi : i ∈ con
      · rcases hW i g hg hi with h | ⟨_, _, ver, sz, xs, xs', q1, q2, q3⟩
        · exact .inr (.inl h)
        · exact .inr (.inr ⟨ver, sz, xs, xs', (hcon1 i hi).trans q1, q2, q3⟩)
      · exact .inl ⟨hnotc i hi, fun hl b hb => hO b (hs1.own i g hg hl b hb).1 (hsep1 i g hi hg hl b hb)⟩)
    (fun i hi => by
      have hic : i ∉ con := fun h => by obtain ⟨g, hg, _⟩ := hlive i h; rw [hi] at hg; cases hg
      rw [hnotc i hic]; exact hs1.gnone i hi)
    (fun b hb => hO b (hs.olt hb) fun hm => (hOwn1 b hm).2.1 hb)
    (fun b o u hb hu => hKO b o u ⟨hs.olt hb, fun hm => (hOwn1 b hm).2.1 hb⟩ hu)
    (fun i g hg hl b hb o => by
      obtain ⟨hl1, hi | ⟨hi, hbk⟩⟩ := hlive2 i g hg hl
      · have k := hs1.own i g hg hl1 b hb
        cases hk : K' b o with
        | none => rfl
        | some u =>
          have := hKO b o u ⟨k.1, hsep1 i g hi hg hl1 b hb⟩ hk
          rw [k.2.2.2 o] at this; cases this
      · exact (hbb b (List.mem_append.2 (.inr (hbk b hb)))).2.2 o)
    (fun d hd => hO d (hs.dlt hd) fun hm => (hOwn1 d hm).2.2.1 hd)
    (fun h => (hs1.outs h).mono hle)
  have hfree : Free c K' G loc1 ds w' bs := by
    refine ⟨(List.nodup_append.1 hbn).1, fun b hb => ?_⟩
    obtain ⟨k1, k2, k3⟩ := hbb b (List.mem_append.2 (.inl hb))
    refine ⟨k1, fun h => k2 ⟨hs.olt h, fun hm => (hOwn1 b hm).2.1 h⟩, fun h => k2 ⟨hs.dlt h, fun hm => (hOwn1 b hm).2.2.1 h⟩, k3, fun j g hg hl hin => ?_⟩
    obtain ⟨hl1, hi | ⟨hi, hbk⟩⟩ := hlive2 j g hg hl
    · exact k2 ⟨(hs1.own j g hg hl1 b hin).1, hsep1 j g hi hg hl1 b hin⟩
    · exact (List.nodup_append.1 hbn).2.2 b hb b (hbk b hin) rfl
  obtain ⟨G', ht, hir⟩ := imp_sound (c := c) (c.H f).res x.r v bs id { st with loc := loc1 } G hs2 hX (fun i a b => hfr i a (by omega)) hfree
  have hloc : updL st.loc (callU c.H st.loc id f es x).wr = updL loc1 (imp (c.H f).res x.r id).2.1 := by
    simp only [callU]
    rw [hids, updL_append, updL_append, updL_frzL, hcw]
  refine ⟨v, K', G', rfl, ?_, by rw [hloc]; exact hir, fun i hi => (ht.fresh i hi).imp (fun h => h) fun h => ⟨h.1, by omega⟩⟩
  rw [hloc]
  have hevo : Evo K1 (OwnB c (frzS st.loc ids) G ds) w K' (OwnB c (updL loc1 (imp (c.H f).res x.r id).2.1) G' ds) w' := by
    have hsub : ∀ b ∈ bsO G con, OwnB c (frzS st.loc ids) G ds b := fun b hb => by
      obtain ⟨i, _, g, hg, hl, hb⟩ := hmem b hb
      exact .inl ⟨i, g, hg, hl, hb⟩
    refine ⟨hsame, fun b hb hn => hO b hb fun hm => hn (hsub b hm), fun b o u hu _ => hkok b o u (hle b o u hu), hle, fun b o u hu => ?_, ?_⟩
    · by_cases hb : b < w.heap.size
      · by_cases hm : b ∈ bsO G con
        · exact .inr (.inl (hsub b hm))
        · exact .inl (hKO b o u ⟨hb, hm⟩ hu)
      · exact .inr (.inr (by omega))
    · rintro b (⟨i, g, hg, hl, hb⟩ | hb)
      · rcases ht.blks i g b hg hl hb with ⟨g0, q1, q2, q3⟩ | q
        · exact .inl (.inl ⟨i, g0, q1, (hlive2 i g0 q1 q2).1, q3⟩)
        · have k2 := (hbb b (List.mem_append.2 (.inl q))).2.1
          by_cases hbl : b < w.heap.size
          · by_cases hm : b ∈ bsO G con
            · exact .inl (hsub b hm)
            · exact absurd ⟨hbl, hm⟩ k2
          · exact .inr (by omega)
      · exact .inl (.inr hb)
  exact ht.sim.ofTriv hs.hJ hs.hJx (fun h => hs.hJ _ _ _ _ _ _ _ (hs1.prot h) hevo) (fun h => let ⟨pre, h⟩ := hs1.protx h; ⟨pre, hs.hJx _ _ _ _ _ _ _ h hevo⟩)
end
end Go.Lm
end
