/- Tabs: the list, where there are neither shadows nor popups; who is in it; there and back. -/
import Derived.Test.YtjcnilaogidhlaaGreatLmBO
set_option linter.unusedVariables false
set_option linter.unusedSimpArgs false
set_option linter.unnecessarySimpa false
set_option linter.all false
namespace Go.Lm
open List
theorem sc_none {v : View} {f : Nat} {x : Int} (h : ownsS v x = false) : scP v f x = [] := by
  cases f with
  | zero => rfl
  | succ f => rw [sc_pieces, itemsS, if_neg (by rw [h]; simp)]; rfl
theorem items_same {v : View} {o : Int} (ho : ownsS v o = true) (h : ∀ k ∈ candL v o, ¬ 0 < idxA v.tree k) : itemsS v o = candL v o := by
  unfold itemsS
  rw [if_pos ho]
  have hz : ∀ k ∈ candL v o, rankN v k = 2147483648 := fun k hk => by
    have h1 := h k hk
    have h2 := (List.mem_filter.1 hk).2
    simp only [candP, Bool.and_eq_true, decide_eq_true_eq] at h2
    have : idxA v.tree k = 0 := by omega
    simp [rankN, rankA, this]
  refine ord_unique (sort_ord _) ?_ (sort_filter _)
  exact List.pairwise_iff_forall_sublist.2 fun {a b} hab => by
    have ha := hz a (hab.subset (by simp)); have hb := hz b (hab.subset (by simp))
    omega
section
variable {v : View} (ht : May v.tree)
include ht
theorem tab_up {n : Int} (hn : isN v.tree n = true) (h : tabA v n = true) : n ≠ 0 ∧ (0 : Int) ∈ fups v.tree n ∧ (0 : Int) ∈ (fups v.tree n).tail := by
  have h3 := h
  simp only [tabA, Bool.and_eq_true, decide_eq_true_eq] at h3
  have hk := isA_kind ht hn h3.1
  have hr : isR v n = true := by
    have := h3.1; simp only [isA, Bool.and_eq_true] at this; exact this.1.2
  have h0 : n ≠ 0 := fun e => by rw [e, kind0 ht] at hk; omega
  have hz := (isR_iff.1 hr).2
  refine ⟨h0, hz, ?_⟩
  have hc : fups v.tree n = n :: fups v.tree (fpar v.tree n) := fups_cons ht hn
  rw [hc] at hz ⊢
  exact (List.mem_cons.1 hz).resolve_left fun e => h0 e.symm
theorem owns_plain (hpp : v.popups = []) (hk : ∀ n, isN v.tree n = true → (nd v.tree n).kind ≠ 3) {n : Int} (hn : isN v.tree n = true) : ownsS v n = decide (n = 0) := by
  have hf := ht.f hn
  have e1 : (nd v.tree n).root = -1 := by
    rcases (hf.plain (hk n hn)).2 with h | h
    · exact h
    · exact absurd h.2.2.1 (hk _ h.2.1)
  have e2 : isSl v.tree n = false := by
    have htop : isN v.tree (topN v.tree n) = true := (shTr ht).upP n hn _ (ord_sub (top_mem ht n hn))
    simp [isSl, hk _ htop]
  simp [ownsS, e1, e2, hpp, nodesP]
theorem owner_plain (hpp : v.popups = []) (hk : ∀ n, isN v.tree n = true → (nd v.tree n).kind ≠ 3) {n : Int} (hn : isN v.tree n = true) (h0 : (0 : Int) ∈ (fups v.tree n).tail) : ownerN v n = 0 := by
  have h1 := fst_some (p := ownsS v) h0 (by simp [ownsS])
  have h2 := (flTr ht).upP n hn _ (List.mem_of_mem_tail h1.1)
  have h3 := h1.2
  rw [owns_plain ht hpp hk h2] at h3
  simpa [ownerN] using h3
theorem scL_plain (hpp : v.popups = []) (hk : ∀ n, isN v.tree n = true → (nd v.tree n).kind ≠ 3) (hi : ∀ n, isN v.tree n = true → ¬ 0 < idxA v.tree n) : scL v = (flL v.tree).filter (tabA v) := by
  have hz := is0 ht
  have e1 : candL v 0 = (flL v.tree).filter (tabA v) := by
    unfold candL
    refine List.filter_congr fun k hkm => ?_
    have hkn := fl_is ht hkm
    rw [Bool.eq_iff_iff]
    constructor
    · intro h
      simp only [candP, Bool.and_eq_true, decide_eq_true_eq, Bool.or_eq_true] at h
      rcases h.2 with h1 | h1
      · rw [owns_plain ht hpp hk hkn] at h1
        have e : k = 0 := by simpa using h1
        have := h.1.1.1.1
        rw [e, kind0 ht] at this; omega
      · exact h1
    · intro h
      have hp : placeN v k = -1 := place_not (by simp [hpp, nodesP])
      have h1 := (tab_item ht hkn h hp).1
      rw [owner_plain ht hpp hk hkn (tab_up ht hkn h).2.2] at h1
      exact (item_mem.1 h1).2.2
  have e2 : itemsS v 0 = candL v 0 := items_same (by simp [ownsS]) fun k hkm => hi k (fl_is ht (List.mem_filter.1 hkm).1)
  unfold scL
  rw [sc_pieces, e2, e1]
  have e3 : ∀ n ∈ (flL v.tree).filter (tabA v), pcL v v.tree.length n = [n] := fun n hn => by
    obtain ⟨h1, h2⟩ := List.mem_filter.1 hn
    have hnn := fl_is ht h1
    have h0 := (tab_up ht hnn h2).1
    have : ownsS v n = false := by rw [owns_plain ht hpp hk hnn]; simp [h0]
    simp [pcL, oneL, h2, sc_none this, hpp]
  rw [flatMap_congr2 e3]
  exact List.flatMap_singleton' _
theorem scL_high (hp : PopsOk v) (hh : highN v ≠ -1) {m : Int} (hm : m ∈ scL v) : highN v ∈ fups v.tree m := by
  obtain ⟨h1, h2, h3, _⟩ := scL_mem ht hp hm
  have h4 := h2
  simp only [tabA, isA, Bool.and_eq_true, Bool.not_eq_true'] at h4
  have h5 := h4.1.2
  simp only [isI, Bool.or_eq_false_iff] at h5
  have h6 := h5.1
  by_cases h : highN v ∈ fups v.tree m
  · exact h
  · simp [blkN, h3, hh, h] at h6
omit ht in
theorem sc_mono : ∀ {f : Nat} {o m : Int}, m ∈ scP v f o → m ∈ scP v (f + 1) o
  | 0, o, m, h => by simp [scP] at h
  | f + 1, o, m, h => by
    rw [sc_succ] at h ⊢
    obtain ⟨c, h1, h2⟩ := List.mem_flatMap.1 h
    refine List.mem_flatMap.2 ⟨c, h1, ?_⟩
    rcases List.mem_append.1 h2 with h2 | h2
    · exact List.mem_append_left _ h2
    · exact List.mem_append_right _ (sc_mono h2)
omit ht in
theorem sc_mono_le {f g : Nat} {o m : Int} (hfg : f ≤ g) (h : m ∈ scP v f o) : m ∈ scP v g o := by
  obtain ⟨d, rfl⟩ : ∃ d, g = f + d := ⟨g - f, by omega⟩
  clear hfg
  induction d with
  | zero => exact h
  | succ d ih => exact sc_mono ih
theorem sc_any (hp : PopsOk v) {m : Int} : ∀ {f : Nat}, m ∈ scP v f 0 → m ∈ scL v := fun {f} h => by
  by_cases hf : f ≤ v.tree.length + 1
  · exact sc_mono_le hf h
  · obtain ⟨d, rfl⟩ : ∃ d, f = v.tree.length + 1 + d := ⟨f - (v.tree.length + 1), by omega⟩
    clear hf
    induction d with
    | zero => exact h
    | succ d ih =>
      refine ih ?_
      rw [sc_stable ht hp (f := v.tree.length + 1 + d) (d := 0) it0 (by omega)]
      exact h
theorem scL_reach (hpp : v.popups = []) {n : Int} (hn : isN v.tree n = true) (h : tabA v n = true) (hkeep : ∀ k ∈ (fups v.tree n).tail, ¬ (hasI v.tree k = true ∧ idxA v.tree k < 0)) : n ∈ scL v := by
  have hp : PopsOk v := fun x hx => by rw [hpp] at hx; simp at hx
  obtain ⟨n0, nz, nt⟩ := tab_up ht hn h
  have hpl : ∀ k, placeN v k = -1 := fun k => place_not (by simp [hpp, nodesP])
  have hc : fups v.tree n = n :: (fups v.tree n).tail := by rw [fups_cons ht hn]; rfl
  have step : ∀ (d : Nat) (m : Int), (fups v.tree m).length ≤ d → m ∈ fups v.tree n → (m = n ∨ ownsS v m = true) → ∀ f, n ∈ oneL v f m → n ∈ scL v := by
    intro d
    induction d with
    | zero =>
      intro m hd hm _ f hf
      have hmn := (flTr ht).upP n hn m hm
      rw [fups_cons ht hmn] at hd
      simp at hd
    | succ d ih =>
      intro m hd hm ho f hf
      have hmn := (flTr ht).upP n hn m hm
      by_cases m0 : m = 0
      · subst m0
        rcases List.mem_append.1 hf with hf | hf
        · split at hf
          · simp at hf; exact absurd hf n0
          · simp at hf
        · exact sc_any ht hp hf
      · have hmc : fups v.tree m = m :: fups v.tree (fpar v.tree m) := fups_cons ht hmn
        have z0 : (0 : Int) ∈ fups v.tree m := by
          rcases (flTr ht).total n hn 0 m nz hm with h1 | h1
          · exact h1
          · rw [fups0 ht] at h1; simp at h1; exact absurd h1 m0
        have zt : (0 : Int) ∈ (fups v.tree m).tail := by
          rw [hmc] at z0 ⊢
          exact (List.mem_cons.1 z0).resolve_left fun e => m0 e.symm
        have hot := fst_some (p := ownsS v) zt (by simp [ownsS])
        have hkind : (nd v.tree m).kind = 1 := by
          rcases ho with rfl | ho
          · simp only [tabA, Bool.and_eq_true] at h; exact isA_kind ht hn h.1
          · simp only [ownsS, Bool.or_eq_true, decide_eq_true_eq, Bool.not_eq_true', decide_eq_false_iff_not, hpp, nodesP, List.map_nil, List.not_mem_nil, or_false] at ho
            rcases ho with (ho | ho) | ho
            · exact absurd ho m0
            · by_cases k3 : (nd v.tree m).kind = 3
              · exact absurd ((ht.f hmn).shad k3).1 ho
              · exact ((ht.f hmn).plain k3).2.resolve_left ho |>.1
            · simp only [isSl, Bool.and_eq_true, decide_eq_true_eq] at ho; exact ho.1.1
        have hidx : 0 ≤ idxA v.tree m := by
          by_cases e : m = n
          · rw [e]; simp only [tabA, Bool.and_eq_true, decide_eq_true_eq] at h; exact h.2
          · have hmt : m ∈ (fups v.tree n).tail := by
              rw [hc] at hm
              exact (List.mem_cons.1 hm).resolve_left e
            have h1 := hkeep m hmt
            by_cases h2 : hasI v.tree m = true
            · by_cases h3 : idxA v.tree m < 0
              · exact absurd ⟨h2, h3⟩ h1
              · omega
            · have h4 : hasA (nd v.tree m) 0 = false := by
                simp only [hasI, Bool.or_eq_true, not_or, Bool.not_eq_true] at h2; exact h2.1.1
              unfold idxA
              cases hg : getA 0 (nd v.tree m).attrs with
              | none => simp
              | some z =>
                obtain ⟨x, x1, x2, _⟩ := get_mem hg
                exfalso
                have : hasA (nd v.tree m) 0 = true := by
                  simp only [hasA, List.any_eq_true]
                  exact ⟨x, x1, by simp [x2]⟩
                rw [this] at h4; exact absurd h4 (by simp)
        have hit : m ∈ itemsS v (ownerN v m) := item_mem.2 ⟨hot.2, (mem_fl ht hmn).2 z0, by
          have : ownsS v m = true ∨ tabA v m = true := by
            rcases ho with rfl | ho
            · exact .inr h
            · exact .inl ho
          simp [candP, hkind, hidx, hpl, this]⟩
        have hch : m ∈ chS v (ownerN v m) := List.mem_flatMap.2 ⟨m, hit, by simp⟩
        have hup : ownerN v m ∈ fups v.tree m := List.mem_of_mem_tail hot.1
        have hlen : (fups v.tree (ownerN v m)).length ≤ d := by
          have hou := hot.1
          rw [hmc, List.tail_cons] at hou
          have hfp : isN v.tree (fpar v.tree m) = true := by
            rcases fpar_is ht hmn with e | e
            · rw [e, fups_nil] at hou; simp at hou
            · exact e
          have h1 := ((flTr ht).suffix _ hfp _ hou).length_le
          rw [hmc, List.length_cons] at hd
          show (fups v.tree (fstP (ownsS v) (fups v.tree m).tail)).length ≤ d
          rw [hmc, List.tail_cons]
          omega
        refine ih (ownerN v m) hlen ((flTr ht).trans hn hm hup) (.inr hot.2) (f + 1) (List.mem_append_right _ ?_)
        rw [sc_succ]
        exact List.mem_flatMap.2 ⟨m, hch, hf⟩
  exact step _ n (Nat.le_refl _) ((flTr ht).up_self hn) (.inl rfl) 0 (by simp [oneL, h])
end
/-! ### All around -/
theorem rnd_f {v : View} (hn : (scL v).Nodup) (h0 : (0 : Int) ∉ scL v) {i : Nat} (hi : i ≤ (scL v).length) : nextP v (if i = 0 then 0 else (scL v).getD (i - 1) 0) false = (scL v).getD i 0 := by
  cases i with
  | zero =>
    rw [if_pos rfl, next_0 h0]
    show (scL v).headD 0 = _
    rw [List.headD_eq_head?_getD, List.head?_eq_getElem?, List.getD_eq_getElem?_getD]
  | succ i =>
    rw [if_neg (by omega)]
    have hi' : i < (scL v).length := by omega
    have e : (scL v).getD (i + 1 - 1) 0 = (scL v)[i] := by simp [hi']
    rw [e, next_fwd hn hi', List.getD_eq_getElem?_getD]
theorem rnd_b {v : View} (hn : (scL v).Nodup) (h0 : (0 : Int) ∉ scL v) {i : Nat} (hi : i ≤ (scL v).length) : nextP v ((scL v).getD i 0) true = if i = 0 then 0 else (scL v).getD (i - 1) 0 := by
  by_cases hl : i < (scL v).length
  · have e : (scL v).getD i 0 = (scL v)[i] := by simp [hl]
    rw [e, next_bwd hn hl]
    split
    · rfl
    · rw [List.getD_eq_getElem?_getD]
  · have hie : i = (scL v).length := by omega
    have e : (scL v).getD i 0 = 0 := by rw [List.getD_eq_getElem?_getD, List.getElem?_eq_none (by omega)]; rfl
    rw [e, next_0 h0]
    show (scL v).reverse.headD 0 = _
    rw [List.headD_eq_head?_getD, List.head?_reverse, List.getLast?_eq_getElem?, ← hie]
    split
    · rename_i h; subst h
      rw [List.getElem?_eq_none (by omega)]; rfl
    · rw [List.getD_eq_getElem?_getD]
/-- There and back. -/
theorem there_back {v : View} (hn : (scL v).Nodup) (h0 : (0 : Int) ∉ scL v) {n : Int} (hm : n ∈ scL v) (b : Bool) (ht : nextP v n b ≠ 0) : nextP v n b ∈ scL v ∧ nextP v (nextP v n b) (!b) = n := by
  obtain ⟨j, hj, rfl⟩ := List.mem_iff_getElem.1 hm
  cases b with
  | false =>
    rw [next_fwd hn hj] at ht ⊢
    by_cases hl : j + 1 < (scL v).length
    · rw [List.getElem?_eq_getElem hl] at ht ⊢
      simp only [Option.getD_some] at ht ⊢
      refine ⟨List.getElem_mem hl, ?_⟩
      show nextP v (scL v)[j + 1] true = _
      rw [next_bwd hn hl, if_neg (by omega)]
      simp [hj]
    · rw [List.getElem?_eq_none (by omega)] at ht
      exact absurd rfl ht
  | true =>
    rw [next_bwd hn hj] at ht ⊢
    cases j with
    | zero => simp at ht
    | succ j =>
      have hl : j < (scL v).length := by omega
      rw [if_neg (by omega)] at ht ⊢
      have e : ((scL v)[j + 1 - 1]?).getD 0 = (scL v)[j] := by simp [hl]
      rw [e]
      refine ⟨List.getElem_mem hl, ?_⟩
      show nextP v (scL v)[j] false = _
      rw [next_fwd hn hl]
      simp [hj]
end Go.Lm
