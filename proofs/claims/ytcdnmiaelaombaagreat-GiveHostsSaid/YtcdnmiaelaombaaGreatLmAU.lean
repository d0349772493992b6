/- Who gets the focus: what is told of it. -/
import Derived.Test.YtcdnmiaelaombaaGreatLmAS
import Derived.Test.YtcdnmiaelaombaaGreatLmAT
set_option linter.unusedVariables false
set_option linter.unusedSimpArgs false
set_option linter.unnecessarySimpa false
set_option linter.all false
section
namespace Go.Proofs.YtcdnmiaelaombaaGreat.K
open Go Go.Lm
set_option linter.unusedSimpArgs false
abbrev encG (v : View) (ds : List Int) : SVal := .agg [encT v.tree, encI v.op, encI v.modal, encP v.popups, encI v.top, .cch ds]
abbrev rpG (v : View) (ds : List Int) : SVal := .rp [encT v.tree, encI v.op, encI v.modal, encP v.popups, encI v.top, .cch ds]
/-- The cache is as it is to be. -/
def DsOk (v : View) (ds : List Int) : Prop := ∀ n : Int, isN v.tree n = true → ds[n.toNat]? = some (delN v n)
@[simp] theorem weak_cch (ds : List Int) : weak (.cch ds) = .cch ds := rfl
@[simp] theorem oneS_cch (ds : List Int) : oneS (.cch ds) = true := rfl
/-! ### The library's rounds -/
theorem sGeach1 : Ev fun k => ∀ (l : List Int) (f : SVal) (g : Int → Int), l.length ≤ 400 → (∀ x ∈ l, callV H (T k) f [int x] = some (int (g x))) → T (k + 1) 76 [.yld, .rp [encI l], .rp [f]] = some { r := .tup [], out := (l.map g).map (SVal.int .i64) } := by
  refine (Ev.ge 1000).mono fun k hk l f g hl hf => ?_
  rw [t76]; unfold R76
  simp only [weak_I, sLen_I, Option.bind_some]
  refine for_list l (fun i (o : List Int) => ⟨[.yld, .rp [f], encI l, int l.length, int i], o.map (SVal.int .i64), false⟩) (fun r i o => (some { r := .tup [], out := (o ++ r.map g).map (SVal.int .i64) } : Option Res)) (fun _ _ => True) (by omega) ?_ ?_ k [] (by omega) trivial
  · intro o next _; simp
  · intro i o x r next hi hx _ _ hw hnx
    have f2 := hf x (hx ▸ List.getElem_mem hi)
    have e1 : SVal.cell (.rp [f]) 0 = f := rfl
    have hnx' := hnx (o ++ [g x]) trivial
    simp [hi, idx_I hi, hx, e1, f2, hw, both_l]
    simpa using hnx'
theorem sGeach : Ev fun k => ∀ (l : List Int) (f : SVal), oneS f = true → T k 52 [encI l, f] = ok (.fn 76 [.rp [encI l], .rp [f]]) := by
  refine Ev.pure 1000 fun k hk l f hf => ?_
  rw [t52]; unfold R52
  simp [hf]
theorem sGfirst : Ev fun k => ∀ (f : SVal) (l : List Int), callIt (T k) f = some (l.map (SVal.int .i64)) → T (k + 1) 51 [f] = ok (int (fstV id l)) := by
  refine (Ev.ge 1000).mono fun k hk f l hf => ?_
  rw [t51]; unfold R51
  simp only [hf, Option.bind_some]
  refine (range_ints (fun _ : Unit => ⟨[.mb [int 0]], [], false⟩) (fun r _ => ok (int (fstV id r))) (fun _ _ => True) ?_ ?_ l () trivial)
  · intro s _; simp [fstV]
  · intro x xs s _ next hnx
    have hnx' := hnx () trivial
    by_cases hx : x = -1
    · simp [hx, fstV]
      simpa using hnx'
    · simp [hx, fstV]
theorem fstV_map (f : Int → Int) : ∀ l : List Int, fstV id (l.map f) = fstV f l
  | [] => rfl
  | x :: l => by
    rw [List.map_cons, fstV, fstV, fstV_map f l]; rfl
/-- The three in a row. -/
theorem sGrow3 : Ev fun k => ∀ (l : List Int) (f : SVal) (g : Int → Int), l.length ≤ 400 → (∀ x ∈ l, callV H (T k) f [int x] = some (int (g x))) → T (k + 2) 51 [.fn 76 [.rp [encI l], .rp [f]]] = ok (int (fstV g l)) := by
  obtain ⟨k0, hall⟩ := sGeach1.and sGfirst
  refine ⟨k0 + 2, fun k hk l f g hl hf => ?_⟩
  obtain ⟨h1, _⟩ := hall k (by omega)
  obtain ⟨_, h2⟩ := hall (k + 1) (by omega)
  have e := h2 (.fn 76 [.rp [encI l], .rp [f]]) (l.map g) (by simp only [callIt, h1 l f g hl hf, Option.bind_some])
  rw [fstV_map] at e
  exact e
theorem delN_eq {v : View} (ht : May v.tree) {n : Int} (hn : isN v.tree n = true) : delN v n = if (nd v.tree n).root ≠ -1 ∧ delA v.tree n = false then -1
    else if fiN v (fromN v.tree n) = -1 then fstV (ofF v (v.tree.length + 3) (decide ((nd v.tree n).tag = 2))) (desL v.tree (fromN v.tree n)).tail else fiN v (fromN v.tree n) := by
  have := delF_stable ht (v.tree.length + 3) n hn (by omega)
  unfold delN
  rw [this, delF_succ]; rfl
theorem call_G (f : Nat) (hp : (H f).params = [.plain, .rp 6]) (hr : (H f).res = .plain) (T : Nat → List SVal → Option Res) (v : View) (ds : List Int) (n : Int) {x : SVal} (h : T f [int n, rpG v ds] = ok x) : callV H T (.fn f [rpG v ds]) [int n] = some x := by
  unfold callV
  simp only [hr, hp]
  rw [if_pos (by rfl)]
  show (T f [int n, rpG v ds]).bind _ = _
  rw [h]; rfl
theorem call_G2 (f : Nat) (hp : (H f).params = [.plain, .rp 6, .rp 1]) (hr : (H f).res = .plain) (T : Nat → List SVal → Option Res) (v : View) (ds : List Int) (b : Bool) (n : Int) {x : SVal} (h : T f [int n, rpG v ds, .rp [.bool b]] = ok x) : callV H T (.fn f [rpG v ds, .rp [.bool b]]) [int n] = some x := by
  unfold callV
  simp only [hr, hp]
  rw [if_pos (by rfl)]
  show (T f [int n, rpG v ds, .rp [.bool b]]).bind _ = _
  rw [h]; rfl
theorem sGdel : ∃ k0, ∀ (d : Nat) (v : View) (ds : List Int), SmV v → chkV v = 0 → DsOk v ds → ∀ n : Int, isN v.tree n = true → v.tree.length + 2 ≤ d + (ups v.tree n).length → ∀ k, k0 + 12 * d ≤ k → T k 28 [encG v ds, int n] = ok (int (delN v n)) := by
  obtain ⟨k1, hb⟩ := sAIs.and (sATabs.and (sADel.and (sPoList.and (sPHas.and (sGeach.and sGrow3)))))
  refine ⟨k1 + 1000, fun d => ?_⟩
  induction d with
  | zero => intro v ds hv hc hds n hn hd; have := ups_len v.tree n; omega
  | succ d ih =>
    intro v ds hv hc hds n hn hd
    have ht := vmay hv hc
    have hlen := ht.sm.len
    obtain ⟨J, hJ⟩ : ∃ J, J = k1 + 1000 + 12 * d := ⟨_, rfl⟩
    have ok1 : ∀ m, isN v.tree m = true → okV v m = true := fun m hm => okV_iff.2 ⟨hc, hm⟩
    have hdel : ∀ j, J ≤ j → ∀ m, isN v.tree m = true → v.tree.length + 2 ≤ d + (ups v.tree m).length → T j 28 [encG v ds, int m] = ok (int (delN v m)) := fun j hj m hm hd' => ih v ds hv hc hds m hm hd' j (by omega)
    have harea : ∀ j, J + 1 ≤ j → ∀ m, isN v.tree m = true → (delA v.tree m = true → v.tree.length + 2 ≤ d + (ups v.tree m).length) → T j 27 [encG v ds, int m] = ok (int (arN v m)) := fun j hj m hm hd' => by
      obtain ⟨i, rfl⟩ : ∃ i, j = i + 1 := ⟨j - 1, by omega⟩
      obtain ⟨b1, _, b3, _⟩ := hb i (by omega)
      rw [show encG v ds = .agg [encT v.tree, encI v.op, encI v.modal, encP v.popups, encI v.top, .cch ds] from rfl, t27]; unfold R27
      simp only [weak_T, weak_I, weak_P, fold_Vv, b1 v m hv, ok1 m hm, Bool.true_and, Option.bind_some, b3 v.tree m hv.tr, may_is ht hm]
      by_cases c1 : isA v m = true
      · simp [c1, arN, arF]
      · by_cases c2 : delA v.tree m = true
        · have e := hdel i (by omega) m hm (hd' c2)
          simp [c1, c2, e, arN, arF, delN]
        · simp [c1, c2, arN, arF]
    have hauto1 : ∀ j, J + 2 ≤ j → ∀ m, isN v.tree m = true → (delA v.tree m = true → v.tree.length + 2 ≤ d + (ups v.tree m).length) → callV H (T j) (.fn 54 [rpG v ds]) [int m] = some (int (autF v (v.tree.length + 3) m)) := fun j hj m hm hd' => by
      obtain ⟨i, rfl⟩ : ∃ i, j = i + 1 := ⟨j - 1, by omega⟩
      obtain ⟨_, _, _, _, b5, _⟩ := hb i (by omega)
      refine call_G _ rfl rfl _ v ds m ?_
      rw [show rpG v ds = .rp [encT v.tree, encI v.op, encI v.modal, encP v.popups, encI v.top, .cch ds] from rfl, t54]; unfold R54
      have e := harea i (by omega) m hm hd'
      have e' : T i 27 [.agg [encT v.tree, encI v.op, encI v.modal, encP v.popups, encI v.top, .cch ds], int m] = ok (int (arN v m)) := e
      simp only [weak_T, weak_I, weak_P, weak_cch, b5 v.tree m 5 hv.tr, may_is ht hm, Bool.true_and, Option.bind_some]
      by_cases c1 : hasA (nd v.tree m) 5 = true
      · simp [c1, e', autF, arN]
      · simp [c1, autF]
    have hauto : ∀ j, J + 5 ≤ j → ∀ m, isN v.tree m = true → (∀ q ∈ desL v.tree m, delA v.tree q = true → v.tree.length + 2 ≤ d + (ups v.tree q).length) → T j 29 [encG v ds, int m] = ok (int (fiN v m)) := fun j hj m hm hd' => by
      obtain ⟨i, rfl⟩ : ∃ i, j = i + 3 := ⟨j - 3, by omega⟩
      obtain ⟨_, _, _, b4, _, b6, _⟩ := hb (i + 2) (by omega)
      obtain ⟨_, _, _, _, _, _, b7⟩ := hb i (by omega)
      have e4 : T (i + 2) 53 [encT v.tree, int m] = ok (encI (desL v.tree m)) := by rw [b4 v.tree m hv.tr, if_pos (may_is ht hm)]
      have hl := des_len ht hm
      have e7 := b7 (desL v.tree m) (.fn 54 [rpG v ds]) (autF v (v.tree.length + 3)) (by omega) fun x hx => hauto1 i (by omega) x (des_is ht hm hx) (hd' x hx)
      have e6 := b6 (desL v.tree m) (.fn 54 [rpG v ds]) rfl
      rw [show encG v ds = .agg [encT v.tree, encI v.op, encI v.modal, encP v.popups, encI v.top, .cch ds] from rfl, t29]; unfold R29
      simp only [weak_T, weak_I, e4, Option.bind_some, e6, e7]
      rfl
    have hdeep : ∀ q ∈ desL v.tree (fromN v.tree n), delA v.tree q = true → v.tree.length + 2 ≤ d + (ups v.tree q).length := fun q hq hdq => by
      have := del_deep ht hn hq hdq; omega
    have hfind1 : ∀ j, J + 1 ≤ j → ∀ (b : Bool) m, m ∈ desL v.tree (fromN v.tree n) → callV H (T j) (.fn 74 [rpG v ds, .rp [.bool b]]) [int m] = some (int (ofF v (v.tree.length + 3) b m)) := fun j hj b m hmm => by
      obtain ⟨i, rfl⟩ : ∃ i, j = i + 1 := ⟨j - 1, by omega⟩
      obtain ⟨b1, b2, b3, _⟩ := hb i (by omega)
      have hm := des_is ht (from_is ht hn).1 hmm
      refine call_G2 _ rfl rfl _ v ds b m ?_
      rw [show rpG v ds = .rp [encT v.tree, encI v.op, encI v.modal, encP v.popups, encI v.top, .cch ds] from rfl, t74]; unfold R74
      simp only [weak_T, weak_I, weak_P, fold_Vv, b1 v m hv, b2 v m hv, ok1 m hm, Bool.true_and, Option.bind_some, b3 v.tree m hv.tr, may_is ht hm, sNot_b, guard_and, guard_or, asB_b, List.getD_cons_zero]
      by_cases c1 : (tabA v m || (!b && isA v m)) = true
      · simp only [c1, pick_t]
        simp [ofF, c1]
      · by_cases c2 : delA v.tree m = true
        · have e := hdel i (by omega) m hm (hdeep m hmm c2)
          have e' : T i 28 [.agg [encT v.tree, encI v.op, encI v.modal, encP v.popups, encI v.top, .cch ds], int m] = ok (int (delN v m)) := e
          simp only [Bool.eq_false_iff.2 c1, pick_f, c2, pick_t, e', Option.bind_some]
          simp [ofF, c1, c2, delN]
        · simp only [Bool.eq_false_iff.2 c1, pick_f, Bool.eq_false_iff.2 c2]
          simp [ofF, c1, c2]
    have hfind : ∀ j, J + 6 ≤ j → T j 50 [encG v ds, int n] = ok (int (delN v n)) := fun j hj => by
      obtain ⟨i, rfl⟩ : ∃ i, j = i + 3 := ⟨j - 3, by omega⟩
      obtain ⟨_, _, b3, b4, _, b6, _⟩ := hb (i + 2) (by omega)
      obtain ⟨_, _, _, _, _, _, b7⟩ := hb i (by omega)
      obtain ⟨f1, f2⟩ := from_is ht hn
      have e4 : T (i + 2) 53 [encT v.tree, int (fromN v.tree n)] = ok (encI (desL v.tree (fromN v.tree n))) := by rw [b4 v.tree _ hv.tr, if_pos (may_is ht f1)]
      have hl := des_len ht f1
      have e5 := hauto (i + 2) (by omega) _ f1 hdeep
      have e5' : T (i + 2) 29 [.agg [encT v.tree, encI v.op, encI v.modal, encP v.popups, encI v.top, .cch ds], int (fromN v.tree n)] = ok (int (fiN v (fromN v.tree n))) := e5
      have e8 : T (i + 2) 73 [encI (desL v.tree (fromN v.tree n))] = ok (.sl 1 true false ((desL v.tree (fromN v.tree n)).map (SVal.int .i64))) := clone1 (i + 1) _ (by simp; omega)
      have hpos : 1 ≤ (desL v.tree (fromN v.tree n)).length := by rw [des_cons ht f1]; simp
      have e9 : sBnd ((desL v.tree (fromN v.tree n)).map (SVal.int .i64)).length (int 1) = some 1 := sBnd_nat (by simpa using hpos)
      have e10 : (SVal.sl 1 false false (((desL v.tree (fromN v.tree n)).map (SVal.int .i64)).drop 1)) = encI (desL v.tree (fromN v.tree n)).tail := by rw [← List.map_drop, List.drop_one]; rfl
      have e6 : ∀ b : Bool, T (i + 2) 52 [encI (desL v.tree (fromN v.tree n)).tail, .fn 74 [rpG v ds, .rp [.bool b]]] = ok (.fn 76 [.rp [encI (desL v.tree (fromN v.tree n)).tail], .rp [.fn 74 [rpG v ds, .rp [.bool b]]]]) := fun b => b6 _ _ rfl
      have e7 := fun b => b7 (desL v.tree (fromN v.tree n)).tail (.fn 74 [rpG v ds, .rp [.bool b]]) (ofF v (v.tree.length + 3) b) (by rw [List.length_tail]; omega) fun x hx => hfind1 i (by omega) b x (List.mem_of_mem_tail hx)
      have exs : (SVal.sl 1 true false ((desL v.tree (fromN v.tree n)).map (SVal.int .i64))).xs = (desL v.tree (fromN v.tree n)).map (SVal.int .i64) := rfl
      have tail : ∀ b : Bool, b = decide ((nd v.tree n).tag = 2) → ((T (i + 2) 53 [encT v.tree, int (fromN v.tree n)]).bind fun r9 => (T (i + 2) 73 [weak r9.r]).bind fun r10 => (sBnd r10.r.xs.length (.int .i64 1)).bind fun n11 =>
          (T (i + 2) 52 [.sl 1 false false (r10.r.xs.drop n11), .fn 74 [rpG v ds, .rp [.bool b]]]).bind fun r12 => (T (i + 2) 51 [r12.r]).bind fun r13 => some ({ r := r13.r } : Res)) = ok (int (fstV (ofF v (v.tree.length + 3) (decide ((nd v.tree n).tag = 2))) (desL v.tree (fromN v.tree n)).tail)) := fun b hbb => by
        simp only [e4, Option.bind_some, weak_I, e8, exs]
        rw [e9]
        simp only [Option.bind_some, e10, e6, e7 b]
        rw [hbb]
      have hkt : (nd v.tree n).tag = 2 → (nd v.tree n).kind = 1 := fun h => tag_kind ht hn (by omega)
      rw [show encG v ds = .agg [encT v.tree, encI v.op, encI v.modal, encP v.popups, encI v.top, .cch ds] from rfl, t50]; unfold R50
      have hone : allOne [.v ((encN (nd v.tree n)).cell 0), .v ((encN (nd v.tree n)).cell 1), .v ((encN (nd v.tree n)).cell 2), .v ((encN (nd v.tree n)).cell 3), .v ((encN (nd v.tree n)).cell 4), .v ((encN (nd v.tree n)).cell 5), .v ((encN (nd v.tree n)).cell 6)] = true := rfl
      have b3' : T (i + 2) 49 [encT v.tree, int n] = ok (.bool (delA v.tree n)) := by rw [b3 v.tree n hv.tr, may_is ht hn, Bool.true_and]
      simp only [idx_nd hn, Option.bind_some]
      rw [if_pos hone]
      simp only [encN_c0, encN_c1, encN_c5, weak_T, weak_I, weak_P, weak_cch, b3', sBin_neq, sBin_eql, sNot_b, Option.bind_some]
      by_cases hr : (nd v.tree n).root = -1
      · have ef : fromN v.tree n = n := by unfold fromN; rw [if_pos hr]
        have eD := delN_eq ht hn
        rw [if_neg (fun h => h.1 hr)] at eD
        rw [ef] at e5' tail eD
        simp only [hr, decide_true, Bool.not_true, pick_f, e5', Option.bind_some, sBin_neq]
        by_cases hf : fiN v n = -1
        · rw [if_pos hf] at eD
          rw [eD]
          simp only [hf, decide_true, Bool.not_true, pick_f]
          by_cases hk1 : (nd v.tree n).kind = 1
          · simp only [hk1, decide_true, guard_tt]
            rw [if_pos (show oneS (SVal.bool (decide ((nd v.tree n).tag = 2))) = true from rfl)]
            exact tail _ rfl
          · simp only [hk1, decide_false, guard_ft]
            exact tail false (by rw [eq_comm, decide_eq_false_iff_not]; exact fun h => hk1 (hkt h))
        · rw [if_neg hf] at eD
          rw [eD]
          simp [hf]
      · have ef : fromN v.tree n = (nd v.tree n).root := by unfold fromN; rw [if_neg hr]
        have eD := delN_eq ht hn
        rw [ef] at e5' tail eD
        by_cases hda : delA v.tree n = true
        · rw [if_neg (fun h => by rw [h.2] at hda; cases hda)] at eD
          simp only [hr, decide_false, Bool.not_false, pick_t, hda, Bool.not_true, pick_f, e5', Option.bind_some, sBin_neq]
          by_cases hf : fiN v (nd v.tree n).root = -1
          · rw [if_pos hf] at eD
            rw [eD]
            simp only [hf, decide_true, Bool.not_true, pick_f]
            by_cases hk1 : (nd v.tree n).kind = 1
            · simp only [hk1, decide_true, guard_tt]
              rw [if_pos (show oneS (SVal.bool (decide ((nd v.tree n).tag = 2))) = true from rfl)]
              exact tail _ rfl
            · simp only [hk1, decide_false, guard_ft]
              exact tail false (by rw [eq_comm, decide_eq_false_iff_not]; exact fun h => hk1 (hkt h))
          · rw [if_neg hf] at eD
            rw [eD]
            simp [hf]
        · rw [if_pos ⟨hr, Bool.eq_false_iff.2 hda⟩] at eD
          rw [eD]
          simp [hr, hda]
    intro k hk
    obtain ⟨i, rfl⟩ : ∃ i, k = i + 1 := ⟨k - 1, by omega⟩
    have e1 : T (i + 1) 28 [encG v ds, int n] = ok (int (delN v n)) := by
      have e : T (i + 1) 28 [encG v ds, int n] = primCache 50 (T i) [encG v ds, int n] := by kernel_rfl
      have hf : T i 50 [.agg [encT v.tree, encI v.op, encI v.modal, encP v.popups, encI v.top, .cch ds], .int .i64 n] = ok (int (delN v n)) := hfind i (by omega)
      rw [e]
      unfold primCache
      simp only [hf, Option.bind_some]
      rw [if_pos ⟨(isN_iff.1 hn).1, hds n hn⟩]
    exact e1
end Go.Proofs.YtcdnmiaelaombaaGreat.K
end
section
namespace Go.Proofs.YtcdnmiaelaombaaGreat.K
open Go Go.Lm
set_option linter.unusedSimpArgs false
theorem sGdelE : Ev fun k => ∀ (v : View) (ds : List Int) (n : Int), SmV v → chkV v = 0 → DsOk v ds → isN v.tree n = true → T k 28 [encG v ds, int n] = ok (int (delN v n)) := by
  obtain ⟨k0, h⟩ := sGdel
  exact ⟨k0 + 12 * 100, fun k hk v ds n hv hc hds hn => h (v.tree.length + 2) v ds hv hc hds n hn (by omega) k (by have := hv.tr.len; omega)⟩
theorem sGarea : Ev fun k => ∀ (v : View) (ds : List Int) (n : Int), SmV v → chkV v = 0 → DsOk v ds → isN v.tree n = true → T k 27 [encG v ds, int n] = ok (int (arN v n)) := by
  refine (sAIs.and (sADel.and sGdelE)).step fun k ⟨b1, b3, hdel⟩ v ds m hv hc hds hm => ?_
  have ht := vmay hv hc
  have hom : okV v m = true := okV_iff.2 ⟨hc, hm⟩
  rw [show encG v ds = .agg [encT v.tree, encI v.op, encI v.modal, encP v.popups, encI v.top, .cch ds] from rfl, t27]; unfold R27
  simp only [weak_T, weak_I, weak_P, fold_Vv, b1 v m hv, hom, Bool.true_and, Option.bind_some, b3 v.tree m hv.tr, may_is ht hm]
  by_cases c1 : isA v m = true
  · simp [c1, arN, arF]
  · by_cases c2 : delA v.tree m = true
    · simp [c1, c2, hdel v ds m hv hc hds hm, arN, arF, delN]
    · simp [c1, c2, arN, arF]
theorem sGauto1 : Ev fun k => ∀ (v : View) (ds : List Int) (n : Int), SmV v → chkV v = 0 → DsOk v ds → isN v.tree n = true → callV H (T k) (.fn 54 [rpG v ds]) [int n] = some (int (autF v (v.tree.length + 3) n)) := by
  refine (sPHas.and sGarea).step fun k ⟨b5, ha⟩ v ds m hv hc hds hm => ?_
  have ht := vmay hv hc
  refine call_G _ rfl rfl _ v ds m ?_
  rw [show rpG v ds = .rp [encT v.tree, encI v.op, encI v.modal, encP v.popups, encI v.top, .cch ds] from rfl, t54]; unfold R54
  have e' : T k 27 [.agg [encT v.tree, encI v.op, encI v.modal, encP v.popups, encI v.top, .cch ds], int m] = ok (int (arN v m)) := ha v ds m hv hc hds hm
  simp only [weak_T, weak_I, weak_P, weak_cch, b5 v.tree m 5 hv.tr, may_is ht hm, Bool.true_and, Option.bind_some]
  by_cases c1 : hasA (nd v.tree m) 5 = true
  · simp [c1, e', autF, arN]
  · simp [c1, autF]
theorem sGauto : Ev fun k => ∀ (v : View) (ds : List Int) (n : Int), SmV v → chkV v = 0 → DsOk v ds → isN v.tree n = true → T k 29 [encG v ds, int n] = ok (int (fiN v n)) := by
  obtain ⟨k0, hall⟩ := sPoList.and (sGeach.and (sGauto1.and sGrow3))
  refine ⟨k0 + 5, fun k' hk' v ds m hv hc hds hm => ?_⟩
  obtain ⟨i, rfl⟩ : ∃ i, k' = i + 3 := ⟨k' - 3, by omega⟩
  obtain ⟨b4, b6, _⟩ := hall (i + 2) (by omega)
  obtain ⟨_, _, b1, b7⟩ := hall i (by omega)
  have ht := vmay hv hc
  have hlen := ht.sm.len
  have e4 : T (i + 2) 53 [encT v.tree, int m] = ok (encI (desL v.tree m)) := by rw [b4 v.tree m hv.tr, if_pos (may_is ht hm)]
  have hl := des_len ht hm
  have e7 := b7 (desL v.tree m) (.fn 54 [rpG v ds]) (autF v (v.tree.length + 3)) (by omega) fun x hx => b1 v ds x hv hc hds (des_is ht hm hx)
  have e6 := b6 (desL v.tree m) (.fn 54 [rpG v ds]) rfl
  rw [show encG v ds = .agg [encT v.tree, encI v.op, encI v.modal, encP v.popups, encI v.top, .cch ds] from rfl, t29]; unfold R29
  simp only [weak_T, weak_I, e4, Option.bind_some, e6, e7]
  rfl
/-! ### The document's answer -/
theorem sGRdel : ∃ k0, ∀ (d : Nat) (v : View), SmV v → chkV v = 0 → ∀ n : Int, isN v.tree n = true → v.tree.length + 2 ≤ d + (ups v.tree n).length → ∀ k, k0 + 12 * d ≤ k → T k 16 [encV v, int n] = ok (int (delN v n)) := by
  obtain ⟨k1, hb⟩ := sRaIs.and (sRaTabs.and (sRdel.and (sRoList.and sRHas)))
  refine ⟨k1 + 1000, fun d => ?_⟩
  induction d with
  | zero => intro v hv hc n hn hd; have := ups_len v.tree n; omega
  | succ d ih =>
    intro v hv hc n hn hd
    have ht := vmay hv hc
    have hlen := ht.sm.len
    obtain ⟨J, hJ⟩ : ∃ J, J = k1 + 1000 + 12 * d := ⟨_, rfl⟩
    obtain ⟨f1, f2⟩ := from_is ht hn
    have hdeep : ∀ q ∈ desL v.tree (fromN v.tree n), delA v.tree q = true → v.tree.length + 2 ≤ d + (ups v.tree q).length := fun q hq hdq => by
      have := del_deep ht hn hq hdq; omega
    have hdel : ∀ j, J ≤ j → ∀ m, isN v.tree m = true → v.tree.length + 2 ≤ d + (ups v.tree m).length → T j 16 [encV v, int m] = ok (int (delN v m)) := fun j hj m hm hd' => ih v hv hc m hm hd' j (by omega)
    have harea : ∀ j, J + 1 ≤ j → ∀ m ∈ desL v.tree (fromN v.tree n), T j 15 [encV v, int m] = ok (int (arN v m)) := fun j hj m hmm => by
      obtain ⟨i, rfl⟩ : ∃ i, j = i + 1 := ⟨j - 1, by omega⟩
      obtain ⟨b1, _, b3, _⟩ := hb i (by omega)
      have hm := des_is ht f1 hmm
      rw [encV_eq, t15]; unfold R15
      by_cases c1 : isA v m = true
      · simp [b1 v m hv ht hm, c1, arN, arF]
      · by_cases c2 : delA v.tree m = true
        · simp [b1 v m hv ht hm, b3 v.tree m ht hm, c1, c2, hdel i (by omega) m hm (hdeep m hmm c2), arN, arF, delN]
        · simp [b1 v m hv ht hm, b3 v.tree m ht hm, c1, c2, arN, arF]
    have hof : ∀ j, J + 1 ≤ j → ∀ (b : Bool), ∀ m ∈ desL v.tree (fromN v.tree n), T j 30 [encV v, int m, .bool b] = ok (int (ofF v (v.tree.length + 3) b m)) := fun j hj b m hmm => by
      obtain ⟨i, rfl⟩ : ∃ i, j = i + 1 := ⟨j - 1, by omega⟩
      obtain ⟨b1, b2, b3, _⟩ := hb i (by omega)
      have hm := des_is ht f1 hmm
      rw [encV_eq, t30]; unfold R30
      simp only [weak_T, weak_I, weak_P, fold_Vv, b1 v m hv ht hm, b2 v m hv ht hm, Option.bind_some, b3 v.tree m ht hm, sNot_b, guard_and, guard_or, asB_b, List.getD_cons_zero]
      by_cases c1 : (tabA v m || (!b && isA v m)) = true
      · simp only [c1, pick_t]
        simp [ofF, c1]
      · by_cases c2 : delA v.tree m = true
        · simp only [Bool.eq_false_iff.2 c1, pick_f, c2, pick_t, hdel i (by omega) m hm (hdeep m hmm c2), Option.bind_some]
          simp [ofF, c1, c2, delN]
        · simp only [Bool.eq_false_iff.2 c1, pick_f, Bool.eq_false_iff.2 c2]
          simp [ofF, c1, c2]
    have hfirst : ∀ j, J + 3 ≤ j → T j 17 [encV v, int (fromN v.tree n)] = ok (int (fiN v (fromN v.tree n))) := fun j hj => by
      obtain ⟨i, rfl⟩ : ∃ i, j = i + 1 := ⟨j - 1, by omega⟩
      obtain ⟨_, _, _, b4, b5⟩ := hb i (by omega)
      have hl := des_len ht f1
      rw [encV_eq, t17]; unfold R17
      simp only [weak_T, weak_I, weak_P, fold_Vv, fold_rpVv, b4 v.tree _ ht f1, Option.bind_some]
      refine (for_list (desL v.tree (fromN v.tree n)) (fun q (_ : Unit) => ⟨[rpV v, encI (desL v.tree (fromN v.tree n)), int q], [], false⟩) (fun r _ _ => ok (int (fstV (autF v (v.tree.length + 3)) r))) (fun _ _ => True) (by omega) ?_ ?_ i () (by omega) trivial)
      · intro _ next _; simp [fstV]
      · intro q _ x r next hq hx _ _ hw hnx
        have hxm : x ∈ desL v.tree (fromN v.tree n) := hx ▸ List.getElem_mem hq
        have hxn := des_is ht f1 hxm
        have hnx' := hnx () trivial
        have ea := harea i (by omega) x hxm
        by_cases c1 : hasA (nd v.tree x) 5 = true
        · by_cases c2 : arN v x = -1
          · have : autF v (v.tree.length + 3) x = -1 := by simp [autF, c1]; exact c2
            simp [hq, idx_I hq, hx, b5 v.tree x 5 hv.tr, hxn, c1, ea, c2, hw, fstV, this]
            simpa using hnx'
          · have : autF v (v.tree.length + 3) x = arN v x := by simp [autF, c1]; rfl
            simp [hq, idx_I hq, hx, b5 v.tree x 5 hv.tr, hxn, c1, ea, c2, fstV, this]
        · have : autF v (v.tree.length + 3) x = -1 := by simp [autF, c1]
          simp [hq, idx_I hq, hx, b5 v.tree x 5 hv.tr, hxn, c1, hw, fstV, this]
          simpa using hnx'
    intro k hk
    obtain ⟨i, rfl⟩ : ∃ i, k = i + 1 := ⟨k - 1, by omega⟩
    obtain ⟨_, _, b3, b4, _⟩ := hb i (by omega)
    have eD := delN_eq ht hn
    have hF := hfirst i (by omega)
    have hl := des_len ht f1
    rw [encV_eq, t16]; unfold R16
    simp only [idx_nd hn, Option.bind_some, encN_c5, sBin_neq, weak_T, weak_I, weak_P, fold_Vv, fold_rpVv]
    by_cases hr : (nd v.tree n).root = -1
    · have ef : fromN v.tree n = n := by unfold fromN; rw [if_pos hr]
      rw [if_neg (fun h => h.1 hr)] at eD
      rw [ef] at eD hF hof f1 hl
      have f1' := f1
      have hof' := hof
      simp only [hr, decide_true, Bool.not_true, pick_f, hF, Option.bind_some, sBin_neq]
      by_cases hf : fiN v n = -1
      · rw [if_pos hf] at eD
        rw [eD]
        simp only [hf, decide_true, Bool.not_true, pick_f, b4 v.tree _ ht f1, Option.bind_some, weak_I]
        refine (loop_wf (fun q : Nat => ⟨[int n, rpV v, encI (desL v.tree n), int q], [], false⟩) (fun q => ok (int (fstV (ofF v (v.tree.length + 3) (decide ((nd v.tree n).tag = 2))) ((desL v.tree n).drop q)))) (fun q => (desL v.tree n).length - q) (fun q => q ≤ (desL v.tree n).length) ?_ i 1 (by rw [des_cons ht f1']; simp) (by omega)).trans (by rw [List.drop_one])
        intro q hq next hnx
        by_cases hlt : q < (desL v.tree n).length
        · have hxm : (desL v.tree n)[q] ∈ desL v.tree n := List.getElem_mem hlt
          have hw : IntKind.i64.wrap ((q : Int) + 1) = ((q + 1 : Nat) : Int) := wrap1 (by omega)
          have hnx' := hnx (q + 1) (by omega) (by omega)
          have eo := hof' i (by omega) (decide ((nd v.tree n).tag = 2)) _ hxm
          rw [List.drop_eq_getElem_cons hlt, fstV]
          generalize hX : (desL v.tree n)[q] = x at *
          by_cases c1 : ofF v (v.tree.length + 3) (decide ((nd v.tree n).tag = 2)) x = -1
          · rw [if_pos c1]
            simp [hlt, idx_I hlt, hX, idx_nd hn, eo, c1, hw]
            simpa using hnx'
          · rw [if_neg c1]
            simp [hlt, idx_I hlt, hX, idx_nd hn, eo, c1]
        · have hqe : q = (desL v.tree n).length := by omega
          subst hqe
          simp [fstV]
      · rw [if_neg hf] at eD
        rw [eD]
        simp [hf]
    · have ef : fromN v.tree n = (nd v.tree n).root := by unfold fromN; rw [if_neg hr]
      rw [ef] at eD hF hof f1 hl
      have f1' := f1
      have hof' := hof
      by_cases hda : delA v.tree n = true
      · rw [if_neg (fun h => by rw [h.2] at hda; cases hda)] at eD
        simp only [hr, decide_false, Bool.not_false, pick_t, b3 v.tree n ht hn, hda, sNot_b, Bool.not_true, pick_f, hF, Option.bind_some, sBin_neq]
        by_cases hf : fiN v (nd v.tree n).root = -1
        · rw [if_pos hf] at eD
          rw [eD]
          simp only [hf, decide_true, Bool.not_true, pick_f, b4 v.tree _ ht f1, Option.bind_some, weak_I]
          refine (loop_wf (fun q : Nat => ⟨[int n, rpV v, encI (desL v.tree (nd v.tree n).root), int q], [], false⟩) (fun q => ok (int (fstV (ofF v (v.tree.length + 3) (decide ((nd v.tree n).tag = 2))) ((desL v.tree (nd v.tree n).root).drop q)))) (fun q => (desL v.tree (nd v.tree n).root).length - q) (fun q => q ≤ (desL v.tree (nd v.tree n).root).length) ?_ i 1 (by rw [des_cons ht f1']; simp) (by omega)).trans (by rw [List.drop_one])
          intro q hq next hnx
          by_cases hlt : q < (desL v.tree (nd v.tree n).root).length
          · have hxm : (desL v.tree (nd v.tree n).root)[q] ∈ desL v.tree (nd v.tree n).root := List.getElem_mem hlt
            have hw : IntKind.i64.wrap ((q : Int) + 1) = ((q + 1 : Nat) : Int) := wrap1 (by omega)
            have hnx' := hnx (q + 1) (by omega) (by omega)
            have eo := hof' i (by omega) (decide ((nd v.tree n).tag = 2)) _ hxm
            rw [List.drop_eq_getElem_cons hlt, fstV]
            generalize hX : (desL v.tree (nd v.tree n).root)[q] = x at *
            by_cases c1 : ofF v (v.tree.length + 3) (decide ((nd v.tree n).tag = 2)) x = -1
            · rw [if_pos c1]
              simp [hlt, idx_I hlt, hX, idx_nd hn, eo, c1, hw]
              simpa using hnx'
            · rw [if_neg c1]
              simp [hlt, idx_I hlt, hX, idx_nd hn, eo, c1]
          · have hqe : q = (desL v.tree (nd v.tree n).root).length := by omega
            subst hqe
            simp [fstV]
        · rw [if_neg hf] at eD
          rw [eD]
          simp [hf]
      · rw [if_pos ⟨hr, Bool.eq_false_iff.2 hda⟩] at eD
        rw [eD]
        simp [hr, b3 v.tree n ht hn, hda]
theorem sGRdelE : Ev fun k => ∀ (v : View) (n : Int), SmV v → chkV v = 0 → isN v.tree n = true → T k 16 [encV v, int n] = ok (int (delN v n)) := by
  obtain ⟨k0, h⟩ := sGRdel
  exact ⟨k0 + 12 * 100, fun k hk v n hv hc hn => h (v.tree.length + 2) v hv hc n hn (by omega) k (by have := hv.tr.len; omega)⟩
theorem sGRarea : Ev fun k => ∀ (v : View) (n : Int), SmV v → chkV v = 0 → isN v.tree n = true → T k 15 [encV v, int n] = ok (int (arN v n)) := by
  refine (sRaIs.and (sRdel.and sGRdelE)).step fun k ⟨b1, b3, hdel⟩ v m hv hc hm => ?_
  have ht := vmay hv hc
  rw [encV_eq, t15]; unfold R15
  by_cases c1 : isA v m = true
  · simp [b1 v m hv ht hm, c1, arN, arF]
  · by_cases c2 : delA v.tree m = true
    · simp [b1 v m hv ht hm, b3 v.tree m ht hm, c1, c2, hdel v m hv hc hm, arN, arF, delN]
    · simp [b1 v m hv ht hm, b3 v.tree m ht hm, c1, c2, arN, arF]
theorem sGRfirst : Ev fun k => ∀ (v : View) (n : Int), SmV v → chkV v = 0 → isN v.tree n = true → T k 17 [encV v, int n] = ok (int (fiN v n)) := by
  refine (sRoList.and (sRHas.and sGRarea)).at 1000 fun i hk ⟨b4, b5, ha⟩ v n hv hc hn => ?_
  have ht := vmay hv hc
  have hl := des_len ht hn
  have hlen := ht.sm.len
  rw [encV_eq, t17]; unfold R17
  simp only [weak_T, weak_I, weak_P, fold_Vv, fold_rpVv, b4 v.tree _ ht hn, Option.bind_some]
  refine (for_list (desL v.tree n) (fun q (_ : Unit) => ⟨[rpV v, encI (desL v.tree n), int q], [], false⟩) (fun r _ _ => ok (int (fstV (autF v (v.tree.length + 3)) r))) (fun _ _ => True) (by omega) ?_ ?_ i () (by omega) trivial)
  · intro _ next _; simp [fstV]
  · intro q _ x r next hq hx _ _ hw hnx
    have hxm : x ∈ desL v.tree n := hx ▸ List.getElem_mem hq
    have hxn := des_is ht hn hxm
    have hnx' := hnx () trivial
    have ea := ha v x hv hc hxn
    by_cases c1 : hasA (nd v.tree x) 5 = true
    · by_cases c2 : arN v x = -1
      · have : autF v (v.tree.length + 3) x = -1 := by simp [autF, c1]; exact c2
        simp [hq, idx_I hq, hx, b5 v.tree x 5 hv.tr, hxn, c1, ea, c2, hw, fstV, this]
        simpa using hnx'
      · have : autF v (v.tree.length + 3) x = arN v x := by simp [autF, c1]; rfl
        simp [hq, idx_I hq, hx, b5 v.tree x 5 hv.tr, hxn, c1, ea, c2, fstV, this]
    · have : autF v (v.tree.length + 3) x = -1 := by simp [autF, c1]
      simp [hq, idx_I hq, hx, b5 v.tree x 5 hv.tr, hxn, c1, hw, fstV, this]
      simpa using hnx'
/-! ### The cache that is made -/
theorem gs_ok {k : Nat} {v : View} (h : ∀ n : Int, isN v.tree n = true → T k 16 [encV v, int n] = ok (int (delN v n))) : DsOk v (gsV (T k) (encT v.tree) (encI v.op) (encI v.modal) (encP v.popups) (encI v.top)) := by
  intro n hn
  obtain ⟨n0, n1⟩ := isN_iff.1 hn
  have hx : (encT v.tree).xs.length = v.tree.length := by show (v.tree.map encN).length = _; rw [List.length_map]
  unfold gsV
  rw [hx, List.getElem?_map, List.getElem?_range (by omega)]
  have e := h ((n.toNat : Nat) : Int) (by rw [show ((n.toNat : Nat) : Int) = n by omega]; exact hn)
  have e' : T k 16 [.agg [weak (encT v.tree), weak (encI v.op), weak (encI v.modal), weak (encP v.popups), weak (encI v.top)], .int .i64 ((n.toNat : Nat) : Int)] = ok (int (delN v ((n.toNat : Nat) : Int))) := e
  simp only [Option.map_some, e']
  rw [show ((n.toNat : Nat) : Int) = n by omega]
theorem call_A (f : Nat) (hp : (H f).params = [.agg [.slc, .slc, .slc, .slc, .slc, .plain], .plain]) (hr : (H f).res = .plain) (T : Nat → List SVal → Option Res) (v : View) (ds : List Int) (n : Int) {x : SVal} (h : T f [encG v ds, int n] = ok x) : callV H T (.fn f []) [encG v ds, int n] = some x := by
  unfold callV
  simp only [hr, hp, List.append_nil]
  rw [if_pos (by rfl), h]; rfl
theorem sGto : Ev fun k => ∀ (v : View) (n : Int) (f : Nat) (g : Int → Int), SmV v → (okV v n = true → ∀ ds, DsOk v ds → callV H (T k) (.fn f []) [encG v ds, int n] = some (int (g n))) → T (k + 1) 26 [encV v, int n, .fn f []] = ok (int (if okV v n = true then g n else -1)) := by
  refine (sPchk.and sGRdelE).mono fun k ⟨h1, h2⟩ v n f g hv hf => ?_
  rw [encV_eq, t26]; unfold R26
  by_cases hc : chkV v = 0
  · have hds := gs_ok (k := k) (v := v) fun m hm => h2 v m hv hc hm
    by_cases hn : isN v.tree n = true
    · have ho : okV v n = true := okV_iff.2 ⟨hc, hn⟩
      obtain ⟨n0, n1⟩ := isN_iff.1 hn
      have n2 : ¬ n < 0 := by omega
      have n3 : ¬ (v.tree.length : Int) ≤ n := by omega
      have e := hf ho _ hds
      have e' : callV H (T k) (.fn f []) [.agg [encT v.tree, encI v.op, encI v.modal, encP v.popups, encI v.top, .cch (gsV (T k) (encT v.tree) (encI v.op) (encI v.modal) (encP v.popups) (encI v.top))], int n] = some (int (g n)) := e
      simp [h1 v hv, hc, n2, n3, e', ho]
    · have ho : ¬ okV v n = true := fun h => hn (okV_iff.1 h).2
      have : n < 0 ∨ (v.tree.length : Int) ≤ n := by
        by_cases c : n < 0
        · exact .inl c
        · right
          have := hn; rw [isN_iff] at this; omega
      simp [h1 v hv, hc, this, ho]
  · have ho : ¬ okV v n = true := fun h => hc (okV_iff.1 h).1
    simp [h1 v hv, hc, ho]
def gAreaV (v : View) (n : Int) : Int := if okV v n = true then arN v n else -1
def gDelV (v : View) (n : Int) : Int := if okV v n = true then delN v n else -1
def gFirV (v : View) (n : Int) : Int := if okV v n = true then fiN v n else -1
theorem sGArea : Ev fun k => ∀ (v : View) (n : Int), SmV v → T k 12 [encV v, int n] = ok (int (gAreaV v n)) := by
  obtain ⟨k0, hall⟩ := sGarea.and sGto
  refine ⟨k0 + 2, fun k' hk' v n hv => ?_⟩
  obtain ⟨k, rfl⟩ : ∃ j, k' = j + 2 := ⟨k' - 2, by omega⟩
  obtain ⟨h1, h2⟩ := hall k (by omega)
  have e := h2 v n 27 (arN v) hv fun ho ds hds => call_A _ rfl rfl _ v ds n (h1 v ds n hv (okV_iff.1 ho).1 hds (okV_iff.1 ho).2)
  rw [encV_eq, t12]; unfold R12
  simp [e, gAreaV]
theorem sGDelegate : Ev fun k => ∀ (v : View) (n : Int), SmV v → T k 13 [encV v, int n] = ok (int (gDelV v n)) := by
  obtain ⟨k0, hall⟩ := sGdelE.and sGto
  refine ⟨k0 + 2, fun k' hk' v n hv => ?_⟩
  obtain ⟨k, rfl⟩ : ∃ j, k' = j + 2 := ⟨k' - 2, by omega⟩
  obtain ⟨h1, h2⟩ := hall k (by omega)
  have e := h2 v n 28 (delN v) hv fun ho ds hds => call_A _ rfl rfl _ v ds n (h1 v ds n hv (okV_iff.1 ho).1 hds (okV_iff.1 ho).2)
  rw [encV_eq, t13]; unfold R13
  simp [e, gDelV]
theorem sGFirst : Ev fun k => ∀ (v : View) (n : Int), SmV v → T k 14 [encV v, int n] = ok (int (gFirV v n)) := by
  obtain ⟨k0, hall⟩ := sGauto.and sGto
  refine ⟨k0 + 2, fun k' hk' v n hv => ?_⟩
  obtain ⟨k, rfl⟩ : ∃ j, k' = j + 2 := ⟨k' - 2, by omega⟩
  obtain ⟨h1, h2⟩ := hall k (by omega)
  have e := h2 v n 29 (fiN v) hv fun ho ds hds => call_A _ rfl rfl _ v ds n (h1 v ds n hv (okV_iff.1 ho).1 hds (okV_iff.1 ho).2)
  rw [encV_eq, t14]; unfold R14
  simp [e, gFirV]
end Go.Proofs.YtcdnmiaelaombaaGreat.K
end
