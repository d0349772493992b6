/- A cache: what is looked up in it, and what goes into it. -/
import Derived.Test.YtcdnmiaelaombaaGreatLmBP
import Derived.Maps.OwnOps
import Derived.MapKept
set_option linter.unusedVariables false
set_option linter.unusedSimpArgs false
set_option linter.unnecessarySimpa false
set_option linter.all false
namespace Go.Lm
open Go.Instr
theorem find_int {n : Int} : ∀ {es : List MapEntry} (i : Nat), (∀ e ∈ es, ∃ a : Int, e.key = .int .i64 a) →
    (findNow (.int .i64) (.int .i64 n) es i = some none ∨ ∃ j e, j < es.length ∧ es[j]? = some e ∧ e.key = .int .i64 n ∧ findNow (.int .i64) (.int .i64 n) es i = some (some (i + j, e.val)))
  | [], _, _ => .inl rfl
  | e :: es, i, h => by
    obtain ⟨a, ha⟩ := h e (by simp)
    simp only [findNow, ha, sameNow, if_true]
    by_cases hn : n = a
    · subst hn
      right
      exact ⟨0, e, by simp, rfl, ha, by simp⟩
    · have : (n == a) = false := by simpa using hn
      rw [this]
      rcases find_int (n := n) (es := es) (i + 1) (fun e he => h e (by simp [he])) with h1 | ⟨j, e', h1, h2, h3, h4⟩
      · exact .inl h1
      · exact .inr ⟨j + 1, e', by simpa using h1, by simpa using h2, h3, by rw [h4, show i + 1 + j = i + (j + 1) by omega]⟩
theorem CacheOk.keys {ds : Array Value} {es : Array MapEntry} (h : CacheOk ds es) : ∀ e ∈ es.toList, ∃ a : Int, e.key = .int .i64 a := fun e he => by
  obtain ⟨a, _, h1, _⟩ := h e he; exact ⟨a, h1⟩
theorem CacheOk.val {ds : Array Value} {es : Array MapEntry} (h : CacheOk ds es) {j : Nat} {e : MapEntry} {n : Int} (hj : es.toList[j]? = some e) (hk : e.key = .int .i64 n) : ∃ x : Int, e.val = .int .i64 x ∧ 0 ≤ n ∧ ds[n.toNat]? = some (.int .i64 x) := by
  obtain ⟨a, x, h1, h2, h3, h4⟩ := h e (List.mem_of_getElem? hj)
  rw [hk] at h1
  cases h1
  exact ⟨x, h2, h3, h4⟩
section
variable {P : Program} {w : World}
theorem gM {b : Nat} {es : Array MapEntry} {c : Nat} (hb : w.heap[b]? = some (.map es c)) : (getObj b).run P w = .ok (.map es c) w := by simp [getObj, Sem.run, hb]
theorem sM {b : Nat} {es : Array MapEntry} {c : Nat} (o : Go.Obj) (hb : w.heap[b]? = some (.map es c)) : (setObj b o).run P w = .ok () { w with heap := w.heap.setIfInBounds b o } := by simp [setObj, Sem.run, hb]
theorem run_checkKey {b : Bool} {k : TypeId} {v : Value} (hk : P.underlying k = some (.int .i64)) : (checkKey b 10000 k v).run P w = .ok () w := by
  unfold checkKey
  simp [run_underlying hk]
theorem run_lookup {t k e : TypeId} (ht : P.underlying t = some (.map k e)) (hk : P.underlying k = some (.int .i64)) (hz : (zeroValue e).run P w = .ok (.int .i64 0) w) {b : Nat} {es : Array MapEntry} {c : Nat} (hb : w.heap[b]? = some (.map es c)) {ds : Array Value} (hc : CacheOk ds es) (n : Int) :
    (∃ x : Int, 0 ≤ n ∧ ds[n.toNat]? = some (.int .i64 x) ∧ (Instr.lookup t (.map (some b)) (.int .i64 n) true).run P w = .ok (.tuple #[.int .i64 x, .bool true]) w) ∨
      (Instr.lookup t (.map (some b)) (.int .i64 n) true).run P w = .ok (.tuple #[.int .i64 0, .bool false]) w := by
  rcases find_int (n := n) (es := es.toList) 0 hc.keys with h | ⟨j, e', h1, h2, h3, h4⟩
  · right
    simp [Instr.lookup, run_underlying ht, gM hb, run_checkKey hk, findKey, run_underlying hk, h, hz]
  · left
    obtain ⟨x, h5, h6, h7⟩ := hc.val h2 h3
    refine ⟨x, h6, h7, ?_⟩
    simp [Instr.lookup, run_underlying ht, gM hb, run_checkKey hk, findKey, run_underlying hk, h4, h5]
theorem run_mapUpdate {t k e : TypeId} (ht : P.underlying t = some (.map k e)) (hk : P.underlying k = some (.int .i64)) {b : Nat} {es : Array MapEntry} {c : Nat} (hb : w.heap[b]? = some (.map es c)) {ds : Array Value} (hc : CacheOk ds es) {n x : Int} (hn : 0 ≤ n) (hx : ds[n.toNat]? = some (.int .i64 x)) :
    ∃ w', (Instr.mapUpdate t (.map (some b)) (.int .i64 n) (.int .i64 x)).run P w = .ok () w' ∧ SameW w w' ∧ (∀ j, j ≠ b → w'.heap[j]? = w.heap[j]?) ∧ ∃ es' c', w'.heap[b]? = some (.map es' c') ∧ CacheOk ds es' := by
  have hlt := (Array.getElem?_eq_some_iff.1 hb).1
  have fin : ∀ (es' : Array MapEntry) (c' : Nat), CacheOk ds es' → (Instr.mapUpdate t (.map (some b)) (.int .i64 n) (.int .i64 x)).run P w = (setObj b (.map es' c')).run P w →
      ∃ w', (Instr.mapUpdate t (.map (some b)) (.int .i64 n) (.int .i64 x)).run P w = .ok () w' ∧ SameW w w' ∧ (∀ j, j ≠ b → w'.heap[j]? = w.heap[j]?) ∧ ∃ es' c', w'.heap[b]? = some (.map es' c') ∧ CacheOk ds es' := fun es' c' h1 h2 => by
    rw [sM _ hb] at h2
    refine ⟨_, h2, ⟨rfl, rfl, rfl, by simp⟩, fun j hj => ?_, es', c', ?_, h1⟩
    · simp [Array.getElem?_setIfInBounds_ne (Ne.symm hj)]
    · simp [Array.getElem?_setIfInBounds_self_of_lt hlt]
  rcases find_int (n := n) (es := es.toList) 0 hc.keys with h | ⟨j, e', h1, h2, h3, h4⟩
  · refine fin (es.push { key := .int .i64 n, val := .int .i64 x, born := c }) (c + 1) (fun e he => ?_) ?_
    · simp only [Array.toList_push, List.mem_append, List.mem_singleton] at he
      rcases he with he | rfl
      · exact hc e he
      · exact ⟨n, x, rfl, rfl, hn, hx⟩
    · simp [Instr.mapUpdate, run_underlying ht, gM hb, run_checkKey hk, findKey, run_underlying hk, h]
  · have hs : sameBits 10000 e'.key (.int .i64 n) = true := by rw [h3]; simp [sameBits]
    refine fin (es.modify j fun e => { e with key := .int .i64 n, val := .int .i64 x }) c (fun e he => ?_) ?_
    · obtain ⟨i, hi⟩ := List.mem_iff_getElem?.1 he
      rw [Array.getElem?_toList, Array.getElem?_modify] at hi
      split at hi
      · obtain ⟨e0, _, rfl⟩ := Option.map_eq_some_iff.1 hi
        exact ⟨n, x, rfl, rfl, hn, hx⟩
      · exact hc e (List.mem_of_getElem? (by rw [Array.getElem?_toList]; exact hi))
    · have h2' : es[j]? = some e' := by rw [← Array.getElem?_toList]; exact h2
      simp [Instr.mapUpdate, run_underlying ht, gM hb, run_checkKey hk, findKey, run_underlying hk, h4, h2', keyThatStays, hs]
theorem wpList_lookup_cache {ops : Array Oper} {rest : List Oper} {o : Oper} {a : Act} {Q : Exit → Act → World → Prop}
    (hg : o.guard = none) (m y : Operand) (t : TypeId) (hop : o.op = Op.lookup t m y true) (k e : TypeId) (ht : P.underlying t = some (.map k e)) (hk : P.underlying k = some (.int .i64)) (hz : (zeroValue e).run P w = .ok (.int .i64 0) w)
    (b : Nat) {es : Array MapEntry} {c : Nat} (hb : w.heap[b]? = some (.map es c)) {ds : Array Value} (hc : CacheOk ds es) (hm : a.eval m = .map (some b)) (n : Int) (hx : a.eval y = .int .i64 n)
    (hhit : ∀ x : Int, 0 ≤ n → ds[n.toNat]? = some (.int .i64 x) → wpList P ops Q rest (a.put o.dst (.tuple #[.int .i64 x, .bool true])) w)
    (hmiss : wpList P ops Q rest (a.put o.dst (.tuple #[.int .i64 0, .bool false])) w) : wpList P ops Q (o :: rest) a w := by
  refine wpList_plain hg fun K' hK' => ?_
  unfold Oper.wp
  rcases run_lookup ht hk hz hb hc n with ⟨x, h1, h2, hrun⟩ | hrun
  · simp [execOp, hop, hm, hx, hrun, Result.andThen]
    exact hK' _ _ (hhit x h1 h2)
  · simp [execOp, hop, hm, hx, hrun, Result.andThen]
    exact hK' _ _ hmiss
theorem wpList_mapUpdate_cache {ops : Array Oper} {rest : List Oper} {o : Oper} {a : Act} {Q : Exit → Act → World → Prop}
    (hg : o.guard = none) (m y z : Operand) (t : TypeId) (hop : o.op = Op.mapUpdate t m y z) (k e : TypeId) (ht : P.underlying t = some (.map k e)) (hk : P.underlying k = some (.int .i64))
    (b : Nat) {es : Array MapEntry} {c : Nat} (hb : w.heap[b]? = some (.map es c)) {ds : Array Value} (hc : CacheOk ds es) (hm : a.eval m = .map (some b)) (n x : Int) (hy : a.eval y = .int .i64 n) (hz : a.eval z = .int .i64 x) (hn : 0 ≤ n) (hx : ds[n.toNat]? = some (.int .i64 x))
    (hK : ∀ w', SameW w w' → (∀ j, j ≠ b → w'.heap[j]? = w.heap[j]?) → (∃ es' c', w'.heap[b]? = some (.map es' c') ∧ CacheOk ds es') → wpList P ops Q rest (a.put o.dst undef) w') : wpList P ops Q (o :: rest) a w := by
  refine wpList_plain hg fun K' hK' => ?_
  obtain ⟨w', hrun, h1, h2, h3⟩ := run_mapUpdate ht hk hb hc hn hx
  unfold Oper.wp
  simp [execOp, hop, hm, hy, hz, hrun, Result.andThen]
  exact hK' _ _ (hK w' h1 h2 h3)
end
end Go.Lm
