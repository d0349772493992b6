/- A part of the proof. -/
import Derived.Test.YtcdnmiaelaombaaGreatLmBF
import Derived.RangeFuncFrom
set_option linter.unusedVariables false
set_option linter.unusedSimpArgs false
set_option linter.unnecessarySimpa false
set_option linter.all false
namespace Go.Lm
section
variable {P : Program} {c : Ctx} {K : Kt} {G : Gt} {ov : List Value} {ds : List Nat} {st : St} {a : Act} {w : World}
theorem putObj_same (w : World) (d : Nat) (o : Go.Obj) : SameW w (w.putObj d o) := ⟨rfl, rfl, rfl, by simp⟩
/-- A mark is taken on the way out. -/
theorem Sim.collect {d : Nat} (hs : Sim c K G ov (d :: ds) st a w) : Sim c K G ov ds st { a with defers := ds.map mark } (w.putObj d (.deferred none)) := by
  have hd := hs.dob d (by simp)
  have hdn := List.nodup_cons.1 hs.dnd
  have hk : ∀ b, b ≠ d → (w.putObj d (.deferred none)).heap[b]? = w.heap[b]? := fun b hb => World.putObj_heap_other hb
  have hKd : ∀ o v, K d o = some v → False := fun o v hv => by
    exact (hs.kok d o v hv).not hd.1 rfl
  have hcell : ∀ b o v, K b o = some v → b ≠ d := fun b o v hv e => hKd o v (e ▸ hv)
  have hown : ∀ i g, G i = some g → (st.loc i).live = true → ∀ b ∈ g.bs, b ≠ d := fun i g hg hl b hb e => (hs.own i g hg hl b hb).2.2.1 (by simp [e])
  have hevo : Evo K (OwnB c st.loc G (d :: ds)) w K (OwnB c st.loc G ds) (w.putObj d (.deferred none)) :=
    ⟨putObj_same _ _ _, fun b _ hn => vw_of (hk b fun e => hn (.inr (by simp [e]))), fun b o v hv hkk => hkk.of_heap (hk b (hcell b o v hv)), Kt.le.refl _, fun _ _ _ h => .inl h, fun b hb => .inl (hb.imp (fun h => h) fun h => by simp [h])⟩
  have hown' : ∀ i g, G i = some g → (st.loc i).live = true → ∀ b ∈ g.bs, b < (w.putObj d (.deferred none)).heap.size ∧ ¬ c.O b ∧ b ∉ ds ∧ ∀ o, K b o = none := fun i g hg hl b hb => by
    obtain ⟨k1, k2, k3, k4⟩ := hs.own i g hg hl b hb
    exact ⟨by simpa using k1, k2, fun h => k3 (by simp [h]), k4⟩
  exact { kok := fun b o v hv => (hs.kok b o v hv).of_heap (hk b (hcell b o v hv)), k0 := hs.k0, kO := hs.kO, slots := hs.slots, nt := hs.nt, objs := fun i g hg => (hs.objs i g hg).mono (Kt.le.refl _) (Ext.refl _ _) fun hl b hb => vw_of (hk b (hown i g hg hl b hb)), gnone := hs.gnone, own := hown', nd := hs.nd, sep := hs.sep, same := hs.same.trans (putObj_same _ _ _), frame := fun b hb => (vw_of (hk b fun e => hd.2 (e ▸ hb))).trans (hs.frame b hb), oB := hs.oB, outs := hs.outs, prot := fun h => hs.hJ _ _ _ _ _ _ _ (hs.prot h) hevo, protx := fun h => let ⟨pre, h⟩ := hs.protx h; ⟨pre, hs.hJx _ _ _ _ _ _ _ h hevo⟩, dfs := rfl, dnd := hdn.2, dob := fun d' hd' => ⟨(hk d' fun e => hdn.1 (e ▸ hd')).trans (hs.dob d' (by simp [hd'])).1, (hs.dob d' (by simp [hd'])).2⟩, hJ := hs.hJ, hJx := hs.hJx }
theorem leaves_marks {F : Fence} {n : Nat} {fn : Func} {R : Ending → World → Prop} {rs : List IVal} (hrs : mapO (resI P st) fn.results.toList = some rs)
    (hR : ∀ v w', IR K c.l st.loc G (match rs with | [r] => r | rs => .tup rs) v → Sim c K G ov [] st { a with defers := [] } w' → R (.returned v) w') :
    ∀ (ds : List Nat) (w : World), Sim c K G ov ds st { a with defers := ds.map mark } w → LeavesInM F n P fn a.tmps R (ds.map mark) .returning w
  | [], w, hs => by
    obtain ⟨v, h1, h2⟩ := results_sound hs hrs
    exact ⟨v, h2, hR v w h1 hs⟩
  | d :: ds, w, hs => by
    refine ⟨by simp, .inl ⟨d, _, rfl, run_takeDeferred (hs.dob d (by simp)).1, ?_⟩⟩
    exact leaves_marks hrs hR ds _ hs.collect
end
end Go.Lm
