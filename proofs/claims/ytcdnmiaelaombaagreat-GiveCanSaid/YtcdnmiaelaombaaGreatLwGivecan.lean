/- The statement law14.GiveCan, joined: what is told by the program, by the model. -/
import Derived.Test.YtcdnmiaelaombaaGreatLmAW
import Derived.Test.YtcdnmiaelaombaaGreatLmBT
set_option linter.unusedVariables false
set_option linter.unusedSimpArgs false
set_option linter.unnecessarySimpa false
set_option linter.all false
namespace Go.Proofs.YtcdnmiaelaombaaGreat
open Go Go.Lm Go.ChangeShapes Go.WideShapes Go.ChangeAt Go.RowKit
set_option maxRecDepth 100000 in
theorem giveCan_lifted (os : Os) (started : os.Started) (H : Type) (enc : TypeId × Value → H) :
    ReturnsInHanded {} Tryz.checked os 4 .any (Rows.giveCanSpec.pre6 enc Tryz.prog Tryz.f4 Rows.giveCanRow.domain false) (Rows.giveCanSpec.post enc Tryz.prog Tryz.f4 false true false false) := by
  refine returnsInHanded_of_change (C := Tryz.checked) own started (by kernel_rfl) Tryz.func4
    (ChangeSpec.witness6 (enc := enc) (C := Tryz.checked) false ⟨#[], #[.agg #[.slice none 0 0, .slice none 0 0, .slice none 0 0, .slice none 0 0, .slice none 0 0]], []⟩ 8 (by kernel_rfl) (by kernel_rfl) (by kernel_rfl) (by kernel_rfl)) ?_
  intro W base args ds gs before hval0 hW _ _
  have hval : ∀ (j : Nat) t v, Tryz.f4.params[j]? = some t → args[j]? = some v → Value.okWide Tryz.prog W .any base t v := hval0
  have hW' := hW
  obtain ⟨p, q, hA0, hV, rfl, _, _⟩ := hW
  have hA : DataW.TrodAll enc Tryz.prog W 0 (fun _ => true) true Tryz.f4.params.toList args.toList ds p := hA0
  rw [Tryz.params4] at hA hval
  obtain ⟨rfl, rfl⟩ := trodVars_none hV
  have hlt : ∀ x ∈ p, x.block < W.heap.size := fun x hx => hW'.lt x (by simp [hx])
  have hback : ∀ W', Below W.heap.size W W' → DataW.TrodAll enc Tryz.prog W' 0 (fun b => decide (b < W.heap.size)) true [27] args.toList ds p := fun W' hn => Below.trodAll laidOut hn (by kernel_rfl) hA hlt
  obtain ⟨v0, d0, rfl, rfl, h0⟩ := trodAll_one hA
  obtain ⟨a0, e0⟩ : ∃ a, VR (KW W) 0 (Go.Lm.encV a) v0 := ra_view tyOk _ _ _ _ _ (hval 0 27 v0 rfl rfl) h0
  obtain ⟨k, hk⟩ := K.xGiveCan
  have hg := K.good_at (hk k (Nat.le_refl _) a0)
  refine (law_calls hg rfl (by kernel_rfl) (by rw [show (K.H 4).params = K.h4.params by kernel_rfl]; rfl) (vals := [v0]) (by simp only [VRs]; exact ⟨v0, _, rfl, e0, rfl⟩)).mono fun e W' ⟨he, hn⟩ => ?_
  subst he
  exact ⟨_, rfl, _, _, _, [], _, [], hW', trodAll_mk1 (shut_bool Tryz.underlying4 true), hback _ hn, rfl, hn.frame _, fun h => by cases h⟩
/-- 'limelightlaw14.GiveCan': whatever the input: true; the input reads as it did. -/
theorem giveCan_holds : Rows.GiveCanSaid :=
  OpenClaim.holds_of_wide 4 Tryz.f4 rfl rfl rfl rfl rfl rfl rfl ⟨rfl, rfl, rfl, rfl, rfl⟩ rfl rfl rfl rfl rfl (by kernel_rfl) Tryz.func4 (by kernel_rfl)
    (of_decide_eq_true (by kernel_rfl)) (by unfold Func.isWrapper; first | (rw [if_pos (by decide +kernel)]; kernel_rfl) | (rw [if_neg (by decide +kernel)]; exact ⟨rfl, rfl⟩))
    (fun os started H enc _ => giveCan_lifted os started H enc)
#print axioms giveCan_holds
end Go.Proofs.YtcdnmiaelaombaaGreat
