/- The statement law14.GiveHosts, joined: what is told by the program, by the model. -/
import Derived.Test.YtcdnmiaelaombaaGreatLmAW
import Derived.Test.YtcdnmiaelaombaaGreatLmBT
set_option linter.unusedVariables false
set_option linter.unusedSimpArgs false
set_option linter.unnecessarySimpa false
set_option linter.all false
namespace Go.Proofs.YtcdnmiaelaombaaGreat
open Go Go.Lm Go.ChangeShapes Go.WideShapes Go.ChangeAt Go.RowKit
set_option maxRecDepth 100000 in
theorem giveHosts_lifted (os : Os) (started : os.Started) (H : Type) (enc : TypeId × Value → H) :
    ReturnsInHanded {} Tryz.checked os 7 .any (Rows.giveHostsSpec.pre6 enc Tryz.prog Tryz.f7 Rows.giveHostsRow.domain false) (Rows.giveHostsSpec.post enc Tryz.prog Tryz.f7 false true false false) := by
  refine returnsInHanded_of_change (C := Tryz.checked) own started (by kernel_rfl) Tryz.func7
    (ChangeSpec.witness6 (enc := enc) (C := Tryz.checked) false ⟨#[], #[.agg #[.slice none 0 0, .slice none 0 0, .slice none 0 0, .slice none 0 0, .slice none 0 0], .int .i64 0], []⟩ 8 (by kernel_rfl) (by kernel_rfl) (by kernel_rfl) (by kernel_rfl)) ?_
  intro W base args ds gs before hval0 hW _ _
  have hval : ∀ (j : Nat) t v, Tryz.f7.params[j]? = some t → args[j]? = some v → Value.okWide Tryz.prog W .any base t v := hval0
  have hW' := hW
  obtain ⟨p, q, hA0, hV, rfl, _, _⟩ := hW
  have hA : DataW.TrodAll enc Tryz.prog W 0 (fun _ => true) true Tryz.f7.params.toList args.toList ds p := hA0
  rw [Tryz.params7] at hA hval
  obtain ⟨rfl, rfl⟩ := trodVars_none hV
  have hlt : ∀ x ∈ p, x.block < W.heap.size := fun x hx => hW'.lt x (by simp [hx])
  have hback : ∀ W', Below W.heap.size W W' → DataW.TrodAll enc Tryz.prog W' 0 (fun b => decide (b < W.heap.size)) true [27, 3] args.toList ds p := fun W' hn => Below.trodAll laidOut hn (by kernel_rfl) hA hlt
  obtain ⟨v0, v1, d0, d1, p0, p1, rfl, rfl, rfl, h0, h1⟩ := trodAll_two hA
  obtain ⟨a0, e0⟩ : ∃ a, VR (KW W) 0 (Go.Lm.encV a) v0 := ra_view tyOk _ _ _ _ _ (hval 0 27 v0 rfl rfl) h0
  obtain ⟨a1, e1⟩ : ∃ a, VR (KW W) 0 (Go.Lm.int a) v1 := ra_int tyOk _ _ _ _ _ (hval 1 3 v1 rfl rfl) h1
  obtain ⟨k, hk⟩ := K.xGiveHosts
  have hg := K.good_at (hk k (Nat.le_refl _) a0 a1)
  refine (law_calls hg rfl (by kernel_rfl) (by rw [show (K.H 7).params = K.h7.params by kernel_rfl]; rfl) (vals := [v0, v1]) (by simp only [VRs]; exact ⟨v0, _, rfl, e0, v1, _, rfl, e1, rfl⟩)).mono fun e W' ⟨he, hn⟩ => ?_
  subst he
  exact ⟨_, rfl, _, _, _, [], _, [], hW', trodAll_mk1 (shut_bool Tryz.underlying4 true), hback _ hn, rfl, hn.frame _, fun h => by cases h⟩
/-- 'limelightlaw14.GiveHosts': whatever the input: true; the input reads as it did. -/
theorem giveHosts_holds : Rows.GiveHostsSaid :=
  OpenClaim.holds_of_wide 7 Tryz.f7 rfl rfl rfl rfl rfl rfl rfl ⟨rfl, rfl, rfl, rfl, rfl⟩ rfl rfl rfl rfl rfl (by kernel_rfl) Tryz.func7 (by kernel_rfl)
    (of_decide_eq_true (by kernel_rfl)) (by unfold Func.isWrapper; first | (rw [if_pos (by decide +kernel)]; kernel_rfl) | (rw [if_neg (by decide +kernel)]; exact ⟨rfl, rfl⟩))
    (fun os started H enc _ => giveHosts_lifted os started H enc)
#print axioms giveHosts_holds
end Go.Proofs.YtcdnmiaelaombaaGreat
