/- The functions that are told by themselves are told rightly. -/
import Derived.Test.YtcdnmiaelaombaaGreatLmBO
import Derived.Test.YtcdnmiaelaombaaGreatLmBR
import Derived.Test.YtcdnmiaelaombaaGreatLmBP
import Derived.Test.YtcdnmiaelaombaaGreatLmAN
set_option linter.unusedVariables false
set_option linter.unusedSimpArgs false
set_option linter.unnecessarySimpa false
set_option linter.all false
namespace Go.Proofs.YtcdnmiaelaombaaGreat.K
open Go Go.Shelf Go.RowKit
set_option maxRecDepth 100000
theorem mixed : Tryz.prog.follows .mixedOrders = true := by kernel_rfl
theorem noGo : Tryz.prog.funcs.all (fun fn => !(fn.name == "runtime.NumGoroutine")) = true := by kernel_rfl
def renI : Ren := ⟨fun | 41 => 73 | n => n, fun | 22 => 24 | 23 => 3 | 4 => 4 | n => n, fun | n => n⟩
theorem layI : Go.Proofs.SlLaysE0.n41 Tryz.prog renI := { mixed := mixed, f41 := ⟨Tryz.f73.name, by decide, Tryz.func73.trans (congrArg some (by kernel_rfl))⟩, t4 := Tryz.underlying4, a4 := Tryz.isAgg4, z4 := Tryz.sizeOf4, v4 := Tryz.zeroValue4, t22 := Tryz.underlying24, a22 := Tryz.isAgg24, z22 := Tryz.sizeOf24, v22 := Tryz.zeroValue24 }
theorem goodI {args : List Lm.SVal} {r : Lm.Res} (h : Lm.primClone 1 args = some r) : Lm.Good Tryz.prog H 73 args r := by
  obtain ⟨i0, z, a1, a2, a3, a4, a5⟩ := Lm.infoB_spec (P := Tryz.prog) (t := 3) (size := 1) (bytes := 8) (by kernel_rfl)
  exact Lm.good_clone layI rfl (Lm.enter_ok noGo Tryz.func73 rfl) a1 a2 a3 a4 a5 (by omega) (by omega) Tryz.sizeOf3 (by kernel_rfl) h
theorem goodSort {args : List Lm.SVal} {r : Lm.Res} (h : Lm.primSort args = some r) : Lm.Good Tryz.prog H 120 args r :=
  Lm.good_sort (Lm.enter_ok noGo Tryz.func120 rfl) Tryz.slices_Sort_int Tryz.slices_Sort_int_none (by kernel_rfl) h
theorem goodApart {args : List Lm.SVal} {r : Lm.Res} (h : Lm.primApart args = some r) : Lm.Good Tryz.prog H 96 args r :=
  good_apart (Lm.enter_ok noGo Tryz.func96 rfl) (by kernel_rfl) h
theorem goodDel {T' : Nat → List Lm.SVal → Option Lm.Res} (hT : ∀ f a r, T' f a = some r → Lm.Good Tryz.prog H f a r) {args : List Lm.SVal} {r : Lm.Res} (h : Lm.primCache 50 T' args = some r) : Lm.Good Tryz.prog H 28 args r :=
  good_cache (Lm.enter_ok noGo Tryz.func28 rfl) hT h
theorem prims_good (T' : Nat → List Lm.SVal → Option Lm.Res) (hT : ∀ f a r, T' f a = some r → Lm.Good Tryz.prog H f a r) (f : Nat) (p : (Nat → List Lm.SVal → Option Lm.Res) → List Lm.SVal → Option Lm.Res) (args : List Lm.SVal) (r : Lm.Res) (hp : prim f = some p) (h : p T' args = some r) : Lm.Good Tryz.prog H f args r := by
  unfold prim at hp
  simp only [cond_eq_ite] at hp
  repeat' split at hp
  all_goals first
    | (cases hp; done)
    | (rename_i e; have e := Nat.eq_of_beq_eq_true e; subst e; cases hp
       first | exact goodI h | exact goodSort h | exact goodApart h | exact goodDel hT h)
theorem good_at {k f : Nat} {args : List Lm.SVal} {r : Lm.Res} (h : T k f args = some r) : Lm.Good Tryz.prog H f args r := Lm.TN_good mixed noGo prims_good k f args r h
end Go.Proofs.YtcdnmiaelaombaaGreat.K
