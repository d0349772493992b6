/- The functions that are told by themselves are told rightly. -/
import Derived.Test.YtkebikngkeehfaaGreatLmBO
import Derived.Test.YtkebikngkeehfaaGreatLmBP
import Derived.Test.YtkebikngkeehfaaGreatLmAP
set_option linter.unusedVariables false
set_option linter.unusedSimpArgs false
set_option linter.unnecessarySimpa false
set_option linter.all false
namespace Go.Proofs.YtkebikngkeehfaaGreat.K
open Go Go.Shelf Go.RowKit
set_option maxRecDepth 100000
theorem mixed : Tryz.prog.follows .mixedOrders = true := by kernel_rfl
theorem noGo : Tryz.prog.funcs.all (fun fn => !(fn.name == "runtime.NumGoroutine")) = true := by kernel_rfl
def renI : Ren := ⟨fun | 41 => 55 | n => n, fun | 22 => 24 | 23 => 3 | 4 => 4 | n => n, fun | n => n⟩
theorem layI : Go.Proofs.SlLaysE0.n41 Tryz.prog renI := { mixed := mixed, f41 := ⟨Tryz.f55.name, by decide, Tryz.func55.trans (congrArg some (by kernel_rfl))⟩, t4 := Tryz.underlying4, a4 := Tryz.isAgg4, z4 := Tryz.sizeOf4, v4 := Tryz.zeroValue4, t22 := Tryz.underlying24, a22 := Tryz.isAgg24, z22 := Tryz.sizeOf24, v22 := Tryz.zeroValue24 }
def renS : Ren := ⟨fun | 41 => 56 | n => n, fun | 22 => 25 | 23 => 39 | 4 => 4 | n => n, fun | n => n⟩
theorem layS : Go.Proofs.SlLaysE0.n41 Tryz.prog renS := { mixed := mixed, f41 := ⟨Tryz.f56.name, by decide, Tryz.func56.trans (congrArg some (by kernel_rfl))⟩, t4 := Tryz.underlying4, a4 := Tryz.isAgg4, z4 := Tryz.sizeOf4, v4 := Tryz.zeroValue4, t22 := Tryz.underlying25, a22 := Tryz.isAgg25, z22 := Tryz.sizeOf25, v22 := Tryz.zeroValue25 }
def renN : Ren := ⟨fun | 41 => 70 | n => n, fun | 22 => 23 | 23 => 54 | 4 => 4 | n => n, fun | n => n⟩
theorem layN : Go.Proofs.SlLaysE0.n41 Tryz.prog renN := { mixed := mixed, f41 := ⟨Tryz.f70.name, by decide, Tryz.func70.trans (congrArg some (by kernel_rfl))⟩, t4 := Tryz.underlying4, a4 := Tryz.isAgg4, z4 := Tryz.sizeOf4, v4 := Tryz.zeroValue4, t22 := Tryz.underlying23, a22 := Tryz.isAgg23, z22 := Tryz.sizeOf23, v22 := Tryz.zeroValue23 }
def renA : Ren := ⟨fun | 41 => 71 | n => n, fun | 22 => 52 | 23 => 56 | 4 => 4 | n => n, fun | n => n⟩
theorem layA : Go.Proofs.SlLaysE0.n41 Tryz.prog renA := { mixed := mixed, f41 := ⟨Tryz.f71.name, by decide, Tryz.func71.trans (congrArg some (by kernel_rfl))⟩, t4 := Tryz.underlying4, a4 := Tryz.isAgg4, z4 := Tryz.sizeOf4, v4 := Tryz.zeroValue4, t22 := Tryz.underlying52, a22 := Tryz.isAgg52, z22 := Tryz.sizeOf52, v22 := Tryz.zeroValue52 }
theorem goodI {args : List Lm.SVal} {r : Lm.Res} (h : Lm.primClone 1 args = some r) : Lm.Good Tryz.prog H 55 args r := by
  obtain ⟨i0, z, a1, a2, a3, a4, a5⟩ := Lm.infoB_spec (P := Tryz.prog) (t := 3) (size := 1) (bytes := 8) (by kernel_rfl)
  exact Lm.good_clone layI rfl (Lm.enter_ok noGo Tryz.func55 rfl) a1 a2 a3 a4 a5 (by omega) (by omega) Tryz.sizeOf3 (by kernel_rfl) h
theorem goodS {args : List Lm.SVal} {r : Lm.Res} (h : Lm.primClone 2 args = some r) : Lm.Good Tryz.prog H 56 args r := by
  obtain ⟨i0, z, a1, a2, a3, a4, a5⟩ := Lm.infoB_spec (P := Tryz.prog) (t := 39) (size := 2) (bytes := 16) (by kernel_rfl)
  exact Lm.good_clone layS rfl (Lm.enter_ok noGo Tryz.func56 rfl) a1 a2 a3 a4 a5 (by omega) (by omega) Tryz.sizeOf39 (by kernel_rfl) h
theorem goodN {args : List Lm.SVal} {r : Lm.Res} (h : Lm.primClone 7 args = some r) : Lm.Good Tryz.prog H 70 args r := by
  obtain ⟨i0, z, a1, a2, a3, a4, a5⟩ := Lm.infoB_spec (P := Tryz.prog) (t := 54) (size := 7) (bytes := 88) (by kernel_rfl)
  exact Lm.good_clone layN rfl (Lm.enter_ok noGo Tryz.func70 rfl) a1 a2 a3 a4 a5 (by omega) (by omega) Tryz.sizeOf54 (by kernel_rfl) h
theorem goodA {args : List Lm.SVal} {r : Lm.Res} (h : Lm.primClone 2 args = some r) : Lm.Good Tryz.prog H 71 args r := by
  obtain ⟨i0, z, a1, a2, a3, a4, a5⟩ := Lm.infoB_spec (P := Tryz.prog) (t := 56) (size := 2) (bytes := 16) (by kernel_rfl)
  exact Lm.good_clone layA rfl (Lm.enter_ok noGo Tryz.func71 rfl) a1 a2 a3 a4 a5 (by omega) (by omega) Tryz.sizeOf56 (by kernel_rfl) h
theorem goodSort {args : List Lm.SVal} {r : Lm.Res} (h : Lm.primSort args = some r) : Lm.Good Tryz.prog H 98 args r :=
  Lm.good_sort (Lm.enter_ok noGo Tryz.func98 rfl) Tryz.slices_Sort_int Tryz.slices_Sort_int_none (by kernel_rfl) h
theorem goodApart {args : List Lm.SVal} {r : Lm.Res} (h : Lm.primApart args = some r) : Lm.Good Tryz.prog H 82 args r :=
  good_apart (Lm.enter_ok noGo Tryz.func82 rfl) (by kernel_rfl) h
theorem prims_good (f : Nat) (p : List Lm.SVal → Option Lm.Res) (args : List Lm.SVal) (r : Lm.Res) (hp : prim f = some p) (h : p args = some r) : Lm.Good Tryz.prog H f args r := by
  unfold prim at hp
  simp only [cond_eq_ite] at hp
  repeat' split at hp
  all_goals first
    | (cases hp; done)
    | (rename_i e; have e := Nat.eq_of_beq_eq_true e; subst e; cases hp
       first | exact goodI h | exact goodS h | exact goodN h | exact goodA h | exact goodSort h | exact goodApart h)
theorem good_at {k f : Nat} {args : List Lm.SVal} {r : Lm.Res} (h : T k f args = some r) : Lm.Good Tryz.prog H f args r := Lm.TN_good mixed noGo prims_good k f args r h
end Go.Proofs.YtkebikngkeehfaaGreat.K
