/- All functions in a table: what is evaluated by it is what the evaluator gives. -/
import Derived.Test.YtcdnmiaelaombaaGreatLmAJ
import Derived.Test.YtcdnmiaelaombaaGreatLmAK
import Derived.Test.YtcdnmiaelaombaaGreatLmAL
import Derived.Test.YtcdnmiaelaombaaGreatLmAM
set_option linter.unusedVariables false
set_option linter.unusedSimpArgs false
set_option linter.unnecessarySimpa false
set_option linter.all false
namespace Go.Proofs.YtcdnmiaelaombaaGreat.K
open Go Go.Lm
theorem bs {T : TT} {k f n : Nat} {a : List SVal} {x y : Option Res} (h : x = bodyE P H T k n a) (g : y = bodyE P H T k f a) : (bif Nat.beq f n then x else y) = bodyE P H T k f a := by
  cases e : Nat.beq f n with
  | true => obtain rfl := Nat.eq_of_beq_eq_true e; exact h
  | false => exact g
noncomputable def tab0 (T : TT) (k f : Nat) (a : List SVal) : Option Res :=
  bif Nat.beq f 9 then D9 T k a else bif Nat.beq f 12 then D12 T k a else bif Nat.beq f 13 then D13 T k a else bif Nat.beq f 14 then D14 T k a else bif Nat.beq f 26 then D26 T k a else bif Nat.beq f 27 then D27 T k a else bif Nat.beq f 29 then D29 T k a else bif Nat.beq f 47 then D47 T k a else bif Nat.beq f 48 then D48 T k a else bif Nat.beq f 49 then D49 T k a else bif Nat.beq f 50 then D50 T k a else bif Nat.beq f 51 then D51 T k a else bodyE P H T k f a
theorem tab0_eq (T : TT) (k f : Nat) (a : List SVal) : tab0 T k f a = bodyE P H T k f a :=
  bs (d9 ..) <| bs (d12 ..) <| bs (d13 ..) <| bs (d14 ..) <| bs (d26 ..) <| bs (d27 ..) <| bs (d29 ..) <| bs (d47 ..) <| bs (d48 ..) <| bs (d49 ..) <| bs (d50 ..) <| bs (d51 ..) <| rfl
noncomputable def tab1 (T : TT) (k f : Nat) (a : List SVal) : Option Res :=
  bif Nat.beq f 52 then D52 T k a else bif Nat.beq f 53 then D53 T k a else bif Nat.beq f 54 then D54 T k a else bif Nat.beq f 55 then D55 T k a else bif Nat.beq f 68 then D68 T k a else bif Nat.beq f 69 then D69 T k a else bif Nat.beq f 70 then D70 T k a else bif Nat.beq f 71 then D71 T k a else bif Nat.beq f 72 then D72 T k a else bif Nat.beq f 74 then D74 T k a else bif Nat.beq f 75 then D75 T k a else bif Nat.beq f 76 then D76 T k a else bodyE P H T k f a
theorem tab1_eq (T : TT) (k f : Nat) (a : List SVal) : tab1 T k f a = bodyE P H T k f a :=
  bs (d52 ..) <| bs (d53 ..) <| bs (d54 ..) <| bs (d55 ..) <| bs (d68 ..) <| bs (d69 ..) <| bs (d70 ..) <| bs (d71 ..) <| bs (d72 ..) <| bs (d74 ..) <| bs (d75 ..) <| bs (d76 ..) <| rfl
noncomputable def tab2 (T : TT) (k f : Nat) (a : List SVal) : Option Res :=
  bif Nat.beq f 77 then D77 T k a else bif Nat.beq f 78 then D78 T k a else bif Nat.beq f 79 then D79 T k a else bif Nat.beq f 80 then D80 T k a else bif Nat.beq f 84 then D84 T k a else bif Nat.beq f 85 then D85 T k a else bif Nat.beq f 86 then D86 T k a else bif Nat.beq f 87 then D87 T k a else bif Nat.beq f 88 then D88 T k a else bif Nat.beq f 89 then D89 T k a else bif Nat.beq f 90 then D90 T k a else bif Nat.beq f 91 then D91 T k a else bodyE P H T k f a
theorem tab2_eq (T : TT) (k f : Nat) (a : List SVal) : tab2 T k f a = bodyE P H T k f a :=
  bs (d77 ..) <| bs (d78 ..) <| bs (d79 ..) <| bs (d80 ..) <| bs (d84 ..) <| bs (d85 ..) <| bs (d86 ..) <| bs (d87 ..) <| bs (d88 ..) <| bs (d89 ..) <| bs (d90 ..) <| bs (d91 ..) <| rfl
noncomputable def tab3 (T : TT) (k f : Nat) (a : List SVal) : Option Res :=
  bif Nat.beq f 92 then D92 T k a else bif Nat.beq f 93 then D93 T k a else bif Nat.beq f 94 then D94 T k a else bif Nat.beq f 95 then D95 T k a else bif Nat.beq f 97 then D97 T k a else bif Nat.beq f 98 then D98 T k a else bif Nat.beq f 99 then D99 T k a else bif Nat.beq f 100 then D100 T k a else bif Nat.beq f 101 then D101 T k a else bif Nat.beq f 102 then D102 T k a else bif Nat.beq f 103 then D103 T k a else bif Nat.beq f 104 then D104 T k a else bodyE P H T k f a
theorem tab3_eq (T : TT) (k f : Nat) (a : List SVal) : tab3 T k f a = bodyE P H T k f a :=
  bs (d92 ..) <| bs (d93 ..) <| bs (d94 ..) <| bs (d95 ..) <| bs (d97 ..) <| bs (d98 ..) <| bs (d99 ..) <| bs (d100 ..) <| bs (d101 ..) <| bs (d102 ..) <| bs (d103 ..) <| bs (d104 ..) <| rfl
noncomputable def tab4 (T : TT) (k f : Nat) (a : List SVal) : Option Res :=
  bif Nat.beq f 105 then D105 T k a else bif Nat.beq f 106 then D106 T k a else bif Nat.beq f 107 then D107 T k a else bif Nat.beq f 108 then D108 T k a else bif Nat.beq f 109 then D109 T k a else bif Nat.beq f 110 then D110 T k a else bif Nat.beq f 111 then D111 T k a else bif Nat.beq f 113 then D113 T k a else bif Nat.beq f 114 then D114 T k a else bif Nat.beq f 115 then D115 T k a else bif Nat.beq f 116 then D116 T k a else bif Nat.beq f 117 then D117 T k a else bodyE P H T k f a
theorem tab4_eq (T : TT) (k f : Nat) (a : List SVal) : tab4 T k f a = bodyE P H T k f a :=
  bs (d105 ..) <| bs (d106 ..) <| bs (d107 ..) <| bs (d108 ..) <| bs (d109 ..) <| bs (d110 ..) <| bs (d111 ..) <| bs (d113 ..) <| bs (d114 ..) <| bs (d115 ..) <| bs (d116 ..) <| bs (d117 ..) <| rfl
noncomputable def tab5 (T : TT) (k f : Nat) (a : List SVal) : Option Res :=
  bif Nat.beq f 118 then D118 T k a else bif Nat.beq f 119 then D119 T k a else bif Nat.beq f 121 then D121 T k a else bif Nat.beq f 123 then D123 T k a else bif Nat.beq f 124 then D124 T k a else bif Nat.beq f 125 then D125 T k a else bif Nat.beq f 126 then D126 T k a else bif Nat.beq f 127 then D127 T k a else bif Nat.beq f 128 then D128 T k a else bif Nat.beq f 129 then D129 T k a else bif Nat.beq f 130 then D130 T k a else bif Nat.beq f 132 then D132 T k a else bodyE P H T k f a
theorem tab5_eq (T : TT) (k f : Nat) (a : List SVal) : tab5 T k f a = bodyE P H T k f a :=
  bs (d118 ..) <| bs (d119 ..) <| bs (d121 ..) <| bs (d123 ..) <| bs (d124 ..) <| bs (d125 ..) <| bs (d126 ..) <| bs (d127 ..) <| bs (d128 ..) <| bs (d129 ..) <| bs (d130 ..) <| bs (d132 ..) <| rfl
noncomputable def tab6 (T : TT) (k f : Nat) (a : List SVal) : Option Res :=
  bif Nat.beq f 133 then D133 T k a else bif Nat.beq f 134 then D134 T k a else bif Nat.beq f 135 then D135 T k a else bif Nat.beq f 136 then D136 T k a else bif Nat.beq f 137 then D137 T k a else bif Nat.beq f 138 then D138 T k a else bif Nat.beq f 139 then D139 T k a else bif Nat.beq f 142 then D142 T k a else bif Nat.beq f 143 then D143 T k a else bif Nat.beq f 144 then D144 T k a else bif Nat.beq f 145 then D145 T k a else bif Nat.beq f 146 then D146 T k a else bodyE P H T k f a
theorem tab6_eq (T : TT) (k f : Nat) (a : List SVal) : tab6 T k f a = bodyE P H T k f a :=
  bs (d133 ..) <| bs (d134 ..) <| bs (d135 ..) <| bs (d136 ..) <| bs (d137 ..) <| bs (d138 ..) <| bs (d139 ..) <| bs (d142 ..) <| bs (d143 ..) <| bs (d144 ..) <| bs (d145 ..) <| bs (d146 ..) <| rfl
noncomputable def tab7 (T : TT) (k f : Nat) (a : List SVal) : Option Res :=
  bif Nat.beq f 147 then D147 T k a else bif Nat.beq f 148 then D148 T k a else bif Nat.beq f 149 then D149 T k a else bif Nat.beq f 153 then D153 T k a else bif Nat.beq f 154 then D154 T k a else bif Nat.beq f 155 then D155 T k a else bif Nat.beq f 156 then D156 T k a else bif Nat.beq f 157 then D157 T k a else bif Nat.beq f 169 then D169 T k a else bif Nat.beq f 170 then D170 T k a else bif Nat.beq f 171 then D171 T k a else bif Nat.beq f 172 then D172 T k a else bodyE P H T k f a
theorem tab7_eq (T : TT) (k f : Nat) (a : List SVal) : tab7 T k f a = bodyE P H T k f a :=
  bs (d147 ..) <| bs (d148 ..) <| bs (d149 ..) <| bs (d153 ..) <| bs (d154 ..) <| bs (d155 ..) <| bs (d156 ..) <| bs (d157 ..) <| bs (d169 ..) <| bs (d170 ..) <| bs (d171 ..) <| bs (d172 ..) <| rfl
noncomputable def tab8 (T : TT) (k f : Nat) (a : List SVal) : Option Res :=
  bif Nat.beq f 173 then D173 T k a else bif Nat.beq f 174 then D174 T k a else bif Nat.beq f 178 then D178 T k a else bif Nat.beq f 185 then D185 T k a else bif Nat.beq f 186 then D186 T k a else bif Nat.beq f 187 then D187 T k a else bif Nat.beq f 188 then D188 T k a else bif Nat.beq f 189 then D189 T k a else bif Nat.beq f 190 then D190 T k a else bif Nat.beq f 191 then D191 T k a else bif Nat.beq f 193 then D193 T k a else bif Nat.beq f 194 then D194 T k a else bodyE P H T k f a
theorem tab8_eq (T : TT) (k f : Nat) (a : List SVal) : tab8 T k f a = bodyE P H T k f a :=
  bs (d173 ..) <| bs (d174 ..) <| bs (d178 ..) <| bs (d185 ..) <| bs (d186 ..) <| bs (d187 ..) <| bs (d188 ..) <| bs (d189 ..) <| bs (d190 ..) <| bs (d191 ..) <| bs (d193 ..) <| bs (d194 ..) <| rfl
noncomputable def tab9 (T : TT) (k f : Nat) (a : List SVal) : Option Res :=
  bif Nat.beq f 195 then D195 T k a else bif Nat.beq f 196 then D196 T k a else bif Nat.beq f 197 then D197 T k a else bif Nat.beq f 198 then D198 T k a else bif Nat.beq f 199 then D199 T k a else bif Nat.beq f 200 then D200 T k a else bif Nat.beq f 201 then D201 T k a else bif Nat.beq f 202 then D202 T k a else bif Nat.beq f 203 then D203 T k a else bif Nat.beq f 204 then D204 T k a else bif Nat.beq f 205 then D205 T k a else bif Nat.beq f 206 then D206 T k a else bodyE P H T k f a
theorem tab9_eq (T : TT) (k f : Nat) (a : List SVal) : tab9 T k f a = bodyE P H T k f a :=
  bs (d195 ..) <| bs (d196 ..) <| bs (d197 ..) <| bs (d198 ..) <| bs (d199 ..) <| bs (d200 ..) <| bs (d201 ..) <| bs (d202 ..) <| bs (d203 ..) <| bs (d204 ..) <| bs (d205 ..) <| bs (d206 ..) <| rfl
noncomputable def tab10 (T : TT) (k f : Nat) (a : List SVal) : Option Res :=
  bif Nat.beq f 207 then D207 T k a else bodyE P H T k f a
theorem tab10_eq (T : TT) (k f : Nat) (a : List SVal) : tab10 T k f a = bodyE P H T k f a :=
  bs (d207 ..) <| rfl
noncomputable def tab (T : TT) (k f : Nat) (a : List SVal) : Option Res :=
  match prim f with
  | some p => p T a
  | none => (bif Nat.blt f 118 then (bif Nat.blt f 77 then (bif Nat.blt f 52 then tab0 T k f a else tab1 T k f a) else (bif Nat.blt f 92 then tab2 T k f a else (bif Nat.blt f 105 then tab3 T k f a else tab4 T k f a))) else (bif Nat.blt f 173 then (bif Nat.blt f 133 then tab5 T k f a else (bif Nat.blt f 147 then tab6 T k f a else tab7 T k f a)) else (bif Nat.blt f 195 then tab8 T k f a else (bif Nat.blt f 207 then tab9 T k f a else tab10 T k f a))))
theorem tab_eq (T : TT) (k f : Nat) (a : List SVal) : tab T k f a = (match prim f with | some p => p T a | none => bodyE P H T k f a) := by
  unfold tab
  split
  · rfl
  · simp only [tab0_eq, tab1_eq, tab2_eq, tab3_eq, tab4_eq, tab5_eq, tab6_eq, tab7_eq, tab8_eq, tab9_eq, tab10_eq, cond_eq_ite, ite_self]
noncomputable def TR : Nat → Nat → List SVal → Option Res
  | 0 => fun _ _ => none
  | k + 1 => tab (TR k) k
theorem TR_eq : ∀ k, TR k = T k
  | 0 => by funext f a; simp only [TR, T, TN]
  | k + 1 => by
    funext f a
    simp only [TR]
    rw [tab_eq, TR_eq k]
    simp only [T, TN]
    cases prim f <;> rfl
end Go.Proofs.YtcdnmiaelaombaaGreat.K
