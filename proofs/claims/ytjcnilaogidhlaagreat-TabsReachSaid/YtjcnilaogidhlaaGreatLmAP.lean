/- All functions in a table: what is evaluated by it is what the evaluator gives. -/
import Derived.Test.YtjcnilaogidhlaaGreatLmAK
import Derived.Test.YtjcnilaogidhlaaGreatLmAL
import Derived.Test.YtjcnilaogidhlaaGreatLmAM
import Derived.Test.YtjcnilaogidhlaaGreatLmAN
import Derived.Test.YtjcnilaogidhlaaGreatLmAO
set_option linter.unusedVariables false
set_option linter.unusedSimpArgs false
set_option linter.unnecessarySimpa false
set_option linter.all false
namespace Go.Proofs.YtjcnilaogidhlaaGreat.K
open Go Go.Lm
theorem bs {T : TT} {k f n : Nat} {a : List SVal} {x y : Option Res} (h : x = bodyE P H T k n a) (g : y = bodyE P H T k f a) : (bif Nat.beq f n then x else y) = bodyE P H T k f a := by
  cases e : Nat.beq f n with
  | true => obtain rfl := Nat.eq_of_beq_eq_true e; exact h
  | false => exact g
noncomputable def tab0 (T : TT) (k f : Nat) (a : List SVal) : Option Res :=
  bif Nat.beq f 15 then D15 T k a else bif Nat.beq f 18 then D18 T k a else bif Nat.beq f 19 then D19 T k a else bif Nat.beq f 20 then D20 T k a else bif Nat.beq f 21 then D21 T k a else bif Nat.beq f 34 then D34 T k a else bif Nat.beq f 35 then D35 T k a else bif Nat.beq f 36 then D36 T k a else bif Nat.beq f 42 then D42 T k a else bif Nat.beq f 43 then D43 T k a else bif Nat.beq f 44 then D44 T k a else bif Nat.beq f 45 then D45 T k a else bodyE P H T k f a
theorem tab0_eq (T : TT) (k f : Nat) (a : List SVal) : tab0 T k f a = bodyE P H T k f a :=
  bs (d15 ..) <| bs (d18 ..) <| bs (d19 ..) <| bs (d20 ..) <| bs (d21 ..) <| bs (d34 ..) <| bs (d35 ..) <| bs (d36 ..) <| bs (d42 ..) <| bs (d43 ..) <| bs (d44 ..) <| bs (d45 ..) <| rfl
noncomputable def tab1 (T : TT) (k f : Nat) (a : List SVal) : Option Res :=
  bif Nat.beq f 46 then D46 T k a else bif Nat.beq f 47 then D47 T k a else bif Nat.beq f 48 then D48 T k a else bif Nat.beq f 49 then D49 T k a else bif Nat.beq f 52 then D52 T k a else bif Nat.beq f 53 then D53 T k a else bif Nat.beq f 54 then D54 T k a else bif Nat.beq f 55 then D55 T k a else bif Nat.beq f 56 then D56 T k a else bif Nat.beq f 57 then D57 T k a else bif Nat.beq f 65 then D65 T k a else bif Nat.beq f 66 then D66 T k a else bodyE P H T k f a
theorem tab1_eq (T : TT) (k f : Nat) (a : List SVal) : tab1 T k f a = bodyE P H T k f a :=
  bs (d46 ..) <| bs (d47 ..) <| bs (d48 ..) <| bs (d49 ..) <| bs (d52 ..) <| bs (d53 ..) <| bs (d54 ..) <| bs (d55 ..) <| bs (d56 ..) <| bs (d57 ..) <| bs (d65 ..) <| bs (d66 ..) <| rfl
noncomputable def tab2 (T : TT) (k f : Nat) (a : List SVal) : Option Res :=
  bif Nat.beq f 67 then D67 T k a else bif Nat.beq f 68 then D68 T k a else bif Nat.beq f 69 then D69 T k a else bif Nat.beq f 70 then D70 T k a else bif Nat.beq f 71 then D71 T k a else bif Nat.beq f 72 then D72 T k a else bif Nat.beq f 73 then D73 T k a else bif Nat.beq f 75 then D75 T k a else bif Nat.beq f 76 then D76 T k a else bif Nat.beq f 77 then D77 T k a else bif Nat.beq f 78 then D78 T k a else bif Nat.beq f 79 then D79 T k a else bodyE P H T k f a
theorem tab2_eq (T : TT) (k f : Nat) (a : List SVal) : tab2 T k f a = bodyE P H T k f a :=
  bs (d67 ..) <| bs (d68 ..) <| bs (d69 ..) <| bs (d70 ..) <| bs (d71 ..) <| bs (d72 ..) <| bs (d73 ..) <| bs (d75 ..) <| bs (d76 ..) <| bs (d77 ..) <| bs (d78 ..) <| bs (d79 ..) <| rfl
noncomputable def tab3 (T : TT) (k f : Nat) (a : List SVal) : Option Res :=
  bif Nat.beq f 80 then D80 T k a else bif Nat.beq f 81 then D81 T k a else bif Nat.beq f 82 then D82 T k a else bif Nat.beq f 83 then D83 T k a else bif Nat.beq f 84 then D84 T k a else bif Nat.beq f 94 then D94 T k a else bif Nat.beq f 95 then D95 T k a else bif Nat.beq f 96 then D96 T k a else bif Nat.beq f 97 then D97 T k a else bif Nat.beq f 98 then D98 T k a else bif Nat.beq f 105 then D105 T k a else bif Nat.beq f 106 then D106 T k a else bodyE P H T k f a
theorem tab3_eq (T : TT) (k f : Nat) (a : List SVal) : tab3 T k f a = bodyE P H T k f a :=
  bs (d80 ..) <| bs (d81 ..) <| bs (d82 ..) <| bs (d83 ..) <| bs (d84 ..) <| bs (d94 ..) <| bs (d95 ..) <| bs (d96 ..) <| bs (d97 ..) <| bs (d98 ..) <| bs (d105 ..) <| bs (d106 ..) <| rfl
noncomputable def tab4 (T : TT) (k f : Nat) (a : List SVal) : Option Res :=
  bif Nat.beq f 107 then D107 T k a else bif Nat.beq f 108 then D108 T k a else bif Nat.beq f 109 then D109 T k a else bif Nat.beq f 111 then D111 T k a else bif Nat.beq f 112 then D112 T k a else bif Nat.beq f 113 then D113 T k a else bif Nat.beq f 114 then D114 T k a else bif Nat.beq f 115 then D115 T k a else bif Nat.beq f 116 then D116 T k a else bif Nat.beq f 117 then D117 T k a else bif Nat.beq f 118 then D118 T k a else bif Nat.beq f 119 then D119 T k a else bodyE P H T k f a
theorem tab4_eq (T : TT) (k f : Nat) (a : List SVal) : tab4 T k f a = bodyE P H T k f a :=
  bs (d107 ..) <| bs (d108 ..) <| bs (d109 ..) <| bs (d111 ..) <| bs (d112 ..) <| bs (d113 ..) <| bs (d114 ..) <| bs (d115 ..) <| bs (d116 ..) <| bs (d117 ..) <| bs (d118 ..) <| bs (d119 ..) <| rfl
noncomputable def tab5 (T : TT) (k f : Nat) (a : List SVal) : Option Res :=
  bif Nat.beq f 120 then D120 T k a else bif Nat.beq f 121 then D121 T k a else bif Nat.beq f 122 then D122 T k a else bif Nat.beq f 123 then D123 T k a else bif Nat.beq f 124 then D124 T k a else bif Nat.beq f 125 then D125 T k a else bif Nat.beq f 132 then D132 T k a else bif Nat.beq f 133 then D133 T k a else bif Nat.beq f 134 then D134 T k a else bif Nat.beq f 135 then D135 T k a else bif Nat.beq f 141 then D141 T k a else bif Nat.beq f 142 then D142 T k a else bodyE P H T k f a
theorem tab5_eq (T : TT) (k f : Nat) (a : List SVal) : tab5 T k f a = bodyE P H T k f a :=
  bs (d120 ..) <| bs (d121 ..) <| bs (d122 ..) <| bs (d123 ..) <| bs (d124 ..) <| bs (d125 ..) <| bs (d132 ..) <| bs (d133 ..) <| bs (d134 ..) <| bs (d135 ..) <| bs (d141 ..) <| bs (d142 ..) <| rfl
noncomputable def tab6 (T : TT) (k f : Nat) (a : List SVal) : Option Res :=
  bif Nat.beq f 143 then D143 T k a else bif Nat.beq f 144 then D144 T k a else bif Nat.beq f 145 then D145 T k a else bif Nat.beq f 146 then D146 T k a else bif Nat.beq f 147 then D147 T k a else bif Nat.beq f 148 then D148 T k a else bif Nat.beq f 149 then D149 T k a else bif Nat.beq f 150 then D150 T k a else bif Nat.beq f 151 then D151 T k a else bif Nat.beq f 152 then D152 T k a else bif Nat.beq f 154 then D154 T k a else bif Nat.beq f 155 then D155 T k a else bodyE P H T k f a
theorem tab6_eq (T : TT) (k f : Nat) (a : List SVal) : tab6 T k f a = bodyE P H T k f a :=
  bs (d143 ..) <| bs (d144 ..) <| bs (d145 ..) <| bs (d146 ..) <| bs (d147 ..) <| bs (d148 ..) <| bs (d149 ..) <| bs (d150 ..) <| bs (d151 ..) <| bs (d152 ..) <| bs (d154 ..) <| bs (d155 ..) <| rfl
noncomputable def tab7 (T : TT) (k f : Nat) (a : List SVal) : Option Res :=
  bif Nat.beq f 156 then D156 T k a else bif Nat.beq f 157 then D157 T k a else bif Nat.beq f 158 then D158 T k a else bif Nat.beq f 159 then D159 T k a else bif Nat.beq f 160 then D160 T k a else bif Nat.beq f 161 then D161 T k a else bif Nat.beq f 162 then D162 T k a else bif Nat.beq f 163 then D163 T k a else bif Nat.beq f 164 then D164 T k a else bif Nat.beq f 165 then D165 T k a else bif Nat.beq f 166 then D166 T k a else bif Nat.beq f 167 then D167 T k a else bodyE P H T k f a
theorem tab7_eq (T : TT) (k f : Nat) (a : List SVal) : tab7 T k f a = bodyE P H T k f a :=
  bs (d156 ..) <| bs (d157 ..) <| bs (d158 ..) <| bs (d159 ..) <| bs (d160 ..) <| bs (d161 ..) <| bs (d162 ..) <| bs (d163 ..) <| bs (d164 ..) <| bs (d165 ..) <| bs (d166 ..) <| bs (d167 ..) <| rfl
noncomputable def tab8 (T : TT) (k f : Nat) (a : List SVal) : Option Res :=
  bif Nat.beq f 168 then D168 T k a else bif Nat.beq f 169 then D169 T k a else bif Nat.beq f 170 then D170 T k a else bif Nat.beq f 171 then D171 T k a else bif Nat.beq f 174 then D174 T k a else bif Nat.beq f 176 then D176 T k a else bif Nat.beq f 177 then D177 T k a else bif Nat.beq f 178 then D178 T k a else bif Nat.beq f 179 then D179 T k a else bif Nat.beq f 180 then D180 T k a else bif Nat.beq f 181 then D181 T k a else bif Nat.beq f 182 then D182 T k a else bodyE P H T k f a
theorem tab8_eq (T : TT) (k f : Nat) (a : List SVal) : tab8 T k f a = bodyE P H T k f a :=
  bs (d168 ..) <| bs (d169 ..) <| bs (d170 ..) <| bs (d171 ..) <| bs (d174 ..) <| bs (d176 ..) <| bs (d177 ..) <| bs (d178 ..) <| bs (d179 ..) <| bs (d180 ..) <| bs (d181 ..) <| bs (d182 ..) <| rfl
noncomputable def tab9 (T : TT) (k f : Nat) (a : List SVal) : Option Res :=
  bif Nat.beq f 183 then D183 T k a else bif Nat.beq f 185 then D185 T k a else bif Nat.beq f 187 then D187 T k a else bif Nat.beq f 188 then D188 T k a else bif Nat.beq f 189 then D189 T k a else bif Nat.beq f 190 then D190 T k a else bif Nat.beq f 191 then D191 T k a else bif Nat.beq f 192 then D192 T k a else bif Nat.beq f 193 then D193 T k a else bif Nat.beq f 194 then D194 T k a else bif Nat.beq f 195 then D195 T k a else bif Nat.beq f 196 then D196 T k a else bodyE P H T k f a
theorem tab9_eq (T : TT) (k f : Nat) (a : List SVal) : tab9 T k f a = bodyE P H T k f a :=
  bs (d183 ..) <| bs (d185 ..) <| bs (d187 ..) <| bs (d188 ..) <| bs (d189 ..) <| bs (d190 ..) <| bs (d191 ..) <| bs (d192 ..) <| bs (d193 ..) <| bs (d194 ..) <| bs (d195 ..) <| bs (d196 ..) <| rfl
noncomputable def tab10 (T : TT) (k f : Nat) (a : List SVal) : Option Res :=
  bif Nat.beq f 200 then D200 T k a else bif Nat.beq f 201 then D201 T k a else bif Nat.beq f 202 then D202 T k a else bif Nat.beq f 203 then D203 T k a else bif Nat.beq f 204 then D204 T k a else bif Nat.beq f 205 then D205 T k a else bif Nat.beq f 206 then D206 T k a else bif Nat.beq f 207 then D207 T k a else bif Nat.beq f 210 then D210 T k a else bif Nat.beq f 211 then D211 T k a else bif Nat.beq f 212 then D212 T k a else bif Nat.beq f 213 then D213 T k a else bodyE P H T k f a
theorem tab10_eq (T : TT) (k f : Nat) (a : List SVal) : tab10 T k f a = bodyE P H T k f a :=
  bs (d200 ..) <| bs (d201 ..) <| bs (d202 ..) <| bs (d203 ..) <| bs (d204 ..) <| bs (d205 ..) <| bs (d206 ..) <| bs (d207 ..) <| bs (d210 ..) <| bs (d211 ..) <| bs (d212 ..) <| bs (d213 ..) <| rfl
noncomputable def tab11 (T : TT) (k f : Nat) (a : List SVal) : Option Res :=
  bif Nat.beq f 214 then D214 T k a else bif Nat.beq f 215 then D215 T k a else bif Nat.beq f 216 then D216 T k a else bif Nat.beq f 217 then D217 T k a else bif Nat.beq f 218 then D218 T k a else bif Nat.beq f 220 then D220 T k a else bif Nat.beq f 221 then D221 T k a else bif Nat.beq f 222 then D222 T k a else bif Nat.beq f 234 then D234 T k a else bif Nat.beq f 235 then D235 T k a else bif Nat.beq f 236 then D236 T k a else bif Nat.beq f 237 then D237 T k a else bodyE P H T k f a
theorem tab11_eq (T : TT) (k f : Nat) (a : List SVal) : tab11 T k f a = bodyE P H T k f a :=
  bs (d214 ..) <| bs (d215 ..) <| bs (d216 ..) <| bs (d217 ..) <| bs (d218 ..) <| bs (d220 ..) <| bs (d221 ..) <| bs (d222 ..) <| bs (d234 ..) <| bs (d235 ..) <| bs (d236 ..) <| bs (d237 ..) <| rfl
noncomputable def tab12 (T : TT) (k f : Nat) (a : List SVal) : Option Res :=
  bif Nat.beq f 238 then D238 T k a else bif Nat.beq f 244 then D244 T k a else bif Nat.beq f 245 then D245 T k a else bif Nat.beq f 246 then D246 T k a else bodyE P H T k f a
theorem tab12_eq (T : TT) (k f : Nat) (a : List SVal) : tab12 T k f a = bodyE P H T k f a :=
  bs (d238 ..) <| bs (d244 ..) <| bs (d245 ..) <| bs (d246 ..) <| rfl
noncomputable def tab (T : TT) (k f : Nat) (a : List SVal) : Option Res :=
  match prim f with
  | some p => p a
  | none => (bif Nat.blt f 143 then (bif Nat.blt f 80 then (bif Nat.blt f 46 then tab0 T k f a else (bif Nat.blt f 67 then tab1 T k f a else tab2 T k f a)) else (bif Nat.blt f 107 then tab3 T k f a else (bif Nat.blt f 120 then tab4 T k f a else tab5 T k f a))) else (bif Nat.blt f 183 then (bif Nat.blt f 156 then tab6 T k f a else (bif Nat.blt f 168 then tab7 T k f a else tab8 T k f a)) else (bif Nat.blt f 214 then (bif Nat.blt f 200 then tab9 T k f a else tab10 T k f a) else (bif Nat.blt f 238 then tab11 T k f a else tab12 T k f a))))
theorem tab_eq (T : TT) (k f : Nat) (a : List SVal) : tab T k f a = (match prim f with | some p => p a | none => bodyE P H T k f a) := by
  unfold tab
  split
  · rfl
  · simp only [tab0_eq, tab1_eq, tab2_eq, tab3_eq, tab4_eq, tab5_eq, tab6_eq, tab7_eq, tab8_eq, tab9_eq, tab10_eq, tab11_eq, tab12_eq, cond_eq_ite, ite_self]
noncomputable def TR : Nat → Nat → List SVal → Option Res
  | 0 => fun _ _ => none
  | k + 1 => tab (TR k) k
theorem TR_eq : ∀ k, TR k = T k
  | 0 => by funext f a; simp only [TR, T, TN]
  | k + 1 => by
    funext f a
    simp only [TR]
    rw [tab_eq, TR_eq k]
    simp only [T, TN]
    cases prim f <;> rfl
end Go.Proofs.YtjcnilaogidhlaaGreat.K
