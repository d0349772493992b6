/- All functions in a table: what is evaluated by it is what the evaluator gives. -/
import Derived.Test.YtcehbmffbmhpfaaGreatLmAL
import Derived.Test.YtcehbmffbmhpfaaGreatLmAM
import Derived.Test.YtcehbmffbmhpfaaGreatLmAN
import Derived.Test.YtcehbmffbmhpfaaGreatLmAO
import Derived.Test.YtcehbmffbmhpfaaGreatLmAP
import Derived.Test.YtcehbmffbmhpfaaGreatLmAQ
import Derived.Test.YtcehbmffbmhpfaaGreatLmAR
set_option linter.unusedVariables false
set_option linter.unusedSimpArgs false
set_option linter.unnecessarySimpa false
set_option linter.all false
namespace Go.Proofs.YtcehbmffbmhpfaaGreat.K
open Go Go.Lm
noncomputable def tab0 (T : Nat → List SVal → Option Res) (k f : Nat) (a : List SVal) : Option Res :=
  bif Nat.beq f 3 then D3 T k a else bif Nat.beq f 4 then D4 T k a else bif Nat.beq f 5 then D5 T k a else bif Nat.beq f 6 then D6 T k a else bif Nat.beq f 7 then D7 T k a else bif Nat.beq f 8 then D8 T k a else bif Nat.beq f 9 then D9 T k a else bif Nat.beq f 10 then D10 T k a else bif Nat.beq f 11 then D11 T k a else bif Nat.beq f 12 then D12 T k a else bif Nat.beq f 13 then D13 T k a else bif Nat.beq f 14 then D14 T k a else bodyE P H T k f a
theorem tab0_eq (T : Nat → List SVal → Option Res) (k f : Nat) (a : List SVal) : tab0 T k f a = bodyE P H T k f a := by
  unfold tab0
  cases h3 : Nat.beq f 3 with
  | true => obtain rfl := Nat.eq_of_beq_eq_true h3; exact d3 T k a
  | false =>
  simp only [cond_false]
  cases h4 : Nat.beq f 4 with
  | true => obtain rfl := Nat.eq_of_beq_eq_true h4; exact d4 T k a
  | false =>
  simp only [cond_false]
  cases h5 : Nat.beq f 5 with
  | true => obtain rfl := Nat.eq_of_beq_eq_true h5; exact d5 T k a
  | false =>
  simp only [cond_false]
  cases h6 : Nat.beq f 6 with
  | true => obtain rfl := Nat.eq_of_beq_eq_true h6; exact d6 T k a
  | false =>
  simp only [cond_false]
  cases h7 : Nat.beq f 7 with
  | true => obtain rfl := Nat.eq_of_beq_eq_true h7; exact d7 T k a
  | false =>
  simp only [cond_false]
  cases h8 : Nat.beq f 8 with
  | true => obtain rfl := Nat.eq_of_beq_eq_true h8; exact d8 T k a
  | false =>
  simp only [cond_false]
  cases h9 : Nat.beq f 9 with
  | true => obtain rfl := Nat.eq_of_beq_eq_true h9; exact d9 T k a
  | false =>
  simp only [cond_false]
  cases h10 : Nat.beq f 10 with
  | true => obtain rfl := Nat.eq_of_beq_eq_true h10; exact d10 T k a
  | false =>
  simp only [cond_false]
  cases h11 : Nat.beq f 11 with
  | true => obtain rfl := Nat.eq_of_beq_eq_true h11; exact d11 T k a
  | false =>
  simp only [cond_false]
  cases h12 : Nat.beq f 12 with
  | true => obtain rfl := Nat.eq_of_beq_eq_true h12; exact d12 T k a
  | false =>
  simp only [cond_false]
  cases h13 : Nat.beq f 13 with
  | true => obtain rfl := Nat.eq_of_beq_eq_true h13; exact d13 T k a
  | false =>
  simp only [cond_false]
  cases h14 : Nat.beq f 14 with
  | true => obtain rfl := Nat.eq_of_beq_eq_true h14; exact d14 T k a
  | false =>
  simp only [cond_false]
noncomputable def tab1 (T : Nat → List SVal → Option Res) (k f : Nat) (a : List SVal) : Option Res :=
  bif Nat.beq f 15 then D15 T k a else bif Nat.beq f 16 then D16 T k a else bif Nat.beq f 17 then D17 T k a else bif Nat.beq f 18 then D18 T k a else bif Nat.beq f 19 then D19 T k a else bif Nat.beq f 20 then D20 T k a else bif Nat.beq f 21 then D21 T k a else bif Nat.beq f 22 then D22 T k a else bif Nat.beq f 23 then D23 T k a else bif Nat.beq f 24 then D24 T k a else bif Nat.beq f 25 then D25 T k a else bif Nat.beq f 26 then D26 T k a else bodyE P H T k f a
theorem tab1_eq (T : Nat → List SVal → Option Res) (k f : Nat) (a : List SVal) : tab1 T k f a = bodyE P H T k f a := by
  unfold tab1
  cases h15 : Nat.beq f 15 with
  | true => obtain rfl := Nat.eq_of_beq_eq_true h15; exact d15 T k a
  | false =>
  simp only [cond_false]
  cases h16 : Nat.beq f 16 with
  | true => obtain rfl := Nat.eq_of_beq_eq_true h16; exact d16 T k a
  | false =>
  simp only [cond_false]
  cases h17 : Nat.beq f 17 with
  | true => obtain rfl := Nat.eq_of_beq_eq_true h17; exact d17 T k a
  | false =>
  simp only [cond_false]
  cases h18 : Nat.beq f 18 with
  | true => obtain rfl := Nat.eq_of_beq_eq_true h18; exact d18 T k a
  | false =>
  simp only [cond_false]
  cases h19 : Nat.beq f 19 with
  | true => obtain rfl := Nat.eq_of_beq_eq_true h19; exact d19 T k a
  | false =>
  simp only [cond_false]
  cases h20 : Nat.beq f 20 with
  | true => obtain rfl := Nat.eq_of_beq_eq_true h20; exact d20 T k a
  | false =>
  simp only [cond_false]
  cases h21 : Nat.beq f 21 with
  | true => obtain rfl := Nat.eq_of_beq_eq_true h21; exact d21 T k a
  | false =>
  simp only [cond_false]
  cases h22 : Nat.beq f 22 with
  | true => obtain rfl := Nat.eq_of_beq_eq_true h22; exact d22 T k a
  | false =>
  simp only [cond_false]
  cases h23 : Nat.beq f 23 with
  | true => obtain rfl := Nat.eq_of_beq_eq_true h23; exact d23 T k a
  | false =>
  simp only [cond_false]
  cases h24 : Nat.beq f 24 with
  | true => obtain rfl := Nat.eq_of_beq_eq_true h24; exact d24 T k a
  | false =>
  simp only [cond_false]
  cases h25 : Nat.beq f 25 with
  | true => obtain rfl := Nat.eq_of_beq_eq_true h25; exact d25 T k a
  | false =>
  simp only [cond_false]
  cases h26 : Nat.beq f 26 with
  | true => obtain rfl := Nat.eq_of_beq_eq_true h26; exact d26 T k a
  | false =>
  simp only [cond_false]
noncomputable def tab2 (T : Nat → List SVal → Option Res) (k f : Nat) (a : List SVal) : Option Res :=
  bif Nat.beq f 27 then D27 T k a else bif Nat.beq f 28 then D28 T k a else bif Nat.beq f 29 then D29 T k a else bif Nat.beq f 30 then D30 T k a else bif Nat.beq f 31 then D31 T k a else bif Nat.beq f 32 then D32 T k a else bif Nat.beq f 33 then D33 T k a else bif Nat.beq f 34 then D34 T k a else bif Nat.beq f 35 then D35 T k a else bif Nat.beq f 36 then D36 T k a else bif Nat.beq f 37 then D37 T k a else bif Nat.beq f 38 then D38 T k a else bodyE P H T k f a
theorem tab2_eq (T : Nat → List SVal → Option Res) (k f : Nat) (a : List SVal) : tab2 T k f a = bodyE P H T k f a := by
  unfold tab2
  cases h27 : Nat.beq f 27 with
  | true => obtain rfl := Nat.eq_of_beq_eq_true h27; exact d27 T k a
  | false =>
  simp only [cond_false]
  cases h28 : Nat.beq f 28 with
  | true => obtain rfl := Nat.eq_of_beq_eq_true h28; exact d28 T k a
  | false =>
  simp only [cond_false]
  cases h29 : Nat.beq f 29 with
  | true => obtain rfl := Nat.eq_of_beq_eq_true h29; exact d29 T k a
  | false =>
  simp only [cond_false]
  cases h30 : Nat.beq f 30 with
  | true => obtain rfl := Nat.eq_of_beq_eq_true h30; exact d30 T k a
  | false =>
  simp only [cond_false]
  cases h31 : Nat.beq f 31 with
  | true => obtain rfl := Nat.eq_of_beq_eq_true h31; exact d31 T k a
  | false =>
  simp only [cond_false]
  cases h32 : Nat.beq f 32 with
  | true => obtain rfl := Nat.eq_of_beq_eq_true h32; exact d32 T k a
  | false =>
  simp only [cond_false]
  cases h33 : Nat.beq f 33 with
  | true => obtain rfl := Nat.eq_of_beq_eq_true h33; exact d33 T k a
  | false =>
  simp only [cond_false]
  cases h34 : Nat.beq f 34 with
  | true => obtain rfl := Nat.eq_of_beq_eq_true h34; exact d34 T k a
  | false =>
  simp only [cond_false]
  cases h35 : Nat.beq f 35 with
  | true => obtain rfl := Nat.eq_of_beq_eq_true h35; exact d35 T k a
  | false =>
  simp only [cond_false]
  cases h36 : Nat.beq f 36 with
  | true => obtain rfl := Nat.eq_of_beq_eq_true h36; exact d36 T k a
  | false =>
  simp only [cond_false]
  cases h37 : Nat.beq f 37 with
  | true => obtain rfl := Nat.eq_of_beq_eq_true h37; exact d37 T k a
  | false =>
  simp only [cond_false]
  cases h38 : Nat.beq f 38 with
  | true => obtain rfl := Nat.eq_of_beq_eq_true h38; exact d38 T k a
  | false =>
  simp only [cond_false]
noncomputable def tab3 (T : Nat → List SVal → Option Res) (k f : Nat) (a : List SVal) : Option Res :=
  bif Nat.beq f 39 then D39 T k a else bif Nat.beq f 40 then D40 T k a else bif Nat.beq f 41 then D41 T k a else bif Nat.beq f 42 then D42 T k a else bif Nat.beq f 43 then D43 T k a else bif Nat.beq f 44 then D44 T k a else bif Nat.beq f 45 then D45 T k a else bif Nat.beq f 46 then D46 T k a else bif Nat.beq f 47 then D47 T k a else bif Nat.beq f 48 then D48 T k a else bif Nat.beq f 49 then D49 T k a else bif Nat.beq f 50 then D50 T k a else bodyE P H T k f a
theorem tab3_eq (T : Nat → List SVal → Option Res) (k f : Nat) (a : List SVal) : tab3 T k f a = bodyE P H T k f a := by
  unfold tab3
  cases h39 : Nat.beq f 39 with
  | true => obtain rfl := Nat.eq_of_beq_eq_true h39; exact d39 T k a
  | false =>
  simp only [cond_false]
  cases h40 : Nat.beq f 40 with
  | true => obtain rfl := Nat.eq_of_beq_eq_true h40; exact d40 T k a
  | false =>
  simp only [cond_false]
  cases h41 : Nat.beq f 41 with
  | true => obtain rfl := Nat.eq_of_beq_eq_true h41; exact d41 T k a
  | false =>
  simp only [cond_false]
  cases h42 : Nat.beq f 42 with
  | true => obtain rfl := Nat.eq_of_beq_eq_true h42; exact d42 T k a
  | false =>
  simp only [cond_false]
  cases h43 : Nat.beq f 43 with
  | true => obtain rfl := Nat.eq_of_beq_eq_true h43; exact d43 T k a
  | false =>
  simp only [cond_false]
  cases h44 : Nat.beq f 44 with
  | true => obtain rfl := Nat.eq_of_beq_eq_true h44; exact d44 T k a
  | false =>
  simp only [cond_false]
  cases h45 : Nat.beq f 45 with
  | true => obtain rfl := Nat.eq_of_beq_eq_true h45; exact d45 T k a
  | false =>
  simp only [cond_false]
  cases h46 : Nat.beq f 46 with
  | true => obtain rfl := Nat.eq_of_beq_eq_true h46; exact d46 T k a
  | false =>
  simp only [cond_false]
  cases h47 : Nat.beq f 47 with
  | true => obtain rfl := Nat.eq_of_beq_eq_true h47; exact d47 T k a
  | false =>
  simp only [cond_false]
  cases h48 : Nat.beq f 48 with
  | true => obtain rfl := Nat.eq_of_beq_eq_true h48; exact d48 T k a
  | false =>
  simp only [cond_false]
  cases h49 : Nat.beq f 49 with
  | true => obtain rfl := Nat.eq_of_beq_eq_true h49; exact d49 T k a
  | false =>
  simp only [cond_false]
  cases h50 : Nat.beq f 50 with
  | true => obtain rfl := Nat.eq_of_beq_eq_true h50; exact d50 T k a
  | false =>
  simp only [cond_false]
noncomputable def tab4 (T : Nat → List SVal → Option Res) (k f : Nat) (a : List SVal) : Option Res :=
  bif Nat.beq f 51 then D51 T k a else bif Nat.beq f 52 then D52 T k a else bif Nat.beq f 53 then D53 T k a else bif Nat.beq f 54 then D54 T k a else bif Nat.beq f 55 then D55 T k a else bif Nat.beq f 56 then D56 T k a else bif Nat.beq f 57 then D57 T k a else bif Nat.beq f 58 then D58 T k a else bif Nat.beq f 59 then D59 T k a else bif Nat.beq f 60 then D60 T k a else bif Nat.beq f 61 then D61 T k a else bif Nat.beq f 62 then D62 T k a else bodyE P H T k f a
theorem tab4_eq (T : Nat → List SVal → Option Res) (k f : Nat) (a : List SVal) : tab4 T k f a = bodyE P H T k f a := by
  unfold tab4
  cases h51 : Nat.beq f 51 with
  | true => obtain rfl := Nat.eq_of_beq_eq_true h51; exact d51 T k a
  | false =>
  simp only [cond_false]
  cases h52 : Nat.beq f 52 with
  | true => obtain rfl := Nat.eq_of_beq_eq_true h52; exact d52 T k a
  | false =>
  simp only [cond_false]
  cases h53 : Nat.beq f 53 with
  | true => obtain rfl := Nat.eq_of_beq_eq_true h53; exact d53 T k a
  | false =>
  simp only [cond_false]
  cases h54 : Nat.beq f 54 with
  | true => obtain rfl := Nat.eq_of_beq_eq_true h54; exact d54 T k a
  | false =>
  simp only [cond_false]
  cases h55 : Nat.beq f 55 with
  | true => obtain rfl := Nat.eq_of_beq_eq_true h55; exact d55 T k a
  | false =>
  simp only [cond_false]
  cases h56 : Nat.beq f 56 with
  | true => obtain rfl := Nat.eq_of_beq_eq_true h56; exact d56 T k a
  | false =>
  simp only [cond_false]
  cases h57 : Nat.beq f 57 with
  | true => obtain rfl := Nat.eq_of_beq_eq_true h57; exact d57 T k a
  | false =>
  simp only [cond_false]
  cases h58 : Nat.beq f 58 with
  | true => obtain rfl := Nat.eq_of_beq_eq_true h58; exact d58 T k a
  | false =>
  simp only [cond_false]
  cases h59 : Nat.beq f 59 with
  | true => obtain rfl := Nat.eq_of_beq_eq_true h59; exact d59 T k a
  | false =>
  simp only [cond_false]
  cases h60 : Nat.beq f 60 with
  | true => obtain rfl := Nat.eq_of_beq_eq_true h60; exact d60 T k a
  | false =>
  simp only [cond_false]
  cases h61 : Nat.beq f 61 with
  | true => obtain rfl := Nat.eq_of_beq_eq_true h61; exact d61 T k a
  | false =>
  simp only [cond_false]
  cases h62 : Nat.beq f 62 with
  | true => obtain rfl := Nat.eq_of_beq_eq_true h62; exact d62 T k a
  | false =>
  simp only [cond_false]
noncomputable def tab5 (T : Nat → List SVal → Option Res) (k f : Nat) (a : List SVal) : Option Res :=
  bif Nat.beq f 63 then D63 T k a else bif Nat.beq f 64 then D64 T k a else bif Nat.beq f 65 then D65 T k a else bif Nat.beq f 66 then D66 T k a else bif Nat.beq f 67 then D67 T k a else bif Nat.beq f 68 then D68 T k a else bif Nat.beq f 69 then D69 T k a else bif Nat.beq f 70 then D70 T k a else bif Nat.beq f 71 then D71 T k a else bif Nat.beq f 72 then D72 T k a else bif Nat.beq f 73 then D73 T k a else bif Nat.beq f 74 then D74 T k a else bodyE P H T k f a
theorem tab5_eq (T : Nat → List SVal → Option Res) (k f : Nat) (a : List SVal) : tab5 T k f a = bodyE P H T k f a := by
  unfold tab5
  cases h63 : Nat.beq f 63 with
  | true => obtain rfl := Nat.eq_of_beq_eq_true h63; exact d63 T k a
  | false =>
  simp only [cond_false]
  cases h64 : Nat.beq f 64 with
  | true => obtain rfl := Nat.eq_of_beq_eq_true h64; exact d64 T k a
  | false =>
  simp only [cond_false]
  cases h65 : Nat.beq f 65 with
  | true => obtain rfl := Nat.eq_of_beq_eq_true h65; exact d65 T k a
  | false =>
  simp only [cond_false]
  cases h66 : Nat.beq f 66 with
  | true => obtain rfl := Nat.eq_of_beq_eq_true h66; exact d66 T k a
  | false =>
  simp only [cond_false]
  cases h67 : Nat.beq f 67 with
  | true => obtain rfl := Nat.eq_of_beq_eq_true h67; exact d67 T k a
  | false =>
  simp only [cond_false]
  cases h68 : Nat.beq f 68 with
  | true => obtain rfl := Nat.eq_of_beq_eq_true h68; exact d68 T k a
  | false =>
  simp only [cond_false]
  cases h69 : Nat.beq f 69 with
  | true => obtain rfl := Nat.eq_of_beq_eq_true h69; exact d69 T k a
  | false =>
  simp only [cond_false]
  cases h70 : Nat.beq f 70 with
  | true => obtain rfl := Nat.eq_of_beq_eq_true h70; exact d70 T k a
  | false =>
  simp only [cond_false]
  cases h71 : Nat.beq f 71 with
  | true => obtain rfl := Nat.eq_of_beq_eq_true h71; exact d71 T k a
  | false =>
  simp only [cond_false]
  cases h72 : Nat.beq f 72 with
  | true => obtain rfl := Nat.eq_of_beq_eq_true h72; exact d72 T k a
  | false =>
  simp only [cond_false]
  cases h73 : Nat.beq f 73 with
  | true => obtain rfl := Nat.eq_of_beq_eq_true h73; exact d73 T k a
  | false =>
  simp only [cond_false]
  cases h74 : Nat.beq f 74 with
  | true => obtain rfl := Nat.eq_of_beq_eq_true h74; exact d74 T k a
  | false =>
  simp only [cond_false]
noncomputable def tab6 (T : Nat → List SVal → Option Res) (k f : Nat) (a : List SVal) : Option Res :=
  bif Nat.beq f 75 then D75 T k a else bif Nat.beq f 76 then D76 T k a else bif Nat.beq f 77 then D77 T k a else bif Nat.beq f 78 then D78 T k a else bif Nat.beq f 79 then D79 T k a else bif Nat.beq f 80 then D80 T k a else bif Nat.beq f 81 then D81 T k a else bif Nat.beq f 82 then D82 T k a else bif Nat.beq f 83 then D83 T k a else bif Nat.beq f 84 then D84 T k a else bif Nat.beq f 85 then D85 T k a else bif Nat.beq f 86 then D86 T k a else bodyE P H T k f a
theorem tab6_eq (T : Nat → List SVal → Option Res) (k f : Nat) (a : List SVal) : tab6 T k f a = bodyE P H T k f a := by
  unfold tab6
  cases h75 : Nat.beq f 75 with
  | true => obtain rfl := Nat.eq_of_beq_eq_true h75; exact d75 T k a
  | false =>
  simp only [cond_false]
  cases h76 : Nat.beq f 76 with
  | true => obtain rfl := Nat.eq_of_beq_eq_true h76; exact d76 T k a
  | false =>
  simp only [cond_false]
  cases h77 : Nat.beq f 77 with
  | true => obtain rfl := Nat.eq_of_beq_eq_true h77; exact d77 T k a
  | false =>
  simp only [cond_false]
  cases h78 : Nat.beq f 78 with
  | true => obtain rfl := Nat.eq_of_beq_eq_true h78; exact d78 T k a
  | false =>
  simp only [cond_false]
  cases h79 : Nat.beq f 79 with
  | true => obtain rfl := Nat.eq_of_beq_eq_true h79; exact d79 T k a
  | false =>
  simp only [cond_false]
  cases h80 : Nat.beq f 80 with
  | true => obtain rfl := Nat.eq_of_beq_eq_true h80; exact d80 T k a
  | false =>
  simp only [cond_false]
  cases h81 : Nat.beq f 81 with
  | true => obtain rfl := Nat.eq_of_beq_eq_true h81; exact d81 T k a
  | false =>
  simp only [cond_false]
  cases h82 : Nat.beq f 82 with
  | true => obtain rfl := Nat.eq_of_beq_eq_true h82; exact d82 T k a
  | false =>
  simp only [cond_false]
  cases h83 : Nat.beq f 83 with
  | true => obtain rfl := Nat.eq_of_beq_eq_true h83; exact d83 T k a
  | false =>
  simp only [cond_false]
  cases h84 : Nat.beq f 84 with
  | true => obtain rfl := Nat.eq_of_beq_eq_true h84; exact d84 T k a
  | false =>
  simp only [cond_false]
  cases h85 : Nat.beq f 85 with
  | true => obtain rfl := Nat.eq_of_beq_eq_true h85; exact d85 T k a
  | false =>
  simp only [cond_false]
  cases h86 : Nat.beq f 86 with
  | true => obtain rfl := Nat.eq_of_beq_eq_true h86; exact d86 T k a
  | false =>
  simp only [cond_false]
noncomputable def tab7 (T : Nat → List SVal → Option Res) (k f : Nat) (a : List SVal) : Option Res :=
  bif Nat.beq f 87 then D87 T k a else bif Nat.beq f 88 then D88 T k a else bif Nat.beq f 89 then D89 T k a else bif Nat.beq f 90 then D90 T k a else bif Nat.beq f 91 then D91 T k a else bif Nat.beq f 92 then D92 T k a else bif Nat.beq f 93 then D93 T k a else bif Nat.beq f 94 then D94 T k a else bif Nat.beq f 95 then D95 T k a else bif Nat.beq f 96 then D96 T k a else bif Nat.beq f 97 then D97 T k a else bif Nat.beq f 98 then D98 T k a else bodyE P H T k f a
theorem tab7_eq (T : Nat → List SVal → Option Res) (k f : Nat) (a : List SVal) : tab7 T k f a = bodyE P H T k f a := by
  unfold tab7
  cases h87 : Nat.beq f 87 with
  | true => obtain rfl := Nat.eq_of_beq_eq_true h87; exact d87 T k a
  | false =>
  simp only [cond_false]
  cases h88 : Nat.beq f 88 with
  | true => obtain rfl := Nat.eq_of_beq_eq_true h88; exact d88 T k a
  | false =>
  simp only [cond_false]
  cases h89 : Nat.beq f 89 with
  | true => obtain rfl := Nat.eq_of_beq_eq_true h89; exact d89 T k a
  | false =>
  simp only [cond_false]
  cases h90 : Nat.beq f 90 with
  | true => obtain rfl := Nat.eq_of_beq_eq_true h90; exact d90 T k a
  | false =>
  simp only [cond_false]
  cases h91 : Nat.beq f 91 with
  | true => obtain rfl := Nat.eq_of_beq_eq_true h91; exact d91 T k a
  | false =>
  simp only [cond_false]
  cases h92 : Nat.beq f 92 with
  | true => obtain rfl := Nat.eq_of_beq_eq_true h92; exact d92 T k a
  | false =>
  simp only [cond_false]
  cases h93 : Nat.beq f 93 with
  | true => obtain rfl := Nat.eq_of_beq_eq_true h93; exact d93 T k a
  | false =>
  simp only [cond_false]
  cases h94 : Nat.beq f 94 with
  | true => obtain rfl := Nat.eq_of_beq_eq_true h94; exact d94 T k a
  | false =>
  simp only [cond_false]
  cases h95 : Nat.beq f 95 with
  | true => obtain rfl := Nat.eq_of_beq_eq_true h95; exact d95 T k a
  | false =>
  simp only [cond_false]
  cases h96 : Nat.beq f 96 with
  | true => obtain rfl := Nat.eq_of_beq_eq_true h96; exact d96 T k a
  | false =>
  simp only [cond_false]
  cases h97 : Nat.beq f 97 with
  | true => obtain rfl := Nat.eq_of_beq_eq_true h97; exact d97 T k a
  | false =>
  simp only [cond_false]
  cases h98 : Nat.beq f 98 with
  | true => obtain rfl := Nat.eq_of_beq_eq_true h98; exact d98 T k a
  | false =>
  simp only [cond_false]
noncomputable def tab8 (T : Nat → List SVal → Option Res) (k f : Nat) (a : List SVal) : Option Res :=
  bif Nat.beq f 99 then D99 T k a else bif Nat.beq f 100 then D100 T k a else bif Nat.beq f 101 then D101 T k a else bif Nat.beq f 102 then D102 T k a else bif Nat.beq f 103 then D103 T k a else bif Nat.beq f 104 then D104 T k a else bif Nat.beq f 105 then D105 T k a else bif Nat.beq f 106 then D106 T k a else bif Nat.beq f 107 then D107 T k a else bif Nat.beq f 108 then D108 T k a else bif Nat.beq f 109 then D109 T k a else bif Nat.beq f 110 then D110 T k a else bodyE P H T k f a
theorem tab8_eq (T : Nat → List SVal → Option Res) (k f : Nat) (a : List SVal) : tab8 T k f a = bodyE P H T k f a := by
  unfold tab8
  cases h99 : Nat.beq f 99 with
  | true => obtain rfl := Nat.eq_of_beq_eq_true h99; exact d99 T k a
  | false =>
  simp only [cond_false]
  cases h100 : Nat.beq f 100 with
  | true => obtain rfl := Nat.eq_of_beq_eq_true h100; exact d100 T k a
  | false =>
  simp only [cond_false]
  cases h101 : Nat.beq f 101 with
  | true => obtain rfl := Nat.eq_of_beq_eq_true h101; exact d101 T k a
  | false =>
  simp only [cond_false]
  cases h102 : Nat.beq f 102 with
  | true => obtain rfl := Nat.eq_of_beq_eq_true h102; exact d102 T k a
  | false =>
  simp only [cond_false]
  cases h103 : Nat.beq f 103 with
  | true => obtain rfl := Nat.eq_of_beq_eq_true h103; exact d103 T k a
  | false =>
  simp only [cond_false]
  cases h104 : Nat.beq f 104 with
  | true => obtain rfl := Nat.eq_of_beq_eq_true h104; exact d104 T k a
  | false =>
  simp only [cond_false]
  cases h105 : Nat.beq f 105 with
  | true => obtain rfl := Nat.eq_of_beq_eq_true h105; exact d105 T k a
  | false =>
  simp only [cond_false]
  cases h106 : Nat.beq f 106 with
  | true => obtain rfl := Nat.eq_of_beq_eq_true h106; exact d106 T k a
  | false =>
  simp only [cond_false]
  cases h107 : Nat.beq f 107 with
  | true => obtain rfl := Nat.eq_of_beq_eq_true h107; exact d107 T k a
  | false =>
  simp only [cond_false]
  cases h108 : Nat.beq f 108 with
  | true => obtain rfl := Nat.eq_of_beq_eq_true h108; exact d108 T k a
  | false =>
  simp only [cond_false]
  cases h109 : Nat.beq f 109 with
  | true => obtain rfl := Nat.eq_of_beq_eq_true h109; exact d109 T k a
  | false =>
  simp only [cond_false]
  cases h110 : Nat.beq f 110 with
  | true => obtain rfl := Nat.eq_of_beq_eq_true h110; exact d110 T k a
  | false =>
  simp only [cond_false]
noncomputable def tab9 (T : Nat → List SVal → Option Res) (k f : Nat) (a : List SVal) : Option Res :=
  bif Nat.beq f 111 then D111 T k a else bif Nat.beq f 112 then D112 T k a else bif Nat.beq f 113 then D113 T k a else bif Nat.beq f 114 then D114 T k a else bif Nat.beq f 115 then D115 T k a else bif Nat.beq f 116 then D116 T k a else bif Nat.beq f 117 then D117 T k a else bif Nat.beq f 118 then D118 T k a else bif Nat.beq f 119 then D119 T k a else bif Nat.beq f 120 then D120 T k a else bif Nat.beq f 121 then D121 T k a else bif Nat.beq f 122 then D122 T k a else bodyE P H T k f a
theorem tab9_eq (T : Nat → List SVal → Option Res) (k f : Nat) (a : List SVal) : tab9 T k f a = bodyE P H T k f a := by
  unfold tab9
  cases h111 : Nat.beq f 111 with
  | true => obtain rfl := Nat.eq_of_beq_eq_true h111; exact d111 T k a
  | false =>
  simp only [cond_false]
  cases h112 : Nat.beq f 112 with
  | true => obtain rfl := Nat.eq_of_beq_eq_true h112; exact d112 T k a
  | false =>
  simp only [cond_false]
  cases h113 : Nat.beq f 113 with
  | true => obtain rfl := Nat.eq_of_beq_eq_true h113; exact d113 T k a
  | false =>
  simp only [cond_false]
  cases h114 : Nat.beq f 114 with
  | true => obtain rfl := Nat.eq_of_beq_eq_true h114; exact d114 T k a
  | false =>
  simp only [cond_false]
  cases h115 : Nat.beq f 115 with
  | true => obtain rfl := Nat.eq_of_beq_eq_true h115; exact d115 T k a
  | false =>
  simp only [cond_false]
  cases h116 : Nat.beq f 116 with
  | true => obtain rfl := Nat.eq_of_beq_eq_true h116; exact d116 T k a
  | false =>
  simp only [cond_false]
  cases h117 : Nat.beq f 117 with
  | true => obtain rfl := Nat.eq_of_beq_eq_true h117; exact d117 T k a
  | false =>
  simp only [cond_false]
  cases h118 : Nat.beq f 118 with
  | true => obtain rfl := Nat.eq_of_beq_eq_true h118; exact d118 T k a
  | false =>
  simp only [cond_false]
  cases h119 : Nat.beq f 119 with
  | true => obtain rfl := Nat.eq_of_beq_eq_true h119; exact d119 T k a
  | false =>
  simp only [cond_false]
  cases h120 : Nat.beq f 120 with
  | true => obtain rfl := Nat.eq_of_beq_eq_true h120; exact d120 T k a
  | false =>
  simp only [cond_false]
  cases h121 : Nat.beq f 121 with
  | true => obtain rfl := Nat.eq_of_beq_eq_true h121; exact d121 T k a
  | false =>
  simp only [cond_false]
  cases h122 : Nat.beq f 122 with
  | true => obtain rfl := Nat.eq_of_beq_eq_true h122; exact d122 T k a
  | false =>
  simp only [cond_false]
noncomputable def tab10 (T : Nat → List SVal → Option Res) (k f : Nat) (a : List SVal) : Option Res :=
  bif Nat.beq f 123 then D123 T k a else bif Nat.beq f 124 then D124 T k a else bif Nat.beq f 125 then D125 T k a else bif Nat.beq f 126 then D126 T k a else bif Nat.beq f 127 then D127 T k a else bif Nat.beq f 128 then D128 T k a else bif Nat.beq f 129 then D129 T k a else bif Nat.beq f 130 then D130 T k a else bif Nat.beq f 132 then D132 T k a else bif Nat.beq f 133 then D133 T k a else bif Nat.beq f 134 then D134 T k a else bif Nat.beq f 135 then D135 T k a else bodyE P H T k f a
theorem tab10_eq (T : Nat → List SVal → Option Res) (k f : Nat) (a : List SVal) : tab10 T k f a = bodyE P H T k f a := by
  unfold tab10
  cases h123 : Nat.beq f 123 with
  | true => obtain rfl := Nat.eq_of_beq_eq_true h123; exact d123 T k a
  | false =>
  simp only [cond_false]
  cases h124 : Nat.beq f 124 with
  | true => obtain rfl := Nat.eq_of_beq_eq_true h124; exact d124 T k a
  | false =>
  simp only [cond_false]
  cases h125 : Nat.beq f 125 with
  | true => obtain rfl := Nat.eq_of_beq_eq_true h125; exact d125 T k a
  | false =>
  simp only [cond_false]
  cases h126 : Nat.beq f 126 with
  | true => obtain rfl := Nat.eq_of_beq_eq_true h126; exact d126 T k a
  | false =>
  simp only [cond_false]
  cases h127 : Nat.beq f 127 with
  | true => obtain rfl := Nat.eq_of_beq_eq_true h127; exact d127 T k a
  | false =>
  simp only [cond_false]
  cases h128 : Nat.beq f 128 with
  | true => obtain rfl := Nat.eq_of_beq_eq_true h128; exact d128 T k a
  | false =>
  simp only [cond_false]
  cases h129 : Nat.beq f 129 with
  | true => obtain rfl := Nat.eq_of_beq_eq_true h129; exact d129 T k a
  | false =>
  simp only [cond_false]
  cases h130 : Nat.beq f 130 with
  | true => obtain rfl := Nat.eq_of_beq_eq_true h130; exact d130 T k a
  | false =>
  simp only [cond_false]
  cases h132 : Nat.beq f 132 with
  | true => obtain rfl := Nat.eq_of_beq_eq_true h132; exact d132 T k a
  | false =>
  simp only [cond_false]
  cases h133 : Nat.beq f 133 with
  | true => obtain rfl := Nat.eq_of_beq_eq_true h133; exact d133 T k a
  | false =>
  simp only [cond_false]
  cases h134 : Nat.beq f 134 with
  | true => obtain rfl := Nat.eq_of_beq_eq_true h134; exact d134 T k a
  | false =>
  simp only [cond_false]
  cases h135 : Nat.beq f 135 with
  | true => obtain rfl := Nat.eq_of_beq_eq_true h135; exact d135 T k a
  | false =>
  simp only [cond_false]
noncomputable def tab11 (T : Nat → List SVal → Option Res) (k f : Nat) (a : List SVal) : Option Res :=
  bif Nat.beq f 136 then D136 T k a else bif Nat.beq f 137 then D137 T k a else bif Nat.beq f 138 then D138 T k a else bif Nat.beq f 139 then D139 T k a else bif Nat.beq f 140 then D140 T k a else bif Nat.beq f 141 then D141 T k a else bif Nat.beq f 142 then D142 T k a else bif Nat.beq f 143 then D143 T k a else bif Nat.beq f 144 then D144 T k a else bif Nat.beq f 145 then D145 T k a else bif Nat.beq f 146 then D146 T k a else bif Nat.beq f 147 then D147 T k a else bodyE P H T k f a
theorem tab11_eq (T : Nat → List SVal → Option Res) (k f : Nat) (a : List SVal) : tab11 T k f a = bodyE P H T k f a := by
  unfold tab11
  cases h136 : Nat.beq f 136 with
  | true => obtain rfl := Nat.eq_of_beq_eq_true h136; exact d136 T k a
  | false =>
  simp only [cond_false]
  cases h137 : Nat.beq f 137 with
  | true => obtain rfl := Nat.eq_of_beq_eq_true h137; exact d137 T k a
  | false =>
  simp only [cond_false]
  cases h138 : Nat.beq f 138 with
  | true => obtain rfl := Nat.eq_of_beq_eq_true h138; exact d138 T k a
  | false =>
  simp only [cond_false]
  cases h139 : Nat.beq f 139 with
  | true => obtain rfl := Nat.eq_of_beq_eq_true h139; exact d139 T k a
  | false =>
  simp only [cond_false]
  cases h140 : Nat.beq f 140 with
  | true => obtain rfl := Nat.eq_of_beq_eq_true h140; exact d140 T k a
  | false =>
  simp only [cond_false]
  cases h141 : Nat.beq f 141 with
  | true => obtain rfl := Nat.eq_of_beq_eq_true h141; exact d141 T k a
  | false =>
  simp only [cond_false]
  cases h142 : Nat.beq f 142 with
  | true => obtain rfl := Nat.eq_of_beq_eq_true h142; exact d142 T k a
  | false =>
  simp only [cond_false]
  cases h143 : Nat.beq f 143 with
  | true => obtain rfl := Nat.eq_of_beq_eq_true h143; exact d143 T k a
  | false =>
  simp only [cond_false]
  cases h144 : Nat.beq f 144 with
  | true => obtain rfl := Nat.eq_of_beq_eq_true h144; exact d144 T k a
  | false =>
  simp only [cond_false]
  cases h145 : Nat.beq f 145 with
  | true => obtain rfl := Nat.eq_of_beq_eq_true h145; exact d145 T k a
  | false =>
  simp only [cond_false]
  cases h146 : Nat.beq f 146 with
  | true => obtain rfl := Nat.eq_of_beq_eq_true h146; exact d146 T k a
  | false =>
  simp only [cond_false]
  cases h147 : Nat.beq f 147 with
  | true => obtain rfl := Nat.eq_of_beq_eq_true h147; exact d147 T k a
  | false =>
  simp only [cond_false]
noncomputable def tab12 (T : Nat → List SVal → Option Res) (k f : Nat) (a : List SVal) : Option Res :=
  bif Nat.beq f 148 then D148 T k a else bif Nat.beq f 149 then D149 T k a else bif Nat.beq f 151 then D151 T k a else bif Nat.beq f 154 then D154 T k a else bif Nat.beq f 155 then D155 T k a else bif Nat.beq f 156 then D156 T k a else bif Nat.beq f 157 then D157 T k a else bif Nat.beq f 158 then D158 T k a else bif Nat.beq f 159 then D159 T k a else bif Nat.beq f 160 then D160 T k a else bif Nat.beq f 161 then D161 T k a else bif Nat.beq f 162 then D162 T k a else bodyE P H T k f a
theorem tab12_eq (T : Nat → List SVal → Option Res) (k f : Nat) (a : List SVal) : tab12 T k f a = bodyE P H T k f a := by
  unfold tab12
  cases h148 : Nat.beq f 148 with
  | true => obtain rfl := Nat.eq_of_beq_eq_true h148; exact d148 T k a
  | false =>
  simp only [cond_false]
  cases h149 : Nat.beq f 149 with
  | true => obtain rfl := Nat.eq_of_beq_eq_true h149; exact d149 T k a
  | false =>
  simp only [cond_false]
  cases h151 : Nat.beq f 151 with
  | true => obtain rfl := Nat.eq_of_beq_eq_true h151; exact d151 T k a
  | false =>
  simp only [cond_false]
  cases h154 : Nat.beq f 154 with
  | true => obtain rfl := Nat.eq_of_beq_eq_true h154; exact d154 T k a
  | false =>
  simp only [cond_false]
  cases h155 : Nat.beq f 155 with
  | true => obtain rfl := Nat.eq_of_beq_eq_true h155; exact d155 T k a
  | false =>
  simp only [cond_false]
  cases h156 : Nat.beq f 156 with
  | true => obtain rfl := Nat.eq_of_beq_eq_true h156; exact d156 T k a
  | false =>
  simp only [cond_false]
  cases h157 : Nat.beq f 157 with
  | true => obtain rfl := Nat.eq_of_beq_eq_true h157; exact d157 T k a
  | false =>
  simp only [cond_false]
  cases h158 : Nat.beq f 158 with
  | true => obtain rfl := Nat.eq_of_beq_eq_true h158; exact d158 T k a
  | false =>
  simp only [cond_false]
  cases h159 : Nat.beq f 159 with
  | true => obtain rfl := Nat.eq_of_beq_eq_true h159; exact d159 T k a
  | false =>
  simp only [cond_false]
  cases h160 : Nat.beq f 160 with
  | true => obtain rfl := Nat.eq_of_beq_eq_true h160; exact d160 T k a
  | false =>
  simp only [cond_false]
  cases h161 : Nat.beq f 161 with
  | true => obtain rfl := Nat.eq_of_beq_eq_true h161; exact d161 T k a
  | false =>
  simp only [cond_false]
  cases h162 : Nat.beq f 162 with
  | true => obtain rfl := Nat.eq_of_beq_eq_true h162; exact d162 T k a
  | false =>
  simp only [cond_false]
noncomputable def tab13 (T : Nat → List SVal → Option Res) (k f : Nat) (a : List SVal) : Option Res :=
  bif Nat.beq f 163 then D163 T k a else bif Nat.beq f 164 then D164 T k a else bif Nat.beq f 165 then D165 T k a else bif Nat.beq f 166 then D166 T k a else bif Nat.beq f 167 then D167 T k a else bif Nat.beq f 168 then D168 T k a else bif Nat.beq f 169 then D169 T k a else bif Nat.beq f 170 then D170 T k a else bif Nat.beq f 171 then D171 T k a else bif Nat.beq f 172 then D172 T k a else bif Nat.beq f 173 then D173 T k a else bif Nat.beq f 174 then D174 T k a else bodyE P H T k f a
theorem tab13_eq (T : Nat → List SVal → Option Res) (k f : Nat) (a : List SVal) : tab13 T k f a = bodyE P H T k f a := by
  unfold tab13
  cases h163 : Nat.beq f 163 with
  | true => obtain rfl := Nat.eq_of_beq_eq_true h163; exact d163 T k a
  | false =>
  simp only [cond_false]
  cases h164 : Nat.beq f 164 with
  | true => obtain rfl := Nat.eq_of_beq_eq_true h164; exact d164 T k a
  | false =>
  simp only [cond_false]
  cases h165 : Nat.beq f 165 with
  | true => obtain rfl := Nat.eq_of_beq_eq_true h165; exact d165 T k a
  | false =>
  simp only [cond_false]
  cases h166 : Nat.beq f 166 with
  | true => obtain rfl := Nat.eq_of_beq_eq_true h166; exact d166 T k a
  | false =>
  simp only [cond_false]
  cases h167 : Nat.beq f 167 with
  | true => obtain rfl := Nat.eq_of_beq_eq_true h167; exact d167 T k a
  | false =>
  simp only [cond_false]
  cases h168 : Nat.beq f 168 with
  | true => obtain rfl := Nat.eq_of_beq_eq_true h168; exact d168 T k a
  | false =>
  simp only [cond_false]
  cases h169 : Nat.beq f 169 with
  | true => obtain rfl := Nat.eq_of_beq_eq_true h169; exact d169 T k a
  | false =>
  simp only [cond_false]
  cases h170 : Nat.beq f 170 with
  | true => obtain rfl := Nat.eq_of_beq_eq_true h170; exact d170 T k a
  | false =>
  simp only [cond_false]
  cases h171 : Nat.beq f 171 with
  | true => obtain rfl := Nat.eq_of_beq_eq_true h171; exact d171 T k a
  | false =>
  simp only [cond_false]
  cases h172 : Nat.beq f 172 with
  | true => obtain rfl := Nat.eq_of_beq_eq_true h172; exact d172 T k a
  | false =>
  simp only [cond_false]
  cases h173 : Nat.beq f 173 with
  | true => obtain rfl := Nat.eq_of_beq_eq_true h173; exact d173 T k a
  | false =>
  simp only [cond_false]
  cases h174 : Nat.beq f 174 with
  | true => obtain rfl := Nat.eq_of_beq_eq_true h174; exact d174 T k a
  | false =>
  simp only [cond_false]
noncomputable def tab14 (T : Nat → List SVal → Option Res) (k f : Nat) (a : List SVal) : Option Res :=
  bif Nat.beq f 175 then D175 T k a else bif Nat.beq f 176 then D176 T k a else bif Nat.beq f 177 then D177 T k a else bif Nat.beq f 180 then D180 T k a else bif Nat.beq f 181 then D181 T k a else bif Nat.beq f 182 then D182 T k a else bif Nat.beq f 183 then D183 T k a else bif Nat.beq f 184 then D184 T k a else bif Nat.beq f 185 then D185 T k a else bif Nat.beq f 186 then D186 T k a else bif Nat.beq f 187 then D187 T k a else bif Nat.beq f 188 then D188 T k a else bodyE P H T k f a
theorem tab14_eq (T : Nat → List SVal → Option Res) (k f : Nat) (a : List SVal) : tab14 T k f a = bodyE P H T k f a := by
  unfold tab14
  cases h175 : Nat.beq f 175 with
  | true => obtain rfl := Nat.eq_of_beq_eq_true h175; exact d175 T k a
  | false =>
  simp only [cond_false]
  cases h176 : Nat.beq f 176 with
  | true => obtain rfl := Nat.eq_of_beq_eq_true h176; exact d176 T k a
  | false =>
  simp only [cond_false]
  cases h177 : Nat.beq f 177 with
  | true => obtain rfl := Nat.eq_of_beq_eq_true h177; exact d177 T k a
  | false =>
  simp only [cond_false]
  cases h180 : Nat.beq f 180 with
  | true => obtain rfl := Nat.eq_of_beq_eq_true h180; exact d180 T k a
  | false =>
  simp only [cond_false]
  cases h181 : Nat.beq f 181 with
  | true => obtain rfl := Nat.eq_of_beq_eq_true h181; exact d181 T k a
  | false =>
  simp only [cond_false]
  cases h182 : Nat.beq f 182 with
  | true => obtain rfl := Nat.eq_of_beq_eq_true h182; exact d182 T k a
  | false =>
  simp only [cond_false]
  cases h183 : Nat.beq f 183 with
  | true => obtain rfl := Nat.eq_of_beq_eq_true h183; exact d183 T k a
  | false =>
  simp only [cond_false]
  cases h184 : Nat.beq f 184 with
  | true => obtain rfl := Nat.eq_of_beq_eq_true h184; exact d184 T k a
  | false =>
  simp only [cond_false]
  cases h185 : Nat.beq f 185 with
  | true => obtain rfl := Nat.eq_of_beq_eq_true h185; exact d185 T k a
  | false =>
  simp only [cond_false]
  cases h186 : Nat.beq f 186 with
  | true => obtain rfl := Nat.eq_of_beq_eq_true h186; exact d186 T k a
  | false =>
  simp only [cond_false]
  cases h187 : Nat.beq f 187 with
  | true => obtain rfl := Nat.eq_of_beq_eq_true h187; exact d187 T k a
  | false =>
  simp only [cond_false]
  cases h188 : Nat.beq f 188 with
  | true => obtain rfl := Nat.eq_of_beq_eq_true h188; exact d188 T k a
  | false =>
  simp only [cond_false]
noncomputable def tab15 (T : Nat → List SVal → Option Res) (k f : Nat) (a : List SVal) : Option Res :=
  bif Nat.beq f 189 then D189 T k a else bif Nat.beq f 190 then D190 T k a else bif Nat.beq f 191 then D191 T k a else bif Nat.beq f 192 then D192 T k a else bif Nat.beq f 193 then D193 T k a else bif Nat.beq f 205 then D205 T k a else bif Nat.beq f 206 then D206 T k a else bif Nat.beq f 207 then D207 T k a else bif Nat.beq f 208 then D208 T k a else bif Nat.beq f 209 then D209 T k a else bif Nat.beq f 210 then D210 T k a else bif Nat.beq f 211 then D211 T k a else bodyE P H T k f a
theorem tab15_eq (T : Nat → List SVal → Option Res) (k f : Nat) (a : List SVal) : tab15 T k f a = bodyE P H T k f a := by
  unfold tab15
  cases h189 : Nat.beq f 189 with
  | true => obtain rfl := Nat.eq_of_beq_eq_true h189; exact d189 T k a
  | false =>
  simp only [cond_false]
  cases h190 : Nat.beq f 190 with
  | true => obtain rfl := Nat.eq_of_beq_eq_true h190; exact d190 T k a
  | false =>
  simp only [cond_false]
  cases h191 : Nat.beq f 191 with
  | true => obtain rfl := Nat.eq_of_beq_eq_true h191; exact d191 T k a
  | false =>
  simp only [cond_false]
  cases h192 : Nat.beq f 192 with
  | true => obtain rfl := Nat.eq_of_beq_eq_true h192; exact d192 T k a
  | false =>
  simp only [cond_false]
  cases h193 : Nat.beq f 193 with
  | true => obtain rfl := Nat.eq_of_beq_eq_true h193; exact d193 T k a
  | false =>
  simp only [cond_false]
  cases h205 : Nat.beq f 205 with
  | true => obtain rfl := Nat.eq_of_beq_eq_true h205; exact d205 T k a
  | false =>
  simp only [cond_false]
  cases h206 : Nat.beq f 206 with
  | true => obtain rfl := Nat.eq_of_beq_eq_true h206; exact d206 T k a
  | false =>
  simp only [cond_false]
  cases h207 : Nat.beq f 207 with
  | true => obtain rfl := Nat.eq_of_beq_eq_true h207; exact d207 T k a
  | false =>
  simp only [cond_false]
  cases h208 : Nat.beq f 208 with
  | true => obtain rfl := Nat.eq_of_beq_eq_true h208; exact d208 T k a
  | false =>
  simp only [cond_false]
  cases h209 : Nat.beq f 209 with
  | true => obtain rfl := Nat.eq_of_beq_eq_true h209; exact d209 T k a
  | false =>
  simp only [cond_false]
  cases h210 : Nat.beq f 210 with
  | true => obtain rfl := Nat.eq_of_beq_eq_true h210; exact d210 T k a
  | false =>
  simp only [cond_false]
  cases h211 : Nat.beq f 211 with
  | true => obtain rfl := Nat.eq_of_beq_eq_true h211; exact d211 T k a
  | false =>
  simp only [cond_false]
noncomputable def tab16 (T : Nat → List SVal → Option Res) (k f : Nat) (a : List SVal) : Option Res :=
  bif Nat.beq f 212 then D212 T k a else bif Nat.beq f 213 then D213 T k a else bif Nat.beq f 220 then D220 T k a else bif Nat.beq f 221 then D221 T k a else bif Nat.beq f 222 then D222 T k a else bif Nat.beq f 224 then D224 T k a else bif Nat.beq f 225 then D225 T k a else bif Nat.beq f 226 then D226 T k a else bodyE P H T k f a
theorem tab16_eq (T : Nat → List SVal → Option Res) (k f : Nat) (a : List SVal) : tab16 T k f a = bodyE P H T k f a := by
  unfold tab16
  cases h212 : Nat.beq f 212 with
  | true => obtain rfl := Nat.eq_of_beq_eq_true h212; exact d212 T k a
  | false =>
  simp only [cond_false]
  cases h213 : Nat.beq f 213 with
  | true => obtain rfl := Nat.eq_of_beq_eq_true h213; exact d213 T k a
  | false =>
  simp only [cond_false]
  cases h220 : Nat.beq f 220 with
  | true => obtain rfl := Nat.eq_of_beq_eq_true h220; exact d220 T k a
  | false =>
  simp only [cond_false]
  cases h221 : Nat.beq f 221 with
  | true => obtain rfl := Nat.eq_of_beq_eq_true h221; exact d221 T k a
  | false =>
  simp only [cond_false]
  cases h222 : Nat.beq f 222 with
  | true => obtain rfl := Nat.eq_of_beq_eq_true h222; exact d222 T k a
  | false =>
  simp only [cond_false]
  cases h224 : Nat.beq f 224 with
  | true => obtain rfl := Nat.eq_of_beq_eq_true h224; exact d224 T k a
  | false =>
  simp only [cond_false]
  cases h225 : Nat.beq f 225 with
  | true => obtain rfl := Nat.eq_of_beq_eq_true h225; exact d225 T k a
  | false =>
  simp only [cond_false]
  cases h226 : Nat.beq f 226 with
  | true => obtain rfl := Nat.eq_of_beq_eq_true h226; exact d226 T k a
  | false =>
  simp only [cond_false]
noncomputable def tab (T : Nat → List SVal → Option Res) (k f : Nat) (a : List SVal) : Option Res :=
  match prim f with
  | some p => p a
  | none => (bif Nat.blt f 99 then (bif Nat.blt f 51 then (bif Nat.blt f 27 then (bif Nat.blt f 15 then tab0 T k f a else tab1 T k f a) else (bif Nat.blt f 39 then tab2 T k f a else tab3 T k f a)) else (bif Nat.blt f 75 then (bif Nat.blt f 63 then tab4 T k f a else tab5 T k f a) else (bif Nat.blt f 87 then tab6 T k f a else tab7 T k f a))) else (bif Nat.blt f 148 then (bif Nat.blt f 123 then (bif Nat.blt f 111 then tab8 T k f a else tab9 T k f a) else (bif Nat.blt f 136 then tab10 T k f a else tab11 T k f a)) else (bif Nat.blt f 175 then (bif Nat.blt f 163 then tab12 T k f a else tab13 T k f a) else (bif Nat.blt f 189 then tab14 T k f a else (bif Nat.blt f 212 then tab15 T k f a else tab16 T k f a)))))
theorem tab_eq (T : Nat → List SVal → Option Res) (k f : Nat) (a : List SVal) : tab T k f a = (match prim f with | some p => p a | none => bodyE P H T k f a) := by
  unfold tab
  split
  · rfl
  · simp only [tab0_eq, tab1_eq, tab2_eq, tab3_eq, tab4_eq, tab5_eq, tab6_eq, tab7_eq, tab8_eq, tab9_eq, tab10_eq, tab11_eq, tab12_eq, tab13_eq, tab14_eq, tab15_eq, tab16_eq, cond_eq_ite, ite_self]
noncomputable def TR : Nat → Nat → List SVal → Option Res
  | 0 => fun _ _ => none
  | k + 1 => tab (TR k) k
theorem TR_eq : ∀ k, TR k = T k
  | 0 => by funext f a; simp only [TR, T, TN]
  | k + 1 => by
    funext f a
    simp only [TR]
    rw [tab_eq, TR_eq k]
    simp only [T, TN]
    cases prim f <;> rfl
end Go.Proofs.YtcehbmffbmhpfaaGreat.K
