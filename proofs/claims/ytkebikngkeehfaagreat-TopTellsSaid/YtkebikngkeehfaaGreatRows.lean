/-
  No cell of these rows narrows 'for every input' (looked for: loops, veiled, ifaces, maps, wideKeys, modest, calm, conditions, laid).
  DERIVED. THE GIVEN ROWS OF THIS SEAT. 6 by the template 'for every input the law returns true; each argument reads behind the call as it read before'; 0 by the template 'total and deterministic' (their statements: YtkebikngkeehfaaGreatTotals.lean).
  GIVEN WITH THE SEED: the statements are not yours to turn. If you find one false, say at which input.
  Laid BY PROGRAM, IN A SANDBOX (cutbox-rows.mjs): the forced cells as the released guide's own fill.sh prints them over the translation 2fd60e72975c1187… (all of the seat's roots in one cut). By AI agents, Wed Nov 11 2026. No macro, syntax, notation, axiom, sorry.
-/
import Derived.Test.YtkebikngkeehfaaGreatChecked
import GoSem.Claim
import GoSem.ClaimJoined
import GoSem.ClaimMapViews
import Derived.JoinedTies
import Derived.KernelRfl
namespace Go.Proofs.YtkebikngkeehfaaGreat
/- THE CELL 'sum', in the pinned program and in every row, IS THE sha256 OF THE DUMP (.gsa) THAT YtkebikngkeehfaaGreatProg.lean LOADS. Nothing in Lean hashes anything: it is a label: what it is worth is what the hold of that sum in a sandbox is worth. -/
noncomputable def Tryz.pinned : Pinned := { name := "ytkebikngkeehfaagreat", sum := "2fd60e72975c11879dcf6a88a8bed12966ffc18708a19f5cbbc5337b6056d2cc", checked := Tryz.checked }
namespace Rows
def none {H : Type} : Left H := { results := [], args := [] }

/-- 'limelightlaw10.TopTells': WHATEVER THE INPUT: true; the input reads as it did. -/
def topTellsSpec : ChangeSpec := { name := "topTells", fn := fun _ => fun
  | [d] => { results := [.lit (.bool true)], args := [d] }
  | _ => none }
def topTellsRow : OpenClaim := { program := "ytkebikngkeehfaagreat", sum := "2fd60e72975c11879dcf6a88a8bed12966ffc18708a19f5cbbc5337b6056d2cc", func := "limelight/limelightlaw10.TopTells", spec := "topTells", unfollowed := true, recurses := true, apart := false }
def TopTellsSaid : Prop := topTellsRow.holds Tryz.pinned (OpenSpec.ofChange topTellsSpec)

/-- ITS FALSE NEIGHBOUR: 'it returns false'. Refute it at one input. -/
def topTellsWrong : ChangeSpec := { name := "topTells", fn := fun _ => fun
  | [d] => { results := [.lit (.bool false)], args := [d] }
  | _ => none }
def TopTellsWrongFalsely : Prop := topTellsRow.holds Tryz.pinned (OpenSpec.ofChange topTellsWrong)

/-- 'limelightlaw10.TopOpens': WHATEVER THE INPUT: true; the input reads as it did. -/
def topOpensSpec : ChangeSpec := { name := "topOpens", fn := fun _ => fun
  | [d1, d2, d3] => { results := [.lit (.bool true)], args := [d1, d2, d3] }
  | _ => none }
def topOpensRow : OpenClaim := { program := "ytkebikngkeehfaagreat", sum := "2fd60e72975c11879dcf6a88a8bed12966ffc18708a19f5cbbc5337b6056d2cc", func := "limelight/limelightlaw10.TopOpens", spec := "topOpens", unfollowed := true, recurses := true, apart := false }
def TopOpensSaid : Prop := topOpensRow.holds Tryz.pinned (OpenSpec.ofChange topOpensSpec)

/-- ITS FALSE NEIGHBOUR: 'it returns false'. Refute it at one input. -/
def topOpensWrong : ChangeSpec := { name := "topOpens", fn := fun _ => fun
  | [d1, d2, d3] => { results := [.lit (.bool false)], args := [d1, d2, d3] }
  | _ => none }
def TopOpensWrongFalsely : Prop := topOpensRow.holds Tryz.pinned (OpenSpec.ofChange topOpensWrong)

/-- 'limelightlaw10.TopStays': WHATEVER THE INPUT: true; the input reads as it did. -/
def topStaysSpec : ChangeSpec := { name := "topStays", fn := fun _ => fun
  | [d1, d2, d3] => { results := [.lit (.bool true)], args := [d1, d2, d3] }
  | _ => none }
def topStaysRow : OpenClaim := { program := "ytkebikngkeehfaagreat", sum := "2fd60e72975c11879dcf6a88a8bed12966ffc18708a19f5cbbc5337b6056d2cc", func := "limelight/limelightlaw10.TopStays", spec := "topStays", unfollowed := true, recurses := true, apart := false }
def TopStaysSaid : Prop := topStaysRow.holds Tryz.pinned (OpenSpec.ofChange topStaysSpec)

/-- ITS FALSE NEIGHBOUR: 'it returns false'. Refute it at one input. -/
def topStaysWrong : ChangeSpec := { name := "topStays", fn := fun _ => fun
  | [d1, d2, d3] => { results := [.lit (.bool false)], args := [d1, d2, d3] }
  | _ => none }
def TopStaysWrongFalsely : Prop := topStaysRow.holds Tryz.pinned (OpenSpec.ofChange topStaysWrong)

/-- 'limelightlaw10.TopFix': WHATEVER THE INPUT: true; the input reads as it did. -/
def topFixSpec : ChangeSpec := { name := "topFix", fn := fun _ => fun
  | [d] => { results := [.lit (.bool true)], args := [d] }
  | _ => none }
def topFixRow : OpenClaim := { program := "ytkebikngkeehfaagreat", sum := "2fd60e72975c11879dcf6a88a8bed12966ffc18708a19f5cbbc5337b6056d2cc", func := "limelight/limelightlaw10.TopFix", spec := "topFix", unfollowed := true, recurses := true, apart := false }
def TopFixSaid : Prop := topFixRow.holds Tryz.pinned (OpenSpec.ofChange topFixSpec)

/-- ITS FALSE NEIGHBOUR: 'it returns false'. Refute it at one input. -/
def topFixWrong : ChangeSpec := { name := "topFix", fn := fun _ => fun
  | [d] => { results := [.lit (.bool false)], args := [d] }
  | _ => none }
def TopFixWrongFalsely : Prop := topFixRow.holds Tryz.pinned (OpenSpec.ofChange topFixWrong)

/-- 'limelightlaw10.TopHighest': WHATEVER THE INPUT: true; the input reads as it did. -/
def topHighestSpec : ChangeSpec := { name := "topHighest", fn := fun _ => fun
  | [d] => { results := [.lit (.bool true)], args := [d] }
  | _ => none }
def topHighestRow : OpenClaim := { program := "ytkebikngkeehfaagreat", sum := "2fd60e72975c11879dcf6a88a8bed12966ffc18708a19f5cbbc5337b6056d2cc", func := "limelight/limelightlaw10.TopHighest", spec := "topHighest", unfollowed := true, recurses := true, apart := false }
def TopHighestSaid : Prop := topHighestRow.holds Tryz.pinned (OpenSpec.ofChange topHighestSpec)

/-- ITS FALSE NEIGHBOUR: 'it returns false'. Refute it at one input. -/
def topHighestWrong : ChangeSpec := { name := "topHighest", fn := fun _ => fun
  | [d] => { results := [.lit (.bool false)], args := [d] }
  | _ => none }
def TopHighestWrongFalsely : Prop := topHighestRow.holds Tryz.pinned (OpenSpec.ofChange topHighestWrong)

/-- 'limelightlaw10.TopOrder': WHATEVER THE INPUT: true; the input reads as it did. -/
def topOrderSpec : ChangeSpec := { name := "topOrder", fn := fun _ => fun
  | [d1, d2] => { results := [.lit (.bool true)], args := [d1, d2] }
  | _ => none }
def topOrderRow : OpenClaim := { program := "ytkebikngkeehfaagreat", sum := "2fd60e72975c11879dcf6a88a8bed12966ffc18708a19f5cbbc5337b6056d2cc", func := "limelight/limelightlaw10.TopOrder", spec := "topOrder", unfollowed := true, recurses := true, apart := false }
def TopOrderSaid : Prop := topOrderRow.holds Tryz.pinned (OpenSpec.ofChange topOrderSpec)

/-- ITS FALSE NEIGHBOUR: 'it returns false'. Refute it at one input. -/
def topOrderWrong : ChangeSpec := { name := "topOrder", fn := fun _ => fun
  | [d1, d2] => { results := [.lit (.bool false)], args := [d1, d2] }
  | _ => none }
def TopOrderWrongFalsely : Prop := topOrderRow.holds Tryz.pinned (OpenSpec.ofChange topOrderWrong)

/- THE SECOND FORM. 'bulk': how many values and letters a reading holds, each counted each time it is reached (what is shared counts as often as it is met; a slice's spare places count too). A statement '..UptoSaid' is the law's where the arguments, and the package variables that the reading takes, are together of bulk at most 1048576: NARROWER than '..Said'. Prove '..Said' where nothing that the law and all that it calls make is longer than what came in: it says more and counts as full. Else prove '..UptoSaid'. A law counts once. -/
mutual
def uptoBulk {H : Type} : DataW H → Nat
  | .lit (.string bytes) => bytes.length + 1
  | .lit _ => 1
  | .nil => 1
  | .ptr d => uptoBulk d + 1
  | .slice elems spare => uptoBulkAll elems + uptoBulkAll spare + 1
  | .agg parts => uptoBulkAll parts + 1
  | .iface _ d => uptoBulk d + 1
  | .map entries => uptoBulkEntries entries + 1
  | .held _ => 1
def uptoBulkAll {H : Type} : List (DataW H) → Nat
  | [] => 0
  | d :: r => uptoBulk d + uptoBulkAll r
def uptoBulkEntries {H : Type} : List (Lit × DataW H) → Nat
  | [] => 0
  | x :: r => uptoBulkEntry x + uptoBulkEntries r
def uptoBulkEntry {H : Type} : Lit × DataW H → Nat
  | (.string bytes, d) => bytes.length + uptoBulk d + 1
  | (_, d) => uptoBulk d + 1
 end
def uptoSmall : (H : Type) → List (DataW H) → Bool := fun _ ds => decide (uptoBulkAll ds ≤ 1048576)
def OpenSpec.upto (s : _root_.Go.ChangeSpec) : _root_.Go.OpenSpec := { _root_.Go.OpenSpec.ofChange s with cond := some uptoSmall }

/-- 'limelightlaw10.TopTells', WHERE WHAT IT READS IS OF BULK AT MOST 1048576: true; the input reads as it did. -/
def topTellsUptoRow : OpenClaim := { program := "ytkebikngkeehfaagreat", sum := "2fd60e72975c11879dcf6a88a8bed12966ffc18708a19f5cbbc5337b6056d2cc", func := "limelight/limelightlaw10.TopTells", spec := "topTells", unfollowed := true, recurses := true, apart := false, narrowed := true }
def TopTellsUptoSaid : Prop := topTellsUptoRow.holds Tryz.pinned (OpenSpec.upto topTellsSpec)

/-- 'limelightlaw10.TopOpens', WHERE WHAT IT READS IS OF BULK AT MOST 1048576: true; the input reads as it did. -/
def topOpensUptoRow : OpenClaim := { program := "ytkebikngkeehfaagreat", sum := "2fd60e72975c11879dcf6a88a8bed12966ffc18708a19f5cbbc5337b6056d2cc", func := "limelight/limelightlaw10.TopOpens", spec := "topOpens", unfollowed := true, recurses := true, apart := false, narrowed := true }
def TopOpensUptoSaid : Prop := topOpensUptoRow.holds Tryz.pinned (OpenSpec.upto topOpensSpec)

/-- 'limelightlaw10.TopStays', WHERE WHAT IT READS IS OF BULK AT MOST 1048576: true; the input reads as it did. -/
def topStaysUptoRow : OpenClaim := { program := "ytkebikngkeehfaagreat", sum := "2fd60e72975c11879dcf6a88a8bed12966ffc18708a19f5cbbc5337b6056d2cc", func := "limelight/limelightlaw10.TopStays", spec := "topStays", unfollowed := true, recurses := true, apart := false, narrowed := true }
def TopStaysUptoSaid : Prop := topStaysUptoRow.holds Tryz.pinned (OpenSpec.upto topStaysSpec)

/-- 'limelightlaw10.TopFix', WHERE WHAT IT READS IS OF BULK AT MOST 1048576: true; the input reads as it did. -/
def topFixUptoRow : OpenClaim := { program := "ytkebikngkeehfaagreat", sum := "2fd60e72975c11879dcf6a88a8bed12966ffc18708a19f5cbbc5337b6056d2cc", func := "limelight/limelightlaw10.TopFix", spec := "topFix", unfollowed := true, recurses := true, apart := false, narrowed := true }
def TopFixUptoSaid : Prop := topFixUptoRow.holds Tryz.pinned (OpenSpec.upto topFixSpec)

/-- 'limelightlaw10.TopHighest', WHERE WHAT IT READS IS OF BULK AT MOST 1048576: true; the input reads as it did. -/
def topHighestUptoRow : OpenClaim := { program := "ytkebikngkeehfaagreat", sum := "2fd60e72975c11879dcf6a88a8bed12966ffc18708a19f5cbbc5337b6056d2cc", func := "limelight/limelightlaw10.TopHighest", spec := "topHighest", unfollowed := true, recurses := true, apart := false, narrowed := true }
def TopHighestUptoSaid : Prop := topHighestUptoRow.holds Tryz.pinned (OpenSpec.upto topHighestSpec)

/-- 'limelightlaw10.TopOrder', WHERE WHAT IT READS IS OF BULK AT MOST 1048576: true; the input reads as it did. -/
def topOrderUptoRow : OpenClaim := { program := "ytkebikngkeehfaagreat", sum := "2fd60e72975c11879dcf6a88a8bed12966ffc18708a19f5cbbc5337b6056d2cc", func := "limelight/limelightlaw10.TopOrder", spec := "topOrder", unfollowed := true, recurses := true, apart := false, narrowed := true }
def TopOrderUptoSaid : Prop := topOrderUptoRow.holds Tryz.pinned (OpenSpec.upto topOrderSpec)

end Rows
end Go.Proofs.YtkebikngkeehfaaGreat
