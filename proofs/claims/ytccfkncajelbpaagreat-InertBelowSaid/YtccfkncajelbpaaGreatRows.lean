/-
  No cell of these rows narrows 'for every input' (looked for: loops, veiled, ifaces, maps, wideKeys, modest, calm, conditions, laid).
  DERIVED. THE GIVEN ROWS OF THIS SEAT. 9 by the template 'for every input the law returns true; each argument reads behind the call as it read before'; 0 by the template 'total and deterministic' (their statements: YtccfkncajelbpaaGreatTotals.lean).
  GIVEN WITH THE SEED: the statements are not yours to turn. If you find one false, say at which input.
  Laid BY PROGRAM, IN A SANDBOX (cutbox-rows.mjs): the forced cells as the released guide's own fill.sh prints them over the translation 9ca986cfb226e160… (all of the seat's roots in one cut). By AI agents, Wed Nov 11 2026. No macro, syntax, notation, axiom, sorry.
-/
import Derived.Test.YtccfkncajelbpaaGreatChecked
import GoSem.Claim
import GoSem.ClaimJoined
import GoSem.ClaimMapViews
import Derived.JoinedTies
import Derived.KernelRfl
namespace Go.Proofs.YtccfkncajelbpaaGreat
/- THE CELL 'sum', in the pinned program and in every row, IS THE sha256 OF THE DUMP (.gsa) THAT YtccfkncajelbpaaGreatProg.lean LOADS. Nothing in Lean hashes anything: it is a label: what it is worth is what the hold of that sum in a sandbox is worth. -/
noncomputable def Tryz.pinned : Pinned := { name := "ytccfkncajelbpaagreat", sum := "9ca986cfb226e1606d449b956453b6a1ff0613d235f44fffab519220f328d9b2", checked := Tryz.checked }
namespace Rows
def none {H : Type} : Left H := { results := [], args := [] }

/-- 'limelightlaw11.RenderTells': WHATEVER THE INPUT: true; the input reads as it did. -/
def renderTellsSpec : ChangeSpec := { name := "renderTells", fn := fun _ => fun
  | [d1, d2] => { results := [.lit (.bool true)], args := [d1, d2] }
  | _ => none }
def renderTellsRow : OpenClaim := { program := "ytccfkncajelbpaagreat", sum := "9ca986cfb226e1606d449b956453b6a1ff0613d235f44fffab519220f328d9b2", func := "limelight/limelightlaw11.RenderTells", spec := "renderTells", unfollowed := true, recurses := true, apart := false }
def RenderTellsSaid : Prop := renderTellsRow.holds Tryz.pinned (OpenSpec.ofChange renderTellsSpec)

/-- ITS FALSE NEIGHBOUR: 'it returns false'. Refute it at one input. -/
def renderTellsWrong : ChangeSpec := { name := "renderTells", fn := fun _ => fun
  | [d1, d2] => { results := [.lit (.bool false)], args := [d1, d2] }
  | _ => none }
def RenderTellsWrongFalsely : Prop := renderTellsRow.holds Tryz.pinned (OpenSpec.ofChange renderTellsWrong)

/-- 'limelightlaw11.RenderBelow': WHATEVER THE INPUT: true; the input reads as it did. -/
def renderBelowSpec : ChangeSpec := { name := "renderBelow", fn := fun _ => fun
  | [d] => { results := [.lit (.bool true)], args := [d] }
  | _ => none }
def renderBelowRow : OpenClaim := { program := "ytccfkncajelbpaagreat", sum := "9ca986cfb226e1606d449b956453b6a1ff0613d235f44fffab519220f328d9b2", func := "limelight/limelightlaw11.RenderBelow", spec := "renderBelow", unfollowed := true, recurses := true, apart := false }
def RenderBelowSaid : Prop := renderBelowRow.holds Tryz.pinned (OpenSpec.ofChange renderBelowSpec)

/-- ITS FALSE NEIGHBOUR: 'it returns false'. Refute it at one input. -/
def renderBelowWrong : ChangeSpec := { name := "renderBelow", fn := fun _ => fun
  | [d] => { results := [.lit (.bool false)], args := [d] }
  | _ => none }
def RenderBelowWrongFalsely : Prop := renderBelowRow.holds Tryz.pinned (OpenSpec.ofChange renderBelowWrong)

/-- 'limelightlaw11.RenderHides': WHATEVER THE INPUT: true; the input reads as it did. -/
def renderHidesSpec : ChangeSpec := { name := "renderHides", fn := fun _ => fun
  | [d1, d2] => { results := [.lit (.bool true)], args := [d1, d2] }
  | _ => none }
def renderHidesRow : OpenClaim := { program := "ytccfkncajelbpaagreat", sum := "9ca986cfb226e1606d449b956453b6a1ff0613d235f44fffab519220f328d9b2", func := "limelight/limelightlaw11.RenderHides", spec := "renderHides", unfollowed := true, recurses := true, apart := false }
def RenderHidesSaid : Prop := renderHidesRow.holds Tryz.pinned (OpenSpec.ofChange renderHidesSpec)

/-- ITS FALSE NEIGHBOUR: 'it returns false'. Refute it at one input. -/
def renderHidesWrong : ChangeSpec := { name := "renderHides", fn := fun _ => fun
  | [d1, d2] => { results := [.lit (.bool false)], args := [d1, d2] }
  | _ => none }
def RenderHidesWrongFalsely : Prop := renderHidesRow.holds Tryz.pinned (OpenSpec.ofChange renderHidesWrong)

/-- 'limelightlaw11.RenderFirst': WHATEVER THE INPUT: true; the input reads as it did. -/
def renderFirstSpec : ChangeSpec := { name := "renderFirst", fn := fun _ => fun
  | [d] => { results := [.lit (.bool true)], args := [d] }
  | _ => none }
def renderFirstRow : OpenClaim := { program := "ytccfkncajelbpaagreat", sum := "9ca986cfb226e1606d449b956453b6a1ff0613d235f44fffab519220f328d9b2", func := "limelight/limelightlaw11.RenderFirst", spec := "renderFirst", unfollowed := true, recurses := true, apart := false }
def RenderFirstSaid : Prop := renderFirstRow.holds Tryz.pinned (OpenSpec.ofChange renderFirstSpec)

/-- ITS FALSE NEIGHBOUR: 'it returns false'. Refute it at one input. -/
def renderFirstWrong : ChangeSpec := { name := "renderFirst", fn := fun _ => fun
  | [d] => { results := [.lit (.bool false)], args := [d] }
  | _ => none }
def RenderFirstWrongFalsely : Prop := renderFirstRow.holds Tryz.pinned (OpenSpec.ofChange renderFirstWrong)

/-- 'limelightlaw12.InertTells': WHATEVER THE INPUT: true; the input reads as it did. -/
def inertTellsSpec : ChangeSpec := { name := "inertTells", fn := fun _ => fun
  | [d1, d2] => { results := [.lit (.bool true)], args := [d1, d2] }
  | _ => none }
def inertTellsRow : OpenClaim := { program := "ytccfkncajelbpaagreat", sum := "9ca986cfb226e1606d449b956453b6a1ff0613d235f44fffab519220f328d9b2", func := "limelight/limelightlaw12.InertTells", spec := "inertTells", unfollowed := true, recurses := true, apart := false }
def InertTellsSaid : Prop := inertTellsRow.holds Tryz.pinned (OpenSpec.ofChange inertTellsSpec)

/-- ITS FALSE NEIGHBOUR: 'it returns false'. Refute it at one input. -/
def inertTellsWrong : ChangeSpec := { name := "inertTells", fn := fun _ => fun
  | [d1, d2] => { results := [.lit (.bool false)], args := [d1, d2] }
  | _ => none }
def InertTellsWrongFalsely : Prop := inertTellsRow.holds Tryz.pinned (OpenSpec.ofChange inertTellsWrong)

/-- 'limelightlaw12.InertModal': WHATEVER THE INPUT: true; the input reads as it did. -/
def inertModalSpec : ChangeSpec := { name := "inertModal", fn := fun _ => fun
  | [d] => { results := [.lit (.bool true)], args := [d] }
  | _ => none }
def inertModalRow : OpenClaim := { program := "ytccfkncajelbpaagreat", sum := "9ca986cfb226e1606d449b956453b6a1ff0613d235f44fffab519220f328d9b2", func := "limelight/limelightlaw12.InertModal", spec := "inertModal", unfollowed := true, recurses := true, apart := false }
def InertModalSaid : Prop := inertModalRow.holds Tryz.pinned (OpenSpec.ofChange inertModalSpec)

/-- ITS FALSE NEIGHBOUR: 'it returns false'. Refute it at one input. -/
def inertModalWrong : ChangeSpec := { name := "inertModal", fn := fun _ => fun
  | [d] => { results := [.lit (.bool false)], args := [d] }
  | _ => none }
def InertModalWrongFalsely : Prop := inertModalRow.holds Tryz.pinned (OpenSpec.ofChange inertModalWrong)

/-- 'limelightlaw12.InertNone': WHATEVER THE INPUT: true; the input reads as it did. -/
def inertNoneSpec : ChangeSpec := { name := "inertNone", fn := fun _ => fun
  | [d] => { results := [.lit (.bool true)], args := [d] }
  | _ => none }
def inertNoneRow : OpenClaim := { program := "ytccfkncajelbpaagreat", sum := "9ca986cfb226e1606d449b956453b6a1ff0613d235f44fffab519220f328d9b2", func := "limelight/limelightlaw12.InertNone", spec := "inertNone", unfollowed := true, recurses := true, apart := false }
def InertNoneSaid : Prop := inertNoneRow.holds Tryz.pinned (OpenSpec.ofChange inertNoneSpec)

/-- ITS FALSE NEIGHBOUR: 'it returns false'. Refute it at one input. -/
def inertNoneWrong : ChangeSpec := { name := "inertNone", fn := fun _ => fun
  | [d] => { results := [.lit (.bool false)], args := [d] }
  | _ => none }
def InertNoneWrongFalsely : Prop := inertNoneRow.holds Tryz.pinned (OpenSpec.ofChange inertNoneWrong)

/-- 'limelightlaw12.InertBelow': WHATEVER THE INPUT: true; the input reads as it did. -/
def inertBelowSpec : ChangeSpec := { name := "inertBelow", fn := fun _ => fun
  | [d1, d2, d3] => { results := [.lit (.bool true)], args := [d1, d2, d3] }
  | _ => none }
def inertBelowRow : OpenClaim := { program := "ytccfkncajelbpaagreat", sum := "9ca986cfb226e1606d449b956453b6a1ff0613d235f44fffab519220f328d9b2", func := "limelight/limelightlaw12.InertBelow", spec := "inertBelow", unfollowed := true, recurses := true, apart := false }
def InertBelowSaid : Prop := inertBelowRow.holds Tryz.pinned (OpenSpec.ofChange inertBelowSpec)

/-- ITS FALSE NEIGHBOUR: 'it returns false'. Refute it at one input. -/
def inertBelowWrong : ChangeSpec := { name := "inertBelow", fn := fun _ => fun
  | [d1, d2, d3] => { results := [.lit (.bool false)], args := [d1, d2, d3] }
  | _ => none }
def InertBelowWrongFalsely : Prop := inertBelowRow.holds Tryz.pinned (OpenSpec.ofChange inertBelowWrong)

/-- 'limelightlaw12.InertHighest': WHATEVER THE INPUT: true; the input reads as it did. -/
def inertHighestSpec : ChangeSpec := { name := "inertHighest", fn := fun _ => fun
  | [d1, d2] => { results := [.lit (.bool true)], args := [d1, d2] }
  | _ => none }
def inertHighestRow : OpenClaim := { program := "ytccfkncajelbpaagreat", sum := "9ca986cfb226e1606d449b956453b6a1ff0613d235f44fffab519220f328d9b2", func := "limelight/limelightlaw12.InertHighest", spec := "inertHighest", unfollowed := true, recurses := true, apart := false }
def InertHighestSaid : Prop := inertHighestRow.holds Tryz.pinned (OpenSpec.ofChange inertHighestSpec)

/-- ITS FALSE NEIGHBOUR: 'it returns false'. Refute it at one input. -/
def inertHighestWrong : ChangeSpec := { name := "inertHighest", fn := fun _ => fun
  | [d1, d2] => { results := [.lit (.bool false)], args := [d1, d2] }
  | _ => none }
def InertHighestWrongFalsely : Prop := inertHighestRow.holds Tryz.pinned (OpenSpec.ofChange inertHighestWrong)

/- THE SECOND FORM. 'bulk': how many values and letters a reading holds, each counted each time it is reached (what is shared counts as often as it is met; a slice's spare places count too). A statement '..UptoSaid' is the law's where the arguments, and the package variables that the reading takes, are together of bulk at most 1048576: NARROWER than '..Said'. Prove '..Said' where nothing that the law and all that it calls make is longer than what came in: it says more and counts as full. Else prove '..UptoSaid'. A law counts once. -/
mutual
def uptoBulk {H : Type} : DataW H → Nat
  | .lit (.string bytes) => bytes.length + 1
  | .lit _ => 1
  | .nil => 1
  | .ptr d => uptoBulk d + 1
  | .slice elems spare => uptoBulkAll elems + uptoBulkAll spare + 1
  | .agg parts => uptoBulkAll parts + 1
  | .iface _ d => uptoBulk d + 1
  | .map entries => uptoBulkEntries entries + 1
  | .held _ => 1
def uptoBulkAll {H : Type} : List (DataW H) → Nat
  | [] => 0
  | d :: r => uptoBulk d + uptoBulkAll r
def uptoBulkEntries {H : Type} : List (Lit × DataW H) → Nat
  | [] => 0
  | x :: r => uptoBulkEntry x + uptoBulkEntries r
def uptoBulkEntry {H : Type} : Lit × DataW H → Nat
  | (.string bytes, d) => bytes.length + uptoBulk d + 1
  | (_, d) => uptoBulk d + 1
 end
def uptoSmall : (H : Type) → List (DataW H) → Bool := fun _ ds => decide (uptoBulkAll ds ≤ 1048576)
def OpenSpec.upto (s : _root_.Go.ChangeSpec) : _root_.Go.OpenSpec := { _root_.Go.OpenSpec.ofChange s with cond := some uptoSmall }

/-- 'limelightlaw11.RenderTells', WHERE WHAT IT READS IS OF BULK AT MOST 1048576: true; the input reads as it did. -/
def renderTellsUptoRow : OpenClaim := { program := "ytccfkncajelbpaagreat", sum := "9ca986cfb226e1606d449b956453b6a1ff0613d235f44fffab519220f328d9b2", func := "limelight/limelightlaw11.RenderTells", spec := "renderTells", unfollowed := true, recurses := true, apart := false, narrowed := true }
def RenderTellsUptoSaid : Prop := renderTellsUptoRow.holds Tryz.pinned (OpenSpec.upto renderTellsSpec)

/-- 'limelightlaw11.RenderBelow', WHERE WHAT IT READS IS OF BULK AT MOST 1048576: true; the input reads as it did. -/
def renderBelowUptoRow : OpenClaim := { program := "ytccfkncajelbpaagreat", sum := "9ca986cfb226e1606d449b956453b6a1ff0613d235f44fffab519220f328d9b2", func := "limelight/limelightlaw11.RenderBelow", spec := "renderBelow", unfollowed := true, recurses := true, apart := false, narrowed := true }
def RenderBelowUptoSaid : Prop := renderBelowUptoRow.holds Tryz.pinned (OpenSpec.upto renderBelowSpec)

/-- 'limelightlaw11.RenderHides', WHERE WHAT IT READS IS OF BULK AT MOST 1048576: true; the input reads as it did. -/
def renderHidesUptoRow : OpenClaim := { program := "ytccfkncajelbpaagreat", sum := "9ca986cfb226e1606d449b956453b6a1ff0613d235f44fffab519220f328d9b2", func := "limelight/limelightlaw11.RenderHides", spec := "renderHides", unfollowed := true, recurses := true, apart := false, narrowed := true }
def RenderHidesUptoSaid : Prop := renderHidesUptoRow.holds Tryz.pinned (OpenSpec.upto renderHidesSpec)

/-- 'limelightlaw11.RenderFirst', WHERE WHAT IT READS IS OF BULK AT MOST 1048576: true; the input reads as it did. -/
def renderFirstUptoRow : OpenClaim := { program := "ytccfkncajelbpaagreat", sum := "9ca986cfb226e1606d449b956453b6a1ff0613d235f44fffab519220f328d9b2", func := "limelight/limelightlaw11.RenderFirst", spec := "renderFirst", unfollowed := true, recurses := true, apart := false, narrowed := true }
def RenderFirstUptoSaid : Prop := renderFirstUptoRow.holds Tryz.pinned (OpenSpec.upto renderFirstSpec)

/-- 'limelightlaw12.InertTells', WHERE WHAT IT READS IS OF BULK AT MOST 1048576: true; the input reads as it did. -/
def inertTellsUptoRow : OpenClaim := { program := "ytccfkncajelbpaagreat", sum := "9ca986cfb226e1606d449b956453b6a1ff0613d235f44fffab519220f328d9b2", func := "limelight/limelightlaw12.InertTells", spec := "inertTells", unfollowed := true, recurses := true, apart := false, narrowed := true }
def InertTellsUptoSaid : Prop := inertTellsUptoRow.holds Tryz.pinned (OpenSpec.upto inertTellsSpec)

/-- 'limelightlaw12.InertModal', WHERE WHAT IT READS IS OF BULK AT MOST 1048576: true; the input reads as it did. -/
def inertModalUptoRow : OpenClaim := { program := "ytccfkncajelbpaagreat", sum := "9ca986cfb226e1606d449b956453b6a1ff0613d235f44fffab519220f328d9b2", func := "limelight/limelightlaw12.InertModal", spec := "inertModal", unfollowed := true, recurses := true, apart := false, narrowed := true }
def InertModalUptoSaid : Prop := inertModalUptoRow.holds Tryz.pinned (OpenSpec.upto inertModalSpec)

/-- 'limelightlaw12.InertNone', WHERE WHAT IT READS IS OF BULK AT MOST 1048576: true; the input reads as it did. -/
def inertNoneUptoRow : OpenClaim := { program := "ytccfkncajelbpaagreat", sum := "9ca986cfb226e1606d449b956453b6a1ff0613d235f44fffab519220f328d9b2", func := "limelight/limelightlaw12.InertNone", spec := "inertNone", unfollowed := true, recurses := true, apart := false, narrowed := true }
def InertNoneUptoSaid : Prop := inertNoneUptoRow.holds Tryz.pinned (OpenSpec.upto inertNoneSpec)

/-- 'limelightlaw12.InertBelow', WHERE WHAT IT READS IS OF BULK AT MOST 1048576: true; the input reads as it did. -/
def inertBelowUptoRow : OpenClaim := { program := "ytccfkncajelbpaagreat", sum := "9ca986cfb226e1606d449b956453b6a1ff0613d235f44fffab519220f328d9b2", func := "limelight/limelightlaw12.InertBelow", spec := "inertBelow", unfollowed := true, recurses := true, apart := false, narrowed := true }
def InertBelowUptoSaid : Prop := inertBelowUptoRow.holds Tryz.pinned (OpenSpec.upto inertBelowSpec)

/-- 'limelightlaw12.InertHighest', WHERE WHAT IT READS IS OF BULK AT MOST 1048576: true; the input reads as it did. -/
def inertHighestUptoRow : OpenClaim := { program := "ytccfkncajelbpaagreat", sum := "9ca986cfb226e1606d449b956453b6a1ff0613d235f44fffab519220f328d9b2", func := "limelight/limelightlaw12.InertHighest", spec := "inertHighest", unfollowed := true, recurses := true, apart := false, narrowed := true }
def InertHighestUptoSaid : Prop := inertHighestUptoRow.holds Tryz.pinned (OpenSpec.upto inertHighestSpec)

end Rows
end Go.Proofs.YtccfkncajelbpaaGreat
