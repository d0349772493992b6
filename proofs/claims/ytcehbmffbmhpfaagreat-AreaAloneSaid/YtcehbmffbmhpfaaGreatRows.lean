/-
  No cell of these rows narrows 'for every input' (looked for: loops, veiled, ifaces, maps, wideKeys, modest, calm, conditions, laid).
  DERIVED. THE GIVEN ROWS OF THIS SEAT. 11 by the template 'for every input the law returns true; each argument reads behind the call as it read before'; 0 by the template 'total and deterministic' (their statements: YtcehbmffbmhpfaaGreatTotals.lean).
  GIVEN WITH THE SEED: the statements are not yours to turn. If you find one false, say at which input.
  Laid BY PROGRAM, IN A SANDBOX (cutbox-rows.mjs): the forced cells as the released guide's own fill.sh prints them over the translation 7c65befc33968bb8… (all of the seat's roots in one cut). By AI agents, Wed Nov 11 2026. No macro, syntax, notation, axiom, sorry.
-/
import Derived.Test.YtcehbmffbmhpfaaGreatChecked
import GoSem.Claim
import GoSem.ClaimJoined
import GoSem.ClaimMapViews
import Derived.JoinedTies
import Derived.KernelRfl
namespace Go.Proofs.YtcehbmffbmhpfaaGreat
/- THE CELL 'sum', in the pinned program and in every row, IS THE sha256 OF THE DUMP (.gsa) THAT YtcehbmffbmhpfaaGreatProg.lean LOADS. Nothing in Lean hashes anything: it is a label: what it is worth is what the hold of that sum in a sandbox is worth. -/
noncomputable def Tryz.pinned : Pinned := { name := "ytcehbmffbmhpfaagreat", sum := "7c65befc33968bb8c0e7fbe18fc11ea20bf30d01408f39133ef6b97dc662da71", checked := Tryz.checked }
namespace Rows
def none {H : Type} : Left H := { results := [], args := [] }

/-- 'limelightlaw19.PopupTells': WHATEVER THE INPUT: true; the input reads as it did. -/
def popupTellsSpec : ChangeSpec := { name := "popupTells", fn := fun _ => fun
  | [d1, d2] => { results := [.lit (.bool true)], args := [d1, d2] }
  | _ => none }
def popupTellsRow : OpenClaim := { program := "ytcehbmffbmhpfaagreat", sum := "7c65befc33968bb8c0e7fbe18fc11ea20bf30d01408f39133ef6b97dc662da71", func := "limelight/limelightlaw19.PopupTells", spec := "popupTells", unfollowed := true, recurses := true, apart := false }
def PopupTellsSaid : Prop := popupTellsRow.holds Tryz.pinned (OpenSpec.ofChange popupTellsSpec)

/-- ITS FALSE NEIGHBOUR: 'it returns false'. Refute it at one input. -/
def popupTellsWrong : ChangeSpec := { name := "popupTells", fn := fun _ => fun
  | [d1, d2] => { results := [.lit (.bool false)], args := [d1, d2] }
  | _ => none }
def PopupTellsWrongFalsely : Prop := popupTellsRow.holds Tryz.pinned (OpenSpec.ofChange popupTellsWrong)

/-- 'limelightlaw19.PopupSpares': WHATEVER THE INPUT: true; the input reads as it did. -/
def popupSparesSpec : ChangeSpec := { name := "popupSpares", fn := fun _ => fun
  | [d1, d2] => { results := [.lit (.bool true)], args := [d1, d2] }
  | _ => none }
def popupSparesRow : OpenClaim := { program := "ytcehbmffbmhpfaagreat", sum := "7c65befc33968bb8c0e7fbe18fc11ea20bf30d01408f39133ef6b97dc662da71", func := "limelight/limelightlaw19.PopupSpares", spec := "popupSpares", unfollowed := true, recurses := true, apart := false }
def PopupSparesSaid : Prop := popupSparesRow.holds Tryz.pinned (OpenSpec.ofChange popupSparesSpec)

/-- ITS FALSE NEIGHBOUR: 'it returns false'. Refute it at one input. -/
def popupSparesWrong : ChangeSpec := { name := "popupSpares", fn := fun _ => fun
  | [d1, d2] => { results := [.lit (.bool false)], args := [d1, d2] }
  | _ => none }
def PopupSparesWrongFalsely : Prop := popupSparesRow.holds Tryz.pinned (OpenSpec.ofChange popupSparesWrong)

/-- 'limelightlaw19.PopupLight': WHATEVER THE INPUT: true; the input reads as it did. -/
def popupLightSpec : ChangeSpec := { name := "popupLight", fn := fun _ => fun
  | [d1, d2] => { results := [.lit (.bool true)], args := [d1, d2] }
  | _ => none }
def popupLightRow : OpenClaim := { program := "ytcehbmffbmhpfaagreat", sum := "7c65befc33968bb8c0e7fbe18fc11ea20bf30d01408f39133ef6b97dc662da71", func := "limelight/limelightlaw19.PopupLight", spec := "popupLight", unfollowed := true, recurses := true, apart := false }
def PopupLightSaid : Prop := popupLightRow.holds Tryz.pinned (OpenSpec.ofChange popupLightSpec)

/-- ITS FALSE NEIGHBOUR: 'it returns false'. Refute it at one input. -/
def popupLightWrong : ChangeSpec := { name := "popupLight", fn := fun _ => fun
  | [d1, d2] => { results := [.lit (.bool false)], args := [d1, d2] }
  | _ => none }
def PopupLightWrongFalsely : Prop := popupLightRow.holds Tryz.pinned (OpenSpec.ofChange popupLightWrong)

/-- 'limelightlaw19.PopupHands': WHATEVER THE INPUT: true; the input reads as it did. -/
def popupHandsSpec : ChangeSpec := { name := "popupHands", fn := fun _ => fun
  | [d1, d2] => { results := [.lit (.bool true)], args := [d1, d2] }
  | _ => none }
def popupHandsRow : OpenClaim := { program := "ytcehbmffbmhpfaagreat", sum := "7c65befc33968bb8c0e7fbe18fc11ea20bf30d01408f39133ef6b97dc662da71", func := "limelight/limelightlaw19.PopupHands", spec := "popupHands", unfollowed := true, recurses := true, apart := false }
def PopupHandsSaid : Prop := popupHandsRow.holds Tryz.pinned (OpenSpec.ofChange popupHandsSpec)

/-- ITS FALSE NEIGHBOUR: 'it returns false'. Refute it at one input. -/
def popupHandsWrong : ChangeSpec := { name := "popupHands", fn := fun _ => fun
  | [d1, d2] => { results := [.lit (.bool false)], args := [d1, d2] }
  | _ => none }
def PopupHandsWrongFalsely : Prop := popupHandsRow.holds Tryz.pinned (OpenSpec.ofChange popupHandsWrong)

/-- 'limelightlaw19.PopupHints': WHATEVER THE INPUT: true; the input reads as it did. -/
def popupHintsSpec : ChangeSpec := { name := "popupHints", fn := fun _ => fun
  | [d1, d2] => { results := [.lit (.bool true)], args := [d1, d2] }
  | _ => none }
def popupHintsRow : OpenClaim := { program := "ytcehbmffbmhpfaagreat", sum := "7c65befc33968bb8c0e7fbe18fc11ea20bf30d01408f39133ef6b97dc662da71", func := "limelight/limelightlaw19.PopupHints", spec := "popupHints", unfollowed := true, recurses := true, apart := false }
def PopupHintsSaid : Prop := popupHintsRow.holds Tryz.pinned (OpenSpec.ofChange popupHintsSpec)

/-- ITS FALSE NEIGHBOUR: 'it returns false'. Refute it at one input. -/
def popupHintsWrong : ChangeSpec := { name := "popupHints", fn := fun _ => fun
  | [d1, d2] => { results := [.lit (.bool false)], args := [d1, d2] }
  | _ => none }
def PopupHintsWrongFalsely : Prop := popupHintsRow.holds Tryz.pinned (OpenSpec.ofChange popupHintsWrong)

/-- 'limelightlaw19.PopupLone': WHATEVER THE INPUT: true; the input reads as it did. -/
def popupLoneSpec : ChangeSpec := { name := "popupLone", fn := fun _ => fun
  | [d1, d2] => { results := [.lit (.bool true)], args := [d1, d2] }
  | _ => none }
def popupLoneRow : OpenClaim := { program := "ytcehbmffbmhpfaagreat", sum := "7c65befc33968bb8c0e7fbe18fc11ea20bf30d01408f39133ef6b97dc662da71", func := "limelight/limelightlaw19.PopupLone", spec := "popupLone", unfollowed := true, recurses := true, apart := false }
def PopupLoneSaid : Prop := popupLoneRow.holds Tryz.pinned (OpenSpec.ofChange popupLoneSpec)

/-- ITS FALSE NEIGHBOUR: 'it returns false'. Refute it at one input. -/
def popupLoneWrong : ChangeSpec := { name := "popupLone", fn := fun _ => fun
  | [d1, d2] => { results := [.lit (.bool false)], args := [d1, d2] }
  | _ => none }
def PopupLoneWrongFalsely : Prop := popupLoneRow.holds Tryz.pinned (OpenSpec.ofChange popupLoneWrong)

/-- 'limelightlaw13.AreaTells': WHATEVER THE INPUT: true; the input reads as it did. -/
def areaTellsSpec : ChangeSpec := { name := "areaTells", fn := fun _ => fun
  | [d1, d2] => { results := [.lit (.bool true)], args := [d1, d2] }
  | _ => none }
def areaTellsRow : OpenClaim := { program := "ytcehbmffbmhpfaagreat", sum := "7c65befc33968bb8c0e7fbe18fc11ea20bf30d01408f39133ef6b97dc662da71", func := "limelight/limelightlaw13.AreaTells", spec := "areaTells", unfollowed := true, recurses := true, apart := false }
def AreaTellsSaid : Prop := areaTellsRow.holds Tryz.pinned (OpenSpec.ofChange areaTellsSpec)

/-- ITS FALSE NEIGHBOUR: 'it returns false'. Refute it at one input. -/
def areaTellsWrong : ChangeSpec := { name := "areaTells", fn := fun _ => fun
  | [d1, d2] => { results := [.lit (.bool false)], args := [d1, d2] }
  | _ => none }
def AreaTellsWrongFalsely : Prop := areaTellsRow.holds Tryz.pinned (OpenSpec.ofChange areaTellsWrong)

/-- 'limelightlaw13.AreaLaws': WHATEVER THE INPUT: true; the input reads as it did. -/
def areaLawsSpec : ChangeSpec := { name := "areaLaws", fn := fun _ => fun
  | [d] => { results := [.lit (.bool true)], args := [d] }
  | _ => none }
def areaLawsRow : OpenClaim := { program := "ytcehbmffbmhpfaagreat", sum := "7c65befc33968bb8c0e7fbe18fc11ea20bf30d01408f39133ef6b97dc662da71", func := "limelight/limelightlaw13.AreaLaws", spec := "areaLaws", unfollowed := true, recurses := true, apart := false }
def AreaLawsSaid : Prop := areaLawsRow.holds Tryz.pinned (OpenSpec.ofChange areaLawsSpec)

/-- ITS FALSE NEIGHBOUR: 'it returns false'. Refute it at one input. -/
def areaLawsWrong : ChangeSpec := { name := "areaLaws", fn := fun _ => fun
  | [d] => { results := [.lit (.bool false)], args := [d] }
  | _ => none }
def AreaLawsWrongFalsely : Prop := areaLawsRow.holds Tryz.pinned (OpenSpec.ofChange areaLawsWrong)

/-- 'limelightlaw13.AreaIndex': WHATEVER THE INPUT: true; the input reads as it did. -/
def areaIndexSpec : ChangeSpec := { name := "areaIndex", fn := fun _ => fun
  | [d1, d2] => { results := [.lit (.bool true)], args := [d1, d2] }
  | _ => none }
def areaIndexRow : OpenClaim := { program := "ytcehbmffbmhpfaagreat", sum := "7c65befc33968bb8c0e7fbe18fc11ea20bf30d01408f39133ef6b97dc662da71", func := "limelight/limelightlaw13.AreaIndex", spec := "areaIndex", unfollowed := true, recurses := true, apart := false }
def AreaIndexSaid : Prop := areaIndexRow.holds Tryz.pinned (OpenSpec.ofChange areaIndexSpec)

/-- ITS FALSE NEIGHBOUR: 'it returns false'. Refute it at one input. -/
def areaIndexWrong : ChangeSpec := { name := "areaIndex", fn := fun _ => fun
  | [d1, d2] => { results := [.lit (.bool false)], args := [d1, d2] }
  | _ => none }
def AreaIndexWrongFalsely : Prop := areaIndexRow.holds Tryz.pinned (OpenSpec.ofChange areaIndexWrong)

/-- 'limelightlaw13.AreaShown': WHATEVER THE INPUT: true; the input reads as it did. -/
def areaShownSpec : ChangeSpec := { name := "areaShown", fn := fun _ => fun
  | [d1, d2] => { results := [.lit (.bool true)], args := [d1, d2] }
  | _ => none }
def areaShownRow : OpenClaim := { program := "ytcehbmffbmhpfaagreat", sum := "7c65befc33968bb8c0e7fbe18fc11ea20bf30d01408f39133ef6b97dc662da71", func := "limelight/limelightlaw13.AreaShown", spec := "areaShown", unfollowed := true, recurses := true, apart := false }
def AreaShownSaid : Prop := areaShownRow.holds Tryz.pinned (OpenSpec.ofChange areaShownSpec)

/-- ITS FALSE NEIGHBOUR: 'it returns false'. Refute it at one input. -/
def areaShownWrong : ChangeSpec := { name := "areaShown", fn := fun _ => fun
  | [d1, d2] => { results := [.lit (.bool false)], args := [d1, d2] }
  | _ => none }
def AreaShownWrongFalsely : Prop := areaShownRow.holds Tryz.pinned (OpenSpec.ofChange areaShownWrong)

/-- 'limelightlaw13.AreaAlone': WHATEVER THE INPUT: true; the input reads as it did. -/
def areaAloneSpec : ChangeSpec := { name := "areaAlone", fn := fun _ => fun
  | [d1, d2] => { results := [.lit (.bool true)], args := [d1, d2] }
  | _ => none }
def areaAloneRow : OpenClaim := { program := "ytcehbmffbmhpfaagreat", sum := "7c65befc33968bb8c0e7fbe18fc11ea20bf30d01408f39133ef6b97dc662da71", func := "limelight/limelightlaw13.AreaAlone", spec := "areaAlone", unfollowed := true, recurses := true, apart := false }
def AreaAloneSaid : Prop := areaAloneRow.holds Tryz.pinned (OpenSpec.ofChange areaAloneSpec)

/-- ITS FALSE NEIGHBOUR: 'it returns false'. Refute it at one input. -/
def areaAloneWrong : ChangeSpec := { name := "areaAlone", fn := fun _ => fun
  | [d1, d2] => { results := [.lit (.bool false)], args := [d1, d2] }
  | _ => none }
def AreaAloneWrongFalsely : Prop := areaAloneRow.holds Tryz.pinned (OpenSpec.ofChange areaAloneWrong)

/- THE SECOND FORM. 'bulk': how many values and letters a reading holds, each counted each time it is reached (what is shared counts as often as it is met; a slice's spare places count too). A statement '..UptoSaid' is the law's where the arguments, and the package variables that the reading takes, are together of bulk at most 1048576: NARROWER than '..Said'. Prove '..Said' where nothing that the law and all that it calls make is longer than what came in: it says more and counts as full. Else prove '..UptoSaid'. A law counts once. -/
mutual
def uptoBulk {H : Type} : DataW H → Nat
  | .lit (.string bytes) => bytes.length + 1
  | .lit _ => 1
  | .nil => 1
  | .ptr d => uptoBulk d + 1
  | .slice elems spare => uptoBulkAll elems + uptoBulkAll spare + 1
  | .agg parts => uptoBulkAll parts + 1
  | .iface _ d => uptoBulk d + 1
  | .map entries => uptoBulkEntries entries + 1
  | .held _ => 1
def uptoBulkAll {H : Type} : List (DataW H) → Nat
  | [] => 0
  | d :: r => uptoBulk d + uptoBulkAll r
def uptoBulkEntries {H : Type} : List (Lit × DataW H) → Nat
  | [] => 0
  | x :: r => uptoBulkEntry x + uptoBulkEntries r
def uptoBulkEntry {H : Type} : Lit × DataW H → Nat
  | (.string bytes, d) => bytes.length + uptoBulk d + 1
  | (_, d) => uptoBulk d + 1
 end
def uptoSmall : (H : Type) → List (DataW H) → Bool := fun _ ds => decide (uptoBulkAll ds ≤ 1048576)
def OpenSpec.upto (s : _root_.Go.ChangeSpec) : _root_.Go.OpenSpec := { _root_.Go.OpenSpec.ofChange s with cond := some uptoSmall }

/-- 'limelightlaw19.PopupTells', WHERE WHAT IT READS IS OF BULK AT MOST 1048576: true; the input reads as it did. -/
def popupTellsUptoRow : OpenClaim := { program := "ytcehbmffbmhpfaagreat", sum := "7c65befc33968bb8c0e7fbe18fc11ea20bf30d01408f39133ef6b97dc662da71", func := "limelight/limelightlaw19.PopupTells", spec := "popupTells", unfollowed := true, recurses := true, apart := false, narrowed := true }
def PopupTellsUptoSaid : Prop := popupTellsUptoRow.holds Tryz.pinned (OpenSpec.upto popupTellsSpec)

/-- 'limelightlaw19.PopupSpares', WHERE WHAT IT READS IS OF BULK AT MOST 1048576: true; the input reads as it did. -/
def popupSparesUptoRow : OpenClaim := { program := "ytcehbmffbmhpfaagreat", sum := "7c65befc33968bb8c0e7fbe18fc11ea20bf30d01408f39133ef6b97dc662da71", func := "limelight/limelightlaw19.PopupSpares", spec := "popupSpares", unfollowed := true, recurses := true, apart := false, narrowed := true }
def PopupSparesUptoSaid : Prop := popupSparesUptoRow.holds Tryz.pinned (OpenSpec.upto popupSparesSpec)

/-- 'limelightlaw19.PopupLight', WHERE WHAT IT READS IS OF BULK AT MOST 1048576: true; the input reads as it did. -/
def popupLightUptoRow : OpenClaim := { program := "ytcehbmffbmhpfaagreat", sum := "7c65befc33968bb8c0e7fbe18fc11ea20bf30d01408f39133ef6b97dc662da71", func := "limelight/limelightlaw19.PopupLight", spec := "popupLight", unfollowed := true, recurses := true, apart := false, narrowed := true }
def PopupLightUptoSaid : Prop := popupLightUptoRow.holds Tryz.pinned (OpenSpec.upto popupLightSpec)

/-- 'limelightlaw19.PopupHands', WHERE WHAT IT READS IS OF BULK AT MOST 1048576: true; the input reads as it did. -/
def popupHandsUptoRow : OpenClaim := { program := "ytcehbmffbmhpfaagreat", sum := "7c65befc33968bb8c0e7fbe18fc11ea20bf30d01408f39133ef6b97dc662da71", func := "limelight/limelightlaw19.PopupHands", spec := "popupHands", unfollowed := true, recurses := true, apart := false, narrowed := true }
def PopupHandsUptoSaid : Prop := popupHandsUptoRow.holds Tryz.pinned (OpenSpec.upto popupHandsSpec)

/-- 'limelightlaw19.PopupHints', WHERE WHAT IT READS IS OF BULK AT MOST 1048576: true; the input reads as it did. -/
def popupHintsUptoRow : OpenClaim := { program := "ytcehbmffbmhpfaagreat", sum := "7c65befc33968bb8c0e7fbe18fc11ea20bf30d01408f39133ef6b97dc662da71", func := "limelight/limelightlaw19.PopupHints", spec := "popupHints", unfollowed := true, recurses := true, apart := false, narrowed := true }
def PopupHintsUptoSaid : Prop := popupHintsUptoRow.holds Tryz.pinned (OpenSpec.upto popupHintsSpec)

/-- 'limelightlaw19.PopupLone', WHERE WHAT IT READS IS OF BULK AT MOST 1048576: true; the input reads as it did. -/
def popupLoneUptoRow : OpenClaim := { program := "ytcehbmffbmhpfaagreat", sum := "7c65befc33968bb8c0e7fbe18fc11ea20bf30d01408f39133ef6b97dc662da71", func := "limelight/limelightlaw19.PopupLone", spec := "popupLone", unfollowed := true, recurses := true, apart := false, narrowed := true }
def PopupLoneUptoSaid : Prop := popupLoneUptoRow.holds Tryz.pinned (OpenSpec.upto popupLoneSpec)

/-- 'limelightlaw13.AreaTells', WHERE WHAT IT READS IS OF BULK AT MOST 1048576: true; the input reads as it did. -/
def areaTellsUptoRow : OpenClaim := { program := "ytcehbmffbmhpfaagreat", sum := "7c65befc33968bb8c0e7fbe18fc11ea20bf30d01408f39133ef6b97dc662da71", func := "limelight/limelightlaw13.AreaTells", spec := "areaTells", unfollowed := true, recurses := true, apart := false, narrowed := true }
def AreaTellsUptoSaid : Prop := areaTellsUptoRow.holds Tryz.pinned (OpenSpec.upto areaTellsSpec)

/-- 'limelightlaw13.AreaLaws', WHERE WHAT IT READS IS OF BULK AT MOST 1048576: true; the input reads as it did. -/
def areaLawsUptoRow : OpenClaim := { program := "ytcehbmffbmhpfaagreat", sum := "7c65befc33968bb8c0e7fbe18fc11ea20bf30d01408f39133ef6b97dc662da71", func := "limelight/limelightlaw13.AreaLaws", spec := "areaLaws", unfollowed := true, recurses := true, apart := false, narrowed := true }
def AreaLawsUptoSaid : Prop := areaLawsUptoRow.holds Tryz.pinned (OpenSpec.upto areaLawsSpec)

/-- 'limelightlaw13.AreaIndex', WHERE WHAT IT READS IS OF BULK AT MOST 1048576: true; the input reads as it did. -/
def areaIndexUptoRow : OpenClaim := { program := "ytcehbmffbmhpfaagreat", sum := "7c65befc33968bb8c0e7fbe18fc11ea20bf30d01408f39133ef6b97dc662da71", func := "limelight/limelightlaw13.AreaIndex", spec := "areaIndex", unfollowed := true, recurses := true, apart := false, narrowed := true }
def AreaIndexUptoSaid : Prop := areaIndexUptoRow.holds Tryz.pinned (OpenSpec.upto areaIndexSpec)

/-- 'limelightlaw13.AreaShown', WHERE WHAT IT READS IS OF BULK AT MOST 1048576: true; the input reads as it did. -/
def areaShownUptoRow : OpenClaim := { program := "ytcehbmffbmhpfaagreat", sum := "7c65befc33968bb8c0e7fbe18fc11ea20bf30d01408f39133ef6b97dc662da71", func := "limelight/limelightlaw13.AreaShown", spec := "areaShown", unfollowed := true, recurses := true, apart := false, narrowed := true }
def AreaShownUptoSaid : Prop := areaShownUptoRow.holds Tryz.pinned (OpenSpec.upto areaShownSpec)

/-- 'limelightlaw13.AreaAlone', WHERE WHAT IT READS IS OF BULK AT MOST 1048576: true; the input reads as it did. -/
def areaAloneUptoRow : OpenClaim := { program := "ytcehbmffbmhpfaagreat", sum := "7c65befc33968bb8c0e7fbe18fc11ea20bf30d01408f39133ef6b97dc662da71", func := "limelight/limelightlaw13.AreaAlone", spec := "areaAlone", unfollowed := true, recurses := true, apart := false, narrowed := true }
def AreaAloneUptoSaid : Prop := areaAloneUptoRow.holds Tryz.pinned (OpenSpec.upto areaAloneSpec)

end Rows
end Go.Proofs.YtcehbmffbmhpfaaGreat
