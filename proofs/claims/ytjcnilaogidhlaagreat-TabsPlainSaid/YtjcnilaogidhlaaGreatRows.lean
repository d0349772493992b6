/-
  No cell of these rows narrows 'for every input' (looked for: loops, veiled, ifaces, maps, wideKeys, modest, calm, conditions, laid).
  DERIVED. THE GIVEN ROWS OF THIS SEAT. 10 by the template 'for every input the law returns true; each argument reads behind the call as it read before'; 0 by the template 'total and deterministic' (their statements: YtjcnilaogidhlaaGreatTotals.lean).
  GIVEN WITH THE SEED: the statements are not yours to turn. If you find one false, say at which input.
  Laid BY PROGRAM, IN A SANDBOX (cutbox-rows.mjs): the forced cells as the released guide's own fill.sh prints them over the translation 094dec1ba329ba70… (all of the seat's roots in one cut). By AI agents, Wed Nov 11 2026. No macro, syntax, notation, axiom, sorry.
-/
import Derived.Test.YtjcnilaogidhlaaGreatChecked
import GoSem.Claim
import GoSem.ClaimJoined
import GoSem.ClaimMapViews
import Derived.JoinedTies
import Derived.KernelRfl
namespace Go.Proofs.YtjcnilaogidhlaaGreat
/- THE CELL 'sum', in the pinned program and in every row, IS THE sha256 OF THE DUMP (.gsa) THAT YtjcnilaogidhlaaGreatProg.lean LOADS. Nothing in Lean hashes anything: it is a label: what it is worth is what the hold of that sum in a sandbox is worth. -/
noncomputable def Tryz.pinned : Pinned := { name := "ytjcnilaogidhlaagreat", sum := "094dec1ba329ba709a8d17c03603c3fb8513b176b2e7641bb7743a20f15e97b8", checked := Tryz.checked }
namespace Rows
def none {H : Type} : Left H := { results := [], args := [] }

/-- 'limelightlaw16.ScopesTell': WHATEVER THE INPUT: true; the input reads as it did. -/
def scopesTellSpec : ChangeSpec := { name := "scopesTell", fn := fun _ => fun
  | [d1, d2] => { results := [.lit (.bool true)], args := [d1, d2] }
  | _ => none }
def scopesTellRow : OpenClaim := { program := "ytjcnilaogidhlaagreat", sum := "094dec1ba329ba709a8d17c03603c3fb8513b176b2e7641bb7743a20f15e97b8", func := "limelight/limelightlaw16.ScopesTell", spec := "scopesTell", unfollowed := true, recurses := true, apart := false }
def ScopesTellSaid : Prop := scopesTellRow.holds Tryz.pinned (OpenSpec.ofChange scopesTellSpec)

/-- ITS FALSE NEIGHBOUR: 'it returns false'. Refute it at one input. -/
def scopesTellWrong : ChangeSpec := { name := "scopesTell", fn := fun _ => fun
  | [d1, d2] => { results := [.lit (.bool false)], args := [d1, d2] }
  | _ => none }
def ScopesTellWrongFalsely : Prop := scopesTellRow.holds Tryz.pinned (OpenSpec.ofChange scopesTellWrong)

/-- 'limelightlaw16.ScopesOnce': WHATEVER THE INPUT: true; the input reads as it did. -/
def scopesOnceSpec : ChangeSpec := { name := "scopesOnce", fn := fun _ => fun
  | [d] => { results := [.lit (.bool true)], args := [d] }
  | _ => none }
def scopesOnceRow : OpenClaim := { program := "ytjcnilaogidhlaagreat", sum := "094dec1ba329ba709a8d17c03603c3fb8513b176b2e7641bb7743a20f15e97b8", func := "limelight/limelightlaw16.ScopesOnce", spec := "scopesOnce", unfollowed := true, recurses := true, apart := false }
def ScopesOnceSaid : Prop := scopesOnceRow.holds Tryz.pinned (OpenSpec.ofChange scopesOnceSpec)

/-- ITS FALSE NEIGHBOUR: 'it returns false'. Refute it at one input. -/
def scopesOnceWrong : ChangeSpec := { name := "scopesOnce", fn := fun _ => fun
  | [d] => { results := [.lit (.bool false)], args := [d] }
  | _ => none }
def ScopesOnceWrongFalsely : Prop := scopesOnceRow.holds Tryz.pinned (OpenSpec.ofChange scopesOnceWrong)

/-- 'limelightlaw16.ScopesOwn': WHATEVER THE INPUT: true; the input reads as it did. -/
def scopesOwnSpec : ChangeSpec := { name := "scopesOwn", fn := fun _ => fun
  | [d1, d2] => { results := [.lit (.bool true)], args := [d1, d2] }
  | _ => none }
def scopesOwnRow : OpenClaim := { program := "ytjcnilaogidhlaagreat", sum := "094dec1ba329ba709a8d17c03603c3fb8513b176b2e7641bb7743a20f15e97b8", func := "limelight/limelightlaw16.ScopesOwn", spec := "scopesOwn", unfollowed := true, recurses := true, apart := false }
def ScopesOwnSaid : Prop := scopesOwnRow.holds Tryz.pinned (OpenSpec.ofChange scopesOwnSpec)

/-- ITS FALSE NEIGHBOUR: 'it returns false'. Refute it at one input. -/
def scopesOwnWrong : ChangeSpec := { name := "scopesOwn", fn := fun _ => fun
  | [d1, d2] => { results := [.lit (.bool false)], args := [d1, d2] }
  | _ => none }
def ScopesOwnWrongFalsely : Prop := scopesOwnRow.holds Tryz.pinned (OpenSpec.ofChange scopesOwnWrong)

/-- 'limelightlaw16.ScopesPlaces': WHATEVER THE INPUT: true; the input reads as it did. -/
def scopesPlacesSpec : ChangeSpec := { name := "scopesPlaces", fn := fun _ => fun
  | [d] => { results := [.lit (.bool true)], args := [d] }
  | _ => none }
def scopesPlacesRow : OpenClaim := { program := "ytjcnilaogidhlaagreat", sum := "094dec1ba329ba709a8d17c03603c3fb8513b176b2e7641bb7743a20f15e97b8", func := "limelight/limelightlaw16.ScopesPlaces", spec := "scopesPlaces", unfollowed := true, recurses := true, apart := false }
def ScopesPlacesSaid : Prop := scopesPlacesRow.holds Tryz.pinned (OpenSpec.ofChange scopesPlacesSpec)

/-- ITS FALSE NEIGHBOUR: 'it returns false'. Refute it at one input. -/
def scopesPlacesWrong : ChangeSpec := { name := "scopesPlaces", fn := fun _ => fun
  | [d] => { results := [.lit (.bool false)], args := [d] }
  | _ => none }
def ScopesPlacesWrongFalsely : Prop := scopesPlacesRow.holds Tryz.pinned (OpenSpec.ofChange scopesPlacesWrong)

/-- 'limelightlaw16.ScopesFlat': WHATEVER THE INPUT: true; the input reads as it did. -/
def scopesFlatSpec : ChangeSpec := { name := "scopesFlat", fn := fun _ => fun
  | [d1, d2] => { results := [.lit (.bool true)], args := [d1, d2] }
  | _ => none }
def scopesFlatRow : OpenClaim := { program := "ytjcnilaogidhlaagreat", sum := "094dec1ba329ba709a8d17c03603c3fb8513b176b2e7641bb7743a20f15e97b8", func := "limelight/limelightlaw16.ScopesFlat", spec := "scopesFlat", unfollowed := true, recurses := true, apart := false }
def ScopesFlatSaid : Prop := scopesFlatRow.holds Tryz.pinned (OpenSpec.ofChange scopesFlatSpec)

/-- ITS FALSE NEIGHBOUR: 'it returns false'. Refute it at one input. -/
def scopesFlatWrong : ChangeSpec := { name := "scopesFlat", fn := fun _ => fun
  | [d1, d2] => { results := [.lit (.bool false)], args := [d1, d2] }
  | _ => none }
def ScopesFlatWrongFalsely : Prop := scopesFlatRow.holds Tryz.pinned (OpenSpec.ofChange scopesFlatWrong)

/-- 'limelightlaw17.TabsTell': WHATEVER THE INPUT: true; the input reads as it did. -/
def tabsTellSpec : ChangeSpec := { name := "tabsTell", fn := fun _ => fun
  | [d1, d2] => { results := [.lit (.bool true)], args := [d1, d2] }
  | _ => none }
def tabsTellRow : OpenClaim := { program := "ytjcnilaogidhlaagreat", sum := "094dec1ba329ba709a8d17c03603c3fb8513b176b2e7641bb7743a20f15e97b8", func := "limelight/limelightlaw17.TabsTell", spec := "tabsTell", unfollowed := true, recurses := true, apart := false }
def TabsTellSaid : Prop := tabsTellRow.holds Tryz.pinned (OpenSpec.ofChange tabsTellSpec)

/-- ITS FALSE NEIGHBOUR: 'it returns false'. Refute it at one input. -/
def tabsTellWrong : ChangeSpec := { name := "tabsTell", fn := fun _ => fun
  | [d1, d2] => { results := [.lit (.bool false)], args := [d1, d2] }
  | _ => none }
def TabsTellWrongFalsely : Prop := tabsTellRow.holds Tryz.pinned (OpenSpec.ofChange tabsTellWrong)

/-- 'limelightlaw17.TabsRound': WHATEVER THE INPUT: true; the input reads as it did. -/
def tabsRoundSpec : ChangeSpec := { name := "tabsRound", fn := fun _ => fun
  | [d] => { results := [.lit (.bool true)], args := [d] }
  | _ => none }
def tabsRoundRow : OpenClaim := { program := "ytjcnilaogidhlaagreat", sum := "094dec1ba329ba709a8d17c03603c3fb8513b176b2e7641bb7743a20f15e97b8", func := "limelight/limelightlaw17.TabsRound", spec := "tabsRound", unfollowed := true, recurses := true, apart := false }
def TabsRoundSaid : Prop := tabsRoundRow.holds Tryz.pinned (OpenSpec.ofChange tabsRoundSpec)

/-- ITS FALSE NEIGHBOUR: 'it returns false'. Refute it at one input. -/
def tabsRoundWrong : ChangeSpec := { name := "tabsRound", fn := fun _ => fun
  | [d] => { results := [.lit (.bool false)], args := [d] }
  | _ => none }
def TabsRoundWrongFalsely : Prop := tabsRoundRow.holds Tryz.pinned (OpenSpec.ofChange tabsRoundWrong)

/-- 'limelightlaw17.TabsBack': WHATEVER THE INPUT: true; the input reads as it did. -/
def tabsBackSpec : ChangeSpec := { name := "tabsBack", fn := fun _ => fun
  | [d1, d2, d3] => { results := [.lit (.bool true)], args := [d1, d2, d3] }
  | _ => none }
def tabsBackRow : OpenClaim := { program := "ytjcnilaogidhlaagreat", sum := "094dec1ba329ba709a8d17c03603c3fb8513b176b2e7641bb7743a20f15e97b8", func := "limelight/limelightlaw17.TabsBack", spec := "tabsBack", unfollowed := true, recurses := true, apart := false }
def TabsBackSaid : Prop := tabsBackRow.holds Tryz.pinned (OpenSpec.ofChange tabsBackSpec)

/-- ITS FALSE NEIGHBOUR: 'it returns false'. Refute it at one input. -/
def tabsBackWrong : ChangeSpec := { name := "tabsBack", fn := fun _ => fun
  | [d1, d2, d3] => { results := [.lit (.bool false)], args := [d1, d2, d3] }
  | _ => none }
def TabsBackWrongFalsely : Prop := tabsBackRow.holds Tryz.pinned (OpenSpec.ofChange tabsBackWrong)

/-- 'limelightlaw17.TabsPlain': WHATEVER THE INPUT: true; the input reads as it did. -/
def tabsPlainSpec : ChangeSpec := { name := "tabsPlain", fn := fun _ => fun
  | [d] => { results := [.lit (.bool true)], args := [d] }
  | _ => none }
def tabsPlainRow : OpenClaim := { program := "ytjcnilaogidhlaagreat", sum := "094dec1ba329ba709a8d17c03603c3fb8513b176b2e7641bb7743a20f15e97b8", func := "limelight/limelightlaw17.TabsPlain", spec := "tabsPlain", unfollowed := true, recurses := true, apart := false }
def TabsPlainSaid : Prop := tabsPlainRow.holds Tryz.pinned (OpenSpec.ofChange tabsPlainSpec)

/-- ITS FALSE NEIGHBOUR: 'it returns false'. Refute it at one input. -/
def tabsPlainWrong : ChangeSpec := { name := "tabsPlain", fn := fun _ => fun
  | [d] => { results := [.lit (.bool false)], args := [d] }
  | _ => none }
def TabsPlainWrongFalsely : Prop := tabsPlainRow.holds Tryz.pinned (OpenSpec.ofChange tabsPlainWrong)

/-- 'limelightlaw17.TabsReach': WHATEVER THE INPUT: true; the input reads as it did. -/
def tabsReachSpec : ChangeSpec := { name := "tabsReach", fn := fun _ => fun
  | [d] => { results := [.lit (.bool true)], args := [d] }
  | _ => none }
def tabsReachRow : OpenClaim := { program := "ytjcnilaogidhlaagreat", sum := "094dec1ba329ba709a8d17c03603c3fb8513b176b2e7641bb7743a20f15e97b8", func := "limelight/limelightlaw17.TabsReach", spec := "tabsReach", unfollowed := true, recurses := true, apart := false }
def TabsReachSaid : Prop := tabsReachRow.holds Tryz.pinned (OpenSpec.ofChange tabsReachSpec)

/-- ITS FALSE NEIGHBOUR: 'it returns false'. Refute it at one input. -/
def tabsReachWrong : ChangeSpec := { name := "tabsReach", fn := fun _ => fun
  | [d] => { results := [.lit (.bool false)], args := [d] }
  | _ => none }
def TabsReachWrongFalsely : Prop := tabsReachRow.holds Tryz.pinned (OpenSpec.ofChange tabsReachWrong)

/- THE SECOND FORM. 'bulk': how many values and letters a reading holds, each counted each time it is reached (what is shared counts as often as it is met; a slice's spare places count too). A statement '..UptoSaid' is the law's where the arguments, and the package variables that the reading takes, are together of bulk at most 1048576: NARROWER than '..Said'. Prove '..Said' where nothing that the law and all that it calls make is longer than what came in: it says more and counts as full. Else prove '..UptoSaid'. A law counts once. -/
mutual
def uptoBulk {H : Type} : DataW H → Nat
  | .lit (.string bytes) => bytes.length + 1
  | .lit _ => 1
  | .nil => 1
  | .ptr d => uptoBulk d + 1
  | .slice elems spare => uptoBulkAll elems + uptoBulkAll spare + 1
  | .agg parts => uptoBulkAll parts + 1
  | .iface _ d => uptoBulk d + 1
  | .map entries => uptoBulkEntries entries + 1
  | .held _ => 1
def uptoBulkAll {H : Type} : List (DataW H) → Nat
  | [] => 0
  | d :: r => uptoBulk d + uptoBulkAll r
def uptoBulkEntries {H : Type} : List (Lit × DataW H) → Nat
  | [] => 0
  | x :: r => uptoBulkEntry x + uptoBulkEntries r
def uptoBulkEntry {H : Type} : Lit × DataW H → Nat
  | (.string bytes, d) => bytes.length + uptoBulk d + 1
  | (_, d) => uptoBulk d + 1
 end
def uptoSmall : (H : Type) → List (DataW H) → Bool := fun _ ds => decide (uptoBulkAll ds ≤ 1048576)
def OpenSpec.upto (s : _root_.Go.ChangeSpec) : _root_.Go.OpenSpec := { _root_.Go.OpenSpec.ofChange s with cond := some uptoSmall }

/-- 'limelightlaw16.ScopesTell', WHERE WHAT IT READS IS OF BULK AT MOST 1048576: true; the input reads as it did. -/
def scopesTellUptoRow : OpenClaim := { program := "ytjcnilaogidhlaagreat", sum := "094dec1ba329ba709a8d17c03603c3fb8513b176b2e7641bb7743a20f15e97b8", func := "limelight/limelightlaw16.ScopesTell", spec := "scopesTell", unfollowed := true, recurses := true, apart := false, narrowed := true }
def ScopesTellUptoSaid : Prop := scopesTellUptoRow.holds Tryz.pinned (OpenSpec.upto scopesTellSpec)

/-- 'limelightlaw16.ScopesOnce', WHERE WHAT IT READS IS OF BULK AT MOST 1048576: true; the input reads as it did. -/
def scopesOnceUptoRow : OpenClaim := { program := "ytjcnilaogidhlaagreat", sum := "094dec1ba329ba709a8d17c03603c3fb8513b176b2e7641bb7743a20f15e97b8", func := "limelight/limelightlaw16.ScopesOnce", spec := "scopesOnce", unfollowed := true, recurses := true, apart := false, narrowed := true }
def ScopesOnceUptoSaid : Prop := scopesOnceUptoRow.holds Tryz.pinned (OpenSpec.upto scopesOnceSpec)

/-- 'limelightlaw16.ScopesOwn', WHERE WHAT IT READS IS OF BULK AT MOST 1048576: true; the input reads as it did. -/
def scopesOwnUptoRow : OpenClaim := { program := "ytjcnilaogidhlaagreat", sum := "094dec1ba329ba709a8d17c03603c3fb8513b176b2e7641bb7743a20f15e97b8", func := "limelight/limelightlaw16.ScopesOwn", spec := "scopesOwn", unfollowed := true, recurses := true, apart := false, narrowed := true }
def ScopesOwnUptoSaid : Prop := scopesOwnUptoRow.holds Tryz.pinned (OpenSpec.upto scopesOwnSpec)

/-- 'limelightlaw16.ScopesPlaces', WHERE WHAT IT READS IS OF BULK AT MOST 1048576: true; the input reads as it did. -/
def scopesPlacesUptoRow : OpenClaim := { program := "ytjcnilaogidhlaagreat", sum := "094dec1ba329ba709a8d17c03603c3fb8513b176b2e7641bb7743a20f15e97b8", func := "limelight/limelightlaw16.ScopesPlaces", spec := "scopesPlaces", unfollowed := true, recurses := true, apart := false, narrowed := true }
def ScopesPlacesUptoSaid : Prop := scopesPlacesUptoRow.holds Tryz.pinned (OpenSpec.upto scopesPlacesSpec)

/-- 'limelightlaw16.ScopesFlat', WHERE WHAT IT READS IS OF BULK AT MOST 1048576: true; the input reads as it did. -/
def scopesFlatUptoRow : OpenClaim := { program := "ytjcnilaogidhlaagreat", sum := "094dec1ba329ba709a8d17c03603c3fb8513b176b2e7641bb7743a20f15e97b8", func := "limelight/limelightlaw16.ScopesFlat", spec := "scopesFlat", unfollowed := true, recurses := true, apart := false, narrowed := true }
def ScopesFlatUptoSaid : Prop := scopesFlatUptoRow.holds Tryz.pinned (OpenSpec.upto scopesFlatSpec)

/-- 'limelightlaw17.TabsTell', WHERE WHAT IT READS IS OF BULK AT MOST 1048576: true; the input reads as it did. -/
def tabsTellUptoRow : OpenClaim := { program := "ytjcnilaogidhlaagreat", sum := "094dec1ba329ba709a8d17c03603c3fb8513b176b2e7641bb7743a20f15e97b8", func := "limelight/limelightlaw17.TabsTell", spec := "tabsTell", unfollowed := true, recurses := true, apart := false, narrowed := true }
def TabsTellUptoSaid : Prop := tabsTellUptoRow.holds Tryz.pinned (OpenSpec.upto tabsTellSpec)

/-- 'limelightlaw17.TabsRound', WHERE WHAT IT READS IS OF BULK AT MOST 1048576: true; the input reads as it did. -/
def tabsRoundUptoRow : OpenClaim := { program := "ytjcnilaogidhlaagreat", sum := "094dec1ba329ba709a8d17c03603c3fb8513b176b2e7641bb7743a20f15e97b8", func := "limelight/limelightlaw17.TabsRound", spec := "tabsRound", unfollowed := true, recurses := true, apart := false, narrowed := true }
def TabsRoundUptoSaid : Prop := tabsRoundUptoRow.holds Tryz.pinned (OpenSpec.upto tabsRoundSpec)

/-- 'limelightlaw17.TabsBack', WHERE WHAT IT READS IS OF BULK AT MOST 1048576: true; the input reads as it did. -/
def tabsBackUptoRow : OpenClaim := { program := "ytjcnilaogidhlaagreat", sum := "094dec1ba329ba709a8d17c03603c3fb8513b176b2e7641bb7743a20f15e97b8", func := "limelight/limelightlaw17.TabsBack", spec := "tabsBack", unfollowed := true, recurses := true, apart := false, narrowed := true }
def TabsBackUptoSaid : Prop := tabsBackUptoRow.holds Tryz.pinned (OpenSpec.upto tabsBackSpec)

/-- 'limelightlaw17.TabsPlain', WHERE WHAT IT READS IS OF BULK AT MOST 1048576: true; the input reads as it did. -/
def tabsPlainUptoRow : OpenClaim := { program := "ytjcnilaogidhlaagreat", sum := "094dec1ba329ba709a8d17c03603c3fb8513b176b2e7641bb7743a20f15e97b8", func := "limelight/limelightlaw17.TabsPlain", spec := "tabsPlain", unfollowed := true, recurses := true, apart := false, narrowed := true }
def TabsPlainUptoSaid : Prop := tabsPlainUptoRow.holds Tryz.pinned (OpenSpec.upto tabsPlainSpec)

/-- 'limelightlaw17.TabsReach', WHERE WHAT IT READS IS OF BULK AT MOST 1048576: true; the input reads as it did. -/
def tabsReachUptoRow : OpenClaim := { program := "ytjcnilaogidhlaagreat", sum := "094dec1ba329ba709a8d17c03603c3fb8513b176b2e7641bb7743a20f15e97b8", func := "limelight/limelightlaw17.TabsReach", spec := "tabsReach", unfollowed := true, recurses := true, apart := false, narrowed := true }
def TabsReachUptoSaid : Prop := tabsReachUptoRow.holds Tryz.pinned (OpenSpec.upto tabsReachSpec)

end Rows
end Go.Proofs.YtjcnilaogidhlaaGreat
