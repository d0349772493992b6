/-
  No cell of these rows narrows 'for every input' (looked for: loops, veiled, ifaces, maps, wideKeys, modest, calm, conditions, laid).
  DERIVED. THE GIVEN ROWS OF THIS SEAT. 5 by the template 'for every input the law returns true; each argument reads behind the call as it read before'; 0 by the template 'total and deterministic' (their statements: YtcdnmiaelaombaaGreatTotals.lean).
  GIVEN WITH THE SEED: the statements are not yours to turn. If you find one false, say at which input.
  Laid BY PROGRAM, IN A SANDBOX (cutbox-rows.mjs): the forced cells as the released guide's own fill.sh prints them over the translation 1b051d011459d6a3… (all of the seat's roots in one cut). By AI agents, Wed Nov 11 2026. No macro, syntax, notation, axiom, sorry.
-/
import Derived.Test.YtcdnmiaelaombaaGreatChecked
import GoSem.Claim
import GoSem.ClaimJoined
import GoSem.ClaimMapViews
import Derived.JoinedTies
import Derived.KernelRfl
namespace Go.Proofs.YtcdnmiaelaombaaGreat
/- THE CELL 'sum', in the pinned program and in every row, IS THE sha256 OF THE DUMP (.gsa) THAT YtcdnmiaelaombaaGreatProg.lean LOADS. Nothing in Lean hashes anything: it is a label: what it is worth is what the hold of that sum in a sandbox is worth. -/
noncomputable def Tryz.pinned : Pinned := { name := "ytcdnmiaelaombaagreat", sum := "1b051d011459d6a3c35cee63f4eeab79adfbfc2c4911f1638dcb68511b43dd22", checked := Tryz.checked }
namespace Rows
def none {H : Type} : Left H := { results := [], args := [] }

/-- 'limelightlaw14.GiveTells': WHATEVER THE INPUT: true; the input reads as it did. -/
def giveTellsSpec : ChangeSpec := { name := "giveTells", fn := fun _ => fun
  | [d1, d2] => { results := [.lit (.bool true)], args := [d1, d2] }
  | _ => none }
def giveTellsRow : OpenClaim := { program := "ytcdnmiaelaombaagreat", sum := "1b051d011459d6a3c35cee63f4eeab79adfbfc2c4911f1638dcb68511b43dd22", func := "limelight/limelightlaw14.GiveTells", spec := "giveTells", unfollowed := true, recurses := true, apart := false }
def GiveTellsSaid : Prop := giveTellsRow.holds Tryz.pinned (OpenSpec.ofChange giveTellsSpec)

/-- ITS FALSE NEIGHBOUR: 'it returns false'. Refute it at one input. -/
def giveTellsWrong : ChangeSpec := { name := "giveTells", fn := fun _ => fun
  | [d1, d2] => { results := [.lit (.bool false)], args := [d1, d2] }
  | _ => none }
def GiveTellsWrongFalsely : Prop := giveTellsRow.holds Tryz.pinned (OpenSpec.ofChange giveTellsWrong)

/-- 'limelightlaw14.GiveCan': WHATEVER THE INPUT: true; the input reads as it did. -/
def giveCanSpec : ChangeSpec := { name := "giveCan", fn := fun _ => fun
  | [d] => { results := [.lit (.bool true)], args := [d] }
  | _ => none }
def giveCanRow : OpenClaim := { program := "ytcdnmiaelaombaagreat", sum := "1b051d011459d6a3c35cee63f4eeab79adfbfc2c4911f1638dcb68511b43dd22", func := "limelight/limelightlaw14.GiveCan", spec := "giveCan", unfollowed := true, recurses := true, apart := false }
def GiveCanSaid : Prop := giveCanRow.holds Tryz.pinned (OpenSpec.ofChange giveCanSpec)

/-- ITS FALSE NEIGHBOUR: 'it returns false'. Refute it at one input. -/
def giveCanWrong : ChangeSpec := { name := "giveCan", fn := fun _ => fun
  | [d] => { results := [.lit (.bool false)], args := [d] }
  | _ => none }
def GiveCanWrongFalsely : Prop := giveCanRow.holds Tryz.pinned (OpenSpec.ofChange giveCanWrong)

/-- 'limelightlaw14.GiveFirst': WHATEVER THE INPUT: true; the input reads as it did. -/
def giveFirstSpec : ChangeSpec := { name := "giveFirst", fn := fun _ => fun
  | [d1, d2] => { results := [.lit (.bool true)], args := [d1, d2] }
  | _ => none }
def giveFirstRow : OpenClaim := { program := "ytcdnmiaelaombaagreat", sum := "1b051d011459d6a3c35cee63f4eeab79adfbfc2c4911f1638dcb68511b43dd22", func := "limelight/limelightlaw14.GiveFirst", spec := "giveFirst", unfollowed := true, recurses := true, apart := false }
def GiveFirstSaid : Prop := giveFirstRow.holds Tryz.pinned (OpenSpec.ofChange giveFirstSpec)

/-- ITS FALSE NEIGHBOUR: 'it returns false'. Refute it at one input. -/
def giveFirstWrong : ChangeSpec := { name := "giveFirst", fn := fun _ => fun
  | [d1, d2] => { results := [.lit (.bool false)], args := [d1, d2] }
  | _ => none }
def GiveFirstWrongFalsely : Prop := giveFirstRow.holds Tryz.pinned (OpenSpec.ofChange giveFirstWrong)

/-- 'limelightlaw14.GivePlain': WHATEVER THE INPUT: true; the input reads as it did. -/
def givePlainSpec : ChangeSpec := { name := "givePlain", fn := fun _ => fun
  | [d1, d2] => { results := [.lit (.bool true)], args := [d1, d2] }
  | _ => none }
def givePlainRow : OpenClaim := { program := "ytcdnmiaelaombaagreat", sum := "1b051d011459d6a3c35cee63f4eeab79adfbfc2c4911f1638dcb68511b43dd22", func := "limelight/limelightlaw14.GivePlain", spec := "givePlain", unfollowed := true, recurses := true, apart := false }
def GivePlainSaid : Prop := givePlainRow.holds Tryz.pinned (OpenSpec.ofChange givePlainSpec)

/-- ITS FALSE NEIGHBOUR: 'it returns false'. Refute it at one input. -/
def givePlainWrong : ChangeSpec := { name := "givePlain", fn := fun _ => fun
  | [d1, d2] => { results := [.lit (.bool false)], args := [d1, d2] }
  | _ => none }
def GivePlainWrongFalsely : Prop := givePlainRow.holds Tryz.pinned (OpenSpec.ofChange givePlainWrong)

/-- 'limelightlaw14.GiveHosts': WHATEVER THE INPUT: true; the input reads as it did. -/
def giveHostsSpec : ChangeSpec := { name := "giveHosts", fn := fun _ => fun
  | [d1, d2] => { results := [.lit (.bool true)], args := [d1, d2] }
  | _ => none }
def giveHostsRow : OpenClaim := { program := "ytcdnmiaelaombaagreat", sum := "1b051d011459d6a3c35cee63f4eeab79adfbfc2c4911f1638dcb68511b43dd22", func := "limelight/limelightlaw14.GiveHosts", spec := "giveHosts", unfollowed := true, recurses := true, apart := false }
def GiveHostsSaid : Prop := giveHostsRow.holds Tryz.pinned (OpenSpec.ofChange giveHostsSpec)

/-- ITS FALSE NEIGHBOUR: 'it returns false'. Refute it at one input. -/
def giveHostsWrong : ChangeSpec := { name := "giveHosts", fn := fun _ => fun
  | [d1, d2] => { results := [.lit (.bool false)], args := [d1, d2] }
  | _ => none }
def GiveHostsWrongFalsely : Prop := giveHostsRow.holds Tryz.pinned (OpenSpec.ofChange giveHostsWrong)

/- THE SECOND FORM. 'bulk': how many values and letters a reading holds, each counted each time it is reached (what is shared counts as often as it is met; a slice's spare places count too). A statement '..UptoSaid' is the law's where the arguments, and the package variables that the reading takes, are together of bulk at most 1048576: NARROWER than '..Said'. Prove '..Said' where nothing that the law and all that it calls make is longer than what came in: it says more and counts as full. Else prove '..UptoSaid'. A law counts once. -/
mutual
def uptoBulk {H : Type} : DataW H → Nat
  | .lit (.string bytes) => bytes.length + 1
  | .lit _ => 1
  | .nil => 1
  | .ptr d => uptoBulk d + 1
  | .slice elems spare => uptoBulkAll elems + uptoBulkAll spare + 1
  | .agg parts => uptoBulkAll parts + 1
  | .iface _ d => uptoBulk d + 1
  | .map entries => uptoBulkEntries entries + 1
  | .held _ => 1
def uptoBulkAll {H : Type} : List (DataW H) → Nat
  | [] => 0
  | d :: r => uptoBulk d + uptoBulkAll r
def uptoBulkEntries {H : Type} : List (Lit × DataW H) → Nat
  | [] => 0
  | x :: r => uptoBulkEntry x + uptoBulkEntries r
def uptoBulkEntry {H : Type} : Lit × DataW H → Nat
  | (.string bytes, d) => bytes.length + uptoBulk d + 1
  | (_, d) => uptoBulk d + 1
 end
def uptoSmall : (H : Type) → List (DataW H) → Bool := fun _ ds => decide (uptoBulkAll ds ≤ 1048576)
def OpenSpec.upto (s : _root_.Go.ChangeSpec) : _root_.Go.OpenSpec := { _root_.Go.OpenSpec.ofChange s with cond := some uptoSmall }

/-- 'limelightlaw14.GiveTells', WHERE WHAT IT READS IS OF BULK AT MOST 1048576: true; the input reads as it did. -/
def giveTellsUptoRow : OpenClaim := { program := "ytcdnmiaelaombaagreat", sum := "1b051d011459d6a3c35cee63f4eeab79adfbfc2c4911f1638dcb68511b43dd22", func := "limelight/limelightlaw14.GiveTells", spec := "giveTells", unfollowed := true, recurses := true, apart := false, narrowed := true }
def GiveTellsUptoSaid : Prop := giveTellsUptoRow.holds Tryz.pinned (OpenSpec.upto giveTellsSpec)

/-- 'limelightlaw14.GiveCan', WHERE WHAT IT READS IS OF BULK AT MOST 1048576: true; the input reads as it did. -/
def giveCanUptoRow : OpenClaim := { program := "ytcdnmiaelaombaagreat", sum := "1b051d011459d6a3c35cee63f4eeab79adfbfc2c4911f1638dcb68511b43dd22", func := "limelight/limelightlaw14.GiveCan", spec := "giveCan", unfollowed := true, recurses := true, apart := false, narrowed := true }
def GiveCanUptoSaid : Prop := giveCanUptoRow.holds Tryz.pinned (OpenSpec.upto giveCanSpec)

/-- 'limelightlaw14.GiveFirst', WHERE WHAT IT READS IS OF BULK AT MOST 1048576: true; the input reads as it did. -/
def giveFirstUptoRow : OpenClaim := { program := "ytcdnmiaelaombaagreat", sum := "1b051d011459d6a3c35cee63f4eeab79adfbfc2c4911f1638dcb68511b43dd22", func := "limelight/limelightlaw14.GiveFirst", spec := "giveFirst", unfollowed := true, recurses := true, apart := false, narrowed := true }
def GiveFirstUptoSaid : Prop := giveFirstUptoRow.holds Tryz.pinned (OpenSpec.upto giveFirstSpec)

/-- 'limelightlaw14.GivePlain', WHERE WHAT IT READS IS OF BULK AT MOST 1048576: true; the input reads as it did. -/
def givePlainUptoRow : OpenClaim := { program := "ytcdnmiaelaombaagreat", sum := "1b051d011459d6a3c35cee63f4eeab79adfbfc2c4911f1638dcb68511b43dd22", func := "limelight/limelightlaw14.GivePlain", spec := "givePlain", unfollowed := true, recurses := true, apart := false, narrowed := true }
def GivePlainUptoSaid : Prop := givePlainUptoRow.holds Tryz.pinned (OpenSpec.upto givePlainSpec)

/-- 'limelightlaw14.GiveHosts', WHERE WHAT IT READS IS OF BULK AT MOST 1048576: true; the input reads as it did. -/
def giveHostsUptoRow : OpenClaim := { program := "ytcdnmiaelaombaagreat", sum := "1b051d011459d6a3c35cee63f4eeab79adfbfc2c4911f1638dcb68511b43dd22", func := "limelight/limelightlaw14.GiveHosts", spec := "giveHosts", unfollowed := true, recurses := true, apart := false, narrowed := true }
def GiveHostsUptoSaid : Prop := giveHostsUptoRow.holds Tryz.pinned (OpenSpec.upto giveHostsSpec)

end Rows
end Go.Proofs.YtcdnmiaelaombaaGreat
