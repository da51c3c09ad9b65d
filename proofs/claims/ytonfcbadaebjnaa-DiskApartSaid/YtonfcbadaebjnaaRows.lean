/-
  No cell of these rows narrows 'for every input' (looked for: loops, veiled, ifaces, maps, wideKeys, modest, calm, conditions, laid).
  DERIVED. THE GIVEN ROWS OF THIS SEAT. 8 by the template 'for every input the law returns true; each argument reads behind the call as it read before'; 0 by the template 'total and deterministic' (their statements: YtonfcbadaebjnaaTotals.lean).
  GIVEN WITH THE SEED: the statements are not yours to turn. If you find one false, say at which input.
  Laid BY PROGRAM, IN A SANDBOX (cutbox-rows.mjs): the forced cells as the released guide's own fill.sh prints them over the translation fb445446ab5eadc7… (all of the seat's roots in one cut). By AI agents, Wed Nov 11 2026. No macro, syntax, notation, axiom, sorry.
-/
import Derived.Test.YtonfcbadaebjnaaChecked
import GoSem.Claim
import GoSem.ClaimJoined
import GoSem.ClaimMapViews
import Derived.JoinedTies
import Derived.KernelRfl
namespace Go.Proofs.Ytonfcbadaebjnaa
/- THE CELL 'sum', in the pinned program and in every row, IS THE sha256 OF THE DUMP (.gsa) THAT YtonfcbadaebjnaaProg.lean LOADS. Nothing in Lean hashes anything: it is a label: what it is worth is what the hold of that sum in a sandbox is worth. -/
noncomputable def Try.pinned : Pinned := { name := "ytonfcbadaebjnaa", sum := "fb445446ab5eadc7a645b193631920af8222dc98be66a9a4b5916f9c3872f7e2", checked := Try.checked }
namespace Rows
def none {H : Type} : Left H := { results := [], args := [] }

/-- 'marlstonelaw07.DiskOrder': WHATEVER THE INPUT: true; the input reads as it did. -/
def diskOrderSpec : ChangeSpec := { name := "diskOrder", fn := fun _ => fun
  | [d1, d2, d3] => { results := [.lit (.bool true)], args := [d1, d2, d3] }
  | _ => none }
def diskOrderRow : OpenClaim := { program := "ytonfcbadaebjnaa", sum := "fb445446ab5eadc7a645b193631920af8222dc98be66a9a4b5916f9c3872f7e2", func := "marlstone/marlstonelaw07.DiskOrder", spec := "diskOrder", unfollowed := true, recurses := true, apart := false }
def DiskOrderSaid : Prop := diskOrderRow.holds Try.pinned (OpenSpec.ofChange diskOrderSpec)

/-- ITS FALSE NEIGHBOUR: 'it returns false'. Refute it at one input. -/
def diskOrderWrong : ChangeSpec := { name := "diskOrder", fn := fun _ => fun
  | [d1, d2, d3] => { results := [.lit (.bool false)], args := [d1, d2, d3] }
  | _ => none }
def DiskOrderWrongFalsely : Prop := diskOrderRow.holds Try.pinned (OpenSpec.ofChange diskOrderWrong)

/-- 'marlstonelaw07.DiskFull': WHATEVER THE INPUT: true; the input reads as it did. -/
def diskFullSpec : ChangeSpec := { name := "diskFull", fn := fun _ => fun
  | [d1, d2, d3] => { results := [.lit (.bool true)], args := [d1, d2, d3] }
  | _ => none }
def diskFullRow : OpenClaim := { program := "ytonfcbadaebjnaa", sum := "fb445446ab5eadc7a645b193631920af8222dc98be66a9a4b5916f9c3872f7e2", func := "marlstone/marlstonelaw07.DiskFull", spec := "diskFull", unfollowed := true, recurses := true, apart := false }
def DiskFullSaid : Prop := diskFullRow.holds Try.pinned (OpenSpec.ofChange diskFullSpec)

/-- ITS FALSE NEIGHBOUR: 'it returns false'. Refute it at one input. -/
def diskFullWrong : ChangeSpec := { name := "diskFull", fn := fun _ => fun
  | [d1, d2, d3] => { results := [.lit (.bool false)], args := [d1, d2, d3] }
  | _ => none }
def DiskFullWrongFalsely : Prop := diskFullRow.holds Try.pinned (OpenSpec.ofChange diskFullWrong)

/-- 'marlstonelaw07.DiskRenames': WHATEVER THE INPUT: true; the input reads as it did. -/
def diskRenamesSpec : ChangeSpec := { name := "diskRenames", fn := fun _ => fun
  | [d1, d2, d3, d4] => { results := [.lit (.bool true)], args := [d1, d2, d3, d4] }
  | _ => none }
def diskRenamesRow : OpenClaim := { program := "ytonfcbadaebjnaa", sum := "fb445446ab5eadc7a645b193631920af8222dc98be66a9a4b5916f9c3872f7e2", func := "marlstone/marlstonelaw07.DiskRenames", spec := "diskRenames", unfollowed := true, recurses := true, apart := false }
def DiskRenamesSaid : Prop := diskRenamesRow.holds Try.pinned (OpenSpec.ofChange diskRenamesSpec)

/-- ITS FALSE NEIGHBOUR: 'it returns false'. Refute it at one input. -/
def diskRenamesWrong : ChangeSpec := { name := "diskRenames", fn := fun _ => fun
  | [d1, d2, d3, d4] => { results := [.lit (.bool false)], args := [d1, d2, d3, d4] }
  | _ => none }
def DiskRenamesWrongFalsely : Prop := diskRenamesRow.holds Try.pinned (OpenSpec.ofChange diskRenamesWrong)

/-- 'marlstonelaw07.DiskLasts': WHATEVER THE INPUT: true; the input reads as it did. -/
def diskLastsSpec : ChangeSpec := { name := "diskLasts", fn := fun _ => fun
  | [d1, d2] => { results := [.lit (.bool true)], args := [d1, d2] }
  | _ => none }
def diskLastsRow : OpenClaim := { program := "ytonfcbadaebjnaa", sum := "fb445446ab5eadc7a645b193631920af8222dc98be66a9a4b5916f9c3872f7e2", func := "marlstone/marlstonelaw07.DiskLasts", spec := "diskLasts", unfollowed := true, recurses := true, apart := false }
def DiskLastsSaid : Prop := diskLastsRow.holds Try.pinned (OpenSpec.ofChange diskLastsSpec)

/-- ITS FALSE NEIGHBOUR: 'it returns false'. Refute it at one input. -/
def diskLastsWrong : ChangeSpec := { name := "diskLasts", fn := fun _ => fun
  | [d1, d2] => { results := [.lit (.bool false)], args := [d1, d2] }
  | _ => none }
def DiskLastsWrongFalsely : Prop := diskLastsRow.holds Try.pinned (OpenSpec.ofChange diskLastsWrong)

/-- 'marlstonelaw07.DiskNames': WHATEVER THE INPUT: true; the input reads as it did. -/
def diskNamesSpec : ChangeSpec := { name := "diskNames", fn := fun _ => fun
  | [d] => { results := [.lit (.bool true)], args := [d] }
  | _ => none }
def diskNamesRow : OpenClaim := { program := "ytonfcbadaebjnaa", sum := "fb445446ab5eadc7a645b193631920af8222dc98be66a9a4b5916f9c3872f7e2", func := "marlstone/marlstonelaw07.DiskNames", spec := "diskNames", unfollowed := true, recurses := true, apart := false }
def DiskNamesSaid : Prop := diskNamesRow.holds Try.pinned (OpenSpec.ofChange diskNamesSpec)

/-- ITS FALSE NEIGHBOUR: 'it returns false'. Refute it at one input. -/
def diskNamesWrong : ChangeSpec := { name := "diskNames", fn := fun _ => fun
  | [d] => { results := [.lit (.bool false)], args := [d] }
  | _ => none }
def DiskNamesWrongFalsely : Prop := diskNamesRow.holds Try.pinned (OpenSpec.ofChange diskNamesWrong)

/-- 'marlstonelaw07.DiskArmed': WHATEVER THE INPUT: true; the input reads as it did. -/
def diskArmedSpec : ChangeSpec := { name := "diskArmed", fn := fun _ => fun
  | [d1, d2, d3, d4] => { results := [.lit (.bool true)], args := [d1, d2, d3, d4] }
  | _ => none }
def diskArmedRow : OpenClaim := { program := "ytonfcbadaebjnaa", sum := "fb445446ab5eadc7a645b193631920af8222dc98be66a9a4b5916f9c3872f7e2", func := "marlstone/marlstonelaw07.DiskArmed", spec := "diskArmed", unfollowed := true, recurses := true, apart := false }
def DiskArmedSaid : Prop := diskArmedRow.holds Try.pinned (OpenSpec.ofChange diskArmedSpec)

/-- ITS FALSE NEIGHBOUR: 'it returns false'. Refute it at one input. -/
def diskArmedWrong : ChangeSpec := { name := "diskArmed", fn := fun _ => fun
  | [d1, d2, d3, d4] => { results := [.lit (.bool false)], args := [d1, d2, d3, d4] }
  | _ => none }
def DiskArmedWrongFalsely : Prop := diskArmedRow.holds Try.pinned (OpenSpec.ofChange diskArmedWrong)

/-- 'marlstonelaw07.DiskPlays': WHATEVER THE INPUT: true; the input reads as it did. -/
def diskPlaysSpec : ChangeSpec := { name := "diskPlays", fn := fun _ => fun
  | [d1, d2] => { results := [.lit (.bool true)], args := [d1, d2] }
  | _ => none }
def diskPlaysRow : OpenClaim := { program := "ytonfcbadaebjnaa", sum := "fb445446ab5eadc7a645b193631920af8222dc98be66a9a4b5916f9c3872f7e2", func := "marlstone/marlstonelaw07.DiskPlays", spec := "diskPlays", unfollowed := true, recurses := true, apart := false }
def DiskPlaysSaid : Prop := diskPlaysRow.holds Try.pinned (OpenSpec.ofChange diskPlaysSpec)

/-- ITS FALSE NEIGHBOUR: 'it returns false'. Refute it at one input. -/
def diskPlaysWrong : ChangeSpec := { name := "diskPlays", fn := fun _ => fun
  | [d1, d2] => { results := [.lit (.bool false)], args := [d1, d2] }
  | _ => none }
def DiskPlaysWrongFalsely : Prop := diskPlaysRow.holds Try.pinned (OpenSpec.ofChange diskPlaysWrong)

/-- 'marlstonelaw07.DiskApart': WHATEVER THE INPUT: true; the input reads as it did. -/
def diskApartSpec : ChangeSpec := { name := "diskApart", fn := fun _ => fun
  | [d1, d2, d3] => { results := [.lit (.bool true)], args := [d1, d2, d3] }
  | _ => none }
def diskApartRow : OpenClaim := { program := "ytonfcbadaebjnaa", sum := "fb445446ab5eadc7a645b193631920af8222dc98be66a9a4b5916f9c3872f7e2", func := "marlstone/marlstonelaw07.DiskApart", spec := "diskApart", unfollowed := true, recurses := true, apart := false }
def DiskApartSaid : Prop := diskApartRow.holds Try.pinned (OpenSpec.ofChange diskApartSpec)

/-- ITS FALSE NEIGHBOUR: 'it returns false'. Refute it at one input. -/
def diskApartWrong : ChangeSpec := { name := "diskApart", fn := fun _ => fun
  | [d1, d2, d3] => { results := [.lit (.bool false)], args := [d1, d2, d3] }
  | _ => none }
def DiskApartWrongFalsely : Prop := diskApartRow.holds Try.pinned (OpenSpec.ofChange diskApartWrong)

/- THE SECOND FORM. 'bulk': how many values and letters a reading holds, each counted each time it is reached (what is shared counts as often as it is met; a slice's spare places count too). A statement '..UptoSaid' is the law's where the arguments, and the package variables that the reading takes, are together of bulk at most 1048576: NARROWER than '..Said'. Prove '..Said' where nothing that the law and all that it calls make is longer than what came in: it says more and counts as full. Else prove '..UptoSaid'. A law counts once. -/
mutual
def uptoBulk {H : Type} : DataW H → Nat
  | .lit (.string bytes) => bytes.length + 1
  | .lit _ => 1
  | .nil => 1
  | .ptr d => uptoBulk d + 1
  | .slice elems spare => uptoBulkAll elems + uptoBulkAll spare + 1
  | .agg parts => uptoBulkAll parts + 1
  | .iface _ d => uptoBulk d + 1
  | .map entries => uptoBulkEntries entries + 1
  | .held _ => 1
def uptoBulkAll {H : Type} : List (DataW H) → Nat
  | [] => 0
  | d :: r => uptoBulk d + uptoBulkAll r
def uptoBulkEntries {H : Type} : List (Lit × DataW H) → Nat
  | [] => 0
  | x :: r => uptoBulkEntry x + uptoBulkEntries r
def uptoBulkEntry {H : Type} : Lit × DataW H → Nat
  | (.string bytes, d) => bytes.length + uptoBulk d + 1
  | (_, d) => uptoBulk d + 1
 end
def uptoSmall : (H : Type) → List (DataW H) → Bool := fun _ ds => decide (uptoBulkAll ds ≤ 1048576)
def OpenSpec.upto (s : _root_.Go.ChangeSpec) : _root_.Go.OpenSpec := { _root_.Go.OpenSpec.ofChange s with cond := some uptoSmall }

/-- 'marlstonelaw07.DiskOrder', WHERE WHAT IT READS IS OF BULK AT MOST 1048576: true; the input reads as it did. -/
def diskOrderUptoRow : OpenClaim := { program := "ytonfcbadaebjnaa", sum := "fb445446ab5eadc7a645b193631920af8222dc98be66a9a4b5916f9c3872f7e2", func := "marlstone/marlstonelaw07.DiskOrder", spec := "diskOrder", unfollowed := true, recurses := true, apart := false, narrowed := true }
def DiskOrderUptoSaid : Prop := diskOrderUptoRow.holds Try.pinned (OpenSpec.upto diskOrderSpec)

/-- 'marlstonelaw07.DiskFull', WHERE WHAT IT READS IS OF BULK AT MOST 1048576: true; the input reads as it did. -/
def diskFullUptoRow : OpenClaim := { program := "ytonfcbadaebjnaa", sum := "fb445446ab5eadc7a645b193631920af8222dc98be66a9a4b5916f9c3872f7e2", func := "marlstone/marlstonelaw07.DiskFull", spec := "diskFull", unfollowed := true, recurses := true, apart := false, narrowed := true }
def DiskFullUptoSaid : Prop := diskFullUptoRow.holds Try.pinned (OpenSpec.upto diskFullSpec)

/-- 'marlstonelaw07.DiskRenames', WHERE WHAT IT READS IS OF BULK AT MOST 1048576: true; the input reads as it did. -/
def diskRenamesUptoRow : OpenClaim := { program := "ytonfcbadaebjnaa", sum := "fb445446ab5eadc7a645b193631920af8222dc98be66a9a4b5916f9c3872f7e2", func := "marlstone/marlstonelaw07.DiskRenames", spec := "diskRenames", unfollowed := true, recurses := true, apart := false, narrowed := true }
def DiskRenamesUptoSaid : Prop := diskRenamesUptoRow.holds Try.pinned (OpenSpec.upto diskRenamesSpec)

/-- 'marlstonelaw07.DiskLasts', WHERE WHAT IT READS IS OF BULK AT MOST 1048576: true; the input reads as it did. -/
def diskLastsUptoRow : OpenClaim := { program := "ytonfcbadaebjnaa", sum := "fb445446ab5eadc7a645b193631920af8222dc98be66a9a4b5916f9c3872f7e2", func := "marlstone/marlstonelaw07.DiskLasts", spec := "diskLasts", unfollowed := true, recurses := true, apart := false, narrowed := true }
def DiskLastsUptoSaid : Prop := diskLastsUptoRow.holds Try.pinned (OpenSpec.upto diskLastsSpec)

/-- 'marlstonelaw07.DiskNames', WHERE WHAT IT READS IS OF BULK AT MOST 1048576: true; the input reads as it did. -/
def diskNamesUptoRow : OpenClaim := { program := "ytonfcbadaebjnaa", sum := "fb445446ab5eadc7a645b193631920af8222dc98be66a9a4b5916f9c3872f7e2", func := "marlstone/marlstonelaw07.DiskNames", spec := "diskNames", unfollowed := true, recurses := true, apart := false, narrowed := true }
def DiskNamesUptoSaid : Prop := diskNamesUptoRow.holds Try.pinned (OpenSpec.upto diskNamesSpec)

/-- 'marlstonelaw07.DiskArmed', WHERE WHAT IT READS IS OF BULK AT MOST 1048576: true; the input reads as it did. -/
def diskArmedUptoRow : OpenClaim := { program := "ytonfcbadaebjnaa", sum := "fb445446ab5eadc7a645b193631920af8222dc98be66a9a4b5916f9c3872f7e2", func := "marlstone/marlstonelaw07.DiskArmed", spec := "diskArmed", unfollowed := true, recurses := true, apart := false, narrowed := true }
def DiskArmedUptoSaid : Prop := diskArmedUptoRow.holds Try.pinned (OpenSpec.upto diskArmedSpec)

/-- 'marlstonelaw07.DiskPlays', WHERE WHAT IT READS IS OF BULK AT MOST 1048576: true; the input reads as it did. -/
def diskPlaysUptoRow : OpenClaim := { program := "ytonfcbadaebjnaa", sum := "fb445446ab5eadc7a645b193631920af8222dc98be66a9a4b5916f9c3872f7e2", func := "marlstone/marlstonelaw07.DiskPlays", spec := "diskPlays", unfollowed := true, recurses := true, apart := false, narrowed := true }
def DiskPlaysUptoSaid : Prop := diskPlaysUptoRow.holds Try.pinned (OpenSpec.upto diskPlaysSpec)

/-- 'marlstonelaw07.DiskApart', WHERE WHAT IT READS IS OF BULK AT MOST 1048576: true; the input reads as it did. -/
def diskApartUptoRow : OpenClaim := { program := "ytonfcbadaebjnaa", sum := "fb445446ab5eadc7a645b193631920af8222dc98be66a9a4b5916f9c3872f7e2", func := "marlstone/marlstonelaw07.DiskApart", spec := "diskApart", unfollowed := true, recurses := true, apart := false, narrowed := true }
def DiskApartUptoSaid : Prop := diskApartUptoRow.holds Try.pinned (OpenSpec.upto diskApartSpec)

end Rows
end Go.Proofs.Ytonfcbadaebjnaa
