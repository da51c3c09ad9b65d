/-
  No cell of these rows narrows 'for every input' (looked for: loops, veiled, ifaces, maps, wideKeys, modest, calm, conditions, laid).
  DERIVED. THE GIVEN ROWS OF THIS SEAT. 6 by the template 'for every input the law returns true; each argument reads behind the call as it read before'; 0 by the template 'total and deterministic' (their statements: YtcnmdodgjbfmdaaTotals.lean).
  GIVEN WITH THE SEED: the statements are not yours to turn. If you find one false, say at which input.
  Laid BY PROGRAM, IN A SANDBOX (cutbox-rows.mjs): the forced cells as the released guide's own fill.sh prints them over the translation 28a5be0cb480f14e… (all of the seat's roots in one cut). By AI agents, Wed Nov 11 2026. No macro, syntax, notation, axiom, sorry.
-/
import Derived.Test.YtcnmdodgjbfmdaaChecked
import GoSem.Claim
import GoSem.ClaimJoined
import GoSem.ClaimMapViews
import Derived.JoinedTies
import Derived.KernelRfl
namespace Go.Proofs.Ytcnmdodgjbfmdaa
/- THE CELL 'sum', in the pinned program and in every row, IS THE sha256 OF THE DUMP (.gsa) THAT YtcnmdodgjbfmdaaProg.lean LOADS. Nothing in Lean hashes anything: it is a label: what it is worth is what the hold of that sum in a sandbox is worth. -/
noncomputable def Try.pinned : Pinned := { name := "ytcnmdodgjbfmdaa", sum := "28a5be0cb480f14e38318b24be7dc178afdf6b956485ebe2cc359310f9da8f61", checked := Try.checked }
namespace Rows
def none {H : Type} : Left H := { results := [], args := [] }

/-- 'marlstonelaw13.MergeTakes': WHATEVER THE INPUT: true; the input reads as it did. -/
def mergeTakesSpec : ChangeSpec := { name := "mergeTakes", fn := fun _ => fun
  | [d1, d2] => { results := [.lit (.bool true)], args := [d1, d2] }
  | _ => none }
def mergeTakesRow : OpenClaim := { program := "ytcnmdodgjbfmdaa", sum := "28a5be0cb480f14e38318b24be7dc178afdf6b956485ebe2cc359310f9da8f61", func := "marlstone/marlstonelaw13.MergeTakes", spec := "mergeTakes", unfollowed := true, recurses := true, apart := false }
def MergeTakesSaid : Prop := mergeTakesRow.holds Try.pinned (OpenSpec.ofChange mergeTakesSpec)

/-- ITS FALSE NEIGHBOUR: 'it returns false'. Refute it at one input. -/
def mergeTakesWrong : ChangeSpec := { name := "mergeTakes", fn := fun _ => fun
  | [d1, d2] => { results := [.lit (.bool false)], args := [d1, d2] }
  | _ => none }
def MergeTakesWrongFalsely : Prop := mergeTakesRow.holds Try.pinned (OpenSpec.ofChange mergeTakesWrong)

/-- 'marlstonelaw13.MergeNewest': WHATEVER THE INPUT: true; the input reads as it did. -/
def mergeNewestSpec : ChangeSpec := { name := "mergeNewest", fn := fun _ => fun
  | [d1, d2] => { results := [.lit (.bool true)], args := [d1, d2] }
  | _ => none }
def mergeNewestRow : OpenClaim := { program := "ytcnmdodgjbfmdaa", sum := "28a5be0cb480f14e38318b24be7dc178afdf6b956485ebe2cc359310f9da8f61", func := "marlstone/marlstonelaw13.MergeNewest", spec := "mergeNewest", unfollowed := true, recurses := true, apart := false }
def MergeNewestSaid : Prop := mergeNewestRow.holds Try.pinned (OpenSpec.ofChange mergeNewestSpec)

/-- ITS FALSE NEIGHBOUR: 'it returns false'. Refute it at one input. -/
def mergeNewestWrong : ChangeSpec := { name := "mergeNewest", fn := fun _ => fun
  | [d1, d2] => { results := [.lit (.bool false)], args := [d1, d2] }
  | _ => none }
def MergeNewestWrongFalsely : Prop := mergeNewestRow.holds Try.pinned (OpenSpec.ofChange mergeNewestWrong)

/-- 'marlstonelaw13.MergeParts': WHATEVER THE INPUT: true; the input reads as it did. -/
def mergePartsSpec : ChangeSpec := { name := "mergeParts", fn := fun _ => fun
  | [d1, d2, d3] => { results := [.lit (.bool true)], args := [d1, d2, d3] }
  | _ => none }
def mergePartsRow : OpenClaim := { program := "ytcnmdodgjbfmdaa", sum := "28a5be0cb480f14e38318b24be7dc178afdf6b956485ebe2cc359310f9da8f61", func := "marlstone/marlstonelaw13.MergeParts", spec := "mergeParts", unfollowed := true, recurses := true, apart := false }
def MergePartsSaid : Prop := mergePartsRow.holds Try.pinned (OpenSpec.ofChange mergePartsSpec)

/-- ITS FALSE NEIGHBOUR: 'it returns false'. Refute it at one input. -/
def mergePartsWrong : ChangeSpec := { name := "mergeParts", fn := fun _ => fun
  | [d1, d2, d3] => { results := [.lit (.bool false)], args := [d1, d2, d3] }
  | _ => none }
def MergePartsWrongFalsely : Prop := mergePartsRow.holds Try.pinned (OpenSpec.ofChange mergePartsWrong)

/-- 'marlstonelaw13.MergeSplits': WHATEVER THE INPUT: true; the input reads as it did. -/
def mergeSplitsSpec : ChangeSpec := { name := "mergeSplits", fn := fun _ => fun
  | [d] => { results := [.lit (.bool true)], args := [d] }
  | _ => none }
def mergeSplitsRow : OpenClaim := { program := "ytcnmdodgjbfmdaa", sum := "28a5be0cb480f14e38318b24be7dc178afdf6b956485ebe2cc359310f9da8f61", func := "marlstone/marlstonelaw13.MergeSplits", spec := "mergeSplits", unfollowed := true, recurses := true, apart := false }
def MergeSplitsSaid : Prop := mergeSplitsRow.holds Try.pinned (OpenSpec.ofChange mergeSplitsSpec)

/-- ITS FALSE NEIGHBOUR: 'it returns false'. Refute it at one input. -/
def mergeSplitsWrong : ChangeSpec := { name := "mergeSplits", fn := fun _ => fun
  | [d] => { results := [.lit (.bool false)], args := [d] }
  | _ => none }
def MergeSplitsWrongFalsely : Prop := mergeSplitsRow.holds Try.pinned (OpenSpec.ofChange mergeSplitsWrong)

/-- 'marlstonelaw13.MergeOne': WHATEVER THE INPUT: true; the input reads as it did. -/
def mergeOneSpec : ChangeSpec := { name := "mergeOne", fn := fun _ => fun
  | [d1, d2, d3] => { results := [.lit (.bool true)], args := [d1, d2, d3] }
  | _ => none }
def mergeOneRow : OpenClaim := { program := "ytcnmdodgjbfmdaa", sum := "28a5be0cb480f14e38318b24be7dc178afdf6b956485ebe2cc359310f9da8f61", func := "marlstone/marlstonelaw13.MergeOne", spec := "mergeOne", unfollowed := true, recurses := true, apart := false }
def MergeOneSaid : Prop := mergeOneRow.holds Try.pinned (OpenSpec.ofChange mergeOneSpec)

/-- ITS FALSE NEIGHBOUR: 'it returns false'. Refute it at one input. -/
def mergeOneWrong : ChangeSpec := { name := "mergeOne", fn := fun _ => fun
  | [d1, d2, d3] => { results := [.lit (.bool false)], args := [d1, d2, d3] }
  | _ => none }
def MergeOneWrongFalsely : Prop := mergeOneRow.holds Try.pinned (OpenSpec.ofChange mergeOneWrong)

/-- 'marlstonelaw13.MergeApart': WHATEVER THE INPUT: true; the input reads as it did. -/
def mergeApartSpec : ChangeSpec := { name := "mergeApart", fn := fun _ => fun
  | [d1, d2] => { results := [.lit (.bool true)], args := [d1, d2] }
  | _ => none }
def mergeApartRow : OpenClaim := { program := "ytcnmdodgjbfmdaa", sum := "28a5be0cb480f14e38318b24be7dc178afdf6b956485ebe2cc359310f9da8f61", func := "marlstone/marlstonelaw13.MergeApart", spec := "mergeApart", unfollowed := true, recurses := true, apart := false }
def MergeApartSaid : Prop := mergeApartRow.holds Try.pinned (OpenSpec.ofChange mergeApartSpec)

/-- ITS FALSE NEIGHBOUR: 'it returns false'. Refute it at one input. -/
def mergeApartWrong : ChangeSpec := { name := "mergeApart", fn := fun _ => fun
  | [d1, d2] => { results := [.lit (.bool false)], args := [d1, d2] }
  | _ => none }
def MergeApartWrongFalsely : Prop := mergeApartRow.holds Try.pinned (OpenSpec.ofChange mergeApartWrong)

/- THE SECOND FORM. 'bulk': how many values and letters a reading holds, each counted each time it is reached (what is shared counts as often as it is met; a slice's spare places count too). A statement '..UptoSaid' is the law's where the arguments, and the package variables that the reading takes, are together of bulk at most 1048576: NARROWER than '..Said'. Prove '..Said' where nothing that the law and all that it calls make is longer than what came in: it says more and counts as full. Else prove '..UptoSaid'. A law counts once. -/
mutual
def uptoBulk {H : Type} : DataW H → Nat
  | .lit (.string bytes) => bytes.length + 1
  | .lit _ => 1
  | .nil => 1
  | .ptr d => uptoBulk d + 1
  | .slice elems spare => uptoBulkAll elems + uptoBulkAll spare + 1
  | .agg parts => uptoBulkAll parts + 1
  | .iface _ d => uptoBulk d + 1
  | .map entries => uptoBulkEntries entries + 1
  | .held _ => 1
def uptoBulkAll {H : Type} : List (DataW H) → Nat
  | [] => 0
  | d :: r => uptoBulk d + uptoBulkAll r
def uptoBulkEntries {H : Type} : List (Lit × DataW H) → Nat
  | [] => 0
  | x :: r => uptoBulkEntry x + uptoBulkEntries r
def uptoBulkEntry {H : Type} : Lit × DataW H → Nat
  | (.string bytes, d) => bytes.length + uptoBulk d + 1
  | (_, d) => uptoBulk d + 1
 end
def uptoSmall : (H : Type) → List (DataW H) → Bool := fun _ ds => decide (uptoBulkAll ds ≤ 1048576)
def OpenSpec.upto (s : _root_.Go.ChangeSpec) : _root_.Go.OpenSpec := { _root_.Go.OpenSpec.ofChange s with cond := some uptoSmall }

/-- 'marlstonelaw13.MergeTakes', WHERE WHAT IT READS IS OF BULK AT MOST 1048576: true; the input reads as it did. -/
def mergeTakesUptoRow : OpenClaim := { program := "ytcnmdodgjbfmdaa", sum := "28a5be0cb480f14e38318b24be7dc178afdf6b956485ebe2cc359310f9da8f61", func := "marlstone/marlstonelaw13.MergeTakes", spec := "mergeTakes", unfollowed := true, recurses := true, apart := false, narrowed := true }
def MergeTakesUptoSaid : Prop := mergeTakesUptoRow.holds Try.pinned (OpenSpec.upto mergeTakesSpec)

/-- 'marlstonelaw13.MergeNewest', WHERE WHAT IT READS IS OF BULK AT MOST 1048576: true; the input reads as it did. -/
def mergeNewestUptoRow : OpenClaim := { program := "ytcnmdodgjbfmdaa", sum := "28a5be0cb480f14e38318b24be7dc178afdf6b956485ebe2cc359310f9da8f61", func := "marlstone/marlstonelaw13.MergeNewest", spec := "mergeNewest", unfollowed := true, recurses := true, apart := false, narrowed := true }
def MergeNewestUptoSaid : Prop := mergeNewestUptoRow.holds Try.pinned (OpenSpec.upto mergeNewestSpec)

/-- 'marlstonelaw13.MergeParts', WHERE WHAT IT READS IS OF BULK AT MOST 1048576: true; the input reads as it did. -/
def mergePartsUptoRow : OpenClaim := { program := "ytcnmdodgjbfmdaa", sum := "28a5be0cb480f14e38318b24be7dc178afdf6b956485ebe2cc359310f9da8f61", func := "marlstone/marlstonelaw13.MergeParts", spec := "mergeParts", unfollowed := true, recurses := true, apart := false, narrowed := true }
def MergePartsUptoSaid : Prop := mergePartsUptoRow.holds Try.pinned (OpenSpec.upto mergePartsSpec)

/-- 'marlstonelaw13.MergeSplits', WHERE WHAT IT READS IS OF BULK AT MOST 1048576: true; the input reads as it did. -/
def mergeSplitsUptoRow : OpenClaim := { program := "ytcnmdodgjbfmdaa", sum := "28a5be0cb480f14e38318b24be7dc178afdf6b956485ebe2cc359310f9da8f61", func := "marlstone/marlstonelaw13.MergeSplits", spec := "mergeSplits", unfollowed := true, recurses := true, apart := false, narrowed := true }
def MergeSplitsUptoSaid : Prop := mergeSplitsUptoRow.holds Try.pinned (OpenSpec.upto mergeSplitsSpec)

/-- 'marlstonelaw13.MergeOne', WHERE WHAT IT READS IS OF BULK AT MOST 1048576: true; the input reads as it did. -/
def mergeOneUptoRow : OpenClaim := { program := "ytcnmdodgjbfmdaa", sum := "28a5be0cb480f14e38318b24be7dc178afdf6b956485ebe2cc359310f9da8f61", func := "marlstone/marlstonelaw13.MergeOne", spec := "mergeOne", unfollowed := true, recurses := true, apart := false, narrowed := true }
def MergeOneUptoSaid : Prop := mergeOneUptoRow.holds Try.pinned (OpenSpec.upto mergeOneSpec)

/-- 'marlstonelaw13.MergeApart', WHERE WHAT IT READS IS OF BULK AT MOST 1048576: true; the input reads as it did. -/
def mergeApartUptoRow : OpenClaim := { program := "ytcnmdodgjbfmdaa", sum := "28a5be0cb480f14e38318b24be7dc178afdf6b956485ebe2cc359310f9da8f61", func := "marlstone/marlstonelaw13.MergeApart", spec := "mergeApart", unfollowed := true, recurses := true, apart := false, narrowed := true }
def MergeApartUptoSaid : Prop := mergeApartUptoRow.holds Try.pinned (OpenSpec.upto mergeApartSpec)

end Rows
end Go.Proofs.Ytcnmdodgjbfmdaa
