/-
  No cell of these rows narrows 'for every input' (looked for: loops, veiled, ifaces, maps, wideKeys, modest, calm, conditions, laid).
  DERIVED. THE GIVEN ROWS OF THIS SEAT. 8 by the template 'for every input the law returns true; each argument reads behind the call as it read before'; 0 by the template 'total and deterministic' (their statements: YtdkgdkifeedcnaaTotals.lean).
  GIVEN WITH THE SEED: the statements are not yours to turn. If you find one false, say at which input.
  Laid BY PROGRAM, IN A SANDBOX (cutbox-rows.mjs): the forced cells as the released guide's own fill.sh prints them over the translation 0ba6de5f83b6b830… (all of the seat's roots in one cut). By AI agents, Wed Nov 11 2026. No macro, syntax, notation, axiom, sorry.
-/
import Derived.Test.YtdkgdkifeedcnaaChecked
import GoSem.Claim
import GoSem.ClaimJoined
import GoSem.ClaimMapViews
import Derived.JoinedTies
import Derived.KernelRfl
namespace Go.Proofs.Ytdkgdkifeedcnaa
/- THE CELL 'sum', in the pinned program and in every row, IS THE sha256 OF THE DUMP (.gsa) THAT YtdkgdkifeedcnaaProg.lean LOADS. Nothing in Lean hashes anything: it is a label: what it is worth is what the hold of that sum in a sandbox is worth. -/
noncomputable def Try.pinned : Pinned := { name := "ytdkgdkifeedcnaa", sum := "0ba6de5f83b6b830c5fdd1a0d4d5fb6c4319c517c0b0126f821c99632c7e1950", checked := Try.checked }
namespace Rows
def none {H : Type} : Left H := { results := [], args := [] }

/-- 'marlstonelaw19.WireAsks': WHATEVER THE INPUT: true; the input reads as it did. -/
def wireAsksSpec : ChangeSpec := { name := "wireAsks", fn := fun _ => fun
  | [d] => { results := [.lit (.bool true)], args := [d] }
  | _ => none }
def wireAsksRow : OpenClaim := { program := "ytdkgdkifeedcnaa", sum := "0ba6de5f83b6b830c5fdd1a0d4d5fb6c4319c517c0b0126f821c99632c7e1950", func := "marlstone/marlstonelaw19.WireAsks", spec := "wireAsks", unfollowed := true, recurses := true, apart := false }
def WireAsksSaid : Prop := wireAsksRow.holds Try.pinned (OpenSpec.ofChange wireAsksSpec)

/-- ITS FALSE NEIGHBOUR: 'it returns false'. Refute it at one input. -/
def wireAsksWrong : ChangeSpec := { name := "wireAsks", fn := fun _ => fun
  | [d] => { results := [.lit (.bool false)], args := [d] }
  | _ => none }
def WireAsksWrongFalsely : Prop := wireAsksRow.holds Try.pinned (OpenSpec.ofChange wireAsksWrong)

/-- 'marlstonelaw19.WireSays': WHATEVER THE INPUT: true; the input reads as it did. -/
def wireSaysSpec : ChangeSpec := { name := "wireSays", fn := fun _ => fun
  | [d1, d2] => { results := [.lit (.bool true)], args := [d1, d2] }
  | _ => none }
def wireSaysRow : OpenClaim := { program := "ytdkgdkifeedcnaa", sum := "0ba6de5f83b6b830c5fdd1a0d4d5fb6c4319c517c0b0126f821c99632c7e1950", func := "marlstone/marlstonelaw19.WireSays", spec := "wireSays", unfollowed := true, recurses := true, apart := false }
def WireSaysSaid : Prop := wireSaysRow.holds Try.pinned (OpenSpec.ofChange wireSaysSpec)

/-- ITS FALSE NEIGHBOUR: 'it returns false'. Refute it at one input. -/
def wireSaysWrong : ChangeSpec := { name := "wireSays", fn := fun _ => fun
  | [d1, d2] => { results := [.lit (.bool false)], args := [d1, d2] }
  | _ => none }
def WireSaysWrongFalsely : Prop := wireSaysRow.holds Try.pinned (OpenSpec.ofChange wireSaysWrong)

/-- 'marlstonelaw19.WireKinds': WHATEVER THE INPUT: true; the input reads as it did. -/
def wireKindsSpec : ChangeSpec := { name := "wireKinds", fn := fun _ => fun
  | [d1, d2] => { results := [.lit (.bool true)], args := [d1, d2] }
  | _ => none }
def wireKindsRow : OpenClaim := { program := "ytdkgdkifeedcnaa", sum := "0ba6de5f83b6b830c5fdd1a0d4d5fb6c4319c517c0b0126f821c99632c7e1950", func := "marlstone/marlstonelaw19.WireKinds", spec := "wireKinds", unfollowed := true, recurses := true, apart := false }
def WireKindsSaid : Prop := wireKindsRow.holds Try.pinned (OpenSpec.ofChange wireKindsSpec)

/-- ITS FALSE NEIGHBOUR: 'it returns false'. Refute it at one input. -/
def wireKindsWrong : ChangeSpec := { name := "wireKinds", fn := fun _ => fun
  | [d1, d2] => { results := [.lit (.bool false)], args := [d1, d2] }
  | _ => none }
def WireKindsWrongFalsely : Prop := wireKindsRow.holds Try.pinned (OpenSpec.ofChange wireKindsWrong)

/-- 'marlstonelaw19.WireNumbers': WHATEVER THE INPUT: true; the input reads as it did. -/
def wireNumbersSpec : ChangeSpec := { name := "wireNumbers", fn := fun _ => fun
  | [d] => { results := [.lit (.bool true)], args := [d] }
  | _ => none }
def wireNumbersRow : OpenClaim := { program := "ytdkgdkifeedcnaa", sum := "0ba6de5f83b6b830c5fdd1a0d4d5fb6c4319c517c0b0126f821c99632c7e1950", func := "marlstone/marlstonelaw19.WireNumbers", spec := "wireNumbers", unfollowed := true, recurses := true, apart := false }
def WireNumbersSaid : Prop := wireNumbersRow.holds Try.pinned (OpenSpec.ofChange wireNumbersSpec)

/-- ITS FALSE NEIGHBOUR: 'it returns false'. Refute it at one input. -/
def wireNumbersWrong : ChangeSpec := { name := "wireNumbers", fn := fun _ => fun
  | [d] => { results := [.lit (.bool false)], args := [d] }
  | _ => none }
def WireNumbersWrongFalsely : Prop := wireNumbersRow.holds Try.pinned (OpenSpec.ofChange wireNumbersWrong)

/-- 'marlstonelaw19.WireReads': WHATEVER THE INPUT: true; the input reads as it did. -/
def wireReadsSpec : ChangeSpec := { name := "wireReads", fn := fun _ => fun
  | [d1, d2] => { results := [.lit (.bool true)], args := [d1, d2] }
  | _ => none }
def wireReadsRow : OpenClaim := { program := "ytdkgdkifeedcnaa", sum := "0ba6de5f83b6b830c5fdd1a0d4d5fb6c4319c517c0b0126f821c99632c7e1950", func := "marlstone/marlstonelaw19.WireReads", spec := "wireReads", unfollowed := true, recurses := true, apart := false }
def WireReadsSaid : Prop := wireReadsRow.holds Try.pinned (OpenSpec.ofChange wireReadsSpec)

/-- ITS FALSE NEIGHBOUR: 'it returns false'. Refute it at one input. -/
def wireReadsWrong : ChangeSpec := { name := "wireReads", fn := fun _ => fun
  | [d1, d2] => { results := [.lit (.bool false)], args := [d1, d2] }
  | _ => none }
def WireReadsWrongFalsely : Prop := wireReadsRow.holds Try.pinned (OpenSpec.ofChange wireReadsWrong)

/-- 'marlstonelaw19.WireBack': WHATEVER THE INPUT: true; the input reads as it did. -/
def wireBackSpec : ChangeSpec := { name := "wireBack", fn := fun _ => fun
  | [d1, d2, d3] => { results := [.lit (.bool true)], args := [d1, d2, d3] }
  | _ => none }
def wireBackRow : OpenClaim := { program := "ytdkgdkifeedcnaa", sum := "0ba6de5f83b6b830c5fdd1a0d4d5fb6c4319c517c0b0126f821c99632c7e1950", func := "marlstone/marlstonelaw19.WireBack", spec := "wireBack", unfollowed := true, recurses := true, apart := false }
def WireBackSaid : Prop := wireBackRow.holds Try.pinned (OpenSpec.ofChange wireBackSpec)

/-- ITS FALSE NEIGHBOUR: 'it returns false'. Refute it at one input. -/
def wireBackWrong : ChangeSpec := { name := "wireBack", fn := fun _ => fun
  | [d1, d2, d3] => { results := [.lit (.bool false)], args := [d1, d2, d3] }
  | _ => none }
def WireBackWrongFalsely : Prop := wireBackRow.holds Try.pinned (OpenSpec.ofChange wireBackWrong)

/-- 'marlstonelaw19.WireOnce': WHATEVER THE INPUT: true; the input reads as it did. -/
def wireOnceSpec : ChangeSpec := { name := "wireOnce", fn := fun _ => fun
  | [d1, d2, d3] => { results := [.lit (.bool true)], args := [d1, d2, d3] }
  | _ => none }
def wireOnceRow : OpenClaim := { program := "ytdkgdkifeedcnaa", sum := "0ba6de5f83b6b830c5fdd1a0d4d5fb6c4319c517c0b0126f821c99632c7e1950", func := "marlstone/marlstonelaw19.WireOnce", spec := "wireOnce", unfollowed := true, recurses := true, apart := false }
def WireOnceSaid : Prop := wireOnceRow.holds Try.pinned (OpenSpec.ofChange wireOnceSpec)

/-- ITS FALSE NEIGHBOUR: 'it returns false'. Refute it at one input. -/
def wireOnceWrong : ChangeSpec := { name := "wireOnce", fn := fun _ => fun
  | [d1, d2, d3] => { results := [.lit (.bool false)], args := [d1, d2, d3] }
  | _ => none }
def WireOnceWrongFalsely : Prop := wireOnceRow.holds Try.pinned (OpenSpec.ofChange wireOnceWrong)

/-- 'marlstonelaw19.WireErrors': WHATEVER THE INPUT: true; the input reads as it did. -/
def wireErrorsSpec : ChangeSpec := { name := "wireErrors", fn := fun _ => fun
  | [d1, d2, d3] => { results := [.lit (.bool true)], args := [d1, d2, d3] }
  | _ => none }
def wireErrorsRow : OpenClaim := { program := "ytdkgdkifeedcnaa", sum := "0ba6de5f83b6b830c5fdd1a0d4d5fb6c4319c517c0b0126f821c99632c7e1950", func := "marlstone/marlstonelaw19.WireErrors", spec := "wireErrors", unfollowed := true, recurses := true, apart := false }
def WireErrorsSaid : Prop := wireErrorsRow.holds Try.pinned (OpenSpec.ofChange wireErrorsSpec)

/-- ITS FALSE NEIGHBOUR: 'it returns false'. Refute it at one input. -/
def wireErrorsWrong : ChangeSpec := { name := "wireErrors", fn := fun _ => fun
  | [d1, d2, d3] => { results := [.lit (.bool false)], args := [d1, d2, d3] }
  | _ => none }
def WireErrorsWrongFalsely : Prop := wireErrorsRow.holds Try.pinned (OpenSpec.ofChange wireErrorsWrong)

/- THE SECOND FORM. 'bulk': how many values and letters a reading holds, each counted each time it is reached (what is shared counts as often as it is met; a slice's spare places count too). A statement '..UptoSaid' is the law's where the arguments, and the package variables that the reading takes, are together of bulk at most 1048576: NARROWER than '..Said'. Prove '..Said' where nothing that the law and all that it calls make is longer than what came in: it says more and counts as full. Else prove '..UptoSaid'. A law counts once. -/
mutual
def uptoBulk {H : Type} : DataW H → Nat
  | .lit (.string bytes) => bytes.length + 1
  | .lit _ => 1
  | .nil => 1
  | .ptr d => uptoBulk d + 1
  | .slice elems spare => uptoBulkAll elems + uptoBulkAll spare + 1
  | .agg parts => uptoBulkAll parts + 1
  | .iface _ d => uptoBulk d + 1
  | .map entries => uptoBulkEntries entries + 1
  | .held _ => 1
def uptoBulkAll {H : Type} : List (DataW H) → Nat
  | [] => 0
  | d :: r => uptoBulk d + uptoBulkAll r
def uptoBulkEntries {H : Type} : List (Lit × DataW H) → Nat
  | [] => 0
  | x :: r => uptoBulkEntry x + uptoBulkEntries r
def uptoBulkEntry {H : Type} : Lit × DataW H → Nat
  | (.string bytes, d) => bytes.length + uptoBulk d + 1
  | (_, d) => uptoBulk d + 1
 end
def uptoSmall : (H : Type) → List (DataW H) → Bool := fun _ ds => decide (uptoBulkAll ds ≤ 1048576)
def OpenSpec.upto (s : _root_.Go.ChangeSpec) : _root_.Go.OpenSpec := { _root_.Go.OpenSpec.ofChange s with cond := some uptoSmall }

/-- 'marlstonelaw19.WireAsks', WHERE WHAT IT READS IS OF BULK AT MOST 1048576: true; the input reads as it did. -/
def wireAsksUptoRow : OpenClaim := { program := "ytdkgdkifeedcnaa", sum := "0ba6de5f83b6b830c5fdd1a0d4d5fb6c4319c517c0b0126f821c99632c7e1950", func := "marlstone/marlstonelaw19.WireAsks", spec := "wireAsks", unfollowed := true, recurses := true, apart := false, narrowed := true }
def WireAsksUptoSaid : Prop := wireAsksUptoRow.holds Try.pinned (OpenSpec.upto wireAsksSpec)

/-- 'marlstonelaw19.WireSays', WHERE WHAT IT READS IS OF BULK AT MOST 1048576: true; the input reads as it did. -/
def wireSaysUptoRow : OpenClaim := { program := "ytdkgdkifeedcnaa", sum := "0ba6de5f83b6b830c5fdd1a0d4d5fb6c4319c517c0b0126f821c99632c7e1950", func := "marlstone/marlstonelaw19.WireSays", spec := "wireSays", unfollowed := true, recurses := true, apart := false, narrowed := true }
def WireSaysUptoSaid : Prop := wireSaysUptoRow.holds Try.pinned (OpenSpec.upto wireSaysSpec)

/-- 'marlstonelaw19.WireKinds', WHERE WHAT IT READS IS OF BULK AT MOST 1048576: true; the input reads as it did. -/
def wireKindsUptoRow : OpenClaim := { program := "ytdkgdkifeedcnaa", sum := "0ba6de5f83b6b830c5fdd1a0d4d5fb6c4319c517c0b0126f821c99632c7e1950", func := "marlstone/marlstonelaw19.WireKinds", spec := "wireKinds", unfollowed := true, recurses := true, apart := false, narrowed := true }
def WireKindsUptoSaid : Prop := wireKindsUptoRow.holds Try.pinned (OpenSpec.upto wireKindsSpec)

/-- 'marlstonelaw19.WireNumbers', WHERE WHAT IT READS IS OF BULK AT MOST 1048576: true; the input reads as it did. -/
def wireNumbersUptoRow : OpenClaim := { program := "ytdkgdkifeedcnaa", sum := "0ba6de5f83b6b830c5fdd1a0d4d5fb6c4319c517c0b0126f821c99632c7e1950", func := "marlstone/marlstonelaw19.WireNumbers", spec := "wireNumbers", unfollowed := true, recurses := true, apart := false, narrowed := true }
def WireNumbersUptoSaid : Prop := wireNumbersUptoRow.holds Try.pinned (OpenSpec.upto wireNumbersSpec)

/-- 'marlstonelaw19.WireReads', WHERE WHAT IT READS IS OF BULK AT MOST 1048576: true; the input reads as it did. -/
def wireReadsUptoRow : OpenClaim := { program := "ytdkgdkifeedcnaa", sum := "0ba6de5f83b6b830c5fdd1a0d4d5fb6c4319c517c0b0126f821c99632c7e1950", func := "marlstone/marlstonelaw19.WireReads", spec := "wireReads", unfollowed := true, recurses := true, apart := false, narrowed := true }
def WireReadsUptoSaid : Prop := wireReadsUptoRow.holds Try.pinned (OpenSpec.upto wireReadsSpec)

/-- 'marlstonelaw19.WireBack', WHERE WHAT IT READS IS OF BULK AT MOST 1048576: true; the input reads as it did. -/
def wireBackUptoRow : OpenClaim := { program := "ytdkgdkifeedcnaa", sum := "0ba6de5f83b6b830c5fdd1a0d4d5fb6c4319c517c0b0126f821c99632c7e1950", func := "marlstone/marlstonelaw19.WireBack", spec := "wireBack", unfollowed := true, recurses := true, apart := false, narrowed := true }
def WireBackUptoSaid : Prop := wireBackUptoRow.holds Try.pinned (OpenSpec.upto wireBackSpec)

/-- 'marlstonelaw19.WireOnce', WHERE WHAT IT READS IS OF BULK AT MOST 1048576: true; the input reads as it did. -/
def wireOnceUptoRow : OpenClaim := { program := "ytdkgdkifeedcnaa", sum := "0ba6de5f83b6b830c5fdd1a0d4d5fb6c4319c517c0b0126f821c99632c7e1950", func := "marlstone/marlstonelaw19.WireOnce", spec := "wireOnce", unfollowed := true, recurses := true, apart := false, narrowed := true }
def WireOnceUptoSaid : Prop := wireOnceUptoRow.holds Try.pinned (OpenSpec.upto wireOnceSpec)

/-- 'marlstonelaw19.WireErrors', WHERE WHAT IT READS IS OF BULK AT MOST 1048576: true; the input reads as it did. -/
def wireErrorsUptoRow : OpenClaim := { program := "ytdkgdkifeedcnaa", sum := "0ba6de5f83b6b830c5fdd1a0d4d5fb6c4319c517c0b0126f821c99632c7e1950", func := "marlstone/marlstonelaw19.WireErrors", spec := "wireErrors", unfollowed := true, recurses := true, apart := false, narrowed := true }
def WireErrorsUptoSaid : Prop := wireErrorsUptoRow.holds Try.pinned (OpenSpec.upto wireErrorsSpec)

end Rows
end Go.Proofs.Ytdkgdkifeedcnaa
