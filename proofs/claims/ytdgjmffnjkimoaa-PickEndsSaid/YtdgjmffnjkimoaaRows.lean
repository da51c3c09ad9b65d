/-
  No cell of these rows narrows 'for every input' (looked for: loops, veiled, ifaces, maps, wideKeys, modest, calm, conditions, laid).
  DERIVED. THE GIVEN ROWS OF THIS SEAT. 6 by the template 'for every input the law returns true; each argument reads behind the call as it read before'; 0 by the template 'total and deterministic' (their statements: YtdgjmffnjkimoaaTotals.lean).
  GIVEN WITH THE SEED: the statements are not yours to turn. If you find one false, say at which input.
  Laid BY PROGRAM, IN A SANDBOX (cutbox-rows.mjs): the forced cells as the released guide's own fill.sh prints them over the translation d24e745bf4afc840… (all of the seat's roots in one cut). By AI agents, Wed Nov 11 2026. No macro, syntax, notation, axiom, sorry.
-/
import Derived.Test.YtdgjmffnjkimoaaChecked
import GoSem.Claim
import GoSem.ClaimJoined
import GoSem.ClaimMapViews
import Derived.JoinedTies
import Derived.KernelRfl
namespace Go.Proofs.Ytdgjmffnjkimoaa
/- THE CELL 'sum', in the pinned program and in every row, IS THE sha256 OF THE DUMP (.gsa) THAT YtdgjmffnjkimoaaProg.lean LOADS. Nothing in Lean hashes anything: it is a label: what it is worth is what the hold of that sum in a sandbox is worth. -/
noncomputable def Try.pinned : Pinned := { name := "ytdgjmffnjkimoaa", sum := "d24e745bf4afc840729ec72110061a259a40f5df366570a549f02fcff28f495a", checked := Try.checked }
namespace Rows
def none {H : Type} : Left H := { results := [], args := [] }

/-- 'marlstonelaw15.PickPicks': WHATEVER THE INPUT: true; the input reads as it did. -/
def pickPicksSpec : ChangeSpec := { name := "pickPicks", fn := fun _ => fun
  | [d1, d2] => { results := [.lit (.bool true)], args := [d1, d2] }
  | _ => none }
def pickPicksRow : OpenClaim := { program := "ytdgjmffnjkimoaa", sum := "d24e745bf4afc840729ec72110061a259a40f5df366570a549f02fcff28f495a", func := "marlstone/marlstonelaw15.PickPicks", spec := "pickPicks", unfollowed := true, recurses := true, apart := false }
def PickPicksSaid : Prop := pickPicksRow.holds Try.pinned (OpenSpec.ofChange pickPicksSpec)

/-- ITS FALSE NEIGHBOUR: 'it returns false'. Refute it at one input. -/
def pickPicksWrong : ChangeSpec := { name := "pickPicks", fn := fun _ => fun
  | [d1, d2] => { results := [.lit (.bool false)], args := [d1, d2] }
  | _ => none }
def PickPicksWrongFalsely : Prop := pickPicksRow.holds Try.pinned (OpenSpec.ofChange pickPicksWrong)

/-- 'marlstonelaw15.PickLess': WHATEVER THE INPUT: true; the input reads as it did. -/
def pickLessSpec : ChangeSpec := { name := "pickLess", fn := fun _ => fun
  | [d1, d2] => { results := [.lit (.bool true)], args := [d1, d2] }
  | _ => none }
def pickLessRow : OpenClaim := { program := "ytdgjmffnjkimoaa", sum := "d24e745bf4afc840729ec72110061a259a40f5df366570a549f02fcff28f495a", func := "marlstone/marlstonelaw15.PickLess", spec := "pickLess", unfollowed := true, recurses := true, apart := false }
def PickLessSaid : Prop := pickLessRow.holds Try.pinned (OpenSpec.ofChange pickLessSpec)

/-- ITS FALSE NEIGHBOUR: 'it returns false'. Refute it at one input. -/
def pickLessWrong : ChangeSpec := { name := "pickLess", fn := fun _ => fun
  | [d1, d2] => { results := [.lit (.bool false)], args := [d1, d2] }
  | _ => none }
def PickLessWrongFalsely : Prop := pickLessRow.holds Try.pinned (OpenSpec.ofChange pickLessWrong)

/-- 'marlstonelaw15.PickWhole': WHATEVER THE INPUT: true; the input reads as it did. -/
def pickWholeSpec : ChangeSpec := { name := "pickWhole", fn := fun _ => fun
  | [d] => { results := [.lit (.bool true)], args := [d] }
  | _ => none }
def pickWholeRow : OpenClaim := { program := "ytdgjmffnjkimoaa", sum := "d24e745bf4afc840729ec72110061a259a40f5df366570a549f02fcff28f495a", func := "marlstone/marlstonelaw15.PickWhole", spec := "pickWhole", unfollowed := true, recurses := true, apart := false }
def PickWholeSaid : Prop := pickWholeRow.holds Try.pinned (OpenSpec.ofChange pickWholeSpec)

/-- ITS FALSE NEIGHBOUR: 'it returns false'. Refute it at one input. -/
def pickWholeWrong : ChangeSpec := { name := "pickWhole", fn := fun _ => fun
  | [d] => { results := [.lit (.bool false)], args := [d] }
  | _ => none }
def PickWholeWrongFalsely : Prop := pickWholeRow.holds Try.pinned (OpenSpec.ofChange pickWholeWrong)

/-- 'marlstonelaw15.PickEnds': WHATEVER THE INPUT: true; the input reads as it did. -/
def pickEndsSpec : ChangeSpec := { name := "pickEnds", fn := fun _ => fun
  | [d] => { results := [.lit (.bool true)], args := [d] }
  | _ => none }
def pickEndsRow : OpenClaim := { program := "ytdgjmffnjkimoaa", sum := "d24e745bf4afc840729ec72110061a259a40f5df366570a549f02fcff28f495a", func := "marlstone/marlstonelaw15.PickEnds", spec := "pickEnds", unfollowed := true, recurses := true, apart := false }
def PickEndsSaid : Prop := pickEndsRow.holds Try.pinned (OpenSpec.ofChange pickEndsSpec)

/-- ITS FALSE NEIGHBOUR: 'it returns false'. Refute it at one input. -/
def pickEndsWrong : ChangeSpec := { name := "pickEnds", fn := fun _ => fun
  | [d] => { results := [.lit (.bool false)], args := [d] }
  | _ => none }
def PickEndsWrongFalsely : Prop := pickEndsRow.holds Try.pinned (OpenSpec.ofChange pickEndsWrong)

/-- 'marlstonelaw15.PickAlone': WHATEVER THE INPUT: true; the input reads as it did. -/
def pickAloneSpec : ChangeSpec := { name := "pickAlone", fn := fun _ => fun
  | [d1, d2] => { results := [.lit (.bool true)], args := [d1, d2] }
  | _ => none }
def pickAloneRow : OpenClaim := { program := "ytdgjmffnjkimoaa", sum := "d24e745bf4afc840729ec72110061a259a40f5df366570a549f02fcff28f495a", func := "marlstone/marlstonelaw15.PickAlone", spec := "pickAlone", unfollowed := true, recurses := true, apart := false }
def PickAloneSaid : Prop := pickAloneRow.holds Try.pinned (OpenSpec.ofChange pickAloneSpec)

/-- ITS FALSE NEIGHBOUR: 'it returns false'. Refute it at one input. -/
def pickAloneWrong : ChangeSpec := { name := "pickAlone", fn := fun _ => fun
  | [d1, d2] => { results := [.lit (.bool false)], args := [d1, d2] }
  | _ => none }
def PickAloneWrongFalsely : Prop := pickAloneRow.holds Try.pinned (OpenSpec.ofChange pickAloneWrong)

/-- 'marlstonelaw15.PickCounts': WHATEVER THE INPUT: true; the input reads as it did. -/
def pickCountsSpec : ChangeSpec := { name := "pickCounts", fn := fun _ => fun
  | [d1, d2, d3, d4] => { results := [.lit (.bool true)], args := [d1, d2, d3, d4] }
  | _ => none }
def pickCountsRow : OpenClaim := { program := "ytdgjmffnjkimoaa", sum := "d24e745bf4afc840729ec72110061a259a40f5df366570a549f02fcff28f495a", func := "marlstone/marlstonelaw15.PickCounts", spec := "pickCounts", unfollowed := true, recurses := true, apart := false }
def PickCountsSaid : Prop := pickCountsRow.holds Try.pinned (OpenSpec.ofChange pickCountsSpec)

/-- ITS FALSE NEIGHBOUR: 'it returns false'. Refute it at one input. -/
def pickCountsWrong : ChangeSpec := { name := "pickCounts", fn := fun _ => fun
  | [d1, d2, d3, d4] => { results := [.lit (.bool false)], args := [d1, d2, d3, d4] }
  | _ => none }
def PickCountsWrongFalsely : Prop := pickCountsRow.holds Try.pinned (OpenSpec.ofChange pickCountsWrong)

/- THE SECOND FORM. 'bulk': how many values and letters a reading holds, each counted each time it is reached (what is shared counts as often as it is met; a slice's spare places count too). A statement '..UptoSaid' is the law's where the arguments, and the package variables that the reading takes, are together of bulk at most 1048576: NARROWER than '..Said'. Prove '..Said' where nothing that the law and all that it calls make is longer than what came in: it says more and counts as full. Else prove '..UptoSaid'. A law counts once. -/
mutual
def uptoBulk {H : Type} : DataW H → Nat
  | .lit (.string bytes) => bytes.length + 1
  | .lit _ => 1
  | .nil => 1
  | .ptr d => uptoBulk d + 1
  | .slice elems spare => uptoBulkAll elems + uptoBulkAll spare + 1
  | .agg parts => uptoBulkAll parts + 1
  | .iface _ d => uptoBulk d + 1
  | .map entries => uptoBulkEntries entries + 1
  | .held _ => 1
def uptoBulkAll {H : Type} : List (DataW H) → Nat
  | [] => 0
  | d :: r => uptoBulk d + uptoBulkAll r
def uptoBulkEntries {H : Type} : List (Lit × DataW H) → Nat
  | [] => 0
  | x :: r => uptoBulkEntry x + uptoBulkEntries r
def uptoBulkEntry {H : Type} : Lit × DataW H → Nat
  | (.string bytes, d) => bytes.length + uptoBulk d + 1
  | (_, d) => uptoBulk d + 1
 end
def uptoSmall : (H : Type) → List (DataW H) → Bool := fun _ ds => decide (uptoBulkAll ds ≤ 1048576)
def OpenSpec.upto (s : _root_.Go.ChangeSpec) : _root_.Go.OpenSpec := { _root_.Go.OpenSpec.ofChange s with cond := some uptoSmall }

/-- 'marlstonelaw15.PickPicks', WHERE WHAT IT READS IS OF BULK AT MOST 1048576: true; the input reads as it did. -/
def pickPicksUptoRow : OpenClaim := { program := "ytdgjmffnjkimoaa", sum := "d24e745bf4afc840729ec72110061a259a40f5df366570a549f02fcff28f495a", func := "marlstone/marlstonelaw15.PickPicks", spec := "pickPicks", unfollowed := true, recurses := true, apart := false, narrowed := true }
def PickPicksUptoSaid : Prop := pickPicksUptoRow.holds Try.pinned (OpenSpec.upto pickPicksSpec)

/-- 'marlstonelaw15.PickLess', WHERE WHAT IT READS IS OF BULK AT MOST 1048576: true; the input reads as it did. -/
def pickLessUptoRow : OpenClaim := { program := "ytdgjmffnjkimoaa", sum := "d24e745bf4afc840729ec72110061a259a40f5df366570a549f02fcff28f495a", func := "marlstone/marlstonelaw15.PickLess", spec := "pickLess", unfollowed := true, recurses := true, apart := false, narrowed := true }
def PickLessUptoSaid : Prop := pickLessUptoRow.holds Try.pinned (OpenSpec.upto pickLessSpec)

/-- 'marlstonelaw15.PickWhole', WHERE WHAT IT READS IS OF BULK AT MOST 1048576: true; the input reads as it did. -/
def pickWholeUptoRow : OpenClaim := { program := "ytdgjmffnjkimoaa", sum := "d24e745bf4afc840729ec72110061a259a40f5df366570a549f02fcff28f495a", func := "marlstone/marlstonelaw15.PickWhole", spec := "pickWhole", unfollowed := true, recurses := true, apart := false, narrowed := true }
def PickWholeUptoSaid : Prop := pickWholeUptoRow.holds Try.pinned (OpenSpec.upto pickWholeSpec)

/-- 'marlstonelaw15.PickEnds', WHERE WHAT IT READS IS OF BULK AT MOST 1048576: true; the input reads as it did. -/
def pickEndsUptoRow : OpenClaim := { program := "ytdgjmffnjkimoaa", sum := "d24e745bf4afc840729ec72110061a259a40f5df366570a549f02fcff28f495a", func := "marlstone/marlstonelaw15.PickEnds", spec := "pickEnds", unfollowed := true, recurses := true, apart := false, narrowed := true }
def PickEndsUptoSaid : Prop := pickEndsUptoRow.holds Try.pinned (OpenSpec.upto pickEndsSpec)

/-- 'marlstonelaw15.PickAlone', WHERE WHAT IT READS IS OF BULK AT MOST 1048576: true; the input reads as it did. -/
def pickAloneUptoRow : OpenClaim := { program := "ytdgjmffnjkimoaa", sum := "d24e745bf4afc840729ec72110061a259a40f5df366570a549f02fcff28f495a", func := "marlstone/marlstonelaw15.PickAlone", spec := "pickAlone", unfollowed := true, recurses := true, apart := false, narrowed := true }
def PickAloneUptoSaid : Prop := pickAloneUptoRow.holds Try.pinned (OpenSpec.upto pickAloneSpec)

/-- 'marlstonelaw15.PickCounts', WHERE WHAT IT READS IS OF BULK AT MOST 1048576: true; the input reads as it did. -/
def pickCountsUptoRow : OpenClaim := { program := "ytdgjmffnjkimoaa", sum := "d24e745bf4afc840729ec72110061a259a40f5df366570a549f02fcff28f495a", func := "marlstone/marlstonelaw15.PickCounts", spec := "pickCounts", unfollowed := true, recurses := true, apart := false, narrowed := true }
def PickCountsUptoSaid : Prop := pickCountsUptoRow.holds Try.pinned (OpenSpec.upto pickCountsSpec)

end Rows
end Go.Proofs.Ytdgjmffnjkimoaa
