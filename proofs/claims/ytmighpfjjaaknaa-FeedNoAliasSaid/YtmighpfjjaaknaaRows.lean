/-
  No cell of these rows narrows 'for every input' (looked for: loops, veiled, ifaces, maps, wideKeys, modest, calm, conditions, laid).
  DERIVED. THE GIVEN ROWS OF THIS SEAT. 8 by the template 'for every input the law returns true; each argument reads behind the call as it read before'; 0 by the template 'total and deterministic' (their statements: YtmighpfjjaaknaaTotals.lean).
  GIVEN WITH THE SEED: the statements are not yours to turn. If you find one false, say at which input.
  Laid BY PROGRAM, IN A SANDBOX (cutbox-rows.mjs): the forced cells as the released guide's own fill.sh prints them over the translation cddf044f838613e4… (all of the seat's roots in one cut). By AI agents, Wed Nov 11 2026. No macro, syntax, notation, axiom, sorry.
-/
import Derived.Test.YtmighpfjjaaknaaChecked
import GoSem.Claim
import GoSem.ClaimJoined
import GoSem.ClaimMapViews
import Derived.JoinedTies
import Derived.KernelRfl
namespace Go.Proofs.Ytmighpfjjaaknaa
/- THE CELL 'sum', in the pinned program and in every row, IS THE sha256 OF THE DUMP (.gsa) THAT YtmighpfjjaaknaaProg.lean LOADS. Nothing in Lean hashes anything: it is a label: what it is worth is what the hold of that sum in a sandbox is worth. -/
noncomputable def Try.pinned : Pinned := { name := "ytmighpfjjaaknaa", sum := "cddf044f838613e418c83d2ce5d56f7ae9689418500a65884a0860cfec100f25", checked := Try.checked }
namespace Rows
def none {H : Type} : Left H := { results := [], args := [] }

/-- 'chalklinelaw35.FeedReplies': WHATEVER THE INPUT: true; the input reads as it did. -/
def feedRepliesSpec : ChangeSpec := { name := "feedReplies", fn := fun _ => fun
  | [d1, d2, d3, d4] => { results := [.lit (.bool true)], args := [d1, d2, d3, d4] }
  | _ => none }
def feedRepliesRow : OpenClaim := { program := "ytmighpfjjaaknaa", sum := "cddf044f838613e418c83d2ce5d56f7ae9689418500a65884a0860cfec100f25", func := "chalkline/chalklinelaw35.FeedReplies", spec := "feedReplies", unfollowed := true, recurses := true, apart := false }
def FeedRepliesSaid : Prop := feedRepliesRow.holds Try.pinned (OpenSpec.ofChange feedRepliesSpec)

/-- ITS FALSE NEIGHBOUR: 'it returns false'. Refute it at one input. -/
def feedRepliesWrong : ChangeSpec := { name := "feedReplies", fn := fun _ => fun
  | [d1, d2, d3, d4] => { results := [.lit (.bool false)], args := [d1, d2, d3, d4] }
  | _ => none }
def FeedRepliesWrongFalsely : Prop := feedRepliesRow.holds Try.pinned (OpenSpec.ofChange feedRepliesWrong)

/-- 'chalklinelaw35.FeedTakes': WHATEVER THE INPUT: true; the input reads as it did. -/
def feedTakesSpec : ChangeSpec := { name := "feedTakes", fn := fun _ => fun
  | [d1, d2] => { results := [.lit (.bool true)], args := [d1, d2] }
  | _ => none }
def feedTakesRow : OpenClaim := { program := "ytmighpfjjaaknaa", sum := "cddf044f838613e418c83d2ce5d56f7ae9689418500a65884a0860cfec100f25", func := "chalkline/chalklinelaw35.FeedTakes", spec := "feedTakes", unfollowed := true, recurses := true, apart := false }
def FeedTakesSaid : Prop := feedTakesRow.holds Try.pinned (OpenSpec.ofChange feedTakesSpec)

/-- ITS FALSE NEIGHBOUR: 'it returns false'. Refute it at one input. -/
def feedTakesWrong : ChangeSpec := { name := "feedTakes", fn := fun _ => fun
  | [d1, d2] => { results := [.lit (.bool false)], args := [d1, d2] }
  | _ => none }
def FeedTakesWrongFalsely : Prop := feedTakesRow.holds Try.pinned (OpenSpec.ofChange feedTakesWrong)

/-- 'chalklinelaw35.FeedMonotone': WHATEVER THE INPUT: true; the input reads as it did. -/
def feedMonotoneSpec : ChangeSpec := { name := "feedMonotone", fn := fun _ => fun
  | [d1, d2] => { results := [.lit (.bool true)], args := [d1, d2] }
  | _ => none }
def feedMonotoneRow : OpenClaim := { program := "ytmighpfjjaaknaa", sum := "cddf044f838613e418c83d2ce5d56f7ae9689418500a65884a0860cfec100f25", func := "chalkline/chalklinelaw35.FeedMonotone", spec := "feedMonotone", unfollowed := true, recurses := true, apart := false }
def FeedMonotoneSaid : Prop := feedMonotoneRow.holds Try.pinned (OpenSpec.ofChange feedMonotoneSpec)

/-- ITS FALSE NEIGHBOUR: 'it returns false'. Refute it at one input. -/
def feedMonotoneWrong : ChangeSpec := { name := "feedMonotone", fn := fun _ => fun
  | [d1, d2] => { results := [.lit (.bool false)], args := [d1, d2] }
  | _ => none }
def FeedMonotoneWrongFalsely : Prop := feedMonotoneRow.holds Try.pinned (OpenSpec.ofChange feedMonotoneWrong)

/-- 'chalklinelaw35.FeedNewest': WHATEVER THE INPUT: true; the input reads as it did. -/
def feedNewestSpec : ChangeSpec := { name := "feedNewest", fn := fun _ => fun
  | [d1, d2, d3] => { results := [.lit (.bool true)], args := [d1, d2, d3] }
  | _ => none }
def feedNewestRow : OpenClaim := { program := "ytmighpfjjaaknaa", sum := "cddf044f838613e418c83d2ce5d56f7ae9689418500a65884a0860cfec100f25", func := "chalkline/chalklinelaw35.FeedNewest", spec := "feedNewest", unfollowed := true, recurses := true, apart := false }
def FeedNewestSaid : Prop := feedNewestRow.holds Try.pinned (OpenSpec.ofChange feedNewestSpec)

/-- ITS FALSE NEIGHBOUR: 'it returns false'. Refute it at one input. -/
def feedNewestWrong : ChangeSpec := { name := "feedNewest", fn := fun _ => fun
  | [d1, d2, d3] => { results := [.lit (.bool false)], args := [d1, d2, d3] }
  | _ => none }
def FeedNewestWrongFalsely : Prop := feedNewestRow.holds Try.pinned (OpenSpec.ofChange feedNewestWrong)

/-- 'chalklinelaw35.FeedRepeated': WHATEVER THE INPUT: true; the input reads as it did. -/
def feedRepeatedSpec : ChangeSpec := { name := "feedRepeated", fn := fun _ => fun
  | [d1, d2] => { results := [.lit (.bool true)], args := [d1, d2] }
  | _ => none }
def feedRepeatedRow : OpenClaim := { program := "ytmighpfjjaaknaa", sum := "cddf044f838613e418c83d2ce5d56f7ae9689418500a65884a0860cfec100f25", func := "chalkline/chalklinelaw35.FeedRepeated", spec := "feedRepeated", unfollowed := true, recurses := true, apart := false }
def FeedRepeatedSaid : Prop := feedRepeatedRow.holds Try.pinned (OpenSpec.ofChange feedRepeatedSpec)

/-- ITS FALSE NEIGHBOUR: 'it returns false'. Refute it at one input. -/
def feedRepeatedWrong : ChangeSpec := { name := "feedRepeated", fn := fun _ => fun
  | [d1, d2] => { results := [.lit (.bool false)], args := [d1, d2] }
  | _ => none }
def FeedRepeatedWrongFalsely : Prop := feedRepeatedRow.holds Try.pinned (OpenSpec.ofChange feedRepeatedWrong)

/-- 'chalklinelaw35.FeedDifference': WHATEVER THE INPUT: true; the input reads as it did. -/
def feedDifferenceSpec : ChangeSpec := { name := "feedDifference", fn := fun _ => fun
  | [d1, d2] => { results := [.lit (.bool true)], args := [d1, d2] }
  | _ => none }
def feedDifferenceRow : OpenClaim := { program := "ytmighpfjjaaknaa", sum := "cddf044f838613e418c83d2ce5d56f7ae9689418500a65884a0860cfec100f25", func := "chalkline/chalklinelaw35.FeedDifference", spec := "feedDifference", unfollowed := true, recurses := true, apart := false }
def FeedDifferenceSaid : Prop := feedDifferenceRow.holds Try.pinned (OpenSpec.ofChange feedDifferenceSpec)

/-- ITS FALSE NEIGHBOUR: 'it returns false'. Refute it at one input. -/
def feedDifferenceWrong : ChangeSpec := { name := "feedDifference", fn := fun _ => fun
  | [d1, d2] => { results := [.lit (.bool false)], args := [d1, d2] }
  | _ => none }
def FeedDifferenceWrongFalsely : Prop := feedDifferenceRow.holds Try.pinned (OpenSpec.ofChange feedDifferenceWrong)

/-- 'chalklinelaw35.FeedLost': WHATEVER THE INPUT: true; the input reads as it did. -/
def feedLostSpec : ChangeSpec := { name := "feedLost", fn := fun _ => fun
  | [d1, d2, d3] => { results := [.lit (.bool true)], args := [d1, d2, d3] }
  | _ => none }
def feedLostRow : OpenClaim := { program := "ytmighpfjjaaknaa", sum := "cddf044f838613e418c83d2ce5d56f7ae9689418500a65884a0860cfec100f25", func := "chalkline/chalklinelaw35.FeedLost", spec := "feedLost", unfollowed := true, recurses := true, apart := false }
def FeedLostSaid : Prop := feedLostRow.holds Try.pinned (OpenSpec.ofChange feedLostSpec)

/-- ITS FALSE NEIGHBOUR: 'it returns false'. Refute it at one input. -/
def feedLostWrong : ChangeSpec := { name := "feedLost", fn := fun _ => fun
  | [d1, d2, d3] => { results := [.lit (.bool false)], args := [d1, d2, d3] }
  | _ => none }
def FeedLostWrongFalsely : Prop := feedLostRow.holds Try.pinned (OpenSpec.ofChange feedLostWrong)

/-- 'chalklinelaw35.FeedNoAlias': WHATEVER THE INPUT: true; the input reads as it did. -/
def feedNoAliasSpec : ChangeSpec := { name := "feedNoAlias", fn := fun _ => fun
  | [d1, d2, d3] => { results := [.lit (.bool true)], args := [d1, d2, d3] }
  | _ => none }
def feedNoAliasRow : OpenClaim := { program := "ytmighpfjjaaknaa", sum := "cddf044f838613e418c83d2ce5d56f7ae9689418500a65884a0860cfec100f25", func := "chalkline/chalklinelaw35.FeedNoAlias", spec := "feedNoAlias", unfollowed := true, recurses := true, apart := false }
def FeedNoAliasSaid : Prop := feedNoAliasRow.holds Try.pinned (OpenSpec.ofChange feedNoAliasSpec)

/-- ITS FALSE NEIGHBOUR: 'it returns false'. Refute it at one input. -/
def feedNoAliasWrong : ChangeSpec := { name := "feedNoAlias", fn := fun _ => fun
  | [d1, d2, d3] => { results := [.lit (.bool false)], args := [d1, d2, d3] }
  | _ => none }
def FeedNoAliasWrongFalsely : Prop := feedNoAliasRow.holds Try.pinned (OpenSpec.ofChange feedNoAliasWrong)

/- THE SECOND FORM. 'bulk': how many values and letters a reading holds, each counted each time it is reached (what is shared counts as often as it is met; a slice's spare places count too). A statement '..UptoSaid' is the law's where the arguments, and the package variables that the reading takes, are together of bulk at most 1048576: NARROWER than '..Said'. Prove '..Said' where nothing that the law and all that it calls make is longer than what came in: it says more and counts as full. Else prove '..UptoSaid'. A law counts once. -/
mutual
def uptoBulk {H : Type} : DataW H → Nat
  | .lit (.string bytes) => bytes.length + 1
  | .lit _ => 1
  | .nil => 1
  | .ptr d => uptoBulk d + 1
  | .slice elems spare => uptoBulkAll elems + uptoBulkAll spare + 1
  | .agg parts => uptoBulkAll parts + 1
  | .iface _ d => uptoBulk d + 1
  | .map entries => uptoBulkEntries entries + 1
  | .held _ => 1
def uptoBulkAll {H : Type} : List (DataW H) → Nat
  | [] => 0
  | d :: r => uptoBulk d + uptoBulkAll r
def uptoBulkEntries {H : Type} : List (Lit × DataW H) → Nat
  | [] => 0
  | x :: r => uptoBulkEntry x + uptoBulkEntries r
def uptoBulkEntry {H : Type} : Lit × DataW H → Nat
  | (.string bytes, d) => bytes.length + uptoBulk d + 1
  | (_, d) => uptoBulk d + 1
 end
def uptoSmall : (H : Type) → List (DataW H) → Bool := fun _ ds => decide (uptoBulkAll ds ≤ 1048576)
def OpenSpec.upto (s : _root_.Go.ChangeSpec) : _root_.Go.OpenSpec := { _root_.Go.OpenSpec.ofChange s with cond := some uptoSmall }

/-- 'chalklinelaw35.FeedReplies', WHERE WHAT IT READS IS OF BULK AT MOST 1048576: true; the input reads as it did. -/
def feedRepliesUptoRow : OpenClaim := { program := "ytmighpfjjaaknaa", sum := "cddf044f838613e418c83d2ce5d56f7ae9689418500a65884a0860cfec100f25", func := "chalkline/chalklinelaw35.FeedReplies", spec := "feedReplies", unfollowed := true, recurses := true, apart := false, narrowed := true }
def FeedRepliesUptoSaid : Prop := feedRepliesUptoRow.holds Try.pinned (OpenSpec.upto feedRepliesSpec)

/-- 'chalklinelaw35.FeedTakes', WHERE WHAT IT READS IS OF BULK AT MOST 1048576: true; the input reads as it did. -/
def feedTakesUptoRow : OpenClaim := { program := "ytmighpfjjaaknaa", sum := "cddf044f838613e418c83d2ce5d56f7ae9689418500a65884a0860cfec100f25", func := "chalkline/chalklinelaw35.FeedTakes", spec := "feedTakes", unfollowed := true, recurses := true, apart := false, narrowed := true }
def FeedTakesUptoSaid : Prop := feedTakesUptoRow.holds Try.pinned (OpenSpec.upto feedTakesSpec)

/-- 'chalklinelaw35.FeedMonotone', WHERE WHAT IT READS IS OF BULK AT MOST 1048576: true; the input reads as it did. -/
def feedMonotoneUptoRow : OpenClaim := { program := "ytmighpfjjaaknaa", sum := "cddf044f838613e418c83d2ce5d56f7ae9689418500a65884a0860cfec100f25", func := "chalkline/chalklinelaw35.FeedMonotone", spec := "feedMonotone", unfollowed := true, recurses := true, apart := false, narrowed := true }
def FeedMonotoneUptoSaid : Prop := feedMonotoneUptoRow.holds Try.pinned (OpenSpec.upto feedMonotoneSpec)

/-- 'chalklinelaw35.FeedNewest', WHERE WHAT IT READS IS OF BULK AT MOST 1048576: true; the input reads as it did. -/
def feedNewestUptoRow : OpenClaim := { program := "ytmighpfjjaaknaa", sum := "cddf044f838613e418c83d2ce5d56f7ae9689418500a65884a0860cfec100f25", func := "chalkline/chalklinelaw35.FeedNewest", spec := "feedNewest", unfollowed := true, recurses := true, apart := false, narrowed := true }
def FeedNewestUptoSaid : Prop := feedNewestUptoRow.holds Try.pinned (OpenSpec.upto feedNewestSpec)

/-- 'chalklinelaw35.FeedRepeated', WHERE WHAT IT READS IS OF BULK AT MOST 1048576: true; the input reads as it did. -/
def feedRepeatedUptoRow : OpenClaim := { program := "ytmighpfjjaaknaa", sum := "cddf044f838613e418c83d2ce5d56f7ae9689418500a65884a0860cfec100f25", func := "chalkline/chalklinelaw35.FeedRepeated", spec := "feedRepeated", unfollowed := true, recurses := true, apart := false, narrowed := true }
def FeedRepeatedUptoSaid : Prop := feedRepeatedUptoRow.holds Try.pinned (OpenSpec.upto feedRepeatedSpec)

/-- 'chalklinelaw35.FeedDifference', WHERE WHAT IT READS IS OF BULK AT MOST 1048576: true; the input reads as it did. -/
def feedDifferenceUptoRow : OpenClaim := { program := "ytmighpfjjaaknaa", sum := "cddf044f838613e418c83d2ce5d56f7ae9689418500a65884a0860cfec100f25", func := "chalkline/chalklinelaw35.FeedDifference", spec := "feedDifference", unfollowed := true, recurses := true, apart := false, narrowed := true }
def FeedDifferenceUptoSaid : Prop := feedDifferenceUptoRow.holds Try.pinned (OpenSpec.upto feedDifferenceSpec)

/-- 'chalklinelaw35.FeedLost', WHERE WHAT IT READS IS OF BULK AT MOST 1048576: true; the input reads as it did. -/
def feedLostUptoRow : OpenClaim := { program := "ytmighpfjjaaknaa", sum := "cddf044f838613e418c83d2ce5d56f7ae9689418500a65884a0860cfec100f25", func := "chalkline/chalklinelaw35.FeedLost", spec := "feedLost", unfollowed := true, recurses := true, apart := false, narrowed := true }
def FeedLostUptoSaid : Prop := feedLostUptoRow.holds Try.pinned (OpenSpec.upto feedLostSpec)

/-- 'chalklinelaw35.FeedNoAlias', WHERE WHAT IT READS IS OF BULK AT MOST 1048576: true; the input reads as it did. -/
def feedNoAliasUptoRow : OpenClaim := { program := "ytmighpfjjaaknaa", sum := "cddf044f838613e418c83d2ce5d56f7ae9689418500a65884a0860cfec100f25", func := "chalkline/chalklinelaw35.FeedNoAlias", spec := "feedNoAlias", unfollowed := true, recurses := true, apart := false, narrowed := true }
def FeedNoAliasUptoSaid : Prop := feedNoAliasUptoRow.holds Try.pinned (OpenSpec.upto feedNoAliasSpec)

end Rows
end Go.Proofs.Ytmighpfjjaaknaa
