/-
  No cell of these rows narrows 'for every input' (looked for: loops, veiled, ifaces, maps, wideKeys, modest, calm, conditions, laid).
  DERIVED. THE GIVEN ROWS OF THIS SEAT. 7 by the template 'for every input the law returns true; each argument reads behind the call as it read before'; 0 by the template 'total and deterministic' (their statements: YtollegfnkaomeaaTotals.lean).
  GIVEN WITH THE SEED: the statements are not yours to turn. If you find one false, say at which input.
  Laid BY PROGRAM, IN A SANDBOX (cutbox-rows.mjs): the forced cells as the released guide's own fill.sh prints them over the translation 83aedbb059feead5… (all of the seat's roots in one cut). By AI agents, Wed Nov 11 2026. No macro, syntax, notation, axiom, sorry.
-/
import Derived.Test.YtollegfnkaomeaaChecked
import GoSem.Claim
import GoSem.ClaimJoined
import GoSem.ClaimMapViews
import Derived.JoinedTies
import Derived.KernelRfl
namespace Go.Proofs.Ytollegfnkaomeaa
/- THE CELL 'sum', in the pinned program and in every row, IS THE sha256 OF THE DUMP (.gsa) THAT YtollegfnkaomeaaProg.lean LOADS. Nothing in Lean hashes anything: it is a label: what it is worth is what the hold of that sum in a sandbox is worth. -/
noncomputable def Try.pinned : Pinned := { name := "ytollegfnkaomeaa", sum := "83aedbb059feead57b4398c4eb4ad30c5a47ccadbe29ecb6faf5d99a960e639a", checked := Try.checked }
namespace Rows
def none {H : Type} : Left H := { results := [], args := [] }

/-- 'waypointlaw06.CompressEffect': WHATEVER THE INPUT: true; the input reads as it did. -/
def compressEffectSpec : ChangeSpec := { name := "compressEffect", fn := fun _ => fun
  | [d] => { results := [.lit (.bool true)], args := [d] }
  | _ => none }
def compressEffectRow : OpenClaim := { program := "ytollegfnkaomeaa", sum := "83aedbb059feead57b4398c4eb4ad30c5a47ccadbe29ecb6faf5d99a960e639a", func := "waypoint/waypointlaw06.CompressEffect", spec := "compressEffect", unfollowed := true, recurses := true, plainKeys := false, apart := false }
def CompressEffectSaid : Prop := compressEffectRow.holds Try.pinned (OpenSpec.ofChange compressEffectSpec)

/-- ITS FALSE NEIGHBOUR: 'it returns false'. Refute it at one input. -/
def compressEffectWrong : ChangeSpec := { name := "compressEffect", fn := fun _ => fun
  | [d] => { results := [.lit (.bool false)], args := [d] }
  | _ => none }
def CompressEffectWrongFalsely : Prop := compressEffectRow.holds Try.pinned (OpenSpec.ofChange compressEffectWrong)

/-- 'waypointlaw06.CompressLeast': WHATEVER THE INPUT: true; the input reads as it did. -/
def compressLeastSpec : ChangeSpec := { name := "compressLeast", fn := fun _ => fun
  | [d] => { results := [.lit (.bool true)], args := [d] }
  | _ => none }
def compressLeastRow : OpenClaim := { program := "ytollegfnkaomeaa", sum := "83aedbb059feead57b4398c4eb4ad30c5a47ccadbe29ecb6faf5d99a960e639a", func := "waypoint/waypointlaw06.CompressLeast", spec := "compressLeast", unfollowed := true, recurses := true, plainKeys := false, apart := false }
def CompressLeastSaid : Prop := compressLeastRow.holds Try.pinned (OpenSpec.ofChange compressLeastSpec)

/-- ITS FALSE NEIGHBOUR: 'it returns false'. Refute it at one input. -/
def compressLeastWrong : ChangeSpec := { name := "compressLeast", fn := fun _ => fun
  | [d] => { results := [.lit (.bool false)], args := [d] }
  | _ => none }
def CompressLeastWrongFalsely : Prop := compressLeastRow.holds Try.pinned (OpenSpec.ofChange compressLeastWrong)

/-- 'waypointlaw06.CompressAgain': WHATEVER THE INPUT: true; the input reads as it did. -/
def compressAgainSpec : ChangeSpec := { name := "compressAgain", fn := fun _ => fun
  | [d1, d2] => { results := [.lit (.bool true)], args := [d1, d2] }
  | _ => none }
def compressAgainRow : OpenClaim := { program := "ytollegfnkaomeaa", sum := "83aedbb059feead57b4398c4eb4ad30c5a47ccadbe29ecb6faf5d99a960e639a", func := "waypoint/waypointlaw06.CompressAgain", spec := "compressAgain", unfollowed := true, recurses := true, plainKeys := false, apart := false }
def CompressAgainSaid : Prop := compressAgainRow.holds Try.pinned (OpenSpec.ofChange compressAgainSpec)

/-- ITS FALSE NEIGHBOUR: 'it returns false'. Refute it at one input. -/
def compressAgainWrong : ChangeSpec := { name := "compressAgain", fn := fun _ => fun
  | [d1, d2] => { results := [.lit (.bool false)], args := [d1, d2] }
  | _ => none }
def CompressAgainWrongFalsely : Prop := compressAgainRow.holds Try.pinned (OpenSpec.ofChange compressAgainWrong)

/-- 'waypointlaw06.CompressOrder': WHATEVER THE INPUT: true; the input reads as it did. -/
def compressOrderSpec : ChangeSpec := { name := "compressOrder", fn := fun _ => fun
  | [d1, d2] => { results := [.lit (.bool true)], args := [d1, d2] }
  | _ => none }
def compressOrderRow : OpenClaim := { program := "ytollegfnkaomeaa", sum := "83aedbb059feead57b4398c4eb4ad30c5a47ccadbe29ecb6faf5d99a960e639a", func := "waypoint/waypointlaw06.CompressOrder", spec := "compressOrder", unfollowed := true, recurses := true, plainKeys := false, apart := false }
def CompressOrderSaid : Prop := compressOrderRow.holds Try.pinned (OpenSpec.ofChange compressOrderSpec)

/-- ITS FALSE NEIGHBOUR: 'it returns false'. Refute it at one input. -/
def compressOrderWrong : ChangeSpec := { name := "compressOrder", fn := fun _ => fun
  | [d1, d2] => { results := [.lit (.bool false)], args := [d1, d2] }
  | _ => none }
def CompressOrderWrongFalsely : Prop := compressOrderRow.holds Try.pinned (OpenSpec.ofChange compressOrderWrong)

/-- 'waypointlaw06.CompressLookup': WHATEVER THE INPUT: true; the input reads as it did. -/
def compressLookupSpec : ChangeSpec := { name := "compressLookup", fn := fun _ => fun
  | [d1, d2] => { results := [.lit (.bool true)], args := [d1, d2] }
  | _ => none }
def compressLookupRow : OpenClaim := { program := "ytollegfnkaomeaa", sum := "83aedbb059feead57b4398c4eb4ad30c5a47ccadbe29ecb6faf5d99a960e639a", func := "waypoint/waypointlaw06.CompressLookup", spec := "compressLookup", unfollowed := true, recurses := true, plainKeys := false, apart := false }
def CompressLookupSaid : Prop := compressLookupRow.holds Try.pinned (OpenSpec.ofChange compressLookupSpec)

/-- ITS FALSE NEIGHBOUR: 'it returns false'. Refute it at one input. -/
def compressLookupWrong : ChangeSpec := { name := "compressLookup", fn := fun _ => fun
  | [d1, d2] => { results := [.lit (.bool false)], args := [d1, d2] }
  | _ => none }
def CompressLookupWrongFalsely : Prop := compressLookupRow.holds Try.pinned (OpenSpec.ofChange compressLookupWrong)

/-- 'waypointlaw06.CompressTrie': WHATEVER THE INPUT: true; the input reads as it did. -/
def compressTrieSpec : ChangeSpec := { name := "compressTrie", fn := fun _ => fun
  | [d1, d2] => { results := [.lit (.bool true)], args := [d1, d2] }
  | _ => none }
def compressTrieRow : OpenClaim := { program := "ytollegfnkaomeaa", sum := "83aedbb059feead57b4398c4eb4ad30c5a47ccadbe29ecb6faf5d99a960e639a", func := "waypoint/waypointlaw06.CompressTrie", spec := "compressTrie", unfollowed := true, recurses := true, plainKeys := false, apart := false }
def CompressTrieSaid : Prop := compressTrieRow.holds Try.pinned (OpenSpec.ofChange compressTrieSpec)

/-- ITS FALSE NEIGHBOUR: 'it returns false'. Refute it at one input. -/
def compressTrieWrong : ChangeSpec := { name := "compressTrie", fn := fun _ => fun
  | [d1, d2] => { results := [.lit (.bool false)], args := [d1, d2] }
  | _ => none }
def CompressTrieWrongFalsely : Prop := compressTrieRow.holds Try.pinned (OpenSpec.ofChange compressTrieWrong)

/-- 'waypointlaw06.CompressEqual': WHATEVER THE INPUT: true; the input reads as it did. -/
def compressEqualSpec : ChangeSpec := { name := "compressEqual", fn := fun _ => fun
  | [d1, d2] => { results := [.lit (.bool true)], args := [d1, d2] }
  | _ => none }
def compressEqualRow : OpenClaim := { program := "ytollegfnkaomeaa", sum := "83aedbb059feead57b4398c4eb4ad30c5a47ccadbe29ecb6faf5d99a960e639a", func := "waypoint/waypointlaw06.CompressEqual", spec := "compressEqual", unfollowed := true, recurses := true, plainKeys := false, apart := false }
def CompressEqualSaid : Prop := compressEqualRow.holds Try.pinned (OpenSpec.ofChange compressEqualSpec)

/-- ITS FALSE NEIGHBOUR: 'it returns false'. Refute it at one input. -/
def compressEqualWrong : ChangeSpec := { name := "compressEqual", fn := fun _ => fun
  | [d1, d2] => { results := [.lit (.bool false)], args := [d1, d2] }
  | _ => none }
def CompressEqualWrongFalsely : Prop := compressEqualRow.holds Try.pinned (OpenSpec.ofChange compressEqualWrong)

/- THE SECOND FORM. 'bulk': how many values and letters a reading holds, each counted each time it is reached (what is shared counts as often as it is met; a slice's spare places count too). A statement '..UptoSaid' is the law's where the arguments, and the package variables that the reading takes, are together of bulk at most 1048576: NARROWER than '..Said'. Prove '..Said' where nothing that the law and all that it calls make is longer than what came in: it says more and counts as full. Else prove '..UptoSaid'. A law counts once. -/
mutual
def uptoBulk {H : Type} : DataW H → Nat
  | .lit (.string bytes) => bytes.length + 1
  | .lit _ => 1
  | .nil => 1
  | .ptr d => uptoBulk d + 1
  | .slice elems spare => uptoBulkAll elems + uptoBulkAll spare + 1
  | .agg parts => uptoBulkAll parts + 1
  | .iface _ d => uptoBulk d + 1
  | .map entries => uptoBulkEntries entries + 1
  | .held _ => 1
def uptoBulkAll {H : Type} : List (DataW H) → Nat
  | [] => 0
  | d :: r => uptoBulk d + uptoBulkAll r
def uptoBulkEntries {H : Type} : List (Lit × DataW H) → Nat
  | [] => 0
  | x :: r => uptoBulkEntry x + uptoBulkEntries r
def uptoBulkEntry {H : Type} : Lit × DataW H → Nat
  | (.string bytes, d) => bytes.length + uptoBulk d + 1
  | (_, d) => uptoBulk d + 1
 end
def uptoSmall : (H : Type) → List (DataW H) → Bool := fun _ ds => decide (uptoBulkAll ds ≤ 1048576)
def OpenSpec.upto (s : _root_.Go.ChangeSpec) : _root_.Go.OpenSpec := { _root_.Go.OpenSpec.ofChange s with cond := some uptoSmall }

/-- 'waypointlaw06.CompressEffect', WHERE WHAT IT READS IS OF BULK AT MOST 1048576: true; the input reads as it did. -/
def compressEffectUptoRow : OpenClaim := { program := "ytollegfnkaomeaa", sum := "83aedbb059feead57b4398c4eb4ad30c5a47ccadbe29ecb6faf5d99a960e639a", func := "waypoint/waypointlaw06.CompressEffect", spec := "compressEffect", unfollowed := true, recurses := true, plainKeys := false, apart := false, narrowed := true }
def CompressEffectUptoSaid : Prop := compressEffectUptoRow.holds Try.pinned (OpenSpec.upto compressEffectSpec)

/-- 'waypointlaw06.CompressLeast', WHERE WHAT IT READS IS OF BULK AT MOST 1048576: true; the input reads as it did. -/
def compressLeastUptoRow : OpenClaim := { program := "ytollegfnkaomeaa", sum := "83aedbb059feead57b4398c4eb4ad30c5a47ccadbe29ecb6faf5d99a960e639a", func := "waypoint/waypointlaw06.CompressLeast", spec := "compressLeast", unfollowed := true, recurses := true, plainKeys := false, apart := false, narrowed := true }
def CompressLeastUptoSaid : Prop := compressLeastUptoRow.holds Try.pinned (OpenSpec.upto compressLeastSpec)

/-- 'waypointlaw06.CompressAgain', WHERE WHAT IT READS IS OF BULK AT MOST 1048576: true; the input reads as it did. -/
def compressAgainUptoRow : OpenClaim := { program := "ytollegfnkaomeaa", sum := "83aedbb059feead57b4398c4eb4ad30c5a47ccadbe29ecb6faf5d99a960e639a", func := "waypoint/waypointlaw06.CompressAgain", spec := "compressAgain", unfollowed := true, recurses := true, plainKeys := false, apart := false, narrowed := true }
def CompressAgainUptoSaid : Prop := compressAgainUptoRow.holds Try.pinned (OpenSpec.upto compressAgainSpec)

/-- 'waypointlaw06.CompressOrder', WHERE WHAT IT READS IS OF BULK AT MOST 1048576: true; the input reads as it did. -/
def compressOrderUptoRow : OpenClaim := { program := "ytollegfnkaomeaa", sum := "83aedbb059feead57b4398c4eb4ad30c5a47ccadbe29ecb6faf5d99a960e639a", func := "waypoint/waypointlaw06.CompressOrder", spec := "compressOrder", unfollowed := true, recurses := true, plainKeys := false, apart := false, narrowed := true }
def CompressOrderUptoSaid : Prop := compressOrderUptoRow.holds Try.pinned (OpenSpec.upto compressOrderSpec)

/-- 'waypointlaw06.CompressLookup', WHERE WHAT IT READS IS OF BULK AT MOST 1048576: true; the input reads as it did. -/
def compressLookupUptoRow : OpenClaim := { program := "ytollegfnkaomeaa", sum := "83aedbb059feead57b4398c4eb4ad30c5a47ccadbe29ecb6faf5d99a960e639a", func := "waypoint/waypointlaw06.CompressLookup", spec := "compressLookup", unfollowed := true, recurses := true, plainKeys := false, apart := false, narrowed := true }
def CompressLookupUptoSaid : Prop := compressLookupUptoRow.holds Try.pinned (OpenSpec.upto compressLookupSpec)

/-- 'waypointlaw06.CompressTrie', WHERE WHAT IT READS IS OF BULK AT MOST 1048576: true; the input reads as it did. -/
def compressTrieUptoRow : OpenClaim := { program := "ytollegfnkaomeaa", sum := "83aedbb059feead57b4398c4eb4ad30c5a47ccadbe29ecb6faf5d99a960e639a", func := "waypoint/waypointlaw06.CompressTrie", spec := "compressTrie", unfollowed := true, recurses := true, plainKeys := false, apart := false, narrowed := true }
def CompressTrieUptoSaid : Prop := compressTrieUptoRow.holds Try.pinned (OpenSpec.upto compressTrieSpec)

/-- 'waypointlaw06.CompressEqual', WHERE WHAT IT READS IS OF BULK AT MOST 1048576: true; the input reads as it did. -/
def compressEqualUptoRow : OpenClaim := { program := "ytollegfnkaomeaa", sum := "83aedbb059feead57b4398c4eb4ad30c5a47ccadbe29ecb6faf5d99a960e639a", func := "waypoint/waypointlaw06.CompressEqual", spec := "compressEqual", unfollowed := true, recurses := true, plainKeys := false, apart := false, narrowed := true }
def CompressEqualUptoSaid : Prop := compressEqualUptoRow.holds Try.pinned (OpenSpec.upto compressEqualSpec)

end Rows
end Go.Proofs.Ytollegfnkaomeaa
