/-
  No cell of these rows narrows 'for every input' (looked for: loops, veiled, ifaces, maps, wideKeys, modest, calm, conditions, laid).
  DERIVED. THE GIVEN ROWS OF THIS SEAT. 7 by the template 'for every input the law returns true; each argument reads behind the call as it read before'; 0 by the template 'total and deterministic' (their statements: YtllgchplnhaplaaTotals.lean).
  GIVEN WITH THE SEED: the statements are not yours to turn. If you find one false, say at which input.
  Laid BY PROGRAM, IN A SANDBOX (cutbox-rows.mjs): the forced cells as the released guide's own fill.sh prints them over the translation 02de7fbfbfd4f2aa… (all of the seat's roots in one cut). By AI agents, Wed Nov 11 2026. No macro, syntax, notation, axiom, sorry.
-/
import Derived.Test.YtllgchplnhaplaaChecked
import GoSem.Claim
import GoSem.ClaimJoined
import GoSem.ClaimMapViews
import Derived.JoinedTies
import Derived.KernelRfl
namespace Go.Proofs.Ytllgchplnhaplaa
/- THE CELL 'sum', in the pinned program and in every row, IS THE sha256 OF THE DUMP (.gsa) THAT YtllgchplnhaplaaProg.lean LOADS. Nothing in Lean hashes anything: it is a label: what it is worth is what the hold of that sum in a sandbox is worth. -/
noncomputable def Try.pinned : Pinned := { name := "ytllgchplnhaplaa", sum := "02de7fbfbfd4f2aa3e74e6715d4ca925327938015ae6654660e9697f99bb4c04", checked := Try.checked }
namespace Rows
def none {H : Type} : Left H := { results := [], args := [] }

/-- 'waypointlaw14.KpathsShortest': WHATEVER THE INPUT: true; the input reads as it did. -/
def kpathsShortestSpec : ChangeSpec := { name := "kpathsShortest", fn := fun _ => fun
  | [d1, d2] => { results := [.lit (.bool true)], args := [d1, d2] }
  | _ => none }
def kpathsShortestRow : OpenClaim := { program := "ytllgchplnhaplaa", sum := "02de7fbfbfd4f2aa3e74e6715d4ca925327938015ae6654660e9697f99bb4c04", func := "waypoint/waypointlaw14.KpathsShortest", spec := "kpathsShortest", unfollowed := true, recurses := true, apart := false }
def KpathsShortestSaid : Prop := kpathsShortestRow.holds Try.pinned (OpenSpec.ofChange kpathsShortestSpec)

/-- ITS FALSE NEIGHBOUR: 'it returns false'. Refute it at one input. -/
def kpathsShortestWrong : ChangeSpec := { name := "kpathsShortest", fn := fun _ => fun
  | [d1, d2] => { results := [.lit (.bool false)], args := [d1, d2] }
  | _ => none }
def KpathsShortestWrongFalsely : Prop := kpathsShortestRow.holds Try.pinned (OpenSpec.ofChange kpathsShortestWrong)

/-- 'waypointlaw14.KpathsOrder': WHATEVER THE INPUT: true; the input reads as it did. -/
def kpathsOrderSpec : ChangeSpec := { name := "kpathsOrder", fn := fun _ => fun
  | [d1, d2] => { results := [.lit (.bool true)], args := [d1, d2] }
  | _ => none }
def kpathsOrderRow : OpenClaim := { program := "ytllgchplnhaplaa", sum := "02de7fbfbfd4f2aa3e74e6715d4ca925327938015ae6654660e9697f99bb4c04", func := "waypoint/waypointlaw14.KpathsOrder", spec := "kpathsOrder", unfollowed := true, recurses := true, apart := false }
def KpathsOrderSaid : Prop := kpathsOrderRow.holds Try.pinned (OpenSpec.ofChange kpathsOrderSpec)

/-- ITS FALSE NEIGHBOUR: 'it returns false'. Refute it at one input. -/
def kpathsOrderWrong : ChangeSpec := { name := "kpathsOrder", fn := fun _ => fun
  | [d1, d2] => { results := [.lit (.bool false)], args := [d1, d2] }
  | _ => none }
def KpathsOrderWrongFalsely : Prop := kpathsOrderRow.holds Try.pinned (OpenSpec.ofChange kpathsOrderWrong)

/-- 'waypointlaw14.KpathsPrefix': WHATEVER THE INPUT: true; the input reads as it did. -/
def kpathsPrefixSpec : ChangeSpec := { name := "kpathsPrefix", fn := fun _ => fun
  | [d1, d2] => { results := [.lit (.bool true)], args := [d1, d2] }
  | _ => none }
def kpathsPrefixRow : OpenClaim := { program := "ytllgchplnhaplaa", sum := "02de7fbfbfd4f2aa3e74e6715d4ca925327938015ae6654660e9697f99bb4c04", func := "waypoint/waypointlaw14.KpathsPrefix", spec := "kpathsPrefix", unfollowed := true, recurses := true, apart := false }
def KpathsPrefixSaid : Prop := kpathsPrefixRow.holds Try.pinned (OpenSpec.ofChange kpathsPrefixSpec)

/-- ITS FALSE NEIGHBOUR: 'it returns false'. Refute it at one input. -/
def kpathsPrefixWrong : ChangeSpec := { name := "kpathsPrefix", fn := fun _ => fun
  | [d1, d2] => { results := [.lit (.bool false)], args := [d1, d2] }
  | _ => none }
def KpathsPrefixWrongFalsely : Prop := kpathsPrefixRow.holds Try.pinned (OpenSpec.ofChange kpathsPrefixWrong)

/-- 'waypointlaw14.KpathsDelay': WHATEVER THE INPUT: true; the input reads as it did. -/
def kpathsDelaySpec : ChangeSpec := { name := "kpathsDelay", fn := fun _ => fun
  | [d1, d2] => { results := [.lit (.bool true)], args := [d1, d2] }
  | _ => none }
def kpathsDelayRow : OpenClaim := { program := "ytllgchplnhaplaa", sum := "02de7fbfbfd4f2aa3e74e6715d4ca925327938015ae6654660e9697f99bb4c04", func := "waypoint/waypointlaw14.KpathsDelay", spec := "kpathsDelay", unfollowed := true, recurses := true, apart := false }
def KpathsDelaySaid : Prop := kpathsDelayRow.holds Try.pinned (OpenSpec.ofChange kpathsDelaySpec)

/-- ITS FALSE NEIGHBOUR: 'it returns false'. Refute it at one input. -/
def kpathsDelayWrong : ChangeSpec := { name := "kpathsDelay", fn := fun _ => fun
  | [d1, d2] => { results := [.lit (.bool false)], args := [d1, d2] }
  | _ => none }
def KpathsDelayWrongFalsely : Prop := kpathsDelayRow.holds Try.pinned (OpenSpec.ofChange kpathsDelayWrong)

/-- 'waypointlaw14.KpathsMask': WHATEVER THE INPUT: true; the input reads as it did. -/
def kpathsMaskSpec : ChangeSpec := { name := "kpathsMask", fn := fun _ => fun
  | [d1, d2, d3] => { results := [.lit (.bool true)], args := [d1, d2, d3] }
  | _ => none }
def kpathsMaskRow : OpenClaim := { program := "ytllgchplnhaplaa", sum := "02de7fbfbfd4f2aa3e74e6715d4ca925327938015ae6654660e9697f99bb4c04", func := "waypoint/waypointlaw14.KpathsMask", spec := "kpathsMask", unfollowed := true, recurses := true, apart := false }
def KpathsMaskSaid : Prop := kpathsMaskRow.holds Try.pinned (OpenSpec.ofChange kpathsMaskSpec)

/-- ITS FALSE NEIGHBOUR: 'it returns false'. Refute it at one input. -/
def kpathsMaskWrong : ChangeSpec := { name := "kpathsMask", fn := fun _ => fun
  | [d1, d2, d3] => { results := [.lit (.bool false)], args := [d1, d2, d3] }
  | _ => none }
def KpathsMaskWrongFalsely : Prop := kpathsMaskRow.holds Try.pinned (OpenSpec.ofChange kpathsMaskWrong)

/-- 'waypointlaw14.KpathsCompare': WHATEVER THE INPUT: true; the input reads as it did. -/
def kpathsCompareSpec : ChangeSpec := { name := "kpathsCompare", fn := fun _ => fun
  | [d1, d2, d3] => { results := [.lit (.bool true)], args := [d1, d2, d3] }
  | _ => none }
def kpathsCompareRow : OpenClaim := { program := "ytllgchplnhaplaa", sum := "02de7fbfbfd4f2aa3e74e6715d4ca925327938015ae6654660e9697f99bb4c04", func := "waypoint/waypointlaw14.KpathsCompare", spec := "kpathsCompare", unfollowed := true, recurses := true, apart := false }
def KpathsCompareSaid : Prop := kpathsCompareRow.holds Try.pinned (OpenSpec.ofChange kpathsCompareSpec)

/-- ITS FALSE NEIGHBOUR: 'it returns false'. Refute it at one input. -/
def kpathsCompareWrong : ChangeSpec := { name := "kpathsCompare", fn := fun _ => fun
  | [d1, d2, d3] => { results := [.lit (.bool false)], args := [d1, d2, d3] }
  | _ => none }
def KpathsCompareWrongFalsely : Prop := kpathsCompareRow.holds Try.pinned (OpenSpec.ofChange kpathsCompareWrong)

/-- 'waypointlaw14.KpathsComplete': WHATEVER THE INPUT: true; the input reads as it did. -/
def kpathsCompleteSpec : ChangeSpec := { name := "kpathsComplete", fn := fun _ => fun
  | [d1, d2, d3] => { results := [.lit (.bool true)], args := [d1, d2, d3] }
  | _ => none }
def kpathsCompleteRow : OpenClaim := { program := "ytllgchplnhaplaa", sum := "02de7fbfbfd4f2aa3e74e6715d4ca925327938015ae6654660e9697f99bb4c04", func := "waypoint/waypointlaw14.KpathsComplete", spec := "kpathsComplete", unfollowed := true, recurses := true, apart := false }
def KpathsCompleteSaid : Prop := kpathsCompleteRow.holds Try.pinned (OpenSpec.ofChange kpathsCompleteSpec)

/-- ITS FALSE NEIGHBOUR: 'it returns false'. Refute it at one input. -/
def kpathsCompleteWrong : ChangeSpec := { name := "kpathsComplete", fn := fun _ => fun
  | [d1, d2, d3] => { results := [.lit (.bool false)], args := [d1, d2, d3] }
  | _ => none }
def KpathsCompleteWrongFalsely : Prop := kpathsCompleteRow.holds Try.pinned (OpenSpec.ofChange kpathsCompleteWrong)

/- THE SECOND FORM. 'bulk': how many values and letters a reading holds, each counted each time it is reached (what is shared counts as often as it is met; a slice's spare places count too). A statement '..UptoSaid' is the law's where the arguments, and the package variables that the reading takes, are together of bulk at most 1048576: NARROWER than '..Said'. Prove '..Said' where nothing that the law and all that it calls make is longer than what came in: it says more and counts as full. Else prove '..UptoSaid'. A law counts once. -/
mutual
def uptoBulk {H : Type} : DataW H → Nat
  | .lit (.string bytes) => bytes.length + 1
  | .lit _ => 1
  | .nil => 1
  | .ptr d => uptoBulk d + 1
  | .slice elems spare => uptoBulkAll elems + uptoBulkAll spare + 1
  | .agg parts => uptoBulkAll parts + 1
  | .iface _ d => uptoBulk d + 1
  | .map entries => uptoBulkEntries entries + 1
  | .held _ => 1
def uptoBulkAll {H : Type} : List (DataW H) → Nat
  | [] => 0
  | d :: r => uptoBulk d + uptoBulkAll r
def uptoBulkEntries {H : Type} : List (Lit × DataW H) → Nat
  | [] => 0
  | x :: r => uptoBulkEntry x + uptoBulkEntries r
def uptoBulkEntry {H : Type} : Lit × DataW H → Nat
  | (.string bytes, d) => bytes.length + uptoBulk d + 1
  | (_, d) => uptoBulk d + 1
 end
def uptoSmall : (H : Type) → List (DataW H) → Bool := fun _ ds => decide (uptoBulkAll ds ≤ 1048576)
def OpenSpec.upto (s : _root_.Go.ChangeSpec) : _root_.Go.OpenSpec := { _root_.Go.OpenSpec.ofChange s with cond := some uptoSmall }

/-- 'waypointlaw14.KpathsShortest', WHERE WHAT IT READS IS OF BULK AT MOST 1048576: true; the input reads as it did. -/
def kpathsShortestUptoRow : OpenClaim := { program := "ytllgchplnhaplaa", sum := "02de7fbfbfd4f2aa3e74e6715d4ca925327938015ae6654660e9697f99bb4c04", func := "waypoint/waypointlaw14.KpathsShortest", spec := "kpathsShortest", unfollowed := true, recurses := true, apart := false, narrowed := true }
def KpathsShortestUptoSaid : Prop := kpathsShortestUptoRow.holds Try.pinned (OpenSpec.upto kpathsShortestSpec)

/-- 'waypointlaw14.KpathsOrder', WHERE WHAT IT READS IS OF BULK AT MOST 1048576: true; the input reads as it did. -/
def kpathsOrderUptoRow : OpenClaim := { program := "ytllgchplnhaplaa", sum := "02de7fbfbfd4f2aa3e74e6715d4ca925327938015ae6654660e9697f99bb4c04", func := "waypoint/waypointlaw14.KpathsOrder", spec := "kpathsOrder", unfollowed := true, recurses := true, apart := false, narrowed := true }
def KpathsOrderUptoSaid : Prop := kpathsOrderUptoRow.holds Try.pinned (OpenSpec.upto kpathsOrderSpec)

/-- 'waypointlaw14.KpathsPrefix', WHERE WHAT IT READS IS OF BULK AT MOST 1048576: true; the input reads as it did. -/
def kpathsPrefixUptoRow : OpenClaim := { program := "ytllgchplnhaplaa", sum := "02de7fbfbfd4f2aa3e74e6715d4ca925327938015ae6654660e9697f99bb4c04", func := "waypoint/waypointlaw14.KpathsPrefix", spec := "kpathsPrefix", unfollowed := true, recurses := true, apart := false, narrowed := true }
def KpathsPrefixUptoSaid : Prop := kpathsPrefixUptoRow.holds Try.pinned (OpenSpec.upto kpathsPrefixSpec)

/-- 'waypointlaw14.KpathsDelay', WHERE WHAT IT READS IS OF BULK AT MOST 1048576: true; the input reads as it did. -/
def kpathsDelayUptoRow : OpenClaim := { program := "ytllgchplnhaplaa", sum := "02de7fbfbfd4f2aa3e74e6715d4ca925327938015ae6654660e9697f99bb4c04", func := "waypoint/waypointlaw14.KpathsDelay", spec := "kpathsDelay", unfollowed := true, recurses := true, apart := false, narrowed := true }
def KpathsDelayUptoSaid : Prop := kpathsDelayUptoRow.holds Try.pinned (OpenSpec.upto kpathsDelaySpec)

/-- 'waypointlaw14.KpathsMask', WHERE WHAT IT READS IS OF BULK AT MOST 1048576: true; the input reads as it did. -/
def kpathsMaskUptoRow : OpenClaim := { program := "ytllgchplnhaplaa", sum := "02de7fbfbfd4f2aa3e74e6715d4ca925327938015ae6654660e9697f99bb4c04", func := "waypoint/waypointlaw14.KpathsMask", spec := "kpathsMask", unfollowed := true, recurses := true, apart := false, narrowed := true }
def KpathsMaskUptoSaid : Prop := kpathsMaskUptoRow.holds Try.pinned (OpenSpec.upto kpathsMaskSpec)

/-- 'waypointlaw14.KpathsCompare', WHERE WHAT IT READS IS OF BULK AT MOST 1048576: true; the input reads as it did. -/
def kpathsCompareUptoRow : OpenClaim := { program := "ytllgchplnhaplaa", sum := "02de7fbfbfd4f2aa3e74e6715d4ca925327938015ae6654660e9697f99bb4c04", func := "waypoint/waypointlaw14.KpathsCompare", spec := "kpathsCompare", unfollowed := true, recurses := true, apart := false, narrowed := true }
def KpathsCompareUptoSaid : Prop := kpathsCompareUptoRow.holds Try.pinned (OpenSpec.upto kpathsCompareSpec)

/-- 'waypointlaw14.KpathsComplete', WHERE WHAT IT READS IS OF BULK AT MOST 1048576: true; the input reads as it did. -/
def kpathsCompleteUptoRow : OpenClaim := { program := "ytllgchplnhaplaa", sum := "02de7fbfbfd4f2aa3e74e6715d4ca925327938015ae6654660e9697f99bb4c04", func := "waypoint/waypointlaw14.KpathsComplete", spec := "kpathsComplete", unfollowed := true, recurses := true, apart := false, narrowed := true }
def KpathsCompleteUptoSaid : Prop := kpathsCompleteUptoRow.holds Try.pinned (OpenSpec.upto kpathsCompleteSpec)

end Rows
end Go.Proofs.Ytllgchplnhaplaa
