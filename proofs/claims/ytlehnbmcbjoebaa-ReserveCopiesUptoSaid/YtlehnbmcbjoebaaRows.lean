/-
  No cell of these rows narrows 'for every input' (looked for: loops, veiled, ifaces, maps, wideKeys, modest, calm, conditions, laid).
  DERIVED. THE GIVEN ROWS OF THIS SEAT. 7 by the template 'for every input the law returns true; each argument reads behind the call as it read before'; 0 by the template 'total and deterministic' (their statements: YtlehnbmcbjoebaaTotals.lean).
  GIVEN WITH THE SEED: the statements are not yours to turn. If you find one false, say at which input.
  Laid BY PROGRAM, IN A SANDBOX (cutbox-rows.mjs): the forced cells as the released guide's own fill.sh prints them over the translation ca47457a4da67449… (all of the seat's roots in one cut). By AI agents, Wed Nov 11 2026. No macro, syntax, notation, axiom, sorry.
-/
import Derived.Test.YtlehnbmcbjoebaaChecked
import GoSem.Claim
import GoSem.ClaimJoined
import GoSem.ClaimMapViews
import Derived.JoinedTies
import Derived.KernelRfl
namespace Go.Proofs.Ytlehnbmcbjoebaa
/- THE CELL 'sum', in the pinned program and in every row, IS THE sha256 OF THE DUMP (.gsa) THAT YtlehnbmcbjoebaaProg.lean LOADS. Nothing in Lean hashes anything: it is a label: what it is worth is what the hold of that sum in a sandbox is worth. -/
noncomputable def Try.pinned : Pinned := { name := "ytlehnbmcbjoebaa", sum := "ca47457a4da674497af66f68f4f0d11e1670d1adc16834ddf7201409064a2f1b", checked := Try.checked }
namespace Rows
def none {H : Type} : Left H := { results := [], args := [] }

/-- 'waypointlaw47.ReserveLower': WHATEVER THE INPUT: true; the input reads as it did. -/
def reserveLowerSpec : ChangeSpec := { name := "reserveLower", fn := fun _ => fun
  | [d1, d2, d3] => { results := [.lit (.bool true)], args := [d1, d2, d3] }
  | _ => none }
def reserveLowerRow : OpenClaim := { program := "ytlehnbmcbjoebaa", sum := "ca47457a4da674497af66f68f4f0d11e1670d1adc16834ddf7201409064a2f1b", func := "waypoint/waypointlaw47.ReserveLower", spec := "reserveLower", unfollowed := true, recurses := true, apart := false }
def ReserveLowerSaid : Prop := reserveLowerRow.holds Try.pinned (OpenSpec.ofChange reserveLowerSpec)

/-- ITS FALSE NEIGHBOUR: 'it returns false'. Refute it at one input. -/
def reserveLowerWrong : ChangeSpec := { name := "reserveLower", fn := fun _ => fun
  | [d1, d2, d3] => { results := [.lit (.bool false)], args := [d1, d2, d3] }
  | _ => none }
def ReserveLowerWrongFalsely : Prop := reserveLowerRow.holds Try.pinned (OpenSpec.ofChange reserveLowerWrong)

/-- 'waypointlaw47.ReserveScript': WHATEVER THE INPUT: true; the input reads as it did. -/
def reserveScriptSpec : ChangeSpec := { name := "reserveScript", fn := fun _ => fun
  | [d1, d2] => { results := [.lit (.bool true)], args := [d1, d2] }
  | _ => none }
def reserveScriptRow : OpenClaim := { program := "ytlehnbmcbjoebaa", sum := "ca47457a4da674497af66f68f4f0d11e1670d1adc16834ddf7201409064a2f1b", func := "waypoint/waypointlaw47.ReserveScript", spec := "reserveScript", unfollowed := true, recurses := true, apart := false }
def ReserveScriptSaid : Prop := reserveScriptRow.holds Try.pinned (OpenSpec.ofChange reserveScriptSpec)

/-- ITS FALSE NEIGHBOUR: 'it returns false'. Refute it at one input. -/
def reserveScriptWrong : ChangeSpec := { name := "reserveScript", fn := fun _ => fun
  | [d1, d2] => { results := [.lit (.bool false)], args := [d1, d2] }
  | _ => none }
def ReserveScriptWrongFalsely : Prop := reserveScriptRow.holds Try.pinned (OpenSpec.ofChange reserveScriptWrong)

/-- 'waypointlaw47.ReserveCapacity': WHATEVER THE INPUT: true; the input reads as it did. -/
def reserveCapacitySpec : ChangeSpec := { name := "reserveCapacity", fn := fun _ => fun
  | [d1, d2] => { results := [.lit (.bool true)], args := [d1, d2] }
  | _ => none }
def reserveCapacityRow : OpenClaim := { program := "ytlehnbmcbjoebaa", sum := "ca47457a4da674497af66f68f4f0d11e1670d1adc16834ddf7201409064a2f1b", func := "waypoint/waypointlaw47.ReserveCapacity", spec := "reserveCapacity", unfollowed := true, recurses := true, apart := false }
def ReserveCapacitySaid : Prop := reserveCapacityRow.holds Try.pinned (OpenSpec.ofChange reserveCapacitySpec)

/-- ITS FALSE NEIGHBOUR: 'it returns false'. Refute it at one input. -/
def reserveCapacityWrong : ChangeSpec := { name := "reserveCapacity", fn := fun _ => fun
  | [d1, d2] => { results := [.lit (.bool false)], args := [d1, d2] }
  | _ => none }
def ReserveCapacityWrongFalsely : Prop := reserveCapacityRow.holds Try.pinned (OpenSpec.ofChange reserveCapacityWrong)

/-- 'waypointlaw47.ReservePriority': WHATEVER THE INPUT: true; the input reads as it did. -/
def reservePrioritySpec : ChangeSpec := { name := "reservePriority", fn := fun _ => fun
  | [d1, d2, d3] => { results := [.lit (.bool true)], args := [d1, d2, d3] }
  | _ => none }
def reservePriorityRow : OpenClaim := { program := "ytlehnbmcbjoebaa", sum := "ca47457a4da674497af66f68f4f0d11e1670d1adc16834ddf7201409064a2f1b", func := "waypoint/waypointlaw47.ReservePriority", spec := "reservePriority", unfollowed := true, recurses := true, apart := false }
def ReservePrioritySaid : Prop := reservePriorityRow.holds Try.pinned (OpenSpec.ofChange reservePrioritySpec)

/-- ITS FALSE NEIGHBOUR: 'it returns false'. Refute it at one input. -/
def reservePriorityWrong : ChangeSpec := { name := "reservePriority", fn := fun _ => fun
  | [d1, d2, d3] => { results := [.lit (.bool false)], args := [d1, d2, d3] }
  | _ => none }
def ReservePriorityWrongFalsely : Prop := reservePriorityRow.holds Try.pinned (OpenSpec.ofChange reservePriorityWrong)

/-- 'waypointlaw47.ReserveFree': WHATEVER THE INPUT: true; the input reads as it did. -/
def reserveFreeSpec : ChangeSpec := { name := "reserveFree", fn := fun _ => fun
  | [d1, d2, d3] => { results := [.lit (.bool true)], args := [d1, d2, d3] }
  | _ => none }
def reserveFreeRow : OpenClaim := { program := "ytlehnbmcbjoebaa", sum := "ca47457a4da674497af66f68f4f0d11e1670d1adc16834ddf7201409064a2f1b", func := "waypoint/waypointlaw47.ReserveFree", spec := "reserveFree", unfollowed := true, recurses := true, apart := false }
def ReserveFreeSaid : Prop := reserveFreeRow.holds Try.pinned (OpenSpec.ofChange reserveFreeSpec)

/-- ITS FALSE NEIGHBOUR: 'it returns false'. Refute it at one input. -/
def reserveFreeWrong : ChangeSpec := { name := "reserveFree", fn := fun _ => fun
  | [d1, d2, d3] => { results := [.lit (.bool false)], args := [d1, d2, d3] }
  | _ => none }
def ReserveFreeWrongFalsely : Prop := reserveFreeRow.holds Try.pinned (OpenSpec.ofChange reserveFreeWrong)

/-- 'waypointlaw47.ReserveCopies': WHATEVER THE INPUT: true; the input reads as it did. -/
def reserveCopiesSpec : ChangeSpec := { name := "reserveCopies", fn := fun _ => fun
  | [d1, d2, d3] => { results := [.lit (.bool true)], args := [d1, d2, d3] }
  | _ => none }
def reserveCopiesRow : OpenClaim := { program := "ytlehnbmcbjoebaa", sum := "ca47457a4da674497af66f68f4f0d11e1670d1adc16834ddf7201409064a2f1b", func := "waypoint/waypointlaw47.ReserveCopies", spec := "reserveCopies", unfollowed := true, recurses := true, apart := false }
def ReserveCopiesSaid : Prop := reserveCopiesRow.holds Try.pinned (OpenSpec.ofChange reserveCopiesSpec)

/-- ITS FALSE NEIGHBOUR: 'it returns false'. Refute it at one input. -/
def reserveCopiesWrong : ChangeSpec := { name := "reserveCopies", fn := fun _ => fun
  | [d1, d2, d3] => { results := [.lit (.bool false)], args := [d1, d2, d3] }
  | _ => none }
def ReserveCopiesWrongFalsely : Prop := reserveCopiesRow.holds Try.pinned (OpenSpec.ofChange reserveCopiesWrong)

/-- 'waypointlaw47.ReserveErrors': WHATEVER THE INPUT: true; the input reads as it did. -/
def reserveErrorsSpec : ChangeSpec := { name := "reserveErrors", fn := fun _ => fun
  | [d1, d2] => { results := [.lit (.bool true)], args := [d1, d2] }
  | _ => none }
def reserveErrorsRow : OpenClaim := { program := "ytlehnbmcbjoebaa", sum := "ca47457a4da674497af66f68f4f0d11e1670d1adc16834ddf7201409064a2f1b", func := "waypoint/waypointlaw47.ReserveErrors", spec := "reserveErrors", unfollowed := true, recurses := true, apart := false }
def ReserveErrorsSaid : Prop := reserveErrorsRow.holds Try.pinned (OpenSpec.ofChange reserveErrorsSpec)

/-- ITS FALSE NEIGHBOUR: 'it returns false'. Refute it at one input. -/
def reserveErrorsWrong : ChangeSpec := { name := "reserveErrors", fn := fun _ => fun
  | [d1, d2] => { results := [.lit (.bool false)], args := [d1, d2] }
  | _ => none }
def ReserveErrorsWrongFalsely : Prop := reserveErrorsRow.holds Try.pinned (OpenSpec.ofChange reserveErrorsWrong)

/- THE SECOND FORM. 'bulk': how many values and letters a reading holds, each counted each time it is reached (what is shared counts as often as it is met; a slice's spare places count too). A statement '..UptoSaid' is the law's where the arguments, and the package variables that the reading takes, are together of bulk at most 1048576: NARROWER than '..Said'. Prove '..Said' where nothing that the law and all that it calls make is longer than what came in: it says more and counts as full. Else prove '..UptoSaid'. A law counts once. -/
mutual
def uptoBulk {H : Type} : DataW H → Nat
  | .lit (.string bytes) => bytes.length + 1
  | .lit _ => 1
  | .nil => 1
  | .ptr d => uptoBulk d + 1
  | .slice elems spare => uptoBulkAll elems + uptoBulkAll spare + 1
  | .agg parts => uptoBulkAll parts + 1
  | .iface _ d => uptoBulk d + 1
  | .map entries => uptoBulkEntries entries + 1
  | .held _ => 1
def uptoBulkAll {H : Type} : List (DataW H) → Nat
  | [] => 0
  | d :: r => uptoBulk d + uptoBulkAll r
def uptoBulkEntries {H : Type} : List (Lit × DataW H) → Nat
  | [] => 0
  | x :: r => uptoBulkEntry x + uptoBulkEntries r
def uptoBulkEntry {H : Type} : Lit × DataW H → Nat
  | (.string bytes, d) => bytes.length + uptoBulk d + 1
  | (_, d) => uptoBulk d + 1
 end
def uptoSmall : (H : Type) → List (DataW H) → Bool := fun _ ds => decide (uptoBulkAll ds ≤ 1048576)
def OpenSpec.upto (s : _root_.Go.ChangeSpec) : _root_.Go.OpenSpec := { _root_.Go.OpenSpec.ofChange s with cond := some uptoSmall }

/-- 'waypointlaw47.ReserveLower', WHERE WHAT IT READS IS OF BULK AT MOST 1048576: true; the input reads as it did. -/
def reserveLowerUptoRow : OpenClaim := { program := "ytlehnbmcbjoebaa", sum := "ca47457a4da674497af66f68f4f0d11e1670d1adc16834ddf7201409064a2f1b", func := "waypoint/waypointlaw47.ReserveLower", spec := "reserveLower", unfollowed := true, recurses := true, apart := false, narrowed := true }
def ReserveLowerUptoSaid : Prop := reserveLowerUptoRow.holds Try.pinned (OpenSpec.upto reserveLowerSpec)

/-- 'waypointlaw47.ReserveScript', WHERE WHAT IT READS IS OF BULK AT MOST 1048576: true; the input reads as it did. -/
def reserveScriptUptoRow : OpenClaim := { program := "ytlehnbmcbjoebaa", sum := "ca47457a4da674497af66f68f4f0d11e1670d1adc16834ddf7201409064a2f1b", func := "waypoint/waypointlaw47.ReserveScript", spec := "reserveScript", unfollowed := true, recurses := true, apart := false, narrowed := true }
def ReserveScriptUptoSaid : Prop := reserveScriptUptoRow.holds Try.pinned (OpenSpec.upto reserveScriptSpec)

/-- 'waypointlaw47.ReserveCapacity', WHERE WHAT IT READS IS OF BULK AT MOST 1048576: true; the input reads as it did. -/
def reserveCapacityUptoRow : OpenClaim := { program := "ytlehnbmcbjoebaa", sum := "ca47457a4da674497af66f68f4f0d11e1670d1adc16834ddf7201409064a2f1b", func := "waypoint/waypointlaw47.ReserveCapacity", spec := "reserveCapacity", unfollowed := true, recurses := true, apart := false, narrowed := true }
def ReserveCapacityUptoSaid : Prop := reserveCapacityUptoRow.holds Try.pinned (OpenSpec.upto reserveCapacitySpec)

/-- 'waypointlaw47.ReservePriority', WHERE WHAT IT READS IS OF BULK AT MOST 1048576: true; the input reads as it did. -/
def reservePriorityUptoRow : OpenClaim := { program := "ytlehnbmcbjoebaa", sum := "ca47457a4da674497af66f68f4f0d11e1670d1adc16834ddf7201409064a2f1b", func := "waypoint/waypointlaw47.ReservePriority", spec := "reservePriority", unfollowed := true, recurses := true, apart := false, narrowed := true }
def ReservePriorityUptoSaid : Prop := reservePriorityUptoRow.holds Try.pinned (OpenSpec.upto reservePrioritySpec)

/-- 'waypointlaw47.ReserveFree', WHERE WHAT IT READS IS OF BULK AT MOST 1048576: true; the input reads as it did. -/
def reserveFreeUptoRow : OpenClaim := { program := "ytlehnbmcbjoebaa", sum := "ca47457a4da674497af66f68f4f0d11e1670d1adc16834ddf7201409064a2f1b", func := "waypoint/waypointlaw47.ReserveFree", spec := "reserveFree", unfollowed := true, recurses := true, apart := false, narrowed := true }
def ReserveFreeUptoSaid : Prop := reserveFreeUptoRow.holds Try.pinned (OpenSpec.upto reserveFreeSpec)

/-- 'waypointlaw47.ReserveCopies', WHERE WHAT IT READS IS OF BULK AT MOST 1048576: true; the input reads as it did. -/
def reserveCopiesUptoRow : OpenClaim := { program := "ytlehnbmcbjoebaa", sum := "ca47457a4da674497af66f68f4f0d11e1670d1adc16834ddf7201409064a2f1b", func := "waypoint/waypointlaw47.ReserveCopies", spec := "reserveCopies", unfollowed := true, recurses := true, apart := false, narrowed := true }
def ReserveCopiesUptoSaid : Prop := reserveCopiesUptoRow.holds Try.pinned (OpenSpec.upto reserveCopiesSpec)

/-- 'waypointlaw47.ReserveErrors', WHERE WHAT IT READS IS OF BULK AT MOST 1048576: true; the input reads as it did. -/
def reserveErrorsUptoRow : OpenClaim := { program := "ytlehnbmcbjoebaa", sum := "ca47457a4da674497af66f68f4f0d11e1670d1adc16834ddf7201409064a2f1b", func := "waypoint/waypointlaw47.ReserveErrors", spec := "reserveErrors", unfollowed := true, recurses := true, apart := false, narrowed := true }
def ReserveErrorsUptoSaid : Prop := reserveErrorsUptoRow.holds Try.pinned (OpenSpec.upto reserveErrorsSpec)

end Rows
end Go.Proofs.Ytlehnbmcbjoebaa
