/-
  No cell of these rows narrows 'for every input' (looked for: loops, veiled, ifaces, maps, wideKeys, modest, calm, conditions, laid).
  DERIVED. THE GIVEN ROWS OF THIS SEAT. 7 by the template 'for every input the law returns true; each argument reads behind the call as it read before'; 0 by the template 'total and deterministic' (their statements: YtmcjlpmlnfbjaaaTotals.lean).
  GIVEN WITH THE SEED: the statements are not yours to turn. If you find one false, say at which input.
  Laid BY PROGRAM, IN A SANDBOX (cutbox-rows.mjs): the forced cells as the released guide's own fill.sh prints them over the translation a1f376a0100f38a5… (all of the seat's roots in one cut). By AI agents, Wed Nov 11 2026. No macro, syntax, notation, axiom, sorry.
-/
import Derived.Test.YtmcjlpmlnfbjaaaChecked
import GoSem.Claim
import GoSem.ClaimJoined
import GoSem.ClaimMapViews
import Derived.JoinedTies
import Derived.KernelRfl
namespace Go.Proofs.Ytmcjlpmlnfbjaaa
/- THE CELL 'sum', in the pinned program and in every row, IS THE sha256 OF THE DUMP (.gsa) THAT YtmcjlpmlnfbjaaaProg.lean LOADS. Nothing in Lean hashes anything: it is a label: what it is worth is what the hold of that sum in a sandbox is worth. -/
noncomputable def Try.pinned : Pinned := { name := "ytmcjlpmlnfbjaaa", sum := "a1f376a0100f38a5384cabef12cebf606832bc0b83456f59d1a0762646577dbe", checked := Try.checked }
namespace Rows
def none {H : Type} : Left H := { results := [], args := [] }

/-- 'waypointlaw48.UpdateOrder': WHATEVER THE INPUT: true; the input reads as it did. -/
def updateOrderSpec : ChangeSpec := { name := "updateOrder", fn := fun _ => fun
  | [d1, d2] => { results := [.lit (.bool true)], args := [d1, d2] }
  | _ => none }
def updateOrderRow : OpenClaim := { program := "ytmcjlpmlnfbjaaa", sum := "a1f376a0100f38a5384cabef12cebf606832bc0b83456f59d1a0762646577dbe", func := "waypoint/waypointlaw48.UpdateOrder", spec := "updateOrder", unfollowed := true, recurses := true, apart := false }
def UpdateOrderSaid : Prop := updateOrderRow.holds Try.pinned (OpenSpec.ofChange updateOrderSpec)

/-- ITS FALSE NEIGHBOUR: 'it returns false'. Refute it at one input. -/
def updateOrderWrong : ChangeSpec := { name := "updateOrder", fn := fun _ => fun
  | [d1, d2] => { results := [.lit (.bool false)], args := [d1, d2] }
  | _ => none }
def UpdateOrderWrongFalsely : Prop := updateOrderRow.holds Try.pinned (OpenSpec.ofChange updateOrderWrong)

/-- 'waypointlaw48.UpdateRoom': WHATEVER THE INPUT: true; the input reads as it did. -/
def updateRoomSpec : ChangeSpec := { name := "updateRoom", fn := fun _ => fun
  | [d1, d2] => { results := [.lit (.bool true)], args := [d1, d2] }
  | _ => none }
def updateRoomRow : OpenClaim := { program := "ytmcjlpmlnfbjaaa", sum := "a1f376a0100f38a5384cabef12cebf606832bc0b83456f59d1a0762646577dbe", func := "waypoint/waypointlaw48.UpdateRoom", spec := "updateRoom", unfollowed := true, recurses := true, apart := false }
def UpdateRoomSaid : Prop := updateRoomRow.holds Try.pinned (OpenSpec.ofChange updateRoomSpec)

/-- ITS FALSE NEIGHBOUR: 'it returns false'. Refute it at one input. -/
def updateRoomWrong : ChangeSpec := { name := "updateRoom", fn := fun _ => fun
  | [d1, d2] => { results := [.lit (.bool false)], args := [d1, d2] }
  | _ => none }
def UpdateRoomWrongFalsely : Prop := updateRoomRow.holds Try.pinned (OpenSpec.ofChange updateRoomWrong)

/-- 'waypointlaw48.UpdateLoads': WHATEVER THE INPUT: true; the input reads as it did. -/
def updateLoadsSpec : ChangeSpec := { name := "updateLoads", fn := fun _ => fun
  | [d1, d2, d3] => { results := [.lit (.bool true)], args := [d1, d2, d3] }
  | _ => none }
def updateLoadsRow : OpenClaim := { program := "ytmcjlpmlnfbjaaa", sum := "a1f376a0100f38a5384cabef12cebf606832bc0b83456f59d1a0762646577dbe", func := "waypoint/waypointlaw48.UpdateLoads", spec := "updateLoads", unfollowed := true, recurses := true, apart := false }
def UpdateLoadsSaid : Prop := updateLoadsRow.holds Try.pinned (OpenSpec.ofChange updateLoadsSpec)

/-- ITS FALSE NEIGHBOUR: 'it returns false'. Refute it at one input. -/
def updateLoadsWrong : ChangeSpec := { name := "updateLoads", fn := fun _ => fun
  | [d1, d2, d3] => { results := [.lit (.bool false)], args := [d1, d2, d3] }
  | _ => none }
def UpdateLoadsWrongFalsely : Prop := updateLoadsRow.holds Try.pinned (OpenSpec.ofChange updateLoadsWrong)

/-- 'waypointlaw48.UpdateSafe': WHATEVER THE INPUT: true; the input reads as it did. -/
def updateSafeSpec : ChangeSpec := { name := "updateSafe", fn := fun _ => fun
  | [d1, d2] => { results := [.lit (.bool true)], args := [d1, d2] }
  | _ => none }
def updateSafeRow : OpenClaim := { program := "ytmcjlpmlnfbjaaa", sum := "a1f376a0100f38a5384cabef12cebf606832bc0b83456f59d1a0762646577dbe", func := "waypoint/waypointlaw48.UpdateSafe", spec := "updateSafe", unfollowed := true, recurses := true, apart := false }
def UpdateSafeSaid : Prop := updateSafeRow.holds Try.pinned (OpenSpec.ofChange updateSafeSpec)

/-- ITS FALSE NEIGHBOUR: 'it returns false'. Refute it at one input. -/
def updateSafeWrong : ChangeSpec := { name := "updateSafe", fn := fun _ => fun
  | [d1, d2] => { results := [.lit (.bool false)], args := [d1, d2] }
  | _ => none }
def UpdateSafeWrongFalsely : Prop := updateSafeRow.holds Try.pinned (OpenSpec.ofChange updateSafeWrong)

/-- 'waypointlaw48.UpdateNone': WHATEVER THE INPUT: true; the input reads as it did. -/
def updateNoneSpec : ChangeSpec := { name := "updateNone", fn := fun _ => fun
  | [d1, d2, d3] => { results := [.lit (.bool true)], args := [d1, d2, d3] }
  | _ => none }
def updateNoneRow : OpenClaim := { program := "ytmcjlpmlnfbjaaa", sum := "a1f376a0100f38a5384cabef12cebf606832bc0b83456f59d1a0762646577dbe", func := "waypoint/waypointlaw48.UpdateNone", spec := "updateNone", unfollowed := true, recurses := true, apart := false }
def UpdateNoneSaid : Prop := updateNoneRow.holds Try.pinned (OpenSpec.ofChange updateNoneSpec)

/-- ITS FALSE NEIGHBOUR: 'it returns false'. Refute it at one input. -/
def updateNoneWrong : ChangeSpec := { name := "updateNone", fn := fun _ => fun
  | [d1, d2, d3] => { results := [.lit (.bool false)], args := [d1, d2, d3] }
  | _ => none }
def UpdateNoneWrongFalsely : Prop := updateNoneRow.holds Try.pinned (OpenSpec.ofChange updateNoneWrong)

/-- 'waypointlaw48.UpdateCheck': WHATEVER THE INPUT: true; the input reads as it did. -/
def updateCheckSpec : ChangeSpec := { name := "updateCheck", fn := fun _ => fun
  | [d1, d2, d3] => { results := [.lit (.bool true)], args := [d1, d2, d3] }
  | _ => none }
def updateCheckRow : OpenClaim := { program := "ytmcjlpmlnfbjaaa", sum := "a1f376a0100f38a5384cabef12cebf606832bc0b83456f59d1a0762646577dbe", func := "waypoint/waypointlaw48.UpdateCheck", spec := "updateCheck", unfollowed := true, recurses := true, apart := false }
def UpdateCheckSaid : Prop := updateCheckRow.holds Try.pinned (OpenSpec.ofChange updateCheckSpec)

/-- ITS FALSE NEIGHBOUR: 'it returns false'. Refute it at one input. -/
def updateCheckWrong : ChangeSpec := { name := "updateCheck", fn := fun _ => fun
  | [d1, d2, d3] => { results := [.lit (.bool false)], args := [d1, d2, d3] }
  | _ => none }
def UpdateCheckWrongFalsely : Prop := updateCheckRow.holds Try.pinned (OpenSpec.ofChange updateCheckWrong)

/-- 'waypointlaw48.UpdateReverse': WHATEVER THE INPUT: true; the input reads as it did. -/
def updateReverseSpec : ChangeSpec := { name := "updateReverse", fn := fun _ => fun
  | [d1, d2] => { results := [.lit (.bool true)], args := [d1, d2] }
  | _ => none }
def updateReverseRow : OpenClaim := { program := "ytmcjlpmlnfbjaaa", sum := "a1f376a0100f38a5384cabef12cebf606832bc0b83456f59d1a0762646577dbe", func := "waypoint/waypointlaw48.UpdateReverse", spec := "updateReverse", unfollowed := true, recurses := true, apart := false }
def UpdateReverseSaid : Prop := updateReverseRow.holds Try.pinned (OpenSpec.ofChange updateReverseSpec)

/-- ITS FALSE NEIGHBOUR: 'it returns false'. Refute it at one input. -/
def updateReverseWrong : ChangeSpec := { name := "updateReverse", fn := fun _ => fun
  | [d1, d2] => { results := [.lit (.bool false)], args := [d1, d2] }
  | _ => none }
def UpdateReverseWrongFalsely : Prop := updateReverseRow.holds Try.pinned (OpenSpec.ofChange updateReverseWrong)

/- THE SECOND FORM. 'bulk': how many values and letters a reading holds, each counted each time it is reached (what is shared counts as often as it is met; a slice's spare places count too). A statement '..UptoSaid' is the law's where the arguments, and the package variables that the reading takes, are together of bulk at most 1048576: NARROWER than '..Said'. Prove '..Said' where nothing that the law and all that it calls make is longer than what came in: it says more and counts as full. Else prove '..UptoSaid'. A law counts once. -/
mutual
def uptoBulk {H : Type} : DataW H → Nat
  | .lit (.string bytes) => bytes.length + 1
  | .lit _ => 1
  | .nil => 1
  | .ptr d => uptoBulk d + 1
  | .slice elems spare => uptoBulkAll elems + uptoBulkAll spare + 1
  | .agg parts => uptoBulkAll parts + 1
  | .iface _ d => uptoBulk d + 1
  | .map entries => uptoBulkEntries entries + 1
  | .held _ => 1
def uptoBulkAll {H : Type} : List (DataW H) → Nat
  | [] => 0
  | d :: r => uptoBulk d + uptoBulkAll r
def uptoBulkEntries {H : Type} : List (Lit × DataW H) → Nat
  | [] => 0
  | x :: r => uptoBulkEntry x + uptoBulkEntries r
def uptoBulkEntry {H : Type} : Lit × DataW H → Nat
  | (.string bytes, d) => bytes.length + uptoBulk d + 1
  | (_, d) => uptoBulk d + 1
 end
def uptoSmall : (H : Type) → List (DataW H) → Bool := fun _ ds => decide (uptoBulkAll ds ≤ 1048576)
def OpenSpec.upto (s : _root_.Go.ChangeSpec) : _root_.Go.OpenSpec := { _root_.Go.OpenSpec.ofChange s with cond := some uptoSmall }

/-- 'waypointlaw48.UpdateOrder', WHERE WHAT IT READS IS OF BULK AT MOST 1048576: true; the input reads as it did. -/
def updateOrderUptoRow : OpenClaim := { program := "ytmcjlpmlnfbjaaa", sum := "a1f376a0100f38a5384cabef12cebf606832bc0b83456f59d1a0762646577dbe", func := "waypoint/waypointlaw48.UpdateOrder", spec := "updateOrder", unfollowed := true, recurses := true, apart := false, narrowed := true }
def UpdateOrderUptoSaid : Prop := updateOrderUptoRow.holds Try.pinned (OpenSpec.upto updateOrderSpec)

/-- 'waypointlaw48.UpdateRoom', WHERE WHAT IT READS IS OF BULK AT MOST 1048576: true; the input reads as it did. -/
def updateRoomUptoRow : OpenClaim := { program := "ytmcjlpmlnfbjaaa", sum := "a1f376a0100f38a5384cabef12cebf606832bc0b83456f59d1a0762646577dbe", func := "waypoint/waypointlaw48.UpdateRoom", spec := "updateRoom", unfollowed := true, recurses := true, apart := false, narrowed := true }
def UpdateRoomUptoSaid : Prop := updateRoomUptoRow.holds Try.pinned (OpenSpec.upto updateRoomSpec)

/-- 'waypointlaw48.UpdateLoads', WHERE WHAT IT READS IS OF BULK AT MOST 1048576: true; the input reads as it did. -/
def updateLoadsUptoRow : OpenClaim := { program := "ytmcjlpmlnfbjaaa", sum := "a1f376a0100f38a5384cabef12cebf606832bc0b83456f59d1a0762646577dbe", func := "waypoint/waypointlaw48.UpdateLoads", spec := "updateLoads", unfollowed := true, recurses := true, apart := false, narrowed := true }
def UpdateLoadsUptoSaid : Prop := updateLoadsUptoRow.holds Try.pinned (OpenSpec.upto updateLoadsSpec)

/-- 'waypointlaw48.UpdateSafe', WHERE WHAT IT READS IS OF BULK AT MOST 1048576: true; the input reads as it did. -/
def updateSafeUptoRow : OpenClaim := { program := "ytmcjlpmlnfbjaaa", sum := "a1f376a0100f38a5384cabef12cebf606832bc0b83456f59d1a0762646577dbe", func := "waypoint/waypointlaw48.UpdateSafe", spec := "updateSafe", unfollowed := true, recurses := true, apart := false, narrowed := true }
def UpdateSafeUptoSaid : Prop := updateSafeUptoRow.holds Try.pinned (OpenSpec.upto updateSafeSpec)

/-- 'waypointlaw48.UpdateNone', WHERE WHAT IT READS IS OF BULK AT MOST 1048576: true; the input reads as it did. -/
def updateNoneUptoRow : OpenClaim := { program := "ytmcjlpmlnfbjaaa", sum := "a1f376a0100f38a5384cabef12cebf606832bc0b83456f59d1a0762646577dbe", func := "waypoint/waypointlaw48.UpdateNone", spec := "updateNone", unfollowed := true, recurses := true, apart := false, narrowed := true }
def UpdateNoneUptoSaid : Prop := updateNoneUptoRow.holds Try.pinned (OpenSpec.upto updateNoneSpec)

/-- 'waypointlaw48.UpdateCheck', WHERE WHAT IT READS IS OF BULK AT MOST 1048576: true; the input reads as it did. -/
def updateCheckUptoRow : OpenClaim := { program := "ytmcjlpmlnfbjaaa", sum := "a1f376a0100f38a5384cabef12cebf606832bc0b83456f59d1a0762646577dbe", func := "waypoint/waypointlaw48.UpdateCheck", spec := "updateCheck", unfollowed := true, recurses := true, apart := false, narrowed := true }
def UpdateCheckUptoSaid : Prop := updateCheckUptoRow.holds Try.pinned (OpenSpec.upto updateCheckSpec)

/-- 'waypointlaw48.UpdateReverse', WHERE WHAT IT READS IS OF BULK AT MOST 1048576: true; the input reads as it did. -/
def updateReverseUptoRow : OpenClaim := { program := "ytmcjlpmlnfbjaaa", sum := "a1f376a0100f38a5384cabef12cebf606832bc0b83456f59d1a0762646577dbe", func := "waypoint/waypointlaw48.UpdateReverse", spec := "updateReverse", unfollowed := true, recurses := true, apart := false, narrowed := true }
def UpdateReverseUptoSaid : Prop := updateReverseUptoRow.holds Try.pinned (OpenSpec.upto updateReverseSpec)

end Rows
end Go.Proofs.Ytmcjlpmlnfbjaaa
