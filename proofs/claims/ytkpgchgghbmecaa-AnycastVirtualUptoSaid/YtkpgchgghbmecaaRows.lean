/-
  No cell of these rows narrows 'for every input' (looked for: loops, veiled, ifaces, maps, wideKeys, modest, calm, conditions, laid).
  DERIVED. THE GIVEN ROWS OF THIS SEAT. 8 by the template 'for every input the law returns true; each argument reads behind the call as it read before'; 0 by the template 'total and deterministic' (their statements: YtkpgchgghbmecaaTotals.lean).
  GIVEN WITH THE SEED: the statements are not yours to turn. If you find one false, say at which input.
  Laid BY PROGRAM, IN A SANDBOX (cutbox-rows.mjs): the forced cells as the released guide's own fill.sh prints them over the translation e31eb6c65c1984dd… (all of the seat's roots in one cut). By AI agents, Wed Nov 11 2026. No macro, syntax, notation, axiom, sorry.
-/
import Derived.Test.YtkpgchgghbmecaaChecked
import GoSem.Claim
import GoSem.ClaimJoined
import GoSem.ClaimMapViews
import Derived.JoinedTies
import Derived.KernelRfl
namespace Go.Proofs.Ytkpgchgghbmecaa
/- THE CELL 'sum', in the pinned program and in every row, IS THE sha256 OF THE DUMP (.gsa) THAT YtkpgchgghbmecaaProg.lean LOADS. Nothing in Lean hashes anything: it is a label: what it is worth is what the hold of that sum in a sandbox is worth. -/
noncomputable def Try.pinned : Pinned := { name := "ytkpgchgghbmecaa", sum := "e31eb6c65c1984dda1c2fa36658cbc36621dd93dba24cb8e3394b3bac6351d82", checked := Try.checked }
namespace Rows
def none {H : Type} : Left H := { results := [], args := [] }

/-- 'waypointlaw16.AnycastDist': WHATEVER THE INPUT: true; the input reads as it did. -/
def anycastDistSpec : ChangeSpec := { name := "anycastDist", fn := fun _ => fun
  | [d] => { results := [.lit (.bool true)], args := [d] }
  | _ => none }
def anycastDistRow : OpenClaim := { program := "ytkpgchgghbmecaa", sum := "e31eb6c65c1984dda1c2fa36658cbc36621dd93dba24cb8e3394b3bac6351d82", func := "waypoint/waypointlaw16.AnycastDist", spec := "anycastDist", unfollowed := true, recurses := true, apart := false }
def AnycastDistSaid : Prop := anycastDistRow.holds Try.pinned (OpenSpec.ofChange anycastDistSpec)

/-- ITS FALSE NEIGHBOUR: 'it returns false'. Refute it at one input. -/
def anycastDistWrong : ChangeSpec := { name := "anycastDist", fn := fun _ => fun
  | [d] => { results := [.lit (.bool false)], args := [d] }
  | _ => none }
def AnycastDistWrongFalsely : Prop := anycastDistRow.holds Try.pinned (OpenSpec.ofChange anycastDistWrong)

/-- 'waypointlaw16.AnycastNearest': WHATEVER THE INPUT: true; the input reads as it did. -/
def anycastNearestSpec : ChangeSpec := { name := "anycastNearest", fn := fun _ => fun
  | [d] => { results := [.lit (.bool true)], args := [d] }
  | _ => none }
def anycastNearestRow : OpenClaim := { program := "ytkpgchgghbmecaa", sum := "e31eb6c65c1984dda1c2fa36658cbc36621dd93dba24cb8e3394b3bac6351d82", func := "waypoint/waypointlaw16.AnycastNearest", spec := "anycastNearest", unfollowed := true, recurses := true, apart := false }
def AnycastNearestSaid : Prop := anycastNearestRow.holds Try.pinned (OpenSpec.ofChange anycastNearestSpec)

/-- ITS FALSE NEIGHBOUR: 'it returns false'. Refute it at one input. -/
def anycastNearestWrong : ChangeSpec := { name := "anycastNearest", fn := fun _ => fun
  | [d] => { results := [.lit (.bool false)], args := [d] }
  | _ => none }
def AnycastNearestWrongFalsely : Prop := anycastNearestRow.holds Try.pinned (OpenSpec.ofChange anycastNearestWrong)

/-- 'waypointlaw16.AnycastNext': WHATEVER THE INPUT: true; the input reads as it did. -/
def anycastNextSpec : ChangeSpec := { name := "anycastNext", fn := fun _ => fun
  | [d] => { results := [.lit (.bool true)], args := [d] }
  | _ => none }
def anycastNextRow : OpenClaim := { program := "ytkpgchgghbmecaa", sum := "e31eb6c65c1984dda1c2fa36658cbc36621dd93dba24cb8e3394b3bac6351d82", func := "waypoint/waypointlaw16.AnycastNext", spec := "anycastNext", unfollowed := true, recurses := true, apart := false }
def AnycastNextSaid : Prop := anycastNextRow.holds Try.pinned (OpenSpec.ofChange anycastNextSpec)

/-- ITS FALSE NEIGHBOUR: 'it returns false'. Refute it at one input. -/
def anycastNextWrong : ChangeSpec := { name := "anycastNext", fn := fun _ => fun
  | [d] => { results := [.lit (.bool false)], args := [d] }
  | _ => none }
def AnycastNextWrongFalsely : Prop := anycastNextRow.holds Try.pinned (OpenSpec.ofChange anycastNextWrong)

/-- 'waypointlaw16.AnycastDescends': WHATEVER THE INPUT: true; the input reads as it did. -/
def anycastDescendsSpec : ChangeSpec := { name := "anycastDescends", fn := fun _ => fun
  | [d] => { results := [.lit (.bool true)], args := [d] }
  | _ => none }
def anycastDescendsRow : OpenClaim := { program := "ytkpgchgghbmecaa", sum := "e31eb6c65c1984dda1c2fa36658cbc36621dd93dba24cb8e3394b3bac6351d82", func := "waypoint/waypointlaw16.AnycastDescends", spec := "anycastDescends", unfollowed := true, recurses := true, apart := false }
def AnycastDescendsSaid : Prop := anycastDescendsRow.holds Try.pinned (OpenSpec.ofChange anycastDescendsSpec)

/-- ITS FALSE NEIGHBOUR: 'it returns false'. Refute it at one input. -/
def anycastDescendsWrong : ChangeSpec := { name := "anycastDescends", fn := fun _ => fun
  | [d] => { results := [.lit (.bool false)], args := [d] }
  | _ => none }
def AnycastDescendsWrongFalsely : Prop := anycastDescendsRow.holds Try.pinned (OpenSpec.ofChange anycastDescendsWrong)

/-- 'waypointlaw16.AnycastArrives': WHATEVER THE INPUT: true; the input reads as it did. -/
def anycastArrivesSpec : ChangeSpec := { name := "anycastArrives", fn := fun _ => fun
  | [d1, d2] => { results := [.lit (.bool true)], args := [d1, d2] }
  | _ => none }
def anycastArrivesRow : OpenClaim := { program := "ytkpgchgghbmecaa", sum := "e31eb6c65c1984dda1c2fa36658cbc36621dd93dba24cb8e3394b3bac6351d82", func := "waypoint/waypointlaw16.AnycastArrives", spec := "anycastArrives", unfollowed := true, recurses := true, apart := false }
def AnycastArrivesSaid : Prop := anycastArrivesRow.holds Try.pinned (OpenSpec.ofChange anycastArrivesSpec)

/-- ITS FALSE NEIGHBOUR: 'it returns false'. Refute it at one input. -/
def anycastArrivesWrong : ChangeSpec := { name := "anycastArrives", fn := fun _ => fun
  | [d1, d2] => { results := [.lit (.bool false)], args := [d1, d2] }
  | _ => none }
def AnycastArrivesWrongFalsely : Prop := anycastArrivesRow.holds Try.pinned (OpenSpec.ofChange anycastArrivesWrong)

/-- 'waypointlaw16.AnycastOne': WHATEVER THE INPUT: true; the input reads as it did. -/
def anycastOneSpec : ChangeSpec := { name := "anycastOne", fn := fun _ => fun
  | [d] => { results := [.lit (.bool true)], args := [d] }
  | _ => none }
def anycastOneRow : OpenClaim := { program := "ytkpgchgghbmecaa", sum := "e31eb6c65c1984dda1c2fa36658cbc36621dd93dba24cb8e3394b3bac6351d82", func := "waypoint/waypointlaw16.AnycastOne", spec := "anycastOne", unfollowed := true, recurses := true, apart := false }
def AnycastOneSaid : Prop := anycastOneRow.holds Try.pinned (OpenSpec.ofChange anycastOneSpec)

/-- ITS FALSE NEIGHBOUR: 'it returns false'. Refute it at one input. -/
def anycastOneWrong : ChangeSpec := { name := "anycastOne", fn := fun _ => fun
  | [d] => { results := [.lit (.bool false)], args := [d] }
  | _ => none }
def AnycastOneWrongFalsely : Prop := anycastOneRow.holds Try.pinned (OpenSpec.ofChange anycastOneWrong)

/-- 'waypointlaw16.AnycastMore': WHATEVER THE INPUT: true; the input reads as it did. -/
def anycastMoreSpec : ChangeSpec := { name := "anycastMore", fn := fun _ => fun
  | [d] => { results := [.lit (.bool true)], args := [d] }
  | _ => none }
def anycastMoreRow : OpenClaim := { program := "ytkpgchgghbmecaa", sum := "e31eb6c65c1984dda1c2fa36658cbc36621dd93dba24cb8e3394b3bac6351d82", func := "waypoint/waypointlaw16.AnycastMore", spec := "anycastMore", unfollowed := true, recurses := true, apart := false }
def AnycastMoreSaid : Prop := anycastMoreRow.holds Try.pinned (OpenSpec.ofChange anycastMoreSpec)

/-- ITS FALSE NEIGHBOUR: 'it returns false'. Refute it at one input. -/
def anycastMoreWrong : ChangeSpec := { name := "anycastMore", fn := fun _ => fun
  | [d] => { results := [.lit (.bool false)], args := [d] }
  | _ => none }
def AnycastMoreWrongFalsely : Prop := anycastMoreRow.holds Try.pinned (OpenSpec.ofChange anycastMoreWrong)

/-- 'waypointlaw16.AnycastVirtual': WHATEVER THE INPUT: true; the input reads as it did. -/
def anycastVirtualSpec : ChangeSpec := { name := "anycastVirtual", fn := fun _ => fun
  | [d] => { results := [.lit (.bool true)], args := [d] }
  | _ => none }
def anycastVirtualRow : OpenClaim := { program := "ytkpgchgghbmecaa", sum := "e31eb6c65c1984dda1c2fa36658cbc36621dd93dba24cb8e3394b3bac6351d82", func := "waypoint/waypointlaw16.AnycastVirtual", spec := "anycastVirtual", unfollowed := true, recurses := true, apart := false }
def AnycastVirtualSaid : Prop := anycastVirtualRow.holds Try.pinned (OpenSpec.ofChange anycastVirtualSpec)

/-- ITS FALSE NEIGHBOUR: 'it returns false'. Refute it at one input. -/
def anycastVirtualWrong : ChangeSpec := { name := "anycastVirtual", fn := fun _ => fun
  | [d] => { results := [.lit (.bool false)], args := [d] }
  | _ => none }
def AnycastVirtualWrongFalsely : Prop := anycastVirtualRow.holds Try.pinned (OpenSpec.ofChange anycastVirtualWrong)

/- THE SECOND FORM. 'bulk': how many values and letters a reading holds, each counted each time it is reached (what is shared counts as often as it is met; a slice's spare places count too). A statement '..UptoSaid' is the law's where the arguments, and the package variables that the reading takes, are together of bulk at most 1048576: NARROWER than '..Said'. Prove '..Said' where nothing that the law and all that it calls make is longer than what came in: it says more and counts as full. Else prove '..UptoSaid'. A law counts once. -/
mutual
def uptoBulk {H : Type} : DataW H → Nat
  | .lit (.string bytes) => bytes.length + 1
  | .lit _ => 1
  | .nil => 1
  | .ptr d => uptoBulk d + 1
  | .slice elems spare => uptoBulkAll elems + uptoBulkAll spare + 1
  | .agg parts => uptoBulkAll parts + 1
  | .iface _ d => uptoBulk d + 1
  | .map entries => uptoBulkEntries entries + 1
  | .held _ => 1
def uptoBulkAll {H : Type} : List (DataW H) → Nat
  | [] => 0
  | d :: r => uptoBulk d + uptoBulkAll r
def uptoBulkEntries {H : Type} : List (Lit × DataW H) → Nat
  | [] => 0
  | x :: r => uptoBulkEntry x + uptoBulkEntries r
def uptoBulkEntry {H : Type} : Lit × DataW H → Nat
  | (.string bytes, d) => bytes.length + uptoBulk d + 1
  | (_, d) => uptoBulk d + 1
 end
def uptoSmall : (H : Type) → List (DataW H) → Bool := fun _ ds => decide (uptoBulkAll ds ≤ 1048576)
def OpenSpec.upto (s : _root_.Go.ChangeSpec) : _root_.Go.OpenSpec := { _root_.Go.OpenSpec.ofChange s with cond := some uptoSmall }

/-- 'waypointlaw16.AnycastDist', WHERE WHAT IT READS IS OF BULK AT MOST 1048576: true; the input reads as it did. -/
def anycastDistUptoRow : OpenClaim := { program := "ytkpgchgghbmecaa", sum := "e31eb6c65c1984dda1c2fa36658cbc36621dd93dba24cb8e3394b3bac6351d82", func := "waypoint/waypointlaw16.AnycastDist", spec := "anycastDist", unfollowed := true, recurses := true, apart := false, narrowed := true }
def AnycastDistUptoSaid : Prop := anycastDistUptoRow.holds Try.pinned (OpenSpec.upto anycastDistSpec)

/-- 'waypointlaw16.AnycastNearest', WHERE WHAT IT READS IS OF BULK AT MOST 1048576: true; the input reads as it did. -/
def anycastNearestUptoRow : OpenClaim := { program := "ytkpgchgghbmecaa", sum := "e31eb6c65c1984dda1c2fa36658cbc36621dd93dba24cb8e3394b3bac6351d82", func := "waypoint/waypointlaw16.AnycastNearest", spec := "anycastNearest", unfollowed := true, recurses := true, apart := false, narrowed := true }
def AnycastNearestUptoSaid : Prop := anycastNearestUptoRow.holds Try.pinned (OpenSpec.upto anycastNearestSpec)

/-- 'waypointlaw16.AnycastNext', WHERE WHAT IT READS IS OF BULK AT MOST 1048576: true; the input reads as it did. -/
def anycastNextUptoRow : OpenClaim := { program := "ytkpgchgghbmecaa", sum := "e31eb6c65c1984dda1c2fa36658cbc36621dd93dba24cb8e3394b3bac6351d82", func := "waypoint/waypointlaw16.AnycastNext", spec := "anycastNext", unfollowed := true, recurses := true, apart := false, narrowed := true }
def AnycastNextUptoSaid : Prop := anycastNextUptoRow.holds Try.pinned (OpenSpec.upto anycastNextSpec)

/-- 'waypointlaw16.AnycastDescends', WHERE WHAT IT READS IS OF BULK AT MOST 1048576: true; the input reads as it did. -/
def anycastDescendsUptoRow : OpenClaim := { program := "ytkpgchgghbmecaa", sum := "e31eb6c65c1984dda1c2fa36658cbc36621dd93dba24cb8e3394b3bac6351d82", func := "waypoint/waypointlaw16.AnycastDescends", spec := "anycastDescends", unfollowed := true, recurses := true, apart := false, narrowed := true }
def AnycastDescendsUptoSaid : Prop := anycastDescendsUptoRow.holds Try.pinned (OpenSpec.upto anycastDescendsSpec)

/-- 'waypointlaw16.AnycastArrives', WHERE WHAT IT READS IS OF BULK AT MOST 1048576: true; the input reads as it did. -/
def anycastArrivesUptoRow : OpenClaim := { program := "ytkpgchgghbmecaa", sum := "e31eb6c65c1984dda1c2fa36658cbc36621dd93dba24cb8e3394b3bac6351d82", func := "waypoint/waypointlaw16.AnycastArrives", spec := "anycastArrives", unfollowed := true, recurses := true, apart := false, narrowed := true }
def AnycastArrivesUptoSaid : Prop := anycastArrivesUptoRow.holds Try.pinned (OpenSpec.upto anycastArrivesSpec)

/-- 'waypointlaw16.AnycastOne', WHERE WHAT IT READS IS OF BULK AT MOST 1048576: true; the input reads as it did. -/
def anycastOneUptoRow : OpenClaim := { program := "ytkpgchgghbmecaa", sum := "e31eb6c65c1984dda1c2fa36658cbc36621dd93dba24cb8e3394b3bac6351d82", func := "waypoint/waypointlaw16.AnycastOne", spec := "anycastOne", unfollowed := true, recurses := true, apart := false, narrowed := true }
def AnycastOneUptoSaid : Prop := anycastOneUptoRow.holds Try.pinned (OpenSpec.upto anycastOneSpec)

/-- 'waypointlaw16.AnycastMore', WHERE WHAT IT READS IS OF BULK AT MOST 1048576: true; the input reads as it did. -/
def anycastMoreUptoRow : OpenClaim := { program := "ytkpgchgghbmecaa", sum := "e31eb6c65c1984dda1c2fa36658cbc36621dd93dba24cb8e3394b3bac6351d82", func := "waypoint/waypointlaw16.AnycastMore", spec := "anycastMore", unfollowed := true, recurses := true, apart := false, narrowed := true }
def AnycastMoreUptoSaid : Prop := anycastMoreUptoRow.holds Try.pinned (OpenSpec.upto anycastMoreSpec)

/-- 'waypointlaw16.AnycastVirtual', WHERE WHAT IT READS IS OF BULK AT MOST 1048576: true; the input reads as it did. -/
def anycastVirtualUptoRow : OpenClaim := { program := "ytkpgchgghbmecaa", sum := "e31eb6c65c1984dda1c2fa36658cbc36621dd93dba24cb8e3394b3bac6351d82", func := "waypoint/waypointlaw16.AnycastVirtual", spec := "anycastVirtual", unfollowed := true, recurses := true, apart := false, narrowed := true }
def AnycastVirtualUptoSaid : Prop := anycastVirtualUptoRow.holds Try.pinned (OpenSpec.upto anycastVirtualSpec)

end Rows
end Go.Proofs.Ytkpgchgghbmecaa
