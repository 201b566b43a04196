/-
  No cell of these rows narrows 'for every input' (looked for: loops, veiled, ifaces, maps, wideKeys, modest, calm, conditions, laid).
  DERIVED. THE GIVEN ROWS OF THIS SEAT. 6 by the template 'for every input the law returns true; each argument reads behind the call as it read before'; 0 by the template 'total and deterministic' (their statements: YtpmananoicnhlaaTotals.lean).
  GIVEN WITH THE SEED: the statements are not yours to turn. If you find one false, say at which input.
  Laid BY PROGRAM, IN A SANDBOX (cutbox-rows.mjs): the forced cells as the released guide's own fill.sh prints them over the translation c8352a1af0a20b48… (all of the seat's roots in one cut). By AI agents, Wed Nov 11 2026. No macro, syntax, notation, axiom, sorry.
-/
import Derived.Test.YtpmananoicnhlaaChecked
import GoSem.Claim
import GoSem.ClaimJoined
import GoSem.ClaimMapViews
import Derived.JoinedTies
import Derived.KernelRfl
namespace Go.Proofs.Ytpmananoicnhlaa
/- THE CELL 'sum', in the pinned program and in every row, IS THE sha256 OF THE DUMP (.gsa) THAT YtpmananoicnhlaaProg.lean LOADS. Nothing in Lean hashes anything: it is a label: what it is worth is what the hold of that sum in a sandbox is worth. -/
noncomputable def Try.pinned : Pinned := { name := "ytpmananoicnhlaa", sum := "c8352a1af0a20b48bb25d9005dd0f9db126f81b176bb03dad4cd6f919f772ae2", checked := Try.checked }
namespace Rows
def none {H : Type} : Left H := { results := [], args := [] }

/-- 'waypointlaw17.AreaNodes': WHATEVER THE INPUT: true; the input reads as it did. -/
def areaNodesSpec : ChangeSpec := { name := "areaNodes", fn := fun _ => fun
  | [d] => { results := [.lit (.bool true)], args := [d] }
  | _ => none }
def areaNodesRow : OpenClaim := { program := "ytpmananoicnhlaa", sum := "c8352a1af0a20b48bb25d9005dd0f9db126f81b176bb03dad4cd6f919f772ae2", func := "waypoint/waypointlaw17.AreaNodes", spec := "areaNodes", unfollowed := true, recurses := true, apart := false }
def AreaNodesSaid : Prop := areaNodesRow.holds Try.pinned (OpenSpec.ofChange areaNodesSpec)

/-- ITS FALSE NEIGHBOUR: 'it returns false'. Refute it at one input. -/
def areaNodesWrong : ChangeSpec := { name := "areaNodes", fn := fun _ => fun
  | [d] => { results := [.lit (.bool false)], args := [d] }
  | _ => none }
def AreaNodesWrongFalsely : Prop := areaNodesRow.holds Try.pinned (OpenSpec.ofChange areaNodesWrong)

/-- 'waypointlaw17.AreaDist': WHATEVER THE INPUT: true; the input reads as it did. -/
def areaDistSpec : ChangeSpec := { name := "areaDist", fn := fun _ => fun
  | [d] => { results := [.lit (.bool true)], args := [d] }
  | _ => none }
def areaDistRow : OpenClaim := { program := "ytpmananoicnhlaa", sum := "c8352a1af0a20b48bb25d9005dd0f9db126f81b176bb03dad4cd6f919f772ae2", func := "waypoint/waypointlaw17.AreaDist", spec := "areaDist", unfollowed := true, recurses := true, apart := false }
def AreaDistSaid : Prop := areaDistRow.holds Try.pinned (OpenSpec.ofChange areaDistSpec)

/-- ITS FALSE NEIGHBOUR: 'it returns false'. Refute it at one input. -/
def areaDistWrong : ChangeSpec := { name := "areaDist", fn := fun _ => fun
  | [d] => { results := [.lit (.bool false)], args := [d] }
  | _ => none }
def AreaDistWrongFalsely : Prop := areaDistRow.holds Try.pinned (OpenSpec.ofChange areaDistWrong)

/-- 'waypointlaw17.AreaFlat': WHATEVER THE INPUT: true; the input reads as it did. -/
def areaFlatSpec : ChangeSpec := { name := "areaFlat", fn := fun _ => fun
  | [d1, d2] => { results := [.lit (.bool true)], args := [d1, d2] }
  | _ => none }
def areaFlatRow : OpenClaim := { program := "ytpmananoicnhlaa", sum := "c8352a1af0a20b48bb25d9005dd0f9db126f81b176bb03dad4cd6f919f772ae2", func := "waypoint/waypointlaw17.AreaFlat", spec := "areaFlat", unfollowed := true, recurses := true, apart := false }
def AreaFlatSaid : Prop := areaFlatRow.holds Try.pinned (OpenSpec.ofChange areaFlatSpec)

/-- ITS FALSE NEIGHBOUR: 'it returns false'. Refute it at one input. -/
def areaFlatWrong : ChangeSpec := { name := "areaFlat", fn := fun _ => fun
  | [d1, d2] => { results := [.lit (.bool false)], args := [d1, d2] }
  | _ => none }
def AreaFlatWrongFalsely : Prop := areaFlatRow.holds Try.pinned (OpenSpec.ofChange areaFlatWrong)

/-- 'waypointlaw17.AreaNext': WHATEVER THE INPUT: true; the input reads as it did. -/
def areaNextSpec : ChangeSpec := { name := "areaNext", fn := fun _ => fun
  | [d] => { results := [.lit (.bool true)], args := [d] }
  | _ => none }
def areaNextRow : OpenClaim := { program := "ytpmananoicnhlaa", sum := "c8352a1af0a20b48bb25d9005dd0f9db126f81b176bb03dad4cd6f919f772ae2", func := "waypoint/waypointlaw17.AreaNext", spec := "areaNext", unfollowed := true, recurses := true, apart := false }
def AreaNextSaid : Prop := areaNextRow.holds Try.pinned (OpenSpec.ofChange areaNextSpec)

/-- ITS FALSE NEIGHBOUR: 'it returns false'. Refute it at one input. -/
def areaNextWrong : ChangeSpec := { name := "areaNext", fn := fun _ => fun
  | [d] => { results := [.lit (.bool false)], args := [d] }
  | _ => none }
def AreaNextWrongFalsely : Prop := areaNextRow.holds Try.pinned (OpenSpec.ofChange areaNextWrong)

/-- 'waypointlaw17.AreaDescends': WHATEVER THE INPUT: true; the input reads as it did. -/
def areaDescendsSpec : ChangeSpec := { name := "areaDescends", fn := fun _ => fun
  | [d] => { results := [.lit (.bool true)], args := [d] }
  | _ => none }
def areaDescendsRow : OpenClaim := { program := "ytpmananoicnhlaa", sum := "c8352a1af0a20b48bb25d9005dd0f9db126f81b176bb03dad4cd6f919f772ae2", func := "waypoint/waypointlaw17.AreaDescends", spec := "areaDescends", unfollowed := true, recurses := true, apart := false }
def AreaDescendsSaid : Prop := areaDescendsRow.holds Try.pinned (OpenSpec.ofChange areaDescendsSpec)

/-- ITS FALSE NEIGHBOUR: 'it returns false'. Refute it at one input. -/
def areaDescendsWrong : ChangeSpec := { name := "areaDescends", fn := fun _ => fun
  | [d] => { results := [.lit (.bool false)], args := [d] }
  | _ => none }
def AreaDescendsWrongFalsely : Prop := areaDescendsRow.holds Try.pinned (OpenSpec.ofChange areaDescendsWrong)

/-- 'waypointlaw17.AreaArrives': WHATEVER THE INPUT: true; the input reads as it did. -/
def areaArrivesSpec : ChangeSpec := { name := "areaArrives", fn := fun _ => fun
  | [d1, d2] => { results := [.lit (.bool true)], args := [d1, d2] }
  | _ => none }
def areaArrivesRow : OpenClaim := { program := "ytpmananoicnhlaa", sum := "c8352a1af0a20b48bb25d9005dd0f9db126f81b176bb03dad4cd6f919f772ae2", func := "waypoint/waypointlaw17.AreaArrives", spec := "areaArrives", unfollowed := true, recurses := true, apart := false }
def AreaArrivesSaid : Prop := areaArrivesRow.holds Try.pinned (OpenSpec.ofChange areaArrivesSpec)

/-- ITS FALSE NEIGHBOUR: 'it returns false'. Refute it at one input. -/
def areaArrivesWrong : ChangeSpec := { name := "areaArrives", fn := fun _ => fun
  | [d1, d2] => { results := [.lit (.bool false)], args := [d1, d2] }
  | _ => none }
def AreaArrivesWrongFalsely : Prop := areaArrivesRow.holds Try.pinned (OpenSpec.ofChange areaArrivesWrong)

/- THE SECOND FORM. 'bulk': how many values and letters a reading holds, each counted each time it is reached (what is shared counts as often as it is met; a slice's spare places count too). A statement '..UptoSaid' is the law's where the arguments, and the package variables that the reading takes, are together of bulk at most 1048576: NARROWER than '..Said'. Prove '..Said' where nothing that the law and all that it calls make is longer than what came in: it says more and counts as full. Else prove '..UptoSaid'. A law counts once. -/
mutual
def uptoBulk {H : Type} : DataW H → Nat
  | .lit (.string bytes) => bytes.length + 1
  | .lit _ => 1
  | .nil => 1
  | .ptr d => uptoBulk d + 1
  | .slice elems spare => uptoBulkAll elems + uptoBulkAll spare + 1
  | .agg parts => uptoBulkAll parts + 1
  | .iface _ d => uptoBulk d + 1
  | .map entries => uptoBulkEntries entries + 1
  | .held _ => 1
def uptoBulkAll {H : Type} : List (DataW H) → Nat
  | [] => 0
  | d :: r => uptoBulk d + uptoBulkAll r
def uptoBulkEntries {H : Type} : List (Lit × DataW H) → Nat
  | [] => 0
  | x :: r => uptoBulkEntry x + uptoBulkEntries r
def uptoBulkEntry {H : Type} : Lit × DataW H → Nat
  | (.string bytes, d) => bytes.length + uptoBulk d + 1
  | (_, d) => uptoBulk d + 1
 end
def uptoSmall : (H : Type) → List (DataW H) → Bool := fun _ ds => decide (uptoBulkAll ds ≤ 1048576)
def OpenSpec.upto (s : _root_.Go.ChangeSpec) : _root_.Go.OpenSpec := { _root_.Go.OpenSpec.ofChange s with cond := some uptoSmall }

/-- 'waypointlaw17.AreaNodes', WHERE WHAT IT READS IS OF BULK AT MOST 1048576: true; the input reads as it did. -/
def areaNodesUptoRow : OpenClaim := { program := "ytpmananoicnhlaa", sum := "c8352a1af0a20b48bb25d9005dd0f9db126f81b176bb03dad4cd6f919f772ae2", func := "waypoint/waypointlaw17.AreaNodes", spec := "areaNodes", unfollowed := true, recurses := true, apart := false, narrowed := true }
def AreaNodesUptoSaid : Prop := areaNodesUptoRow.holds Try.pinned (OpenSpec.upto areaNodesSpec)

/-- 'waypointlaw17.AreaDist', WHERE WHAT IT READS IS OF BULK AT MOST 1048576: true; the input reads as it did. -/
def areaDistUptoRow : OpenClaim := { program := "ytpmananoicnhlaa", sum := "c8352a1af0a20b48bb25d9005dd0f9db126f81b176bb03dad4cd6f919f772ae2", func := "waypoint/waypointlaw17.AreaDist", spec := "areaDist", unfollowed := true, recurses := true, apart := false, narrowed := true }
def AreaDistUptoSaid : Prop := areaDistUptoRow.holds Try.pinned (OpenSpec.upto areaDistSpec)

/-- 'waypointlaw17.AreaFlat', WHERE WHAT IT READS IS OF BULK AT MOST 1048576: true; the input reads as it did. -/
def areaFlatUptoRow : OpenClaim := { program := "ytpmananoicnhlaa", sum := "c8352a1af0a20b48bb25d9005dd0f9db126f81b176bb03dad4cd6f919f772ae2", func := "waypoint/waypointlaw17.AreaFlat", spec := "areaFlat", unfollowed := true, recurses := true, apart := false, narrowed := true }
def AreaFlatUptoSaid : Prop := areaFlatUptoRow.holds Try.pinned (OpenSpec.upto areaFlatSpec)

/-- 'waypointlaw17.AreaNext', WHERE WHAT IT READS IS OF BULK AT MOST 1048576: true; the input reads as it did. -/
def areaNextUptoRow : OpenClaim := { program := "ytpmananoicnhlaa", sum := "c8352a1af0a20b48bb25d9005dd0f9db126f81b176bb03dad4cd6f919f772ae2", func := "waypoint/waypointlaw17.AreaNext", spec := "areaNext", unfollowed := true, recurses := true, apart := false, narrowed := true }
def AreaNextUptoSaid : Prop := areaNextUptoRow.holds Try.pinned (OpenSpec.upto areaNextSpec)

/-- 'waypointlaw17.AreaDescends', WHERE WHAT IT READS IS OF BULK AT MOST 1048576: true; the input reads as it did. -/
def areaDescendsUptoRow : OpenClaim := { program := "ytpmananoicnhlaa", sum := "c8352a1af0a20b48bb25d9005dd0f9db126f81b176bb03dad4cd6f919f772ae2", func := "waypoint/waypointlaw17.AreaDescends", spec := "areaDescends", unfollowed := true, recurses := true, apart := false, narrowed := true }
def AreaDescendsUptoSaid : Prop := areaDescendsUptoRow.holds Try.pinned (OpenSpec.upto areaDescendsSpec)

/-- 'waypointlaw17.AreaArrives', WHERE WHAT IT READS IS OF BULK AT MOST 1048576: true; the input reads as it did. -/
def areaArrivesUptoRow : OpenClaim := { program := "ytpmananoicnhlaa", sum := "c8352a1af0a20b48bb25d9005dd0f9db126f81b176bb03dad4cd6f919f772ae2", func := "waypoint/waypointlaw17.AreaArrives", spec := "areaArrives", unfollowed := true, recurses := true, apart := false, narrowed := true }
def AreaArrivesUptoSaid : Prop := areaArrivesUptoRow.holds Try.pinned (OpenSpec.upto areaArrivesSpec)

end Rows
end Go.Proofs.Ytpmananoicnhlaa
