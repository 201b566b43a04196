/-
  No cell of these rows narrows 'for every input' (looked for: loops, veiled, ifaces, maps, wideKeys, modest, calm, conditions, laid).
  DERIVED. THE GIVEN ROWS OF THIS SEAT. 6 by the template 'for every input the law returns true; each argument reads behind the call as it read before'; 0 by the template 'total and deterministic' (their statements: YtlmddegckmbgkaaTotals.lean).
  GIVEN WITH THE SEED: the statements are not yours to turn. If you find one false, say at which input.
  Laid BY PROGRAM, IN A SANDBOX (cutbox-rows.mjs): the forced cells as the released guide's own fill.sh prints them over the translation 7bd21428f07240a2… (all of the seat's roots in one cut). By AI agents, Wed Nov 11 2026. No macro, syntax, notation, axiom, sorry.
-/
import Derived.Test.YtlmddegckmbgkaaChecked
import GoSem.Claim
import GoSem.ClaimJoined
import GoSem.ClaimMapViews
import Derived.JoinedTies
import Derived.KernelRfl
namespace Go.Proofs.Ytlmddegckmbgkaa
/- THE CELL 'sum', in the pinned program and in every row, IS THE sha256 OF THE DUMP (.gsa) THAT YtlmddegckmbgkaaProg.lean LOADS. Nothing in Lean hashes anything: it is a label: what it is worth is what the hold of that sum in a sandbox is worth. -/
noncomputable def Try.pinned : Pinned := { name := "ytlmddegckmbgkaa", sum := "7bd21428f07240a298fde140e5c48ebfea9dee5eb27dca9767ddeebaef5721e9", checked := Try.checked }
namespace Rows
def none {H : Type} : Left H := { results := [], args := [] }

/-- 'waypointlaw23.ForwardStep': WHATEVER THE INPUT: true; the input reads as it did. -/
def forwardStepSpec : ChangeSpec := { name := "forwardStep", fn := fun _ => fun
  | [d] => { results := [.lit (.bool true)], args := [d] }
  | _ => none }
def forwardStepRow : OpenClaim := { program := "ytlmddegckmbgkaa", sum := "7bd21428f07240a298fde140e5c48ebfea9dee5eb27dca9767ddeebaef5721e9", func := "waypoint/waypointlaw23.ForwardStep", spec := "forwardStep", unfollowed := true, recurses := true, apart := false }
def ForwardStepSaid : Prop := forwardStepRow.holds Try.pinned (OpenSpec.ofChange forwardStepSpec)

/-- ITS FALSE NEIGHBOUR: 'it returns false'. Refute it at one input. -/
def forwardStepWrong : ChangeSpec := { name := "forwardStep", fn := fun _ => fun
  | [d] => { results := [.lit (.bool false)], args := [d] }
  | _ => none }
def ForwardStepWrongFalsely : Prop := forwardStepRow.holds Try.pinned (OpenSpec.ofChange forwardStepWrong)

/-- 'waypointlaw23.ForwardApart': WHATEVER THE INPUT: true; the input reads as it did. -/
def forwardApartSpec : ChangeSpec := { name := "forwardApart", fn := fun _ => fun
  | [d] => { results := [.lit (.bool true)], args := [d] }
  | _ => none }
def forwardApartRow : OpenClaim := { program := "ytlmddegckmbgkaa", sum := "7bd21428f07240a298fde140e5c48ebfea9dee5eb27dca9767ddeebaef5721e9", func := "waypoint/waypointlaw23.ForwardApart", spec := "forwardApart", unfollowed := true, recurses := true, apart := false }
def ForwardApartSaid : Prop := forwardApartRow.holds Try.pinned (OpenSpec.ofChange forwardApartSpec)

/-- ITS FALSE NEIGHBOUR: 'it returns false'. Refute it at one input. -/
def forwardApartWrong : ChangeSpec := { name := "forwardApart", fn := fun _ => fun
  | [d] => { results := [.lit (.bool false)], args := [d] }
  | _ => none }
def ForwardApartWrongFalsely : Prop := forwardApartRow.holds Try.pinned (OpenSpec.ofChange forwardApartWrong)

/-- 'waypointlaw23.ForwardPlain': WHATEVER THE INPUT: true; the input reads as it did. -/
def forwardPlainSpec : ChangeSpec := { name := "forwardPlain", fn := fun _ => fun
  | [d] => { results := [.lit (.bool true)], args := [d] }
  | _ => none }
def forwardPlainRow : OpenClaim := { program := "ytlmddegckmbgkaa", sum := "7bd21428f07240a298fde140e5c48ebfea9dee5eb27dca9767ddeebaef5721e9", func := "waypoint/waypointlaw23.ForwardPlain", spec := "forwardPlain", unfollowed := true, recurses := true, apart := false }
def ForwardPlainSaid : Prop := forwardPlainRow.holds Try.pinned (OpenSpec.ofChange forwardPlainSpec)

/-- ITS FALSE NEIGHBOUR: 'it returns false'. Refute it at one input. -/
def forwardPlainWrong : ChangeSpec := { name := "forwardPlain", fn := fun _ => fun
  | [d] => { results := [.lit (.bool false)], args := [d] }
  | _ => none }
def ForwardPlainWrongFalsely : Prop := forwardPlainRow.holds Try.pinned (OpenSpec.ofChange forwardPlainWrong)

/-- 'waypointlaw23.ForwardReached': WHATEVER THE INPUT: true; the input reads as it did. -/
def forwardReachedSpec : ChangeSpec := { name := "forwardReached", fn := fun _ => fun
  | [d1, d2] => { results := [.lit (.bool true)], args := [d1, d2] }
  | _ => none }
def forwardReachedRow : OpenClaim := { program := "ytlmddegckmbgkaa", sum := "7bd21428f07240a298fde140e5c48ebfea9dee5eb27dca9767ddeebaef5721e9", func := "waypoint/waypointlaw23.ForwardReached", spec := "forwardReached", unfollowed := true, recurses := true, apart := false }
def ForwardReachedSaid : Prop := forwardReachedRow.holds Try.pinned (OpenSpec.ofChange forwardReachedSpec)

/-- ITS FALSE NEIGHBOUR: 'it returns false'. Refute it at one input. -/
def forwardReachedWrong : ChangeSpec := { name := "forwardReached", fn := fun _ => fun
  | [d1, d2] => { results := [.lit (.bool false)], args := [d1, d2] }
  | _ => none }
def ForwardReachedWrongFalsely : Prop := forwardReachedRow.holds Try.pinned (OpenSpec.ofChange forwardReachedWrong)

/-- 'waypointlaw23.ForwardBypass': WHATEVER THE INPUT: true; the input reads as it did. -/
def forwardBypassSpec : ChangeSpec := { name := "forwardBypass", fn := fun _ => fun
  | [d] => { results := [.lit (.bool true)], args := [d] }
  | _ => none }
def forwardBypassRow : OpenClaim := { program := "ytlmddegckmbgkaa", sum := "7bd21428f07240a298fde140e5c48ebfea9dee5eb27dca9767ddeebaef5721e9", func := "waypoint/waypointlaw23.ForwardBypass", spec := "forwardBypass", unfollowed := true, recurses := true, apart := false }
def ForwardBypassSaid : Prop := forwardBypassRow.holds Try.pinned (OpenSpec.ofChange forwardBypassSpec)

/-- ITS FALSE NEIGHBOUR: 'it returns false'. Refute it at one input. -/
def forwardBypassWrong : ChangeSpec := { name := "forwardBypass", fn := fun _ => fun
  | [d] => { results := [.lit (.bool false)], args := [d] }
  | _ => none }
def ForwardBypassWrongFalsely : Prop := forwardBypassRow.holds Try.pinned (OpenSpec.ofChange forwardBypassWrong)

/-- 'waypointlaw23.ForwardBounds': WHATEVER THE INPUT: true; the input reads as it did. -/
def forwardBoundsSpec : ChangeSpec := { name := "forwardBounds", fn := fun _ => fun
  | [d] => { results := [.lit (.bool true)], args := [d] }
  | _ => none }
def forwardBoundsRow : OpenClaim := { program := "ytlmddegckmbgkaa", sum := "7bd21428f07240a298fde140e5c48ebfea9dee5eb27dca9767ddeebaef5721e9", func := "waypoint/waypointlaw23.ForwardBounds", spec := "forwardBounds", unfollowed := true, recurses := true, apart := false }
def ForwardBoundsSaid : Prop := forwardBoundsRow.holds Try.pinned (OpenSpec.ofChange forwardBoundsSpec)

/-- ITS FALSE NEIGHBOUR: 'it returns false'. Refute it at one input. -/
def forwardBoundsWrong : ChangeSpec := { name := "forwardBounds", fn := fun _ => fun
  | [d] => { results := [.lit (.bool false)], args := [d] }
  | _ => none }
def ForwardBoundsWrongFalsely : Prop := forwardBoundsRow.holds Try.pinned (OpenSpec.ofChange forwardBoundsWrong)

/- THE SECOND FORM. 'bulk': how many values and letters a reading holds, each counted each time it is reached (what is shared counts as often as it is met; a slice's spare places count too). A statement '..UptoSaid' is the law's where the arguments, and the package variables that the reading takes, are together of bulk at most 1048576: NARROWER than '..Said'. Prove '..Said' where nothing that the law and all that it calls make is longer than what came in: it says more and counts as full. Else prove '..UptoSaid'. A law counts once. -/
mutual
def uptoBulk {H : Type} : DataW H → Nat
  | .lit (.string bytes) => bytes.length + 1
  | .lit _ => 1
  | .nil => 1
  | .ptr d => uptoBulk d + 1
  | .slice elems spare => uptoBulkAll elems + uptoBulkAll spare + 1
  | .agg parts => uptoBulkAll parts + 1
  | .iface _ d => uptoBulk d + 1
  | .map entries => uptoBulkEntries entries + 1
  | .held _ => 1
def uptoBulkAll {H : Type} : List (DataW H) → Nat
  | [] => 0
  | d :: r => uptoBulk d + uptoBulkAll r
def uptoBulkEntries {H : Type} : List (Lit × DataW H) → Nat
  | [] => 0
  | x :: r => uptoBulkEntry x + uptoBulkEntries r
def uptoBulkEntry {H : Type} : Lit × DataW H → Nat
  | (.string bytes, d) => bytes.length + uptoBulk d + 1
  | (_, d) => uptoBulk d + 1
 end
def uptoSmall : (H : Type) → List (DataW H) → Bool := fun _ ds => decide (uptoBulkAll ds ≤ 1048576)
def OpenSpec.upto (s : _root_.Go.ChangeSpec) : _root_.Go.OpenSpec := { _root_.Go.OpenSpec.ofChange s with cond := some uptoSmall }

/-- 'waypointlaw23.ForwardStep', WHERE WHAT IT READS IS OF BULK AT MOST 1048576: true; the input reads as it did. -/
def forwardStepUptoRow : OpenClaim := { program := "ytlmddegckmbgkaa", sum := "7bd21428f07240a298fde140e5c48ebfea9dee5eb27dca9767ddeebaef5721e9", func := "waypoint/waypointlaw23.ForwardStep", spec := "forwardStep", unfollowed := true, recurses := true, apart := false, narrowed := true }
def ForwardStepUptoSaid : Prop := forwardStepUptoRow.holds Try.pinned (OpenSpec.upto forwardStepSpec)

/-- 'waypointlaw23.ForwardApart', WHERE WHAT IT READS IS OF BULK AT MOST 1048576: true; the input reads as it did. -/
def forwardApartUptoRow : OpenClaim := { program := "ytlmddegckmbgkaa", sum := "7bd21428f07240a298fde140e5c48ebfea9dee5eb27dca9767ddeebaef5721e9", func := "waypoint/waypointlaw23.ForwardApart", spec := "forwardApart", unfollowed := true, recurses := true, apart := false, narrowed := true }
def ForwardApartUptoSaid : Prop := forwardApartUptoRow.holds Try.pinned (OpenSpec.upto forwardApartSpec)

/-- 'waypointlaw23.ForwardPlain', WHERE WHAT IT READS IS OF BULK AT MOST 1048576: true; the input reads as it did. -/
def forwardPlainUptoRow : OpenClaim := { program := "ytlmddegckmbgkaa", sum := "7bd21428f07240a298fde140e5c48ebfea9dee5eb27dca9767ddeebaef5721e9", func := "waypoint/waypointlaw23.ForwardPlain", spec := "forwardPlain", unfollowed := true, recurses := true, apart := false, narrowed := true }
def ForwardPlainUptoSaid : Prop := forwardPlainUptoRow.holds Try.pinned (OpenSpec.upto forwardPlainSpec)

/-- 'waypointlaw23.ForwardReached', WHERE WHAT IT READS IS OF BULK AT MOST 1048576: true; the input reads as it did. -/
def forwardReachedUptoRow : OpenClaim := { program := "ytlmddegckmbgkaa", sum := "7bd21428f07240a298fde140e5c48ebfea9dee5eb27dca9767ddeebaef5721e9", func := "waypoint/waypointlaw23.ForwardReached", spec := "forwardReached", unfollowed := true, recurses := true, apart := false, narrowed := true }
def ForwardReachedUptoSaid : Prop := forwardReachedUptoRow.holds Try.pinned (OpenSpec.upto forwardReachedSpec)

/-- 'waypointlaw23.ForwardBypass', WHERE WHAT IT READS IS OF BULK AT MOST 1048576: true; the input reads as it did. -/
def forwardBypassUptoRow : OpenClaim := { program := "ytlmddegckmbgkaa", sum := "7bd21428f07240a298fde140e5c48ebfea9dee5eb27dca9767ddeebaef5721e9", func := "waypoint/waypointlaw23.ForwardBypass", spec := "forwardBypass", unfollowed := true, recurses := true, apart := false, narrowed := true }
def ForwardBypassUptoSaid : Prop := forwardBypassUptoRow.holds Try.pinned (OpenSpec.upto forwardBypassSpec)

/-- 'waypointlaw23.ForwardBounds', WHERE WHAT IT READS IS OF BULK AT MOST 1048576: true; the input reads as it did. -/
def forwardBoundsUptoRow : OpenClaim := { program := "ytlmddegckmbgkaa", sum := "7bd21428f07240a298fde140e5c48ebfea9dee5eb27dca9767ddeebaef5721e9", func := "waypoint/waypointlaw23.ForwardBounds", spec := "forwardBounds", unfollowed := true, recurses := true, apart := false, narrowed := true }
def ForwardBoundsUptoSaid : Prop := forwardBoundsUptoRow.holds Try.pinned (OpenSpec.upto forwardBoundsSpec)

end Rows
end Go.Proofs.Ytlmddegckmbgkaa
