/-
  DERIVED. GIVEN WITH THE SEED: THE CARDS: each row of YtohbofilgkdihaaDoorRows.lean that lists a variable, with what it lists TIED to the program's text (the seventh form; the later family's looks); each row that meets fmt, with fmt's text TOLD by the authors' own Lean function (tested against real Go, not proved from fmt's source: count such statements apart). THE CARD IS WHAT COUNTS. Prove the row's statement (the work); the ties are given (YtohbofilgkdihaaDoorTie.lean); close each card by the builder's one call (the guide's Derived/Test/ToyasCard.lean, 'card_holds'). Laid BY PROGRAM, IN A SANDBOX (cutbox-door.mjs). By AI agents, Wed Nov 11 2026. No macro, syntax, notation, axiom, sorry.
-/
import Derived.Test.YtohbofilgkdihaaDoorRows
import GoSem.ClaimSeven
namespace Go.Proofs.YtohbofilgkdihaaDoor
namespace Rows

/-- THE TIED CARD OF 'waypointlaw24.WalkRoutes'. -/
def walkRoutesCard : Claim7 := { stood := { row := walkRoutesRow, standIns := [], harness := (true, "576a9c1b866191e5d1b8885aea4b12f5fa15ac572855d88882a268aeb1dc91fe"), looks := false }, kinds := [], alts := [], laidByText := true, laidKinds := [.data, .data, .data], laidTests := true, laidLooks := .later }
def WalkRoutesCardSaid : Prop := Claim7.holds Tryd.pinned (.plain (OpenSpec.ofChange walkRoutesSpec)) walkRoutesCard

/-- THE TIED CARD OF 'waypointlaw24.WalkVia'. -/
def walkViaCard : Claim7 := { stood := { row := walkViaRow, standIns := [], harness := (true, "576a9c1b866191e5d1b8885aea4b12f5fa15ac572855d88882a268aeb1dc91fe"), looks := false }, kinds := [], alts := [], laidByText := true, laidKinds := [.data, .data, .data], laidTests := true, laidLooks := .later }
def WalkViaCardSaid : Prop := Claim7.holds Tryd.pinned (.plain (OpenSpec.ofChange walkViaSpec)) walkViaCard

/-- THE SECOND FORM's CARD OF 'waypointlaw24.WalkRoutes'. -/
def walkRoutesUptoCard : Claim7 := { stood := { row := walkRoutesUptoRow, standIns := [], harness := (true, "576a9c1b866191e5d1b8885aea4b12f5fa15ac572855d88882a268aeb1dc91fe"), looks := false }, kinds := [], alts := [], laidByText := true, laidKinds := [.data, .data, .data], laidTests := true, laidLooks := .later }
def WalkRoutesUptoCardSaid : Prop := Claim7.holds Tryd.pinned (.plain (OpenSpec.upto walkRoutesSpec)) walkRoutesUptoCard

/-- THE SECOND FORM's CARD OF 'waypointlaw24.WalkVia'. -/
def walkViaUptoCard : Claim7 := { stood := { row := walkViaUptoRow, standIns := [], harness := (true, "576a9c1b866191e5d1b8885aea4b12f5fa15ac572855d88882a268aeb1dc91fe"), looks := false }, kinds := [], alts := [], laidByText := true, laidKinds := [.data, .data, .data], laidTests := true, laidLooks := .later }
def WalkViaUptoCardSaid : Prop := Claim7.holds Tryd.pinned (.plain (OpenSpec.upto walkViaSpec)) walkViaUptoCard
end Rows
end Go.Proofs.YtohbofilgkdihaaDoor
