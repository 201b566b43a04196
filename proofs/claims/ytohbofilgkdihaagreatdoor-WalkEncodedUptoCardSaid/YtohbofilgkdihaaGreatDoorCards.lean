/-
  DERIVED. GIVEN WITH THE SEED: THE CARDS: each row of YtohbofilgkdihaaGreatDoorRows.lean that lists a variable, with what it lists TIED to the program's text (the seventh form; the later family's looks); each row that meets fmt, with fmt's text TOLD by the authors' own Lean function (tested against real Go, not proved from fmt's source: count such statements apart). THE CARD IS WHAT COUNTS. Prove the row's statement (the work); the ties are given (YtohbofilgkdihaaGreatDoorTie.lean); close each card by the builder's one call (the guide's Derived/Test/ToyasCard.lean, 'card_holds'). Laid BY PROGRAM, IN A SANDBOX (cutbox-door.mjs). By AI agents, Wed Nov 11 2026. No macro, syntax, notation, axiom, sorry.
-/
import Derived.Test.YtohbofilgkdihaaGreatDoorRows
import GoSem.ClaimSeven
namespace Go.Proofs.YtohbofilgkdihaaGreatDoor
namespace Rows

/-- THE TIED CARD OF 'waypointlaw24.WalkAll'. -/
def walkAllCard : Claim7 := { stood := { row := walkAllRow, standIns := [], harness := (true, "c416e0dbb6c4d5943a9059a7264f1e4e78710c4e182cf70c8a8ea3a7356376c7"), looks := false }, kinds := [], alts := [], laidByText := true, laidKinds := [.data, .data, .data], laidTests := true, laidLooks := .later }
def WalkAllCardSaid : Prop := Claim7.holds Tryz.pinned (.plain (OpenSpec.ofChange walkAllSpec)) walkAllCard

/-- THE TIED CARD OF 'waypointlaw24.WalkLinks'. -/
def walkLinksCard : Claim7 := { stood := { row := walkLinksRow, standIns := [], harness := (true, "c416e0dbb6c4d5943a9059a7264f1e4e78710c4e182cf70c8a8ea3a7356376c7"), looks := false }, kinds := [], alts := [], laidByText := true, laidKinds := [.data, .data, .data], laidTests := true, laidLooks := .later }
def WalkLinksCardSaid : Prop := Claim7.holds Tryz.pinned (.plain (OpenSpec.ofChange walkLinksSpec)) walkLinksCard

/-- THE TIED CARD OF 'waypointlaw24.WalkEncoded'. -/
def walkEncodedCard : Claim7 := { stood := { row := walkEncodedRow, standIns := [], harness := (true, "c416e0dbb6c4d5943a9059a7264f1e4e78710c4e182cf70c8a8ea3a7356376c7"), looks := false }, kinds := [], alts := [], laidByText := true, laidKinds := [.data, .data, .data], laidTests := true, laidLooks := .later }
def WalkEncodedCardSaid : Prop := Claim7.holds Tryz.pinned (.plain (OpenSpec.ofChange walkEncodedSpec)) walkEncodedCard

/-- THE TIED CARD OF 'waypointlaw24.WalkOne'. -/
def walkOneCard : Claim7 := { stood := { row := walkOneRow, standIns := [], harness := (true, "c416e0dbb6c4d5943a9059a7264f1e4e78710c4e182cf70c8a8ea3a7356376c7"), looks := false }, kinds := [], alts := [], laidByText := true, laidKinds := [.data, .data, .data], laidTests := true, laidLooks := .later }
def WalkOneCardSaid : Prop := Claim7.holds Tryz.pinned (.plain (OpenSpec.ofChange walkOneSpec)) walkOneCard

/-- THE TIED CARD OF 'waypointlaw24.WalkAsked'. -/
def walkAskedCard : Claim7 := { stood := { row := walkAskedRow, standIns := [], harness := (true, "c416e0dbb6c4d5943a9059a7264f1e4e78710c4e182cf70c8a8ea3a7356376c7"), looks := false }, kinds := [], alts := [], laidByText := true, laidKinds := [.data, .data, .data], laidTests := true, laidLooks := .later }
def WalkAskedCardSaid : Prop := Claim7.holds Tryz.pinned (.plain (OpenSpec.ofChange walkAskedSpec)) walkAskedCard

/-- THE TIED CARD OF 'waypointlaw24.WalkAmong'. -/
def walkAmongCard : Claim7 := { stood := { row := walkAmongRow, standIns := [], harness := (true, "c416e0dbb6c4d5943a9059a7264f1e4e78710c4e182cf70c8a8ea3a7356376c7"), looks := false }, kinds := [], alts := [], laidByText := true, laidKinds := [.data, .data, .data], laidTests := true, laidLooks := .later }
def WalkAmongCardSaid : Prop := Claim7.holds Tryz.pinned (.plain (OpenSpec.ofChange walkAmongSpec)) walkAmongCard

/-- THE SECOND FORM's CARD OF 'waypointlaw24.WalkAll'. -/
def walkAllUptoCard : Claim7 := { stood := { row := walkAllUptoRow, standIns := [], harness := (true, "c416e0dbb6c4d5943a9059a7264f1e4e78710c4e182cf70c8a8ea3a7356376c7"), looks := false }, kinds := [], alts := [], laidByText := true, laidKinds := [.data, .data, .data], laidTests := true, laidLooks := .later }
def WalkAllUptoCardSaid : Prop := Claim7.holds Tryz.pinned (.plain (OpenSpec.upto walkAllSpec)) walkAllUptoCard

/-- THE SECOND FORM's CARD OF 'waypointlaw24.WalkLinks'. -/
def walkLinksUptoCard : Claim7 := { stood := { row := walkLinksUptoRow, standIns := [], harness := (true, "c416e0dbb6c4d5943a9059a7264f1e4e78710c4e182cf70c8a8ea3a7356376c7"), looks := false }, kinds := [], alts := [], laidByText := true, laidKinds := [.data, .data, .data], laidTests := true, laidLooks := .later }
def WalkLinksUptoCardSaid : Prop := Claim7.holds Tryz.pinned (.plain (OpenSpec.upto walkLinksSpec)) walkLinksUptoCard

/-- THE SECOND FORM's CARD OF 'waypointlaw24.WalkEncoded'. -/
def walkEncodedUptoCard : Claim7 := { stood := { row := walkEncodedUptoRow, standIns := [], harness := (true, "c416e0dbb6c4d5943a9059a7264f1e4e78710c4e182cf70c8a8ea3a7356376c7"), looks := false }, kinds := [], alts := [], laidByText := true, laidKinds := [.data, .data, .data], laidTests := true, laidLooks := .later }
def WalkEncodedUptoCardSaid : Prop := Claim7.holds Tryz.pinned (.plain (OpenSpec.upto walkEncodedSpec)) walkEncodedUptoCard

/-- THE SECOND FORM's CARD OF 'waypointlaw24.WalkOne'. -/
def walkOneUptoCard : Claim7 := { stood := { row := walkOneUptoRow, standIns := [], harness := (true, "c416e0dbb6c4d5943a9059a7264f1e4e78710c4e182cf70c8a8ea3a7356376c7"), looks := false }, kinds := [], alts := [], laidByText := true, laidKinds := [.data, .data, .data], laidTests := true, laidLooks := .later }
def WalkOneUptoCardSaid : Prop := Claim7.holds Tryz.pinned (.plain (OpenSpec.upto walkOneSpec)) walkOneUptoCard

/-- THE SECOND FORM's CARD OF 'waypointlaw24.WalkAsked'. -/
def walkAskedUptoCard : Claim7 := { stood := { row := walkAskedUptoRow, standIns := [], harness := (true, "c416e0dbb6c4d5943a9059a7264f1e4e78710c4e182cf70c8a8ea3a7356376c7"), looks := false }, kinds := [], alts := [], laidByText := true, laidKinds := [.data, .data, .data], laidTests := true, laidLooks := .later }
def WalkAskedUptoCardSaid : Prop := Claim7.holds Tryz.pinned (.plain (OpenSpec.upto walkAskedSpec)) walkAskedUptoCard

/-- THE SECOND FORM's CARD OF 'waypointlaw24.WalkAmong'. -/
def walkAmongUptoCard : Claim7 := { stood := { row := walkAmongUptoRow, standIns := [], harness := (true, "c416e0dbb6c4d5943a9059a7264f1e4e78710c4e182cf70c8a8ea3a7356376c7"), looks := false }, kinds := [], alts := [], laidByText := true, laidKinds := [.data, .data, .data], laidTests := true, laidLooks := .later }
def WalkAmongUptoCardSaid : Prop := Claim7.holds Tryz.pinned (.plain (OpenSpec.upto walkAmongSpec)) walkAmongUptoCard
end Rows
end Go.Proofs.YtohbofilgkdihaaGreatDoor
