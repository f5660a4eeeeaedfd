/-
  DERIVED. GIVEN WITH THE SEED: THE CARDS: each row of YtfapphlhkfddoaaDoorRows.lean that lists a variable, with what it lists TIED to the program's text (the seventh form; the later family's looks); each row that meets fmt, with fmt's text TOLD by the authors' own Lean function (tested against real Go, not proved from fmt's source: count such statements apart). THE CARD IS WHAT COUNTS. Prove the row's statement (the work); the ties are given (YtfapphlhkfddoaaDoorTie.lean); close each card by the builder's one call (the guide's Derived/Test/ToyasCard.lean, 'card_holds'). Laid BY PROGRAM, IN A SANDBOX (cutbox-door.mjs). By AI agents, Wed Nov 11 2026. No macro, syntax, notation, axiom, sorry.
-/
import Derived.Test.YtfapphlhkfddoaaDoorRows
import GoSem.ClaimSeven
namespace Go.Proofs.YtfapphlhkfddoaaDoor
namespace Rows

/-- THE TIED CARD OF 'gemotlaw14.PlacePaths'. -/
def placePathsCard : Claim7 := { stood := { row := placePathsRow, standIns := [], harness := (true, "84d2971a7ac8a37bfa34e734f6ff4587febd7b81e84f8f70608faea866c0bf31"), looks := false }, kinds := [], alts := [], laidByText := true, laidKinds := [.data, .data, .data], laidTests := true, laidLooks := .later }
def PlacePathsCardSaid : Prop := Claim7.holds Tryd.pinned (.plain (OpenSpec.ofChange placePathsSpec)) placePathsCard

/-- THE TIED CARD OF 'gemotlaw14.PlaceOne'. -/
def placeOneCard : Claim7 := { stood := { row := placeOneRow, standIns := [], harness := (true, "84d2971a7ac8a37bfa34e734f6ff4587febd7b81e84f8f70608faea866c0bf31"), looks := false }, kinds := [], alts := [], laidByText := true, laidKinds := [.data, .data, .data], laidTests := true, laidLooks := .later }
def PlaceOneCardSaid : Prop := Claim7.holds Tryd.pinned (.plain (OpenSpec.ofChange placeOneSpec)) placeOneCard

/-- THE TIED CARD OF 'gemotlaw14.PlaceDuties'. -/
def placeDutiesCard : Claim7 := { stood := { row := placeDutiesRow, standIns := [], harness := (true, "84d2971a7ac8a37bfa34e734f6ff4587febd7b81e84f8f70608faea866c0bf31"), looks := false }, kinds := [], alts := [], laidByText := true, laidKinds := [.data, .data, .data], laidTests := true, laidLooks := .later }
def PlaceDutiesCardSaid : Prop := Claim7.holds Tryd.pinned (.plain (OpenSpec.ofChange placeDutiesSpec)) placeDutiesCard

/-- THE TIED CARD OF 'gemotlaw14.PlaceMeet'. -/
def placeMeetCard : Claim7 := { stood := { row := placeMeetRow, standIns := [], harness := (true, "84d2971a7ac8a37bfa34e734f6ff4587febd7b81e84f8f70608faea866c0bf31"), looks := false }, kinds := [], alts := [], laidByText := true, laidKinds := [.data, .data, .data], laidTests := true, laidLooks := .later }
def PlaceMeetCardSaid : Prop := Claim7.holds Tryd.pinned (.plain (OpenSpec.ofChange placeMeetSpec)) placeMeetCard

/-- THE SECOND FORM's CARD OF 'gemotlaw14.PlacePaths'. -/
def placePathsUptoCard : Claim7 := { stood := { row := placePathsUptoRow, standIns := [], harness := (true, "84d2971a7ac8a37bfa34e734f6ff4587febd7b81e84f8f70608faea866c0bf31"), looks := false }, kinds := [], alts := [], laidByText := true, laidKinds := [.data, .data, .data], laidTests := true, laidLooks := .later }
def PlacePathsUptoCardSaid : Prop := Claim7.holds Tryd.pinned (.plain (OpenSpec.upto placePathsSpec)) placePathsUptoCard

/-- THE SECOND FORM's CARD OF 'gemotlaw14.PlaceOne'. -/
def placeOneUptoCard : Claim7 := { stood := { row := placeOneUptoRow, standIns := [], harness := (true, "84d2971a7ac8a37bfa34e734f6ff4587febd7b81e84f8f70608faea866c0bf31"), looks := false }, kinds := [], alts := [], laidByText := true, laidKinds := [.data, .data, .data], laidTests := true, laidLooks := .later }
def PlaceOneUptoCardSaid : Prop := Claim7.holds Tryd.pinned (.plain (OpenSpec.upto placeOneSpec)) placeOneUptoCard

/-- THE SECOND FORM's CARD OF 'gemotlaw14.PlaceDuties'. -/
def placeDutiesUptoCard : Claim7 := { stood := { row := placeDutiesUptoRow, standIns := [], harness := (true, "84d2971a7ac8a37bfa34e734f6ff4587febd7b81e84f8f70608faea866c0bf31"), looks := false }, kinds := [], alts := [], laidByText := true, laidKinds := [.data, .data, .data], laidTests := true, laidLooks := .later }
def PlaceDutiesUptoCardSaid : Prop := Claim7.holds Tryd.pinned (.plain (OpenSpec.upto placeDutiesSpec)) placeDutiesUptoCard

/-- THE SECOND FORM's CARD OF 'gemotlaw14.PlaceMeet'. -/
def placeMeetUptoCard : Claim7 := { stood := { row := placeMeetUptoRow, standIns := [], harness := (true, "84d2971a7ac8a37bfa34e734f6ff4587febd7b81e84f8f70608faea866c0bf31"), looks := false }, kinds := [], alts := [], laidByText := true, laidKinds := [.data, .data, .data], laidTests := true, laidLooks := .later }
def PlaceMeetUptoCardSaid : Prop := Claim7.holds Tryd.pinned (.plain (OpenSpec.upto placeMeetSpec)) placeMeetUptoCard
end Rows
end Go.Proofs.YtfapphlhkfddoaaDoor
