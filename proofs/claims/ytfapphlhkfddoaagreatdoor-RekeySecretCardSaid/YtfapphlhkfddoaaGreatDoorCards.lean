/-
  DERIVED. GIVEN WITH THE SEED: THE CARDS: each row of YtfapphlhkfddoaaGreatDoorRows.lean that lists a variable, with what it lists TIED to the program's text (the seventh form; the later family's looks); each row that meets fmt, with fmt's text TOLD by the authors' own Lean function (tested against real Go, not proved from fmt's source: count such statements apart). THE CARD IS WHAT COUNTS. Prove the row's statement (the work); the ties are given (YtfapphlhkfddoaaGreatDoorTie.lean); close each card by the builder's one call (the guide's Derived/Test/ToyasCard.lean, 'card_holds'). Laid BY PROGRAM, IN A SANDBOX (cutbox-door.mjs). By AI agents, Wed Nov 11 2026. No macro, syntax, notation, axiom, sorry.
-/
import Derived.Test.YtfapphlhkfddoaaGreatDoorRows
import GoSem.ClaimSeven
namespace Go.Proofs.YtfapphlhkfddoaaGreatDoor
namespace Rows

/-- THE TIED CARD OF 'gemotlaw15.BlindApart'. -/
def blindApartCard : Claim7 := { stood := { row := blindApartRow, standIns := [], harness := (true, "f3e8845c81642afcc5508445adde41fb942a08ce165091c3f0c922a69b59b7b4"), looks := false }, kinds := [], alts := [], laidByText := true, laidKinds := [.data, .data, .data], laidTests := true, laidLooks := .later }
def BlindApartCardSaid : Prop := Claim7.holds Tryz.pinned (.plain (OpenSpec.ofChange blindApartSpec)) blindApartCard

/-- THE TIED CARD OF 'gemotlaw16.RekeyMeet'. -/
def rekeyMeetCard : Claim7 := { stood := { row := rekeyMeetRow, standIns := [], harness := (true, "f3e8845c81642afcc5508445adde41fb942a08ce165091c3f0c922a69b59b7b4"), looks := false }, kinds := [], alts := [], laidByText := true, laidKinds := [.data, .data, .data], laidTests := true, laidLooks := .later }
def RekeyMeetCardSaid : Prop := Claim7.holds Tryz.pinned (.plain (OpenSpec.ofChange rekeyMeetSpec)) rekeyMeetCard

/-- THE TIED CARD OF 'gemotlaw16.RekeyMany'. -/
def rekeyManyCard : Claim7 := { stood := { row := rekeyManyRow, standIns := [], harness := (true, "f3e8845c81642afcc5508445adde41fb942a08ce165091c3f0c922a69b59b7b4"), looks := false }, kinds := [], alts := [], laidByText := true, laidKinds := [.data, .data, .data], laidTests := true, laidLooks := .later }
def RekeyManyCardSaid : Prop := Claim7.holds Tryz.pinned (.plain (OpenSpec.ofChange rekeyManySpec)) rekeyManyCard

/-- THE TIED CARD OF 'gemotlaw16.RekeyLost'. -/
def rekeyLostCard : Claim7 := { stood := { row := rekeyLostRow, standIns := [], harness := (true, "f3e8845c81642afcc5508445adde41fb942a08ce165091c3f0c922a69b59b7b4"), looks := false }, kinds := [], alts := [], laidByText := true, laidKinds := [.data, .data, .data], laidTests := true, laidLooks := .later }
def RekeyLostCardSaid : Prop := Claim7.holds Tryz.pinned (.plain (OpenSpec.ofChange rekeyLostSpec)) rekeyLostCard

/-- THE TIED CARD OF 'gemotlaw16.RekeyOrder'. -/
def rekeyOrderCard : Claim7 := { stood := { row := rekeyOrderRow, standIns := [], harness := (true, "f3e8845c81642afcc5508445adde41fb942a08ce165091c3f0c922a69b59b7b4"), looks := false }, kinds := [], alts := [], laidByText := true, laidKinds := [.data, .data, .data], laidTests := true, laidLooks := .later }
def RekeyOrderCardSaid : Prop := Claim7.holds Tryz.pinned (.plain (OpenSpec.ofChange rekeyOrderSpec)) rekeyOrderCard

/-- THE TIED CARD OF 'gemotlaw16.RekeySecret'. -/
def rekeySecretCard : Claim7 := { stood := { row := rekeySecretRow, standIns := [], harness := (true, "f3e8845c81642afcc5508445adde41fb942a08ce165091c3f0c922a69b59b7b4"), looks := false }, kinds := [], alts := [], laidByText := true, laidKinds := [.data, .data, .data], laidTests := true, laidLooks := .later }
def RekeySecretCardSaid : Prop := Claim7.holds Tryz.pinned (.plain (OpenSpec.ofChange rekeySecretSpec)) rekeySecretCard

/-- THE TIED CARD OF 'gemotlaw15.BlindMeet'. -/
def blindMeetCard : Claim7 := { stood := { row := blindMeetRow, standIns := [], harness := (true, "f3e8845c81642afcc5508445adde41fb942a08ce165091c3f0c922a69b59b7b4"), looks := false }, kinds := [], alts := [], laidByText := true, laidKinds := [.data, .data, .data], laidTests := true, laidLooks := .later }
def BlindMeetCardSaid : Prop := Claim7.holds Tryz.pinned (.plain (OpenSpec.ofChange blindMeetSpec)) blindMeetCard

/-- THE TIED CARD OF 'gemotlaw15.BlindPartly'. -/
def blindPartlyCard : Claim7 := { stood := { row := blindPartlyRow, standIns := [], harness := (true, "f3e8845c81642afcc5508445adde41fb942a08ce165091c3f0c922a69b59b7b4"), looks := false }, kinds := [], alts := [], laidByText := true, laidKinds := [.data, .data, .data], laidTests := true, laidLooks := .later }
def BlindPartlyCardSaid : Prop := Claim7.holds Tryz.pinned (.plain (OpenSpec.ofChange blindPartlySpec)) blindPartlyCard

/-- THE TIED CARD OF 'gemotlaw15.BlindSecret'. -/
def blindSecretCard : Claim7 := { stood := { row := blindSecretRow, standIns := [], harness := (true, "f3e8845c81642afcc5508445adde41fb942a08ce165091c3f0c922a69b59b7b4"), looks := false }, kinds := [], alts := [], laidByText := true, laidKinds := [.data, .data, .data], laidTests := true, laidLooks := .later }
def BlindSecretCardSaid : Prop := Claim7.holds Tryz.pinned (.plain (OpenSpec.ofChange blindSecretSpec)) blindSecretCard

/-- THE SECOND FORM's CARD OF 'gemotlaw15.BlindApart'. -/
def blindApartUptoCard : Claim7 := { stood := { row := blindApartUptoRow, standIns := [], harness := (true, "f3e8845c81642afcc5508445adde41fb942a08ce165091c3f0c922a69b59b7b4"), looks := false }, kinds := [], alts := [], laidByText := true, laidKinds := [.data, .data, .data], laidTests := true, laidLooks := .later }
def BlindApartUptoCardSaid : Prop := Claim7.holds Tryz.pinned (.plain (OpenSpec.upto blindApartSpec)) blindApartUptoCard

/-- THE SECOND FORM's CARD OF 'gemotlaw16.RekeyMeet'. -/
def rekeyMeetUptoCard : Claim7 := { stood := { row := rekeyMeetUptoRow, standIns := [], harness := (true, "f3e8845c81642afcc5508445adde41fb942a08ce165091c3f0c922a69b59b7b4"), looks := false }, kinds := [], alts := [], laidByText := true, laidKinds := [.data, .data, .data], laidTests := true, laidLooks := .later }
def RekeyMeetUptoCardSaid : Prop := Claim7.holds Tryz.pinned (.plain (OpenSpec.upto rekeyMeetSpec)) rekeyMeetUptoCard

/-- THE SECOND FORM's CARD OF 'gemotlaw16.RekeyMany'. -/
def rekeyManyUptoCard : Claim7 := { stood := { row := rekeyManyUptoRow, standIns := [], harness := (true, "f3e8845c81642afcc5508445adde41fb942a08ce165091c3f0c922a69b59b7b4"), looks := false }, kinds := [], alts := [], laidByText := true, laidKinds := [.data, .data, .data], laidTests := true, laidLooks := .later }
def RekeyManyUptoCardSaid : Prop := Claim7.holds Tryz.pinned (.plain (OpenSpec.upto rekeyManySpec)) rekeyManyUptoCard

/-- THE SECOND FORM's CARD OF 'gemotlaw16.RekeyLost'. -/
def rekeyLostUptoCard : Claim7 := { stood := { row := rekeyLostUptoRow, standIns := [], harness := (true, "f3e8845c81642afcc5508445adde41fb942a08ce165091c3f0c922a69b59b7b4"), looks := false }, kinds := [], alts := [], laidByText := true, laidKinds := [.data, .data, .data], laidTests := true, laidLooks := .later }
def RekeyLostUptoCardSaid : Prop := Claim7.holds Tryz.pinned (.plain (OpenSpec.upto rekeyLostSpec)) rekeyLostUptoCard

/-- THE SECOND FORM's CARD OF 'gemotlaw16.RekeyOrder'. -/
def rekeyOrderUptoCard : Claim7 := { stood := { row := rekeyOrderUptoRow, standIns := [], harness := (true, "f3e8845c81642afcc5508445adde41fb942a08ce165091c3f0c922a69b59b7b4"), looks := false }, kinds := [], alts := [], laidByText := true, laidKinds := [.data, .data, .data], laidTests := true, laidLooks := .later }
def RekeyOrderUptoCardSaid : Prop := Claim7.holds Tryz.pinned (.plain (OpenSpec.upto rekeyOrderSpec)) rekeyOrderUptoCard

/-- THE SECOND FORM's CARD OF 'gemotlaw16.RekeySecret'. -/
def rekeySecretUptoCard : Claim7 := { stood := { row := rekeySecretUptoRow, standIns := [], harness := (true, "f3e8845c81642afcc5508445adde41fb942a08ce165091c3f0c922a69b59b7b4"), looks := false }, kinds := [], alts := [], laidByText := true, laidKinds := [.data, .data, .data], laidTests := true, laidLooks := .later }
def RekeySecretUptoCardSaid : Prop := Claim7.holds Tryz.pinned (.plain (OpenSpec.upto rekeySecretSpec)) rekeySecretUptoCard

/-- THE SECOND FORM's CARD OF 'gemotlaw15.BlindMeet'. -/
def blindMeetUptoCard : Claim7 := { stood := { row := blindMeetUptoRow, standIns := [], harness := (true, "f3e8845c81642afcc5508445adde41fb942a08ce165091c3f0c922a69b59b7b4"), looks := false }, kinds := [], alts := [], laidByText := true, laidKinds := [.data, .data, .data], laidTests := true, laidLooks := .later }
def BlindMeetUptoCardSaid : Prop := Claim7.holds Tryz.pinned (.plain (OpenSpec.upto blindMeetSpec)) blindMeetUptoCard

/-- THE SECOND FORM's CARD OF 'gemotlaw15.BlindPartly'. -/
def blindPartlyUptoCard : Claim7 := { stood := { row := blindPartlyUptoRow, standIns := [], harness := (true, "f3e8845c81642afcc5508445adde41fb942a08ce165091c3f0c922a69b59b7b4"), looks := false }, kinds := [], alts := [], laidByText := true, laidKinds := [.data, .data, .data], laidTests := true, laidLooks := .later }
def BlindPartlyUptoCardSaid : Prop := Claim7.holds Tryz.pinned (.plain (OpenSpec.upto blindPartlySpec)) blindPartlyUptoCard

/-- THE SECOND FORM's CARD OF 'gemotlaw15.BlindSecret'. -/
def blindSecretUptoCard : Claim7 := { stood := { row := blindSecretUptoRow, standIns := [], harness := (true, "f3e8845c81642afcc5508445adde41fb942a08ce165091c3f0c922a69b59b7b4"), looks := false }, kinds := [], alts := [], laidByText := true, laidKinds := [.data, .data, .data], laidTests := true, laidLooks := .later }
def BlindSecretUptoCardSaid : Prop := Claim7.holds Tryz.pinned (.plain (OpenSpec.upto blindSecretSpec)) blindSecretUptoCard
end Rows
end Go.Proofs.YtfapphlhkfddoaaGreatDoor
