/-
  DERIVED. GIVEN WITH THE SEED: THE CARDS: each row of YtkhoelmbcmkhjaaDoorRows.lean that lists a variable, with what it lists TIED to the program's text (the seventh form; the later family's looks); each row that meets fmt, with fmt's text TOLD by the authors' own Lean function (tested against real Go, not proved from fmt's source: count such statements apart). THE CARD IS WHAT COUNTS. Prove the row's statement (the work); the ties are given (YtkhoelmbcmkhjaaDoorTie.lean); close each card by the builder's one call (the guide's Derived/Test/ToyasCard.lean, 'card_holds'). Laid BY PROGRAM, IN A SANDBOX (cutbox-door.mjs). By AI agents, Wed Nov 11 2026. No macro, syntax, notation, axiom, sorry.
-/
import Derived.Test.YtkhoelmbcmkhjaaDoorRows
import GoSem.ClaimSeven
namespace Go.Proofs.YtkhoelmbcmkhjaaDoor
namespace Rows

/-- THE TIED CARD OF 'callboylaw02.KindsOf'. -/
def kindsOfCard : Claim7 := { stood := { row := kindsOfRow, standIns := [], harness := (true, "89b91ba646d70126e3b7f5686862263d65e8ed3731232a71576fc4ba10192891"), looks := false }, kinds := [], alts := [], laidByText := true, laidKinds := [.data, .data, .data], laidTests := true, laidLooks := .later }
def KindsOfCardSaid : Prop := Claim7.holds Tryd.pinned (.plain (OpenSpec.ofChange kindsOfSpec)) kindsOfCard

/-- THE TIED CARD OF 'callboylaw02.KindsSame'. -/
def kindsSameCard : Claim7 := { stood := { row := kindsSameRow, standIns := [], harness := (true, "89b91ba646d70126e3b7f5686862263d65e8ed3731232a71576fc4ba10192891"), looks := false }, kinds := [], alts := [], laidByText := true, laidKinds := [.data, .data, .data], laidTests := true, laidLooks := .later }
def KindsSameCardSaid : Prop := Claim7.holds Tryd.pinned (.plain (OpenSpec.ofChange kindsSameSpec)) kindsSameCard

/-- THE TIED CARD OF 'callboylaw02.KindsRight'. -/
def kindsRightCard : Claim7 := { stood := { row := kindsRightRow, standIns := [], harness := (true, "89b91ba646d70126e3b7f5686862263d65e8ed3731232a71576fc4ba10192891"), looks := false }, kinds := [], alts := [], laidByText := true, laidKinds := [.data, .data, .data], laidTests := true, laidLooks := .later }
def KindsRightCardSaid : Prop := Claim7.holds Tryd.pinned (.plain (OpenSpec.ofChange kindsRightSpec)) kindsRightCard

/-- THE TIED CARD OF 'callboylaw02.KindsMore'. -/
def kindsMoreCard : Claim7 := { stood := { row := kindsMoreRow, standIns := [], harness := (true, "89b91ba646d70126e3b7f5686862263d65e8ed3731232a71576fc4ba10192891"), looks := false }, kinds := [], alts := [], laidByText := true, laidKinds := [.data, .data, .data], laidTests := true, laidLooks := .later }
def KindsMoreCardSaid : Prop := Claim7.holds Tryd.pinned (.plain (OpenSpec.ofChange kindsMoreSpec)) kindsMoreCard

/-- THE TIED CARD OF 'callboylaw02.KindsNames'. -/
def kindsNamesCard : Claim7 := { stood := { row := kindsNamesRow, standIns := [], harness := (true, "89b91ba646d70126e3b7f5686862263d65e8ed3731232a71576fc4ba10192891"), looks := false }, kinds := [], alts := [], laidByText := true, laidKinds := [.data, .data, .data, .data, .pinned], laidTests := true, laidLooks := .later }
def KindsNamesCardSaid : Prop := Claim7.holds Tryd.pinned (.plain (OpenSpec.ofChange kindsNamesSpec)) kindsNamesCard

/-- THE TIED CARD OF 'callboylaw02.KindsBack'. -/
def kindsBackCard : Claim7 := { stood := { row := kindsBackRow, standIns := [], harness := (true, "89b91ba646d70126e3b7f5686862263d65e8ed3731232a71576fc4ba10192891"), looks := false }, kinds := [], alts := [], laidByText := true, laidKinds := [.data, .data, .data, .data, .pinned], laidTests := true, laidLooks := .later }
def KindsBackCardSaid : Prop := Claim7.holds Tryd.pinned (.plain (OpenSpec.ofChange kindsBackSpec)) kindsBackCard

/-- THE SECOND FORM's CARD OF 'callboylaw02.KindsOf'. -/
def kindsOfUptoCard : Claim7 := { stood := { row := kindsOfUptoRow, standIns := [], harness := (true, "89b91ba646d70126e3b7f5686862263d65e8ed3731232a71576fc4ba10192891"), looks := false }, kinds := [], alts := [], laidByText := true, laidKinds := [.data, .data, .data], laidTests := true, laidLooks := .later }
def KindsOfUptoCardSaid : Prop := Claim7.holds Tryd.pinned (.plain (OpenSpec.upto kindsOfSpec)) kindsOfUptoCard

/-- THE SECOND FORM's CARD OF 'callboylaw02.KindsSame'. -/
def kindsSameUptoCard : Claim7 := { stood := { row := kindsSameUptoRow, standIns := [], harness := (true, "89b91ba646d70126e3b7f5686862263d65e8ed3731232a71576fc4ba10192891"), looks := false }, kinds := [], alts := [], laidByText := true, laidKinds := [.data, .data, .data], laidTests := true, laidLooks := .later }
def KindsSameUptoCardSaid : Prop := Claim7.holds Tryd.pinned (.plain (OpenSpec.upto kindsSameSpec)) kindsSameUptoCard

/-- THE SECOND FORM's CARD OF 'callboylaw02.KindsRight'. -/
def kindsRightUptoCard : Claim7 := { stood := { row := kindsRightUptoRow, standIns := [], harness := (true, "89b91ba646d70126e3b7f5686862263d65e8ed3731232a71576fc4ba10192891"), looks := false }, kinds := [], alts := [], laidByText := true, laidKinds := [.data, .data, .data], laidTests := true, laidLooks := .later }
def KindsRightUptoCardSaid : Prop := Claim7.holds Tryd.pinned (.plain (OpenSpec.upto kindsRightSpec)) kindsRightUptoCard

/-- THE SECOND FORM's CARD OF 'callboylaw02.KindsMore'. -/
def kindsMoreUptoCard : Claim7 := { stood := { row := kindsMoreUptoRow, standIns := [], harness := (true, "89b91ba646d70126e3b7f5686862263d65e8ed3731232a71576fc4ba10192891"), looks := false }, kinds := [], alts := [], laidByText := true, laidKinds := [.data, .data, .data], laidTests := true, laidLooks := .later }
def KindsMoreUptoCardSaid : Prop := Claim7.holds Tryd.pinned (.plain (OpenSpec.upto kindsMoreSpec)) kindsMoreUptoCard

/-- THE SECOND FORM's CARD OF 'callboylaw02.KindsNames'. -/
def kindsNamesUptoCard : Claim7 := { stood := { row := kindsNamesUptoRow, standIns := [], harness := (true, "89b91ba646d70126e3b7f5686862263d65e8ed3731232a71576fc4ba10192891"), looks := false }, kinds := [], alts := [], laidByText := true, laidKinds := [.data, .data, .data, .data, .pinned], laidTests := true, laidLooks := .later }
def KindsNamesUptoCardSaid : Prop := Claim7.holds Tryd.pinned (.plain (OpenSpec.upto kindsNamesSpec)) kindsNamesUptoCard

/-- THE SECOND FORM's CARD OF 'callboylaw02.KindsBack'. -/
def kindsBackUptoCard : Claim7 := { stood := { row := kindsBackUptoRow, standIns := [], harness := (true, "89b91ba646d70126e3b7f5686862263d65e8ed3731232a71576fc4ba10192891"), looks := false }, kinds := [], alts := [], laidByText := true, laidKinds := [.data, .data, .data, .data, .pinned], laidTests := true, laidLooks := .later }
def KindsBackUptoCardSaid : Prop := Claim7.holds Tryd.pinned (.plain (OpenSpec.upto kindsBackSpec)) kindsBackUptoCard
end Rows
end Go.Proofs.YtkhoelmbcmkhjaaDoor
