/-
  DERIVED. GIVEN WITH THE SEED: THE CARDS: each row of YtpboohfofodeeaaGreatDoorRows.lean that lists a variable, with what it lists TIED to the program's text (the seventh form; the later family's looks); each row that meets fmt, with fmt's text TOLD by the authors' own Lean function (tested against real Go, not proved from fmt's source: count such statements apart). THE CARD IS WHAT COUNTS. Prove the row's statement (the work); the ties are given (YtpboohfofodeeaaGreatDoorTie.lean); close each card by the builder's one call (the guide's Derived/Test/ToyasCard.lean, 'card_holds'). Laid BY PROGRAM, IN A SANDBOX (cutbox-door.mjs). By AI agents, Wed Nov 11 2026. No macro, syntax, notation, axiom, sorry.
-/
import Derived.Test.YtpboohfofodeeaaGreatDoorRows
import GoSem.ClaimSeven
namespace Go.Proofs.YtpboohfofodeeaaGreatDoor
namespace Rows

/-- THE TIED CARD OF 'coppicelaw16.FilesAsk'. -/
def filesAskCard : Claim7 := { stood := { row := filesAskRow, standIns := [], harness := (true, "4cbc1c630424efbd25caa35a94f737670f75a22a951f412399a2d7b2f13bebb6"), looks := false }, kinds := [], alts := [], laidByText := true, laidKinds := [.data, .pinned], laidTests := true, laidLooks := .later }
def FilesAskCardSaid : Prop := Claim7.holds Tryz.pinned (.plain (OpenSpec.ofChange filesAskSpec)) filesAskCard

/-- THE TIED CARD OF 'coppicelaw16.FilesLinks'. -/
def filesLinksCard : Claim7 := { stood := { row := filesLinksRow, standIns := [], harness := (true, "4cbc1c630424efbd25caa35a94f737670f75a22a951f412399a2d7b2f13bebb6"), looks := false }, kinds := [], alts := [], laidByText := true, laidKinds := [.data, .pinned], laidTests := true, laidLooks := .later }
def FilesLinksCardSaid : Prop := Claim7.holds Tryz.pinned (.plain (OpenSpec.ofChange filesLinksSpec)) filesLinksCard

/-- THE TIED CARD OF 'coppicelaw16.FilesNumbers'. -/
def filesNumbersCard : Claim7 := { stood := { row := filesNumbersRow, standIns := [], harness := (true, "4cbc1c630424efbd25caa35a94f737670f75a22a951f412399a2d7b2f13bebb6"), looks := false }, kinds := [], alts := [], laidByText := true, laidKinds := [.data, .pinned], laidTests := true, laidLooks := .later }
def FilesNumbersCardSaid : Prop := Claim7.holds Tryz.pinned (.plain (OpenSpec.ofChange filesNumbersSpec)) filesNumbersCard

/-- THE TIED CARD OF 'coppicelaw16.FilesPlay'. -/
def filesPlayCard : Claim7 := { stood := { row := filesPlayRow, standIns := [], harness := (true, "4cbc1c630424efbd25caa35a94f737670f75a22a951f412399a2d7b2f13bebb6"), looks := false }, kinds := [], alts := [], laidByText := true, laidKinds := [.data, .pinned], laidTests := true, laidLooks := .later }
def FilesPlayCardSaid : Prop := Claim7.holds Tryz.pinned (.plain (OpenSpec.ofChange filesPlaySpec)) filesPlayCard

/-- THE TIED CARD OF 'coppicelaw16.FilesDo'. -/
def filesDoCard : Claim7 := { stood := { row := filesDoRow, standIns := [], harness := (true, "4cbc1c630424efbd25caa35a94f737670f75a22a951f412399a2d7b2f13bebb6"), looks := false }, kinds := [], alts := [], laidByText := true, laidKinds := [.data, .pinned], laidTests := true, laidLooks := .later }
def FilesDoCardSaid : Prop := Claim7.holds Tryz.pinned (.plain (OpenSpec.ofChange filesDoSpec)) filesDoCard

/-- THE TIED CARD OF 'coppicelaw16.FilesMoves'. -/
def filesMovesCard : Claim7 := { stood := { row := filesMovesRow, standIns := [], harness := (true, "4cbc1c630424efbd25caa35a94f737670f75a22a951f412399a2d7b2f13bebb6"), looks := false }, kinds := [], alts := [], laidByText := true, laidKinds := [.data, .pinned], laidTests := true, laidLooks := .later }
def FilesMovesCardSaid : Prop := Claim7.holds Tryz.pinned (.plain (OpenSpec.ofChange filesMovesSpec)) filesMovesCard

/-- THE TIED CARD OF 'coppicelaw16.FilesShow'. -/
def filesShowCard : Claim7 := { stood := { row := filesShowRow, standIns := [], harness := (true, "4cbc1c630424efbd25caa35a94f737670f75a22a951f412399a2d7b2f13bebb6"), looks := false }, kinds := [], alts := [], laidByText := true, laidKinds := [.data, .pinned], laidTests := true, laidLooks := .later }
def FilesShowCardSaid : Prop := Claim7.holds Tryz.pinned (.plain (OpenSpec.ofChange filesShowSpec)) filesShowCard

/-- THE SECOND FORM's CARD OF 'coppicelaw16.FilesAsk'. -/
def filesAskUptoCard : Claim7 := { stood := { row := filesAskUptoRow, standIns := [], harness := (true, "4cbc1c630424efbd25caa35a94f737670f75a22a951f412399a2d7b2f13bebb6"), looks := false }, kinds := [], alts := [], laidByText := true, laidKinds := [.data, .pinned], laidTests := true, laidLooks := .later }
def FilesAskUptoCardSaid : Prop := Claim7.holds Tryz.pinned (.plain (OpenSpec.upto filesAskSpec)) filesAskUptoCard

/-- THE SECOND FORM's CARD OF 'coppicelaw16.FilesLinks'. -/
def filesLinksUptoCard : Claim7 := { stood := { row := filesLinksUptoRow, standIns := [], harness := (true, "4cbc1c630424efbd25caa35a94f737670f75a22a951f412399a2d7b2f13bebb6"), looks := false }, kinds := [], alts := [], laidByText := true, laidKinds := [.data, .pinned], laidTests := true, laidLooks := .later }
def FilesLinksUptoCardSaid : Prop := Claim7.holds Tryz.pinned (.plain (OpenSpec.upto filesLinksSpec)) filesLinksUptoCard

/-- THE SECOND FORM's CARD OF 'coppicelaw16.FilesNumbers'. -/
def filesNumbersUptoCard : Claim7 := { stood := { row := filesNumbersUptoRow, standIns := [], harness := (true, "4cbc1c630424efbd25caa35a94f737670f75a22a951f412399a2d7b2f13bebb6"), looks := false }, kinds := [], alts := [], laidByText := true, laidKinds := [.data, .pinned], laidTests := true, laidLooks := .later }
def FilesNumbersUptoCardSaid : Prop := Claim7.holds Tryz.pinned (.plain (OpenSpec.upto filesNumbersSpec)) filesNumbersUptoCard

/-- THE SECOND FORM's CARD OF 'coppicelaw16.FilesPlay'. -/
def filesPlayUptoCard : Claim7 := { stood := { row := filesPlayUptoRow, standIns := [], harness := (true, "4cbc1c630424efbd25caa35a94f737670f75a22a951f412399a2d7b2f13bebb6"), looks := false }, kinds := [], alts := [], laidByText := true, laidKinds := [.data, .pinned], laidTests := true, laidLooks := .later }
def FilesPlayUptoCardSaid : Prop := Claim7.holds Tryz.pinned (.plain (OpenSpec.upto filesPlaySpec)) filesPlayUptoCard

/-- THE SECOND FORM's CARD OF 'coppicelaw16.FilesDo'. -/
def filesDoUptoCard : Claim7 := { stood := { row := filesDoUptoRow, standIns := [], harness := (true, "4cbc1c630424efbd25caa35a94f737670f75a22a951f412399a2d7b2f13bebb6"), looks := false }, kinds := [], alts := [], laidByText := true, laidKinds := [.data, .pinned], laidTests := true, laidLooks := .later }
def FilesDoUptoCardSaid : Prop := Claim7.holds Tryz.pinned (.plain (OpenSpec.upto filesDoSpec)) filesDoUptoCard

/-- THE SECOND FORM's CARD OF 'coppicelaw16.FilesMoves'. -/
def filesMovesUptoCard : Claim7 := { stood := { row := filesMovesUptoRow, standIns := [], harness := (true, "4cbc1c630424efbd25caa35a94f737670f75a22a951f412399a2d7b2f13bebb6"), looks := false }, kinds := [], alts := [], laidByText := true, laidKinds := [.data, .pinned], laidTests := true, laidLooks := .later }
def FilesMovesUptoCardSaid : Prop := Claim7.holds Tryz.pinned (.plain (OpenSpec.upto filesMovesSpec)) filesMovesUptoCard

/-- THE SECOND FORM's CARD OF 'coppicelaw16.FilesShow'. -/
def filesShowUptoCard : Claim7 := { stood := { row := filesShowUptoRow, standIns := [], harness := (true, "4cbc1c630424efbd25caa35a94f737670f75a22a951f412399a2d7b2f13bebb6"), looks := false }, kinds := [], alts := [], laidByText := true, laidKinds := [.data, .pinned], laidTests := true, laidLooks := .later }
def FilesShowUptoCardSaid : Prop := Claim7.holds Tryz.pinned (.plain (OpenSpec.upto filesShowSpec)) filesShowUptoCard
end Rows
end Go.Proofs.YtpboohfofodeeaaGreatDoor
