/-
  DERIVED. GIVEN WITH THE SEED: THE CARDS: each row of YtopbhdpfakjkjaaDoorRows.lean that lists a variable, with what it lists TIED to the program's text (the seventh form; the later family's looks); each row that meets fmt, with fmt's text TOLD by the authors' own Lean function (tested against real Go, not proved from fmt's source: count such statements apart). THE CARD IS WHAT COUNTS. Prove the row's statement (the work); the ties are given (YtopbhdpfakjkjaaDoorTie.lean); close each card by the builder's one call (the guide's Derived/Test/ToyasCard.lean, 'card_holds'). Laid BY PROGRAM, IN A SANDBOX (cutbox-door.mjs). By AI agents, Wed Nov 11 2026. No macro, syntax, notation, axiom, sorry.
-/
import Derived.Test.YtopbhdpfakjkjaaDoorRows
import GoSem.ClaimSeven
namespace Go.Proofs.YtopbhdpfakjkjaaDoor
namespace Rows

/-- THE TIED CARD OF 'greenhouselaw17.ReplyTexts'. -/
def replyTextsCard : Claim7 := { stood := { row := replyTextsRow, standIns := [], harness := (true, "20925ec071f0e8e9512a5792e5d69045627a216e1e15bffd19bf1f9609d228a8"), looks := true }, kinds := [], alts := [], laidByText := true, laidKinds := [.data, .data, .data, .sentinel, .sentinel], laidTests := true, laidLooks := .later }
def ReplyTextsCardSaid : Prop := Claim7.holds Tryd.pinned (.plain (OpenSpec.ofChange replyTextsSpec)) replyTextsCard

/-- THE TIED CARD OF 'greenhouselaw17.ReplyParses'. -/
def replyParsesCard : Claim7 := { stood := { row := replyParsesRow, standIns := [], harness := (true, "20925ec071f0e8e9512a5792e5d69045627a216e1e15bffd19bf1f9609d228a8"), looks := true }, kinds := [], alts := [], laidByText := true, laidKinds := [.data, .data, .data, .sentinel, .sentinel], laidTests := true, laidLooks := .later }
def ReplyParsesCardSaid : Prop := Claim7.holds Tryd.pinned (.plain (OpenSpec.ofChange replyParsesSpec)) replyParsesCard

/-- THE TIED CARD OF 'greenhouselaw17.ReplyApart'. -/
def replyApartCard : Claim7 := { stood := { row := replyApartRow, standIns := [], harness := (true, "20925ec071f0e8e9512a5792e5d69045627a216e1e15bffd19bf1f9609d228a8"), looks := true }, kinds := [], alts := [], laidByText := true, laidKinds := [.data, .data, .data, .sentinel, .sentinel], laidTests := true, laidLooks := .later }
def ReplyApartCardSaid : Prop := Claim7.holds Tryd.pinned (.plain (OpenSpec.ofChange replyApartSpec)) replyApartCard

/-- THE TIED CARD OF 'greenhouselaw17.ReplyCommands'. -/
def replyCommandsCard : Claim7 := { stood := { row := replyCommandsRow, standIns := [], harness := (true, "20925ec071f0e8e9512a5792e5d69045627a216e1e15bffd19bf1f9609d228a8"), looks := true }, kinds := [], alts := [], laidByText := true, laidKinds := [.data, .data, .data, .sentinel, .sentinel], laidTests := true, laidLooks := .later }
def ReplyCommandsCardSaid : Prop := Claim7.holds Tryd.pinned (.plain (OpenSpec.ofChange replyCommandsSpec)) replyCommandsCard

/-- THE SECOND FORM's CARD OF 'greenhouselaw17.ReplyTexts'. -/
def replyTextsUptoCard : Claim7 := { stood := { row := replyTextsUptoRow, standIns := [], harness := (true, "20925ec071f0e8e9512a5792e5d69045627a216e1e15bffd19bf1f9609d228a8"), looks := true }, kinds := [], alts := [], laidByText := true, laidKinds := [.data, .data, .data, .sentinel, .sentinel], laidTests := true, laidLooks := .later }
def ReplyTextsUptoCardSaid : Prop := Claim7.holds Tryd.pinned (.plain (OpenSpec.upto replyTextsSpec)) replyTextsUptoCard

/-- THE SECOND FORM's CARD OF 'greenhouselaw17.ReplyParses'. -/
def replyParsesUptoCard : Claim7 := { stood := { row := replyParsesUptoRow, standIns := [], harness := (true, "20925ec071f0e8e9512a5792e5d69045627a216e1e15bffd19bf1f9609d228a8"), looks := true }, kinds := [], alts := [], laidByText := true, laidKinds := [.data, .data, .data, .sentinel, .sentinel], laidTests := true, laidLooks := .later }
def ReplyParsesUptoCardSaid : Prop := Claim7.holds Tryd.pinned (.plain (OpenSpec.upto replyParsesSpec)) replyParsesUptoCard

/-- THE SECOND FORM's CARD OF 'greenhouselaw17.ReplyApart'. -/
def replyApartUptoCard : Claim7 := { stood := { row := replyApartUptoRow, standIns := [], harness := (true, "20925ec071f0e8e9512a5792e5d69045627a216e1e15bffd19bf1f9609d228a8"), looks := true }, kinds := [], alts := [], laidByText := true, laidKinds := [.data, .data, .data, .sentinel, .sentinel], laidTests := true, laidLooks := .later }
def ReplyApartUptoCardSaid : Prop := Claim7.holds Tryd.pinned (.plain (OpenSpec.upto replyApartSpec)) replyApartUptoCard

/-- THE SECOND FORM's CARD OF 'greenhouselaw17.ReplyCommands'. -/
def replyCommandsUptoCard : Claim7 := { stood := { row := replyCommandsUptoRow, standIns := [], harness := (true, "20925ec071f0e8e9512a5792e5d69045627a216e1e15bffd19bf1f9609d228a8"), looks := true }, kinds := [], alts := [], laidByText := true, laidKinds := [.data, .data, .data, .sentinel, .sentinel], laidTests := true, laidLooks := .later }
def ReplyCommandsUptoCardSaid : Prop := Claim7.holds Tryd.pinned (.plain (OpenSpec.upto replyCommandsSpec)) replyCommandsUptoCard
end Rows
end Go.Proofs.YtopbhdpfakjkjaaDoor
