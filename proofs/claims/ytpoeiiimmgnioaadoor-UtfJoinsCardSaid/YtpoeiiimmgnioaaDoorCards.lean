/-
  DERIVED. GIVEN WITH THE SEED: THE CARDS: each row of YtpoeiiimmgnioaaDoorRows.lean that lists a variable, with what it lists TIED to the program's text (the seventh form; the later family's looks); each row that meets fmt, with fmt's text TOLD by the authors' own Lean function (tested against real Go, not proved from fmt's source: count such statements apart). THE CARD IS WHAT COUNTS. Prove the row's statement (the work); the ties are given (YtpoeiiimmgnioaaDoorTie.lean); close each card by the builder's one call (the guide's Derived/Test/ToyasCard.lean, 'card_holds'). Laid BY PROGRAM, IN A SANDBOX (cutbox-door.mjs). By AI agents, Wed Nov 11 2026. No macro, syntax, notation, axiom, sorry.
-/
import Derived.Test.YtpoeiiimmgnioaaDoorRows
import GoSem.ClaimSeven
namespace Go.Proofs.YtpoeiiimmgnioaaDoor
namespace Rows

/-- THE TIED CARD OF 'scarflaw01.UtfNext'. -/
def utfNextCard : Claim7 := { stood := { row := utfNextRow, standIns := [], harness := (true, "82a117f9a28e114c02d05ee72539387ab44d1b5dfdbffc9cd67ac615bf3b386e"), looks := false }, kinds := [], alts := [], laidByText := true, laidKinds := [.data, .pinned], laidTests := true, laidLooks := .later }
def UtfNextCardSaid : Prop := Claim7.holds Tryd.pinned (.plain (OpenSpec.ofChange utfNextSpec)) utfNextCard

/-- THE TIED CARD OF 'scarflaw01.UtfBytes'. -/
def utfBytesCard : Claim7 := { stood := { row := utfBytesRow, standIns := [], harness := (true, "82a117f9a28e114c02d05ee72539387ab44d1b5dfdbffc9cd67ac615bf3b386e"), looks := false }, kinds := [], alts := [], laidByText := true, laidKinds := [.data, .pinned], laidTests := true, laidLooks := .later }
def UtfBytesCardSaid : Prop := Claim7.holds Tryd.pinned (.plain (OpenSpec.ofChange utfBytesSpec)) utfBytesCard

/-- THE TIED CARD OF 'scarflaw01.UtfOrder'. -/
def utfOrderCard : Claim7 := { stood := { row := utfOrderRow, standIns := [], harness := (true, "82a117f9a28e114c02d05ee72539387ab44d1b5dfdbffc9cd67ac615bf3b386e"), looks := false }, kinds := [], alts := [], laidByText := true, laidKinds := [.data, .pinned], laidTests := true, laidLooks := .later }
def UtfOrderCardSaid : Prop := Claim7.holds Tryd.pinned (.plain (OpenSpec.ofChange utfOrderSpec)) utfOrderCard

/-- THE TIED CARD OF 'scarflaw01.UtfJoins'. -/
def utfJoinsCard : Claim7 := { stood := { row := utfJoinsRow, standIns := [], harness := (true, "82a117f9a28e114c02d05ee72539387ab44d1b5dfdbffc9cd67ac615bf3b386e"), looks := false }, kinds := [], alts := [], laidByText := true, laidKinds := [.data, .pinned], laidTests := true, laidLooks := .later }
def UtfJoinsCardSaid : Prop := Claim7.holds Tryd.pinned (.plain (OpenSpec.ofChange utfJoinsSpec)) utfJoinsCard

/-- THE TIED CARD OF 'scarflaw01.UtfCuts'. -/
def utfCutsCard : Claim7 := { stood := { row := utfCutsRow, standIns := [], harness := (true, "82a117f9a28e114c02d05ee72539387ab44d1b5dfdbffc9cd67ac615bf3b386e"), looks := false }, kinds := [], alts := [], laidByText := true, laidKinds := [.data, .pinned], laidTests := true, laidLooks := .later }
def UtfCutsCardSaid : Prop := Claim7.holds Tryd.pinned (.plain (OpenSpec.ofChange utfCutsSpec)) utfCutsCard

/-- THE TIED CARD OF 'scarflaw01.UtfTexts'. -/
def utfTextsCard : Claim7 := { stood := { row := utfTextsRow, standIns := [], harness := (true, "82a117f9a28e114c02d05ee72539387ab44d1b5dfdbffc9cd67ac615bf3b386e"), looks := false }, kinds := [], alts := [], laidByText := true, laidKinds := [.data, .pinned], laidTests := true, laidLooks := .later }
def UtfTextsCardSaid : Prop := Claim7.holds Tryd.pinned (.plain (OpenSpec.ofChange utfTextsSpec)) utfTextsCard

/-- THE TIED CARD OF 'scarflaw01.UtfBack'. -/
def utfBackCard : Claim7 := { stood := { row := utfBackRow, standIns := [], harness := (true, "82a117f9a28e114c02d05ee72539387ab44d1b5dfdbffc9cd67ac615bf3b386e"), looks := false }, kinds := [], alts := [], laidByText := true, laidKinds := [.data, .pinned], laidTests := true, laidLooks := .later }
def UtfBackCardSaid : Prop := Claim7.holds Tryd.pinned (.plain (OpenSpec.ofChange utfBackSpec)) utfBackCard

/-- THE SECOND FORM's CARD OF 'scarflaw01.UtfNext'. -/
def utfNextUptoCard : Claim7 := { stood := { row := utfNextUptoRow, standIns := [], harness := (true, "82a117f9a28e114c02d05ee72539387ab44d1b5dfdbffc9cd67ac615bf3b386e"), looks := false }, kinds := [], alts := [], laidByText := true, laidKinds := [.data, .pinned], laidTests := true, laidLooks := .later }
def UtfNextUptoCardSaid : Prop := Claim7.holds Tryd.pinned (.plain (OpenSpec.upto utfNextSpec)) utfNextUptoCard

/-- THE SECOND FORM's CARD OF 'scarflaw01.UtfBytes'. -/
def utfBytesUptoCard : Claim7 := { stood := { row := utfBytesUptoRow, standIns := [], harness := (true, "82a117f9a28e114c02d05ee72539387ab44d1b5dfdbffc9cd67ac615bf3b386e"), looks := false }, kinds := [], alts := [], laidByText := true, laidKinds := [.data, .pinned], laidTests := true, laidLooks := .later }
def UtfBytesUptoCardSaid : Prop := Claim7.holds Tryd.pinned (.plain (OpenSpec.upto utfBytesSpec)) utfBytesUptoCard

/-- THE SECOND FORM's CARD OF 'scarflaw01.UtfOrder'. -/
def utfOrderUptoCard : Claim7 := { stood := { row := utfOrderUptoRow, standIns := [], harness := (true, "82a117f9a28e114c02d05ee72539387ab44d1b5dfdbffc9cd67ac615bf3b386e"), looks := false }, kinds := [], alts := [], laidByText := true, laidKinds := [.data, .pinned], laidTests := true, laidLooks := .later }
def UtfOrderUptoCardSaid : Prop := Claim7.holds Tryd.pinned (.plain (OpenSpec.upto utfOrderSpec)) utfOrderUptoCard

/-- THE SECOND FORM's CARD OF 'scarflaw01.UtfJoins'. -/
def utfJoinsUptoCard : Claim7 := { stood := { row := utfJoinsUptoRow, standIns := [], harness := (true, "82a117f9a28e114c02d05ee72539387ab44d1b5dfdbffc9cd67ac615bf3b386e"), looks := false }, kinds := [], alts := [], laidByText := true, laidKinds := [.data, .pinned], laidTests := true, laidLooks := .later }
def UtfJoinsUptoCardSaid : Prop := Claim7.holds Tryd.pinned (.plain (OpenSpec.upto utfJoinsSpec)) utfJoinsUptoCard

/-- THE SECOND FORM's CARD OF 'scarflaw01.UtfCuts'. -/
def utfCutsUptoCard : Claim7 := { stood := { row := utfCutsUptoRow, standIns := [], harness := (true, "82a117f9a28e114c02d05ee72539387ab44d1b5dfdbffc9cd67ac615bf3b386e"), looks := false }, kinds := [], alts := [], laidByText := true, laidKinds := [.data, .pinned], laidTests := true, laidLooks := .later }
def UtfCutsUptoCardSaid : Prop := Claim7.holds Tryd.pinned (.plain (OpenSpec.upto utfCutsSpec)) utfCutsUptoCard

/-- THE SECOND FORM's CARD OF 'scarflaw01.UtfTexts'. -/
def utfTextsUptoCard : Claim7 := { stood := { row := utfTextsUptoRow, standIns := [], harness := (true, "82a117f9a28e114c02d05ee72539387ab44d1b5dfdbffc9cd67ac615bf3b386e"), looks := false }, kinds := [], alts := [], laidByText := true, laidKinds := [.data, .pinned], laidTests := true, laidLooks := .later }
def UtfTextsUptoCardSaid : Prop := Claim7.holds Tryd.pinned (.plain (OpenSpec.upto utfTextsSpec)) utfTextsUptoCard

/-- THE SECOND FORM's CARD OF 'scarflaw01.UtfBack'. -/
def utfBackUptoCard : Claim7 := { stood := { row := utfBackUptoRow, standIns := [], harness := (true, "82a117f9a28e114c02d05ee72539387ab44d1b5dfdbffc9cd67ac615bf3b386e"), looks := false }, kinds := [], alts := [], laidByText := true, laidKinds := [.data, .pinned], laidTests := true, laidLooks := .later }
def UtfBackUptoCardSaid : Prop := Claim7.holds Tryd.pinned (.plain (OpenSpec.upto utfBackSpec)) utfBackUptoCard
end Rows
end Go.Proofs.YtpoeiiimmgnioaaDoor
