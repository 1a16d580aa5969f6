/-
  DERIVED. GIVEN WITH THE SEED: THE CARDS: each row of YtncpcjphljfcpaaDoorRows.lean that lists a variable, with what it lists TIED to the program's text (the seventh form; the later family's looks); each row that meets fmt, with fmt's text TOLD by the authors' own Lean function (tested against real Go, not proved from fmt's source: count such statements apart). THE CARD IS WHAT COUNTS. Prove the row's statement (the work); the ties are given (YtncpcjphljfcpaaDoorTie.lean); close each card by the builder's one call (the guide's Derived/Test/ToyasCard.lean, 'card_holds'). Laid BY PROGRAM, IN A SANDBOX (cutbox-door.mjs). By AI agents, Wed Nov 11 2026. No macro, syntax, notation, axiom, sorry.
-/
import Derived.Test.YtncpcjphljfcpaaDoorRows
import GoSem.ClaimSeven
namespace Go.Proofs.YtncpcjphljfcpaaDoor
namespace Rows

/-- THE TIED CARD OF 'weftlaw1.AddrParses'. -/
def addrParsesCard : Claim7 := { stood := { row := addrParsesRow, standIns := [], harness := (true, "ccd96c21cdbba577decb4762ba453d339ddc416f21305ebcd51b30e0d81f0123"), looks := false }, kinds := [], alts := [], laidByText := true, laidKinds := [.data, .data, .data], laidTests := true, laidLooks := .later }
def AddrParsesCardSaid : Prop := Claim7.holds Tryd.pinned (.plain (OpenSpec.ofChange addrParsesSpec)) addrParsesCard

/-- THE TIED CARD OF 'weftlaw1.AddrFormats'. -/
def addrFormatsCard : Claim7 := { stood := { row := addrFormatsRow, standIns := [], harness := (true, "ccd96c21cdbba577decb4762ba453d339ddc416f21305ebcd51b30e0d81f0123"), looks := false }, kinds := [], alts := [], laidByText := true, laidKinds := [.data, .data, .data, .data], laidTests := true, laidLooks := .later }
def AddrFormatsCardSaid : Prop := Claim7.holds Tryd.pinned (.plain (OpenSpec.ofChange addrFormatsSpec)) addrFormatsCard

/-- THE TIED CARD OF 'weftlaw1.AddrScript'. -/
def addrScriptCard : Claim7 := { stood := { row := addrScriptRow, standIns := [], harness := (true, "ccd96c21cdbba577decb4762ba453d339ddc416f21305ebcd51b30e0d81f0123"), looks := false }, kinds := [], alts := [], laidByText := true, laidKinds := [.data, .data, .data, .data], laidTests := true, laidLooks := .later }
def AddrScriptCardSaid : Prop := Claim7.holds Tryd.pinned (.plain (OpenSpec.ofChange addrScriptSpec)) addrScriptCard

/-- THE SECOND FORM's CARD OF 'weftlaw1.AddrParses'. -/
def addrParsesUptoCard : Claim7 := { stood := { row := addrParsesUptoRow, standIns := [], harness := (true, "ccd96c21cdbba577decb4762ba453d339ddc416f21305ebcd51b30e0d81f0123"), looks := false }, kinds := [], alts := [], laidByText := true, laidKinds := [.data, .data, .data], laidTests := true, laidLooks := .later }
def AddrParsesUptoCardSaid : Prop := Claim7.holds Tryd.pinned (.plain (OpenSpec.upto addrParsesSpec)) addrParsesUptoCard

/-- THE SECOND FORM's CARD OF 'weftlaw1.AddrFormats'. -/
def addrFormatsUptoCard : Claim7 := { stood := { row := addrFormatsUptoRow, standIns := [], harness := (true, "ccd96c21cdbba577decb4762ba453d339ddc416f21305ebcd51b30e0d81f0123"), looks := false }, kinds := [], alts := [], laidByText := true, laidKinds := [.data, .data, .data, .data], laidTests := true, laidLooks := .later }
def AddrFormatsUptoCardSaid : Prop := Claim7.holds Tryd.pinned (.plain (OpenSpec.upto addrFormatsSpec)) addrFormatsUptoCard

/-- THE SECOND FORM's CARD OF 'weftlaw1.AddrScript'. -/
def addrScriptUptoCard : Claim7 := { stood := { row := addrScriptUptoRow, standIns := [], harness := (true, "ccd96c21cdbba577decb4762ba453d339ddc416f21305ebcd51b30e0d81f0123"), looks := false }, kinds := [], alts := [], laidByText := true, laidKinds := [.data, .data, .data, .data], laidTests := true, laidLooks := .later }
def AddrScriptUptoCardSaid : Prop := Claim7.holds Tryd.pinned (.plain (OpenSpec.upto addrScriptSpec)) addrScriptUptoCard
end Rows
end Go.Proofs.YtncpcjphljfcpaaDoor
