/-
  DERIVED. GIVEN WITH THE SEED: THE CARDS: each row of YtlfobfhklmndkaaGreatDoorRows.lean that lists a variable, with what it lists TIED to the program's text (the seventh form; the later family's looks); each row that meets fmt, with fmt's text TOLD by the authors' own Lean function (tested against real Go, not proved from fmt's source: count such statements apart). THE CARD IS WHAT COUNTS. Prove the row's statement (the work); the ties are given (YtlfobfhklmndkaaGreatDoorTie.lean); close each card by the builder's one call (the guide's Derived/Test/ToyasCard.lean, 'card_holds'). Laid BY PROGRAM, IN A SANDBOX (cutbox-door.mjs). By AI agents, Wed Nov 11 2026. No macro, syntax, notation, axiom, sorry.
-/
import Derived.Test.YtlfobfhklmndkaaGreatDoorRows
import GoSem.ClaimSeven
namespace Go.Proofs.YtlfobfhklmndkaaGreatDoor
namespace Rows

/-- THE TIED CARD OF 'commonformlaw17.TableWrong'. -/
def tableWrongCard : Claim7 := { stood := { row := tableWrongRow, standIns := [], harness := (true, "f989c66d1abbc14645ec1dc99357c0191a71e6715a6e8dd8353d8a65d18e1f0a"), looks := true }, kinds := [], alts := [], laidByText := true, laidKinds := [.data, .data, .data, .sentinel, .sentinel], laidTests := true, laidLooks := .later }
def TableWrongCardSaid : Prop := Claim7.holds Tryz.pinned (.plain (OpenSpec.ofChange tableWrongSpec)) tableWrongCard

/-- THE TIED CARD OF 'commonformlaw17.TableSpreads'. -/
def tableSpreadsCard : Claim7 := { stood := { row := tableSpreadsRow, standIns := [], harness := (true, "f989c66d1abbc14645ec1dc99357c0191a71e6715a6e8dd8353d8a65d18e1f0a"), looks := true }, kinds := [], alts := [], laidByText := true, laidKinds := [.data, .data, .data, .sentinel, .sentinel], laidTests := true, laidLooks := .later }
def TableSpreadsCardSaid : Prop := Claim7.holds Tryz.pinned (.plain (OpenSpec.ofChange tableSpreadsSpec)) tableSpreadsCard

/-- THE SECOND FORM's CARD OF 'commonformlaw17.TableWrong'. -/
def tableWrongUptoCard : Claim7 := { stood := { row := tableWrongUptoRow, standIns := [], harness := (true, "f989c66d1abbc14645ec1dc99357c0191a71e6715a6e8dd8353d8a65d18e1f0a"), looks := true }, kinds := [], alts := [], laidByText := true, laidKinds := [.data, .data, .data, .sentinel, .sentinel], laidTests := true, laidLooks := .later }
def TableWrongUptoCardSaid : Prop := Claim7.holds Tryz.pinned (.plain (OpenSpec.upto tableWrongSpec)) tableWrongUptoCard

/-- THE SECOND FORM's CARD OF 'commonformlaw17.TableSpreads'. -/
def tableSpreadsUptoCard : Claim7 := { stood := { row := tableSpreadsUptoRow, standIns := [], harness := (true, "f989c66d1abbc14645ec1dc99357c0191a71e6715a6e8dd8353d8a65d18e1f0a"), looks := true }, kinds := [], alts := [], laidByText := true, laidKinds := [.data, .data, .data, .sentinel, .sentinel], laidTests := true, laidLooks := .later }
def TableSpreadsUptoCardSaid : Prop := Claim7.holds Tryz.pinned (.plain (OpenSpec.upto tableSpreadsSpec)) tableSpreadsUptoCard
end Rows
end Go.Proofs.YtlfobfhklmndkaaGreatDoor
