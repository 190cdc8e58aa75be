/-
  DERIVED. GIVEN WITH THE SEED: THE CARDS: each row of YtamemdhmjglifaaGreatDoorRows.lean that lists a variable, with what it lists TIED to the program's text (the seventh form; the later family's looks); each row that meets fmt, with fmt's text TOLD by the authors' own Lean function (tested against real Go, not proved from fmt's source: count such statements apart). THE CARD IS WHAT COUNTS. Prove the row's statement (the work); the ties are given (YtamemdhmjglifaaGreatDoorTie.lean); close each card by the builder's one call (the guide's Derived/Test/ToyasCard.lean, 'card_holds'). Laid BY PROGRAM, IN A SANDBOX (cutbox-door.mjs). By AI agents, Wed Nov 11 2026. No macro, syntax, notation, axiom, sorry.
-/
import Derived.Test.YtamemdhmjglifaaGreatDoorRows
import GoSem.ClaimSeven
namespace Go.Proofs.YtamemdhmjglifaaGreatDoor
namespace Rows

/-- THE TIED CARD OF 'commonformlaw12.SequenceSorts'. -/
def sequenceSortsCard : Claim7 := { stood := { row := sequenceSortsRow, standIns := [], harness := (true, "8d4120f1e15f64678e72a297acfdbdb30b6ab8c7548aaae89e2fb1b86f26f5fc"), looks := true }, kinds := [], alts := [], laidByText := true, laidKinds := [.data, .data, .data, .sentinel, .sentinel], laidTests := true, laidLooks := .later }
def SequenceSortsCardSaid : Prop := Claim7.holds Tryz.pinned (.plain (OpenSpec.ofChange sequenceSortsSpec)) sequenceSortsCard

/-- THE TIED CARD OF 'commonformlaw12.SequenceSorted'. -/
def sequenceSortedCard : Claim7 := { stood := { row := sequenceSortedRow, standIns := [], harness := (true, "8d4120f1e15f64678e72a297acfdbdb30b6ab8c7548aaae89e2fb1b86f26f5fc"), looks := true }, kinds := [], alts := [], laidByText := true, laidKinds := [.data, .data, .data, .sentinel, .sentinel], laidTests := true, laidLooks := .later }
def SequenceSortedCardSaid : Prop := Claim7.holds Tryz.pinned (.plain (OpenSpec.ofChange sequenceSortedSpec)) sequenceSortedCard

/-- THE TIED CARD OF 'commonformlaw12.SequenceTests'. -/
def sequenceTestsCard : Claim7 := { stood := { row := sequenceTestsRow, standIns := [], harness := (true, "8d4120f1e15f64678e72a297acfdbdb30b6ab8c7548aaae89e2fb1b86f26f5fc"), looks := true }, kinds := [], alts := [], laidByText := true, laidKinds := [.data, .data, .data, .sentinel, .sentinel], laidTests := true, laidLooks := .later }
def SequenceTestsCardSaid : Prop := Claim7.holds Tryz.pinned (.plain (OpenSpec.ofChange sequenceTestsSpec)) sequenceTestsCard

/-- THE TIED CARD OF 'commonformlaw12.SequenceMoves'. -/
def sequenceMovesCard : Claim7 := { stood := { row := sequenceMovesRow, standIns := [], harness := (true, "8d4120f1e15f64678e72a297acfdbdb30b6ab8c7548aaae89e2fb1b86f26f5fc"), looks := true }, kinds := [], alts := [], laidByText := true, laidKinds := [.data, .data, .data, .sentinel, .sentinel], laidTests := true, laidLooks := .later }
def SequenceMovesCardSaid : Prop := Claim7.holds Tryz.pinned (.plain (OpenSpec.ofChange sequenceMovesSpec)) sequenceMovesCard

/-- THE TIED CARD OF 'commonformlaw12.SequenceSets'. -/
def sequenceSetsCard : Claim7 := { stood := { row := sequenceSetsRow, standIns := [], harness := (true, "8d4120f1e15f64678e72a297acfdbdb30b6ab8c7548aaae89e2fb1b86f26f5fc"), looks := true }, kinds := [], alts := [], laidByText := true, laidKinds := [.data, .data, .data, .sentinel, .sentinel], laidTests := true, laidLooks := .later }
def SequenceSetsCardSaid : Prop := Claim7.holds Tryz.pinned (.plain (OpenSpec.ofChange sequenceSetsSpec)) sequenceSetsCard

/-- THE TIED CARD OF 'commonformlaw12.SequenceFinds'. -/
def sequenceFindsCard : Claim7 := { stood := { row := sequenceFindsRow, standIns := [], harness := (true, "8d4120f1e15f64678e72a297acfdbdb30b6ab8c7548aaae89e2fb1b86f26f5fc"), looks := true }, kinds := [], alts := [], laidByText := true, laidKinds := [.data, .data, .data, .sentinel, .sentinel], laidTests := true, laidLooks := .later }
def SequenceFindsCardSaid : Prop := Claim7.holds Tryz.pinned (.plain (OpenSpec.ofChange sequenceFindsSpec)) sequenceFindsCard

/-- THE TIED CARD OF 'commonformlaw12.SequenceMembers'. -/
def sequenceMembersCard : Claim7 := { stood := { row := sequenceMembersRow, standIns := [], harness := (true, "8d4120f1e15f64678e72a297acfdbdb30b6ab8c7548aaae89e2fb1b86f26f5fc"), looks := true }, kinds := [], alts := [], laidByText := true, laidKinds := [.data, .data, .data, .sentinel, .sentinel], laidTests := true, laidLooks := .later }
def SequenceMembersCardSaid : Prop := Claim7.holds Tryz.pinned (.plain (OpenSpec.ofChange sequenceMembersSpec)) sequenceMembersCard

/-- THE TIED CARD OF 'commonformlaw12.SequenceSearches'. -/
def sequenceSearchesCard : Claim7 := { stood := { row := sequenceSearchesRow, standIns := [], harness := (true, "8d4120f1e15f64678e72a297acfdbdb30b6ab8c7548aaae89e2fb1b86f26f5fc"), looks := true }, kinds := [], alts := [], laidByText := true, laidKinds := [.data, .data, .data, .sentinel, .sentinel], laidTests := true, laidLooks := .later }
def SequenceSearchesCardSaid : Prop := Claim7.holds Tryz.pinned (.plain (OpenSpec.ofChange sequenceSearchesSpec)) sequenceSearchesCard

/-- THE TIED CARD OF 'commonformlaw12.SequenceFound'. -/
def sequenceFoundCard : Claim7 := { stood := { row := sequenceFoundRow, standIns := [], harness := (true, "8d4120f1e15f64678e72a297acfdbdb30b6ab8c7548aaae89e2fb1b86f26f5fc"), looks := true }, kinds := [], alts := [], laidByText := true, laidKinds := [.data, .data, .data, .sentinel, .sentinel], laidTests := true, laidLooks := .later }
def SequenceFoundCardSaid : Prop := Claim7.holds Tryz.pinned (.plain (OpenSpec.ofChange sequenceFoundSpec)) sequenceFoundCard

/-- THE SECOND FORM's CARD OF 'commonformlaw12.SequenceSorts'. -/
def sequenceSortsUptoCard : Claim7 := { stood := { row := sequenceSortsUptoRow, standIns := [], harness := (true, "8d4120f1e15f64678e72a297acfdbdb30b6ab8c7548aaae89e2fb1b86f26f5fc"), looks := true }, kinds := [], alts := [], laidByText := true, laidKinds := [.data, .data, .data, .sentinel, .sentinel], laidTests := true, laidLooks := .later }
def SequenceSortsUptoCardSaid : Prop := Claim7.holds Tryz.pinned (.plain (OpenSpec.upto sequenceSortsSpec)) sequenceSortsUptoCard

/-- THE SECOND FORM's CARD OF 'commonformlaw12.SequenceSorted'. -/
def sequenceSortedUptoCard : Claim7 := { stood := { row := sequenceSortedUptoRow, standIns := [], harness := (true, "8d4120f1e15f64678e72a297acfdbdb30b6ab8c7548aaae89e2fb1b86f26f5fc"), looks := true }, kinds := [], alts := [], laidByText := true, laidKinds := [.data, .data, .data, .sentinel, .sentinel], laidTests := true, laidLooks := .later }
def SequenceSortedUptoCardSaid : Prop := Claim7.holds Tryz.pinned (.plain (OpenSpec.upto sequenceSortedSpec)) sequenceSortedUptoCard

/-- THE SECOND FORM's CARD OF 'commonformlaw12.SequenceTests'. -/
def sequenceTestsUptoCard : Claim7 := { stood := { row := sequenceTestsUptoRow, standIns := [], harness := (true, "8d4120f1e15f64678e72a297acfdbdb30b6ab8c7548aaae89e2fb1b86f26f5fc"), looks := true }, kinds := [], alts := [], laidByText := true, laidKinds := [.data, .data, .data, .sentinel, .sentinel], laidTests := true, laidLooks := .later }
def SequenceTestsUptoCardSaid : Prop := Claim7.holds Tryz.pinned (.plain (OpenSpec.upto sequenceTestsSpec)) sequenceTestsUptoCard

/-- THE SECOND FORM's CARD OF 'commonformlaw12.SequenceMoves'. -/
def sequenceMovesUptoCard : Claim7 := { stood := { row := sequenceMovesUptoRow, standIns := [], harness := (true, "8d4120f1e15f64678e72a297acfdbdb30b6ab8c7548aaae89e2fb1b86f26f5fc"), looks := true }, kinds := [], alts := [], laidByText := true, laidKinds := [.data, .data, .data, .sentinel, .sentinel], laidTests := true, laidLooks := .later }
def SequenceMovesUptoCardSaid : Prop := Claim7.holds Tryz.pinned (.plain (OpenSpec.upto sequenceMovesSpec)) sequenceMovesUptoCard

/-- THE SECOND FORM's CARD OF 'commonformlaw12.SequenceSets'. -/
def sequenceSetsUptoCard : Claim7 := { stood := { row := sequenceSetsUptoRow, standIns := [], harness := (true, "8d4120f1e15f64678e72a297acfdbdb30b6ab8c7548aaae89e2fb1b86f26f5fc"), looks := true }, kinds := [], alts := [], laidByText := true, laidKinds := [.data, .data, .data, .sentinel, .sentinel], laidTests := true, laidLooks := .later }
def SequenceSetsUptoCardSaid : Prop := Claim7.holds Tryz.pinned (.plain (OpenSpec.upto sequenceSetsSpec)) sequenceSetsUptoCard

/-- THE SECOND FORM's CARD OF 'commonformlaw12.SequenceFinds'. -/
def sequenceFindsUptoCard : Claim7 := { stood := { row := sequenceFindsUptoRow, standIns := [], harness := (true, "8d4120f1e15f64678e72a297acfdbdb30b6ab8c7548aaae89e2fb1b86f26f5fc"), looks := true }, kinds := [], alts := [], laidByText := true, laidKinds := [.data, .data, .data, .sentinel, .sentinel], laidTests := true, laidLooks := .later }
def SequenceFindsUptoCardSaid : Prop := Claim7.holds Tryz.pinned (.plain (OpenSpec.upto sequenceFindsSpec)) sequenceFindsUptoCard

/-- THE SECOND FORM's CARD OF 'commonformlaw12.SequenceMembers'. -/
def sequenceMembersUptoCard : Claim7 := { stood := { row := sequenceMembersUptoRow, standIns := [], harness := (true, "8d4120f1e15f64678e72a297acfdbdb30b6ab8c7548aaae89e2fb1b86f26f5fc"), looks := true }, kinds := [], alts := [], laidByText := true, laidKinds := [.data, .data, .data, .sentinel, .sentinel], laidTests := true, laidLooks := .later }
def SequenceMembersUptoCardSaid : Prop := Claim7.holds Tryz.pinned (.plain (OpenSpec.upto sequenceMembersSpec)) sequenceMembersUptoCard

/-- THE SECOND FORM's CARD OF 'commonformlaw12.SequenceSearches'. -/
def sequenceSearchesUptoCard : Claim7 := { stood := { row := sequenceSearchesUptoRow, standIns := [], harness := (true, "8d4120f1e15f64678e72a297acfdbdb30b6ab8c7548aaae89e2fb1b86f26f5fc"), looks := true }, kinds := [], alts := [], laidByText := true, laidKinds := [.data, .data, .data, .sentinel, .sentinel], laidTests := true, laidLooks := .later }
def SequenceSearchesUptoCardSaid : Prop := Claim7.holds Tryz.pinned (.plain (OpenSpec.upto sequenceSearchesSpec)) sequenceSearchesUptoCard

/-- THE SECOND FORM's CARD OF 'commonformlaw12.SequenceFound'. -/
def sequenceFoundUptoCard : Claim7 := { stood := { row := sequenceFoundUptoRow, standIns := [], harness := (true, "8d4120f1e15f64678e72a297acfdbdb30b6ab8c7548aaae89e2fb1b86f26f5fc"), looks := true }, kinds := [], alts := [], laidByText := true, laidKinds := [.data, .data, .data, .sentinel, .sentinel], laidTests := true, laidLooks := .later }
def SequenceFoundUptoCardSaid : Prop := Claim7.holds Tryz.pinned (.plain (OpenSpec.upto sequenceFoundSpec)) sequenceFoundUptoCard
end Rows
end Go.Proofs.YtamemdhmjglifaaGreatDoor
