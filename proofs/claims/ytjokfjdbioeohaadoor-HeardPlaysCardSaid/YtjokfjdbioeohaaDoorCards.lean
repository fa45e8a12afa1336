/-
  DERIVED. GIVEN WITH THE SEED: THE CARDS: each row of YtjokfjdbioeohaaDoorRows.lean that lists a variable, with what it lists TIED to the program's text (the seventh form; the later family's looks); each row that meets fmt, with fmt's text TOLD by the authors' own Lean function (tested against real Go, not proved from fmt's source: count such statements apart). THE CARD IS WHAT COUNTS. Prove the row's statement (the work); the ties are given (YtjokfjdbioeohaaDoorTie.lean); close each card by the builder's one call (the guide's Derived/Test/ToyasCard.lean, 'card_holds'). Laid BY PROGRAM, IN A SANDBOX (cutbox-door.mjs). By AI agents, Wed Nov 11 2026. No macro, syntax, notation, axiom, sorry.
-/
import Derived.Test.YtjokfjdbioeohaaDoorRows
import GoSem.ClaimSeven
namespace Go.Proofs.YtjokfjdbioeohaaDoor
namespace Rows

/-- THE TIED CARD OF 'consortlaw11.LinkPlays'. -/
def linkPlaysCard : Claim7 := { stood := { row := linkPlaysRow, standIns := [], harness := (true, "f202f40b9af3f31e16d797d6cf909eacfc4b95f9872faea58f0e584f634313fc"), looks := false }, kinds := [], alts := [], laidByText := true, laidKinds := [.data], laidTests := true, laidLooks := .later }
def LinkPlaysCardSaid : Prop := Claim7.holds Tryd.pinned (.plain (OpenSpec.ofChange linkPlaysSpec)) linkPlaysCard

/-- THE TIED CARD OF 'consortlaw11.LinkBounds'. -/
def linkBoundsCard : Claim7 := { stood := { row := linkBoundsRow, standIns := [], harness := (true, "f202f40b9af3f31e16d797d6cf909eacfc4b95f9872faea58f0e584f634313fc"), looks := false }, kinds := [], alts := [], laidByText := true, laidKinds := [.data], laidTests := true, laidLooks := .later }
def LinkBoundsCardSaid : Prop := Claim7.holds Tryd.pinned (.plain (OpenSpec.ofChange linkBoundsSpec)) linkBoundsCard

/-- THE TIED CARD OF 'consortlaw11.LinkAlone'. -/
def linkAloneCard : Claim7 := { stood := { row := linkAloneRow, standIns := [], harness := (true, "f202f40b9af3f31e16d797d6cf909eacfc4b95f9872faea58f0e584f634313fc"), looks := false }, kinds := [], alts := [], laidByText := true, laidKinds := [.data], laidTests := true, laidLooks := .later }
def LinkAloneCardSaid : Prop := Claim7.holds Tryd.pinned (.plain (OpenSpec.ofChange linkAloneSpec)) linkAloneCard

/-- THE TIED CARD OF 'consortlaw11.LinkCopies'. -/
def linkCopiesCard : Claim7 := { stood := { row := linkCopiesRow, standIns := [], harness := (true, "f202f40b9af3f31e16d797d6cf909eacfc4b95f9872faea58f0e584f634313fc"), looks := false }, kinds := [], alts := [], laidByText := true, laidKinds := [.data], laidTests := true, laidLooks := .later }
def LinkCopiesCardSaid : Prop := Claim7.holds Tryd.pinned (.plain (OpenSpec.ofChange linkCopiesSpec)) linkCopiesCard

/-- THE TIED CARD OF 'consortlaw09.HeardPlays'. -/
def heardPlaysCard : Claim7 := { stood := { row := heardPlaysRow, standIns := [], harness := (true, "f202f40b9af3f31e16d797d6cf909eacfc4b95f9872faea58f0e584f634313fc"), looks := false }, kinds := [], alts := [], laidByText := true, laidKinds := [.data], laidTests := true, laidLooks := .later }
def HeardPlaysCardSaid : Prop := Claim7.holds Tryd.pinned (.plain (OpenSpec.ofChange heardPlaysSpec)) heardPlaysCard

/-- THE TIED CARD OF 'consortlaw09.HeardLately'. -/
def heardLatelyCard : Claim7 := { stood := { row := heardLatelyRow, standIns := [], harness := (true, "f202f40b9af3f31e16d797d6cf909eacfc4b95f9872faea58f0e584f634313fc"), looks := false }, kinds := [], alts := [], laidByText := true, laidKinds := [.data], laidTests := true, laidLooks := .later }
def HeardLatelyCardSaid : Prop := Claim7.holds Tryd.pinned (.plain (OpenSpec.ofChange heardLatelySpec)) heardLatelyCard

/-- THE TIED CARD OF 'consortlaw09.HeardEpoch'. -/
def heardEpochCard : Claim7 := { stood := { row := heardEpochRow, standIns := [], harness := (true, "f202f40b9af3f31e16d797d6cf909eacfc4b95f9872faea58f0e584f634313fc"), looks := false }, kinds := [], alts := [], laidByText := true, laidKinds := [.data], laidTests := true, laidLooks := .later }
def HeardEpochCardSaid : Prop := Claim7.holds Tryd.pinned (.plain (OpenSpec.ofChange heardEpochSpec)) heardEpochCard

/-- THE TIED CARD OF 'consortlaw09.HeardApart'. -/
def heardApartCard : Claim7 := { stood := { row := heardApartRow, standIns := [], harness := (true, "f202f40b9af3f31e16d797d6cf909eacfc4b95f9872faea58f0e584f634313fc"), looks := false }, kinds := [], alts := [], laidByText := true, laidKinds := [.data], laidTests := true, laidLooks := .later }
def HeardApartCardSaid : Prop := Claim7.holds Tryd.pinned (.plain (OpenSpec.ofChange heardApartSpec)) heardApartCard

/-- THE SECOND FORM's CARD OF 'consortlaw11.LinkPlays'. -/
def linkPlaysUptoCard : Claim7 := { stood := { row := linkPlaysUptoRow, standIns := [], harness := (true, "f202f40b9af3f31e16d797d6cf909eacfc4b95f9872faea58f0e584f634313fc"), looks := false }, kinds := [], alts := [], laidByText := true, laidKinds := [.data], laidTests := true, laidLooks := .later }
def LinkPlaysUptoCardSaid : Prop := Claim7.holds Tryd.pinned (.plain (OpenSpec.upto linkPlaysSpec)) linkPlaysUptoCard

/-- THE SECOND FORM's CARD OF 'consortlaw11.LinkBounds'. -/
def linkBoundsUptoCard : Claim7 := { stood := { row := linkBoundsUptoRow, standIns := [], harness := (true, "f202f40b9af3f31e16d797d6cf909eacfc4b95f9872faea58f0e584f634313fc"), looks := false }, kinds := [], alts := [], laidByText := true, laidKinds := [.data], laidTests := true, laidLooks := .later }
def LinkBoundsUptoCardSaid : Prop := Claim7.holds Tryd.pinned (.plain (OpenSpec.upto linkBoundsSpec)) linkBoundsUptoCard

/-- THE SECOND FORM's CARD OF 'consortlaw11.LinkAlone'. -/
def linkAloneUptoCard : Claim7 := { stood := { row := linkAloneUptoRow, standIns := [], harness := (true, "f202f40b9af3f31e16d797d6cf909eacfc4b95f9872faea58f0e584f634313fc"), looks := false }, kinds := [], alts := [], laidByText := true, laidKinds := [.data], laidTests := true, laidLooks := .later }
def LinkAloneUptoCardSaid : Prop := Claim7.holds Tryd.pinned (.plain (OpenSpec.upto linkAloneSpec)) linkAloneUptoCard

/-- THE SECOND FORM's CARD OF 'consortlaw11.LinkCopies'. -/
def linkCopiesUptoCard : Claim7 := { stood := { row := linkCopiesUptoRow, standIns := [], harness := (true, "f202f40b9af3f31e16d797d6cf909eacfc4b95f9872faea58f0e584f634313fc"), looks := false }, kinds := [], alts := [], laidByText := true, laidKinds := [.data], laidTests := true, laidLooks := .later }
def LinkCopiesUptoCardSaid : Prop := Claim7.holds Tryd.pinned (.plain (OpenSpec.upto linkCopiesSpec)) linkCopiesUptoCard

/-- THE SECOND FORM's CARD OF 'consortlaw09.HeardPlays'. -/
def heardPlaysUptoCard : Claim7 := { stood := { row := heardPlaysUptoRow, standIns := [], harness := (true, "f202f40b9af3f31e16d797d6cf909eacfc4b95f9872faea58f0e584f634313fc"), looks := false }, kinds := [], alts := [], laidByText := true, laidKinds := [.data], laidTests := true, laidLooks := .later }
def HeardPlaysUptoCardSaid : Prop := Claim7.holds Tryd.pinned (.plain (OpenSpec.upto heardPlaysSpec)) heardPlaysUptoCard

/-- THE SECOND FORM's CARD OF 'consortlaw09.HeardLately'. -/
def heardLatelyUptoCard : Claim7 := { stood := { row := heardLatelyUptoRow, standIns := [], harness := (true, "f202f40b9af3f31e16d797d6cf909eacfc4b95f9872faea58f0e584f634313fc"), looks := false }, kinds := [], alts := [], laidByText := true, laidKinds := [.data], laidTests := true, laidLooks := .later }
def HeardLatelyUptoCardSaid : Prop := Claim7.holds Tryd.pinned (.plain (OpenSpec.upto heardLatelySpec)) heardLatelyUptoCard

/-- THE SECOND FORM's CARD OF 'consortlaw09.HeardEpoch'. -/
def heardEpochUptoCard : Claim7 := { stood := { row := heardEpochUptoRow, standIns := [], harness := (true, "f202f40b9af3f31e16d797d6cf909eacfc4b95f9872faea58f0e584f634313fc"), looks := false }, kinds := [], alts := [], laidByText := true, laidKinds := [.data], laidTests := true, laidLooks := .later }
def HeardEpochUptoCardSaid : Prop := Claim7.holds Tryd.pinned (.plain (OpenSpec.upto heardEpochSpec)) heardEpochUptoCard

/-- THE SECOND FORM's CARD OF 'consortlaw09.HeardApart'. -/
def heardApartUptoCard : Claim7 := { stood := { row := heardApartUptoRow, standIns := [], harness := (true, "f202f40b9af3f31e16d797d6cf909eacfc4b95f9872faea58f0e584f634313fc"), looks := false }, kinds := [], alts := [], laidByText := true, laidKinds := [.data], laidTests := true, laidLooks := .later }
def HeardApartUptoCardSaid : Prop := Claim7.holds Tryd.pinned (.plain (OpenSpec.upto heardApartSpec)) heardApartUptoCard
end Rows
end Go.Proofs.YtjokfjdbioeohaaDoor
