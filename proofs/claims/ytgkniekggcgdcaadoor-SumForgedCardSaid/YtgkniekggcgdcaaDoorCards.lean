/-
  DERIVED. GIVEN WITH THE SEED: THE CARDS: each row of YtgkniekggcgdcaaDoorRows.lean that lists a variable, with what it lists TIED to the program's text (the seventh form; the later family's looks); each row that meets fmt, with fmt's text TOLD by the authors' own Lean function (tested against real Go, not proved from fmt's source: count such statements apart). THE CARD IS WHAT COUNTS. Prove the row's statement (the work); the ties are given (YtgkniekggcgdcaaDoorTie.lean); close each card by the builder's one call (the guide's Derived/Test/ToyasCard.lean, 'card_holds'). Laid BY PROGRAM, IN A SANDBOX (cutbox-door.mjs). By AI agents, Wed Nov 11 2026. No macro, syntax, notation, axiom, sorry.
-/
import Derived.Test.YtgkniekggcgdcaaDoorRows
import GoSem.ClaimSeven
namespace Go.Proofs.YtgkniekggcgdcaaDoor
namespace Rows

/-- THE TIED CARD OF 'portmanteaulaw02.SumOf'. -/
def sumOfCard : Claim7 := { stood := { row := sumOfRow, standIns := [], harness := (true, "2f25eac49c69bccd562187c584b6d6cd88997983d773363b71e2729436661a5c"), looks := false }, kinds := [], alts := [], laidByText := true, laidKinds := [.data], laidTests := true, laidLooks := .later }
def SumOfCardSaid : Prop := Claim7.holds Tryd.pinned (.plain (OpenSpec.ofChange sumOfSpec)) sumOfCard

/-- THE TIED CARD OF 'portmanteaulaw02.SumParts'. -/
def sumPartsCard : Claim7 := { stood := { row := sumPartsRow, standIns := [], harness := (true, "2f25eac49c69bccd562187c584b6d6cd88997983d773363b71e2729436661a5c"), looks := false }, kinds := [], alts := [], laidByText := true, laidKinds := [.data], laidTests := true, laidLooks := .later }
def SumPartsCardSaid : Prop := Claim7.holds Tryd.pinned (.plain (OpenSpec.ofChange sumPartsSpec)) sumPartsCard

/-- THE TIED CARD OF 'portmanteaulaw02.SumTurned'. -/
def sumTurnedCard : Claim7 := { stood := { row := sumTurnedRow, standIns := [], harness := (true, "2f25eac49c69bccd562187c584b6d6cd88997983d773363b71e2729436661a5c"), looks := false }, kinds := [], alts := [], laidByText := true, laidKinds := [.data], laidTests := true, laidLooks := .later }
def SumTurnedCardSaid : Prop := Claim7.holds Tryd.pinned (.plain (OpenSpec.ofChange sumTurnedSpec)) sumTurnedCard

/-- THE TIED CARD OF 'portmanteaulaw02.SumLike'. -/
def sumLikeCard : Claim7 := { stood := { row := sumLikeRow, standIns := [], harness := (true, "2f25eac49c69bccd562187c584b6d6cd88997983d773363b71e2729436661a5c"), looks := false }, kinds := [], alts := [], laidByText := true, laidKinds := [.data], laidTests := true, laidLooks := .later }
def SumLikeCardSaid : Prop := Claim7.holds Tryd.pinned (.plain (OpenSpec.ofChange sumLikeSpec)) sumLikeCard

/-- THE TIED CARD OF 'portmanteaulaw02.SumResidue'. -/
def sumResidueCard : Claim7 := { stood := { row := sumResidueRow, standIns := [], harness := (true, "2f25eac49c69bccd562187c584b6d6cd88997983d773363b71e2729436661a5c"), looks := false }, kinds := [], alts := [], laidByText := true, laidKinds := [.data], laidTests := true, laidLooks := .later }
def SumResidueCardSaid : Prop := Claim7.holds Tryd.pinned (.plain (OpenSpec.ofChange sumResidueSpec)) sumResidueCard

/-- THE TIED CARD OF 'portmanteaulaw02.SumForged'. -/
def sumForgedCard : Claim7 := { stood := { row := sumForgedRow, standIns := [], harness := (true, "2f25eac49c69bccd562187c584b6d6cd88997983d773363b71e2729436661a5c"), looks := false }, kinds := [], alts := [], laidByText := true, laidKinds := [.data], laidTests := true, laidLooks := .later }
def SumForgedCardSaid : Prop := Claim7.holds Tryd.pinned (.plain (OpenSpec.ofChange sumForgedSpec)) sumForgedCard

/-- THE SECOND FORM's CARD OF 'portmanteaulaw02.SumOf'. -/
def sumOfUptoCard : Claim7 := { stood := { row := sumOfUptoRow, standIns := [], harness := (true, "2f25eac49c69bccd562187c584b6d6cd88997983d773363b71e2729436661a5c"), looks := false }, kinds := [], alts := [], laidByText := true, laidKinds := [.data], laidTests := true, laidLooks := .later }
def SumOfUptoCardSaid : Prop := Claim7.holds Tryd.pinned (.plain (OpenSpec.upto sumOfSpec)) sumOfUptoCard

/-- THE SECOND FORM's CARD OF 'portmanteaulaw02.SumParts'. -/
def sumPartsUptoCard : Claim7 := { stood := { row := sumPartsUptoRow, standIns := [], harness := (true, "2f25eac49c69bccd562187c584b6d6cd88997983d773363b71e2729436661a5c"), looks := false }, kinds := [], alts := [], laidByText := true, laidKinds := [.data], laidTests := true, laidLooks := .later }
def SumPartsUptoCardSaid : Prop := Claim7.holds Tryd.pinned (.plain (OpenSpec.upto sumPartsSpec)) sumPartsUptoCard

/-- THE SECOND FORM's CARD OF 'portmanteaulaw02.SumTurned'. -/
def sumTurnedUptoCard : Claim7 := { stood := { row := sumTurnedUptoRow, standIns := [], harness := (true, "2f25eac49c69bccd562187c584b6d6cd88997983d773363b71e2729436661a5c"), looks := false }, kinds := [], alts := [], laidByText := true, laidKinds := [.data], laidTests := true, laidLooks := .later }
def SumTurnedUptoCardSaid : Prop := Claim7.holds Tryd.pinned (.plain (OpenSpec.upto sumTurnedSpec)) sumTurnedUptoCard

/-- THE SECOND FORM's CARD OF 'portmanteaulaw02.SumLike'. -/
def sumLikeUptoCard : Claim7 := { stood := { row := sumLikeUptoRow, standIns := [], harness := (true, "2f25eac49c69bccd562187c584b6d6cd88997983d773363b71e2729436661a5c"), looks := false }, kinds := [], alts := [], laidByText := true, laidKinds := [.data], laidTests := true, laidLooks := .later }
def SumLikeUptoCardSaid : Prop := Claim7.holds Tryd.pinned (.plain (OpenSpec.upto sumLikeSpec)) sumLikeUptoCard

/-- THE SECOND FORM's CARD OF 'portmanteaulaw02.SumResidue'. -/
def sumResidueUptoCard : Claim7 := { stood := { row := sumResidueUptoRow, standIns := [], harness := (true, "2f25eac49c69bccd562187c584b6d6cd88997983d773363b71e2729436661a5c"), looks := false }, kinds := [], alts := [], laidByText := true, laidKinds := [.data], laidTests := true, laidLooks := .later }
def SumResidueUptoCardSaid : Prop := Claim7.holds Tryd.pinned (.plain (OpenSpec.upto sumResidueSpec)) sumResidueUptoCard

/-- THE SECOND FORM's CARD OF 'portmanteaulaw02.SumForged'. -/
def sumForgedUptoCard : Claim7 := { stood := { row := sumForgedUptoRow, standIns := [], harness := (true, "2f25eac49c69bccd562187c584b6d6cd88997983d773363b71e2729436661a5c"), looks := false }, kinds := [], alts := [], laidByText := true, laidKinds := [.data], laidTests := true, laidLooks := .later }
def SumForgedUptoCardSaid : Prop := Claim7.holds Tryd.pinned (.plain (OpenSpec.upto sumForgedSpec)) sumForgedUptoCard
end Rows
end Go.Proofs.YtgkniekggcgdcaaDoor
