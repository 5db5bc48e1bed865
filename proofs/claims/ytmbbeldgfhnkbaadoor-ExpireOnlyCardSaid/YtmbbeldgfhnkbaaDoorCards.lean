/-
  DERIVED. GIVEN WITH THE SEED: THE CARDS: each row of YtmbbeldgfhnkbaaDoorRows.lean that lists a variable, with what it lists TIED to the program's text (the seventh form; the later family's looks); each row that meets fmt, with fmt's text TOLD by the authors' own Lean function (tested against real Go, not proved from fmt's source: count such statements apart). THE CARD IS WHAT COUNTS. Prove the row's statement (the work); the ties are given (YtmbbeldgfhnkbaaDoorTie.lean); close each card by the builder's one call (the guide's Derived/Test/ToyasCard.lean, 'card_holds'). Laid BY PROGRAM, IN A SANDBOX (cutbox-door.mjs). By AI agents, Wed Nov 11 2026. No macro, syntax, notation, axiom, sorry.
-/
import Derived.Test.YtmbbeldgfhnkbaaDoorRows
import GoSem.ClaimSeven
namespace Go.Proofs.YtmbbeldgfhnkbaaDoor
namespace Rows

/-- THE TIED CARD OF 'tankardlaw03.SpanOrder'. -/
def spanOrderCard : Claim7 := { stood := { row := spanOrderRow, standIns := [], harness := (true, "9926c82fe3c5fab45b5d47660f4cdfc35add5fab29f855467e4dcbf90856e13e"), looks := true }, kinds := [], alts := [], laidByText := true, laidKinds := [.handle], laidTests := true, laidLooks := .later }
def SpanOrderCardSaid : Prop := Claim7.holds Tryd.pinned (.plain (OpenSpec.ofChange spanOrderSpec)) spanOrderCard

/-- THE TIED CARD OF 'tankardlaw03.SpanTells'. -/
def spanTellsCard : Claim7 := { stood := { row := spanTellsRow, standIns := [], harness := (true, "9926c82fe3c5fab45b5d47660f4cdfc35add5fab29f855467e4dcbf90856e13e"), looks := true }, kinds := [], alts := [], laidByText := true, laidKinds := [.handle], laidTests := true, laidLooks := .later }
def SpanTellsCardSaid : Prop := Claim7.holds Tryd.pinned (.plain (OpenSpec.ofChange spanTellsSpec)) spanTellsCard

/-- THE TIED CARD OF 'tankardlaw21.ExpireOnly'. -/
def expireOnlyCard : Claim7 := { stood := { row := expireOnlyRow, standIns := [], harness := (true, "9926c82fe3c5fab45b5d47660f4cdfc35add5fab29f855467e4dcbf90856e13e"), looks := true }, kinds := [], alts := [], laidByText := true, laidKinds := [.data, .data, .data], laidTests := true, laidLooks := .later }
def ExpireOnlyCardSaid : Prop := Claim7.holds Tryd.pinned (.plain (OpenSpec.ofChange expireOnlySpec)) expireOnlyCard

/-- THE SECOND FORM's CARD OF 'tankardlaw03.SpanOrder'. -/
def spanOrderUptoCard : Claim7 := { stood := { row := spanOrderUptoRow, standIns := [], harness := (true, "9926c82fe3c5fab45b5d47660f4cdfc35add5fab29f855467e4dcbf90856e13e"), looks := true }, kinds := [], alts := [], laidByText := true, laidKinds := [.handle], laidTests := true, laidLooks := .later }
def SpanOrderUptoCardSaid : Prop := Claim7.holds Tryd.pinned (.plain (OpenSpec.upto spanOrderSpec)) spanOrderUptoCard

/-- THE SECOND FORM's CARD OF 'tankardlaw03.SpanTells'. -/
def spanTellsUptoCard : Claim7 := { stood := { row := spanTellsUptoRow, standIns := [], harness := (true, "9926c82fe3c5fab45b5d47660f4cdfc35add5fab29f855467e4dcbf90856e13e"), looks := true }, kinds := [], alts := [], laidByText := true, laidKinds := [.handle], laidTests := true, laidLooks := .later }
def SpanTellsUptoCardSaid : Prop := Claim7.holds Tryd.pinned (.plain (OpenSpec.upto spanTellsSpec)) spanTellsUptoCard

/-- THE SECOND FORM's CARD OF 'tankardlaw21.ExpireOnly'. -/
def expireOnlyUptoCard : Claim7 := { stood := { row := expireOnlyUptoRow, standIns := [], harness := (true, "9926c82fe3c5fab45b5d47660f4cdfc35add5fab29f855467e4dcbf90856e13e"), looks := true }, kinds := [], alts := [], laidByText := true, laidKinds := [.data, .data, .data], laidTests := true, laidLooks := .later }
def ExpireOnlyUptoCardSaid : Prop := Claim7.holds Tryd.pinned (.plain (OpenSpec.upto expireOnlySpec)) expireOnlyUptoCard
end Rows
end Go.Proofs.YtmbbeldgfhnkbaaDoor
