/-
  DERIVED. GIVEN WITH THE SEED: THE CARDS: each row of YthnjjiflfjegnaaDoorRows.lean that lists a variable, with what it lists TIED to the program's text (the seventh form; the later family's looks); each row that meets fmt, with fmt's text TOLD by the authors' own Lean function (tested against real Go, not proved from fmt's source: count such statements apart). THE CARD IS WHAT COUNTS. Prove the row's statement (the work); the ties are given (YthnjjiflfjegnaaDoorTie.lean); close each card by the builder's one call (the guide's Derived/Test/ToyasCard.lean, 'card_holds'). Laid BY PROGRAM, IN A SANDBOX (cutbox-door.mjs). By AI agents, Wed Nov 11 2026. No macro, syntax, notation, axiom, sorry.
-/
import Derived.Test.YthnjjiflfjegnaaDoorRows
import GoSem.ClaimSeven
namespace Go.Proofs.YthnjjiflfjegnaaDoor
namespace Rows

/-- THE TIED CARD OF 'tankardlaw03.SpanPuts'. -/
def spanPutsCard : Claim7 := { stood := { row := spanPutsRow, standIns := [], harness := (true, "73cdd402a97af5a7c78532078fad788a310a0c1493c080ac0d2ceb77707c3c28"), looks := true }, kinds := [], alts := [], laidByText := true, laidKinds := [.handle], laidTests := true, laidLooks := .later }
def SpanPutsCardSaid : Prop := Claim7.holds Tryd.pinned (.plain (OpenSpec.ofChange spanPutsSpec)) spanPutsCard

/-- THE TIED CARD OF 'tankardlaw03.SpanGets'. -/
def spanGetsCard : Claim7 := { stood := { row := spanGetsRow, standIns := [], harness := (true, "73cdd402a97af5a7c78532078fad788a310a0c1493c080ac0d2ceb77707c3c28"), looks := true }, kinds := [], alts := [], laidByText := true, laidKinds := [.handle], laidTests := true, laidLooks := .later }
def SpanGetsCardSaid : Prop := Claim7.holds Tryd.pinned (.plain (OpenSpec.ofChange spanGetsSpec)) spanGetsCard

/-- THE TIED CARD OF 'tankardlaw03.SpanBack'. -/
def spanBackCard : Claim7 := { stood := { row := spanBackRow, standIns := [], harness := (true, "73cdd402a97af5a7c78532078fad788a310a0c1493c080ac0d2ceb77707c3c28"), looks := true }, kinds := [], alts := [], laidByText := true, laidKinds := [.handle], laidTests := true, laidLooks := .later }
def SpanBackCardSaid : Prop := Claim7.holds Tryd.pinned (.plain (OpenSpec.ofChange spanBackSpec)) spanBackCard

/-- THE TIED CARD OF 'tankardlaw03.SpanOrder'. -/
def spanOrderCard : Claim7 := { stood := { row := spanOrderRow, standIns := [], harness := (true, "73cdd402a97af5a7c78532078fad788a310a0c1493c080ac0d2ceb77707c3c28"), looks := true }, kinds := [], alts := [], laidByText := true, laidKinds := [.handle], laidTests := true, laidLooks := .later }
def SpanOrderCardSaid : Prop := Claim7.holds Tryd.pinned (.plain (OpenSpec.ofChange spanOrderSpec)) spanOrderCard

/-- THE TIED CARD OF 'tankardlaw03.SpanTells'. -/
def spanTellsCard : Claim7 := { stood := { row := spanTellsRow, standIns := [], harness := (true, "73cdd402a97af5a7c78532078fad788a310a0c1493c080ac0d2ceb77707c3c28"), looks := true }, kinds := [], alts := [], laidByText := true, laidKinds := [.handle], laidTests := true, laidLooks := .later }
def SpanTellsCardSaid : Prop := Claim7.holds Tryd.pinned (.plain (OpenSpec.ofChange spanTellsSpec)) spanTellsCard

/-- THE SECOND FORM's CARD OF 'tankardlaw03.SpanPuts'. -/
def spanPutsUptoCard : Claim7 := { stood := { row := spanPutsUptoRow, standIns := [], harness := (true, "73cdd402a97af5a7c78532078fad788a310a0c1493c080ac0d2ceb77707c3c28"), looks := true }, kinds := [], alts := [], laidByText := true, laidKinds := [.handle], laidTests := true, laidLooks := .later }
def SpanPutsUptoCardSaid : Prop := Claim7.holds Tryd.pinned (.plain (OpenSpec.upto spanPutsSpec)) spanPutsUptoCard

/-- THE SECOND FORM's CARD OF 'tankardlaw03.SpanGets'. -/
def spanGetsUptoCard : Claim7 := { stood := { row := spanGetsUptoRow, standIns := [], harness := (true, "73cdd402a97af5a7c78532078fad788a310a0c1493c080ac0d2ceb77707c3c28"), looks := true }, kinds := [], alts := [], laidByText := true, laidKinds := [.handle], laidTests := true, laidLooks := .later }
def SpanGetsUptoCardSaid : Prop := Claim7.holds Tryd.pinned (.plain (OpenSpec.upto spanGetsSpec)) spanGetsUptoCard

/-- THE SECOND FORM's CARD OF 'tankardlaw03.SpanBack'. -/
def spanBackUptoCard : Claim7 := { stood := { row := spanBackUptoRow, standIns := [], harness := (true, "73cdd402a97af5a7c78532078fad788a310a0c1493c080ac0d2ceb77707c3c28"), looks := true }, kinds := [], alts := [], laidByText := true, laidKinds := [.handle], laidTests := true, laidLooks := .later }
def SpanBackUptoCardSaid : Prop := Claim7.holds Tryd.pinned (.plain (OpenSpec.upto spanBackSpec)) spanBackUptoCard

/-- THE SECOND FORM's CARD OF 'tankardlaw03.SpanOrder'. -/
def spanOrderUptoCard : Claim7 := { stood := { row := spanOrderUptoRow, standIns := [], harness := (true, "73cdd402a97af5a7c78532078fad788a310a0c1493c080ac0d2ceb77707c3c28"), looks := true }, kinds := [], alts := [], laidByText := true, laidKinds := [.handle], laidTests := true, laidLooks := .later }
def SpanOrderUptoCardSaid : Prop := Claim7.holds Tryd.pinned (.plain (OpenSpec.upto spanOrderSpec)) spanOrderUptoCard

/-- THE SECOND FORM's CARD OF 'tankardlaw03.SpanTells'. -/
def spanTellsUptoCard : Claim7 := { stood := { row := spanTellsUptoRow, standIns := [], harness := (true, "73cdd402a97af5a7c78532078fad788a310a0c1493c080ac0d2ceb77707c3c28"), looks := true }, kinds := [], alts := [], laidByText := true, laidKinds := [.handle], laidTests := true, laidLooks := .later }
def SpanTellsUptoCardSaid : Prop := Claim7.holds Tryd.pinned (.plain (OpenSpec.upto spanTellsSpec)) spanTellsUptoCard
end Rows
end Go.Proofs.YthnjjiflfjegnaaDoor
