/-
  NARROWER THAN 'FOR EVERY INPUT', by the rows' own cells (each row's printed sentence says how): SpanPuts: laid · SpanGets: laid · SpanBack: laid · SpanOrder: laid · SpanTells: laid.
  DERIVED. THE GIVEN ROWS OF THIS SEAT. 5 by the template 'for every input the law returns true; each argument reads behind the call as it read before'; 0 by the template 'total and deterministic' (their statements: YthnjjiflfjegnaaDoorTotals.lean).
  GIVEN WITH THE SEED: the statements are not yours to turn. If you find one false, say at which input.
  Laid BY PROGRAM, IN A SANDBOX (cutbox-rows.mjs): the forced cells as the released guide's own fill.sh prints them over the translation fb0999a53c1fe90d… (all of the seat's roots in one cut). By AI agents, Wed Nov 11 2026. No macro, syntax, notation, axiom, sorry.
-/
import Derived.Test.YthnjjiflfjegnaaDoorChecked
import GoSem.Claim
import GoSem.ClaimJoined
import GoSem.ClaimMapViews
import Derived.JoinedTies
import Derived.KernelRfl
namespace Go.Proofs.YthnjjiflfjegnaaDoor
/- THE CELL 'sum', in the pinned program and in every row, IS THE sha256 OF THE DUMP (.gsa) THAT YthnjjiflfjegnaaDoorProg.lean LOADS. Nothing in Lean hashes anything: it is a label: what it is worth is what the hold of that sum in a sandbox is worth. -/
noncomputable def Tryd.pinned : Pinned := { name := "ythnjjiflfjegnaadoor", sum := "fb0999a53c1fe90dc98365eb346dc48fb41e9937d96688c4bc9c3105617b9cfe", checked := Tryd.checked }
namespace Rows
def none {H : Type} : Left H := { results := [], args := [] }

/- WHAT THE LISTED PACKAGE-LEVEL VARIABLES READ AS WHEN THE CALL BEGINS. Each datum BY PROGRAM (the guide's laid-datum.mjs) off the statement by which the dump's own 'gosem.cut.vars' lays the variable. In a bare row this is a premise. The card (YthnjjiflfjegnaaDoorCards.lean) ties it to the program's text. -/
def laid_errors_errorType {H : Type} : DataW H := .iface "internal/reflectlite.rtype" (.agg [.ptr (.lit (.string [101, 114, 114, 111, 114]))])

/-- 'tankardlaw03.SpanPuts': WHATEVER THE INPUT: true; the input reads as it did. -/
def spanPutsSpec : ChangeSpec := { name := "spanPuts", fn := fun _ => fun
  | [d] => { results := [.lit (.bool true)], args := [d] }
  | _ => none }
def spanPutsRow : OpenClaim := { program := "ythnjjiflfjegnaadoor", sum := "fb0999a53c1fe90dc98365eb346dc48fb41e9937d96688c4bc9c3105617b9cfe", func := "tankard/tankardlaw03.SpanPuts", spec := "spanPuts", inPlace := ["internal/reflectlite.ValueOf", "(internal/reflectlite.Value).Type", "(internal/reflectlite.Value).IsNil", "internal/reflectlite.TypeOf", "(internal/reflectlite.Value).Elem", "(internal/reflectlite.Value).Set"], unfollowed := true, recurses := true, named := ["errors.errorType"], apart := false, laid := [("errors.errorType", laid_errors_errorType)] }
def SpanPutsSaid : Prop := spanPutsRow.holds Tryd.pinned (OpenSpec.ofChange spanPutsSpec)

/-- ITS FALSE NEIGHBOUR: 'it returns false'. Refute it at one input. -/
def spanPutsWrong : ChangeSpec := { name := "spanPuts", fn := fun _ => fun
  | [d] => { results := [.lit (.bool false)], args := [d] }
  | _ => none }
def SpanPutsWrongFalsely : Prop := spanPutsRow.holds Tryd.pinned (OpenSpec.ofChange spanPutsWrong)

/-- 'tankardlaw03.SpanGets': WHATEVER THE INPUT: true; the input reads as it did. -/
def spanGetsSpec : ChangeSpec := { name := "spanGets", fn := fun _ => fun
  | [d] => { results := [.lit (.bool true)], args := [d] }
  | _ => none }
def spanGetsRow : OpenClaim := { program := "ythnjjiflfjegnaadoor", sum := "fb0999a53c1fe90dc98365eb346dc48fb41e9937d96688c4bc9c3105617b9cfe", func := "tankard/tankardlaw03.SpanGets", spec := "spanGets", inPlace := ["internal/reflectlite.ValueOf", "(internal/reflectlite.Value).Type", "(internal/reflectlite.Value).IsNil", "internal/reflectlite.TypeOf", "(internal/reflectlite.Value).Elem", "(internal/reflectlite.Value).Set"], unfollowed := true, recurses := true, named := ["errors.errorType"], apart := false, laid := [("errors.errorType", laid_errors_errorType)] }
def SpanGetsSaid : Prop := spanGetsRow.holds Tryd.pinned (OpenSpec.ofChange spanGetsSpec)

/-- ITS FALSE NEIGHBOUR: 'it returns false'. Refute it at one input. -/
def spanGetsWrong : ChangeSpec := { name := "spanGets", fn := fun _ => fun
  | [d] => { results := [.lit (.bool false)], args := [d] }
  | _ => none }
def SpanGetsWrongFalsely : Prop := spanGetsRow.holds Tryd.pinned (OpenSpec.ofChange spanGetsWrong)

/-- 'tankardlaw03.SpanBack': WHATEVER THE INPUT: true; the input reads as it did. -/
def spanBackSpec : ChangeSpec := { name := "spanBack", fn := fun _ => fun
  | [d1, d2] => { results := [.lit (.bool true)], args := [d1, d2] }
  | _ => none }
def spanBackRow : OpenClaim := { program := "ythnjjiflfjegnaadoor", sum := "fb0999a53c1fe90dc98365eb346dc48fb41e9937d96688c4bc9c3105617b9cfe", func := "tankard/tankardlaw03.SpanBack", spec := "spanBack", inPlace := ["internal/reflectlite.ValueOf", "(internal/reflectlite.Value).Type", "(internal/reflectlite.Value).IsNil", "internal/reflectlite.TypeOf", "(internal/reflectlite.Value).Elem", "(internal/reflectlite.Value).Set"], unfollowed := true, recurses := true, named := ["errors.errorType"], apart := false, laid := [("errors.errorType", laid_errors_errorType)] }
def SpanBackSaid : Prop := spanBackRow.holds Tryd.pinned (OpenSpec.ofChange spanBackSpec)

/-- ITS FALSE NEIGHBOUR: 'it returns false'. Refute it at one input. -/
def spanBackWrong : ChangeSpec := { name := "spanBack", fn := fun _ => fun
  | [d1, d2] => { results := [.lit (.bool false)], args := [d1, d2] }
  | _ => none }
def SpanBackWrongFalsely : Prop := spanBackRow.holds Tryd.pinned (OpenSpec.ofChange spanBackWrong)

/-- 'tankardlaw03.SpanOrder': WHATEVER THE INPUT: true; the input reads as it did. -/
def spanOrderSpec : ChangeSpec := { name := "spanOrder", fn := fun _ => fun
  | [d1, d2, d3] => { results := [.lit (.bool true)], args := [d1, d2, d3] }
  | _ => none }
def spanOrderRow : OpenClaim := { program := "ythnjjiflfjegnaadoor", sum := "fb0999a53c1fe90dc98365eb346dc48fb41e9937d96688c4bc9c3105617b9cfe", func := "tankard/tankardlaw03.SpanOrder", spec := "spanOrder", inPlace := ["internal/reflectlite.ValueOf", "(internal/reflectlite.Value).Type", "(internal/reflectlite.Value).IsNil", "internal/reflectlite.TypeOf", "(internal/reflectlite.Value).Elem", "(internal/reflectlite.Value).Set"], unfollowed := true, recurses := true, named := ["errors.errorType"], apart := false, laid := [("errors.errorType", laid_errors_errorType)] }
def SpanOrderSaid : Prop := spanOrderRow.holds Tryd.pinned (OpenSpec.ofChange spanOrderSpec)

/-- ITS FALSE NEIGHBOUR: 'it returns false'. Refute it at one input. -/
def spanOrderWrong : ChangeSpec := { name := "spanOrder", fn := fun _ => fun
  | [d1, d2, d3] => { results := [.lit (.bool false)], args := [d1, d2, d3] }
  | _ => none }
def SpanOrderWrongFalsely : Prop := spanOrderRow.holds Tryd.pinned (OpenSpec.ofChange spanOrderWrong)

/-- 'tankardlaw03.SpanTells': WHATEVER THE INPUT: true; the input reads as it did. -/
def spanTellsSpec : ChangeSpec := { name := "spanTells", fn := fun _ => fun
  | [d1, d2] => { results := [.lit (.bool true)], args := [d1, d2] }
  | _ => none }
def spanTellsRow : OpenClaim := { program := "ythnjjiflfjegnaadoor", sum := "fb0999a53c1fe90dc98365eb346dc48fb41e9937d96688c4bc9c3105617b9cfe", func := "tankard/tankardlaw03.SpanTells", spec := "spanTells", inPlace := ["internal/reflectlite.ValueOf", "(internal/reflectlite.Value).Type", "(internal/reflectlite.Value).IsNil", "internal/reflectlite.TypeOf", "(internal/reflectlite.Value).Elem", "(internal/reflectlite.Value).Set"], unfollowed := true, recurses := true, named := ["errors.errorType"], apart := false, laid := [("errors.errorType", laid_errors_errorType)] }
def SpanTellsSaid : Prop := spanTellsRow.holds Tryd.pinned (OpenSpec.ofChange spanTellsSpec)

/-- ITS FALSE NEIGHBOUR: 'it returns false'. Refute it at one input. -/
def spanTellsWrong : ChangeSpec := { name := "spanTells", fn := fun _ => fun
  | [d1, d2] => { results := [.lit (.bool false)], args := [d1, d2] }
  | _ => none }
def SpanTellsWrongFalsely : Prop := spanTellsRow.holds Tryd.pinned (OpenSpec.ofChange spanTellsWrong)

/- THE SECOND FORM. 'bulk': how many values and letters a reading holds, each counted each time it is reached (what is shared counts as often as it is met; a slice's spare places count too). A statement '..UptoSaid' is the law's where the arguments, and the package variables that the reading takes, are together of bulk at most 1048576: NARROWER than '..Said'. Prove '..Said' where nothing that the law and all that it calls make is longer than what came in: it says more and counts as full. Else prove '..UptoSaid'. A law counts once. -/
mutual
def uptoBulk {H : Type} : DataW H → Nat
  | .lit (.string bytes) => bytes.length + 1
  | .lit _ => 1
  | .nil => 1
  | .ptr d => uptoBulk d + 1
  | .slice elems spare => uptoBulkAll elems + uptoBulkAll spare + 1
  | .agg parts => uptoBulkAll parts + 1
  | .iface _ d => uptoBulk d + 1
  | .map entries => uptoBulkEntries entries + 1
  | .held _ => 1
def uptoBulkAll {H : Type} : List (DataW H) → Nat
  | [] => 0
  | d :: r => uptoBulk d + uptoBulkAll r
def uptoBulkEntries {H : Type} : List (Lit × DataW H) → Nat
  | [] => 0
  | x :: r => uptoBulkEntry x + uptoBulkEntries r
def uptoBulkEntry {H : Type} : Lit × DataW H → Nat
  | (.string bytes, d) => bytes.length + uptoBulk d + 1
  | (_, d) => uptoBulk d + 1
 end
def uptoSmall : (H : Type) → List (DataW H) → Bool := fun _ ds => decide (uptoBulkAll ds ≤ 1048576)
def OpenSpec.upto (s : _root_.Go.ChangeSpec) : _root_.Go.OpenSpec := { _root_.Go.OpenSpec.ofChange s with cond := some uptoSmall }

/-- 'tankardlaw03.SpanPuts', WHERE WHAT IT READS IS OF BULK AT MOST 1048576: true; the input reads as it did. -/
def spanPutsUptoRow : OpenClaim := { program := "ythnjjiflfjegnaadoor", sum := "fb0999a53c1fe90dc98365eb346dc48fb41e9937d96688c4bc9c3105617b9cfe", func := "tankard/tankardlaw03.SpanPuts", spec := "spanPuts", inPlace := ["internal/reflectlite.ValueOf", "(internal/reflectlite.Value).Type", "(internal/reflectlite.Value).IsNil", "internal/reflectlite.TypeOf", "(internal/reflectlite.Value).Elem", "(internal/reflectlite.Value).Set"], unfollowed := true, recurses := true, named := ["errors.errorType"], apart := false, laid := [("errors.errorType", laid_errors_errorType)], narrowed := true }
def SpanPutsUptoSaid : Prop := spanPutsUptoRow.holds Tryd.pinned (OpenSpec.upto spanPutsSpec)

/-- 'tankardlaw03.SpanGets', WHERE WHAT IT READS IS OF BULK AT MOST 1048576: true; the input reads as it did. -/
def spanGetsUptoRow : OpenClaim := { program := "ythnjjiflfjegnaadoor", sum := "fb0999a53c1fe90dc98365eb346dc48fb41e9937d96688c4bc9c3105617b9cfe", func := "tankard/tankardlaw03.SpanGets", spec := "spanGets", inPlace := ["internal/reflectlite.ValueOf", "(internal/reflectlite.Value).Type", "(internal/reflectlite.Value).IsNil", "internal/reflectlite.TypeOf", "(internal/reflectlite.Value).Elem", "(internal/reflectlite.Value).Set"], unfollowed := true, recurses := true, named := ["errors.errorType"], apart := false, laid := [("errors.errorType", laid_errors_errorType)], narrowed := true }
def SpanGetsUptoSaid : Prop := spanGetsUptoRow.holds Tryd.pinned (OpenSpec.upto spanGetsSpec)

/-- 'tankardlaw03.SpanBack', WHERE WHAT IT READS IS OF BULK AT MOST 1048576: true; the input reads as it did. -/
def spanBackUptoRow : OpenClaim := { program := "ythnjjiflfjegnaadoor", sum := "fb0999a53c1fe90dc98365eb346dc48fb41e9937d96688c4bc9c3105617b9cfe", func := "tankard/tankardlaw03.SpanBack", spec := "spanBack", inPlace := ["internal/reflectlite.ValueOf", "(internal/reflectlite.Value).Type", "(internal/reflectlite.Value).IsNil", "internal/reflectlite.TypeOf", "(internal/reflectlite.Value).Elem", "(internal/reflectlite.Value).Set"], unfollowed := true, recurses := true, named := ["errors.errorType"], apart := false, laid := [("errors.errorType", laid_errors_errorType)], narrowed := true }
def SpanBackUptoSaid : Prop := spanBackUptoRow.holds Tryd.pinned (OpenSpec.upto spanBackSpec)

/-- 'tankardlaw03.SpanOrder', WHERE WHAT IT READS IS OF BULK AT MOST 1048576: true; the input reads as it did. -/
def spanOrderUptoRow : OpenClaim := { program := "ythnjjiflfjegnaadoor", sum := "fb0999a53c1fe90dc98365eb346dc48fb41e9937d96688c4bc9c3105617b9cfe", func := "tankard/tankardlaw03.SpanOrder", spec := "spanOrder", inPlace := ["internal/reflectlite.ValueOf", "(internal/reflectlite.Value).Type", "(internal/reflectlite.Value).IsNil", "internal/reflectlite.TypeOf", "(internal/reflectlite.Value).Elem", "(internal/reflectlite.Value).Set"], unfollowed := true, recurses := true, named := ["errors.errorType"], apart := false, laid := [("errors.errorType", laid_errors_errorType)], narrowed := true }
def SpanOrderUptoSaid : Prop := spanOrderUptoRow.holds Tryd.pinned (OpenSpec.upto spanOrderSpec)

/-- 'tankardlaw03.SpanTells', WHERE WHAT IT READS IS OF BULK AT MOST 1048576: true; the input reads as it did. -/
def spanTellsUptoRow : OpenClaim := { program := "ythnjjiflfjegnaadoor", sum := "fb0999a53c1fe90dc98365eb346dc48fb41e9937d96688c4bc9c3105617b9cfe", func := "tankard/tankardlaw03.SpanTells", spec := "spanTells", inPlace := ["internal/reflectlite.ValueOf", "(internal/reflectlite.Value).Type", "(internal/reflectlite.Value).IsNil", "internal/reflectlite.TypeOf", "(internal/reflectlite.Value).Elem", "(internal/reflectlite.Value).Set"], unfollowed := true, recurses := true, named := ["errors.errorType"], apart := false, laid := [("errors.errorType", laid_errors_errorType)], narrowed := true }
def SpanTellsUptoSaid : Prop := spanTellsUptoRow.holds Tryd.pinned (OpenSpec.upto spanTellsSpec)

end Rows
end Go.Proofs.YthnjjiflfjegnaaDoor
