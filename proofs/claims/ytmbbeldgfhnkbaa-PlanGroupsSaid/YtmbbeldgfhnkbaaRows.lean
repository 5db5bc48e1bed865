/-
  No cell of these rows narrows 'for every input' (looked for: loops, veiled, ifaces, maps, wideKeys, modest, calm, conditions, laid).
  DERIVED. THE GIVEN ROWS OF THIS SEAT. 9 by the template 'for every input the law returns true; each argument reads behind the call as it read before'; 0 by the template 'total and deterministic' (their statements: YtmbbeldgfhnkbaaTotals.lean).
  GIVEN WITH THE SEED: the statements are not yours to turn. If you find one false, say at which input.
  Laid BY PROGRAM, IN A SANDBOX (cutbox-rows.mjs): the forced cells as the released guide's own fill.sh prints them over the translation cd395237b6f90a35… (all of the seat's roots in one cut). By AI agents, Wed Nov 11 2026. No macro, syntax, notation, axiom, sorry.
-/
import Derived.Test.YtmbbeldgfhnkbaaChecked
import GoSem.Claim
import GoSem.ClaimJoined
import GoSem.ClaimMapViews
import Derived.JoinedTies
import Derived.KernelRfl
namespace Go.Proofs.Ytmbbeldgfhnkbaa
/- THE CELL 'sum', in the pinned program and in every row, IS THE sha256 OF THE DUMP (.gsa) THAT YtmbbeldgfhnkbaaProg.lean LOADS. Nothing in Lean hashes anything: it is a label: what it is worth is what the hold of that sum in a sandbox is worth. -/
noncomputable def Try.pinned : Pinned := { name := "ytmbbeldgfhnkbaa", sum := "cd395237b6f90a3575101ecbc41e3ac697fb63003c5c2d25c70990fcf4435713", checked := Try.checked }
namespace Rows
def none {H : Type} : Left H := { results := [], args := [] }

/-- 'tankardlaw05.PageCuts': WHATEVER THE INPUT: true; the input reads as it did. -/
def pageCutsSpec : ChangeSpec := { name := "pageCuts", fn := fun _ => fun
  | [d1, d2] => { results := [.lit (.bool true)], args := [d1, d2] }
  | _ => none }
def pageCutsRow : OpenClaim := { program := "ytmbbeldgfhnkbaa", sum := "cd395237b6f90a3575101ecbc41e3ac697fb63003c5c2d25c70990fcf4435713", func := "tankard/tankardlaw05.PageCuts", spec := "pageCuts", recurses := true, plainKeys := false, apart := false }
def PageCutsSaid : Prop := pageCutsRow.holds Try.pinned (OpenSpec.ofChange pageCutsSpec)

/-- ITS FALSE NEIGHBOUR: 'it returns false'. Refute it at one input. -/
def pageCutsWrong : ChangeSpec := { name := "pageCuts", fn := fun _ => fun
  | [d1, d2] => { results := [.lit (.bool false)], args := [d1, d2] }
  | _ => none }
def PageCutsWrongFalsely : Prop := pageCutsRow.holds Try.pinned (OpenSpec.ofChange pageCutsWrong)

/-- 'tankardlaw05.PageBack': WHATEVER THE INPUT: true; the input reads as it did. -/
def pageBackSpec : ChangeSpec := { name := "pageBack", fn := fun _ => fun
  | [d1, d2, d3, d4] => { results := [.lit (.bool true)], args := [d1, d2, d3, d4] }
  | _ => none }
def pageBackRow : OpenClaim := { program := "ytmbbeldgfhnkbaa", sum := "cd395237b6f90a3575101ecbc41e3ac697fb63003c5c2d25c70990fcf4435713", func := "tankard/tankardlaw05.PageBack", spec := "pageBack", plainKeys := false, apart := false }
def PageBackSaid : Prop := pageBackRow.holds Try.pinned (OpenSpec.ofChange pageBackSpec)

/-- ITS FALSE NEIGHBOUR: 'it returns false'. Refute it at one input. -/
def pageBackWrong : ChangeSpec := { name := "pageBack", fn := fun _ => fun
  | [d1, d2, d3, d4] => { results := [.lit (.bool false)], args := [d1, d2, d3, d4] }
  | _ => none }
def PageBackWrongFalsely : Prop := pageBackRow.holds Try.pinned (OpenSpec.ofChange pageBackWrong)

/-- 'tankardlaw19.PlanGroups': WHATEVER THE INPUT: true; the input reads as it did. -/
def planGroupsSpec : ChangeSpec := { name := "planGroups", fn := fun _ => fun
  | [d1, d2, d3] => { results := [.lit (.bool true)], args := [d1, d2, d3] }
  | _ => none }
def planGroupsRow : OpenClaim := { program := "ytmbbeldgfhnkbaa", sum := "cd395237b6f90a3575101ecbc41e3ac697fb63003c5c2d25c70990fcf4435713", func := "tankard/tankardlaw19.PlanGroups", spec := "planGroups", unfollowed := true, recurses := true, plainKeys := false, apart := false }
def PlanGroupsSaid : Prop := planGroupsRow.holds Try.pinned (OpenSpec.ofChange planGroupsSpec)

/-- ITS FALSE NEIGHBOUR: 'it returns false'. Refute it at one input. -/
def planGroupsWrong : ChangeSpec := { name := "planGroups", fn := fun _ => fun
  | [d1, d2, d3] => { results := [.lit (.bool false)], args := [d1, d2, d3] }
  | _ => none }
def PlanGroupsWrongFalsely : Prop := planGroupsRow.holds Try.pinned (OpenSpec.ofChange planGroupsWrong)

/-- 'tankardlaw04.TraceUnion': WHATEVER THE INPUT: true; the input reads as it did. -/
def traceUnionSpec : ChangeSpec := { name := "traceUnion", fn := fun _ => fun
  | [d1, d2, d3] => { results := [.lit (.bool true)], args := [d1, d2, d3] }
  | _ => none }
def traceUnionRow : OpenClaim := { program := "ytmbbeldgfhnkbaa", sum := "cd395237b6f90a3575101ecbc41e3ac697fb63003c5c2d25c70990fcf4435713", func := "tankard/tankardlaw04.TraceUnion", spec := "traceUnion", inPlace := ["internal/bytealg.Compare"], unfollowed := true, recurses := true, plainKeys := false, apart := false }
def TraceUnionSaid : Prop := traceUnionRow.holds Try.pinned (OpenSpec.ofChange traceUnionSpec)

/-- ITS FALSE NEIGHBOUR: 'it returns false'. Refute it at one input. -/
def traceUnionWrong : ChangeSpec := { name := "traceUnion", fn := fun _ => fun
  | [d1, d2, d3] => { results := [.lit (.bool false)], args := [d1, d2, d3] }
  | _ => none }
def TraceUnionWrongFalsely : Prop := traceUnionRow.holds Try.pinned (OpenSpec.ofChange traceUnionWrong)

/-- 'tankardlaw06.StorePlays': WHATEVER THE INPUT: true; the input reads as it did. -/
def storePlaysSpec : ChangeSpec := { name := "storePlays", fn := fun _ => fun
  | [d1, d2] => { results := [.lit (.bool true)], args := [d1, d2] }
  | _ => none }
def storePlaysRow : OpenClaim := { program := "ytmbbeldgfhnkbaa", sum := "cd395237b6f90a3575101ecbc41e3ac697fb63003c5c2d25c70990fcf4435713", func := "tankard/tankardlaw06.StorePlays", spec := "storePlays", unfollowed := true, recurses := true, plainKeys := false, apart := false }
def StorePlaysSaid : Prop := storePlaysRow.holds Try.pinned (OpenSpec.ofChange storePlaysSpec)

/-- ITS FALSE NEIGHBOUR: 'it returns false'. Refute it at one input. -/
def storePlaysWrong : ChangeSpec := { name := "storePlays", fn := fun _ => fun
  | [d1, d2] => { results := [.lit (.bool false)], args := [d1, d2] }
  | _ => none }
def StorePlaysWrongFalsely : Prop := storePlaysRow.holds Try.pinned (OpenSpec.ofChange storePlaysWrong)

/-- 'tankardlaw04.TraceGathers': WHATEVER THE INPUT: true; the input reads as it did. -/
def traceGathersSpec : ChangeSpec := { name := "traceGathers", fn := fun _ => fun
  | [d1, d2, d3] => { results := [.lit (.bool true)], args := [d1, d2, d3] }
  | _ => none }
def traceGathersRow : OpenClaim := { program := "ytmbbeldgfhnkbaa", sum := "cd395237b6f90a3575101ecbc41e3ac697fb63003c5c2d25c70990fcf4435713", func := "tankard/tankardlaw04.TraceGathers", spec := "traceGathers", inPlace := ["internal/bytealg.Compare"], unfollowed := true, recurses := true, plainKeys := false, apart := false }
def TraceGathersSaid : Prop := traceGathersRow.holds Try.pinned (OpenSpec.ofChange traceGathersSpec)

/-- ITS FALSE NEIGHBOUR: 'it returns false'. Refute it at one input. -/
def traceGathersWrong : ChangeSpec := { name := "traceGathers", fn := fun _ => fun
  | [d1, d2, d3] => { results := [.lit (.bool false)], args := [d1, d2, d3] }
  | _ => none }
def TraceGathersWrongFalsely : Prop := traceGathersRow.holds Try.pinned (OpenSpec.ofChange traceGathersWrong)

/-- 'tankardlaw10.KwayMerges': WHATEVER THE INPUT: true; the input reads as it did. -/
def kwayMergesSpec : ChangeSpec := { name := "kwayMerges", fn := fun _ => fun
  | [d] => { results := [.lit (.bool true)], args := [d] }
  | _ => none }
def kwayMergesRow : OpenClaim := { program := "ytmbbeldgfhnkbaa", sum := "cd395237b6f90a3575101ecbc41e3ac697fb63003c5c2d25c70990fcf4435713", func := "tankard/tankardlaw10.KwayMerges", spec := "kwayMerges", inPlace := ["internal/bytealg.Compare"], unfollowed := true, recurses := true, plainKeys := false, apart := false }
def KwayMergesSaid : Prop := kwayMergesRow.holds Try.pinned (OpenSpec.ofChange kwayMergesSpec)

/-- ITS FALSE NEIGHBOUR: 'it returns false'. Refute it at one input. -/
def kwayMergesWrong : ChangeSpec := { name := "kwayMerges", fn := fun _ => fun
  | [d] => { results := [.lit (.bool false)], args := [d] }
  | _ => none }
def KwayMergesWrongFalsely : Prop := kwayMergesRow.holds Try.pinned (OpenSpec.ofChange kwayMergesWrong)

/-- 'tankardlaw10.KwaySorts': WHATEVER THE INPUT: true; the input reads as it did. -/
def kwaySortsSpec : ChangeSpec := { name := "kwaySorts", fn := fun _ => fun
  | [d] => { results := [.lit (.bool true)], args := [d] }
  | _ => none }
def kwaySortsRow : OpenClaim := { program := "ytmbbeldgfhnkbaa", sum := "cd395237b6f90a3575101ecbc41e3ac697fb63003c5c2d25c70990fcf4435713", func := "tankard/tankardlaw10.KwaySorts", spec := "kwaySorts", inPlace := ["internal/bytealg.Compare"], unfollowed := true, recurses := true, plainKeys := false, apart := false }
def KwaySortsSaid : Prop := kwaySortsRow.holds Try.pinned (OpenSpec.ofChange kwaySortsSpec)

/-- ITS FALSE NEIGHBOUR: 'it returns false'. Refute it at one input. -/
def kwaySortsWrong : ChangeSpec := { name := "kwaySorts", fn := fun _ => fun
  | [d] => { results := [.lit (.bool false)], args := [d] }
  | _ => none }
def KwaySortsWrongFalsely : Prop := kwaySortsRow.holds Try.pinned (OpenSpec.ofChange kwaySortsWrong)

/-- 'tankardlaw10.KwayParts': WHATEVER THE INPUT: true; the input reads as it did. -/
def kwayPartsSpec : ChangeSpec := { name := "kwayParts", fn := fun _ => fun
  | [d1, d2] => { results := [.lit (.bool true)], args := [d1, d2] }
  | _ => none }
def kwayPartsRow : OpenClaim := { program := "ytmbbeldgfhnkbaa", sum := "cd395237b6f90a3575101ecbc41e3ac697fb63003c5c2d25c70990fcf4435713", func := "tankard/tankardlaw10.KwayParts", spec := "kwayParts", inPlace := ["internal/bytealg.Compare"], unfollowed := true, recurses := true, plainKeys := false, apart := false }
def KwayPartsSaid : Prop := kwayPartsRow.holds Try.pinned (OpenSpec.ofChange kwayPartsSpec)

/-- ITS FALSE NEIGHBOUR: 'it returns false'. Refute it at one input. -/
def kwayPartsWrong : ChangeSpec := { name := "kwayParts", fn := fun _ => fun
  | [d1, d2] => { results := [.lit (.bool false)], args := [d1, d2] }
  | _ => none }
def KwayPartsWrongFalsely : Prop := kwayPartsRow.holds Try.pinned (OpenSpec.ofChange kwayPartsWrong)

/- THE SECOND FORM. 'bulk': how many values and letters a reading holds, each counted each time it is reached (what is shared counts as often as it is met; a slice's spare places count too). A statement '..UptoSaid' is the law's where the arguments, and the package variables that the reading takes, are together of bulk at most 1048576: NARROWER than '..Said'. Prove '..Said' where nothing that the law and all that it calls make is longer than what came in: it says more and counts as full. Else prove '..UptoSaid'. A law counts once. -/
mutual
def uptoBulk {H : Type} : DataW H → Nat
  | .lit (.string bytes) => bytes.length + 1
  | .lit _ => 1
  | .nil => 1
  | .ptr d => uptoBulk d + 1
  | .slice elems spare => uptoBulkAll elems + uptoBulkAll spare + 1
  | .agg parts => uptoBulkAll parts + 1
  | .iface _ d => uptoBulk d + 1
  | .map entries => uptoBulkEntries entries + 1
  | .held _ => 1
def uptoBulkAll {H : Type} : List (DataW H) → Nat
  | [] => 0
  | d :: r => uptoBulk d + uptoBulkAll r
def uptoBulkEntries {H : Type} : List (Lit × DataW H) → Nat
  | [] => 0
  | x :: r => uptoBulkEntry x + uptoBulkEntries r
def uptoBulkEntry {H : Type} : Lit × DataW H → Nat
  | (.string bytes, d) => bytes.length + uptoBulk d + 1
  | (_, d) => uptoBulk d + 1
 end
def uptoSmall : (H : Type) → List (DataW H) → Bool := fun _ ds => decide (uptoBulkAll ds ≤ 1048576)
def OpenSpec.upto (s : _root_.Go.ChangeSpec) : _root_.Go.OpenSpec := { _root_.Go.OpenSpec.ofChange s with cond := some uptoSmall }

/-- 'tankardlaw05.PageCuts', WHERE WHAT IT READS IS OF BULK AT MOST 1048576: true; the input reads as it did. -/
def pageCutsUptoRow : OpenClaim := { program := "ytmbbeldgfhnkbaa", sum := "cd395237b6f90a3575101ecbc41e3ac697fb63003c5c2d25c70990fcf4435713", func := "tankard/tankardlaw05.PageCuts", spec := "pageCuts", recurses := true, plainKeys := false, apart := false, narrowed := true }
def PageCutsUptoSaid : Prop := pageCutsUptoRow.holds Try.pinned (OpenSpec.upto pageCutsSpec)

/-- 'tankardlaw05.PageBack', WHERE WHAT IT READS IS OF BULK AT MOST 1048576: true; the input reads as it did. -/
def pageBackUptoRow : OpenClaim := { program := "ytmbbeldgfhnkbaa", sum := "cd395237b6f90a3575101ecbc41e3ac697fb63003c5c2d25c70990fcf4435713", func := "tankard/tankardlaw05.PageBack", spec := "pageBack", plainKeys := false, apart := false, narrowed := true }
def PageBackUptoSaid : Prop := pageBackUptoRow.holds Try.pinned (OpenSpec.upto pageBackSpec)

/-- 'tankardlaw19.PlanGroups', WHERE WHAT IT READS IS OF BULK AT MOST 1048576: true; the input reads as it did. -/
def planGroupsUptoRow : OpenClaim := { program := "ytmbbeldgfhnkbaa", sum := "cd395237b6f90a3575101ecbc41e3ac697fb63003c5c2d25c70990fcf4435713", func := "tankard/tankardlaw19.PlanGroups", spec := "planGroups", unfollowed := true, recurses := true, plainKeys := false, apart := false, narrowed := true }
def PlanGroupsUptoSaid : Prop := planGroupsUptoRow.holds Try.pinned (OpenSpec.upto planGroupsSpec)

/-- 'tankardlaw04.TraceUnion', WHERE WHAT IT READS IS OF BULK AT MOST 1048576: true; the input reads as it did. -/
def traceUnionUptoRow : OpenClaim := { program := "ytmbbeldgfhnkbaa", sum := "cd395237b6f90a3575101ecbc41e3ac697fb63003c5c2d25c70990fcf4435713", func := "tankard/tankardlaw04.TraceUnion", spec := "traceUnion", inPlace := ["internal/bytealg.Compare"], unfollowed := true, recurses := true, plainKeys := false, apart := false, narrowed := true }
def TraceUnionUptoSaid : Prop := traceUnionUptoRow.holds Try.pinned (OpenSpec.upto traceUnionSpec)

/-- 'tankardlaw06.StorePlays', WHERE WHAT IT READS IS OF BULK AT MOST 1048576: true; the input reads as it did. -/
def storePlaysUptoRow : OpenClaim := { program := "ytmbbeldgfhnkbaa", sum := "cd395237b6f90a3575101ecbc41e3ac697fb63003c5c2d25c70990fcf4435713", func := "tankard/tankardlaw06.StorePlays", spec := "storePlays", unfollowed := true, recurses := true, plainKeys := false, apart := false, narrowed := true }
def StorePlaysUptoSaid : Prop := storePlaysUptoRow.holds Try.pinned (OpenSpec.upto storePlaysSpec)

/-- 'tankardlaw04.TraceGathers', WHERE WHAT IT READS IS OF BULK AT MOST 1048576: true; the input reads as it did. -/
def traceGathersUptoRow : OpenClaim := { program := "ytmbbeldgfhnkbaa", sum := "cd395237b6f90a3575101ecbc41e3ac697fb63003c5c2d25c70990fcf4435713", func := "tankard/tankardlaw04.TraceGathers", spec := "traceGathers", inPlace := ["internal/bytealg.Compare"], unfollowed := true, recurses := true, plainKeys := false, apart := false, narrowed := true }
def TraceGathersUptoSaid : Prop := traceGathersUptoRow.holds Try.pinned (OpenSpec.upto traceGathersSpec)

/-- 'tankardlaw10.KwayMerges', WHERE WHAT IT READS IS OF BULK AT MOST 1048576: true; the input reads as it did. -/
def kwayMergesUptoRow : OpenClaim := { program := "ytmbbeldgfhnkbaa", sum := "cd395237b6f90a3575101ecbc41e3ac697fb63003c5c2d25c70990fcf4435713", func := "tankard/tankardlaw10.KwayMerges", spec := "kwayMerges", inPlace := ["internal/bytealg.Compare"], unfollowed := true, recurses := true, plainKeys := false, apart := false, narrowed := true }
def KwayMergesUptoSaid : Prop := kwayMergesUptoRow.holds Try.pinned (OpenSpec.upto kwayMergesSpec)

/-- 'tankardlaw10.KwaySorts', WHERE WHAT IT READS IS OF BULK AT MOST 1048576: true; the input reads as it did. -/
def kwaySortsUptoRow : OpenClaim := { program := "ytmbbeldgfhnkbaa", sum := "cd395237b6f90a3575101ecbc41e3ac697fb63003c5c2d25c70990fcf4435713", func := "tankard/tankardlaw10.KwaySorts", spec := "kwaySorts", inPlace := ["internal/bytealg.Compare"], unfollowed := true, recurses := true, plainKeys := false, apart := false, narrowed := true }
def KwaySortsUptoSaid : Prop := kwaySortsUptoRow.holds Try.pinned (OpenSpec.upto kwaySortsSpec)

/-- 'tankardlaw10.KwayParts', WHERE WHAT IT READS IS OF BULK AT MOST 1048576: true; the input reads as it did. -/
def kwayPartsUptoRow : OpenClaim := { program := "ytmbbeldgfhnkbaa", sum := "cd395237b6f90a3575101ecbc41e3ac697fb63003c5c2d25c70990fcf4435713", func := "tankard/tankardlaw10.KwayParts", spec := "kwayParts", inPlace := ["internal/bytealg.Compare"], unfollowed := true, recurses := true, plainKeys := false, apart := false, narrowed := true }
def KwayPartsUptoSaid : Prop := kwayPartsUptoRow.holds Try.pinned (OpenSpec.upto kwayPartsSpec)

end Rows
end Go.Proofs.Ytmbbeldgfhnkbaa
