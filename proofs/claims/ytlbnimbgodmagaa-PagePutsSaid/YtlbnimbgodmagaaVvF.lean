/- PagePuts (layer 5): whatever the traces, the law returns true, and the argument reads as it did. Conditions: none. -/
import Derived.Test.YtlbnimbgodmagaaVvE
import Derived.Test.YtlbnimbgodmagaaVrT
import Derived.Test.YtlbnimbgodmagaaRows
namespace Go.VL
open Go.Proofs
set_option maxRecDepth 100000 in
def tysP : Types Try.prog := ⟨42, 2, 22, 5, 127, 76, 78, 75, by kernel_rfl, by kernel_rfl, by kernel_rfl, by kernel_rfl, by kernel_rfl, by kernel_rfl, by kernel_rfl, by kernel_rfl⟩
end Go.VL

namespace Go.Proofs.Ytlbnimbgodmagaa
open Go.ChangeShapes Go.WideShapes Go.ChangeAt Go.RowKit Go.VL

set_option maxRecDepth 100000 in
theorem pagePuts_lifted (os : Os) (started : os.Started) (H : Type) (enc : TypeId × Value → H) :
    ReturnsInHanded {} Try.checked os n_pagePuts .any (Rows.pagePutsSpec.pre6 enc Try.prog Try.f10 Rows.pagePutsRow.domain false) (Rows.pagePutsSpec.post enc Try.prog Try.f10 false true false false) := by
  refine returnsInHanded_of_change (C := Try.checked) own started (by kernel_rfl) Try.func10
    (ChangeSpec.witness6 (enc := enc) (C := Try.checked) false ⟨#[], #[.slice none 0 0], []⟩ 8 (by kernel_rfl) (by kernel_rfl) (by kernel_rfl) (by kernel_rfl)) ?_
  intro W base args ds gs before hval0 hW _ _
  refine law_calls 6 (tb := 4) laidOut (by kernel_rfl) rfl (by kernel_rfl) (by kernel_rfl) (fun ds hds => ?_) (fun xs hxs => ?_) hval0 hW
  · match ds, hds with
    | [_d1], _ => rfl
  · have hxs' : HasAll Try.prog 6 [_] xs := hxs
    cases hxs' with
    | cons h1 r1 =>
    cases r1
    obtain ⟨ys, rfl, hlen, h1⟩ := has_slice tysP.h8 h1
    obtain ⟨l, rfl, hl⟩ := traces_of tysP h1
    rw [maxLen_eq, tcs_len] at hlen
    exact (pagePuts_ok hlen (fun t ht => (hl t ht).2.1) (fun t ht => ⟨(hl t ht).1, fun s hs => ⟨((hl t ht).2.2 s hs).1, ((hl t ht).2.2 s hs).2.1⟩⟩)).mono fun v _ ⟨e, _⟩ => e

theorem pagePuts_holds : Rows.PagePutsSaid :=
  OpenClaim.holds_of_wide n_pagePuts Try.f10 rfl rfl rfl rfl rfl rfl rfl ⟨rfl, rfl, rfl, rfl, rfl⟩ rfl rfl rfl rfl rfl (by kernel_rfl) Try.func10 (by kernel_rfl)
    (of_decide_eq_true (by kernel_rfl)) (by unfold Func.isWrapper; first | (rw [if_pos (by decide +kernel)]; kernel_rfl) | (rw [if_neg (by decide +kernel)]; exact ⟨rfl, rfl⟩))
    (fun os started H enc _ => pagePuts_lifted os started H enc)
end Go.Proofs.Ytlbnimbgodmagaa
