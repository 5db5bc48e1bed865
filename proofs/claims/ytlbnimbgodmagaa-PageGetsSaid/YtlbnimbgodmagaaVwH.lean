/- PageGets (layer 5): whatever the bytes, the law returns true, and the argument reads as it did. Conditions: none. -/
import Derived.Test.YtlbnimbgodmagaaVwG
import Derived.Test.YtlbnimbgodmagaaVpT
import Derived.Test.YtlbnimbgodmagaaRows

namespace Go.Proofs.Ytlbnimbgodmagaa
open Go.ChangeShapes Go.WideShapes Go.ChangeAt Go.RowKit Go.VL

set_option maxRecDepth 100000 in
theorem pageGets_lifted (os : Os) (started : os.Started) (H : Type) (enc : TypeId × Value → H) :
    ReturnsInHanded {} Try.checked os n_pageGets .any (Rows.pageGetsSpec.pre6 enc Try.prog Try.f11 Rows.pageGetsRow.domain false) (Rows.pageGetsSpec.post enc Try.prog Try.f11 false true false false) := by
  refine returnsInHanded_of_change (C := Try.checked) own started (by kernel_rfl) Try.func11
    (ChangeSpec.witness6 (enc := enc) (C := Try.checked) false ⟨#[], #[.slice none 0 0], []⟩ 8 (by kernel_rfl) (by kernel_rfl) (by kernel_rfl) (by kernel_rfl)) ?_
  intro W base args ds gs before hval0 hW _ _
  refine law_calls 3 (tb := 4) laidOut (by kernel_rfl) rfl (by kernel_rfl) (by kernel_rfl) (fun ds hds => ?_) (fun xs hxs => ?_) hval0 hW
  · match ds, hds with
    | [_d1], _ => rfl
  · have hxs' : HasAll Try.prog 3 [_] xs := hxs
    cases hxs' with
    | cons h1 r1 =>
    cases r1
    obtain ⟨ys, rfl, hyl, h1⟩ := has_slice (e := 5) (by kernel_rfl) h1
    obtain ⟨b, rfl⟩ := bytes_of (by kernel_rfl) h1
    exact pageGets_ok.mono fun v _ ⟨e, _⟩ => e

theorem pageGets_holds : Rows.PageGetsSaid :=
  OpenClaim.holds_of_wide n_pageGets Try.f11 rfl rfl rfl rfl rfl rfl rfl ⟨rfl, rfl, rfl, rfl, rfl⟩ rfl rfl rfl rfl rfl (by kernel_rfl) Try.func11 (by kernel_rfl)
    (of_decide_eq_true (by kernel_rfl)) (by unfold Func.isWrapper; first | (rw [if_pos (by decide +kernel)]; kernel_rfl) | (rw [if_neg (by decide +kernel)]; exact ⟨rfl, rfl⟩))
    (fun os started H enc _ => pageGets_lifted os started H enc)
end Go.Proofs.Ytlbnimbgodmagaa
