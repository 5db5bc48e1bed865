/- TraceUnion (layer 4): whatever the three rows of spans, the law returns true, and the arguments read as they did. Conditions: none. -/
import Derived.Test.YtmbbeldgfhnkbaaKTraceUnion4
import Derived.Test.YtmbbeldgfhnkbaaRows

set_option linter.unusedSimpArgs false
set_option linter.unusedVariables false

namespace Go.Proofs.Ytmbbeldgfhnkbaa

open Go.ChangeShapes Go.WideShapes Go.ChangeAt Go.RowKit Go.VL

set_option maxRecDepth 100000 in
theorem traceUnion_lifted (os : Os) (started : os.Started) (H : Type) (enc : TypeId × Value → H) :
    ReturnsInHanded {} Try.checked os n_traceUnion .any (Rows.traceUnionSpec.pre6 enc Try.prog Try.f6 Rows.traceUnionRow.domain false) (Rows.traceUnionSpec.post enc Try.prog Try.f6 false true false false) := by
  refine returnsInHanded_of_change (C := Try.checked) own started (by kernel_rfl) Try.func6
    (ChangeSpec.witness6 (enc := enc) (C := Try.checked) false ⟨#[], #[.slice none 0 0, .slice none 0 0, .slice none 0 0], []⟩ 8 (by kernel_rfl) (by kernel_rfl) (by kernel_rfl) (by kernel_rfl)) ?_
  intro W base args ds gs before hval0 hW _ _
  refine law_calls 4 (tb := 4) laidOut (by kernel_rfl) rfl (by kernel_rfl) (by kernel_rfl) (fun ds hds => ?_) (fun xs hxs => ?_) hval0 hW
  · match ds, hds with
    | [_d1, _d2, _d3], _ => rfl
  · have hxs' : HasAll Try.prog 4 [_, _, _] xs := hxs
    cases hxs' with
    | cons h1 r1 =>
    cases r1 with
    | cons h2 r2 =>
    cases r2 with
    | cons h3 r3 =>
    cases r3
    obtain ⟨ys1, rfl, hl1, h1⟩ := has_slice tys1.h6 h1
    obtain ⟨a, rfl, _⟩ := spans_of1 tys1 h1
    obtain ⟨ys2, rfl, hl2, h2⟩ := has_slice tys1.h6 h2
    obtain ⟨b, rfl, _⟩ := spans_of1 tys1 h2
    obtain ⟨ys3, rfl, hl3, h3⟩ := has_slice tys1.h6 h3
    obtain ⟨c, rfl, _⟩ := spans_of1 tys1 h3
    rw [maxLen_eq, sps_len] at hl1 hl2 hl3
    exact (traceUnion_ok hl1 hl2 hl3).mono fun v _ ⟨e, _⟩ => e

theorem traceUnion_holds : Rows.TraceUnionSaid :=
  OpenClaim.holds_of_wide n_traceUnion Try.f6 rfl rfl rfl rfl rfl rfl rfl ⟨rfl, rfl, rfl, rfl, rfl⟩ rfl rfl rfl rfl rfl (by kernel_rfl) Try.func6 (by kernel_rfl)
    (of_decide_eq_true (by kernel_rfl)) (by unfold Func.isWrapper; first | (rw [if_pos (by decide +kernel)]; kernel_rfl) | (rw [if_neg (by decide +kernel)]; exact ⟨rfl, rfl⟩))
    (fun os started H enc _ => traceUnion_lifted os started H enc)

end Go.Proofs.Ytmbbeldgfhnkbaa
