/- BloomKeeps (layer 11): whatever the sizes and the Ids, the law returns true, and the arguments read as they did. Conditions: none. -/
import Derived.Test.YtlbnimbgodmagaaVuM
import Derived.Test.YtlbnimbgodmagaaVpT
import Derived.Test.YtlbnimbgodmagaaRows

namespace Go.Proofs.Ytlbnimbgodmagaa
open Go.ChangeShapes Go.WideShapes Go.ChangeAt Go.RowKit Go.VL

set_option maxRecDepth 100000 in
theorem bloomKeeps_lifted (os : Os) (started : os.Started) (H : Type) (enc : TypeId × Value → H) :
    ReturnsInHanded {} Try.checked os n_bloomKeeps .any (Rows.bloomKeepsSpec.pre6 enc Try.prog Try.f7 Rows.bloomKeepsRow.domain false) (Rows.bloomKeepsSpec.post enc Try.prog Try.f7 false true false false) := by
  refine returnsInHanded_of_change (C := Try.checked) own started (by kernel_rfl) Try.func7
    (ChangeSpec.witness6 (enc := enc) (C := Try.checked) false ⟨#[], #[.int .i64 0, .int .i64 0, .int .i64 0, .slice none 0 0, .slice none 0 0], []⟩ 8 (by kernel_rfl) (by kernel_rfl) (by kernel_rfl) (by kernel_rfl)) ?_
  intro W base args ds gs before hval0 hW _ _
  refine law_calls 3 (tb := 4) laidOut (by kernel_rfl) rfl (by kernel_rfl) (by kernel_rfl) (fun ds hds => ?_) (fun xs hxs => ?_) hval0 hW
  · match ds, hds with
    | [_d1, _d2, _d3, _d4, _d5], _ => rfl
  · have hxs' : HasAll Try.prog 3 [_, _, _, _, _] xs := hxs
    cases hxs' with
    | cons h1 r1 =>
    cases r1 with
    | cons h2 r2 =>
    cases r2 with
    | cons h3 r3 =>
    cases r3 with
    | cons h4 r4 =>
    cases r4 with
    | cons h5 r5 =>
    cases r5
    obtain ⟨s, rfl, _⟩ := has_int (k := .i64) (t := 3) (by kernel_rfl) h1
    obtain ⟨b, rfl, _⟩ := has_int (k := .i64) (t := 3) (by kernel_rfl) h2
    obtain ⟨h, rfl, _⟩ := has_int (k := .i64) (t := 3) (by kernel_rfl) h3
    obtain ⟨ys, rfl, hyl, h4⟩ := has_slice (e := 42) (by kernel_rfl) h4
    obtain ⟨l, rfl, hl⟩ := nats_of (by kernel_rfl) h4
    obtain ⟨zs, rfl, hzl, h5⟩ := has_slice (e := 42) (by kernel_rfl) h5
    obtain ⟨m, rfl, hml⟩ := nats_of (by kernel_rfl) h5
    rw [maxLen_eq, nums_len, natI_len] at hyl hzl
    exact (bloomKeeps_ok hl hml hyl hzl).mono fun v _ ⟨e, _⟩ => e

theorem bloomKeeps_holds : Rows.BloomKeepsSaid :=
  OpenClaim.holds_of_wide n_bloomKeeps Try.f7 rfl rfl rfl rfl rfl rfl rfl ⟨rfl, rfl, rfl, rfl, rfl⟩ rfl rfl rfl rfl rfl (by kernel_rfl) Try.func7 (by kernel_rfl)
    (of_decide_eq_true (by kernel_rfl)) (by unfold Func.isWrapper; first | (rw [if_pos (by decide +kernel)]; kernel_rfl) | (rw [if_neg (by decide +kernel)]; exact ⟨rfl, rfl⟩))
    (fun os started H enc _ => bloomKeeps_lifted os started H enc)
end Go.Proofs.Ytlbnimbgodmagaa
