/- BloomGets (layer 11): whatever the bytes and the Id, the law returns true, and the arguments read as they did. Conditions: none. -/
import Derived.Test.YtlbnimbgodmagaaVuM
import Derived.Test.YtlbnimbgodmagaaVpT
import Derived.Test.YtlbnimbgodmagaaRows

namespace Go.Proofs.Ytlbnimbgodmagaa
open Go.ChangeShapes Go.WideShapes Go.ChangeAt Go.RowKit Go.VL

set_option maxRecDepth 100000 in
theorem bloomGets_lifted (os : Os) (started : os.Started) (H : Type) (enc : TypeId × Value → H) :
    ReturnsInHanded {} Try.checked os n_bloomGets .any (Rows.bloomGetsSpec.pre6 enc Try.prog Try.f6 Rows.bloomGetsRow.domain false) (Rows.bloomGetsSpec.post enc Try.prog Try.f6 false true false false) := by
  refine returnsInHanded_of_change (C := Try.checked) own started (by kernel_rfl) Try.func6
    (ChangeSpec.witness6 (enc := enc) (C := Try.checked) false ⟨#[], #[.slice none 0 0, .int .u64 0], []⟩ 8 (by kernel_rfl) (by kernel_rfl) (by kernel_rfl) (by kernel_rfl)) ?_
  intro W base args ds gs before hval0 hW _ _
  refine law_calls 3 (tb := 4) laidOut (by kernel_rfl) rfl (by kernel_rfl) (by kernel_rfl) (fun ds hds => ?_) (fun xs hxs => ?_) hval0 hW
  · match ds, hds with
    | [_d1, _d2], _ => rfl
  · have hxs' : HasAll Try.prog 3 [_, _] xs := hxs
    cases hxs' with
    | cons h1 r1 =>
    cases r1 with
    | cons h2 r2 =>
    cases r2
    obtain ⟨ys, rfl, hyl, h1⟩ := has_slice (e := 5) (by kernel_rfl) h1
    obtain ⟨x, rfl⟩ := bytes_of (by kernel_rfl) h1
    obtain ⟨m, rfl, hm1, hm2⟩ := has_int (k := .u64) (t := 42) (by kernel_rfl) h2
    obtain ⟨id, rfl, hid⟩ := u64_nat hm1 hm2
    rw [maxLen_eq, bytesAV_len] at hyl
    exact (bloomGets_ok hid hyl).mono fun v _ ⟨e, _⟩ => e

theorem bloomGets_holds : Rows.BloomGetsSaid :=
  OpenClaim.holds_of_wide n_bloomGets Try.f6 rfl rfl rfl rfl rfl rfl rfl ⟨rfl, rfl, rfl, rfl, rfl⟩ rfl rfl rfl rfl rfl (by kernel_rfl) Try.func6 (by kernel_rfl)
    (of_decide_eq_true (by kernel_rfl)) (by unfold Func.isWrapper; first | (rw [if_pos (by decide +kernel)]; kernel_rfl) | (rw [if_neg (by decide +kernel)]; exact ⟨rfl, rfl⟩))
    (fun os started H enc _ => bloomGets_lifted os started H enc)
end Go.Proofs.Ytlbnimbgodmagaa
