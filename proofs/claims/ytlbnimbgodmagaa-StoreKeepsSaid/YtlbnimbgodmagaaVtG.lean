/- StoreKeeps (layer 6): whatever the name, the bytes and the deeds, the law returns true, and the arguments read as they did. Conditions: none. -/
import Derived.Test.YtlbnimbgodmagaaVtF
import Derived.Test.YtlbnimbgodmagaaVpT
import Derived.Test.YtlbnimbgodmagaaRows
namespace Go.VL
open Go.Proofs

theorem deeds_of {P : Program} {tI tS tU tB tD : TypeId} (hI : P.underlying tI = some (.int .i64)) (hS : P.underlying tS = some .string) (hU : P.underlying tU = some (.int .u8)) (hB : P.underlying tB = some (.slice tU)) (hD : fts P tD = some [tI, tS, tI, tU, tB]) {n : Nat} :
    ∀ {ys : List AV}, (∀ y ∈ ys, HasE P (n + 3) tD y) → ∃ l : List Dd, ys = ddsAV l ∧ ∀ d ∈ l, d.ok
  | [], _ => ⟨[], rfl, fun _ h => by cases h⟩
  | y :: r, h => by
    obtain ⟨zs, hy, hf⟩ := has_fields hD (h y (by simp))
    obtain ⟨l, rfl, hl⟩ := deeds_of hI hS hU hB hD (fun z hz => h z (List.mem_cons_of_mem _ hz))
    clear h
    subst hy
    obtain ⟨y1, z1, rfl, k1, hf⟩ := hf
    obtain ⟨y2, z2, rfl, k2, hf⟩ := hf
    obtain ⟨y3, z3, rfl, k3, hf⟩ := hf
    obtain ⟨y4, z4, rfl, k4, hf⟩ := hf
    obtain ⟨y5, z5, rfl, k5, hf⟩ := hf
    have hz : z5 = [] := hf
    subst hz
    obtain ⟨m1, rfl, a1, b1⟩ := hasT_int hI k1
    obtain ⟨s, rfl, hs⟩ := hasT_str hS k2
    obtain ⟨m3, rfl, a3, b3⟩ := hasT_int hI k3
    obtain ⟨m4, rfl, a4, b4⟩ := hasT_int hU k4
    obtain ⟨ys, rfl, hyl, k5⟩ := hasT_slice hB k5
    obtain ⟨da, rfl⟩ := bytes_of hU k5
    rw [maxLen_eq] at hs
    rw [maxLen_eq, bytesAV_len] at hyl
    refine ⟨⟨m1, s, m3, m4, da⟩ :: l, rfl, fun x hx => ?_⟩
    rcases List.mem_cons.1 hx with rfl | hx
    · exact ⟨⟨a1, b1⟩, ⟨a3, b3⟩, ⟨a4, b4⟩, hs, hyl⟩
    · exact hl x hx
end Go.VL

namespace Go.Proofs.Ytlbnimbgodmagaa
open Go.ChangeShapes Go.WideShapes Go.ChangeAt Go.RowKit Go.VL

set_option maxRecDepth 100000 in
theorem storeKeeps_lifted (os : Os) (started : os.Started) (H : Type) (enc : TypeId × Value → H) :
    ReturnsInHanded {} Try.checked os n_storeKeeps .any (Rows.storeKeepsSpec.pre6 enc Try.prog Try.f3 Rows.storeKeepsRow.domain false) (Rows.storeKeepsSpec.post enc Try.prog Try.f3 false true false false) := by
  refine returnsInHanded_of_change (C := Try.checked) own started (by kernel_rfl) Try.func3
    (ChangeSpec.witness6 (enc := enc) (C := Try.checked) false ⟨#[], #[.string ⟨#[]⟩, .slice none 0 0, .slice none 0 0, .int .i64 0], []⟩ 8 (by kernel_rfl) (by kernel_rfl) (by kernel_rfl) (by kernel_rfl)) ?_
  intro W base args ds gs before hval0 hW _ _
  refine law_calls 4 (tb := 4) laidOut (by kernel_rfl) rfl (by kernel_rfl) (by kernel_rfl) (fun ds hds => ?_) (fun xs hxs => ?_) hval0 hW
  · match ds, hds with
    | [_d1, _d2, _d3, _d4], _ => rfl
  · have hxs' : HasAll Try.prog 4 [_, _, _, _] xs := hxs
    cases hxs' with
    | cons h1 r1 =>
    cases r1 with
    | cons h2 r2 =>
    cases r2 with
    | cons h3 r3 =>
    cases r3 with
    | cons h4 r4 =>
    cases r4
    obtain ⟨s, rfl, hs⟩ := has_str (t := 9) (by kernel_rfl) h1
    obtain ⟨ys, rfl, hyl, h2⟩ := has_slice (e := 5) (by kernel_rfl) h2
    obtain ⟨b, rfl⟩ := bytes_of (by kernel_rfl) h2
    obtain ⟨zs, rfl, hzl, h3⟩ := has_slice (e := 33) (by kernel_rfl) h3
    obtain ⟨l, rfl, hl⟩ := deeds_of (tI := 3) (tS := 9) (tU := 5) (tB := 22) (by kernel_rfl) (by kernel_rfl) (by kernel_rfl) (by kernel_rfl) (by kernel_rfl) h3
    obtain ⟨n0, rfl, _⟩ := has_int (k := .i64) (t := 3) (by kernel_rfl) h4
    rw [maxLen_eq] at hs hyl hzl
    rw [bytesAV_len] at hyl
    rw [dds_len] at hzl
    exact (storeKeeps_ok hs hyl hzl hl).mono fun v _ ⟨e, _⟩ => e

theorem storeKeeps_holds : Rows.StoreKeepsSaid :=
  OpenClaim.holds_of_wide n_storeKeeps Try.f3 rfl rfl rfl rfl rfl rfl rfl ⟨rfl, rfl, rfl, rfl, rfl⟩ rfl rfl rfl rfl rfl (by kernel_rfl) Try.func3 (by kernel_rfl)
    (of_decide_eq_true (by kernel_rfl)) (by unfold Func.isWrapper; first | (rw [if_pos (by decide +kernel)]; kernel_rfl) | (rw [if_neg (by decide +kernel)]; exact ⟨rfl, rfl⟩))
    (fun os started H enc _ => storeKeeps_lifted os started H enc)
end Go.Proofs.Ytlbnimbgodmagaa
