/- IndexPuts (layer 12): whatever the numbers and the bytes, the law returns true, and the arguments read as they did. Conditions: none. -/
import Derived.Test.YtlbnimbgodmagaaVpP
import Derived.Test.YtlbnimbgodmagaaVlU
import Derived.Test.YtlbnimbgodmagaaRows
namespace Go.VL
open Go.Proofs

theorem nats_of {P : Program} {n : Nat} {e : TypeId} (hu : P.underlying e = some (.int .u64)) : ∀ {ys : List AV}, (∀ y ∈ ys, HasE P (n + 1) e y) → ∃ l : List Nat, ys = nums .u64 (natI l) ∧ ∀ n ∈ l, n < 18446744073709551616
  | [], _ => ⟨[], rfl, fun _ h => by cases h⟩
  | y :: r, h => by
    obtain ⟨m, rfl, h1, h2⟩ := has_int hu (h y (by simp))
    obtain ⟨l, rfl, hl⟩ := nats_of hu (fun z hz => h z (List.mem_cons_of_mem _ hz))
    have h1' : 0 ≤ m := h1
    have h2' : m ≤ 18446744073709551615 := h2
    refine ⟨m.toNat :: l, ?_, fun n hn => ?_⟩
    · have : ((m.toNat : Nat) : Int) = m := Int.toNat_of_nonneg h1'
      simp only [nums, natI, List.map_cons, this]
    · rcases List.mem_cons.1 hn with rfl | hn
      · omega
      · exact hl n hn
theorem bytes_of {P : Program} {n : Nat} {e : TypeId} (hu : P.underlying e = some (.int .u8)) : ∀ {ys : List AV}, (∀ y ∈ ys, HasE P (n + 1) e y) → ∃ l : List UInt8, ys = bytesAV l
  | [], _ => ⟨[], rfl⟩
  | y :: r, h => by
    obtain ⟨m, rfl, h1, h2⟩ := has_int hu (h y (by simp))
    obtain ⟨l, rfl⟩ := bytes_of hu (fun z hz => h z (List.mem_cons_of_mem _ hz))
    have h1' : 0 ≤ m := h1
    have h2' : m ≤ 255 := h2
    refine ⟨UInt8.ofNat m.toNat :: l, ?_⟩
    have : ((UInt8.ofNat m.toNat).toNat : Int) = m := by
      rw [UInt8.toNat_ofNat']; omega
    simp only [bytesAV, List.map_cons, this]
end Go.VL

namespace Go.Proofs.Ytlbnimbgodmagaa
open Go.ChangeShapes Go.WideShapes Go.ChangeAt Go.RowKit Go.VL

theorem own : ownKnob Try.prog.godebug = none := by kernel_rfl
theorem laidOut : laidOutB Try.prog = true := by kernel_rfl

set_option maxRecDepth 100000 in
theorem indexPuts_lifted (os : Os) (started : os.Started) (H : Type) (enc : TypeId × Value → H) :
    ReturnsInHanded {} Try.checked os n_indexPuts .any (Rows.indexPutsSpec.pre6 enc Try.prog Try.f8 Rows.indexPutsRow.domain false) (Rows.indexPutsSpec.post enc Try.prog Try.f8 false true false false) := by
  refine returnsInHanded_of_change (C := Try.checked) own started (by kernel_rfl) Try.func8
    (ChangeSpec.witness6 (enc := enc) (C := Try.checked) false ⟨#[], #[.slice none 0 0, .slice none 0 0], []⟩ 8 (by kernel_rfl) (by kernel_rfl) (by kernel_rfl) (by kernel_rfl)) ?_
  intro W base args ds gs before hval0 hW hcnd _
  refine law_calls 3 (tb := 4) laidOut (by kernel_rfl) rfl (by kernel_rfl) (by kernel_rfl) (fun ds hds => ?_) (fun xs hxs => ?_) hval0 hW
  · match ds, hds with
    | [d1, d2], _ => rfl
  · have hxs' : HasAll Try.prog 3 [_, _] xs := hxs
    cases hxs' with
    | cons h1 r =>
      cases r with
      | cons h2 r =>
        cases r
        obtain ⟨ys, rfl, _, h1⟩ := has_slice Try.underlying44 h1
        obtain ⟨zs, rfl, _, h2⟩ := has_slice Try.underlying22 h2
        obtain ⟨l, rfl, hl⟩ := nats_of Try.underlying42 h1
        obtain ⟨x, rfl⟩ := bytes_of Try.underlying5 h2
        exact (indexPuts_ok hl).mono fun v _ ⟨e, _⟩ => e

theorem indexPuts_holds : Rows.IndexPutsSaid :=
  OpenClaim.holds_of_wide n_indexPuts Try.f8 rfl rfl rfl rfl rfl rfl rfl ⟨rfl, rfl, rfl, rfl, rfl⟩ rfl rfl rfl rfl rfl (by kernel_rfl) Try.func8 (by kernel_rfl)
    (of_decide_eq_true (by kernel_rfl)) (by unfold Func.isWrapper; first | (rw [if_pos (by decide +kernel)]; kernel_rfl) | (rw [if_neg (by decide +kernel)]; exact ⟨rfl, rfl⟩))
    (fun os started H enc _ => indexPuts_lifted os started H enc)
end Go.Proofs.Ytlbnimbgodmagaa
