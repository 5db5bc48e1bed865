/- KwayParts (layer 10): whatever the pages and the number, the law returns true, and the arguments read as they did. Conditions: none. -/
import Derived.Test.YtmbbeldgfhnkbaaKKwayParts5
import Derived.Test.YtmbbeldgfhnkbaaChecked
import Derived.Test.YtmbbeldgfhnkbaaRows

set_option linter.unusedSimpArgs false
set_option linter.unusedVariables false

namespace Go.VL

open Go.Proofs

/-- a span whose numbers fit -/
def Sp.ok (s : Sp) : Prop := s.tr < 18446744073709551616 ∧ s.id < 18446744073709551616 ∧ (-9223372036854775808 ≤ s.st ∧ s.st ≤ 9223372036854775807) ∧ (-9223372036854775808 ≤ s.en ∧ s.en ≤ 9223372036854775807) ∧ s.da.length ≤ 9223372036854775807

def Tc.ok (t : Tc) : Prop := t.id < 18446744073709551616 ∧ t.sp.length ≤ 9223372036854775807 ∧ ∀ s ∈ t.sp, s.ok

/-- the numbers of the types of spans and traces -/
structure Types (P : Program) where
  u64 : TypeId
  i64 : TypeId
  bs : TypeId
  u8 : TypeId
  span : TypeId
  spans : TypeId
  trace : TypeId
  traces : TypeId
  h1 : P.underlying u64 = some (.int .u64)
  h2 : P.underlying i64 = some (.int .i64)
  h3 : P.underlying bs = some (.slice u8)
  h4 : P.underlying u8 = some (.int .u8)
  h5 : fts P span = some [u64, u64, i64, i64, bs]
  h6 : P.underlying spans = some (.slice span)
  h7 : fts P trace = some [u64, spans]
  h8 : P.underlying traces = some (.slice trace)

theorem span_of {P : Program} (T : Types P) {n : Nat} {y : AV} (h : HasE P (n + 3) T.span y) : ∃ s : Sp, y = s.av ∧ s.ok := by
  obtain ⟨zs, hy, hf⟩ := has_fields T.h5 h
  clear h
  subst hy
  have h := hf
  clear hf
  obtain ⟨y1, z1, rfl, k1, h⟩ := h
  obtain ⟨y2, z2, rfl, k2, h⟩ := h
  obtain ⟨y3, z3, rfl, k3, h⟩ := h
  obtain ⟨y4, z4, rfl, k4, h⟩ := h
  obtain ⟨y5, z5, rfl, k5, h⟩ := h
  have hz : z5 = [] := h
  subst hz
  obtain ⟨m1, rfl, a1, b1⟩ := hasT_int T.h1 k1
  obtain ⟨m2, rfl, a2, b2⟩ := hasT_int T.h1 k2
  obtain ⟨m3, rfl, a3, b3⟩ := hasT_int T.h2 k3
  obtain ⟨m4, rfl, a4, b4⟩ := hasT_int T.h2 k4
  obtain ⟨ys, rfl, hl, k5⟩ := hasT_slice T.h3 k5
  obtain ⟨da, rfl⟩ := bytes_of T.h4 k5
  obtain ⟨n1, rfl, c1⟩ := u64_nat a1 b1
  obtain ⟨n2, rfl, c2⟩ := u64_nat a2 b2
  rw [maxLen_eq, bytesAV_len] at hl
  exact ⟨⟨n1, n2, m3, m4, da⟩, rfl, c1, c2, ⟨a3, b3⟩, ⟨a4, b4⟩, hl⟩

theorem spans_of {P : Program} (T : Types P) {n : Nat} : ∀ {ys : List AV}, (∀ y ∈ ys, HasE P (n + 3) T.span y) → ∃ l : List Sp, ys = spsAV l ∧ ∀ s ∈ l, s.ok
  | [], _ => ⟨[], rfl, fun _ h => by cases h⟩
  | y :: r, h => by
    obtain ⟨s, rfl, hs⟩ := span_of T (h y (by simp))
    obtain ⟨l, rfl, hl⟩ := spans_of T (fun z hz => h z (List.mem_cons_of_mem _ hz))
    exact ⟨s :: l, rfl, fun x hx => by rcases List.mem_cons.1 hx with rfl | hx; exact hs; exact hl x hx⟩

theorem trace_of {P : Program} (T : Types P) {n : Nat} {y : AV} (h : HasE P (n + 5) T.trace y) : ∃ t : Tc, y = t.av ∧ t.ok := by
  obtain ⟨zs, hy, hf⟩ := has_fields T.h7 h
  clear h
  subst hy
  have h := hf
  clear hf
  obtain ⟨y1, z1, rfl, k1, h⟩ := h
  obtain ⟨y2, z2, rfl, k2, h⟩ := h
  have hz : z2 = [] := h
  subst hz
  obtain ⟨m1, rfl, a1, b1⟩ := hasT_int T.h1 k1
  obtain ⟨ys, rfl, hl, k2⟩ := hasT_slice T.h6 k2
  obtain ⟨l, rfl, hs⟩ := spans_of T k2
  obtain ⟨n1, rfl, c1⟩ := u64_nat a1 b1
  rw [maxLen_eq, sps_len] at hl
  exact ⟨⟨n1, l⟩, rfl, c1, hl, hs⟩

theorem traces_of {P : Program} (T : Types P) {n : Nat} : ∀ {ys : List AV}, (∀ y ∈ ys, HasE P (n + 5) T.trace y) → ∃ l : List Tc, ys = tcsAV l ∧ ∀ t ∈ l, t.ok
  | [], _ => ⟨[], rfl, fun _ h => by cases h⟩
  | y :: r, h => by
    obtain ⟨s, rfl, hs⟩ := trace_of T (h y (by simp))
    obtain ⟨l, rfl, hl⟩ := traces_of T (fun z hz => h z (List.mem_cons_of_mem _ hz))
    exact ⟨s :: l, rfl, fun x hx => by rcases List.mem_cons.1 hx with rfl | hx; exact hs; exact hl x hx⟩

theorem pages_of {P : Program} (T : Types P) {n : Nat} : ∀ {ys : List AV}, (∀ y ∈ ys, HasE P (n + 6) T.traces y) → ∃ l : List (List Tc), ys = pgsAV l ∧ ∀ p ∈ l, p.length ≤ 9223372036854775807 ∧ ∀ t ∈ p, t.ok
  | [], _ => ⟨[], rfl, fun _ h => by cases h⟩
  | y :: r, h => by
    obtain ⟨zs, rfl, hl, hz⟩ := has_slice T.h8 (h y (by simp))
    obtain ⟨p, rfl, hp⟩ := traces_of T hz
    obtain ⟨l, rfl, hh⟩ := pages_of T (fun z hz => h z (List.mem_cons_of_mem _ hz))
    rw [maxLen_eq, tcs_len] at hl
    exact ⟨p :: l, rfl, fun x hx => by rcases List.mem_cons.1 hx with rfl | hx; exact ⟨hl, hp⟩; exact hh x hx⟩

end Go.VL

namespace Go.VL

open Go.Proofs

set_option maxRecDepth 100000 in
def tys : Types Try.prog := ⟨51, 2, 34, 5, 53, 47, 95, 22, by kernel_rfl, by kernel_rfl, by kernel_rfl, by kernel_rfl, by kernel_rfl, by kernel_rfl, by kernel_rfl, by kernel_rfl⟩

end Go.VL

namespace Go.VL

open Go.Proofs

theorem pages_ty : Try.prog.underlying 25 = some (.slice 22) := by kernel_rfl

theorem int_ty : Try.prog.underlying 3 = some (.int .i64) := by kernel_rfl

end Go.VL

namespace Go.Proofs.Ytmbbeldgfhnkbaa

open Go.ChangeShapes Go.WideShapes Go.ChangeAt Go.RowKit Go.VL

set_option maxRecDepth 100000 in
theorem kwayParts_lifted (os : Os) (started : os.Started) (H : Type) (enc : TypeId × Value → H) :
    ReturnsInHanded {} Try.checked os n_kwayParts .any (Rows.kwayPartsSpec.pre6 enc Try.prog Try.f11 Rows.kwayPartsRow.domain false) (Rows.kwayPartsSpec.post enc Try.prog Try.f11 false true false false) := by
  refine returnsInHanded_of_change (C := Try.checked) own started (by kernel_rfl) Try.func11
    (ChangeSpec.witness6 (enc := enc) (C := Try.checked) false ⟨#[], #[.slice none 0 0, .int .i64 0], []⟩ 8 (by kernel_rfl) (by kernel_rfl) (by kernel_rfl) (by kernel_rfl)) ?_
  intro W base args ds gs before hval0 hW _ _
  refine law_calls 7 (tb := 4) laidOut (by kernel_rfl) rfl (by kernel_rfl) (by kernel_rfl) (fun ds hds => ?_) (fun xs hxs => ?_) hval0 hW
  · match ds, hds with
    | [_d1, _d2], _ => rfl
  · have hxs' : HasAll Try.prog 7 [_, _] xs := hxs
    cases hxs' with
    | cons h1 r1 =>
    cases r1 with
    | cons h2 r2 =>
    cases r2
    obtain ⟨ys, rfl, hlen, h1⟩ := has_slice pages_ty h1
    obtain ⟨l, rfl, hl⟩ := pages_of tys h1
    rw [maxLen_eq, pgs_len] at hlen
    obtain ⟨m, rfl, _⟩ := has_int int_ty h2
    exact (kwayParts_ok hlen (fun p hp => ⟨(hl p hp).1, fun t ht => ((hl p hp).2 t ht).2.1⟩)).mono fun v _ ⟨e, _⟩ => e

theorem kwayParts_holds : Rows.KwayPartsSaid :=
  OpenClaim.holds_of_wide n_kwayParts Try.f11 rfl rfl rfl rfl rfl rfl rfl ⟨rfl, rfl, rfl, rfl, rfl⟩ rfl rfl rfl rfl rfl (by kernel_rfl) Try.func11 (by kernel_rfl)
    (of_decide_eq_true (by kernel_rfl)) (by unfold Func.isWrapper; first | (rw [if_pos (by decide +kernel)]; kernel_rfl) | (rw [if_neg (by decide +kernel)]; exact ⟨rfl, rfl⟩))
    (fun os started H enc _ => kwayParts_lifted os started H enc)

end Go.Proofs.Ytmbbeldgfhnkbaa
