/- From arguments to plain data: numbers, bytes, texts, structs. -/
import Derived.Test.YtlbnimbgodmagaaGd
import Derived.Test.YtlbnimbgodmagaaGc
namespace Go.VL
open Go.Proofs

theorem nats_of {P : Program} {n : Nat} {e : TypeId} (hu : P.underlying e = some (.int .u64)) : ∀ {ys : List AV}, (∀ y ∈ ys, HasE P (n + 1) e y) → ∃ l : List Nat, ys = nums .u64 (natI l) ∧ ∀ n ∈ l, n < 18446744073709551616
  | [], _ => ⟨[], rfl, fun _ h => by cases h⟩
  | y :: r, h => by
    obtain ⟨m, rfl, h1, h2⟩ := has_int hu (h y (by simp))
    obtain ⟨l, rfl, hl⟩ := nats_of hu (fun z hz => h z (List.mem_cons_of_mem _ hz))
    have h1' : 0 ≤ m := h1
    have h2' : m ≤ 18446744073709551615 := h2
    refine ⟨m.toNat :: l, ?_, fun n hn => ?_⟩
    · have : ((m.toNat : Nat) : Int) = m := Int.toNat_of_nonneg h1'
      simp only [nums, natI, List.map_cons, this]
    · rcases List.mem_cons.1 hn with rfl | hn
      · omega
      · exact hl n hn
theorem bytes_of {P : Program} {n : Nat} {e : TypeId} (hu : P.underlying e = some (.int .u8)) : ∀ {ys : List AV}, (∀ y ∈ ys, HasE P (n + 1) e y) → ∃ l : List UInt8, ys = bytesAV l
  | [], _ => ⟨[], rfl⟩
  | y :: r, h => by
    obtain ⟨m, rfl, h1, h2⟩ := has_int hu (h y (by simp))
    obtain ⟨l, rfl⟩ := bytes_of hu (fun z hz => h z (List.mem_cons_of_mem _ hz))
    have h1' : 0 ≤ m := h1
    have h2' : m ≤ 255 := h2
    refine ⟨UInt8.ofNat m.toNat :: l, ?_⟩
    have : ((UInt8.ofNat m.toNat).toNat : Int) = m := by
      rw [UInt8.toNat_ofNat']; omega
    simp only [bytesAV, List.map_cons, this]
def fts (P : Program) (t : TypeId) : Option (List TypeId) := match P.underlying t with
  | some (.struct fs) => some (fs.toList.map (·.type))
  | _ => none
def HasTs (P : Program) (n : Nat) : List TypeId → List AV → Prop
  | [], xs => xs = []
  | t :: r, xs => ∃ ys zs, xs = ys ++ zs ∧ HasT P n t ys ∧ HasTs P n r zs
theorem hasTs_of {P : Program} {n : Nat} : ∀ {fs : List Field} {xs : List AV}, HasF P n fs xs → HasTs P n (fs.map (·.type)) xs
  | [], xs, h => by rw [hasF_nil] at h; exact h
  | f :: r, xs, h => by
    rw [hasF_cons] at h
    obtain ⟨ys, zs, e, h1, h2⟩ := h
    exact ⟨ys, zs, e, h1, hasTs_of h2⟩
theorem has_fields {P : Program} {n : Nat} {t : TypeId} {ts : List TypeId} {y : AV} (hf : fts P t = some ts) (h : HasE P (n + 1) t y) : ∃ zs, y = .agg zs ∧ HasTs P n ts zs := by
  unfold fts at hf
  split at hf
  · rename_i fs hu
    simp only [Option.some.injEq] at hf; subst hf
    rw [hasE_iff] at h
    obtain ⟨h1, h2, _⟩ := h
    obtain ⟨zs, rfl⟩ := h2 (by unfold isStruct; rw [hu])
    rw [hasT_succ, hu] at h1
    exact ⟨zs, rfl, hasTs_of h1⟩
  · cases hf
theorem hasT_int {P : Program} {n : Nat} {t : TypeId} {k : IntKind} {xs : List AV} (hu : P.underlying t = some (.int k)) (h : HasT P (n + 1) t xs) : ∃ m, xs = [.int k m] ∧ k.min ≤ m ∧ m ≤ k.max := by
  rw [hasT_succ, hu] at h; exact h
theorem hasT_slice {P : Program} {n : Nat} {t e : TypeId} {xs : List AV} (hu : P.underlying t = some (.slice e)) (h : HasT P (n + 1) t xs) : ∃ ys, xs = [.sl ys .none] ∧ ys.length ≤ maxLen ∧ ∀ y ∈ ys, HasE P n e y := by
  rw [hasT_succ, hu] at h; exact h

theorem maxLen_eq : maxLen = 9223372036854775807 := by decide
theorem u64_nat {m : Int} (h1 : IntKind.u64.min ≤ m) (h2 : m ≤ IntKind.u64.max) : ∃ n : Nat, m = (n : Int) ∧ n < 18446744073709551616 := by
  have h1' : 0 ≤ m := h1
  have h2' : m ≤ 18446744073709551615 := h2
  exact ⟨m.toNat, by omega, by omega⟩

theorem hasT_str {P : Program} {n : Nat} {t : TypeId} {xs : List AV} (hu : P.underlying t = some .string) (h : HasT P (n + 1) t xs) : ∃ s, xs = [.str s] ∧ s.size ≤ maxLen := by
  rw [hasT_succ, hu] at h; exact h
theorem has_str {P : Program} {n : Nat} {t : TypeId} {x : AV} (hu : P.underlying t = some .string) (h : HasE P (n + 1) t x) : ∃ s, x = .str s ∧ s.size ≤ maxLen := by
  rw [hasE_iff] at h
  obtain ⟨h1, _, h3⟩ := h
  have hs : isStruct P t = false := by unfold isStruct; rw [hu]
  rw [h3 hs] at h1
  obtain ⟨s, e, h⟩ := hasT_str hu h1
  simp only [List.cons.injEq, and_true] at e
  exact ⟨s, e, h⟩
end Go.VL

namespace Go.Proofs.Ytlbnimbgodmagaa
open Go.RowKit Go.VL

theorem own : ownKnob Try.prog.godebug = none := by kernel_rfl
theorem laidOut : laidOutB Try.prog = true := by kernel_rfl
end Go.Proofs.Ytlbnimbgodmagaa
