/- A page out of bytes: what is told of it, and readers moved with their bytes. -/
import Derived.Test.YtlbnimbgodmagaaVwC
import Derived.Test.YtlbnimbgodmagaaVsF
namespace Go.VL
open Go.Proofs

/-- a trace's bytes -/
def spN (b : List UInt8) (s : Rs) (m : Nat) : List UInt8 := (b.drop s.at_.toNat).take m
def hdI (b : List UInt8) (s : Rs) : Nat := rW b s 8
def hdM (b : List UInt8) (s : Rs) : Nat := rW b (rN b s 8) 4
def hdN (b : List UInt8) (s : Rs) : Rs := rN b (rN b s 8) 4
/-- traces, one by one -/
def goR (b : List UInt8) : Nat → Rs → List Tc → Option (List Tc × Rs)
  | 0, s, acc => some (acc, s)
  | n + 1, s, acc =>
    if 0 ≤ (hdN b s).bad ∨ (b.length : Int) < (hdN b s).at_ + hdM b s then none
    else if 0 ≤ (getS (spN b (hdN b s) (hdM b s))).1 then none
    else goR b n ⟨(hdN b s).at_ + hdM b s, (hdN b s).bad⟩ (acc ++ [⟨hdI b s, (getS (spN b (hdN b s) (hdM b s))).2⟩])
def endP (b : List UInt8) (acc : List Tc) (s : Rs) : Option (List Tc) := if 0 ≤ s.bad ∨ s.at_ < b.length ∨ 64 < acc.length ∨ isB acc = false then none else some acc
def getP (b : List UInt8) : Option (List Tc) := (goR b (rW b r0 2) (rN b r0 2) []).bind fun p => endP b p.1 p.2
def pgOf : Option (List Tc) → Int × List Tc
  | none => (2, [])
  | some l => (0, l)
def pageG (x : List UInt8) : Int × List Tc := if (openB x).1 = 0 then pgOf (getP (openB x).2) else ((openB x).1, [])
theorem openB_code (x : List UInt8) : (openB x).1 = 0 ∨ (openB x).1 = 2 ∨ (openB x).1 = 7 := by
  unfold openB
  split
  · simp
  · split
    · simp
    · simp
theorem pageG_code (x : List UInt8) : ∃ c : Nat, (pageG x).1 = (c : Int) ∧ c ≤ 10 := by
  unfold pageG
  split
  · cases getP (openB x).2 with
    | none => exact ⟨2, rfl, by omega⟩
    | some l => exact ⟨0, rfl, by omega⟩
  · rcases openB_code x with h | h | h <;> rw [h]
    · exact ⟨0, rfl, by omega⟩
    · exact ⟨2, rfl, by omega⟩
    · exact ⟨7, rfl, by omega⟩

theorem goR_len {b : List UInt8} : ∀ {n : Nat} {s : Rs} {acc l : List Tc} {s' : Rs}, goR b n s acc = some (l, s') → l.length = acc.length + n
  | 0, s, acc, l, s', h => by cases h; rfl
  | n + 1, s, acc, l, s', h => by
    unfold goR at h
    split at h
    · cases h
    · split at h
      · cases h
      · have := goR_len h
        simp at this; omega
theorem goR_bad {b : List UInt8} {n : Nat} {s : Rs} {acc : List Tc} (hs : 0 ≤ (hdN b s).bad ∨ (b.length : Int) < (hdN b s).at_ + hdM b s) : goR b (n + 1) s acc = none := by
  unfold goR; rw [if_pos hs]
theorem goR_no {b : List UInt8} {n : Nat} {s : Rs} {acc : List Tc} (hs : ¬ (0 ≤ (hdN b s).bad ∨ (b.length : Int) < (hdN b s).at_ + hdM b s)) (hg : 0 ≤ (getS (spN b (hdN b s) (hdM b s))).1) : goR b (n + 1) s acc = none := by
  unfold goR; rw [if_neg hs, if_pos hg]
theorem goR_go {b : List UInt8} {n : Nat} {s : Rs} {acc : List Tc} (hs : ¬ (0 ≤ (hdN b s).bad ∨ (b.length : Int) < (hdN b s).at_ + hdM b s)) (hg : ¬ 0 ≤ (getS (spN b (hdN b s) (hdM b s))).1) :
    goR b (n + 1) s acc = goR b n ⟨(hdN b s).at_ + hdM b s, (hdN b s).bad⟩ (acc ++ [⟨hdI b s, (getS (spN b (hdN b s) (hdM b s))).2⟩]) := by
  conv => lhs; unfold goR
  rw [if_neg hs, if_neg hg]

theorem goS_len {b : List UInt8} : ∀ {n : Nat} {s : Rs} {acc : List Sp}, (goS b n s acc).2.1.length ≤ acc.length + n
  | 0, s, acc => by unfold goS; split <;> simp
  | n + 1, s, acc => by
    unfold goS
    split
    · simp
    · split
      · simp
      · split
        · have := @goS_len b n (oneN b s) (acc ++ [oneS b s])
          simp at this; omega
        · simp
theorem getS_len {b : List UInt8} (hb : b.length ≤ 1000000) : (getS b).2.length ≤ 65535 := by
  have h := rW_lt (w := 2) (Rs.ok_r0 (l := b) (by omega))
  have h2 := @goS_len b (rW b r0 2) (rN b r0 2) []
  unfold getS
  simp only []
  split
  · simp
  · split
    · simp
    · simp at h2 ⊢; omega
theorem goR_sp {b : List UInt8} (hb : b.length ≤ 1000000) : ∀ {n : Nat} {s : Rs} {acc l : List Tc} {s' : Rs}, (∀ t ∈ acc, t.sp.length ≤ 65535) → goR b n s acc = some (l, s') → ∀ t ∈ l, t.sp.length ≤ 65535
  | 0, s, acc, l, s', ha, h => by cases h; exact ha
  | n + 1, s, acc, l, s', ha, h => by
    unfold goR at h
    split at h
    · cases h
    · split at h
      · cases h
      · refine goR_sp hb (fun t ht => ?_) h
        rcases List.mem_append.1 ht with ht | ht
        · exact ha t ht
        · rw [List.mem_singleton] at ht
          subst ht
          refine getS_len ?_
          unfold spN
          rw [List.length_take, List.length_drop]; omega

/-- the reader's place in what is left of the bytes -/
def sh (k : Nat) (s : Rs) : Rs := ⟨s.at_ - k, if s.bad = -1 then -1 else s.bad - k⟩
structure SH (k : Nat) (b : List UInt8) (s : Rs) : Prop where
  ok : s.ok b
  len : k ≤ b.length
  lo : (k : Int) ≤ s.at_
  bad : s.bad = -1 ∨ (k : Int) ≤ s.bad
theorem SH.neg {k : Nat} {b : List UInt8} {s : Rs} (h : SH k b s) : (sh k s).bad = -1 ↔ s.bad = -1 := by
  unfold sh; have := h.bad
  split <;> simp_all <;> omega
theorem SH.pos {k : Nat} {b : List UInt8} {s : Rs} (h : SH k b s) : 0 ≤ (sh k s).bad ↔ 0 ≤ s.bad := by
  unfold sh; have := h.bad
  split <;> simp_all <;> omega
theorem SH.isok {k : Nat} {b : List UInt8} {s : Rs} (h : SH k b s) : (sh k s).ok (b.drop k) := by
  obtain ⟨⟨⟨h1, h2, h3⟩, h4⟩, h5, h6, h7⟩ := h
  refine ⟨⟨by rw [List.length_drop]; omega, by unfold sh; simp; omega, by unfold sh; rw [List.length_drop]; simp; omega⟩, ?_⟩
  unfold sh
  split
  · exact .inl rfl
  · right; simp; omega
theorem SH.rt {k : Nat} {b : List UInt8} {s : Rs} (h : SH k b s) (w : Int) : rT (b.drop k) (sh k s) w = rT b s w := by
  have e := h.neg
  have := h.len
  unfold rT
  rw [Bool.eq_iff_iff, decide_eq_true_eq, decide_eq_true_eq, e, List.length_drop]
  unfold sh
  constructor <;> rintro ⟨h1, h2⟩ <;> refine ⟨h1, ?_⟩ <;> simp only [] at * <;> omega
theorem SH.rw {k : Nat} {b : List UInt8} {s : Rs} (h : SH k b s) (w : Nat) : rW (b.drop k) (sh k s) w = rW b s w := by
  unfold rW
  rw [h.rt]
  have : (b.drop k).drop (sh k s).at_.toNat = b.drop s.at_.toNat := by
    rw [List.drop_drop]; unfold sh; have := h.lo; congr 1; simp only []; omega
  rw [this]
theorem SH.rn {k : Nat} {b : List UInt8} {s : Rs} (h : SH k b s) (w : Nat) : rN (b.drop k) (sh k s) w = sh k (rN b s w) ∧ SH k b (rN b s w) := by
  have hk := rN_ok (w := w) h.ok
  have e := h.neg
  have h2 := h.lo
  have h3 := h.bad
  unfold rN at hk ⊢
  rw [h.rt]
  split
  · rename_i ht
    rw [if_pos ht] at hk
    exact ⟨by unfold sh; simp; omega, hk, h.len, by simp; omega, h3⟩
  · rename_i ht
    rw [if_neg ht] at hk
    refine ⟨?_, hk, h.len, h2, ?_⟩
    · unfold rF
      by_cases hb : s.bad = -1
      · rw [if_pos (e.2 hb), if_pos hb]; unfold sh; simp; omega
      · rw [if_neg (fun x => hb (e.1 x)), if_neg hb]
    · unfold rF
      by_cases hb : s.bad = -1
      · right; simp [hb, h2]
      · exact .inr (by simp only [if_neg hb]; omega)
theorem sh_new (k : Nat) : sh k ⟨(k : Int), -1⟩ = r0 := by unfold sh r0; simp
end Go.VL
