/- Contracts: spans and traces that are few; what may be. -/
import Derived.Test.YtlbnimbgodmagaaGd
import Derived.Test.YtlbnimbgodmagaaVcB
namespace Go.VL
open Go.Proofs

/-- a span -/
structure Sp where
  tr : Nat
  id : Nat
  st : Int
  en : Int
  da : List UInt8
  deriving DecidableEq
def Sp.av (s : Sp) : AV := .agg [.int .u64 (s.tr : Int), .int .u64 (s.id : Int), .int .i64 s.st, .int .i64 s.en, .sl (bytesAV s.da) .none]
/-- a trace -/
structure Tc where
  id : Nat
  sp : List Sp
  deriving DecidableEq
def Tc.av (t : Tc) : AV := .agg [.int .u64 (t.id : Int), .sl (t.sp.map Sp.av) .none]
def spsAV (l : List Sp) : List AV := l.map Sp.av
def tcsAV (l : List Tc) : List AV := l.map Tc.av
def pgsAV (l : List (List Tc)) : List AV := l.map fun p => .sl (tcsAV p) .none
theorem tcav (t : Tc) : t.av = .agg [.int .u64 (t.id : Int), .sl (spsAV t.sp) .none] := rfl
theorem sps_len (l : List Sp) : (spsAV l).length = l.length := by simp [spsAV]
theorem tcs_len (l : List Tc) : (tcsAV l).length = l.length := by simp [tcsAV]
theorem pgs_len (l : List (List Tc)) : (pgsAV l).length = l.length := by simp [pgsAV]
theorem sps_get {l : List Sp} {i : Nat} (h : i < l.length) : (spsAV l)[i]? = some (l[i].av) := by simp [spsAV, h]
theorem tcs_get {l : List Tc} {i : Nat} (h : i < l.length) : (tcsAV l)[i]? = some (l[i].av) := by simp [tcsAV, h]
theorem pgs_get {l : List (List Tc)} {i : Nat} (h : i < l.length) : (pgsAV l)[i]? = some (.sl (tcsAV l[i]) .none) := by simp [pgsAV, h]
theorem spcells (s : Sp) : s.av.cells = [.int .u64 (s.tr : Int), .int .u64 (s.id : Int), .int .i64 s.st, .int .i64 s.en, .sl (bytesAV s.da) .none] := rfl
theorem tccells (t : Tc) : t.av.cells = [.int .u64 (t.id : Int), .sl (spsAV t.sp) .none] := rfl

theorem inc64 {i n : Nat} (h : i < n) (hn : n ≤ 9223372036854775807) : IntKind.i64.wrap ((i : Int) + 1) = ((i + 1 : Nat) : Int) := by
  rw [wrap64 (by omega) (by omega)]; rfl

def fewB (m : Int) (l : List Sp) : Bool := l.all (fun s => decide (s.da.length ≤ 200)) && decide ((l.length : Int) ≤ m)

theorem take_all {α : Type} {p : α → Bool} {l : List α} {i : Nat} (hi : i < l.length) (h : (l.take i).all p = true) (hp : p l[i] = true) : (l.take (i + 1)).all p = true := by
  rw [List.take_succ_eq_append_getElem hi, List.all_append, h]
  simp [hp]
theorem all_ff {α : Type} {p : α → Bool} {l : List α} {i : Nat} (hi : i < l.length) (hp : p l[i] = false) : l.all p = false := by
  rw [Bool.eq_false_iff]
  intro h
  have := List.all_eq_true.1 h l[i] (List.getElem_mem hi)
  rw [hp] at this; cases this

theorem few_ok {l : List Sp} {g : Ver} {m : Int} {σ : St} (hl : l.length ≤ 9223372036854775807) : ACalls Try.prog n_few [.sl (spsAV l) g, .int .i64 m] σ (fun v σ' => v = .bool (fewB m l) ∧ σ' = σ) := by
  refine s_few (fun wf => ?_)
  unfold c_few
  refine T.seq_k (fun K_h1 h1 => ?_)
  refine T.regi hm ?_
  simp only [↓reduceIte, namesOf, List.any, I.names, aopsI, astep, ev, setd, List.set, List.cons_append, List.nil_append, List.length_cons, List.length_nil, List.replicate, then_normal, Bool.or_false, Bool.false_eq_true, up_zero, Nat.reduceAdd, Nat.reduceSub]
  refine h1 _ _ ?_
  try clear h1 K_h1
  refine T.seq_k (fun K_h1 h1 => ?_)
  refine T.seq_k (fun K_h2 h2 => ?_)
  refine T.regi hm ?_
  simp only [↓reduceIte, namesOf, List.any, I.names, aopsI, astep, ev, setd, List.set, then_normal, Bool.or_false, Bool.false_eq_true, up_zero]
  refine h2 _ _ ?_
  try clear h2 K_h2
  refine T.block ?_
  refine T.gh (Gh.keep [0, 1, 5]) ?_
  refine T.loopi (fun i ρ σ' => σ' = σ ∧ (l.take i).all (fun s => decide (s.da.length ≤ 200)) = true ∧ ρ = [.sl (spsAV l) g, .int .i64 m, .any, .any, .any, .int .i64 (i : Int)] ++ List.replicate 17 .any)
    l.length 0 (Nat.zero_le _) ⟨rfl, by simp, rfl⟩ ?_
  rintro i ρ σ' hi ⟨rfl, hpre, rfl⟩
  refine T.seq_k (fun K_h2 h2 => ?_)
  refine T.seq_k (fun K_h3 h3 => ?_)
  refine T.regi hm ?_
  simp only [↓reduceIte, namesOf, List.any, I.names, aopsI, astep, ev, setd, List.set, List.getD, List.getElem?_cons_zero, List.getElem?_cons_succ, List.cons_append, List.nil_append, List.replicate, then_normal, Option.getD_some, Bool.or_false, Bool.false_eq_true, up_zero, binv, ↓opt_def, lt_len, eq_self]
  refine h3 _ _ ?_
  try clear h3 K_h3
  refine T.cond rfl (fun hb => ?_) (fun hb => ?_)
  · refine T.skip ?_
    refine h2 _ _ ?_
    try clear h2 K_h2
    have hil : i < l.length := by simpa [sps_len] using hb
    clear hb
    refine T.seq_k (fun K_h2 h2 => ?_)
    refine T.block ?_
    refine T.seq_k (fun K_h3 h3 => ?_)
    refine T.regi hm ?_
    simp only [↓reduceIte, namesOf, List.any, I.names, aopsI, astep, ev, setd, List.set, List.getD, List.getElem?_cons_zero, List.getElem?_cons_succ, List.cons_append, List.nil_append, List.replicate, then_normal, Option.getD_some, Bool.or_false, Bool.false_eq_true, up_zero, binv, ↓opt_def, AV.cells, ldc, Int.natCast_nonneg, lt_len, Int.toNat_natCast, true_and, and_true, eq_self, decide_true, sps_len, sps_get hil, hil]
    refine h3 _ _ ?_
    try clear h3 K_h3
    refine T.cond rfl (fun hb => ?_) (fun hb => ?_)
    · refine T.seq_k (fun K_h3 h3 => ?_)
      refine T.regi hm ?_
      simp only [↓reduceIte, namesOf, List.any, I.names, aopsI, astep, ev, setd, List.set, List.cons_append, List.nil_append, List.replicate, then_normal, Bool.or_false, Bool.false_eq_true, up_zero]
      refine h3 _ _ ?_
      try clear h3 K_h3
      refine T.ret (Fin.ret rfl ⟨?_, rfl⟩)
      have : fewB m l = false := by
        unfold fewB
        rw [all_ff hil (by simp [bytesAV_len] at hb ⊢; omega)]; rfl
      rw [this]; rfl
    · refine T.skip ?_
      refine h2 _ _ ?_
      try clear h2 K_h2
      have hw := inc64 hil hl
      refine T.regi hm ?_
      simp only [↓reduceIte, namesOf, List.any, I.names, aopsI, astep, ev, setd, List.set, List.getD, List.getElem?_cons_zero, List.getElem?_cons_succ, List.cons_append, List.nil_append, List.replicate, then_normal, Option.getD_some, Bool.or_false, Bool.false_eq_true, up_zero, binv, ↓opt_def, eq_self, hw]
      exact ⟨hil, _, _, Gh.keep [0, 1, 5], rfl, take_all hil hpre (by simp [bytesAV_len] at hb ⊢; omega), rfl⟩
  · refine T.exit ?_
    have : i = l.length := by simp [sps_len] at hb; omega
    subst this
    rw [List.take_length] at hpre
    try simp only [List.cons_append, List.nil_append, List.replicate, then_normal, inBlock_exit, then_exit]
    refine h1 _ _ ?_
    try clear h1 K_h1
    refine T.seq_k (fun K_h1 h1 => ?_)
    refine T.regi hm ?_
    simp only [↓reduceIte, namesOf, List.any, I.names, aopsI, astep, ev, setd, List.set, List.getD, List.getElem?_cons_zero, List.getElem?_cons_succ, then_normal, Option.getD_some, Bool.or_false, Bool.false_eq_true, up_zero, binv, ↓opt_def, eq_self, sps_len]
    refine h1 _ _ ?_
    try clear h1 K_h1
    refine T.ret (Fin.ret rfl ⟨?_, rfl⟩)
    unfold fewB; rw [hpre]; rfl

def total (l : List Tc) : Nat := (l.map fun t => t.sp.length).sum
def fewtB (m : Int) (l : List Tc) : Bool := l.all (fun t => fewB 150 t.sp) && decide (l.length ≤ 100) && decide ((total l : Int) ≤ m)
theorem total_take {l : List Tc} {i : Nat} (h : i < l.length) : total (l.take (i + 1)) = total (l.take i) + l[i].sp.length := by
  unfold total
  rw [List.take_succ_eq_append_getElem h, List.map_append, List.sum_append]; simp
theorem total_le {l : List Tc} : l.all (fun t => fewB 150 t.sp) = true → total l ≤ 150 * l.length := by
  induction l with
  | nil => intro _; simp [total]
  | cons t r ih =>
    intro h
    simp only [List.all_cons, Bool.and_eq_true] at h
    have h1 := ih h.2
    have h2 : t.sp.length ≤ 150 := by have := h.1; unfold fewB at this; simp at this; omega
    unfold total at h1 ⊢
    simp only [List.map_cons, List.sum_cons, List.length_cons]; omega

theorem fewt_ok {l : List Tc} {g : Ver} {m : Int} {σ : St} (hl : l.length ≤ 9223372036854775807) (hs : ∀ t ∈ l, t.sp.length ≤ 9223372036854775807) :
    ACalls Try.prog n_fewt [.sl (tcsAV l) g, .int .i64 m] σ (fun v σ' => v = .bool (fewtB m l) ∧ σ' = σ) := by
  refine s_fewt (fun wf => ?_)
  unfold c_fewt
  refine T.seq_k (fun K_h1 h1 => ?_)
  refine T.regi hm ?_
  simp only [↓reduceIte, namesOf, List.any, I.names, aopsI, astep, ev, setd, List.set, List.cons_append, List.nil_append, List.length_cons, List.length_nil, List.replicate, then_normal, Bool.or_false, Bool.false_eq_true, up_zero, Nat.reduceAdd, Nat.reduceSub]
  refine h1 _ _ ?_
  try clear h1 K_h1
  refine T.seq_k (fun K_h1 h1 => ?_)
  refine T.regi hm ?_
  simp only [↓reduceIte, namesOf, List.any, I.names, aopsI, astep, ev, setd, List.set, then_normal, Bool.or_false, Bool.false_eq_true, up_zero]
  refine h1 _ _ ?_
  try clear h1 K_h1
  refine T.seq_k (fun K_h1 h1 => ?_)
  refine T.seq_k (fun K_h2 h2 => ?_)
  refine T.regi hm ?_
  simp only [↓reduceIte, namesOf, List.any, I.names, aopsI, astep, ev, setd, List.set, then_normal, Bool.or_false, Bool.false_eq_true, up_zero]
  refine h2 _ _ ?_
  try clear h2 K_h2
  refine T.block ?_
  refine T.gh (Gh.keep [0, 1, 5, 6]) ?_
  refine T.loopi (fun i ρ σ' => σ' = σ ∧ (l.take i).all (fun t => fewB 150 t.sp) = true ∧ ∃ n : Int, (i ≤ 100 → n = (total (l.take i) : Int)) ∧ ρ = [.sl (tcsAV l) g, .int .i64 m, .any, .any, .any, .int .i64 n, .int .i64 (i : Int)] ++ List.replicate 31 .any)
    l.length 0 (Nat.zero_le _) ⟨rfl, by simp, 0, by simp [total], rfl⟩ ?_
  rintro i ρ σ' hi ⟨rfl, hpre, n, hn, rfl⟩
  refine T.seq_k (fun K_h2 h2 => ?_)
  refine T.seq_k (fun K_h3 h3 => ?_)
  refine T.regi hm ?_
  simp only [↓reduceIte, namesOf, List.any, I.names, aopsI, astep, ev, setd, List.set, List.getD, List.getElem?_cons_zero, List.getElem?_cons_succ, List.cons_append, List.nil_append, List.replicate, then_normal, Option.getD_some, Bool.or_false, Bool.false_eq_true, up_zero, binv, ↓opt_def, lt_len, eq_self]
  refine h3 _ _ ?_
  try clear h3 K_h3
  refine T.cond rfl (fun hb => ?_) (fun hb => ?_)
  · refine T.skip ?_
    refine h2 _ _ ?_
    try clear h2 K_h2
    have hil : i < l.length := by simpa [tcs_len] using hb
    clear hb
    refine T.seq_k (fun K_h2 h2 => ?_)
    refine T.block ?_
    refine T.seq_k (fun K_h3 h3 => ?_)
    refine T.regi hm ?_
    simp only [↓reduceIte, namesOf, List.any, I.names, aopsI, astep, ev, setd, List.set, List.getD, List.getElem?_cons_zero, List.getElem?_cons_succ, List.cons_append, List.nil_append, List.replicate, then_normal, Option.getD_some, Bool.or_false, Bool.false_eq_true, up_zero, ↓opt_def, AV.cells, ldc, List.map_cons, List.map_nil, Int.natCast_nonneg, lt_len, Int.toNat_natCast, true_and, and_true, decide_true, tcs_len, tcs_get hil, hil]
    refine (few_ok (hs _ (List.getElem_mem hil))).mono ?_
    rintro v σ1 ⟨rfl, rfl⟩
    try simp only [↓reduceIte, namesOf, List.any, I.names, aops, aopsI, aopsT, qstep, CPt, qget, Tbl.get, astep, ev, setd, List.set, List.getD, List.getElem?_cons_zero, List.getElem?_cons_succ, List.getElem?_nil, List.cons_append, List.nil_append, List.length_cons, List.length_nil, List.replicate, then_normal, inBlock_normal, Option.getD_some, Option.getD_none, Bool.or_false, Bool.or_true, Bool.true_or, Bool.false_or, Bool.false_eq_true, if_false, if_true, up_zero, Nat.reduceAdd, Nat.reduceSub, binv, ↓opt_def, AV.isAny, AV.cells, ldc, List.map_cons, List.map_nil, St.set_next, St.set_same, St.up_next, Int.natCast_nonneg, lt_len, le_len, Int.toNat_natCast, true_and, and_true, eq_self, reduceCtorEq, decide_true, List.length_singleton, er_int, er_bool, er_str, up_zero]
    refine h3 _ _ ?_
    try clear h3 K_h3
    refine T.seq_k (fun K_h3 h3 => ?_)
    refine T.seq_k (fun K_h4 h4 => ?_)
    refine T.regi hm ?_
    simp only [↓reduceIte, namesOf, List.any, I.names, aopsI, astep, ev, setd, List.set, List.getD, List.getElem?_cons_zero, List.getElem?_cons_succ, List.cons_append, List.nil_append, List.replicate, then_normal, Option.getD_some, Bool.or_false, Bool.false_eq_true, up_zero]
    refine h4 _ _ ?_
    try clear h4 K_h4
    refine T.cond rfl (fun hb => ?_) (fun hb => ?_)
    · refine T.seq_k (fun K_h4 h4 => ?_)
      refine T.regi hm ?_
      simp only [↓reduceIte, namesOf, List.any, I.names, aopsI, astep, ev, setd, List.set, List.cons_append, List.nil_append, List.replicate, then_normal, Bool.or_false, Bool.false_eq_true, up_zero]
      refine h4 _ _ ?_
      try clear h4 K_h4
      refine T.ret (Fin.ret rfl ⟨?_, rfl⟩)
      have : fewtB m l = false := by
        unfold fewtB
        rw [all_ff hil (by simpa using hb)]; rfl
      rw [this]; rfl
    · refine T.skip ?_
      refine h3 _ _ ?_
      try clear h3 K_h3
      have hfw : fewB 150 l[i].sp = true := by simpa using hb
      have h150 : l[i].sp.length ≤ 150 := by have := hfw; unfold fewB at this; simp at this; omega
      have hw := inc64 hil hl
      refine T.regi hm ?_
      simp only [↓reduceIte, namesOf, List.any, I.names, aopsI, astep, ev, setd, List.set, List.getD, List.getElem?_cons_zero, List.getElem?_cons_succ, List.cons_append, List.nil_append, List.replicate, then_normal, inBlock_normal, Option.getD_some, Bool.or_false, Bool.false_eq_true, up_zero, binv, ↓opt_def, AV.cells, ldc, Int.natCast_nonneg, lt_len, Int.toNat_natCast, true_and, and_true, eq_self, tcs_len, tcs_get hil, hil]
      refine h2 _ _ ?_
      try clear h2 K_h2
      refine T.regi hm ?_
      simp only [↓reduceIte, namesOf, List.any, I.names, aopsI, astep, ev, setd, List.set, List.getD, List.getElem?_cons_zero, List.getElem?_cons_succ, List.cons_append, List.nil_append, List.replicate, then_normal, Option.getD_some, Bool.or_false, Bool.false_eq_true, up_zero, binv, ↓opt_def, eq_self, hw]
      have hall := take_all (p := fun t : Tc => fewB 150 t.sp) hil hpre hfw
      refine ⟨hil, _, _, Gh.keep [0, 1, 5, 6], rfl, hall, _, fun h100 => ?_, rfl⟩
      have h1 := total_le hall
      have h2 := total_take hil
      have h3 : (l.take (i + 1)).length ≤ 101 := by rw [List.length_take]; omega
      rw [hn (by omega), List.length_map, wrap64 (by omega) (by omega), h2]; rfl
  · refine T.exit ?_
    have : i = l.length := by simp [tcs_len] at hb; omega
    subst this
    rw [List.take_length] at hpre hn
    try simp only [List.cons_append, List.nil_append, List.replicate, then_normal, inBlock_exit, then_exit]
    refine h1 _ _ ?_
    try clear h1 K_h1
    refine T.seq_k (fun K_h1 h1 => ?_)
    by_cases h100 : l.length ≤ 100
    · have e1 : decide ((l.length : Int) ≤ 100) = true := decide_eq_true (by omega)
      refine T.regi hm ?_
      simp only [↓reduceIte, namesOf, List.any, I.names, aopsI, astep, ev, setd, List.set, List.getD, List.getElem?_cons_zero, List.getElem?_cons_succ, then_normal, Option.getD_some, Bool.or_false, Bool.false_eq_true, up_zero, binv, ↓opt_def, eq_self, tcs_len, e1]
      refine h1 _ _ ?_
      try clear h1 K_h1
      refine T.ret (Fin.ret rfl ⟨?_, rfl⟩)
      unfold fewtB; rw [hpre, hn h100, decide_eq_true h100]; rfl
    · have e1 : decide ((l.length : Int) ≤ 100) = false := decide_eq_false (by omega)
      refine T.regi hm ?_
      simp only [↓reduceIte, namesOf, List.any, I.names, aopsI, astep, ev, setd, List.set, List.getD, List.getElem?_cons_zero, List.getElem?_cons_succ, then_normal, Option.getD_some, Bool.or_false, Bool.false_eq_true, up_zero, binv, ↓opt_def, eq_self, tcs_len, e1]
      refine h1 _ _ ?_
      try clear h1 K_h1
      refine T.ret (Fin.ret rfl ⟨?_, rfl⟩)
      unfold fewtB; rw [hpre, decide_eq_false h100]; rfl
end Go.VL
