/- Contracts: the document's opening; rising numbers; an error's number. -/
import Derived.Test.YtlbnimbgodmagaaVpF
namespace Go.VL
open Go.Proofs

theorem ropen_ok {l : List UInt8} {g : Ver} {σ : St} (hl : l.length ≤ 1099511627776) : ACalls Try.prog n_ropen [.sl (bytesAV l) g] σ (fun v σ' => v = .tup [.sl (bytesAV (openB l).2) .none, .int .i64 (openB l).1] ∧ σ' = σ) := by
  refine s_ropen (fun wf => ?_)
  unfold c_ropen
  refine T.seq_k (fun K_h1 h1 => ?_)
  refine T.regi hm ?_
  simp only [↓reduceIte, namesOf, List.any, I.names, aopsI, astep, ev, setd, List.set, List.cons_append, List.nil_append, List.length_cons, List.length_nil, List.replicate, then_normal, Bool.or_false, Bool.false_eq_true, up_zero, Nat.reduceAdd, Nat.reduceSub]
  refine h1 _ _ ?_
  try clear h1 K_h1
  refine T.seq_k (fun K_h1 h1 => ?_)
  have e1 : IntKind.i64.wrap ((l.length : Int) - 4) = (l.length : Int) - 4 := wrap64 (by omega) (by omega)
  refine T.regi hm ?_
  simp only [↓reduceIte, namesOf, List.any, I.names, aopsI, astep, ev, setd, List.set, List.getD, List.getElem?_cons_zero, List.getElem?_cons_succ, then_normal, Option.getD_some, Bool.or_false, Bool.false_eq_true, up_zero, binv, ↓opt_def, eq_self, bytesAV_len, e1]
  refine h1 _ _ ?_
  try clear h1 K_h1
  refine T.seq_k (fun K_h1 h1 => ?_)
  refine T.seq_k (fun K_h2 h2 => ?_)
  refine T.regi hm ?_
  simp only [↓reduceIte, namesOf, List.any, I.names, aopsI, astep, ev, setd, List.set, List.getD, List.getElem?_cons_zero, List.getElem?_cons_succ, then_normal, Option.getD_some, Bool.or_false, Bool.false_eq_true, up_zero, binv, ↓opt_def, eq_self]
  refine h2 _ _ ?_
  try clear h2 K_h2
  refine T.cond rfl (fun hb => ?_) (fun hb => ?_)
  · have hlt : l.length < 4 := by simp at hb; omega
    have e2 : openB l = (2, []) := by unfold openB; rw [if_pos hlt]
    refine T.seq_k (fun K_h2 h2 => ?_)
    refine T.regi hm ?_
    simp only [↓reduceIte, namesOf, List.any, I.names, aopsI, astep, ev, setd, List.set, then_normal, Bool.or_false, Bool.false_eq_true, up_zero]
    refine h2 _ _ ?_
    try clear h2 K_h2
    exact T.ret (Fin.quietw rfl (Wk.tup2 (Wk.sl _ _)) ⟨⟨trivial, trivial⟩, trivial, trivial⟩ (fun _ _ h => h) ⟨by rw [e2]; rfl, rfl⟩)
  · obtain ⟨n, hn⟩ : ∃ n, l.length = n + 4 := ⟨l.length - 4, by simp at hb; omega⟩
    have e2 : (l.length : Int) - 4 = (n : Int) := by omega
    have e3 : (n : Int) ≤ (((bytesAV l).length : Nat) : Int) := by rw [bytesAV_len]; omega
    have e4 : ¬ ((n : Int) = (((bytesAV l).length : Nat) : Int)) := by rw [bytesAV_len]; omega
    rw [e2]
    clear hb
    refine T.skip ?_
    refine h1 _ _ ?_
    try clear h1 K_h1
    refine T.seq_k (fun K_h1 h1 => ?_)
    refine T.seq_k (fun K_h2 h2 => ?_)
    refine T.regi hm ?_
    simp only [↓reduceIte, namesOf, List.any, I.names, aopsI, astep, ev, setd, List.set, List.getD, List.getElem?_cons_zero, List.getElem?_cons_succ, then_normal, Option.getD_some, Bool.or_false, Bool.false_eq_true, up_zero, ↓opt_def, List.map_cons, List.map_nil, Int.natCast_nonneg, Int.toNat_natCast, and_true, eq_self, idx, e3, e4, bytes_all, Int.sub_zero, List.drop_zero, bytes_take, Int.toNat_zero, false_and, Int.le_refl]
    have hlt : (l.take n).length ≤ 1099511627776 := by rw [List.length_take]; omega
    refine ⟨_, rseal_q hlt, ?_⟩
    try simp only [toBytes_bytes, sbinv, ba_eq]
    refine h2 _ _ ?_
    try clear h2 K_h2
    have e5 : l.take (l.length - 4) = l.take n := by rw [hn]; rfl
    by_cases he : sealB (l.take n) = l
    · refine T.cond rfl (fun hb => by simp at hb; exact absurd he hb) (fun hb => ?_)
      have e6 : openB l = (0, l.take n) := by unfold openB; rw [if_neg (by omega), e5, if_pos he.symm]
      refine T.skip ?_
      refine h1 _ _ ?_
      try clear h1 K_h1
      refine T.seq_k (fun K_h1 h1 => ?_)
      refine T.regi hm ?_
      simp only [↓reduceIte, namesOf, List.any, I.names, aopsI, astep, ev, setd, List.set, List.getD, List.getElem?_cons_zero, List.getElem?_cons_succ, then_normal, Option.getD_some, Bool.or_false, Bool.false_eq_true, up_zero, Int.natCast_nonneg, Int.toNat_natCast, and_true, eq_self, idx, e3, e4, bytes_all, Int.sub_zero, List.drop_zero, bytes_take, Int.toNat_zero, false_and, Int.le_refl]
      refine h1 _ _ ?_
      try clear h1 K_h1
      exact T.ret (Fin.ret rfl ⟨by rw [e6]; rfl, rfl⟩)
    · refine T.cond rfl (fun hb => ?_) (fun hb => by simp at hb; exact absurd hb he)
      have e6 : openB l = (7, []) := by unfold openB; rw [if_neg (by omega), e5, if_neg (fun h => he h.symm)]
      refine T.seq_k (fun K_h2 h2 => ?_)
      refine T.regi hm ?_
      simp only [↓reduceIte, namesOf, List.any, I.names, aopsI, astep, ev, setd, List.set, then_normal, Bool.or_false, Bool.false_eq_true, up_zero]
      refine h2 _ _ ?_
      try clear h2 K_h2
      exact T.ret (Fin.quietw rfl (Wk.tup2 (Wk.sl _ _)) ⟨⟨trivial, trivial⟩, trivial, trivial⟩ (fun _ _ h => h) ⟨by rw [e6]; rfl, rfl⟩)

/-- rising, and no more than 200 -/
def Up (l : List Int) : Prop := ∀ i, (h : i + 1 < l.length) → l[i]'(by omega) < l[i + 1]
noncomputable def risesB (l : List Int) : Bool := decide (l.length ≤ 200) && @decide (Up l) (Classical.propDecidable _)
theorem risesB_no {l : List Int} (h : ¬ Up l) : risesB l = false := by unfold risesB; simp [h]
theorem risesB_up {l : List Int} (h : Up l) : risesB l = decide (l.length ≤ 200) := by unfold risesB; simp [h]

theorem rrises_ok {l : List Int} {g : Ver} {σ : St} (hl : l.length ≤ 1099511627776) : ACalls Try.prog n_rrises [.sl (nums .u64 l) g] σ (fun v σ' => v = .bool (risesB l) ∧ σ' = σ) := by
  refine s_rrises (fun wf => ?_)
  unfold c_rrises
  refine T.seq_k (fun K_h1 h1 => ?_)
  refine T.regi hm ?_
  simp only [↓reduceIte, namesOf, List.any, I.names, aopsI, astep, ev, setd, List.set, List.cons_append, List.nil_append, List.length_cons, List.length_nil, List.replicate, then_normal, Bool.or_false, Bool.false_eq_true, up_zero, Nat.reduceAdd, Nat.reduceSub]
  refine h1 _ _ ?_
  try clear h1 K_h1
  refine T.seq_k (fun K_h1 h1 => ?_)
  refine T.seq_k (fun K_h2 h2 => ?_)
  refine T.regi hm ?_
  simp only [↓reduceIte, namesOf, List.any, I.names, aopsI, astep, ev, setd, List.set, then_normal, Bool.or_false, Bool.false_eq_true, up_zero]
  refine h2 _ _ ?_
  try clear h2 K_h2
  refine T.block ?_
  refine T.gh (Gh.keep [0, 3]) ?_
  refine T.loop (fun ρ σ' => σ' = σ ∧ ∃ (i : Nat), 1 ≤ i ∧ (i ≤ l.length ∨ i = 1) ∧ (∀ j, (h : j + 1 < l.length) → j + 1 < i → l[j]'(by omega) < l[j + 1]) ∧ ρ = [.sl (nums .u64 l) g, .any, .any, .int .i64 (i : Int)] ++ List.replicate 19 .any)
    (fun ρ _ => match ρ.getD 3 .any with | .int _ m => (l.length - m).toNat | _ => 0) ⟨rfl, 1, Nat.le_refl _, .inr rfl, fun j h1 h2 => by omega, rfl⟩ ?_
  rintro ρ σ' ⟨rfl, i, hi1, hi, hup, rfl⟩
  refine T.seq_k (fun K_h2 h2 => ?_)
  refine T.seq_k (fun K_h3 h3 => ?_)
  refine T.regi hm ?_
  simp only [↓reduceIte, namesOf, List.any, I.names, aopsI, astep, ev, setd, List.set, List.getD, List.getElem?_cons_zero, List.getElem?_cons_succ, List.cons_append, List.nil_append, List.replicate, then_normal, Option.getD_some, Bool.or_false, Bool.false_eq_true, up_zero, binv, ↓opt_def, lt_len, eq_self]
  refine h3 _ _ ?_
  try clear h3 K_h3
  refine T.cond rfl (fun hb => ?_) (fun hb => ?_)
  · refine T.skip ?_
    refine h2 _ _ ?_
    try clear h2 K_h2
    have hil : i < l.length := by simp [nums_len] at hb; omega
    clear hb
    obtain ⟨i, rfl⟩ : ∃ j, i = j + 1 := ⟨i - 1, by omega⟩
    have e1 : IntKind.i64.wrap (((i + 1 : Nat) : Int) - 1) = (i : Int) := by rw [wrap64 (by omega) (by omega)]; omega
    have hil' : i < l.length := by omega
    refine T.seq_k (fun K_h2 h2 => ?_)
    refine T.block ?_
    refine T.seq_k (fun K_h3 h3 => ?_)
    refine T.regi hm ?_
    simp only [↓reduceIte, namesOf, List.any, I.names, aopsI, astep, ev, setd, List.set, List.getD, List.getElem?_cons_zero, List.getElem?_cons_succ, List.cons_append, List.nil_append, List.length_cons, List.length_nil, List.replicate, then_normal, Option.getD_some, Bool.or_false, Bool.false_eq_true, up_zero, Nat.reduceAdd, binv, ↓opt_def, AV.cells, ldc, Int.natCast_nonneg, lt_len, Int.toNat_natCast, and_true, eq_self, decide_true, nums_len, nums_get .u64 hil, nums_get .u64 hil', hil, hil', e1]
    refine h3 _ _ ?_
    try clear h3 K_h3
    refine T.cond rfl (fun hb => ?_) (fun hb => ?_)
    · refine T.seq_k (fun K_h3 h3 => ?_)
      refine T.regi hm ?_
      simp only [↓reduceIte, namesOf, List.any, I.names, aopsI, astep, ev, setd, List.set, List.getD, List.getElem?_cons_zero, List.getElem?_cons_succ, List.cons_append, List.nil_append, List.replicate, then_normal, Option.getD_some, Bool.or_false, Bool.false_eq_true, up_zero]
      refine h3 _ _ ?_
      try clear h3 K_h3
      refine T.ret (Fin.ret rfl ⟨?_, rfl⟩)
      have hle : l[i + 1] ≤ l[i] := by simpa using hb
      have : risesB l = false := risesB_no (fun h => by have := h i hil; omega)
      rw [this]; rfl
    · refine T.skip ?_
      refine h2 _ _ ?_
      try clear h2 K_h2
      have hlt : l[i] < l[i + 1] := by simp at hb; exact hb
      have e2 : IntKind.i64.wrap (((i + 1 : Nat) : Int) + 1) = ((i + 1 + 1 : Nat) : Int) := by rw [wrap64 (by omega) (by omega)]; omega
      refine T.regi hm ?_
      simp only [↓reduceIte, namesOf, List.any, I.names, aopsI, astep, ev, setd, List.set, List.getD, List.getElem?_cons_zero, List.getElem?_cons_succ, List.cons_append, List.nil_append, List.replicate, then_normal, Option.getD_some, Bool.or_false, Bool.false_eq_true, up_zero, binv, ↓opt_def, eq_self, e2]
      refine ⟨_, _, Gh.keep [0, 3], ⟨rfl, i + 1 + 1, by omega, .inl (by omega), fun j h1 h2 => ?_, rfl⟩, ?_⟩
      · by_cases hji : j = i
        · subst hji; exact hlt
        · exact hup j h1 (by omega)
      · show ((l.length : Int) - ((i + 1 + 1 : Nat) : Int)).toNat < ((l.length : Int) - ((i + 1 : Nat) : Int)).toNat
        omega
  · refine T.exit ?_
    have hge : l.length ≤ i := by simp [nums_len] at hb; omega
    try simp only [List.getD, List.getElem?_cons_zero, List.getElem?_cons_succ, List.cons_append, List.nil_append, List.replicate, then_normal, Option.getD_some, inBlock_exit, then_exit]
    refine h1 _ _ ?_
    try clear h1 K_h1
    refine T.seq_k (fun K_h1 h1 => ?_)
    refine T.regi hm ?_
    simp only [↓reduceIte, namesOf, List.any, I.names, aopsI, astep, ev, setd, List.set, List.getD, List.getElem?_cons_zero, List.getElem?_cons_succ, then_normal, Option.getD_some, Bool.or_false, Bool.false_eq_true, up_zero, binv, ↓opt_def, eq_self, nums_len]
    refine h1 _ _ ?_
    try clear h1 K_h1
    refine T.ret (Fin.ret rfl ⟨?_, rfl⟩)
    have : risesB l = decide ((l.length : Int) ≤ 200) := by
      rw [risesB_up (fun j h => hup j h (by omega)), decide_eq_decide]; omega
    rw [this]; rfl

set_option maxHeartbeats 1000000 in
theorem rises_ok {l : List Int} {g : Ver} {σ : St} (hl : l.length ≤ 1099511627776) : ACalls Try.prog n_rises [.sl (nums .u64 l) g] σ (fun v σ' => v = .bool (risesB l) ∧ σ' = σ) := by
  refine s_rises (fun wf => ?_)
  unfold c_rises
  refine T.seq_k (fun K_h1 h1 => ?_)
  refine T.regi hm ?_
  simp only [↓reduceIte, namesOf, List.any, I.names, aopsI, astep, ev, setd, List.set, List.cons_append, List.nil_append, List.length_cons, List.length_nil, List.replicate, then_normal, Bool.or_false, Bool.false_eq_true, up_zero, Nat.reduceAdd, Nat.reduceSub]
  refine h1 _ _ ?_
  try clear h1 K_h1
  refine T.seq_k (fun K_h1 h1 => ?_)
  refine T.seq_k (fun K_h2 h2 => ?_)
  refine T.regi hm ?_
  simp only [↓reduceIte, namesOf, List.any, I.names, aopsI, astep, ev, setd, List.set, List.getD, List.getElem?_cons_zero, List.getElem?_cons_succ, then_normal, Option.getD_some, Bool.or_false, Bool.false_eq_true, up_zero, nums_len]
  refine h2 _ _ ?_
  try clear h2 K_h2
  refine T.block ?_
  refine T.gh (Gh.keep [0, 4, 5, 6]) ?_
  refine T.loop (fun ρ σ' => σ' = σ ∧ ∃ (i : Nat), i ≤ l.length ∧ (∀ j, (h : j + 1 < l.length) → j + 1 < i → l[j]'(by omega) < l[j + 1]) ∧ ρ = [.sl (nums .u64 l) g, .any, .any, .any, .sl (nums .u64 l) g, .int .i64 (l.length : Int), .int .i64 (i : Int)] ++ List.replicate 20 .any)
    (fun ρ _ => match ρ.getD 6 .any with | .int _ m => (l.length - m).toNat | _ => 0) ⟨rfl, 0, Nat.zero_le _, fun j h1 h2 => by omega, rfl⟩ ?_
  rintro ρ σ' ⟨rfl, i, hi, hup, rfl⟩
  refine T.seq_k (fun K_h2 h2 => ?_)
  refine T.regi hm ?_
  simp only [↓reduceIte, namesOf, List.any, I.names, aopsI, astep, ev, setd, List.set, List.getD, List.getElem?_cons_zero, List.getElem?_cons_succ, List.cons_append, List.nil_append, List.replicate, then_normal, Option.getD_some, Bool.or_false, Bool.false_eq_true, up_zero, binv, ↓opt_def, lt_len, eq_self]
  refine h2 _ _ ?_
  try clear h2 K_h2
  refine T.seq_k (fun K_h2 h2 => ?_)
  refine T.cond rfl (fun hb => ?_) (fun hb => ?_)
  · refine T.skip ?_
    refine h2 _ _ ?_
    try clear h2 K_h2
    have hil : i < l.length := by simp at hb; omega
    clear hb
    have e2 : IntKind.i64.wrap ((i : Int) + 1) = ((i + 1 : Nat) : Int) := by rw [wrap64 (by omega) (by omega)]; omega
    refine T.seq_k (fun K_h2 h2 => ?_)
    have hstep : (∀ j, (h : j + 1 < l.length) → j + 1 < i + 1 → l[j]'(by omega) < l[j + 1]) → ∀ (ρ : List AV), keep [0, 4, 5, 6] 0 ρ = [.sl (nums .u64 l) g, .any, .any, .any, .sl (nums .u64 l) g, .int .i64 (l.length : Int), .int .i64 (i : Int)] ++ List.replicate 20 .any → K_h2 ρ σ' := by
      intro hup' ρ hρ
      refine h2 _ _ (T.gh (Gh.keep [0, 4, 5, 6]) ?_)
      rw [hρ]
      refine T.regi hm ?_
      simp only [↓reduceIte, namesOf, List.any, I.names, aopsI, astep, ev, setd, List.set, List.getD, List.getElem?_cons_zero, List.getElem?_cons_succ, List.cons_append, List.nil_append, List.replicate, then_normal, Option.getD_some, Bool.or_false, Bool.false_eq_true, up_zero, binv, ↓opt_def, eq_self, e2]
      refine ⟨_, _, Gh.keep [0, 4, 5, 6], ⟨rfl, i + 1, by omega, hup', rfl⟩, ?_⟩
      show ((l.length : Int) - ((i + 1 : Nat) : Int)).toNat < ((l.length : Int) - (i : Int)).toNat
      omega
    refine T.block ?_
    refine T.seq_k (fun K_h3 h3 => ?_)
    refine T.regi hm ?_
    simp only [↓reduceIte, namesOf, List.any, I.names, aopsI, astep, ev, setd, List.set, List.getD, List.getElem?_cons_zero, List.getElem?_cons_succ, List.cons_append, List.nil_append, List.replicate, then_normal, Option.getD_some, Bool.or_false, Bool.false_eq_true, up_zero]
    refine h3 _ _ ?_
    try clear h3 K_h3
    refine T.seq_k (fun K_h3 h3 => ?_)
    by_cases h0 : i = 0
    · subst h0
      have e3 : decide ((((0 : Nat) : Int)) > 0) = false := by decide
      refine T.regi hm ?_
      simp only [↓reduceIte, namesOf, List.any, I.names, aopsI, astep, ev, setd, List.set, List.getD, List.getElem?_cons_zero, List.getElem?_cons_succ, List.cons_append, List.nil_append, List.replicate, then_normal, Option.getD_some, Bool.or_false, Bool.false_eq_true, up_zero, binv, ↓opt_def, eq_self, e3]
      refine h3 _ _ ?_
      try clear h3 K_h3
      refine T.cond rfl (fun hb => by cases hb) (fun hb => ?_)
      refine T.skip ?_
      refine hstep (fun j h1 h2 => by omega) _ rfl
    · obtain ⟨i, rfl⟩ : ∃ j, i = j + 1 := ⟨i - 1, by omega⟩
      have e3 : decide ((((i + 1 : Nat) : Int)) > 0) = true := decide_eq_true (by omega)
      have e1 : IntKind.i64.wrap (((i + 1 : Nat) : Int) - 1) = (i : Int) := by rw [wrap64 (by omega) (by omega)]; omega
      have hil' : i < l.length := by omega
      refine T.regi hm ?_
      simp only [↓reduceIte, namesOf, List.any, I.names, aopsI, astep, ev, setd, List.set, List.getD, List.getElem?_cons_zero, List.getElem?_cons_succ, List.cons_append, List.nil_append, List.length_cons, List.length_nil, List.replicate, then_normal, Option.getD_some, Bool.or_false, Bool.false_eq_true, up_zero, Nat.reduceAdd, binv, ↓opt_def, AV.cells, ldc, Int.natCast_nonneg, lt_len, Int.toNat_natCast, and_true, eq_self, decide_true, e3, e1, nums_len, nums_get .u64 hil, nums_get .u64 hil', hil, hil']
      refine h3 _ _ ?_
      try clear h3 K_h3
      refine T.cond rfl (fun hb => ?_) (fun hb => ?_)
      · refine T.seq_k (fun K_h3 h3 => ?_)
        refine T.regi hm ?_
        simp only [↓reduceIte, namesOf, List.any, I.names, aopsI, astep, ev, setd, List.set, List.getD, List.getElem?_cons_zero, List.getElem?_cons_succ, List.cons_append, List.nil_append, List.replicate, then_normal, Option.getD_some, Bool.or_false, Bool.false_eq_true, up_zero]
        refine h3 _ _ ?_
        try clear h3 K_h3
        refine T.ret (Fin.ret rfl ⟨?_, rfl⟩)
        have hle : l[i] ≥ l[i + 1] := by simpa using hb
        have : risesB l = false := risesB_no (fun h => by have := h i hil; omega)
        rw [this]; rfl
      · refine T.skip ?_
        have hlt : l[i] < l[i + 1] := by simp at hb; exact hb
        refine hstep (fun j h1 h2 => ?_) _ rfl
        by_cases hji : j = i
        · subst hji; exact hlt
        · exact hup j h1 (by omega)
  · refine T.exit ?_
    have hge : i = l.length := by simp at hb; omega
    try simp only [List.getD, List.getElem?_cons_zero, List.getElem?_cons_succ, List.cons_append, List.nil_append, List.replicate, then_normal, Option.getD_some, inBlock_exit, then_exit]
    refine h1 _ _ ?_
    try clear h1 K_h1
    refine T.seq_k (fun K_h1 h1 => ?_)
    refine T.regi hm ?_
    simp only [↓reduceIte, namesOf, List.any, I.names, aopsI, astep, ev, setd, List.set, List.getD, List.getElem?_cons_zero, List.getElem?_cons_succ, then_normal, Option.getD_some, Bool.or_false, Bool.false_eq_true, up_zero, binv, ↓opt_def, eq_self, nums_len]
    refine h1 _ _ ?_
    try clear h1 K_h1
    refine T.ret (Fin.ret rfl ⟨?_, rfl⟩)
    have : risesB l = decide ((l.length : Int) ≤ 200) := by
      rw [risesB_up (fun j h => hup j h (by omega)), decide_eq_decide]; omega
    rw [this]; rfl
end Go.VL
