/- The law IndexFinds, walked. -/
import Derived.Test.YtlbnimbgodmagaaVrF
namespace Go.VL
open Go.Proofs

theorem small_facts {l : List (List Tc)} (h : smallB l = true) : l.length ≤ 300 ∧ l.flatten.length ≤ 300 ∧ ∀ p ∈ l, ∀ t ∈ p, t.sp.length ≤ 150 := by
  unfold smallB at h
  simp only [Bool.and_eq_true, decide_eq_true_eq] at h
  obtain ⟨⟨h1, h2⟩, h3⟩ := h
  refine ⟨h2, by rw [← totalP_flat]; exact h3, fun p hp t ht => ?_⟩
  have h4 := List.all_eq_true.1 h1 p hp
  unfold fewtB at h4
  simp only [Bool.and_eq_true] at h4
  have h5 := List.all_eq_true.1 h4.1.1 t ht
  unfold fewB at h5
  simp only [Bool.and_eq_true, decide_eq_true_eq] at h5
  omega

/-- pages whose numbers fit -/
def PgOk (l : List (List Tc)) : Prop := l.length ≤ 9223372036854775807 ∧ ∀ p ∈ l, p.length ≤ 9223372036854775807 ∧ ∀ t ∈ p, t.id < 18446744073709551616 ∧ t.sp.length ≤ 9223372036854775807

set_option maxRecDepth 10000 in
set_option maxHeartbeats 2000000 in
theorem indexFinds_ok {l : List (List Tc)} {g : Ver} {σ : St} (hl : PgOk l) :
    ACalls Try.prog n_indexFinds [.sl (pgsAV l) g] σ (fun v σ' => v = .bool true ∧ σ' = σ) := by
  refine s_indexFinds (fun wf => ?_)
  unfold c_indexFinds
  refine T.seq_k (fun K_h1 h1 => ?_)
  refine T.regi hm ?_
  simp only [↓reduceIte, namesOf, List.any, I.names, aopsI, astep, ev, setd, List.set, List.cons_append, List.nil_append, List.length_cons, List.length_nil, List.replicate, then_normal, Bool.or_false, Bool.false_eq_true, up_zero, Nat.reduceAdd, Nat.reduceSub]
  refine h1 _ _ ?_
  try clear h1 K_h1
  refine T.seq_k (fun K_h1 h1 => ?_)
  refine T.regi hm ?_
  simp only [↓reduceIte, namesOf, List.any, I.names, aopsI, astep, ev, setd, List.set, List.getD, List.getElem?_cons_zero, List.getElem?_cons_succ, then_normal, Option.getD_some, Bool.or_false, Bool.false_eq_true, up_zero, List.map_nil]
  refine up12_ok.mono ?_
  rintro v σ1 ⟨rfl, rfl⟩
  try simp only [↓reduceIte, namesOf, List.any, I.names, aops, aopsI, aopsT, qstep, CPt, qget, Tbl.get, astep, ev, setd, List.set, List.getD, List.getElem?_cons_zero, List.getElem?_cons_succ, List.getElem?_nil, List.cons_append, List.nil_append, List.length_cons, List.length_nil, List.replicate, then_normal, inBlock_normal, Option.getD_some, Option.getD_none, Bool.or_false, Bool.or_true, Bool.true_or, Bool.false_or, Bool.false_eq_true, if_false, if_true, up_zero, Nat.reduceAdd, Nat.reduceSub, binv, ↓opt_def, AV.isAny, AV.cells, ldc, List.map_cons, List.map_nil, St.set_next, St.set_same, St.up_next, Int.natCast_nonneg, lt_len, le_len, Int.toNat_natCast, true_and, and_true, eq_self, reduceCtorEq, decide_true, List.length_singleton, er_int, er_bool, er_str, up_zero]
  refine h1 _ _ ?_
  try clear h1 K_h1
  refine T.seq_k (fun K_h1 h1 => ?_)
  refine T.regi hm ?_
  simp only [↓reduceIte, namesOf, List.any, I.names, aopsI, astep, ev, setd, List.set, List.getD, List.getElem?_cons_zero, List.getElem?_cons_succ, then_normal, Option.getD_some, Bool.or_false, Bool.false_eq_true, up_zero, List.map_cons, List.map_nil]
  refine (small_ok hl.1 (fun p hp => ⟨(hl.2 p hp).1, fun t ht => ((hl.2 p hp).2 t ht).2⟩)).mono ?_
  rintro v σ2 ⟨rfl, rfl⟩
  try simp only [↓reduceIte, namesOf, List.any, I.names, aops, aopsI, aopsT, qstep, CPt, qget, Tbl.get, astep, ev, setd, List.set, List.getD, List.getElem?_cons_zero, List.getElem?_cons_succ, List.getElem?_nil, List.cons_append, List.nil_append, List.length_cons, List.length_nil, List.replicate, then_normal, inBlock_normal, Option.getD_some, Option.getD_none, Bool.or_false, Bool.or_true, Bool.true_or, Bool.false_or, Bool.false_eq_true, if_false, if_true, up_zero, Nat.reduceAdd, Nat.reduceSub, binv, ↓opt_def, AV.isAny, AV.cells, ldc, List.map_cons, List.map_nil, St.set_next, St.set_same, St.up_next, Int.natCast_nonneg, lt_len, le_len, Int.toNat_natCast, true_and, and_true, eq_self, reduceCtorEq, decide_true, List.length_singleton, er_int, er_bool, er_str, up_zero]
  refine h1 _ _ ?_
  try clear h1 K_h1
  refine T.seq_k (fun K_h1 h1 => ?_)
  refine T.seq_k (fun K_h2 h2 => ?_)
  refine T.regi hm ?_
  simp only [↓reduceIte, namesOf, List.any, I.names, aopsI, astep, ev, setd, List.set, List.getD, List.getElem?_cons_zero, List.getElem?_cons_succ, then_normal, Option.getD_some, Bool.or_false, Bool.false_eq_true, up_zero]
  refine h2 _ _ ?_
  try clear h2 K_h2
  cases hsm : smallB l with
  | false =>
    refine T.cond rfl (fun _ => ?_) (fun h => by simp at h)
    refine T.seq_k (fun K_h2 h2 => ?_)
    refine T.regi hm ?_
    simp only [↓reduceIte, namesOf, List.any, I.names, aopsI, astep, ev, setd, List.set, List.getD, List.getElem?_cons_zero, List.getElem?_cons_succ, then_normal, Option.getD_some, Bool.or_false, Bool.false_eq_true, up_zero]
    refine h2 _ _ ?_
    try clear h2 K_h2
    exact T.ret (Fin.ret rfl ⟨rfl, rfl⟩)
  | true =>
  refine T.cond rfl (fun h => by simp at h) (fun _ => T.skip ?_)
  refine h1 _ _ ?_
  try clear h1 K_h1
  obtain ⟨h300, hf300, hsp⟩ := small_facts hsm
  refine T.seq_k (fun K_h1 h1 => ?_)
  refine T.regi hm ?_
  simp only [↓reduceIte, namesOf, List.any, I.names, aopsI, astep, ev, setd, List.set, List.getD, List.getElem?_cons_zero, List.getElem?_cons_succ, then_normal, Option.getD_some, Bool.or_false, Bool.false_eq_true, up_zero, ↓opt_def, List.map_cons, List.map_nil]
  refine (iof_ok (by omega) (by omega) (fun p hp t ht => by have := hsp p hp t ht; omega)).mono ?_
  rintro v σ3 ⟨rfl, rfl⟩
  cases hof : ofB l with
  | false =>
    rw [if_neg (by simp), errAV_eq 1 (by omega)]
    try simp only [List.getElem?_cons_zero, List.getElem?_cons_succ]
    refine h1 _ _ ?_
    try clear h1 K_h1
    refine T.seq_k (fun K_h1 h1 => ?_)
    refine T.seq_k (fun K_h2 h2 => ?_)
    refine T.regi hm ?_
    simp only [↓reduceIte, namesOf, List.any, I.names, aopsI, astep, ev, setd, List.set, List.getD, List.getElem?_cons_zero, List.getElem?_cons_succ, then_normal, Option.getD_some, Bool.or_false, Bool.false_eq_true, up_zero, eqIv, Bool.bne_true, Bool.not_false]
    refine h2 _ _ ?_
    try clear h2 K_h2
    refine T.cond rfl (fun _ => ?_) (fun h => by cases h)
    refine T.seq_k (fun K_h2 h2 => ?_)
    refine T.regi hm ?_
    simp only [↓reduceIte, namesOf, List.any, I.names, aopsI, astep, ev, setd, List.set, List.getD, List.getElem?_cons_zero, List.getElem?_cons_succ, then_normal, Option.getD_some, Bool.or_false, Bool.false_eq_true, up_zero]
    refine h2 _ _ ?_
    try clear h2 K_h2
    exact T.ret (Fin.ret rfl ⟨rfl, rfl⟩)
  | true =>
  rw [if_pos rfl]
  try simp only [List.getElem?_cons_zero, List.getElem?_cons_succ]
  refine h1 _ _ ?_
  try clear h1 K_h1
  refine T.seq_k (fun K_h1 h1 => ?_)
  refine T.seq_k (fun K_h2 h2 => ?_)
  refine T.regi hm ?_
  simp only [↓reduceIte, namesOf, List.any, I.names, aopsI, astep, ev, setd, List.set, List.getD, List.getElem?_cons_zero, List.getElem?_cons_succ, then_normal, Option.getD_some, Bool.or_false, Bool.false_eq_true, up_zero, eq_self, eqIv, bne_self_eq_false, Bool.not_true]
  refine h2 _ _ ?_
  try clear h2 K_h2
  refine T.cond rfl (fun h => by cases h) (fun _ => T.skip ?_)
  refine h1 _ _ ?_
  try clear h1 K_h1
  have h200 := (of_facts hof).1
  have hup := firsts_up hof
  have hfl : (firsts l).length = l.length := firsts_len l
  have hbd : ∀ n ∈ firsts l, n < 18446744073709551616 := by
    intro n hn
    obtain ⟨p, hp, rfl⟩ := List.mem_map.1 hn
    cases p with
    | nil => simp
    | cons t r => exact ((hl.2 _ hp).2 t (by simp)).1
  refine T.seq_k (fun K_h1 h1 => ?_)
  refine T.regi hm ?_
  simp only [↓reduceIte, namesOf, List.any, I.names, aopsI, astep, ev, setd, List.set, List.getD, List.getElem?_cons_zero, List.getElem?_cons_succ, then_normal, Option.getD_some, Bool.or_false, Bool.false_eq_true, up_zero, ↓opt_def, List.map_cons, List.map_nil]
  refine (iput_ok (by omega) hbd).mono ?_
  rintro v σ4 ⟨rfl, rfl⟩
  rw [if_pos hup]
  try simp only [List.getElem?_cons_zero, List.getElem?_cons_succ]
  refine h1 _ _ ?_
  try clear h1 K_h1
  have hil : (sealB (indexB (firsts l))).length ≤ 1000000 := by
    rw [sealB_len]; unfold indexB; rw [List.length_append, beB_len, runB_len, hfl]; omega
  refine T.seq_k (fun K_h1 h1 => ?_)
  refine T.regi hm ?_
  simp only [↓reduceIte, namesOf, List.any, I.names, aopsI, astep, ev, setd, List.set, List.getD, List.getElem?_cons_zero, List.getElem?_cons_succ, then_normal, Option.getD_some, Bool.or_false, Bool.false_eq_true, up_zero, ↓opt_def, List.map_cons, List.map_nil]
  refine (iget_ok hil).mono ?_
  rintro v σ5 ⟨rfl, rfl⟩
  rw [indexed_index _ hbd hup]
  have e0 : errAV 0 = .nili := rfl
  try simp only [List.getElem?_cons_zero, List.getElem?_cons_succ, e0]
  refine h1 _ _ ?_
  try clear h1 K_h1
  refine T.seq_k (fun K_h1 h1 => ?_)
  refine T.seq_k (fun K_h2 h2 => ?_)
  have e1 : ((l.length : Int) != (l.length : Int)) = false := by simp
  refine T.regi hm ?_
  simp only [↓reduceIte, namesOf, List.any, I.names, aopsI, astep, ev, setd, List.set, List.getD, List.getElem?_cons_zero, List.getElem?_cons_succ, then_normal, Option.getD_some, Bool.or_false, Bool.false_eq_true, up_zero, binv, ↓opt_def, eq_self, eqIv, bne_self_eq_false, nums_len, natI_len, hfl, pgs_len]
  refine h2 _ _ ?_
  try clear h2 K_h2
  refine T.cond rfl (fun h => by cases h) (fun _ => T.skip ?_)
  refine h1 _ _ ?_
  try clear h1 K_h1
  refine T.seq_k (fun K_h1 h1 => ?_)
  refine T.seq_k (fun K_h2 h2 => ?_)
  refine T.regi hm ?_
  simp only [↓reduceIte, namesOf, List.any, I.names, aopsI, astep, ev, setd, List.set, then_normal, Bool.or_false, Bool.false_eq_true, up_zero]
  refine h2 _ _ ?_
  try clear h2 K_h2
  refine T.block ?_
  refine T.gh (Gh.keep [0, 3, 9, 11]) ?_
  refine T.loopi (fun i ρ σ' => σ' = σ5 ∧ ρ = [.sl (pgsAV l) g, .any, .any, .bool true, .any, .any, .any, .any, .any, .sl (nums .u64 (natI (firsts l))) .none, .any, .int .i64 (i : Int)] ++ List.replicate 66 .any)
    l.length 0 (Nat.zero_le _) ⟨rfl, rfl⟩ ?_
  rintro i ρ σ' hi ⟨rfl, rfl⟩
  refine T.seq_k (fun K_h2 h2 => ?_)
  refine T.seq_k (fun K_h3 h3 => ?_)
  refine T.regi hm ?_
  simp only [↓reduceIte, namesOf, List.any, I.names, aopsI, astep, ev, setd, List.set, List.getD, List.getElem?_cons_zero, List.getElem?_cons_succ, List.cons_append, List.nil_append, List.replicate, then_normal, Option.getD_some, Bool.or_false, Bool.false_eq_true, up_zero, binv, ↓opt_def, lt_len, eq_self, pgs_len]
  refine h3 _ _ ?_
  try clear h3 K_h3
  refine T.cond rfl (fun hb => ?_) (fun hb => ?_)
  · refine T.skip ?_
    refine h2 _ _ ?_
    try clear h2 K_h2
    have hil' : i < l.length := by simpa using hb
    clear hb
    refine T.seq_k (fun K_h2 h2 => ?_)
    refine T.block ?_
    refine T.seq_k (fun K_h3 h3 => ?_)
    refine T.regi hm ?_
    simp only [↓reduceIte, namesOf, List.any, I.names, aopsI, astep, ev, setd, List.set, List.cons_append, List.nil_append, List.replicate, then_normal, Bool.or_false, Bool.false_eq_true, up_zero]
    refine h3 _ _ ?_
    try clear h3 K_h3
    refine T.block ?_
    refine T.gh (Gh.keep [0, 3, 9, 11, 12]) ?_
    refine T.loopi (fun k ρ s => s = σ' ∧ ρ = [.sl (pgsAV l) g, .any, .any, .bool true, .any, .any, .any, .any, .any, .sl (nums .u64 (natI (firsts l))) .none, .any, .int .i64 (i : Int), .int .i64 (k : Int)] ++ List.replicate 65 .any)
      l[i].length 0 (Nat.zero_le _) ⟨rfl, rfl⟩ ?_
    rintro k ρ s hk ⟨rfl, rfl⟩
    refine T.seq_k (fun K_h3 h3 => ?_)
    refine T.seq_k (fun K_h4 h4 => ?_)
    refine T.regi hm ?_
    simp only [↓reduceIte, namesOf, List.any, I.names, aopsI, astep, ev, setd, List.set, List.getD, List.getElem?_cons_zero, List.getElem?_cons_succ, List.cons_append, List.nil_append, List.length_cons, List.length_nil, List.replicate, then_normal, Option.getD_some, Bool.or_false, Bool.false_eq_true, up_zero, Nat.reduceAdd, binv, ↓opt_def, AV.cells, ldc, Int.natCast_nonneg, lt_len, Int.toNat_natCast, true_and, and_true, eq_self, pgs_len, pgs_get hil', hil', tcs_len]
    refine h4 _ _ ?_
    try clear h4 K_h4
    refine T.cond rfl (fun hb => ?_) (fun hb => ?_)
    · refine T.skip ?_
      refine h3 _ _ ?_
      try clear h3 K_h3
      have hkl : k < l[i].length := by simpa [tcs_len] using hb
      clear hb
      refine T.seq_k (fun K_h3 h3 => ?_)
      refine T.block ?_
      refine T.seq_k (fun K_h4 h4 => ?_)
      refine T.regi hm ?_
      simp only [↓reduceIte, namesOf, List.any, I.names, aopsI, astep, ev, setd, List.set, List.getD, List.getElem?_cons_zero, List.getElem?_cons_succ, List.cons_append, List.nil_append, List.length_cons, List.length_nil, List.replicate, then_normal, Option.getD_some, Bool.or_false, Bool.false_eq_true, up_zero, Nat.reduceAdd, binv, ↓opt_def, AV.cells, ldc, List.map_cons, List.map_nil, Int.natCast_nonneg, lt_len, Int.toNat_natCast, true_and, and_true, eq_self, decide_true, pgs_len, pgs_get hil', hil', tcs_len, tcs_get hkl, hkl, tcav']
      refine (ifind_ok (by rw [natI_len, hfl]; omega)).mono ?_
      rintro v s2 ⟨c, hc, rfl, hlo, hhi, rfl⟩
      have hci := find_page hof hil' hkl hc hlo hhi
      have e2 : ((((c : Nat) : Int) - 1) != (i : Int)) = false := by simp; omega
      try simp only [↓reduceIte, eq_self, e2]
      refine h4 _ _ ?_
      try clear h4 K_h4
      refine T.cond rfl (fun h => by cases h) (fun _ => T.skip ?_)
      refine h3 _ _ ?_
      try clear h3 K_h3
      have hw := inc64 hkl ((hl.2 _ (List.getElem_mem hil')).1)
      refine T.regi hm ?_
      simp only [↓reduceIte, namesOf, List.any, I.names, aopsI, astep, ev, setd, List.set, List.getD, List.getElem?_cons_zero, List.getElem?_cons_succ, List.cons_append, List.nil_append, List.replicate, then_normal, Option.getD_some, Bool.or_false, Bool.false_eq_true, up_zero, binv, ↓opt_def, eq_self, hw]
      exact ⟨hkl, _, _, Gh.keep [0, 3, 9, 11, 12], rfl, rfl⟩
    · refine T.exit ?_
      try simp only [List.cons_append, List.nil_append, List.replicate, then_normal, inBlock_normal, inBlock_exit, then_exit, inBlock_normal]
      refine h2 _ _ ?_
      try clear h2 K_h2
      have hw := inc64 hil' (by omega)
      refine T.regi hm ?_
      simp only [↓reduceIte, namesOf, List.any, I.names, aopsI, astep, ev, setd, List.set, List.getD, List.getElem?_cons_zero, List.getElem?_cons_succ, List.cons_append, List.nil_append, List.replicate, then_normal, Option.getD_some, Bool.or_false, Bool.false_eq_true, up_zero, binv, ↓opt_def, eq_self, hw]
      exact ⟨hil', _, _, Gh.keep [0, 3, 9, 11], rfl, rfl⟩
  · refine T.exit ?_
    try simp only [List.cons_append, List.nil_append, List.replicate, then_normal, inBlock_exit, then_exit]
    refine h1 _ _ ?_
    try clear h1 K_h1
    refine T.seq_k (fun K_h1 h1 => ?_)
    refine T.regi hm ?_
    simp only [↓reduceIte, namesOf, List.any, I.names, aopsI, astep, ev, setd, List.set, List.getD, List.getElem?_cons_zero, List.getElem?_cons_succ, then_normal, Option.getD_some, Bool.or_false, Bool.false_eq_true, up_zero]
    refine h1 _ _ ?_
    try clear h1 K_h1
    exact T.ret (Fin.ret rfl ⟨rfl, rfl⟩)
end Go.VL
