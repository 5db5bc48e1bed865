/- Texts put together, of these what the theorem needs: Contracts: pages that are few; comparing. Contracts: canonical traces. The compiled code of functions of this seat. MADE BY PROGRAM (mkc.py). Contracts: the bytes of texts and spans. Contracts: readers of texts. Contracts: lists of canonical traces; rows put together. The plain law of gathering: what is gathered of spans of one trace is they themselves just if they stand in order, and no Id is there twice. Contracts: rows put together; an index of pages. Contracts: the document's answer for spans, compared. Contracts: the document's gathering. -/
import Derived.Test.YtmbbeldgfhnkbaaKPageBack3
import Derived.Test.YtmbbeldgfhnkbaaChecked

set_option linter.unusedSimpArgs false
set_option linter.unusedVariables false

namespace Go.VL

open Go.Proofs

/-! ### Comparing -/

def cmp3 (a b : Int) : Int := if a < b then -1 else if b < a then 1 else 0

theorem nan1_ok {a : Int} {σ : St} : ACalls Try.prog n_nan1 [.int .i64 a] σ (fun v σ' => v = .bool false ∧ σ' = σ) := by
  refine s_nan1 (fun wf => ?_)
  unfold c_nan1
  refine T.seq_k (fun K_h1 h1 => ?_)
  refine T.regi hm ?_
  simp only [↓reduceIte, namesOf, List.any, I.names, aops, aopsI, aopsT, qstep, CPt, qget, Tbl.get, astep, ev, setd, List.set, List.getD, List.getElem?_cons_zero, List.getElem?_cons_succ, List.getElem?_nil, List.cons_append, List.nil_append, List.length_cons, List.length_nil, List.replicate, then_normal, inBlock_normal, Option.getD_some, Option.getD_none, Bool.or_false, Bool.or_true, Bool.true_or, Bool.false_or, Bool.false_eq_true, if_false, if_true, up_zero, Nat.reduceAdd, Nat.reduceSub, binv, ↓opt_def, AV.isAny, AV.cells, ldc, List.map_cons, List.map_nil, St.set_next, St.set_same, St.up_next, Int.natCast_nonneg, lt_len, le_len, Int.toNat_natCast, true_and, and_true, eq_self, reduceCtorEq, decide_true, List.length_singleton, er_int, er_bool, er_str]
  refine h1 _ _ ?_
  try clear h1 K_h1
  refine T.seq_k (fun K_h1 h1 => ?_)
  refine T.regi hm ?_
  simp only [↓reduceIte, namesOf, List.any, I.names, aops, aopsI, aopsT, qstep, CPt, qget, Tbl.get, astep, ev, setd, List.set, List.getD, List.getElem?_cons_zero, List.getElem?_cons_succ, List.getElem?_nil, List.cons_append, List.nil_append, List.length_cons, List.length_nil, List.replicate, then_normal, inBlock_normal, Option.getD_some, Option.getD_none, Bool.or_false, Bool.or_true, Bool.true_or, Bool.false_or, Bool.false_eq_true, if_false, if_true, up_zero, Nat.reduceAdd, Nat.reduceSub, binv, ↓opt_def, AV.isAny, AV.cells, ldc, List.map_cons, List.map_nil, St.set_next, St.set_same, St.up_next, Int.natCast_nonneg, lt_len, le_len, Int.toNat_natCast, true_and, and_true, eq_self, reduceCtorEq, decide_true, List.length_singleton, er_int, er_bool, er_str, bne_self_eq_false]
  refine h1 _ _ ?_
  try clear h1 K_h1
  exact T.ret (Fin.ret rfl ⟨rfl, rfl⟩)

theorem nan2_ok {a : Int} {σ : St} : ACalls Try.prog n_nan2 [.int .u64 a] σ (fun v σ' => v = .bool false ∧ σ' = σ) := by
  refine s_nan2 (fun wf => ?_)
  unfold c_nan2
  refine T.seq_k (fun K_h1 h1 => ?_)
  refine T.regi hm ?_
  simp only [↓reduceIte, namesOf, List.any, I.names, aops, aopsI, aopsT, qstep, CPt, qget, Tbl.get, astep, ev, setd, List.set, List.getD, List.getElem?_cons_zero, List.getElem?_cons_succ, List.getElem?_nil, List.cons_append, List.nil_append, List.length_cons, List.length_nil, List.replicate, then_normal, inBlock_normal, Option.getD_some, Option.getD_none, Bool.or_false, Bool.or_true, Bool.true_or, Bool.false_or, Bool.false_eq_true, if_false, if_true, up_zero, Nat.reduceAdd, Nat.reduceSub, binv, ↓opt_def, AV.isAny, AV.cells, ldc, List.map_cons, List.map_nil, St.set_next, St.set_same, St.up_next, Int.natCast_nonneg, lt_len, le_len, Int.toNat_natCast, true_and, and_true, eq_self, reduceCtorEq, decide_true, List.length_singleton, er_int, er_bool, er_str]
  refine h1 _ _ ?_
  try clear h1 K_h1
  refine T.seq_k (fun K_h1 h1 => ?_)
  refine T.regi hm ?_
  simp only [↓reduceIte, namesOf, List.any, I.names, aops, aopsI, aopsT, qstep, CPt, qget, Tbl.get, astep, ev, setd, List.set, List.getD, List.getElem?_cons_zero, List.getElem?_cons_succ, List.getElem?_nil, List.cons_append, List.nil_append, List.length_cons, List.length_nil, List.replicate, then_normal, inBlock_normal, Option.getD_some, Option.getD_none, Bool.or_false, Bool.or_true, Bool.true_or, Bool.false_or, Bool.false_eq_true, if_false, if_true, up_zero, Nat.reduceAdd, Nat.reduceSub, binv, ↓opt_def, AV.isAny, AV.cells, ldc, List.map_cons, List.map_nil, St.set_next, St.set_same, St.up_next, Int.natCast_nonneg, lt_len, le_len, Int.toNat_natCast, true_and, and_true, eq_self, reduceCtorEq, decide_true, List.length_singleton, er_int, er_bool, er_str, bne_self_eq_false]
  refine h1 _ _ ?_
  try clear h1 K_h1
  exact T.ret (Fin.ret rfl ⟨rfl, rfl⟩)

theorem cmpi_ok {a b : Int} {σ : St} : ACalls Try.prog n_cmpi [.int .i64 a, .int .i64 b] σ (fun v σ' => v = .int .i64 (cmp3 a b) ∧ σ' = σ) := by
  refine s_cmpi (fun wf => ?_)
  unfold c_cmpi
  refine T.seq_k (fun K_h1 h1 => ?_)
  refine T.regi hm ?_
  simp only [↓reduceIte, namesOf, List.any, I.names, aops, aopsI, aopsT, qstep, CPt, qget, Tbl.get, astep, ev, setd, List.set, List.getD, List.getElem?_cons_zero, List.getElem?_cons_succ, List.getElem?_nil, List.cons_append, List.nil_append, List.length_cons, List.length_nil, List.replicate, then_normal, inBlock_normal, Option.getD_some, Option.getD_none, Bool.or_false, Bool.or_true, Bool.true_or, Bool.false_or, Bool.false_eq_true, if_false, if_true, up_zero, Nat.reduceAdd, Nat.reduceSub, binv, ↓opt_def, AV.isAny, AV.cells, ldc, List.map_cons, List.map_nil, St.set_next, St.set_same, St.up_next, Int.natCast_nonneg, lt_len, le_len, Int.toNat_natCast, true_and, and_true, eq_self, reduceCtorEq, decide_true, List.length_singleton, er_int, er_bool, er_str]
  refine h1 _ _ ?_
  try clear h1 K_h1
  refine T.seq_k (fun K_h1 h1 => ?_)
  refine T.regi hm ?_
  simp only [↓reduceIte, namesOf, List.any, I.names, aops, aopsI, aopsT, qstep, CPt, qget, Tbl.get, astep, ev, setd, List.set, List.getD, List.getElem?_cons_zero, List.getElem?_cons_succ, List.getElem?_nil, List.cons_append, List.nil_append, List.length_cons, List.length_nil, List.replicate, then_normal, inBlock_normal, Option.getD_some, Option.getD_none, Bool.or_false, Bool.or_true, Bool.true_or, Bool.false_or, Bool.false_eq_true, if_false, if_true, up_zero, Nat.reduceAdd, Nat.reduceSub, binv, ↓opt_def, AV.isAny, AV.cells, ldc, List.map_cons, List.map_nil, St.set_next, St.set_same, St.up_next, Int.natCast_nonneg, lt_len, le_len, Int.toNat_natCast, true_and, and_true, eq_self, reduceCtorEq, decide_true, List.length_singleton, er_int, er_bool, er_str]
  refine nan1_ok.mono ?_
  rintro v σ1 ⟨rfl, rfl⟩
  try simp only [↓reduceIte, namesOf, List.any, I.names, aops, aopsI, aopsT, qstep, CPt, qget, Tbl.get, astep, ev, setd, List.set, List.getD, List.getElem?_cons_zero, List.getElem?_cons_succ, List.getElem?_nil, List.cons_append, List.nil_append, List.length_cons, List.length_nil, List.replicate, then_normal, inBlock_normal, Option.getD_some, Option.getD_none, Bool.or_false, Bool.or_true, Bool.true_or, Bool.false_or, Bool.false_eq_true, if_false, if_true, up_zero, Nat.reduceAdd, Nat.reduceSub, binv, ↓opt_def, AV.isAny, AV.cells, ldc, List.map_cons, List.map_nil, St.set_next, St.set_same, St.up_next, Int.natCast_nonneg, lt_len, le_len, Int.toNat_natCast, true_and, and_true, eq_self, reduceCtorEq, decide_true, List.length_singleton, er_int, er_bool, er_str, up_zero]
  refine h1 _ _ ?_
  try clear h1 K_h1
  refine T.seq_k (fun K_h1 h1 => ?_)
  refine T.regi hm ?_
  simp only [↓reduceIte, namesOf, List.any, I.names, aops, aopsI, aopsT, qstep, CPt, qget, Tbl.get, astep, ev, setd, List.set, List.getD, List.getElem?_cons_zero, List.getElem?_cons_succ, List.getElem?_nil, List.cons_append, List.nil_append, List.length_cons, List.length_nil, List.replicate, then_normal, inBlock_normal, Option.getD_some, Option.getD_none, Bool.or_false, Bool.or_true, Bool.true_or, Bool.false_or, Bool.false_eq_true, if_false, if_true, up_zero, Nat.reduceAdd, Nat.reduceSub, binv, ↓opt_def, AV.isAny, AV.cells, ldc, List.map_cons, List.map_nil, St.set_next, St.set_same, St.up_next, Int.natCast_nonneg, lt_len, le_len, Int.toNat_natCast, true_and, and_true, eq_self, reduceCtorEq, decide_true, List.length_singleton, er_int, er_bool, er_str]
  refine nan1_ok.mono ?_
  rintro v σ1 ⟨rfl, rfl⟩
  try simp only [↓reduceIte, namesOf, List.any, I.names, aops, aopsI, aopsT, qstep, CPt, qget, Tbl.get, astep, ev, setd, List.set, List.getD, List.getElem?_cons_zero, List.getElem?_cons_succ, List.getElem?_nil, List.cons_append, List.nil_append, List.length_cons, List.length_nil, List.replicate, then_normal, inBlock_normal, Option.getD_some, Option.getD_none, Bool.or_false, Bool.or_true, Bool.true_or, Bool.false_or, Bool.false_eq_true, if_false, if_true, up_zero, Nat.reduceAdd, Nat.reduceSub, binv, ↓opt_def, AV.isAny, AV.cells, ldc, List.map_cons, List.map_nil, St.set_next, St.set_same, St.up_next, Int.natCast_nonneg, lt_len, le_len, Int.toNat_natCast, true_and, and_true, eq_self, reduceCtorEq, decide_true, List.length_singleton, er_int, er_bool, er_str, up_zero]
  refine h1 _ _ ?_
  try clear h1 K_h1
  refine T.seq_k (fun K_h1 h1 => ?_)
  refine T.seq_k (fun K_h2 h2 => ?_)
  refine T.regi hm ?_
  simp only [↓reduceIte, namesOf, List.any, I.names, aops, aopsI, aopsT, qstep, CPt, qget, Tbl.get, astep, ev, setd, List.set, List.getD, List.getElem?_cons_zero, List.getElem?_cons_succ, List.getElem?_nil, List.cons_append, List.nil_append, List.length_cons, List.length_nil, List.replicate, then_normal, inBlock_normal, Option.getD_some, Option.getD_none, Bool.or_false, Bool.or_true, Bool.true_or, Bool.false_or, Bool.false_eq_true, if_false, if_true, up_zero, Nat.reduceAdd, Nat.reduceSub, binv, ↓opt_def, AV.isAny, AV.cells, ldc, List.map_cons, List.map_nil, St.set_next, St.set_same, St.up_next, Int.natCast_nonneg, lt_len, le_len, Int.toNat_natCast, true_and, and_true, eq_self, reduceCtorEq, decide_true, List.length_singleton, er_int, er_bool, er_str]
  refine h2 _ _ ?_
  try clear h2 K_h2
  refine T.cond rfl (fun hb => by cases hb) (fun _ => T.skip ?_)
  refine h1 _ _ ?_
  try clear h1 K_h1
  refine T.seq_k (fun K_h1 h1 => ?_)
  refine T.seq_k (fun K_h2 h2 => ?_)
  refine T.regi hm ?_
  simp only [↓reduceIte, namesOf, List.any, I.names, aops, aopsI, aopsT, qstep, CPt, qget, Tbl.get, astep, ev, setd, List.set, List.getD, List.getElem?_cons_zero, List.getElem?_cons_succ, List.getElem?_nil, List.cons_append, List.nil_append, List.length_cons, List.length_nil, List.replicate, then_normal, inBlock_normal, Option.getD_some, Option.getD_none, Bool.or_false, Bool.or_true, Bool.true_or, Bool.false_or, Bool.false_eq_true, if_false, if_true, up_zero, Nat.reduceAdd, Nat.reduceSub, binv, ↓opt_def, AV.isAny, AV.cells, ldc, List.map_cons, List.map_nil, St.set_next, St.set_same, St.up_next, Int.natCast_nonneg, lt_len, le_len, Int.toNat_natCast, true_and, and_true, eq_self, reduceCtorEq, decide_true, List.length_singleton, er_int, er_bool, er_str]
  refine h2 _ _ ?_
  try clear h2 K_h2
  refine T.cond rfl (fun hb => by cases hb) (fun _ => T.skip ?_)
  refine h1 _ _ ?_
  try clear h1 K_h1
  refine T.seq_k (fun K_h1 h1 => ?_)
  refine T.seq_k (fun K_h2 h2 => ?_)
  refine T.regi hm ?_
  simp only [↓reduceIte, namesOf, List.any, I.names, aops, aopsI, aopsT, qstep, CPt, qget, Tbl.get, astep, ev, setd, List.set, List.getD, List.getElem?_cons_zero, List.getElem?_cons_succ, List.getElem?_nil, List.cons_append, List.nil_append, List.length_cons, List.length_nil, List.replicate, then_normal, inBlock_normal, Option.getD_some, Option.getD_none, Bool.or_false, Bool.or_true, Bool.true_or, Bool.false_or, Bool.false_eq_true, if_false, if_true, up_zero, Nat.reduceAdd, Nat.reduceSub, binv, ↓opt_def, AV.isAny, AV.cells, ldc, List.map_cons, List.map_nil, St.set_next, St.set_same, St.up_next, Int.natCast_nonneg, lt_len, le_len, Int.toNat_natCast, true_and, and_true, eq_self, reduceCtorEq, decide_true, List.length_singleton, er_int, er_bool, er_str]
  refine h2 _ _ ?_
  try clear h2 K_h2
  refine T.cond rfl (fun hb => ?_) (fun hb => ?_)
  · refine T.seq_k (fun K_h2 h2 => ?_)
    refine T.regi hm ?_
    simp only [↓reduceIte, namesOf, List.any, I.names, aops, aopsI, aopsT, qstep, CPt, qget, Tbl.get, astep, ev, setd, List.set, List.getD, List.getElem?_cons_zero, List.getElem?_cons_succ, List.getElem?_nil, List.cons_append, List.nil_append, List.length_cons, List.length_nil, List.replicate, then_normal, inBlock_normal, Option.getD_some, Option.getD_none, Bool.or_false, Bool.or_true, Bool.true_or, Bool.false_or, Bool.false_eq_true, if_false, if_true, up_zero, Nat.reduceAdd, Nat.reduceSub, binv, ↓opt_def, AV.isAny, AV.cells, ldc, List.map_cons, List.map_nil, St.set_next, St.set_same, St.up_next, Int.natCast_nonneg, lt_len, le_len, Int.toNat_natCast, true_and, and_true, eq_self, reduceCtorEq, decide_true, List.length_singleton, er_int, er_bool, er_str]
    refine h2 _ _ ?_
    try clear h2 K_h2
    have : a < b := by simpa using hb
    exact T.ret (Fin.ret rfl ⟨by simp [pack, cmp3, this], rfl⟩)
  · refine T.skip ?_
    refine h1 _ _ ?_
    try clear h1 K_h1
    have hn : ¬ a < b := by simpa using hb
    refine T.seq_k (fun K_h1 h1 => ?_)
    refine T.seq_k (fun K_h2 h2 => ?_)
    refine T.regi hm ?_
    simp only [↓reduceIte, namesOf, List.any, I.names, aops, aopsI, aopsT, qstep, CPt, qget, Tbl.get, astep, ev, setd, List.set, List.getD, List.getElem?_cons_zero, List.getElem?_cons_succ, List.getElem?_nil, List.cons_append, List.nil_append, List.length_cons, List.length_nil, List.replicate, then_normal, inBlock_normal, Option.getD_some, Option.getD_none, Bool.or_false, Bool.or_true, Bool.true_or, Bool.false_or, Bool.false_eq_true, if_false, if_true, up_zero, Nat.reduceAdd, Nat.reduceSub, binv, ↓opt_def, AV.isAny, AV.cells, ldc, List.map_cons, List.map_nil, St.set_next, St.set_same, St.up_next, Int.natCast_nonneg, lt_len, le_len, Int.toNat_natCast, true_and, and_true, eq_self, reduceCtorEq, decide_true, List.length_singleton, er_int, er_bool, er_str]
    refine h2 _ _ ?_
    try clear h2 K_h2
    refine T.cond rfl (fun hb => ?_) (fun hb => ?_)
    · refine T.seq_k (fun K_h2 h2 => ?_)
      refine T.regi hm ?_
      simp only [↓reduceIte, namesOf, List.any, I.names, aops, aopsI, aopsT, qstep, CPt, qget, Tbl.get, astep, ev, setd, List.set, List.getD, List.getElem?_cons_zero, List.getElem?_cons_succ, List.getElem?_nil, List.cons_append, List.nil_append, List.length_cons, List.length_nil, List.replicate, then_normal, inBlock_normal, Option.getD_some, Option.getD_none, Bool.or_false, Bool.or_true, Bool.true_or, Bool.false_or, Bool.false_eq_true, if_false, if_true, up_zero, Nat.reduceAdd, Nat.reduceSub, binv, ↓opt_def, AV.isAny, AV.cells, ldc, List.map_cons, List.map_nil, St.set_next, St.set_same, St.up_next, Int.natCast_nonneg, lt_len, le_len, Int.toNat_natCast, true_and, and_true, eq_self, reduceCtorEq, decide_true, List.length_singleton, er_int, er_bool, er_str]
      refine h2 _ _ ?_
      try clear h2 K_h2
      have : b < a := by simpa using hb
      exact T.ret (Fin.ret rfl ⟨by simp [pack, cmp3, this, hn], rfl⟩)
    · refine T.skip ?_
      refine h1 _ _ ?_
      try clear h1 K_h1
      have hn2 : ¬ b < a := by simpa using hb
      refine T.seq_k (fun K_h1 h1 => ?_)
      refine T.regi hm ?_
      simp only [↓reduceIte, namesOf, List.any, I.names, aops, aopsI, aopsT, qstep, CPt, qget, Tbl.get, astep, ev, setd, List.set, List.getD, List.getElem?_cons_zero, List.getElem?_cons_succ, List.getElem?_nil, List.cons_append, List.nil_append, List.length_cons, List.length_nil, List.replicate, then_normal, inBlock_normal, Option.getD_some, Option.getD_none, Bool.or_false, Bool.or_true, Bool.true_or, Bool.false_or, Bool.false_eq_true, if_false, if_true, up_zero, Nat.reduceAdd, Nat.reduceSub, binv, ↓opt_def, AV.isAny, AV.cells, ldc, List.map_cons, List.map_nil, St.set_next, St.set_same, St.up_next, Int.natCast_nonneg, lt_len, le_len, Int.toNat_natCast, true_and, and_true, eq_self, reduceCtorEq, decide_true, List.length_singleton, er_int, er_bool, er_str]
      refine h1 _ _ ?_
      try clear h1 K_h1
      exact T.ret (Fin.ret rfl ⟨by simp [pack, cmp3, hn, hn2], rfl⟩)

theorem cmpu_ok {a b : Int} {σ : St} : ACalls Try.prog n_cmpu [.int .u64 a, .int .u64 b] σ (fun v σ' => v = .int .i64 (cmp3 a b) ∧ σ' = σ) := by
  refine s_cmpu (fun wf => ?_)
  unfold c_cmpu
  refine T.seq_k (fun K_h1 h1 => ?_)
  refine T.regi hm ?_
  simp only [↓reduceIte, namesOf, List.any, I.names, aops, aopsI, aopsT, qstep, CPt, qget, Tbl.get, astep, ev, setd, List.set, List.getD, List.getElem?_cons_zero, List.getElem?_cons_succ, List.getElem?_nil, List.cons_append, List.nil_append, List.length_cons, List.length_nil, List.replicate, then_normal, inBlock_normal, Option.getD_some, Option.getD_none, Bool.or_false, Bool.or_true, Bool.true_or, Bool.false_or, Bool.false_eq_true, if_false, if_true, up_zero, Nat.reduceAdd, Nat.reduceSub, binv, ↓opt_def, AV.isAny, AV.cells, ldc, List.map_cons, List.map_nil, St.set_next, St.set_same, St.up_next, Int.natCast_nonneg, lt_len, le_len, Int.toNat_natCast, true_and, and_true, eq_self, reduceCtorEq, decide_true, List.length_singleton, er_int, er_bool, er_str]
  refine h1 _ _ ?_
  try clear h1 K_h1
  refine T.seq_k (fun K_h1 h1 => ?_)
  refine T.regi hm ?_
  simp only [↓reduceIte, namesOf, List.any, I.names, aops, aopsI, aopsT, qstep, CPt, qget, Tbl.get, astep, ev, setd, List.set, List.getD, List.getElem?_cons_zero, List.getElem?_cons_succ, List.getElem?_nil, List.cons_append, List.nil_append, List.length_cons, List.length_nil, List.replicate, then_normal, inBlock_normal, Option.getD_some, Option.getD_none, Bool.or_false, Bool.or_true, Bool.true_or, Bool.false_or, Bool.false_eq_true, if_false, if_true, up_zero, Nat.reduceAdd, Nat.reduceSub, binv, ↓opt_def, AV.isAny, AV.cells, ldc, List.map_cons, List.map_nil, St.set_next, St.set_same, St.up_next, Int.natCast_nonneg, lt_len, le_len, Int.toNat_natCast, true_and, and_true, eq_self, reduceCtorEq, decide_true, List.length_singleton, er_int, er_bool, er_str]
  refine nan2_ok.mono ?_
  rintro v σ1 ⟨rfl, rfl⟩
  try simp only [↓reduceIte, namesOf, List.any, I.names, aops, aopsI, aopsT, qstep, CPt, qget, Tbl.get, astep, ev, setd, List.set, List.getD, List.getElem?_cons_zero, List.getElem?_cons_succ, List.getElem?_nil, List.cons_append, List.nil_append, List.length_cons, List.length_nil, List.replicate, then_normal, inBlock_normal, Option.getD_some, Option.getD_none, Bool.or_false, Bool.or_true, Bool.true_or, Bool.false_or, Bool.false_eq_true, if_false, if_true, up_zero, Nat.reduceAdd, Nat.reduceSub, binv, ↓opt_def, AV.isAny, AV.cells, ldc, List.map_cons, List.map_nil, St.set_next, St.set_same, St.up_next, Int.natCast_nonneg, lt_len, le_len, Int.toNat_natCast, true_and, and_true, eq_self, reduceCtorEq, decide_true, List.length_singleton, er_int, er_bool, er_str, up_zero]
  refine h1 _ _ ?_
  try clear h1 K_h1
  refine T.seq_k (fun K_h1 h1 => ?_)
  refine T.regi hm ?_
  simp only [↓reduceIte, namesOf, List.any, I.names, aops, aopsI, aopsT, qstep, CPt, qget, Tbl.get, astep, ev, setd, List.set, List.getD, List.getElem?_cons_zero, List.getElem?_cons_succ, List.getElem?_nil, List.cons_append, List.nil_append, List.length_cons, List.length_nil, List.replicate, then_normal, inBlock_normal, Option.getD_some, Option.getD_none, Bool.or_false, Bool.or_true, Bool.true_or, Bool.false_or, Bool.false_eq_true, if_false, if_true, up_zero, Nat.reduceAdd, Nat.reduceSub, binv, ↓opt_def, AV.isAny, AV.cells, ldc, List.map_cons, List.map_nil, St.set_next, St.set_same, St.up_next, Int.natCast_nonneg, lt_len, le_len, Int.toNat_natCast, true_and, and_true, eq_self, reduceCtorEq, decide_true, List.length_singleton, er_int, er_bool, er_str]
  refine nan2_ok.mono ?_
  rintro v σ1 ⟨rfl, rfl⟩
  try simp only [↓reduceIte, namesOf, List.any, I.names, aops, aopsI, aopsT, qstep, CPt, qget, Tbl.get, astep, ev, setd, List.set, List.getD, List.getElem?_cons_zero, List.getElem?_cons_succ, List.getElem?_nil, List.cons_append, List.nil_append, List.length_cons, List.length_nil, List.replicate, then_normal, inBlock_normal, Option.getD_some, Option.getD_none, Bool.or_false, Bool.or_true, Bool.true_or, Bool.false_or, Bool.false_eq_true, if_false, if_true, up_zero, Nat.reduceAdd, Nat.reduceSub, binv, ↓opt_def, AV.isAny, AV.cells, ldc, List.map_cons, List.map_nil, St.set_next, St.set_same, St.up_next, Int.natCast_nonneg, lt_len, le_len, Int.toNat_natCast, true_and, and_true, eq_self, reduceCtorEq, decide_true, List.length_singleton, er_int, er_bool, er_str, up_zero]
  refine h1 _ _ ?_
  try clear h1 K_h1
  refine T.seq_k (fun K_h1 h1 => ?_)
  refine T.seq_k (fun K_h2 h2 => ?_)
  refine T.regi hm ?_
  simp only [↓reduceIte, namesOf, List.any, I.names, aops, aopsI, aopsT, qstep, CPt, qget, Tbl.get, astep, ev, setd, List.set, List.getD, List.getElem?_cons_zero, List.getElem?_cons_succ, List.getElem?_nil, List.cons_append, List.nil_append, List.length_cons, List.length_nil, List.replicate, then_normal, inBlock_normal, Option.getD_some, Option.getD_none, Bool.or_false, Bool.or_true, Bool.true_or, Bool.false_or, Bool.false_eq_true, if_false, if_true, up_zero, Nat.reduceAdd, Nat.reduceSub, binv, ↓opt_def, AV.isAny, AV.cells, ldc, List.map_cons, List.map_nil, St.set_next, St.set_same, St.up_next, Int.natCast_nonneg, lt_len, le_len, Int.toNat_natCast, true_and, and_true, eq_self, reduceCtorEq, decide_true, List.length_singleton, er_int, er_bool, er_str]
  refine h2 _ _ ?_
  try clear h2 K_h2
  refine T.cond rfl (fun hb => by cases hb) (fun _ => T.skip ?_)
  refine h1 _ _ ?_
  try clear h1 K_h1
  refine T.seq_k (fun K_h1 h1 => ?_)
  refine T.seq_k (fun K_h2 h2 => ?_)
  refine T.regi hm ?_
  simp only [↓reduceIte, namesOf, List.any, I.names, aops, aopsI, aopsT, qstep, CPt, qget, Tbl.get, astep, ev, setd, List.set, List.getD, List.getElem?_cons_zero, List.getElem?_cons_succ, List.getElem?_nil, List.cons_append, List.nil_append, List.length_cons, List.length_nil, List.replicate, then_normal, inBlock_normal, Option.getD_some, Option.getD_none, Bool.or_false, Bool.or_true, Bool.true_or, Bool.false_or, Bool.false_eq_true, if_false, if_true, up_zero, Nat.reduceAdd, Nat.reduceSub, binv, ↓opt_def, AV.isAny, AV.cells, ldc, List.map_cons, List.map_nil, St.set_next, St.set_same, St.up_next, Int.natCast_nonneg, lt_len, le_len, Int.toNat_natCast, true_and, and_true, eq_self, reduceCtorEq, decide_true, List.length_singleton, er_int, er_bool, er_str]
  refine h2 _ _ ?_
  try clear h2 K_h2
  refine T.cond rfl (fun hb => by cases hb) (fun _ => T.skip ?_)
  refine h1 _ _ ?_
  try clear h1 K_h1
  refine T.seq_k (fun K_h1 h1 => ?_)
  refine T.seq_k (fun K_h2 h2 => ?_)
  refine T.regi hm ?_
  simp only [↓reduceIte, namesOf, List.any, I.names, aops, aopsI, aopsT, qstep, CPt, qget, Tbl.get, astep, ev, setd, List.set, List.getD, List.getElem?_cons_zero, List.getElem?_cons_succ, List.getElem?_nil, List.cons_append, List.nil_append, List.length_cons, List.length_nil, List.replicate, then_normal, inBlock_normal, Option.getD_some, Option.getD_none, Bool.or_false, Bool.or_true, Bool.true_or, Bool.false_or, Bool.false_eq_true, if_false, if_true, up_zero, Nat.reduceAdd, Nat.reduceSub, binv, ↓opt_def, AV.isAny, AV.cells, ldc, List.map_cons, List.map_nil, St.set_next, St.set_same, St.up_next, Int.natCast_nonneg, lt_len, le_len, Int.toNat_natCast, true_and, and_true, eq_self, reduceCtorEq, decide_true, List.length_singleton, er_int, er_bool, er_str]
  refine h2 _ _ ?_
  try clear h2 K_h2
  refine T.cond rfl (fun hb => ?_) (fun hb => ?_)
  · refine T.seq_k (fun K_h2 h2 => ?_)
    refine T.regi hm ?_
    simp only [↓reduceIte, namesOf, List.any, I.names, aops, aopsI, aopsT, qstep, CPt, qget, Tbl.get, astep, ev, setd, List.set, List.getD, List.getElem?_cons_zero, List.getElem?_cons_succ, List.getElem?_nil, List.cons_append, List.nil_append, List.length_cons, List.length_nil, List.replicate, then_normal, inBlock_normal, Option.getD_some, Option.getD_none, Bool.or_false, Bool.or_true, Bool.true_or, Bool.false_or, Bool.false_eq_true, if_false, if_true, up_zero, Nat.reduceAdd, Nat.reduceSub, binv, ↓opt_def, AV.isAny, AV.cells, ldc, List.map_cons, List.map_nil, St.set_next, St.set_same, St.up_next, Int.natCast_nonneg, lt_len, le_len, Int.toNat_natCast, true_and, and_true, eq_self, reduceCtorEq, decide_true, List.length_singleton, er_int, er_bool, er_str]
    refine h2 _ _ ?_
    try clear h2 K_h2
    have : a < b := by simpa using hb
    exact T.ret (Fin.ret rfl ⟨by simp [pack, cmp3, this], rfl⟩)
  · refine T.skip ?_
    refine h1 _ _ ?_
    try clear h1 K_h1
    have hn : ¬ a < b := by simpa using hb
    refine T.seq_k (fun K_h1 h1 => ?_)
    refine T.seq_k (fun K_h2 h2 => ?_)
    refine T.regi hm ?_
    simp only [↓reduceIte, namesOf, List.any, I.names, aops, aopsI, aopsT, qstep, CPt, qget, Tbl.get, astep, ev, setd, List.set, List.getD, List.getElem?_cons_zero, List.getElem?_cons_succ, List.getElem?_nil, List.cons_append, List.nil_append, List.length_cons, List.length_nil, List.replicate, then_normal, inBlock_normal, Option.getD_some, Option.getD_none, Bool.or_false, Bool.or_true, Bool.true_or, Bool.false_or, Bool.false_eq_true, if_false, if_true, up_zero, Nat.reduceAdd, Nat.reduceSub, binv, ↓opt_def, AV.isAny, AV.cells, ldc, List.map_cons, List.map_nil, St.set_next, St.set_same, St.up_next, Int.natCast_nonneg, lt_len, le_len, Int.toNat_natCast, true_and, and_true, eq_self, reduceCtorEq, decide_true, List.length_singleton, er_int, er_bool, er_str]
    refine h2 _ _ ?_
    try clear h2 K_h2
    refine T.cond rfl (fun hb => ?_) (fun hb => ?_)
    · refine T.seq_k (fun K_h2 h2 => ?_)
      refine T.regi hm ?_
      simp only [↓reduceIte, namesOf, List.any, I.names, aops, aopsI, aopsT, qstep, CPt, qget, Tbl.get, astep, ev, setd, List.set, List.getD, List.getElem?_cons_zero, List.getElem?_cons_succ, List.getElem?_nil, List.cons_append, List.nil_append, List.length_cons, List.length_nil, List.replicate, then_normal, inBlock_normal, Option.getD_some, Option.getD_none, Bool.or_false, Bool.or_true, Bool.true_or, Bool.false_or, Bool.false_eq_true, if_false, if_true, up_zero, Nat.reduceAdd, Nat.reduceSub, binv, ↓opt_def, AV.isAny, AV.cells, ldc, List.map_cons, List.map_nil, St.set_next, St.set_same, St.up_next, Int.natCast_nonneg, lt_len, le_len, Int.toNat_natCast, true_and, and_true, eq_self, reduceCtorEq, decide_true, List.length_singleton, er_int, er_bool, er_str]
      refine h2 _ _ ?_
      try clear h2 K_h2
      have : b < a := by simpa using hb
      exact T.ret (Fin.ret rfl ⟨by simp [pack, cmp3, this, hn], rfl⟩)
    · refine T.skip ?_
      refine h1 _ _ ?_
      try clear h1 K_h1
      have hn2 : ¬ b < a := by simpa using hb
      refine T.seq_k (fun K_h1 h1 => ?_)
      refine T.regi hm ?_
      simp only [↓reduceIte, namesOf, List.any, I.names, aops, aopsI, aopsT, qstep, CPt, qget, Tbl.get, astep, ev, setd, List.set, List.getD, List.getElem?_cons_zero, List.getElem?_cons_succ, List.getElem?_nil, List.cons_append, List.nil_append, List.length_cons, List.length_nil, List.replicate, then_normal, inBlock_normal, Option.getD_some, Option.getD_none, Bool.or_false, Bool.or_true, Bool.true_or, Bool.false_or, Bool.false_eq_true, if_false, if_true, up_zero, Nat.reduceAdd, Nat.reduceSub, binv, ↓opt_def, AV.isAny, AV.cells, ldc, List.map_cons, List.map_nil, St.set_next, St.set_same, St.up_next, Int.natCast_nonneg, lt_len, le_len, Int.toNat_natCast, true_and, and_true, eq_self, reduceCtorEq, decide_true, List.length_singleton, er_int, er_bool, er_str]
      refine h1 _ _ ?_
      try clear h1 K_h1
      exact T.ret (Fin.ret rfl ⟨by simp [pack, cmp3, hn, hn2], rfl⟩)

/-- the first that is not 0 -/
def orI : List Int → Int
  | [] => 0
  | n :: r => if n = 0 then orI r else n

theorem orI_take {l : List Int} {i : Nat} (hi : i < l.length) (h : ∀ j (hj : j < l.length), j < i → l[j] = 0) : orI l = orI (l.drop i) := by
  induction i with
  | zero => rfl
  | succ i ih =>
    rw [ih (by omega) (fun j hj hji => h j hj (by omega)), List.drop_eq_getElem_cons (by omega)]
    unfold orI
    rw [if_pos (h i (by omega) (by omega))]
    cases hd : l.drop (i + 1) with
    | nil => rfl
    | cons a r => rfl

theorem orI_zero : ∀ {l : List Int}, (∀ j (hj : j < l.length), j < l.length → l[j] = 0) → orI l = 0
  | [], _ => rfl
  | a :: r, h => by
    have h0 := h 0 (by simp) (by simp)
    simp only [List.getElem_cons_zero] at h0
    subst h0
    unfold orI
    rw [if_pos rfl]
    exact orI_zero (fun j hj _ => by have := h (j + 1) (by simpa using hj) (by simpa using hj); simpa using this)

theorem cor_ok {l : List Int} {g : Ver} {σ : St} (hl : l.length ≤ 9223372036854775807) : ACalls Try.prog n_cor [.sl (nums .i64 l) g] σ (fun v σ' => v = .int .i64 (orI l) ∧ σ' = σ) := by
  refine s_cor (fun wf => ?_)
  unfold c_cor
  refine T.seq_k (fun K_h1 h1 => ?_)
  refine T.regi hm ?_
  simp only [↓reduceIte, namesOf, List.any, I.names, aops, aopsI, aopsT, qstep, CPt, qget, Tbl.get, astep, ev, setd, List.set, List.getD, List.getElem?_cons_zero, List.getElem?_cons_succ, List.getElem?_nil, List.cons_append, List.nil_append, List.length_cons, List.length_nil, List.replicate, then_normal, inBlock_normal, Option.getD_some, Option.getD_none, Bool.or_false, Bool.or_true, Bool.true_or, Bool.false_or, Bool.false_eq_true, if_false, if_true, up_zero, Nat.reduceAdd, Nat.reduceSub, binv, ↓opt_def, AV.isAny, AV.cells, ldc, List.map_cons, List.map_nil, St.set_next, St.set_same, St.up_next, Int.natCast_nonneg, lt_len, le_len, Int.toNat_natCast, true_and, and_true, eq_self, reduceCtorEq, decide_true, List.length_singleton, er_int, er_bool, er_str]
  refine h1 _ _ ?_
  try clear h1 K_h1
  refine T.seq_k (fun K_h1 h1 => ?_)
  refine T.regi hm ?_
  simp only [↓reduceIte, namesOf, List.any, I.names, aops, aopsI, aopsT, qstep, CPt, qget, Tbl.get, astep, ev, setd, List.set, List.getD, List.getElem?_cons_zero, List.getElem?_cons_succ, List.getElem?_nil, List.cons_append, List.nil_append, List.length_cons, List.length_nil, List.replicate, then_normal, inBlock_normal, Option.getD_some, Option.getD_none, Bool.or_false, Bool.or_true, Bool.true_or, Bool.false_or, Bool.false_eq_true, if_false, if_true, up_zero, Nat.reduceAdd, Nat.reduceSub, binv, ↓opt_def, AV.isAny, AV.cells, ldc, List.map_cons, List.map_nil, St.set_next, St.set_same, St.up_next, Int.natCast_nonneg, lt_len, le_len, Int.toNat_natCast, true_and, and_true, eq_self, reduceCtorEq, decide_true, List.length_singleton, er_int, er_bool, er_str]
  refine h1 _ _ ?_
  try clear h1 K_h1
  refine T.seq_k (fun K_h1 h1 => ?_)
  refine T.seq_k (fun K_h2 h2 => ?_)
  refine T.regi hm ?_
  simp only [↓reduceIte, namesOf, List.any, I.names, aops, aopsI, aopsT, qstep, CPt, qget, Tbl.get, astep, ev, setd, List.set, List.getD, List.getElem?_cons_zero, List.getElem?_cons_succ, List.getElem?_nil, List.cons_append, List.nil_append, List.length_cons, List.length_nil, List.replicate, then_normal, inBlock_normal, Option.getD_some, Option.getD_none, Bool.or_false, Bool.or_true, Bool.true_or, Bool.false_or, Bool.false_eq_true, if_false, if_true, up_zero, Nat.reduceAdd, Nat.reduceSub, binv, ↓opt_def, AV.isAny, AV.cells, ldc, List.map_cons, List.map_nil, St.set_next, St.set_same, St.up_next, Int.natCast_nonneg, lt_len, le_len, Int.toNat_natCast, true_and, and_true, eq_self, reduceCtorEq, decide_true, List.length_singleton, er_int, er_bool, er_str, nums_len]
  refine h2 _ _ ?_
  try clear h2 K_h2
  refine T.block ?_
  refine T.gh (Gh.keep [3, 6, 7, 8]) ?_
  refine T.loopi (fun i ρ σ' => σ' = σ ∧ (∀ j (hj : j < l.length), j < i → l[j] = 0) ∧ ρ = [.any, .any, .any, .int .i64 0, .any, .any, .sl (nums .i64 l) g, .int .i64 (l.length : Int), .int .i64 (i : Int)] ++ List.replicate 9 .any)
    l.length 0 (Nat.zero_le _) ⟨rfl, fun j _ h => by omega, rfl⟩ ?_
  rintro i ρ σ' hi ⟨rfl, hpre, rfl⟩
  refine T.seq_k (fun K_h2 h2 => ?_)
  refine T.regi hm ?_
  simp only [↓reduceIte, namesOf, List.any, I.names, aops, aopsI, aopsT, qstep, CPt, qget, Tbl.get, astep, ev, setd, List.set, List.getD, List.getElem?_cons_zero, List.getElem?_cons_succ, List.getElem?_nil, List.cons_append, List.nil_append, List.length_cons, List.length_nil, List.replicate, then_normal, inBlock_normal, Option.getD_some, Option.getD_none, Bool.or_false, Bool.or_true, Bool.true_or, Bool.false_or, Bool.false_eq_true, if_false, if_true, up_zero, Nat.reduceAdd, Nat.reduceSub, binv, ↓opt_def, AV.isAny, AV.cells, ldc, List.map_cons, List.map_nil, St.set_next, St.set_same, St.up_next, Int.natCast_nonneg, lt_len, le_len, Int.toNat_natCast, true_and, and_true, eq_self, reduceCtorEq, decide_true, List.length_singleton, er_int, er_bool, er_str]
  refine h2 _ _ ?_
  try clear h2 K_h2
  refine T.seq_k (fun K_h2 h2 => ?_)
  refine T.cond rfl (fun hb => ?_) (fun hb => ?_)
  · refine T.skip ?_
    refine h2 _ _ ?_
    try clear h2 K_h2
    have hil : i < l.length := by simpa using hb
    clear hb
    refine T.seq_k (fun K_h2 h2 => ?_)
    refine T.block ?_
    refine T.seq_k (fun K_h3 h3 => ?_)
    refine T.regi hm ?_
    simp only [↓reduceIte, namesOf, List.any, I.names, aops, aopsI, aopsT, qstep, CPt, qget, Tbl.get, astep, ev, setd, List.set, List.getD, List.getElem?_cons_zero, List.getElem?_cons_succ, List.getElem?_nil, List.cons_append, List.nil_append, List.length_cons, List.length_nil, List.replicate, then_normal, inBlock_normal, Option.getD_some, Option.getD_none, Bool.or_false, Bool.or_true, Bool.true_or, Bool.false_or, Bool.false_eq_true, if_false, if_true, up_zero, Nat.reduceAdd, Nat.reduceSub, binv, ↓opt_def, AV.isAny, AV.cells, ldc, List.map_cons, List.map_nil, St.set_next, St.set_same, St.up_next, Int.natCast_nonneg, lt_len, le_len, Int.toNat_natCast, true_and, and_true, eq_self, reduceCtorEq, decide_true, List.length_singleton, er_int, er_bool, er_str, nums_len, nums_get .i64 hil, hil]
    refine h3 _ _ ?_
    try clear h3 K_h3
    refine T.seq_k (fun K_h3 h3 => ?_)
    refine T.regi hm ?_
    simp only [↓reduceIte, namesOf, List.any, I.names, aops, aopsI, aopsT, qstep, CPt, qget, Tbl.get, astep, ev, setd, List.set, List.getD, List.getElem?_cons_zero, List.getElem?_cons_succ, List.getElem?_nil, List.cons_append, List.nil_append, List.length_cons, List.length_nil, List.replicate, then_normal, inBlock_normal, Option.getD_some, Option.getD_none, Bool.or_false, Bool.or_true, Bool.true_or, Bool.false_or, Bool.false_eq_true, if_false, if_true, up_zero, Nat.reduceAdd, Nat.reduceSub, binv, ↓opt_def, AV.isAny, AV.cells, ldc, List.map_cons, List.map_nil, St.set_next, St.set_same, St.up_next, Int.natCast_nonneg, lt_len, le_len, Int.toNat_natCast, true_and, and_true, eq_self, reduceCtorEq, decide_true, List.length_singleton, er_int, er_bool, er_str]
    refine h3 _ _ ?_
    try clear h3 K_h3
    refine T.cond rfl (fun hb => ?_) (fun hb => ?_)
    · refine T.seq_k (fun K_h3 h3 => ?_)
      refine T.regi hm ?_
      simp only [↓reduceIte, namesOf, List.any, I.names, aops, aopsI, aopsT, qstep, CPt, qget, Tbl.get, astep, ev, setd, List.set, List.getD, List.getElem?_cons_zero, List.getElem?_cons_succ, List.getElem?_nil, List.cons_append, List.nil_append, List.length_cons, List.length_nil, List.replicate, then_normal, inBlock_normal, Option.getD_some, Option.getD_none, Bool.or_false, Bool.or_true, Bool.true_or, Bool.false_or, Bool.false_eq_true, if_false, if_true, up_zero, Nat.reduceAdd, Nat.reduceSub, binv, ↓opt_def, AV.isAny, AV.cells, ldc, List.map_cons, List.map_nil, St.set_next, St.set_same, St.up_next, Int.natCast_nonneg, lt_len, le_len, Int.toNat_natCast, true_and, and_true, eq_self, reduceCtorEq, decide_true, List.length_singleton, er_int, er_bool, er_str]
      refine h3 _ _ ?_
      try clear h3 K_h3
      have hne : l[i] ≠ 0 := by simpa using hb
      refine T.ret (Fin.ret rfl ⟨?_, rfl⟩)
      rw [orI_take hil hpre, List.drop_eq_getElem_cons hil]
      simp [pack, orI, hne]
    · refine T.skip ?_
      refine h2 _ _ ?_
      try clear h2 K_h2
      have he : l[i] = 0 := by simpa using hb
      have hw := inc64 hil hl
      refine T.regi hm ?_
      simp only [↓reduceIte, namesOf, List.any, I.names, aops, aopsI, aopsT, qstep, CPt, qget, Tbl.get, astep, ev, setd, List.set, List.getD, List.getElem?_cons_zero, List.getElem?_cons_succ, List.getElem?_nil, List.cons_append, List.nil_append, List.length_cons, List.length_nil, List.replicate, then_normal, inBlock_normal, Option.getD_some, Option.getD_none, Bool.or_false, Bool.or_true, Bool.true_or, Bool.false_or, Bool.false_eq_true, if_false, if_true, up_zero, Nat.reduceAdd, Nat.reduceSub, binv, ↓opt_def, AV.isAny, AV.cells, ldc, List.map_cons, List.map_nil, St.set_next, St.set_same, St.up_next, Int.natCast_nonneg, lt_len, le_len, Int.toNat_natCast, true_and, and_true, eq_self, reduceCtorEq, decide_true, List.length_singleton, er_int, er_bool, er_str, hw]
      refine ⟨hil, _, _, Gh.keep [3, 6, 7, 8], rfl, fun j hj hji => ?_, rfl⟩
      by_cases hx : j = i
      · subst hx; exact he
      · exact hpre j hj (by omega)
  · refine T.exit ?_
    have : i = l.length := by simp at hb; omega
    subst this
    try simp only [↓reduceIte, namesOf, List.any, I.names, aops, aopsI, aopsT, qstep, CPt, qget, Tbl.get, astep, ev, setd, List.set, List.getD, List.getElem?_cons_zero, List.getElem?_cons_succ, List.getElem?_nil, List.cons_append, List.nil_append, List.length_cons, List.length_nil, List.replicate, then_normal, inBlock_normal, Option.getD_some, Option.getD_none, Bool.or_false, Bool.or_true, Bool.true_or, Bool.false_or, Bool.false_eq_true, if_false, if_true, up_zero, Nat.reduceAdd, Nat.reduceSub, binv, ↓opt_def, AV.isAny, AV.cells, ldc, List.map_cons, List.map_nil, St.set_next, St.set_same, St.up_next, Int.natCast_nonneg, lt_len, le_len, Int.toNat_natCast, true_and, and_true, eq_self, reduceCtorEq, decide_true, List.length_singleton, er_int, er_bool, er_str, inBlock_exit, then_exit]
    refine h1 _ _ ?_
    try clear h1 K_h1
    refine T.seq_k (fun K_h1 h1 => ?_)
    refine T.regi hm ?_
    simp only [↓reduceIte, namesOf, List.any, I.names, aops, aopsI, aopsT, qstep, CPt, qget, Tbl.get, astep, ev, setd, List.set, List.getD, List.getElem?_cons_zero, List.getElem?_cons_succ, List.getElem?_nil, List.cons_append, List.nil_append, List.length_cons, List.length_nil, List.replicate, then_normal, inBlock_normal, Option.getD_some, Option.getD_none, Bool.or_false, Bool.or_true, Bool.true_or, Bool.false_or, Bool.false_eq_true, if_false, if_true, up_zero, Nat.reduceAdd, Nat.reduceSub, binv, ↓opt_def, AV.isAny, AV.cells, ldc, List.map_cons, List.map_nil, St.set_next, St.set_same, St.up_next, Int.natCast_nonneg, lt_len, le_len, Int.toNat_natCast, true_and, and_true, eq_self, reduceCtorEq, decide_true, List.length_singleton, er_int, er_bool, er_str]
    refine h1 _ _ ?_
    try clear h1 K_h1
    refine T.ret (Fin.ret rfl ⟨?_, rfl⟩)
    have : orI l = 0 := orI_zero hpre
    rw [this]; rfl

def g_cmpi : List AV → Option AV
  | [.int .i64 a, .int .i64 b] => some (.int .i64 (cmp3 a b))
  | _ => none

theorem cmpi_pure : PureC Try.prog n_cmpi g_cmpi := by
  intro args σ v h
  unfold g_cmpi at h
  split at h
  · simp only [Option.some.injEq] at h; subst h; exact cmpi_ok
  · cases h

def g_cmpu : List AV → Option AV
  | [.int .u64 a, .int .u64 b] => some (.int .i64 (cmp3 a b))
  | _ => none

theorem cmpu_pure : PureC Try.prog n_cmpu g_cmpu := by
  intro args σ v h
  unfold g_cmpu at h
  split at h
  · simp only [Option.some.injEq] at h; subst h; exact cmpu_ok
  · cases h

def g_or3 : List AV → Option AV
  | [.sl [.int .i64 a, .int .i64 b, .int .i64 c] _] => some (.int .i64 (orI [a, b, c]))
  | _ => none

theorem or3_pure : PureC Try.prog n_cor g_or3 := by
  intro args σ v h
  unfold g_or3 at h
  split at h
  · rename_i a b c g
    simp only [Option.some.injEq] at h; subst h
    exact cor_ok (l := [a, b, c]) (by simp)
  · cases h

def tC : Tbl := [(n_cmpi, g_cmpi), (n_cmpu, g_cmpu), (n_cor, g_or3)]

theorem tC_ok : tC.ok Try.prog := Tbl.ok_cons cmpi_pure (Tbl.ok_cons cmpu_pure (Tbl.ok_cons or3_pure Tbl.ok_nil))

/-- how two spans stand, by (Start, Id, Trace) -/
def cmpS (s i t s' i' t' : Int) : Int := orI [cmp3 s s', cmp3 i i', cmp3 t t']

theorem set2_quiet {σ : St} (wf : WF σ) {k : Nat} (r r' : Res) {a b : Nat} (ha : σ.next ≤ a) (hb : σ.next ≤ b) : ∀ n x, σ.res n = some x → (((σ.up k).set a r).set b r').res n = some x := by
  intro n x hr
  have hn : n < σ.next := by
    rcases Nat.lt_or_ge n σ.next with h | h
    · exact h
    · rw [wf n h] at hr; cases hr
  rw [St.set_other _ _ (by omega), St.set_other _ _ (by omega)]; exact hr

theorem set1_quiet {σ : St} (wf : WF σ) {k : Nat} (r : Res) {a : Nat} (ha : σ.next ≤ a) : ∀ n x, σ.res n = some x → ((σ.up k).set a r).res n = some x := by
  intro n x hr
  have hn : n < σ.next := by
    rcases Nat.lt_or_ge n σ.next with h | h
    · exact h
    · rw [wf n h] at hr; cases hr
  rw [St.set_other _ _ (by omega)]; exact hr

theorem scmp_ok {t i s t' i' s' : Int} {x y x' y' : AV} {σ : St} : ACalls Try.prog n_scmp [.agg [.int .u64 t, .int .u64 i, .int .i64 s, x, y], .agg [.int .u64 t', .int .u64 i', .int .i64 s', x', y']] σ
    (fun v σ' => v = .int .i64 (cmpS s i t s' i' t') ∧ σ' = σ) := by
  refine s_scmp (fun wf => ?_)
  unfold c_scmp
  refine T.seq_k (fun K_h1 h1 => ?_)
  refine T.regi hm ?_
  simp only [↓reduceIte, namesOf, List.any, I.names, aops, aopsI, aopsT, qstep, CPt, qget, Tbl.get, astep, ev, setd, List.set, List.getD, List.getElem?_cons_zero, List.getElem?_cons_succ, List.getElem?_nil, List.cons_append, List.nil_append, List.length_cons, List.length_nil, List.replicate, then_normal, inBlock_normal, Option.getD_some, Option.getD_none, Bool.or_false, Bool.or_true, Bool.true_or, Bool.false_or, Bool.false_eq_true, if_false, if_true, up_zero, Nat.reduceAdd, Nat.reduceSub, binv, ↓opt_def, AV.isAny, AV.cells, ldc, List.map_cons, List.map_nil, St.set_next, St.set_same, St.up_next, Int.natCast_nonneg, lt_len, le_len, Int.toNat_natCast, true_and, and_true, eq_self, reduceCtorEq, decide_true, List.length_singleton, er_int, er_bool, er_str]
  have h0 : (((σ.up 3).set (σ.next + 0) (.obj [.int .u64 t, .int .u64 i, .int .i64 s, x, y])).set (σ.next + 1) (.obj [.int .u64 t', .int .u64 i', .int .i64 s', x', y'])).res (σ.next + 0) = some (.obj [.int .u64 t, .int .u64 i, .int .i64 s, x, y]) := by
    rw [St.set_other _ _ (by omega)]; simp
  have h0' : (((σ.up 3).set (σ.next + 0) (.obj [.int .u64 t, .int .u64 i, .int .i64 s, x, y])).set (σ.next + 1) (.obj [.int .u64 t', .int .u64 i', .int .i64 s', x', y'])).res (σ.next + 1) = some (.obj [.int .u64 t', .int .u64 i', .int .i64 s', x', y']) := by simp
  have hq := set2_quiet wf (k := 3) (.obj [.int .u64 t, .int .u64 i, .int .i64 s, x, y]) (.obj [.int .u64 t', .int .u64 i', .int .i64 s', x', y']) (a := σ.next + 0) (b := σ.next + 1) (by omega) (by omega)
  generalize (((σ.up 3).set (σ.next + 0) (.obj [.int .u64 t, .int .u64 i, .int .i64 s, x, y])).set (σ.next + 1) (.obj [.int .u64 t', .int .u64 i', .int .i64 s', x', y'])) = σ1 at h0 h0' hq ⊢
  refine h1 _ _ ?_
  try clear h1 K_h1
  refine T.seq_k (fun K_h1 h1 => ?_)
  refine T.regt hm tC_ok ?_
  simp only [↓reduceIte, namesOf, List.any, I.names, aops, aopsI, aopsT, qstep, CPt, qget, Tbl.get, astep, ev, setd, List.set, List.getD, List.getElem?_cons_zero, List.getElem?_cons_succ, List.getElem?_nil, List.cons_append, List.nil_append, List.length_cons, List.length_nil, List.replicate, then_normal, inBlock_normal, Option.getD_some, Option.getD_none, Bool.or_false, Bool.or_true, Bool.true_or, Bool.false_or, Bool.false_eq_true, if_false, if_true, up_zero, Nat.reduceAdd, Nat.reduceSub, binv, ↓opt_def, AV.isAny, AV.cells, ldc, List.map_cons, List.map_nil, St.set_next, St.set_same, St.up_next, Int.natCast_nonneg, lt_len, le_len, Int.toNat_natCast, true_and, and_true, eq_self, reduceCtorEq, decide_true, List.length_singleton, er_int, er_bool, er_str, Nat.reduceEqDiff, tC, h0, h0', g_cmpi, g_cmpu, g_or3, Nat.zero_add, Nat.reduceEqDiff, List.all_cons, List.all_nil, AV.fits, AV.one, Bool.not_false, Bool.and_self, beq_self_eq_true, held]
  refine h1 _ _ ?_
  try clear h1 K_h1
  exact T.ret (Fin.quiet rfl trivial hq ⟨rfl, rfl⟩)

def mayI (s e n : Int) : Bool := decide (0 ≤ s ∧ s ≤ e ∧ e ≤ 1099511627776 ∧ n ≤ 64)

theorem may_ok {t i : AV} {s e : Int} {xs : List AV} {g : Ver} {σ : St} : ACalls Try.prog n_may [.agg [t, i, .int .i64 s, .int .i64 e, .sl xs g]] σ (fun v σ' => v = .bool (mayI s e xs.length) ∧ σ' = σ) := by
  refine s_may (fun wf => ?_)
  unfold c_may
  refine T.seq_k (fun K_h1 h1 => ?_)
  refine T.regi hm ?_
  simp only [↓reduceIte, namesOf, List.any, I.names, aops, aopsI, aopsT, qstep, CPt, qget, Tbl.get, astep, ev, setd, List.set, List.getD, List.getElem?_cons_zero, List.getElem?_cons_succ, List.getElem?_nil, List.cons_append, List.nil_append, List.length_cons, List.length_nil, List.replicate, then_normal, inBlock_normal, Option.getD_some, Option.getD_none, Bool.or_false, Bool.or_true, Bool.true_or, Bool.false_or, Bool.false_eq_true, if_false, if_true, up_zero, Nat.reduceAdd, Nat.reduceSub, binv, ↓opt_def, AV.isAny, AV.cells, ldc, List.map_cons, List.map_nil, St.set_next, St.set_same, St.up_next, Int.natCast_nonneg, lt_len, le_len, Int.toNat_natCast, true_and, and_true, eq_self, reduceCtorEq, decide_true, List.length_singleton, er_int, er_bool, er_str]
  have h0 : ((σ.up 2).set (σ.next + 0) (.obj [t, i, .int .i64 s, .int .i64 e, .sl xs g])).res (σ.next + 0) = some (.obj [t, i, .int .i64 s, .int .i64 e, .sl xs g]) := by simp
  have hq := set1_quiet wf (k := 2) (.obj [t, i, .int .i64 s, .int .i64 e, .sl xs g]) (a := σ.next + 0) (by omega)
  generalize ((σ.up 2).set (σ.next + 0) (.obj [t, i, .int .i64 s, .int .i64 e, .sl xs g])) = σ1 at h0 hq ⊢
  refine h1 _ _ ?_
  try clear h1 K_h1
  refine T.seq_k (fun K_h1 h1 => ?_)
  by_cases c1 : 0 ≤ s
  case neg =>
    have e1 : decide (s ≥ 0) = false := decide_eq_false (by omega)
    refine T.regi hm ?_
    simp only [↓reduceIte, namesOf, List.any, I.names, aops, aopsI, aopsT, qstep, CPt, qget, Tbl.get, astep, ev, setd, List.set, List.getD, List.getElem?_cons_zero, List.getElem?_cons_succ, List.getElem?_nil, List.cons_append, List.nil_append, List.length_cons, List.length_nil, List.replicate, then_normal, inBlock_normal, Option.getD_some, Option.getD_none, Bool.or_false, Bool.or_true, Bool.true_or, Bool.false_or, Bool.false_eq_true, if_false, if_true, up_zero, Nat.reduceAdd, Nat.reduceSub, binv, ↓opt_def, AV.isAny, AV.cells, ldc, List.map_cons, List.map_nil, St.set_next, St.set_same, St.up_next, Int.natCast_nonneg, lt_len, le_len, Int.toNat_natCast, true_and, and_true, eq_self, reduceCtorEq, decide_true, List.length_singleton, er_int, er_bool, er_str, h0, e1, reduceCtorEq]
    refine h1 _ _ ?_
    try clear h1 K_h1
    exact T.ret (Fin.quiet rfl trivial hq ⟨by simp [pack, mayI, c1], rfl⟩)
  have e1 : decide (s ≥ 0) = true := decide_eq_true c1
  by_cases c2 : s ≤ e
  case neg =>
    have e2 : decide (s ≤ e) = false := decide_eq_false c2
    refine T.regi hm ?_
    simp only [↓reduceIte, namesOf, List.any, I.names, aops, aopsI, aopsT, qstep, CPt, qget, Tbl.get, astep, ev, setd, List.set, List.getD, List.getElem?_cons_zero, List.getElem?_cons_succ, List.getElem?_nil, List.cons_append, List.nil_append, List.length_cons, List.length_nil, List.replicate, then_normal, inBlock_normal, Option.getD_some, Option.getD_none, Bool.or_false, Bool.or_true, Bool.true_or, Bool.false_or, Bool.false_eq_true, if_false, if_true, up_zero, Nat.reduceAdd, Nat.reduceSub, binv, ↓opt_def, AV.isAny, AV.cells, ldc, List.map_cons, List.map_nil, St.set_next, St.set_same, St.up_next, Int.natCast_nonneg, lt_len, le_len, Int.toNat_natCast, true_and, and_true, eq_self, reduceCtorEq, decide_true, List.length_singleton, er_int, er_bool, er_str, h0, e1, e2, reduceCtorEq]
    refine h1 _ _ ?_
    try clear h1 K_h1
    exact T.ret (Fin.quiet rfl trivial hq ⟨by simp [pack, mayI, c2], rfl⟩)
  have e2 : decide (s ≤ e) = true := decide_eq_true c2
  by_cases c3 : e ≤ 1099511627776
  case neg =>
    have e3 : decide (e ≤ 1099511627776) = false := decide_eq_false c3
    refine T.regi hm ?_
    simp only [↓reduceIte, namesOf, List.any, I.names, aops, aopsI, aopsT, qstep, CPt, qget, Tbl.get, astep, ev, setd, List.set, List.getD, List.getElem?_cons_zero, List.getElem?_cons_succ, List.getElem?_nil, List.cons_append, List.nil_append, List.length_cons, List.length_nil, List.replicate, then_normal, inBlock_normal, Option.getD_some, Option.getD_none, Bool.or_false, Bool.or_true, Bool.true_or, Bool.false_or, Bool.false_eq_true, if_false, if_true, up_zero, Nat.reduceAdd, Nat.reduceSub, binv, ↓opt_def, AV.isAny, AV.cells, ldc, List.map_cons, List.map_nil, St.set_next, St.set_same, St.up_next, Int.natCast_nonneg, lt_len, le_len, Int.toNat_natCast, true_and, and_true, eq_self, reduceCtorEq, decide_true, List.length_singleton, er_int, er_bool, er_str, h0, e1, e2, e3, reduceCtorEq]
    refine h1 _ _ ?_
    try clear h1 K_h1
    exact T.ret (Fin.quiet rfl trivial hq ⟨by simp [pack, mayI, c3], rfl⟩)
  have e3 : decide (e ≤ 1099511627776) = true := decide_eq_true c3
  refine T.regi hm ?_
  simp only [↓reduceIte, namesOf, List.any, I.names, aops, aopsI, aopsT, qstep, CPt, qget, Tbl.get, astep, ev, setd, List.set, List.getD, List.getElem?_cons_zero, List.getElem?_cons_succ, List.getElem?_nil, List.cons_append, List.nil_append, List.length_cons, List.length_nil, List.replicate, then_normal, inBlock_normal, Option.getD_some, Option.getD_none, Bool.or_false, Bool.or_true, Bool.true_or, Bool.false_or, Bool.false_eq_true, if_false, if_true, up_zero, Nat.reduceAdd, Nat.reduceSub, binv, ↓opt_def, AV.isAny, AV.cells, ldc, List.map_cons, List.map_nil, St.set_next, St.set_same, St.up_next, Int.natCast_nonneg, lt_len, le_len, Int.toNat_natCast, true_and, and_true, eq_self, reduceCtorEq, decide_true, List.length_singleton, er_int, er_bool, er_str, h0, e1, e2, e3, reduceCtorEq]
  refine h1 _ _ ?_
  try clear h1 K_h1
  exact T.ret (Fin.quiet rfl trivial hq ⟨by simp [pack, mayI, c1, c2, c3], rfl⟩)

def g_scmp : List AV → Option AV
  | [.agg [.int .u64 t, .int .u64 i, .int .i64 s, _, _], .agg [.int .u64 t', .int .u64 i', .int .i64 s', _, _]] => some (.int .i64 (cmpS s i t s' i' t'))
  | _ => none

theorem scmp_pure : PureC Try.prog n_scmp g_scmp := by
  intro args σ v h
  unfold g_scmp at h
  split at h
  · simp only [Option.some.injEq] at h; subst h; exact scmp_ok
  · cases h

def g_may : List AV → Option AV
  | [.agg [_, _, .int .i64 s, .int .i64 e, .sl xs _]] => some (.bool (mayI s e xs.length))
  | _ => none

theorem may_pure : PureC Try.prog n_may g_may := by
  intro args σ v h
  unfold g_may at h
  split at h
  · simp only [Option.some.injEq] at h; subst h; exact may_ok
  · cases h

def tS : Tbl := [(n_scmp, g_scmp), (n_may, g_may)]

theorem tS_ok : tS.ok Try.prog := Tbl.ok_cons scmp_pure (Tbl.ok_cons may_pure Tbl.ok_nil)

end Go.VL

namespace Go.VL

open Go.Proofs

theorem spav (s : Sp) : s.av = .agg [.int .u64 (s.tr : Int), .int .u64 (s.id : Int), .int .i64 s.st, .int .i64 s.en, .sl (bytesAV s.da) .none] := rfl

def mayS (s : Sp) : Bool := mayI s.st s.en s.da.length

def cmpSp (a b : Sp) : Int := cmpS a.st a.id a.tr b.st b.id b.tr

def okAt (t : Tc) (i : Nat) : Bool := match t.sp[i]? with
  | some s => decide (s.tr = t.id) && mayS s && !((t.sp.take i).map Sp.id).contains s.id && (i == 0 || (match t.sp[i - 1]? with | some p => decide (cmpSp p s < 0) | none => false))
  | none => false

def oneB (t : Tc) : Bool := (List.range t.sp.length).all (okAt t) && decide (1 ≤ t.sp.length) && decide (t.sp.length ≤ 100)

def metAV (l : List Nat) : List (AV × AV) := l.map fun n : Nat => (.int .u64 (n : Int), .bool true)

theorem met_find (l : List Nat) (n : Nat) : mfind (.int .u64 (n : Int)) (metAV l) = some (if l.contains n then some (.bool true) else none) := by
  induction l with
  | nil => rfl
  | cons a r ih =>
    unfold metAV at ih ⊢
    by_cases h : n = a
    · subst h
      simp [mfind, keq]
    · have h1 : ((n : Int) == (a : Int)) = false := by simp; omega
      have h2 : (n == a) = false := by simpa using h
      have h3 : (a == n) = false := by simpa using fun e => h e.symm
      simp only [List.map_cons, mfind, keq, if_true, h1, ih, List.contains_cons, h2, Bool.false_or]

theorem met_put (l : List Nat) (n : Nat) (h : l.contains n = false) : mput (.int .u64 (n : Int)) (.bool true) (metAV l) = metAV (l ++ [n]) := by
  induction l with
  | nil => rfl
  | cons a r ih =>
    unfold metAV at ih ⊢
    simp only [List.contains_cons, Bool.or_eq_false_iff] at h
    have h1 : ((n : Int) == (a : Int)) = false := by have := h.1; simp at this ⊢; omega
    simp only [List.map_cons, mput, keq, if_true, h1, ih h.2, List.cons_append]

structure OneSt (σ σ' : St) (a m : Nat) (t : Tc) (l : List Nat) : Prop where
  a0 : σ.next ≤ a
  m0 : σ.next ≤ m
  a1 : a < σ'.next
  m1 : m < σ'.next
  obj : σ'.res a = some (.obj t.av.cells)
  map : σ'.res m = some (.map (metAV l) (List.range l.length) l.length)
  old : ∀ n r, σ.res n = some r → σ'.res n = some r

theorem OneSt.other {σ σ' : St} {a m : Nat} {t : Tc} {l : List Nat} (wf : WF σ) (h : OneSt σ σ' a m t l) {k b : Nat} (r : Res) (hb : σ'.next ≤ b) : OneSt σ ((σ'.up k).set b r) a m t l where
  a0 := h.a0
  m0 := h.m0
  a1 := Nat.lt_of_lt_of_le h.a1 (Nat.le_add_right _ _)
  m1 := Nat.lt_of_lt_of_le h.m1 (Nat.le_add_right _ _)
  obj := by rw [St.set_other _ _ (by have := h.a1; omega)]; exact h.obj
  map := by rw [St.set_other _ _ (by have := h.m1; omega)]; exact h.map
  old := fun n r' hr => by
    have hn : n < σ.next := by
      rcases Nat.lt_or_ge n σ.next with h' | h'
      · exact h'
      · rw [wf n h'] at hr; cases hr
    rw [St.set_other _ _ (by have := h.a0; have := h.a1; omega)]; exact h.old n r' hr

theorem OneSt.put {σ σ' : St} {a m : Nat} {t : Tc} {l : List Nat} {n : Nat} (wf : WF σ) (ham : a ≠ m) (h : OneSt σ σ' a m t l) (hn : l.contains n = false) : OneSt σ (σ'.set m (.map (mput (.int .u64 (n : Int)) (.bool true) (metAV l)) (List.range l.length ++ [l.length]) (l.length + 1))) a m t (l ++ [n]) where
  a0 := h.a0
  m0 := h.m0
  a1 := h.a1
  m1 := h.m1
  obj := by rw [St.set_other _ _ ham]; exact h.obj
  map := by rw [St.set_same, met_put l n hn, List.length_append, List.length_singleton, List.range_succ]
  old := fun n r' hr => by
    have hn : n < σ.next := by
      rcases Nat.lt_or_ge n σ.next with h' | h'
      · exact h'
      · rw [wf n h'] at hr; cases hr
    rw [St.set_other _ _ (by have := h.m0; omega)]; exact h.old n r' hr

theorem one_false {t : Tc} {i : Nat} (hi : i < t.sp.length) (h : okAt t i = false) : oneB t = false := by
  unfold oneB
  have : (List.range t.sp.length).all (okAt t) = false := by
    rw [Bool.eq_false_iff]
    intro hh
    have := List.all_eq_true.1 hh i (by simpa using hi)
    rw [h] at this; cases this
  rw [this]; rfl

set_option maxRecDepth 10000 in
set_option maxHeartbeats 4000000 in
theorem tone_ok {t : Tc} {σ : St} (hl : t.sp.length ≤ 9223372036854775807) : ACalls Try.prog n_one [.agg [.int .u64 (t.id : Int), .sl (spsAV t.sp) .none]] σ (fun v σ' => v = .bool (oneB t) ∧ σ' = σ) := by
  refine s_one (fun wf => ?_)
  unfold c_one
  refine T.seq_k (fun K_h1 h1 => ?_)
  refine T.regi hm ?_
  simp only [↓reduceIte, namesOf, List.any, I.names, aops, aopsI, aopsT, qstep, CPt, qget, Tbl.get, astep, ev, setd, List.set, List.getD, List.getElem?_cons_zero, List.getElem?_cons_succ, List.getElem?_nil, List.cons_append, List.nil_append, List.length_cons, List.length_nil, List.replicate, then_normal, inBlock_normal, Option.getD_some, Option.getD_none, Bool.or_false, Bool.or_true, Bool.true_or, Bool.false_or, Bool.false_eq_true, if_false, if_true, up_zero, Nat.reduceAdd, Nat.reduceSub, binv, ↓opt_def, AV.isAny, AV.cells, ldc, List.map_cons, List.map_nil, St.set_next, St.set_same, St.up_next, Int.natCast_nonneg, lt_len, le_len, Int.toNat_natCast, true_and, and_true, eq_self, reduceCtorEq, decide_true, List.length_singleton, er_int, er_bool, er_str]
  refine h1 _ _ ?_
  try clear h1 K_h1
  refine T.seq_k (fun K_h1 h1 => ?_)
  refine T.regi hm ?_
  simp only [↓reduceIte, namesOf, List.any, I.names, aops, aopsI, aopsT, qstep, CPt, qget, Tbl.get, astep, ev, setd, List.set, List.getD, List.getElem?_cons_zero, List.getElem?_cons_succ, List.getElem?_nil, List.cons_append, List.nil_append, List.length_cons, List.length_nil, List.replicate, then_normal, inBlock_normal, Option.getD_some, Option.getD_none, Bool.or_false, Bool.or_true, Bool.true_or, Bool.false_or, Bool.false_eq_true, if_false, if_true, up_zero, Nat.reduceAdd, Nat.reduceSub, binv, ↓opt_def, AV.isAny, AV.cells, ldc, List.map_cons, List.map_nil, St.set_next, St.set_same, St.up_next, Int.natCast_nonneg, lt_len, le_len, Int.toNat_natCast, true_and, and_true, eq_self, reduceCtorEq, decide_true, List.length_singleton, er_int, er_bool, er_str]
  have o0 : OneSt σ ((((σ.up 2).set (σ.next + 0) (.obj [.int .u64 (t.id : Int), .sl (spsAV t.sp) .none])).up 2).set (σ.next + 2 + 0) (.map [] [] 0)) (σ.next + 0) (σ.next + 2 + 0) t [] := by
    refine ⟨by omega, by omega, by simp; omega, by simp, ?_, by simp [metAV], fun n r hr => ?_⟩
    · rw [St.set_other _ _ (by omega)]; simp [tccells]
    · have hn : n < σ.next := by
        rcases Nat.lt_or_ge n σ.next with h' | h'
        · exact h'
        · rw [wf n h'] at hr; cases hr
      rw [St.set_other _ _ (by omega), St.up_res, St.set_other _ _ (by omega)]; exact hr
  have ham : σ.next + 0 ≠ σ.next + 2 + 0 := by omega
  generalize ((((σ.up 2).set (σ.next + 0) (.obj [.int .u64 (t.id : Int), .sl (spsAV t.sp) .none])).up 2).set (σ.next + 2 + 0) (.map [] [] 0)) = σ1 at o0 ⊢
  generalize σ.next + 0 = a at o0 ham ⊢
  generalize σ.next + 2 + 0 = m at o0 ham ⊢
  refine h1 _ _ ?_
  try clear h1 K_h1
  refine T.seq_k (fun K_h1 h1 => ?_)
  refine T.seq_k (fun K_h2 h2 => ?_)
  have ha := o0.obj
  rw [tccells] at ha
  refine T.regi hm ?_
  simp only [↓reduceIte, namesOf, List.any, I.names, aops, aopsI, aopsT, qstep, CPt, qget, Tbl.get, astep, ev, setd, List.set, List.getD, List.getElem?_cons_zero, List.getElem?_cons_succ, List.getElem?_nil, List.cons_append, List.nil_append, List.length_cons, List.length_nil, List.replicate, then_normal, inBlock_normal, Option.getD_some, Option.getD_none, Bool.or_false, Bool.or_true, Bool.true_or, Bool.false_or, Bool.false_eq_true, if_false, if_true, up_zero, Nat.reduceAdd, Nat.reduceSub, binv, ↓opt_def, AV.isAny, AV.cells, ldc, List.map_cons, List.map_nil, St.set_next, St.set_same, St.up_next, Int.natCast_nonneg, lt_len, le_len, Int.toNat_natCast, true_and, and_true, eq_self, reduceCtorEq, decide_true, List.length_singleton, er_int, er_bool, er_str, ha, sps_len]
  refine h2 _ _ ?_
  try clear h2 K_h2
  clear ha
  refine T.block ?_
  refine T.gh (Gh.keep [1, 3, 8, 9, 10]) ?_
  refine T.loopi (fun i ρ σ' => OneSt σ σ' a m t ((t.sp.take i).map Sp.id) ∧ (List.range i).all (okAt t) = true ∧ ρ = [.any, .ptr a 0, .any, .map m, .any, .any, .any, .any, .sl (spsAV t.sp) .none, .int .i64 (t.sp.length : Int), .int .i64 (i : Int)] ++ List.replicate 49 .any)
    t.sp.length 0 (Nat.zero_le _) ⟨o0, rfl, rfl⟩ ?_
  clear o0 σ1
  rintro i ρ σ' hi ⟨o1, hpre, rfl⟩
  refine T.seq_k (fun K_h2 h2 => ?_)
  refine T.regi hm ?_
  simp only [↓reduceIte, namesOf, List.any, I.names, aops, aopsI, aopsT, qstep, CPt, qget, Tbl.get, astep, ev, setd, List.set, List.getD, List.getElem?_cons_zero, List.getElem?_cons_succ, List.getElem?_nil, List.cons_append, List.nil_append, List.length_cons, List.length_nil, List.replicate, then_normal, inBlock_normal, Option.getD_some, Option.getD_none, Bool.or_false, Bool.or_true, Bool.true_or, Bool.false_or, Bool.false_eq_true, if_false, if_true, up_zero, Nat.reduceAdd, Nat.reduceSub, binv, ↓opt_def, AV.isAny, AV.cells, ldc, List.map_cons, List.map_nil, St.set_next, St.set_same, St.up_next, Int.natCast_nonneg, lt_len, le_len, Int.toNat_natCast, true_and, and_true, eq_self, reduceCtorEq, decide_true, List.length_singleton, er_int, er_bool, er_str]
  refine h2 _ _ ?_
  try clear h2 K_h2
  refine T.seq_k (fun K_h2 h2 => ?_)
  refine T.cond rfl (fun hb => ?_) (fun hb => ?_)
  · refine T.skip ?_
    refine h2 _ _ ?_
    try clear h2 K_h2
    have hil : i < t.sp.length := by simpa using hb
    clear hb
    generalize hs : t.sp[i] = s
    have hsi : t.sp[i]? = some s := by rw [← hs]; simp [hil]
    refine T.seq_k (fun K_h2 h2 => ?_)
    refine T.block ?_
    refine T.seq_k (fun K_h3 h3 => ?_)
    refine T.regi hm ?_
    simp only [↓reduceIte, namesOf, List.any, I.names, aops, aopsI, aopsT, qstep, CPt, qget, Tbl.get, astep, ev, setd, List.set, List.getD, List.getElem?_cons_zero, List.getElem?_cons_succ, List.getElem?_nil, List.cons_append, List.nil_append, List.length_cons, List.length_nil, List.replicate, then_normal, inBlock_normal, Option.getD_some, Option.getD_none, Bool.or_false, Bool.or_true, Bool.true_or, Bool.false_or, Bool.false_eq_true, if_false, if_true, up_zero, Nat.reduceAdd, Nat.reduceSub, binv, ↓opt_def, AV.isAny, AV.cells, ldc, List.map_cons, List.map_nil, St.set_next, St.set_same, St.up_next, Int.natCast_nonneg, lt_len, le_len, Int.toNat_natCast, true_and, and_true, eq_self, reduceCtorEq, decide_true, List.length_singleton, er_int, er_bool, er_str, sps_len, sps_get hil, hil, hs, spav, AV.fits, AV.one, List.all_cons, List.all_nil, Nat.reduceBEq, Bool.and_true, Bool.not_false, Bool.and_self, Nat.zero_add, splice, List.take, List.drop, Nat.reduceLeDiff, St.set_set]
    have o2 := o1.other wf (k := 6) (.obj [.int .u64 (s.tr : Int), .int .u64 (s.id : Int), .int .i64 s.st, .int .i64 s.en, .sl (bytesAV s.da) .none]) (b := σ'.next + 3) (by omega)
    have hb5 : ((σ'.up 6).set (σ'.next + 3) (.obj [.int .u64 (s.tr : Int), .int .u64 (s.id : Int), .int .i64 s.st, .int .i64 s.en, .sl (bytesAV s.da) .none])).res (σ'.next + 3) = some (.obj [.int .u64 (s.tr : Int), .int .u64 (s.id : Int), .int .i64 s.st, .int .i64 s.en, .sl (bytesAV s.da) .none]) := by simp
    have hbn : σ'.next + 3 < ((σ'.up 6).set (σ'.next + 3) (.obj [.int .u64 (s.tr : Int), .int .u64 (s.id : Int), .int .i64 s.st, .int .i64 s.en, .sl (bytesAV s.da) .none])).next := by simp
    have hbm : σ'.next + 3 ≠ m := by have := o1.m1; omega
    clear o1
    generalize ((σ'.up 6).set (σ'.next + 3) (.obj [.int .u64 (s.tr : Int), .int .u64 (s.id : Int), .int .i64 s.st, .int .i64 s.en, .sl (bytesAV s.da) .none])) = σ2 at o2 hb5 hbn ⊢
    generalize σ'.next + 3 = b at hb5 hbn hbm ⊢
    refine h3 _ _ ?_
    try clear h3 K_h3
    have ha := o2.obj
    rw [tccells] at ha
    have hm2 := o2.map
    refine T.seq_k (fun K_h3 h3 => ?_)
    refine T.seq_k (fun K_h4 h4 => ?_)
    -- the four parts
    have fin : okAt t i = false → ∀ ρ' : List AV, ρ'.getD 2 .any = .bool false → Fin σ [.t 2] (fun v σ' => v = .bool (oneB t) ∧ σ' = σ) .ret ρ' σ2 := by
      intro hf ρ' hρ
      refine Fin.quiet (xs := [ρ'.getD 2 .any]) rfl (by rw [hρ]; trivial) o2.old ⟨?_, rfl⟩
      rw [one_false hil hf, hρ]; rfl
    by_cases c1 : s.tr = t.id
    case neg =>
      have e1 : ((s.tr : Int) != (t.id : Int)) = true := by simp; omega
      refine T.regt hm tS_ok ?_
      simp only [↓reduceIte, namesOf, List.any, I.names, aops, aopsI, aopsT, qstep, CPt, qget, Tbl.get, astep, ev, setd, List.set, List.getD, List.getElem?_cons_zero, List.getElem?_cons_succ, List.getElem?_nil, List.cons_append, List.nil_append, List.length_cons, List.length_nil, List.replicate, then_normal, inBlock_normal, Option.getD_some, Option.getD_none, Bool.or_false, Bool.or_true, Bool.true_or, Bool.false_or, Bool.false_eq_true, if_false, if_true, up_zero, Nat.reduceAdd, Nat.reduceSub, binv, ↓opt_def, AV.isAny, AV.cells, ldc, List.map_cons, List.map_nil, St.set_next, St.set_same, St.up_next, Int.natCast_nonneg, lt_len, le_len, Int.toNat_natCast, true_and, and_true, eq_self, reduceCtorEq, decide_true, List.length_singleton, er_int, er_bool, er_str, Nat.reduceEqDiff, tS, n_scmp, n_may, hb5, ha, e1, reduceCtorEq]
      refine h4 _ _ ?_
      try clear h4 K_h4
      refine T.cond rfl (fun _ => ?_) (fun h => by cases h)
      refine T.seq_k (fun K_h4 h4 => ?_)
      refine T.regi hm ?_
      simp only [↓reduceIte, namesOf, List.any, I.names, aops, aopsI, aopsT, qstep, CPt, qget, Tbl.get, astep, ev, setd, List.set, List.getD, List.getElem?_cons_zero, List.getElem?_cons_succ, List.getElem?_nil, List.cons_append, List.nil_append, List.length_cons, List.length_nil, List.replicate, then_normal, inBlock_normal, Option.getD_some, Option.getD_none, Bool.or_false, Bool.or_true, Bool.true_or, Bool.false_or, Bool.false_eq_true, if_false, if_true, up_zero, Nat.reduceAdd, Nat.reduceSub, binv, ↓opt_def, AV.isAny, AV.cells, ldc, List.map_cons, List.map_nil, St.set_next, St.set_same, St.up_next, Int.natCast_nonneg, lt_len, le_len, Int.toNat_natCast, true_and, and_true, eq_self, reduceCtorEq, decide_true, List.length_singleton, er_int, er_bool, er_str]
      refine h4 _ _ ?_
      try clear h4 K_h4
      exact T.ret (fin (by unfold okAt; simp [hsi, c1]) _ rfl)
    have e1 : ((s.tr : Int) != (t.id : Int)) = false := by simp; omega
    cases c2 : mayS s with
    | false =>
      have e2 : mayI s.st s.en (bytesAV s.da).length = false := by rw [bytesAV_len]; exact c2
      refine T.regt hm tS_ok ?_
      simp only [↓reduceIte, namesOf, List.any, I.names, aops, aopsI, aopsT, qstep, CPt, qget, Tbl.get, astep, ev, setd, List.set, List.getD, List.getElem?_cons_zero, List.getElem?_cons_succ, List.getElem?_nil, List.cons_append, List.nil_append, List.length_cons, List.length_nil, List.replicate, then_normal, inBlock_normal, Option.getD_some, Option.getD_none, Bool.or_false, Bool.or_true, Bool.true_or, Bool.false_or, Bool.false_eq_true, if_false, if_true, up_zero, Nat.reduceAdd, Nat.reduceSub, binv, ↓opt_def, AV.isAny, AV.cells, ldc, List.map_cons, List.map_nil, St.set_next, St.set_same, St.up_next, Int.natCast_nonneg, lt_len, le_len, Int.toNat_natCast, true_and, and_true, eq_self, reduceCtorEq, decide_true, List.length_singleton, er_int, er_bool, er_str, Nat.reduceEqDiff, tS, n_scmp, n_may, hb5, ha, e1, g_may, e2, AV.fits, AV.one, List.all_cons, List.all_nil, Nat.reduceBEq, Bool.and_true, Bool.not_false, Bool.and_self, Nat.zero_add, splice, List.take, List.drop, Nat.reduceLeDiff, Bool.not_false, reduceCtorEq]
      refine h4 _ _ ?_
      try clear h4 K_h4
      refine T.cond rfl (fun _ => ?_) (fun h => by cases h)
      refine T.seq_k (fun K_h4 h4 => ?_)
      refine T.regi hm ?_
      simp only [↓reduceIte, namesOf, List.any, I.names, aops, aopsI, aopsT, qstep, CPt, qget, Tbl.get, astep, ev, setd, List.set, List.getD, List.getElem?_cons_zero, List.getElem?_cons_succ, List.getElem?_nil, List.cons_append, List.nil_append, List.length_cons, List.length_nil, List.replicate, then_normal, inBlock_normal, Option.getD_some, Option.getD_none, Bool.or_false, Bool.or_true, Bool.true_or, Bool.false_or, Bool.false_eq_true, if_false, if_true, up_zero, Nat.reduceAdd, Nat.reduceSub, binv, ↓opt_def, AV.isAny, AV.cells, ldc, List.map_cons, List.map_nil, St.set_next, St.set_same, St.up_next, Int.natCast_nonneg, lt_len, le_len, Int.toNat_natCast, true_and, and_true, eq_self, reduceCtorEq, decide_true, List.length_singleton, er_int, er_bool, er_str]
      refine h4 _ _ ?_
      try clear h4 K_h4
      exact T.ret (fin (by unfold okAt; simp [hsi, c2]) _ rfl)
    | true =>
    have e2 : mayI s.st s.en (bytesAV s.da).length = true := by rw [bytesAV_len]; exact c2
    cases c3 : ((t.sp.take i).map Sp.id).contains s.id with
    | true =>
      have e3 : mfind (.int .u64 (s.id : Int)) (metAV ((t.sp.take i).map Sp.id)) = some (some (.bool true)) := by rw [met_find, c3]; rfl
      refine T.regt hm tS_ok ?_
      simp only [↓reduceIte, namesOf, List.any, I.names, aops, aopsI, aopsT, qstep, CPt, qget, Tbl.get, astep, ev, setd, List.set, List.getD, List.getElem?_cons_zero, List.getElem?_cons_succ, List.getElem?_nil, List.cons_append, List.nil_append, List.length_cons, List.length_nil, List.replicate, then_normal, inBlock_normal, Option.getD_some, Option.getD_none, Bool.or_false, Bool.or_true, Bool.true_or, Bool.false_or, Bool.false_eq_true, if_false, if_true, up_zero, Nat.reduceAdd, Nat.reduceSub, binv, ↓opt_def, AV.isAny, AV.cells, ldc, List.map_cons, List.map_nil, St.set_next, St.set_same, St.up_next, Int.natCast_nonneg, lt_len, le_len, Int.toNat_natCast, true_and, and_true, eq_self, reduceCtorEq, decide_true, List.length_singleton, er_int, er_bool, er_str, Nat.reduceEqDiff, tS, n_scmp, n_may, hb5, ha, e1, g_may, e2, hm2, e3, kshape, AV.fits, AV.one, List.all_cons, List.all_nil, Nat.reduceBEq, Bool.and_true, Bool.not_false, Bool.and_self, Nat.zero_add, splice, List.take, List.drop, Nat.reduceLeDiff, Bool.not_true, reduceCtorEq]
      refine h4 _ _ ?_
      try clear h4 K_h4
      refine T.cond rfl (fun _ => ?_) (fun h => by cases h)
      refine T.seq_k (fun K_h4 h4 => ?_)
      refine T.regi hm ?_
      simp only [↓reduceIte, namesOf, List.any, I.names, aops, aopsI, aopsT, qstep, CPt, qget, Tbl.get, astep, ev, setd, List.set, List.getD, List.getElem?_cons_zero, List.getElem?_cons_succ, List.getElem?_nil, List.cons_append, List.nil_append, List.length_cons, List.length_nil, List.replicate, then_normal, inBlock_normal, Option.getD_some, Option.getD_none, Bool.or_false, Bool.or_true, Bool.true_or, Bool.false_or, Bool.false_eq_true, if_false, if_true, up_zero, Nat.reduceAdd, Nat.reduceSub, binv, ↓opt_def, AV.isAny, AV.cells, ldc, List.map_cons, List.map_nil, St.set_next, St.set_same, St.up_next, Int.natCast_nonneg, lt_len, le_len, Int.toNat_natCast, true_and, and_true, eq_self, reduceCtorEq, decide_true, List.length_singleton, er_int, er_bool, er_str]
      refine h4 _ _ ?_
      try clear h4 K_h4
      exact T.ret (fin (by unfold okAt; simp only [hsi, c3, Bool.not_true, Bool.and_false, Bool.false_and]) _ rfl)
    | false =>
    have e3 : mfind (.int .u64 (s.id : Int)) (metAV ((t.sp.take i).map Sp.id)) = some none := by rw [met_find, c3]; rfl
    -- what comes behind a good one
    have cont : okAt t i = true → OneSt σ (σ2.set m (.map (mput (.int .u64 (s.id : Int)) (.bool true) (metAV ((t.sp.take i).map Sp.id))) (List.range ((t.sp.take i).map Sp.id).length ++ [((t.sp.take i).map Sp.id).length]) (((t.sp.take i).map Sp.id).length + 1))) a m t ((t.sp.take (i + 1)).map Sp.id) ∧ (List.range (i + 1)).all (okAt t) = true := by
      intro hk
      refine ⟨?_, ?_⟩
      · rw [List.take_succ_eq_append_getElem hil, List.map_append, hs]
        exact o2.put wf ham c3
      · rw [List.range_succ, List.all_append, hpre]; simp [hk]
    have hw := inc64 hil hl
    cases i with
    | zero =>
      have hok : okAt t 0 = true := by unfold okAt; rw [hsi]; simp [c1, c2]
      have hz : decide (((0 : Nat) : Int) > 0) = false := rfl
      refine T.regt hm tS_ok ?_
      simp only [↓reduceIte, namesOf, List.any, I.names, aops, aopsI, aopsT, qstep, CPt, qget, Tbl.get, astep, ev, setd, List.set, List.getD, List.getElem?_cons_zero, List.getElem?_cons_succ, List.getElem?_nil, List.cons_append, List.nil_append, List.length_cons, List.length_nil, List.replicate, then_normal, inBlock_normal, Option.getD_some, Option.getD_none, Bool.or_false, Bool.or_true, Bool.true_or, Bool.false_or, Bool.false_eq_true, if_false, if_true, up_zero, Nat.reduceAdd, Nat.reduceSub, binv, ↓opt_def, AV.isAny, AV.cells, ldc, List.map_cons, List.map_nil, St.set_next, St.set_same, St.up_next, Int.natCast_nonneg, lt_len, le_len, Int.toNat_natCast, true_and, and_true, eq_self, reduceCtorEq, decide_true, List.length_singleton, er_int, er_bool, er_str, Nat.reduceEqDiff, tS, n_scmp, n_may, hb5, ha, e1, g_may, e2, hm2, e3, kshape, AV.fits, AV.one, List.all_cons, List.all_nil, Nat.reduceBEq, Bool.and_true, Bool.not_false, Bool.and_self, Nat.zero_add, splice, List.take, List.drop, Nat.reduceLeDiff, Bool.not_true, reduceCtorEq, hz]
      refine h4 _ _ ?_
      try clear h4 K_h4
      refine T.cond rfl (fun h => by cases h) (fun _ => ?_)
      refine T.skip ?_
      refine h3 _ _ ?_
      try clear h3 K_h3
      refine T.regi hm ?_
      simp only [↓reduceIte, namesOf, List.any, I.names, aops, aopsI, aopsT, qstep, CPt, qget, Tbl.get, astep, ev, setd, List.set, List.getD, List.getElem?_cons_zero, List.getElem?_cons_succ, List.getElem?_nil, List.cons_append, List.nil_append, List.length_cons, List.length_nil, List.replicate, then_normal, inBlock_normal, Option.getD_some, Option.getD_none, Bool.or_false, Bool.or_true, Bool.true_or, Bool.false_or, Bool.false_eq_true, if_false, if_true, up_zero, Nat.reduceAdd, Nat.reduceSub, binv, ↓opt_def, AV.isAny, AV.cells, ldc, List.map_cons, List.map_nil, St.set_next, St.set_same, St.up_next, Int.natCast_nonneg, lt_len, le_len, Int.toNat_natCast, true_and, and_true, eq_self, reduceCtorEq, decide_true, List.length_singleton, er_int, er_bool, er_str, hb5, hm2, e3, kshape]
      refine h2 _ _ ?_
      try clear h2 K_h2
      obtain ⟨k1, k2⟩ := cont hok
      refine T.regi hm ?_
      simp only [↓reduceIte, namesOf, List.any, I.names, aops, aopsI, aopsT, qstep, CPt, qget, Tbl.get, astep, ev, setd, List.set, List.getD, List.getElem?_cons_zero, List.getElem?_cons_succ, List.getElem?_nil, List.cons_append, List.nil_append, List.length_cons, List.length_nil, List.replicate, then_normal, inBlock_normal, Option.getD_some, Option.getD_none, Bool.or_false, Bool.or_true, Bool.true_or, Bool.false_or, Bool.false_eq_true, if_false, if_true, up_zero, Nat.reduceAdd, Nat.reduceSub, binv, ↓opt_def, AV.isAny, AV.cells, ldc, List.map_cons, List.map_nil, St.set_next, St.set_same, St.up_next, Int.natCast_nonneg, lt_len, le_len, Int.toNat_natCast, true_and, and_true, eq_self, reduceCtorEq, decide_true, List.length_singleton, er_int, er_bool, er_str, hw]
      exact ⟨hil, _, _, Gh.keep [1, 3, 8, 9, 10], k1, k2, rfl⟩
    | succ j =>
      have hjl : j < t.sp.length := by omega
      generalize hp : t.sp[j] = p
      have hpj : t.sp[j]? = some p := by rw [← hp]; simp [hjl]
      have hz : decide (((j + 1 : Nat) : Int) > 0) = true := decide_eq_true (by omega)
      have hd : IntKind.i64.wrap (((j + 1 : Nat) : Int) - 1) = (j : Int) := by rw [wrap64 (by omega) (by omega)]; omega
      by_cases c4 : cmpSp p s < 0
      · have hok : okAt t (j + 1) = true := by unfold okAt; rw [hsi]; simp [c1, c2, hpj, c4]; simpa using c3
        have e4 : decide (cmpS p.st p.id p.tr s.st s.id s.tr ≥ 0) = false := decide_eq_false (by have : cmpS p.st p.id p.tr s.st s.id s.tr < 0 := c4; omega)
        refine T.regt hm tS_ok ?_
        simp only [↓reduceIte, namesOf, List.any, I.names, aops, aopsI, aopsT, qstep, CPt, qget, Tbl.get, astep, ev, setd, List.set, List.getD, List.getElem?_cons_zero, List.getElem?_cons_succ, List.getElem?_nil, List.cons_append, List.nil_append, List.length_cons, List.length_nil, List.replicate, then_normal, inBlock_normal, Option.getD_some, Option.getD_none, Bool.or_false, Bool.or_true, Bool.true_or, Bool.false_or, Bool.false_eq_true, if_false, if_true, up_zero, Nat.reduceAdd, Nat.reduceSub, binv, ↓opt_def, AV.isAny, AV.cells, ldc, List.map_cons, List.map_nil, St.set_next, St.set_same, St.up_next, Int.natCast_nonneg, lt_len, le_len, Int.toNat_natCast, true_and, and_true, eq_self, reduceCtorEq, decide_true, List.length_singleton, er_int, er_bool, er_str, Nat.reduceEqDiff, tS, n_scmp, n_may, hb5, ha, e1, g_may, g_scmp, e2, hm2, e3, kshape, AV.fits, AV.one, List.all_cons, List.all_nil, Nat.reduceBEq, Bool.and_true, Bool.not_false, Bool.and_self, Nat.zero_add, splice, List.take, List.drop, Nat.reduceLeDiff, Bool.not_true, reduceCtorEq, hz, hd, sps_len, sps_get hjl, hjl, hp, spav, e4]
        refine h4 _ _ ?_
        try clear h4 K_h4
        refine T.cond rfl (fun h => by cases h) (fun _ => ?_)
        refine T.skip ?_
        refine h3 _ _ ?_
        try clear h3 K_h3
        refine T.regi hm ?_
        simp only [↓reduceIte, namesOf, List.any, I.names, aops, aopsI, aopsT, qstep, CPt, qget, Tbl.get, astep, ev, setd, List.set, List.getD, List.getElem?_cons_zero, List.getElem?_cons_succ, List.getElem?_nil, List.cons_append, List.nil_append, List.length_cons, List.length_nil, List.replicate, then_normal, inBlock_normal, Option.getD_some, Option.getD_none, Bool.or_false, Bool.or_true, Bool.true_or, Bool.false_or, Bool.false_eq_true, if_false, if_true, up_zero, Nat.reduceAdd, Nat.reduceSub, binv, ↓opt_def, AV.isAny, AV.cells, ldc, List.map_cons, List.map_nil, St.set_next, St.set_same, St.up_next, Int.natCast_nonneg, lt_len, le_len, Int.toNat_natCast, true_and, and_true, eq_self, reduceCtorEq, decide_true, List.length_singleton, er_int, er_bool, er_str, hb5, hm2, e3, kshape]
        refine h2 _ _ ?_
        try clear h2 K_h2
        obtain ⟨k1, k2⟩ := cont hok
        refine T.regi hm ?_
        simp only [↓reduceIte, namesOf, List.any, I.names, aops, aopsI, aopsT, qstep, CPt, qget, Tbl.get, astep, ev, setd, List.set, List.getD, List.getElem?_cons_zero, List.getElem?_cons_succ, List.getElem?_nil, List.cons_append, List.nil_append, List.length_cons, List.length_nil, List.replicate, then_normal, inBlock_normal, Option.getD_some, Option.getD_none, Bool.or_false, Bool.or_true, Bool.true_or, Bool.false_or, Bool.false_eq_true, if_false, if_true, up_zero, Nat.reduceAdd, Nat.reduceSub, binv, ↓opt_def, AV.isAny, AV.cells, ldc, List.map_cons, List.map_nil, St.set_next, St.set_same, St.up_next, Int.natCast_nonneg, lt_len, le_len, Int.toNat_natCast, true_and, and_true, eq_self, reduceCtorEq, decide_true, List.length_singleton, er_int, er_bool, er_str, hw]
        exact ⟨hil, _, _, Gh.keep [1, 3, 8, 9, 10], k1, k2, rfl⟩
      · have e4 : decide (cmpS p.st p.id p.tr s.st s.id s.tr ≥ 0) = true := decide_eq_true (by have : ¬ cmpS p.st p.id p.tr s.st s.id s.tr < 0 := c4; omega)
        refine T.regt hm tS_ok ?_
        simp only [↓reduceIte, namesOf, List.any, I.names, aops, aopsI, aopsT, qstep, CPt, qget, Tbl.get, astep, ev, setd, List.set, List.getD, List.getElem?_cons_zero, List.getElem?_cons_succ, List.getElem?_nil, List.cons_append, List.nil_append, List.length_cons, List.length_nil, List.replicate, then_normal, inBlock_normal, Option.getD_some, Option.getD_none, Bool.or_false, Bool.or_true, Bool.true_or, Bool.false_or, Bool.false_eq_true, if_false, if_true, up_zero, Nat.reduceAdd, Nat.reduceSub, binv, ↓opt_def, AV.isAny, AV.cells, ldc, List.map_cons, List.map_nil, St.set_next, St.set_same, St.up_next, Int.natCast_nonneg, lt_len, le_len, Int.toNat_natCast, true_and, and_true, eq_self, reduceCtorEq, decide_true, List.length_singleton, er_int, er_bool, er_str, Nat.reduceEqDiff, tS, n_scmp, n_may, hb5, ha, e1, g_may, g_scmp, e2, hm2, e3, kshape, AV.fits, AV.one, List.all_cons, List.all_nil, Nat.reduceBEq, Bool.and_true, Bool.not_false, Bool.and_self, Nat.zero_add, splice, List.take, List.drop, Nat.reduceLeDiff, Bool.not_true, reduceCtorEq, hz, hd, sps_len, sps_get hjl, hjl, hp, spav, e4]
        refine h4 _ _ ?_
        try clear h4 K_h4
        refine T.cond rfl (fun _ => ?_) (fun h => by cases h)
        refine T.seq_k (fun K_h4 h4 => ?_)
        refine T.regi hm ?_
        simp only [↓reduceIte, namesOf, List.any, I.names, aops, aopsI, aopsT, qstep, CPt, qget, Tbl.get, astep, ev, setd, List.set, List.getD, List.getElem?_cons_zero, List.getElem?_cons_succ, List.getElem?_nil, List.cons_append, List.nil_append, List.length_cons, List.length_nil, List.replicate, then_normal, inBlock_normal, Option.getD_some, Option.getD_none, Bool.or_false, Bool.or_true, Bool.true_or, Bool.false_or, Bool.false_eq_true, if_false, if_true, up_zero, Nat.reduceAdd, Nat.reduceSub, binv, ↓opt_def, AV.isAny, AV.cells, ldc, List.map_cons, List.map_nil, St.set_next, St.set_same, St.up_next, Int.natCast_nonneg, lt_len, le_len, Int.toNat_natCast, true_and, and_true, eq_self, reduceCtorEq, decide_true, List.length_singleton, er_int, er_bool, er_str]
        refine h4 _ _ ?_
        try clear h4 K_h4
        exact T.ret (fin (by unfold okAt; rw [hsi]; simp [hpj, c4]) _ rfl)
  · refine T.exit ?_
    have : i = t.sp.length := by simp at hb; omega
    subst this
    try simp only [↓reduceIte, namesOf, List.any, I.names, aops, aopsI, aopsT, qstep, CPt, qget, Tbl.get, astep, ev, setd, List.set, List.getD, List.getElem?_cons_zero, List.getElem?_cons_succ, List.getElem?_nil, List.cons_append, List.nil_append, List.length_cons, List.length_nil, List.replicate, then_normal, inBlock_normal, Option.getD_some, Option.getD_none, Bool.or_false, Bool.or_true, Bool.true_or, Bool.false_or, Bool.false_eq_true, if_false, if_true, up_zero, Nat.reduceAdd, Nat.reduceSub, binv, ↓opt_def, AV.isAny, AV.cells, ldc, List.map_cons, List.map_nil, St.set_next, St.set_same, St.up_next, Int.natCast_nonneg, lt_len, le_len, Int.toNat_natCast, true_and, and_true, eq_self, reduceCtorEq, decide_true, List.length_singleton, er_int, er_bool, er_str, inBlock_exit, then_exit]
    refine h1 _ _ ?_
    try clear h1 K_h1
    have ha := o1.obj
    rw [tccells] at ha
    refine T.seq_k (fun K_h1 h1 => ?_)
    have fin : ∀ (x : Bool) (ρ' : List AV), oneB t = x → ρ'.getD 2 .any = .bool x → Fin σ [.t 2] (fun v σ' => v = .bool (oneB t) ∧ σ' = σ) .ret ρ' σ' := by
      intro x ρ' hx hρ
      refine Fin.quiet (xs := [ρ'.getD 2 .any]) rfl (by rw [hρ]; trivial) o1.old ⟨?_, rfl⟩
      rw [hx, hρ]; rfl
    by_cases c1 : 1 ≤ t.sp.length
    · have e1 : decide ((t.sp.length : Int) ≥ 1) = true := decide_eq_true (by omega)
      refine T.regi hm ?_
      simp only [↓reduceIte, namesOf, List.any, I.names, aops, aopsI, aopsT, qstep, CPt, qget, Tbl.get, astep, ev, setd, List.set, List.getD, List.getElem?_cons_zero, List.getElem?_cons_succ, List.getElem?_nil, List.cons_append, List.nil_append, List.length_cons, List.length_nil, List.replicate, then_normal, inBlock_normal, Option.getD_some, Option.getD_none, Bool.or_false, Bool.or_true, Bool.true_or, Bool.false_or, Bool.false_eq_true, if_false, if_true, up_zero, Nat.reduceAdd, Nat.reduceSub, binv, ↓opt_def, AV.isAny, AV.cells, ldc, List.map_cons, List.map_nil, St.set_next, St.set_same, St.up_next, Int.natCast_nonneg, lt_len, le_len, Int.toNat_natCast, true_and, and_true, eq_self, reduceCtorEq, decide_true, List.length_singleton, er_int, er_bool, er_str, ha, sps_len, e1]
      refine h1 _ _ ?_
      try clear h1 K_h1
      refine T.ret (fin _ _ ?_ rfl)
      unfold oneB
      rw [hpre, decide_eq_true c1]
      have : decide ((t.sp.length : Int) ≤ 100) = decide (t.sp.length ≤ 100) := by rw [decide_eq_decide]; omega
      rw [this]; rfl
    · have e1 : decide ((t.sp.length : Int) ≥ 1) = false := decide_eq_false (by omega)
      refine T.regi hm ?_
      simp only [↓reduceIte, namesOf, List.any, I.names, aops, aopsI, aopsT, qstep, CPt, qget, Tbl.get, astep, ev, setd, List.set, List.getD, List.getElem?_cons_zero, List.getElem?_cons_succ, List.getElem?_nil, List.cons_append, List.nil_append, List.length_cons, List.length_nil, List.replicate, then_normal, inBlock_normal, Option.getD_some, Option.getD_none, Bool.or_false, Bool.or_true, Bool.true_or, Bool.false_or, Bool.false_eq_true, if_false, if_true, up_zero, Nat.reduceAdd, Nat.reduceSub, binv, ↓opt_def, AV.isAny, AV.cells, ldc, List.map_cons, List.map_nil, St.set_next, St.set_same, St.up_next, Int.natCast_nonneg, lt_len, le_len, Int.toNat_natCast, true_and, and_true, eq_self, reduceCtorEq, decide_true, List.length_singleton, er_int, er_bool, er_str, ha, sps_len, e1]
      refine h1 _ _ ?_
      try clear h1 K_h1
      refine T.ret (fin _ _ ?_ rfl)
      unfold oneB
      rw [hpre, decide_eq_false c1]; rfl

end Go.VL

namespace Go.VL

open Go.Proofs

abbrev n_wtext : Nat := 166

def c_wtext : C := (.seq (.reg [⟨(some 4), (.mv (.c (.sl [] .nil))), none⟩, ⟨(some 5), (.mv (.c .nili)), none⟩]) (.seq (.seq (.reg [⟨(some 8), (.mv (.t 1)), none⟩, ⟨(some 9), (.len (.t 8)), none⟩, ⟨(some 10), (.bin .gtr .i64 (.t 9) (.c (.int .i64 65535))), none⟩]) (.cond (.t 10) (.seq (.reg [⟨(some 11), (.mkI 31 (.c (.int .i64 3))), none⟩, ⟨(some 4), (.mv (.c (.sl [] .nil))), none⟩, ⟨(some 5), (.mv (.t 11)), none⟩]) .ret) .skip)) (.seq (.reg [⟨(some 13), (.mv (.t 0)), none⟩, ⟨(some 14), (.mv (.t 1)), none⟩, ⟨(some 15), (.len (.t 14)), none⟩, ⟨(some 16), (.conv .u64 (.t 15)), none⟩, ⟨(some 17), (.call 66 [(.t 13), (.c (.int .i64 2)), (.t 16)]), none⟩, ⟨(some 12), (.mv (.t 17)), none⟩, ⟨(some 18), (.ext (.t 12) 0), none⟩, ⟨(some 19), (.ext (.t 12) 1), none⟩, ⟨(some 6), (.mv (.t 18)), none⟩, ⟨(some 7), (.mv (.t 19)), none⟩]) (.seq (.reg [⟨(some 20), (.mv (.t 6)), none⟩, ⟨(some 21), (.mv (.t 1)), none⟩, ⟨(some 22), (.app 1 1 .tip (.t 20) (.t 21)), none⟩, ⟨(some 23), (.mv (.t 7)), none⟩, ⟨(some 4), (.mv (.t 22)), none⟩, ⟨(some 5), (.mv (.t 23)), none⟩]) .ret))))

set_option maxRecDepth 100000 in
theorem k_wtext : compileC Try.prog ann (Try.f166.body.getD .skip) = some c_wtext := by kernel_rfl

theorem s_wtext {args : List AV} {σ : St} {K : AV → St → Prop} (h : WF σ → T Try.prog ann c_wtext (Fin σ [(.t 4), (.t 5)] K) (args ++ List.replicate (24 - args.length) (.tup [])) σ) : ACalls Try.prog n_wtext args σ K :=
  calls_ok Try.func166 (by kernel_rfl) (by kernel_rfl) k_wtext (by kernel_rfl) (by kernel_rfl) h

abbrev n_sput1 : Nat := 147

def c_sput1 : C := (.seq (.reg [⟨(some 1), (.box (.t 0)), none⟩, ⟨(some 2), (.mv (.c (.sl [] .nil))), none⟩, ⟨(some 3), (.mv (.c .nili)), none⟩]) (.seq (.reg [⟨(some 4), (.mv (.c (.sl [] .nil))), none⟩]) (.seq (.seq (.reg [⟨(some 9), (.faddr 0 (.t 1)), none⟩, ⟨(some 10), (.load none (.t 9)), none⟩, ⟨(some 11), (.faddr 1 (.t 1)), none⟩, ⟨(some 12), (.load none (.t 11)), none⟩, ⟨(some 13), (.faddr 2 (.t 1)), none⟩, ⟨(some 14), (.load none (.t 13)), none⟩, ⟨(some 15), (.conv .u64 (.t 14)), none⟩, ⟨(some 16), (.faddr 3 (.t 1)), none⟩, ⟨(some 17), (.load none (.t 16)), none⟩, ⟨(some 18), (.conv .u64 (.t 17)), none⟩, ⟨(some 19), (.bslice 1 .val [(.t 10), (.t 12), (.t 15), (.t 18)]), none⟩, ⟨(some 20), (.len (.t 19)), none⟩, ⟨(some 21), (.mv (.c (.int .i64 0))), none⟩]) (.block 0 (.loop (.seq (.reg [⟨(some 22), (.bin .lss .i64 (.t 21) (.t 20)), none⟩]) (.seq (.cond (.t 22) .skip (.exit 0)) (.seq (.block 1 (.seq (.reg [⟨(some 23), (.iaddr 1 (.t 19) (.t 21)), none⟩, ⟨(some 24), (.load none (.t 23)), none⟩, ⟨(some 6), (.mv (.t 24)), none⟩]) (.seq (.reg [⟨(some 26), (.mv (.t 4)), none⟩, ⟨(some 27), (.mv (.t 6)), none⟩, ⟨(some 28), (.call 66 [(.t 26), (.c (.int .i64 8)), (.t 27)]), none⟩, ⟨(some 25), (.mv (.t 28)), none⟩, ⟨(some 29), (.ext (.t 25) 0), none⟩, ⟨(some 30), (.ext (.t 25) 1), none⟩, ⟨(some 7), (.mv (.t 29)), none⟩, ⟨(some 8), (.mv (.t 30)), none⟩]) (.seq (.seq (.reg [⟨(some 31), (.mv (.t 8)), none⟩, ⟨(some 32), (.eqI true true [(31, .i64)] (.t 31) (.c .nili)), none⟩]) (.cond (.t 32) (.seq (.reg [⟨(some 33), (.mv (.t 8)), none⟩, ⟨(some 2), (.mv (.c (.sl [] .nil))), none⟩, ⟨(some 3), (.mv (.t 33)), none⟩]) .ret) .skip)) (.reg [⟨(some 34), (.mv (.t 7)), none⟩, ⟨(some 4), (.mv (.t 34)), none⟩]))))) (.reg [⟨(some 35), (.bin .add .i64 (.t 21) (.c (.int .i64 1))), none⟩, ⟨(some 21), (.mv (.t 35)), none⟩]))))))) (.seq (.reg [⟨(some 36), (.mv (.t 4)), none⟩, ⟨(some 37), (.faddr 4 (.t 1)), none⟩, ⟨(some 38), (.load none (.t 37)), none⟩, ⟨(some 39), (.call 166 [(.t 36), (.t 38)]), none⟩, ⟨(some 40), (.ext (.t 39) 0), none⟩, ⟨(some 41), (.ext (.t 39) 1), none⟩, ⟨(some 2), (.mv (.t 40)), none⟩, ⟨(some 3), (.mv (.t 41)), none⟩]) .ret))))

set_option maxRecDepth 100000 in
theorem k_sput1 : compileC Try.prog ann (Try.f147.body.getD .skip) = some c_sput1 := by kernel_rfl

theorem s_sput1 {args : List AV} {σ : St} {K : AV → St → Prop} (h : WF σ → T Try.prog ann c_sput1 (Fin σ [(.t 2), (.t 3)] K) (args ++ List.replicate (42 - args.length) (.tup [])) σ) : ACalls Try.prog n_sput1 args σ K :=
  calls_ok Try.func147 (by kernel_rfl) (by kernel_rfl) k_sput1 (by kernel_rfl) (by kernel_rfl) h

abbrev n_spput : Nat := 108

def c_spput : C := (.seq (.reg [⟨(some 2), (.mv (.c (.sl [] .nil))), none⟩, ⟨(some 3), (.mv (.c .nili)), none⟩]) (.seq (.seq (.reg [⟨(some 10), (.mv (.t 0)), none⟩, ⟨(some 11), (.len (.t 10)), none⟩, ⟨(some 12), (.bin .gtr .i64 (.t 11) (.c (.int .i64 65535))), none⟩]) (.cond (.t 12) (.seq (.reg [⟨(some 13), (.mkI 31 (.c (.int .i64 3))), none⟩, ⟨(some 2), (.mv (.c (.sl [] .nil))), none⟩, ⟨(some 3), (.mv (.t 13)), none⟩]) .ret) .skip)) (.seq (.reg [⟨(some 15), (.mv (.t 0)), none⟩, ⟨(some 16), (.len (.t 15)), none⟩, ⟨(some 17), (.conv .u64 (.t 16)), none⟩, ⟨(some 18), (.call 66 [(.c (.sl [] .nil)), (.c (.int .i64 2)), (.t 17)]), none⟩, ⟨(some 14), (.mv (.t 18)), none⟩, ⟨(some 19), (.ext (.t 14) 0), none⟩, ⟨(some 20), (.ext (.t 14) 1), none⟩, ⟨(some 4), (.mv (.t 19)), none⟩, ⟨(some 5), (.mv (.t 20)), none⟩]) (.seq (.seq (.reg [⟨(some 21), (.mv (.t 5)), none⟩, ⟨(some 22), (.eqI true true [(31, .i64)] (.t 21) (.c .nili)), none⟩]) (.cond (.t 22) (.seq (.reg [⟨(some 23), (.mv (.t 5)), none⟩, ⟨(some 2), (.mv (.c (.sl [] .nil))), none⟩, ⟨(some 3), (.mv (.t 23)), none⟩]) .ret) .skip)) (.seq (.seq (.reg [⟨(some 24), (.mv (.t 0)), none⟩, ⟨(some 25), (.len (.t 24)), none⟩, ⟨(some 26), (.mv (.c (.int .i64 0))), none⟩]) (.block 0 (.loop (.seq (.reg [⟨(some 27), (.bin .lss .i64 (.t 26) (.t 25)), none⟩]) (.seq (.cond (.t 27) .skip (.exit 0)) (.seq (.block 1 (.seq (.reg [⟨(some 28), (.iaddr 5 (.t 24) (.t 26)), none⟩, ⟨(some 29), (.load (some 5) (.t 28)), none⟩, ⟨(some 7), (.alloc [(.int .u64 0), (.int .u64 0), (.int .i64 0), (.int .i64 0), (.sl [] .nil)]), none⟩, ⟨none, (.store 5 (.t 7) (.t 29)), none⟩]) (.seq (.seq (.reg [⟨(some 30), (.load (some 5) (.t 7)), none⟩, ⟨(some 31), (.call 118 [(.t 30)]), none⟩, ⟨(some 32), (.not (.t 31)), none⟩]) (.cond (.t 32) (.seq (.reg [⟨(some 33), (.mkI 31 (.c (.int .i64 1))), none⟩, ⟨(some 2), (.mv (.c (.sl [] .nil))), none⟩, ⟨(some 3), (.mv (.t 33)), none⟩]) .ret) .skip)) (.seq (.reg [⟨(some 35), (.load (some 5) (.t 7)), none⟩, ⟨(some 36), (.call 147 [(.t 35)]), none⟩, ⟨(some 34), (.mv (.t 36)), none⟩, ⟨(some 37), (.ext (.t 34) 0), none⟩, ⟨(some 38), (.ext (.t 34) 1), none⟩, ⟨(some 8), (.mv (.t 37)), none⟩, ⟨(some 9), (.mv (.t 38)), none⟩]) (.seq (.seq (.reg [⟨(some 39), (.mv (.t 9)), none⟩, ⟨(some 40), (.eqI true true [(31, .i64)] (.t 39) (.c .nili)), none⟩]) (.cond (.t 40) (.seq (.reg [⟨(some 41), (.mv (.t 9)), none⟩, ⟨(some 2), (.mv (.c (.sl [] .nil))), none⟩, ⟨(some 3), (.mv (.t 41)), none⟩]) .ret) .skip)) (.reg [⟨(some 42), (.mv (.t 4)), none⟩, ⟨(some 43), (.mv (.t 8)), none⟩, ⟨(some 44), (.app 1 1 .tip (.t 42) (.t 43)), none⟩, ⟨(some 4), (.mv (.t 44)), none⟩])))))) (.reg [⟨(some 45), (.bin .add .i64 (.t 26) (.c (.int .i64 1))), none⟩, ⟨(some 26), (.mv (.t 45)), none⟩]))))))) (.seq (.reg [⟨(some 46), (.mv (.t 4)), none⟩, ⟨(some 2), (.mv (.t 46)), none⟩, ⟨(some 3), (.mv (.c .nili)), none⟩]) .ret))))))

set_option maxRecDepth 100000 in
theorem k_spput : compileC Try.prog ann (Try.f108.body.getD .skip) = some c_spput := by kernel_rfl

theorem s_spput {args : List AV} {σ : St} {K : AV → St → Prop} (h : WF σ → T Try.prog ann c_spput (Fin σ [(.t 2), (.t 3)] K) (args ++ List.replicate (47 - args.length) (.tup [])) σ) : ACalls Try.prog n_spput args σ K :=
  calls_ok Try.func108 (by kernel_rfl) (by kernel_rfl) k_spput (by kernel_rfl) (by kernel_rfl) h

abbrev n_pput1 : Nat := 62

def c_pput1 : C := (.seq (.reg [⟨(some 1), (.box (.t 0)), none⟩, ⟨(some 2), (.mv (.c (.sl [] .nil))), none⟩, ⟨(some 3), (.mv (.c .nili)), none⟩]) (.seq (.reg [⟨(some 8), (.faddr 1 (.t 1)), none⟩, ⟨(some 9), (.load none (.t 8)), none⟩, ⟨(some 10), (.call 108 [(.t 9)]), none⟩, ⟨(some 7), (.mv (.t 10)), none⟩, ⟨(some 11), (.ext (.t 7) 0), none⟩, ⟨(some 12), (.ext (.t 7) 1), none⟩, ⟨(some 4), (.mv (.t 11)), none⟩, ⟨(some 5), (.mv (.t 12)), none⟩]) (.seq (.seq (.reg [⟨(some 13), (.mv (.t 5)), none⟩, ⟨(some 14), (.eqI true true [(31, .i64)] (.t 13) (.c .nili)), none⟩]) (.cond (.t 14) (.seq (.reg [⟨(some 15), (.mv (.t 5)), none⟩, ⟨(some 2), (.mv (.c (.sl [] .nil))), none⟩, ⟨(some 3), (.mv (.t 15)), none⟩]) .ret) .skip)) (.seq (.reg [⟨(some 17), (.faddr 0 (.t 1)), none⟩, ⟨(some 18), (.load none (.t 17)), none⟩, ⟨(some 19), (.call 66 [(.c (.sl [] .nil)), (.c (.int .i64 8)), (.t 18)]), none⟩, ⟨(some 16), (.mv (.t 19)), none⟩, ⟨(some 20), (.ext (.t 16) 0), none⟩, ⟨(some 21), (.ext (.t 16) 1), none⟩, ⟨(some 6), (.mv (.t 20)), none⟩, ⟨(some 5), (.mv (.t 21)), none⟩]) (.seq (.seq (.reg [⟨(some 22), (.mv (.t 5)), none⟩, ⟨(some 23), (.eqI true true [(31, .i64)] (.t 22) (.c .nili)), none⟩]) (.cond (.t 23) (.seq (.reg [⟨(some 24), (.mv (.t 5)), none⟩, ⟨(some 2), (.mv (.c (.sl [] .nil))), none⟩, ⟨(some 3), (.mv (.t 24)), none⟩]) .ret) .skip)) (.seq (.reg [⟨(some 26), (.mv (.t 6)), none⟩, ⟨(some 27), (.mv (.t 4)), none⟩, ⟨(some 28), (.len (.t 27)), none⟩, ⟨(some 29), (.conv .u64 (.t 28)), none⟩, ⟨(some 30), (.call 66 [(.t 26), (.c (.int .i64 4)), (.t 29)]), none⟩, ⟨(some 25), (.mv (.t 30)), none⟩, ⟨(some 31), (.ext (.t 25) 0), none⟩, ⟨(some 32), (.ext (.t 25) 1), none⟩, ⟨(some 6), (.mv (.t 31)), none⟩, ⟨(some 5), (.mv (.t 32)), none⟩]) (.seq (.reg [⟨(some 33), (.mv (.t 6)), none⟩, ⟨(some 34), (.mv (.t 4)), none⟩, ⟨(some 35), (.app 1 1 .tip (.t 33) (.t 34)), none⟩, ⟨(some 36), (.mv (.t 5)), none⟩, ⟨(some 2), (.mv (.t 35)), none⟩, ⟨(some 3), (.mv (.t 36)), none⟩]) .ret)))))))

set_option maxRecDepth 100000 in
theorem k_pput1 : compileC Try.prog ann (Try.f62.body.getD .skip) = some c_pput1 := by kernel_rfl

theorem s_pput1 {args : List AV} {σ : St} {K : AV → St → Prop} (h : WF σ → T Try.prog ann c_pput1 (Fin σ [(.t 2), (.t 3)] K) (args ++ List.replicate (37 - args.length) (.tup [])) σ) : ACalls Try.prog n_pput1 args σ K :=
  calls_ok Try.func62 (by kernel_rfl) (by kernel_rfl) k_pput1 (by kernel_rfl) (by kernel_rfl) h

abbrev n_ppput : Nat := 18

def c_ppput : C := (.seq (.reg [⟨(some 2), (.mv (.c (.sl [] .nil))), none⟩, ⟨(some 3), (.mv (.c .nili)), none⟩]) (.seq (.seq (.reg [⟨(some 10), (.mv (.t 0)), none⟩, ⟨(some 11), (.call 61 [(.t 10)]), none⟩, ⟨(some 12), (.not (.t 11)), none⟩, ⟨(some 13), (.mv (.t 12)), none⟩, ⟨(some 14), (.mv (.t 0)), (some (13, false))⟩, ⟨(some 15), (.len (.t 14)), (some (13, false))⟩, ⟨(some 16), (.bin .gtr .i64 (.t 15) (.c (.int .i64 64))), (some (13, false))⟩, ⟨(some 17), (.pick (.t 13) (.c (.bool true)) (.t 16)), none⟩]) (.cond (.t 17) (.seq (.reg [⟨(some 18), (.mkI 31 (.c (.int .i64 1))), none⟩, ⟨(some 2), (.mv (.c (.sl [] .nil))), none⟩, ⟨(some 3), (.mv (.t 18)), none⟩]) .ret) .skip)) (.seq (.reg [⟨(some 20), (.mv (.t 0)), none⟩, ⟨(some 21), (.len (.t 20)), none⟩, ⟨(some 22), (.conv .u64 (.t 21)), none⟩, ⟨(some 23), (.call 66 [(.c (.sl [] .nil)), (.c (.int .i64 2)), (.t 22)]), none⟩, ⟨(some 19), (.mv (.t 23)), none⟩, ⟨(some 24), (.ext (.t 19) 0), none⟩, ⟨(some 25), (.ext (.t 19) 1), none⟩, ⟨(some 4), (.mv (.t 24)), none⟩, ⟨(some 5), (.mv (.t 25)), none⟩]) (.seq (.seq (.reg [⟨(some 26), (.mv (.t 5)), none⟩, ⟨(some 27), (.eqI true true [(31, .i64)] (.t 26) (.c .nili)), none⟩]) (.cond (.t 27) (.seq (.reg [⟨(some 28), (.mv (.t 5)), none⟩, ⟨(some 2), (.mv (.c (.sl [] .nil))), none⟩, ⟨(some 3), (.mv (.t 28)), none⟩]) .ret) .skip)) (.seq (.seq (.reg [⟨(some 29), (.mv (.t 0)), none⟩, ⟨(some 30), (.len (.t 29)), none⟩, ⟨(some 31), (.mv (.c (.int .i64 0))), none⟩]) (.block 0 (.loop (.seq (.reg [⟨(some 32), (.bin .lss .i64 (.t 31) (.t 30)), none⟩]) (.seq (.cond (.t 32) .skip (.exit 0)) (.seq (.block 1 (.seq (.reg [⟨(some 33), (.iaddr 2 (.t 29) (.t 31)), none⟩, ⟨(some 34), (.load (some 2) (.t 33)), none⟩, ⟨(some 7), (.alloc [(.int .u64 0), (.sl [] .nil)]), none⟩, ⟨none, (.store 2 (.t 7) (.t 34)), none⟩]) (.seq (.reg [⟨(some 36), (.load (some 2) (.t 7)), none⟩, ⟨(some 37), (.call 62 [(.t 36)]), none⟩, ⟨(some 35), (.mv (.t 37)), none⟩, ⟨(some 38), (.ext (.t 35) 0), none⟩, ⟨(some 39), (.ext (.t 35) 1), none⟩, ⟨(some 8), (.mv (.t 38)), none⟩, ⟨(some 9), (.mv (.t 39)), none⟩]) (.seq (.seq (.reg [⟨(some 40), (.mv (.t 9)), none⟩, ⟨(some 41), (.eqI true true [(31, .i64)] (.t 40) (.c .nili)), none⟩]) (.cond (.t 41) (.seq (.reg [⟨(some 42), (.mv (.t 9)), none⟩, ⟨(some 2), (.mv (.c (.sl [] .nil))), none⟩, ⟨(some 3), (.mv (.t 42)), none⟩]) .ret) .skip)) (.reg [⟨(some 43), (.mv (.t 4)), none⟩, ⟨(some 44), (.mv (.t 8)), none⟩, ⟨(some 45), (.app 1 1 .tip (.t 43) (.t 44)), none⟩, ⟨(some 4), (.mv (.t 45)), none⟩]))))) (.reg [⟨(some 46), (.bin .add .i64 (.t 31) (.c (.int .i64 1))), none⟩, ⟨(some 31), (.mv (.t 46)), none⟩]))))))) (.seq (.reg [⟨(some 47), (.mv (.t 4)), none⟩, ⟨(some 48), (.call 67 [(.t 47)]), none⟩, ⟨(some 2), (.mv (.t 48)), none⟩, ⟨(some 3), (.mv (.c .nili)), none⟩]) .ret))))))

set_option maxRecDepth 100000 in
theorem k_ppput : compileC Try.prog ann (Try.f18.body.getD .skip) = some c_ppput := by kernel_rfl

theorem s_ppput {args : List AV} {σ : St} {K : AV → St → Prop} (h : WF σ → T Try.prog ann c_ppput (Fin σ [(.t 2), (.t 3)] K) (args ++ List.replicate (49 - args.length) (.tup [])) σ) : ACalls Try.prog n_ppput args σ K :=
  calls_ok Try.func18 (by kernel_rfl) (by kernel_rfl) k_ppput (by kernel_rfl) (by kernel_rfl) h

abbrev n_wtextR : Nat := 117

def c_wtextR : C := (.seq (.reg [⟨(some 4), (.mv (.c (.sl [] .nil))), none⟩]) (.seq (.reg [⟨(some 7), (.mv (.t 0)), none⟩, ⟨(some 8), (.nilCheck (.t 7)), none⟩, ⟨(some 9), (.faddr 1 (.t 8)), none⟩, ⟨(some 10), (.load none (.t 9)), none⟩, ⟨(some 5), (.mv (.t 10)), none⟩]) (.seq (.reg [⟨(some 11), (.mv (.t 0)), none⟩, ⟨(some 12), (.call 70 [(.t 11), (.c (.int .i64 2))]), none⟩, ⟨(some 13), (.conv .i64 (.t 12)), none⟩, ⟨(some 6), (.mv (.t 13)), none⟩]) (.seq (.seq (.reg [⟨(some 14), (.mv (.t 0)), none⟩, ⟨(some 15), (.nilCheck (.t 14)), none⟩, ⟨(some 16), (.faddr 2 (.t 15)), none⟩, ⟨(some 17), (.load none (.t 16)), none⟩, ⟨(some 18), (.bin .eql .i64 (.t 17) (.c (.int .i64 (-1)))), none⟩, ⟨(some 19), (.mv (.t 18)), none⟩, ⟨(some 20), (.mv (.t 6)), (some (19, true))⟩, ⟨(some 21), (.mv (.t 1)), (some (19, true))⟩, ⟨(some 22), (.bin .gtr .i64 (.t 20) (.t 21)), (some (19, true))⟩, ⟨(some 23), (.mv (.t 22)), (some (19, true))⟩, ⟨(some 24), (.mv (.t 6)), (some (23, false))⟩, ⟨(some 25), (.mv (.t 0)), (some (23, false))⟩, ⟨(some 26), (.call 72 [(.t 25)]), (some (23, false))⟩, ⟨(some 27), (.bin .gtr .i64 (.t 24) (.t 26)), (some (23, false))⟩, ⟨(some 28), (.pick (.t 23) (.c (.bool true)) (.t 27)), (some (19, true))⟩, ⟨(some 29), (.pick (.t 19) (.t 28) (.c (.bool false))), none⟩]) (.cond (.t 29) (.seq (.reg [⟨(some 30), (.mv (.t 0)), none⟩, ⟨(some 31), (.mv (.t 5)), none⟩, ⟨(some 32), (.nilCheck (.t 30)), none⟩, ⟨(some 33), (.faddr 1 (.t 32)), none⟩, ⟨none, (.store 1 (.t 33) (.t 31)), none⟩]) (.reg [⟨(some 34), (.mv (.t 0)), none⟩, ⟨(some 35), (.mv (.t 5)), none⟩, ⟨(some 36), (.call 115 [(.t 34), (.t 35)]), none⟩])) .skip)) (.seq (.seq (.reg [⟨(some 37), (.mv (.t 0)), none⟩, ⟨(some 38), (.nilCheck (.t 37)), none⟩, ⟨(some 39), (.faddr 2 (.t 38)), none⟩, ⟨(some 40), (.load none (.t 39)), none⟩, ⟨(some 41), (.bin .neq .i64 (.t 40) (.c (.int .i64 (-1)))), none⟩]) (.cond (.t 41) (.seq (.reg [⟨(some 4), (.mv (.c (.sl [] .nil))), none⟩]) .ret) .skip)) (.seq (.reg [⟨(some 42), (.bslice 1 .tip []), none⟩, ⟨(some 43), (.mv (.t 0)), none⟩, ⟨(some 44), (.mv (.t 6)), none⟩, ⟨(some 45), (.call 116 [(.t 43), (.t 44)]), none⟩, ⟨(some 46), (.app 1 1 .tip (.t 42) (.t 45)), none⟩, ⟨(some 4), (.mv (.t 46)), none⟩]) .ret))))))

set_option maxRecDepth 100000 in
theorem k_wtextR : compileC Try.prog ann (Try.f117.body.getD .skip) = some c_wtextR := by kernel_rfl

theorem s_wtextR {args : List AV} {σ : St} {K : AV → St → Prop} (h : WF σ → T Try.prog ann c_wtextR (Fin σ [(.t 4)] K) (args ++ List.replicate (47 - args.length) (.tup [])) σ) : ACalls Try.prog n_wtextR args σ K :=
  calls_ok Try.func117 (by kernel_rfl) (by kernel_rfl) k_wtextR (by kernel_rfl) (by kernel_rfl) h

abbrev n_spget : Nat := 73

def c_spget : C := (.seq (.reg [⟨(some 2), (.mv (.c (.sl [] .nil))), none⟩, ⟨(some 3), (.mv (.c .nili)), none⟩]) (.seq (.reg [⟨(some 10), (.mv (.t 0)), none⟩, ⟨(some 11), (.call 69 [(.t 10)]), none⟩, ⟨(some 4), (.mv (.t 11)), none⟩]) (.seq (.reg [⟨(some 12), (.mv (.t 4)), none⟩, ⟨(some 13), (.call 70 [(.t 12), (.c (.int .i64 2))]), none⟩, ⟨(some 14), (.conv .i64 (.t 13)), none⟩, ⟨(some 5), (.mv (.t 14)), none⟩]) (.seq (.reg [⟨(some 6), (.mv (.c (.sl [] .nil))), none⟩]) (.seq (.seq (.reg [⟨(some 7), (.mv (.c (.int .i64 0))), none⟩]) (.block 0 (.loop (.seq (.seq (.reg [⟨(some 15), (.mv (.t 7)), none⟩, ⟨(some 16), (.mv (.t 5)), none⟩, ⟨(some 17), (.bin .lss .i64 (.t 15) (.t 16)), none⟩, ⟨(some 18), (.mv (.t 17)), none⟩, ⟨(some 19), (.mv (.t 4)), (some (18, true))⟩, ⟨(some 20), (.call 71 [(.t 19)]), (some (18, true))⟩, ⟨(some 21), (.bin .lss .i64 (.t 20) (.c (.int .i64 0))), (some (18, true))⟩, ⟨(some 22), (.pick (.t 18) (.t 21) (.c (.bool false))), none⟩]) (.cond (.t 22) .skip (.exit 0))) (.seq (.block 1 (.seq (.reg [⟨(some 25), (.mv (.t 0)), none⟩, ⟨(some 26), (.len (.t 25)), none⟩, ⟨(some 27), (.mv (.t 4)), none⟩, ⟨(some 28), (.call 72 [(.t 27)]), none⟩, ⟨(some 29), (.bin .sub .i64 (.t 26) (.t 28)), none⟩, ⟨(some 8), (.mv (.t 29)), none⟩]) (.seq (.reg [⟨(some 30), (.mv (.t 4)), none⟩, ⟨(some 31), (.call 70 [(.t 30), (.c (.int .i64 8))]), none⟩, ⟨(some 32), (.mv (.t 4)), none⟩, ⟨(some 33), (.call 70 [(.t 32), (.c (.int .i64 8))]), none⟩, ⟨(some 34), (.build [(.int .u64 0), (.int .u64 0), (.int .i64 0), (.int .i64 0), (.sl [] .nil)] [(0, (1, (.t 31))), (1, (1, (.t 33)))]), none⟩, ⟨(some 9), (.alloc [(.int .u64 0), (.int .u64 0), (.int .i64 0), (.int .i64 0), (.sl [] .nil)]), none⟩, ⟨none, (.store 5 (.t 9) (.t 34)), none⟩]) (.seq (.reg [⟨(some 35), (.mv (.t 4)), none⟩, ⟨(some 36), (.call 70 [(.t 35), (.c (.int .i64 8))]), none⟩, ⟨(some 37), (.conv .i64 (.t 36)), none⟩, ⟨(some 38), (.faddr 2 (.t 9)), none⟩, ⟨none, (.store 1 (.t 38) (.t 37)), none⟩]) (.seq (.reg [⟨(some 39), (.mv (.t 4)), none⟩, ⟨(some 40), (.call 70 [(.t 39), (.c (.int .i64 8))]), none⟩, ⟨(some 41), (.conv .i64 (.t 40)), none⟩, ⟨(some 42), (.faddr 3 (.t 9)), none⟩, ⟨none, (.store 1 (.t 42) (.t 41)), none⟩]) (.seq (.reg [⟨(some 43), (.mv (.t 4)), none⟩, ⟨(some 44), (.call 117 [(.t 43), (.c (.int .i64 65535))]), none⟩, ⟨(some 45), (.faddr 4 (.t 9)), none⟩, ⟨none, (.store 1 (.t 45) (.t 44)), none⟩]) (.seq (.seq (.reg [⟨(some 46), (.mv (.t 4)), none⟩, ⟨(some 47), (.call 71 [(.t 46)]), none⟩, ⟨(some 48), (.bin .lss .i64 (.t 47) (.c (.int .i64 0))), none⟩, ⟨(some 49), (.mv (.t 48)), none⟩, ⟨(some 50), (.load (some 5) (.t 9)), (some (49, true))⟩, ⟨(some 51), (.call 118 [(.t 50)]), (some (49, true))⟩, ⟨(some 52), (.not (.t 51)), (some (49, true))⟩, ⟨(some 53), (.pick (.t 49) (.t 52) (.c (.bool false))), none⟩]) (.cond (.t 53) (.seq (.reg [⟨(some 54), (.mv (.t 8)), none⟩, ⟨(some 55), (.build [(.int .i64 0), (.int .i64 0)] [(0, (1, (.t 54))), (1, (1, (.c (.int .i64 2))))]), none⟩, ⟨(some 56), (.box (.t 55)), none⟩, ⟨(some 57), (.mkI 173 (.t 56)), none⟩, ⟨(some 2), (.mv (.c (.sl [] .nil))), none⟩, ⟨(some 3), (.mv (.t 57)), none⟩]) .ret) .skip)) (.reg [⟨(some 58), (.mv (.t 6)), none⟩, ⟨(some 59), (.load (some 5) (.t 9)), none⟩, ⟨(some 60), (.bslice 5 .val [(.t 59)]), none⟩, ⟨(some 61), (.app 5 56 .tip (.t 58) (.t 60)), none⟩, ⟨(some 6), (.mv (.t 61)), none⟩])))))))) (.reg [⟨(some 23), (.mv (.t 7)), none⟩, ⟨(some 24), (.bin .add .i64 (.t 23) (.c (.int .i64 1))), none⟩, ⟨(some 7), (.mv (.t 24)), none⟩])))))) (.seq (.block 2 (.seq (.reg [⟨(some 63), (.mv (.t 4)), none⟩, ⟨(some 64), (.call 71 [(.t 63)]), none⟩, ⟨(some 65), (.bin .geq .i64 (.t 64) (.c (.int .i64 0))), none⟩, ⟨(some 62), (.mv (.t 65)), none⟩]) (.cond (.t 62) (.seq (.reg [⟨(some 66), (.mv (.t 4)), none⟩, ⟨(some 67), (.call 71 [(.t 66)]), none⟩, ⟨(some 68), (.build [(.int .i64 0), (.int .i64 0)] [(0, (1, (.t 67))), (1, (1, (.c (.int .i64 2))))]), none⟩, ⟨(some 69), (.box (.t 68)), none⟩, ⟨(some 70), (.mkI 173 (.t 69)), none⟩, ⟨(some 2), (.mv (.c (.sl [] .nil))), none⟩, ⟨(some 3), (.mv (.t 70)), none⟩]) .ret) (.seq (.reg [⟨(some 72), (.mv (.t 4)), none⟩, ⟨(some 73), (.call 72 [(.t 72)]), none⟩, ⟨(some 74), (.bin .gtr .i64 (.t 73) (.c (.int .i64 0))), none⟩, ⟨(some 71), (.mv (.t 74)), none⟩]) (.cond (.t 71) (.seq (.reg [⟨(some 75), (.mv (.t 0)), none⟩, ⟨(some 76), (.len (.t 75)), none⟩, ⟨(some 77), (.mv (.t 4)), none⟩, ⟨(some 78), (.call 72 [(.t 77)]), none⟩, ⟨(some 79), (.bin .sub .i64 (.t 76) (.t 78)), none⟩, ⟨(some 80), (.build [(.int .i64 0), (.int .i64 0)] [(0, (1, (.t 79))), (1, (1, (.c (.int .i64 2))))]), none⟩, ⟨(some 81), (.box (.t 80)), none⟩, ⟨(some 82), (.mkI 173 (.t 81)), none⟩, ⟨(some 2), (.mv (.c (.sl [] .nil))), none⟩, ⟨(some 3), (.mv (.t 82)), none⟩]) .ret) .skip))))) (.seq (.reg [⟨(some 83), (.mv (.t 6)), none⟩, ⟨(some 2), (.mv (.t 83)), none⟩, ⟨(some 3), (.mv (.c .nili)), none⟩]) .ret)))))))

set_option maxRecDepth 100000 in
theorem k_spget : compileC Try.prog ann (Try.f73.body.getD .skip) = some c_spget := by kernel_rfl

theorem s_spget {args : List AV} {σ : St} {K : AV → St → Prop} (h : WF σ → T Try.prog ann c_spget (Fin σ [(.t 2), (.t 3)] K) (args ++ List.replicate (84 - args.length) (.tup [])) σ) : ACalls Try.prog n_spget args σ K :=
  calls_ok Try.func73 (by kernel_rfl) (by kernel_rfl) k_spget (by kernel_rfl) (by kernel_rfl) h

abbrev n_pgget : Nat := 19

def c_pgget : C := (.seq (.reg [⟨(some 2), (.mv (.c (.sl [] .nil))), none⟩, ⟨(some 3), (.mv (.c .nili)), none⟩]) (.seq (.reg [⟨(some 16), (.mv (.t 0)), none⟩, ⟨(some 17), (.call 68 [(.t 16)]), none⟩, ⟨(some 15), (.mv (.t 17)), none⟩, ⟨(some 18), (.ext (.t 15) 0), none⟩, ⟨(some 19), (.ext (.t 15) 1), none⟩, ⟨(some 4), (.mv (.t 18)), none⟩, ⟨(some 5), (.mv (.t 19)), none⟩]) (.seq (.seq (.reg [⟨(some 20), (.mv (.t 5)), none⟩, ⟨(some 21), (.eqI true true [(31, .i64)] (.t 20) (.c .nili)), none⟩]) (.cond (.t 21) (.seq (.reg [⟨(some 22), (.mv (.t 5)), none⟩, ⟨(some 2), (.mv (.c (.sl [] .nil))), none⟩, ⟨(some 3), (.mv (.t 22)), none⟩]) .ret) .skip)) (.seq (.reg [⟨(some 23), (.mv (.t 4)), none⟩, ⟨(some 24), (.call 69 [(.t 23)]), none⟩, ⟨(some 6), (.mv (.t 24)), none⟩]) (.seq (.reg [⟨(some 25), (.mv (.t 6)), none⟩, ⟨(some 26), (.call 70 [(.t 25), (.c (.int .i64 2))]), none⟩, ⟨(some 27), (.conv .i64 (.t 26)), none⟩, ⟨(some 7), (.mv (.t 27)), none⟩]) (.seq (.reg [⟨(some 8), (.mv (.c (.sl [] .nil))), none⟩]) (.seq (.seq (.reg [⟨(some 9), (.mv (.c (.int .i64 0))), none⟩]) (.block 0 (.loop (.seq (.seq (.reg [⟨(some 28), (.mv (.t 9)), none⟩, ⟨(some 29), (.mv (.t 7)), none⟩, ⟨(some 30), (.bin .lss .i64 (.t 28) (.t 29)), none⟩, ⟨(some 31), (.mv (.t 30)), none⟩, ⟨(some 32), (.mv (.t 6)), (some (31, true))⟩, ⟨(some 33), (.call 71 [(.t 32)]), (some (31, true))⟩, ⟨(some 34), (.bin .lss .i64 (.t 33) (.c (.int .i64 0))), (some (31, true))⟩, ⟨(some 35), (.pick (.t 31) (.t 34) (.c (.bool false))), none⟩]) (.cond (.t 35) .skip (.exit 0))) (.seq (.block 1 (.seq (.reg [⟨(some 38), (.mv (.t 6)), none⟩, ⟨(some 39), (.call 70 [(.t 38), (.c (.int .i64 8))]), none⟩, ⟨(some 40), (.build [(.int .u64 0), (.sl [] .nil)] [(0, (1, (.t 39)))]), none⟩, ⟨(some 10), (.alloc [(.int .u64 0), (.sl [] .nil)]), none⟩, ⟨none, (.store 2 (.t 10) (.t 40)), none⟩]) (.seq (.reg [⟨(some 41), (.mv (.t 6)), none⟩, ⟨(some 42), (.call 70 [(.t 41), (.c (.int .i64 4))]), none⟩, ⟨(some 43), (.conv .i64 (.t 42)), none⟩, ⟨(some 11), (.mv (.t 43)), none⟩]) (.seq (.seq (.reg [⟨(some 44), (.mv (.t 6)), none⟩, ⟨(some 45), (.call 71 [(.t 44)]), none⟩, ⟨(some 46), (.bin .geq .i64 (.t 45) (.c (.int .i64 0))), none⟩, ⟨(some 47), (.mv (.t 46)), none⟩, ⟨(some 48), (.mv (.t 11)), (some (47, false))⟩, ⟨(some 49), (.mv (.t 6)), (some (47, false))⟩, ⟨(some 50), (.call 72 [(.t 49)]), (some (47, false))⟩, ⟨(some 51), (.bin .gtr .i64 (.t 48) (.t 50)), (some (47, false))⟩, ⟨(some 52), (.pick (.t 47) (.c (.bool true)) (.t 51)), none⟩]) (.cond (.t 52) (.seq (.reg [⟨(some 53), (.mkI 31 (.c (.int .i64 2))), none⟩, ⟨(some 2), (.mv (.c (.sl [] .nil))), none⟩, ⟨(some 3), (.mv (.t 53)), none⟩]) .ret) .skip)) (.seq (.reg [⟨(some 54), (.mv (.t 4)), none⟩, ⟨(some 55), (.len (.t 54)), none⟩, ⟨(some 56), (.mv (.t 6)), none⟩, ⟨(some 57), (.call 72 [(.t 56)]), none⟩, ⟨(some 58), (.bin .sub .i64 (.t 55) (.t 57)), none⟩, ⟨(some 12), (.mv (.t 58)), none⟩]) (.seq (.reg [⟨(some 60), (.mv (.t 4)), none⟩, ⟨(some 61), (.mv (.t 12)), none⟩, ⟨(some 62), (.mv (.t 12)), none⟩, ⟨(some 63), (.mv (.t 11)), none⟩, ⟨(some 64), (.bin .add .i64 (.t 62) (.t 63)), none⟩, ⟨(some 65), (.slice 1 (.t 60) (some (.t 61)) (some (.t 64))), none⟩, ⟨(some 66), (.call 73 [(.t 65)]), none⟩, ⟨(some 59), (.mv (.t 66)), none⟩, ⟨(some 67), (.ext (.t 59) 0), none⟩, ⟨(some 68), (.ext (.t 59) 1), none⟩, ⟨(some 13), (.mv (.t 67)), none⟩, ⟨(some 14), (.mv (.t 68)), none⟩]) (.seq (.seq (.reg [⟨(some 69), (.mv (.t 14)), none⟩, ⟨(some 70), (.eqI true true [(31, .i64)] (.t 69) (.c .nili)), none⟩]) (.cond (.t 70) (.seq (.reg [⟨(some 71), (.mkI 31 (.c (.int .i64 2))), none⟩, ⟨(some 2), (.mv (.c (.sl [] .nil))), none⟩, ⟨(some 3), (.mv (.t 71)), none⟩]) .ret) .skip)) (.seq (.reg [⟨(some 72), (.mv (.t 13)), none⟩, ⟨(some 73), (.faddr 1 (.t 10)), none⟩, ⟨none, (.store 1 (.t 73) (.t 72)), none⟩]) (.seq (.reg [⟨(some 74), (.mv (.t 8)), none⟩, ⟨(some 75), (.load (some 2) (.t 10)), none⟩, ⟨(some 76), (.bslice 2 .val [(.t 75)]), none⟩, ⟨(some 77), (.app 2 32 .tip (.t 74) (.t 76)), none⟩, ⟨(some 8), (.mv (.t 77)), none⟩]) (.seq (.reg [⟨(some 78), (.mv (.t 4)), none⟩, ⟨(some 79), (.mv (.t 12)), none⟩, ⟨(some 80), (.mv (.t 11)), none⟩, ⟨(some 81), (.bin .add .i64 (.t 79) (.t 80)), none⟩, ⟨(some 82), (.slice 1 (.t 78) (some (.t 81)) none), none⟩, ⟨(some 83), (.call 69 [(.t 82)]), none⟩, ⟨(some 6), (.mv (.t 83)), none⟩]) (.reg [⟨(some 84), (.mv (.t 4)), none⟩, ⟨(some 85), (.mv (.t 12)), none⟩, ⟨(some 86), (.mv (.t 11)), none⟩, ⟨(some 87), (.bin .add .i64 (.t 85) (.t 86)), none⟩, ⟨(some 88), (.slice 1 (.t 84) (some (.t 87)) none), none⟩, ⟨(some 4), (.mv (.t 88)), none⟩]))))))))))) (.reg [⟨(some 36), (.mv (.t 9)), none⟩, ⟨(some 37), (.bin .add .i64 (.t 36) (.c (.int .i64 1))), none⟩, ⟨(some 9), (.mv (.t 37)), none⟩])))))) (.seq (.seq (.reg [⟨(some 89), (.mv (.t 6)), none⟩, ⟨(some 90), (.call 71 [(.t 89)]), none⟩, ⟨(some 91), (.bin .geq .i64 (.t 90) (.c (.int .i64 0))), none⟩, ⟨(some 92), (.mv (.t 91)), none⟩, ⟨(some 93), (.mv (.t 6)), (some (92, false))⟩, ⟨(some 94), (.call 72 [(.t 93)]), (some (92, false))⟩, ⟨(some 95), (.bin .gtr .i64 (.t 94) (.c (.int .i64 0))), (some (92, false))⟩, ⟨(some 96), (.pick (.t 92) (.c (.bool true)) (.t 95)), none⟩, ⟨(some 97), (.mv (.t 96)), none⟩, ⟨(some 98), (.mv (.t 8)), (some (97, false))⟩, ⟨(some 99), (.len (.t 98)), (some (97, false))⟩, ⟨(some 100), (.bin .gtr .i64 (.t 99) (.c (.int .i64 64))), (some (97, false))⟩, ⟨(some 101), (.pick (.t 97) (.c (.bool true)) (.t 100)), none⟩, ⟨(some 102), (.mv (.t 101)), none⟩, ⟨(some 103), (.mv (.t 8)), (some (102, false))⟩, ⟨(some 104), (.call 61 [(.t 103)]), (some (102, false))⟩, ⟨(some 105), (.not (.t 104)), (some (102, false))⟩, ⟨(some 106), (.pick (.t 102) (.c (.bool true)) (.t 105)), none⟩]) (.cond (.t 106) (.seq (.reg [⟨(some 107), (.mkI 31 (.c (.int .i64 2))), none⟩, ⟨(some 2), (.mv (.c (.sl [] .nil))), none⟩, ⟨(some 3), (.mv (.t 107)), none⟩]) .ret) .skip)) (.seq (.reg [⟨(some 108), (.mv (.t 8)), none⟩, ⟨(some 2), (.mv (.t 108)), none⟩, ⟨(some 3), (.mv (.c .nili)), none⟩]) .ret)))))))))

set_option maxRecDepth 100000 in
theorem k_pgget : compileC Try.prog ann (Try.f19.body.getD .skip) = some c_pgget := by kernel_rfl

theorem s_pgget {args : List AV} {σ : St} {K : AV → St → Prop} (h : WF σ → T Try.prog ann c_pgget (Fin σ [(.t 2), (.t 3)] K) (args ++ List.replicate (109 - args.length) (.tup [])) σ) : ACalls Try.prog n_pgget args σ K :=
  calls_ok Try.func19 (by kernel_rfl) (by kernel_rfl) k_pgget (by kernel_rfl) (by kernel_rfl) h

abbrev n_rtraces : Nat := 17

def c_rtraces : C := (.seq (.reg [⟨(some 4), (.mv (.c (.bool false))), none⟩]) (.seq (.seq (.reg [⟨(some 7), (.mv (.t 0)), none⟩, ⟨(some 8), (.len (.t 7)), none⟩, ⟨(some 9), (.mv (.t 1)), none⟩, ⟨(some 10), (.len (.t 9)), none⟩, ⟨(some 11), (.bin .neq .i64 (.t 8) (.t 10)), none⟩]) (.cond (.t 11) (.seq (.reg [⟨(some 4), (.mv (.c (.bool false))), none⟩]) .ret) .skip)) (.seq (.seq (.reg [⟨(some 5), (.mv (.c (.int .i64 0))), none⟩]) (.block 0 (.loop (.seq (.seq (.reg [⟨(some 12), (.mv (.t 5)), none⟩, ⟨(some 13), (.mv (.t 0)), none⟩, ⟨(some 14), (.len (.t 13)), none⟩, ⟨(some 15), (.bin .lss .i64 (.t 12) (.t 14)), none⟩]) (.cond (.t 15) .skip (.exit 0))) (.seq (.block 1 (.seq (.reg [⟨(some 18), (.mv (.t 0)), none⟩, ⟨(some 19), (.mv (.t 5)), none⟩, ⟨(some 20), (.iaddr 2 (.t 18) (.t 19)), none⟩, ⟨(some 21), (.faddr 1 (.t 20)), none⟩, ⟨(some 22), (.load none (.t 21)), none⟩, ⟨(some 23), (.mv (.t 1)), none⟩, ⟨(some 24), (.mv (.t 5)), none⟩, ⟨(some 25), (.iaddr 2 (.t 23) (.t 24)), none⟩, ⟨(some 26), (.faddr 1 (.t 25)), none⟩, ⟨(some 27), (.load none (.t 26)), none⟩, ⟨(some 28), (.qcall 30 [(.t 22), (.t 27)]), none⟩, ⟨(some 6), (.mv (.t 28)), none⟩]) (.seq (.reg [⟨(some 29), (.mv (.t 0)), none⟩, ⟨(some 30), (.mv (.t 5)), none⟩, ⟨(some 31), (.iaddr 2 (.t 29) (.t 30)), none⟩, ⟨(some 32), (.faddr 0 (.t 31)), none⟩, ⟨(some 33), (.load none (.t 32)), none⟩, ⟨(some 34), (.mv (.t 1)), none⟩, ⟨(some 35), (.mv (.t 5)), none⟩, ⟨(some 36), (.iaddr 2 (.t 34) (.t 35)), none⟩, ⟨(some 37), (.faddr 0 (.t 36)), none⟩, ⟨(some 38), (.load none (.t 37)), none⟩, ⟨(some 39), (.bin .neq .u64 (.t 33) (.t 38)), none⟩, ⟨(some 40), (.mv (.t 39)), none⟩, ⟨(some 41), (.mv (.t 6)), (some (40, false))⟩, ⟨(some 42), (.not (.t 41)), (some (40, false))⟩, ⟨(some 43), (.pick (.t 40) (.c (.bool true)) (.t 42)), none⟩]) (.cond (.t 43) (.seq (.reg [⟨(some 4), (.mv (.c (.bool false))), none⟩]) .ret) .skip)))) (.reg [⟨(some 16), (.mv (.t 5)), none⟩, ⟨(some 17), (.bin .add .i64 (.t 16) (.c (.int .i64 1))), none⟩, ⟨(some 5), (.mv (.t 17)), none⟩])))))) (.seq (.reg [⟨(some 4), (.mv (.c (.bool true))), none⟩]) .ret))))

set_option maxRecDepth 100000 in
theorem k_rtraces : compileC Try.prog ann (Try.f17.body.getD .skip) = some c_rtraces := by kernel_rfl

theorem s_rtraces {args : List AV} {σ : St} {K : AV → St → Prop} (h : WF σ → T Try.prog ann c_rtraces (Fin σ [(.t 4)] K) (args ++ List.replicate (44 - args.length) (.tup [])) σ) : ACalls Try.prog n_rtraces args σ K :=
  calls_ok Try.func17 (by kernel_rfl) (by kernel_rfl) k_rtraces (by kernel_rfl) (by kernel_rfl) h

abbrev n_up05 : Nat := 12

def c_up05 : C := (.seq (.reg [⟨(some 0), (.mv (.c (.bool false))), none⟩]) (.seq (.reg [⟨(some 6), (.call 18 [(.c (.sl [] .nil))]), none⟩, ⟨(some 5), (.mv (.t 6)), none⟩, ⟨(some 7), (.ext (.t 5) 0), none⟩, ⟨(some 8), (.ext (.t 5) 1), none⟩, ⟨(some 1), (.mv (.t 7)), none⟩, ⟨(some 2), (.mv (.t 8)), none⟩]) (.seq (.reg [⟨(some 10), (.call 19 [(.c (.sl [] .nil))]), none⟩, ⟨(some 9), (.mv (.t 10)), none⟩, ⟨(some 11), (.ext (.t 9) 0), none⟩, ⟨(some 12), (.ext (.t 9) 1), none⟩, ⟨(some 3), (.mv (.t 11)), none⟩, ⟨(some 4), (.mv (.t 12)), none⟩]) (.seq (.reg [⟨(some 13), (.mv (.t 2)), none⟩, ⟨(some 14), (.eqI false true [(31, .i64)] (.t 13) (.c .nili)), none⟩, ⟨(some 15), (.mv (.t 14)), none⟩, ⟨(some 16), (.mv (.t 1)), (some (15, true))⟩, ⟨(some 17), (.len (.t 16)), (some (15, true))⟩, ⟨(some 18), (.bin .eql .i64 (.t 17) (.c (.int .i64 6))), (some (15, true))⟩, ⟨(some 19), (.pick (.t 15) (.t 18) (.c (.bool false))), none⟩, ⟨(some 20), (.mv (.t 19)), none⟩, ⟨(some 21), (.mv (.t 1)), (some (20, true))⟩, ⟨(some 22), (.iaddr 1 (.t 21) (.c (.int .i64 0))), (some (20, true))⟩, ⟨(some 23), (.load none (.t 22)), (some (20, true))⟩, ⟨(some 24), (.bin .eql .u8 (.t 23) (.c (.int .u8 0))), (some (20, true))⟩, ⟨(some 25), (.pick (.t 20) (.t 24) (.c (.bool false))), none⟩, ⟨(some 26), (.mv (.t 25)), none⟩, ⟨(some 27), (.mv (.t 1)), (some (26, true))⟩, ⟨(some 28), (.iaddr 1 (.t 27) (.c (.int .i64 1))), (some (26, true))⟩, ⟨(some 29), (.load none (.t 28)), (some (26, true))⟩, ⟨(some 30), (.bin .eql .u8 (.t 29) (.c (.int .u8 0))), (some (26, true))⟩, ⟨(some 31), (.pick (.t 26) (.t 30) (.c (.bool false))), none⟩, ⟨(some 32), (.mv (.t 31)), none⟩, ⟨(some 33), (.mv (.t 4)), (some (32, true))⟩, ⟨(some 34), (.mkI 31 (.c (.int .i64 2))), (some (32, true))⟩, ⟨(some 35), (.eqI false false [(31, .i64)] (.t 33) (.t 34)), (some (32, true))⟩, ⟨(some 36), (.pick (.t 32) (.t 35) (.c (.bool false))), none⟩, ⟨(some 0), (.mv (.t 36)), none⟩]) .ret))))

set_option maxRecDepth 100000 in
theorem k_up05 : compileC Try.prog ann (Try.f12.body.getD .skip) = some c_up05 := by kernel_rfl

theorem s_up05 {args : List AV} {σ : St} {K : AV → St → Prop} (h : WF σ → T Try.prog ann c_up05 (Fin σ [(.t 0)] K) (args ++ List.replicate (37 - args.length) (.tup [])) σ) : ACalls Try.prog n_up05 args σ K :=
  calls_ok Try.func12 (by kernel_rfl) (by kernel_rfl) k_up05 (by kernel_rfl) (by kernel_rfl) h

end Go.VL

namespace Go.VL

open Go.Proofs

def textB (s : List UInt8) : List UInt8 := beB 2 s.length ++ s

theorem textB_len (s : List UInt8) : (textB s).length = s.length + 2 := by simp [textB, beB_len]; omega

/-- the numbers of a span, as they are put -/
def spanN (s : Sp) : List Nat := [s.tr, s.id, s.st.toNat, s.en.toNat]

def spanB (s : Sp) : List UInt8 := runB (spanN s) ++ textB s.da

theorem spanB_len (s : Sp) : (spanB s).length = s.da.length + 34 := by simp [spanB, runB_len, spanN, textB_len]; omega

def spansB (l : List Sp) : List UInt8 := beB 2 l.length ++ l.flatMap spanB

theorem wtext_ok {l s : List UInt8} {g g' : Ver} {σ : St} (hl : l.length ≤ 1000000000) (hs : s.length ≤ 65535) :
    ACalls Try.prog n_wtext [.sl (bytesAV l) g, .sl (bytesAV s) g'] σ (fun v σ' => v = .tup [.sl (bytesAV (l ++ textB s)) .none, .nili] ∧ σ' = σ) := by
  refine s_wtext (fun wf => ?_)
  unfold c_wtext
  have e1 : decide ((s.length : Int) > 65535) = false := decide_eq_false (by omega)
  refine T.seq_k (fun K_h0 h0 => ?_)
  refine T.regi hm ?_
  simp only [↓reduceIte, namesOf, List.any, I.names, aops, aopsI, aopsT, qstep, CPt, qget, Tbl.get, astep, ev, setd, List.set, List.getD, List.getElem?_cons_zero, List.getElem?_cons_succ, List.getElem?_nil, List.cons_append, List.nil_append, List.length_cons, List.length_nil, List.replicate, then_normal, inBlock_normal, Option.getD_some, Option.getD_none, Bool.or_false, Bool.or_true, Bool.true_or, Bool.false_or, Bool.false_eq_true, if_false, if_true, up_zero, Nat.reduceAdd, Nat.reduceSub, binv, ↓opt_def, AV.isAny, AV.cells, ldc, List.map_cons, List.map_nil, St.set_next, St.set_same, St.up_next, Int.natCast_nonneg, lt_len, le_len, Int.toNat_natCast, true_and, and_true, eq_self, reduceCtorEq, decide_true, List.length_singleton, er_int, er_bool, er_str]
  refine h0 _ _ ?_
  try clear h0 K_h0
  refine T.seq_k (fun K_h1 h1 => ?_)
  refine T.seq_k (fun K_h0 h0 => ?_)
  refine T.regi hm ?_
  simp only [↓reduceIte, namesOf, List.any, I.names, aops, aopsI, aopsT, qstep, CPt, qget, Tbl.get, astep, ev, setd, List.set, List.getD, List.getElem?_cons_zero, List.getElem?_cons_succ, List.getElem?_nil, List.cons_append, List.nil_append, List.length_cons, List.length_nil, List.replicate, then_normal, inBlock_normal, Option.getD_some, Option.getD_none, Bool.or_false, Bool.or_true, Bool.true_or, Bool.false_or, Bool.false_eq_true, if_false, if_true, up_zero, Nat.reduceAdd, Nat.reduceSub, binv, ↓opt_def, AV.isAny, AV.cells, ldc, List.map_cons, List.map_nil, St.set_next, St.set_same, St.up_next, Int.natCast_nonneg, lt_len, le_len, Int.toNat_natCast, true_and, and_true, eq_self, reduceCtorEq, decide_true, List.length_singleton, er_int, er_bool, er_str, bytesAV_len, e1]
  refine h0 _ _ ?_
  try clear h0 K_h0
  refine T.cond rfl (fun h => by cases h) (fun _ => T.skip ?_)
  refine h1 _ _ ?_
  try clear h1 K_h1
  have e2 := u64w (n := s.length) (by omega)
  refine T.seq_k (fun K_h1 h1 => ?_)
  refine T.regi hm ?_
  simp only [↓reduceIte, namesOf, List.any, I.names, aops, aopsI, aopsT, qstep, CPt, qget, Tbl.get, astep, ev, setd, List.set, List.getD, List.getElem?_cons_zero, List.getElem?_cons_succ, List.getElem?_nil, List.cons_append, List.nil_append, List.length_cons, List.length_nil, List.replicate, then_normal, inBlock_normal, Option.getD_some, Option.getD_none, Bool.or_false, Bool.or_true, Bool.true_or, Bool.false_or, Bool.false_eq_true, if_false, if_true, up_zero, Nat.reduceAdd, Nat.reduceSub, binv, ↓opt_def, AV.isAny, AV.cells, ldc, List.map_cons, List.map_nil, St.set_next, St.set_same, St.up_next, Int.natCast_nonneg, lt_len, le_len, Int.toNat_natCast, true_and, and_true, eq_self, reduceCtorEq, decide_true, List.length_singleton, er_int, er_bool, er_str, bytesAV_len, e2]
  refine (wput_ok (w := 2) (by omega) rfl (fun _ => by omega)).mono ?_
  rintro v σ1 ⟨h, o1, rfl⟩
  try simp only [↓reduceIte, namesOf, List.any, I.names, aops, aopsI, aopsT, qstep, CPt, qget, Tbl.get, astep, ev, setd, List.set, List.getD, List.getElem?_cons_zero, List.getElem?_cons_succ, List.getElem?_nil, List.cons_append, List.nil_append, List.length_cons, List.length_nil, List.replicate, then_normal, inBlock_normal, Option.getD_some, Option.getD_none, Bool.or_false, Bool.or_true, Bool.true_or, Bool.false_or, Bool.false_eq_true, if_false, if_true, up_zero, Nat.reduceAdd, Nat.reduceSub, binv, ↓opt_def, AV.isAny, AV.cells, ldc, List.map_cons, List.map_nil, St.set_next, St.set_same, St.up_next, Int.natCast_nonneg, lt_len, le_len, Int.toNat_natCast, true_and, and_true, eq_self, reduceCtorEq, decide_true, List.length_singleton, er_int, er_bool, er_str, up_zero]
  refine h1 _ _ ?_
  try clear h1 K_h1
  have hat := (Tq.one o1).ats
  have hle : decide ((l.length + 2 + s.length) * 1 ≤ 70368744177664 ∧ l.length + 2 + s.length ≤ 4611686018427387904) = true := app_le (by omega)
  refine T.seq_k (fun K_h1 h1 => ?_)
  refine T.regi hm ?_
  simp only [↓reduceIte, namesOf, List.any, I.names, aops, aopsI, aopsT, qstep, CPt, qget, Tbl.get, astep, ev, setd, List.set, List.getD, List.getElem?_cons_zero, List.getElem?_cons_succ, List.getElem?_nil, List.cons_append, List.nil_append, List.length_cons, List.length_nil, List.replicate, then_normal, inBlock_normal, Option.getD_some, Option.getD_none, Bool.or_false, Bool.or_true, Bool.true_or, Bool.false_or, Bool.false_eq_true, if_false, if_true, up_zero, Nat.reduceAdd, Nat.reduceSub, binv, ↓opt_def, AV.isAny, AV.cells, ldc, List.map_cons, List.map_nil, St.set_next, St.set_same, St.up_next, Int.natCast_nonneg, lt_len, le_len, Int.toNat_natCast, true_and, and_true, eq_self, reduceCtorEq, decide_true, List.length_singleton, er_int, er_bool, er_str, held, srcOf, bytesAV_er, bytesAV_app, bytes_all, bytesAV_len, List.length_append, Bool.and_self, St.up_res, List.isEmpty, hat, beB_len, hle]
  refine h1 _ _ ?_
  try clear h1 K_h1
  have q := (Tq.one o1).app (n := 6) (i := 2) (by omega)
  refine T.ret (Fin.quietw rfl (Wk.tup2 (Wk.sl _ _)) ⟨⟨nb_bytes _ _, trivial⟩, trivial, trivial⟩ (q.quiet wf) ⟨?_, rfl⟩)
  rw [textB, List.append_assoc]; rfl

theorem mayI_facts {s e n : Int} (h : mayI s e n = true) : 0 ≤ s ∧ s ≤ e ∧ e ≤ 1099511627776 ∧ n ≤ 64 := by
  unfold mayI at h; simpa using h

theorem mayS_facts {s : Sp} (h : mayS s = true) : 0 ≤ s.st ∧ s.st ≤ s.en ∧ s.en ≤ 1099511627776 ∧ s.da.length ≤ 64 := by
  have := mayI_facts h; omega

/-- a span whose Ids are words -/
def Sp.wd (s : Sp) : Prop := s.tr < 18446744073709551616 ∧ s.id < 18446744073709551616

set_option maxRecDepth 10000 in
set_option maxHeartbeats 1000000 in
theorem sput1_ok {s : Sp} {σ : St} (hm : mayS s = true) :
    ACalls Try.prog n_sput1 [.agg [.int .u64 (s.tr : Int), .int .u64 (s.id : Int), .int .i64 s.st, .int .i64 s.en, .sl (bytesAV s.da) .none]] σ (fun v σ' => v = .tup [.sl (bytesAV (spanB s)) .none, .nili] ∧ σ' = σ) := by
  refine s_sput1 (fun wf => ?_)
  unfold c_sput1
  obtain ⟨m1, m2, m3, m4⟩ := mayS_facts hm
  have hm := VL.hm
  refine T.seq_k (fun K_h1 h1 => ?_)
  refine T.regi hm ?_
  simp only [↓reduceIte, namesOf, List.any, I.names, aops, aopsI, aopsT, qstep, CPt, qget, Tbl.get, astep, ev, setd, List.set, List.getD, List.getElem?_cons_zero, List.getElem?_cons_succ, List.getElem?_nil, List.cons_append, List.nil_append, List.length_cons, List.length_nil, List.replicate, then_normal, inBlock_normal, Option.getD_some, Option.getD_none, Bool.or_false, Bool.or_true, Bool.true_or, Bool.false_or, Bool.false_eq_true, if_false, if_true, up_zero, Nat.reduceAdd, Nat.reduceSub, binv, ↓opt_def, AV.isAny, AV.cells, ldc, List.map_cons, List.map_nil, St.set_next, St.set_same, St.up_next, Int.natCast_nonneg, lt_len, le_len, Int.toNat_natCast, true_and, and_true, eq_self, reduceCtorEq, decide_true, List.length_singleton, er_int, er_bool, er_str]
  have k0 : Like σ ((σ.up 3).set (σ.next + 0) (.obj [.int .u64 (s.tr : Int), .int .u64 (s.id : Int), .int .i64 s.st, .int .i64 s.en, .sl (bytesAV s.da) .none])) := (Like.refl σ).box _
  have hb : ((σ.up 3).set (σ.next + 0) (.obj [.int .u64 (s.tr : Int), .int .u64 (s.id : Int), .int .i64 s.st, .int .i64 s.en, .sl (bytesAV s.da) .none])).res (σ.next + 0) = some (.obj [.int .u64 (s.tr : Int), .int .u64 (s.id : Int), .int .i64 s.st, .int .i64 s.en, .sl (bytesAV s.da) .none]) := by simp
  generalize ((σ.up 3).set (σ.next + 0) (.obj [.int .u64 (s.tr : Int), .int .u64 (s.id : Int), .int .i64 s.st, .int .i64 s.en, .sl (bytesAV s.da) .none])) = τ at k0 hb ⊢
  generalize σ.next + 0 = a at hb ⊢
  refine h1 _ _ ?_
  try clear h1 K_h1
  refine T.seq_k (fun K_h0 h0 => ?_)
  refine T.regi hm ?_
  simp only [↓reduceIte, namesOf, List.any, I.names, aops, aopsI, aopsT, qstep, CPt, qget, Tbl.get, astep, ev, setd, List.set, List.getD, List.getElem?_cons_zero, List.getElem?_cons_succ, List.getElem?_nil, List.cons_append, List.nil_append, List.length_cons, List.length_nil, List.replicate, then_normal, inBlock_normal, Option.getD_some, Option.getD_none, Bool.or_false, Bool.or_true, Bool.true_or, Bool.false_or, Bool.false_eq_true, if_false, if_true, up_zero, Nat.reduceAdd, Nat.reduceSub, binv, ↓opt_def, AV.isAny, AV.cells, ldc, List.map_cons, List.map_nil, St.set_next, St.set_same, St.up_next, Int.natCast_nonneg, lt_len, le_len, Int.toNat_natCast, true_and, and_true, eq_self, reduceCtorEq, decide_true, List.length_singleton, er_int, er_bool, er_str]
  refine h0 _ _ ?_
  try clear h0 K_h0
  refine T.seq_k (fun K_h1 h1 => ?_)
  have e1 : IntKind.u64.wrap s.st = ((s.st.toNat : Nat) : Int) := by
    have := u64w (n := s.st.toNat) (by omega)
    rw [Int.toNat_of_nonneg m1] at this
    rw [this, Int.toNat_of_nonneg m1]
  have e2 : IntKind.u64.wrap s.en = ((s.en.toNat : Nat) : Int) := by
    have := u64w (n := s.en.toNat) (by omega)
    rw [Int.toNat_of_nonneg (by omega)] at this
    rw [this, Int.toNat_of_nonneg (by omega)]
  have hn : [AV.int .u64 (s.tr : Int), .int .u64 (s.id : Int), .int .u64 ((s.st.toNat : Nat) : Int), .int .u64 ((s.en.toNat : Nat) : Int)] = nums .u64 (natI (spanN s)) := rfl
  have hnl : (nums .u64 (natI (spanN s))).length = 4 := rfl
  refine T.seq_k (fun K_h0 h0 => ?_)
  refine T.regi hm ?_
  simp only [↓reduceIte, namesOf, List.any, I.names, aops, aopsI, aopsT, qstep, CPt, qget, Tbl.get, astep, ev, setd, List.set, List.getD, List.getElem?_cons_zero, List.getElem?_cons_succ, List.getElem?_nil, List.cons_append, List.nil_append, List.length_cons, List.length_nil, List.replicate, then_normal, inBlock_normal, Option.getD_some, Option.getD_none, Bool.or_false, Bool.or_true, Bool.true_or, Bool.false_or, Bool.false_eq_true, if_false, if_true, up_zero, Nat.reduceAdd, Nat.reduceSub, binv, ↓opt_def, AV.isAny, AV.cells, ldc, List.map_cons, List.map_nil, St.set_next, St.set_same, St.up_next, Int.natCast_nonneg, lt_len, le_len, Int.toNat_natCast, true_and, and_true, eq_self, reduceCtorEq, decide_true, List.length_singleton, er_int, er_bool, er_str, hb, e1, e2, held, hn, AV.fits, AV.one, List.all_cons, List.all_nil, Nat.reduceBEq, Bool.and_true, Bool.not_false, Bool.and_self, Nat.zero_add, splice, List.take, List.drop, Nat.reduceLeDiff]
  refine h0 _ _ ?_
  try clear h0 K_h0
  refine T.block ?_
  refine T.gh (Gh.keep [1, 4, 19, 20, 21]) ?_
  refine T.loopi (fun i ρ t => t = τ ∧ ∃ v, ρ = [.any, .ptr a 0, .any, .any, .sl (bytesAV (runB ((spanN s).take i))) v] ++ List.replicate 14 .any ++ [.sl (nums .u64 (natI (spanN s))) .none, .int .i64 4, .int .i64 (i : Int)] ++ List.replicate 20 .any)
    4 0 (Nat.zero_le _) ⟨rfl, .nil, rfl⟩ ?_
  rintro i ρ t hi ⟨rfl, v, rfl⟩
  refine T.seq_k (fun K_h0 h0 => ?_)
  refine T.regi hm ?_
  simp only [↓reduceIte, namesOf, List.any, I.names, aops, aopsI, aopsT, qstep, CPt, qget, Tbl.get, astep, ev, setd, List.set, List.getD, List.getElem?_cons_zero, List.getElem?_cons_succ, List.getElem?_nil, List.cons_append, List.nil_append, List.length_cons, List.length_nil, List.replicate, then_normal, inBlock_normal, Option.getD_some, Option.getD_none, Bool.or_false, Bool.or_true, Bool.true_or, Bool.false_or, Bool.false_eq_true, if_false, if_true, up_zero, Nat.reduceAdd, Nat.reduceSub, binv, ↓opt_def, AV.isAny, AV.cells, ldc, List.map_cons, List.map_nil, St.set_next, St.set_same, St.up_next, Int.natCast_nonneg, lt_len, le_len, Int.toNat_natCast, true_and, and_true, eq_self, reduceCtorEq, decide_true, List.length_singleton, er_int, er_bool, er_str]
  refine h0 _ _ ?_
  try clear h0 K_h0
  refine T.seq_k (fun K_h2 h2 => ?_)
  by_cases hil : i < 4
  case neg =>
    have : i = 4 := by omega
    subst this
    refine T.cond (b := false) (by simp [ev]) (fun h => by cases h) (fun _ => T.exit ?_)
    try simp only [↓reduceIte, namesOf, List.any, I.names, aops, aopsI, aopsT, qstep, CPt, qget, Tbl.get, astep, ev, setd, List.set, List.getD, List.getElem?_cons_zero, List.getElem?_cons_succ, List.getElem?_nil, List.cons_append, List.nil_append, List.length_cons, List.length_nil, List.replicate, then_normal, inBlock_normal, Option.getD_some, Option.getD_none, Bool.or_false, Bool.or_true, Bool.true_or, Bool.false_or, Bool.false_eq_true, if_false, if_true, up_zero, Nat.reduceAdd, Nat.reduceSub, binv, ↓opt_def, AV.isAny, AV.cells, ldc, List.map_cons, List.map_nil, St.set_next, St.set_same, St.up_next, Int.natCast_nonneg, lt_len, le_len, Int.toNat_natCast, true_and, and_true, eq_self, reduceCtorEq, decide_true, List.length_singleton, er_int, er_bool, er_str, inBlock_exit, then_exit]
    refine h1 _ _ ?_
    try clear h1 K_h1
    refine T.seq_k (fun K_h1 h1 => ?_)
    have ht : (spanN s).take 4 = spanN s := rfl
    rw [ht]
    refine T.regi hm ?_
    simp only [↓reduceIte, namesOf, List.any, I.names, aops, aopsI, aopsT, qstep, CPt, qget, Tbl.get, astep, ev, setd, List.set, List.getD, List.getElem?_cons_zero, List.getElem?_cons_succ, List.getElem?_nil, List.cons_append, List.nil_append, List.length_cons, List.length_nil, List.replicate, then_normal, inBlock_normal, Option.getD_some, Option.getD_none, Bool.or_false, Bool.or_true, Bool.true_or, Bool.false_or, Bool.false_eq_true, if_false, if_true, up_zero, Nat.reduceAdd, Nat.reduceSub, binv, ↓opt_def, AV.isAny, AV.cells, ldc, List.map_cons, List.map_nil, St.set_next, St.set_same, St.up_next, Int.natCast_nonneg, lt_len, le_len, Int.toNat_natCast, true_and, and_true, eq_self, reduceCtorEq, decide_true, List.length_singleton, er_int, er_bool, er_str, hb]
    refine (wtext_ok (by rw [runB_len]; simp [spanN]) (by omega)).mono ?_
    rintro w t2 ⟨rfl, rfl⟩
    try simp only [↓reduceIte, namesOf, List.any, I.names, aops, aopsI, aopsT, qstep, CPt, qget, Tbl.get, astep, ev, setd, List.set, List.getD, List.getElem?_cons_zero, List.getElem?_cons_succ, List.getElem?_nil, List.cons_append, List.nil_append, List.length_cons, List.length_nil, List.replicate, then_normal, inBlock_normal, Option.getD_some, Option.getD_none, Bool.or_false, Bool.or_true, Bool.true_or, Bool.false_or, Bool.false_eq_true, if_false, if_true, up_zero, Nat.reduceAdd, Nat.reduceSub, binv, ↓opt_def, AV.isAny, AV.cells, ldc, List.map_cons, List.map_nil, St.set_next, St.set_same, St.up_next, Int.natCast_nonneg, lt_len, le_len, Int.toNat_natCast, true_and, and_true, eq_self, reduceCtorEq, decide_true, List.length_singleton, er_int, er_bool, er_str, up_zero]
    refine h1 _ _ ?_
    try clear h1 K_h1
    exact T.ret (Fin.quiet rfl ⟨⟨nb_bytes _ _, trivial⟩, trivial, trivial⟩ (k0.quiet wf) ⟨rfl, rfl⟩)
  refine T.cond (b := true) (by simp [ev]; omega) (fun _ => T.skip ?_) (fun h => by cases h)
  refine h2 _ _ ?_
  try clear h2 K_h2
  have hiw := inc64' hil (by omega)
  have hil' : i < (spanN s).length := hil
  have hg := natI_get hil'
  have htk := runB_take hil'
  have hlen : (runB ((spanN s).take i)).length ≤ 1000 := by rw [runB_len, List.length_take]; omega
  have hilI : (i : Int) < ((4 : Nat) : Int) := by omega
  refine T.seq_k (fun K_h2 h2 => ?_)
  refine T.block ?_
  refine T.seq_k (fun K_h0 h0 => ?_)
  refine T.regi hm ?_
  simp only [↓reduceIte, namesOf, List.any, I.names, aops, aopsI, aopsT, qstep, CPt, qget, Tbl.get, astep, ev, setd, List.set, List.getD, List.getElem?_cons_zero, List.getElem?_cons_succ, List.getElem?_nil, List.cons_append, List.nil_append, List.length_cons, List.length_nil, List.replicate, then_normal, inBlock_normal, Option.getD_some, Option.getD_none, Bool.or_false, Bool.or_true, Bool.true_or, Bool.false_or, Bool.false_eq_true, if_false, if_true, up_zero, Nat.reduceAdd, Nat.reduceSub, binv, ↓opt_def, AV.isAny, AV.cells, ldc, List.map_cons, List.map_nil, St.set_next, St.set_same, St.up_next, Int.natCast_nonneg, lt_len, le_len, Int.toNat_natCast, true_and, and_true, eq_self, reduceCtorEq, decide_true, List.length_singleton, er_int, er_bool, er_str, hnl, hg, hilI]
  refine h0 _ _ ?_
  try clear h0 K_h0
  refine T.seq_k (fun K_h3 h3 => ?_)
  refine T.regi hm ?_
  simp only [↓reduceIte, namesOf, List.any, I.names, aops, aopsI, aopsT, qstep, CPt, qget, Tbl.get, astep, ev, setd, List.set, List.getD, List.getElem?_cons_zero, List.getElem?_cons_succ, List.getElem?_nil, List.cons_append, List.nil_append, List.length_cons, List.length_nil, List.replicate, then_normal, inBlock_normal, Option.getD_some, Option.getD_none, Bool.or_false, Bool.or_true, Bool.true_or, Bool.false_or, Bool.false_eq_true, if_false, if_true, up_zero, Nat.reduceAdd, Nat.reduceSub, binv, ↓opt_def, AV.isAny, AV.cells, ldc, List.map_cons, List.map_nil, St.set_next, St.set_same, St.up_next, Int.natCast_nonneg, lt_len, le_len, Int.toNat_natCast, true_and, and_true, eq_self, reduceCtorEq, decide_true, List.length_singleton, er_int, er_bool, er_str]
  refine (wput_q (w := 8) (by omega) rfl (fun h => by omega)).mono ?_
  rintro w t2 ⟨rfl, rfl⟩
  rw [← htk]
  try simp only [↓reduceIte, namesOf, List.any, I.names, aops, aopsI, aopsT, qstep, CPt, qget, Tbl.get, astep, ev, setd, List.set, List.getD, List.getElem?_cons_zero, List.getElem?_cons_succ, List.getElem?_nil, List.cons_append, List.nil_append, List.length_cons, List.length_nil, List.replicate, then_normal, inBlock_normal, Option.getD_some, Option.getD_none, Bool.or_false, Bool.or_true, Bool.true_or, Bool.false_or, Bool.false_eq_true, if_false, if_true, up_zero, Nat.reduceAdd, Nat.reduceSub, binv, ↓opt_def, AV.isAny, AV.cells, ldc, List.map_cons, List.map_nil, St.set_next, St.set_same, St.up_next, Int.natCast_nonneg, lt_len, le_len, Int.toNat_natCast, true_and, and_true, eq_self, reduceCtorEq, decide_true, List.length_singleton, er_int, er_bool, er_str, up_zero]
  refine h3 _ _ ?_
  try clear h3 K_h3
  refine T.seq_k (fun K_h3 h3 => ?_)
  refine T.seq_k (fun K_h0 h0 => ?_)
  refine T.regi hm ?_
  simp only [↓reduceIte, namesOf, List.any, I.names, aops, aopsI, aopsT, qstep, CPt, qget, Tbl.get, astep, ev, setd, List.set, List.getD, List.getElem?_cons_zero, List.getElem?_cons_succ, List.getElem?_nil, List.cons_append, List.nil_append, List.length_cons, List.length_nil, List.replicate, then_normal, inBlock_normal, Option.getD_some, Option.getD_none, Bool.or_false, Bool.or_true, Bool.true_or, Bool.false_or, Bool.false_eq_true, if_false, if_true, up_zero, Nat.reduceAdd, Nat.reduceSub, binv, ↓opt_def, AV.isAny, AV.cells, ldc, List.map_cons, List.map_nil, St.set_next, St.set_same, St.up_next, Int.natCast_nonneg, lt_len, le_len, Int.toNat_natCast, true_and, and_true, eq_self, reduceCtorEq, decide_true, List.length_singleton, er_int, er_bool, er_str, eqIv, bne_self_eq_false]
  refine h0 _ _ ?_
  try clear h0 K_h0
  refine T.cond rfl (fun h => by cases h) (fun _ => T.skip ?_)
  refine h3 _ _ ?_
  try clear h3 K_h3
  refine T.regi hm ?_
  simp only [↓reduceIte, namesOf, List.any, I.names, aops, aopsI, aopsT, qstep, CPt, qget, Tbl.get, astep, ev, setd, List.set, List.getD, List.getElem?_cons_zero, List.getElem?_cons_succ, List.getElem?_nil, List.cons_append, List.nil_append, List.length_cons, List.length_nil, List.replicate, then_normal, inBlock_normal, Option.getD_some, Option.getD_none, Bool.or_false, Bool.or_true, Bool.true_or, Bool.false_or, Bool.false_eq_true, if_false, if_true, up_zero, Nat.reduceAdd, Nat.reduceSub, binv, ↓opt_def, AV.isAny, AV.cells, ldc, List.map_cons, List.map_nil, St.set_next, St.set_same, St.up_next, Int.natCast_nonneg, lt_len, le_len, Int.toNat_natCast, true_and, and_true, eq_self, reduceCtorEq, decide_true, List.length_singleton, er_int, er_bool, er_str]
  refine h2 _ _ ?_
  try clear h2 K_h2
  refine T.regi hm ?_
  simp only [↓reduceIte, namesOf, List.any, I.names, aops, aopsI, aopsT, qstep, CPt, qget, Tbl.get, astep, ev, setd, List.set, List.getD, List.getElem?_cons_zero, List.getElem?_cons_succ, List.getElem?_nil, List.cons_append, List.nil_append, List.length_cons, List.length_nil, List.replicate, then_normal, inBlock_normal, Option.getD_some, Option.getD_none, Bool.or_false, Bool.or_true, Bool.true_or, Bool.false_or, Bool.false_eq_true, if_false, if_true, up_zero, Nat.reduceAdd, Nat.reduceSub, binv, ↓opt_def, AV.isAny, AV.cells, ldc, List.map_cons, List.map_nil, St.set_next, St.set_same, St.up_next, Int.natCast_nonneg, lt_len, le_len, Int.toNat_natCast, true_and, and_true, eq_self, reduceCtorEq, decide_true, List.length_singleton, er_int, er_bool, er_str, hiw]
  exact ⟨hil, _, _, Gh.keep [1, 4, 19, 20, 21], rfl, .none, rfl⟩

end Go.VL

namespace Go.VL

open Go.Proofs

/-- where a text can't be read -/
def rXbad (l : List UInt8) (s : Rs) : Bool := decide ((rN l s 2).bad ≠ -1) || decide ((rW l s 2 : Int) > l.length - (rN l s 2).at_)

/-- a text -/
def rX (l : List UInt8) (s : Rs) : List UInt8 := if rXbad l s then [] else (l.drop (rN l s 2).at_.toNat).take (rW l s 2)

/-- the reader behind it -/
def rXN (l : List UInt8) (s : Rs) : Rs := if (rN l s 2).bad ≠ -1 then rN l s 2 else if (rW l s 2 : Int) > l.length - (rN l s 2).at_ then ⟨s.at_, s.at_⟩ else ⟨(rN l s 2).at_ + rW l s 2, -1⟩

theorem rXN_ok {l : List UInt8} {s : Rs} (h : s.ok l) : (rXN l s).ok l := by
  have h2 := rN_ok (w := 2) h
  unfold rXN
  split
  · exact h2
  · rename_i hb
    have hb' : (rN l s 2).bad = -1 := by simpa using hb
    split
    · obtain ⟨⟨a1, a2, a3⟩, _⟩ := h
      exact ⟨⟨a1, a2, a3⟩, .inr a2⟩
    · obtain ⟨⟨a1, a2, a3⟩, _⟩ := h2
      exact ⟨⟨a1, by simp only; omega, by simp only; omega⟩, .inl rfl⟩

theorem rX_len {l : List UInt8} {s : Rs} (h : s.ok l) : (rX l s).length ≤ 65535 := by
  have := rW_lt (w := 2) h
  unfold rX
  split
  · simp
  · rw [List.length_take]; omega

set_option maxRecDepth 10000 in
set_option maxHeartbeats 1000000 in
theorem wtextR_ok {l : List UInt8} {s : Rs} {n : Nat} {σ : St} (hd : s.ok l) (hr : σ.res n = some (rdS l .none s)) :
    ACalls Try.prog n_wtextR [.ptr n 0, .int .i64 65535] σ (fun v σ' => v = .sl (bytesAV (rX l s)) .none ∧ σ' = σ.set n (rdS l .none (rXN l s))) := by
  refine s_wtextR (fun wf => ?_)
  unfold c_wtextR
  have hr' : σ.res n = some (.obj [.sl (bytesAV l) .none, .int .i64 s.at_, .int .i64 s.bad]) := hr
  have h2 := rN_ok (w := 2) hd
  have hN := rW_lt (w := 2) hd
  have eN : IntKind.i64.wrap (rW l s 2 : Int) = (rW l s 2 : Int) := wrap64 (by omega) (by omega)
  obtain ⟨⟨b1, b2, b3⟩, b4⟩ := h2
  have hn0 := wf.lt hr
  refine T.seq_k (fun K_h0 h0 => ?_)
  refine T.regi hm ?_
  simp only [↓reduceIte, namesOf, List.any, I.names, aops, aopsI, aopsT, qstep, CPt, qget, Tbl.get, astep, ev, setd, List.set, List.getD, List.getElem?_cons_zero, List.getElem?_cons_succ, List.getElem?_nil, List.cons_append, List.nil_append, List.length_cons, List.length_nil, List.replicate, then_normal, inBlock_normal, Option.getD_some, Option.getD_none, Bool.or_false, Bool.or_true, Bool.true_or, Bool.false_or, Bool.false_eq_true, if_false, if_true, up_zero, Nat.reduceAdd, Nat.reduceSub, binv, ↓opt_def, AV.isAny, AV.cells, ldc, List.map_cons, List.map_nil, St.set_next, St.set_same, St.up_next, Int.natCast_nonneg, lt_len, le_len, Int.toNat_natCast, true_and, and_true, eq_self, reduceCtorEq, decide_true, List.length_singleton, er_int, er_bool, er_str]
  refine h0 _ _ ?_
  try clear h0 K_h0
  refine T.seq_k (fun K_h0 h0 => ?_)
  refine T.regi hm ?_
  simp only [↓reduceIte, namesOf, List.any, I.names, aops, aopsI, aopsT, qstep, CPt, qget, Tbl.get, astep, ev, setd, List.set, List.getD, List.getElem?_cons_zero, List.getElem?_cons_succ, List.getElem?_nil, List.cons_append, List.nil_append, List.length_cons, List.length_nil, List.replicate, then_normal, inBlock_normal, Option.getD_some, Option.getD_none, Bool.or_false, Bool.or_true, Bool.true_or, Bool.false_or, Bool.false_eq_true, if_false, if_true, up_zero, Nat.reduceAdd, Nat.reduceSub, binv, ↓opt_def, AV.isAny, AV.cells, ldc, List.map_cons, List.map_nil, St.set_next, St.set_same, St.up_next, Int.natCast_nonneg, lt_len, le_len, Int.toNat_natCast, true_and, and_true, eq_self, reduceCtorEq, decide_true, List.length_singleton, er_int, er_bool, er_str, hr']
  refine h0 _ _ ?_
  try clear h0 K_h0
  refine T.seq_k (fun K_h1 h1 => ?_)
  refine T.regi hm ?_
  simp only [↓reduceIte, namesOf, List.any, I.names, aops, aopsI, aopsT, qstep, CPt, qget, Tbl.get, astep, ev, setd, List.set, List.getD, List.getElem?_cons_zero, List.getElem?_cons_succ, List.getElem?_nil, List.cons_append, List.nil_append, List.length_cons, List.length_nil, List.replicate, then_normal, inBlock_normal, Option.getD_some, Option.getD_none, Bool.or_false, Bool.or_true, Bool.true_or, Bool.false_or, Bool.false_eq_true, if_false, if_true, up_zero, Nat.reduceAdd, Nat.reduceSub, binv, ↓opt_def, AV.isAny, AV.cells, ldc, List.map_cons, List.map_nil, St.set_next, St.set_same, St.up_next, Int.natCast_nonneg, lt_len, le_len, Int.toNat_natCast, true_and, and_true, eq_self, reduceCtorEq, decide_true, List.length_singleton, er_int, er_bool, er_str]
  refine (wwordF hd rfl hr).mono ?_
  rintro v σ1 ⟨rfl, rfl⟩
  try simp only [↓reduceIte, namesOf, List.any, I.names, aops, aopsI, aopsT, qstep, CPt, qget, Tbl.get, astep, ev, setd, List.set, List.getD, List.getElem?_cons_zero, List.getElem?_cons_succ, List.getElem?_nil, List.cons_append, List.nil_append, List.length_cons, List.length_nil, List.replicate, then_normal, inBlock_normal, Option.getD_some, Option.getD_none, Bool.or_false, Bool.or_true, Bool.true_or, Bool.false_or, Bool.false_eq_true, if_false, if_true, up_zero, Nat.reduceAdd, Nat.reduceSub, binv, ↓opt_def, AV.isAny, AV.cells, ldc, List.map_cons, List.map_nil, St.set_next, St.set_same, St.up_next, Int.natCast_nonneg, lt_len, le_len, Int.toNat_natCast, true_and, and_true, eq_self, reduceCtorEq, decide_true, List.length_singleton, er_int, er_bool, er_str, up_zero, eN]
  refine h1 _ _ ?_
  try clear h1 K_h1
  generalize hS : rN l s 2 = s2 at b2 b3 b4
  generalize hM : rW l s 2 = m at hN
  have hr2 : (σ.set n (rdS l .none s2)).res n = some (.obj [.sl (bytesAV l) .none, .int .i64 s2.at_, .int .i64 s2.bad]) := St.set_same _ _ _
  have hr2' : (σ.set n (rdS l .none s2)).res n = some (rdS l .none s2) := St.set_same _ _ _
  generalize hσ2 : σ.set n (rdS l .none s2) = t2 at hr2 hr2' ⊢
  have hXb : rXbad l s = (decide (s2.bad ≠ -1) || decide ((m : Int) > l.length - s2.at_)) := by unfold rXbad; rw [hS, hM]
  have hXN : rXN l s = if s2.bad ≠ -1 then s2 else if (m : Int) > l.length - s2.at_ then ⟨s.at_, s.at_⟩ else ⟨s2.at_ + m, -1⟩ := by unfold rXN; rw [hS, hM]
  have hX : rX l s = if rXbad l s then [] else (l.drop s2.at_.toNat).take m := by unfold rX; rw [hS, hM]
  have e1 : decide ((m : Int) > 65535) = false := decide_eq_false (by omega)
  refine T.seq_k (fun K_h1 h1 => ?_)
  by_cases hbad : s2.bad = -1
  case neg =>
    have e2 : (s2.bad == -1) = false := by simpa using hbad
    have e3 : (s2.bad != -1) = true := by simpa using hbad
    refine T.seq_k (fun K_h0 h0 => ?_)
    refine T.regi hm ?_
    simp only [↓reduceIte, namesOf, List.any, I.names, aops, aopsI, aopsT, qstep, CPt, qget, Tbl.get, astep, ev, setd, List.set, List.getD, List.getElem?_cons_zero, List.getElem?_cons_succ, List.getElem?_nil, List.cons_append, List.nil_append, List.length_cons, List.length_nil, List.replicate, then_normal, inBlock_normal, Option.getD_some, Option.getD_none, Bool.or_false, Bool.or_true, Bool.true_or, Bool.false_or, Bool.false_eq_true, if_false, if_true, up_zero, Nat.reduceAdd, Nat.reduceSub, binv, ↓opt_def, AV.isAny, AV.cells, ldc, List.map_cons, List.map_nil, St.set_next, St.set_same, St.up_next, Int.natCast_nonneg, lt_len, le_len, Int.toNat_natCast, true_and, and_true, eq_self, reduceCtorEq, decide_true, List.length_singleton, er_int, er_bool, er_str, hr2, e2]
    refine h0 _ _ ?_
    try clear h0 K_h0
    refine T.cond rfl (fun h => by cases h) (fun _ => T.skip ?_)
    refine h1 _ _ ?_
    try clear h1 K_h1
    refine T.seq_k (fun K_h1 h1 => ?_)
    refine T.seq_k (fun K_h0 h0 => ?_)
    refine T.regi hm ?_
    simp only [↓reduceIte, namesOf, List.any, I.names, aops, aopsI, aopsT, qstep, CPt, qget, Tbl.get, astep, ev, setd, List.set, List.getD, List.getElem?_cons_zero, List.getElem?_cons_succ, List.getElem?_nil, List.cons_append, List.nil_append, List.length_cons, List.length_nil, List.replicate, then_normal, inBlock_normal, Option.getD_some, Option.getD_none, Bool.or_false, Bool.or_true, Bool.true_or, Bool.false_or, Bool.false_eq_true, if_false, if_true, up_zero, Nat.reduceAdd, Nat.reduceSub, binv, ↓opt_def, AV.isAny, AV.cells, ldc, List.map_cons, List.map_nil, St.set_next, St.set_same, St.up_next, Int.natCast_nonneg, lt_len, le_len, Int.toNat_natCast, true_and, and_true, eq_self, reduceCtorEq, decide_true, List.length_singleton, er_int, er_bool, er_str, hr2, e3]
    refine h0 _ _ ?_
    try clear h0 K_h0
    refine T.cond rfl (fun _ => ?_) (fun h => by cases h)
    refine T.seq_k (fun K_h0 h0 => ?_)
    refine T.regi hm ?_
    simp only [↓reduceIte, namesOf, List.any, I.names, aops, aopsI, aopsT, qstep, CPt, qget, Tbl.get, astep, ev, setd, List.set, List.getD, List.getElem?_cons_zero, List.getElem?_cons_succ, List.getElem?_nil, List.cons_append, List.nil_append, List.length_cons, List.length_nil, List.replicate, then_normal, inBlock_normal, Option.getD_some, Option.getD_none, Bool.or_false, Bool.or_true, Bool.true_or, Bool.false_or, Bool.false_eq_true, if_false, if_true, up_zero, Nat.reduceAdd, Nat.reduceSub, binv, ↓opt_def, AV.isAny, AV.cells, ldc, List.map_cons, List.map_nil, St.set_next, St.set_same, St.up_next, Int.natCast_nonneg, lt_len, le_len, Int.toNat_natCast, true_and, and_true, eq_self, reduceCtorEq, decide_true, List.length_singleton, er_int, er_bool, er_str]
    refine h0 _ _ ?_
    try clear h0 K_h0
    have hb' : s2.bad ≠ -1 := hbad
    refine T.ret (Fin.likeset (r := rdS l .none s2) wf rfl (Wk.sl _ _) (by rw [hσ2]; exact .refl _) hr ⟨trivial, trivial⟩ (nb_rd _ _ _ _) ⟨?_, ?_⟩)
    · rw [hX, hXb, decide_eq_true hb']; rfl
    · rw [hXN, if_pos hb']
  have e2 : (s2.bad == -1) = true := by simpa using hbad
  have hb' : ¬ s2.bad ≠ -1 := fun h => h hbad
  by_cases hm2 : (m : Int) > l.length - s2.at_
  · have e3 : decide ((m : Int) > (l.length : Int) - s2.at_) = true := decide_eq_true hm2
    refine T.seq_k (fun K_h0 h0 => ?_)
    refine T.regi hm ?_
    simp only [↓reduceIte, namesOf, List.any, I.names, aops, aopsI, aopsT, qstep, CPt, qget, Tbl.get, astep, ev, setd, List.set, List.getD, List.getElem?_cons_zero, List.getElem?_cons_succ, List.getElem?_nil, List.cons_append, List.nil_append, List.length_cons, List.length_nil, List.replicate, then_normal, inBlock_normal, Option.getD_some, Option.getD_none, Bool.or_false, Bool.or_true, Bool.true_or, Bool.false_or, Bool.false_eq_true, if_false, if_true, up_zero, Nat.reduceAdd, Nat.reduceSub, binv, ↓opt_def, AV.isAny, AV.cells, ldc, List.map_cons, List.map_nil, St.set_next, St.set_same, St.up_next, Int.natCast_nonneg, lt_len, le_len, Int.toNat_natCast, true_and, and_true, eq_self, reduceCtorEq, decide_true, List.length_singleton, er_int, er_bool, er_str, hr2, e2, e1]
    refine (wleft_ok b1 b2 b3 hr2').mono ?_
    rintro v σ2 ⟨rfl, rfl⟩
    try simp only [↓reduceIte, namesOf, List.any, I.names, aops, aopsI, aopsT, qstep, CPt, qget, Tbl.get, astep, ev, setd, List.set, List.getD, List.getElem?_cons_zero, List.getElem?_cons_succ, List.getElem?_nil, List.cons_append, List.nil_append, List.length_cons, List.length_nil, List.replicate, then_normal, inBlock_normal, Option.getD_some, Option.getD_none, Bool.or_false, Bool.or_true, Bool.true_or, Bool.false_or, Bool.false_eq_true, if_false, if_true, up_zero, Nat.reduceAdd, Nat.reduceSub, binv, ↓opt_def, AV.isAny, AV.cells, ldc, List.map_cons, List.map_nil, St.set_next, St.set_same, St.up_next, Int.natCast_nonneg, lt_len, le_len, Int.toNat_natCast, true_and, and_true, eq_self, reduceCtorEq, decide_true, List.length_singleton, er_int, er_bool, er_str, up_zero, e3]
    refine h0 _ _ ?_
    try clear h0 K_h0
    refine T.cond rfl (fun _ => ?_) (fun h => by cases h)
    refine T.seq_k (fun K_h0 h0 => ?_)
    refine T.regi hm ?_
    simp only [↓reduceIte, namesOf, List.any, I.names, aops, aopsI, aopsT, qstep, CPt, qget, Tbl.get, astep, ev, setd, List.set, List.getD, List.getElem?_cons_zero, List.getElem?_cons_succ, List.getElem?_nil, List.cons_append, List.nil_append, List.length_cons, List.length_nil, List.replicate, then_normal, inBlock_normal, Option.getD_some, Option.getD_none, Bool.or_false, Bool.or_true, Bool.true_or, Bool.false_or, Bool.false_eq_true, if_false, if_true, up_zero, Nat.reduceAdd, Nat.reduceSub, binv, ↓opt_def, AV.isAny, AV.cells, ldc, List.map_cons, List.map_nil, St.set_next, St.set_same, St.up_next, Int.natCast_nonneg, lt_len, le_len, Int.toNat_natCast, true_and, and_true, eq_self, reduceCtorEq, decide_true, List.length_singleton, er_int, er_bool, er_str, hr2, AV.fits, AV.one, List.all_cons, List.all_nil, Nat.reduceBEq, Bool.and_true, Bool.not_false, Bool.and_self, Nat.zero_add, splice, List.take, List.drop, Nat.reduceLeDiff, St.set_set]
    refine h0 _ _ ?_
    try clear h0 K_h0
    refine T.regi hm ?_
    simp only [↓reduceIte, namesOf, List.any, I.names, aops, aopsI, aopsT, qstep, CPt, qget, Tbl.get, astep, ev, setd, List.set, List.getD, List.getElem?_cons_zero, List.getElem?_cons_succ, List.getElem?_nil, List.cons_append, List.nil_append, List.length_cons, List.length_nil, List.replicate, then_normal, inBlock_normal, Option.getD_some, Option.getD_none, Bool.or_false, Bool.or_true, Bool.true_or, Bool.false_or, Bool.false_eq_true, if_false, if_true, up_zero, Nat.reduceAdd, Nat.reduceSub, binv, ↓opt_def, AV.isAny, AV.cells, ldc, List.map_cons, List.map_nil, St.set_next, St.set_same, St.up_next, Int.natCast_nonneg, lt_len, le_len, Int.toNat_natCast, true_and, and_true, eq_self, reduceCtorEq, decide_true, List.length_singleton, er_int, er_bool, er_str]
    rw [← hσ2, St.set_set]
    have hr3 : (σ.set n (.obj [.sl (bytesAV l) .none, .int .i64 s.at_, .int .i64 s2.bad])).res n = some (rd l .none s.at_ s2.bad) := St.set_same _ _ _
    generalize hσ3 : σ.set n (.obj [.sl (bytesAV l) .none, .int .i64 s.at_, .int .i64 s2.bad]) = t3 at hr3 ⊢
    refine (wfail_ok hr3).mono ?_
    rintro v σ3 hσ4
    rw [if_pos hbad, ← hσ3, St.set_set] at hσ4
    have hr4 : σ3.res n = some (.obj [.sl (bytesAV l) .none, .int .i64 s.at_, .int .i64 s.at_]) := by rw [hσ4]; exact St.set_same _ _ _
    try simp only [↓reduceIte, namesOf, List.any, I.names, aops, aopsI, aopsT, qstep, CPt, qget, Tbl.get, astep, ev, setd, List.set, List.getD, List.getElem?_cons_zero, List.getElem?_cons_succ, List.getElem?_nil, List.cons_append, List.nil_append, List.length_cons, List.length_nil, List.replicate, then_normal, inBlock_normal, Option.getD_some, Option.getD_none, Bool.or_false, Bool.or_true, Bool.true_or, Bool.false_or, Bool.false_eq_true, if_false, if_true, up_zero, Nat.reduceAdd, Nat.reduceSub, binv, ↓opt_def, AV.isAny, AV.cells, ldc, List.map_cons, List.map_nil, St.set_next, St.set_same, St.up_next, Int.natCast_nonneg, lt_len, le_len, Int.toNat_natCast, true_and, and_true, eq_self, reduceCtorEq, decide_true, List.length_singleton, er_int, er_bool, er_str, up_zero]
    refine h1 _ _ ?_
    try clear h1 K_h1
    refine T.seq_k (fun K_h1 h1 => ?_)
    have e4 : (s.at_ != -1) = true := by have := hd.1.lo; rw [bne_iff_ne]; omega
    refine T.seq_k (fun K_h0 h0 => ?_)
    refine T.regi hm ?_
    simp only [↓reduceIte, namesOf, List.any, I.names, aops, aopsI, aopsT, qstep, CPt, qget, Tbl.get, astep, ev, setd, List.set, List.getD, List.getElem?_cons_zero, List.getElem?_cons_succ, List.getElem?_nil, List.cons_append, List.nil_append, List.length_cons, List.length_nil, List.replicate, then_normal, inBlock_normal, Option.getD_some, Option.getD_none, Bool.or_false, Bool.or_true, Bool.true_or, Bool.false_or, Bool.false_eq_true, if_false, if_true, up_zero, Nat.reduceAdd, Nat.reduceSub, binv, ↓opt_def, AV.isAny, AV.cells, ldc, List.map_cons, List.map_nil, St.set_next, St.set_same, St.up_next, Int.natCast_nonneg, lt_len, le_len, Int.toNat_natCast, true_and, and_true, eq_self, reduceCtorEq, decide_true, List.length_singleton, er_int, er_bool, er_str, hr4, e4]
    refine h0 _ _ ?_
    try clear h0 K_h0
    refine T.cond rfl (fun _ => ?_) (fun h => by cases h)
    refine T.seq_k (fun K_h0 h0 => ?_)
    refine T.regi hm ?_
    simp only [↓reduceIte, namesOf, List.any, I.names, aops, aopsI, aopsT, qstep, CPt, qget, Tbl.get, astep, ev, setd, List.set, List.getD, List.getElem?_cons_zero, List.getElem?_cons_succ, List.getElem?_nil, List.cons_append, List.nil_append, List.length_cons, List.length_nil, List.replicate, then_normal, inBlock_normal, Option.getD_some, Option.getD_none, Bool.or_false, Bool.or_true, Bool.true_or, Bool.false_or, Bool.false_eq_true, if_false, if_true, up_zero, Nat.reduceAdd, Nat.reduceSub, binv, ↓opt_def, AV.isAny, AV.cells, ldc, List.map_cons, List.map_nil, St.set_next, St.set_same, St.up_next, Int.natCast_nonneg, lt_len, le_len, Int.toNat_natCast, true_and, and_true, eq_self, reduceCtorEq, decide_true, List.length_singleton, er_int, er_bool, er_str]
    refine h0 _ _ ?_
    try clear h0 K_h0
    refine T.ret (Fin.likeset (r := rd l .none s.at_ s.at_) wf rfl (Wk.sl _ _) (by rw [hσ4]; exact .refl _) hr ⟨trivial, trivial⟩ (nb_rd _ _ _ _) ⟨?_, ?_⟩)
    · rw [hX, hXb, decide_eq_true hm2, Bool.or_true]; rfl
    · rw [hXN, if_neg hb', if_pos hm2]; rfl
  · have e3 : decide ((m : Int) > (l.length : Int) - s2.at_) = false := decide_eq_false hm2
    refine T.seq_k (fun K_h0 h0 => ?_)
    refine T.regi hm ?_
    simp only [↓reduceIte, namesOf, List.any, I.names, aops, aopsI, aopsT, qstep, CPt, qget, Tbl.get, astep, ev, setd, List.set, List.getD, List.getElem?_cons_zero, List.getElem?_cons_succ, List.getElem?_nil, List.cons_append, List.nil_append, List.length_cons, List.length_nil, List.replicate, then_normal, inBlock_normal, Option.getD_some, Option.getD_none, Bool.or_false, Bool.or_true, Bool.true_or, Bool.false_or, Bool.false_eq_true, if_false, if_true, up_zero, Nat.reduceAdd, Nat.reduceSub, binv, ↓opt_def, AV.isAny, AV.cells, ldc, List.map_cons, List.map_nil, St.set_next, St.set_same, St.up_next, Int.natCast_nonneg, lt_len, le_len, Int.toNat_natCast, true_and, and_true, eq_self, reduceCtorEq, decide_true, List.length_singleton, er_int, er_bool, er_str, hr2, e2, e1]
    refine (wleft_ok b1 b2 b3 hr2').mono ?_
    rintro v σ2 ⟨rfl, rfl⟩
    try simp only [↓reduceIte, namesOf, List.any, I.names, aops, aopsI, aopsT, qstep, CPt, qget, Tbl.get, astep, ev, setd, List.set, List.getD, List.getElem?_cons_zero, List.getElem?_cons_succ, List.getElem?_nil, List.cons_append, List.nil_append, List.length_cons, List.length_nil, List.replicate, then_normal, inBlock_normal, Option.getD_some, Option.getD_none, Bool.or_false, Bool.or_true, Bool.true_or, Bool.false_or, Bool.false_eq_true, if_false, if_true, up_zero, Nat.reduceAdd, Nat.reduceSub, binv, ↓opt_def, AV.isAny, AV.cells, ldc, List.map_cons, List.map_nil, St.set_next, St.set_same, St.up_next, Int.natCast_nonneg, lt_len, le_len, Int.toNat_natCast, true_and, and_true, eq_self, reduceCtorEq, decide_true, List.length_singleton, er_int, er_bool, er_str, up_zero, e3]
    refine h0 _ _ ?_
    try clear h0 K_h0
    refine T.cond rfl (fun h => by cases h) (fun _ => T.skip ?_)
    refine h1 _ _ ?_
    try clear h1 K_h1
    have e4 : (s2.bad != -1) = false := by simpa using hbad
    refine T.seq_k (fun K_h1 h1 => ?_)
    refine T.seq_k (fun K_h0 h0 => ?_)
    refine T.regi hm ?_
    simp only [↓reduceIte, namesOf, List.any, I.names, aops, aopsI, aopsT, qstep, CPt, qget, Tbl.get, astep, ev, setd, List.set, List.getD, List.getElem?_cons_zero, List.getElem?_cons_succ, List.getElem?_nil, List.cons_append, List.nil_append, List.length_cons, List.length_nil, List.replicate, then_normal, inBlock_normal, Option.getD_some, Option.getD_none, Bool.or_false, Bool.or_true, Bool.true_or, Bool.false_or, Bool.false_eq_true, if_false, if_true, up_zero, Nat.reduceAdd, Nat.reduceSub, binv, ↓opt_def, AV.isAny, AV.cells, ldc, List.map_cons, List.map_nil, St.set_next, St.set_same, St.up_next, Int.natCast_nonneg, lt_len, le_len, Int.toNat_natCast, true_and, and_true, eq_self, reduceCtorEq, decide_true, List.length_singleton, er_int, er_bool, er_str, hr2, e4]
    refine h0 _ _ ?_
    try clear h0 K_h0
    refine T.cond rfl (fun h => by cases h) (fun _ => T.skip ?_)
    refine h1 _ _ ?_
    try clear h1 K_h1
    refine T.seq_k (fun K_h1 h1 => ?_)
    refine T.regi hm ?_
    simp only [↓reduceIte, namesOf, List.any, I.names, aops, aopsI, aopsT, qstep, CPt, qget, Tbl.get, astep, ev, setd, List.set, List.getD, List.getElem?_cons_zero, List.getElem?_cons_succ, List.getElem?_nil, List.cons_append, List.nil_append, List.length_cons, List.length_nil, List.replicate, then_normal, inBlock_normal, Option.getD_some, Option.getD_none, Bool.or_false, Bool.or_true, Bool.true_or, Bool.false_or, Bool.false_eq_true, if_false, if_true, up_zero, Nat.reduceAdd, Nat.reduceSub, binv, ↓opt_def, AV.isAny, AV.cells, ldc, List.map_cons, List.map_nil, St.set_next, St.set_same, St.up_next, Int.natCast_nonneg, lt_len, le_len, Int.toNat_natCast, true_and, and_true, eq_self, reduceCtorEq, decide_true, List.length_singleton, er_int, er_bool, er_str, held, List.all_nil]
    have L1 : Like σ2 ((σ2.up 6).set (σ2.next + 0) (Res.tip 1)) := (Like.refl σ2).box _
    have hn2 : n < σ2.next := by rw [← hσ2]; exact hn0
    have u1 : ((σ2.up 6).set (σ2.next + 0) (Res.tip 1)).res n = some (rd l .none s2.at_ s2.bad) := by rw [St.set_other _ _ (by omega)]; exact hr2'
    refine (wtake_ok ⟨b1, b2, b3⟩ (by omega) u1).mono ?_
    rintro v t4 (⟨_, rfl, rfl⟩ | ⟨hno, _⟩)
    case inr => exact absurd ⟨hbad, by omega⟩ hno
    have L2 := L1.put n (rd l .none (s2.at_ + m) s2.bad)
    have L3 : Like (σ2.set n (rd l .none (s2.at_ + m) s2.bad)) (((((σ2.up 6).set (σ2.next + 0) (Res.tip 1)).set n (rd l .none (s2.at_ + m) s2.bad)).del (σ2.next + 0)).set (σ2.next + 4) (.tip 1)) :=
      (L2.del (n := σ2.next + 0) (Nat.le_refl _)).set _ (Nat.le_add_right _ _)
    have u2 : (((σ2.up 6).set (σ2.next + 0) (Res.tip 1)).set n (rd l .none (s2.at_ + m) s2.bad)).res (σ2.next + 0) = some (.tip 1) := by rw [St.set_other _ _ (by omega)]; simp
    have hlen : ((l.drop s2.at_.toNat).take m).length ≤ 65536 := by rw [List.length_take]; omega
    have hle : decide ((0 + ((l.drop s2.at_.toNat).take m).length) * 1 ≤ 70368744177664 ∧ 0 + ((l.drop s2.at_.toNat).take m).length ≤ 4611686018427387904) = true := app_le (by omega)
    generalize hV : (l.drop s2.at_.toNat).take m = V at hlen hle ⊢
    try simp only [↓reduceIte, namesOf, List.any, I.names, aops, aopsI, aopsT, qstep, CPt, qget, Tbl.get, astep, ev, setd, List.set, List.getD, List.getElem?_cons_zero, List.getElem?_cons_succ, List.getElem?_nil, List.cons_append, List.nil_append, List.length_cons, List.length_nil, List.replicate, then_normal, inBlock_normal, Option.getD_some, Option.getD_none, Bool.or_false, Bool.or_true, Bool.true_or, Bool.false_or, Bool.false_eq_true, if_false, if_true, up_zero, Nat.reduceAdd, Nat.reduceSub, binv, ↓opt_def, AV.isAny, AV.cells, ldc, List.map_cons, List.map_nil, St.set_next, St.set_same, St.up_next, Int.natCast_nonneg, lt_len, le_len, Int.toNat_natCast, true_and, and_true, eq_self, reduceCtorEq, decide_true, List.length_singleton, er_int, er_bool, er_str, held, srcOf, bytesAV_er, bytesAV_app, bytes_all, bytesAV_len, List.length_append, Bool.and_self, St.up_res, List.isEmpty, u2, hle]
    refine h1 _ _ ?_
    try clear h1 K_h1
    refine T.ret (Fin.likeset (r := rd l .none (s2.at_ + m) s2.bad) wf rfl (Wk.sl _ _) (by rw [← hσ2, St.set_set] at L3; rw [← hσ2]; exact L3) hr ⟨nb_bytes _ _, trivial⟩ (nb_rd _ _ _ _) ⟨?_, ?_⟩)
    · rw [hX, hXb, decide_eq_false hb', decide_eq_false hm2, ← hV]; rfl
    · rw [hXN, if_neg hb', if_neg hm2, hbad]; rfl

end Go.VL

namespace Go.VL

open Go.Proofs

theorem bytesAV_inj {a b : List UInt8} (h : bytesAV a = bytesAV b) : a = b := by
  have := congrArg toBytes h
  rw [toBytes_bytes, toBytes_bytes] at this
  exact Option.some.inj this

theorem spav_inj {a b : Sp} (h : a.av = b.av) : a = b := by
  obtain ⟨a1, a2, a3, a4, a5⟩ := a
  obtain ⟨b1, b2, b3, b4, b5⟩ := b
  simp only [Sp.av, AV.agg.injEq, List.cons.injEq, AV.int.injEq, true_and, AV.sl.injEq, and_true] at h
  obtain ⟨h1, h2, h3, h4, h5⟩ := h
  simp only [Sp.mk.injEq]
  exact ⟨by omega, by omega, h3, h4, bytesAV_inj h5⟩

theorem spsAV_inj : ∀ {a b : List Sp}, spsAV a = spsAV b → a = b
  | [], [], _ => rfl
  | [], _ :: _, h => by cases h
  | _ :: _, [], h => by cases h
  | x :: a, y :: b, h => by
    simp only [spsAV, List.map_cons, List.cons.injEq] at h
    rw [spav_inj h.1, spsAV_inj (a := a) (b := b) h.2]

open Classical in
noncomputable def g_one (args : List AV) : Option AV :=
  if h : ∃ t : Tc, args = [.agg [.int .u64 (t.id : Int), .sl (spsAV t.sp) .none]] ∧ t.sp.length ≤ 9223372036854775807 then some (.bool (oneB h.choose)) else none

theorem one_inj {t c : Tc} (h : [AV.agg [.int .u64 (t.id : Int), .sl (spsAV t.sp) .none]] = [.agg [.int .u64 (c.id : Int), .sl (spsAV c.sp) .none]]) : c = t := by
  simp only [List.cons.injEq, and_true, AV.agg.injEq, AV.int.injEq, true_and, AV.sl.injEq] at h
  obtain ⟨i, sp⟩ := t
  obtain ⟨j, sq⟩ := c
  simp only at h
  have e1 : i = j := Int.ofNat.inj h.1
  have e2 := spsAV_inj h.2
  rw [e1, e2]

theorem g_one_eq {t : Tc} (hl : t.sp.length ≤ 9223372036854775807) : g_one [.agg [.int .u64 (t.id : Int), .sl (spsAV t.sp) .none]] = some (.bool (oneB t)) := by
  unfold g_one
  have hex : ∃ t' : Tc, [AV.agg [.int .u64 (t.id : Int), .sl (spsAV t.sp) .none]] = [.agg [.int .u64 (t'.id : Int), .sl (spsAV t'.sp) .none]] ∧ t'.sp.length ≤ 9223372036854775807 := ⟨t, rfl, hl⟩
  rw [dif_pos hex]
  have this : hex.choose = t := one_inj hex.choose_spec.1
  rw [this]

theorem one_pure : PureC Try.prog n_one g_one := by
  intro args σ v h
  unfold g_one at h
  split at h
  · rename_i hex
    simp only [Option.some.injEq] at h; subst h
    have hc := hex.choose_spec
    generalize hex.choose = c at hc
    obtain ⟨rfl, hl⟩ := hc
    exact tone_ok hl
  · cases h

noncomputable def tO : Tbl := [(n_one, g_one)]

theorem tO_ok : tO.ok Try.prog := Tbl.ok_cons one_pure Tbl.ok_nil

def isAt (l : List Tc) (i : Nat) : Bool := match l[i]? with
  | some t => oneB t && (i == 0 || (match l[i - 1]? with | some p => decide (p.id < t.id) | none => false))
  | none => false

def isB (l : List Tc) : Bool := (List.range l.length).all (isAt l)

theorem is_false {l : List Tc} {i : Nat} (hi : i < l.length) (h : isAt l i = false) : isB l = false := by
  unfold isB
  rw [Bool.eq_false_iff]
  intro hh
  have := List.all_eq_true.1 hh i (by simpa using hi)
  rw [h] at this; cases this

theorem tcav' (t : Tc) : t.av = .agg [.int .u64 (t.id : Int), .sl (spsAV t.sp) .none] := rfl

set_option maxRecDepth 10000 in
theorem is_ok {l : List Tc} {g : Ver} {σ : St} (hl : l.length ≤ 9223372036854775807) (hs : ∀ t ∈ l, t.sp.length ≤ 9223372036854775807) : ACalls Try.prog n_is [.sl (tcsAV l) g] σ (fun v σ' => v = .bool (isB l) ∧ σ' = σ) := by
  refine s_is (fun wf => ?_)
  unfold c_is
  refine T.seq_k (fun K_h1 h1 => ?_)
  refine T.regi hm ?_
  simp only [↓reduceIte, namesOf, List.any, I.names, aops, aopsI, aopsT, qstep, CPt, qget, Tbl.get, astep, ev, setd, List.set, List.getD, List.getElem?_cons_zero, List.getElem?_cons_succ, List.getElem?_nil, List.cons_append, List.nil_append, List.length_cons, List.length_nil, List.replicate, then_normal, inBlock_normal, Option.getD_some, Option.getD_none, Bool.or_false, Bool.or_true, Bool.true_or, Bool.false_or, Bool.false_eq_true, if_false, if_true, up_zero, Nat.reduceAdd, Nat.reduceSub, binv, ↓opt_def, AV.isAny, AV.cells, ldc, List.map_cons, List.map_nil, St.set_next, St.set_same, St.up_next, Int.natCast_nonneg, lt_len, le_len, Int.toNat_natCast, true_and, and_true, eq_self, reduceCtorEq, decide_true, List.length_singleton, er_int, er_bool, er_str]
  refine h1 _ _ ?_
  try clear h1 K_h1
  refine T.seq_k (fun K_h1 h1 => ?_)
  refine T.seq_k (fun K_h2 h2 => ?_)
  refine T.regi hm ?_
  simp only [↓reduceIte, namesOf, List.any, I.names, aops, aopsI, aopsT, qstep, CPt, qget, Tbl.get, astep, ev, setd, List.set, List.getD, List.getElem?_cons_zero, List.getElem?_cons_succ, List.getElem?_nil, List.cons_append, List.nil_append, List.length_cons, List.length_nil, List.replicate, then_normal, inBlock_normal, Option.getD_some, Option.getD_none, Bool.or_false, Bool.or_true, Bool.true_or, Bool.false_or, Bool.false_eq_true, if_false, if_true, up_zero, Nat.reduceAdd, Nat.reduceSub, binv, ↓opt_def, AV.isAny, AV.cells, ldc, List.map_cons, List.map_nil, St.set_next, St.set_same, St.up_next, Int.natCast_nonneg, lt_len, le_len, Int.toNat_natCast, true_and, and_true, eq_self, reduceCtorEq, decide_true, List.length_singleton, er_int, er_bool, er_str, tcs_len]
  refine h2 _ _ ?_
  try clear h2 K_h2
  refine T.block ?_
  refine T.gh (Gh.keep [0, 5, 6, 7]) ?_
  refine T.loopi (fun i ρ σ' => σ.next ≤ σ'.next ∧ (∀ n x, σ.res n = some x → σ'.res n = some x) ∧ (List.range i).all (isAt l) = true ∧ ρ = [.sl (tcsAV l) g, .any, .any, .any, .any, .sl (tcsAV l) g, .int .i64 (l.length : Int), .int .i64 (i : Int)] ++ List.replicate 23 .any)
    l.length 0 (Nat.zero_le _) ⟨Nat.le_refl _, fun _ _ h => h, rfl, rfl⟩ ?_
  rintro i ρ σ' hi ⟨hn, ho, hpre, rfl⟩
  refine T.seq_k (fun K_h2 h2 => ?_)
  refine T.regi hm ?_
  simp only [↓reduceIte, namesOf, List.any, I.names, aops, aopsI, aopsT, qstep, CPt, qget, Tbl.get, astep, ev, setd, List.set, List.getD, List.getElem?_cons_zero, List.getElem?_cons_succ, List.getElem?_nil, List.cons_append, List.nil_append, List.length_cons, List.length_nil, List.replicate, then_normal, inBlock_normal, Option.getD_some, Option.getD_none, Bool.or_false, Bool.or_true, Bool.true_or, Bool.false_or, Bool.false_eq_true, if_false, if_true, up_zero, Nat.reduceAdd, Nat.reduceSub, binv, ↓opt_def, AV.isAny, AV.cells, ldc, List.map_cons, List.map_nil, St.set_next, St.set_same, St.up_next, Int.natCast_nonneg, lt_len, le_len, Int.toNat_natCast, true_and, and_true, eq_self, reduceCtorEq, decide_true, List.length_singleton, er_int, er_bool, er_str]
  refine h2 _ _ ?_
  try clear h2 K_h2
  refine T.seq_k (fun K_h2 h2 => ?_)
  refine T.cond rfl (fun hb => ?_) (fun hb => ?_)
  · refine T.skip ?_
    refine h2 _ _ ?_
    try clear h2 K_h2
    have hil : i < l.length := by simpa using hb
    clear hb
    generalize ht : l[i] = t
    have hti : l[i]? = some t := by rw [← ht]; simp [hil]
    have htl : t.sp.length ≤ 9223372036854775807 := by rw [← ht]; exact hs _ (List.getElem_mem hil)
    refine T.seq_k (fun K_h2 h2 => ?_)
    refine T.block ?_
    refine T.seq_k (fun K_h3 h3 => ?_)
    refine T.regi hm ?_
    simp only [↓reduceIte, namesOf, List.any, I.names, aops, aopsI, aopsT, qstep, CPt, qget, Tbl.get, astep, ev, setd, List.set, List.getD, List.getElem?_cons_zero, List.getElem?_cons_succ, List.getElem?_nil, List.cons_append, List.nil_append, List.length_cons, List.length_nil, List.replicate, then_normal, inBlock_normal, Option.getD_some, Option.getD_none, Bool.or_false, Bool.or_true, Bool.true_or, Bool.false_or, Bool.false_eq_true, if_false, if_true, up_zero, Nat.reduceAdd, Nat.reduceSub, binv, ↓opt_def, AV.isAny, AV.cells, ldc, List.map_cons, List.map_nil, St.set_next, St.set_same, St.up_next, Int.natCast_nonneg, lt_len, le_len, Int.toNat_natCast, true_and, and_true, eq_self, reduceCtorEq, decide_true, List.length_singleton, er_int, er_bool, er_str, tcs_len, tcs_get hil, hil, ht, tcav', AV.fits, AV.one, List.all_cons, List.all_nil, Nat.reduceBEq, Bool.and_true, Bool.not_false, Bool.and_self, Nat.zero_add, splice, List.take, List.drop, Nat.reduceLeDiff, St.set_set]
    have ho2 := set_quiet wf hn ho (k := 6) (.obj [.int .u64 (t.id : Int), .sl (spsAV t.sp) .none]) (a := σ'.next + 3) (by omega)
    have hb5 : ((σ'.up 6).set (σ'.next + 3) (.obj [.int .u64 (t.id : Int), .sl (spsAV t.sp) .none])).res (σ'.next + 3) = some (.obj [.int .u64 (t.id : Int), .sl (spsAV t.sp) .none]) := by simp
    have hn2 : σ.next ≤ ((σ'.up 6).set (σ'.next + 3) (.obj [.int .u64 (t.id : Int), .sl (spsAV t.sp) .none])).next := by simp; omega
    generalize ((σ'.up 6).set (σ'.next + 3) (.obj [.int .u64 (t.id : Int), .sl (spsAV t.sp) .none])) = σ2 at ho2 hb5 hn2 ⊢
    generalize σ'.next + 3 = b at hb5 ⊢
    refine h3 _ _ ?_
    try clear h3 K_h3
    have fin : isAt l i = false → ∀ ρ' : List AV, ρ'.getD 2 .any = .bool false → Fin σ [.t 2] (fun v σ' => v = .bool (isB l) ∧ σ' = σ) .ret ρ' σ2 := by
      intro hf ρ' hρ
      refine Fin.quiet (xs := [ρ'.getD 2 .any]) rfl (by rw [hρ]; trivial) ho2 ⟨?_, rfl⟩
      rw [is_false hil hf, hρ]; rfl
    have hge := g_one_eq (t := t) htl
    have hw := inc64 hil hl
    refine T.seq_k (fun K_h3 h3 => ?_)
    cases c1 : oneB t with
    | false =>
      refine T.regt hm tO_ok ?_
      simp only [↓reduceIte, namesOf, List.any, I.names, aops, aopsI, aopsT, qstep, CPt, qget, Tbl.get, astep, ev, setd, List.set, List.getD, List.getElem?_cons_zero, List.getElem?_cons_succ, List.getElem?_nil, List.cons_append, List.nil_append, List.length_cons, List.length_nil, List.replicate, then_normal, inBlock_normal, Option.getD_some, Option.getD_none, Bool.or_false, Bool.or_true, Bool.true_or, Bool.false_or, Bool.false_eq_true, if_false, if_true, up_zero, Nat.reduceAdd, Nat.reduceSub, binv, ↓opt_def, AV.isAny, AV.cells, ldc, List.map_cons, List.map_nil, St.set_next, St.set_same, St.up_next, Int.natCast_nonneg, lt_len, le_len, Int.toNat_natCast, true_and, and_true, eq_self, reduceCtorEq, decide_true, List.length_singleton, er_int, er_bool, er_str, Nat.reduceEqDiff, tO, hb5, hge, c1, AV.fits, AV.one, List.all_cons, List.all_nil, Nat.reduceBEq, Bool.and_true, Bool.not_false, Bool.and_self, Nat.zero_add, splice, List.take, List.drop, Nat.reduceLeDiff, Bool.not_false, reduceCtorEq]
      refine h3 _ _ ?_
      try clear h3 K_h3
      refine T.cond rfl (fun _ => ?_) (fun h => by cases h)
      refine T.seq_k (fun K_h3 h3 => ?_)
      refine T.regi hm ?_
      simp only [↓reduceIte, namesOf, List.any, I.names, aops, aopsI, aopsT, qstep, CPt, qget, Tbl.get, astep, ev, setd, List.set, List.getD, List.getElem?_cons_zero, List.getElem?_cons_succ, List.getElem?_nil, List.cons_append, List.nil_append, List.length_cons, List.length_nil, List.replicate, then_normal, inBlock_normal, Option.getD_some, Option.getD_none, Bool.or_false, Bool.or_true, Bool.true_or, Bool.false_or, Bool.false_eq_true, if_false, if_true, up_zero, Nat.reduceAdd, Nat.reduceSub, binv, ↓opt_def, AV.isAny, AV.cells, ldc, List.map_cons, List.map_nil, St.set_next, St.set_same, St.up_next, Int.natCast_nonneg, lt_len, le_len, Int.toNat_natCast, true_and, and_true, eq_self, reduceCtorEq, decide_true, List.length_singleton, er_int, er_bool, er_str]
      refine h3 _ _ ?_
      try clear h3 K_h3
      exact T.ret (fin (by unfold isAt; simp only [hti, c1, Bool.false_and]) _ rfl)
    | true =>
    cases i with
    | zero =>
      have hz : decide (((0 : Nat) : Int) > 0) = false := rfl
      refine T.regt hm tO_ok ?_
      simp only [↓reduceIte, namesOf, List.any, I.names, aops, aopsI, aopsT, qstep, CPt, qget, Tbl.get, astep, ev, setd, List.set, List.getD, List.getElem?_cons_zero, List.getElem?_cons_succ, List.getElem?_nil, List.cons_append, List.nil_append, List.length_cons, List.length_nil, List.replicate, then_normal, inBlock_normal, Option.getD_some, Option.getD_none, Bool.or_false, Bool.or_true, Bool.true_or, Bool.false_or, Bool.false_eq_true, if_false, if_true, up_zero, Nat.reduceAdd, Nat.reduceSub, binv, ↓opt_def, AV.isAny, AV.cells, ldc, List.map_cons, List.map_nil, St.set_next, St.set_same, St.up_next, Int.natCast_nonneg, lt_len, le_len, Int.toNat_natCast, true_and, and_true, eq_self, reduceCtorEq, decide_true, List.length_singleton, er_int, er_bool, er_str, Nat.reduceEqDiff, tO, hb5, hge, c1, AV.fits, AV.one, List.all_cons, List.all_nil, Nat.reduceBEq, Bool.and_true, Bool.not_false, Bool.and_self, Nat.zero_add, splice, List.take, List.drop, Nat.reduceLeDiff, Bool.not_true, reduceCtorEq, hz]
      refine h3 _ _ ?_
      try clear h3 K_h3
      refine T.cond rfl (fun h => by cases h) (fun _ => ?_)
      refine T.skip ?_
      refine h2 _ _ ?_
      try clear h2 K_h2
      refine T.regi hm ?_
      simp only [↓reduceIte, namesOf, List.any, I.names, aops, aopsI, aopsT, qstep, CPt, qget, Tbl.get, astep, ev, setd, List.set, List.getD, List.getElem?_cons_zero, List.getElem?_cons_succ, List.getElem?_nil, List.cons_append, List.nil_append, List.length_cons, List.length_nil, List.replicate, then_normal, inBlock_normal, Option.getD_some, Option.getD_none, Bool.or_false, Bool.or_true, Bool.true_or, Bool.false_or, Bool.false_eq_true, if_false, if_true, up_zero, Nat.reduceAdd, Nat.reduceSub, binv, ↓opt_def, AV.isAny, AV.cells, ldc, List.map_cons, List.map_nil, St.set_next, St.set_same, St.up_next, Int.natCast_nonneg, lt_len, le_len, Int.toNat_natCast, true_and, and_true, eq_self, reduceCtorEq, decide_true, List.length_singleton, er_int, er_bool, er_str, hw]
      exact ⟨hil, _, _, Gh.keep [0, 5, 6, 7], hn2, ho2, by simp [isAt, hti, c1], rfl⟩
    | succ j =>
      have hjl : j < l.length := by omega
      generalize hp : l[j] = p
      have hpj : l[j]? = some p := by rw [← hp]; simp [hjl]
      have hz : decide (((j + 1 : Nat) : Int) > 0) = true := decide_eq_true (by omega)
      have hd : IntKind.i64.wrap (((j + 1 : Nat) : Int) - 1) = (j : Int) := by rw [wrap64 (by omega) (by omega)]; omega
      by_cases c4 : p.id < t.id
      · have e4 : decide ((p.id : Int) ≥ (t.id : Int)) = false := decide_eq_false (by omega)
        refine T.regt hm tO_ok ?_
        simp only [↓reduceIte, namesOf, List.any, I.names, aops, aopsI, aopsT, qstep, CPt, qget, Tbl.get, astep, ev, setd, List.set, List.getD, List.getElem?_cons_zero, List.getElem?_cons_succ, List.getElem?_nil, List.cons_append, List.nil_append, List.length_cons, List.length_nil, List.replicate, then_normal, inBlock_normal, Option.getD_some, Option.getD_none, Bool.or_false, Bool.or_true, Bool.true_or, Bool.false_or, Bool.false_eq_true, if_false, if_true, up_zero, Nat.reduceAdd, Nat.reduceSub, binv, ↓opt_def, AV.isAny, AV.cells, ldc, List.map_cons, List.map_nil, St.set_next, St.set_same, St.up_next, Int.natCast_nonneg, lt_len, le_len, Int.toNat_natCast, true_and, and_true, eq_self, reduceCtorEq, decide_true, List.length_singleton, er_int, er_bool, er_str, Nat.reduceEqDiff, tO, hb5, hge, c1, AV.fits, AV.one, List.all_cons, List.all_nil, Nat.reduceBEq, Bool.and_true, Bool.not_false, Bool.and_self, Nat.zero_add, splice, List.take, List.drop, Nat.reduceLeDiff, Bool.not_true, reduceCtorEq, hz, hd, tcs_len, tcs_get hjl, hjl, hp, tcav', e4]
        refine h3 _ _ ?_
        try clear h3 K_h3
        refine T.cond rfl (fun h => by cases h) (fun _ => ?_)
        refine T.skip ?_
        refine h2 _ _ ?_
        try clear h2 K_h2
        refine T.regi hm ?_
        simp only [↓reduceIte, namesOf, List.any, I.names, aops, aopsI, aopsT, qstep, CPt, qget, Tbl.get, astep, ev, setd, List.set, List.getD, List.getElem?_cons_zero, List.getElem?_cons_succ, List.getElem?_nil, List.cons_append, List.nil_append, List.length_cons, List.length_nil, List.replicate, then_normal, inBlock_normal, Option.getD_some, Option.getD_none, Bool.or_false, Bool.or_true, Bool.true_or, Bool.false_or, Bool.false_eq_true, if_false, if_true, up_zero, Nat.reduceAdd, Nat.reduceSub, binv, ↓opt_def, AV.isAny, AV.cells, ldc, List.map_cons, List.map_nil, St.set_next, St.set_same, St.up_next, Int.natCast_nonneg, lt_len, le_len, Int.toNat_natCast, true_and, and_true, eq_self, reduceCtorEq, decide_true, List.length_singleton, er_int, er_bool, er_str, hw]
        refine ⟨hil, _, _, Gh.keep [0, 5, 6, 7], hn2, ho2, ?_, rfl⟩
        rw [List.range_succ, List.all_append, hpre]; simp [isAt, hti, c1, hpj, c4]
      · have e4 : decide ((p.id : Int) ≥ (t.id : Int)) = true := decide_eq_true (by omega)
        refine T.regt hm tO_ok ?_
        simp only [↓reduceIte, namesOf, List.any, I.names, aops, aopsI, aopsT, qstep, CPt, qget, Tbl.get, astep, ev, setd, List.set, List.getD, List.getElem?_cons_zero, List.getElem?_cons_succ, List.getElem?_nil, List.cons_append, List.nil_append, List.length_cons, List.length_nil, List.replicate, then_normal, inBlock_normal, Option.getD_some, Option.getD_none, Bool.or_false, Bool.or_true, Bool.true_or, Bool.false_or, Bool.false_eq_true, if_false, if_true, up_zero, Nat.reduceAdd, Nat.reduceSub, binv, ↓opt_def, AV.isAny, AV.cells, ldc, List.map_cons, List.map_nil, St.set_next, St.set_same, St.up_next, Int.natCast_nonneg, lt_len, le_len, Int.toNat_natCast, true_and, and_true, eq_self, reduceCtorEq, decide_true, List.length_singleton, er_int, er_bool, er_str, Nat.reduceEqDiff, tO, hb5, hge, c1, AV.fits, AV.one, List.all_cons, List.all_nil, Nat.reduceBEq, Bool.and_true, Bool.not_false, Bool.and_self, Nat.zero_add, splice, List.take, List.drop, Nat.reduceLeDiff, Bool.not_true, reduceCtorEq, hz, hd, tcs_len, tcs_get hjl, hjl, hp, tcav', e4]
        refine h3 _ _ ?_
        try clear h3 K_h3
        refine T.cond rfl (fun _ => ?_) (fun h => by cases h)
        refine T.seq_k (fun K_h3 h3 => ?_)
        refine T.regi hm ?_
        simp only [↓reduceIte, namesOf, List.any, I.names, aops, aopsI, aopsT, qstep, CPt, qget, Tbl.get, astep, ev, setd, List.set, List.getD, List.getElem?_cons_zero, List.getElem?_cons_succ, List.getElem?_nil, List.cons_append, List.nil_append, List.length_cons, List.length_nil, List.replicate, then_normal, inBlock_normal, Option.getD_some, Option.getD_none, Bool.or_false, Bool.or_true, Bool.true_or, Bool.false_or, Bool.false_eq_true, if_false, if_true, up_zero, Nat.reduceAdd, Nat.reduceSub, binv, ↓opt_def, AV.isAny, AV.cells, ldc, List.map_cons, List.map_nil, St.set_next, St.set_same, St.up_next, Int.natCast_nonneg, lt_len, le_len, Int.toNat_natCast, true_and, and_true, eq_self, reduceCtorEq, decide_true, List.length_singleton, er_int, er_bool, er_str]
        refine h3 _ _ ?_
        try clear h3 K_h3
        exact T.ret (fin (by unfold isAt; simp [hti, hpj, c4]) _ rfl)
  · refine T.exit ?_
    have : i = l.length := by simp at hb; omega
    subst this
    try simp only [↓reduceIte, namesOf, List.any, I.names, aops, aopsI, aopsT, qstep, CPt, qget, Tbl.get, astep, ev, setd, List.set, List.getD, List.getElem?_cons_zero, List.getElem?_cons_succ, List.getElem?_nil, List.cons_append, List.nil_append, List.length_cons, List.length_nil, List.replicate, then_normal, inBlock_normal, Option.getD_some, Option.getD_none, Bool.or_false, Bool.or_true, Bool.true_or, Bool.false_or, Bool.false_eq_true, if_false, if_true, up_zero, Nat.reduceAdd, Nat.reduceSub, binv, ↓opt_def, AV.isAny, AV.cells, ldc, List.map_cons, List.map_nil, St.set_next, St.set_same, St.up_next, Int.natCast_nonneg, lt_len, le_len, Int.toNat_natCast, true_and, and_true, eq_self, reduceCtorEq, decide_true, List.length_singleton, er_int, er_bool, er_str, inBlock_exit, then_exit]
    refine h1 _ _ ?_
    try clear h1 K_h1
    refine T.seq_k (fun K_h1 h1 => ?_)
    refine T.regi hm ?_
    simp only [↓reduceIte, namesOf, List.any, I.names, aops, aopsI, aopsT, qstep, CPt, qget, Tbl.get, astep, ev, setd, List.set, List.getD, List.getElem?_cons_zero, List.getElem?_cons_succ, List.getElem?_nil, List.cons_append, List.nil_append, List.length_cons, List.length_nil, List.replicate, then_normal, inBlock_normal, Option.getD_some, Option.getD_none, Bool.or_false, Bool.or_true, Bool.true_or, Bool.false_or, Bool.false_eq_true, if_false, if_true, up_zero, Nat.reduceAdd, Nat.reduceSub, binv, ↓opt_def, AV.isAny, AV.cells, ldc, List.map_cons, List.map_nil, St.set_next, St.set_same, St.up_next, Int.natCast_nonneg, lt_len, le_len, Int.toNat_natCast, true_and, and_true, eq_self, reduceCtorEq, decide_true, List.length_singleton, er_int, er_bool, er_str]
    refine h1 _ _ ?_
    try clear h1 K_h1
    exact T.ret (Fin.quiet rfl trivial ho ⟨by rw [show isB l = true from hpre]; rfl, rfl⟩)

/-! ### Rows put together -/

end Go.VL

namespace Go.VL

/-- does a span stand ahead of another one? -/
def aheadS (a b : Sp) : Bool := if a.st ≠ b.st then decide (a.st < b.st) else if a.id ≠ b.id then decide (a.id < b.id) else decide (a.tr < b.tr)

/-- of two of one Trace and one Id: is the first one the lesser one? -/
def lessS (a b : Sp) : Bool := if a.st ≠ b.st then decide (a.st < b.st) else if a.en ≠ b.en then decide (a.en < b.en) else Op.bytesLess a.da b.da

end Go.VL

namespace Go.VL

open Go.Proofs

theorem tcs_fits (l : List Tc) : (tcsAV l).all (AV.fits 2) = true := by
  simp [tcsAV, Tc.av, AV.fits, AV.isAny, AV.cells, AV.one]

theorem tcs_er (l : List Tc) : (tcsAV l).map AV.er = tcsAV l := by
  simp only [tcsAV, List.map_map]
  apply List.map_congr_left
  intro t _
  rfl

theorem tcs_app (a b : List Tc) : tcsAV a ++ tcsAV b = tcsAV (a ++ b) := by simp [tcsAV]

theorem nbs_tcs (m : Nat) (l : List Tc) : nbs m (tcsAV l) := by
  rw [nbs_iff]
  intro x hx
  obtain ⟨t, _, rfl⟩ := List.mem_map.1 hx
  simp only [Tc.av, AV.nb, nbs, true_and, and_true, Ver.nb]
  rw [nbs_iff]
  intro y hy
  obtain ⟨s, _, rfl⟩ := List.mem_map.1 hy
  simp only [Sp.av, AV.nb, nbs, true_and, and_true, Ver.nb]
  exact (nb_bytes m s.da)

theorem flat_take1 {l : List (List Tc)} {i : Nat} (h : i < l.length) : (l.take (i + 1)).flatten = (l.take i).flatten ++ l[i] := by
  rw [List.take_succ_eq_append_getElem h, List.flatten_append]; simp

theorem flat_take_le {l : List (List Tc)} (i : Nat) : (l.take i).flatten.length ≤ l.flatten.length := by
  conv => rhs; rw [← List.take_append_drop i l]
  rw [List.flatten_append, List.length_append]; omega

end Go.VL

namespace Go.VL

open Go.Proofs

abbrev spC (a : Sp) : List AV := [.int .u64 (a.tr : Int), .int .u64 (a.id : Int), .int .i64 a.st, .int .i64 a.en, .sl (bytesAV a.da) .none]

theorem box2 {σ : St} (wf : WF σ) (k : Nat) (r r' : Res) : (((σ.up k).set (σ.next + 0) r).set (σ.next + 1) r').res (σ.next + 0) = some r ∧ (((σ.up k).set (σ.next + 0) r).set (σ.next + 1) r').res (σ.next + 1) = some r' ∧
    ∀ n x, σ.res n = some x → (((σ.up k).set (σ.next + 0) r).set (σ.next + 1) r').res n = some x :=
  ⟨by rw [St.set_other _ _ (by omega)]; simp, by simp, set2_quiet wf r r' (by omega) (by omega)⟩

theorem rahead_ok {a b : Sp} {σ : St} : ACalls Try.prog n_rahead [.agg (spC a), .agg (spC b)] σ (fun v σ' => v = .bool (aheadS a b) ∧ σ' = σ) := by
  refine s_rahead (fun wf => ?_)
  unfold c_rahead
  refine T.seq_k (fun K_h1 h1 => ?_)
  refine T.regi hm ?_
  simp only [↓reduceIte, namesOf, List.any, I.names, aops, aopsI, aopsT, qstep, CPt, qget, Tbl.get, astep, ev, setd, List.set, List.getD, List.getElem?_cons_zero, List.getElem?_cons_succ, List.getElem?_nil, List.cons_append, List.nil_append, List.length_cons, List.length_nil, List.replicate, then_normal, inBlock_normal, Option.getD_some, Option.getD_none, Bool.or_false, Bool.or_true, Bool.true_or, Bool.false_or, Bool.false_eq_true, if_false, if_true, up_zero, Nat.reduceAdd, Nat.reduceSub, binv, ↓opt_def, AV.isAny, AV.cells, ldc, List.map_cons, List.map_nil, St.set_next, St.set_same, St.up_next, Int.natCast_nonneg, lt_len, le_len, Int.toNat_natCast, true_and, and_true, eq_self, reduceCtorEq, decide_true, List.length_singleton, er_int, er_bool, er_str]
  obtain ⟨h0, h0', hq⟩ := box2 wf 3 (.obj (spC a)) (.obj (spC b))
  generalize (((σ.up 3).set (σ.next + 0) (.obj (spC a))).set (σ.next + 1) (.obj (spC b))) = σ1 at h0 h0' hq ⊢
  refine h1 _ _ ?_
  try clear h1 K_h1
  refine T.seq_k (fun K_h1 h1 => ?_)
  refine T.seq_k (fun K_h2 h2 => ?_)
  by_cases c1 : a.st = b.st
  case neg =>
    have e1 : (a.st != b.st) = true := by simpa using c1
    refine T.regi hm ?_
    simp only [↓reduceIte, namesOf, List.any, I.names, aops, aopsI, aopsT, qstep, CPt, qget, Tbl.get, astep, ev, setd, List.set, List.getD, List.getElem?_cons_zero, List.getElem?_cons_succ, List.getElem?_nil, List.cons_append, List.nil_append, List.length_cons, List.length_nil, List.replicate, then_normal, inBlock_normal, Option.getD_some, Option.getD_none, Bool.or_false, Bool.or_true, Bool.true_or, Bool.false_or, Bool.false_eq_true, if_false, if_true, up_zero, Nat.reduceAdd, Nat.reduceSub, binv, ↓opt_def, AV.isAny, AV.cells, ldc, List.map_cons, List.map_nil, St.set_next, St.set_same, St.up_next, Int.natCast_nonneg, lt_len, le_len, Int.toNat_natCast, true_and, and_true, eq_self, reduceCtorEq, decide_true, List.length_singleton, er_int, er_bool, er_str, h0, h0', e1]
    refine h2 _ _ ?_
    try clear h2 K_h2
    refine T.cond rfl (fun _ => ?_) (fun h => by cases h)
    refine T.seq_k (fun K_h2 h2 => ?_)
    refine T.regi hm ?_
    simp only [↓reduceIte, namesOf, List.any, I.names, aops, aopsI, aopsT, qstep, CPt, qget, Tbl.get, astep, ev, setd, List.set, List.getD, List.getElem?_cons_zero, List.getElem?_cons_succ, List.getElem?_nil, List.cons_append, List.nil_append, List.length_cons, List.length_nil, List.replicate, then_normal, inBlock_normal, Option.getD_some, Option.getD_none, Bool.or_false, Bool.or_true, Bool.true_or, Bool.false_or, Bool.false_eq_true, if_false, if_true, up_zero, Nat.reduceAdd, Nat.reduceSub, binv, ↓opt_def, AV.isAny, AV.cells, ldc, List.map_cons, List.map_nil, St.set_next, St.set_same, St.up_next, Int.natCast_nonneg, lt_len, le_len, Int.toNat_natCast, true_and, and_true, eq_self, reduceCtorEq, decide_true, List.length_singleton, er_int, er_bool, er_str, h0, h0']
    refine h2 _ _ ?_
    try clear h2 K_h2
    exact T.ret (Fin.quiet rfl trivial hq ⟨by simp [pack, aheadS, c1], rfl⟩)
  have e1 : (a.st != b.st) = false := by simpa using c1
  refine T.regi hm ?_
  simp only [↓reduceIte, namesOf, List.any, I.names, aops, aopsI, aopsT, qstep, CPt, qget, Tbl.get, astep, ev, setd, List.set, List.getD, List.getElem?_cons_zero, List.getElem?_cons_succ, List.getElem?_nil, List.cons_append, List.nil_append, List.length_cons, List.length_nil, List.replicate, then_normal, inBlock_normal, Option.getD_some, Option.getD_none, Bool.or_false, Bool.or_true, Bool.true_or, Bool.false_or, Bool.false_eq_true, if_false, if_true, up_zero, Nat.reduceAdd, Nat.reduceSub, binv, ↓opt_def, AV.isAny, AV.cells, ldc, List.map_cons, List.map_nil, St.set_next, St.set_same, St.up_next, Int.natCast_nonneg, lt_len, le_len, Int.toNat_natCast, true_and, and_true, eq_self, reduceCtorEq, decide_true, List.length_singleton, er_int, er_bool, er_str, h0, h0', e1]
  refine h2 _ _ ?_
  try clear h2 K_h2
  refine T.cond rfl (fun h => by cases h) (fun _ => T.skip ?_)
  refine h1 _ _ ?_
  try clear h1 K_h1
  refine T.seq_k (fun K_h1 h1 => ?_)
  refine T.seq_k (fun K_h2 h2 => ?_)
  by_cases c2 : a.id = b.id
  case neg =>
    have e2 : ((a.id : Int) != (b.id : Int)) = true := by simp; omega
    refine T.regi hm ?_
    simp only [↓reduceIte, namesOf, List.any, I.names, aops, aopsI, aopsT, qstep, CPt, qget, Tbl.get, astep, ev, setd, List.set, List.getD, List.getElem?_cons_zero, List.getElem?_cons_succ, List.getElem?_nil, List.cons_append, List.nil_append, List.length_cons, List.length_nil, List.replicate, then_normal, inBlock_normal, Option.getD_some, Option.getD_none, Bool.or_false, Bool.or_true, Bool.true_or, Bool.false_or, Bool.false_eq_true, if_false, if_true, up_zero, Nat.reduceAdd, Nat.reduceSub, binv, ↓opt_def, AV.isAny, AV.cells, ldc, List.map_cons, List.map_nil, St.set_next, St.set_same, St.up_next, Int.natCast_nonneg, lt_len, le_len, Int.toNat_natCast, true_and, and_true, eq_self, reduceCtorEq, decide_true, List.length_singleton, er_int, er_bool, er_str, h0, h0', e2]
    refine h2 _ _ ?_
    try clear h2 K_h2
    refine T.cond rfl (fun _ => ?_) (fun h => by cases h)
    refine T.seq_k (fun K_h2 h2 => ?_)
    refine T.regi hm ?_
    simp only [↓reduceIte, namesOf, List.any, I.names, aops, aopsI, aopsT, qstep, CPt, qget, Tbl.get, astep, ev, setd, List.set, List.getD, List.getElem?_cons_zero, List.getElem?_cons_succ, List.getElem?_nil, List.cons_append, List.nil_append, List.length_cons, List.length_nil, List.replicate, then_normal, inBlock_normal, Option.getD_some, Option.getD_none, Bool.or_false, Bool.or_true, Bool.true_or, Bool.false_or, Bool.false_eq_true, if_false, if_true, up_zero, Nat.reduceAdd, Nat.reduceSub, binv, ↓opt_def, AV.isAny, AV.cells, ldc, List.map_cons, List.map_nil, St.set_next, St.set_same, St.up_next, Int.natCast_nonneg, lt_len, le_len, Int.toNat_natCast, true_and, and_true, eq_self, reduceCtorEq, decide_true, List.length_singleton, er_int, er_bool, er_str, h0, h0']
    refine h2 _ _ ?_
    try clear h2 K_h2
    exact T.ret (Fin.quiet rfl trivial hq ⟨by simp [pack, aheadS, c1, c2], rfl⟩)
  have e2 : ((a.id : Int) != (b.id : Int)) = false := by simp; omega
  refine T.regi hm ?_
  simp only [↓reduceIte, namesOf, List.any, I.names, aops, aopsI, aopsT, qstep, CPt, qget, Tbl.get, astep, ev, setd, List.set, List.getD, List.getElem?_cons_zero, List.getElem?_cons_succ, List.getElem?_nil, List.cons_append, List.nil_append, List.length_cons, List.length_nil, List.replicate, then_normal, inBlock_normal, Option.getD_some, Option.getD_none, Bool.or_false, Bool.or_true, Bool.true_or, Bool.false_or, Bool.false_eq_true, if_false, if_true, up_zero, Nat.reduceAdd, Nat.reduceSub, binv, ↓opt_def, AV.isAny, AV.cells, ldc, List.map_cons, List.map_nil, St.set_next, St.set_same, St.up_next, Int.natCast_nonneg, lt_len, le_len, Int.toNat_natCast, true_and, and_true, eq_self, reduceCtorEq, decide_true, List.length_singleton, er_int, er_bool, er_str, h0, h0', e2]
  refine h2 _ _ ?_
  try clear h2 K_h2
  refine T.cond rfl (fun h => by cases h) (fun _ => T.skip ?_)
  refine h1 _ _ ?_
  try clear h1 K_h1
  refine T.seq_k (fun K_h1 h1 => ?_)
  refine T.regi hm ?_
  simp only [↓reduceIte, namesOf, List.any, I.names, aops, aopsI, aopsT, qstep, CPt, qget, Tbl.get, astep, ev, setd, List.set, List.getD, List.getElem?_cons_zero, List.getElem?_cons_succ, List.getElem?_nil, List.cons_append, List.nil_append, List.length_cons, List.length_nil, List.replicate, then_normal, inBlock_normal, Option.getD_some, Option.getD_none, Bool.or_false, Bool.or_true, Bool.true_or, Bool.false_or, Bool.false_eq_true, if_false, if_true, up_zero, Nat.reduceAdd, Nat.reduceSub, binv, ↓opt_def, AV.isAny, AV.cells, ldc, List.map_cons, List.map_nil, St.set_next, St.set_same, St.up_next, Int.natCast_nonneg, lt_len, le_len, Int.toNat_natCast, true_and, and_true, eq_self, reduceCtorEq, decide_true, List.length_singleton, er_int, er_bool, er_str, h0, h0']
  refine h1 _ _ ?_
  try clear h1 K_h1
  exact T.ret (Fin.quiet rfl trivial hq ⟨by simp [pack, aheadS, c1, c2], rfl⟩)

theorem rless_ok {a b : Sp} {σ : St} : ACalls Try.prog n_rless [.agg (spC a), .agg (spC b)] σ (fun v σ' => v = .bool (lessS a b) ∧ σ' = σ) := by
  refine s_rless (fun wf => ?_)
  unfold c_rless
  refine T.seq_k (fun K_h1 h1 => ?_)
  refine T.regi hm ?_
  simp only [↓reduceIte, namesOf, List.any, I.names, aops, aopsI, aopsT, qstep, CPt, qget, Tbl.get, astep, ev, setd, List.set, List.getD, List.getElem?_cons_zero, List.getElem?_cons_succ, List.getElem?_nil, List.cons_append, List.nil_append, List.length_cons, List.length_nil, List.replicate, then_normal, inBlock_normal, Option.getD_some, Option.getD_none, Bool.or_false, Bool.or_true, Bool.true_or, Bool.false_or, Bool.false_eq_true, if_false, if_true, up_zero, Nat.reduceAdd, Nat.reduceSub, binv, ↓opt_def, AV.isAny, AV.cells, ldc, List.map_cons, List.map_nil, St.set_next, St.set_same, St.up_next, Int.natCast_nonneg, lt_len, le_len, Int.toNat_natCast, true_and, and_true, eq_self, reduceCtorEq, decide_true, List.length_singleton, er_int, er_bool, er_str]
  obtain ⟨h0, h0', hq⟩ := box2 wf 3 (.obj (spC a)) (.obj (spC b))
  generalize (((σ.up 3).set (σ.next + 0) (.obj (spC a))).set (σ.next + 1) (.obj (spC b))) = σ1 at h0 h0' hq ⊢
  refine h1 _ _ ?_
  try clear h1 K_h1
  refine T.seq_k (fun K_h1 h1 => ?_)
  refine T.seq_k (fun K_h2 h2 => ?_)
  by_cases c1 : a.st = b.st
  case neg =>
    have e1 : (a.st != b.st) = true := by simpa using c1
    refine T.regi hm ?_
    simp only [↓reduceIte, namesOf, List.any, I.names, aops, aopsI, aopsT, qstep, CPt, qget, Tbl.get, astep, ev, setd, List.set, List.getD, List.getElem?_cons_zero, List.getElem?_cons_succ, List.getElem?_nil, List.cons_append, List.nil_append, List.length_cons, List.length_nil, List.replicate, then_normal, inBlock_normal, Option.getD_some, Option.getD_none, Bool.or_false, Bool.or_true, Bool.true_or, Bool.false_or, Bool.false_eq_true, if_false, if_true, up_zero, Nat.reduceAdd, Nat.reduceSub, binv, ↓opt_def, AV.isAny, AV.cells, ldc, List.map_cons, List.map_nil, St.set_next, St.set_same, St.up_next, Int.natCast_nonneg, lt_len, le_len, Int.toNat_natCast, true_and, and_true, eq_self, reduceCtorEq, decide_true, List.length_singleton, er_int, er_bool, er_str, h0, h0', e1]
    refine h2 _ _ ?_
    try clear h2 K_h2
    refine T.cond rfl (fun _ => ?_) (fun h => by cases h)
    refine T.seq_k (fun K_h2 h2 => ?_)
    refine T.regi hm ?_
    simp only [↓reduceIte, namesOf, List.any, I.names, aops, aopsI, aopsT, qstep, CPt, qget, Tbl.get, astep, ev, setd, List.set, List.getD, List.getElem?_cons_zero, List.getElem?_cons_succ, List.getElem?_nil, List.cons_append, List.nil_append, List.length_cons, List.length_nil, List.replicate, then_normal, inBlock_normal, Option.getD_some, Option.getD_none, Bool.or_false, Bool.or_true, Bool.true_or, Bool.false_or, Bool.false_eq_true, if_false, if_true, up_zero, Nat.reduceAdd, Nat.reduceSub, binv, ↓opt_def, AV.isAny, AV.cells, ldc, List.map_cons, List.map_nil, St.set_next, St.set_same, St.up_next, Int.natCast_nonneg, lt_len, le_len, Int.toNat_natCast, true_and, and_true, eq_self, reduceCtorEq, decide_true, List.length_singleton, er_int, er_bool, er_str, h0, h0']
    refine h2 _ _ ?_
    try clear h2 K_h2
    exact T.ret (Fin.quiet rfl trivial hq ⟨by simp [pack, lessS, c1], rfl⟩)
  have e1 : (a.st != b.st) = false := by simpa using c1
  refine T.regi hm ?_
  simp only [↓reduceIte, namesOf, List.any, I.names, aops, aopsI, aopsT, qstep, CPt, qget, Tbl.get, astep, ev, setd, List.set, List.getD, List.getElem?_cons_zero, List.getElem?_cons_succ, List.getElem?_nil, List.cons_append, List.nil_append, List.length_cons, List.length_nil, List.replicate, then_normal, inBlock_normal, Option.getD_some, Option.getD_none, Bool.or_false, Bool.or_true, Bool.true_or, Bool.false_or, Bool.false_eq_true, if_false, if_true, up_zero, Nat.reduceAdd, Nat.reduceSub, binv, ↓opt_def, AV.isAny, AV.cells, ldc, List.map_cons, List.map_nil, St.set_next, St.set_same, St.up_next, Int.natCast_nonneg, lt_len, le_len, Int.toNat_natCast, true_and, and_true, eq_self, reduceCtorEq, decide_true, List.length_singleton, er_int, er_bool, er_str, h0, h0', e1]
  refine h2 _ _ ?_
  try clear h2 K_h2
  refine T.cond rfl (fun h => by cases h) (fun _ => T.skip ?_)
  refine h1 _ _ ?_
  try clear h1 K_h1
  refine T.seq_k (fun K_h1 h1 => ?_)
  refine T.seq_k (fun K_h2 h2 => ?_)
  by_cases c2 : a.en = b.en
  case neg =>
    have e2 : (a.en != b.en) = true := by simpa using c2
    refine T.regi hm ?_
    simp only [↓reduceIte, namesOf, List.any, I.names, aops, aopsI, aopsT, qstep, CPt, qget, Tbl.get, astep, ev, setd, List.set, List.getD, List.getElem?_cons_zero, List.getElem?_cons_succ, List.getElem?_nil, List.cons_append, List.nil_append, List.length_cons, List.length_nil, List.replicate, then_normal, inBlock_normal, Option.getD_some, Option.getD_none, Bool.or_false, Bool.or_true, Bool.true_or, Bool.false_or, Bool.false_eq_true, if_false, if_true, up_zero, Nat.reduceAdd, Nat.reduceSub, binv, ↓opt_def, AV.isAny, AV.cells, ldc, List.map_cons, List.map_nil, St.set_next, St.set_same, St.up_next, Int.natCast_nonneg, lt_len, le_len, Int.toNat_natCast, true_and, and_true, eq_self, reduceCtorEq, decide_true, List.length_singleton, er_int, er_bool, er_str, h0, h0', e2]
    refine h2 _ _ ?_
    try clear h2 K_h2
    refine T.cond rfl (fun _ => ?_) (fun h => by cases h)
    refine T.seq_k (fun K_h2 h2 => ?_)
    refine T.regi hm ?_
    simp only [↓reduceIte, namesOf, List.any, I.names, aops, aopsI, aopsT, qstep, CPt, qget, Tbl.get, astep, ev, setd, List.set, List.getD, List.getElem?_cons_zero, List.getElem?_cons_succ, List.getElem?_nil, List.cons_append, List.nil_append, List.length_cons, List.length_nil, List.replicate, then_normal, inBlock_normal, Option.getD_some, Option.getD_none, Bool.or_false, Bool.or_true, Bool.true_or, Bool.false_or, Bool.false_eq_true, if_false, if_true, up_zero, Nat.reduceAdd, Nat.reduceSub, binv, ↓opt_def, AV.isAny, AV.cells, ldc, List.map_cons, List.map_nil, St.set_next, St.set_same, St.up_next, Int.natCast_nonneg, lt_len, le_len, Int.toNat_natCast, true_and, and_true, eq_self, reduceCtorEq, decide_true, List.length_singleton, er_int, er_bool, er_str, h0, h0']
    refine h2 _ _ ?_
    try clear h2 K_h2
    exact T.ret (Fin.quiet rfl trivial hq ⟨by simp [pack, lessS, c1, c2], rfl⟩)
  have e2 : (a.en != b.en) = false := by simpa using c2
  refine T.regi hm ?_
  simp only [↓reduceIte, namesOf, List.any, I.names, aops, aopsI, aopsT, qstep, CPt, qget, Tbl.get, astep, ev, setd, List.set, List.getD, List.getElem?_cons_zero, List.getElem?_cons_succ, List.getElem?_nil, List.cons_append, List.nil_append, List.length_cons, List.length_nil, List.replicate, then_normal, inBlock_normal, Option.getD_some, Option.getD_none, Bool.or_false, Bool.or_true, Bool.true_or, Bool.false_or, Bool.false_eq_true, if_false, if_true, up_zero, Nat.reduceAdd, Nat.reduceSub, binv, ↓opt_def, AV.isAny, AV.cells, ldc, List.map_cons, List.map_nil, St.set_next, St.set_same, St.up_next, Int.natCast_nonneg, lt_len, le_len, Int.toNat_natCast, true_and, and_true, eq_self, reduceCtorEq, decide_true, List.length_singleton, er_int, er_bool, er_str, h0, h0', e2]
  refine h2 _ _ ?_
  try clear h2 K_h2
  refine T.cond rfl (fun h => by cases h) (fun _ => T.skip ?_)
  refine h1 _ _ ?_
  try clear h1 K_h1
  refine T.seq_k (fun K_h1 h1 => ?_)
  refine T.regi hm ?_
  simp only [↓reduceIte, namesOf, List.any, I.names, aops, aopsI, aopsT, qstep, CPt, qget, Tbl.get, astep, ev, setd, List.set, List.getD, List.getElem?_cons_zero, List.getElem?_cons_succ, List.getElem?_nil, List.cons_append, List.nil_append, List.length_cons, List.length_nil, List.replicate, then_normal, inBlock_normal, Option.getD_some, Option.getD_none, Bool.or_false, Bool.or_true, Bool.true_or, Bool.false_or, Bool.false_eq_true, if_false, if_true, up_zero, Nat.reduceAdd, Nat.reduceSub, binv, ↓opt_def, AV.isAny, AV.cells, ldc, List.map_cons, List.map_nil, St.set_next, St.set_same, St.up_next, Int.natCast_nonneg, lt_len, le_len, Int.toNat_natCast, true_and, and_true, eq_self, reduceCtorEq, decide_true, List.length_singleton, er_int, er_bool, er_str, h0, h0', toBytes_bytes, sbinv]
  refine h1 _ _ ?_
  try clear h1 K_h1
  refine T.ret (Fin.quiet rfl trivial hq ⟨?_, rfl⟩)
  have eb : ∀ l : List UInt8, (⟨l.toArray⟩ : ByteArray).toList = l := fun l => by rw [ByteArray.toList_eq]
  simp [pack, lessS, c1, c2, eb]

theorem sp_eq {a b : Sp} : a = b ↔ a.tr = b.tr ∧ a.id = b.id ∧ a.st = b.st ∧ a.en = b.en ∧ a.da = b.da := by
  obtain ⟨a1, a2, a3, a4, a5⟩ := a
  obtain ⟨b1, b2, b3, b4, b5⟩ := b
  simp

theorem rsame_ok {a b : Sp} {σ : St} : ACalls Try.prog n_rsame [.agg (spC a), .agg (spC b)] σ (fun v σ' => v = .bool (decide (a = b)) ∧ σ' = σ) := by
  refine s_rsame (fun wf => ?_)
  unfold c_rsame
  refine T.seq_k (fun K_h1 h1 => ?_)
  refine T.regi hm ?_
  simp only [↓reduceIte, namesOf, List.any, I.names, aops, aopsI, aopsT, qstep, CPt, qget, Tbl.get, astep, ev, setd, List.set, List.getD, List.getElem?_cons_zero, List.getElem?_cons_succ, List.getElem?_nil, List.cons_append, List.nil_append, List.length_cons, List.length_nil, List.replicate, then_normal, inBlock_normal, Option.getD_some, Option.getD_none, Bool.or_false, Bool.or_true, Bool.true_or, Bool.false_or, Bool.false_eq_true, if_false, if_true, up_zero, Nat.reduceAdd, Nat.reduceSub, binv, ↓opt_def, AV.isAny, AV.cells, ldc, List.map_cons, List.map_nil, St.set_next, St.set_same, St.up_next, Int.natCast_nonneg, lt_len, le_len, Int.toNat_natCast, true_and, and_true, eq_self, reduceCtorEq, decide_true, List.length_singleton, er_int, er_bool, er_str]
  obtain ⟨h0, h0', hq⟩ := box2 wf 3 (.obj (spC a)) (.obj (spC b))
  generalize (((σ.up 3).set (σ.next + 0) (.obj (spC a))).set (σ.next + 1) (.obj (spC b))) = σ1 at h0 h0' hq ⊢
  refine h1 _ _ ?_
  try clear h1 K_h1
  refine T.seq_k (fun K_h1 h1 => ?_)
  have no : ¬ a = b → decide (a = b) = false := fun h => decide_eq_false h
  by_cases c1 : a.tr = b.tr
  case neg =>
    have e1 : ((a.tr : Int) == (b.tr : Int)) = false := by simp; omega
    refine T.regi hm ?_
    simp only [↓reduceIte, namesOf, List.any, I.names, aops, aopsI, aopsT, qstep, CPt, qget, Tbl.get, astep, ev, setd, List.set, List.getD, List.getElem?_cons_zero, List.getElem?_cons_succ, List.getElem?_nil, List.cons_append, List.nil_append, List.length_cons, List.length_nil, List.replicate, then_normal, inBlock_normal, Option.getD_some, Option.getD_none, Bool.or_false, Bool.or_true, Bool.true_or, Bool.false_or, Bool.false_eq_true, if_false, if_true, up_zero, Nat.reduceAdd, Nat.reduceSub, binv, ↓opt_def, AV.isAny, AV.cells, ldc, List.map_cons, List.map_nil, St.set_next, St.set_same, St.up_next, Int.natCast_nonneg, lt_len, le_len, Int.toNat_natCast, true_and, and_true, eq_self, reduceCtorEq, decide_true, List.length_singleton, er_int, er_bool, er_str, h0, h0', e1, reduceCtorEq]
    refine h1 _ _ ?_
    try clear h1 K_h1
    exact T.ret (Fin.quiet rfl trivial hq ⟨by rw [no (fun h => c1 (by rw [h]))]; rfl, rfl⟩)
  have e1 : ((a.tr : Int) == (b.tr : Int)) = true := by simp; omega
  by_cases c2 : a.id = b.id
  case neg =>
    have e2 : ((a.id : Int) == (b.id : Int)) = false := by simp; omega
    refine T.regi hm ?_
    simp only [↓reduceIte, namesOf, List.any, I.names, aops, aopsI, aopsT, qstep, CPt, qget, Tbl.get, astep, ev, setd, List.set, List.getD, List.getElem?_cons_zero, List.getElem?_cons_succ, List.getElem?_nil, List.cons_append, List.nil_append, List.length_cons, List.length_nil, List.replicate, then_normal, inBlock_normal, Option.getD_some, Option.getD_none, Bool.or_false, Bool.or_true, Bool.true_or, Bool.false_or, Bool.false_eq_true, if_false, if_true, up_zero, Nat.reduceAdd, Nat.reduceSub, binv, ↓opt_def, AV.isAny, AV.cells, ldc, List.map_cons, List.map_nil, St.set_next, St.set_same, St.up_next, Int.natCast_nonneg, lt_len, le_len, Int.toNat_natCast, true_and, and_true, eq_self, reduceCtorEq, decide_true, List.length_singleton, er_int, er_bool, er_str, h0, h0', e1, e2, reduceCtorEq]
    refine h1 _ _ ?_
    try clear h1 K_h1
    exact T.ret (Fin.quiet rfl trivial hq ⟨by rw [no (fun h => c2 (by rw [h]))]; rfl, rfl⟩)
  have e2 : ((a.id : Int) == (b.id : Int)) = true := by simp; omega
  by_cases c3 : a.st = b.st
  case neg =>
    have e3 : (a.st == b.st) = false := by simpa using c3
    refine T.regi hm ?_
    simp only [↓reduceIte, namesOf, List.any, I.names, aops, aopsI, aopsT, qstep, CPt, qget, Tbl.get, astep, ev, setd, List.set, List.getD, List.getElem?_cons_zero, List.getElem?_cons_succ, List.getElem?_nil, List.cons_append, List.nil_append, List.length_cons, List.length_nil, List.replicate, then_normal, inBlock_normal, Option.getD_some, Option.getD_none, Bool.or_false, Bool.or_true, Bool.true_or, Bool.false_or, Bool.false_eq_true, if_false, if_true, up_zero, Nat.reduceAdd, Nat.reduceSub, binv, ↓opt_def, AV.isAny, AV.cells, ldc, List.map_cons, List.map_nil, St.set_next, St.set_same, St.up_next, Int.natCast_nonneg, lt_len, le_len, Int.toNat_natCast, true_and, and_true, eq_self, reduceCtorEq, decide_true, List.length_singleton, er_int, er_bool, er_str, h0, h0', e1, e2, e3, reduceCtorEq]
    refine h1 _ _ ?_
    try clear h1 K_h1
    exact T.ret (Fin.quiet rfl trivial hq ⟨by rw [no (fun h => c3 (by rw [h]))]; rfl, rfl⟩)
  have e3 : (a.st == b.st) = true := by simpa using c3
  by_cases c4 : a.en = b.en
  case neg =>
    have e4 : (a.en == b.en) = false := by simpa using c4
    refine T.regi hm ?_
    simp only [↓reduceIte, namesOf, List.any, I.names, aops, aopsI, aopsT, qstep, CPt, qget, Tbl.get, astep, ev, setd, List.set, List.getD, List.getElem?_cons_zero, List.getElem?_cons_succ, List.getElem?_nil, List.cons_append, List.nil_append, List.length_cons, List.length_nil, List.replicate, then_normal, inBlock_normal, Option.getD_some, Option.getD_none, Bool.or_false, Bool.or_true, Bool.true_or, Bool.false_or, Bool.false_eq_true, if_false, if_true, up_zero, Nat.reduceAdd, Nat.reduceSub, binv, ↓opt_def, AV.isAny, AV.cells, ldc, List.map_cons, List.map_nil, St.set_next, St.set_same, St.up_next, Int.natCast_nonneg, lt_len, le_len, Int.toNat_natCast, true_and, and_true, eq_self, reduceCtorEq, decide_true, List.length_singleton, er_int, er_bool, er_str, h0, h0', e1, e2, e3, e4, reduceCtorEq]
    refine h1 _ _ ?_
    try clear h1 K_h1
    exact T.ret (Fin.quiet rfl trivial hq ⟨by rw [no (fun h => c4 (by rw [h]))]; rfl, rfl⟩)
  have e4 : (a.en == b.en) = true := by simpa using c4
  refine T.regi hm ?_
  simp only [↓reduceIte, namesOf, List.any, I.names, aops, aopsI, aopsT, qstep, CPt, qget, Tbl.get, astep, ev, setd, List.set, List.getD, List.getElem?_cons_zero, List.getElem?_cons_succ, List.getElem?_nil, List.cons_append, List.nil_append, List.length_cons, List.length_nil, List.replicate, then_normal, inBlock_normal, Option.getD_some, Option.getD_none, Bool.or_false, Bool.or_true, Bool.true_or, Bool.false_or, Bool.false_eq_true, if_false, if_true, up_zero, Nat.reduceAdd, Nat.reduceSub, binv, ↓opt_def, AV.isAny, AV.cells, ldc, List.map_cons, List.map_nil, St.set_next, St.set_same, St.up_next, Int.natCast_nonneg, lt_len, le_len, Int.toNat_natCast, true_and, and_true, eq_self, reduceCtorEq, decide_true, List.length_singleton, er_int, er_bool, er_str, h0, h0', e1, e2, e3, e4, reduceCtorEq, toBytes_bytes, sbinv, ba_eq]
  refine h1 _ _ ?_
  try clear h1 K_h1
  refine T.ret (Fin.quiet rfl trivial hq ⟨?_, rfl⟩)
  have : decide (a = b) = decide (a.da = b.da) := by
    rw [decide_eq_decide, sp_eq]
    exact ⟨fun h => h.2.2.2.2, fun h => ⟨c1, c2, c3, c4, h⟩⟩
  rw [this]; rfl

theorem spC_inj {a b : Sp} (h : AV.agg (spC a) = .agg (spC b)) : a = b := spav_inj h

open Classical in
/-- a table of what a function of two spans comes to -/
noncomputable def g2S (f : Sp → Sp → AV) (args : List AV) : Option AV := if h : ∃ p : Sp × Sp, args = [.agg (spC p.1), .agg (spC p.2)] then some (f h.choose.1 h.choose.2) else none

theorem g2S_eq (f : Sp → Sp → AV) (a b : Sp) : g2S f [.agg (spC a), .agg (spC b)] = some (f a b) := by
  unfold g2S
  have hex : ∃ p : Sp × Sp, [AV.agg (spC a), .agg (spC b)] = [.agg (spC p.1), .agg (spC p.2)] := ⟨(a, b), rfl⟩
  rw [dif_pos hex]
  have hc := hex.choose_spec
  rw [List.cons.injEq, List.cons.injEq] at hc
  rw [← spC_inj hc.1, ← spC_inj hc.2.1]

theorem g2S_pure {n : Nat} {f : Sp → Sp → AV} (h : ∀ a b σ, ACalls Try.prog n [.agg (spC a), .agg (spC b)] σ (fun v σ' => v = f a b ∧ σ' = σ)) : PureC Try.prog n (g2S f) := by
  intro args σ v hv
  unfold g2S at hv
  split at hv
  · rename_i hex
    simp only [Option.some.injEq] at hv; subst hv
    have hc := hex.choose_spec
    generalize hex.choose = c at hc
    subst hc
    exact h _ _ _
  · cases hv

noncomputable def gLess : List AV → Option AV := g2S fun a b => .bool (lessS a b)

noncomputable def gSame : List AV → Option AV := g2S fun a b => .bool (decide (a = b))

noncomputable def gAhead : List AV → Option AV := g2S fun a b => .bool (aheadS a b)

theorem gSame_eq (a b : Sp) : gSame [.agg (spC a), .agg (spC b)] = some (.bool (decide (a = b))) := g2S_eq _ a b

noncomputable def tG : Tbl := [(n_rless, gLess), (n_rsame, gSame), (n_rahead, gAhead)]

theorem tG_ok : tG.ok Try.prog := Tbl.ok_cons (g2S_pure fun a b σ => rless_ok) (Tbl.ok_cons (g2S_pure fun a b σ => rsame_ok) (Tbl.ok_cons (g2S_pure fun a b σ => rahead_ok) Tbl.ok_nil))

/-! ### Are spans the same? -/

set_option maxRecDepth 10000 in
theorem rspans_ok {a b : List Sp} {g g' : Ver} {σ : St} (hl : a.length ≤ 9223372036854775807) : ACalls Try.prog n_rspans [.sl (spsAV a) g, .sl (spsAV b) g'] σ (fun v σ' => v = .bool (decide (a = b)) ∧ σ' = σ) := by
  refine s_rspans (fun wf => ?_)
  unfold c_rspans
  refine T.seq_k (fun K_h1 h1 => ?_)
  refine T.regi hm ?_
  simp only [↓reduceIte, namesOf, List.any, I.names, aops, aopsI, aopsT, qstep, CPt, qget, Tbl.get, astep, ev, setd, List.set, List.getD, List.getElem?_cons_zero, List.getElem?_cons_succ, List.getElem?_nil, List.cons_append, List.nil_append, List.length_cons, List.length_nil, List.replicate, then_normal, inBlock_normal, Option.getD_some, Option.getD_none, Bool.or_false, Bool.or_true, Bool.true_or, Bool.false_or, Bool.false_eq_true, if_false, if_true, up_zero, Nat.reduceAdd, Nat.reduceSub, binv, ↓opt_def, AV.isAny, AV.cells, ldc, List.map_cons, List.map_nil, St.set_next, St.set_same, St.up_next, Int.natCast_nonneg, lt_len, le_len, Int.toNat_natCast, true_and, and_true, eq_self, reduceCtorEq, decide_true, List.length_singleton, er_int, er_bool, er_str]
  refine h1 _ _ ?_
  try clear h1 K_h1
  refine T.seq_k (fun K_h1 h1 => ?_)
  refine T.seq_k (fun K_h2 h2 => ?_)
  by_cases hlen : a.length = b.length
  case neg =>
    have e1 : ((a.length : Int) != (b.length : Int)) = true := by simp; omega
    refine T.regi hm ?_
    simp only [↓reduceIte, namesOf, List.any, I.names, aops, aopsI, aopsT, qstep, CPt, qget, Tbl.get, astep, ev, setd, List.set, List.getD, List.getElem?_cons_zero, List.getElem?_cons_succ, List.getElem?_nil, List.cons_append, List.nil_append, List.length_cons, List.length_nil, List.replicate, then_normal, inBlock_normal, Option.getD_some, Option.getD_none, Bool.or_false, Bool.or_true, Bool.true_or, Bool.false_or, Bool.false_eq_true, if_false, if_true, up_zero, Nat.reduceAdd, Nat.reduceSub, binv, ↓opt_def, AV.isAny, AV.cells, ldc, List.map_cons, List.map_nil, St.set_next, St.set_same, St.up_next, Int.natCast_nonneg, lt_len, le_len, Int.toNat_natCast, true_and, and_true, eq_self, reduceCtorEq, decide_true, List.length_singleton, er_int, er_bool, er_str, sps_len, e1]
    refine h2 _ _ ?_
    try clear h2 K_h2
    refine T.cond rfl (fun _ => ?_) (fun h => by cases h)
    refine T.seq_k (fun K_h2 h2 => ?_)
    refine T.regi hm ?_
    simp only [↓reduceIte, namesOf, List.any, I.names, aops, aopsI, aopsT, qstep, CPt, qget, Tbl.get, astep, ev, setd, List.set, List.getD, List.getElem?_cons_zero, List.getElem?_cons_succ, List.getElem?_nil, List.cons_append, List.nil_append, List.length_cons, List.length_nil, List.replicate, then_normal, inBlock_normal, Option.getD_some, Option.getD_none, Bool.or_false, Bool.or_true, Bool.true_or, Bool.false_or, Bool.false_eq_true, if_false, if_true, up_zero, Nat.reduceAdd, Nat.reduceSub, binv, ↓opt_def, AV.isAny, AV.cells, ldc, List.map_cons, List.map_nil, St.set_next, St.set_same, St.up_next, Int.natCast_nonneg, lt_len, le_len, Int.toNat_natCast, true_and, and_true, eq_self, reduceCtorEq, decide_true, List.length_singleton, er_int, er_bool, er_str]
    refine h2 _ _ ?_
    try clear h2 K_h2
    exact T.ret (Fin.ret rfl ⟨by rw [decide_eq_false (fun h => hlen (by rw [h]))]; rfl, rfl⟩)
  have e1 : ((a.length : Int) != (b.length : Int)) = false := by simp; omega
  refine T.regi hm ?_
  simp only [↓reduceIte, namesOf, List.any, I.names, aops, aopsI, aopsT, qstep, CPt, qget, Tbl.get, astep, ev, setd, List.set, List.getD, List.getElem?_cons_zero, List.getElem?_cons_succ, List.getElem?_nil, List.cons_append, List.nil_append, List.length_cons, List.length_nil, List.replicate, then_normal, inBlock_normal, Option.getD_some, Option.getD_none, Bool.or_false, Bool.or_true, Bool.true_or, Bool.false_or, Bool.false_eq_true, if_false, if_true, up_zero, Nat.reduceAdd, Nat.reduceSub, binv, ↓opt_def, AV.isAny, AV.cells, ldc, List.map_cons, List.map_nil, St.set_next, St.set_same, St.up_next, Int.natCast_nonneg, lt_len, le_len, Int.toNat_natCast, true_and, and_true, eq_self, reduceCtorEq, decide_true, List.length_singleton, er_int, er_bool, er_str, sps_len, e1]
  refine h2 _ _ ?_
  try clear h2 K_h2
  refine T.cond rfl (fun h => by cases h) (fun _ => T.skip ?_)
  refine h1 _ _ ?_
  try clear h1 K_h1
  refine T.seq_k (fun K_h1 h1 => ?_)
  refine T.seq_k (fun K_h2 h2 => ?_)
  refine T.regi hm ?_
  simp only [↓reduceIte, namesOf, List.any, I.names, aops, aopsI, aopsT, qstep, CPt, qget, Tbl.get, astep, ev, setd, List.set, List.getD, List.getElem?_cons_zero, List.getElem?_cons_succ, List.getElem?_nil, List.cons_append, List.nil_append, List.length_cons, List.length_nil, List.replicate, then_normal, inBlock_normal, Option.getD_some, Option.getD_none, Bool.or_false, Bool.or_true, Bool.true_or, Bool.false_or, Bool.false_eq_true, if_false, if_true, up_zero, Nat.reduceAdd, Nat.reduceSub, binv, ↓opt_def, AV.isAny, AV.cells, ldc, List.map_cons, List.map_nil, St.set_next, St.set_same, St.up_next, Int.natCast_nonneg, lt_len, le_len, Int.toNat_natCast, true_and, and_true, eq_self, reduceCtorEq, decide_true, List.length_singleton, er_int, er_bool, er_str]
  refine h2 _ _ ?_
  try clear h2 K_h2
  refine T.block ?_
  refine T.gh (Gh.keep [0, 1, 5]) ?_
  refine T.loopi (fun i ρ σ' => σ' = σ ∧ a.take i = b.take i ∧ ρ = [.sl (spsAV a) g, .sl (spsAV b) g', .any, .any, .any, .int .i64 (i : Int)] ++ List.replicate 23 .any)
    a.length 0 (Nat.zero_le _) ⟨rfl, by simp, rfl⟩ ?_
  rintro i ρ σ' hi ⟨rfl, hpre, rfl⟩
  refine T.seq_k (fun K_h2 h2 => ?_)
  refine T.seq_k (fun K_h3 h3 => ?_)
  refine T.regi hm ?_
  simp only [↓reduceIte, namesOf, List.any, I.names, aops, aopsI, aopsT, qstep, CPt, qget, Tbl.get, astep, ev, setd, List.set, List.getD, List.getElem?_cons_zero, List.getElem?_cons_succ, List.getElem?_nil, List.cons_append, List.nil_append, List.length_cons, List.length_nil, List.replicate, then_normal, inBlock_normal, Option.getD_some, Option.getD_none, Bool.or_false, Bool.or_true, Bool.true_or, Bool.false_or, Bool.false_eq_true, if_false, if_true, up_zero, Nat.reduceAdd, Nat.reduceSub, binv, ↓opt_def, AV.isAny, AV.cells, ldc, List.map_cons, List.map_nil, St.set_next, St.set_same, St.up_next, Int.natCast_nonneg, lt_len, le_len, Int.toNat_natCast, true_and, and_true, eq_self, reduceCtorEq, decide_true, List.length_singleton, er_int, er_bool, er_str, sps_len]
  refine h3 _ _ ?_
  try clear h3 K_h3
  refine T.cond rfl (fun hb => ?_) (fun hb => ?_)
  · refine T.skip ?_
    refine h2 _ _ ?_
    try clear h2 K_h2
    have hil : i < a.length := by simpa using hb
    have hjl : i < b.length := by omega
    clear hb
    refine T.seq_k (fun K_h2 h2 => ?_)
    refine T.block ?_
    refine T.seq_k (fun K_h3 h3 => ?_)
    have hge := gSame_eq a[i] b[i]
    refine T.regt hm tG_ok ?_
    simp only [↓reduceIte, namesOf, List.any, I.names, aops, aopsI, aopsT, qstep, CPt, qget, Tbl.get, astep, ev, setd, List.set, List.getD, List.getElem?_cons_zero, List.getElem?_cons_succ, List.getElem?_nil, List.cons_append, List.nil_append, List.length_cons, List.length_nil, List.replicate, then_normal, inBlock_normal, Option.getD_some, Option.getD_none, Bool.or_false, Bool.or_true, Bool.true_or, Bool.false_or, Bool.false_eq_true, if_false, if_true, up_zero, Nat.reduceAdd, Nat.reduceSub, binv, ↓opt_def, AV.isAny, AV.cells, ldc, List.map_cons, List.map_nil, St.set_next, St.set_same, St.up_next, Int.natCast_nonneg, lt_len, le_len, Int.toNat_natCast, true_and, and_true, eq_self, reduceCtorEq, decide_true, List.length_singleton, er_int, er_bool, er_str, Nat.reduceEqDiff, tG, n_rless, n_rsame, n_rahead, sps_len, sps_get hil, sps_get hjl, hil, hjl, spav, AV.fits, AV.one, List.all_cons, List.all_nil, Nat.reduceBEq, Bool.and_true, Bool.not_false, Bool.and_self, Nat.zero_add, splice, List.take, List.drop, Nat.reduceLeDiff, hge]
    refine h3 _ _ ?_
    try clear h3 K_h3
    refine T.seq_k (fun K_h3 h3 => ?_)
    refine T.regi hm ?_
    simp only [↓reduceIte, namesOf, List.any, I.names, aops, aopsI, aopsT, qstep, CPt, qget, Tbl.get, astep, ev, setd, List.set, List.getD, List.getElem?_cons_zero, List.getElem?_cons_succ, List.getElem?_nil, List.cons_append, List.nil_append, List.length_cons, List.length_nil, List.replicate, then_normal, inBlock_normal, Option.getD_some, Option.getD_none, Bool.or_false, Bool.or_true, Bool.true_or, Bool.false_or, Bool.false_eq_true, if_false, if_true, up_zero, Nat.reduceAdd, Nat.reduceSub, binv, ↓opt_def, AV.isAny, AV.cells, ldc, List.map_cons, List.map_nil, St.set_next, St.set_same, St.up_next, Int.natCast_nonneg, lt_len, le_len, Int.toNat_natCast, true_and, and_true, eq_self, reduceCtorEq, decide_true, List.length_singleton, er_int, er_bool, er_str]
    refine h3 _ _ ?_
    try clear h3 K_h3
    refine T.cond rfl (fun hb => ?_) (fun hb => ?_)
    · refine T.seq_k (fun K_h3 h3 => ?_)
      refine T.regi hm ?_
      simp only [↓reduceIte, namesOf, List.any, I.names, aops, aopsI, aopsT, qstep, CPt, qget, Tbl.get, astep, ev, setd, List.set, List.getD, List.getElem?_cons_zero, List.getElem?_cons_succ, List.getElem?_nil, List.cons_append, List.nil_append, List.length_cons, List.length_nil, List.replicate, then_normal, inBlock_normal, Option.getD_some, Option.getD_none, Bool.or_false, Bool.or_true, Bool.true_or, Bool.false_or, Bool.false_eq_true, if_false, if_true, up_zero, Nat.reduceAdd, Nat.reduceSub, binv, ↓opt_def, AV.isAny, AV.cells, ldc, List.map_cons, List.map_nil, St.set_next, St.set_same, St.up_next, Int.natCast_nonneg, lt_len, le_len, Int.toNat_natCast, true_and, and_true, eq_self, reduceCtorEq, decide_true, List.length_singleton, er_int, er_bool, er_str]
      refine h3 _ _ ?_
      try clear h3 K_h3
      have hne : a[i] ≠ b[i] := by simpa using hb
      have hab : a ≠ b := by intro h; subst h; exact hne rfl
      exact T.ret (Fin.ret rfl ⟨by rw [decide_eq_false hab]; rfl, rfl⟩)
    · refine T.skip ?_
      refine h2 _ _ ?_
      try clear h2 K_h2
      have he : a[i] = b[i] := by simpa using hb
      have hw := inc64 hil hl
      refine T.regi hm ?_
      simp only [↓reduceIte, namesOf, List.any, I.names, aops, aopsI, aopsT, qstep, CPt, qget, Tbl.get, astep, ev, setd, List.set, List.getD, List.getElem?_cons_zero, List.getElem?_cons_succ, List.getElem?_nil, List.cons_append, List.nil_append, List.length_cons, List.length_nil, List.replicate, then_normal, inBlock_normal, Option.getD_some, Option.getD_none, Bool.or_false, Bool.or_true, Bool.true_or, Bool.false_or, Bool.false_eq_true, if_false, if_true, up_zero, Nat.reduceAdd, Nat.reduceSub, binv, ↓opt_def, AV.isAny, AV.cells, ldc, List.map_cons, List.map_nil, St.set_next, St.set_same, St.up_next, Int.natCast_nonneg, lt_len, le_len, Int.toNat_natCast, true_and, and_true, eq_self, reduceCtorEq, decide_true, List.length_singleton, er_int, er_bool, er_str, hw]
      refine ⟨hil, _, _, Gh.keep [0, 1, 5], rfl, ?_, rfl⟩
      rw [List.take_succ_eq_append_getElem hil, List.take_succ_eq_append_getElem hjl, hpre, he]
  · refine T.exit ?_
    have : i = a.length := by simp at hb; omega
    subst this
    have hab : a = b := by rw [List.take_length, hlen, List.take_length] at hpre; exact hpre
    try simp only [↓reduceIte, namesOf, List.any, I.names, aops, aopsI, aopsT, qstep, CPt, qget, Tbl.get, astep, ev, setd, List.set, List.getD, List.getElem?_cons_zero, List.getElem?_cons_succ, List.getElem?_nil, List.cons_append, List.nil_append, List.length_cons, List.length_nil, List.replicate, then_normal, inBlock_normal, Option.getD_some, Option.getD_none, Bool.or_false, Bool.or_true, Bool.true_or, Bool.false_or, Bool.false_eq_true, if_false, if_true, up_zero, Nat.reduceAdd, Nat.reduceSub, binv, ↓opt_def, AV.isAny, AV.cells, ldc, List.map_cons, List.map_nil, St.set_next, St.set_same, St.up_next, Int.natCast_nonneg, lt_len, le_len, Int.toNat_natCast, true_and, and_true, eq_self, reduceCtorEq, decide_true, List.length_singleton, er_int, er_bool, er_str, inBlock_exit, then_exit]
    refine h1 _ _ ?_
    try clear h1 K_h1
    refine T.seq_k (fun K_h1 h1 => ?_)
    refine T.regi hm ?_
    simp only [↓reduceIte, namesOf, List.any, I.names, aops, aopsI, aopsT, qstep, CPt, qget, Tbl.get, astep, ev, setd, List.set, List.getD, List.getElem?_cons_zero, List.getElem?_cons_succ, List.getElem?_nil, List.cons_append, List.nil_append, List.length_cons, List.length_nil, List.replicate, then_normal, inBlock_normal, Option.getD_some, Option.getD_none, Bool.or_false, Bool.or_true, Bool.true_or, Bool.false_or, Bool.false_eq_true, if_false, if_true, up_zero, Nat.reduceAdd, Nat.reduceSub, binv, ↓opt_def, AV.isAny, AV.cells, ldc, List.map_cons, List.map_nil, St.set_next, St.set_same, St.up_next, Int.natCast_nonneg, lt_len, le_len, Int.toNat_natCast, true_and, and_true, eq_self, reduceCtorEq, decide_true, List.length_singleton, er_int, er_bool, er_str]
    refine h1 _ _ ?_
    try clear h1 K_h1
    exact T.ret (Fin.ret rfl ⟨by rw [decide_eq_true hab]; rfl, rfl⟩)

end Go.VL

namespace Go.VL

open Go.Proofs

/-- an end that is owned, and what was owned ahead of it -/
structure Tp (σ σ' : St) (g k : Nat) : Prop where
  lo : σ.next ≤ g
  hi : g < σ'.next
  at_ : σ'.res g = some (.tip k)
  old : ∀ n x, σ.res n = some x → σ'.res n = some x

theorem Tp.new {σ σ' : St} {k n i : Nat} (wf : WF σ) (hn : σ.next ≤ σ'.next) (ho : ∀ n x, σ.res n = some x → σ'.res n = some x) (hi : i < n) : Tp σ ((σ'.up n).set (σ'.next + i) (.tip k)) (σ'.next + i) k :=
  ⟨by omega, by simp; omega, by simp, set_quiet wf hn ho _ (by omega)⟩

theorem Tp.mv {σ σ' : St} {g g2 k : Nat} (wf : WF σ) (h : Tp σ σ' g k) (hlo : σ.next ≤ g2) (hhi : g2 < σ'.next) : Tp σ ((σ'.del g).set g2 (.tip k)) g2 k :=
  ⟨hlo, by simpa using hhi, by simp, fun n x hr => by
    have hn : n < σ.next := by
      rcases Nat.lt_or_ge n σ.next with h' | h'
      · exact h'
      · rw [wf n h'] at hr; cases hr
    have h1 := h.lo
    rw [St.set_other _ _ (by omega)]
    simp only [St.del]
    rw [if_neg (by omega)]; exact h.old n x hr⟩

theorem Tp.up {σ σ' : St} {g k : Nat} (h : Tp σ σ' g k) (n : Nat) : Tp σ (σ'.up n) g k := ⟨h.lo, Nat.lt_of_lt_of_le h.hi (Nat.le_add_right _ _), h.at_, h.old⟩

theorem sps_fits (l : List Sp) : (spsAV l).all (AV.fits 5) = true := by
  simp [spsAV, Sp.av, AV.fits, AV.isAny, AV.cells, AV.one]

theorem sps_er (l : List Sp) : (spsAV l).map AV.er = spsAV l := by
  simp only [spsAV, List.map_map]
  apply List.map_congr_left
  intro t _
  rfl

theorem nbs_sps (m : Nat) (l : List Sp) : nbs m (spsAV l) := by
  rw [nbs_iff]
  intro y hy
  obtain ⟨s, _, rfl⟩ := List.mem_map.1 hy
  simp only [Sp.av, AV.nb, nbs, true_and, and_true, Ver.nb]
  exact (nb_bytes m s.da)

end Go.VL
