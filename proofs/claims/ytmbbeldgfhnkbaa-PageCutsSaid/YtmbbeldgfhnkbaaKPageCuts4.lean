/- Texts put together, of these what the theorem needs: Contracts: pages that are few; comparing. Contracts: canonical traces. The compiled code of functions of this seat. MADE BY PROGRAM (mkc.py). Contracts: the bytes of texts and spans. Contracts: lists of canonical traces; rows put together. The plain law of gathering: what is gathered of spans of one trace is they themselves just if they stand in order, and no Id is there twice. Contracts: rows put together; an index of pages. Contracts: the document's answer for spans, compared. -/
import Derived.Test.YtmbbeldgfhnkbaaKPageCuts3
import Derived.Test.YtmbbeldgfhnkbaaChecked

set_option linter.unusedSimpArgs false
set_option linter.unusedVariables false

namespace Go.VL

open Go.Proofs

/-! ### Comparing -/

def cmp3 (a b : Int) : Int := if a < b then -1 else if b < a then 1 else 0

theorem nan1_ok {a : Int} {σ : St} : ACalls Try.prog n_nan1 [.int .i64 a] σ (fun v σ' => v = .bool false ∧ σ' = σ) := by
  refine s_nan1 (fun wf => ?_)
  unfold c_nan1
  refine T.seq_k (fun K_h1 h1 => ?_)
  refine T.regi hm ?_
  simp only [↓reduceIte, namesOf, List.any, I.names, aops, aopsI, aopsT, qstep, CPt, qget, Tbl.get, astep, ev, setd, List.set, List.getD, List.getElem?_cons_zero, List.getElem?_cons_succ, List.getElem?_nil, List.cons_append, List.nil_append, List.length_cons, List.length_nil, List.replicate, then_normal, inBlock_normal, Option.getD_some, Option.getD_none, Bool.or_false, Bool.or_true, Bool.true_or, Bool.false_or, Bool.false_eq_true, if_false, if_true, up_zero, Nat.reduceAdd, Nat.reduceSub, binv, ↓opt_def, AV.isAny, AV.cells, ldc, List.map_cons, List.map_nil, St.set_next, St.set_same, St.up_next, Int.natCast_nonneg, lt_len, le_len, Int.toNat_natCast, true_and, and_true, eq_self, reduceCtorEq, decide_true, List.length_singleton, er_int, er_bool, er_str]
  refine h1 _ _ ?_
  try clear h1 K_h1
  refine T.seq_k (fun K_h1 h1 => ?_)
  refine T.regi hm ?_
  simp only [↓reduceIte, namesOf, List.any, I.names, aops, aopsI, aopsT, qstep, CPt, qget, Tbl.get, astep, ev, setd, List.set, List.getD, List.getElem?_cons_zero, List.getElem?_cons_succ, List.getElem?_nil, List.cons_append, List.nil_append, List.length_cons, List.length_nil, List.replicate, then_normal, inBlock_normal, Option.getD_some, Option.getD_none, Bool.or_false, Bool.or_true, Bool.true_or, Bool.false_or, Bool.false_eq_true, if_false, if_true, up_zero, Nat.reduceAdd, Nat.reduceSub, binv, ↓opt_def, AV.isAny, AV.cells, ldc, List.map_cons, List.map_nil, St.set_next, St.set_same, St.up_next, Int.natCast_nonneg, lt_len, le_len, Int.toNat_natCast, true_and, and_true, eq_self, reduceCtorEq, decide_true, List.length_singleton, er_int, er_bool, er_str, bne_self_eq_false]
  refine h1 _ _ ?_
  try clear h1 K_h1
  exact T.ret (Fin.ret rfl ⟨rfl, rfl⟩)

theorem nan2_ok {a : Int} {σ : St} : ACalls Try.prog n_nan2 [.int .u64 a] σ (fun v σ' => v = .bool false ∧ σ' = σ) := by
  refine s_nan2 (fun wf => ?_)
  unfold c_nan2
  refine T.seq_k (fun K_h1 h1 => ?_)
  refine T.regi hm ?_
  simp only [↓reduceIte, namesOf, List.any, I.names, aops, aopsI, aopsT, qstep, CPt, qget, Tbl.get, astep, ev, setd, List.set, List.getD, List.getElem?_cons_zero, List.getElem?_cons_succ, List.getElem?_nil, List.cons_append, List.nil_append, List.length_cons, List.length_nil, List.replicate, then_normal, inBlock_normal, Option.getD_some, Option.getD_none, Bool.or_false, Bool.or_true, Bool.true_or, Bool.false_or, Bool.false_eq_true, if_false, if_true, up_zero, Nat.reduceAdd, Nat.reduceSub, binv, ↓opt_def, AV.isAny, AV.cells, ldc, List.map_cons, List.map_nil, St.set_next, St.set_same, St.up_next, Int.natCast_nonneg, lt_len, le_len, Int.toNat_natCast, true_and, and_true, eq_self, reduceCtorEq, decide_true, List.length_singleton, er_int, er_bool, er_str]
  refine h1 _ _ ?_
  try clear h1 K_h1
  refine T.seq_k (fun K_h1 h1 => ?_)
  refine T.regi hm ?_
  simp only [↓reduceIte, namesOf, List.any, I.names, aops, aopsI, aopsT, qstep, CPt, qget, Tbl.get, astep, ev, setd, List.set, List.getD, List.getElem?_cons_zero, List.getElem?_cons_succ, List.getElem?_nil, List.cons_append, List.nil_append, List.length_cons, List.length_nil, List.replicate, then_normal, inBlock_normal, Option.getD_some, Option.getD_none, Bool.or_false, Bool.or_true, Bool.true_or, Bool.false_or, Bool.false_eq_true, if_false, if_true, up_zero, Nat.reduceAdd, Nat.reduceSub, binv, ↓opt_def, AV.isAny, AV.cells, ldc, List.map_cons, List.map_nil, St.set_next, St.set_same, St.up_next, Int.natCast_nonneg, lt_len, le_len, Int.toNat_natCast, true_and, and_true, eq_self, reduceCtorEq, decide_true, List.length_singleton, er_int, er_bool, er_str, bne_self_eq_false]
  refine h1 _ _ ?_
  try clear h1 K_h1
  exact T.ret (Fin.ret rfl ⟨rfl, rfl⟩)

theorem cmpi_ok {a b : Int} {σ : St} : ACalls Try.prog n_cmpi [.int .i64 a, .int .i64 b] σ (fun v σ' => v = .int .i64 (cmp3 a b) ∧ σ' = σ) := by
  refine s_cmpi (fun wf => ?_)
  unfold c_cmpi
  refine T.seq_k (fun K_h1 h1 => ?_)
  refine T.regi hm ?_
  simp only [↓reduceIte, namesOf, List.any, I.names, aops, aopsI, aopsT, qstep, CPt, qget, Tbl.get, astep, ev, setd, List.set, List.getD, List.getElem?_cons_zero, List.getElem?_cons_succ, List.getElem?_nil, List.cons_append, List.nil_append, List.length_cons, List.length_nil, List.replicate, then_normal, inBlock_normal, Option.getD_some, Option.getD_none, Bool.or_false, Bool.or_true, Bool.true_or, Bool.false_or, Bool.false_eq_true, if_false, if_true, up_zero, Nat.reduceAdd, Nat.reduceSub, binv, ↓opt_def, AV.isAny, AV.cells, ldc, List.map_cons, List.map_nil, St.set_next, St.set_same, St.up_next, Int.natCast_nonneg, lt_len, le_len, Int.toNat_natCast, true_and, and_true, eq_self, reduceCtorEq, decide_true, List.length_singleton, er_int, er_bool, er_str]
  refine h1 _ _ ?_
  try clear h1 K_h1
  refine T.seq_k (fun K_h1 h1 => ?_)
  refine T.regi hm ?_
  simp only [↓reduceIte, namesOf, List.any, I.names, aops, aopsI, aopsT, qstep, CPt, qget, Tbl.get, astep, ev, setd, List.set, List.getD, List.getElem?_cons_zero, List.getElem?_cons_succ, List.getElem?_nil, List.cons_append, List.nil_append, List.length_cons, List.length_nil, List.replicate, then_normal, inBlock_normal, Option.getD_some, Option.getD_none, Bool.or_false, Bool.or_true, Bool.true_or, Bool.false_or, Bool.false_eq_true, if_false, if_true, up_zero, Nat.reduceAdd, Nat.reduceSub, binv, ↓opt_def, AV.isAny, AV.cells, ldc, List.map_cons, List.map_nil, St.set_next, St.set_same, St.up_next, Int.natCast_nonneg, lt_len, le_len, Int.toNat_natCast, true_and, and_true, eq_self, reduceCtorEq, decide_true, List.length_singleton, er_int, er_bool, er_str]
  refine nan1_ok.mono ?_
  rintro v σ1 ⟨rfl, rfl⟩
  try simp only [↓reduceIte, namesOf, List.any, I.names, aops, aopsI, aopsT, qstep, CPt, qget, Tbl.get, astep, ev, setd, List.set, List.getD, List.getElem?_cons_zero, List.getElem?_cons_succ, List.getElem?_nil, List.cons_append, List.nil_append, List.length_cons, List.length_nil, List.replicate, then_normal, inBlock_normal, Option.getD_some, Option.getD_none, Bool.or_false, Bool.or_true, Bool.true_or, Bool.false_or, Bool.false_eq_true, if_false, if_true, up_zero, Nat.reduceAdd, Nat.reduceSub, binv, ↓opt_def, AV.isAny, AV.cells, ldc, List.map_cons, List.map_nil, St.set_next, St.set_same, St.up_next, Int.natCast_nonneg, lt_len, le_len, Int.toNat_natCast, true_and, and_true, eq_self, reduceCtorEq, decide_true, List.length_singleton, er_int, er_bool, er_str, up_zero]
  refine h1 _ _ ?_
  try clear h1 K_h1
  refine T.seq_k (fun K_h1 h1 => ?_)
  refine T.regi hm ?_
  simp only [↓reduceIte, namesOf, List.any, I.names, aops, aopsI, aopsT, qstep, CPt, qget, Tbl.get, astep, ev, setd, List.set, List.getD, List.getElem?_cons_zero, List.getElem?_cons_succ, List.getElem?_nil, List.cons_append, List.nil_append, List.length_cons, List.length_nil, List.replicate, then_normal, inBlock_normal, Option.getD_some, Option.getD_none, Bool.or_false, Bool.or_true, Bool.true_or, Bool.false_or, Bool.false_eq_true, if_false, if_true, up_zero, Nat.reduceAdd, Nat.reduceSub, binv, ↓opt_def, AV.isAny, AV.cells, ldc, List.map_cons, List.map_nil, St.set_next, St.set_same, St.up_next, Int.natCast_nonneg, lt_len, le_len, Int.toNat_natCast, true_and, and_true, eq_self, reduceCtorEq, decide_true, List.length_singleton, er_int, er_bool, er_str]
  refine nan1_ok.mono ?_
  rintro v σ1 ⟨rfl, rfl⟩
  try simp only [↓reduceIte, namesOf, List.any, I.names, aops, aopsI, aopsT, qstep, CPt, qget, Tbl.get, astep, ev, setd, List.set, List.getD, List.getElem?_cons_zero, List.getElem?_cons_succ, List.getElem?_nil, List.cons_append, List.nil_append, List.length_cons, List.length_nil, List.replicate, then_normal, inBlock_normal, Option.getD_some, Option.getD_none, Bool.or_false, Bool.or_true, Bool.true_or, Bool.false_or, Bool.false_eq_true, if_false, if_true, up_zero, Nat.reduceAdd, Nat.reduceSub, binv, ↓opt_def, AV.isAny, AV.cells, ldc, List.map_cons, List.map_nil, St.set_next, St.set_same, St.up_next, Int.natCast_nonneg, lt_len, le_len, Int.toNat_natCast, true_and, and_true, eq_self, reduceCtorEq, decide_true, List.length_singleton, er_int, er_bool, er_str, up_zero]
  refine h1 _ _ ?_
  try clear h1 K_h1
  refine T.seq_k (fun K_h1 h1 => ?_)
  refine T.seq_k (fun K_h2 h2 => ?_)
  refine T.regi hm ?_
  simp only [↓reduceIte, namesOf, List.any, I.names, aops, aopsI, aopsT, qstep, CPt, qget, Tbl.get, astep, ev, setd, List.set, List.getD, List.getElem?_cons_zero, List.getElem?_cons_succ, List.getElem?_nil, List.cons_append, List.nil_append, List.length_cons, List.length_nil, List.replicate, then_normal, inBlock_normal, Option.getD_some, Option.getD_none, Bool.or_false, Bool.or_true, Bool.true_or, Bool.false_or, Bool.false_eq_true, if_false, if_true, up_zero, Nat.reduceAdd, Nat.reduceSub, binv, ↓opt_def, AV.isAny, AV.cells, ldc, List.map_cons, List.map_nil, St.set_next, St.set_same, St.up_next, Int.natCast_nonneg, lt_len, le_len, Int.toNat_natCast, true_and, and_true, eq_self, reduceCtorEq, decide_true, List.length_singleton, er_int, er_bool, er_str]
  refine h2 _ _ ?_
  try clear h2 K_h2
  refine T.cond rfl (fun hb => by cases hb) (fun _ => T.skip ?_)
  refine h1 _ _ ?_
  try clear h1 K_h1
  refine T.seq_k (fun K_h1 h1 => ?_)
  refine T.seq_k (fun K_h2 h2 => ?_)
  refine T.regi hm ?_
  simp only [↓reduceIte, namesOf, List.any, I.names, aops, aopsI, aopsT, qstep, CPt, qget, Tbl.get, astep, ev, setd, List.set, List.getD, List.getElem?_cons_zero, List.getElem?_cons_succ, List.getElem?_nil, List.cons_append, List.nil_append, List.length_cons, List.length_nil, List.replicate, then_normal, inBlock_normal, Option.getD_some, Option.getD_none, Bool.or_false, Bool.or_true, Bool.true_or, Bool.false_or, Bool.false_eq_true, if_false, if_true, up_zero, Nat.reduceAdd, Nat.reduceSub, binv, ↓opt_def, AV.isAny, AV.cells, ldc, List.map_cons, List.map_nil, St.set_next, St.set_same, St.up_next, Int.natCast_nonneg, lt_len, le_len, Int.toNat_natCast, true_and, and_true, eq_self, reduceCtorEq, decide_true, List.length_singleton, er_int, er_bool, er_str]
  refine h2 _ _ ?_
  try clear h2 K_h2
  refine T.cond rfl (fun hb => by cases hb) (fun _ => T.skip ?_)
  refine h1 _ _ ?_
  try clear h1 K_h1
  refine T.seq_k (fun K_h1 h1 => ?_)
  refine T.seq_k (fun K_h2 h2 => ?_)
  refine T.regi hm ?_
  simp only [↓reduceIte, namesOf, List.any, I.names, aops, aopsI, aopsT, qstep, CPt, qget, Tbl.get, astep, ev, setd, List.set, List.getD, List.getElem?_cons_zero, List.getElem?_cons_succ, List.getElem?_nil, List.cons_append, List.nil_append, List.length_cons, List.length_nil, List.replicate, then_normal, inBlock_normal, Option.getD_some, Option.getD_none, Bool.or_false, Bool.or_true, Bool.true_or, Bool.false_or, Bool.false_eq_true, if_false, if_true, up_zero, Nat.reduceAdd, Nat.reduceSub, binv, ↓opt_def, AV.isAny, AV.cells, ldc, List.map_cons, List.map_nil, St.set_next, St.set_same, St.up_next, Int.natCast_nonneg, lt_len, le_len, Int.toNat_natCast, true_and, and_true, eq_self, reduceCtorEq, decide_true, List.length_singleton, er_int, er_bool, er_str]
  refine h2 _ _ ?_
  try clear h2 K_h2
  refine T.cond rfl (fun hb => ?_) (fun hb => ?_)
  · refine T.seq_k (fun K_h2 h2 => ?_)
    refine T.regi hm ?_
    simp only [↓reduceIte, namesOf, List.any, I.names, aops, aopsI, aopsT, qstep, CPt, qget, Tbl.get, astep, ev, setd, List.set, List.getD, List.getElem?_cons_zero, List.getElem?_cons_succ, List.getElem?_nil, List.cons_append, List.nil_append, List.length_cons, List.length_nil, List.replicate, then_normal, inBlock_normal, Option.getD_some, Option.getD_none, Bool.or_false, Bool.or_true, Bool.true_or, Bool.false_or, Bool.false_eq_true, if_false, if_true, up_zero, Nat.reduceAdd, Nat.reduceSub, binv, ↓opt_def, AV.isAny, AV.cells, ldc, List.map_cons, List.map_nil, St.set_next, St.set_same, St.up_next, Int.natCast_nonneg, lt_len, le_len, Int.toNat_natCast, true_and, and_true, eq_self, reduceCtorEq, decide_true, List.length_singleton, er_int, er_bool, er_str]
    refine h2 _ _ ?_
    try clear h2 K_h2
    have : a < b := by simpa using hb
    exact T.ret (Fin.ret rfl ⟨by simp [pack, cmp3, this], rfl⟩)
  · refine T.skip ?_
    refine h1 _ _ ?_
    try clear h1 K_h1
    have hn : ¬ a < b := by simpa using hb
    refine T.seq_k (fun K_h1 h1 => ?_)
    refine T.seq_k (fun K_h2 h2 => ?_)
    refine T.regi hm ?_
    simp only [↓reduceIte, namesOf, List.any, I.names, aops, aopsI, aopsT, qstep, CPt, qget, Tbl.get, astep, ev, setd, List.set, List.getD, List.getElem?_cons_zero, List.getElem?_cons_succ, List.getElem?_nil, List.cons_append, List.nil_append, List.length_cons, List.length_nil, List.replicate, then_normal, inBlock_normal, Option.getD_some, Option.getD_none, Bool.or_false, Bool.or_true, Bool.true_or, Bool.false_or, Bool.false_eq_true, if_false, if_true, up_zero, Nat.reduceAdd, Nat.reduceSub, binv, ↓opt_def, AV.isAny, AV.cells, ldc, List.map_cons, List.map_nil, St.set_next, St.set_same, St.up_next, Int.natCast_nonneg, lt_len, le_len, Int.toNat_natCast, true_and, and_true, eq_self, reduceCtorEq, decide_true, List.length_singleton, er_int, er_bool, er_str]
    refine h2 _ _ ?_
    try clear h2 K_h2
    refine T.cond rfl (fun hb => ?_) (fun hb => ?_)
    · refine T.seq_k (fun K_h2 h2 => ?_)
      refine T.regi hm ?_
      simp only [↓reduceIte, namesOf, List.any, I.names, aops, aopsI, aopsT, qstep, CPt, qget, Tbl.get, astep, ev, setd, List.set, List.getD, List.getElem?_cons_zero, List.getElem?_cons_succ, List.getElem?_nil, List.cons_append, List.nil_append, List.length_cons, List.length_nil, List.replicate, then_normal, inBlock_normal, Option.getD_some, Option.getD_none, Bool.or_false, Bool.or_true, Bool.true_or, Bool.false_or, Bool.false_eq_true, if_false, if_true, up_zero, Nat.reduceAdd, Nat.reduceSub, binv, ↓opt_def, AV.isAny, AV.cells, ldc, List.map_cons, List.map_nil, St.set_next, St.set_same, St.up_next, Int.natCast_nonneg, lt_len, le_len, Int.toNat_natCast, true_and, and_true, eq_self, reduceCtorEq, decide_true, List.length_singleton, er_int, er_bool, er_str]
      refine h2 _ _ ?_
      try clear h2 K_h2
      have : b < a := by simpa using hb
      exact T.ret (Fin.ret rfl ⟨by simp [pack, cmp3, this, hn], rfl⟩)
    · refine T.skip ?_
      refine h1 _ _ ?_
      try clear h1 K_h1
      have hn2 : ¬ b < a := by simpa using hb
      refine T.seq_k (fun K_h1 h1 => ?_)
      refine T.regi hm ?_
      simp only [↓reduceIte, namesOf, List.any, I.names, aops, aopsI, aopsT, qstep, CPt, qget, Tbl.get, astep, ev, setd, List.set, List.getD, List.getElem?_cons_zero, List.getElem?_cons_succ, List.getElem?_nil, List.cons_append, List.nil_append, List.length_cons, List.length_nil, List.replicate, then_normal, inBlock_normal, Option.getD_some, Option.getD_none, Bool.or_false, Bool.or_true, Bool.true_or, Bool.false_or, Bool.false_eq_true, if_false, if_true, up_zero, Nat.reduceAdd, Nat.reduceSub, binv, ↓opt_def, AV.isAny, AV.cells, ldc, List.map_cons, List.map_nil, St.set_next, St.set_same, St.up_next, Int.natCast_nonneg, lt_len, le_len, Int.toNat_natCast, true_and, and_true, eq_self, reduceCtorEq, decide_true, List.length_singleton, er_int, er_bool, er_str]
      refine h1 _ _ ?_
      try clear h1 K_h1
      exact T.ret (Fin.ret rfl ⟨by simp [pack, cmp3, hn, hn2], rfl⟩)

theorem cmpu_ok {a b : Int} {σ : St} : ACalls Try.prog n_cmpu [.int .u64 a, .int .u64 b] σ (fun v σ' => v = .int .i64 (cmp3 a b) ∧ σ' = σ) := by
  refine s_cmpu (fun wf => ?_)
  unfold c_cmpu
  refine T.seq_k (fun K_h1 h1 => ?_)
  refine T.regi hm ?_
  simp only [↓reduceIte, namesOf, List.any, I.names, aops, aopsI, aopsT, qstep, CPt, qget, Tbl.get, astep, ev, setd, List.set, List.getD, List.getElem?_cons_zero, List.getElem?_cons_succ, List.getElem?_nil, List.cons_append, List.nil_append, List.length_cons, List.length_nil, List.replicate, then_normal, inBlock_normal, Option.getD_some, Option.getD_none, Bool.or_false, Bool.or_true, Bool.true_or, Bool.false_or, Bool.false_eq_true, if_false, if_true, up_zero, Nat.reduceAdd, Nat.reduceSub, binv, ↓opt_def, AV.isAny, AV.cells, ldc, List.map_cons, List.map_nil, St.set_next, St.set_same, St.up_next, Int.natCast_nonneg, lt_len, le_len, Int.toNat_natCast, true_and, and_true, eq_self, reduceCtorEq, decide_true, List.length_singleton, er_int, er_bool, er_str]
  refine h1 _ _ ?_
  try clear h1 K_h1
  refine T.seq_k (fun K_h1 h1 => ?_)
  refine T.regi hm ?_
  simp only [↓reduceIte, namesOf, List.any, I.names, aops, aopsI, aopsT, qstep, CPt, qget, Tbl.get, astep, ev, setd, List.set, List.getD, List.getElem?_cons_zero, List.getElem?_cons_succ, List.getElem?_nil, List.cons_append, List.nil_append, List.length_cons, List.length_nil, List.replicate, then_normal, inBlock_normal, Option.getD_some, Option.getD_none, Bool.or_false, Bool.or_true, Bool.true_or, Bool.false_or, Bool.false_eq_true, if_false, if_true, up_zero, Nat.reduceAdd, Nat.reduceSub, binv, ↓opt_def, AV.isAny, AV.cells, ldc, List.map_cons, List.map_nil, St.set_next, St.set_same, St.up_next, Int.natCast_nonneg, lt_len, le_len, Int.toNat_natCast, true_and, and_true, eq_self, reduceCtorEq, decide_true, List.length_singleton, er_int, er_bool, er_str]
  refine nan2_ok.mono ?_
  rintro v σ1 ⟨rfl, rfl⟩
  try simp only [↓reduceIte, namesOf, List.any, I.names, aops, aopsI, aopsT, qstep, CPt, qget, Tbl.get, astep, ev, setd, List.set, List.getD, List.getElem?_cons_zero, List.getElem?_cons_succ, List.getElem?_nil, List.cons_append, List.nil_append, List.length_cons, List.length_nil, List.replicate, then_normal, inBlock_normal, Option.getD_some, Option.getD_none, Bool.or_false, Bool.or_true, Bool.true_or, Bool.false_or, Bool.false_eq_true, if_false, if_true, up_zero, Nat.reduceAdd, Nat.reduceSub, binv, ↓opt_def, AV.isAny, AV.cells, ldc, List.map_cons, List.map_nil, St.set_next, St.set_same, St.up_next, Int.natCast_nonneg, lt_len, le_len, Int.toNat_natCast, true_and, and_true, eq_self, reduceCtorEq, decide_true, List.length_singleton, er_int, er_bool, er_str, up_zero]
  refine h1 _ _ ?_
  try clear h1 K_h1
  refine T.seq_k (fun K_h1 h1 => ?_)
  refine T.regi hm ?_
  simp only [↓reduceIte, namesOf, List.any, I.names, aops, aopsI, aopsT, qstep, CPt, qget, Tbl.get, astep, ev, setd, List.set, List.getD, List.getElem?_cons_zero, List.getElem?_cons_succ, List.getElem?_nil, List.cons_append, List.nil_append, List.length_cons, List.length_nil, List.replicate, then_normal, inBlock_normal, Option.getD_some, Option.getD_none, Bool.or_false, Bool.or_true, Bool.true_or, Bool.false_or, Bool.false_eq_true, if_false, if_true, up_zero, Nat.reduceAdd, Nat.reduceSub, binv, ↓opt_def, AV.isAny, AV.cells, ldc, List.map_cons, List.map_nil, St.set_next, St.set_same, St.up_next, Int.natCast_nonneg, lt_len, le_len, Int.toNat_natCast, true_and, and_true, eq_self, reduceCtorEq, decide_true, List.length_singleton, er_int, er_bool, er_str]
  refine nan2_ok.mono ?_
  rintro v σ1 ⟨rfl, rfl⟩
  try simp only [↓reduceIte, namesOf, List.any, I.names, aops, aopsI, aopsT, qstep, CPt, qget, Tbl.get, astep, ev, setd, List.set, List.getD, List.getElem?_cons_zero, List.getElem?_cons_succ, List.getElem?_nil, List.cons_append, List.nil_append, List.length_cons, List.length_nil, List.replicate, then_normal, inBlock_normal, Option.getD_some, Option.getD_none, Bool.or_false, Bool.or_true, Bool.true_or, Bool.false_or, Bool.false_eq_true, if_false, if_true, up_zero, Nat.reduceAdd, Nat.reduceSub, binv, ↓opt_def, AV.isAny, AV.cells, ldc, List.map_cons, List.map_nil, St.set_next, St.set_same, St.up_next, Int.natCast_nonneg, lt_len, le_len, Int.toNat_natCast, true_and, and_true, eq_self, reduceCtorEq, decide_true, List.length_singleton, er_int, er_bool, er_str, up_zero]
  refine h1 _ _ ?_
  try clear h1 K_h1
  refine T.seq_k (fun K_h1 h1 => ?_)
  refine T.seq_k (fun K_h2 h2 => ?_)
  refine T.regi hm ?_
  simp only [↓reduceIte, namesOf, List.any, I.names, aops, aopsI, aopsT, qstep, CPt, qget, Tbl.get, astep, ev, setd, List.set, List.getD, List.getElem?_cons_zero, List.getElem?_cons_succ, List.getElem?_nil, List.cons_append, List.nil_append, List.length_cons, List.length_nil, List.replicate, then_normal, inBlock_normal, Option.getD_some, Option.getD_none, Bool.or_false, Bool.or_true, Bool.true_or, Bool.false_or, Bool.false_eq_true, if_false, if_true, up_zero, Nat.reduceAdd, Nat.reduceSub, binv, ↓opt_def, AV.isAny, AV.cells, ldc, List.map_cons, List.map_nil, St.set_next, St.set_same, St.up_next, Int.natCast_nonneg, lt_len, le_len, Int.toNat_natCast, true_and, and_true, eq_self, reduceCtorEq, decide_true, List.length_singleton, er_int, er_bool, er_str]
  refine h2 _ _ ?_
  try clear h2 K_h2
  refine T.cond rfl (fun hb => by cases hb) (fun _ => T.skip ?_)
  refine h1 _ _ ?_
  try clear h1 K_h1
  refine T.seq_k (fun K_h1 h1 => ?_)
  refine T.seq_k (fun K_h2 h2 => ?_)
  refine T.regi hm ?_
  simp only [↓reduceIte, namesOf, List.any, I.names, aops, aopsI, aopsT, qstep, CPt, qget, Tbl.get, astep, ev, setd, List.set, List.getD, List.getElem?_cons_zero, List.getElem?_cons_succ, List.getElem?_nil, List.cons_append, List.nil_append, List.length_cons, List.length_nil, List.replicate, then_normal, inBlock_normal, Option.getD_some, Option.getD_none, Bool.or_false, Bool.or_true, Bool.true_or, Bool.false_or, Bool.false_eq_true, if_false, if_true, up_zero, Nat.reduceAdd, Nat.reduceSub, binv, ↓opt_def, AV.isAny, AV.cells, ldc, List.map_cons, List.map_nil, St.set_next, St.set_same, St.up_next, Int.natCast_nonneg, lt_len, le_len, Int.toNat_natCast, true_and, and_true, eq_self, reduceCtorEq, decide_true, List.length_singleton, er_int, er_bool, er_str]
  refine h2 _ _ ?_
  try clear h2 K_h2
  refine T.cond rfl (fun hb => by cases hb) (fun _ => T.skip ?_)
  refine h1 _ _ ?_
  try clear h1 K_h1
  refine T.seq_k (fun K_h1 h1 => ?_)
  refine T.seq_k (fun K_h2 h2 => ?_)
  refine T.regi hm ?_
  simp only [↓reduceIte, namesOf, List.any, I.names, aops, aopsI, aopsT, qstep, CPt, qget, Tbl.get, astep, ev, setd, List.set, List.getD, List.getElem?_cons_zero, List.getElem?_cons_succ, List.getElem?_nil, List.cons_append, List.nil_append, List.length_cons, List.length_nil, List.replicate, then_normal, inBlock_normal, Option.getD_some, Option.getD_none, Bool.or_false, Bool.or_true, Bool.true_or, Bool.false_or, Bool.false_eq_true, if_false, if_true, up_zero, Nat.reduceAdd, Nat.reduceSub, binv, ↓opt_def, AV.isAny, AV.cells, ldc, List.map_cons, List.map_nil, St.set_next, St.set_same, St.up_next, Int.natCast_nonneg, lt_len, le_len, Int.toNat_natCast, true_and, and_true, eq_self, reduceCtorEq, decide_true, List.length_singleton, er_int, er_bool, er_str]
  refine h2 _ _ ?_
  try clear h2 K_h2
  refine T.cond rfl (fun hb => ?_) (fun hb => ?_)
  · refine T.seq_k (fun K_h2 h2 => ?_)
    refine T.regi hm ?_
    simp only [↓reduceIte, namesOf, List.any, I.names, aops, aopsI, aopsT, qstep, CPt, qget, Tbl.get, astep, ev, setd, List.set, List.getD, List.getElem?_cons_zero, List.getElem?_cons_succ, List.getElem?_nil, List.cons_append, List.nil_append, List.length_cons, List.length_nil, List.replicate, then_normal, inBlock_normal, Option.getD_some, Option.getD_none, Bool.or_false, Bool.or_true, Bool.true_or, Bool.false_or, Bool.false_eq_true, if_false, if_true, up_zero, Nat.reduceAdd, Nat.reduceSub, binv, ↓opt_def, AV.isAny, AV.cells, ldc, List.map_cons, List.map_nil, St.set_next, St.set_same, St.up_next, Int.natCast_nonneg, lt_len, le_len, Int.toNat_natCast, true_and, and_true, eq_self, reduceCtorEq, decide_true, List.length_singleton, er_int, er_bool, er_str]
    refine h2 _ _ ?_
    try clear h2 K_h2
    have : a < b := by simpa using hb
    exact T.ret (Fin.ret rfl ⟨by simp [pack, cmp3, this], rfl⟩)
  · refine T.skip ?_
    refine h1 _ _ ?_
    try clear h1 K_h1
    have hn : ¬ a < b := by simpa using hb
    refine T.seq_k (fun K_h1 h1 => ?_)
    refine T.seq_k (fun K_h2 h2 => ?_)
    refine T.regi hm ?_
    simp only [↓reduceIte, namesOf, List.any, I.names, aops, aopsI, aopsT, qstep, CPt, qget, Tbl.get, astep, ev, setd, List.set, List.getD, List.getElem?_cons_zero, List.getElem?_cons_succ, List.getElem?_nil, List.cons_append, List.nil_append, List.length_cons, List.length_nil, List.replicate, then_normal, inBlock_normal, Option.getD_some, Option.getD_none, Bool.or_false, Bool.or_true, Bool.true_or, Bool.false_or, Bool.false_eq_true, if_false, if_true, up_zero, Nat.reduceAdd, Nat.reduceSub, binv, ↓opt_def, AV.isAny, AV.cells, ldc, List.map_cons, List.map_nil, St.set_next, St.set_same, St.up_next, Int.natCast_nonneg, lt_len, le_len, Int.toNat_natCast, true_and, and_true, eq_self, reduceCtorEq, decide_true, List.length_singleton, er_int, er_bool, er_str]
    refine h2 _ _ ?_
    try clear h2 K_h2
    refine T.cond rfl (fun hb => ?_) (fun hb => ?_)
    · refine T.seq_k (fun K_h2 h2 => ?_)
      refine T.regi hm ?_
      simp only [↓reduceIte, namesOf, List.any, I.names, aops, aopsI, aopsT, qstep, CPt, qget, Tbl.get, astep, ev, setd, List.set, List.getD, List.getElem?_cons_zero, List.getElem?_cons_succ, List.getElem?_nil, List.cons_append, List.nil_append, List.length_cons, List.length_nil, List.replicate, then_normal, inBlock_normal, Option.getD_some, Option.getD_none, Bool.or_false, Bool.or_true, Bool.true_or, Bool.false_or, Bool.false_eq_true, if_false, if_true, up_zero, Nat.reduceAdd, Nat.reduceSub, binv, ↓opt_def, AV.isAny, AV.cells, ldc, List.map_cons, List.map_nil, St.set_next, St.set_same, St.up_next, Int.natCast_nonneg, lt_len, le_len, Int.toNat_natCast, true_and, and_true, eq_self, reduceCtorEq, decide_true, List.length_singleton, er_int, er_bool, er_str]
      refine h2 _ _ ?_
      try clear h2 K_h2
      have : b < a := by simpa using hb
      exact T.ret (Fin.ret rfl ⟨by simp [pack, cmp3, this, hn], rfl⟩)
    · refine T.skip ?_
      refine h1 _ _ ?_
      try clear h1 K_h1
      have hn2 : ¬ b < a := by simpa using hb
      refine T.seq_k (fun K_h1 h1 => ?_)
      refine T.regi hm ?_
      simp only [↓reduceIte, namesOf, List.any, I.names, aops, aopsI, aopsT, qstep, CPt, qget, Tbl.get, astep, ev, setd, List.set, List.getD, List.getElem?_cons_zero, List.getElem?_cons_succ, List.getElem?_nil, List.cons_append, List.nil_append, List.length_cons, List.length_nil, List.replicate, then_normal, inBlock_normal, Option.getD_some, Option.getD_none, Bool.or_false, Bool.or_true, Bool.true_or, Bool.false_or, Bool.false_eq_true, if_false, if_true, up_zero, Nat.reduceAdd, Nat.reduceSub, binv, ↓opt_def, AV.isAny, AV.cells, ldc, List.map_cons, List.map_nil, St.set_next, St.set_same, St.up_next, Int.natCast_nonneg, lt_len, le_len, Int.toNat_natCast, true_and, and_true, eq_self, reduceCtorEq, decide_true, List.length_singleton, er_int, er_bool, er_str]
      refine h1 _ _ ?_
      try clear h1 K_h1
      exact T.ret (Fin.ret rfl ⟨by simp [pack, cmp3, hn, hn2], rfl⟩)

/-- the first that is not 0 -/
def orI : List Int → Int
  | [] => 0
  | n :: r => if n = 0 then orI r else n

theorem orI_take {l : List Int} {i : Nat} (hi : i < l.length) (h : ∀ j (hj : j < l.length), j < i → l[j] = 0) : orI l = orI (l.drop i) := by
  induction i with
  | zero => rfl
  | succ i ih =>
    rw [ih (by omega) (fun j hj hji => h j hj (by omega)), List.drop_eq_getElem_cons (by omega)]
    unfold orI
    rw [if_pos (h i (by omega) (by omega))]
    cases hd : l.drop (i + 1) with
    | nil => rfl
    | cons a r => rfl

theorem orI_zero : ∀ {l : List Int}, (∀ j (hj : j < l.length), j < l.length → l[j] = 0) → orI l = 0
  | [], _ => rfl
  | a :: r, h => by
    have h0 := h 0 (by simp) (by simp)
    simp only [List.getElem_cons_zero] at h0
    subst h0
    unfold orI
    rw [if_pos rfl]
    exact orI_zero (fun j hj _ => by have := h (j + 1) (by simpa using hj) (by simpa using hj); simpa using this)

theorem cor_ok {l : List Int} {g : Ver} {σ : St} (hl : l.length ≤ 9223372036854775807) : ACalls Try.prog n_cor [.sl (nums .i64 l) g] σ (fun v σ' => v = .int .i64 (orI l) ∧ σ' = σ) := by
  refine s_cor (fun wf => ?_)
  unfold c_cor
  refine T.seq_k (fun K_h1 h1 => ?_)
  refine T.regi hm ?_
  simp only [↓reduceIte, namesOf, List.any, I.names, aops, aopsI, aopsT, qstep, CPt, qget, Tbl.get, astep, ev, setd, List.set, List.getD, List.getElem?_cons_zero, List.getElem?_cons_succ, List.getElem?_nil, List.cons_append, List.nil_append, List.length_cons, List.length_nil, List.replicate, then_normal, inBlock_normal, Option.getD_some, Option.getD_none, Bool.or_false, Bool.or_true, Bool.true_or, Bool.false_or, Bool.false_eq_true, if_false, if_true, up_zero, Nat.reduceAdd, Nat.reduceSub, binv, ↓opt_def, AV.isAny, AV.cells, ldc, List.map_cons, List.map_nil, St.set_next, St.set_same, St.up_next, Int.natCast_nonneg, lt_len, le_len, Int.toNat_natCast, true_and, and_true, eq_self, reduceCtorEq, decide_true, List.length_singleton, er_int, er_bool, er_str]
  refine h1 _ _ ?_
  try clear h1 K_h1
  refine T.seq_k (fun K_h1 h1 => ?_)
  refine T.regi hm ?_
  simp only [↓reduceIte, namesOf, List.any, I.names, aops, aopsI, aopsT, qstep, CPt, qget, Tbl.get, astep, ev, setd, List.set, List.getD, List.getElem?_cons_zero, List.getElem?_cons_succ, List.getElem?_nil, List.cons_append, List.nil_append, List.length_cons, List.length_nil, List.replicate, then_normal, inBlock_normal, Option.getD_some, Option.getD_none, Bool.or_false, Bool.or_true, Bool.true_or, Bool.false_or, Bool.false_eq_true, if_false, if_true, up_zero, Nat.reduceAdd, Nat.reduceSub, binv, ↓opt_def, AV.isAny, AV.cells, ldc, List.map_cons, List.map_nil, St.set_next, St.set_same, St.up_next, Int.natCast_nonneg, lt_len, le_len, Int.toNat_natCast, true_and, and_true, eq_self, reduceCtorEq, decide_true, List.length_singleton, er_int, er_bool, er_str]
  refine h1 _ _ ?_
  try clear h1 K_h1
  refine T.seq_k (fun K_h1 h1 => ?_)
  refine T.seq_k (fun K_h2 h2 => ?_)
  refine T.regi hm ?_
  simp only [↓reduceIte, namesOf, List.any, I.names, aops, aopsI, aopsT, qstep, CPt, qget, Tbl.get, astep, ev, setd, List.set, List.getD, List.getElem?_cons_zero, List.getElem?_cons_succ, List.getElem?_nil, List.cons_append, List.nil_append, List.length_cons, List.length_nil, List.replicate, then_normal, inBlock_normal, Option.getD_some, Option.getD_none, Bool.or_false, Bool.or_true, Bool.true_or, Bool.false_or, Bool.false_eq_true, if_false, if_true, up_zero, Nat.reduceAdd, Nat.reduceSub, binv, ↓opt_def, AV.isAny, AV.cells, ldc, List.map_cons, List.map_nil, St.set_next, St.set_same, St.up_next, Int.natCast_nonneg, lt_len, le_len, Int.toNat_natCast, true_and, and_true, eq_self, reduceCtorEq, decide_true, List.length_singleton, er_int, er_bool, er_str, nums_len]
  refine h2 _ _ ?_
  try clear h2 K_h2
  refine T.block ?_
  refine T.gh (Gh.keep [3, 6, 7, 8]) ?_
  refine T.loopi (fun i ρ σ' => σ' = σ ∧ (∀ j (hj : j < l.length), j < i → l[j] = 0) ∧ ρ = [.any, .any, .any, .int .i64 0, .any, .any, .sl (nums .i64 l) g, .int .i64 (l.length : Int), .int .i64 (i : Int)] ++ List.replicate 9 .any)
    l.length 0 (Nat.zero_le _) ⟨rfl, fun j _ h => by omega, rfl⟩ ?_
  rintro i ρ σ' hi ⟨rfl, hpre, rfl⟩
  refine T.seq_k (fun K_h2 h2 => ?_)
  refine T.regi hm ?_
  simp only [↓reduceIte, namesOf, List.any, I.names, aops, aopsI, aopsT, qstep, CPt, qget, Tbl.get, astep, ev, setd, List.set, List.getD, List.getElem?_cons_zero, List.getElem?_cons_succ, List.getElem?_nil, List.cons_append, List.nil_append, List.length_cons, List.length_nil, List.replicate, then_normal, inBlock_normal, Option.getD_some, Option.getD_none, Bool.or_false, Bool.or_true, Bool.true_or, Bool.false_or, Bool.false_eq_true, if_false, if_true, up_zero, Nat.reduceAdd, Nat.reduceSub, binv, ↓opt_def, AV.isAny, AV.cells, ldc, List.map_cons, List.map_nil, St.set_next, St.set_same, St.up_next, Int.natCast_nonneg, lt_len, le_len, Int.toNat_natCast, true_and, and_true, eq_self, reduceCtorEq, decide_true, List.length_singleton, er_int, er_bool, er_str]
  refine h2 _ _ ?_
  try clear h2 K_h2
  refine T.seq_k (fun K_h2 h2 => ?_)
  refine T.cond rfl (fun hb => ?_) (fun hb => ?_)
  · refine T.skip ?_
    refine h2 _ _ ?_
    try clear h2 K_h2
    have hil : i < l.length := by simpa using hb
    clear hb
    refine T.seq_k (fun K_h2 h2 => ?_)
    refine T.block ?_
    refine T.seq_k (fun K_h3 h3 => ?_)
    refine T.regi hm ?_
    simp only [↓reduceIte, namesOf, List.any, I.names, aops, aopsI, aopsT, qstep, CPt, qget, Tbl.get, astep, ev, setd, List.set, List.getD, List.getElem?_cons_zero, List.getElem?_cons_succ, List.getElem?_nil, List.cons_append, List.nil_append, List.length_cons, List.length_nil, List.replicate, then_normal, inBlock_normal, Option.getD_some, Option.getD_none, Bool.or_false, Bool.or_true, Bool.true_or, Bool.false_or, Bool.false_eq_true, if_false, if_true, up_zero, Nat.reduceAdd, Nat.reduceSub, binv, ↓opt_def, AV.isAny, AV.cells, ldc, List.map_cons, List.map_nil, St.set_next, St.set_same, St.up_next, Int.natCast_nonneg, lt_len, le_len, Int.toNat_natCast, true_and, and_true, eq_self, reduceCtorEq, decide_true, List.length_singleton, er_int, er_bool, er_str, nums_len, nums_get .i64 hil, hil]
    refine h3 _ _ ?_
    try clear h3 K_h3
    refine T.seq_k (fun K_h3 h3 => ?_)
    refine T.regi hm ?_
    simp only [↓reduceIte, namesOf, List.any, I.names, aops, aopsI, aopsT, qstep, CPt, qget, Tbl.get, astep, ev, setd, List.set, List.getD, List.getElem?_cons_zero, List.getElem?_cons_succ, List.getElem?_nil, List.cons_append, List.nil_append, List.length_cons, List.length_nil, List.replicate, then_normal, inBlock_normal, Option.getD_some, Option.getD_none, Bool.or_false, Bool.or_true, Bool.true_or, Bool.false_or, Bool.false_eq_true, if_false, if_true, up_zero, Nat.reduceAdd, Nat.reduceSub, binv, ↓opt_def, AV.isAny, AV.cells, ldc, List.map_cons, List.map_nil, St.set_next, St.set_same, St.up_next, Int.natCast_nonneg, lt_len, le_len, Int.toNat_natCast, true_and, and_true, eq_self, reduceCtorEq, decide_true, List.length_singleton, er_int, er_bool, er_str]
    refine h3 _ _ ?_
    try clear h3 K_h3
    refine T.cond rfl (fun hb => ?_) (fun hb => ?_)
    · refine T.seq_k (fun K_h3 h3 => ?_)
      refine T.regi hm ?_
      simp only [↓reduceIte, namesOf, List.any, I.names, aops, aopsI, aopsT, qstep, CPt, qget, Tbl.get, astep, ev, setd, List.set, List.getD, List.getElem?_cons_zero, List.getElem?_cons_succ, List.getElem?_nil, List.cons_append, List.nil_append, List.length_cons, List.length_nil, List.replicate, then_normal, inBlock_normal, Option.getD_some, Option.getD_none, Bool.or_false, Bool.or_true, Bool.true_or, Bool.false_or, Bool.false_eq_true, if_false, if_true, up_zero, Nat.reduceAdd, Nat.reduceSub, binv, ↓opt_def, AV.isAny, AV.cells, ldc, List.map_cons, List.map_nil, St.set_next, St.set_same, St.up_next, Int.natCast_nonneg, lt_len, le_len, Int.toNat_natCast, true_and, and_true, eq_self, reduceCtorEq, decide_true, List.length_singleton, er_int, er_bool, er_str]
      refine h3 _ _ ?_
      try clear h3 K_h3
      have hne : l[i] ≠ 0 := by simpa using hb
      refine T.ret (Fin.ret rfl ⟨?_, rfl⟩)
      rw [orI_take hil hpre, List.drop_eq_getElem_cons hil]
      simp [pack, orI, hne]
    · refine T.skip ?_
      refine h2 _ _ ?_
      try clear h2 K_h2
      have he : l[i] = 0 := by simpa using hb
      have hw := inc64 hil hl
      refine T.regi hm ?_
      simp only [↓reduceIte, namesOf, List.any, I.names, aops, aopsI, aopsT, qstep, CPt, qget, Tbl.get, astep, ev, setd, List.set, List.getD, List.getElem?_cons_zero, List.getElem?_cons_succ, List.getElem?_nil, List.cons_append, List.nil_append, List.length_cons, List.length_nil, List.replicate, then_normal, inBlock_normal, Option.getD_some, Option.getD_none, Bool.or_false, Bool.or_true, Bool.true_or, Bool.false_or, Bool.false_eq_true, if_false, if_true, up_zero, Nat.reduceAdd, Nat.reduceSub, binv, ↓opt_def, AV.isAny, AV.cells, ldc, List.map_cons, List.map_nil, St.set_next, St.set_same, St.up_next, Int.natCast_nonneg, lt_len, le_len, Int.toNat_natCast, true_and, and_true, eq_self, reduceCtorEq, decide_true, List.length_singleton, er_int, er_bool, er_str, hw]
      refine ⟨hil, _, _, Gh.keep [3, 6, 7, 8], rfl, fun j hj hji => ?_, rfl⟩
      by_cases hx : j = i
      · subst hx; exact he
      · exact hpre j hj (by omega)
  · refine T.exit ?_
    have : i = l.length := by simp at hb; omega
    subst this
    try simp only [↓reduceIte, namesOf, List.any, I.names, aops, aopsI, aopsT, qstep, CPt, qget, Tbl.get, astep, ev, setd, List.set, List.getD, List.getElem?_cons_zero, List.getElem?_cons_succ, List.getElem?_nil, List.cons_append, List.nil_append, List.length_cons, List.length_nil, List.replicate, then_normal, inBlock_normal, Option.getD_some, Option.getD_none, Bool.or_false, Bool.or_true, Bool.true_or, Bool.false_or, Bool.false_eq_true, if_false, if_true, up_zero, Nat.reduceAdd, Nat.reduceSub, binv, ↓opt_def, AV.isAny, AV.cells, ldc, List.map_cons, List.map_nil, St.set_next, St.set_same, St.up_next, Int.natCast_nonneg, lt_len, le_len, Int.toNat_natCast, true_and, and_true, eq_self, reduceCtorEq, decide_true, List.length_singleton, er_int, er_bool, er_str, inBlock_exit, then_exit]
    refine h1 _ _ ?_
    try clear h1 K_h1
    refine T.seq_k (fun K_h1 h1 => ?_)
    refine T.regi hm ?_
    simp only [↓reduceIte, namesOf, List.any, I.names, aops, aopsI, aopsT, qstep, CPt, qget, Tbl.get, astep, ev, setd, List.set, List.getD, List.getElem?_cons_zero, List.getElem?_cons_succ, List.getElem?_nil, List.cons_append, List.nil_append, List.length_cons, List.length_nil, List.replicate, then_normal, inBlock_normal, Option.getD_some, Option.getD_none, Bool.or_false, Bool.or_true, Bool.true_or, Bool.false_or, Bool.false_eq_true, if_false, if_true, up_zero, Nat.reduceAdd, Nat.reduceSub, binv, ↓opt_def, AV.isAny, AV.cells, ldc, List.map_cons, List.map_nil, St.set_next, St.set_same, St.up_next, Int.natCast_nonneg, lt_len, le_len, Int.toNat_natCast, true_and, and_true, eq_self, reduceCtorEq, decide_true, List.length_singleton, er_int, er_bool, er_str]
    refine h1 _ _ ?_
    try clear h1 K_h1
    refine T.ret (Fin.ret rfl ⟨?_, rfl⟩)
    have : orI l = 0 := orI_zero hpre
    rw [this]; rfl

def g_cmpi : List AV → Option AV
  | [.int .i64 a, .int .i64 b] => some (.int .i64 (cmp3 a b))
  | _ => none

theorem cmpi_pure : PureC Try.prog n_cmpi g_cmpi := by
  intro args σ v h
  unfold g_cmpi at h
  split at h
  · simp only [Option.some.injEq] at h; subst h; exact cmpi_ok
  · cases h

def g_cmpu : List AV → Option AV
  | [.int .u64 a, .int .u64 b] => some (.int .i64 (cmp3 a b))
  | _ => none

theorem cmpu_pure : PureC Try.prog n_cmpu g_cmpu := by
  intro args σ v h
  unfold g_cmpu at h
  split at h
  · simp only [Option.some.injEq] at h; subst h; exact cmpu_ok
  · cases h

def g_or3 : List AV → Option AV
  | [.sl [.int .i64 a, .int .i64 b, .int .i64 c] _] => some (.int .i64 (orI [a, b, c]))
  | _ => none

theorem or3_pure : PureC Try.prog n_cor g_or3 := by
  intro args σ v h
  unfold g_or3 at h
  split at h
  · rename_i a b c g
    simp only [Option.some.injEq] at h; subst h
    exact cor_ok (l := [a, b, c]) (by simp)
  · cases h

def tC : Tbl := [(n_cmpi, g_cmpi), (n_cmpu, g_cmpu), (n_cor, g_or3)]

theorem tC_ok : tC.ok Try.prog := Tbl.ok_cons cmpi_pure (Tbl.ok_cons cmpu_pure (Tbl.ok_cons or3_pure Tbl.ok_nil))

/-- how two spans stand, by (Start, Id, Trace) -/
def cmpS (s i t s' i' t' : Int) : Int := orI [cmp3 s s', cmp3 i i', cmp3 t t']

theorem set2_quiet {σ : St} (wf : WF σ) {k : Nat} (r r' : Res) {a b : Nat} (ha : σ.next ≤ a) (hb : σ.next ≤ b) : ∀ n x, σ.res n = some x → (((σ.up k).set a r).set b r').res n = some x := by
  intro n x hr
  have hn : n < σ.next := by
    rcases Nat.lt_or_ge n σ.next with h | h
    · exact h
    · rw [wf n h] at hr; cases hr
  rw [St.set_other _ _ (by omega), St.set_other _ _ (by omega)]; exact hr

theorem set1_quiet {σ : St} (wf : WF σ) {k : Nat} (r : Res) {a : Nat} (ha : σ.next ≤ a) : ∀ n x, σ.res n = some x → ((σ.up k).set a r).res n = some x := by
  intro n x hr
  have hn : n < σ.next := by
    rcases Nat.lt_or_ge n σ.next with h | h
    · exact h
    · rw [wf n h] at hr; cases hr
  rw [St.set_other _ _ (by omega)]; exact hr

theorem scmp_ok {t i s t' i' s' : Int} {x y x' y' : AV} {σ : St} : ACalls Try.prog n_scmp [.agg [.int .u64 t, .int .u64 i, .int .i64 s, x, y], .agg [.int .u64 t', .int .u64 i', .int .i64 s', x', y']] σ
    (fun v σ' => v = .int .i64 (cmpS s i t s' i' t') ∧ σ' = σ) := by
  refine s_scmp (fun wf => ?_)
  unfold c_scmp
  refine T.seq_k (fun K_h1 h1 => ?_)
  refine T.regi hm ?_
  simp only [↓reduceIte, namesOf, List.any, I.names, aops, aopsI, aopsT, qstep, CPt, qget, Tbl.get, astep, ev, setd, List.set, List.getD, List.getElem?_cons_zero, List.getElem?_cons_succ, List.getElem?_nil, List.cons_append, List.nil_append, List.length_cons, List.length_nil, List.replicate, then_normal, inBlock_normal, Option.getD_some, Option.getD_none, Bool.or_false, Bool.or_true, Bool.true_or, Bool.false_or, Bool.false_eq_true, if_false, if_true, up_zero, Nat.reduceAdd, Nat.reduceSub, binv, ↓opt_def, AV.isAny, AV.cells, ldc, List.map_cons, List.map_nil, St.set_next, St.set_same, St.up_next, Int.natCast_nonneg, lt_len, le_len, Int.toNat_natCast, true_and, and_true, eq_self, reduceCtorEq, decide_true, List.length_singleton, er_int, er_bool, er_str]
  have h0 : (((σ.up 3).set (σ.next + 0) (.obj [.int .u64 t, .int .u64 i, .int .i64 s, x, y])).set (σ.next + 1) (.obj [.int .u64 t', .int .u64 i', .int .i64 s', x', y'])).res (σ.next + 0) = some (.obj [.int .u64 t, .int .u64 i, .int .i64 s, x, y]) := by
    rw [St.set_other _ _ (by omega)]; simp
  have h0' : (((σ.up 3).set (σ.next + 0) (.obj [.int .u64 t, .int .u64 i, .int .i64 s, x, y])).set (σ.next + 1) (.obj [.int .u64 t', .int .u64 i', .int .i64 s', x', y'])).res (σ.next + 1) = some (.obj [.int .u64 t', .int .u64 i', .int .i64 s', x', y']) := by simp
  have hq := set2_quiet wf (k := 3) (.obj [.int .u64 t, .int .u64 i, .int .i64 s, x, y]) (.obj [.int .u64 t', .int .u64 i', .int .i64 s', x', y']) (a := σ.next + 0) (b := σ.next + 1) (by omega) (by omega)
  generalize (((σ.up 3).set (σ.next + 0) (.obj [.int .u64 t, .int .u64 i, .int .i64 s, x, y])).set (σ.next + 1) (.obj [.int .u64 t', .int .u64 i', .int .i64 s', x', y'])) = σ1 at h0 h0' hq ⊢
  refine h1 _ _ ?_
  try clear h1 K_h1
  refine T.seq_k (fun K_h1 h1 => ?_)
  refine T.regt hm tC_ok ?_
  simp only [↓reduceIte, namesOf, List.any, I.names, aops, aopsI, aopsT, qstep, CPt, qget, Tbl.get, astep, ev, setd, List.set, List.getD, List.getElem?_cons_zero, List.getElem?_cons_succ, List.getElem?_nil, List.cons_append, List.nil_append, List.length_cons, List.length_nil, List.replicate, then_normal, inBlock_normal, Option.getD_some, Option.getD_none, Bool.or_false, Bool.or_true, Bool.true_or, Bool.false_or, Bool.false_eq_true, if_false, if_true, up_zero, Nat.reduceAdd, Nat.reduceSub, binv, ↓opt_def, AV.isAny, AV.cells, ldc, List.map_cons, List.map_nil, St.set_next, St.set_same, St.up_next, Int.natCast_nonneg, lt_len, le_len, Int.toNat_natCast, true_and, and_true, eq_self, reduceCtorEq, decide_true, List.length_singleton, er_int, er_bool, er_str, Nat.reduceEqDiff, tC, h0, h0', g_cmpi, g_cmpu, g_or3, Nat.zero_add, Nat.reduceEqDiff, List.all_cons, List.all_nil, AV.fits, AV.one, Bool.not_false, Bool.and_self, beq_self_eq_true, held]
  refine h1 _ _ ?_
  try clear h1 K_h1
  exact T.ret (Fin.quiet rfl trivial hq ⟨rfl, rfl⟩)

def mayI (s e n : Int) : Bool := decide (0 ≤ s ∧ s ≤ e ∧ e ≤ 1099511627776 ∧ n ≤ 64)

theorem may_ok {t i : AV} {s e : Int} {xs : List AV} {g : Ver} {σ : St} : ACalls Try.prog n_may [.agg [t, i, .int .i64 s, .int .i64 e, .sl xs g]] σ (fun v σ' => v = .bool (mayI s e xs.length) ∧ σ' = σ) := by
  refine s_may (fun wf => ?_)
  unfold c_may
  refine T.seq_k (fun K_h1 h1 => ?_)
  refine T.regi hm ?_
  simp only [↓reduceIte, namesOf, List.any, I.names, aops, aopsI, aopsT, qstep, CPt, qget, Tbl.get, astep, ev, setd, List.set, List.getD, List.getElem?_cons_zero, List.getElem?_cons_succ, List.getElem?_nil, List.cons_append, List.nil_append, List.length_cons, List.length_nil, List.replicate, then_normal, inBlock_normal, Option.getD_some, Option.getD_none, Bool.or_false, Bool.or_true, Bool.true_or, Bool.false_or, Bool.false_eq_true, if_false, if_true, up_zero, Nat.reduceAdd, Nat.reduceSub, binv, ↓opt_def, AV.isAny, AV.cells, ldc, List.map_cons, List.map_nil, St.set_next, St.set_same, St.up_next, Int.natCast_nonneg, lt_len, le_len, Int.toNat_natCast, true_and, and_true, eq_self, reduceCtorEq, decide_true, List.length_singleton, er_int, er_bool, er_str]
  have h0 : ((σ.up 2).set (σ.next + 0) (.obj [t, i, .int .i64 s, .int .i64 e, .sl xs g])).res (σ.next + 0) = some (.obj [t, i, .int .i64 s, .int .i64 e, .sl xs g]) := by simp
  have hq := set1_quiet wf (k := 2) (.obj [t, i, .int .i64 s, .int .i64 e, .sl xs g]) (a := σ.next + 0) (by omega)
  generalize ((σ.up 2).set (σ.next + 0) (.obj [t, i, .int .i64 s, .int .i64 e, .sl xs g])) = σ1 at h0 hq ⊢
  refine h1 _ _ ?_
  try clear h1 K_h1
  refine T.seq_k (fun K_h1 h1 => ?_)
  by_cases c1 : 0 ≤ s
  case neg =>
    have e1 : decide (s ≥ 0) = false := decide_eq_false (by omega)
    refine T.regi hm ?_
    simp only [↓reduceIte, namesOf, List.any, I.names, aops, aopsI, aopsT, qstep, CPt, qget, Tbl.get, astep, ev, setd, List.set, List.getD, List.getElem?_cons_zero, List.getElem?_cons_succ, List.getElem?_nil, List.cons_append, List.nil_append, List.length_cons, List.length_nil, List.replicate, then_normal, inBlock_normal, Option.getD_some, Option.getD_none, Bool.or_false, Bool.or_true, Bool.true_or, Bool.false_or, Bool.false_eq_true, if_false, if_true, up_zero, Nat.reduceAdd, Nat.reduceSub, binv, ↓opt_def, AV.isAny, AV.cells, ldc, List.map_cons, List.map_nil, St.set_next, St.set_same, St.up_next, Int.natCast_nonneg, lt_len, le_len, Int.toNat_natCast, true_and, and_true, eq_self, reduceCtorEq, decide_true, List.length_singleton, er_int, er_bool, er_str, h0, e1, reduceCtorEq]
    refine h1 _ _ ?_
    try clear h1 K_h1
    exact T.ret (Fin.quiet rfl trivial hq ⟨by simp [pack, mayI, c1], rfl⟩)
  have e1 : decide (s ≥ 0) = true := decide_eq_true c1
  by_cases c2 : s ≤ e
  case neg =>
    have e2 : decide (s ≤ e) = false := decide_eq_false c2
    refine T.regi hm ?_
    simp only [↓reduceIte, namesOf, List.any, I.names, aops, aopsI, aopsT, qstep, CPt, qget, Tbl.get, astep, ev, setd, List.set, List.getD, List.getElem?_cons_zero, List.getElem?_cons_succ, List.getElem?_nil, List.cons_append, List.nil_append, List.length_cons, List.length_nil, List.replicate, then_normal, inBlock_normal, Option.getD_some, Option.getD_none, Bool.or_false, Bool.or_true, Bool.true_or, Bool.false_or, Bool.false_eq_true, if_false, if_true, up_zero, Nat.reduceAdd, Nat.reduceSub, binv, ↓opt_def, AV.isAny, AV.cells, ldc, List.map_cons, List.map_nil, St.set_next, St.set_same, St.up_next, Int.natCast_nonneg, lt_len, le_len, Int.toNat_natCast, true_and, and_true, eq_self, reduceCtorEq, decide_true, List.length_singleton, er_int, er_bool, er_str, h0, e1, e2, reduceCtorEq]
    refine h1 _ _ ?_
    try clear h1 K_h1
    exact T.ret (Fin.quiet rfl trivial hq ⟨by simp [pack, mayI, c2], rfl⟩)
  have e2 : decide (s ≤ e) = true := decide_eq_true c2
  by_cases c3 : e ≤ 1099511627776
  case neg =>
    have e3 : decide (e ≤ 1099511627776) = false := decide_eq_false c3
    refine T.regi hm ?_
    simp only [↓reduceIte, namesOf, List.any, I.names, aops, aopsI, aopsT, qstep, CPt, qget, Tbl.get, astep, ev, setd, List.set, List.getD, List.getElem?_cons_zero, List.getElem?_cons_succ, List.getElem?_nil, List.cons_append, List.nil_append, List.length_cons, List.length_nil, List.replicate, then_normal, inBlock_normal, Option.getD_some, Option.getD_none, Bool.or_false, Bool.or_true, Bool.true_or, Bool.false_or, Bool.false_eq_true, if_false, if_true, up_zero, Nat.reduceAdd, Nat.reduceSub, binv, ↓opt_def, AV.isAny, AV.cells, ldc, List.map_cons, List.map_nil, St.set_next, St.set_same, St.up_next, Int.natCast_nonneg, lt_len, le_len, Int.toNat_natCast, true_and, and_true, eq_self, reduceCtorEq, decide_true, List.length_singleton, er_int, er_bool, er_str, h0, e1, e2, e3, reduceCtorEq]
    refine h1 _ _ ?_
    try clear h1 K_h1
    exact T.ret (Fin.quiet rfl trivial hq ⟨by simp [pack, mayI, c3], rfl⟩)
  have e3 : decide (e ≤ 1099511627776) = true := decide_eq_true c3
  refine T.regi hm ?_
  simp only [↓reduceIte, namesOf, List.any, I.names, aops, aopsI, aopsT, qstep, CPt, qget, Tbl.get, astep, ev, setd, List.set, List.getD, List.getElem?_cons_zero, List.getElem?_cons_succ, List.getElem?_nil, List.cons_append, List.nil_append, List.length_cons, List.length_nil, List.replicate, then_normal, inBlock_normal, Option.getD_some, Option.getD_none, Bool.or_false, Bool.or_true, Bool.true_or, Bool.false_or, Bool.false_eq_true, if_false, if_true, up_zero, Nat.reduceAdd, Nat.reduceSub, binv, ↓opt_def, AV.isAny, AV.cells, ldc, List.map_cons, List.map_nil, St.set_next, St.set_same, St.up_next, Int.natCast_nonneg, lt_len, le_len, Int.toNat_natCast, true_and, and_true, eq_self, reduceCtorEq, decide_true, List.length_singleton, er_int, er_bool, er_str, h0, e1, e2, e3, reduceCtorEq]
  refine h1 _ _ ?_
  try clear h1 K_h1
  exact T.ret (Fin.quiet rfl trivial hq ⟨by simp [pack, mayI, c1, c2, c3], rfl⟩)

def g_scmp : List AV → Option AV
  | [.agg [.int .u64 t, .int .u64 i, .int .i64 s, _, _], .agg [.int .u64 t', .int .u64 i', .int .i64 s', _, _]] => some (.int .i64 (cmpS s i t s' i' t'))
  | _ => none

theorem scmp_pure : PureC Try.prog n_scmp g_scmp := by
  intro args σ v h
  unfold g_scmp at h
  split at h
  · simp only [Option.some.injEq] at h; subst h; exact scmp_ok
  · cases h

def g_may : List AV → Option AV
  | [.agg [_, _, .int .i64 s, .int .i64 e, .sl xs _]] => some (.bool (mayI s e xs.length))
  | _ => none

theorem may_pure : PureC Try.prog n_may g_may := by
  intro args σ v h
  unfold g_may at h
  split at h
  · simp only [Option.some.injEq] at h; subst h; exact may_ok
  · cases h

def tS : Tbl := [(n_scmp, g_scmp), (n_may, g_may)]

theorem tS_ok : tS.ok Try.prog := Tbl.ok_cons scmp_pure (Tbl.ok_cons may_pure Tbl.ok_nil)

end Go.VL

namespace Go.VL

open Go.Proofs

theorem spav (s : Sp) : s.av = .agg [.int .u64 (s.tr : Int), .int .u64 (s.id : Int), .int .i64 s.st, .int .i64 s.en, .sl (bytesAV s.da) .none] := rfl

def mayS (s : Sp) : Bool := mayI s.st s.en s.da.length

def cmpSp (a b : Sp) : Int := cmpS a.st a.id a.tr b.st b.id b.tr

def okAt (t : Tc) (i : Nat) : Bool := match t.sp[i]? with
  | some s => decide (s.tr = t.id) && mayS s && !((t.sp.take i).map Sp.id).contains s.id && (i == 0 || (match t.sp[i - 1]? with | some p => decide (cmpSp p s < 0) | none => false))
  | none => false

def oneB (t : Tc) : Bool := (List.range t.sp.length).all (okAt t) && decide (1 ≤ t.sp.length) && decide (t.sp.length ≤ 100)

def metAV (l : List Nat) : List (AV × AV) := l.map fun n : Nat => (.int .u64 (n : Int), .bool true)

theorem met_find (l : List Nat) (n : Nat) : mfind (.int .u64 (n : Int)) (metAV l) = some (if l.contains n then some (.bool true) else none) := by
  induction l with
  | nil => rfl
  | cons a r ih =>
    unfold metAV at ih ⊢
    by_cases h : n = a
    · subst h
      simp [mfind, keq]
    · have h1 : ((n : Int) == (a : Int)) = false := by simp; omega
      have h2 : (n == a) = false := by simpa using h
      have h3 : (a == n) = false := by simpa using fun e => h e.symm
      simp only [List.map_cons, mfind, keq, if_true, h1, ih, List.contains_cons, h2, Bool.false_or]

theorem met_put (l : List Nat) (n : Nat) (h : l.contains n = false) : mput (.int .u64 (n : Int)) (.bool true) (metAV l) = metAV (l ++ [n]) := by
  induction l with
  | nil => rfl
  | cons a r ih =>
    unfold metAV at ih ⊢
    simp only [List.contains_cons, Bool.or_eq_false_iff] at h
    have h1 : ((n : Int) == (a : Int)) = false := by have := h.1; simp at this ⊢; omega
    simp only [List.map_cons, mput, keq, if_true, h1, ih h.2, List.cons_append]

structure OneSt (σ σ' : St) (a m : Nat) (t : Tc) (l : List Nat) : Prop where
  a0 : σ.next ≤ a
  m0 : σ.next ≤ m
  a1 : a < σ'.next
  m1 : m < σ'.next
  obj : σ'.res a = some (.obj t.av.cells)
  map : σ'.res m = some (.map (metAV l) (List.range l.length) l.length)
  old : ∀ n r, σ.res n = some r → σ'.res n = some r

theorem OneSt.other {σ σ' : St} {a m : Nat} {t : Tc} {l : List Nat} (wf : WF σ) (h : OneSt σ σ' a m t l) {k b : Nat} (r : Res) (hb : σ'.next ≤ b) : OneSt σ ((σ'.up k).set b r) a m t l where
  a0 := h.a0
  m0 := h.m0
  a1 := Nat.lt_of_lt_of_le h.a1 (Nat.le_add_right _ _)
  m1 := Nat.lt_of_lt_of_le h.m1 (Nat.le_add_right _ _)
  obj := by rw [St.set_other _ _ (by have := h.a1; omega)]; exact h.obj
  map := by rw [St.set_other _ _ (by have := h.m1; omega)]; exact h.map
  old := fun n r' hr => by
    have hn : n < σ.next := by
      rcases Nat.lt_or_ge n σ.next with h' | h'
      · exact h'
      · rw [wf n h'] at hr; cases hr
    rw [St.set_other _ _ (by have := h.a0; have := h.a1; omega)]; exact h.old n r' hr

theorem OneSt.put {σ σ' : St} {a m : Nat} {t : Tc} {l : List Nat} {n : Nat} (wf : WF σ) (ham : a ≠ m) (h : OneSt σ σ' a m t l) (hn : l.contains n = false) : OneSt σ (σ'.set m (.map (mput (.int .u64 (n : Int)) (.bool true) (metAV l)) (List.range l.length ++ [l.length]) (l.length + 1))) a m t (l ++ [n]) where
  a0 := h.a0
  m0 := h.m0
  a1 := h.a1
  m1 := h.m1
  obj := by rw [St.set_other _ _ ham]; exact h.obj
  map := by rw [St.set_same, met_put l n hn, List.length_append, List.length_singleton, List.range_succ]
  old := fun n r' hr => by
    have hn : n < σ.next := by
      rcases Nat.lt_or_ge n σ.next with h' | h'
      · exact h'
      · rw [wf n h'] at hr; cases hr
    rw [St.set_other _ _ (by have := h.m0; omega)]; exact h.old n r' hr

theorem one_false {t : Tc} {i : Nat} (hi : i < t.sp.length) (h : okAt t i = false) : oneB t = false := by
  unfold oneB
  have : (List.range t.sp.length).all (okAt t) = false := by
    rw [Bool.eq_false_iff]
    intro hh
    have := List.all_eq_true.1 hh i (by simpa using hi)
    rw [h] at this; cases this
  rw [this]; rfl

set_option maxRecDepth 10000 in
set_option maxHeartbeats 4000000 in
theorem tone_ok {t : Tc} {σ : St} (hl : t.sp.length ≤ 9223372036854775807) : ACalls Try.prog n_one [.agg [.int .u64 (t.id : Int), .sl (spsAV t.sp) .none]] σ (fun v σ' => v = .bool (oneB t) ∧ σ' = σ) := by
  refine s_one (fun wf => ?_)
  unfold c_one
  refine T.seq_k (fun K_h1 h1 => ?_)
  refine T.regi hm ?_
  simp only [↓reduceIte, namesOf, List.any, I.names, aops, aopsI, aopsT, qstep, CPt, qget, Tbl.get, astep, ev, setd, List.set, List.getD, List.getElem?_cons_zero, List.getElem?_cons_succ, List.getElem?_nil, List.cons_append, List.nil_append, List.length_cons, List.length_nil, List.replicate, then_normal, inBlock_normal, Option.getD_some, Option.getD_none, Bool.or_false, Bool.or_true, Bool.true_or, Bool.false_or, Bool.false_eq_true, if_false, if_true, up_zero, Nat.reduceAdd, Nat.reduceSub, binv, ↓opt_def, AV.isAny, AV.cells, ldc, List.map_cons, List.map_nil, St.set_next, St.set_same, St.up_next, Int.natCast_nonneg, lt_len, le_len, Int.toNat_natCast, true_and, and_true, eq_self, reduceCtorEq, decide_true, List.length_singleton, er_int, er_bool, er_str]
  refine h1 _ _ ?_
  try clear h1 K_h1
  refine T.seq_k (fun K_h1 h1 => ?_)
  refine T.regi hm ?_
  simp only [↓reduceIte, namesOf, List.any, I.names, aops, aopsI, aopsT, qstep, CPt, qget, Tbl.get, astep, ev, setd, List.set, List.getD, List.getElem?_cons_zero, List.getElem?_cons_succ, List.getElem?_nil, List.cons_append, List.nil_append, List.length_cons, List.length_nil, List.replicate, then_normal, inBlock_normal, Option.getD_some, Option.getD_none, Bool.or_false, Bool.or_true, Bool.true_or, Bool.false_or, Bool.false_eq_true, if_false, if_true, up_zero, Nat.reduceAdd, Nat.reduceSub, binv, ↓opt_def, AV.isAny, AV.cells, ldc, List.map_cons, List.map_nil, St.set_next, St.set_same, St.up_next, Int.natCast_nonneg, lt_len, le_len, Int.toNat_natCast, true_and, and_true, eq_self, reduceCtorEq, decide_true, List.length_singleton, er_int, er_bool, er_str]
  have o0 : OneSt σ ((((σ.up 2).set (σ.next + 0) (.obj [.int .u64 (t.id : Int), .sl (spsAV t.sp) .none])).up 2).set (σ.next + 2 + 0) (.map [] [] 0)) (σ.next + 0) (σ.next + 2 + 0) t [] := by
    refine ⟨by omega, by omega, by simp; omega, by simp, ?_, by simp [metAV], fun n r hr => ?_⟩
    · rw [St.set_other _ _ (by omega)]; simp [tccells]
    · have hn : n < σ.next := by
        rcases Nat.lt_or_ge n σ.next with h' | h'
        · exact h'
        · rw [wf n h'] at hr; cases hr
      rw [St.set_other _ _ (by omega), St.up_res, St.set_other _ _ (by omega)]; exact hr
  have ham : σ.next + 0 ≠ σ.next + 2 + 0 := by omega
  generalize ((((σ.up 2).set (σ.next + 0) (.obj [.int .u64 (t.id : Int), .sl (spsAV t.sp) .none])).up 2).set (σ.next + 2 + 0) (.map [] [] 0)) = σ1 at o0 ⊢
  generalize σ.next + 0 = a at o0 ham ⊢
  generalize σ.next + 2 + 0 = m at o0 ham ⊢
  refine h1 _ _ ?_
  try clear h1 K_h1
  refine T.seq_k (fun K_h1 h1 => ?_)
  refine T.seq_k (fun K_h2 h2 => ?_)
  have ha := o0.obj
  rw [tccells] at ha
  refine T.regi hm ?_
  simp only [↓reduceIte, namesOf, List.any, I.names, aops, aopsI, aopsT, qstep, CPt, qget, Tbl.get, astep, ev, setd, List.set, List.getD, List.getElem?_cons_zero, List.getElem?_cons_succ, List.getElem?_nil, List.cons_append, List.nil_append, List.length_cons, List.length_nil, List.replicate, then_normal, inBlock_normal, Option.getD_some, Option.getD_none, Bool.or_false, Bool.or_true, Bool.true_or, Bool.false_or, Bool.false_eq_true, if_false, if_true, up_zero, Nat.reduceAdd, Nat.reduceSub, binv, ↓opt_def, AV.isAny, AV.cells, ldc, List.map_cons, List.map_nil, St.set_next, St.set_same, St.up_next, Int.natCast_nonneg, lt_len, le_len, Int.toNat_natCast, true_and, and_true, eq_self, reduceCtorEq, decide_true, List.length_singleton, er_int, er_bool, er_str, ha, sps_len]
  refine h2 _ _ ?_
  try clear h2 K_h2
  clear ha
  refine T.block ?_
  refine T.gh (Gh.keep [1, 3, 8, 9, 10]) ?_
  refine T.loopi (fun i ρ σ' => OneSt σ σ' a m t ((t.sp.take i).map Sp.id) ∧ (List.range i).all (okAt t) = true ∧ ρ = [.any, .ptr a 0, .any, .map m, .any, .any, .any, .any, .sl (spsAV t.sp) .none, .int .i64 (t.sp.length : Int), .int .i64 (i : Int)] ++ List.replicate 49 .any)
    t.sp.length 0 (Nat.zero_le _) ⟨o0, rfl, rfl⟩ ?_
  clear o0 σ1
  rintro i ρ σ' hi ⟨o1, hpre, rfl⟩
  refine T.seq_k (fun K_h2 h2 => ?_)
  refine T.regi hm ?_
  simp only [↓reduceIte, namesOf, List.any, I.names, aops, aopsI, aopsT, qstep, CPt, qget, Tbl.get, astep, ev, setd, List.set, List.getD, List.getElem?_cons_zero, List.getElem?_cons_succ, List.getElem?_nil, List.cons_append, List.nil_append, List.length_cons, List.length_nil, List.replicate, then_normal, inBlock_normal, Option.getD_some, Option.getD_none, Bool.or_false, Bool.or_true, Bool.true_or, Bool.false_or, Bool.false_eq_true, if_false, if_true, up_zero, Nat.reduceAdd, Nat.reduceSub, binv, ↓opt_def, AV.isAny, AV.cells, ldc, List.map_cons, List.map_nil, St.set_next, St.set_same, St.up_next, Int.natCast_nonneg, lt_len, le_len, Int.toNat_natCast, true_and, and_true, eq_self, reduceCtorEq, decide_true, List.length_singleton, er_int, er_bool, er_str]
  refine h2 _ _ ?_
  try clear h2 K_h2
  refine T.seq_k (fun K_h2 h2 => ?_)
  refine T.cond rfl (fun hb => ?_) (fun hb => ?_)
  · refine T.skip ?_
    refine h2 _ _ ?_
    try clear h2 K_h2
    have hil : i < t.sp.length := by simpa using hb
    clear hb
    generalize hs : t.sp[i] = s
    have hsi : t.sp[i]? = some s := by rw [← hs]; simp [hil]
    refine T.seq_k (fun K_h2 h2 => ?_)
    refine T.block ?_
    refine T.seq_k (fun K_h3 h3 => ?_)
    refine T.regi hm ?_
    simp only [↓reduceIte, namesOf, List.any, I.names, aops, aopsI, aopsT, qstep, CPt, qget, Tbl.get, astep, ev, setd, List.set, List.getD, List.getElem?_cons_zero, List.getElem?_cons_succ, List.getElem?_nil, List.cons_append, List.nil_append, List.length_cons, List.length_nil, List.replicate, then_normal, inBlock_normal, Option.getD_some, Option.getD_none, Bool.or_false, Bool.or_true, Bool.true_or, Bool.false_or, Bool.false_eq_true, if_false, if_true, up_zero, Nat.reduceAdd, Nat.reduceSub, binv, ↓opt_def, AV.isAny, AV.cells, ldc, List.map_cons, List.map_nil, St.set_next, St.set_same, St.up_next, Int.natCast_nonneg, lt_len, le_len, Int.toNat_natCast, true_and, and_true, eq_self, reduceCtorEq, decide_true, List.length_singleton, er_int, er_bool, er_str, sps_len, sps_get hil, hil, hs, spav, AV.fits, AV.one, List.all_cons, List.all_nil, Nat.reduceBEq, Bool.and_true, Bool.not_false, Bool.and_self, Nat.zero_add, splice, List.take, List.drop, Nat.reduceLeDiff, St.set_set]
    have o2 := o1.other wf (k := 6) (.obj [.int .u64 (s.tr : Int), .int .u64 (s.id : Int), .int .i64 s.st, .int .i64 s.en, .sl (bytesAV s.da) .none]) (b := σ'.next + 3) (by omega)
    have hb5 : ((σ'.up 6).set (σ'.next + 3) (.obj [.int .u64 (s.tr : Int), .int .u64 (s.id : Int), .int .i64 s.st, .int .i64 s.en, .sl (bytesAV s.da) .none])).res (σ'.next + 3) = some (.obj [.int .u64 (s.tr : Int), .int .u64 (s.id : Int), .int .i64 s.st, .int .i64 s.en, .sl (bytesAV s.da) .none]) := by simp
    have hbn : σ'.next + 3 < ((σ'.up 6).set (σ'.next + 3) (.obj [.int .u64 (s.tr : Int), .int .u64 (s.id : Int), .int .i64 s.st, .int .i64 s.en, .sl (bytesAV s.da) .none])).next := by simp
    have hbm : σ'.next + 3 ≠ m := by have := o1.m1; omega
    clear o1
    generalize ((σ'.up 6).set (σ'.next + 3) (.obj [.int .u64 (s.tr : Int), .int .u64 (s.id : Int), .int .i64 s.st, .int .i64 s.en, .sl (bytesAV s.da) .none])) = σ2 at o2 hb5 hbn ⊢
    generalize σ'.next + 3 = b at hb5 hbn hbm ⊢
    refine h3 _ _ ?_
    try clear h3 K_h3
    have ha := o2.obj
    rw [tccells] at ha
    have hm2 := o2.map
    refine T.seq_k (fun K_h3 h3 => ?_)
    refine T.seq_k (fun K_h4 h4 => ?_)
    -- the four parts
    have fin : okAt t i = false → ∀ ρ' : List AV, ρ'.getD 2 .any = .bool false → Fin σ [.t 2] (fun v σ' => v = .bool (oneB t) ∧ σ' = σ) .ret ρ' σ2 := by
      intro hf ρ' hρ
      refine Fin.quiet (xs := [ρ'.getD 2 .any]) rfl (by rw [hρ]; trivial) o2.old ⟨?_, rfl⟩
      rw [one_false hil hf, hρ]; rfl
    by_cases c1 : s.tr = t.id
    case neg =>
      have e1 : ((s.tr : Int) != (t.id : Int)) = true := by simp; omega
      refine T.regt hm tS_ok ?_
      simp only [↓reduceIte, namesOf, List.any, I.names, aops, aopsI, aopsT, qstep, CPt, qget, Tbl.get, astep, ev, setd, List.set, List.getD, List.getElem?_cons_zero, List.getElem?_cons_succ, List.getElem?_nil, List.cons_append, List.nil_append, List.length_cons, List.length_nil, List.replicate, then_normal, inBlock_normal, Option.getD_some, Option.getD_none, Bool.or_false, Bool.or_true, Bool.true_or, Bool.false_or, Bool.false_eq_true, if_false, if_true, up_zero, Nat.reduceAdd, Nat.reduceSub, binv, ↓opt_def, AV.isAny, AV.cells, ldc, List.map_cons, List.map_nil, St.set_next, St.set_same, St.up_next, Int.natCast_nonneg, lt_len, le_len, Int.toNat_natCast, true_and, and_true, eq_self, reduceCtorEq, decide_true, List.length_singleton, er_int, er_bool, er_str, Nat.reduceEqDiff, tS, n_scmp, n_may, hb5, ha, e1, reduceCtorEq]
      refine h4 _ _ ?_
      try clear h4 K_h4
      refine T.cond rfl (fun _ => ?_) (fun h => by cases h)
      refine T.seq_k (fun K_h4 h4 => ?_)
      refine T.regi hm ?_
      simp only [↓reduceIte, namesOf, List.any, I.names, aops, aopsI, aopsT, qstep, CPt, qget, Tbl.get, astep, ev, setd, List.set, List.getD, List.getElem?_cons_zero, List.getElem?_cons_succ, List.getElem?_nil, List.cons_append, List.nil_append, List.length_cons, List.length_nil, List.replicate, then_normal, inBlock_normal, Option.getD_some, Option.getD_none, Bool.or_false, Bool.or_true, Bool.true_or, Bool.false_or, Bool.false_eq_true, if_false, if_true, up_zero, Nat.reduceAdd, Nat.reduceSub, binv, ↓opt_def, AV.isAny, AV.cells, ldc, List.map_cons, List.map_nil, St.set_next, St.set_same, St.up_next, Int.natCast_nonneg, lt_len, le_len, Int.toNat_natCast, true_and, and_true, eq_self, reduceCtorEq, decide_true, List.length_singleton, er_int, er_bool, er_str]
      refine h4 _ _ ?_
      try clear h4 K_h4
      exact T.ret (fin (by unfold okAt; simp [hsi, c1]) _ rfl)
    have e1 : ((s.tr : Int) != (t.id : Int)) = false := by simp; omega
    cases c2 : mayS s with
    | false =>
      have e2 : mayI s.st s.en (bytesAV s.da).length = false := by rw [bytesAV_len]; exact c2
      refine T.regt hm tS_ok ?_
      simp only [↓reduceIte, namesOf, List.any, I.names, aops, aopsI, aopsT, qstep, CPt, qget, Tbl.get, astep, ev, setd, List.set, List.getD, List.getElem?_cons_zero, List.getElem?_cons_succ, List.getElem?_nil, List.cons_append, List.nil_append, List.length_cons, List.length_nil, List.replicate, then_normal, inBlock_normal, Option.getD_some, Option.getD_none, Bool.or_false, Bool.or_true, Bool.true_or, Bool.false_or, Bool.false_eq_true, if_false, if_true, up_zero, Nat.reduceAdd, Nat.reduceSub, binv, ↓opt_def, AV.isAny, AV.cells, ldc, List.map_cons, List.map_nil, St.set_next, St.set_same, St.up_next, Int.natCast_nonneg, lt_len, le_len, Int.toNat_natCast, true_and, and_true, eq_self, reduceCtorEq, decide_true, List.length_singleton, er_int, er_bool, er_str, Nat.reduceEqDiff, tS, n_scmp, n_may, hb5, ha, e1, g_may, e2, AV.fits, AV.one, List.all_cons, List.all_nil, Nat.reduceBEq, Bool.and_true, Bool.not_false, Bool.and_self, Nat.zero_add, splice, List.take, List.drop, Nat.reduceLeDiff, Bool.not_false, reduceCtorEq]
      refine h4 _ _ ?_
      try clear h4 K_h4
      refine T.cond rfl (fun _ => ?_) (fun h => by cases h)
      refine T.seq_k (fun K_h4 h4 => ?_)
      refine T.regi hm ?_
      simp only [↓reduceIte, namesOf, List.any, I.names, aops, aopsI, aopsT, qstep, CPt, qget, Tbl.get, astep, ev, setd, List.set, List.getD, List.getElem?_cons_zero, List.getElem?_cons_succ, List.getElem?_nil, List.cons_append, List.nil_append, List.length_cons, List.length_nil, List.replicate, then_normal, inBlock_normal, Option.getD_some, Option.getD_none, Bool.or_false, Bool.or_true, Bool.true_or, Bool.false_or, Bool.false_eq_true, if_false, if_true, up_zero, Nat.reduceAdd, Nat.reduceSub, binv, ↓opt_def, AV.isAny, AV.cells, ldc, List.map_cons, List.map_nil, St.set_next, St.set_same, St.up_next, Int.natCast_nonneg, lt_len, le_len, Int.toNat_natCast, true_and, and_true, eq_self, reduceCtorEq, decide_true, List.length_singleton, er_int, er_bool, er_str]
      refine h4 _ _ ?_
      try clear h4 K_h4
      exact T.ret (fin (by unfold okAt; simp [hsi, c2]) _ rfl)
    | true =>
    have e2 : mayI s.st s.en (bytesAV s.da).length = true := by rw [bytesAV_len]; exact c2
    cases c3 : ((t.sp.take i).map Sp.id).contains s.id with
    | true =>
      have e3 : mfind (.int .u64 (s.id : Int)) (metAV ((t.sp.take i).map Sp.id)) = some (some (.bool true)) := by rw [met_find, c3]; rfl
      refine T.regt hm tS_ok ?_
      simp only [↓reduceIte, namesOf, List.any, I.names, aops, aopsI, aopsT, qstep, CPt, qget, Tbl.get, astep, ev, setd, List.set, List.getD, List.getElem?_cons_zero, List.getElem?_cons_succ, List.getElem?_nil, List.cons_append, List.nil_append, List.length_cons, List.length_nil, List.replicate, then_normal, inBlock_normal, Option.getD_some, Option.getD_none, Bool.or_false, Bool.or_true, Bool.true_or, Bool.false_or, Bool.false_eq_true, if_false, if_true, up_zero, Nat.reduceAdd, Nat.reduceSub, binv, ↓opt_def, AV.isAny, AV.cells, ldc, List.map_cons, List.map_nil, St.set_next, St.set_same, St.up_next, Int.natCast_nonneg, lt_len, le_len, Int.toNat_natCast, true_and, and_true, eq_self, reduceCtorEq, decide_true, List.length_singleton, er_int, er_bool, er_str, Nat.reduceEqDiff, tS, n_scmp, n_may, hb5, ha, e1, g_may, e2, hm2, e3, kshape, AV.fits, AV.one, List.all_cons, List.all_nil, Nat.reduceBEq, Bool.and_true, Bool.not_false, Bool.and_self, Nat.zero_add, splice, List.take, List.drop, Nat.reduceLeDiff, Bool.not_true, reduceCtorEq]
      refine h4 _ _ ?_
      try clear h4 K_h4
      refine T.cond rfl (fun _ => ?_) (fun h => by cases h)
      refine T.seq_k (fun K_h4 h4 => ?_)
      refine T.regi hm ?_
      simp only [↓reduceIte, namesOf, List.any, I.names, aops, aopsI, aopsT, qstep, CPt, qget, Tbl.get, astep, ev, setd, List.set, List.getD, List.getElem?_cons_zero, List.getElem?_cons_succ, List.getElem?_nil, List.cons_append, List.nil_append, List.length_cons, List.length_nil, List.replicate, then_normal, inBlock_normal, Option.getD_some, Option.getD_none, Bool.or_false, Bool.or_true, Bool.true_or, Bool.false_or, Bool.false_eq_true, if_false, if_true, up_zero, Nat.reduceAdd, Nat.reduceSub, binv, ↓opt_def, AV.isAny, AV.cells, ldc, List.map_cons, List.map_nil, St.set_next, St.set_same, St.up_next, Int.natCast_nonneg, lt_len, le_len, Int.toNat_natCast, true_and, and_true, eq_self, reduceCtorEq, decide_true, List.length_singleton, er_int, er_bool, er_str]
      refine h4 _ _ ?_
      try clear h4 K_h4
      exact T.ret (fin (by unfold okAt; simp only [hsi, c3, Bool.not_true, Bool.and_false, Bool.false_and]) _ rfl)
    | false =>
    have e3 : mfind (.int .u64 (s.id : Int)) (metAV ((t.sp.take i).map Sp.id)) = some none := by rw [met_find, c3]; rfl
    -- what comes behind a good one
    have cont : okAt t i = true → OneSt σ (σ2.set m (.map (mput (.int .u64 (s.id : Int)) (.bool true) (metAV ((t.sp.take i).map Sp.id))) (List.range ((t.sp.take i).map Sp.id).length ++ [((t.sp.take i).map Sp.id).length]) (((t.sp.take i).map Sp.id).length + 1))) a m t ((t.sp.take (i + 1)).map Sp.id) ∧ (List.range (i + 1)).all (okAt t) = true := by
      intro hk
      refine ⟨?_, ?_⟩
      · rw [List.take_succ_eq_append_getElem hil, List.map_append, hs]
        exact o2.put wf ham c3
      · rw [List.range_succ, List.all_append, hpre]; simp [hk]
    have hw := inc64 hil hl
    cases i with
    | zero =>
      have hok : okAt t 0 = true := by unfold okAt; rw [hsi]; simp [c1, c2]
      have hz : decide (((0 : Nat) : Int) > 0) = false := rfl
      refine T.regt hm tS_ok ?_
      simp only [↓reduceIte, namesOf, List.any, I.names, aops, aopsI, aopsT, qstep, CPt, qget, Tbl.get, astep, ev, setd, List.set, List.getD, List.getElem?_cons_zero, List.getElem?_cons_succ, List.getElem?_nil, List.cons_append, List.nil_append, List.length_cons, List.length_nil, List.replicate, then_normal, inBlock_normal, Option.getD_some, Option.getD_none, Bool.or_false, Bool.or_true, Bool.true_or, Bool.false_or, Bool.false_eq_true, if_false, if_true, up_zero, Nat.reduceAdd, Nat.reduceSub, binv, ↓opt_def, AV.isAny, AV.cells, ldc, List.map_cons, List.map_nil, St.set_next, St.set_same, St.up_next, Int.natCast_nonneg, lt_len, le_len, Int.toNat_natCast, true_and, and_true, eq_self, reduceCtorEq, decide_true, List.length_singleton, er_int, er_bool, er_str, Nat.reduceEqDiff, tS, n_scmp, n_may, hb5, ha, e1, g_may, e2, hm2, e3, kshape, AV.fits, AV.one, List.all_cons, List.all_nil, Nat.reduceBEq, Bool.and_true, Bool.not_false, Bool.and_self, Nat.zero_add, splice, List.take, List.drop, Nat.reduceLeDiff, Bool.not_true, reduceCtorEq, hz]
      refine h4 _ _ ?_
      try clear h4 K_h4
      refine T.cond rfl (fun h => by cases h) (fun _ => ?_)
      refine T.skip ?_
      refine h3 _ _ ?_
      try clear h3 K_h3
      refine T.regi hm ?_
      simp only [↓reduceIte, namesOf, List.any, I.names, aops, aopsI, aopsT, qstep, CPt, qget, Tbl.get, astep, ev, setd, List.set, List.getD, List.getElem?_cons_zero, List.getElem?_cons_succ, List.getElem?_nil, List.cons_append, List.nil_append, List.length_cons, List.length_nil, List.replicate, then_normal, inBlock_normal, Option.getD_some, Option.getD_none, Bool.or_false, Bool.or_true, Bool.true_or, Bool.false_or, Bool.false_eq_true, if_false, if_true, up_zero, Nat.reduceAdd, Nat.reduceSub, binv, ↓opt_def, AV.isAny, AV.cells, ldc, List.map_cons, List.map_nil, St.set_next, St.set_same, St.up_next, Int.natCast_nonneg, lt_len, le_len, Int.toNat_natCast, true_and, and_true, eq_self, reduceCtorEq, decide_true, List.length_singleton, er_int, er_bool, er_str, hb5, hm2, e3, kshape]
      refine h2 _ _ ?_
      try clear h2 K_h2
      obtain ⟨k1, k2⟩ := cont hok
      refine T.regi hm ?_
      simp only [↓reduceIte, namesOf, List.any, I.names, aops, aopsI, aopsT, qstep, CPt, qget, Tbl.get, astep, ev, setd, List.set, List.getD, List.getElem?_cons_zero, List.getElem?_cons_succ, List.getElem?_nil, List.cons_append, List.nil_append, List.length_cons, List.length_nil, List.replicate, then_normal, inBlock_normal, Option.getD_some, Option.getD_none, Bool.or_false, Bool.or_true, Bool.true_or, Bool.false_or, Bool.false_eq_true, if_false, if_true, up_zero, Nat.reduceAdd, Nat.reduceSub, binv, ↓opt_def, AV.isAny, AV.cells, ldc, List.map_cons, List.map_nil, St.set_next, St.set_same, St.up_next, Int.natCast_nonneg, lt_len, le_len, Int.toNat_natCast, true_and, and_true, eq_self, reduceCtorEq, decide_true, List.length_singleton, er_int, er_bool, er_str, hw]
      exact ⟨hil, _, _, Gh.keep [1, 3, 8, 9, 10], k1, k2, rfl⟩
    | succ j =>
      have hjl : j < t.sp.length := by omega
      generalize hp : t.sp[j] = p
      have hpj : t.sp[j]? = some p := by rw [← hp]; simp [hjl]
      have hz : decide (((j + 1 : Nat) : Int) > 0) = true := decide_eq_true (by omega)
      have hd : IntKind.i64.wrap (((j + 1 : Nat) : Int) - 1) = (j : Int) := by rw [wrap64 (by omega) (by omega)]; omega
      by_cases c4 : cmpSp p s < 0
      · have hok : okAt t (j + 1) = true := by unfold okAt; rw [hsi]; simp [c1, c2, hpj, c4]; simpa using c3
        have e4 : decide (cmpS p.st p.id p.tr s.st s.id s.tr ≥ 0) = false := decide_eq_false (by have : cmpS p.st p.id p.tr s.st s.id s.tr < 0 := c4; omega)
        refine T.regt hm tS_ok ?_
        simp only [↓reduceIte, namesOf, List.any, I.names, aops, aopsI, aopsT, qstep, CPt, qget, Tbl.get, astep, ev, setd, List.set, List.getD, List.getElem?_cons_zero, List.getElem?_cons_succ, List.getElem?_nil, List.cons_append, List.nil_append, List.length_cons, List.length_nil, List.replicate, then_normal, inBlock_normal, Option.getD_some, Option.getD_none, Bool.or_false, Bool.or_true, Bool.true_or, Bool.false_or, Bool.false_eq_true, if_false, if_true, up_zero, Nat.reduceAdd, Nat.reduceSub, binv, ↓opt_def, AV.isAny, AV.cells, ldc, List.map_cons, List.map_nil, St.set_next, St.set_same, St.up_next, Int.natCast_nonneg, lt_len, le_len, Int.toNat_natCast, true_and, and_true, eq_self, reduceCtorEq, decide_true, List.length_singleton, er_int, er_bool, er_str, Nat.reduceEqDiff, tS, n_scmp, n_may, hb5, ha, e1, g_may, g_scmp, e2, hm2, e3, kshape, AV.fits, AV.one, List.all_cons, List.all_nil, Nat.reduceBEq, Bool.and_true, Bool.not_false, Bool.and_self, Nat.zero_add, splice, List.take, List.drop, Nat.reduceLeDiff, Bool.not_true, reduceCtorEq, hz, hd, sps_len, sps_get hjl, hjl, hp, spav, e4]
        refine h4 _ _ ?_
        try clear h4 K_h4
        refine T.cond rfl (fun h => by cases h) (fun _ => ?_)
        refine T.skip ?_
        refine h3 _ _ ?_
        try clear h3 K_h3
        refine T.regi hm ?_
        simp only [↓reduceIte, namesOf, List.any, I.names, aops, aopsI, aopsT, qstep, CPt, qget, Tbl.get, astep, ev, setd, List.set, List.getD, List.getElem?_cons_zero, List.getElem?_cons_succ, List.getElem?_nil, List.cons_append, List.nil_append, List.length_cons, List.length_nil, List.replicate, then_normal, inBlock_normal, Option.getD_some, Option.getD_none, Bool.or_false, Bool.or_true, Bool.true_or, Bool.false_or, Bool.false_eq_true, if_false, if_true, up_zero, Nat.reduceAdd, Nat.reduceSub, binv, ↓opt_def, AV.isAny, AV.cells, ldc, List.map_cons, List.map_nil, St.set_next, St.set_same, St.up_next, Int.natCast_nonneg, lt_len, le_len, Int.toNat_natCast, true_and, and_true, eq_self, reduceCtorEq, decide_true, List.length_singleton, er_int, er_bool, er_str, hb5, hm2, e3, kshape]
        refine h2 _ _ ?_
        try clear h2 K_h2
        obtain ⟨k1, k2⟩ := cont hok
        refine T.regi hm ?_
        simp only [↓reduceIte, namesOf, List.any, I.names, aops, aopsI, aopsT, qstep, CPt, qget, Tbl.get, astep, ev, setd, List.set, List.getD, List.getElem?_cons_zero, List.getElem?_cons_succ, List.getElem?_nil, List.cons_append, List.nil_append, List.length_cons, List.length_nil, List.replicate, then_normal, inBlock_normal, Option.getD_some, Option.getD_none, Bool.or_false, Bool.or_true, Bool.true_or, Bool.false_or, Bool.false_eq_true, if_false, if_true, up_zero, Nat.reduceAdd, Nat.reduceSub, binv, ↓opt_def, AV.isAny, AV.cells, ldc, List.map_cons, List.map_nil, St.set_next, St.set_same, St.up_next, Int.natCast_nonneg, lt_len, le_len, Int.toNat_natCast, true_and, and_true, eq_self, reduceCtorEq, decide_true, List.length_singleton, er_int, er_bool, er_str, hw]
        exact ⟨hil, _, _, Gh.keep [1, 3, 8, 9, 10], k1, k2, rfl⟩
      · have e4 : decide (cmpS p.st p.id p.tr s.st s.id s.tr ≥ 0) = true := decide_eq_true (by have : ¬ cmpS p.st p.id p.tr s.st s.id s.tr < 0 := c4; omega)
        refine T.regt hm tS_ok ?_
        simp only [↓reduceIte, namesOf, List.any, I.names, aops, aopsI, aopsT, qstep, CPt, qget, Tbl.get, astep, ev, setd, List.set, List.getD, List.getElem?_cons_zero, List.getElem?_cons_succ, List.getElem?_nil, List.cons_append, List.nil_append, List.length_cons, List.length_nil, List.replicate, then_normal, inBlock_normal, Option.getD_some, Option.getD_none, Bool.or_false, Bool.or_true, Bool.true_or, Bool.false_or, Bool.false_eq_true, if_false, if_true, up_zero, Nat.reduceAdd, Nat.reduceSub, binv, ↓opt_def, AV.isAny, AV.cells, ldc, List.map_cons, List.map_nil, St.set_next, St.set_same, St.up_next, Int.natCast_nonneg, lt_len, le_len, Int.toNat_natCast, true_and, and_true, eq_self, reduceCtorEq, decide_true, List.length_singleton, er_int, er_bool, er_str, Nat.reduceEqDiff, tS, n_scmp, n_may, hb5, ha, e1, g_may, g_scmp, e2, hm2, e3, kshape, AV.fits, AV.one, List.all_cons, List.all_nil, Nat.reduceBEq, Bool.and_true, Bool.not_false, Bool.and_self, Nat.zero_add, splice, List.take, List.drop, Nat.reduceLeDiff, Bool.not_true, reduceCtorEq, hz, hd, sps_len, sps_get hjl, hjl, hp, spav, e4]
        refine h4 _ _ ?_
        try clear h4 K_h4
        refine T.cond rfl (fun _ => ?_) (fun h => by cases h)
        refine T.seq_k (fun K_h4 h4 => ?_)
        refine T.regi hm ?_
        simp only [↓reduceIte, namesOf, List.any, I.names, aops, aopsI, aopsT, qstep, CPt, qget, Tbl.get, astep, ev, setd, List.set, List.getD, List.getElem?_cons_zero, List.getElem?_cons_succ, List.getElem?_nil, List.cons_append, List.nil_append, List.length_cons, List.length_nil, List.replicate, then_normal, inBlock_normal, Option.getD_some, Option.getD_none, Bool.or_false, Bool.or_true, Bool.true_or, Bool.false_or, Bool.false_eq_true, if_false, if_true, up_zero, Nat.reduceAdd, Nat.reduceSub, binv, ↓opt_def, AV.isAny, AV.cells, ldc, List.map_cons, List.map_nil, St.set_next, St.set_same, St.up_next, Int.natCast_nonneg, lt_len, le_len, Int.toNat_natCast, true_and, and_true, eq_self, reduceCtorEq, decide_true, List.length_singleton, er_int, er_bool, er_str]
        refine h4 _ _ ?_
        try clear h4 K_h4
        exact T.ret (fin (by unfold okAt; rw [hsi]; simp [hpj, c4]) _ rfl)
  · refine T.exit ?_
    have : i = t.sp.length := by simp at hb; omega
    subst this
    try simp only [↓reduceIte, namesOf, List.any, I.names, aops, aopsI, aopsT, qstep, CPt, qget, Tbl.get, astep, ev, setd, List.set, List.getD, List.getElem?_cons_zero, List.getElem?_cons_succ, List.getElem?_nil, List.cons_append, List.nil_append, List.length_cons, List.length_nil, List.replicate, then_normal, inBlock_normal, Option.getD_some, Option.getD_none, Bool.or_false, Bool.or_true, Bool.true_or, Bool.false_or, Bool.false_eq_true, if_false, if_true, up_zero, Nat.reduceAdd, Nat.reduceSub, binv, ↓opt_def, AV.isAny, AV.cells, ldc, List.map_cons, List.map_nil, St.set_next, St.set_same, St.up_next, Int.natCast_nonneg, lt_len, le_len, Int.toNat_natCast, true_and, and_true, eq_self, reduceCtorEq, decide_true, List.length_singleton, er_int, er_bool, er_str, inBlock_exit, then_exit]
    refine h1 _ _ ?_
    try clear h1 K_h1
    have ha := o1.obj
    rw [tccells] at ha
    refine T.seq_k (fun K_h1 h1 => ?_)
    have fin : ∀ (x : Bool) (ρ' : List AV), oneB t = x → ρ'.getD 2 .any = .bool x → Fin σ [.t 2] (fun v σ' => v = .bool (oneB t) ∧ σ' = σ) .ret ρ' σ' := by
      intro x ρ' hx hρ
      refine Fin.quiet (xs := [ρ'.getD 2 .any]) rfl (by rw [hρ]; trivial) o1.old ⟨?_, rfl⟩
      rw [hx, hρ]; rfl
    by_cases c1 : 1 ≤ t.sp.length
    · have e1 : decide ((t.sp.length : Int) ≥ 1) = true := decide_eq_true (by omega)
      refine T.regi hm ?_
      simp only [↓reduceIte, namesOf, List.any, I.names, aops, aopsI, aopsT, qstep, CPt, qget, Tbl.get, astep, ev, setd, List.set, List.getD, List.getElem?_cons_zero, List.getElem?_cons_succ, List.getElem?_nil, List.cons_append, List.nil_append, List.length_cons, List.length_nil, List.replicate, then_normal, inBlock_normal, Option.getD_some, Option.getD_none, Bool.or_false, Bool.or_true, Bool.true_or, Bool.false_or, Bool.false_eq_true, if_false, if_true, up_zero, Nat.reduceAdd, Nat.reduceSub, binv, ↓opt_def, AV.isAny, AV.cells, ldc, List.map_cons, List.map_nil, St.set_next, St.set_same, St.up_next, Int.natCast_nonneg, lt_len, le_len, Int.toNat_natCast, true_and, and_true, eq_self, reduceCtorEq, decide_true, List.length_singleton, er_int, er_bool, er_str, ha, sps_len, e1]
      refine h1 _ _ ?_
      try clear h1 K_h1
      refine T.ret (fin _ _ ?_ rfl)
      unfold oneB
      rw [hpre, decide_eq_true c1]
      have : decide ((t.sp.length : Int) ≤ 100) = decide (t.sp.length ≤ 100) := by rw [decide_eq_decide]; omega
      rw [this]; rfl
    · have e1 : decide ((t.sp.length : Int) ≥ 1) = false := decide_eq_false (by omega)
      refine T.regi hm ?_
      simp only [↓reduceIte, namesOf, List.any, I.names, aops, aopsI, aopsT, qstep, CPt, qget, Tbl.get, astep, ev, setd, List.set, List.getD, List.getElem?_cons_zero, List.getElem?_cons_succ, List.getElem?_nil, List.cons_append, List.nil_append, List.length_cons, List.length_nil, List.replicate, then_normal, inBlock_normal, Option.getD_some, Option.getD_none, Bool.or_false, Bool.or_true, Bool.true_or, Bool.false_or, Bool.false_eq_true, if_false, if_true, up_zero, Nat.reduceAdd, Nat.reduceSub, binv, ↓opt_def, AV.isAny, AV.cells, ldc, List.map_cons, List.map_nil, St.set_next, St.set_same, St.up_next, Int.natCast_nonneg, lt_len, le_len, Int.toNat_natCast, true_and, and_true, eq_self, reduceCtorEq, decide_true, List.length_singleton, er_int, er_bool, er_str, ha, sps_len, e1]
      refine h1 _ _ ?_
      try clear h1 K_h1
      refine T.ret (fin _ _ ?_ rfl)
      unfold oneB
      rw [hpre, decide_eq_false c1]; rfl

end Go.VL

namespace Go.VL

open Go.Proofs

abbrev n_wtext : Nat := 166

def c_wtext : C := (.seq (.reg [⟨(some 4), (.mv (.c (.sl [] .nil))), none⟩, ⟨(some 5), (.mv (.c .nili)), none⟩]) (.seq (.seq (.reg [⟨(some 8), (.mv (.t 1)), none⟩, ⟨(some 9), (.len (.t 8)), none⟩, ⟨(some 10), (.bin .gtr .i64 (.t 9) (.c (.int .i64 65535))), none⟩]) (.cond (.t 10) (.seq (.reg [⟨(some 11), (.mkI 31 (.c (.int .i64 3))), none⟩, ⟨(some 4), (.mv (.c (.sl [] .nil))), none⟩, ⟨(some 5), (.mv (.t 11)), none⟩]) .ret) .skip)) (.seq (.reg [⟨(some 13), (.mv (.t 0)), none⟩, ⟨(some 14), (.mv (.t 1)), none⟩, ⟨(some 15), (.len (.t 14)), none⟩, ⟨(some 16), (.conv .u64 (.t 15)), none⟩, ⟨(some 17), (.call 66 [(.t 13), (.c (.int .i64 2)), (.t 16)]), none⟩, ⟨(some 12), (.mv (.t 17)), none⟩, ⟨(some 18), (.ext (.t 12) 0), none⟩, ⟨(some 19), (.ext (.t 12) 1), none⟩, ⟨(some 6), (.mv (.t 18)), none⟩, ⟨(some 7), (.mv (.t 19)), none⟩]) (.seq (.reg [⟨(some 20), (.mv (.t 6)), none⟩, ⟨(some 21), (.mv (.t 1)), none⟩, ⟨(some 22), (.app 1 1 .tip (.t 20) (.t 21)), none⟩, ⟨(some 23), (.mv (.t 7)), none⟩, ⟨(some 4), (.mv (.t 22)), none⟩, ⟨(some 5), (.mv (.t 23)), none⟩]) .ret))))

set_option maxRecDepth 100000 in
theorem k_wtext : compileC Try.prog ann (Try.f166.body.getD .skip) = some c_wtext := by kernel_rfl

theorem s_wtext {args : List AV} {σ : St} {K : AV → St → Prop} (h : WF σ → T Try.prog ann c_wtext (Fin σ [(.t 4), (.t 5)] K) (args ++ List.replicate (24 - args.length) (.tup [])) σ) : ACalls Try.prog n_wtext args σ K :=
  calls_ok Try.func166 (by kernel_rfl) (by kernel_rfl) k_wtext (by kernel_rfl) (by kernel_rfl) h

abbrev n_sput1 : Nat := 147

def c_sput1 : C := (.seq (.reg [⟨(some 1), (.box (.t 0)), none⟩, ⟨(some 2), (.mv (.c (.sl [] .nil))), none⟩, ⟨(some 3), (.mv (.c .nili)), none⟩]) (.seq (.reg [⟨(some 4), (.mv (.c (.sl [] .nil))), none⟩]) (.seq (.seq (.reg [⟨(some 9), (.faddr 0 (.t 1)), none⟩, ⟨(some 10), (.load none (.t 9)), none⟩, ⟨(some 11), (.faddr 1 (.t 1)), none⟩, ⟨(some 12), (.load none (.t 11)), none⟩, ⟨(some 13), (.faddr 2 (.t 1)), none⟩, ⟨(some 14), (.load none (.t 13)), none⟩, ⟨(some 15), (.conv .u64 (.t 14)), none⟩, ⟨(some 16), (.faddr 3 (.t 1)), none⟩, ⟨(some 17), (.load none (.t 16)), none⟩, ⟨(some 18), (.conv .u64 (.t 17)), none⟩, ⟨(some 19), (.bslice 1 .val [(.t 10), (.t 12), (.t 15), (.t 18)]), none⟩, ⟨(some 20), (.len (.t 19)), none⟩, ⟨(some 21), (.mv (.c (.int .i64 0))), none⟩]) (.block 0 (.loop (.seq (.reg [⟨(some 22), (.bin .lss .i64 (.t 21) (.t 20)), none⟩]) (.seq (.cond (.t 22) .skip (.exit 0)) (.seq (.block 1 (.seq (.reg [⟨(some 23), (.iaddr 1 (.t 19) (.t 21)), none⟩, ⟨(some 24), (.load none (.t 23)), none⟩, ⟨(some 6), (.mv (.t 24)), none⟩]) (.seq (.reg [⟨(some 26), (.mv (.t 4)), none⟩, ⟨(some 27), (.mv (.t 6)), none⟩, ⟨(some 28), (.call 66 [(.t 26), (.c (.int .i64 8)), (.t 27)]), none⟩, ⟨(some 25), (.mv (.t 28)), none⟩, ⟨(some 29), (.ext (.t 25) 0), none⟩, ⟨(some 30), (.ext (.t 25) 1), none⟩, ⟨(some 7), (.mv (.t 29)), none⟩, ⟨(some 8), (.mv (.t 30)), none⟩]) (.seq (.seq (.reg [⟨(some 31), (.mv (.t 8)), none⟩, ⟨(some 32), (.eqI true true [(31, .i64)] (.t 31) (.c .nili)), none⟩]) (.cond (.t 32) (.seq (.reg [⟨(some 33), (.mv (.t 8)), none⟩, ⟨(some 2), (.mv (.c (.sl [] .nil))), none⟩, ⟨(some 3), (.mv (.t 33)), none⟩]) .ret) .skip)) (.reg [⟨(some 34), (.mv (.t 7)), none⟩, ⟨(some 4), (.mv (.t 34)), none⟩]))))) (.reg [⟨(some 35), (.bin .add .i64 (.t 21) (.c (.int .i64 1))), none⟩, ⟨(some 21), (.mv (.t 35)), none⟩]))))))) (.seq (.reg [⟨(some 36), (.mv (.t 4)), none⟩, ⟨(some 37), (.faddr 4 (.t 1)), none⟩, ⟨(some 38), (.load none (.t 37)), none⟩, ⟨(some 39), (.call 166 [(.t 36), (.t 38)]), none⟩, ⟨(some 40), (.ext (.t 39) 0), none⟩, ⟨(some 41), (.ext (.t 39) 1), none⟩, ⟨(some 2), (.mv (.t 40)), none⟩, ⟨(some 3), (.mv (.t 41)), none⟩]) .ret))))

set_option maxRecDepth 100000 in
theorem k_sput1 : compileC Try.prog ann (Try.f147.body.getD .skip) = some c_sput1 := by kernel_rfl

theorem s_sput1 {args : List AV} {σ : St} {K : AV → St → Prop} (h : WF σ → T Try.prog ann c_sput1 (Fin σ [(.t 2), (.t 3)] K) (args ++ List.replicate (42 - args.length) (.tup [])) σ) : ACalls Try.prog n_sput1 args σ K :=
  calls_ok Try.func147 (by kernel_rfl) (by kernel_rfl) k_sput1 (by kernel_rfl) (by kernel_rfl) h

abbrev n_spput : Nat := 108

def c_spput : C := (.seq (.reg [⟨(some 2), (.mv (.c (.sl [] .nil))), none⟩, ⟨(some 3), (.mv (.c .nili)), none⟩]) (.seq (.seq (.reg [⟨(some 10), (.mv (.t 0)), none⟩, ⟨(some 11), (.len (.t 10)), none⟩, ⟨(some 12), (.bin .gtr .i64 (.t 11) (.c (.int .i64 65535))), none⟩]) (.cond (.t 12) (.seq (.reg [⟨(some 13), (.mkI 31 (.c (.int .i64 3))), none⟩, ⟨(some 2), (.mv (.c (.sl [] .nil))), none⟩, ⟨(some 3), (.mv (.t 13)), none⟩]) .ret) .skip)) (.seq (.reg [⟨(some 15), (.mv (.t 0)), none⟩, ⟨(some 16), (.len (.t 15)), none⟩, ⟨(some 17), (.conv .u64 (.t 16)), none⟩, ⟨(some 18), (.call 66 [(.c (.sl [] .nil)), (.c (.int .i64 2)), (.t 17)]), none⟩, ⟨(some 14), (.mv (.t 18)), none⟩, ⟨(some 19), (.ext (.t 14) 0), none⟩, ⟨(some 20), (.ext (.t 14) 1), none⟩, ⟨(some 4), (.mv (.t 19)), none⟩, ⟨(some 5), (.mv (.t 20)), none⟩]) (.seq (.seq (.reg [⟨(some 21), (.mv (.t 5)), none⟩, ⟨(some 22), (.eqI true true [(31, .i64)] (.t 21) (.c .nili)), none⟩]) (.cond (.t 22) (.seq (.reg [⟨(some 23), (.mv (.t 5)), none⟩, ⟨(some 2), (.mv (.c (.sl [] .nil))), none⟩, ⟨(some 3), (.mv (.t 23)), none⟩]) .ret) .skip)) (.seq (.seq (.reg [⟨(some 24), (.mv (.t 0)), none⟩, ⟨(some 25), (.len (.t 24)), none⟩, ⟨(some 26), (.mv (.c (.int .i64 0))), none⟩]) (.block 0 (.loop (.seq (.reg [⟨(some 27), (.bin .lss .i64 (.t 26) (.t 25)), none⟩]) (.seq (.cond (.t 27) .skip (.exit 0)) (.seq (.block 1 (.seq (.reg [⟨(some 28), (.iaddr 5 (.t 24) (.t 26)), none⟩, ⟨(some 29), (.load (some 5) (.t 28)), none⟩, ⟨(some 7), (.alloc [(.int .u64 0), (.int .u64 0), (.int .i64 0), (.int .i64 0), (.sl [] .nil)]), none⟩, ⟨none, (.store 5 (.t 7) (.t 29)), none⟩]) (.seq (.seq (.reg [⟨(some 30), (.load (some 5) (.t 7)), none⟩, ⟨(some 31), (.call 118 [(.t 30)]), none⟩, ⟨(some 32), (.not (.t 31)), none⟩]) (.cond (.t 32) (.seq (.reg [⟨(some 33), (.mkI 31 (.c (.int .i64 1))), none⟩, ⟨(some 2), (.mv (.c (.sl [] .nil))), none⟩, ⟨(some 3), (.mv (.t 33)), none⟩]) .ret) .skip)) (.seq (.reg [⟨(some 35), (.load (some 5) (.t 7)), none⟩, ⟨(some 36), (.call 147 [(.t 35)]), none⟩, ⟨(some 34), (.mv (.t 36)), none⟩, ⟨(some 37), (.ext (.t 34) 0), none⟩, ⟨(some 38), (.ext (.t 34) 1), none⟩, ⟨(some 8), (.mv (.t 37)), none⟩, ⟨(some 9), (.mv (.t 38)), none⟩]) (.seq (.seq (.reg [⟨(some 39), (.mv (.t 9)), none⟩, ⟨(some 40), (.eqI true true [(31, .i64)] (.t 39) (.c .nili)), none⟩]) (.cond (.t 40) (.seq (.reg [⟨(some 41), (.mv (.t 9)), none⟩, ⟨(some 2), (.mv (.c (.sl [] .nil))), none⟩, ⟨(some 3), (.mv (.t 41)), none⟩]) .ret) .skip)) (.reg [⟨(some 42), (.mv (.t 4)), none⟩, ⟨(some 43), (.mv (.t 8)), none⟩, ⟨(some 44), (.app 1 1 .tip (.t 42) (.t 43)), none⟩, ⟨(some 4), (.mv (.t 44)), none⟩])))))) (.reg [⟨(some 45), (.bin .add .i64 (.t 26) (.c (.int .i64 1))), none⟩, ⟨(some 26), (.mv (.t 45)), none⟩]))))))) (.seq (.reg [⟨(some 46), (.mv (.t 4)), none⟩, ⟨(some 2), (.mv (.t 46)), none⟩, ⟨(some 3), (.mv (.c .nili)), none⟩]) .ret))))))

set_option maxRecDepth 100000 in
theorem k_spput : compileC Try.prog ann (Try.f108.body.getD .skip) = some c_spput := by kernel_rfl

theorem s_spput {args : List AV} {σ : St} {K : AV → St → Prop} (h : WF σ → T Try.prog ann c_spput (Fin σ [(.t 2), (.t 3)] K) (args ++ List.replicate (47 - args.length) (.tup [])) σ) : ACalls Try.prog n_spput args σ K :=
  calls_ok Try.func108 (by kernel_rfl) (by kernel_rfl) k_spput (by kernel_rfl) (by kernel_rfl) h

abbrev n_pput1 : Nat := 62

def c_pput1 : C := (.seq (.reg [⟨(some 1), (.box (.t 0)), none⟩, ⟨(some 2), (.mv (.c (.sl [] .nil))), none⟩, ⟨(some 3), (.mv (.c .nili)), none⟩]) (.seq (.reg [⟨(some 8), (.faddr 1 (.t 1)), none⟩, ⟨(some 9), (.load none (.t 8)), none⟩, ⟨(some 10), (.call 108 [(.t 9)]), none⟩, ⟨(some 7), (.mv (.t 10)), none⟩, ⟨(some 11), (.ext (.t 7) 0), none⟩, ⟨(some 12), (.ext (.t 7) 1), none⟩, ⟨(some 4), (.mv (.t 11)), none⟩, ⟨(some 5), (.mv (.t 12)), none⟩]) (.seq (.seq (.reg [⟨(some 13), (.mv (.t 5)), none⟩, ⟨(some 14), (.eqI true true [(31, .i64)] (.t 13) (.c .nili)), none⟩]) (.cond (.t 14) (.seq (.reg [⟨(some 15), (.mv (.t 5)), none⟩, ⟨(some 2), (.mv (.c (.sl [] .nil))), none⟩, ⟨(some 3), (.mv (.t 15)), none⟩]) .ret) .skip)) (.seq (.reg [⟨(some 17), (.faddr 0 (.t 1)), none⟩, ⟨(some 18), (.load none (.t 17)), none⟩, ⟨(some 19), (.call 66 [(.c (.sl [] .nil)), (.c (.int .i64 8)), (.t 18)]), none⟩, ⟨(some 16), (.mv (.t 19)), none⟩, ⟨(some 20), (.ext (.t 16) 0), none⟩, ⟨(some 21), (.ext (.t 16) 1), none⟩, ⟨(some 6), (.mv (.t 20)), none⟩, ⟨(some 5), (.mv (.t 21)), none⟩]) (.seq (.seq (.reg [⟨(some 22), (.mv (.t 5)), none⟩, ⟨(some 23), (.eqI true true [(31, .i64)] (.t 22) (.c .nili)), none⟩]) (.cond (.t 23) (.seq (.reg [⟨(some 24), (.mv (.t 5)), none⟩, ⟨(some 2), (.mv (.c (.sl [] .nil))), none⟩, ⟨(some 3), (.mv (.t 24)), none⟩]) .ret) .skip)) (.seq (.reg [⟨(some 26), (.mv (.t 6)), none⟩, ⟨(some 27), (.mv (.t 4)), none⟩, ⟨(some 28), (.len (.t 27)), none⟩, ⟨(some 29), (.conv .u64 (.t 28)), none⟩, ⟨(some 30), (.call 66 [(.t 26), (.c (.int .i64 4)), (.t 29)]), none⟩, ⟨(some 25), (.mv (.t 30)), none⟩, ⟨(some 31), (.ext (.t 25) 0), none⟩, ⟨(some 32), (.ext (.t 25) 1), none⟩, ⟨(some 6), (.mv (.t 31)), none⟩, ⟨(some 5), (.mv (.t 32)), none⟩]) (.seq (.reg [⟨(some 33), (.mv (.t 6)), none⟩, ⟨(some 34), (.mv (.t 4)), none⟩, ⟨(some 35), (.app 1 1 .tip (.t 33) (.t 34)), none⟩, ⟨(some 36), (.mv (.t 5)), none⟩, ⟨(some 2), (.mv (.t 35)), none⟩, ⟨(some 3), (.mv (.t 36)), none⟩]) .ret)))))))

set_option maxRecDepth 100000 in
theorem k_pput1 : compileC Try.prog ann (Try.f62.body.getD .skip) = some c_pput1 := by kernel_rfl

theorem s_pput1 {args : List AV} {σ : St} {K : AV → St → Prop} (h : WF σ → T Try.prog ann c_pput1 (Fin σ [(.t 2), (.t 3)] K) (args ++ List.replicate (37 - args.length) (.tup [])) σ) : ACalls Try.prog n_pput1 args σ K :=
  calls_ok Try.func62 (by kernel_rfl) (by kernel_rfl) k_pput1 (by kernel_rfl) (by kernel_rfl) h

abbrev n_ppput : Nat := 18

def c_ppput : C := (.seq (.reg [⟨(some 2), (.mv (.c (.sl [] .nil))), none⟩, ⟨(some 3), (.mv (.c .nili)), none⟩]) (.seq (.seq (.reg [⟨(some 10), (.mv (.t 0)), none⟩, ⟨(some 11), (.call 61 [(.t 10)]), none⟩, ⟨(some 12), (.not (.t 11)), none⟩, ⟨(some 13), (.mv (.t 12)), none⟩, ⟨(some 14), (.mv (.t 0)), (some (13, false))⟩, ⟨(some 15), (.len (.t 14)), (some (13, false))⟩, ⟨(some 16), (.bin .gtr .i64 (.t 15) (.c (.int .i64 64))), (some (13, false))⟩, ⟨(some 17), (.pick (.t 13) (.c (.bool true)) (.t 16)), none⟩]) (.cond (.t 17) (.seq (.reg [⟨(some 18), (.mkI 31 (.c (.int .i64 1))), none⟩, ⟨(some 2), (.mv (.c (.sl [] .nil))), none⟩, ⟨(some 3), (.mv (.t 18)), none⟩]) .ret) .skip)) (.seq (.reg [⟨(some 20), (.mv (.t 0)), none⟩, ⟨(some 21), (.len (.t 20)), none⟩, ⟨(some 22), (.conv .u64 (.t 21)), none⟩, ⟨(some 23), (.call 66 [(.c (.sl [] .nil)), (.c (.int .i64 2)), (.t 22)]), none⟩, ⟨(some 19), (.mv (.t 23)), none⟩, ⟨(some 24), (.ext (.t 19) 0), none⟩, ⟨(some 25), (.ext (.t 19) 1), none⟩, ⟨(some 4), (.mv (.t 24)), none⟩, ⟨(some 5), (.mv (.t 25)), none⟩]) (.seq (.seq (.reg [⟨(some 26), (.mv (.t 5)), none⟩, ⟨(some 27), (.eqI true true [(31, .i64)] (.t 26) (.c .nili)), none⟩]) (.cond (.t 27) (.seq (.reg [⟨(some 28), (.mv (.t 5)), none⟩, ⟨(some 2), (.mv (.c (.sl [] .nil))), none⟩, ⟨(some 3), (.mv (.t 28)), none⟩]) .ret) .skip)) (.seq (.seq (.reg [⟨(some 29), (.mv (.t 0)), none⟩, ⟨(some 30), (.len (.t 29)), none⟩, ⟨(some 31), (.mv (.c (.int .i64 0))), none⟩]) (.block 0 (.loop (.seq (.reg [⟨(some 32), (.bin .lss .i64 (.t 31) (.t 30)), none⟩]) (.seq (.cond (.t 32) .skip (.exit 0)) (.seq (.block 1 (.seq (.reg [⟨(some 33), (.iaddr 2 (.t 29) (.t 31)), none⟩, ⟨(some 34), (.load (some 2) (.t 33)), none⟩, ⟨(some 7), (.alloc [(.int .u64 0), (.sl [] .nil)]), none⟩, ⟨none, (.store 2 (.t 7) (.t 34)), none⟩]) (.seq (.reg [⟨(some 36), (.load (some 2) (.t 7)), none⟩, ⟨(some 37), (.call 62 [(.t 36)]), none⟩, ⟨(some 35), (.mv (.t 37)), none⟩, ⟨(some 38), (.ext (.t 35) 0), none⟩, ⟨(some 39), (.ext (.t 35) 1), none⟩, ⟨(some 8), (.mv (.t 38)), none⟩, ⟨(some 9), (.mv (.t 39)), none⟩]) (.seq (.seq (.reg [⟨(some 40), (.mv (.t 9)), none⟩, ⟨(some 41), (.eqI true true [(31, .i64)] (.t 40) (.c .nili)), none⟩]) (.cond (.t 41) (.seq (.reg [⟨(some 42), (.mv (.t 9)), none⟩, ⟨(some 2), (.mv (.c (.sl [] .nil))), none⟩, ⟨(some 3), (.mv (.t 42)), none⟩]) .ret) .skip)) (.reg [⟨(some 43), (.mv (.t 4)), none⟩, ⟨(some 44), (.mv (.t 8)), none⟩, ⟨(some 45), (.app 1 1 .tip (.t 43) (.t 44)), none⟩, ⟨(some 4), (.mv (.t 45)), none⟩]))))) (.reg [⟨(some 46), (.bin .add .i64 (.t 31) (.c (.int .i64 1))), none⟩, ⟨(some 31), (.mv (.t 46)), none⟩]))))))) (.seq (.reg [⟨(some 47), (.mv (.t 4)), none⟩, ⟨(some 48), (.call 67 [(.t 47)]), none⟩, ⟨(some 2), (.mv (.t 48)), none⟩, ⟨(some 3), (.mv (.c .nili)), none⟩]) .ret))))))

set_option maxRecDepth 100000 in
theorem k_ppput : compileC Try.prog ann (Try.f18.body.getD .skip) = some c_ppput := by kernel_rfl

theorem s_ppput {args : List AV} {σ : St} {K : AV → St → Prop} (h : WF σ → T Try.prog ann c_ppput (Fin σ [(.t 2), (.t 3)] K) (args ++ List.replicate (49 - args.length) (.tup [])) σ) : ACalls Try.prog n_ppput args σ K :=
  calls_ok Try.func18 (by kernel_rfl) (by kernel_rfl) k_ppput (by kernel_rfl) (by kernel_rfl) h

abbrev n_pgget : Nat := 19

def c_pgget : C := (.seq (.reg [⟨(some 2), (.mv (.c (.sl [] .nil))), none⟩, ⟨(some 3), (.mv (.c .nili)), none⟩]) (.seq (.reg [⟨(some 16), (.mv (.t 0)), none⟩, ⟨(some 17), (.call 68 [(.t 16)]), none⟩, ⟨(some 15), (.mv (.t 17)), none⟩, ⟨(some 18), (.ext (.t 15) 0), none⟩, ⟨(some 19), (.ext (.t 15) 1), none⟩, ⟨(some 4), (.mv (.t 18)), none⟩, ⟨(some 5), (.mv (.t 19)), none⟩]) (.seq (.seq (.reg [⟨(some 20), (.mv (.t 5)), none⟩, ⟨(some 21), (.eqI true true [(31, .i64)] (.t 20) (.c .nili)), none⟩]) (.cond (.t 21) (.seq (.reg [⟨(some 22), (.mv (.t 5)), none⟩, ⟨(some 2), (.mv (.c (.sl [] .nil))), none⟩, ⟨(some 3), (.mv (.t 22)), none⟩]) .ret) .skip)) (.seq (.reg [⟨(some 23), (.mv (.t 4)), none⟩, ⟨(some 24), (.call 69 [(.t 23)]), none⟩, ⟨(some 6), (.mv (.t 24)), none⟩]) (.seq (.reg [⟨(some 25), (.mv (.t 6)), none⟩, ⟨(some 26), (.call 70 [(.t 25), (.c (.int .i64 2))]), none⟩, ⟨(some 27), (.conv .i64 (.t 26)), none⟩, ⟨(some 7), (.mv (.t 27)), none⟩]) (.seq (.reg [⟨(some 8), (.mv (.c (.sl [] .nil))), none⟩]) (.seq (.seq (.reg [⟨(some 9), (.mv (.c (.int .i64 0))), none⟩]) (.block 0 (.loop (.seq (.seq (.reg [⟨(some 28), (.mv (.t 9)), none⟩, ⟨(some 29), (.mv (.t 7)), none⟩, ⟨(some 30), (.bin .lss .i64 (.t 28) (.t 29)), none⟩, ⟨(some 31), (.mv (.t 30)), none⟩, ⟨(some 32), (.mv (.t 6)), (some (31, true))⟩, ⟨(some 33), (.call 71 [(.t 32)]), (some (31, true))⟩, ⟨(some 34), (.bin .lss .i64 (.t 33) (.c (.int .i64 0))), (some (31, true))⟩, ⟨(some 35), (.pick (.t 31) (.t 34) (.c (.bool false))), none⟩]) (.cond (.t 35) .skip (.exit 0))) (.seq (.block 1 (.seq (.reg [⟨(some 38), (.mv (.t 6)), none⟩, ⟨(some 39), (.call 70 [(.t 38), (.c (.int .i64 8))]), none⟩, ⟨(some 40), (.build [(.int .u64 0), (.sl [] .nil)] [(0, (1, (.t 39)))]), none⟩, ⟨(some 10), (.alloc [(.int .u64 0), (.sl [] .nil)]), none⟩, ⟨none, (.store 2 (.t 10) (.t 40)), none⟩]) (.seq (.reg [⟨(some 41), (.mv (.t 6)), none⟩, ⟨(some 42), (.call 70 [(.t 41), (.c (.int .i64 4))]), none⟩, ⟨(some 43), (.conv .i64 (.t 42)), none⟩, ⟨(some 11), (.mv (.t 43)), none⟩]) (.seq (.seq (.reg [⟨(some 44), (.mv (.t 6)), none⟩, ⟨(some 45), (.call 71 [(.t 44)]), none⟩, ⟨(some 46), (.bin .geq .i64 (.t 45) (.c (.int .i64 0))), none⟩, ⟨(some 47), (.mv (.t 46)), none⟩, ⟨(some 48), (.mv (.t 11)), (some (47, false))⟩, ⟨(some 49), (.mv (.t 6)), (some (47, false))⟩, ⟨(some 50), (.call 72 [(.t 49)]), (some (47, false))⟩, ⟨(some 51), (.bin .gtr .i64 (.t 48) (.t 50)), (some (47, false))⟩, ⟨(some 52), (.pick (.t 47) (.c (.bool true)) (.t 51)), none⟩]) (.cond (.t 52) (.seq (.reg [⟨(some 53), (.mkI 31 (.c (.int .i64 2))), none⟩, ⟨(some 2), (.mv (.c (.sl [] .nil))), none⟩, ⟨(some 3), (.mv (.t 53)), none⟩]) .ret) .skip)) (.seq (.reg [⟨(some 54), (.mv (.t 4)), none⟩, ⟨(some 55), (.len (.t 54)), none⟩, ⟨(some 56), (.mv (.t 6)), none⟩, ⟨(some 57), (.call 72 [(.t 56)]), none⟩, ⟨(some 58), (.bin .sub .i64 (.t 55) (.t 57)), none⟩, ⟨(some 12), (.mv (.t 58)), none⟩]) (.seq (.reg [⟨(some 60), (.mv (.t 4)), none⟩, ⟨(some 61), (.mv (.t 12)), none⟩, ⟨(some 62), (.mv (.t 12)), none⟩, ⟨(some 63), (.mv (.t 11)), none⟩, ⟨(some 64), (.bin .add .i64 (.t 62) (.t 63)), none⟩, ⟨(some 65), (.slice 1 (.t 60) (some (.t 61)) (some (.t 64))), none⟩, ⟨(some 66), (.call 73 [(.t 65)]), none⟩, ⟨(some 59), (.mv (.t 66)), none⟩, ⟨(some 67), (.ext (.t 59) 0), none⟩, ⟨(some 68), (.ext (.t 59) 1), none⟩, ⟨(some 13), (.mv (.t 67)), none⟩, ⟨(some 14), (.mv (.t 68)), none⟩]) (.seq (.seq (.reg [⟨(some 69), (.mv (.t 14)), none⟩, ⟨(some 70), (.eqI true true [(31, .i64)] (.t 69) (.c .nili)), none⟩]) (.cond (.t 70) (.seq (.reg [⟨(some 71), (.mkI 31 (.c (.int .i64 2))), none⟩, ⟨(some 2), (.mv (.c (.sl [] .nil))), none⟩, ⟨(some 3), (.mv (.t 71)), none⟩]) .ret) .skip)) (.seq (.reg [⟨(some 72), (.mv (.t 13)), none⟩, ⟨(some 73), (.faddr 1 (.t 10)), none⟩, ⟨none, (.store 1 (.t 73) (.t 72)), none⟩]) (.seq (.reg [⟨(some 74), (.mv (.t 8)), none⟩, ⟨(some 75), (.load (some 2) (.t 10)), none⟩, ⟨(some 76), (.bslice 2 .val [(.t 75)]), none⟩, ⟨(some 77), (.app 2 32 .tip (.t 74) (.t 76)), none⟩, ⟨(some 8), (.mv (.t 77)), none⟩]) (.seq (.reg [⟨(some 78), (.mv (.t 4)), none⟩, ⟨(some 79), (.mv (.t 12)), none⟩, ⟨(some 80), (.mv (.t 11)), none⟩, ⟨(some 81), (.bin .add .i64 (.t 79) (.t 80)), none⟩, ⟨(some 82), (.slice 1 (.t 78) (some (.t 81)) none), none⟩, ⟨(some 83), (.call 69 [(.t 82)]), none⟩, ⟨(some 6), (.mv (.t 83)), none⟩]) (.reg [⟨(some 84), (.mv (.t 4)), none⟩, ⟨(some 85), (.mv (.t 12)), none⟩, ⟨(some 86), (.mv (.t 11)), none⟩, ⟨(some 87), (.bin .add .i64 (.t 85) (.t 86)), none⟩, ⟨(some 88), (.slice 1 (.t 84) (some (.t 87)) none), none⟩, ⟨(some 4), (.mv (.t 88)), none⟩]))))))))))) (.reg [⟨(some 36), (.mv (.t 9)), none⟩, ⟨(some 37), (.bin .add .i64 (.t 36) (.c (.int .i64 1))), none⟩, ⟨(some 9), (.mv (.t 37)), none⟩])))))) (.seq (.seq (.reg [⟨(some 89), (.mv (.t 6)), none⟩, ⟨(some 90), (.call 71 [(.t 89)]), none⟩, ⟨(some 91), (.bin .geq .i64 (.t 90) (.c (.int .i64 0))), none⟩, ⟨(some 92), (.mv (.t 91)), none⟩, ⟨(some 93), (.mv (.t 6)), (some (92, false))⟩, ⟨(some 94), (.call 72 [(.t 93)]), (some (92, false))⟩, ⟨(some 95), (.bin .gtr .i64 (.t 94) (.c (.int .i64 0))), (some (92, false))⟩, ⟨(some 96), (.pick (.t 92) (.c (.bool true)) (.t 95)), none⟩, ⟨(some 97), (.mv (.t 96)), none⟩, ⟨(some 98), (.mv (.t 8)), (some (97, false))⟩, ⟨(some 99), (.len (.t 98)), (some (97, false))⟩, ⟨(some 100), (.bin .gtr .i64 (.t 99) (.c (.int .i64 64))), (some (97, false))⟩, ⟨(some 101), (.pick (.t 97) (.c (.bool true)) (.t 100)), none⟩, ⟨(some 102), (.mv (.t 101)), none⟩, ⟨(some 103), (.mv (.t 8)), (some (102, false))⟩, ⟨(some 104), (.call 61 [(.t 103)]), (some (102, false))⟩, ⟨(some 105), (.not (.t 104)), (some (102, false))⟩, ⟨(some 106), (.pick (.t 102) (.c (.bool true)) (.t 105)), none⟩]) (.cond (.t 106) (.seq (.reg [⟨(some 107), (.mkI 31 (.c (.int .i64 2))), none⟩, ⟨(some 2), (.mv (.c (.sl [] .nil))), none⟩, ⟨(some 3), (.mv (.t 107)), none⟩]) .ret) .skip)) (.seq (.reg [⟨(some 108), (.mv (.t 8)), none⟩, ⟨(some 2), (.mv (.t 108)), none⟩, ⟨(some 3), (.mv (.c .nili)), none⟩]) .ret)))))))))

set_option maxRecDepth 100000 in
theorem k_pgget : compileC Try.prog ann (Try.f19.body.getD .skip) = some c_pgget := by kernel_rfl

theorem s_pgget {args : List AV} {σ : St} {K : AV → St → Prop} (h : WF σ → T Try.prog ann c_pgget (Fin σ [(.t 2), (.t 3)] K) (args ++ List.replicate (109 - args.length) (.tup [])) σ) : ACalls Try.prog n_pgget args σ K :=
  calls_ok Try.func19 (by kernel_rfl) (by kernel_rfl) k_pgget (by kernel_rfl) (by kernel_rfl) h

abbrev n_rtext : Nat := 167

def c_rtext : C := (.seq (.reg [⟨(some 2), (.mv (.c (.sl [] .nil))), none⟩]) (.seq (.reg [⟨(some 3), (.mv (.t 0)), none⟩, ⟨(some 4), (.len (.t 3)), none⟩, ⟨(some 5), (.conv .u64 (.t 4)), none⟩, ⟨(some 6), (.call 109 [(.c (.int .i64 2)), (.t 5)]), none⟩, ⟨(some 7), (.mv (.t 0)), none⟩, ⟨(some 8), (.app 1 1 .tip (.t 6) (.t 7)), none⟩, ⟨(some 2), (.mv (.t 8)), none⟩]) .ret))

set_option maxRecDepth 100000 in
theorem k_rtext : compileC Try.prog ann (Try.f167.body.getD .skip) = some c_rtext := by kernel_rfl

theorem s_rtext {args : List AV} {σ : St} {K : AV → St → Prop} (h : WF σ → T Try.prog ann c_rtext (Fin σ [(.t 2)] K) (args ++ List.replicate (9 - args.length) (.tup [])) σ) : ACalls Try.prog n_rtext args σ K :=
  calls_ok Try.func167 (by kernel_rfl) (by kernel_rfl) k_rtext (by kernel_rfl) (by kernel_rfl) h

abbrev n_rspB : Nat := 148

def c_rspB : C := (.seq (.reg [⟨(some 2), (.mv (.c (.sl [] .nil))), none⟩]) (.seq (.reg [⟨(some 6), (.mv (.t 0)), none⟩, ⟨(some 7), (.len (.t 6)), none⟩, ⟨(some 8), (.conv .u64 (.t 7)), none⟩, ⟨(some 9), (.call 109 [(.c (.int .i64 2)), (.t 8)]), none⟩, ⟨(some 3), (.mv (.t 9)), none⟩]) (.seq (.seq (.reg [⟨(some 4), (.mv (.c (.int .i64 0))), none⟩]) (.block 0 (.loop (.seq (.seq (.reg [⟨(some 10), (.mv (.t 4)), none⟩, ⟨(some 11), (.mv (.t 0)), none⟩, ⟨(some 12), (.len (.t 11)), none⟩, ⟨(some 13), (.bin .lss .i64 (.t 10) (.t 12)), none⟩]) (.cond (.t 13) .skip (.exit 0))) (.seq (.block 1 (.seq (.reg [⟨(some 16), (.mv (.t 0)), none⟩, ⟨(some 17), (.mv (.t 4)), none⟩, ⟨(some 18), (.iaddr 5 (.t 16) (.t 17)), none⟩, ⟨(some 19), (.load (some 5) (.t 18)), none⟩, ⟨(some 5), (.alloc [(.int .u64 0), (.int .u64 0), (.int .i64 0), (.int .i64 0), (.sl [] .nil)]), none⟩, ⟨none, (.store 5 (.t 5) (.t 19)), none⟩]) (.seq (.reg [⟨(some 20), (.mv (.t 3)), none⟩, ⟨(some 21), (.faddr 0 (.t 5)), none⟩, ⟨(some 22), (.load none (.t 21)), none⟩, ⟨(some 23), (.call 109 [(.c (.int .i64 8)), (.t 22)]), none⟩, ⟨(some 24), (.app 1 1 .tip (.t 20) (.t 23)), none⟩, ⟨(some 3), (.mv (.t 24)), none⟩]) (.seq (.reg [⟨(some 25), (.mv (.t 3)), none⟩, ⟨(some 26), (.faddr 1 (.t 5)), none⟩, ⟨(some 27), (.load none (.t 26)), none⟩, ⟨(some 28), (.call 109 [(.c (.int .i64 8)), (.t 27)]), none⟩, ⟨(some 29), (.app 1 1 .tip (.t 25) (.t 28)), none⟩, ⟨(some 3), (.mv (.t 29)), none⟩]) (.seq (.reg [⟨(some 30), (.mv (.t 3)), none⟩, ⟨(some 31), (.faddr 2 (.t 5)), none⟩, ⟨(some 32), (.load none (.t 31)), none⟩, ⟨(some 33), (.conv .u64 (.t 32)), none⟩, ⟨(some 34), (.call 109 [(.c (.int .i64 8)), (.t 33)]), none⟩, ⟨(some 35), (.app 1 1 .tip (.t 30) (.t 34)), none⟩, ⟨(some 3), (.mv (.t 35)), none⟩]) (.seq (.reg [⟨(some 36), (.mv (.t 3)), none⟩, ⟨(some 37), (.faddr 3 (.t 5)), none⟩, ⟨(some 38), (.load none (.t 37)), none⟩, ⟨(some 39), (.conv .u64 (.t 38)), none⟩, ⟨(some 40), (.call 109 [(.c (.int .i64 8)), (.t 39)]), none⟩, ⟨(some 41), (.app 1 1 .tip (.t 36) (.t 40)), none⟩, ⟨(some 3), (.mv (.t 41)), none⟩]) (.reg [⟨(some 42), (.mv (.t 3)), none⟩, ⟨(some 43), (.faddr 4 (.t 5)), none⟩, ⟨(some 44), (.load none (.t 43)), none⟩, ⟨(some 45), (.call 167 [(.t 44)]), none⟩, ⟨(some 46), (.app 1 1 .tip (.t 42) (.t 45)), none⟩, ⟨(some 3), (.mv (.t 46)), none⟩]))))))) (.reg [⟨(some 14), (.mv (.t 4)), none⟩, ⟨(some 15), (.bin .add .i64 (.t 14) (.c (.int .i64 1))), none⟩, ⟨(some 4), (.mv (.t 15)), none⟩])))))) (.seq (.reg [⟨(some 47), (.mv (.t 3)), none⟩, ⟨(some 2), (.mv (.t 47)), none⟩]) .ret))))

set_option maxRecDepth 100000 in
theorem k_rspB : compileC Try.prog ann (Try.f148.body.getD .skip) = some c_rspB := by kernel_rfl

theorem s_rspB {args : List AV} {σ : St} {K : AV → St → Prop} (h : WF σ → T Try.prog ann c_rspB (Fin σ [(.t 2)] K) (args ++ List.replicate (48 - args.length) (.tup [])) σ) : ACalls Try.prog n_rspB args σ K :=
  calls_ok Try.func148 (by kernel_rfl) (by kernel_rfl) k_rspB (by kernel_rfl) (by kernel_rfl) h

abbrev n_rone : Nat := 110

def c_rone : C := (.seq (.reg [⟨(some 1), (.box (.t 0)), none⟩, ⟨(some 2), (.mv (.c (.sl [] .nil))), none⟩]) (.seq (.reg [⟨(some 5), (.faddr 1 (.t 1)), none⟩, ⟨(some 6), (.load none (.t 5)), none⟩, ⟨(some 7), (.call 148 [(.t 6)]), none⟩, ⟨(some 3), (.mv (.t 7)), none⟩]) (.seq (.reg [⟨(some 8), (.faddr 0 (.t 1)), none⟩, ⟨(some 9), (.load none (.t 8)), none⟩, ⟨(some 10), (.call 109 [(.c (.int .i64 8)), (.t 9)]), none⟩, ⟨(some 11), (.mv (.t 3)), none⟩, ⟨(some 12), (.len (.t 11)), none⟩, ⟨(some 13), (.conv .u64 (.t 12)), none⟩, ⟨(some 14), (.call 109 [(.c (.int .i64 4)), (.t 13)]), none⟩, ⟨(some 15), (.app 1 1 .tip (.t 10) (.t 14)), none⟩, ⟨(some 4), (.mv (.t 15)), none⟩]) (.seq (.reg [⟨(some 16), (.mv (.t 4)), none⟩, ⟨(some 17), (.mv (.t 3)), none⟩, ⟨(some 18), (.app 1 1 .tip (.t 16) (.t 17)), none⟩, ⟨(some 2), (.mv (.t 18)), none⟩]) .ret))))

set_option maxRecDepth 100000 in
theorem k_rone : compileC Try.prog ann (Try.f110.body.getD .skip) = some c_rone := by kernel_rfl

theorem s_rone {args : List AV} {σ : St} {K : AV → St → Prop} (h : WF σ → T Try.prog ann c_rone (Fin σ [(.t 2)] K) (args ++ List.replicate (19 - args.length) (.tup [])) σ) : ACalls Try.prog n_rone args σ K :=
  calls_ok Try.func110 (by kernel_rfl) (by kernel_rfl) k_rone (by kernel_rfl) (by kernel_rfl) h

abbrev n_rpage : Nat := 65

def c_rpage : C := (.seq (.reg [⟨(some 2), (.mv (.c (.sl [] .nil))), none⟩]) (.seq (.reg [⟨(some 5), (.mv (.t 0)), none⟩, ⟨(some 6), (.len (.t 5)), none⟩, ⟨(some 7), (.conv .u64 (.t 6)), none⟩, ⟨(some 8), (.call 109 [(.c (.int .i64 2)), (.t 7)]), none⟩, ⟨(some 3), (.mv (.t 8)), none⟩]) (.seq (.seq (.reg [⟨(some 4), (.mv (.c (.int .i64 0))), none⟩]) (.block 0 (.loop (.seq (.seq (.reg [⟨(some 9), (.mv (.t 4)), none⟩, ⟨(some 10), (.mv (.t 0)), none⟩, ⟨(some 11), (.len (.t 10)), none⟩, ⟨(some 12), (.bin .lss .i64 (.t 9) (.t 11)), none⟩]) (.cond (.t 12) .skip (.exit 0))) (.seq (.block 1 (.reg [⟨(some 15), (.mv (.t 3)), none⟩, ⟨(some 16), (.mv (.t 0)), none⟩, ⟨(some 17), (.mv (.t 4)), none⟩, ⟨(some 18), (.iaddr 2 (.t 16) (.t 17)), none⟩, ⟨(some 19), (.load (some 2) (.t 18)), none⟩, ⟨(some 20), (.call 110 [(.t 19)]), none⟩, ⟨(some 21), (.app 1 1 .tip (.t 15) (.t 20)), none⟩, ⟨(some 3), (.mv (.t 21)), none⟩])) (.reg [⟨(some 13), (.mv (.t 4)), none⟩, ⟨(some 14), (.bin .add .i64 (.t 13) (.c (.int .i64 1))), none⟩, ⟨(some 4), (.mv (.t 14)), none⟩])))))) (.seq (.reg [⟨(some 22), (.mv (.t 3)), none⟩, ⟨(some 23), (.call 111 [(.t 22)]), none⟩, ⟨(some 2), (.mv (.t 23)), none⟩]) .ret))))

set_option maxRecDepth 100000 in
theorem k_rpage : compileC Try.prog ann (Try.f65.body.getD .skip) = some c_rpage := by kernel_rfl

theorem s_rpage {args : List AV} {σ : St} {K : AV → St → Prop} (h : WF σ → T Try.prog ann c_rpage (Fin σ [(.t 2)] K) (args ++ List.replicate (24 - args.length) (.tup [])) σ) : ACalls Try.prog n_rpage args σ K :=
  calls_ok Try.func65 (by kernel_rfl) (by kernel_rfl) k_rpage (by kernel_rfl) (by kernel_rfl) h

abbrev n_rtraces : Nat := 17

def c_rtraces : C := (.seq (.reg [⟨(some 4), (.mv (.c (.bool false))), none⟩]) (.seq (.seq (.reg [⟨(some 7), (.mv (.t 0)), none⟩, ⟨(some 8), (.len (.t 7)), none⟩, ⟨(some 9), (.mv (.t 1)), none⟩, ⟨(some 10), (.len (.t 9)), none⟩, ⟨(some 11), (.bin .neq .i64 (.t 8) (.t 10)), none⟩]) (.cond (.t 11) (.seq (.reg [⟨(some 4), (.mv (.c (.bool false))), none⟩]) .ret) .skip)) (.seq (.seq (.reg [⟨(some 5), (.mv (.c (.int .i64 0))), none⟩]) (.block 0 (.loop (.seq (.seq (.reg [⟨(some 12), (.mv (.t 5)), none⟩, ⟨(some 13), (.mv (.t 0)), none⟩, ⟨(some 14), (.len (.t 13)), none⟩, ⟨(some 15), (.bin .lss .i64 (.t 12) (.t 14)), none⟩]) (.cond (.t 15) .skip (.exit 0))) (.seq (.block 1 (.seq (.reg [⟨(some 18), (.mv (.t 0)), none⟩, ⟨(some 19), (.mv (.t 5)), none⟩, ⟨(some 20), (.iaddr 2 (.t 18) (.t 19)), none⟩, ⟨(some 21), (.faddr 1 (.t 20)), none⟩, ⟨(some 22), (.load none (.t 21)), none⟩, ⟨(some 23), (.mv (.t 1)), none⟩, ⟨(some 24), (.mv (.t 5)), none⟩, ⟨(some 25), (.iaddr 2 (.t 23) (.t 24)), none⟩, ⟨(some 26), (.faddr 1 (.t 25)), none⟩, ⟨(some 27), (.load none (.t 26)), none⟩, ⟨(some 28), (.qcall 30 [(.t 22), (.t 27)]), none⟩, ⟨(some 6), (.mv (.t 28)), none⟩]) (.seq (.reg [⟨(some 29), (.mv (.t 0)), none⟩, ⟨(some 30), (.mv (.t 5)), none⟩, ⟨(some 31), (.iaddr 2 (.t 29) (.t 30)), none⟩, ⟨(some 32), (.faddr 0 (.t 31)), none⟩, ⟨(some 33), (.load none (.t 32)), none⟩, ⟨(some 34), (.mv (.t 1)), none⟩, ⟨(some 35), (.mv (.t 5)), none⟩, ⟨(some 36), (.iaddr 2 (.t 34) (.t 35)), none⟩, ⟨(some 37), (.faddr 0 (.t 36)), none⟩, ⟨(some 38), (.load none (.t 37)), none⟩, ⟨(some 39), (.bin .neq .u64 (.t 33) (.t 38)), none⟩, ⟨(some 40), (.mv (.t 39)), none⟩, ⟨(some 41), (.mv (.t 6)), (some (40, false))⟩, ⟨(some 42), (.not (.t 41)), (some (40, false))⟩, ⟨(some 43), (.pick (.t 40) (.c (.bool true)) (.t 42)), none⟩]) (.cond (.t 43) (.seq (.reg [⟨(some 4), (.mv (.c (.bool false))), none⟩]) .ret) .skip)))) (.reg [⟨(some 16), (.mv (.t 5)), none⟩, ⟨(some 17), (.bin .add .i64 (.t 16) (.c (.int .i64 1))), none⟩, ⟨(some 5), (.mv (.t 17)), none⟩])))))) (.seq (.reg [⟨(some 4), (.mv (.c (.bool true))), none⟩]) .ret))))

set_option maxRecDepth 100000 in
theorem k_rtraces : compileC Try.prog ann (Try.f17.body.getD .skip) = some c_rtraces := by kernel_rfl

theorem s_rtraces {args : List AV} {σ : St} {K : AV → St → Prop} (h : WF σ → T Try.prog ann c_rtraces (Fin σ [(.t 4)] K) (args ++ List.replicate (44 - args.length) (.tup [])) σ) : ACalls Try.prog n_rtraces args σ K :=
  calls_ok Try.func17 (by kernel_rfl) (by kernel_rfl) k_rtraces (by kernel_rfl) (by kernel_rfl) h

abbrev n_up05 : Nat := 12

def c_up05 : C := (.seq (.reg [⟨(some 0), (.mv (.c (.bool false))), none⟩]) (.seq (.reg [⟨(some 6), (.call 18 [(.c (.sl [] .nil))]), none⟩, ⟨(some 5), (.mv (.t 6)), none⟩, ⟨(some 7), (.ext (.t 5) 0), none⟩, ⟨(some 8), (.ext (.t 5) 1), none⟩, ⟨(some 1), (.mv (.t 7)), none⟩, ⟨(some 2), (.mv (.t 8)), none⟩]) (.seq (.reg [⟨(some 10), (.call 19 [(.c (.sl [] .nil))]), none⟩, ⟨(some 9), (.mv (.t 10)), none⟩, ⟨(some 11), (.ext (.t 9) 0), none⟩, ⟨(some 12), (.ext (.t 9) 1), none⟩, ⟨(some 3), (.mv (.t 11)), none⟩, ⟨(some 4), (.mv (.t 12)), none⟩]) (.seq (.reg [⟨(some 13), (.mv (.t 2)), none⟩, ⟨(some 14), (.eqI false true [(31, .i64)] (.t 13) (.c .nili)), none⟩, ⟨(some 15), (.mv (.t 14)), none⟩, ⟨(some 16), (.mv (.t 1)), (some (15, true))⟩, ⟨(some 17), (.len (.t 16)), (some (15, true))⟩, ⟨(some 18), (.bin .eql .i64 (.t 17) (.c (.int .i64 6))), (some (15, true))⟩, ⟨(some 19), (.pick (.t 15) (.t 18) (.c (.bool false))), none⟩, ⟨(some 20), (.mv (.t 19)), none⟩, ⟨(some 21), (.mv (.t 1)), (some (20, true))⟩, ⟨(some 22), (.iaddr 1 (.t 21) (.c (.int .i64 0))), (some (20, true))⟩, ⟨(some 23), (.load none (.t 22)), (some (20, true))⟩, ⟨(some 24), (.bin .eql .u8 (.t 23) (.c (.int .u8 0))), (some (20, true))⟩, ⟨(some 25), (.pick (.t 20) (.t 24) (.c (.bool false))), none⟩, ⟨(some 26), (.mv (.t 25)), none⟩, ⟨(some 27), (.mv (.t 1)), (some (26, true))⟩, ⟨(some 28), (.iaddr 1 (.t 27) (.c (.int .i64 1))), (some (26, true))⟩, ⟨(some 29), (.load none (.t 28)), (some (26, true))⟩, ⟨(some 30), (.bin .eql .u8 (.t 29) (.c (.int .u8 0))), (some (26, true))⟩, ⟨(some 31), (.pick (.t 26) (.t 30) (.c (.bool false))), none⟩, ⟨(some 32), (.mv (.t 31)), none⟩, ⟨(some 33), (.mv (.t 4)), (some (32, true))⟩, ⟨(some 34), (.mkI 31 (.c (.int .i64 2))), (some (32, true))⟩, ⟨(some 35), (.eqI false false [(31, .i64)] (.t 33) (.t 34)), (some (32, true))⟩, ⟨(some 36), (.pick (.t 32) (.t 35) (.c (.bool false))), none⟩, ⟨(some 0), (.mv (.t 36)), none⟩]) .ret))))

set_option maxRecDepth 100000 in
theorem k_up05 : compileC Try.prog ann (Try.f12.body.getD .skip) = some c_up05 := by kernel_rfl

theorem s_up05 {args : List AV} {σ : St} {K : AV → St → Prop} (h : WF σ → T Try.prog ann c_up05 (Fin σ [(.t 0)] K) (args ++ List.replicate (37 - args.length) (.tup [])) σ) : ACalls Try.prog n_up05 args σ K :=
  calls_ok Try.func12 (by kernel_rfl) (by kernel_rfl) k_up05 (by kernel_rfl) (by kernel_rfl) h

end Go.VL

namespace Go.VL

open Go.Proofs

def textB (s : List UInt8) : List UInt8 := beB 2 s.length ++ s

theorem textB_len (s : List UInt8) : (textB s).length = s.length + 2 := by simp [textB, beB_len]; omega

/-- the numbers of a span, as they are put -/
def spanN (s : Sp) : List Nat := [s.tr, s.id, s.st.toNat, s.en.toNat]

def spanB (s : Sp) : List UInt8 := runB (spanN s) ++ textB s.da

theorem spanB_len (s : Sp) : (spanB s).length = s.da.length + 34 := by simp [spanB, runB_len, spanN, textB_len]; omega

def spansB (l : List Sp) : List UInt8 := beB 2 l.length ++ l.flatMap spanB

theorem wtext_ok {l s : List UInt8} {g g' : Ver} {σ : St} (hl : l.length ≤ 1000000000) (hs : s.length ≤ 65535) :
    ACalls Try.prog n_wtext [.sl (bytesAV l) g, .sl (bytesAV s) g'] σ (fun v σ' => v = .tup [.sl (bytesAV (l ++ textB s)) .none, .nili] ∧ σ' = σ) := by
  refine s_wtext (fun wf => ?_)
  unfold c_wtext
  have e1 : decide ((s.length : Int) > 65535) = false := decide_eq_false (by omega)
  refine T.seq_k (fun K_h0 h0 => ?_)
  refine T.regi hm ?_
  simp only [↓reduceIte, namesOf, List.any, I.names, aops, aopsI, aopsT, qstep, CPt, qget, Tbl.get, astep, ev, setd, List.set, List.getD, List.getElem?_cons_zero, List.getElem?_cons_succ, List.getElem?_nil, List.cons_append, List.nil_append, List.length_cons, List.length_nil, List.replicate, then_normal, inBlock_normal, Option.getD_some, Option.getD_none, Bool.or_false, Bool.or_true, Bool.true_or, Bool.false_or, Bool.false_eq_true, if_false, if_true, up_zero, Nat.reduceAdd, Nat.reduceSub, binv, ↓opt_def, AV.isAny, AV.cells, ldc, List.map_cons, List.map_nil, St.set_next, St.set_same, St.up_next, Int.natCast_nonneg, lt_len, le_len, Int.toNat_natCast, true_and, and_true, eq_self, reduceCtorEq, decide_true, List.length_singleton, er_int, er_bool, er_str]
  refine h0 _ _ ?_
  try clear h0 K_h0
  refine T.seq_k (fun K_h1 h1 => ?_)
  refine T.seq_k (fun K_h0 h0 => ?_)
  refine T.regi hm ?_
  simp only [↓reduceIte, namesOf, List.any, I.names, aops, aopsI, aopsT, qstep, CPt, qget, Tbl.get, astep, ev, setd, List.set, List.getD, List.getElem?_cons_zero, List.getElem?_cons_succ, List.getElem?_nil, List.cons_append, List.nil_append, List.length_cons, List.length_nil, List.replicate, then_normal, inBlock_normal, Option.getD_some, Option.getD_none, Bool.or_false, Bool.or_true, Bool.true_or, Bool.false_or, Bool.false_eq_true, if_false, if_true, up_zero, Nat.reduceAdd, Nat.reduceSub, binv, ↓opt_def, AV.isAny, AV.cells, ldc, List.map_cons, List.map_nil, St.set_next, St.set_same, St.up_next, Int.natCast_nonneg, lt_len, le_len, Int.toNat_natCast, true_and, and_true, eq_self, reduceCtorEq, decide_true, List.length_singleton, er_int, er_bool, er_str, bytesAV_len, e1]
  refine h0 _ _ ?_
  try clear h0 K_h0
  refine T.cond rfl (fun h => by cases h) (fun _ => T.skip ?_)
  refine h1 _ _ ?_
  try clear h1 K_h1
  have e2 := u64w (n := s.length) (by omega)
  refine T.seq_k (fun K_h1 h1 => ?_)
  refine T.regi hm ?_
  simp only [↓reduceIte, namesOf, List.any, I.names, aops, aopsI, aopsT, qstep, CPt, qget, Tbl.get, astep, ev, setd, List.set, List.getD, List.getElem?_cons_zero, List.getElem?_cons_succ, List.getElem?_nil, List.cons_append, List.nil_append, List.length_cons, List.length_nil, List.replicate, then_normal, inBlock_normal, Option.getD_some, Option.getD_none, Bool.or_false, Bool.or_true, Bool.true_or, Bool.false_or, Bool.false_eq_true, if_false, if_true, up_zero, Nat.reduceAdd, Nat.reduceSub, binv, ↓opt_def, AV.isAny, AV.cells, ldc, List.map_cons, List.map_nil, St.set_next, St.set_same, St.up_next, Int.natCast_nonneg, lt_len, le_len, Int.toNat_natCast, true_and, and_true, eq_self, reduceCtorEq, decide_true, List.length_singleton, er_int, er_bool, er_str, bytesAV_len, e2]
  refine (wput_ok (w := 2) (by omega) rfl (fun _ => by omega)).mono ?_
  rintro v σ1 ⟨h, o1, rfl⟩
  try simp only [↓reduceIte, namesOf, List.any, I.names, aops, aopsI, aopsT, qstep, CPt, qget, Tbl.get, astep, ev, setd, List.set, List.getD, List.getElem?_cons_zero, List.getElem?_cons_succ, List.getElem?_nil, List.cons_append, List.nil_append, List.length_cons, List.length_nil, List.replicate, then_normal, inBlock_normal, Option.getD_some, Option.getD_none, Bool.or_false, Bool.or_true, Bool.true_or, Bool.false_or, Bool.false_eq_true, if_false, if_true, up_zero, Nat.reduceAdd, Nat.reduceSub, binv, ↓opt_def, AV.isAny, AV.cells, ldc, List.map_cons, List.map_nil, St.set_next, St.set_same, St.up_next, Int.natCast_nonneg, lt_len, le_len, Int.toNat_natCast, true_and, and_true, eq_self, reduceCtorEq, decide_true, List.length_singleton, er_int, er_bool, er_str, up_zero]
  refine h1 _ _ ?_
  try clear h1 K_h1
  have hat := (Tq.one o1).ats
  have hle : decide ((l.length + 2 + s.length) * 1 ≤ 70368744177664 ∧ l.length + 2 + s.length ≤ 4611686018427387904) = true := app_le (by omega)
  refine T.seq_k (fun K_h1 h1 => ?_)
  refine T.regi hm ?_
  simp only [↓reduceIte, namesOf, List.any, I.names, aops, aopsI, aopsT, qstep, CPt, qget, Tbl.get, astep, ev, setd, List.set, List.getD, List.getElem?_cons_zero, List.getElem?_cons_succ, List.getElem?_nil, List.cons_append, List.nil_append, List.length_cons, List.length_nil, List.replicate, then_normal, inBlock_normal, Option.getD_some, Option.getD_none, Bool.or_false, Bool.or_true, Bool.true_or, Bool.false_or, Bool.false_eq_true, if_false, if_true, up_zero, Nat.reduceAdd, Nat.reduceSub, binv, ↓opt_def, AV.isAny, AV.cells, ldc, List.map_cons, List.map_nil, St.set_next, St.set_same, St.up_next, Int.natCast_nonneg, lt_len, le_len, Int.toNat_natCast, true_and, and_true, eq_self, reduceCtorEq, decide_true, List.length_singleton, er_int, er_bool, er_str, held, srcOf, bytesAV_er, bytesAV_app, bytes_all, bytesAV_len, List.length_append, Bool.and_self, St.up_res, List.isEmpty, hat, beB_len, hle]
  refine h1 _ _ ?_
  try clear h1 K_h1
  have q := (Tq.one o1).app (n := 6) (i := 2) (by omega)
  refine T.ret (Fin.quietw rfl (Wk.tup2 (Wk.sl _ _)) ⟨⟨nb_bytes _ _, trivial⟩, trivial, trivial⟩ (q.quiet wf) ⟨?_, rfl⟩)
  rw [textB, List.append_assoc]; rfl

theorem mayI_facts {s e n : Int} (h : mayI s e n = true) : 0 ≤ s ∧ s ≤ e ∧ e ≤ 1099511627776 ∧ n ≤ 64 := by
  unfold mayI at h; simpa using h

theorem mayS_facts {s : Sp} (h : mayS s = true) : 0 ≤ s.st ∧ s.st ≤ s.en ∧ s.en ≤ 1099511627776 ∧ s.da.length ≤ 64 := by
  have := mayI_facts h; omega

/-- a span whose Ids are words -/
def Sp.wd (s : Sp) : Prop := s.tr < 18446744073709551616 ∧ s.id < 18446744073709551616

set_option maxRecDepth 10000 in
set_option maxHeartbeats 1000000 in
theorem sput1_ok {s : Sp} {σ : St} (hm : mayS s = true) :
    ACalls Try.prog n_sput1 [.agg [.int .u64 (s.tr : Int), .int .u64 (s.id : Int), .int .i64 s.st, .int .i64 s.en, .sl (bytesAV s.da) .none]] σ (fun v σ' => v = .tup [.sl (bytesAV (spanB s)) .none, .nili] ∧ σ' = σ) := by
  refine s_sput1 (fun wf => ?_)
  unfold c_sput1
  obtain ⟨m1, m2, m3, m4⟩ := mayS_facts hm
  have hm := VL.hm
  refine T.seq_k (fun K_h1 h1 => ?_)
  refine T.regi hm ?_
  simp only [↓reduceIte, namesOf, List.any, I.names, aops, aopsI, aopsT, qstep, CPt, qget, Tbl.get, astep, ev, setd, List.set, List.getD, List.getElem?_cons_zero, List.getElem?_cons_succ, List.getElem?_nil, List.cons_append, List.nil_append, List.length_cons, List.length_nil, List.replicate, then_normal, inBlock_normal, Option.getD_some, Option.getD_none, Bool.or_false, Bool.or_true, Bool.true_or, Bool.false_or, Bool.false_eq_true, if_false, if_true, up_zero, Nat.reduceAdd, Nat.reduceSub, binv, ↓opt_def, AV.isAny, AV.cells, ldc, List.map_cons, List.map_nil, St.set_next, St.set_same, St.up_next, Int.natCast_nonneg, lt_len, le_len, Int.toNat_natCast, true_and, and_true, eq_self, reduceCtorEq, decide_true, List.length_singleton, er_int, er_bool, er_str]
  have k0 : Like σ ((σ.up 3).set (σ.next + 0) (.obj [.int .u64 (s.tr : Int), .int .u64 (s.id : Int), .int .i64 s.st, .int .i64 s.en, .sl (bytesAV s.da) .none])) := (Like.refl σ).box _
  have hb : ((σ.up 3).set (σ.next + 0) (.obj [.int .u64 (s.tr : Int), .int .u64 (s.id : Int), .int .i64 s.st, .int .i64 s.en, .sl (bytesAV s.da) .none])).res (σ.next + 0) = some (.obj [.int .u64 (s.tr : Int), .int .u64 (s.id : Int), .int .i64 s.st, .int .i64 s.en, .sl (bytesAV s.da) .none]) := by simp
  generalize ((σ.up 3).set (σ.next + 0) (.obj [.int .u64 (s.tr : Int), .int .u64 (s.id : Int), .int .i64 s.st, .int .i64 s.en, .sl (bytesAV s.da) .none])) = τ at k0 hb ⊢
  generalize σ.next + 0 = a at hb ⊢
  refine h1 _ _ ?_
  try clear h1 K_h1
  refine T.seq_k (fun K_h0 h0 => ?_)
  refine T.regi hm ?_
  simp only [↓reduceIte, namesOf, List.any, I.names, aops, aopsI, aopsT, qstep, CPt, qget, Tbl.get, astep, ev, setd, List.set, List.getD, List.getElem?_cons_zero, List.getElem?_cons_succ, List.getElem?_nil, List.cons_append, List.nil_append, List.length_cons, List.length_nil, List.replicate, then_normal, inBlock_normal, Option.getD_some, Option.getD_none, Bool.or_false, Bool.or_true, Bool.true_or, Bool.false_or, Bool.false_eq_true, if_false, if_true, up_zero, Nat.reduceAdd, Nat.reduceSub, binv, ↓opt_def, AV.isAny, AV.cells, ldc, List.map_cons, List.map_nil, St.set_next, St.set_same, St.up_next, Int.natCast_nonneg, lt_len, le_len, Int.toNat_natCast, true_and, and_true, eq_self, reduceCtorEq, decide_true, List.length_singleton, er_int, er_bool, er_str]
  refine h0 _ _ ?_
  try clear h0 K_h0
  refine T.seq_k (fun K_h1 h1 => ?_)
  have e1 : IntKind.u64.wrap s.st = ((s.st.toNat : Nat) : Int) := by
    have := u64w (n := s.st.toNat) (by omega)
    rw [Int.toNat_of_nonneg m1] at this
    rw [this, Int.toNat_of_nonneg m1]
  have e2 : IntKind.u64.wrap s.en = ((s.en.toNat : Nat) : Int) := by
    have := u64w (n := s.en.toNat) (by omega)
    rw [Int.toNat_of_nonneg (by omega)] at this
    rw [this, Int.toNat_of_nonneg (by omega)]
  have hn : [AV.int .u64 (s.tr : Int), .int .u64 (s.id : Int), .int .u64 ((s.st.toNat : Nat) : Int), .int .u64 ((s.en.toNat : Nat) : Int)] = nums .u64 (natI (spanN s)) := rfl
  have hnl : (nums .u64 (natI (spanN s))).length = 4 := rfl
  refine T.seq_k (fun K_h0 h0 => ?_)
  refine T.regi hm ?_
  simp only [↓reduceIte, namesOf, List.any, I.names, aops, aopsI, aopsT, qstep, CPt, qget, Tbl.get, astep, ev, setd, List.set, List.getD, List.getElem?_cons_zero, List.getElem?_cons_succ, List.getElem?_nil, List.cons_append, List.nil_append, List.length_cons, List.length_nil, List.replicate, then_normal, inBlock_normal, Option.getD_some, Option.getD_none, Bool.or_false, Bool.or_true, Bool.true_or, Bool.false_or, Bool.false_eq_true, if_false, if_true, up_zero, Nat.reduceAdd, Nat.reduceSub, binv, ↓opt_def, AV.isAny, AV.cells, ldc, List.map_cons, List.map_nil, St.set_next, St.set_same, St.up_next, Int.natCast_nonneg, lt_len, le_len, Int.toNat_natCast, true_and, and_true, eq_self, reduceCtorEq, decide_true, List.length_singleton, er_int, er_bool, er_str, hb, e1, e2, held, hn, AV.fits, AV.one, List.all_cons, List.all_nil, Nat.reduceBEq, Bool.and_true, Bool.not_false, Bool.and_self, Nat.zero_add, splice, List.take, List.drop, Nat.reduceLeDiff]
  refine h0 _ _ ?_
  try clear h0 K_h0
  refine T.block ?_
  refine T.gh (Gh.keep [1, 4, 19, 20, 21]) ?_
  refine T.loopi (fun i ρ t => t = τ ∧ ∃ v, ρ = [.any, .ptr a 0, .any, .any, .sl (bytesAV (runB ((spanN s).take i))) v] ++ List.replicate 14 .any ++ [.sl (nums .u64 (natI (spanN s))) .none, .int .i64 4, .int .i64 (i : Int)] ++ List.replicate 20 .any)
    4 0 (Nat.zero_le _) ⟨rfl, .nil, rfl⟩ ?_
  rintro i ρ t hi ⟨rfl, v, rfl⟩
  refine T.seq_k (fun K_h0 h0 => ?_)
  refine T.regi hm ?_
  simp only [↓reduceIte, namesOf, List.any, I.names, aops, aopsI, aopsT, qstep, CPt, qget, Tbl.get, astep, ev, setd, List.set, List.getD, List.getElem?_cons_zero, List.getElem?_cons_succ, List.getElem?_nil, List.cons_append, List.nil_append, List.length_cons, List.length_nil, List.replicate, then_normal, inBlock_normal, Option.getD_some, Option.getD_none, Bool.or_false, Bool.or_true, Bool.true_or, Bool.false_or, Bool.false_eq_true, if_false, if_true, up_zero, Nat.reduceAdd, Nat.reduceSub, binv, ↓opt_def, AV.isAny, AV.cells, ldc, List.map_cons, List.map_nil, St.set_next, St.set_same, St.up_next, Int.natCast_nonneg, lt_len, le_len, Int.toNat_natCast, true_and, and_true, eq_self, reduceCtorEq, decide_true, List.length_singleton, er_int, er_bool, er_str]
  refine h0 _ _ ?_
  try clear h0 K_h0
  refine T.seq_k (fun K_h2 h2 => ?_)
  by_cases hil : i < 4
  case neg =>
    have : i = 4 := by omega
    subst this
    refine T.cond (b := false) (by simp [ev]) (fun h => by cases h) (fun _ => T.exit ?_)
    try simp only [↓reduceIte, namesOf, List.any, I.names, aops, aopsI, aopsT, qstep, CPt, qget, Tbl.get, astep, ev, setd, List.set, List.getD, List.getElem?_cons_zero, List.getElem?_cons_succ, List.getElem?_nil, List.cons_append, List.nil_append, List.length_cons, List.length_nil, List.replicate, then_normal, inBlock_normal, Option.getD_some, Option.getD_none, Bool.or_false, Bool.or_true, Bool.true_or, Bool.false_or, Bool.false_eq_true, if_false, if_true, up_zero, Nat.reduceAdd, Nat.reduceSub, binv, ↓opt_def, AV.isAny, AV.cells, ldc, List.map_cons, List.map_nil, St.set_next, St.set_same, St.up_next, Int.natCast_nonneg, lt_len, le_len, Int.toNat_natCast, true_and, and_true, eq_self, reduceCtorEq, decide_true, List.length_singleton, er_int, er_bool, er_str, inBlock_exit, then_exit]
    refine h1 _ _ ?_
    try clear h1 K_h1
    refine T.seq_k (fun K_h1 h1 => ?_)
    have ht : (spanN s).take 4 = spanN s := rfl
    rw [ht]
    refine T.regi hm ?_
    simp only [↓reduceIte, namesOf, List.any, I.names, aops, aopsI, aopsT, qstep, CPt, qget, Tbl.get, astep, ev, setd, List.set, List.getD, List.getElem?_cons_zero, List.getElem?_cons_succ, List.getElem?_nil, List.cons_append, List.nil_append, List.length_cons, List.length_nil, List.replicate, then_normal, inBlock_normal, Option.getD_some, Option.getD_none, Bool.or_false, Bool.or_true, Bool.true_or, Bool.false_or, Bool.false_eq_true, if_false, if_true, up_zero, Nat.reduceAdd, Nat.reduceSub, binv, ↓opt_def, AV.isAny, AV.cells, ldc, List.map_cons, List.map_nil, St.set_next, St.set_same, St.up_next, Int.natCast_nonneg, lt_len, le_len, Int.toNat_natCast, true_and, and_true, eq_self, reduceCtorEq, decide_true, List.length_singleton, er_int, er_bool, er_str, hb]
    refine (wtext_ok (by rw [runB_len]; simp [spanN]) (by omega)).mono ?_
    rintro w t2 ⟨rfl, rfl⟩
    try simp only [↓reduceIte, namesOf, List.any, I.names, aops, aopsI, aopsT, qstep, CPt, qget, Tbl.get, astep, ev, setd, List.set, List.getD, List.getElem?_cons_zero, List.getElem?_cons_succ, List.getElem?_nil, List.cons_append, List.nil_append, List.length_cons, List.length_nil, List.replicate, then_normal, inBlock_normal, Option.getD_some, Option.getD_none, Bool.or_false, Bool.or_true, Bool.true_or, Bool.false_or, Bool.false_eq_true, if_false, if_true, up_zero, Nat.reduceAdd, Nat.reduceSub, binv, ↓opt_def, AV.isAny, AV.cells, ldc, List.map_cons, List.map_nil, St.set_next, St.set_same, St.up_next, Int.natCast_nonneg, lt_len, le_len, Int.toNat_natCast, true_and, and_true, eq_self, reduceCtorEq, decide_true, List.length_singleton, er_int, er_bool, er_str, up_zero]
    refine h1 _ _ ?_
    try clear h1 K_h1
    exact T.ret (Fin.quiet rfl ⟨⟨nb_bytes _ _, trivial⟩, trivial, trivial⟩ (k0.quiet wf) ⟨rfl, rfl⟩)
  refine T.cond (b := true) (by simp [ev]; omega) (fun _ => T.skip ?_) (fun h => by cases h)
  refine h2 _ _ ?_
  try clear h2 K_h2
  have hiw := inc64' hil (by omega)
  have hil' : i < (spanN s).length := hil
  have hg := natI_get hil'
  have htk := runB_take hil'
  have hlen : (runB ((spanN s).take i)).length ≤ 1000 := by rw [runB_len, List.length_take]; omega
  have hilI : (i : Int) < ((4 : Nat) : Int) := by omega
  refine T.seq_k (fun K_h2 h2 => ?_)
  refine T.block ?_
  refine T.seq_k (fun K_h0 h0 => ?_)
  refine T.regi hm ?_
  simp only [↓reduceIte, namesOf, List.any, I.names, aops, aopsI, aopsT, qstep, CPt, qget, Tbl.get, astep, ev, setd, List.set, List.getD, List.getElem?_cons_zero, List.getElem?_cons_succ, List.getElem?_nil, List.cons_append, List.nil_append, List.length_cons, List.length_nil, List.replicate, then_normal, inBlock_normal, Option.getD_some, Option.getD_none, Bool.or_false, Bool.or_true, Bool.true_or, Bool.false_or, Bool.false_eq_true, if_false, if_true, up_zero, Nat.reduceAdd, Nat.reduceSub, binv, ↓opt_def, AV.isAny, AV.cells, ldc, List.map_cons, List.map_nil, St.set_next, St.set_same, St.up_next, Int.natCast_nonneg, lt_len, le_len, Int.toNat_natCast, true_and, and_true, eq_self, reduceCtorEq, decide_true, List.length_singleton, er_int, er_bool, er_str, hnl, hg, hilI]
  refine h0 _ _ ?_
  try clear h0 K_h0
  refine T.seq_k (fun K_h3 h3 => ?_)
  refine T.regi hm ?_
  simp only [↓reduceIte, namesOf, List.any, I.names, aops, aopsI, aopsT, qstep, CPt, qget, Tbl.get, astep, ev, setd, List.set, List.getD, List.getElem?_cons_zero, List.getElem?_cons_succ, List.getElem?_nil, List.cons_append, List.nil_append, List.length_cons, List.length_nil, List.replicate, then_normal, inBlock_normal, Option.getD_some, Option.getD_none, Bool.or_false, Bool.or_true, Bool.true_or, Bool.false_or, Bool.false_eq_true, if_false, if_true, up_zero, Nat.reduceAdd, Nat.reduceSub, binv, ↓opt_def, AV.isAny, AV.cells, ldc, List.map_cons, List.map_nil, St.set_next, St.set_same, St.up_next, Int.natCast_nonneg, lt_len, le_len, Int.toNat_natCast, true_and, and_true, eq_self, reduceCtorEq, decide_true, List.length_singleton, er_int, er_bool, er_str]
  refine (wput_q (w := 8) (by omega) rfl (fun h => by omega)).mono ?_
  rintro w t2 ⟨rfl, rfl⟩
  rw [← htk]
  try simp only [↓reduceIte, namesOf, List.any, I.names, aops, aopsI, aopsT, qstep, CPt, qget, Tbl.get, astep, ev, setd, List.set, List.getD, List.getElem?_cons_zero, List.getElem?_cons_succ, List.getElem?_nil, List.cons_append, List.nil_append, List.length_cons, List.length_nil, List.replicate, then_normal, inBlock_normal, Option.getD_some, Option.getD_none, Bool.or_false, Bool.or_true, Bool.true_or, Bool.false_or, Bool.false_eq_true, if_false, if_true, up_zero, Nat.reduceAdd, Nat.reduceSub, binv, ↓opt_def, AV.isAny, AV.cells, ldc, List.map_cons, List.map_nil, St.set_next, St.set_same, St.up_next, Int.natCast_nonneg, lt_len, le_len, Int.toNat_natCast, true_and, and_true, eq_self, reduceCtorEq, decide_true, List.length_singleton, er_int, er_bool, er_str, up_zero]
  refine h3 _ _ ?_
  try clear h3 K_h3
  refine T.seq_k (fun K_h3 h3 => ?_)
  refine T.seq_k (fun K_h0 h0 => ?_)
  refine T.regi hm ?_
  simp only [↓reduceIte, namesOf, List.any, I.names, aops, aopsI, aopsT, qstep, CPt, qget, Tbl.get, astep, ev, setd, List.set, List.getD, List.getElem?_cons_zero, List.getElem?_cons_succ, List.getElem?_nil, List.cons_append, List.nil_append, List.length_cons, List.length_nil, List.replicate, then_normal, inBlock_normal, Option.getD_some, Option.getD_none, Bool.or_false, Bool.or_true, Bool.true_or, Bool.false_or, Bool.false_eq_true, if_false, if_true, up_zero, Nat.reduceAdd, Nat.reduceSub, binv, ↓opt_def, AV.isAny, AV.cells, ldc, List.map_cons, List.map_nil, St.set_next, St.set_same, St.up_next, Int.natCast_nonneg, lt_len, le_len, Int.toNat_natCast, true_and, and_true, eq_self, reduceCtorEq, decide_true, List.length_singleton, er_int, er_bool, er_str, eqIv, bne_self_eq_false]
  refine h0 _ _ ?_
  try clear h0 K_h0
  refine T.cond rfl (fun h => by cases h) (fun _ => T.skip ?_)
  refine h3 _ _ ?_
  try clear h3 K_h3
  refine T.regi hm ?_
  simp only [↓reduceIte, namesOf, List.any, I.names, aops, aopsI, aopsT, qstep, CPt, qget, Tbl.get, astep, ev, setd, List.set, List.getD, List.getElem?_cons_zero, List.getElem?_cons_succ, List.getElem?_nil, List.cons_append, List.nil_append, List.length_cons, List.length_nil, List.replicate, then_normal, inBlock_normal, Option.getD_some, Option.getD_none, Bool.or_false, Bool.or_true, Bool.true_or, Bool.false_or, Bool.false_eq_true, if_false, if_true, up_zero, Nat.reduceAdd, Nat.reduceSub, binv, ↓opt_def, AV.isAny, AV.cells, ldc, List.map_cons, List.map_nil, St.set_next, St.set_same, St.up_next, Int.natCast_nonneg, lt_len, le_len, Int.toNat_natCast, true_and, and_true, eq_self, reduceCtorEq, decide_true, List.length_singleton, er_int, er_bool, er_str]
  refine h2 _ _ ?_
  try clear h2 K_h2
  refine T.regi hm ?_
  simp only [↓reduceIte, namesOf, List.any, I.names, aops, aopsI, aopsT, qstep, CPt, qget, Tbl.get, astep, ev, setd, List.set, List.getD, List.getElem?_cons_zero, List.getElem?_cons_succ, List.getElem?_nil, List.cons_append, List.nil_append, List.length_cons, List.length_nil, List.replicate, then_normal, inBlock_normal, Option.getD_some, Option.getD_none, Bool.or_false, Bool.or_true, Bool.true_or, Bool.false_or, Bool.false_eq_true, if_false, if_true, up_zero, Nat.reduceAdd, Nat.reduceSub, binv, ↓opt_def, AV.isAny, AV.cells, ldc, List.map_cons, List.map_nil, St.set_next, St.set_same, St.up_next, Int.natCast_nonneg, lt_len, le_len, Int.toNat_natCast, true_and, and_true, eq_self, reduceCtorEq, decide_true, List.length_singleton, er_int, er_bool, er_str, hiw]
  exact ⟨hil, _, _, Gh.keep [1, 4, 19, 20, 21], rfl, .none, rfl⟩

end Go.VL

namespace Go.VL

open Go.Proofs

theorem bytesAV_inj {a b : List UInt8} (h : bytesAV a = bytesAV b) : a = b := by
  have := congrArg toBytes h
  rw [toBytes_bytes, toBytes_bytes] at this
  exact Option.some.inj this

theorem spav_inj {a b : Sp} (h : a.av = b.av) : a = b := by
  obtain ⟨a1, a2, a3, a4, a5⟩ := a
  obtain ⟨b1, b2, b3, b4, b5⟩ := b
  simp only [Sp.av, AV.agg.injEq, List.cons.injEq, AV.int.injEq, true_and, AV.sl.injEq, and_true] at h
  obtain ⟨h1, h2, h3, h4, h5⟩ := h
  simp only [Sp.mk.injEq]
  exact ⟨by omega, by omega, h3, h4, bytesAV_inj h5⟩

theorem spsAV_inj : ∀ {a b : List Sp}, spsAV a = spsAV b → a = b
  | [], [], _ => rfl
  | [], _ :: _, h => by cases h
  | _ :: _, [], h => by cases h
  | x :: a, y :: b, h => by
    simp only [spsAV, List.map_cons, List.cons.injEq] at h
    rw [spav_inj h.1, spsAV_inj (a := a) (b := b) h.2]

open Classical in
noncomputable def g_one (args : List AV) : Option AV :=
  if h : ∃ t : Tc, args = [.agg [.int .u64 (t.id : Int), .sl (spsAV t.sp) .none]] ∧ t.sp.length ≤ 9223372036854775807 then some (.bool (oneB h.choose)) else none

theorem one_inj {t c : Tc} (h : [AV.agg [.int .u64 (t.id : Int), .sl (spsAV t.sp) .none]] = [.agg [.int .u64 (c.id : Int), .sl (spsAV c.sp) .none]]) : c = t := by
  simp only [List.cons.injEq, and_true, AV.agg.injEq, AV.int.injEq, true_and, AV.sl.injEq] at h
  obtain ⟨i, sp⟩ := t
  obtain ⟨j, sq⟩ := c
  simp only at h
  have e1 : i = j := Int.ofNat.inj h.1
  have e2 := spsAV_inj h.2
  rw [e1, e2]

theorem g_one_eq {t : Tc} (hl : t.sp.length ≤ 9223372036854775807) : g_one [.agg [.int .u64 (t.id : Int), .sl (spsAV t.sp) .none]] = some (.bool (oneB t)) := by
  unfold g_one
  have hex : ∃ t' : Tc, [AV.agg [.int .u64 (t.id : Int), .sl (spsAV t.sp) .none]] = [.agg [.int .u64 (t'.id : Int), .sl (spsAV t'.sp) .none]] ∧ t'.sp.length ≤ 9223372036854775807 := ⟨t, rfl, hl⟩
  rw [dif_pos hex]
  have this : hex.choose = t := one_inj hex.choose_spec.1
  rw [this]

theorem one_pure : PureC Try.prog n_one g_one := by
  intro args σ v h
  unfold g_one at h
  split at h
  · rename_i hex
    simp only [Option.some.injEq] at h; subst h
    have hc := hex.choose_spec
    generalize hex.choose = c at hc
    obtain ⟨rfl, hl⟩ := hc
    exact tone_ok hl
  · cases h

noncomputable def tO : Tbl := [(n_one, g_one)]

theorem tO_ok : tO.ok Try.prog := Tbl.ok_cons one_pure Tbl.ok_nil

def isAt (l : List Tc) (i : Nat) : Bool := match l[i]? with
  | some t => oneB t && (i == 0 || (match l[i - 1]? with | some p => decide (p.id < t.id) | none => false))
  | none => false

def isB (l : List Tc) : Bool := (List.range l.length).all (isAt l)

theorem is_false {l : List Tc} {i : Nat} (hi : i < l.length) (h : isAt l i = false) : isB l = false := by
  unfold isB
  rw [Bool.eq_false_iff]
  intro hh
  have := List.all_eq_true.1 hh i (by simpa using hi)
  rw [h] at this; cases this

theorem tcav' (t : Tc) : t.av = .agg [.int .u64 (t.id : Int), .sl (spsAV t.sp) .none] := rfl

set_option maxRecDepth 10000 in
theorem is_ok {l : List Tc} {g : Ver} {σ : St} (hl : l.length ≤ 9223372036854775807) (hs : ∀ t ∈ l, t.sp.length ≤ 9223372036854775807) : ACalls Try.prog n_is [.sl (tcsAV l) g] σ (fun v σ' => v = .bool (isB l) ∧ σ' = σ) := by
  refine s_is (fun wf => ?_)
  unfold c_is
  refine T.seq_k (fun K_h1 h1 => ?_)
  refine T.regi hm ?_
  simp only [↓reduceIte, namesOf, List.any, I.names, aops, aopsI, aopsT, qstep, CPt, qget, Tbl.get, astep, ev, setd, List.set, List.getD, List.getElem?_cons_zero, List.getElem?_cons_succ, List.getElem?_nil, List.cons_append, List.nil_append, List.length_cons, List.length_nil, List.replicate, then_normal, inBlock_normal, Option.getD_some, Option.getD_none, Bool.or_false, Bool.or_true, Bool.true_or, Bool.false_or, Bool.false_eq_true, if_false, if_true, up_zero, Nat.reduceAdd, Nat.reduceSub, binv, ↓opt_def, AV.isAny, AV.cells, ldc, List.map_cons, List.map_nil, St.set_next, St.set_same, St.up_next, Int.natCast_nonneg, lt_len, le_len, Int.toNat_natCast, true_and, and_true, eq_self, reduceCtorEq, decide_true, List.length_singleton, er_int, er_bool, er_str]
  refine h1 _ _ ?_
  try clear h1 K_h1
  refine T.seq_k (fun K_h1 h1 => ?_)
  refine T.seq_k (fun K_h2 h2 => ?_)
  refine T.regi hm ?_
  simp only [↓reduceIte, namesOf, List.any, I.names, aops, aopsI, aopsT, qstep, CPt, qget, Tbl.get, astep, ev, setd, List.set, List.getD, List.getElem?_cons_zero, List.getElem?_cons_succ, List.getElem?_nil, List.cons_append, List.nil_append, List.length_cons, List.length_nil, List.replicate, then_normal, inBlock_normal, Option.getD_some, Option.getD_none, Bool.or_false, Bool.or_true, Bool.true_or, Bool.false_or, Bool.false_eq_true, if_false, if_true, up_zero, Nat.reduceAdd, Nat.reduceSub, binv, ↓opt_def, AV.isAny, AV.cells, ldc, List.map_cons, List.map_nil, St.set_next, St.set_same, St.up_next, Int.natCast_nonneg, lt_len, le_len, Int.toNat_natCast, true_and, and_true, eq_self, reduceCtorEq, decide_true, List.length_singleton, er_int, er_bool, er_str, tcs_len]
  refine h2 _ _ ?_
  try clear h2 K_h2
  refine T.block ?_
  refine T.gh (Gh.keep [0, 5, 6, 7]) ?_
  refine T.loopi (fun i ρ σ' => σ.next ≤ σ'.next ∧ (∀ n x, σ.res n = some x → σ'.res n = some x) ∧ (List.range i).all (isAt l) = true ∧ ρ = [.sl (tcsAV l) g, .any, .any, .any, .any, .sl (tcsAV l) g, .int .i64 (l.length : Int), .int .i64 (i : Int)] ++ List.replicate 23 .any)
    l.length 0 (Nat.zero_le _) ⟨Nat.le_refl _, fun _ _ h => h, rfl, rfl⟩ ?_
  rintro i ρ σ' hi ⟨hn, ho, hpre, rfl⟩
  refine T.seq_k (fun K_h2 h2 => ?_)
  refine T.regi hm ?_
  simp only [↓reduceIte, namesOf, List.any, I.names, aops, aopsI, aopsT, qstep, CPt, qget, Tbl.get, astep, ev, setd, List.set, List.getD, List.getElem?_cons_zero, List.getElem?_cons_succ, List.getElem?_nil, List.cons_append, List.nil_append, List.length_cons, List.length_nil, List.replicate, then_normal, inBlock_normal, Option.getD_some, Option.getD_none, Bool.or_false, Bool.or_true, Bool.true_or, Bool.false_or, Bool.false_eq_true, if_false, if_true, up_zero, Nat.reduceAdd, Nat.reduceSub, binv, ↓opt_def, AV.isAny, AV.cells, ldc, List.map_cons, List.map_nil, St.set_next, St.set_same, St.up_next, Int.natCast_nonneg, lt_len, le_len, Int.toNat_natCast, true_and, and_true, eq_self, reduceCtorEq, decide_true, List.length_singleton, er_int, er_bool, er_str]
  refine h2 _ _ ?_
  try clear h2 K_h2
  refine T.seq_k (fun K_h2 h2 => ?_)
  refine T.cond rfl (fun hb => ?_) (fun hb => ?_)
  · refine T.skip ?_
    refine h2 _ _ ?_
    try clear h2 K_h2
    have hil : i < l.length := by simpa using hb
    clear hb
    generalize ht : l[i] = t
    have hti : l[i]? = some t := by rw [← ht]; simp [hil]
    have htl : t.sp.length ≤ 9223372036854775807 := by rw [← ht]; exact hs _ (List.getElem_mem hil)
    refine T.seq_k (fun K_h2 h2 => ?_)
    refine T.block ?_
    refine T.seq_k (fun K_h3 h3 => ?_)
    refine T.regi hm ?_
    simp only [↓reduceIte, namesOf, List.any, I.names, aops, aopsI, aopsT, qstep, CPt, qget, Tbl.get, astep, ev, setd, List.set, List.getD, List.getElem?_cons_zero, List.getElem?_cons_succ, List.getElem?_nil, List.cons_append, List.nil_append, List.length_cons, List.length_nil, List.replicate, then_normal, inBlock_normal, Option.getD_some, Option.getD_none, Bool.or_false, Bool.or_true, Bool.true_or, Bool.false_or, Bool.false_eq_true, if_false, if_true, up_zero, Nat.reduceAdd, Nat.reduceSub, binv, ↓opt_def, AV.isAny, AV.cells, ldc, List.map_cons, List.map_nil, St.set_next, St.set_same, St.up_next, Int.natCast_nonneg, lt_len, le_len, Int.toNat_natCast, true_and, and_true, eq_self, reduceCtorEq, decide_true, List.length_singleton, er_int, er_bool, er_str, tcs_len, tcs_get hil, hil, ht, tcav', AV.fits, AV.one, List.all_cons, List.all_nil, Nat.reduceBEq, Bool.and_true, Bool.not_false, Bool.and_self, Nat.zero_add, splice, List.take, List.drop, Nat.reduceLeDiff, St.set_set]
    have ho2 := set_quiet wf hn ho (k := 6) (.obj [.int .u64 (t.id : Int), .sl (spsAV t.sp) .none]) (a := σ'.next + 3) (by omega)
    have hb5 : ((σ'.up 6).set (σ'.next + 3) (.obj [.int .u64 (t.id : Int), .sl (spsAV t.sp) .none])).res (σ'.next + 3) = some (.obj [.int .u64 (t.id : Int), .sl (spsAV t.sp) .none]) := by simp
    have hn2 : σ.next ≤ ((σ'.up 6).set (σ'.next + 3) (.obj [.int .u64 (t.id : Int), .sl (spsAV t.sp) .none])).next := by simp; omega
    generalize ((σ'.up 6).set (σ'.next + 3) (.obj [.int .u64 (t.id : Int), .sl (spsAV t.sp) .none])) = σ2 at ho2 hb5 hn2 ⊢
    generalize σ'.next + 3 = b at hb5 ⊢
    refine h3 _ _ ?_
    try clear h3 K_h3
    have fin : isAt l i = false → ∀ ρ' : List AV, ρ'.getD 2 .any = .bool false → Fin σ [.t 2] (fun v σ' => v = .bool (isB l) ∧ σ' = σ) .ret ρ' σ2 := by
      intro hf ρ' hρ
      refine Fin.quiet (xs := [ρ'.getD 2 .any]) rfl (by rw [hρ]; trivial) ho2 ⟨?_, rfl⟩
      rw [is_false hil hf, hρ]; rfl
    have hge := g_one_eq (t := t) htl
    have hw := inc64 hil hl
    refine T.seq_k (fun K_h3 h3 => ?_)
    cases c1 : oneB t with
    | false =>
      refine T.regt hm tO_ok ?_
      simp only [↓reduceIte, namesOf, List.any, I.names, aops, aopsI, aopsT, qstep, CPt, qget, Tbl.get, astep, ev, setd, List.set, List.getD, List.getElem?_cons_zero, List.getElem?_cons_succ, List.getElem?_nil, List.cons_append, List.nil_append, List.length_cons, List.length_nil, List.replicate, then_normal, inBlock_normal, Option.getD_some, Option.getD_none, Bool.or_false, Bool.or_true, Bool.true_or, Bool.false_or, Bool.false_eq_true, if_false, if_true, up_zero, Nat.reduceAdd, Nat.reduceSub, binv, ↓opt_def, AV.isAny, AV.cells, ldc, List.map_cons, List.map_nil, St.set_next, St.set_same, St.up_next, Int.natCast_nonneg, lt_len, le_len, Int.toNat_natCast, true_and, and_true, eq_self, reduceCtorEq, decide_true, List.length_singleton, er_int, er_bool, er_str, Nat.reduceEqDiff, tO, hb5, hge, c1, AV.fits, AV.one, List.all_cons, List.all_nil, Nat.reduceBEq, Bool.and_true, Bool.not_false, Bool.and_self, Nat.zero_add, splice, List.take, List.drop, Nat.reduceLeDiff, Bool.not_false, reduceCtorEq]
      refine h3 _ _ ?_
      try clear h3 K_h3
      refine T.cond rfl (fun _ => ?_) (fun h => by cases h)
      refine T.seq_k (fun K_h3 h3 => ?_)
      refine T.regi hm ?_
      simp only [↓reduceIte, namesOf, List.any, I.names, aops, aopsI, aopsT, qstep, CPt, qget, Tbl.get, astep, ev, setd, List.set, List.getD, List.getElem?_cons_zero, List.getElem?_cons_succ, List.getElem?_nil, List.cons_append, List.nil_append, List.length_cons, List.length_nil, List.replicate, then_normal, inBlock_normal, Option.getD_some, Option.getD_none, Bool.or_false, Bool.or_true, Bool.true_or, Bool.false_or, Bool.false_eq_true, if_false, if_true, up_zero, Nat.reduceAdd, Nat.reduceSub, binv, ↓opt_def, AV.isAny, AV.cells, ldc, List.map_cons, List.map_nil, St.set_next, St.set_same, St.up_next, Int.natCast_nonneg, lt_len, le_len, Int.toNat_natCast, true_and, and_true, eq_self, reduceCtorEq, decide_true, List.length_singleton, er_int, er_bool, er_str]
      refine h3 _ _ ?_
      try clear h3 K_h3
      exact T.ret (fin (by unfold isAt; simp only [hti, c1, Bool.false_and]) _ rfl)
    | true =>
    cases i with
    | zero =>
      have hz : decide (((0 : Nat) : Int) > 0) = false := rfl
      refine T.regt hm tO_ok ?_
      simp only [↓reduceIte, namesOf, List.any, I.names, aops, aopsI, aopsT, qstep, CPt, qget, Tbl.get, astep, ev, setd, List.set, List.getD, List.getElem?_cons_zero, List.getElem?_cons_succ, List.getElem?_nil, List.cons_append, List.nil_append, List.length_cons, List.length_nil, List.replicate, then_normal, inBlock_normal, Option.getD_some, Option.getD_none, Bool.or_false, Bool.or_true, Bool.true_or, Bool.false_or, Bool.false_eq_true, if_false, if_true, up_zero, Nat.reduceAdd, Nat.reduceSub, binv, ↓opt_def, AV.isAny, AV.cells, ldc, List.map_cons, List.map_nil, St.set_next, St.set_same, St.up_next, Int.natCast_nonneg, lt_len, le_len, Int.toNat_natCast, true_and, and_true, eq_self, reduceCtorEq, decide_true, List.length_singleton, er_int, er_bool, er_str, Nat.reduceEqDiff, tO, hb5, hge, c1, AV.fits, AV.one, List.all_cons, List.all_nil, Nat.reduceBEq, Bool.and_true, Bool.not_false, Bool.and_self, Nat.zero_add, splice, List.take, List.drop, Nat.reduceLeDiff, Bool.not_true, reduceCtorEq, hz]
      refine h3 _ _ ?_
      try clear h3 K_h3
      refine T.cond rfl (fun h => by cases h) (fun _ => ?_)
      refine T.skip ?_
      refine h2 _ _ ?_
      try clear h2 K_h2
      refine T.regi hm ?_
      simp only [↓reduceIte, namesOf, List.any, I.names, aops, aopsI, aopsT, qstep, CPt, qget, Tbl.get, astep, ev, setd, List.set, List.getD, List.getElem?_cons_zero, List.getElem?_cons_succ, List.getElem?_nil, List.cons_append, List.nil_append, List.length_cons, List.length_nil, List.replicate, then_normal, inBlock_normal, Option.getD_some, Option.getD_none, Bool.or_false, Bool.or_true, Bool.true_or, Bool.false_or, Bool.false_eq_true, if_false, if_true, up_zero, Nat.reduceAdd, Nat.reduceSub, binv, ↓opt_def, AV.isAny, AV.cells, ldc, List.map_cons, List.map_nil, St.set_next, St.set_same, St.up_next, Int.natCast_nonneg, lt_len, le_len, Int.toNat_natCast, true_and, and_true, eq_self, reduceCtorEq, decide_true, List.length_singleton, er_int, er_bool, er_str, hw]
      exact ⟨hil, _, _, Gh.keep [0, 5, 6, 7], hn2, ho2, by simp [isAt, hti, c1], rfl⟩
    | succ j =>
      have hjl : j < l.length := by omega
      generalize hp : l[j] = p
      have hpj : l[j]? = some p := by rw [← hp]; simp [hjl]
      have hz : decide (((j + 1 : Nat) : Int) > 0) = true := decide_eq_true (by omega)
      have hd : IntKind.i64.wrap (((j + 1 : Nat) : Int) - 1) = (j : Int) := by rw [wrap64 (by omega) (by omega)]; omega
      by_cases c4 : p.id < t.id
      · have e4 : decide ((p.id : Int) ≥ (t.id : Int)) = false := decide_eq_false (by omega)
        refine T.regt hm tO_ok ?_
        simp only [↓reduceIte, namesOf, List.any, I.names, aops, aopsI, aopsT, qstep, CPt, qget, Tbl.get, astep, ev, setd, List.set, List.getD, List.getElem?_cons_zero, List.getElem?_cons_succ, List.getElem?_nil, List.cons_append, List.nil_append, List.length_cons, List.length_nil, List.replicate, then_normal, inBlock_normal, Option.getD_some, Option.getD_none, Bool.or_false, Bool.or_true, Bool.true_or, Bool.false_or, Bool.false_eq_true, if_false, if_true, up_zero, Nat.reduceAdd, Nat.reduceSub, binv, ↓opt_def, AV.isAny, AV.cells, ldc, List.map_cons, List.map_nil, St.set_next, St.set_same, St.up_next, Int.natCast_nonneg, lt_len, le_len, Int.toNat_natCast, true_and, and_true, eq_self, reduceCtorEq, decide_true, List.length_singleton, er_int, er_bool, er_str, Nat.reduceEqDiff, tO, hb5, hge, c1, AV.fits, AV.one, List.all_cons, List.all_nil, Nat.reduceBEq, Bool.and_true, Bool.not_false, Bool.and_self, Nat.zero_add, splice, List.take, List.drop, Nat.reduceLeDiff, Bool.not_true, reduceCtorEq, hz, hd, tcs_len, tcs_get hjl, hjl, hp, tcav', e4]
        refine h3 _ _ ?_
        try clear h3 K_h3
        refine T.cond rfl (fun h => by cases h) (fun _ => ?_)
        refine T.skip ?_
        refine h2 _ _ ?_
        try clear h2 K_h2
        refine T.regi hm ?_
        simp only [↓reduceIte, namesOf, List.any, I.names, aops, aopsI, aopsT, qstep, CPt, qget, Tbl.get, astep, ev, setd, List.set, List.getD, List.getElem?_cons_zero, List.getElem?_cons_succ, List.getElem?_nil, List.cons_append, List.nil_append, List.length_cons, List.length_nil, List.replicate, then_normal, inBlock_normal, Option.getD_some, Option.getD_none, Bool.or_false, Bool.or_true, Bool.true_or, Bool.false_or, Bool.false_eq_true, if_false, if_true, up_zero, Nat.reduceAdd, Nat.reduceSub, binv, ↓opt_def, AV.isAny, AV.cells, ldc, List.map_cons, List.map_nil, St.set_next, St.set_same, St.up_next, Int.natCast_nonneg, lt_len, le_len, Int.toNat_natCast, true_and, and_true, eq_self, reduceCtorEq, decide_true, List.length_singleton, er_int, er_bool, er_str, hw]
        refine ⟨hil, _, _, Gh.keep [0, 5, 6, 7], hn2, ho2, ?_, rfl⟩
        rw [List.range_succ, List.all_append, hpre]; simp [isAt, hti, c1, hpj, c4]
      · have e4 : decide ((p.id : Int) ≥ (t.id : Int)) = true := decide_eq_true (by omega)
        refine T.regt hm tO_ok ?_
        simp only [↓reduceIte, namesOf, List.any, I.names, aops, aopsI, aopsT, qstep, CPt, qget, Tbl.get, astep, ev, setd, List.set, List.getD, List.getElem?_cons_zero, List.getElem?_cons_succ, List.getElem?_nil, List.cons_append, List.nil_append, List.length_cons, List.length_nil, List.replicate, then_normal, inBlock_normal, Option.getD_some, Option.getD_none, Bool.or_false, Bool.or_true, Bool.true_or, Bool.false_or, Bool.false_eq_true, if_false, if_true, up_zero, Nat.reduceAdd, Nat.reduceSub, binv, ↓opt_def, AV.isAny, AV.cells, ldc, List.map_cons, List.map_nil, St.set_next, St.set_same, St.up_next, Int.natCast_nonneg, lt_len, le_len, Int.toNat_natCast, true_and, and_true, eq_self, reduceCtorEq, decide_true, List.length_singleton, er_int, er_bool, er_str, Nat.reduceEqDiff, tO, hb5, hge, c1, AV.fits, AV.one, List.all_cons, List.all_nil, Nat.reduceBEq, Bool.and_true, Bool.not_false, Bool.and_self, Nat.zero_add, splice, List.take, List.drop, Nat.reduceLeDiff, Bool.not_true, reduceCtorEq, hz, hd, tcs_len, tcs_get hjl, hjl, hp, tcav', e4]
        refine h3 _ _ ?_
        try clear h3 K_h3
        refine T.cond rfl (fun _ => ?_) (fun h => by cases h)
        refine T.seq_k (fun K_h3 h3 => ?_)
        refine T.regi hm ?_
        simp only [↓reduceIte, namesOf, List.any, I.names, aops, aopsI, aopsT, qstep, CPt, qget, Tbl.get, astep, ev, setd, List.set, List.getD, List.getElem?_cons_zero, List.getElem?_cons_succ, List.getElem?_nil, List.cons_append, List.nil_append, List.length_cons, List.length_nil, List.replicate, then_normal, inBlock_normal, Option.getD_some, Option.getD_none, Bool.or_false, Bool.or_true, Bool.true_or, Bool.false_or, Bool.false_eq_true, if_false, if_true, up_zero, Nat.reduceAdd, Nat.reduceSub, binv, ↓opt_def, AV.isAny, AV.cells, ldc, List.map_cons, List.map_nil, St.set_next, St.set_same, St.up_next, Int.natCast_nonneg, lt_len, le_len, Int.toNat_natCast, true_and, and_true, eq_self, reduceCtorEq, decide_true, List.length_singleton, er_int, er_bool, er_str]
        refine h3 _ _ ?_
        try clear h3 K_h3
        exact T.ret (fin (by unfold isAt; simp [hti, hpj, c4]) _ rfl)
  · refine T.exit ?_
    have : i = l.length := by simp at hb; omega
    subst this
    try simp only [↓reduceIte, namesOf, List.any, I.names, aops, aopsI, aopsT, qstep, CPt, qget, Tbl.get, astep, ev, setd, List.set, List.getD, List.getElem?_cons_zero, List.getElem?_cons_succ, List.getElem?_nil, List.cons_append, List.nil_append, List.length_cons, List.length_nil, List.replicate, then_normal, inBlock_normal, Option.getD_some, Option.getD_none, Bool.or_false, Bool.or_true, Bool.true_or, Bool.false_or, Bool.false_eq_true, if_false, if_true, up_zero, Nat.reduceAdd, Nat.reduceSub, binv, ↓opt_def, AV.isAny, AV.cells, ldc, List.map_cons, List.map_nil, St.set_next, St.set_same, St.up_next, Int.natCast_nonneg, lt_len, le_len, Int.toNat_natCast, true_and, and_true, eq_self, reduceCtorEq, decide_true, List.length_singleton, er_int, er_bool, er_str, inBlock_exit, then_exit]
    refine h1 _ _ ?_
    try clear h1 K_h1
    refine T.seq_k (fun K_h1 h1 => ?_)
    refine T.regi hm ?_
    simp only [↓reduceIte, namesOf, List.any, I.names, aops, aopsI, aopsT, qstep, CPt, qget, Tbl.get, astep, ev, setd, List.set, List.getD, List.getElem?_cons_zero, List.getElem?_cons_succ, List.getElem?_nil, List.cons_append, List.nil_append, List.length_cons, List.length_nil, List.replicate, then_normal, inBlock_normal, Option.getD_some, Option.getD_none, Bool.or_false, Bool.or_true, Bool.true_or, Bool.false_or, Bool.false_eq_true, if_false, if_true, up_zero, Nat.reduceAdd, Nat.reduceSub, binv, ↓opt_def, AV.isAny, AV.cells, ldc, List.map_cons, List.map_nil, St.set_next, St.set_same, St.up_next, Int.natCast_nonneg, lt_len, le_len, Int.toNat_natCast, true_and, and_true, eq_self, reduceCtorEq, decide_true, List.length_singleton, er_int, er_bool, er_str]
    refine h1 _ _ ?_
    try clear h1 K_h1
    exact T.ret (Fin.quiet rfl trivial ho ⟨by rw [show isB l = true from hpre]; rfl, rfl⟩)

/-! ### Rows put together -/

end Go.VL

namespace Go.VL

/-- does a span stand ahead of another one? -/
def aheadS (a b : Sp) : Bool := if a.st ≠ b.st then decide (a.st < b.st) else if a.id ≠ b.id then decide (a.id < b.id) else decide (a.tr < b.tr)

/-- of two of one Trace and one Id: is the first one the lesser one? -/
def lessS (a b : Sp) : Bool := if a.st ≠ b.st then decide (a.st < b.st) else if a.en ≠ b.en then decide (a.en < b.en) else Op.bytesLess a.da b.da

/-- does a span of l count? -/
def outAt (l : List Sp) (x : Sp) (i k : Nat) : Bool := match l[k]? with
  | some y => decide (y.tr = x.tr) && decide (y.id = x.id) && (lessS y x || (decide (y = x) && decide (k < i)))
  | none => false

def countsB (l : List Sp) (i : Nat) : Bool := match l[i]? with
  | some x => (List.range l.length).all fun k => !outAt l x i k
  | none => false

def lastAt (out : List Sp) (x : Sp) : Nat → Nat
  | 0 => 0
  | k + 1 => match out[k]? with
    | some y => if aheadS y x then k + 1 else lastAt out x k
    | none => lastAt out x k

def insS (out : List Sp) (x : Sp) : List Sp := out.take (lastAt out x out.length) ++ [x] ++ out.drop (lastAt out x out.length)

/-- what is gathered of the first n -/
def gatherN (l : List Sp) : Nat → List Sp
  | 0 => []
  | n + 1 => match l[n]? with
    | some x => if countsB l n then insS (gatherN l n) x else gatherN l n
    | none => gatherN l n

def gatherL (l : List Sp) : List Sp := gatherN l l.length

theorem ahead_trans {a b c : Sp} (h : aheadS a b = true) (k : aheadS b c = true) : aheadS a c = true := by
  unfold aheadS at *
  by_cases h1 : a.st = b.st
  · by_cases h2 : b.st = c.st
    · by_cases h3 : a.id = b.id
      · by_cases h4 : b.id = c.id
        · simp only [h1, h2, h3, h4, ne_eq, not_true_eq_false, if_false, decide_eq_true_eq] at h k ⊢; omega
        · simp only [h1, h2, h3, h4, ne_eq, not_true_eq_false, not_false_eq_true, if_false, if_true, decide_eq_true_eq] at h k ⊢; omega
      · by_cases h4 : b.id = c.id
        · simp only [h1, h2, ← h4, h3, ne_eq, not_true_eq_false, not_false_eq_true, if_false, if_true, decide_eq_true_eq] at h k ⊢; omega
        · have h5 : a.id ≠ c.id := by
            simp only [h1, h2, h3, h4, ne_eq, not_true_eq_false, not_false_eq_true, if_false, if_true, decide_eq_true_eq] at h k; omega
          simp only [h1, h2, h3, h4, h5, ne_eq, not_true_eq_false, not_false_eq_true, if_false, if_true, decide_eq_true_eq] at h k ⊢; omega
    · simp only [h1, h2, ne_eq, not_false_eq_true, if_true, decide_eq_true_eq] at k ⊢; exact k
  · by_cases h2 : b.st = c.st
    · simp only [← h2, h1, ne_eq, not_false_eq_true, if_true, decide_eq_true_eq] at h ⊢; exact h
    · have h3 : a.st ≠ c.st := by
        simp only [h1, h2, ne_eq, not_false_eq_true, if_true, decide_eq_true_eq] at h k; omega
      simp only [h1, h2, h3, ne_eq, not_false_eq_true, if_true, decide_eq_true_eq] at h k ⊢; omega

theorem ahead_total {a b : Sp} (h : a.id ≠ b.id) : aheadS a b = true ∨ aheadS b a = true := by
  unfold aheadS
  by_cases h1 : a.st = b.st
  · have h2 : b.id ≠ a.id := fun e => h e.symm
    simp only [h1, h, h2, ne_eq, not_true_eq_false, not_false_eq_true, if_false, if_true, decide_eq_true_eq]; omega
  · have h2 : b.st ≠ a.st := fun e => h1 e.symm
    simp only [h1, h2, ne_eq, not_false_eq_true, if_true, decide_eq_true_eq]; omega

theorem bytes_irr : ∀ a : List UInt8, Op.bytesLess a a = false
  | [] => by simp [Op.bytesLess]
  | x :: r => by simp [Op.bytesLess, bytes_irr r]

theorem bytes_total : ∀ a b : List UInt8, Op.bytesLess a b = false → Op.bytesLess b a = false → a = b
  | [], [], _, _ => rfl
  | [], _ :: _, h, _ => by simp [Op.bytesLess] at h
  | _ :: _, [], _, h => by simp [Op.bytesLess] at h
  | x :: r, y :: s, h, k => by
    simp only [Op.bytesLess, Bool.or_eq_false_iff, Bool.and_eq_false_iff, decide_eq_false_iff_not, beq_eq_false_iff_ne] at h k
    by_cases hxy : x = y
    · subst hxy
      rw [bytes_total r s (by simpa using h.2) (by simpa using k.2)]
    · exfalso
      have h1 := h.1
      have k1 := k.1
      have : x.toNat ≠ y.toNat := fun e => hxy (UInt8.toNat_inj.1 e)
      rw [UInt8.lt_iff_toNat_lt] at h1 k1
      omega

theorem less_irr (a : Sp) : lessS a a = false := by unfold lessS; simp [bytes_irr]

theorem less_total {a b : Sp} (ht : a.tr = b.tr) (hi : a.id = b.id) (h : lessS a b = false) (k : lessS b a = false) : a = b := by
  unfold lessS at h k
  by_cases h1 : a.st = b.st
  · by_cases h2 : a.en = b.en
    · simp only [h1, h2, ne_eq, not_true_eq_false, if_false] at h k
      have h3 := bytes_total _ _ h k
      obtain ⟨a1, a2, a3, a4, a5⟩ := a
      obtain ⟨b1, b2, b3, b4, b5⟩ := b
      simp only at *
      subst ht hi h1 h2 h3; rfl
    · have h3 : b.en ≠ a.en := fun e => h2 e.symm
      simp only [h1, h2, h3, ne_eq, not_true_eq_false, not_false_eq_true, if_false, if_true, decide_eq_false_iff_not] at h k; omega
  · have h3 : b.st ≠ a.st := fun e => h1 e.symm
    simp only [h1, h3, ne_eq, not_false_eq_true, if_true, decide_eq_false_iff_not] at h k; omega

theorem lastAt_le (out : List Sp) (x : Sp) : ∀ k, lastAt out x k ≤ k
  | 0 => Nat.le_refl _
  | k + 1 => by
    have := lastAt_le out x k
    unfold lastAt
    split
    · split <;> omega
    · omega

/-- all behind the last one ahead are not ahead -/
theorem lastAt_no (out : List Sp) (x : Sp) : ∀ k j (hj : j < out.length), lastAt out x k ≤ j → j < k → aheadS out[j] x = false
  | 0, j, _, _, h => by omega
  | k + 1, j, hj, h, hjk => by
    unfold lastAt at h
    split at h
    · rename_i y hy
      split at h
      · omega
      · rename_i hy2
        by_cases hx : j = k
        · subst hx
          have : out[j] = y := by simpa [hj] using hy
          rw [this]; simpa using hy2
        · exact lastAt_no out x k j hj h (by omega)
    · rename_i hy
      have : k ≥ out.length := by simpa using hy
      exact lastAt_no out x k j hj h (by omega)

/-- the last one ahead is ahead -/
theorem lastAt_is (out : List Sp) (x : Sp) : ∀ k, k ≤ out.length → 0 < lastAt out x k → ∃ j, ∃ h : j < out.length, lastAt out x k = j + 1 ∧ aheadS out[j] x = true
  | 0, _, h => by simp [lastAt] at h
  | k + 1, hk, h => by
    unfold lastAt at h ⊢
    have hkl : k < out.length := by omega
    have e : out[k]? = some out[k] := by simp [hkl]
    rw [e] at h ⊢
    simp only at h ⊢
    split at h
    · rename_i ha; rw [if_pos ha]; exact ⟨k, hkl, rfl, ha⟩
    · rename_i ha; rw [if_neg ha]; exact lastAt_is out x k (by omega) h

abbrev SortedS (l : List Sp) : Prop := l.Pairwise (fun a b => aheadS a b = true)

theorem ins_sorted {out : List Sp} {x : Sp} (hs : SortedS out) (hd : ∀ y ∈ out, y.id ≠ x.id) : SortedS (insS out x) := by
  have hle := lastAt_le out x out.length
  unfold insS
  have htake : ∀ y ∈ out.take (lastAt out x out.length), aheadS y x = true := by
    intro y hy
    rcases Nat.eq_zero_or_pos (lastAt out x out.length) with h0 | hpos
    · rw [h0] at hy; simp at hy
    · obtain ⟨j, hj, e, ha⟩ := lastAt_is out x out.length (Nat.le_refl _) hpos
      rw [e] at hy
      obtain ⟨m, hm⟩ := List.getElem?_of_mem hy
      rw [List.getElem?_take] at hm
      split at hm
      · rename_i hmj
        have hml : m < out.length := by omega
        have hy' : out[m] = y := by simpa [hml] using hm
        by_cases hx : m = j
        · subst hx; rw [← hy']; exact ha
        · rw [← hy']; exact ahead_trans (List.pairwise_iff_getElem.1 hs m j hml hj (by omega)) ha
      · cases hm
  have hdrop : ∀ y ∈ out.drop (lastAt out x out.length), aheadS x y = true := by
    intro y hy
    obtain ⟨m, hm⟩ := List.getElem?_of_mem hy
    rw [List.getElem?_drop] at hm
    have hml : lastAt out x out.length + m < out.length := (List.getElem?_eq_some_iff.1 hm).1
    have hy' : out[lastAt out x out.length + m] = y := (List.getElem?_eq_some_iff.1 hm).2
    have hno := lastAt_no out x out.length _ hml (by omega) hml
    rw [hy'] at hno
    rcases ahead_total (hd y (List.mem_of_mem_drop hy)) with h | h
    · rw [hno] at h; cases h
    · exact h
  rw [List.append_assoc]
  refine List.pairwise_append.2 ⟨hs.sublist (List.take_sublist _ _), ?_, fun a ha b hb => ?_⟩
  · exact List.pairwise_append.2 ⟨List.pairwise_singleton _ _, hs.sublist (List.drop_sublist _ _), fun a ha b hb => by simp only [List.mem_singleton] at ha; subst ha; exact hdrop b hb⟩
  · rcases List.mem_append.1 hb with hb | hb
    · simp only [List.mem_singleton] at hb; subst hb; exact htake a ha
    · have hsp : SortedS (out.take (lastAt out x out.length) ++ out.drop (lastAt out x out.length)) := by rw [List.take_append_drop]; exact hs
      exact (List.pairwise_append.1 hsp).2.2 a ha b hb

theorem ins_mem {out : List Sp} {x y : Sp} : y ∈ insS out x ↔ y = x ∨ y ∈ out := by
  have : y ∈ out ↔ y ∈ out.take (lastAt out x out.length) ∨ y ∈ out.drop (lastAt out x out.length) := by
    rw [← List.mem_append, List.take_append_drop]
  unfold insS
  simp only [List.mem_append, List.mem_singleton, this]
  constructor
  · rintro ((h | h) | h)
    · exact .inr (.inl h)
    · exact .inl h
    · exact .inr (.inr h)
  · rintro (h | h | h)
    · exact .inl (.inr h)
    · exact .inl (.inl h)
    · exact .inr h

theorem ins_len (out : List Sp) (x : Sp) : (insS out x).length = out.length + 1 := by
  have := lastAt_le out x out.length
  unfold insS; simp only [List.length_append, List.length_take, List.length_drop, List.length_singleton]; omega

/-- one that all others stand ahead of comes last -/
theorem ins_last {out : List Sp} {x : Sp} (h : ∀ y ∈ out, aheadS y x = true) : insS out x = out ++ [x] := by
  have e : lastAt out x out.length = out.length := by
    cases hn : out.length with
    | zero => rfl
    | succ n =>
      have hl : n < out.length := by omega
      unfold lastAt
      have e1 : out[n]? = some out[n] := by simp [hl]
      rw [e1]
      simp only
      rw [if_pos (h _ (List.getElem_mem hl))]
  unfold insS
  rw [e, List.take_length, List.drop_length, List.append_nil]

theorem gatherN_le (l : List Sp) : ∀ n, (gatherN l n).length ≤ n
  | 0 => Nat.le_refl _
  | n + 1 => by
    have := gatherN_le l n
    unfold gatherN
    split
    · split
      · rw [ins_len]; omega
      · omega
    · omega

theorem gatherN_all (l : List Sp) : ∀ n, n ≤ l.length → (gatherN l n).length = n → ∀ i, i < n → countsB l i = true
  | 0, _, _, i, hi => by omega
  | n + 1, hn, h, i, hi => by
    have hle := gatherN_le l n
    have hnl : n < l.length := by omega
    unfold gatherN at h
    have e : l[n]? = some l[n] := by simp [hnl]
    rw [e] at h
    simp only at h
    split at h
    · rename_i hc
      rw [ins_len] at h
      by_cases hx : i = n
      · subst hx; exact hc
      · exact gatherN_all l n (by omega) (by omega) i (by omega)
    · omega

theorem gatherN_mem (l : List Sp) : ∀ n, n ≤ l.length → ∀ y ∈ gatherN l n, ∃ j, ∃ h : j < l.length, j < n ∧ l[j] = y
  | 0, _, y, hy => by simp [gatherN] at hy
  | n + 1, hn, y, hy => by
    have hnl : n < l.length := by omega
    have e : l[n]? = some l[n] := by simp [hnl]
    unfold gatherN at hy
    rw [e] at hy
    simp only at hy
    split at hy
    · rcases ins_mem.1 hy with h | h
      · exact ⟨n, hnl, by omega, h.symm⟩
      · obtain ⟨j, h1, h2, h3⟩ := gatherN_mem l n (by omega) y h
        exact ⟨j, h1, by omega, h3⟩
    · obtain ⟨j, h1, h2, h3⟩ := gatherN_mem l n (by omega) y hy
      exact ⟨j, h1, by omega, h3⟩

/-- no Id is there twice -/
def IdsApart (l : List Sp) : Prop := ∀ i j (hi : i < l.length) (hj : j < l.length), i < j → l[i].id ≠ l[j].id

theorem counts_apart {l : List Sp} {t : Nat} (ht : ∀ s ∈ l, s.tr = t) (h : ∀ i, i < l.length → countsB l i = true) : IdsApart l := by
  intro i j hi hj hij he
  have key : ∀ a b (ha : a < l.length) (hb : b < l.length), outAt l l[a] a b = false := by
    intro a b ha hb
    have h1 := h a ha
    unfold countsB at h1
    have e : l[a]? = some l[a] := by simp [ha]
    rw [e] at h1
    have := List.all_eq_true.1 h1 b (by simpa using hb)
    simpa using this
  have h1 := key i j hi hj
  have h2 := key j i hj hi
  unfold outAt at h1 h2
  have ei : l[i]? = some l[i] := by simp [hi]
  have ej : l[j]? = some l[j] := by simp [hj]
  have htr : l[i].tr = l[j].tr := by rw [ht _ (List.getElem_mem hi), ht _ (List.getElem_mem hj)]
  rw [ej] at h1; rw [ei] at h2
  simp only [htr, he, decide_true, Bool.true_and, Bool.or_eq_false_iff] at h1 h2
  have heq := less_total htr he h2.1 h1.1
  have := h2.2
  simp [heq, hij] at this

theorem gather_id {l : List Sp} {t : Nat} (ht : ∀ s ∈ l, s.tr = t) : gatherL l = l ↔ IdsApart l ∧ SortedS l := by
  constructor
  · intro h
    have hall := gatherN_all l l.length (Nat.le_refl _) (by have : (gatherL l).length = l.length := by rw [h]
                                                            exact this)
    have hap := counts_apart ht hall
    refine ⟨hap, ?_⟩
    have : ∀ n, n ≤ l.length → SortedS (gatherN l n) := by
      intro n
      induction n with
      | zero => intro _; exact .nil
      | succ n ih =>
        intro hn
        have hnl : n < l.length := by omega
        have e : l[n]? = some l[n] := by simp [hnl]
        unfold gatherN
        rw [e]
        simp only
        rw [if_pos (hall n hnl)]
        refine ins_sorted (ih (by omega)) (fun y hy => ?_)
        obtain ⟨j, hj, hjn, rfl⟩ := gatherN_mem l n (by omega) y hy
        exact hap j n hj hnl hjn
    have := this l.length (Nat.le_refl _)
    rw [show gatherN l l.length = l from h] at this
    exact this
  · rintro ⟨hap, hs⟩
    have hc : ∀ i (hi : i < l.length), countsB l i = true := by
      intro i hi
      unfold countsB
      have e : l[i]? = some l[i] := by simp [hi]
      rw [e]
      simp only
      rw [List.all_eq_true]
      intro k hk
      have hkl : k < l.length := by simpa using hk
      unfold outAt
      have ek : l[k]? = some l[k] := by simp [hkl]
      rw [ek]
      simp only
      by_cases hx : k = i
      · subst hx; simp [less_irr]
      · have : l[k].id ≠ l[i].id := by
          rcases Nat.lt_or_gt_of_ne hx with hlt | hgt
          · exact hap k i hkl hi hlt
          · exact fun e => hap i k hi hkl hgt e.symm
        simp [this]
    have : ∀ n, n ≤ l.length → gatherN l n = l.take n := by
      intro n
      induction n with
      | zero => intro _; simp [gatherN]
      | succ n ih =>
        intro hn
        have hnl : n < l.length := by omega
        have e : l[n]? = some l[n] := by simp [hnl]
        unfold gatherN
        rw [e]
        simp only
        rw [if_pos (hc n hnl), ih (by omega), ins_last (fun y hy => ?_), List.take_succ_eq_append_getElem hnl]
        obtain ⟨m, hm⟩ := List.getElem?_of_mem hy
        rw [List.getElem?_take] at hm
        split at hm
        · rename_i hmn
          have hml : m < l.length := by omega
          have : l[m] = y := by simpa [hml] using hm
          rw [← this]; exact List.pairwise_iff_getElem.1 hs m n hml hnl hmn
        · cases hm
    unfold gatherL
    rw [this l.length (Nat.le_refl _), List.take_length]

end Go.VL

namespace Go.VL

open Go.Proofs

theorem tcs_fits (l : List Tc) : (tcsAV l).all (AV.fits 2) = true := by
  simp [tcsAV, Tc.av, AV.fits, AV.isAny, AV.cells, AV.one]

theorem nbs_tcs (m : Nat) (l : List Tc) : nbs m (tcsAV l) := by
  rw [nbs_iff]
  intro x hx
  obtain ⟨t, _, rfl⟩ := List.mem_map.1 hx
  simp only [Tc.av, AV.nb, nbs, true_and, and_true, Ver.nb]
  rw [nbs_iff]
  intro y hy
  obtain ⟨s, _, rfl⟩ := List.mem_map.1 hy
  simp only [Sp.av, AV.nb, nbs, true_and, and_true, Ver.nb]
  exact (nb_bytes m s.da)

end Go.VL

namespace Go.VL

open Go.Proofs

theorem rmay_ok {t i : AV} {s e : Int} {xs : List AV} {g : Ver} {σ : St} : ACalls Try.prog n_rmay [.agg [t, i, .int .i64 s, .int .i64 e, .sl xs g]] σ (fun v σ' => v = .bool (mayI s e xs.length) ∧ σ' = σ) := by
  refine s_rmay (fun wf => ?_)
  unfold c_rmay
  refine T.seq_k (fun K_h1 h1 => ?_)
  refine T.regi hm ?_
  simp only [↓reduceIte, namesOf, List.any, I.names, aops, aopsI, aopsT, qstep, CPt, qget, Tbl.get, astep, ev, setd, List.set, List.getD, List.getElem?_cons_zero, List.getElem?_cons_succ, List.getElem?_nil, List.cons_append, List.nil_append, List.length_cons, List.length_nil, List.replicate, then_normal, inBlock_normal, Option.getD_some, Option.getD_none, Bool.or_false, Bool.or_true, Bool.true_or, Bool.false_or, Bool.false_eq_true, if_false, if_true, up_zero, Nat.reduceAdd, Nat.reduceSub, binv, ↓opt_def, AV.isAny, AV.cells, ldc, List.map_cons, List.map_nil, St.set_next, St.set_same, St.up_next, Int.natCast_nonneg, lt_len, le_len, Int.toNat_natCast, true_and, and_true, eq_self, reduceCtorEq, decide_true, List.length_singleton, er_int, er_bool, er_str]
  have h0 : ((σ.up 2).set (σ.next + 0) (.obj [t, i, .int .i64 s, .int .i64 e, .sl xs g])).res (σ.next + 0) = some (.obj [t, i, .int .i64 s, .int .i64 e, .sl xs g]) := by simp
  have hq := set1_quiet wf (k := 2) (.obj [t, i, .int .i64 s, .int .i64 e, .sl xs g]) (a := σ.next + 0) (by omega)
  generalize ((σ.up 2).set (σ.next + 0) (.obj [t, i, .int .i64 s, .int .i64 e, .sl xs g])) = σ1 at h0 hq ⊢
  refine h1 _ _ ?_
  try clear h1 K_h1
  refine T.seq_k (fun K_h1 h1 => ?_)
  by_cases c1 : 0 ≤ s
  case neg =>
    have e1 : decide (s ≥ 0) = false := decide_eq_false (by omega)
    refine T.regi hm ?_
    simp only [↓reduceIte, namesOf, List.any, I.names, aops, aopsI, aopsT, qstep, CPt, qget, Tbl.get, astep, ev, setd, List.set, List.getD, List.getElem?_cons_zero, List.getElem?_cons_succ, List.getElem?_nil, List.cons_append, List.nil_append, List.length_cons, List.length_nil, List.replicate, then_normal, inBlock_normal, Option.getD_some, Option.getD_none, Bool.or_false, Bool.or_true, Bool.true_or, Bool.false_or, Bool.false_eq_true, if_false, if_true, up_zero, Nat.reduceAdd, Nat.reduceSub, binv, ↓opt_def, AV.isAny, AV.cells, ldc, List.map_cons, List.map_nil, St.set_next, St.set_same, St.up_next, Int.natCast_nonneg, lt_len, le_len, Int.toNat_natCast, true_and, and_true, eq_self, reduceCtorEq, decide_true, List.length_singleton, er_int, er_bool, er_str, h0, e1, reduceCtorEq]
    refine h1 _ _ ?_
    try clear h1 K_h1
    exact T.ret (Fin.quiet rfl trivial hq ⟨by simp [pack, mayI, c1], rfl⟩)
  have e1 : decide (s ≥ 0) = true := decide_eq_true c1
  by_cases c2 : s ≤ e
  case neg =>
    have e2 : decide (s ≤ e) = false := decide_eq_false c2
    refine T.regi hm ?_
    simp only [↓reduceIte, namesOf, List.any, I.names, aops, aopsI, aopsT, qstep, CPt, qget, Tbl.get, astep, ev, setd, List.set, List.getD, List.getElem?_cons_zero, List.getElem?_cons_succ, List.getElem?_nil, List.cons_append, List.nil_append, List.length_cons, List.length_nil, List.replicate, then_normal, inBlock_normal, Option.getD_some, Option.getD_none, Bool.or_false, Bool.or_true, Bool.true_or, Bool.false_or, Bool.false_eq_true, if_false, if_true, up_zero, Nat.reduceAdd, Nat.reduceSub, binv, ↓opt_def, AV.isAny, AV.cells, ldc, List.map_cons, List.map_nil, St.set_next, St.set_same, St.up_next, Int.natCast_nonneg, lt_len, le_len, Int.toNat_natCast, true_and, and_true, eq_self, reduceCtorEq, decide_true, List.length_singleton, er_int, er_bool, er_str, h0, e1, e2, reduceCtorEq]
    refine h1 _ _ ?_
    try clear h1 K_h1
    exact T.ret (Fin.quiet rfl trivial hq ⟨by simp [pack, mayI, c2], rfl⟩)
  have e2 : decide (s ≤ e) = true := decide_eq_true c2
  by_cases c3 : e ≤ 1099511627776
  case neg =>
    have e3 : decide (e ≤ 1099511627776) = false := decide_eq_false c3
    refine T.regi hm ?_
    simp only [↓reduceIte, namesOf, List.any, I.names, aops, aopsI, aopsT, qstep, CPt, qget, Tbl.get, astep, ev, setd, List.set, List.getD, List.getElem?_cons_zero, List.getElem?_cons_succ, List.getElem?_nil, List.cons_append, List.nil_append, List.length_cons, List.length_nil, List.replicate, then_normal, inBlock_normal, Option.getD_some, Option.getD_none, Bool.or_false, Bool.or_true, Bool.true_or, Bool.false_or, Bool.false_eq_true, if_false, if_true, up_zero, Nat.reduceAdd, Nat.reduceSub, binv, ↓opt_def, AV.isAny, AV.cells, ldc, List.map_cons, List.map_nil, St.set_next, St.set_same, St.up_next, Int.natCast_nonneg, lt_len, le_len, Int.toNat_natCast, true_and, and_true, eq_self, reduceCtorEq, decide_true, List.length_singleton, er_int, er_bool, er_str, h0, e1, e2, e3, reduceCtorEq]
    refine h1 _ _ ?_
    try clear h1 K_h1
    exact T.ret (Fin.quiet rfl trivial hq ⟨by simp [pack, mayI, c3], rfl⟩)
  have e3 : decide (e ≤ 1099511627776) = true := decide_eq_true c3
  refine T.regi hm ?_
  simp only [↓reduceIte, namesOf, List.any, I.names, aops, aopsI, aopsT, qstep, CPt, qget, Tbl.get, astep, ev, setd, List.set, List.getD, List.getElem?_cons_zero, List.getElem?_cons_succ, List.getElem?_nil, List.cons_append, List.nil_append, List.length_cons, List.length_nil, List.replicate, then_normal, inBlock_normal, Option.getD_some, Option.getD_none, Bool.or_false, Bool.or_true, Bool.true_or, Bool.false_or, Bool.false_eq_true, if_false, if_true, up_zero, Nat.reduceAdd, Nat.reduceSub, binv, ↓opt_def, AV.isAny, AV.cells, ldc, List.map_cons, List.map_nil, St.set_next, St.set_same, St.up_next, Int.natCast_nonneg, lt_len, le_len, Int.toNat_natCast, true_and, and_true, eq_self, reduceCtorEq, decide_true, List.length_singleton, er_int, er_bool, er_str, h0, e1, e2, e3, reduceCtorEq]
  refine h1 _ _ ?_
  try clear h1 K_h1
  exact T.ret (Fin.quiet rfl trivial hq ⟨by simp [pack, mayI, c1, c2, c3], rfl⟩)

abbrev spC (a : Sp) : List AV := [.int .u64 (a.tr : Int), .int .u64 (a.id : Int), .int .i64 a.st, .int .i64 a.en, .sl (bytesAV a.da) .none]

theorem box2 {σ : St} (wf : WF σ) (k : Nat) (r r' : Res) : (((σ.up k).set (σ.next + 0) r).set (σ.next + 1) r').res (σ.next + 0) = some r ∧ (((σ.up k).set (σ.next + 0) r).set (σ.next + 1) r').res (σ.next + 1) = some r' ∧
    ∀ n x, σ.res n = some x → (((σ.up k).set (σ.next + 0) r).set (σ.next + 1) r').res n = some x :=
  ⟨by rw [St.set_other _ _ (by omega)]; simp, by simp, set2_quiet wf r r' (by omega) (by omega)⟩

theorem rahead_ok {a b : Sp} {σ : St} : ACalls Try.prog n_rahead [.agg (spC a), .agg (spC b)] σ (fun v σ' => v = .bool (aheadS a b) ∧ σ' = σ) := by
  refine s_rahead (fun wf => ?_)
  unfold c_rahead
  refine T.seq_k (fun K_h1 h1 => ?_)
  refine T.regi hm ?_
  simp only [↓reduceIte, namesOf, List.any, I.names, aops, aopsI, aopsT, qstep, CPt, qget, Tbl.get, astep, ev, setd, List.set, List.getD, List.getElem?_cons_zero, List.getElem?_cons_succ, List.getElem?_nil, List.cons_append, List.nil_append, List.length_cons, List.length_nil, List.replicate, then_normal, inBlock_normal, Option.getD_some, Option.getD_none, Bool.or_false, Bool.or_true, Bool.true_or, Bool.false_or, Bool.false_eq_true, if_false, if_true, up_zero, Nat.reduceAdd, Nat.reduceSub, binv, ↓opt_def, AV.isAny, AV.cells, ldc, List.map_cons, List.map_nil, St.set_next, St.set_same, St.up_next, Int.natCast_nonneg, lt_len, le_len, Int.toNat_natCast, true_and, and_true, eq_self, reduceCtorEq, decide_true, List.length_singleton, er_int, er_bool, er_str]
  obtain ⟨h0, h0', hq⟩ := box2 wf 3 (.obj (spC a)) (.obj (spC b))
  generalize (((σ.up 3).set (σ.next + 0) (.obj (spC a))).set (σ.next + 1) (.obj (spC b))) = σ1 at h0 h0' hq ⊢
  refine h1 _ _ ?_
  try clear h1 K_h1
  refine T.seq_k (fun K_h1 h1 => ?_)
  refine T.seq_k (fun K_h2 h2 => ?_)
  by_cases c1 : a.st = b.st
  case neg =>
    have e1 : (a.st != b.st) = true := by simpa using c1
    refine T.regi hm ?_
    simp only [↓reduceIte, namesOf, List.any, I.names, aops, aopsI, aopsT, qstep, CPt, qget, Tbl.get, astep, ev, setd, List.set, List.getD, List.getElem?_cons_zero, List.getElem?_cons_succ, List.getElem?_nil, List.cons_append, List.nil_append, List.length_cons, List.length_nil, List.replicate, then_normal, inBlock_normal, Option.getD_some, Option.getD_none, Bool.or_false, Bool.or_true, Bool.true_or, Bool.false_or, Bool.false_eq_true, if_false, if_true, up_zero, Nat.reduceAdd, Nat.reduceSub, binv, ↓opt_def, AV.isAny, AV.cells, ldc, List.map_cons, List.map_nil, St.set_next, St.set_same, St.up_next, Int.natCast_nonneg, lt_len, le_len, Int.toNat_natCast, true_and, and_true, eq_self, reduceCtorEq, decide_true, List.length_singleton, er_int, er_bool, er_str, h0, h0', e1]
    refine h2 _ _ ?_
    try clear h2 K_h2
    refine T.cond rfl (fun _ => ?_) (fun h => by cases h)
    refine T.seq_k (fun K_h2 h2 => ?_)
    refine T.regi hm ?_
    simp only [↓reduceIte, namesOf, List.any, I.names, aops, aopsI, aopsT, qstep, CPt, qget, Tbl.get, astep, ev, setd, List.set, List.getD, List.getElem?_cons_zero, List.getElem?_cons_succ, List.getElem?_nil, List.cons_append, List.nil_append, List.length_cons, List.length_nil, List.replicate, then_normal, inBlock_normal, Option.getD_some, Option.getD_none, Bool.or_false, Bool.or_true, Bool.true_or, Bool.false_or, Bool.false_eq_true, if_false, if_true, up_zero, Nat.reduceAdd, Nat.reduceSub, binv, ↓opt_def, AV.isAny, AV.cells, ldc, List.map_cons, List.map_nil, St.set_next, St.set_same, St.up_next, Int.natCast_nonneg, lt_len, le_len, Int.toNat_natCast, true_and, and_true, eq_self, reduceCtorEq, decide_true, List.length_singleton, er_int, er_bool, er_str, h0, h0']
    refine h2 _ _ ?_
    try clear h2 K_h2
    exact T.ret (Fin.quiet rfl trivial hq ⟨by simp [pack, aheadS, c1], rfl⟩)
  have e1 : (a.st != b.st) = false := by simpa using c1
  refine T.regi hm ?_
  simp only [↓reduceIte, namesOf, List.any, I.names, aops, aopsI, aopsT, qstep, CPt, qget, Tbl.get, astep, ev, setd, List.set, List.getD, List.getElem?_cons_zero, List.getElem?_cons_succ, List.getElem?_nil, List.cons_append, List.nil_append, List.length_cons, List.length_nil, List.replicate, then_normal, inBlock_normal, Option.getD_some, Option.getD_none, Bool.or_false, Bool.or_true, Bool.true_or, Bool.false_or, Bool.false_eq_true, if_false, if_true, up_zero, Nat.reduceAdd, Nat.reduceSub, binv, ↓opt_def, AV.isAny, AV.cells, ldc, List.map_cons, List.map_nil, St.set_next, St.set_same, St.up_next, Int.natCast_nonneg, lt_len, le_len, Int.toNat_natCast, true_and, and_true, eq_self, reduceCtorEq, decide_true, List.length_singleton, er_int, er_bool, er_str, h0, h0', e1]
  refine h2 _ _ ?_
  try clear h2 K_h2
  refine T.cond rfl (fun h => by cases h) (fun _ => T.skip ?_)
  refine h1 _ _ ?_
  try clear h1 K_h1
  refine T.seq_k (fun K_h1 h1 => ?_)
  refine T.seq_k (fun K_h2 h2 => ?_)
  by_cases c2 : a.id = b.id
  case neg =>
    have e2 : ((a.id : Int) != (b.id : Int)) = true := by simp; omega
    refine T.regi hm ?_
    simp only [↓reduceIte, namesOf, List.any, I.names, aops, aopsI, aopsT, qstep, CPt, qget, Tbl.get, astep, ev, setd, List.set, List.getD, List.getElem?_cons_zero, List.getElem?_cons_succ, List.getElem?_nil, List.cons_append, List.nil_append, List.length_cons, List.length_nil, List.replicate, then_normal, inBlock_normal, Option.getD_some, Option.getD_none, Bool.or_false, Bool.or_true, Bool.true_or, Bool.false_or, Bool.false_eq_true, if_false, if_true, up_zero, Nat.reduceAdd, Nat.reduceSub, binv, ↓opt_def, AV.isAny, AV.cells, ldc, List.map_cons, List.map_nil, St.set_next, St.set_same, St.up_next, Int.natCast_nonneg, lt_len, le_len, Int.toNat_natCast, true_and, and_true, eq_self, reduceCtorEq, decide_true, List.length_singleton, er_int, er_bool, er_str, h0, h0', e2]
    refine h2 _ _ ?_
    try clear h2 K_h2
    refine T.cond rfl (fun _ => ?_) (fun h => by cases h)
    refine T.seq_k (fun K_h2 h2 => ?_)
    refine T.regi hm ?_
    simp only [↓reduceIte, namesOf, List.any, I.names, aops, aopsI, aopsT, qstep, CPt, qget, Tbl.get, astep, ev, setd, List.set, List.getD, List.getElem?_cons_zero, List.getElem?_cons_succ, List.getElem?_nil, List.cons_append, List.nil_append, List.length_cons, List.length_nil, List.replicate, then_normal, inBlock_normal, Option.getD_some, Option.getD_none, Bool.or_false, Bool.or_true, Bool.true_or, Bool.false_or, Bool.false_eq_true, if_false, if_true, up_zero, Nat.reduceAdd, Nat.reduceSub, binv, ↓opt_def, AV.isAny, AV.cells, ldc, List.map_cons, List.map_nil, St.set_next, St.set_same, St.up_next, Int.natCast_nonneg, lt_len, le_len, Int.toNat_natCast, true_and, and_true, eq_self, reduceCtorEq, decide_true, List.length_singleton, er_int, er_bool, er_str, h0, h0']
    refine h2 _ _ ?_
    try clear h2 K_h2
    exact T.ret (Fin.quiet rfl trivial hq ⟨by simp [pack, aheadS, c1, c2], rfl⟩)
  have e2 : ((a.id : Int) != (b.id : Int)) = false := by simp; omega
  refine T.regi hm ?_
  simp only [↓reduceIte, namesOf, List.any, I.names, aops, aopsI, aopsT, qstep, CPt, qget, Tbl.get, astep, ev, setd, List.set, List.getD, List.getElem?_cons_zero, List.getElem?_cons_succ, List.getElem?_nil, List.cons_append, List.nil_append, List.length_cons, List.length_nil, List.replicate, then_normal, inBlock_normal, Option.getD_some, Option.getD_none, Bool.or_false, Bool.or_true, Bool.true_or, Bool.false_or, Bool.false_eq_true, if_false, if_true, up_zero, Nat.reduceAdd, Nat.reduceSub, binv, ↓opt_def, AV.isAny, AV.cells, ldc, List.map_cons, List.map_nil, St.set_next, St.set_same, St.up_next, Int.natCast_nonneg, lt_len, le_len, Int.toNat_natCast, true_and, and_true, eq_self, reduceCtorEq, decide_true, List.length_singleton, er_int, er_bool, er_str, h0, h0', e2]
  refine h2 _ _ ?_
  try clear h2 K_h2
  refine T.cond rfl (fun h => by cases h) (fun _ => T.skip ?_)
  refine h1 _ _ ?_
  try clear h1 K_h1
  refine T.seq_k (fun K_h1 h1 => ?_)
  refine T.regi hm ?_
  simp only [↓reduceIte, namesOf, List.any, I.names, aops, aopsI, aopsT, qstep, CPt, qget, Tbl.get, astep, ev, setd, List.set, List.getD, List.getElem?_cons_zero, List.getElem?_cons_succ, List.getElem?_nil, List.cons_append, List.nil_append, List.length_cons, List.length_nil, List.replicate, then_normal, inBlock_normal, Option.getD_some, Option.getD_none, Bool.or_false, Bool.or_true, Bool.true_or, Bool.false_or, Bool.false_eq_true, if_false, if_true, up_zero, Nat.reduceAdd, Nat.reduceSub, binv, ↓opt_def, AV.isAny, AV.cells, ldc, List.map_cons, List.map_nil, St.set_next, St.set_same, St.up_next, Int.natCast_nonneg, lt_len, le_len, Int.toNat_natCast, true_and, and_true, eq_self, reduceCtorEq, decide_true, List.length_singleton, er_int, er_bool, er_str, h0, h0']
  refine h1 _ _ ?_
  try clear h1 K_h1
  exact T.ret (Fin.quiet rfl trivial hq ⟨by simp [pack, aheadS, c1, c2], rfl⟩)

theorem rless_ok {a b : Sp} {σ : St} : ACalls Try.prog n_rless [.agg (spC a), .agg (spC b)] σ (fun v σ' => v = .bool (lessS a b) ∧ σ' = σ) := by
  refine s_rless (fun wf => ?_)
  unfold c_rless
  refine T.seq_k (fun K_h1 h1 => ?_)
  refine T.regi hm ?_
  simp only [↓reduceIte, namesOf, List.any, I.names, aops, aopsI, aopsT, qstep, CPt, qget, Tbl.get, astep, ev, setd, List.set, List.getD, List.getElem?_cons_zero, List.getElem?_cons_succ, List.getElem?_nil, List.cons_append, List.nil_append, List.length_cons, List.length_nil, List.replicate, then_normal, inBlock_normal, Option.getD_some, Option.getD_none, Bool.or_false, Bool.or_true, Bool.true_or, Bool.false_or, Bool.false_eq_true, if_false, if_true, up_zero, Nat.reduceAdd, Nat.reduceSub, binv, ↓opt_def, AV.isAny, AV.cells, ldc, List.map_cons, List.map_nil, St.set_next, St.set_same, St.up_next, Int.natCast_nonneg, lt_len, le_len, Int.toNat_natCast, true_and, and_true, eq_self, reduceCtorEq, decide_true, List.length_singleton, er_int, er_bool, er_str]
  obtain ⟨h0, h0', hq⟩ := box2 wf 3 (.obj (spC a)) (.obj (spC b))
  generalize (((σ.up 3).set (σ.next + 0) (.obj (spC a))).set (σ.next + 1) (.obj (spC b))) = σ1 at h0 h0' hq ⊢
  refine h1 _ _ ?_
  try clear h1 K_h1
  refine T.seq_k (fun K_h1 h1 => ?_)
  refine T.seq_k (fun K_h2 h2 => ?_)
  by_cases c1 : a.st = b.st
  case neg =>
    have e1 : (a.st != b.st) = true := by simpa using c1
    refine T.regi hm ?_
    simp only [↓reduceIte, namesOf, List.any, I.names, aops, aopsI, aopsT, qstep, CPt, qget, Tbl.get, astep, ev, setd, List.set, List.getD, List.getElem?_cons_zero, List.getElem?_cons_succ, List.getElem?_nil, List.cons_append, List.nil_append, List.length_cons, List.length_nil, List.replicate, then_normal, inBlock_normal, Option.getD_some, Option.getD_none, Bool.or_false, Bool.or_true, Bool.true_or, Bool.false_or, Bool.false_eq_true, if_false, if_true, up_zero, Nat.reduceAdd, Nat.reduceSub, binv, ↓opt_def, AV.isAny, AV.cells, ldc, List.map_cons, List.map_nil, St.set_next, St.set_same, St.up_next, Int.natCast_nonneg, lt_len, le_len, Int.toNat_natCast, true_and, and_true, eq_self, reduceCtorEq, decide_true, List.length_singleton, er_int, er_bool, er_str, h0, h0', e1]
    refine h2 _ _ ?_
    try clear h2 K_h2
    refine T.cond rfl (fun _ => ?_) (fun h => by cases h)
    refine T.seq_k (fun K_h2 h2 => ?_)
    refine T.regi hm ?_
    simp only [↓reduceIte, namesOf, List.any, I.names, aops, aopsI, aopsT, qstep, CPt, qget, Tbl.get, astep, ev, setd, List.set, List.getD, List.getElem?_cons_zero, List.getElem?_cons_succ, List.getElem?_nil, List.cons_append, List.nil_append, List.length_cons, List.length_nil, List.replicate, then_normal, inBlock_normal, Option.getD_some, Option.getD_none, Bool.or_false, Bool.or_true, Bool.true_or, Bool.false_or, Bool.false_eq_true, if_false, if_true, up_zero, Nat.reduceAdd, Nat.reduceSub, binv, ↓opt_def, AV.isAny, AV.cells, ldc, List.map_cons, List.map_nil, St.set_next, St.set_same, St.up_next, Int.natCast_nonneg, lt_len, le_len, Int.toNat_natCast, true_and, and_true, eq_self, reduceCtorEq, decide_true, List.length_singleton, er_int, er_bool, er_str, h0, h0']
    refine h2 _ _ ?_
    try clear h2 K_h2
    exact T.ret (Fin.quiet rfl trivial hq ⟨by simp [pack, lessS, c1], rfl⟩)
  have e1 : (a.st != b.st) = false := by simpa using c1
  refine T.regi hm ?_
  simp only [↓reduceIte, namesOf, List.any, I.names, aops, aopsI, aopsT, qstep, CPt, qget, Tbl.get, astep, ev, setd, List.set, List.getD, List.getElem?_cons_zero, List.getElem?_cons_succ, List.getElem?_nil, List.cons_append, List.nil_append, List.length_cons, List.length_nil, List.replicate, then_normal, inBlock_normal, Option.getD_some, Option.getD_none, Bool.or_false, Bool.or_true, Bool.true_or, Bool.false_or, Bool.false_eq_true, if_false, if_true, up_zero, Nat.reduceAdd, Nat.reduceSub, binv, ↓opt_def, AV.isAny, AV.cells, ldc, List.map_cons, List.map_nil, St.set_next, St.set_same, St.up_next, Int.natCast_nonneg, lt_len, le_len, Int.toNat_natCast, true_and, and_true, eq_self, reduceCtorEq, decide_true, List.length_singleton, er_int, er_bool, er_str, h0, h0', e1]
  refine h2 _ _ ?_
  try clear h2 K_h2
  refine T.cond rfl (fun h => by cases h) (fun _ => T.skip ?_)
  refine h1 _ _ ?_
  try clear h1 K_h1
  refine T.seq_k (fun K_h1 h1 => ?_)
  refine T.seq_k (fun K_h2 h2 => ?_)
  by_cases c2 : a.en = b.en
  case neg =>
    have e2 : (a.en != b.en) = true := by simpa using c2
    refine T.regi hm ?_
    simp only [↓reduceIte, namesOf, List.any, I.names, aops, aopsI, aopsT, qstep, CPt, qget, Tbl.get, astep, ev, setd, List.set, List.getD, List.getElem?_cons_zero, List.getElem?_cons_succ, List.getElem?_nil, List.cons_append, List.nil_append, List.length_cons, List.length_nil, List.replicate, then_normal, inBlock_normal, Option.getD_some, Option.getD_none, Bool.or_false, Bool.or_true, Bool.true_or, Bool.false_or, Bool.false_eq_true, if_false, if_true, up_zero, Nat.reduceAdd, Nat.reduceSub, binv, ↓opt_def, AV.isAny, AV.cells, ldc, List.map_cons, List.map_nil, St.set_next, St.set_same, St.up_next, Int.natCast_nonneg, lt_len, le_len, Int.toNat_natCast, true_and, and_true, eq_self, reduceCtorEq, decide_true, List.length_singleton, er_int, er_bool, er_str, h0, h0', e2]
    refine h2 _ _ ?_
    try clear h2 K_h2
    refine T.cond rfl (fun _ => ?_) (fun h => by cases h)
    refine T.seq_k (fun K_h2 h2 => ?_)
    refine T.regi hm ?_
    simp only [↓reduceIte, namesOf, List.any, I.names, aops, aopsI, aopsT, qstep, CPt, qget, Tbl.get, astep, ev, setd, List.set, List.getD, List.getElem?_cons_zero, List.getElem?_cons_succ, List.getElem?_nil, List.cons_append, List.nil_append, List.length_cons, List.length_nil, List.replicate, then_normal, inBlock_normal, Option.getD_some, Option.getD_none, Bool.or_false, Bool.or_true, Bool.true_or, Bool.false_or, Bool.false_eq_true, if_false, if_true, up_zero, Nat.reduceAdd, Nat.reduceSub, binv, ↓opt_def, AV.isAny, AV.cells, ldc, List.map_cons, List.map_nil, St.set_next, St.set_same, St.up_next, Int.natCast_nonneg, lt_len, le_len, Int.toNat_natCast, true_and, and_true, eq_self, reduceCtorEq, decide_true, List.length_singleton, er_int, er_bool, er_str, h0, h0']
    refine h2 _ _ ?_
    try clear h2 K_h2
    exact T.ret (Fin.quiet rfl trivial hq ⟨by simp [pack, lessS, c1, c2], rfl⟩)
  have e2 : (a.en != b.en) = false := by simpa using c2
  refine T.regi hm ?_
  simp only [↓reduceIte, namesOf, List.any, I.names, aops, aopsI, aopsT, qstep, CPt, qget, Tbl.get, astep, ev, setd, List.set, List.getD, List.getElem?_cons_zero, List.getElem?_cons_succ, List.getElem?_nil, List.cons_append, List.nil_append, List.length_cons, List.length_nil, List.replicate, then_normal, inBlock_normal, Option.getD_some, Option.getD_none, Bool.or_false, Bool.or_true, Bool.true_or, Bool.false_or, Bool.false_eq_true, if_false, if_true, up_zero, Nat.reduceAdd, Nat.reduceSub, binv, ↓opt_def, AV.isAny, AV.cells, ldc, List.map_cons, List.map_nil, St.set_next, St.set_same, St.up_next, Int.natCast_nonneg, lt_len, le_len, Int.toNat_natCast, true_and, and_true, eq_self, reduceCtorEq, decide_true, List.length_singleton, er_int, er_bool, er_str, h0, h0', e2]
  refine h2 _ _ ?_
  try clear h2 K_h2
  refine T.cond rfl (fun h => by cases h) (fun _ => T.skip ?_)
  refine h1 _ _ ?_
  try clear h1 K_h1
  refine T.seq_k (fun K_h1 h1 => ?_)
  refine T.regi hm ?_
  simp only [↓reduceIte, namesOf, List.any, I.names, aops, aopsI, aopsT, qstep, CPt, qget, Tbl.get, astep, ev, setd, List.set, List.getD, List.getElem?_cons_zero, List.getElem?_cons_succ, List.getElem?_nil, List.cons_append, List.nil_append, List.length_cons, List.length_nil, List.replicate, then_normal, inBlock_normal, Option.getD_some, Option.getD_none, Bool.or_false, Bool.or_true, Bool.true_or, Bool.false_or, Bool.false_eq_true, if_false, if_true, up_zero, Nat.reduceAdd, Nat.reduceSub, binv, ↓opt_def, AV.isAny, AV.cells, ldc, List.map_cons, List.map_nil, St.set_next, St.set_same, St.up_next, Int.natCast_nonneg, lt_len, le_len, Int.toNat_natCast, true_and, and_true, eq_self, reduceCtorEq, decide_true, List.length_singleton, er_int, er_bool, er_str, h0, h0', toBytes_bytes, sbinv]
  refine h1 _ _ ?_
  try clear h1 K_h1
  refine T.ret (Fin.quiet rfl trivial hq ⟨?_, rfl⟩)
  have eb : ∀ l : List UInt8, (⟨l.toArray⟩ : ByteArray).toList = l := fun l => by rw [ByteArray.toList_eq]
  simp [pack, lessS, c1, c2, eb]

theorem sp_eq {a b : Sp} : a = b ↔ a.tr = b.tr ∧ a.id = b.id ∧ a.st = b.st ∧ a.en = b.en ∧ a.da = b.da := by
  obtain ⟨a1, a2, a3, a4, a5⟩ := a
  obtain ⟨b1, b2, b3, b4, b5⟩ := b
  simp

theorem rsame_ok {a b : Sp} {σ : St} : ACalls Try.prog n_rsame [.agg (spC a), .agg (spC b)] σ (fun v σ' => v = .bool (decide (a = b)) ∧ σ' = σ) := by
  refine s_rsame (fun wf => ?_)
  unfold c_rsame
  refine T.seq_k (fun K_h1 h1 => ?_)
  refine T.regi hm ?_
  simp only [↓reduceIte, namesOf, List.any, I.names, aops, aopsI, aopsT, qstep, CPt, qget, Tbl.get, astep, ev, setd, List.set, List.getD, List.getElem?_cons_zero, List.getElem?_cons_succ, List.getElem?_nil, List.cons_append, List.nil_append, List.length_cons, List.length_nil, List.replicate, then_normal, inBlock_normal, Option.getD_some, Option.getD_none, Bool.or_false, Bool.or_true, Bool.true_or, Bool.false_or, Bool.false_eq_true, if_false, if_true, up_zero, Nat.reduceAdd, Nat.reduceSub, binv, ↓opt_def, AV.isAny, AV.cells, ldc, List.map_cons, List.map_nil, St.set_next, St.set_same, St.up_next, Int.natCast_nonneg, lt_len, le_len, Int.toNat_natCast, true_and, and_true, eq_self, reduceCtorEq, decide_true, List.length_singleton, er_int, er_bool, er_str]
  obtain ⟨h0, h0', hq⟩ := box2 wf 3 (.obj (spC a)) (.obj (spC b))
  generalize (((σ.up 3).set (σ.next + 0) (.obj (spC a))).set (σ.next + 1) (.obj (spC b))) = σ1 at h0 h0' hq ⊢
  refine h1 _ _ ?_
  try clear h1 K_h1
  refine T.seq_k (fun K_h1 h1 => ?_)
  have no : ¬ a = b → decide (a = b) = false := fun h => decide_eq_false h
  by_cases c1 : a.tr = b.tr
  case neg =>
    have e1 : ((a.tr : Int) == (b.tr : Int)) = false := by simp; omega
    refine T.regi hm ?_
    simp only [↓reduceIte, namesOf, List.any, I.names, aops, aopsI, aopsT, qstep, CPt, qget, Tbl.get, astep, ev, setd, List.set, List.getD, List.getElem?_cons_zero, List.getElem?_cons_succ, List.getElem?_nil, List.cons_append, List.nil_append, List.length_cons, List.length_nil, List.replicate, then_normal, inBlock_normal, Option.getD_some, Option.getD_none, Bool.or_false, Bool.or_true, Bool.true_or, Bool.false_or, Bool.false_eq_true, if_false, if_true, up_zero, Nat.reduceAdd, Nat.reduceSub, binv, ↓opt_def, AV.isAny, AV.cells, ldc, List.map_cons, List.map_nil, St.set_next, St.set_same, St.up_next, Int.natCast_nonneg, lt_len, le_len, Int.toNat_natCast, true_and, and_true, eq_self, reduceCtorEq, decide_true, List.length_singleton, er_int, er_bool, er_str, h0, h0', e1, reduceCtorEq]
    refine h1 _ _ ?_
    try clear h1 K_h1
    exact T.ret (Fin.quiet rfl trivial hq ⟨by rw [no (fun h => c1 (by rw [h]))]; rfl, rfl⟩)
  have e1 : ((a.tr : Int) == (b.tr : Int)) = true := by simp; omega
  by_cases c2 : a.id = b.id
  case neg =>
    have e2 : ((a.id : Int) == (b.id : Int)) = false := by simp; omega
    refine T.regi hm ?_
    simp only [↓reduceIte, namesOf, List.any, I.names, aops, aopsI, aopsT, qstep, CPt, qget, Tbl.get, astep, ev, setd, List.set, List.getD, List.getElem?_cons_zero, List.getElem?_cons_succ, List.getElem?_nil, List.cons_append, List.nil_append, List.length_cons, List.length_nil, List.replicate, then_normal, inBlock_normal, Option.getD_some, Option.getD_none, Bool.or_false, Bool.or_true, Bool.true_or, Bool.false_or, Bool.false_eq_true, if_false, if_true, up_zero, Nat.reduceAdd, Nat.reduceSub, binv, ↓opt_def, AV.isAny, AV.cells, ldc, List.map_cons, List.map_nil, St.set_next, St.set_same, St.up_next, Int.natCast_nonneg, lt_len, le_len, Int.toNat_natCast, true_and, and_true, eq_self, reduceCtorEq, decide_true, List.length_singleton, er_int, er_bool, er_str, h0, h0', e1, e2, reduceCtorEq]
    refine h1 _ _ ?_
    try clear h1 K_h1
    exact T.ret (Fin.quiet rfl trivial hq ⟨by rw [no (fun h => c2 (by rw [h]))]; rfl, rfl⟩)
  have e2 : ((a.id : Int) == (b.id : Int)) = true := by simp; omega
  by_cases c3 : a.st = b.st
  case neg =>
    have e3 : (a.st == b.st) = false := by simpa using c3
    refine T.regi hm ?_
    simp only [↓reduceIte, namesOf, List.any, I.names, aops, aopsI, aopsT, qstep, CPt, qget, Tbl.get, astep, ev, setd, List.set, List.getD, List.getElem?_cons_zero, List.getElem?_cons_succ, List.getElem?_nil, List.cons_append, List.nil_append, List.length_cons, List.length_nil, List.replicate, then_normal, inBlock_normal, Option.getD_some, Option.getD_none, Bool.or_false, Bool.or_true, Bool.true_or, Bool.false_or, Bool.false_eq_true, if_false, if_true, up_zero, Nat.reduceAdd, Nat.reduceSub, binv, ↓opt_def, AV.isAny, AV.cells, ldc, List.map_cons, List.map_nil, St.set_next, St.set_same, St.up_next, Int.natCast_nonneg, lt_len, le_len, Int.toNat_natCast, true_and, and_true, eq_self, reduceCtorEq, decide_true, List.length_singleton, er_int, er_bool, er_str, h0, h0', e1, e2, e3, reduceCtorEq]
    refine h1 _ _ ?_
    try clear h1 K_h1
    exact T.ret (Fin.quiet rfl trivial hq ⟨by rw [no (fun h => c3 (by rw [h]))]; rfl, rfl⟩)
  have e3 : (a.st == b.st) = true := by simpa using c3
  by_cases c4 : a.en = b.en
  case neg =>
    have e4 : (a.en == b.en) = false := by simpa using c4
    refine T.regi hm ?_
    simp only [↓reduceIte, namesOf, List.any, I.names, aops, aopsI, aopsT, qstep, CPt, qget, Tbl.get, astep, ev, setd, List.set, List.getD, List.getElem?_cons_zero, List.getElem?_cons_succ, List.getElem?_nil, List.cons_append, List.nil_append, List.length_cons, List.length_nil, List.replicate, then_normal, inBlock_normal, Option.getD_some, Option.getD_none, Bool.or_false, Bool.or_true, Bool.true_or, Bool.false_or, Bool.false_eq_true, if_false, if_true, up_zero, Nat.reduceAdd, Nat.reduceSub, binv, ↓opt_def, AV.isAny, AV.cells, ldc, List.map_cons, List.map_nil, St.set_next, St.set_same, St.up_next, Int.natCast_nonneg, lt_len, le_len, Int.toNat_natCast, true_and, and_true, eq_self, reduceCtorEq, decide_true, List.length_singleton, er_int, er_bool, er_str, h0, h0', e1, e2, e3, e4, reduceCtorEq]
    refine h1 _ _ ?_
    try clear h1 K_h1
    exact T.ret (Fin.quiet rfl trivial hq ⟨by rw [no (fun h => c4 (by rw [h]))]; rfl, rfl⟩)
  have e4 : (a.en == b.en) = true := by simpa using c4
  refine T.regi hm ?_
  simp only [↓reduceIte, namesOf, List.any, I.names, aops, aopsI, aopsT, qstep, CPt, qget, Tbl.get, astep, ev, setd, List.set, List.getD, List.getElem?_cons_zero, List.getElem?_cons_succ, List.getElem?_nil, List.cons_append, List.nil_append, List.length_cons, List.length_nil, List.replicate, then_normal, inBlock_normal, Option.getD_some, Option.getD_none, Bool.or_false, Bool.or_true, Bool.true_or, Bool.false_or, Bool.false_eq_true, if_false, if_true, up_zero, Nat.reduceAdd, Nat.reduceSub, binv, ↓opt_def, AV.isAny, AV.cells, ldc, List.map_cons, List.map_nil, St.set_next, St.set_same, St.up_next, Int.natCast_nonneg, lt_len, le_len, Int.toNat_natCast, true_and, and_true, eq_self, reduceCtorEq, decide_true, List.length_singleton, er_int, er_bool, er_str, h0, h0', e1, e2, e3, e4, reduceCtorEq, toBytes_bytes, sbinv, ba_eq]
  refine h1 _ _ ?_
  try clear h1 K_h1
  refine T.ret (Fin.quiet rfl trivial hq ⟨?_, rfl⟩)
  have : decide (a = b) = decide (a.da = b.da) := by
    rw [decide_eq_decide, sp_eq]
    exact ⟨fun h => h.2.2.2.2, fun h => ⟨c1, c2, c3, c4, h⟩⟩
  rw [this]; rfl

theorem spC_inj {a b : Sp} (h : AV.agg (spC a) = .agg (spC b)) : a = b := spav_inj h

open Classical in
/-- a table of what a function of two spans comes to -/
noncomputable def g2S (f : Sp → Sp → AV) (args : List AV) : Option AV := if h : ∃ p : Sp × Sp, args = [.agg (spC p.1), .agg (spC p.2)] then some (f h.choose.1 h.choose.2) else none

theorem g2S_eq (f : Sp → Sp → AV) (a b : Sp) : g2S f [.agg (spC a), .agg (spC b)] = some (f a b) := by
  unfold g2S
  have hex : ∃ p : Sp × Sp, [AV.agg (spC a), .agg (spC b)] = [.agg (spC p.1), .agg (spC p.2)] := ⟨(a, b), rfl⟩
  rw [dif_pos hex]
  have hc := hex.choose_spec
  rw [List.cons.injEq, List.cons.injEq] at hc
  rw [← spC_inj hc.1, ← spC_inj hc.2.1]

theorem g2S_pure {n : Nat} {f : Sp → Sp → AV} (h : ∀ a b σ, ACalls Try.prog n [.agg (spC a), .agg (spC b)] σ (fun v σ' => v = f a b ∧ σ' = σ)) : PureC Try.prog n (g2S f) := by
  intro args σ v hv
  unfold g2S at hv
  split at hv
  · rename_i hex
    simp only [Option.some.injEq] at hv; subst hv
    have hc := hex.choose_spec
    generalize hex.choose = c at hc
    subst hc
    exact h _ _ _
  · cases hv

noncomputable def gLess : List AV → Option AV := g2S fun a b => .bool (lessS a b)

noncomputable def gSame : List AV → Option AV := g2S fun a b => .bool (decide (a = b))

noncomputable def gAhead : List AV → Option AV := g2S fun a b => .bool (aheadS a b)

theorem gLess_eq (a b : Sp) : gLess [.agg (spC a), .agg (spC b)] = some (.bool (lessS a b)) := g2S_eq _ a b

theorem gSame_eq (a b : Sp) : gSame [.agg (spC a), .agg (spC b)] = some (.bool (decide (a = b))) := g2S_eq _ a b

theorem gAhead_eq (a b : Sp) : gAhead [.agg (spC a), .agg (spC b)] = some (.bool (aheadS a b)) := g2S_eq _ a b

noncomputable def tG : Tbl := [(n_rless, gLess), (n_rsame, gSame), (n_rahead, gAhead)]

theorem tG_ok : tG.ok Try.prog := Tbl.ok_cons (g2S_pure fun a b σ => rless_ok) (Tbl.ok_cons (g2S_pure fun a b σ => rsame_ok) (Tbl.ok_cons (g2S_pure fun a b σ => rahead_ok) Tbl.ok_nil))

/-! ### Are spans the same? -/

set_option maxRecDepth 10000 in
theorem rspans_ok {a b : List Sp} {g g' : Ver} {σ : St} (hl : a.length ≤ 9223372036854775807) : ACalls Try.prog n_rspans [.sl (spsAV a) g, .sl (spsAV b) g'] σ (fun v σ' => v = .bool (decide (a = b)) ∧ σ' = σ) := by
  refine s_rspans (fun wf => ?_)
  unfold c_rspans
  refine T.seq_k (fun K_h1 h1 => ?_)
  refine T.regi hm ?_
  simp only [↓reduceIte, namesOf, List.any, I.names, aops, aopsI, aopsT, qstep, CPt, qget, Tbl.get, astep, ev, setd, List.set, List.getD, List.getElem?_cons_zero, List.getElem?_cons_succ, List.getElem?_nil, List.cons_append, List.nil_append, List.length_cons, List.length_nil, List.replicate, then_normal, inBlock_normal, Option.getD_some, Option.getD_none, Bool.or_false, Bool.or_true, Bool.true_or, Bool.false_or, Bool.false_eq_true, if_false, if_true, up_zero, Nat.reduceAdd, Nat.reduceSub, binv, ↓opt_def, AV.isAny, AV.cells, ldc, List.map_cons, List.map_nil, St.set_next, St.set_same, St.up_next, Int.natCast_nonneg, lt_len, le_len, Int.toNat_natCast, true_and, and_true, eq_self, reduceCtorEq, decide_true, List.length_singleton, er_int, er_bool, er_str]
  refine h1 _ _ ?_
  try clear h1 K_h1
  refine T.seq_k (fun K_h1 h1 => ?_)
  refine T.seq_k (fun K_h2 h2 => ?_)
  by_cases hlen : a.length = b.length
  case neg =>
    have e1 : ((a.length : Int) != (b.length : Int)) = true := by simp; omega
    refine T.regi hm ?_
    simp only [↓reduceIte, namesOf, List.any, I.names, aops, aopsI, aopsT, qstep, CPt, qget, Tbl.get, astep, ev, setd, List.set, List.getD, List.getElem?_cons_zero, List.getElem?_cons_succ, List.getElem?_nil, List.cons_append, List.nil_append, List.length_cons, List.length_nil, List.replicate, then_normal, inBlock_normal, Option.getD_some, Option.getD_none, Bool.or_false, Bool.or_true, Bool.true_or, Bool.false_or, Bool.false_eq_true, if_false, if_true, up_zero, Nat.reduceAdd, Nat.reduceSub, binv, ↓opt_def, AV.isAny, AV.cells, ldc, List.map_cons, List.map_nil, St.set_next, St.set_same, St.up_next, Int.natCast_nonneg, lt_len, le_len, Int.toNat_natCast, true_and, and_true, eq_self, reduceCtorEq, decide_true, List.length_singleton, er_int, er_bool, er_str, sps_len, e1]
    refine h2 _ _ ?_
    try clear h2 K_h2
    refine T.cond rfl (fun _ => ?_) (fun h => by cases h)
    refine T.seq_k (fun K_h2 h2 => ?_)
    refine T.regi hm ?_
    simp only [↓reduceIte, namesOf, List.any, I.names, aops, aopsI, aopsT, qstep, CPt, qget, Tbl.get, astep, ev, setd, List.set, List.getD, List.getElem?_cons_zero, List.getElem?_cons_succ, List.getElem?_nil, List.cons_append, List.nil_append, List.length_cons, List.length_nil, List.replicate, then_normal, inBlock_normal, Option.getD_some, Option.getD_none, Bool.or_false, Bool.or_true, Bool.true_or, Bool.false_or, Bool.false_eq_true, if_false, if_true, up_zero, Nat.reduceAdd, Nat.reduceSub, binv, ↓opt_def, AV.isAny, AV.cells, ldc, List.map_cons, List.map_nil, St.set_next, St.set_same, St.up_next, Int.natCast_nonneg, lt_len, le_len, Int.toNat_natCast, true_and, and_true, eq_self, reduceCtorEq, decide_true, List.length_singleton, er_int, er_bool, er_str]
    refine h2 _ _ ?_
    try clear h2 K_h2
    exact T.ret (Fin.ret rfl ⟨by rw [decide_eq_false (fun h => hlen (by rw [h]))]; rfl, rfl⟩)
  have e1 : ((a.length : Int) != (b.length : Int)) = false := by simp; omega
  refine T.regi hm ?_
  simp only [↓reduceIte, namesOf, List.any, I.names, aops, aopsI, aopsT, qstep, CPt, qget, Tbl.get, astep, ev, setd, List.set, List.getD, List.getElem?_cons_zero, List.getElem?_cons_succ, List.getElem?_nil, List.cons_append, List.nil_append, List.length_cons, List.length_nil, List.replicate, then_normal, inBlock_normal, Option.getD_some, Option.getD_none, Bool.or_false, Bool.or_true, Bool.true_or, Bool.false_or, Bool.false_eq_true, if_false, if_true, up_zero, Nat.reduceAdd, Nat.reduceSub, binv, ↓opt_def, AV.isAny, AV.cells, ldc, List.map_cons, List.map_nil, St.set_next, St.set_same, St.up_next, Int.natCast_nonneg, lt_len, le_len, Int.toNat_natCast, true_and, and_true, eq_self, reduceCtorEq, decide_true, List.length_singleton, er_int, er_bool, er_str, sps_len, e1]
  refine h2 _ _ ?_
  try clear h2 K_h2
  refine T.cond rfl (fun h => by cases h) (fun _ => T.skip ?_)
  refine h1 _ _ ?_
  try clear h1 K_h1
  refine T.seq_k (fun K_h1 h1 => ?_)
  refine T.seq_k (fun K_h2 h2 => ?_)
  refine T.regi hm ?_
  simp only [↓reduceIte, namesOf, List.any, I.names, aops, aopsI, aopsT, qstep, CPt, qget, Tbl.get, astep, ev, setd, List.set, List.getD, List.getElem?_cons_zero, List.getElem?_cons_succ, List.getElem?_nil, List.cons_append, List.nil_append, List.length_cons, List.length_nil, List.replicate, then_normal, inBlock_normal, Option.getD_some, Option.getD_none, Bool.or_false, Bool.or_true, Bool.true_or, Bool.false_or, Bool.false_eq_true, if_false, if_true, up_zero, Nat.reduceAdd, Nat.reduceSub, binv, ↓opt_def, AV.isAny, AV.cells, ldc, List.map_cons, List.map_nil, St.set_next, St.set_same, St.up_next, Int.natCast_nonneg, lt_len, le_len, Int.toNat_natCast, true_and, and_true, eq_self, reduceCtorEq, decide_true, List.length_singleton, er_int, er_bool, er_str]
  refine h2 _ _ ?_
  try clear h2 K_h2
  refine T.block ?_
  refine T.gh (Gh.keep [0, 1, 5]) ?_
  refine T.loopi (fun i ρ σ' => σ' = σ ∧ a.take i = b.take i ∧ ρ = [.sl (spsAV a) g, .sl (spsAV b) g', .any, .any, .any, .int .i64 (i : Int)] ++ List.replicate 23 .any)
    a.length 0 (Nat.zero_le _) ⟨rfl, by simp, rfl⟩ ?_
  rintro i ρ σ' hi ⟨rfl, hpre, rfl⟩
  refine T.seq_k (fun K_h2 h2 => ?_)
  refine T.seq_k (fun K_h3 h3 => ?_)
  refine T.regi hm ?_
  simp only [↓reduceIte, namesOf, List.any, I.names, aops, aopsI, aopsT, qstep, CPt, qget, Tbl.get, astep, ev, setd, List.set, List.getD, List.getElem?_cons_zero, List.getElem?_cons_succ, List.getElem?_nil, List.cons_append, List.nil_append, List.length_cons, List.length_nil, List.replicate, then_normal, inBlock_normal, Option.getD_some, Option.getD_none, Bool.or_false, Bool.or_true, Bool.true_or, Bool.false_or, Bool.false_eq_true, if_false, if_true, up_zero, Nat.reduceAdd, Nat.reduceSub, binv, ↓opt_def, AV.isAny, AV.cells, ldc, List.map_cons, List.map_nil, St.set_next, St.set_same, St.up_next, Int.natCast_nonneg, lt_len, le_len, Int.toNat_natCast, true_and, and_true, eq_self, reduceCtorEq, decide_true, List.length_singleton, er_int, er_bool, er_str, sps_len]
  refine h3 _ _ ?_
  try clear h3 K_h3
  refine T.cond rfl (fun hb => ?_) (fun hb => ?_)
  · refine T.skip ?_
    refine h2 _ _ ?_
    try clear h2 K_h2
    have hil : i < a.length := by simpa using hb
    have hjl : i < b.length := by omega
    clear hb
    refine T.seq_k (fun K_h2 h2 => ?_)
    refine T.block ?_
    refine T.seq_k (fun K_h3 h3 => ?_)
    have hge := gSame_eq a[i] b[i]
    refine T.regt hm tG_ok ?_
    simp only [↓reduceIte, namesOf, List.any, I.names, aops, aopsI, aopsT, qstep, CPt, qget, Tbl.get, astep, ev, setd, List.set, List.getD, List.getElem?_cons_zero, List.getElem?_cons_succ, List.getElem?_nil, List.cons_append, List.nil_append, List.length_cons, List.length_nil, List.replicate, then_normal, inBlock_normal, Option.getD_some, Option.getD_none, Bool.or_false, Bool.or_true, Bool.true_or, Bool.false_or, Bool.false_eq_true, if_false, if_true, up_zero, Nat.reduceAdd, Nat.reduceSub, binv, ↓opt_def, AV.isAny, AV.cells, ldc, List.map_cons, List.map_nil, St.set_next, St.set_same, St.up_next, Int.natCast_nonneg, lt_len, le_len, Int.toNat_natCast, true_and, and_true, eq_self, reduceCtorEq, decide_true, List.length_singleton, er_int, er_bool, er_str, Nat.reduceEqDiff, tG, n_rless, n_rsame, n_rahead, sps_len, sps_get hil, sps_get hjl, hil, hjl, spav, AV.fits, AV.one, List.all_cons, List.all_nil, Nat.reduceBEq, Bool.and_true, Bool.not_false, Bool.and_self, Nat.zero_add, splice, List.take, List.drop, Nat.reduceLeDiff, hge]
    refine h3 _ _ ?_
    try clear h3 K_h3
    refine T.seq_k (fun K_h3 h3 => ?_)
    refine T.regi hm ?_
    simp only [↓reduceIte, namesOf, List.any, I.names, aops, aopsI, aopsT, qstep, CPt, qget, Tbl.get, astep, ev, setd, List.set, List.getD, List.getElem?_cons_zero, List.getElem?_cons_succ, List.getElem?_nil, List.cons_append, List.nil_append, List.length_cons, List.length_nil, List.replicate, then_normal, inBlock_normal, Option.getD_some, Option.getD_none, Bool.or_false, Bool.or_true, Bool.true_or, Bool.false_or, Bool.false_eq_true, if_false, if_true, up_zero, Nat.reduceAdd, Nat.reduceSub, binv, ↓opt_def, AV.isAny, AV.cells, ldc, List.map_cons, List.map_nil, St.set_next, St.set_same, St.up_next, Int.natCast_nonneg, lt_len, le_len, Int.toNat_natCast, true_and, and_true, eq_self, reduceCtorEq, decide_true, List.length_singleton, er_int, er_bool, er_str]
    refine h3 _ _ ?_
    try clear h3 K_h3
    refine T.cond rfl (fun hb => ?_) (fun hb => ?_)
    · refine T.seq_k (fun K_h3 h3 => ?_)
      refine T.regi hm ?_
      simp only [↓reduceIte, namesOf, List.any, I.names, aops, aopsI, aopsT, qstep, CPt, qget, Tbl.get, astep, ev, setd, List.set, List.getD, List.getElem?_cons_zero, List.getElem?_cons_succ, List.getElem?_nil, List.cons_append, List.nil_append, List.length_cons, List.length_nil, List.replicate, then_normal, inBlock_normal, Option.getD_some, Option.getD_none, Bool.or_false, Bool.or_true, Bool.true_or, Bool.false_or, Bool.false_eq_true, if_false, if_true, up_zero, Nat.reduceAdd, Nat.reduceSub, binv, ↓opt_def, AV.isAny, AV.cells, ldc, List.map_cons, List.map_nil, St.set_next, St.set_same, St.up_next, Int.natCast_nonneg, lt_len, le_len, Int.toNat_natCast, true_and, and_true, eq_self, reduceCtorEq, decide_true, List.length_singleton, er_int, er_bool, er_str]
      refine h3 _ _ ?_
      try clear h3 K_h3
      have hne : a[i] ≠ b[i] := by simpa using hb
      have hab : a ≠ b := by intro h; subst h; exact hne rfl
      exact T.ret (Fin.ret rfl ⟨by rw [decide_eq_false hab]; rfl, rfl⟩)
    · refine T.skip ?_
      refine h2 _ _ ?_
      try clear h2 K_h2
      have he : a[i] = b[i] := by simpa using hb
      have hw := inc64 hil hl
      refine T.regi hm ?_
      simp only [↓reduceIte, namesOf, List.any, I.names, aops, aopsI, aopsT, qstep, CPt, qget, Tbl.get, astep, ev, setd, List.set, List.getD, List.getElem?_cons_zero, List.getElem?_cons_succ, List.getElem?_nil, List.cons_append, List.nil_append, List.length_cons, List.length_nil, List.replicate, then_normal, inBlock_normal, Option.getD_some, Option.getD_none, Bool.or_false, Bool.or_true, Bool.true_or, Bool.false_or, Bool.false_eq_true, if_false, if_true, up_zero, Nat.reduceAdd, Nat.reduceSub, binv, ↓opt_def, AV.isAny, AV.cells, ldc, List.map_cons, List.map_nil, St.set_next, St.set_same, St.up_next, Int.natCast_nonneg, lt_len, le_len, Int.toNat_natCast, true_and, and_true, eq_self, reduceCtorEq, decide_true, List.length_singleton, er_int, er_bool, er_str, hw]
      refine ⟨hil, _, _, Gh.keep [0, 1, 5], rfl, ?_, rfl⟩
      rw [List.take_succ_eq_append_getElem hil, List.take_succ_eq_append_getElem hjl, hpre, he]
  · refine T.exit ?_
    have : i = a.length := by simp at hb; omega
    subst this
    have hab : a = b := by rw [List.take_length, hlen, List.take_length] at hpre; exact hpre
    try simp only [↓reduceIte, namesOf, List.any, I.names, aops, aopsI, aopsT, qstep, CPt, qget, Tbl.get, astep, ev, setd, List.set, List.getD, List.getElem?_cons_zero, List.getElem?_cons_succ, List.getElem?_nil, List.cons_append, List.nil_append, List.length_cons, List.length_nil, List.replicate, then_normal, inBlock_normal, Option.getD_some, Option.getD_none, Bool.or_false, Bool.or_true, Bool.true_or, Bool.false_or, Bool.false_eq_true, if_false, if_true, up_zero, Nat.reduceAdd, Nat.reduceSub, binv, ↓opt_def, AV.isAny, AV.cells, ldc, List.map_cons, List.map_nil, St.set_next, St.set_same, St.up_next, Int.natCast_nonneg, lt_len, le_len, Int.toNat_natCast, true_and, and_true, eq_self, reduceCtorEq, decide_true, List.length_singleton, er_int, er_bool, er_str, inBlock_exit, then_exit]
    refine h1 _ _ ?_
    try clear h1 K_h1
    refine T.seq_k (fun K_h1 h1 => ?_)
    refine T.regi hm ?_
    simp only [↓reduceIte, namesOf, List.any, I.names, aops, aopsI, aopsT, qstep, CPt, qget, Tbl.get, astep, ev, setd, List.set, List.getD, List.getElem?_cons_zero, List.getElem?_cons_succ, List.getElem?_nil, List.cons_append, List.nil_append, List.length_cons, List.length_nil, List.replicate, then_normal, inBlock_normal, Option.getD_some, Option.getD_none, Bool.or_false, Bool.or_true, Bool.true_or, Bool.false_or, Bool.false_eq_true, if_false, if_true, up_zero, Nat.reduceAdd, Nat.reduceSub, binv, ↓opt_def, AV.isAny, AV.cells, ldc, List.map_cons, List.map_nil, St.set_next, St.set_same, St.up_next, Int.natCast_nonneg, lt_len, le_len, Int.toNat_natCast, true_and, and_true, eq_self, reduceCtorEq, decide_true, List.length_singleton, er_int, er_bool, er_str]
    refine h1 _ _ ?_
    try clear h1 K_h1
    exact T.ret (Fin.ret rfl ⟨by rw [decide_eq_true hab]; rfl, rfl⟩)

end Go.VL
