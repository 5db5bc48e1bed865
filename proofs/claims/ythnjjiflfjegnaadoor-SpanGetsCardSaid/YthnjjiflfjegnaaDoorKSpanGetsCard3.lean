/- Texts put together, of these what the theorem needs: Contracts: readers. A reader is an owned row of three: bytes, how far, where amiss. Contracts: the document's reader. Contracts: small things that are used often; an error's number. Contracts: readers, told as functions. States that are alike but for new names; a named end among them; arithmetic of words. The compiled code of functions of this seat. MADE BY PROGRAM (mkc.py). Contracts: spans and traces that are few; what may be. Contracts: pages that are few; comparing. Contracts: canonical traces. The compiled code of functions of this seat. MADE BY PROGRAM (mkc.py). Contracts: the bytes of texts and spans. Contracts: readers of texts. Contracts: lists of canonical traces; rows put together. Contracts: the document's answer for spans, compared. Contracts: the document's gathering. -/
import Derived.Test.YthnjjiflfjegnaaDoorKSpanGetsCard2
import Derived.Test.YthnjjiflfjegnaaDoorChecked

set_option linter.unusedSimpArgs false
set_option linter.unusedVariables false

namespace Go.VL

open Go.Proofs

def rd (l : List UInt8) (g : Ver) (at_ bad : Int) : Res := .obj [.sl (bytesAV l) g, .int .i64 at_, .int .i64 bad]

theorem wbad_ok {l : List UInt8} {g : Ver} {at_ bad : Int} {n : Nat} {σ : St} (hr : σ.res n = some (rd l g at_ bad)) : ACalls Tryd.prog n_wbad [.ptr n 0] σ (fun v σ' => v = .int .i64 bad ∧ σ' = σ) := by
  refine s_wbad (fun wf => ?_)
  unfold c_wbad rd at *
  refine T.seq_k (fun K_h1 h1 => ?_)
  refine T.regi hm ?_
  simp only [↓reduceIte, namesOf, List.any, I.names, aops, aopsI, aopsT, qstep, CPt, qget, Tbl.get, astep, ev, setd, List.set, List.getD, List.getElem?_cons_zero, List.getElem?_cons_succ, List.getElem?_nil, List.cons_append, List.nil_append, List.length_cons, List.length_nil, List.replicate, then_normal, inBlock_normal, Option.getD_some, Option.getD_none, Bool.or_false, Bool.or_true, Bool.true_or, Bool.false_or, Bool.false_eq_true, if_false, if_true, up_zero, Nat.reduceAdd, Nat.reduceSub, binv, ↓opt_def, AV.isAny, AV.cells, ldc, List.map_cons, List.map_nil, St.set_next, St.set_same, St.up_next, Int.natCast_nonneg, lt_len, le_len, Int.toNat_natCast, true_and, and_true, eq_self, reduceCtorEq, decide_true, List.length_singleton, er_int, er_bool, er_str]
  refine h1 _ _ ?_
  try clear h1 K_h1
  refine T.seq_k (fun K_h1 h1 => ?_)
  refine T.regi hm ?_
  simp only [↓reduceIte, namesOf, List.any, I.names, aops, aopsI, aopsT, qstep, CPt, qget, Tbl.get, astep, ev, setd, List.set, List.getD, List.getElem?_cons_zero, List.getElem?_cons_succ, List.getElem?_nil, List.cons_append, List.nil_append, List.length_cons, List.length_nil, List.replicate, then_normal, inBlock_normal, Option.getD_some, Option.getD_none, Bool.or_false, Bool.or_true, Bool.true_or, Bool.false_or, Bool.false_eq_true, if_false, if_true, up_zero, Nat.reduceAdd, Nat.reduceSub, binv, ↓opt_def, AV.isAny, AV.cells, ldc, List.map_cons, List.map_nil, St.set_next, St.set_same, St.up_next, Int.natCast_nonneg, lt_len, le_len, Int.toNat_natCast, true_and, and_true, eq_self, reduceCtorEq, decide_true, List.length_singleton, er_int, er_bool, er_str, hr, Nat.zero_add]
  refine h1 _ _ ?_
  try clear h1 K_h1
  exact T.ret (Fin.ret rfl ⟨rfl, rfl⟩)

theorem wleft_ok {l : List UInt8} {g : Ver} {at_ bad : Int} {n : Nat} {σ : St} (hl : l.length ≤ 1099511627776) (h0 : 0 ≤ at_) (h1' : at_ ≤ l.length) (hr : σ.res n = some (rd l g at_ bad)) :
    ACalls Tryd.prog n_wleft [.ptr n 0] σ (fun v σ' => v = .int .i64 (l.length - at_) ∧ σ' = σ) := by
  refine s_wleft (fun wf => ?_)
  unfold c_wleft rd at *
  refine T.seq_k (fun K_h1 h1 => ?_)
  refine T.regi hm ?_
  simp only [↓reduceIte, namesOf, List.any, I.names, aops, aopsI, aopsT, qstep, CPt, qget, Tbl.get, astep, ev, setd, List.set, List.getD, List.getElem?_cons_zero, List.getElem?_cons_succ, List.getElem?_nil, List.cons_append, List.nil_append, List.length_cons, List.length_nil, List.replicate, then_normal, inBlock_normal, Option.getD_some, Option.getD_none, Bool.or_false, Bool.or_true, Bool.true_or, Bool.false_or, Bool.false_eq_true, if_false, if_true, up_zero, Nat.reduceAdd, Nat.reduceSub, binv, ↓opt_def, AV.isAny, AV.cells, ldc, List.map_cons, List.map_nil, St.set_next, St.set_same, St.up_next, Int.natCast_nonneg, lt_len, le_len, Int.toNat_natCast, true_and, and_true, eq_self, reduceCtorEq, decide_true, List.length_singleton, er_int, er_bool, er_str]
  refine h1 _ _ ?_
  try clear h1 K_h1
  refine T.seq_k (fun K_h1 h1 => ?_)
  have e1 : IntKind.i64.wrap ((l.length : Int) - at_) = (l.length : Int) - at_ := wrap64 (by omega) (by omega)
  refine T.regi hm ?_
  simp only [↓reduceIte, namesOf, List.any, I.names, aops, aopsI, aopsT, qstep, CPt, qget, Tbl.get, astep, ev, setd, List.set, List.getD, List.getElem?_cons_zero, List.getElem?_cons_succ, List.getElem?_nil, List.cons_append, List.nil_append, List.length_cons, List.length_nil, List.replicate, then_normal, inBlock_normal, Option.getD_some, Option.getD_none, Bool.or_false, Bool.or_true, Bool.true_or, Bool.false_or, Bool.false_eq_true, if_false, if_true, up_zero, Nat.reduceAdd, Nat.reduceSub, binv, ↓opt_def, AV.isAny, AV.cells, ldc, List.map_cons, List.map_nil, St.set_next, St.set_same, St.up_next, Int.natCast_nonneg, lt_len, le_len, Int.toNat_natCast, true_and, and_true, eq_self, reduceCtorEq, decide_true, List.length_singleton, er_int, er_bool, er_str, hr, Nat.zero_add, bytesAV_len, e1]
  refine h1 _ _ ?_
  try clear h1 K_h1
  exact T.ret (Fin.ret rfl ⟨rfl, rfl⟩)

theorem wfail_ok {l : List UInt8} {g : Ver} {at_ bad x : Int} {n : Nat} {σ : St} (hr : σ.res n = some (rd l g at_ bad)) :
    ACalls Tryd.prog n_wfail [.ptr n 0, .int .i64 x] σ (fun _ σ' => σ' = σ.set n (rd l g at_ (if bad = -1 then x else bad))) := by
  refine s_wfail (fun wf => ?_)
  unfold c_wfail rd at *
  refine T.seq_k (fun K_h1 h1 => ?_)
  by_cases hb : bad = -1
  · have e : (bad == -1) = true := by simpa using hb
    refine T.regi hm ?_
    simp only [↓reduceIte, namesOf, List.any, I.names, aops, aopsI, aopsT, qstep, CPt, qget, Tbl.get, astep, ev, setd, List.set, List.getD, List.getElem?_cons_zero, List.getElem?_cons_succ, List.getElem?_nil, List.cons_append, List.nil_append, List.length_cons, List.length_nil, List.replicate, then_normal, inBlock_normal, Option.getD_some, Option.getD_none, Bool.or_false, Bool.or_true, Bool.true_or, Bool.false_or, Bool.false_eq_true, if_false, if_true, up_zero, Nat.reduceAdd, Nat.reduceSub, binv, ↓opt_def, AV.isAny, AV.cells, ldc, List.map_cons, List.map_nil, St.set_next, St.set_same, St.up_next, Int.natCast_nonneg, lt_len, le_len, Int.toNat_natCast, true_and, and_true, eq_self, reduceCtorEq, decide_true, List.length_singleton, er_int, er_bool, er_str, hr, Nat.zero_add, e]
    refine h1 _ _ ?_
    try clear h1 K_h1
    refine T.cond rfl (fun _ => ?_) (fun h => by cases h)
    refine T.regi hm ?_
    simp only [↓reduceIte, namesOf, List.any, I.names, aops, aopsI, aopsT, qstep, CPt, qget, Tbl.get, astep, ev, setd, List.set, List.getD, List.getElem?_cons_zero, List.getElem?_cons_succ, List.getElem?_nil, List.cons_append, List.nil_append, List.length_cons, List.length_nil, List.replicate, then_normal, inBlock_normal, Option.getD_some, Option.getD_none, Bool.or_false, Bool.or_true, Bool.true_or, Bool.false_or, Bool.false_eq_true, if_false, if_true, up_zero, Nat.reduceAdd, Nat.reduceSub, binv, ↓opt_def, AV.isAny, AV.cells, ldc, List.map_cons, List.map_nil, St.set_next, St.set_same, St.up_next, Int.natCast_nonneg, lt_len, le_len, Int.toNat_natCast, true_and, and_true, eq_self, reduceCtorEq, decide_true, List.length_singleton, er_int, er_bool, er_str, hr, AV.fits, AV.one, List.all_cons, List.all_nil, Nat.reduceBEq, Bool.and_true, Bool.not_false, Bool.and_self, Nat.zero_add, splice, List.take, List.drop, Nat.reduceLeDiff]
    refine Fin.retn rfl ?_
    simp only [hb, if_true]
  · have e : (bad == -1) = false := by simpa using hb
    refine T.regi hm ?_
    simp only [↓reduceIte, namesOf, List.any, I.names, aops, aopsI, aopsT, qstep, CPt, qget, Tbl.get, astep, ev, setd, List.set, List.getD, List.getElem?_cons_zero, List.getElem?_cons_succ, List.getElem?_nil, List.cons_append, List.nil_append, List.length_cons, List.length_nil, List.replicate, then_normal, inBlock_normal, Option.getD_some, Option.getD_none, Bool.or_false, Bool.or_true, Bool.true_or, Bool.false_or, Bool.false_eq_true, if_false, if_true, up_zero, Nat.reduceAdd, Nat.reduceSub, binv, ↓opt_def, AV.isAny, AV.cells, ldc, List.map_cons, List.map_nil, St.set_next, St.set_same, St.up_next, Int.natCast_nonneg, lt_len, le_len, Int.toNat_natCast, true_and, and_true, eq_self, reduceCtorEq, decide_true, List.length_singleton, er_int, er_bool, er_str, hr, Nat.zero_add, e]
    refine h1 _ _ ?_
    try clear h1 K_h1
    refine T.cond rfl (fun h => by cases h) (fun _ => ?_)
    refine T.skip (Fin.retn rfl ?_)
    simp only [if_neg hb]
    have : σ.set n (.obj [.sl (bytesAV l) g, .int .i64 at_, .int .i64 bad]) = σ := by
      rw [← St.set_self hr]
      simp
    exact this.symm

/-- what a reader may be -/
structure Rd (l : List UInt8) (at_ bad : Int) : Prop where
  len : l.length ≤ 1099511627776
  lo : 0 ≤ at_
  hi : at_ ≤ l.length

def takeOk (l : List UInt8) (at_ bad w : Int) : Prop := bad = -1 ∧ w ≤ l.length - at_

theorem wtake_ok {l : List UInt8} {g : Ver} {at_ bad : Int} {w n : Nat} {σ : St} (hd : Rd l at_ bad) (hw : w ≤ 1000000000) (hr : σ.res n = some (rd l g at_ bad)) :
    ACalls Tryd.prog n_wtake [.ptr n 0, .int .i64 w] σ (fun v σ' => (takeOk l at_ bad w ∧ v = .sl (bytesAV ((l.drop at_.toNat).take w)) .none ∧ σ' = σ.set n (rd l g (at_ + w) bad)) ∨
      (¬ takeOk l at_ bad w ∧ v = .sl [] .none ∧ σ' = σ.set n (rd l g at_ (if bad = -1 then at_ else bad)))) := by
  obtain ⟨hl, h0, hhi⟩ := hd
  refine s_wtake (fun wf => ?_)
  unfold c_wtake
  refine T.seq_k (fun K_h1 h1 => ?_)
  refine T.regi hm ?_
  simp only [↓reduceIte, namesOf, List.any, I.names, aops, aopsI, aopsT, qstep, CPt, qget, Tbl.get, astep, ev, setd, List.set, List.getD, List.getElem?_cons_zero, List.getElem?_cons_succ, List.getElem?_nil, List.cons_append, List.nil_append, List.length_cons, List.length_nil, List.replicate, then_normal, inBlock_normal, Option.getD_some, Option.getD_none, Bool.or_false, Bool.or_true, Bool.true_or, Bool.false_or, Bool.false_eq_true, if_false, if_true, up_zero, Nat.reduceAdd, Nat.reduceSub, binv, ↓opt_def, AV.isAny, AV.cells, ldc, List.map_cons, List.map_nil, St.set_next, St.set_same, St.up_next, Int.natCast_nonneg, lt_len, le_len, Int.toNat_natCast, true_and, and_true, eq_self, reduceCtorEq, decide_true, List.length_singleton, er_int, er_bool, er_str]
  refine h1 _ _ ?_
  try clear h1 K_h1
  refine T.seq_k (fun K_h1 h1 => ?_)
  refine T.seq_k (fun K_h2 h2 => ?_)
  have hr' := hr
  unfold rd at hr
  have hfail : ¬ takeOk l at_ bad w → ∀ ρ, keep [0, 23] 0 ρ = [.ptr n 0] ++ List.replicate 22 .any ++ [.bool true] ++ List.replicate 29 .any → K_h2 ρ σ := by
    intro hno ρ hρ
    refine h2 _ _ (T.gh (Gh.keep [0, 23]) ?_)
    rw [hρ]
    clear h1 h2 hρ ρ
    refine T.cond rfl (fun _ => ?_) (fun h => by cases h)
    refine T.seq_k (fun K_h1 h1 => ?_)
    refine T.regi hm ?_
    simp only [↓reduceIte, namesOf, List.any, I.names, aops, aopsI, aopsT, qstep, CPt, qget, Tbl.get, astep, ev, setd, List.set, List.getD, List.getElem?_cons_zero, List.getElem?_cons_succ, List.getElem?_nil, List.cons_append, List.nil_append, List.length_cons, List.length_nil, List.replicate, then_normal, inBlock_normal, Option.getD_some, Option.getD_none, Bool.or_false, Bool.or_true, Bool.true_or, Bool.false_or, Bool.false_eq_true, if_false, if_true, up_zero, Nat.reduceAdd, Nat.reduceSub, binv, ↓opt_def, AV.isAny, AV.cells, ldc, List.map_cons, List.map_nil, St.set_next, St.set_same, St.up_next, Int.natCast_nonneg, lt_len, le_len, Int.toNat_natCast, true_and, and_true, eq_self, reduceCtorEq, decide_true, List.length_singleton, er_int, er_bool, er_str, hr, Nat.zero_add]
    refine (wfail_ok (σ := σ) hr').mono ?_
    rintro v σ2 rfl
    refine h1 _ _ ?_
    try clear h1 K_h1
    refine T.seq_k (fun K_h1 h1 => ?_)
    refine T.regi hm ?_
    simp only [↓reduceIte, namesOf, List.any, I.names, aops, aopsI, aopsT, qstep, CPt, qget, Tbl.get, astep, ev, setd, List.set, List.getD, List.getElem?_cons_zero, List.getElem?_cons_succ, List.getElem?_nil, List.cons_append, List.nil_append, List.length_cons, List.length_nil, List.replicate, then_normal, inBlock_normal, Option.getD_some, Option.getD_none, Bool.or_false, Bool.or_true, Bool.true_or, Bool.false_or, Bool.false_eq_true, if_false, if_true, up_zero, Nat.reduceAdd, Nat.reduceSub, binv, ↓opt_def, AV.isAny, AV.cells, ldc, List.map_cons, List.map_nil, St.set_next, St.set_same, St.up_next, Int.natCast_nonneg, lt_len, le_len, Int.toNat_natCast, true_and, and_true, eq_self, reduceCtorEq, decide_true, List.length_singleton, er_int, er_bool, er_str]
    refine h1 _ _ ?_
    try clear h1 K_h1
    exact T.ret (Fin.retw rfl (Wk.sl _ _) (.inr ⟨hno, rfl, rfl⟩))
  by_cases hbad : bad = -1
  · have e1 : (bad != -1) = false := by simpa using hbad
    have e2 : IntKind.i64.wrap ((l.length : Int) - at_) = (l.length : Int) - at_ := wrap64 (by omega) (by omega)
    by_cases hwl : (w : Int) ≤ l.length - at_
    · have e3 : decide ((w : Int) > (l.length : Int) - at_) = false := decide_eq_false (by omega)
      have e4 : IntKind.i64.wrap (at_ + (w : Int)) = at_ + w := wrap64 (by omega) (by omega)
      have e5 : IntKind.i64.wrap (at_ + (w : Int) - w) = at_ := by rw [wrap64 (by omega) (by omega)]; omega
      refine T.regi hm ?_
      simp only [↓reduceIte, namesOf, List.any, I.names, aops, aopsI, aopsT, qstep, CPt, qget, Tbl.get, astep, ev, setd, List.set, List.getD, List.getElem?_cons_zero, List.getElem?_cons_succ, List.getElem?_nil, List.cons_append, List.nil_append, List.length_cons, List.length_nil, List.replicate, then_normal, inBlock_normal, Option.getD_some, Option.getD_none, Bool.or_false, Bool.or_true, Bool.true_or, Bool.false_or, Bool.false_eq_true, if_false, if_true, up_zero, Nat.reduceAdd, Nat.reduceSub, binv, ↓opt_def, AV.isAny, AV.cells, ldc, List.map_cons, List.map_nil, St.set_next, St.set_same, St.up_next, Int.natCast_nonneg, lt_len, le_len, Int.toNat_natCast, true_and, and_true, eq_self, reduceCtorEq, decide_true, List.length_singleton, er_int, er_bool, er_str, hr, Nat.zero_add, bytesAV_len, e1, e2, e3]
      refine h2 _ _ ?_
      try clear h2 K_h2
      refine T.cond rfl (fun h => by cases h) (fun _ => ?_)
      refine T.skip ?_
      refine h1 _ _ ?_
      try clear h1 K_h1
      refine T.seq_k (fun K_h1 h1 => ?_)
      refine T.regi hm ?_
      simp only [↓reduceIte, namesOf, List.any, I.names, aops, aopsI, aopsT, qstep, CPt, qget, Tbl.get, astep, ev, setd, List.set, List.getD, List.getElem?_cons_zero, List.getElem?_cons_succ, List.getElem?_nil, List.cons_append, List.nil_append, List.length_cons, List.length_nil, List.replicate, then_normal, inBlock_normal, Option.getD_some, Option.getD_none, Bool.or_false, Bool.or_true, Bool.true_or, Bool.false_or, Bool.false_eq_true, if_false, if_true, up_zero, Nat.reduceAdd, Nat.reduceSub, binv, ↓opt_def, AV.isAny, AV.cells, ldc, List.map_cons, List.map_nil, St.set_next, St.set_same, St.up_next, Int.natCast_nonneg, lt_len, le_len, Int.toNat_natCast, true_and, and_true, eq_self, reduceCtorEq, decide_true, List.length_singleton, er_int, er_bool, er_str, hr, e4, AV.fits, AV.one, List.all_cons, List.all_nil, Nat.reduceBEq, Bool.and_true, Bool.not_false, Bool.and_self, Nat.zero_add, splice, List.take, List.drop, Nat.reduceLeDiff]
      refine h1 _ _ ?_
      try clear h1 K_h1
      refine T.seq_k (fun K_h1 h1 => ?_)
      have e6 : 0 ≤ at_ ∧ at_ ≤ at_ + (w : Int) ∧ at_ + (w : Int) ≤ (l.length : Int) := by omega
      refine T.regi hm ?_
      simp only [↓reduceIte, namesOf, List.any, I.names, aops, aopsI, aopsT, qstep, CPt, qget, Tbl.get, astep, ev, setd, List.set, List.getD, List.getElem?_cons_zero, List.getElem?_cons_succ, List.getElem?_nil, List.cons_append, List.nil_append, List.length_cons, List.length_nil, List.replicate, then_normal, inBlock_normal, Option.getD_some, Option.getD_none, Bool.or_false, Bool.or_true, Bool.true_or, Bool.false_or, Bool.false_eq_true, if_false, if_true, up_zero, Nat.reduceAdd, Nat.reduceSub, binv, ↓opt_def, AV.isAny, AV.cells, ldc, List.map_cons, List.map_nil, St.set_next, St.set_same, St.up_next, Int.natCast_nonneg, lt_len, le_len, Int.toNat_natCast, true_and, and_true, eq_self, reduceCtorEq, decide_true, List.length_singleton, er_int, er_bool, er_str, e5, Nat.zero_add, idx, bytesAV_len, bytes_all, e6]
      refine h1 _ _ ?_
      try clear h1 K_h1
      refine T.ret (Fin.retw rfl (Wk.sl _ _) (.inl ⟨⟨hbad, hwl⟩, ?_, rfl⟩))
      rw [show (at_ + (w : Int) - at_).toNat = w by omega, bytes_drop, bytes_take]
    · have e3 : decide ((w : Int) > (l.length : Int) - at_) = true := decide_eq_true (by omega)
      refine T.regi hm ?_
      simp only [↓reduceIte, namesOf, List.any, I.names, aops, aopsI, aopsT, qstep, CPt, qget, Tbl.get, astep, ev, setd, List.set, List.getD, List.getElem?_cons_zero, List.getElem?_cons_succ, List.getElem?_nil, List.cons_append, List.nil_append, List.length_cons, List.length_nil, List.replicate, then_normal, inBlock_normal, Option.getD_some, Option.getD_none, Bool.or_false, Bool.or_true, Bool.true_or, Bool.false_or, Bool.false_eq_true, if_false, if_true, up_zero, Nat.reduceAdd, Nat.reduceSub, binv, ↓opt_def, AV.isAny, AV.cells, ldc, List.map_cons, List.map_nil, St.set_next, St.set_same, St.up_next, Int.natCast_nonneg, lt_len, le_len, Int.toNat_natCast, true_and, and_true, eq_self, reduceCtorEq, decide_true, List.length_singleton, er_int, er_bool, er_str, hr, Nat.zero_add, bytesAV_len, e1, e2, e3]
      exact hfail (fun h => hwl h.2) _ rfl
  · have e1 : (bad != -1) = true := by simpa using hbad
    refine T.regi hm ?_
    simp only [↓reduceIte, namesOf, List.any, I.names, aops, aopsI, aopsT, qstep, CPt, qget, Tbl.get, astep, ev, setd, List.set, List.getD, List.getElem?_cons_zero, List.getElem?_cons_succ, List.getElem?_nil, List.cons_append, List.nil_append, List.length_cons, List.length_nil, List.replicate, then_normal, inBlock_normal, Option.getD_some, Option.getD_none, Bool.or_false, Bool.or_true, Bool.true_or, Bool.false_or, Bool.false_eq_true, if_false, if_true, up_zero, Nat.reduceAdd, Nat.reduceSub, binv, ↓opt_def, AV.isAny, AV.cells, ldc, List.map_cons, List.map_nil, St.set_next, St.set_same, St.up_next, Int.natCast_nonneg, lt_len, le_len, Int.toNat_natCast, true_and, and_true, eq_self, reduceCtorEq, decide_true, List.length_singleton, er_int, er_bool, er_str, hr, Nat.zero_add, e1]
    exact hfail (fun h => hbad h.1) _ rfl

def numB (l : List UInt8) : Nat := l.foldl (fun n b => 256 * n + b.toNat) 0

theorem numB_take {l : List UInt8} {i : Nat} (h : i < l.length) : numB (l.take (i + 1)) = 256 * numB (l.take i) + l[i].toNat := by
  unfold numB; rw [List.take_succ_eq_append_getElem h, List.foldl_append]; rfl

theorem numB_lt : ∀ (l : List UInt8) (i : Nat), i ≤ l.length → numB (l.take i) < 256 ^ i
  | l, 0, _ => by simp [numB]
  | l, i + 1, h => by
    have h1 := numB_lt l i (by omega)
    have h2 := (l[i]'(by omega)).toNat_lt
    rw [numB_take (by omega), Nat.pow_succ]
    omega

theorem u64_shl8 (a : Nat) (h : a < 72057594037927936) : IntKind.u64.wrap ((a : Int) * 2 ^ min (8 : Int).toNat IntKind.u64.bits) = ((a * 256 : Nat) : Int) := by
  have : (2 : Int) ^ min (8 : Int).toNat IntKind.u64.bits = 256 := by simp [IntKind.bits]
  rw [this]
  simp [IntKind.wrap, IntKind.bits, IntKind.signed]; omega

theorem u64_byte (b : UInt8) : IntKind.u64.wrap (b.toNat : Int) = (b.toNat : Int) := by
  have := b.toNat_lt
  simp [IntKind.wrap, IntKind.bits, IntKind.signed]; omega

theorem u64_or (a : Nat) (b : UInt8) (h : a < 72057594037927936) : IntKind.u64.wrap ((BitVec.ofInt IntKind.u64.bits ((a * 256 : Nat) : Int) ||| BitVec.ofInt IntKind.u64.bits (b.toNat : Int)).toNat) = ((256 * a + b.toNat : Nat) : Int) := by
  have hb := b.toNat_lt
  have h1 : BitVec.ofInt IntKind.u64.bits ((a * 256 : Nat) : Int) = BitVec.ofNat 64 (a * 256) := BitVec.ofInt_natCast ..
  have h2 : BitVec.ofInt IntKind.u64.bits (b.toNat : Int) = BitVec.ofNat 64 b.toNat := BitVec.ofInt_natCast ..
  rw [h1, h2]
  have h3 : (BitVec.ofNat 64 (a * 256) ||| BitVec.ofNat 64 b.toNat : BitVec 64).toNat = 256 * a + b.toNat := by
    rw [BitVec.toNat_or, BitVec.toNat_ofNat, BitVec.toNat_ofNat, Nat.mod_eq_of_lt (by omega), Nat.mod_eq_of_lt (by omega)]
    have := Nat.shiftLeft_add_eq_or_of_lt (b := b.toNat) (i := 8) (by omega) a
    rw [Nat.shiftLeft_eq] at this
    rw [show a * 256 = a * 2 ^ 8 from rfl, ← this]; omega
  show IntKind.u64.wrap (((BitVec.ofNat 64 (a * 256) ||| BitVec.ofNat 64 b.toNat : BitVec 64).toNat : Nat) : Int) = _
  rw [h3]
  simp [IntKind.wrap, IntKind.bits, IntKind.signed]; omega

set_option maxHeartbeats 1000000 in
theorem wword_ok {l : List UInt8} {g : Ver} {at_ bad : Int} {w n : Nat} {σ : St} (hd : Rd l at_ bad) (hw : rightB w = true) (hr : σ.res n = some (rd l g at_ bad)) :
    ACalls Tryd.prog n_wword [.ptr n 0, .int .i64 w] σ (fun v σ' => (takeOk l at_ bad w ∧ v = .int .u64 (numB ((l.drop at_.toNat).take w) : Int) ∧ σ' = σ.set n (rd l g (at_ + w) bad)) ∨
      (¬ takeOk l at_ bad w ∧ v = .int .u64 0 ∧ σ' = σ.set n (rd l g at_ (if bad = -1 then at_ else bad)))) := by
  have hw8 : w ≤ 8 := by simp [rightB] at hw; omega
  refine s_wword (fun wf => ?_)
  unfold c_wword
  refine T.seq_k (fun K_h1 h1 => ?_)
  refine T.regi hm ?_
  simp only [↓reduceIte, namesOf, List.any, I.names, aops, aopsI, aopsT, qstep, CPt, qget, Tbl.get, astep, ev, setd, List.set, List.getD, List.getElem?_cons_zero, List.getElem?_cons_succ, List.getElem?_nil, List.cons_append, List.nil_append, List.length_cons, List.length_nil, List.replicate, then_normal, inBlock_normal, Option.getD_some, Option.getD_none, Bool.or_false, Bool.or_true, Bool.true_or, Bool.false_or, Bool.false_eq_true, if_false, if_true, up_zero, Nat.reduceAdd, Nat.reduceSub, binv, ↓opt_def, AV.isAny, AV.cells, ldc, List.map_cons, List.map_nil, St.set_next, St.set_same, St.up_next, Int.natCast_nonneg, lt_len, le_len, Int.toNat_natCast, true_and, and_true, eq_self, reduceCtorEq, decide_true, List.length_singleton, er_int, er_bool, er_str]
  refine h1 _ _ ?_
  try clear h1 K_h1
  refine T.seq_k (fun K_h1 h1 => ?_)
  refine T.seq_k (fun K_h2 h2 => ?_)
  refine T.regt hm t1_ok ?_
  simp only [↓reduceIte, namesOf, List.any, I.names, aops, aopsI, aopsT, qstep, CPt, qget, Tbl.get, astep, ev, setd, List.set, List.getD, List.getElem?_cons_zero, List.getElem?_cons_succ, List.getElem?_nil, List.cons_append, List.nil_append, List.length_cons, List.length_nil, List.replicate, then_normal, inBlock_normal, Option.getD_some, Option.getD_none, Bool.or_false, Bool.or_true, Bool.true_or, Bool.false_or, Bool.false_eq_true, if_false, if_true, up_zero, Nat.reduceAdd, Nat.reduceSub, binv, ↓opt_def, AV.isAny, AV.cells, ldc, List.map_cons, List.map_nil, St.set_next, St.set_same, St.up_next, Int.natCast_nonneg, lt_len, le_len, Int.toNat_natCast, true_and, and_true, eq_self, reduceCtorEq, decide_true, List.length_singleton, er_int, er_bool, er_str, Nat.reduceEqDiff, t1, g_right, hw]
  refine h2 _ _ ?_
  try clear h2 K_h2
  refine T.cond rfl (fun h => by cases h) (fun _ => ?_)
  refine T.skip ?_
  refine h1 _ _ ?_
  try clear h1 K_h1
  refine T.seq_k (fun K_h1 h1 => ?_)
  refine T.regi hm ?_
  simp only [↓reduceIte, namesOf, List.any, I.names, aops, aopsI, aopsT, qstep, CPt, qget, Tbl.get, astep, ev, setd, List.set, List.getD, List.getElem?_cons_zero, List.getElem?_cons_succ, List.getElem?_nil, List.cons_append, List.nil_append, List.length_cons, List.length_nil, List.replicate, then_normal, inBlock_normal, Option.getD_some, Option.getD_none, Bool.or_false, Bool.or_true, Bool.true_or, Bool.false_or, Bool.false_eq_true, if_false, if_true, up_zero, Nat.reduceAdd, Nat.reduceSub, binv, ↓opt_def, AV.isAny, AV.cells, ldc, List.map_cons, List.map_nil, St.set_next, St.set_same, St.up_next, Int.natCast_nonneg, lt_len, le_len, Int.toNat_natCast, true_and, and_true, eq_self, reduceCtorEq, decide_true, List.length_singleton, er_int, er_bool, er_str]
  refine h1 _ _ ?_
  try clear h1 K_h1
  refine T.seq_k (fun K_h1 h1 => ?_)
  refine T.seq_k (fun K_h2 h2 => ?_)
  have hloop : ∀ (bs : List UInt8) (σ1 : St), bs.length ≤ 8 → ∀ ρ, keep [5, 19, 20, 21] 0 ρ = List.replicate 5 .any ++ [.int .u64 0] ++ List.replicate 13 .any ++ [.sl (bytesAV bs) .none, .int .i64 (bs.length : Int), .int .i64 0] ++ List.replicate 10 .any →
      (∀ ρ, keep [5] 0 ρ = List.replicate 5 .any ++ [.int .u64 (numB bs : Int)] ++ List.replicate 26 .any → K_h1 ρ σ1) → K_h2 ρ σ1 := by
    intro bs σ1 hbl ρ hρ hend
    refine h2 _ _ ?_
    refine T.block ?_
    refine T.gh (Gh.keep [5, 19, 20, 21]) ?_
    rw [hρ]
    clear h2 hρ ρ
    refine T.loop (fun ρ σ' => σ' = σ1 ∧ ∃ (i : Nat), i ≤ bs.length ∧ ρ = List.replicate 5 .any ++ [.int .u64 (numB (bs.take i) : Int)] ++ List.replicate 13 .any ++ [.sl (bytesAV bs) .none, .int .i64 (bs.length : Int), .int .i64 (i : Int)] ++ List.replicate 10 .any)
      (fun ρ _ => match ρ.getD 21 .any with | .int _ m => (bs.length - m).toNat | _ => 0) ⟨rfl, 0, Nat.zero_le _, rfl⟩ ?_
    rintro ρ σ' ⟨rfl, i, hi, rfl⟩
    refine T.seq_k (fun K_h2 h2 => ?_)
    refine T.regi hm ?_
    simp only [↓reduceIte, namesOf, List.any, I.names, aops, aopsI, aopsT, qstep, CPt, qget, Tbl.get, astep, ev, setd, List.set, List.getD, List.getElem?_cons_zero, List.getElem?_cons_succ, List.getElem?_nil, List.cons_append, List.nil_append, List.length_cons, List.length_nil, List.replicate, then_normal, inBlock_normal, Option.getD_some, Option.getD_none, Bool.or_false, Bool.or_true, Bool.true_or, Bool.false_or, Bool.false_eq_true, if_false, if_true, up_zero, Nat.reduceAdd, Nat.reduceSub, binv, ↓opt_def, AV.isAny, AV.cells, ldc, List.map_cons, List.map_nil, St.set_next, St.set_same, St.up_next, Int.natCast_nonneg, lt_len, le_len, Int.toNat_natCast, true_and, and_true, eq_self, reduceCtorEq, decide_true, List.length_singleton, er_int, er_bool, er_str]
    refine h2 _ _ ?_
    try clear h2 K_h2
    refine T.seq_k (fun K_h2 h2 => ?_)
    refine T.cond rfl (fun hb => ?_) (fun hb => ?_)
    · refine T.skip ?_
      refine h2 _ _ ?_
      try clear h2 K_h2
      have hil : i < bs.length := by simp at hb; omega
      clear hb
      have hlt := numB_lt bs i (by omega)
      have h256 : 256 ^ i ≤ 256 ^ 7 := Nat.pow_le_pow_right (by omega) (by omega)
      have hlt' : numB (bs.take i) < 72057594037927936 := by omega
      have e1 := u64_shl8 _ hlt'
      have e2 := u64_or _ bs[i] hlt'
      have e3 := u64_byte bs[i]
      rw [← numB_take hil] at e2
      refine T.seq_k (fun K_h2 h2 => ?_)
      refine T.block ?_
      refine T.seq_k (fun K_h3 h3 => ?_)
      refine T.regi hm ?_
      simp only [↓reduceIte, namesOf, List.any, I.names, aops, aopsI, aopsT, qstep, CPt, qget, Tbl.get, astep, ev, setd, List.set, List.getD, List.getElem?_cons_zero, List.getElem?_cons_succ, List.getElem?_nil, List.cons_append, List.nil_append, List.length_cons, List.length_nil, List.replicate, then_normal, inBlock_normal, Option.getD_some, Option.getD_none, Bool.or_false, Bool.or_true, Bool.true_or, Bool.false_or, Bool.false_eq_true, if_false, if_true, up_zero, Nat.reduceAdd, Nat.reduceSub, binv, ↓opt_def, AV.isAny, AV.cells, ldc, List.map_cons, List.map_nil, St.set_next, St.set_same, St.up_next, Int.natCast_nonneg, lt_len, le_len, Int.toNat_natCast, true_and, and_true, eq_self, reduceCtorEq, decide_true, List.length_singleton, er_int, er_bool, er_str, bytesAV_len, bytes_get hil, hil]
      refine h3 _ _ ?_
      try clear h3 K_h3
      refine T.regi hm ?_
      simp only [↓reduceIte, namesOf, List.any, I.names, aops, aopsI, aopsT, qstep, CPt, qget, Tbl.get, astep, ev, setd, List.set, List.getD, List.getElem?_cons_zero, List.getElem?_cons_succ, List.getElem?_nil, List.cons_append, List.nil_append, List.length_cons, List.length_nil, List.replicate, then_normal, inBlock_normal, Option.getD_some, Option.getD_none, Bool.or_false, Bool.or_true, Bool.true_or, Bool.false_or, Bool.false_eq_true, if_false, if_true, up_zero, Nat.reduceAdd, Nat.reduceSub, binv, ↓opt_def, AV.isAny, AV.cells, ldc, List.map_cons, List.map_nil, St.set_next, St.set_same, St.up_next, Int.natCast_nonneg, lt_len, le_len, Int.toNat_natCast, true_and, and_true, eq_self, reduceCtorEq, decide_true, List.length_singleton, er_int, er_bool, er_str, e1, e2, e3, show ¬ ((8 : Int) < 0) by omega]
      refine h2 _ _ ?_
      try clear h2 K_h2
      have e4 : IntKind.i64.wrap ((i : Int) + 1) = (i : Int) + 1 := wrap64 (by omega) (by omega)
      refine T.regi hm ?_
      simp only [↓reduceIte, namesOf, List.any, I.names, aops, aopsI, aopsT, qstep, CPt, qget, Tbl.get, astep, ev, setd, List.set, List.getD, List.getElem?_cons_zero, List.getElem?_cons_succ, List.getElem?_nil, List.cons_append, List.nil_append, List.length_cons, List.length_nil, List.replicate, then_normal, inBlock_normal, Option.getD_some, Option.getD_none, Bool.or_false, Bool.or_true, Bool.true_or, Bool.false_or, Bool.false_eq_true, if_false, if_true, up_zero, Nat.reduceAdd, Nat.reduceSub, binv, ↓opt_def, AV.isAny, AV.cells, ldc, List.map_cons, List.map_nil, St.set_next, St.set_same, St.up_next, Int.natCast_nonneg, lt_len, le_len, Int.toNat_natCast, true_and, and_true, eq_self, reduceCtorEq, decide_true, List.length_singleton, er_int, er_bool, er_str, e4]
      refine ⟨_, _, Gh.keep [5, 19, 20, 21], ⟨rfl, i + 1, hil, rfl⟩, ?_⟩
      show ((bs.length : Int) - ((i : Int) + 1)).toNat < ((bs.length : Int) - (i : Int)).toNat
      omega
    · refine T.exit ?_
      have : i = bs.length := by simp at hb; omega
      subst this
      rw [List.take_length]
      exact hend _ rfl
  refine T.regi hm ?_
  simp only [↓reduceIte, namesOf, List.any, I.names, aops, aopsI, aopsT, qstep, CPt, qget, Tbl.get, astep, ev, setd, List.set, List.getD, List.getElem?_cons_zero, List.getElem?_cons_succ, List.getElem?_nil, List.cons_append, List.nil_append, List.length_cons, List.length_nil, List.replicate, then_normal, inBlock_normal, Option.getD_some, Option.getD_none, Bool.or_false, Bool.or_true, Bool.true_or, Bool.false_or, Bool.false_eq_true, if_false, if_true, up_zero, Nat.reduceAdd, Nat.reduceSub, binv, ↓opt_def, AV.isAny, AV.cells, ldc, List.map_cons, List.map_nil, St.set_next, St.set_same, St.up_next, Int.natCast_nonneg, lt_len, le_len, Int.toNat_natCast, true_and, and_true, eq_self, reduceCtorEq, decide_true, List.length_singleton, er_int, er_bool, er_str]
  refine (wtake_ok hd (by omega) hr).mono ?_
  have hfin : ∀ (x : Int) (σ1 : St), ((takeOk l at_ bad w ∧ AV.int .u64 x = .int .u64 (numB ((l.drop at_.toNat).take w) : Int) ∧ σ1 = σ.set n (rd l g (at_ + w) bad)) ∨
      (¬ takeOk l at_ bad w ∧ AV.int .u64 x = .int .u64 0 ∧ σ1 = σ.set n (rd l g at_ (if bad = -1 then at_ else bad)))) → ∀ ρ, keep [5] 0 ρ = List.replicate 5 .any ++ [.int .u64 x] ++ List.replicate 26 .any → K_h1 ρ σ1 := by
    intro x σ1 hx ρ h5
    refine h1 _ _ (T.gh (Gh.keep [5]) ?_)
    rw [h5]
    clear h1 hloop h2 h5 ρ
    refine T.seq_k (fun K_h1 h1 => ?_)
    refine T.regi hm ?_
    simp only [↓reduceIte, namesOf, List.any, I.names, aops, aopsI, aopsT, qstep, CPt, qget, Tbl.get, astep, ev, setd, List.set, List.getD, List.getElem?_cons_zero, List.getElem?_cons_succ, List.getElem?_nil, List.cons_append, List.nil_append, List.length_cons, List.length_nil, List.replicate, then_normal, inBlock_normal, Option.getD_some, Option.getD_none, Bool.or_false, Bool.or_true, Bool.true_or, Bool.false_or, Bool.false_eq_true, if_false, if_true, up_zero, Nat.reduceAdd, Nat.reduceSub, binv, ↓opt_def, AV.isAny, AV.cells, ldc, List.map_cons, List.map_nil, St.set_next, St.set_same, St.up_next, Int.natCast_nonneg, lt_len, le_len, Int.toNat_natCast, true_and, and_true, eq_self, reduceCtorEq, decide_true, List.length_singleton, er_int, er_bool, er_str]
    refine h1 _ _ ?_
    try clear h1 K_h1
    exact T.ret (Fin.ret rfl hx)
  rintro v σ2 (⟨hok, rfl, rfl⟩ | ⟨hok, rfl, rfl⟩)
  · have hbl : ((l.drop at_.toNat).take w).length ≤ 8 := by rw [List.length_take]; omega
    try simp only [↓reduceIte, namesOf, List.any, I.names, aops, aopsI, aopsT, qstep, CPt, qget, Tbl.get, astep, ev, setd, List.set, List.getD, List.getElem?_cons_zero, List.getElem?_cons_succ, List.getElem?_nil, List.cons_append, List.nil_append, List.length_cons, List.length_nil, List.replicate, then_normal, inBlock_normal, Option.getD_some, Option.getD_none, Bool.or_false, Bool.or_true, Bool.true_or, Bool.false_or, Bool.false_eq_true, if_false, if_true, up_zero, Nat.reduceAdd, Nat.reduceSub, binv, ↓opt_def, AV.isAny, AV.cells, ldc, List.map_cons, List.map_nil, St.set_next, St.set_same, St.up_next, Int.natCast_nonneg, lt_len, le_len, Int.toNat_natCast, true_and, and_true, eq_self, reduceCtorEq, decide_true, List.length_singleton, er_int, er_bool, er_str, bytesAV_len]
    exact hloop _ _ hbl _ rfl (fun ρ h5 => hfin _ _ (.inl ⟨hok, rfl, rfl⟩) ρ h5)
  · try simp only [↓reduceIte, namesOf, List.any, I.names, aops, aopsI, aopsT, qstep, CPt, qget, Tbl.get, astep, ev, setd, List.set, List.getD, List.getElem?_cons_zero, List.getElem?_cons_succ, List.getElem?_nil, List.cons_append, List.nil_append, List.length_cons, List.length_nil, List.replicate, then_normal, inBlock_normal, Option.getD_some, Option.getD_none, Bool.or_false, Bool.or_true, Bool.true_or, Bool.false_or, Bool.false_eq_true, if_false, if_true, up_zero, Nat.reduceAdd, Nat.reduceSub, binv, ↓opt_def, AV.isAny, AV.cells, ldc, List.map_cons, List.map_nil, St.set_next, St.set_same, St.up_next, Int.natCast_nonneg, lt_len, le_len, Int.toNat_natCast, true_and, and_true, eq_self, reduceCtorEq, decide_true, List.length_singleton, er_int, er_bool, er_str, List.length_nil]
    exact hloop [] _ (by simp) _ rfl (fun ρ h5 => hfin _ _ (.inr ⟨hok, rfl, rfl⟩) ρ h5)

end Go.VL

namespace Go.VL

open Go.Proofs

theorem wide_ok {w : Int} {σ : St} : ACalls Tryd.prog n_wide [.int .i64 w] σ (fun v σ' => v = .bool (rightB w) ∧ σ' = σ) := by
  refine s_wide (fun wf => ?_)
  unfold c_wide
  refine T.seq_k (fun K_h1 h1 => ?_)
  refine T.regi hm ?_
  simp only [↓reduceIte, namesOf, List.any, I.names, aops, aopsI, aopsT, qstep, CPt, qget, Tbl.get, astep, ev, setd, List.set, List.getD, List.getElem?_cons_zero, List.getElem?_cons_succ, List.getElem?_nil, List.cons_append, List.nil_append, List.length_cons, List.length_nil, List.replicate, then_normal, inBlock_normal, Option.getD_some, Option.getD_none, Bool.or_false, Bool.or_true, Bool.true_or, Bool.false_or, Bool.false_eq_true, if_false, if_true, up_zero, Nat.reduceAdd, Nat.reduceSub, binv, ↓opt_def, AV.isAny, AV.cells, ldc, List.map_cons, List.map_nil, St.set_next, St.set_same, St.up_next, Int.natCast_nonneg, lt_len, le_len, Int.toNat_natCast, true_and, and_true, eq_self, reduceCtorEq, decide_true, List.length_singleton, er_int, er_bool, er_str]
  refine h1 _ _ ?_
  try clear h1 K_h1
  refine T.seq_k (fun K_h1 h1 => ?_)
  by_cases w1 : w = 1
  · subst w1
    refine T.regi hm ?_
    simp only [↓reduceIte, namesOf, List.any, I.names, aops, aopsI, aopsT, qstep, CPt, qget, Tbl.get, astep, ev, setd, List.set, List.getD, List.getElem?_cons_zero, List.getElem?_cons_succ, List.getElem?_nil, List.cons_append, List.nil_append, List.length_cons, List.length_nil, List.replicate, then_normal, inBlock_normal, Option.getD_some, Option.getD_none, Bool.or_false, Bool.or_true, Bool.true_or, Bool.false_or, Bool.false_eq_true, if_false, if_true, up_zero, Nat.reduceAdd, Nat.reduceSub, binv, ↓opt_def, AV.isAny, AV.cells, ldc, List.map_cons, List.map_nil, St.set_next, St.set_same, St.up_next, Int.natCast_nonneg, lt_len, le_len, Int.toNat_natCast, true_and, and_true, eq_self, reduceCtorEq, decide_true, List.length_singleton, er_int, er_bool, er_str, beq_self_eq_true, reduceCtorEq]
    refine h1 _ _ ?_
    try clear h1 K_h1
    exact T.ret (Fin.ret rfl ⟨by simp [pack, rightB], rfl⟩)
  by_cases w2 : w = 2
  · subst w2
    refine T.regi hm ?_
    simp only [↓reduceIte, namesOf, List.any, I.names, aops, aopsI, aopsT, qstep, CPt, qget, Tbl.get, astep, ev, setd, List.set, List.getD, List.getElem?_cons_zero, List.getElem?_cons_succ, List.getElem?_nil, List.cons_append, List.nil_append, List.length_cons, List.length_nil, List.replicate, then_normal, inBlock_normal, Option.getD_some, Option.getD_none, Bool.or_false, Bool.or_true, Bool.true_or, Bool.false_or, Bool.false_eq_true, if_false, if_true, up_zero, Nat.reduceAdd, Nat.reduceSub, binv, ↓opt_def, AV.isAny, AV.cells, ldc, List.map_cons, List.map_nil, St.set_next, St.set_same, St.up_next, Int.natCast_nonneg, lt_len, le_len, Int.toNat_natCast, true_and, and_true, eq_self, reduceCtorEq, decide_true, List.length_singleton, er_int, er_bool, er_str, beq_self_eq_true, reduceCtorEq, Int.reduceBEq]
    refine h1 _ _ ?_
    try clear h1 K_h1
    exact T.ret (Fin.ret rfl ⟨by simp [pack, rightB], rfl⟩)
  by_cases w4 : w = 4
  · subst w4
    refine T.regi hm ?_
    simp only [↓reduceIte, namesOf, List.any, I.names, aops, aopsI, aopsT, qstep, CPt, qget, Tbl.get, astep, ev, setd, List.set, List.getD, List.getElem?_cons_zero, List.getElem?_cons_succ, List.getElem?_nil, List.cons_append, List.nil_append, List.length_cons, List.length_nil, List.replicate, then_normal, inBlock_normal, Option.getD_some, Option.getD_none, Bool.or_false, Bool.or_true, Bool.true_or, Bool.false_or, Bool.false_eq_true, if_false, if_true, up_zero, Nat.reduceAdd, Nat.reduceSub, binv, ↓opt_def, AV.isAny, AV.cells, ldc, List.map_cons, List.map_nil, St.set_next, St.set_same, St.up_next, Int.natCast_nonneg, lt_len, le_len, Int.toNat_natCast, true_and, and_true, eq_self, reduceCtorEq, decide_true, List.length_singleton, er_int, er_bool, er_str, beq_self_eq_true, reduceCtorEq, Int.reduceBEq]
    refine h1 _ _ ?_
    try clear h1 K_h1
    exact T.ret (Fin.ret rfl ⟨by simp [pack, rightB], rfl⟩)
  · have e1 : (w == 1) = false := by simpa using w1
    have e2 : (w == 2) = false := by simpa using w2
    have e4 : (w == 4) = false := by simpa using w4
    refine T.regi hm ?_
    simp only [↓reduceIte, namesOf, List.any, I.names, aops, aopsI, aopsT, qstep, CPt, qget, Tbl.get, astep, ev, setd, List.set, List.getD, List.getElem?_cons_zero, List.getElem?_cons_succ, List.getElem?_nil, List.cons_append, List.nil_append, List.length_cons, List.length_nil, List.replicate, then_normal, inBlock_normal, Option.getD_some, Option.getD_none, Bool.or_false, Bool.or_true, Bool.true_or, Bool.false_or, Bool.false_eq_true, if_false, if_true, up_zero, Nat.reduceAdd, Nat.reduceSub, binv, ↓opt_def, AV.isAny, AV.cells, ldc, List.map_cons, List.map_nil, St.set_next, St.set_same, St.up_next, Int.natCast_nonneg, lt_len, le_len, Int.toNat_natCast, true_and, and_true, eq_self, reduceCtorEq, decide_true, List.length_singleton, er_int, er_bool, er_str, e1, e2, e4, reduceCtorEq]
    refine h1 _ _ ?_
    try clear h1 K_h1
    refine T.ret (Fin.ret rfl ⟨?_, rfl⟩)
    by_cases w8 : w = 8
    · subst w8; simp [pack, rightB]
    · have e8 : (w == 8) = false := by simpa using w8
      simp [pack, rightB, w1, w2, w4, w8]

def g_wide : List AV → Option AV
  | [.int .i64 w] => some (.bool (rightB w))
  | _ => none

theorem wide_pure : PureC Tryd.prog n_wide g_wide := by
  intro args σ v h
  unfold g_wide at h
  split at h
  · simp only [Option.some.injEq] at h; subst h; exact wide_ok
  · cases h

def t3 : Tbl := [(n_wide, g_wide)]

theorem t3_ok : t3.ok Tryd.prog := Tbl.ok_cons wide_pure Tbl.ok_nil

theorem u64_mul (a : Nat) (h : a < 72057594037927936) : IntKind.u64.wrap (256 * (a : Int)) = ((256 * a : Nat) : Int) := by
  simp [IntKind.wrap, IntKind.bits, IntKind.signed]; omega

theorem u64_add (a : Nat) (b : UInt8) (h : a < 72057594037927936) : IntKind.u64.wrap (((256 * a : Nat) : Int) + (b.toNat : Int)) = ((256 * a + b.toNat : Nat) : Int) := by
  have hb := b.toNat_lt
  simp [IntKind.wrap, IntKind.bits, IntKind.signed]; omega

set_option maxHeartbeats 1000000 in
theorem rword_ok {l : List UInt8} {g : Ver} {at_ bad : Int} {w n : Nat} {σ : St} (hd : Rd l at_ bad) (hbd : bad = -1 ∨ 0 ≤ bad) (hw : rightB w = true) (hr : σ.res n = some (rd l g at_ bad)) :
    ACalls Tryd.prog n_rword [.ptr n 0, .int .i64 w] σ (fun v σ' => (takeOk l at_ bad w ∧ v = .int .u64 (numB ((l.drop at_.toNat).take w) : Int) ∧ σ' = σ.set n (rd l g (at_ + w) bad)) ∨
      (¬ takeOk l at_ bad w ∧ v = .int .u64 0 ∧ σ' = σ.set n (rd l g at_ (if bad = -1 then at_ else bad)))) := by
  have hw8 : w ≤ 8 := by simp [rightB] at hw; omega
  have hr' := hr
  unfold rd at hr
  obtain ⟨hl, h0, hhi⟩ := hd
  refine s_rword (fun wf => ?_)
  unfold c_rword
  refine T.seq_k (fun K_h1 h1 => ?_)
  refine T.regi hm ?_
  simp only [↓reduceIte, namesOf, List.any, I.names, aops, aopsI, aopsT, qstep, CPt, qget, Tbl.get, astep, ev, setd, List.set, List.getD, List.getElem?_cons_zero, List.getElem?_cons_succ, List.getElem?_nil, List.cons_append, List.nil_append, List.length_cons, List.length_nil, List.replicate, then_normal, inBlock_normal, Option.getD_some, Option.getD_none, Bool.or_false, Bool.or_true, Bool.true_or, Bool.false_or, Bool.false_eq_true, if_false, if_true, up_zero, Nat.reduceAdd, Nat.reduceSub, binv, ↓opt_def, AV.isAny, AV.cells, ldc, List.map_cons, List.map_nil, St.set_next, St.set_same, St.up_next, Int.natCast_nonneg, lt_len, le_len, Int.toNat_natCast, true_and, and_true, eq_self, reduceCtorEq, decide_true, List.length_singleton, er_int, er_bool, er_str]
  refine h1 _ _ ?_
  try clear h1 K_h1
  refine T.seq_k (fun K_h1 h1 => ?_)
  refine T.regt hm t3_ok ?_
  simp only [↓reduceIte, namesOf, List.any, I.names, aops, aopsI, aopsT, qstep, CPt, qget, Tbl.get, astep, ev, setd, List.set, List.getD, List.getElem?_cons_zero, List.getElem?_cons_succ, List.getElem?_nil, List.cons_append, List.nil_append, List.length_cons, List.length_nil, List.replicate, then_normal, inBlock_normal, Option.getD_some, Option.getD_none, Bool.or_false, Bool.or_true, Bool.true_or, Bool.false_or, Bool.false_eq_true, if_false, if_true, up_zero, Nat.reduceAdd, Nat.reduceSub, binv, ↓opt_def, AV.isAny, AV.cells, ldc, List.map_cons, List.map_nil, St.set_next, St.set_same, St.up_next, Int.natCast_nonneg, lt_len, le_len, Int.toNat_natCast, true_and, and_true, eq_self, reduceCtorEq, decide_true, List.length_singleton, er_int, er_bool, er_str, Nat.reduceEqDiff, t3, g_wide, hw]
  refine h1 _ _ ?_
  try clear h1 K_h1
  refine T.seq_k (fun K_h1 h1 => ?_)
  refine T.seq_k (fun K_h2 h2 => ?_)
  rcases hbd with rfl | hbd
  case inr =>
    have e1 : decide (bad ≥ 0) = true := decide_eq_true hbd
    refine T.regi hm ?_
    simp only [↓reduceIte, namesOf, List.any, I.names, aops, aopsI, aopsT, qstep, CPt, qget, Tbl.get, astep, ev, setd, List.set, List.getD, List.getElem?_cons_zero, List.getElem?_cons_succ, List.getElem?_nil, List.cons_append, List.nil_append, List.length_cons, List.length_nil, List.replicate, then_normal, inBlock_normal, Option.getD_some, Option.getD_none, Bool.or_false, Bool.or_true, Bool.true_or, Bool.false_or, Bool.false_eq_true, if_false, if_true, up_zero, Nat.reduceAdd, Nat.reduceSub, binv, ↓opt_def, AV.isAny, AV.cells, ldc, List.map_cons, List.map_nil, St.set_next, St.set_same, St.up_next, Int.natCast_nonneg, lt_len, le_len, Int.toNat_natCast, true_and, and_true, eq_self, reduceCtorEq, decide_true, List.length_singleton, er_int, er_bool, er_str, hr, Nat.zero_add, e1]
    refine h2 _ _ ?_
    try clear h2 K_h2
    refine T.cond rfl (fun _ => ?_) (fun h => by cases h)
    refine T.seq_k (fun K_h2 h2 => ?_)
    refine T.regi hm ?_
    simp only [↓reduceIte, namesOf, List.any, I.names, aops, aopsI, aopsT, qstep, CPt, qget, Tbl.get, astep, ev, setd, List.set, List.getD, List.getElem?_cons_zero, List.getElem?_cons_succ, List.getElem?_nil, List.cons_append, List.nil_append, List.length_cons, List.length_nil, List.replicate, then_normal, inBlock_normal, Option.getD_some, Option.getD_none, Bool.or_false, Bool.or_true, Bool.true_or, Bool.false_or, Bool.false_eq_true, if_false, if_true, up_zero, Nat.reduceAdd, Nat.reduceSub, binv, ↓opt_def, AV.isAny, AV.cells, ldc, List.map_cons, List.map_nil, St.set_next, St.set_same, St.up_next, Int.natCast_nonneg, lt_len, le_len, Int.toNat_natCast, true_and, and_true, eq_self, reduceCtorEq, decide_true, List.length_singleton, er_int, er_bool, er_str]
    refine h2 _ _ ?_
    try clear h2 K_h2
    refine T.ret (Fin.ret rfl (.inr ⟨fun h => ?_, rfl, ?_⟩))
    · have := h.1; omega
    · rw [if_neg (by omega), St.set_self hr']
  have e1 : decide ((-1 : Int) ≥ 0) = false := by decide
  refine T.regi hm ?_
  simp only [↓reduceIte, namesOf, List.any, I.names, aops, aopsI, aopsT, qstep, CPt, qget, Tbl.get, astep, ev, setd, List.set, List.getD, List.getElem?_cons_zero, List.getElem?_cons_succ, List.getElem?_nil, List.cons_append, List.nil_append, List.length_cons, List.length_nil, List.replicate, then_normal, inBlock_normal, Option.getD_some, Option.getD_none, Bool.or_false, Bool.or_true, Bool.true_or, Bool.false_or, Bool.false_eq_true, if_false, if_true, up_zero, Nat.reduceAdd, Nat.reduceSub, binv, ↓opt_def, AV.isAny, AV.cells, ldc, List.map_cons, List.map_nil, St.set_next, St.set_same, St.up_next, Int.natCast_nonneg, lt_len, le_len, Int.toNat_natCast, true_and, and_true, eq_self, reduceCtorEq, decide_true, List.length_singleton, er_int, er_bool, er_str, hr, Nat.zero_add, e1]
  refine h2 _ _ ?_
  try clear h2 K_h2
  refine T.cond rfl (fun h => by cases h) (fun _ => ?_)
  refine T.skip ?_
  refine h1 _ _ ?_
  try clear h1 K_h1
  refine T.seq_k (fun K_h1 h1 => ?_)
  refine T.seq_k (fun K_h2 h2 => ?_)
  have e2 : IntKind.i64.wrap (at_ + (w : Int)) = at_ + w := wrap64 (by omega) (by omega)
  by_cases hok : at_ + (w : Int) ≤ l.length
  case neg =>
    have e3 : decide (at_ + (w : Int) > l.length) = true := decide_eq_true (by omega)
    refine T.regi hm ?_
    simp only [↓reduceIte, namesOf, List.any, I.names, aops, aopsI, aopsT, qstep, CPt, qget, Tbl.get, astep, ev, setd, List.set, List.getD, List.getElem?_cons_zero, List.getElem?_cons_succ, List.getElem?_nil, List.cons_append, List.nil_append, List.length_cons, List.length_nil, List.replicate, then_normal, inBlock_normal, Option.getD_some, Option.getD_none, Bool.or_false, Bool.or_true, Bool.true_or, Bool.false_or, Bool.false_eq_true, if_false, if_true, up_zero, Nat.reduceAdd, Nat.reduceSub, binv, ↓opt_def, AV.isAny, AV.cells, ldc, List.map_cons, List.map_nil, St.set_next, St.set_same, St.up_next, Int.natCast_nonneg, lt_len, le_len, Int.toNat_natCast, true_and, and_true, eq_self, reduceCtorEq, decide_true, List.length_singleton, er_int, er_bool, er_str, hr, Nat.zero_add, bytesAV_len, e2, e3, Bool.not_true]
    refine h2 _ _ ?_
    try clear h2 K_h2
    refine T.cond rfl (fun _ => ?_) (fun h => by cases h)
    refine T.seq_k (fun K_h2 h2 => ?_)
    refine T.regi hm ?_
    simp only [↓reduceIte, namesOf, List.any, I.names, aops, aopsI, aopsT, qstep, CPt, qget, Tbl.get, astep, ev, setd, List.set, List.getD, List.getElem?_cons_zero, List.getElem?_cons_succ, List.getElem?_nil, List.cons_append, List.nil_append, List.length_cons, List.length_nil, List.replicate, then_normal, inBlock_normal, Option.getD_some, Option.getD_none, Bool.or_false, Bool.or_true, Bool.true_or, Bool.false_or, Bool.false_eq_true, if_false, if_true, up_zero, Nat.reduceAdd, Nat.reduceSub, binv, ↓opt_def, AV.isAny, AV.cells, ldc, List.map_cons, List.map_nil, St.set_next, St.set_same, St.up_next, Int.natCast_nonneg, lt_len, le_len, Int.toNat_natCast, true_and, and_true, eq_self, reduceCtorEq, decide_true, List.length_singleton, er_int, er_bool, er_str, hr, AV.fits, AV.one, List.all_cons, List.all_nil, Nat.reduceBEq, Bool.and_true, Bool.not_false, Bool.and_self, Nat.zero_add, splice, List.take, List.drop, Nat.reduceLeDiff]
    refine h2 _ _ ?_
    try clear h2 K_h2
    refine T.seq_k (fun K_h2 h2 => ?_)
    refine T.regi hm ?_
    simp only [↓reduceIte, namesOf, List.any, I.names, aops, aopsI, aopsT, qstep, CPt, qget, Tbl.get, astep, ev, setd, List.set, List.getD, List.getElem?_cons_zero, List.getElem?_cons_succ, List.getElem?_nil, List.cons_append, List.nil_append, List.length_cons, List.length_nil, List.replicate, then_normal, inBlock_normal, Option.getD_some, Option.getD_none, Bool.or_false, Bool.or_true, Bool.true_or, Bool.false_or, Bool.false_eq_true, if_false, if_true, up_zero, Nat.reduceAdd, Nat.reduceSub, binv, ↓opt_def, AV.isAny, AV.cells, ldc, List.map_cons, List.map_nil, St.set_next, St.set_same, St.up_next, Int.natCast_nonneg, lt_len, le_len, Int.toNat_natCast, true_and, and_true, eq_self, reduceCtorEq, decide_true, List.length_singleton, er_int, er_bool, er_str]
    refine h2 _ _ ?_
    try clear h2 K_h2
    exact T.ret (Fin.ret rfl (.inr ⟨fun h => by have := h.2; omega, rfl, rfl⟩))
  have e3 : decide (at_ + (w : Int) > l.length) = false := decide_eq_false (by omega)
  refine T.regi hm ?_
  simp only [↓reduceIte, namesOf, List.any, I.names, aops, aopsI, aopsT, qstep, CPt, qget, Tbl.get, astep, ev, setd, List.set, List.getD, List.getElem?_cons_zero, List.getElem?_cons_succ, List.getElem?_nil, List.cons_append, List.nil_append, List.length_cons, List.length_nil, List.replicate, then_normal, inBlock_normal, Option.getD_some, Option.getD_none, Bool.or_false, Bool.or_true, Bool.true_or, Bool.false_or, Bool.false_eq_true, if_false, if_true, up_zero, Nat.reduceAdd, Nat.reduceSub, binv, ↓opt_def, AV.isAny, AV.cells, ldc, List.map_cons, List.map_nil, St.set_next, St.set_same, St.up_next, Int.natCast_nonneg, lt_len, le_len, Int.toNat_natCast, true_and, and_true, eq_self, reduceCtorEq, decide_true, List.length_singleton, er_int, er_bool, er_str, hr, Nat.zero_add, bytesAV_len, e2, e3, Bool.not_true]
  refine h2 _ _ ?_
  try clear h2 K_h2
  refine T.cond rfl (fun h => by cases h) (fun _ => ?_)
  refine T.skip ?_
  refine h1 _ _ ?_
  try clear h1 K_h1
  refine T.seq_k (fun K_h1 h1 => ?_)
  refine T.regi hm ?_
  simp only [↓reduceIte, namesOf, List.any, I.names, aops, aopsI, aopsT, qstep, CPt, qget, Tbl.get, astep, ev, setd, List.set, List.getD, List.getElem?_cons_zero, List.getElem?_cons_succ, List.getElem?_nil, List.cons_append, List.nil_append, List.length_cons, List.length_nil, List.replicate, then_normal, inBlock_normal, Option.getD_some, Option.getD_none, Bool.or_false, Bool.or_true, Bool.true_or, Bool.false_or, Bool.false_eq_true, if_false, if_true, up_zero, Nat.reduceAdd, Nat.reduceSub, binv, ↓opt_def, AV.isAny, AV.cells, ldc, List.map_cons, List.map_nil, St.set_next, St.set_same, St.up_next, Int.natCast_nonneg, lt_len, le_len, Int.toNat_natCast, true_and, and_true, eq_self, reduceCtorEq, decide_true, List.length_singleton, er_int, er_bool, er_str]
  refine h1 _ _ ?_
  try clear h1 K_h1
  refine T.seq_k (fun K_h1 h1 => ?_)
  refine T.seq_k (fun K_h2 h2 => ?_)
  refine T.regi hm ?_
  simp only [↓reduceIte, namesOf, List.any, I.names, aops, aopsI, aopsT, qstep, CPt, qget, Tbl.get, astep, ev, setd, List.set, List.getD, List.getElem?_cons_zero, List.getElem?_cons_succ, List.getElem?_nil, List.cons_append, List.nil_append, List.length_cons, List.length_nil, List.replicate, then_normal, inBlock_normal, Option.getD_some, Option.getD_none, Bool.or_false, Bool.or_true, Bool.true_or, Bool.false_or, Bool.false_eq_true, if_false, if_true, up_zero, Nat.reduceAdd, Nat.reduceSub, binv, ↓opt_def, AV.isAny, AV.cells, ldc, List.map_cons, List.map_nil, St.set_next, St.set_same, St.up_next, Int.natCast_nonneg, lt_len, le_len, Int.toNat_natCast, true_and, and_true, eq_self, reduceCtorEq, decide_true, List.length_singleton, er_int, er_bool, er_str]
  refine h2 _ _ ?_
  try clear h2 K_h2
  refine T.block ?_
  obtain ⟨a, rfl⟩ : ∃ a : Nat, at_ = (a : Int) := ⟨at_.toNat, by omega⟩
  have hbl : ((l.drop a).take w).length = w := by rw [List.length_take, List.length_drop]; omega
  generalize hbs : (l.drop a).take w = bs at hbl
  have hget : ∀ i, (h : i < w) → (h2 : a + i < l.length) → l[a + i] = bs[i]'(by omega) := by
    intro i h h2
    subst hbs
    simp
  refine T.gh (Gh.keep [0, 1, 6, 7]) ?_
  refine T.loop (fun ρ σ' => σ' = σ ∧ ∃ (i : Nat), i ≤ w ∧ ρ = [.ptr n 0, .int .i64 w, .any, .any, .any, .any, .int .u64 (numB (bs.take i) : Int), .int .i64 (i : Int)] ++ List.replicate 61 .any)
    (fun ρ _ => match ρ.getD 7 .any with | .int _ m => (w - m).toNat | _ => 0) ⟨rfl, 0, Nat.zero_le _, rfl⟩ ?_
  rintro ρ σ' ⟨rfl, i, hi, rfl⟩
  refine T.seq_k (fun K_h2 h2 => ?_)
  refine T.seq_k (fun K_h3 h3 => ?_)
  refine T.regi hm ?_
  simp only [↓reduceIte, namesOf, List.any, I.names, aops, aopsI, aopsT, qstep, CPt, qget, Tbl.get, astep, ev, setd, List.set, List.getD, List.getElem?_cons_zero, List.getElem?_cons_succ, List.getElem?_nil, List.cons_append, List.nil_append, List.length_cons, List.length_nil, List.replicate, then_normal, inBlock_normal, Option.getD_some, Option.getD_none, Bool.or_false, Bool.or_true, Bool.true_or, Bool.false_or, Bool.false_eq_true, if_false, if_true, up_zero, Nat.reduceAdd, Nat.reduceSub, binv, ↓opt_def, AV.isAny, AV.cells, ldc, List.map_cons, List.map_nil, St.set_next, St.set_same, St.up_next, Int.natCast_nonneg, lt_len, le_len, Int.toNat_natCast, true_and, and_true, eq_self, reduceCtorEq, decide_true, List.length_singleton, er_int, er_bool, er_str]
  refine h3 _ _ ?_
  try clear h3 K_h3
  refine T.cond rfl (fun hb => ?_) (fun hb => ?_)
  · refine T.skip ?_
    refine h2 _ _ ?_
    try clear h2 K_h2
    have hil : i < w := by simp at hb; omega
    clear hb
    have hlt := numB_lt bs i (by omega)
    have h256 : 256 ^ i ≤ 256 ^ 7 := Nat.pow_le_pow_right (by omega) (by omega)
    have hlt' : numB (bs.take i) < 72057594037927936 := by omega
    have hal : a + i < l.length := by omega
    have e4 := u64_mul _ hlt'
    have e5 := u64_add _ bs[i] hlt'
    have e6 := u64_byte bs[i]
    rw [← numB_take (by omega)] at e5
    have e7 : IntKind.i64.wrap ((a : Int) + (i : Int)) = ((a + i : Nat) : Int) := by rw [wrap64 (by omega) (by omega)]; omega
    have e8 := bytes_get hal
    rw [hget i hil hal] at e8
    refine T.seq_k (fun K_h2 h2 => ?_)
    refine T.block ?_
    refine T.regi hm ?_
    simp only [↓reduceIte, namesOf, List.any, I.names, aops, aopsI, aopsT, qstep, CPt, qget, Tbl.get, astep, ev, setd, List.set, List.getD, List.getElem?_cons_zero, List.getElem?_cons_succ, List.getElem?_nil, List.cons_append, List.nil_append, List.length_cons, List.length_nil, List.replicate, then_normal, inBlock_normal, Option.getD_some, Option.getD_none, Bool.or_false, Bool.or_true, Bool.true_or, Bool.false_or, Bool.false_eq_true, if_false, if_true, up_zero, Nat.reduceAdd, Nat.reduceSub, binv, ↓opt_def, AV.isAny, AV.cells, ldc, List.map_cons, List.map_nil, St.set_next, St.set_same, St.up_next, Int.natCast_nonneg, lt_len, le_len, Int.toNat_natCast, true_and, and_true, eq_self, reduceCtorEq, decide_true, List.length_singleton, er_int, er_bool, er_str, hr, Nat.zero_add, bytesAV_len, e4, e7, e8, e6, e5, hal]
    refine h2 _ _ ?_
    try clear h2 K_h2
    have e9 : IntKind.i64.wrap ((i : Int) + 1) = (i : Int) + 1 := wrap64 (by omega) (by omega)
    refine T.regi hm ?_
    simp only [↓reduceIte, namesOf, List.any, I.names, aops, aopsI, aopsT, qstep, CPt, qget, Tbl.get, astep, ev, setd, List.set, List.getD, List.getElem?_cons_zero, List.getElem?_cons_succ, List.getElem?_nil, List.cons_append, List.nil_append, List.length_cons, List.length_nil, List.replicate, then_normal, inBlock_normal, Option.getD_some, Option.getD_none, Bool.or_false, Bool.or_true, Bool.true_or, Bool.false_or, Bool.false_eq_true, if_false, if_true, up_zero, Nat.reduceAdd, Nat.reduceSub, binv, ↓opt_def, AV.isAny, AV.cells, ldc, List.map_cons, List.map_nil, St.set_next, St.set_same, St.up_next, Int.natCast_nonneg, lt_len, le_len, Int.toNat_natCast, true_and, and_true, eq_self, reduceCtorEq, decide_true, List.length_singleton, er_int, er_bool, er_str, e9]
    refine ⟨_, _, Gh.keep [0, 1, 6, 7], ⟨rfl, i + 1, hil, rfl⟩, ?_⟩
    show ((w : Int) - ((i : Int) + 1)).toNat < ((w : Int) - (i : Int)).toNat
    omega
  · refine T.exit ?_
    have : i = w := by simp at hb; omega
    subst this
    rw [show bs.take i = bs by rw [← hbl, List.take_length]]
    try simp only [↓reduceIte, namesOf, List.any, I.names, aops, aopsI, aopsT, qstep, CPt, qget, Tbl.get, astep, ev, setd, List.set, List.getD, List.getElem?_cons_zero, List.getElem?_cons_succ, List.getElem?_nil, List.cons_append, List.nil_append, List.length_cons, List.length_nil, List.replicate, then_normal, inBlock_normal, Option.getD_some, Option.getD_none, Bool.or_false, Bool.or_true, Bool.true_or, Bool.false_or, Bool.false_eq_true, if_false, if_true, up_zero, Nat.reduceAdd, Nat.reduceSub, binv, ↓opt_def, AV.isAny, AV.cells, ldc, List.map_cons, List.map_nil, St.set_next, St.set_same, St.up_next, Int.natCast_nonneg, lt_len, le_len, Int.toNat_natCast, true_and, and_true, eq_self, reduceCtorEq, decide_true, List.length_singleton, er_int, er_bool, er_str, inBlock_exit, then_exit]
    refine h1 _ _ ?_
    try clear h1 K_h1
    refine T.seq_k (fun K_h1 h1 => ?_)
    refine T.regi hm ?_
    simp only [↓reduceIte, namesOf, List.any, I.names, aops, aopsI, aopsT, qstep, CPt, qget, Tbl.get, astep, ev, setd, List.set, List.getD, List.getElem?_cons_zero, List.getElem?_cons_succ, List.getElem?_nil, List.cons_append, List.nil_append, List.length_cons, List.length_nil, List.replicate, then_normal, inBlock_normal, Option.getD_some, Option.getD_none, Bool.or_false, Bool.or_true, Bool.true_or, Bool.false_or, Bool.false_eq_true, if_false, if_true, up_zero, Nat.reduceAdd, Nat.reduceSub, binv, ↓opt_def, AV.isAny, AV.cells, ldc, List.map_cons, List.map_nil, St.set_next, St.set_same, St.up_next, Int.natCast_nonneg, lt_len, le_len, Int.toNat_natCast, true_and, and_true, eq_self, reduceCtorEq, decide_true, List.length_singleton, er_int, er_bool, er_str, hr, e2, AV.fits, AV.one, List.all_cons, List.all_nil, Nat.reduceBEq, Bool.and_true, Bool.not_false, Bool.and_self, Nat.zero_add, splice, List.take, List.drop, Nat.reduceLeDiff]
    refine h1 _ _ ?_
    try clear h1 K_h1
    refine T.seq_k (fun K_h1 h1 => ?_)
    refine T.regi hm ?_
    simp only [↓reduceIte, namesOf, List.any, I.names, aops, aopsI, aopsT, qstep, CPt, qget, Tbl.get, astep, ev, setd, List.set, List.getD, List.getElem?_cons_zero, List.getElem?_cons_succ, List.getElem?_nil, List.cons_append, List.nil_append, List.length_cons, List.length_nil, List.replicate, then_normal, inBlock_normal, Option.getD_some, Option.getD_none, Bool.or_false, Bool.or_true, Bool.true_or, Bool.false_or, Bool.false_eq_true, if_false, if_true, up_zero, Nat.reduceAdd, Nat.reduceSub, binv, ↓opt_def, AV.isAny, AV.cells, ldc, List.map_cons, List.map_nil, St.set_next, St.set_same, St.up_next, Int.natCast_nonneg, lt_len, le_len, Int.toNat_natCast, true_and, and_true, eq_self, reduceCtorEq, decide_true, List.length_singleton, er_int, er_bool, er_str]
    refine h1 _ _ ?_
    try clear h1 K_h1
    exact T.ret (Fin.ret rfl (.inl ⟨⟨rfl, by omega⟩, by rw [Int.toNat_natCast, hbs]; rfl, rfl⟩))

end Go.VL

namespace Go.VL

open Go.Proofs

theorem set_quiet {σ σ' : St} (wf : WF σ) (hn : σ.next ≤ σ'.next) (ho : ∀ n x, σ.res n = some x → σ'.res n = some x) {k a : Nat} (r : Res) (ha : σ'.next ≤ a) : ∀ n x, σ.res n = some x → ((σ'.up k).set a r).res n = some x := by
  intro n x hr
  have hn' : n < σ.next := by
    rcases Nat.lt_or_ge n σ.next with h | h
    · exact h
    · rw [wf n h] at hr; cases hr
  rw [St.set_other _ _ (by omega)]; exact ho n x hr

end Go.VL

namespace Go.VL

open Go.Proofs

/-- how far a reader is, and where something is amiss (-1: nowhere) -/
structure Rs where
  at_ : Int
  bad : Int

def Rs.ok (l : List UInt8) (s : Rs) : Prop := Rd l s.at_ s.bad ∧ (s.bad = -1 ∨ 0 ≤ s.bad)

def r0 : Rs := ⟨0, -1⟩

/-- may so many bytes be taken? -/
def rT (l : List UInt8) (s : Rs) (w : Int) : Bool := decide (s.bad = -1 ∧ w ≤ l.length - s.at_)

def rF (s : Rs) : Rs := ⟨s.at_, if s.bad = -1 then s.at_ else s.bad⟩

/-- a word -/
def rW (l : List UInt8) (s : Rs) (w : Nat) : Nat := if rT l s w then numB ((l.drop s.at_.toNat).take w) else 0

/-- the reader behind it -/
def rN (l : List UInt8) (s : Rs) (w : Nat) : Rs := if rT l s w then ⟨s.at_ + w, s.bad⟩ else rF s

def rdS (l : List UInt8) (g : Ver) (s : Rs) : Res := rd l g s.at_ s.bad

theorem rT_iff {l : List UInt8} {s : Rs} {w : Int} : rT l s w = true ↔ takeOk l s.at_ s.bad w := by unfold rT takeOk; simp

theorem Rs.ok_r0 {l : List UInt8} (h : l.length ≤ 1099511627776) : Rs.ok l r0 := ⟨⟨h, by simp [r0], by simp [r0]⟩, .inl rfl⟩

theorem rF_ok {l : List UInt8} {s : Rs} (h : s.ok l) : (rF s).ok l := by
  obtain ⟨⟨h1, h2, h3⟩, h4⟩ := h
  refine ⟨⟨h1, h2, h3⟩, ?_⟩
  simp only [rF]
  split
  · exact .inr h2
  · rcases h4 with h4 | h4
    · rename_i hh; exact absurd h4 hh
    · exact .inr h4

theorem rN_ok {l : List UInt8} {s : Rs} {w : Nat} (h : s.ok l) : (rN l s w).ok l := by
  unfold rN
  split
  · rename_i ht
    obtain ⟨⟨h1, h2, h3⟩, h4⟩ := h
    rw [rT_iff] at ht
    obtain ⟨t1, t2⟩ := ht
    exact ⟨⟨h1, by simp only; omega, by simp only; omega⟩, .inl t1⟩
  · exact rF_ok h

theorem rW_lt {l : List UInt8} {s : Rs} {w : Nat} (h : s.ok l) : rW l s w < 256 ^ w := by
  unfold rW
  split
  · rename_i ht
    rw [rT_iff] at ht
    obtain ⟨⟨h1, h2, h3⟩, h4⟩ := h
    have hlen : w ≤ (l.drop s.at_.toNat).length := by
      rw [List.length_drop]; have := ht.2; omega
    exact numB_lt _ _ hlen
  · exact Nat.pow_pos (by decide)

theorem wwordF {l : List UInt8} {g : Ver} {s : Rs} {w n : Nat} {σ : St} (hd : s.ok l) (hw : rightB w = true) (hr : σ.res n = some (rdS l g s)) :
    ACalls Tryd.prog n_wword [.ptr n 0, .int .i64 w] σ (fun v σ' => v = .int .u64 (rW l s w : Int) ∧ σ' = σ.set n (rdS l g (rN l s w))) := by
  refine (wword_ok hd.1 hw hr).mono ?_
  rintro v σ' (⟨h1, rfl, rfl⟩ | ⟨h1, rfl, rfl⟩)
  · have : rT l s w = true := rT_iff.2 h1
    simp only [rW, rN, this, if_true]
    exact ⟨trivial, rfl⟩
  · have : rT l s w = false := by
      rw [Bool.eq_false_iff]; exact fun h => h1 (rT_iff.1 h)
    simp only [rW, rN, this, Bool.false_eq_true, if_false]
    exact ⟨rfl, rfl⟩

theorem rwordF {l : List UInt8} {g : Ver} {s : Rs} {w n : Nat} {σ : St} (hd : s.ok l) (hw : rightB w = true) (hr : σ.res n = some (rdS l g s)) :
    ACalls Tryd.prog n_rword [.ptr n 0, .int .i64 w] σ (fun v σ' => v = .int .u64 (rW l s w : Int) ∧ σ' = σ.set n (rdS l g (rN l s w))) := by
  refine (rword_ok hd.1 hd.2 hw hr).mono ?_
  rintro v σ' (⟨h1, rfl, rfl⟩ | ⟨h1, rfl, rfl⟩)
  · have : rT l s w = true := rT_iff.2 h1
    simp only [rW, rN, this, if_true]
    exact ⟨trivial, rfl⟩
  · have : rT l s w = false := by
      rw [Bool.eq_false_iff]; exact fun h => h1 (rT_iff.1 h)
    simp only [rW, rN, this, Bool.false_eq_true, if_false]
    exact ⟨rfl, rfl⟩

theorem wreadF {l : List UInt8} {σ : St} : ACalls Tryd.prog n_wread [.sl (bytesAV l) .none] σ (fun v σ' => ∃ nm, v = .ptr nm 0 ∧ σ'.res nm = some (rdS l .none r0) ∧ σ.next ≤ nm ∧ nm < σ'.next ∧ ∀ m, m < σ.next → σ'.res m = σ.res m) := by
  refine s_wread (fun wf => ?_)
  unfold c_wread
  refine T.seq_k (fun K_h0 h0 => ?_)
  refine T.regi hm ?_
  simp only [↓reduceIte, namesOf, List.any, I.names, aops, aopsI, aopsT, qstep, CPt, qget, Tbl.get, astep, ev, setd, List.set, List.getD, List.getElem?_cons_zero, List.getElem?_cons_succ, List.getElem?_nil, List.cons_append, List.nil_append, List.length_cons, List.length_nil, List.replicate, then_normal, inBlock_normal, Option.getD_some, Option.getD_none, Bool.or_false, Bool.or_true, Bool.true_or, Bool.false_or, Bool.false_eq_true, if_false, if_true, up_zero, Nat.reduceAdd, Nat.reduceSub, binv, ↓opt_def, AV.isAny, AV.cells, ldc, List.map_cons, List.map_nil, St.set_next, St.set_same, St.up_next, Int.natCast_nonneg, lt_len, le_len, Int.toNat_natCast, true_and, and_true, eq_self, reduceCtorEq, decide_true, List.length_singleton, er_int, er_bool, er_str]
  refine h0 _ _ ?_
  try clear h0 K_h0
  refine T.seq_k (fun K_h1 h1 => ?_)
  refine T.regi hm ?_
  simp only [↓reduceIte, namesOf, List.any, I.names, aops, aopsI, aopsT, qstep, CPt, qget, Tbl.get, astep, ev, setd, List.set, List.getD, List.getElem?_cons_zero, List.getElem?_cons_succ, List.getElem?_nil, List.cons_append, List.nil_append, List.length_cons, List.length_nil, List.replicate, then_normal, inBlock_normal, Option.getD_some, Option.getD_none, Bool.or_false, Bool.or_true, Bool.true_or, Bool.false_or, Bool.false_eq_true, if_false, if_true, up_zero, Nat.reduceAdd, Nat.reduceSub, binv, ↓opt_def, AV.isAny, AV.cells, ldc, List.map_cons, List.map_nil, St.set_next, St.set_same, St.up_next, Int.natCast_nonneg, lt_len, le_len, Int.toNat_natCast, true_and, and_true, eq_self, reduceCtorEq, decide_true, List.length_singleton, er_int, er_bool, er_str, fillA, Option.map_some, AV.fits, AV.one, List.all_cons, List.all_nil, Nat.reduceBEq, Bool.and_true, Bool.not_false, Bool.and_self, Nat.zero_add, splice, List.take, List.drop, Nat.reduceLeDiff]
  refine h1 _ ((σ.up 4).set (σ.next + 2) (rd l .none 0 (-1))) ?_
  exact T.ret (Fin.ret rfl ⟨σ.next + 2, rfl, by simp [rdS, r0], by omega, by simp, fun m hm => by rw [St.set_other _ _ (by omega)]; rfl⟩)

end Go.VL

namespace Go.VL

open Go.Proofs

/-- the same, and perhaps more behind it -/
structure Like (ρ τ : St) : Prop where
  next : ρ.next ≤ τ.next
  same : ∀ n, n < ρ.next → τ.res n = ρ.res n

theorem Like.refl (σ : St) : Like σ σ := ⟨Nat.le_refl _, fun _ _ => rfl⟩

theorem Like.trans {a b c : St} (h : Like a b) (k : Like b c) : Like a c := ⟨Nat.le_trans h.next k.next, fun n hn => (k.same n (Nat.lt_of_lt_of_le hn h.next)).trans (h.same n hn)⟩

theorem Like.up {a b : St} (h : Like a b) (k : Nat) : Like a (b.up k) := ⟨Nat.le_trans h.next (Nat.le_add_right _ _), h.same⟩

theorem Like.set {a b : St} (h : Like a b) {n : Nat} (r : Res) (hn : a.next ≤ n) : Like a (b.set n r) := ⟨h.next, fun m hm => by rw [St.set_other _ _ (by omega)]; exact h.same m hm⟩

theorem Like.del {a b : St} (h : Like a b) {n : Nat} (hn : a.next ≤ n) : Like a (b.del n) := ⟨h.next, fun m hm => by
  have : m ≠ n := by omega
  rw [← h.same m hm]; simp [St.del, this]⟩

theorem Like.put {a b : St} (h : Like a b) (n : Nat) (r : Res) : Like (a.set n r) (b.set n r) := ⟨h.next, fun m hm => by
  have hm' : m < a.next := hm
  by_cases e : m = n
  · subst e; simp
  · rw [St.set_other _ _ e, St.set_other _ _ e]; exact h.same m hm'⟩

theorem Like.one {σ σ' : St} {g k : Nat} (h : OneTip σ σ' g k) : Like σ σ' := ⟨by have := h.lo; have := h.hi; omega, fun n hn => by rw [h.res, St.set_other _ _ (by have := h.lo; omega)]⟩

theorem Like.get {a b : St} (h : Like a b) {n : Nat} (hn : n < a.next) {r : Res} (hr : a.res n = some r) : b.res n = some r := by rw [h.same n hn]; exact hr

theorem WF.lt {σ : St} (wf : WF σ) {n : Nat} {r : Res} (h : σ.res n = some r) : n < σ.next := by
  rcases Nat.lt_or_ge n σ.next with h' | h'
  · exact h'
  · rw [wf n h'] at h; cases h

/-- what is left behind a call may be told as it is, but for names that nobody knows -/
theorem Gv.like {σ0 τ ρ : St} {x : AV} (h : Like ρ τ) (hn : ρ.next = σ0.next) (hx : x.nb σ0.next) (hr : ∀ n r, ρ.res n = some r → n < σ0.next ∧ (σ0.res n = some r ∨ r.nb σ0.next)) : Gv σ0 x τ x ρ :=
  .cut (Nat.le_of_eq hn.symm) (by rw [hn]; exact hx) (fun n r hnr => by
    obtain ⟨h1, h2⟩ := hr n r hnr
    refine ⟨by rw [h.same n (by omega)]; exact hnr, ?_⟩
    rcases h2 with h2 | h2
    · exact .inl h2
    · exact .inr ⟨by omega, by rw [hn]; exact h2⟩)

theorem u64w {n : Nat} (h : n < 18446744073709551616) : IntKind.u64.wrap (n : Int) = (n : Int) := by
  simp [IntKind.wrap, IntKind.bits, IntKind.signed]; omega

theorem inc64' {i n : Nat} (h : i < n) (hn : n ≤ 4611686018427387904) : IntKind.i64.wrap ((i : Int) + 1) = ((i + 1 : Nat) : Int) := by
  rw [wrap64 (by omega) (by omega)]; omega

/-- a named end, and what was there ahead of it -/
structure Tq (σ t : St) (g k : Nat) : Prop where
  like : Like σ t
  at_ : t.res g = some (.tip k)
  lo : σ.next ≤ g
  hi : g < t.next

theorem Tq.ats {σ t : St} {g k : Nat} (h : Tq σ t g k) : ∀ n, (t.up n).res g = some (.tip k) := fun _ => h.at_

theorem Tq.up {σ t : St} {g k : Nat} (h : Tq σ t g k) (n : Nat) : Tq σ (t.up n) g k := ⟨h.like.up n, h.at_, h.lo, Nat.lt_of_lt_of_le h.hi (Nat.le_add_right _ _)⟩

theorem Tq.new {σ t : St} (h : Like σ t) {n i : Nat} (hi : i < n) (k : Nat) : Tq σ ((t.up n).set (t.next + i) (.tip k)) (t.next + i) k :=
  ⟨(h.up n).set _ (by have := h.next; omega), by simp, by have := h.next; omega, by simp; omega⟩

theorem Tq.app {σ t : St} {g k : Nat} (h : Tq σ t g k) {n i : Nat} (hi : i < n) : Tq σ (((t.up n).del g).set (t.next + i) (.tip k)) (t.next + i) k :=
  ⟨((h.like.up n).del h.lo).set _ (by have := h.like.next; omega), by simp, by have := h.like.next; omega, by simp; omega⟩

theorem Tq.box {σ t : St} {g k : Nat} (h : Tq σ t g k) {n i : Nat} (hi : i < n) (r : Res) : Tq σ ((t.up n).set (t.next + i) r) g k :=
  ⟨(h.like.up n).set _ (by have := h.like.next; omega), by rw [St.set_other _ _ (by have := h.hi; omega)]; exact h.at_, h.lo, by have := h.hi; simp; omega⟩

theorem Tq.one {σ t : St} {g k : Nat} (h : OneTip σ t g k) : Tq σ t g k := ⟨.one h, h.at_, h.lo, h.hi⟩

theorem Tq.trans {σ t u : St} {g k : Nat} (h : Like σ t) (q : Tq t u g k) : Tq σ u g k := ⟨h.trans q.like, q.at_, Nat.le_trans h.next q.lo, q.hi⟩

theorem Like.quiet {σ t : St} (wf : WF σ) (h : Like σ t) : ∀ n x, σ.res n = some x → t.res n = some x := fun _ _ hx => h.get (wf.lt hx) hx

theorem Tq.quiet {σ t : St} {g k : Nat} (wf : WF σ) (h : Tq σ t g k) : ∀ n x, σ.res n = some x → t.res n = some x := h.like.quiet wf

theorem Like.box {σ t : St} (h : Like σ t) {n i : Nat} (r : Res) : Like σ ((t.up n).set (t.next + i) r) := (h.up n).set _ (by have := h.next; omega)

/-- how long what is appended to may grow -/
theorem app_le {a b : Nat} (h : a + b ≤ 1099511627776) : decide ((a + b) * 1 ≤ 70368744177664 ∧ a + b ≤ 4611686018427387904) = true := decide_eq_true (by omega)

theorem Tq.mv {σ t : St} {g k : Nat} (h : Tq σ t g k) {g2 : Nat} (lo : σ.next ≤ g2) (hi : g2 < t.next) : Tq σ ((t.del g).set g2 (.tip k)) g2 k :=
  ⟨(h.like.del h.lo).set _ lo, by simp, lo, hi⟩

/-- a named end, and an owned thing -/
structure Tb (σ t : St) (g k a : Nat) (r : Res) : Prop where
  q : Tq σ t g k
  b : t.res a = some r
  lt : a < t.next
  ne : a ≠ g

theorem Tb.bs {σ t : St} {g k a : Nat} {r : Res} (h : Tb σ t g k a r) : ∀ n, (t.up n).res a = some r := fun _ => h.b

theorem Tb.app {σ t : St} {g k a : Nat} {r : Res} (h : Tb σ t g k a r) {n i : Nat} (hi : i < n) : Tb σ (((t.up n).del g).set (t.next + i) (.tip k)) (t.next + i) k a r :=
  ⟨h.q.app hi, by
    have := h.lt
    rw [St.set_other _ _ (by omega)]
    have hne := h.ne
    simp only [St.del, if_neg hne]; exact h.b, by have := h.lt; simp; omega, by have := h.lt; omega⟩

theorem Tq.tb {σ t : St} {g k : Nat} (q : Tq σ t g k) {n i : Nat} (hi : i < n) (r : Res) : Tb σ ((t.up n).set (t.next + i) r) g k (t.next + i) r :=
  ⟨q.box hi r, by simp, by simp; omega, by have := q.hi; omega⟩

/-- what a call leaves: what it has set of one old thing, and names that nobody knows -/
theorem Fin.likeset {σ0 : St} {rs : List RX} {K : AV → St → Prop} {ρ : List AV} {σ : St} {xs : List AV} {y : AV} {n : Nat} {r0 r : Res} (wf : WF σ0) (h1 : rvals ρ σ rs = some xs) (hw : Wk (pack xs) y) (hL : Like (σ0.set n r) σ) (hn : σ0.res n = some r0) (hx : y.nb σ0.next) (hr : r.nb σ0.next) (h2 : K y (σ0.set n r)) : Fin σ0 rs K .ret ρ σ :=
  ⟨ρ, σ, xs, y, σ0.set n r, .refl, h1, (Gv.wk hw).trans (.like hL rfl hx (fun m q hm => by
    by_cases e : m = n
    · subst e
      rw [St.set_same] at hm
      simp only [Option.some.injEq] at hm; subst hm
      exact ⟨wf.lt hn, .inr hr⟩
    · rw [St.set_other _ _ e] at hm
      exact ⟨wf.lt hm, .inl hm⟩)), h2⟩

theorem nb_rd (m : Nat) (l : List UInt8) (a b : Int) : (rd l .none a b).nb m := ⟨⟨nb_bytes _ _, trivial⟩, trivial, trivial, trivial⟩

end Go.VL

namespace Go.VL

open Go.Proofs

abbrev n_may : Nat := 20

def c_may : C := (.seq (.reg [⟨(some 1), (.box (.t 0)), none⟩, ⟨(some 2), (.mv (.c (.bool false))), none⟩]) (.seq (.reg [⟨(some 3), (.faddr 2 (.t 1)), none⟩, ⟨(some 4), (.load none (.t 3)), none⟩, ⟨(some 5), (.bin .geq .i64 (.t 4) (.c (.int .i64 0))), none⟩, ⟨(some 6), (.mv (.t 5)), none⟩, ⟨(some 7), (.faddr 2 (.t 1)), (some (6, true))⟩, ⟨(some 8), (.load none (.t 7)), (some (6, true))⟩, ⟨(some 9), (.faddr 3 (.t 1)), (some (6, true))⟩, ⟨(some 10), (.load none (.t 9)), (some (6, true))⟩, ⟨(some 11), (.bin .leq .i64 (.t 8) (.t 10)), (some (6, true))⟩, ⟨(some 12), (.pick (.t 6) (.t 11) (.c (.bool false))), none⟩, ⟨(some 13), (.mv (.t 12)), none⟩, ⟨(some 14), (.faddr 3 (.t 1)), (some (13, true))⟩, ⟨(some 15), (.load none (.t 14)), (some (13, true))⟩, ⟨(some 16), (.bin .leq .i64 (.t 15) (.c (.int .i64 1099511627776))), (some (13, true))⟩, ⟨(some 17), (.pick (.t 13) (.t 16) (.c (.bool false))), none⟩, ⟨(some 18), (.mv (.t 17)), none⟩, ⟨(some 19), (.faddr 4 (.t 1)), (some (18, true))⟩, ⟨(some 20), (.load none (.t 19)), (some (18, true))⟩, ⟨(some 21), (.len (.t 20)), (some (18, true))⟩, ⟨(some 22), (.bin .leq .i64 (.t 21) (.c (.int .i64 64))), (some (18, true))⟩, ⟨(some 23), (.pick (.t 18) (.t 22) (.c (.bool false))), none⟩, ⟨(some 2), (.mv (.t 23)), none⟩]) .ret))

set_option maxRecDepth 100000 in
theorem k_may : compileC Tryd.prog ann (Tryd.f20.body.getD .skip) = some c_may := by kernel_rfl

theorem s_may {args : List AV} {σ : St} {K : AV → St → Prop} (h : WF σ → T Tryd.prog ann c_may (Fin σ [(.t 2)] K) (args ++ List.replicate (24 - args.length) (.tup [])) σ) : ACalls Tryd.prog n_may args σ K :=
  calls_ok Tryd.func20 (by kernel_rfl) (by kernel_rfl) k_may (by kernel_rfl) (by kernel_rfl) h

abbrev n_rmay : Nat := 11

def c_rmay : C := (.seq (.reg [⟨(some 1), (.box (.t 0)), none⟩, ⟨(some 2), (.mv (.c (.bool false))), none⟩]) (.seq (.reg [⟨(some 3), (.faddr 2 (.t 1)), none⟩, ⟨(some 4), (.load none (.t 3)), none⟩, ⟨(some 5), (.bin .geq .i64 (.t 4) (.c (.int .i64 0))), none⟩, ⟨(some 6), (.mv (.t 5)), none⟩, ⟨(some 7), (.faddr 2 (.t 1)), (some (6, true))⟩, ⟨(some 8), (.load none (.t 7)), (some (6, true))⟩, ⟨(some 9), (.faddr 3 (.t 1)), (some (6, true))⟩, ⟨(some 10), (.load none (.t 9)), (some (6, true))⟩, ⟨(some 11), (.bin .leq .i64 (.t 8) (.t 10)), (some (6, true))⟩, ⟨(some 12), (.pick (.t 6) (.t 11) (.c (.bool false))), none⟩, ⟨(some 13), (.mv (.t 12)), none⟩, ⟨(some 14), (.faddr 3 (.t 1)), (some (13, true))⟩, ⟨(some 15), (.load none (.t 14)), (some (13, true))⟩, ⟨(some 16), (.bin .leq .i64 (.t 15) (.c (.int .i64 1099511627776))), (some (13, true))⟩, ⟨(some 17), (.pick (.t 13) (.t 16) (.c (.bool false))), none⟩, ⟨(some 18), (.mv (.t 17)), none⟩, ⟨(some 19), (.faddr 4 (.t 1)), (some (18, true))⟩, ⟨(some 20), (.load none (.t 19)), (some (18, true))⟩, ⟨(some 21), (.len (.t 20)), (some (18, true))⟩, ⟨(some 22), (.bin .leq .i64 (.t 21) (.c (.int .i64 64))), (some (18, true))⟩, ⟨(some 23), (.pick (.t 18) (.t 22) (.c (.bool false))), none⟩, ⟨(some 2), (.mv (.t 23)), none⟩]) .ret))

set_option maxRecDepth 100000 in
theorem k_rmay : compileC Tryd.prog ann (Tryd.f11.body.getD .skip) = some c_rmay := by kernel_rfl

theorem s_rmay {args : List AV} {σ : St} {K : AV → St → Prop} (h : WF σ → T Tryd.prog ann c_rmay (Fin σ [(.t 2)] K) (args ++ List.replicate (24 - args.length) (.tup [])) σ) : ACalls Tryd.prog n_rmay args σ K :=
  calls_ok Tryd.func11 (by kernel_rfl) (by kernel_rfl) k_rmay (by kernel_rfl) (by kernel_rfl) h

abbrev n_rsame : Nat := 21

def c_rsame : C := (.seq (.reg [⟨(some 2), (.box (.t 0)), none⟩, ⟨(some 3), (.box (.t 1)), none⟩, ⟨(some 4), (.mv (.c (.bool false))), none⟩]) (.seq (.reg [⟨(some 5), (.faddr 0 (.t 2)), none⟩, ⟨(some 6), (.load none (.t 5)), none⟩, ⟨(some 7), (.faddr 0 (.t 3)), none⟩, ⟨(some 8), (.load none (.t 7)), none⟩, ⟨(some 9), (.bin .eql .u64 (.t 6) (.t 8)), none⟩, ⟨(some 10), (.mv (.t 9)), none⟩, ⟨(some 11), (.faddr 1 (.t 2)), (some (10, true))⟩, ⟨(some 12), (.load none (.t 11)), (some (10, true))⟩, ⟨(some 13), (.faddr 1 (.t 3)), (some (10, true))⟩, ⟨(some 14), (.load none (.t 13)), (some (10, true))⟩, ⟨(some 15), (.bin .eql .u64 (.t 12) (.t 14)), (some (10, true))⟩, ⟨(some 16), (.pick (.t 10) (.t 15) (.c (.bool false))), none⟩, ⟨(some 17), (.mv (.t 16)), none⟩, ⟨(some 18), (.faddr 2 (.t 2)), (some (17, true))⟩, ⟨(some 19), (.load none (.t 18)), (some (17, true))⟩, ⟨(some 20), (.faddr 2 (.t 3)), (some (17, true))⟩, ⟨(some 21), (.load none (.t 20)), (some (17, true))⟩, ⟨(some 22), (.bin .eql .i64 (.t 19) (.t 21)), (some (17, true))⟩, ⟨(some 23), (.pick (.t 17) (.t 22) (.c (.bool false))), none⟩, ⟨(some 24), (.mv (.t 23)), none⟩, ⟨(some 25), (.faddr 3 (.t 2)), (some (24, true))⟩, ⟨(some 26), (.load none (.t 25)), (some (24, true))⟩, ⟨(some 27), (.faddr 3 (.t 3)), (some (24, true))⟩, ⟨(some 28), (.load none (.t 27)), (some (24, true))⟩, ⟨(some 29), (.bin .eql .i64 (.t 26) (.t 28)), (some (24, true))⟩, ⟨(some 30), (.pick (.t 24) (.t 29) (.c (.bool false))), none⟩, ⟨(some 31), (.mv (.t 30)), none⟩, ⟨(some 32), (.faddr 4 (.t 2)), (some (31, true))⟩, ⟨(some 33), (.load none (.t 32)), (some (31, true))⟩, ⟨(some 34), (.convBS (.t 33)), (some (31, true))⟩, ⟨(some 35), (.faddr 4 (.t 3)), (some (31, true))⟩, ⟨(some 36), (.load none (.t 35)), (some (31, true))⟩, ⟨(some 37), (.convBS (.t 36)), (some (31, true))⟩, ⟨(some 38), (.sbin .eql (.t 34) (.t 37)), (some (31, true))⟩, ⟨(some 39), (.pick (.t 31) (.t 38) (.c (.bool false))), none⟩, ⟨(some 4), (.mv (.t 39)), none⟩]) .ret))

set_option maxRecDepth 100000 in
theorem k_rsame : compileC Tryd.prog ann (Tryd.f21.body.getD .skip) = some c_rsame := by kernel_rfl

theorem s_rsame {args : List AV} {σ : St} {K : AV → St → Prop} (h : WF σ → T Tryd.prog ann c_rsame (Fin σ [(.t 4)] K) (args ++ List.replicate (40 - args.length) (.tup [])) σ) : ACalls Tryd.prog n_rsame args σ K :=
  calls_ok Tryd.func21 (by kernel_rfl) (by kernel_rfl) k_rsame (by kernel_rfl) (by kernel_rfl) h

abbrev n_rspans : Nat := 16

def c_rspans : C := (.seq (.reg [⟨(some 4), (.mv (.c (.bool false))), none⟩]) (.seq (.seq (.reg [⟨(some 7), (.mv (.t 0)), none⟩, ⟨(some 8), (.len (.t 7)), none⟩, ⟨(some 9), (.mv (.t 1)), none⟩, ⟨(some 10), (.len (.t 9)), none⟩, ⟨(some 11), (.bin .neq .i64 (.t 8) (.t 10)), none⟩]) (.cond (.t 11) (.seq (.reg [⟨(some 4), (.mv (.c (.bool false))), none⟩]) .ret) .skip)) (.seq (.seq (.reg [⟨(some 5), (.mv (.c (.int .i64 0))), none⟩]) (.block 0 (.loop (.seq (.seq (.reg [⟨(some 12), (.mv (.t 5)), none⟩, ⟨(some 13), (.mv (.t 0)), none⟩, ⟨(some 14), (.len (.t 13)), none⟩, ⟨(some 15), (.bin .lss .i64 (.t 12) (.t 14)), none⟩]) (.cond (.t 15) .skip (.exit 0))) (.seq (.block 1 (.seq (.reg [⟨(some 18), (.mv (.t 0)), none⟩, ⟨(some 19), (.mv (.t 5)), none⟩, ⟨(some 20), (.iaddr 5 (.t 18) (.t 19)), none⟩, ⟨(some 21), (.load (some 5) (.t 20)), none⟩, ⟨(some 22), (.mv (.t 1)), none⟩, ⟨(some 23), (.mv (.t 5)), none⟩, ⟨(some 24), (.iaddr 5 (.t 22) (.t 23)), none⟩, ⟨(some 25), (.load (some 5) (.t 24)), none⟩, ⟨(some 26), (.qcall 21 [(.t 21), (.t 25)]), none⟩, ⟨(some 6), (.mv (.t 26)), none⟩]) (.seq (.reg [⟨(some 27), (.mv (.t 6)), none⟩, ⟨(some 28), (.not (.t 27)), none⟩]) (.cond (.t 28) (.seq (.reg [⟨(some 4), (.mv (.c (.bool false))), none⟩]) .ret) .skip)))) (.reg [⟨(some 16), (.mv (.t 5)), none⟩, ⟨(some 17), (.bin .add .i64 (.t 16) (.c (.int .i64 1))), none⟩, ⟨(some 5), (.mv (.t 17)), none⟩])))))) (.seq (.reg [⟨(some 4), (.mv (.c (.bool true))), none⟩]) .ret))))

set_option maxRecDepth 100000 in
theorem k_rspans : compileC Tryd.prog ann (Tryd.f16.body.getD .skip) = some c_rspans := by kernel_rfl

theorem s_rspans {args : List AV} {σ : St} {K : AV → St → Prop} (h : WF σ → T Tryd.prog ann c_rspans (Fin σ [(.t 4)] K) (args ++ List.replicate (29 - args.length) (.tup [])) σ) : ACalls Tryd.prog n_rspans args σ K :=
  calls_ok Tryd.func16 (by kernel_rfl) (by kernel_rfl) k_rspans (by kernel_rfl) (by kernel_rfl) h

end Go.VL

namespace Go.VL

open Go.Proofs

/-- a span -/
structure Sp where
  tr : Nat
  id : Nat
  st : Int
  en : Int
  da : List UInt8
  deriving DecidableEq

def Sp.av (s : Sp) : AV := .agg [.int .u64 (s.tr : Int), .int .u64 (s.id : Int), .int .i64 s.st, .int .i64 s.en, .sl (bytesAV s.da) .none]

/-- a trace -/
structure Tc where
  id : Nat
  sp : List Sp
  deriving DecidableEq

def Tc.av (t : Tc) : AV := .agg [.int .u64 (t.id : Int), .sl (t.sp.map Sp.av) .none]

def spsAV (l : List Sp) : List AV := l.map Sp.av

theorem sps_len (l : List Sp) : (spsAV l).length = l.length := by simp [spsAV]

theorem sps_get {l : List Sp} {i : Nat} (h : i < l.length) : (spsAV l)[i]? = some (l[i].av) := by simp [spsAV, h]

theorem inc64 {i n : Nat} (h : i < n) (hn : n ≤ 9223372036854775807) : IntKind.i64.wrap ((i : Int) + 1) = ((i + 1 : Nat) : Int) := by
  rw [wrap64 (by omega) (by omega)]; rfl

end Go.VL

namespace Go.VL

open Go.Proofs

/-! ### Comparing -/

theorem set2_quiet {σ : St} (wf : WF σ) {k : Nat} (r r' : Res) {a b : Nat} (ha : σ.next ≤ a) (hb : σ.next ≤ b) : ∀ n x, σ.res n = some x → (((σ.up k).set a r).set b r').res n = some x := by
  intro n x hr
  have hn : n < σ.next := by
    rcases Nat.lt_or_ge n σ.next with h | h
    · exact h
    · rw [wf n h] at hr; cases hr
  rw [St.set_other _ _ (by omega), St.set_other _ _ (by omega)]; exact hr

theorem set1_quiet {σ : St} (wf : WF σ) {k : Nat} (r : Res) {a : Nat} (ha : σ.next ≤ a) : ∀ n x, σ.res n = some x → ((σ.up k).set a r).res n = some x := by
  intro n x hr
  have hn : n < σ.next := by
    rcases Nat.lt_or_ge n σ.next with h | h
    · exact h
    · rw [wf n h] at hr; cases hr
  rw [St.set_other _ _ (by omega)]; exact hr

def mayI (s e n : Int) : Bool := decide (0 ≤ s ∧ s ≤ e ∧ e ≤ 1099511627776 ∧ n ≤ 64)

theorem may_ok {t i : AV} {s e : Int} {xs : List AV} {g : Ver} {σ : St} : ACalls Tryd.prog n_may [.agg [t, i, .int .i64 s, .int .i64 e, .sl xs g]] σ (fun v σ' => v = .bool (mayI s e xs.length) ∧ σ' = σ) := by
  refine s_may (fun wf => ?_)
  unfold c_may
  refine T.seq_k (fun K_h1 h1 => ?_)
  refine T.regi hm ?_
  simp only [↓reduceIte, namesOf, List.any, I.names, aops, aopsI, aopsT, qstep, CPt, qget, Tbl.get, astep, ev, setd, List.set, List.getD, List.getElem?_cons_zero, List.getElem?_cons_succ, List.getElem?_nil, List.cons_append, List.nil_append, List.length_cons, List.length_nil, List.replicate, then_normal, inBlock_normal, Option.getD_some, Option.getD_none, Bool.or_false, Bool.or_true, Bool.true_or, Bool.false_or, Bool.false_eq_true, if_false, if_true, up_zero, Nat.reduceAdd, Nat.reduceSub, binv, ↓opt_def, AV.isAny, AV.cells, ldc, List.map_cons, List.map_nil, St.set_next, St.set_same, St.up_next, Int.natCast_nonneg, lt_len, le_len, Int.toNat_natCast, true_and, and_true, eq_self, reduceCtorEq, decide_true, List.length_singleton, er_int, er_bool, er_str]
  have h0 : ((σ.up 2).set (σ.next + 0) (.obj [t, i, .int .i64 s, .int .i64 e, .sl xs g])).res (σ.next + 0) = some (.obj [t, i, .int .i64 s, .int .i64 e, .sl xs g]) := by simp
  have hq := set1_quiet wf (k := 2) (.obj [t, i, .int .i64 s, .int .i64 e, .sl xs g]) (a := σ.next + 0) (by omega)
  generalize ((σ.up 2).set (σ.next + 0) (.obj [t, i, .int .i64 s, .int .i64 e, .sl xs g])) = σ1 at h0 hq ⊢
  refine h1 _ _ ?_
  try clear h1 K_h1
  refine T.seq_k (fun K_h1 h1 => ?_)
  by_cases c1 : 0 ≤ s
  case neg =>
    have e1 : decide (s ≥ 0) = false := decide_eq_false (by omega)
    refine T.regi hm ?_
    simp only [↓reduceIte, namesOf, List.any, I.names, aops, aopsI, aopsT, qstep, CPt, qget, Tbl.get, astep, ev, setd, List.set, List.getD, List.getElem?_cons_zero, List.getElem?_cons_succ, List.getElem?_nil, List.cons_append, List.nil_append, List.length_cons, List.length_nil, List.replicate, then_normal, inBlock_normal, Option.getD_some, Option.getD_none, Bool.or_false, Bool.or_true, Bool.true_or, Bool.false_or, Bool.false_eq_true, if_false, if_true, up_zero, Nat.reduceAdd, Nat.reduceSub, binv, ↓opt_def, AV.isAny, AV.cells, ldc, List.map_cons, List.map_nil, St.set_next, St.set_same, St.up_next, Int.natCast_nonneg, lt_len, le_len, Int.toNat_natCast, true_and, and_true, eq_self, reduceCtorEq, decide_true, List.length_singleton, er_int, er_bool, er_str, h0, e1, reduceCtorEq]
    refine h1 _ _ ?_
    try clear h1 K_h1
    exact T.ret (Fin.quiet rfl trivial hq ⟨by simp [pack, mayI, c1], rfl⟩)
  have e1 : decide (s ≥ 0) = true := decide_eq_true c1
  by_cases c2 : s ≤ e
  case neg =>
    have e2 : decide (s ≤ e) = false := decide_eq_false c2
    refine T.regi hm ?_
    simp only [↓reduceIte, namesOf, List.any, I.names, aops, aopsI, aopsT, qstep, CPt, qget, Tbl.get, astep, ev, setd, List.set, List.getD, List.getElem?_cons_zero, List.getElem?_cons_succ, List.getElem?_nil, List.cons_append, List.nil_append, List.length_cons, List.length_nil, List.replicate, then_normal, inBlock_normal, Option.getD_some, Option.getD_none, Bool.or_false, Bool.or_true, Bool.true_or, Bool.false_or, Bool.false_eq_true, if_false, if_true, up_zero, Nat.reduceAdd, Nat.reduceSub, binv, ↓opt_def, AV.isAny, AV.cells, ldc, List.map_cons, List.map_nil, St.set_next, St.set_same, St.up_next, Int.natCast_nonneg, lt_len, le_len, Int.toNat_natCast, true_and, and_true, eq_self, reduceCtorEq, decide_true, List.length_singleton, er_int, er_bool, er_str, h0, e1, e2, reduceCtorEq]
    refine h1 _ _ ?_
    try clear h1 K_h1
    exact T.ret (Fin.quiet rfl trivial hq ⟨by simp [pack, mayI, c2], rfl⟩)
  have e2 : decide (s ≤ e) = true := decide_eq_true c2
  by_cases c3 : e ≤ 1099511627776
  case neg =>
    have e3 : decide (e ≤ 1099511627776) = false := decide_eq_false c3
    refine T.regi hm ?_
    simp only [↓reduceIte, namesOf, List.any, I.names, aops, aopsI, aopsT, qstep, CPt, qget, Tbl.get, astep, ev, setd, List.set, List.getD, List.getElem?_cons_zero, List.getElem?_cons_succ, List.getElem?_nil, List.cons_append, List.nil_append, List.length_cons, List.length_nil, List.replicate, then_normal, inBlock_normal, Option.getD_some, Option.getD_none, Bool.or_false, Bool.or_true, Bool.true_or, Bool.false_or, Bool.false_eq_true, if_false, if_true, up_zero, Nat.reduceAdd, Nat.reduceSub, binv, ↓opt_def, AV.isAny, AV.cells, ldc, List.map_cons, List.map_nil, St.set_next, St.set_same, St.up_next, Int.natCast_nonneg, lt_len, le_len, Int.toNat_natCast, true_and, and_true, eq_self, reduceCtorEq, decide_true, List.length_singleton, er_int, er_bool, er_str, h0, e1, e2, e3, reduceCtorEq]
    refine h1 _ _ ?_
    try clear h1 K_h1
    exact T.ret (Fin.quiet rfl trivial hq ⟨by simp [pack, mayI, c3], rfl⟩)
  have e3 : decide (e ≤ 1099511627776) = true := decide_eq_true c3
  refine T.regi hm ?_
  simp only [↓reduceIte, namesOf, List.any, I.names, aops, aopsI, aopsT, qstep, CPt, qget, Tbl.get, astep, ev, setd, List.set, List.getD, List.getElem?_cons_zero, List.getElem?_cons_succ, List.getElem?_nil, List.cons_append, List.nil_append, List.length_cons, List.length_nil, List.replicate, then_normal, inBlock_normal, Option.getD_some, Option.getD_none, Bool.or_false, Bool.or_true, Bool.true_or, Bool.false_or, Bool.false_eq_true, if_false, if_true, up_zero, Nat.reduceAdd, Nat.reduceSub, binv, ↓opt_def, AV.isAny, AV.cells, ldc, List.map_cons, List.map_nil, St.set_next, St.set_same, St.up_next, Int.natCast_nonneg, lt_len, le_len, Int.toNat_natCast, true_and, and_true, eq_self, reduceCtorEq, decide_true, List.length_singleton, er_int, er_bool, er_str, h0, e1, e2, e3, reduceCtorEq]
  refine h1 _ _ ?_
  try clear h1 K_h1
  exact T.ret (Fin.quiet rfl trivial hq ⟨by simp [pack, mayI, c1, c2, c3], rfl⟩)

end Go.VL

namespace Go.VL

open Go.Proofs

theorem spav (s : Sp) : s.av = .agg [.int .u64 (s.tr : Int), .int .u64 (s.id : Int), .int .i64 s.st, .int .i64 s.en, .sl (bytesAV s.da) .none] := rfl

def mayS (s : Sp) : Bool := mayI s.st s.en s.da.length

def metAV (l : List Nat) : List (AV × AV) := l.map fun n : Nat => (.int .u64 (n : Int), .bool true)

theorem met_put (l : List Nat) (n : Nat) (h : l.contains n = false) : mput (.int .u64 (n : Int)) (.bool true) (metAV l) = metAV (l ++ [n]) := by
  induction l with
  | nil => rfl
  | cons a r ih =>
    unfold metAV at ih ⊢
    simp only [List.contains_cons, Bool.or_eq_false_iff] at h
    have h1 : ((n : Int) == (a : Int)) = false := by have := h.1; simp at this ⊢; omega
    simp only [List.map_cons, mput, keq, if_true, h1, ih h.2, List.cons_append]

structure OneSt (σ σ' : St) (a m : Nat) (t : Tc) (l : List Nat) : Prop where
  a0 : σ.next ≤ a
  m0 : σ.next ≤ m
  a1 : a < σ'.next
  m1 : m < σ'.next
  obj : σ'.res a = some (.obj t.av.cells)
  map : σ'.res m = some (.map (metAV l) (List.range l.length) l.length)
  old : ∀ n r, σ.res n = some r → σ'.res n = some r

theorem OneSt.put {σ σ' : St} {a m : Nat} {t : Tc} {l : List Nat} {n : Nat} (wf : WF σ) (ham : a ≠ m) (h : OneSt σ σ' a m t l) (hn : l.contains n = false) : OneSt σ (σ'.set m (.map (mput (.int .u64 (n : Int)) (.bool true) (metAV l)) (List.range l.length ++ [l.length]) (l.length + 1))) a m t (l ++ [n]) where
  a0 := h.a0
  m0 := h.m0
  a1 := h.a1
  m1 := h.m1
  obj := by rw [St.set_other _ _ ham]; exact h.obj
  map := by rw [St.set_same, met_put l n hn, List.length_append, List.length_singleton, List.range_succ]
  old := fun n r' hr => by
    have hn : n < σ.next := by
      rcases Nat.lt_or_ge n σ.next with h' | h'
      · exact h'
      · rw [wf n h'] at hr; cases hr
    rw [St.set_other _ _ (by have := h.m0; omega)]; exact h.old n r' hr

end Go.VL

namespace Go.VL

open Go.Proofs

abbrev n_wtext : Nat := 40

def c_wtext : C := (.seq (.reg [⟨(some 4), (.mv (.c (.sl [] .nil))), none⟩, ⟨(some 5), (.mv (.c .nili)), none⟩]) (.seq (.seq (.reg [⟨(some 8), (.mv (.t 1)), none⟩, ⟨(some 9), (.len (.t 8)), none⟩, ⟨(some 10), (.bin .gtr .i64 (.t 9) (.c (.int .i64 65535))), none⟩]) (.cond (.t 10) (.seq (.reg [⟨(some 11), (.mkI 34 (.c (.int .i64 3))), none⟩, ⟨(some 4), (.mv (.c (.sl [] .nil))), none⟩, ⟨(some 5), (.mv (.t 11)), none⟩]) .ret) .skip)) (.seq (.reg [⟨(some 13), (.mv (.t 0)), none⟩, ⟨(some 14), (.mv (.t 1)), none⟩, ⟨(some 15), (.len (.t 14)), none⟩, ⟨(some 16), (.conv .u64 (.t 15)), none⟩, ⟨(some 17), (.call 22 [(.t 13), (.c (.int .i64 2)), (.t 16)]), none⟩, ⟨(some 12), (.mv (.t 17)), none⟩, ⟨(some 18), (.ext (.t 12) 0), none⟩, ⟨(some 19), (.ext (.t 12) 1), none⟩, ⟨(some 6), (.mv (.t 18)), none⟩, ⟨(some 7), (.mv (.t 19)), none⟩]) (.seq (.reg [⟨(some 20), (.mv (.t 6)), none⟩, ⟨(some 21), (.mv (.t 1)), none⟩, ⟨(some 22), (.app 1 1 .tip (.t 20) (.t 21)), none⟩, ⟨(some 23), (.mv (.t 7)), none⟩, ⟨(some 4), (.mv (.t 22)), none⟩, ⟨(some 5), (.mv (.t 23)), none⟩]) .ret))))

set_option maxRecDepth 100000 in
theorem k_wtext : compileC Tryd.prog ann (Tryd.f40.body.getD .skip) = some c_wtext := by kernel_rfl

theorem s_wtext {args : List AV} {σ : St} {K : AV → St → Prop} (h : WF σ → T Tryd.prog ann c_wtext (Fin σ [(.t 4), (.t 5)] K) (args ++ List.replicate (24 - args.length) (.tup [])) σ) : ACalls Tryd.prog n_wtext args σ K :=
  calls_ok Tryd.func40 (by kernel_rfl) (by kernel_rfl) k_wtext (by kernel_rfl) (by kernel_rfl) h

abbrev n_sput1 : Nat := 23

def c_sput1 : C := (.seq (.reg [⟨(some 1), (.box (.t 0)), none⟩, ⟨(some 2), (.mv (.c (.sl [] .nil))), none⟩, ⟨(some 3), (.mv (.c .nili)), none⟩]) (.seq (.reg [⟨(some 4), (.mv (.c (.sl [] .nil))), none⟩]) (.seq (.seq (.reg [⟨(some 9), (.faddr 0 (.t 1)), none⟩, ⟨(some 10), (.load none (.t 9)), none⟩, ⟨(some 11), (.faddr 1 (.t 1)), none⟩, ⟨(some 12), (.load none (.t 11)), none⟩, ⟨(some 13), (.faddr 2 (.t 1)), none⟩, ⟨(some 14), (.load none (.t 13)), none⟩, ⟨(some 15), (.conv .u64 (.t 14)), none⟩, ⟨(some 16), (.faddr 3 (.t 1)), none⟩, ⟨(some 17), (.load none (.t 16)), none⟩, ⟨(some 18), (.conv .u64 (.t 17)), none⟩, ⟨(some 19), (.bslice 1 .val [(.t 10), (.t 12), (.t 15), (.t 18)]), none⟩, ⟨(some 20), (.len (.t 19)), none⟩, ⟨(some 21), (.mv (.c (.int .i64 0))), none⟩]) (.block 0 (.loop (.seq (.reg [⟨(some 22), (.bin .lss .i64 (.t 21) (.t 20)), none⟩]) (.seq (.cond (.t 22) .skip (.exit 0)) (.seq (.block 1 (.seq (.reg [⟨(some 23), (.iaddr 1 (.t 19) (.t 21)), none⟩, ⟨(some 24), (.load none (.t 23)), none⟩, ⟨(some 6), (.mv (.t 24)), none⟩]) (.seq (.reg [⟨(some 26), (.mv (.t 4)), none⟩, ⟨(some 27), (.mv (.t 6)), none⟩, ⟨(some 28), (.call 22 [(.t 26), (.c (.int .i64 8)), (.t 27)]), none⟩, ⟨(some 25), (.mv (.t 28)), none⟩, ⟨(some 29), (.ext (.t 25) 0), none⟩, ⟨(some 30), (.ext (.t 25) 1), none⟩, ⟨(some 7), (.mv (.t 29)), none⟩, ⟨(some 8), (.mv (.t 30)), none⟩]) (.seq (.seq (.reg [⟨(some 31), (.mv (.t 8)), none⟩, ⟨(some 32), (.eqI true true [(34, .i64)] (.t 31) (.c .nili)), none⟩]) (.cond (.t 32) (.seq (.reg [⟨(some 33), (.mv (.t 8)), none⟩, ⟨(some 2), (.mv (.c (.sl [] .nil))), none⟩, ⟨(some 3), (.mv (.t 33)), none⟩]) .ret) .skip)) (.reg [⟨(some 34), (.mv (.t 7)), none⟩, ⟨(some 4), (.mv (.t 34)), none⟩]))))) (.reg [⟨(some 35), (.bin .add .i64 (.t 21) (.c (.int .i64 1))), none⟩, ⟨(some 21), (.mv (.t 35)), none⟩]))))))) (.seq (.reg [⟨(some 36), (.mv (.t 4)), none⟩, ⟨(some 37), (.faddr 4 (.t 1)), none⟩, ⟨(some 38), (.load none (.t 37)), none⟩, ⟨(some 39), (.call 40 [(.t 36), (.t 38)]), none⟩, ⟨(some 40), (.ext (.t 39) 0), none⟩, ⟨(some 41), (.ext (.t 39) 1), none⟩, ⟨(some 2), (.mv (.t 40)), none⟩, ⟨(some 3), (.mv (.t 41)), none⟩]) .ret))))

set_option maxRecDepth 100000 in
theorem k_sput1 : compileC Tryd.prog ann (Tryd.f23.body.getD .skip) = some c_sput1 := by kernel_rfl

theorem s_sput1 {args : List AV} {σ : St} {K : AV → St → Prop} (h : WF σ → T Tryd.prog ann c_sput1 (Fin σ [(.t 2), (.t 3)] K) (args ++ List.replicate (42 - args.length) (.tup [])) σ) : ACalls Tryd.prog n_sput1 args σ K :=
  calls_ok Tryd.func23 (by kernel_rfl) (by kernel_rfl) k_sput1 (by kernel_rfl) (by kernel_rfl) h

abbrev n_spput : Nat := 10

def c_spput : C := (.seq (.reg [⟨(some 2), (.mv (.c (.sl [] .nil))), none⟩, ⟨(some 3), (.mv (.c .nili)), none⟩]) (.seq (.seq (.reg [⟨(some 10), (.mv (.t 0)), none⟩, ⟨(some 11), (.len (.t 10)), none⟩, ⟨(some 12), (.bin .gtr .i64 (.t 11) (.c (.int .i64 65535))), none⟩]) (.cond (.t 12) (.seq (.reg [⟨(some 13), (.mkI 34 (.c (.int .i64 3))), none⟩, ⟨(some 2), (.mv (.c (.sl [] .nil))), none⟩, ⟨(some 3), (.mv (.t 13)), none⟩]) .ret) .skip)) (.seq (.reg [⟨(some 15), (.mv (.t 0)), none⟩, ⟨(some 16), (.len (.t 15)), none⟩, ⟨(some 17), (.conv .u64 (.t 16)), none⟩, ⟨(some 18), (.call 22 [(.c (.sl [] .nil)), (.c (.int .i64 2)), (.t 17)]), none⟩, ⟨(some 14), (.mv (.t 18)), none⟩, ⟨(some 19), (.ext (.t 14) 0), none⟩, ⟨(some 20), (.ext (.t 14) 1), none⟩, ⟨(some 4), (.mv (.t 19)), none⟩, ⟨(some 5), (.mv (.t 20)), none⟩]) (.seq (.seq (.reg [⟨(some 21), (.mv (.t 5)), none⟩, ⟨(some 22), (.eqI true true [(34, .i64)] (.t 21) (.c .nili)), none⟩]) (.cond (.t 22) (.seq (.reg [⟨(some 23), (.mv (.t 5)), none⟩, ⟨(some 2), (.mv (.c (.sl [] .nil))), none⟩, ⟨(some 3), (.mv (.t 23)), none⟩]) .ret) .skip)) (.seq (.seq (.reg [⟨(some 24), (.mv (.t 0)), none⟩, ⟨(some 25), (.len (.t 24)), none⟩, ⟨(some 26), (.mv (.c (.int .i64 0))), none⟩]) (.block 0 (.loop (.seq (.reg [⟨(some 27), (.bin .lss .i64 (.t 26) (.t 25)), none⟩]) (.seq (.cond (.t 27) .skip (.exit 0)) (.seq (.block 1 (.seq (.reg [⟨(some 28), (.iaddr 5 (.t 24) (.t 26)), none⟩, ⟨(some 29), (.load (some 5) (.t 28)), none⟩, ⟨(some 7), (.alloc [(.int .u64 0), (.int .u64 0), (.int .i64 0), (.int .i64 0), (.sl [] .nil)]), none⟩, ⟨none, (.store 5 (.t 7) (.t 29)), none⟩]) (.seq (.seq (.reg [⟨(some 30), (.load (some 5) (.t 7)), none⟩, ⟨(some 31), (.call 20 [(.t 30)]), none⟩, ⟨(some 32), (.not (.t 31)), none⟩]) (.cond (.t 32) (.seq (.reg [⟨(some 33), (.mkI 34 (.c (.int .i64 1))), none⟩, ⟨(some 2), (.mv (.c (.sl [] .nil))), none⟩, ⟨(some 3), (.mv (.t 33)), none⟩]) .ret) .skip)) (.seq (.reg [⟨(some 35), (.load (some 5) (.t 7)), none⟩, ⟨(some 36), (.call 23 [(.t 35)]), none⟩, ⟨(some 34), (.mv (.t 36)), none⟩, ⟨(some 37), (.ext (.t 34) 0), none⟩, ⟨(some 38), (.ext (.t 34) 1), none⟩, ⟨(some 8), (.mv (.t 37)), none⟩, ⟨(some 9), (.mv (.t 38)), none⟩]) (.seq (.seq (.reg [⟨(some 39), (.mv (.t 9)), none⟩, ⟨(some 40), (.eqI true true [(34, .i64)] (.t 39) (.c .nili)), none⟩]) (.cond (.t 40) (.seq (.reg [⟨(some 41), (.mv (.t 9)), none⟩, ⟨(some 2), (.mv (.c (.sl [] .nil))), none⟩, ⟨(some 3), (.mv (.t 41)), none⟩]) .ret) .skip)) (.reg [⟨(some 42), (.mv (.t 4)), none⟩, ⟨(some 43), (.mv (.t 8)), none⟩, ⟨(some 44), (.app 1 1 .tip (.t 42) (.t 43)), none⟩, ⟨(some 4), (.mv (.t 44)), none⟩])))))) (.reg [⟨(some 45), (.bin .add .i64 (.t 26) (.c (.int .i64 1))), none⟩, ⟨(some 26), (.mv (.t 45)), none⟩]))))))) (.seq (.reg [⟨(some 46), (.mv (.t 4)), none⟩, ⟨(some 2), (.mv (.t 46)), none⟩, ⟨(some 3), (.mv (.c .nili)), none⟩]) .ret))))))

set_option maxRecDepth 100000 in
theorem k_spput : compileC Tryd.prog ann (Tryd.f10.body.getD .skip) = some c_spput := by kernel_rfl

theorem s_spput {args : List AV} {σ : St} {K : AV → St → Prop} (h : WF σ → T Tryd.prog ann c_spput (Fin σ [(.t 2), (.t 3)] K) (args ++ List.replicate (47 - args.length) (.tup [])) σ) : ACalls Tryd.prog n_spput args σ K :=
  calls_ok Tryd.func10 (by kernel_rfl) (by kernel_rfl) k_spput (by kernel_rfl) (by kernel_rfl) h

abbrev n_wtextR : Nat := 30

def c_wtextR : C := (.seq (.reg [⟨(some 4), (.mv (.c (.sl [] .nil))), none⟩]) (.seq (.reg [⟨(some 7), (.mv (.t 0)), none⟩, ⟨(some 8), (.nilCheck (.t 7)), none⟩, ⟨(some 9), (.faddr 1 (.t 8)), none⟩, ⟨(some 10), (.load none (.t 9)), none⟩, ⟨(some 5), (.mv (.t 10)), none⟩]) (.seq (.reg [⟨(some 11), (.mv (.t 0)), none⟩, ⟨(some 12), (.call 27 [(.t 11), (.c (.int .i64 2))]), none⟩, ⟨(some 13), (.conv .i64 (.t 12)), none⟩, ⟨(some 6), (.mv (.t 13)), none⟩]) (.seq (.seq (.reg [⟨(some 14), (.mv (.t 0)), none⟩, ⟨(some 15), (.nilCheck (.t 14)), none⟩, ⟨(some 16), (.faddr 2 (.t 15)), none⟩, ⟨(some 17), (.load none (.t 16)), none⟩, ⟨(some 18), (.bin .eql .i64 (.t 17) (.c (.int .i64 (-1)))), none⟩, ⟨(some 19), (.mv (.t 18)), none⟩, ⟨(some 20), (.mv (.t 6)), (some (19, true))⟩, ⟨(some 21), (.mv (.t 1)), (some (19, true))⟩, ⟨(some 22), (.bin .gtr .i64 (.t 20) (.t 21)), (some (19, true))⟩, ⟨(some 23), (.mv (.t 22)), (some (19, true))⟩, ⟨(some 24), (.mv (.t 6)), (some (23, false))⟩, ⟨(some 25), (.mv (.t 0)), (some (23, false))⟩, ⟨(some 26), (.call 29 [(.t 25)]), (some (23, false))⟩, ⟨(some 27), (.bin .gtr .i64 (.t 24) (.t 26)), (some (23, false))⟩, ⟨(some 28), (.pick (.t 23) (.c (.bool true)) (.t 27)), (some (19, true))⟩, ⟨(some 29), (.pick (.t 19) (.t 28) (.c (.bool false))), none⟩]) (.cond (.t 29) (.seq (.reg [⟨(some 30), (.mv (.t 0)), none⟩, ⟨(some 31), (.mv (.t 5)), none⟩, ⟨(some 32), (.nilCheck (.t 30)), none⟩, ⟨(some 33), (.faddr 1 (.t 32)), none⟩, ⟨none, (.store 1 (.t 33) (.t 31)), none⟩]) (.reg [⟨(some 34), (.mv (.t 0)), none⟩, ⟨(some 35), (.mv (.t 5)), none⟩, ⟨(some 36), (.call 41 [(.t 34), (.t 35)]), none⟩])) .skip)) (.seq (.seq (.reg [⟨(some 37), (.mv (.t 0)), none⟩, ⟨(some 38), (.nilCheck (.t 37)), none⟩, ⟨(some 39), (.faddr 2 (.t 38)), none⟩, ⟨(some 40), (.load none (.t 39)), none⟩, ⟨(some 41), (.bin .neq .i64 (.t 40) (.c (.int .i64 (-1)))), none⟩]) (.cond (.t 41) (.seq (.reg [⟨(some 4), (.mv (.c (.sl [] .nil))), none⟩]) .ret) .skip)) (.seq (.reg [⟨(some 42), (.bslice 1 .tip []), none⟩, ⟨(some 43), (.mv (.t 0)), none⟩, ⟨(some 44), (.mv (.t 6)), none⟩, ⟨(some 45), (.call 42 [(.t 43), (.t 44)]), none⟩, ⟨(some 46), (.app 1 1 .tip (.t 42) (.t 45)), none⟩, ⟨(some 4), (.mv (.t 46)), none⟩]) .ret))))))

set_option maxRecDepth 100000 in
theorem k_wtextR : compileC Tryd.prog ann (Tryd.f30.body.getD .skip) = some c_wtextR := by kernel_rfl

theorem s_wtextR {args : List AV} {σ : St} {K : AV → St → Prop} (h : WF σ → T Tryd.prog ann c_wtextR (Fin σ [(.t 4)] K) (args ++ List.replicate (47 - args.length) (.tup [])) σ) : ACalls Tryd.prog n_wtextR args σ K :=
  calls_ok Tryd.func30 (by kernel_rfl) (by kernel_rfl) k_wtextR (by kernel_rfl) (by kernel_rfl) h

abbrev n_spget : Nat := 13

def c_spget : C := (.seq (.reg [⟨(some 2), (.mv (.c (.sl [] .nil))), none⟩, ⟨(some 3), (.mv (.c .nili)), none⟩]) (.seq (.reg [⟨(some 10), (.mv (.t 0)), none⟩, ⟨(some 11), (.call 26 [(.t 10)]), none⟩, ⟨(some 4), (.mv (.t 11)), none⟩]) (.seq (.reg [⟨(some 12), (.mv (.t 4)), none⟩, ⟨(some 13), (.call 27 [(.t 12), (.c (.int .i64 2))]), none⟩, ⟨(some 14), (.conv .i64 (.t 13)), none⟩, ⟨(some 5), (.mv (.t 14)), none⟩]) (.seq (.reg [⟨(some 6), (.mv (.c (.sl [] .nil))), none⟩]) (.seq (.seq (.reg [⟨(some 7), (.mv (.c (.int .i64 0))), none⟩]) (.block 0 (.loop (.seq (.seq (.reg [⟨(some 15), (.mv (.t 7)), none⟩, ⟨(some 16), (.mv (.t 5)), none⟩, ⟨(some 17), (.bin .lss .i64 (.t 15) (.t 16)), none⟩, ⟨(some 18), (.mv (.t 17)), none⟩, ⟨(some 19), (.mv (.t 4)), (some (18, true))⟩, ⟨(some 20), (.call 28 [(.t 19)]), (some (18, true))⟩, ⟨(some 21), (.bin .lss .i64 (.t 20) (.c (.int .i64 0))), (some (18, true))⟩, ⟨(some 22), (.pick (.t 18) (.t 21) (.c (.bool false))), none⟩]) (.cond (.t 22) .skip (.exit 0))) (.seq (.block 1 (.seq (.reg [⟨(some 25), (.mv (.t 0)), none⟩, ⟨(some 26), (.len (.t 25)), none⟩, ⟨(some 27), (.mv (.t 4)), none⟩, ⟨(some 28), (.call 29 [(.t 27)]), none⟩, ⟨(some 29), (.bin .sub .i64 (.t 26) (.t 28)), none⟩, ⟨(some 8), (.mv (.t 29)), none⟩]) (.seq (.reg [⟨(some 30), (.mv (.t 4)), none⟩, ⟨(some 31), (.call 27 [(.t 30), (.c (.int .i64 8))]), none⟩, ⟨(some 32), (.mv (.t 4)), none⟩, ⟨(some 33), (.call 27 [(.t 32), (.c (.int .i64 8))]), none⟩, ⟨(some 34), (.build [(.int .u64 0), (.int .u64 0), (.int .i64 0), (.int .i64 0), (.sl [] .nil)] [(0, (1, (.t 31))), (1, (1, (.t 33)))]), none⟩, ⟨(some 9), (.alloc [(.int .u64 0), (.int .u64 0), (.int .i64 0), (.int .i64 0), (.sl [] .nil)]), none⟩, ⟨none, (.store 5 (.t 9) (.t 34)), none⟩]) (.seq (.reg [⟨(some 35), (.mv (.t 4)), none⟩, ⟨(some 36), (.call 27 [(.t 35), (.c (.int .i64 8))]), none⟩, ⟨(some 37), (.conv .i64 (.t 36)), none⟩, ⟨(some 38), (.faddr 2 (.t 9)), none⟩, ⟨none, (.store 1 (.t 38) (.t 37)), none⟩]) (.seq (.reg [⟨(some 39), (.mv (.t 4)), none⟩, ⟨(some 40), (.call 27 [(.t 39), (.c (.int .i64 8))]), none⟩, ⟨(some 41), (.conv .i64 (.t 40)), none⟩, ⟨(some 42), (.faddr 3 (.t 9)), none⟩, ⟨none, (.store 1 (.t 42) (.t 41)), none⟩]) (.seq (.reg [⟨(some 43), (.mv (.t 4)), none⟩, ⟨(some 44), (.call 30 [(.t 43), (.c (.int .i64 65535))]), none⟩, ⟨(some 45), (.faddr 4 (.t 9)), none⟩, ⟨none, (.store 1 (.t 45) (.t 44)), none⟩]) (.seq (.seq (.reg [⟨(some 46), (.mv (.t 4)), none⟩, ⟨(some 47), (.call 28 [(.t 46)]), none⟩, ⟨(some 48), (.bin .lss .i64 (.t 47) (.c (.int .i64 0))), none⟩, ⟨(some 49), (.mv (.t 48)), none⟩, ⟨(some 50), (.load (some 5) (.t 9)), (some (49, true))⟩, ⟨(some 51), (.call 20 [(.t 50)]), (some (49, true))⟩, ⟨(some 52), (.not (.t 51)), (some (49, true))⟩, ⟨(some 53), (.pick (.t 49) (.t 52) (.c (.bool false))), none⟩]) (.cond (.t 53) (.seq (.reg [⟨(some 54), (.mv (.t 8)), none⟩, ⟨(some 55), (.build [(.int .i64 0), (.int .i64 0)] [(0, (1, (.t 54))), (1, (1, (.c (.int .i64 2))))]), none⟩, ⟨(some 56), (.box (.t 55)), none⟩, ⟨(some 57), (.mkI 57 (.t 56)), none⟩, ⟨(some 2), (.mv (.c (.sl [] .nil))), none⟩, ⟨(some 3), (.mv (.t 57)), none⟩]) .ret) .skip)) (.reg [⟨(some 58), (.mv (.t 6)), none⟩, ⟨(some 59), (.load (some 5) (.t 9)), none⟩, ⟨(some 60), (.bslice 5 .val [(.t 59)]), none⟩, ⟨(some 61), (.app 5 56 .tip (.t 58) (.t 60)), none⟩, ⟨(some 6), (.mv (.t 61)), none⟩])))))))) (.reg [⟨(some 23), (.mv (.t 7)), none⟩, ⟨(some 24), (.bin .add .i64 (.t 23) (.c (.int .i64 1))), none⟩, ⟨(some 7), (.mv (.t 24)), none⟩])))))) (.seq (.block 2 (.seq (.reg [⟨(some 63), (.mv (.t 4)), none⟩, ⟨(some 64), (.call 28 [(.t 63)]), none⟩, ⟨(some 65), (.bin .geq .i64 (.t 64) (.c (.int .i64 0))), none⟩, ⟨(some 62), (.mv (.t 65)), none⟩]) (.cond (.t 62) (.seq (.reg [⟨(some 66), (.mv (.t 4)), none⟩, ⟨(some 67), (.call 28 [(.t 66)]), none⟩, ⟨(some 68), (.build [(.int .i64 0), (.int .i64 0)] [(0, (1, (.t 67))), (1, (1, (.c (.int .i64 2))))]), none⟩, ⟨(some 69), (.box (.t 68)), none⟩, ⟨(some 70), (.mkI 57 (.t 69)), none⟩, ⟨(some 2), (.mv (.c (.sl [] .nil))), none⟩, ⟨(some 3), (.mv (.t 70)), none⟩]) .ret) (.seq (.reg [⟨(some 72), (.mv (.t 4)), none⟩, ⟨(some 73), (.call 29 [(.t 72)]), none⟩, ⟨(some 74), (.bin .gtr .i64 (.t 73) (.c (.int .i64 0))), none⟩, ⟨(some 71), (.mv (.t 74)), none⟩]) (.cond (.t 71) (.seq (.reg [⟨(some 75), (.mv (.t 0)), none⟩, ⟨(some 76), (.len (.t 75)), none⟩, ⟨(some 77), (.mv (.t 4)), none⟩, ⟨(some 78), (.call 29 [(.t 77)]), none⟩, ⟨(some 79), (.bin .sub .i64 (.t 76) (.t 78)), none⟩, ⟨(some 80), (.build [(.int .i64 0), (.int .i64 0)] [(0, (1, (.t 79))), (1, (1, (.c (.int .i64 2))))]), none⟩, ⟨(some 81), (.box (.t 80)), none⟩, ⟨(some 82), (.mkI 57 (.t 81)), none⟩, ⟨(some 2), (.mv (.c (.sl [] .nil))), none⟩, ⟨(some 3), (.mv (.t 82)), none⟩]) .ret) .skip))))) (.seq (.reg [⟨(some 83), (.mv (.t 6)), none⟩, ⟨(some 2), (.mv (.t 83)), none⟩, ⟨(some 3), (.mv (.c .nili)), none⟩]) .ret)))))))

set_option maxRecDepth 100000 in
theorem k_spget : compileC Tryd.prog ann (Tryd.f13.body.getD .skip) = some c_spget := by kernel_rfl

theorem s_spget {args : List AV} {σ : St} {K : AV → St → Prop} (h : WF σ → T Tryd.prog ann c_spget (Fin σ [(.t 2), (.t 3)] K) (args ++ List.replicate (84 - args.length) (.tup [])) σ) : ACalls Tryd.prog n_spget args σ K :=
  calls_ok Tryd.func13 (by kernel_rfl) (by kernel_rfl) k_spget (by kernel_rfl) (by kernel_rfl) h

abbrev ann_rtextR : Ann := { errs := [(34, .i64)], hold := [(9, 0, .zero)] }

abbrev n_rtextR : Nat := 32

def c_rtextR : C := (.seq (.reg [⟨(some 4), (.mv (.c (.sl [] .nil))), none⟩]) (.seq (.reg [⟨(some 8), (.mv (.t 0)), none⟩, ⟨(some 9), (.nilCheck (.t 8)), none⟩, ⟨(some 10), (.faddr 1 (.t 9)), none⟩, ⟨(some 11), (.load none (.t 10)), none⟩, ⟨(some 5), (.mv (.t 11)), none⟩]) (.seq (.reg [⟨(some 12), (.mv (.t 0)), none⟩, ⟨(some 13), (.call 31 [(.t 12), (.c (.int .i64 2))]), none⟩, ⟨(some 14), (.conv .i64 (.t 13)), none⟩, ⟨(some 6), (.mv (.t 14)), none⟩]) (.seq (.seq (.reg [⟨(some 15), (.mv (.t 0)), none⟩, ⟨(some 16), (.nilCheck (.t 15)), none⟩, ⟨(some 17), (.faddr 2 (.t 16)), none⟩, ⟨(some 18), (.load none (.t 17)), none⟩, ⟨(some 19), (.bin .geq .i64 (.t 18) (.c (.int .i64 0))), none⟩]) (.cond (.t 19) (.seq (.reg [⟨(some 4), (.mv (.c (.sl [] .nil))), none⟩]) .ret) .skip)) (.seq (.seq (.reg [⟨(some 20), (.mv (.t 6)), none⟩, ⟨(some 21), (.mv (.t 1)), none⟩, ⟨(some 22), (.bin .gtr .i64 (.t 20) (.t 21)), none⟩, ⟨(some 23), (.mv (.t 22)), none⟩, ⟨(some 24), (.mv (.t 0)), (some (23, false))⟩, ⟨(some 25), (.nilCheck (.t 24)), (some (23, false))⟩, ⟨(some 26), (.faddr 1 (.t 25)), (some (23, false))⟩, ⟨(some 27), (.load none (.t 26)), (some (23, false))⟩, ⟨(some 28), (.mv (.t 6)), (some (23, false))⟩, ⟨(some 29), (.bin .add .i64 (.t 27) (.t 28)), (some (23, false))⟩, ⟨(some 30), (.mv (.t 0)), (some (23, false))⟩, ⟨(some 31), (.nilCheck (.t 30)), (some (23, false))⟩, ⟨(some 32), (.faddr 0 (.t 31)), (some (23, false))⟩, ⟨(some 33), (.load none (.t 32)), (some (23, false))⟩, ⟨(some 34), (.len (.t 33)), (some (23, false))⟩, ⟨(some 35), (.bin .gtr .i64 (.t 29) (.t 34)), (some (23, false))⟩, ⟨(some 36), (.pick (.t 23) (.c (.bool true)) (.t 35)), none⟩]) (.cond (.t 36) (.seq (.reg [⟨(some 37), (.mv (.t 0)), none⟩, ⟨(some 38), (.mv (.t 5)), none⟩, ⟨(some 39), (.nilCheck (.t 37)), none⟩, ⟨(some 40), (.faddr 1 (.t 39)), none⟩, ⟨none, (.store 1 (.t 40) (.t 38)), none⟩]) (.seq (.reg [⟨(some 41), (.mv (.t 0)), none⟩, ⟨(some 42), (.mv (.t 5)), none⟩, ⟨(some 43), (.nilCheck (.t 41)), none⟩, ⟨(some 44), (.faddr 2 (.t 43)), none⟩, ⟨none, (.store 1 (.t 44) (.t 42)), none⟩]) (.seq (.reg [⟨(some 4), (.mv (.c (.sl [] .nil))), none⟩]) .ret))) .skip)) (.seq (.reg [⟨(some 45), (.bslice 1 .zero []), none⟩, ⟨(some 46), (.mv (.t 0)), none⟩, ⟨(some 47), (.nilCheck (.t 46)), none⟩, ⟨(some 48), (.faddr 0 (.t 47)), none⟩, ⟨(some 49), (.load none (.t 48)), none⟩, ⟨(some 50), (.mv (.t 0)), none⟩, ⟨(some 51), (.nilCheck (.t 50)), none⟩, ⟨(some 52), (.faddr 1 (.t 51)), none⟩, ⟨(some 53), (.load none (.t 52)), none⟩, ⟨(some 54), (.mv (.t 0)), none⟩, ⟨(some 55), (.nilCheck (.t 54)), none⟩, ⟨(some 56), (.faddr 1 (.t 55)), none⟩, ⟨(some 57), (.load none (.t 56)), none⟩, ⟨(some 58), (.mv (.t 6)), none⟩, ⟨(some 59), (.bin .add .i64 (.t 57) (.t 58)), none⟩, ⟨(some 60), (.slice 1 (.t 49) (some (.t 53)) (some (.t 59))), none⟩, ⟨(some 61), (.app 1 1 .tip (.t 45) (.t 60)), none⟩, ⟨(some 7), (.mv (.t 61)), none⟩]) (.seq (.reg [⟨(some 62), (.mv (.t 0)), none⟩, ⟨(some 63), (.mv (.t 0)), none⟩, ⟨(some 64), (.nilCheck (.t 63)), none⟩, ⟨(some 65), (.faddr 1 (.t 64)), none⟩, ⟨(some 66), (.load none (.t 65)), none⟩, ⟨(some 67), (.mv (.t 6)), none⟩, ⟨(some 68), (.bin .add .i64 (.t 66) (.t 67)), none⟩, ⟨(some 69), (.nilCheck (.t 62)), none⟩, ⟨(some 70), (.faddr 1 (.t 69)), none⟩, ⟨none, (.store 1 (.t 70) (.t 68)), none⟩]) (.seq (.reg [⟨(some 71), (.mv (.t 7)), none⟩, ⟨(some 4), (.mv (.t 71)), none⟩]) .ret))))))))

set_option maxRecDepth 100000 in
theorem k_rtextR : compileC Tryd.prog ann_rtextR (Tryd.f32.body.getD .skip) = some c_rtextR := by kernel_rfl

theorem s_rtextR {args : List AV} {σ : St} {K : AV → St → Prop} (h : WF σ → T Tryd.prog ann_rtextR c_rtextR (Fin σ [(.t 4)] K) (args ++ List.replicate (72 - args.length) (.tup [])) σ) : ACalls Tryd.prog n_rtextR args σ K :=
  calls_ok Tryd.func32 (by kernel_rfl) (by kernel_rfl) k_rtextR (by kernel_rfl) (by kernel_rfl) h

abbrev n_rread : Nat := 14

def c_rread : C := (.seq (.reg [⟨(some 2), (.mv (.c (.sl [] .nil))), none⟩, ⟨(some 3), (.mv (.c (.int .i64 0))), none⟩]) (.seq (.reg [⟨(some 16), (.mv (.t 0)), none⟩, ⟨(some 17), (.build [(.sl [] .nil), (.int .i64 0), (.int .i64 0)] [(0, (1, (.t 16))), (2, (1, (.c (.int .i64 (-1)))))]), none⟩, ⟨(some 18), (.box (.t 17)), none⟩, ⟨(some 4), (.mv (.t 18)), none⟩]) (.seq (.reg [⟨(some 19), (.mv (.t 4)), none⟩, ⟨(some 20), (.call 31 [(.t 19), (.c (.int .i64 2))]), none⟩, ⟨(some 21), (.conv .i64 (.t 20)), none⟩, ⟨(some 5), (.mv (.t 21)), none⟩]) (.seq (.reg [⟨(some 6), (.mv (.c (.sl [] .nil))), none⟩]) (.seq (.seq (.reg [⟨(some 7), (.mv (.c (.int .i64 0))), none⟩]) (.block 0 (.loop (.seq (.seq (.reg [⟨(some 22), (.mv (.t 7)), none⟩, ⟨(some 23), (.mv (.t 5)), none⟩, ⟨(some 24), (.bin .lss .i64 (.t 22) (.t 23)), none⟩]) (.cond (.t 24) .skip (.exit 0))) (.seq (.block 1 (.seq (.reg [⟨(some 27), (.mv (.t 4)), none⟩, ⟨(some 28), (.nilCheck (.t 27)), none⟩, ⟨(some 29), (.faddr 1 (.t 28)), none⟩, ⟨(some 30), (.load none (.t 29)), none⟩, ⟨(some 8), (.mv (.t 30)), none⟩]) (.seq (.reg [⟨(some 31), (.mv (.t 4)), none⟩, ⟨(some 32), (.call 31 [(.t 31), (.c (.int .i64 8))]), none⟩, ⟨(some 9), (.mv (.t 32)), none⟩]) (.seq (.reg [⟨(some 33), (.mv (.t 4)), none⟩, ⟨(some 34), (.call 31 [(.t 33), (.c (.int .i64 8))]), none⟩, ⟨(some 10), (.mv (.t 34)), none⟩]) (.seq (.reg [⟨(some 35), (.mv (.t 4)), none⟩, ⟨(some 36), (.call 31 [(.t 35), (.c (.int .i64 8))]), none⟩, ⟨(some 11), (.mv (.t 36)), none⟩]) (.seq (.reg [⟨(some 37), (.mv (.t 4)), none⟩, ⟨(some 38), (.call 31 [(.t 37), (.c (.int .i64 8))]), none⟩, ⟨(some 12), (.mv (.t 38)), none⟩]) (.seq (.reg [⟨(some 39), (.mv (.t 4)), none⟩, ⟨(some 40), (.call 32 [(.t 39), (.c (.int .i64 65535))]), none⟩, ⟨(some 13), (.mv (.t 40)), none⟩]) (.seq (.seq (.reg [⟨(some 41), (.mv (.t 4)), none⟩, ⟨(some 42), (.nilCheck (.t 41)), none⟩, ⟨(some 43), (.faddr 2 (.t 42)), none⟩, ⟨(some 44), (.load none (.t 43)), none⟩, ⟨(some 45), (.bin .geq .i64 (.t 44) (.c (.int .i64 0))), none⟩]) (.cond (.t 45) (.seq (.reg [⟨(some 46), (.mv (.t 4)), none⟩, ⟨(some 47), (.nilCheck (.t 46)), none⟩, ⟨(some 48), (.faddr 2 (.t 47)), none⟩, ⟨(some 49), (.load none (.t 48)), none⟩, ⟨(some 2), (.mv (.c (.sl [] .nil))), none⟩, ⟨(some 3), (.mv (.t 49)), none⟩]) .ret) .skip)) (.seq (.reg [⟨(some 50), (.mv (.t 9)), none⟩, ⟨(some 51), (.mv (.t 10)), none⟩, ⟨(some 52), (.mv (.t 11)), none⟩, ⟨(some 53), (.conv .i64 (.t 52)), none⟩, ⟨(some 54), (.mv (.t 12)), none⟩, ⟨(some 55), (.conv .i64 (.t 54)), none⟩, ⟨(some 56), (.mv (.t 13)), none⟩, ⟨(some 57), (.build [(.int .u64 0), (.int .u64 0), (.int .i64 0), (.int .i64 0), (.sl [] .nil)] [(0, (1, (.t 50))), (1, (1, (.t 51))), (2, (1, (.t 53))), (3, (1, (.t 55))), (4, (1, (.t 56)))]), none⟩, ⟨(some 14), (.alloc [(.int .u64 0), (.int .u64 0), (.int .i64 0), (.int .i64 0), (.sl [] .nil)]), none⟩, ⟨none, (.store 5 (.t 14) (.t 57)), none⟩]) (.seq (.reg [⟨(some 58), (.load (some 5) (.t 14)), none⟩, ⟨(some 59), (.call 11 [(.t 58)]), none⟩, ⟨(some 15), (.mv (.t 59)), none⟩]) (.seq (.seq (.reg [⟨(some 60), (.mv (.t 15)), none⟩, ⟨(some 61), (.not (.t 60)), none⟩]) (.cond (.t 61) (.seq (.reg [⟨(some 62), (.mv (.t 8)), none⟩, ⟨(some 2), (.mv (.c (.sl [] .nil))), none⟩, ⟨(some 3), (.mv (.t 62)), none⟩]) .ret) .skip)) (.reg [⟨(some 63), (.mv (.t 6)), none⟩, ⟨(some 64), (.load (some 5) (.t 14)), none⟩, ⟨(some 65), (.bslice 5 .val [(.t 64)]), none⟩, ⟨(some 66), (.app 5 56 .tip (.t 63) (.t 65)), none⟩, ⟨(some 6), (.mv (.t 66)), none⟩])))))))))))) (.reg [⟨(some 25), (.mv (.t 7)), none⟩, ⟨(some 26), (.bin .add .i64 (.t 25) (.c (.int .i64 1))), none⟩, ⟨(some 7), (.mv (.t 26)), none⟩])))))) (.seq (.seq (.reg [⟨(some 67), (.mv (.t 4)), none⟩, ⟨(some 68), (.nilCheck (.t 67)), none⟩, ⟨(some 69), (.faddr 2 (.t 68)), none⟩, ⟨(some 70), (.load none (.t 69)), none⟩, ⟨(some 71), (.bin .geq .i64 (.t 70) (.c (.int .i64 0))), none⟩]) (.cond (.t 71) (.seq (.reg [⟨(some 72), (.mv (.t 4)), none⟩, ⟨(some 73), (.nilCheck (.t 72)), none⟩, ⟨(some 74), (.faddr 2 (.t 73)), none⟩, ⟨(some 75), (.load none (.t 74)), none⟩, ⟨(some 2), (.mv (.c (.sl [] .nil))), none⟩, ⟨(some 3), (.mv (.t 75)), none⟩]) .ret) .skip)) (.seq (.seq (.reg [⟨(some 76), (.mv (.t 4)), none⟩, ⟨(some 77), (.nilCheck (.t 76)), none⟩, ⟨(some 78), (.faddr 1 (.t 77)), none⟩, ⟨(some 79), (.load none (.t 78)), none⟩, ⟨(some 80), (.mv (.t 0)), none⟩, ⟨(some 81), (.len (.t 80)), none⟩, ⟨(some 82), (.bin .lss .i64 (.t 79) (.t 81)), none⟩]) (.cond (.t 82) (.seq (.reg [⟨(some 83), (.mv (.t 4)), none⟩, ⟨(some 84), (.nilCheck (.t 83)), none⟩, ⟨(some 85), (.faddr 1 (.t 84)), none⟩, ⟨(some 86), (.load none (.t 85)), none⟩, ⟨(some 2), (.mv (.c (.sl [] .nil))), none⟩, ⟨(some 3), (.mv (.t 86)), none⟩]) .ret) .skip)) (.seq (.reg [⟨(some 87), (.mv (.t 6)), none⟩, ⟨(some 2), (.mv (.t 87)), none⟩, ⟨(some 3), (.mv (.c (.int .i64 (-1)))), none⟩]) .ret))))))))

set_option maxRecDepth 100000 in
theorem k_rread : compileC Tryd.prog ann (Tryd.f14.body.getD .skip) = some c_rread := by kernel_rfl

theorem s_rread {args : List AV} {σ : St} {K : AV → St → Prop} (h : WF σ → T Tryd.prog ann c_rread (Fin σ [(.t 2), (.t 3)] K) (args ++ List.replicate (88 - args.length) (.tup [])) σ) : ACalls Tryd.prog n_rread args σ K :=
  calls_ok Tryd.func14 (by kernel_rfl) (by kernel_rfl) k_rread (by kernel_rfl) (by kernel_rfl) h

end Go.VL

namespace Go.VL

open Go.Proofs

def textB (s : List UInt8) : List UInt8 := beB 2 s.length ++ s

theorem textB_len (s : List UInt8) : (textB s).length = s.length + 2 := by simp [textB, beB_len]; omega

/-- the numbers of a span, as they are put -/
def spanN (s : Sp) : List Nat := [s.tr, s.id, s.st.toNat, s.en.toNat]

def spanB (s : Sp) : List UInt8 := runB (spanN s) ++ textB s.da

theorem spanB_len (s : Sp) : (spanB s).length = s.da.length + 34 := by simp [spanB, runB_len, spanN, textB_len]; omega

def spansB (l : List Sp) : List UInt8 := beB 2 l.length ++ l.flatMap spanB

theorem wtext_ok {l s : List UInt8} {g g' : Ver} {σ : St} (hl : l.length ≤ 1000000000) (hs : s.length ≤ 65535) :
    ACalls Tryd.prog n_wtext [.sl (bytesAV l) g, .sl (bytesAV s) g'] σ (fun v σ' => v = .tup [.sl (bytesAV (l ++ textB s)) .none, .nili] ∧ σ' = σ) := by
  refine s_wtext (fun wf => ?_)
  unfold c_wtext
  have e1 : decide ((s.length : Int) > 65535) = false := decide_eq_false (by omega)
  refine T.seq_k (fun K_h0 h0 => ?_)
  refine T.regi hm ?_
  simp only [↓reduceIte, namesOf, List.any, I.names, aops, aopsI, aopsT, qstep, CPt, qget, Tbl.get, astep, ev, setd, List.set, List.getD, List.getElem?_cons_zero, List.getElem?_cons_succ, List.getElem?_nil, List.cons_append, List.nil_append, List.length_cons, List.length_nil, List.replicate, then_normal, inBlock_normal, Option.getD_some, Option.getD_none, Bool.or_false, Bool.or_true, Bool.true_or, Bool.false_or, Bool.false_eq_true, if_false, if_true, up_zero, Nat.reduceAdd, Nat.reduceSub, binv, ↓opt_def, AV.isAny, AV.cells, ldc, List.map_cons, List.map_nil, St.set_next, St.set_same, St.up_next, Int.natCast_nonneg, lt_len, le_len, Int.toNat_natCast, true_and, and_true, eq_self, reduceCtorEq, decide_true, List.length_singleton, er_int, er_bool, er_str]
  refine h0 _ _ ?_
  try clear h0 K_h0
  refine T.seq_k (fun K_h1 h1 => ?_)
  refine T.seq_k (fun K_h0 h0 => ?_)
  refine T.regi hm ?_
  simp only [↓reduceIte, namesOf, List.any, I.names, aops, aopsI, aopsT, qstep, CPt, qget, Tbl.get, astep, ev, setd, List.set, List.getD, List.getElem?_cons_zero, List.getElem?_cons_succ, List.getElem?_nil, List.cons_append, List.nil_append, List.length_cons, List.length_nil, List.replicate, then_normal, inBlock_normal, Option.getD_some, Option.getD_none, Bool.or_false, Bool.or_true, Bool.true_or, Bool.false_or, Bool.false_eq_true, if_false, if_true, up_zero, Nat.reduceAdd, Nat.reduceSub, binv, ↓opt_def, AV.isAny, AV.cells, ldc, List.map_cons, List.map_nil, St.set_next, St.set_same, St.up_next, Int.natCast_nonneg, lt_len, le_len, Int.toNat_natCast, true_and, and_true, eq_self, reduceCtorEq, decide_true, List.length_singleton, er_int, er_bool, er_str, bytesAV_len, e1]
  refine h0 _ _ ?_
  try clear h0 K_h0
  refine T.cond rfl (fun h => by cases h) (fun _ => T.skip ?_)
  refine h1 _ _ ?_
  try clear h1 K_h1
  have e2 := u64w (n := s.length) (by omega)
  refine T.seq_k (fun K_h1 h1 => ?_)
  refine T.regi hm ?_
  simp only [↓reduceIte, namesOf, List.any, I.names, aops, aopsI, aopsT, qstep, CPt, qget, Tbl.get, astep, ev, setd, List.set, List.getD, List.getElem?_cons_zero, List.getElem?_cons_succ, List.getElem?_nil, List.cons_append, List.nil_append, List.length_cons, List.length_nil, List.replicate, then_normal, inBlock_normal, Option.getD_some, Option.getD_none, Bool.or_false, Bool.or_true, Bool.true_or, Bool.false_or, Bool.false_eq_true, if_false, if_true, up_zero, Nat.reduceAdd, Nat.reduceSub, binv, ↓opt_def, AV.isAny, AV.cells, ldc, List.map_cons, List.map_nil, St.set_next, St.set_same, St.up_next, Int.natCast_nonneg, lt_len, le_len, Int.toNat_natCast, true_and, and_true, eq_self, reduceCtorEq, decide_true, List.length_singleton, er_int, er_bool, er_str, bytesAV_len, e2]
  refine (wput_ok (w := 2) (by omega) rfl (fun _ => by omega)).mono ?_
  rintro v σ1 ⟨h, o1, rfl⟩
  try simp only [↓reduceIte, namesOf, List.any, I.names, aops, aopsI, aopsT, qstep, CPt, qget, Tbl.get, astep, ev, setd, List.set, List.getD, List.getElem?_cons_zero, List.getElem?_cons_succ, List.getElem?_nil, List.cons_append, List.nil_append, List.length_cons, List.length_nil, List.replicate, then_normal, inBlock_normal, Option.getD_some, Option.getD_none, Bool.or_false, Bool.or_true, Bool.true_or, Bool.false_or, Bool.false_eq_true, if_false, if_true, up_zero, Nat.reduceAdd, Nat.reduceSub, binv, ↓opt_def, AV.isAny, AV.cells, ldc, List.map_cons, List.map_nil, St.set_next, St.set_same, St.up_next, Int.natCast_nonneg, lt_len, le_len, Int.toNat_natCast, true_and, and_true, eq_self, reduceCtorEq, decide_true, List.length_singleton, er_int, er_bool, er_str, up_zero]
  refine h1 _ _ ?_
  try clear h1 K_h1
  have hat := (Tq.one o1).ats
  have hle : decide ((l.length + 2 + s.length) * 1 ≤ 70368744177664 ∧ l.length + 2 + s.length ≤ 4611686018427387904) = true := app_le (by omega)
  refine T.seq_k (fun K_h1 h1 => ?_)
  refine T.regi hm ?_
  simp only [↓reduceIte, namesOf, List.any, I.names, aops, aopsI, aopsT, qstep, CPt, qget, Tbl.get, astep, ev, setd, List.set, List.getD, List.getElem?_cons_zero, List.getElem?_cons_succ, List.getElem?_nil, List.cons_append, List.nil_append, List.length_cons, List.length_nil, List.replicate, then_normal, inBlock_normal, Option.getD_some, Option.getD_none, Bool.or_false, Bool.or_true, Bool.true_or, Bool.false_or, Bool.false_eq_true, if_false, if_true, up_zero, Nat.reduceAdd, Nat.reduceSub, binv, ↓opt_def, AV.isAny, AV.cells, ldc, List.map_cons, List.map_nil, St.set_next, St.set_same, St.up_next, Int.natCast_nonneg, lt_len, le_len, Int.toNat_natCast, true_and, and_true, eq_self, reduceCtorEq, decide_true, List.length_singleton, er_int, er_bool, er_str, held, srcOf, bytesAV_er, bytesAV_app, bytes_all, bytesAV_len, List.length_append, Bool.and_self, St.up_res, List.isEmpty, hat, beB_len, hle]
  refine h1 _ _ ?_
  try clear h1 K_h1
  have q := (Tq.one o1).app (n := 6) (i := 2) (by omega)
  refine T.ret (Fin.quietw rfl (Wk.tup2 (Wk.sl _ _)) ⟨⟨nb_bytes _ _, trivial⟩, trivial, trivial⟩ (q.quiet wf) ⟨?_, rfl⟩)
  rw [textB, List.append_assoc]; rfl

theorem mayI_facts {s e n : Int} (h : mayI s e n = true) : 0 ≤ s ∧ s ≤ e ∧ e ≤ 1099511627776 ∧ n ≤ 64 := by
  unfold mayI at h; simpa using h

theorem mayS_facts {s : Sp} (h : mayS s = true) : 0 ≤ s.st ∧ s.st ≤ s.en ∧ s.en ≤ 1099511627776 ∧ s.da.length ≤ 64 := by
  have := mayI_facts h; omega

set_option maxRecDepth 10000 in
set_option maxHeartbeats 1000000 in
theorem sput1_ok {s : Sp} {σ : St} (hm : mayS s = true) :
    ACalls Tryd.prog n_sput1 [.agg [.int .u64 (s.tr : Int), .int .u64 (s.id : Int), .int .i64 s.st, .int .i64 s.en, .sl (bytesAV s.da) .none]] σ (fun v σ' => v = .tup [.sl (bytesAV (spanB s)) .none, .nili] ∧ σ' = σ) := by
  refine s_sput1 (fun wf => ?_)
  unfold c_sput1
  obtain ⟨m1, m2, m3, m4⟩ := mayS_facts hm
  have hm := VL.hm
  refine T.seq_k (fun K_h1 h1 => ?_)
  refine T.regi hm ?_
  simp only [↓reduceIte, namesOf, List.any, I.names, aops, aopsI, aopsT, qstep, CPt, qget, Tbl.get, astep, ev, setd, List.set, List.getD, List.getElem?_cons_zero, List.getElem?_cons_succ, List.getElem?_nil, List.cons_append, List.nil_append, List.length_cons, List.length_nil, List.replicate, then_normal, inBlock_normal, Option.getD_some, Option.getD_none, Bool.or_false, Bool.or_true, Bool.true_or, Bool.false_or, Bool.false_eq_true, if_false, if_true, up_zero, Nat.reduceAdd, Nat.reduceSub, binv, ↓opt_def, AV.isAny, AV.cells, ldc, List.map_cons, List.map_nil, St.set_next, St.set_same, St.up_next, Int.natCast_nonneg, lt_len, le_len, Int.toNat_natCast, true_and, and_true, eq_self, reduceCtorEq, decide_true, List.length_singleton, er_int, er_bool, er_str]
  have k0 : Like σ ((σ.up 3).set (σ.next + 0) (.obj [.int .u64 (s.tr : Int), .int .u64 (s.id : Int), .int .i64 s.st, .int .i64 s.en, .sl (bytesAV s.da) .none])) := (Like.refl σ).box _
  have hb : ((σ.up 3).set (σ.next + 0) (.obj [.int .u64 (s.tr : Int), .int .u64 (s.id : Int), .int .i64 s.st, .int .i64 s.en, .sl (bytesAV s.da) .none])).res (σ.next + 0) = some (.obj [.int .u64 (s.tr : Int), .int .u64 (s.id : Int), .int .i64 s.st, .int .i64 s.en, .sl (bytesAV s.da) .none]) := by simp
  generalize ((σ.up 3).set (σ.next + 0) (.obj [.int .u64 (s.tr : Int), .int .u64 (s.id : Int), .int .i64 s.st, .int .i64 s.en, .sl (bytesAV s.da) .none])) = τ at k0 hb ⊢
  generalize σ.next + 0 = a at hb ⊢
  refine h1 _ _ ?_
  try clear h1 K_h1
  refine T.seq_k (fun K_h0 h0 => ?_)
  refine T.regi hm ?_
  simp only [↓reduceIte, namesOf, List.any, I.names, aops, aopsI, aopsT, qstep, CPt, qget, Tbl.get, astep, ev, setd, List.set, List.getD, List.getElem?_cons_zero, List.getElem?_cons_succ, List.getElem?_nil, List.cons_append, List.nil_append, List.length_cons, List.length_nil, List.replicate, then_normal, inBlock_normal, Option.getD_some, Option.getD_none, Bool.or_false, Bool.or_true, Bool.true_or, Bool.false_or, Bool.false_eq_true, if_false, if_true, up_zero, Nat.reduceAdd, Nat.reduceSub, binv, ↓opt_def, AV.isAny, AV.cells, ldc, List.map_cons, List.map_nil, St.set_next, St.set_same, St.up_next, Int.natCast_nonneg, lt_len, le_len, Int.toNat_natCast, true_and, and_true, eq_self, reduceCtorEq, decide_true, List.length_singleton, er_int, er_bool, er_str]
  refine h0 _ _ ?_
  try clear h0 K_h0
  refine T.seq_k (fun K_h1 h1 => ?_)
  have e1 : IntKind.u64.wrap s.st = ((s.st.toNat : Nat) : Int) := by
    have := u64w (n := s.st.toNat) (by omega)
    rw [Int.toNat_of_nonneg m1] at this
    rw [this, Int.toNat_of_nonneg m1]
  have e2 : IntKind.u64.wrap s.en = ((s.en.toNat : Nat) : Int) := by
    have := u64w (n := s.en.toNat) (by omega)
    rw [Int.toNat_of_nonneg (by omega)] at this
    rw [this, Int.toNat_of_nonneg (by omega)]
  have hn : [AV.int .u64 (s.tr : Int), .int .u64 (s.id : Int), .int .u64 ((s.st.toNat : Nat) : Int), .int .u64 ((s.en.toNat : Nat) : Int)] = nums .u64 (natI (spanN s)) := rfl
  have hnl : (nums .u64 (natI (spanN s))).length = 4 := rfl
  refine T.seq_k (fun K_h0 h0 => ?_)
  refine T.regi hm ?_
  simp only [↓reduceIte, namesOf, List.any, I.names, aops, aopsI, aopsT, qstep, CPt, qget, Tbl.get, astep, ev, setd, List.set, List.getD, List.getElem?_cons_zero, List.getElem?_cons_succ, List.getElem?_nil, List.cons_append, List.nil_append, List.length_cons, List.length_nil, List.replicate, then_normal, inBlock_normal, Option.getD_some, Option.getD_none, Bool.or_false, Bool.or_true, Bool.true_or, Bool.false_or, Bool.false_eq_true, if_false, if_true, up_zero, Nat.reduceAdd, Nat.reduceSub, binv, ↓opt_def, AV.isAny, AV.cells, ldc, List.map_cons, List.map_nil, St.set_next, St.set_same, St.up_next, Int.natCast_nonneg, lt_len, le_len, Int.toNat_natCast, true_and, and_true, eq_self, reduceCtorEq, decide_true, List.length_singleton, er_int, er_bool, er_str, hb, e1, e2, held, hn, AV.fits, AV.one, List.all_cons, List.all_nil, Nat.reduceBEq, Bool.and_true, Bool.not_false, Bool.and_self, Nat.zero_add, splice, List.take, List.drop, Nat.reduceLeDiff]
  refine h0 _ _ ?_
  try clear h0 K_h0
  refine T.block ?_
  refine T.gh (Gh.keep [1, 4, 19, 20, 21]) ?_
  refine T.loopi (fun i ρ t => t = τ ∧ ∃ v, ρ = [.any, .ptr a 0, .any, .any, .sl (bytesAV (runB ((spanN s).take i))) v] ++ List.replicate 14 .any ++ [.sl (nums .u64 (natI (spanN s))) .none, .int .i64 4, .int .i64 (i : Int)] ++ List.replicate 20 .any)
    4 0 (Nat.zero_le _) ⟨rfl, .nil, rfl⟩ ?_
  rintro i ρ t hi ⟨rfl, v, rfl⟩
  refine T.seq_k (fun K_h0 h0 => ?_)
  refine T.regi hm ?_
  simp only [↓reduceIte, namesOf, List.any, I.names, aops, aopsI, aopsT, qstep, CPt, qget, Tbl.get, astep, ev, setd, List.set, List.getD, List.getElem?_cons_zero, List.getElem?_cons_succ, List.getElem?_nil, List.cons_append, List.nil_append, List.length_cons, List.length_nil, List.replicate, then_normal, inBlock_normal, Option.getD_some, Option.getD_none, Bool.or_false, Bool.or_true, Bool.true_or, Bool.false_or, Bool.false_eq_true, if_false, if_true, up_zero, Nat.reduceAdd, Nat.reduceSub, binv, ↓opt_def, AV.isAny, AV.cells, ldc, List.map_cons, List.map_nil, St.set_next, St.set_same, St.up_next, Int.natCast_nonneg, lt_len, le_len, Int.toNat_natCast, true_and, and_true, eq_self, reduceCtorEq, decide_true, List.length_singleton, er_int, er_bool, er_str]
  refine h0 _ _ ?_
  try clear h0 K_h0
  refine T.seq_k (fun K_h2 h2 => ?_)
  by_cases hil : i < 4
  case neg =>
    have : i = 4 := by omega
    subst this
    refine T.cond (b := false) (by simp [ev]) (fun h => by cases h) (fun _ => T.exit ?_)
    try simp only [↓reduceIte, namesOf, List.any, I.names, aops, aopsI, aopsT, qstep, CPt, qget, Tbl.get, astep, ev, setd, List.set, List.getD, List.getElem?_cons_zero, List.getElem?_cons_succ, List.getElem?_nil, List.cons_append, List.nil_append, List.length_cons, List.length_nil, List.replicate, then_normal, inBlock_normal, Option.getD_some, Option.getD_none, Bool.or_false, Bool.or_true, Bool.true_or, Bool.false_or, Bool.false_eq_true, if_false, if_true, up_zero, Nat.reduceAdd, Nat.reduceSub, binv, ↓opt_def, AV.isAny, AV.cells, ldc, List.map_cons, List.map_nil, St.set_next, St.set_same, St.up_next, Int.natCast_nonneg, lt_len, le_len, Int.toNat_natCast, true_and, and_true, eq_self, reduceCtorEq, decide_true, List.length_singleton, er_int, er_bool, er_str, inBlock_exit, then_exit]
    refine h1 _ _ ?_
    try clear h1 K_h1
    refine T.seq_k (fun K_h1 h1 => ?_)
    have ht : (spanN s).take 4 = spanN s := rfl
    rw [ht]
    refine T.regi hm ?_
    simp only [↓reduceIte, namesOf, List.any, I.names, aops, aopsI, aopsT, qstep, CPt, qget, Tbl.get, astep, ev, setd, List.set, List.getD, List.getElem?_cons_zero, List.getElem?_cons_succ, List.getElem?_nil, List.cons_append, List.nil_append, List.length_cons, List.length_nil, List.replicate, then_normal, inBlock_normal, Option.getD_some, Option.getD_none, Bool.or_false, Bool.or_true, Bool.true_or, Bool.false_or, Bool.false_eq_true, if_false, if_true, up_zero, Nat.reduceAdd, Nat.reduceSub, binv, ↓opt_def, AV.isAny, AV.cells, ldc, List.map_cons, List.map_nil, St.set_next, St.set_same, St.up_next, Int.natCast_nonneg, lt_len, le_len, Int.toNat_natCast, true_and, and_true, eq_self, reduceCtorEq, decide_true, List.length_singleton, er_int, er_bool, er_str, hb]
    refine (wtext_ok (by rw [runB_len]; simp [spanN]) (by omega)).mono ?_
    rintro w t2 ⟨rfl, rfl⟩
    try simp only [↓reduceIte, namesOf, List.any, I.names, aops, aopsI, aopsT, qstep, CPt, qget, Tbl.get, astep, ev, setd, List.set, List.getD, List.getElem?_cons_zero, List.getElem?_cons_succ, List.getElem?_nil, List.cons_append, List.nil_append, List.length_cons, List.length_nil, List.replicate, then_normal, inBlock_normal, Option.getD_some, Option.getD_none, Bool.or_false, Bool.or_true, Bool.true_or, Bool.false_or, Bool.false_eq_true, if_false, if_true, up_zero, Nat.reduceAdd, Nat.reduceSub, binv, ↓opt_def, AV.isAny, AV.cells, ldc, List.map_cons, List.map_nil, St.set_next, St.set_same, St.up_next, Int.natCast_nonneg, lt_len, le_len, Int.toNat_natCast, true_and, and_true, eq_self, reduceCtorEq, decide_true, List.length_singleton, er_int, er_bool, er_str, up_zero]
    refine h1 _ _ ?_
    try clear h1 K_h1
    exact T.ret (Fin.quiet rfl ⟨⟨nb_bytes _ _, trivial⟩, trivial, trivial⟩ (k0.quiet wf) ⟨rfl, rfl⟩)
  refine T.cond (b := true) (by simp [ev]; omega) (fun _ => T.skip ?_) (fun h => by cases h)
  refine h2 _ _ ?_
  try clear h2 K_h2
  have hiw := inc64' hil (by omega)
  have hil' : i < (spanN s).length := hil
  have hg := natI_get hil'
  have htk := runB_take hil'
  have hlen : (runB ((spanN s).take i)).length ≤ 1000 := by rw [runB_len, List.length_take]; omega
  have hilI : (i : Int) < ((4 : Nat) : Int) := by omega
  refine T.seq_k (fun K_h2 h2 => ?_)
  refine T.block ?_
  refine T.seq_k (fun K_h0 h0 => ?_)
  refine T.regi hm ?_
  simp only [↓reduceIte, namesOf, List.any, I.names, aops, aopsI, aopsT, qstep, CPt, qget, Tbl.get, astep, ev, setd, List.set, List.getD, List.getElem?_cons_zero, List.getElem?_cons_succ, List.getElem?_nil, List.cons_append, List.nil_append, List.length_cons, List.length_nil, List.replicate, then_normal, inBlock_normal, Option.getD_some, Option.getD_none, Bool.or_false, Bool.or_true, Bool.true_or, Bool.false_or, Bool.false_eq_true, if_false, if_true, up_zero, Nat.reduceAdd, Nat.reduceSub, binv, ↓opt_def, AV.isAny, AV.cells, ldc, List.map_cons, List.map_nil, St.set_next, St.set_same, St.up_next, Int.natCast_nonneg, lt_len, le_len, Int.toNat_natCast, true_and, and_true, eq_self, reduceCtorEq, decide_true, List.length_singleton, er_int, er_bool, er_str, hnl, hg, hilI]
  refine h0 _ _ ?_
  try clear h0 K_h0
  refine T.seq_k (fun K_h3 h3 => ?_)
  refine T.regi hm ?_
  simp only [↓reduceIte, namesOf, List.any, I.names, aops, aopsI, aopsT, qstep, CPt, qget, Tbl.get, astep, ev, setd, List.set, List.getD, List.getElem?_cons_zero, List.getElem?_cons_succ, List.getElem?_nil, List.cons_append, List.nil_append, List.length_cons, List.length_nil, List.replicate, then_normal, inBlock_normal, Option.getD_some, Option.getD_none, Bool.or_false, Bool.or_true, Bool.true_or, Bool.false_or, Bool.false_eq_true, if_false, if_true, up_zero, Nat.reduceAdd, Nat.reduceSub, binv, ↓opt_def, AV.isAny, AV.cells, ldc, List.map_cons, List.map_nil, St.set_next, St.set_same, St.up_next, Int.natCast_nonneg, lt_len, le_len, Int.toNat_natCast, true_and, and_true, eq_self, reduceCtorEq, decide_true, List.length_singleton, er_int, er_bool, er_str]
  refine (wput_q (w := 8) (by omega) rfl (fun h => by omega)).mono ?_
  rintro w t2 ⟨rfl, rfl⟩
  rw [← htk]
  try simp only [↓reduceIte, namesOf, List.any, I.names, aops, aopsI, aopsT, qstep, CPt, qget, Tbl.get, astep, ev, setd, List.set, List.getD, List.getElem?_cons_zero, List.getElem?_cons_succ, List.getElem?_nil, List.cons_append, List.nil_append, List.length_cons, List.length_nil, List.replicate, then_normal, inBlock_normal, Option.getD_some, Option.getD_none, Bool.or_false, Bool.or_true, Bool.true_or, Bool.false_or, Bool.false_eq_true, if_false, if_true, up_zero, Nat.reduceAdd, Nat.reduceSub, binv, ↓opt_def, AV.isAny, AV.cells, ldc, List.map_cons, List.map_nil, St.set_next, St.set_same, St.up_next, Int.natCast_nonneg, lt_len, le_len, Int.toNat_natCast, true_and, and_true, eq_self, reduceCtorEq, decide_true, List.length_singleton, er_int, er_bool, er_str, up_zero]
  refine h3 _ _ ?_
  try clear h3 K_h3
  refine T.seq_k (fun K_h3 h3 => ?_)
  refine T.seq_k (fun K_h0 h0 => ?_)
  refine T.regi hm ?_
  simp only [↓reduceIte, namesOf, List.any, I.names, aops, aopsI, aopsT, qstep, CPt, qget, Tbl.get, astep, ev, setd, List.set, List.getD, List.getElem?_cons_zero, List.getElem?_cons_succ, List.getElem?_nil, List.cons_append, List.nil_append, List.length_cons, List.length_nil, List.replicate, then_normal, inBlock_normal, Option.getD_some, Option.getD_none, Bool.or_false, Bool.or_true, Bool.true_or, Bool.false_or, Bool.false_eq_true, if_false, if_true, up_zero, Nat.reduceAdd, Nat.reduceSub, binv, ↓opt_def, AV.isAny, AV.cells, ldc, List.map_cons, List.map_nil, St.set_next, St.set_same, St.up_next, Int.natCast_nonneg, lt_len, le_len, Int.toNat_natCast, true_and, and_true, eq_self, reduceCtorEq, decide_true, List.length_singleton, er_int, er_bool, er_str, eqIv, bne_self_eq_false]
  refine h0 _ _ ?_
  try clear h0 K_h0
  refine T.cond rfl (fun h => by cases h) (fun _ => T.skip ?_)
  refine h3 _ _ ?_
  try clear h3 K_h3
  refine T.regi hm ?_
  simp only [↓reduceIte, namesOf, List.any, I.names, aops, aopsI, aopsT, qstep, CPt, qget, Tbl.get, astep, ev, setd, List.set, List.getD, List.getElem?_cons_zero, List.getElem?_cons_succ, List.getElem?_nil, List.cons_append, List.nil_append, List.length_cons, List.length_nil, List.replicate, then_normal, inBlock_normal, Option.getD_some, Option.getD_none, Bool.or_false, Bool.or_true, Bool.true_or, Bool.false_or, Bool.false_eq_true, if_false, if_true, up_zero, Nat.reduceAdd, Nat.reduceSub, binv, ↓opt_def, AV.isAny, AV.cells, ldc, List.map_cons, List.map_nil, St.set_next, St.set_same, St.up_next, Int.natCast_nonneg, lt_len, le_len, Int.toNat_natCast, true_and, and_true, eq_self, reduceCtorEq, decide_true, List.length_singleton, er_int, er_bool, er_str]
  refine h2 _ _ ?_
  try clear h2 K_h2
  refine T.regi hm ?_
  simp only [↓reduceIte, namesOf, List.any, I.names, aops, aopsI, aopsT, qstep, CPt, qget, Tbl.get, astep, ev, setd, List.set, List.getD, List.getElem?_cons_zero, List.getElem?_cons_succ, List.getElem?_nil, List.cons_append, List.nil_append, List.length_cons, List.length_nil, List.replicate, then_normal, inBlock_normal, Option.getD_some, Option.getD_none, Bool.or_false, Bool.or_true, Bool.true_or, Bool.false_or, Bool.false_eq_true, if_false, if_true, up_zero, Nat.reduceAdd, Nat.reduceSub, binv, ↓opt_def, AV.isAny, AV.cells, ldc, List.map_cons, List.map_nil, St.set_next, St.set_same, St.up_next, Int.natCast_nonneg, lt_len, le_len, Int.toNat_natCast, true_and, and_true, eq_self, reduceCtorEq, decide_true, List.length_singleton, er_int, er_bool, er_str, hiw]
  exact ⟨hil, _, _, Gh.keep [1, 4, 19, 20, 21], rfl, .none, rfl⟩

end Go.VL

namespace Go.VL

open Go.Proofs

/-- where a text can't be read -/
def rXbad (l : List UInt8) (s : Rs) : Bool := decide ((rN l s 2).bad ≠ -1) || decide ((rW l s 2 : Int) > l.length - (rN l s 2).at_)

/-- a text -/
def rX (l : List UInt8) (s : Rs) : List UInt8 := if rXbad l s then [] else (l.drop (rN l s 2).at_.toNat).take (rW l s 2)

/-- the reader behind it -/
def rXN (l : List UInt8) (s : Rs) : Rs := if (rN l s 2).bad ≠ -1 then rN l s 2 else if (rW l s 2 : Int) > l.length - (rN l s 2).at_ then ⟨s.at_, s.at_⟩ else ⟨(rN l s 2).at_ + rW l s 2, -1⟩

theorem rXN_ok {l : List UInt8} {s : Rs} (h : s.ok l) : (rXN l s).ok l := by
  have h2 := rN_ok (w := 2) h
  unfold rXN
  split
  · exact h2
  · rename_i hb
    have hb' : (rN l s 2).bad = -1 := by simpa using hb
    split
    · obtain ⟨⟨a1, a2, a3⟩, _⟩ := h
      exact ⟨⟨a1, a2, a3⟩, .inr a2⟩
    · obtain ⟨⟨a1, a2, a3⟩, _⟩ := h2
      exact ⟨⟨a1, by simp only; omega, by simp only; omega⟩, .inl rfl⟩

theorem rX_len {l : List UInt8} {s : Rs} (h : s.ok l) : (rX l s).length ≤ 65535 := by
  have := rW_lt (w := 2) h
  unfold rX
  split
  · simp
  · rw [List.length_take]; omega

set_option maxRecDepth 10000 in
set_option maxHeartbeats 1000000 in
theorem wtextR_ok {l : List UInt8} {s : Rs} {n : Nat} {σ : St} (hd : s.ok l) (hr : σ.res n = some (rdS l .none s)) :
    ACalls Tryd.prog n_wtextR [.ptr n 0, .int .i64 65535] σ (fun v σ' => v = .sl (bytesAV (rX l s)) .none ∧ σ' = σ.set n (rdS l .none (rXN l s))) := by
  refine s_wtextR (fun wf => ?_)
  unfold c_wtextR
  have hr' : σ.res n = some (.obj [.sl (bytesAV l) .none, .int .i64 s.at_, .int .i64 s.bad]) := hr
  have h2 := rN_ok (w := 2) hd
  have hN := rW_lt (w := 2) hd
  have eN : IntKind.i64.wrap (rW l s 2 : Int) = (rW l s 2 : Int) := wrap64 (by omega) (by omega)
  obtain ⟨⟨b1, b2, b3⟩, b4⟩ := h2
  have hn0 := wf.lt hr
  refine T.seq_k (fun K_h0 h0 => ?_)
  refine T.regi hm ?_
  simp only [↓reduceIte, namesOf, List.any, I.names, aops, aopsI, aopsT, qstep, CPt, qget, Tbl.get, astep, ev, setd, List.set, List.getD, List.getElem?_cons_zero, List.getElem?_cons_succ, List.getElem?_nil, List.cons_append, List.nil_append, List.length_cons, List.length_nil, List.replicate, then_normal, inBlock_normal, Option.getD_some, Option.getD_none, Bool.or_false, Bool.or_true, Bool.true_or, Bool.false_or, Bool.false_eq_true, if_false, if_true, up_zero, Nat.reduceAdd, Nat.reduceSub, binv, ↓opt_def, AV.isAny, AV.cells, ldc, List.map_cons, List.map_nil, St.set_next, St.set_same, St.up_next, Int.natCast_nonneg, lt_len, le_len, Int.toNat_natCast, true_and, and_true, eq_self, reduceCtorEq, decide_true, List.length_singleton, er_int, er_bool, er_str]
  refine h0 _ _ ?_
  try clear h0 K_h0
  refine T.seq_k (fun K_h0 h0 => ?_)
  refine T.regi hm ?_
  simp only [↓reduceIte, namesOf, List.any, I.names, aops, aopsI, aopsT, qstep, CPt, qget, Tbl.get, astep, ev, setd, List.set, List.getD, List.getElem?_cons_zero, List.getElem?_cons_succ, List.getElem?_nil, List.cons_append, List.nil_append, List.length_cons, List.length_nil, List.replicate, then_normal, inBlock_normal, Option.getD_some, Option.getD_none, Bool.or_false, Bool.or_true, Bool.true_or, Bool.false_or, Bool.false_eq_true, if_false, if_true, up_zero, Nat.reduceAdd, Nat.reduceSub, binv, ↓opt_def, AV.isAny, AV.cells, ldc, List.map_cons, List.map_nil, St.set_next, St.set_same, St.up_next, Int.natCast_nonneg, lt_len, le_len, Int.toNat_natCast, true_and, and_true, eq_self, reduceCtorEq, decide_true, List.length_singleton, er_int, er_bool, er_str, hr']
  refine h0 _ _ ?_
  try clear h0 K_h0
  refine T.seq_k (fun K_h1 h1 => ?_)
  refine T.regi hm ?_
  simp only [↓reduceIte, namesOf, List.any, I.names, aops, aopsI, aopsT, qstep, CPt, qget, Tbl.get, astep, ev, setd, List.set, List.getD, List.getElem?_cons_zero, List.getElem?_cons_succ, List.getElem?_nil, List.cons_append, List.nil_append, List.length_cons, List.length_nil, List.replicate, then_normal, inBlock_normal, Option.getD_some, Option.getD_none, Bool.or_false, Bool.or_true, Bool.true_or, Bool.false_or, Bool.false_eq_true, if_false, if_true, up_zero, Nat.reduceAdd, Nat.reduceSub, binv, ↓opt_def, AV.isAny, AV.cells, ldc, List.map_cons, List.map_nil, St.set_next, St.set_same, St.up_next, Int.natCast_nonneg, lt_len, le_len, Int.toNat_natCast, true_and, and_true, eq_self, reduceCtorEq, decide_true, List.length_singleton, er_int, er_bool, er_str]
  refine (wwordF hd rfl hr).mono ?_
  rintro v σ1 ⟨rfl, rfl⟩
  try simp only [↓reduceIte, namesOf, List.any, I.names, aops, aopsI, aopsT, qstep, CPt, qget, Tbl.get, astep, ev, setd, List.set, List.getD, List.getElem?_cons_zero, List.getElem?_cons_succ, List.getElem?_nil, List.cons_append, List.nil_append, List.length_cons, List.length_nil, List.replicate, then_normal, inBlock_normal, Option.getD_some, Option.getD_none, Bool.or_false, Bool.or_true, Bool.true_or, Bool.false_or, Bool.false_eq_true, if_false, if_true, up_zero, Nat.reduceAdd, Nat.reduceSub, binv, ↓opt_def, AV.isAny, AV.cells, ldc, List.map_cons, List.map_nil, St.set_next, St.set_same, St.up_next, Int.natCast_nonneg, lt_len, le_len, Int.toNat_natCast, true_and, and_true, eq_self, reduceCtorEq, decide_true, List.length_singleton, er_int, er_bool, er_str, up_zero, eN]
  refine h1 _ _ ?_
  try clear h1 K_h1
  generalize hS : rN l s 2 = s2 at b2 b3 b4
  generalize hM : rW l s 2 = m at hN
  have hr2 : (σ.set n (rdS l .none s2)).res n = some (.obj [.sl (bytesAV l) .none, .int .i64 s2.at_, .int .i64 s2.bad]) := St.set_same _ _ _
  have hr2' : (σ.set n (rdS l .none s2)).res n = some (rdS l .none s2) := St.set_same _ _ _
  generalize hσ2 : σ.set n (rdS l .none s2) = t2 at hr2 hr2' ⊢
  have hXb : rXbad l s = (decide (s2.bad ≠ -1) || decide ((m : Int) > l.length - s2.at_)) := by unfold rXbad; rw [hS, hM]
  have hXN : rXN l s = if s2.bad ≠ -1 then s2 else if (m : Int) > l.length - s2.at_ then ⟨s.at_, s.at_⟩ else ⟨s2.at_ + m, -1⟩ := by unfold rXN; rw [hS, hM]
  have hX : rX l s = if rXbad l s then [] else (l.drop s2.at_.toNat).take m := by unfold rX; rw [hS, hM]
  have e1 : decide ((m : Int) > 65535) = false := decide_eq_false (by omega)
  refine T.seq_k (fun K_h1 h1 => ?_)
  by_cases hbad : s2.bad = -1
  case neg =>
    have e2 : (s2.bad == -1) = false := by simpa using hbad
    have e3 : (s2.bad != -1) = true := by simpa using hbad
    refine T.seq_k (fun K_h0 h0 => ?_)
    refine T.regi hm ?_
    simp only [↓reduceIte, namesOf, List.any, I.names, aops, aopsI, aopsT, qstep, CPt, qget, Tbl.get, astep, ev, setd, List.set, List.getD, List.getElem?_cons_zero, List.getElem?_cons_succ, List.getElem?_nil, List.cons_append, List.nil_append, List.length_cons, List.length_nil, List.replicate, then_normal, inBlock_normal, Option.getD_some, Option.getD_none, Bool.or_false, Bool.or_true, Bool.true_or, Bool.false_or, Bool.false_eq_true, if_false, if_true, up_zero, Nat.reduceAdd, Nat.reduceSub, binv, ↓opt_def, AV.isAny, AV.cells, ldc, List.map_cons, List.map_nil, St.set_next, St.set_same, St.up_next, Int.natCast_nonneg, lt_len, le_len, Int.toNat_natCast, true_and, and_true, eq_self, reduceCtorEq, decide_true, List.length_singleton, er_int, er_bool, er_str, hr2, e2]
    refine h0 _ _ ?_
    try clear h0 K_h0
    refine T.cond rfl (fun h => by cases h) (fun _ => T.skip ?_)
    refine h1 _ _ ?_
    try clear h1 K_h1
    refine T.seq_k (fun K_h1 h1 => ?_)
    refine T.seq_k (fun K_h0 h0 => ?_)
    refine T.regi hm ?_
    simp only [↓reduceIte, namesOf, List.any, I.names, aops, aopsI, aopsT, qstep, CPt, qget, Tbl.get, astep, ev, setd, List.set, List.getD, List.getElem?_cons_zero, List.getElem?_cons_succ, List.getElem?_nil, List.cons_append, List.nil_append, List.length_cons, List.length_nil, List.replicate, then_normal, inBlock_normal, Option.getD_some, Option.getD_none, Bool.or_false, Bool.or_true, Bool.true_or, Bool.false_or, Bool.false_eq_true, if_false, if_true, up_zero, Nat.reduceAdd, Nat.reduceSub, binv, ↓opt_def, AV.isAny, AV.cells, ldc, List.map_cons, List.map_nil, St.set_next, St.set_same, St.up_next, Int.natCast_nonneg, lt_len, le_len, Int.toNat_natCast, true_and, and_true, eq_self, reduceCtorEq, decide_true, List.length_singleton, er_int, er_bool, er_str, hr2, e3]
    refine h0 _ _ ?_
    try clear h0 K_h0
    refine T.cond rfl (fun _ => ?_) (fun h => by cases h)
    refine T.seq_k (fun K_h0 h0 => ?_)
    refine T.regi hm ?_
    simp only [↓reduceIte, namesOf, List.any, I.names, aops, aopsI, aopsT, qstep, CPt, qget, Tbl.get, astep, ev, setd, List.set, List.getD, List.getElem?_cons_zero, List.getElem?_cons_succ, List.getElem?_nil, List.cons_append, List.nil_append, List.length_cons, List.length_nil, List.replicate, then_normal, inBlock_normal, Option.getD_some, Option.getD_none, Bool.or_false, Bool.or_true, Bool.true_or, Bool.false_or, Bool.false_eq_true, if_false, if_true, up_zero, Nat.reduceAdd, Nat.reduceSub, binv, ↓opt_def, AV.isAny, AV.cells, ldc, List.map_cons, List.map_nil, St.set_next, St.set_same, St.up_next, Int.natCast_nonneg, lt_len, le_len, Int.toNat_natCast, true_and, and_true, eq_self, reduceCtorEq, decide_true, List.length_singleton, er_int, er_bool, er_str]
    refine h0 _ _ ?_
    try clear h0 K_h0
    have hb' : s2.bad ≠ -1 := hbad
    refine T.ret (Fin.likeset (r := rdS l .none s2) wf rfl (Wk.sl _ _) (by rw [hσ2]; exact .refl _) hr ⟨trivial, trivial⟩ (nb_rd _ _ _ _) ⟨?_, ?_⟩)
    · rw [hX, hXb, decide_eq_true hb']; rfl
    · rw [hXN, if_pos hb']
  have e2 : (s2.bad == -1) = true := by simpa using hbad
  have hb' : ¬ s2.bad ≠ -1 := fun h => h hbad
  by_cases hm2 : (m : Int) > l.length - s2.at_
  · have e3 : decide ((m : Int) > (l.length : Int) - s2.at_) = true := decide_eq_true hm2
    refine T.seq_k (fun K_h0 h0 => ?_)
    refine T.regi hm ?_
    simp only [↓reduceIte, namesOf, List.any, I.names, aops, aopsI, aopsT, qstep, CPt, qget, Tbl.get, astep, ev, setd, List.set, List.getD, List.getElem?_cons_zero, List.getElem?_cons_succ, List.getElem?_nil, List.cons_append, List.nil_append, List.length_cons, List.length_nil, List.replicate, then_normal, inBlock_normal, Option.getD_some, Option.getD_none, Bool.or_false, Bool.or_true, Bool.true_or, Bool.false_or, Bool.false_eq_true, if_false, if_true, up_zero, Nat.reduceAdd, Nat.reduceSub, binv, ↓opt_def, AV.isAny, AV.cells, ldc, List.map_cons, List.map_nil, St.set_next, St.set_same, St.up_next, Int.natCast_nonneg, lt_len, le_len, Int.toNat_natCast, true_and, and_true, eq_self, reduceCtorEq, decide_true, List.length_singleton, er_int, er_bool, er_str, hr2, e2, e1]
    refine (wleft_ok b1 b2 b3 hr2').mono ?_
    rintro v σ2 ⟨rfl, rfl⟩
    try simp only [↓reduceIte, namesOf, List.any, I.names, aops, aopsI, aopsT, qstep, CPt, qget, Tbl.get, astep, ev, setd, List.set, List.getD, List.getElem?_cons_zero, List.getElem?_cons_succ, List.getElem?_nil, List.cons_append, List.nil_append, List.length_cons, List.length_nil, List.replicate, then_normal, inBlock_normal, Option.getD_some, Option.getD_none, Bool.or_false, Bool.or_true, Bool.true_or, Bool.false_or, Bool.false_eq_true, if_false, if_true, up_zero, Nat.reduceAdd, Nat.reduceSub, binv, ↓opt_def, AV.isAny, AV.cells, ldc, List.map_cons, List.map_nil, St.set_next, St.set_same, St.up_next, Int.natCast_nonneg, lt_len, le_len, Int.toNat_natCast, true_and, and_true, eq_self, reduceCtorEq, decide_true, List.length_singleton, er_int, er_bool, er_str, up_zero, e3]
    refine h0 _ _ ?_
    try clear h0 K_h0
    refine T.cond rfl (fun _ => ?_) (fun h => by cases h)
    refine T.seq_k (fun K_h0 h0 => ?_)
    refine T.regi hm ?_
    simp only [↓reduceIte, namesOf, List.any, I.names, aops, aopsI, aopsT, qstep, CPt, qget, Tbl.get, astep, ev, setd, List.set, List.getD, List.getElem?_cons_zero, List.getElem?_cons_succ, List.getElem?_nil, List.cons_append, List.nil_append, List.length_cons, List.length_nil, List.replicate, then_normal, inBlock_normal, Option.getD_some, Option.getD_none, Bool.or_false, Bool.or_true, Bool.true_or, Bool.false_or, Bool.false_eq_true, if_false, if_true, up_zero, Nat.reduceAdd, Nat.reduceSub, binv, ↓opt_def, AV.isAny, AV.cells, ldc, List.map_cons, List.map_nil, St.set_next, St.set_same, St.up_next, Int.natCast_nonneg, lt_len, le_len, Int.toNat_natCast, true_and, and_true, eq_self, reduceCtorEq, decide_true, List.length_singleton, er_int, er_bool, er_str, hr2, AV.fits, AV.one, List.all_cons, List.all_nil, Nat.reduceBEq, Bool.and_true, Bool.not_false, Bool.and_self, Nat.zero_add, splice, List.take, List.drop, Nat.reduceLeDiff, St.set_set]
    refine h0 _ _ ?_
    try clear h0 K_h0
    refine T.regi hm ?_
    simp only [↓reduceIte, namesOf, List.any, I.names, aops, aopsI, aopsT, qstep, CPt, qget, Tbl.get, astep, ev, setd, List.set, List.getD, List.getElem?_cons_zero, List.getElem?_cons_succ, List.getElem?_nil, List.cons_append, List.nil_append, List.length_cons, List.length_nil, List.replicate, then_normal, inBlock_normal, Option.getD_some, Option.getD_none, Bool.or_false, Bool.or_true, Bool.true_or, Bool.false_or, Bool.false_eq_true, if_false, if_true, up_zero, Nat.reduceAdd, Nat.reduceSub, binv, ↓opt_def, AV.isAny, AV.cells, ldc, List.map_cons, List.map_nil, St.set_next, St.set_same, St.up_next, Int.natCast_nonneg, lt_len, le_len, Int.toNat_natCast, true_and, and_true, eq_self, reduceCtorEq, decide_true, List.length_singleton, er_int, er_bool, er_str]
    rw [← hσ2, St.set_set]
    have hr3 : (σ.set n (.obj [.sl (bytesAV l) .none, .int .i64 s.at_, .int .i64 s2.bad])).res n = some (rd l .none s.at_ s2.bad) := St.set_same _ _ _
    generalize hσ3 : σ.set n (.obj [.sl (bytesAV l) .none, .int .i64 s.at_, .int .i64 s2.bad]) = t3 at hr3 ⊢
    refine (wfail_ok hr3).mono ?_
    rintro v σ3 hσ4
    rw [if_pos hbad, ← hσ3, St.set_set] at hσ4
    have hr4 : σ3.res n = some (.obj [.sl (bytesAV l) .none, .int .i64 s.at_, .int .i64 s.at_]) := by rw [hσ4]; exact St.set_same _ _ _
    try simp only [↓reduceIte, namesOf, List.any, I.names, aops, aopsI, aopsT, qstep, CPt, qget, Tbl.get, astep, ev, setd, List.set, List.getD, List.getElem?_cons_zero, List.getElem?_cons_succ, List.getElem?_nil, List.cons_append, List.nil_append, List.length_cons, List.length_nil, List.replicate, then_normal, inBlock_normal, Option.getD_some, Option.getD_none, Bool.or_false, Bool.or_true, Bool.true_or, Bool.false_or, Bool.false_eq_true, if_false, if_true, up_zero, Nat.reduceAdd, Nat.reduceSub, binv, ↓opt_def, AV.isAny, AV.cells, ldc, List.map_cons, List.map_nil, St.set_next, St.set_same, St.up_next, Int.natCast_nonneg, lt_len, le_len, Int.toNat_natCast, true_and, and_true, eq_self, reduceCtorEq, decide_true, List.length_singleton, er_int, er_bool, er_str, up_zero]
    refine h1 _ _ ?_
    try clear h1 K_h1
    refine T.seq_k (fun K_h1 h1 => ?_)
    have e4 : (s.at_ != -1) = true := by have := hd.1.lo; rw [bne_iff_ne]; omega
    refine T.seq_k (fun K_h0 h0 => ?_)
    refine T.regi hm ?_
    simp only [↓reduceIte, namesOf, List.any, I.names, aops, aopsI, aopsT, qstep, CPt, qget, Tbl.get, astep, ev, setd, List.set, List.getD, List.getElem?_cons_zero, List.getElem?_cons_succ, List.getElem?_nil, List.cons_append, List.nil_append, List.length_cons, List.length_nil, List.replicate, then_normal, inBlock_normal, Option.getD_some, Option.getD_none, Bool.or_false, Bool.or_true, Bool.true_or, Bool.false_or, Bool.false_eq_true, if_false, if_true, up_zero, Nat.reduceAdd, Nat.reduceSub, binv, ↓opt_def, AV.isAny, AV.cells, ldc, List.map_cons, List.map_nil, St.set_next, St.set_same, St.up_next, Int.natCast_nonneg, lt_len, le_len, Int.toNat_natCast, true_and, and_true, eq_self, reduceCtorEq, decide_true, List.length_singleton, er_int, er_bool, er_str, hr4, e4]
    refine h0 _ _ ?_
    try clear h0 K_h0
    refine T.cond rfl (fun _ => ?_) (fun h => by cases h)
    refine T.seq_k (fun K_h0 h0 => ?_)
    refine T.regi hm ?_
    simp only [↓reduceIte, namesOf, List.any, I.names, aops, aopsI, aopsT, qstep, CPt, qget, Tbl.get, astep, ev, setd, List.set, List.getD, List.getElem?_cons_zero, List.getElem?_cons_succ, List.getElem?_nil, List.cons_append, List.nil_append, List.length_cons, List.length_nil, List.replicate, then_normal, inBlock_normal, Option.getD_some, Option.getD_none, Bool.or_false, Bool.or_true, Bool.true_or, Bool.false_or, Bool.false_eq_true, if_false, if_true, up_zero, Nat.reduceAdd, Nat.reduceSub, binv, ↓opt_def, AV.isAny, AV.cells, ldc, List.map_cons, List.map_nil, St.set_next, St.set_same, St.up_next, Int.natCast_nonneg, lt_len, le_len, Int.toNat_natCast, true_and, and_true, eq_self, reduceCtorEq, decide_true, List.length_singleton, er_int, er_bool, er_str]
    refine h0 _ _ ?_
    try clear h0 K_h0
    refine T.ret (Fin.likeset (r := rd l .none s.at_ s.at_) wf rfl (Wk.sl _ _) (by rw [hσ4]; exact .refl _) hr ⟨trivial, trivial⟩ (nb_rd _ _ _ _) ⟨?_, ?_⟩)
    · rw [hX, hXb, decide_eq_true hm2, Bool.or_true]; rfl
    · rw [hXN, if_neg hb', if_pos hm2]; rfl
  · have e3 : decide ((m : Int) > (l.length : Int) - s2.at_) = false := decide_eq_false hm2
    refine T.seq_k (fun K_h0 h0 => ?_)
    refine T.regi hm ?_
    simp only [↓reduceIte, namesOf, List.any, I.names, aops, aopsI, aopsT, qstep, CPt, qget, Tbl.get, astep, ev, setd, List.set, List.getD, List.getElem?_cons_zero, List.getElem?_cons_succ, List.getElem?_nil, List.cons_append, List.nil_append, List.length_cons, List.length_nil, List.replicate, then_normal, inBlock_normal, Option.getD_some, Option.getD_none, Bool.or_false, Bool.or_true, Bool.true_or, Bool.false_or, Bool.false_eq_true, if_false, if_true, up_zero, Nat.reduceAdd, Nat.reduceSub, binv, ↓opt_def, AV.isAny, AV.cells, ldc, List.map_cons, List.map_nil, St.set_next, St.set_same, St.up_next, Int.natCast_nonneg, lt_len, le_len, Int.toNat_natCast, true_and, and_true, eq_self, reduceCtorEq, decide_true, List.length_singleton, er_int, er_bool, er_str, hr2, e2, e1]
    refine (wleft_ok b1 b2 b3 hr2').mono ?_
    rintro v σ2 ⟨rfl, rfl⟩
    try simp only [↓reduceIte, namesOf, List.any, I.names, aops, aopsI, aopsT, qstep, CPt, qget, Tbl.get, astep, ev, setd, List.set, List.getD, List.getElem?_cons_zero, List.getElem?_cons_succ, List.getElem?_nil, List.cons_append, List.nil_append, List.length_cons, List.length_nil, List.replicate, then_normal, inBlock_normal, Option.getD_some, Option.getD_none, Bool.or_false, Bool.or_true, Bool.true_or, Bool.false_or, Bool.false_eq_true, if_false, if_true, up_zero, Nat.reduceAdd, Nat.reduceSub, binv, ↓opt_def, AV.isAny, AV.cells, ldc, List.map_cons, List.map_nil, St.set_next, St.set_same, St.up_next, Int.natCast_nonneg, lt_len, le_len, Int.toNat_natCast, true_and, and_true, eq_self, reduceCtorEq, decide_true, List.length_singleton, er_int, er_bool, er_str, up_zero, e3]
    refine h0 _ _ ?_
    try clear h0 K_h0
    refine T.cond rfl (fun h => by cases h) (fun _ => T.skip ?_)
    refine h1 _ _ ?_
    try clear h1 K_h1
    have e4 : (s2.bad != -1) = false := by simpa using hbad
    refine T.seq_k (fun K_h1 h1 => ?_)
    refine T.seq_k (fun K_h0 h0 => ?_)
    refine T.regi hm ?_
    simp only [↓reduceIte, namesOf, List.any, I.names, aops, aopsI, aopsT, qstep, CPt, qget, Tbl.get, astep, ev, setd, List.set, List.getD, List.getElem?_cons_zero, List.getElem?_cons_succ, List.getElem?_nil, List.cons_append, List.nil_append, List.length_cons, List.length_nil, List.replicate, then_normal, inBlock_normal, Option.getD_some, Option.getD_none, Bool.or_false, Bool.or_true, Bool.true_or, Bool.false_or, Bool.false_eq_true, if_false, if_true, up_zero, Nat.reduceAdd, Nat.reduceSub, binv, ↓opt_def, AV.isAny, AV.cells, ldc, List.map_cons, List.map_nil, St.set_next, St.set_same, St.up_next, Int.natCast_nonneg, lt_len, le_len, Int.toNat_natCast, true_and, and_true, eq_self, reduceCtorEq, decide_true, List.length_singleton, er_int, er_bool, er_str, hr2, e4]
    refine h0 _ _ ?_
    try clear h0 K_h0
    refine T.cond rfl (fun h => by cases h) (fun _ => T.skip ?_)
    refine h1 _ _ ?_
    try clear h1 K_h1
    refine T.seq_k (fun K_h1 h1 => ?_)
    refine T.regi hm ?_
    simp only [↓reduceIte, namesOf, List.any, I.names, aops, aopsI, aopsT, qstep, CPt, qget, Tbl.get, astep, ev, setd, List.set, List.getD, List.getElem?_cons_zero, List.getElem?_cons_succ, List.getElem?_nil, List.cons_append, List.nil_append, List.length_cons, List.length_nil, List.replicate, then_normal, inBlock_normal, Option.getD_some, Option.getD_none, Bool.or_false, Bool.or_true, Bool.true_or, Bool.false_or, Bool.false_eq_true, if_false, if_true, up_zero, Nat.reduceAdd, Nat.reduceSub, binv, ↓opt_def, AV.isAny, AV.cells, ldc, List.map_cons, List.map_nil, St.set_next, St.set_same, St.up_next, Int.natCast_nonneg, lt_len, le_len, Int.toNat_natCast, true_and, and_true, eq_self, reduceCtorEq, decide_true, List.length_singleton, er_int, er_bool, er_str, held, List.all_nil]
    have L1 : Like σ2 ((σ2.up 6).set (σ2.next + 0) (Res.tip 1)) := (Like.refl σ2).box _
    have hn2 : n < σ2.next := by rw [← hσ2]; exact hn0
    have u1 : ((σ2.up 6).set (σ2.next + 0) (Res.tip 1)).res n = some (rd l .none s2.at_ s2.bad) := by rw [St.set_other _ _ (by omega)]; exact hr2'
    refine (wtake_ok ⟨b1, b2, b3⟩ (by omega) u1).mono ?_
    rintro v t4 (⟨_, rfl, rfl⟩ | ⟨hno, _⟩)
    case inr => exact absurd ⟨hbad, by omega⟩ hno
    have L2 := L1.put n (rd l .none (s2.at_ + m) s2.bad)
    have L3 : Like (σ2.set n (rd l .none (s2.at_ + m) s2.bad)) (((((σ2.up 6).set (σ2.next + 0) (Res.tip 1)).set n (rd l .none (s2.at_ + m) s2.bad)).del (σ2.next + 0)).set (σ2.next + 4) (.tip 1)) :=
      (L2.del (n := σ2.next + 0) (Nat.le_refl _)).set _ (Nat.le_add_right _ _)
    have u2 : (((σ2.up 6).set (σ2.next + 0) (Res.tip 1)).set n (rd l .none (s2.at_ + m) s2.bad)).res (σ2.next + 0) = some (.tip 1) := by rw [St.set_other _ _ (by omega)]; simp
    have hlen : ((l.drop s2.at_.toNat).take m).length ≤ 65536 := by rw [List.length_take]; omega
    have hle : decide ((0 + ((l.drop s2.at_.toNat).take m).length) * 1 ≤ 70368744177664 ∧ 0 + ((l.drop s2.at_.toNat).take m).length ≤ 4611686018427387904) = true := app_le (by omega)
    generalize hV : (l.drop s2.at_.toNat).take m = V at hlen hle ⊢
    try simp only [↓reduceIte, namesOf, List.any, I.names, aops, aopsI, aopsT, qstep, CPt, qget, Tbl.get, astep, ev, setd, List.set, List.getD, List.getElem?_cons_zero, List.getElem?_cons_succ, List.getElem?_nil, List.cons_append, List.nil_append, List.length_cons, List.length_nil, List.replicate, then_normal, inBlock_normal, Option.getD_some, Option.getD_none, Bool.or_false, Bool.or_true, Bool.true_or, Bool.false_or, Bool.false_eq_true, if_false, if_true, up_zero, Nat.reduceAdd, Nat.reduceSub, binv, ↓opt_def, AV.isAny, AV.cells, ldc, List.map_cons, List.map_nil, St.set_next, St.set_same, St.up_next, Int.natCast_nonneg, lt_len, le_len, Int.toNat_natCast, true_and, and_true, eq_self, reduceCtorEq, decide_true, List.length_singleton, er_int, er_bool, er_str, held, srcOf, bytesAV_er, bytesAV_app, bytes_all, bytesAV_len, List.length_append, Bool.and_self, St.up_res, List.isEmpty, u2, hle]
    refine h1 _ _ ?_
    try clear h1 K_h1
    refine T.ret (Fin.likeset (r := rd l .none (s2.at_ + m) s2.bad) wf rfl (Wk.sl _ _) (by rw [← hσ2, St.set_set] at L3; rw [← hσ2]; exact L3) hr ⟨nb_bytes _ _, trivial⟩ (nb_rd _ _ _ _) ⟨?_, ?_⟩)
    · rw [hX, hXb, decide_eq_false hb', decide_eq_false hm2, ← hV]; rfl
    · rw [hXN, if_neg hb', if_neg hm2, hbad]; rfl

set_option maxRecDepth 10000 in
set_option maxHeartbeats 1000000 in
theorem rtextR_ok {l : List UInt8} {s : Rs} {n : Nat} {σ : St} (hd : s.ok l) (hr : σ.res n = some (rdS l .none s)) :
    ACalls Tryd.prog n_rtextR [.ptr n 0, .int .i64 65535] σ (fun v σ' => v = .sl (bytesAV (rX l s)) .none ∧ σ' = σ.set n (rdS l .none (rXN l s))) := by
  refine s_rtextR (fun wf => ?_)
  unfold c_rtextR
  have hr' : σ.res n = some (.obj [.sl (bytesAV l) .none, .int .i64 s.at_, .int .i64 s.bad]) := hr
  have h2 := rN_ok (w := 2) hd
  have hN := rW_lt (w := 2) hd
  have eN : IntKind.i64.wrap (rW l s 2 : Int) = (rW l s 2 : Int) := wrap64 (by omega) (by omega)
  obtain ⟨⟨b1, b2, b3⟩, b4⟩ := h2
  have hn0 := wf.lt hr
  refine T.seq_k (fun K_h0 h0 => ?_)
  refine T.regi hm ?_
  simp only [↓reduceIte, namesOf, List.any, I.names, aops, aopsI, aopsT, qstep, CPt, qget, Tbl.get, astep, ev, setd, List.set, List.getD, List.getElem?_cons_zero, List.getElem?_cons_succ, List.getElem?_nil, List.cons_append, List.nil_append, List.length_cons, List.length_nil, List.replicate, then_normal, inBlock_normal, Option.getD_some, Option.getD_none, Bool.or_false, Bool.or_true, Bool.true_or, Bool.false_or, Bool.false_eq_true, if_false, if_true, up_zero, Nat.reduceAdd, Nat.reduceSub, binv, ↓opt_def, AV.isAny, AV.cells, ldc, List.map_cons, List.map_nil, St.set_next, St.set_same, St.up_next, Int.natCast_nonneg, lt_len, le_len, Int.toNat_natCast, true_and, and_true, eq_self, reduceCtorEq, decide_true, List.length_singleton, er_int, er_bool, er_str]
  refine h0 _ _ ?_
  try clear h0 K_h0
  refine T.seq_k (fun K_h0 h0 => ?_)
  refine T.regi hm ?_
  simp only [↓reduceIte, namesOf, List.any, I.names, aops, aopsI, aopsT, qstep, CPt, qget, Tbl.get, astep, ev, setd, List.set, List.getD, List.getElem?_cons_zero, List.getElem?_cons_succ, List.getElem?_nil, List.cons_append, List.nil_append, List.length_cons, List.length_nil, List.replicate, then_normal, inBlock_normal, Option.getD_some, Option.getD_none, Bool.or_false, Bool.or_true, Bool.true_or, Bool.false_or, Bool.false_eq_true, if_false, if_true, up_zero, Nat.reduceAdd, Nat.reduceSub, binv, ↓opt_def, AV.isAny, AV.cells, ldc, List.map_cons, List.map_nil, St.set_next, St.set_same, St.up_next, Int.natCast_nonneg, lt_len, le_len, Int.toNat_natCast, true_and, and_true, eq_self, reduceCtorEq, decide_true, List.length_singleton, er_int, er_bool, er_str, hr']
  refine h0 _ _ ?_
  try clear h0 K_h0
  refine T.seq_k (fun K_h1 h1 => ?_)
  refine T.regi hm ?_
  simp only [↓reduceIte, namesOf, List.any, I.names, aops, aopsI, aopsT, qstep, CPt, qget, Tbl.get, astep, ev, setd, List.set, List.getD, List.getElem?_cons_zero, List.getElem?_cons_succ, List.getElem?_nil, List.cons_append, List.nil_append, List.length_cons, List.length_nil, List.replicate, then_normal, inBlock_normal, Option.getD_some, Option.getD_none, Bool.or_false, Bool.or_true, Bool.true_or, Bool.false_or, Bool.false_eq_true, if_false, if_true, up_zero, Nat.reduceAdd, Nat.reduceSub, binv, ↓opt_def, AV.isAny, AV.cells, ldc, List.map_cons, List.map_nil, St.set_next, St.set_same, St.up_next, Int.natCast_nonneg, lt_len, le_len, Int.toNat_natCast, true_and, and_true, eq_self, reduceCtorEq, decide_true, List.length_singleton, er_int, er_bool, er_str]
  refine (rwordF hd rfl hr).mono ?_
  rintro v σ1 ⟨rfl, rfl⟩
  try simp only [↓reduceIte, namesOf, List.any, I.names, aops, aopsI, aopsT, qstep, CPt, qget, Tbl.get, astep, ev, setd, List.set, List.getD, List.getElem?_cons_zero, List.getElem?_cons_succ, List.getElem?_nil, List.cons_append, List.nil_append, List.length_cons, List.length_nil, List.replicate, then_normal, inBlock_normal, Option.getD_some, Option.getD_none, Bool.or_false, Bool.or_true, Bool.true_or, Bool.false_or, Bool.false_eq_true, if_false, if_true, up_zero, Nat.reduceAdd, Nat.reduceSub, binv, ↓opt_def, AV.isAny, AV.cells, ldc, List.map_cons, List.map_nil, St.set_next, St.set_same, St.up_next, Int.natCast_nonneg, lt_len, le_len, Int.toNat_natCast, true_and, and_true, eq_self, reduceCtorEq, decide_true, List.length_singleton, er_int, er_bool, er_str, up_zero, eN]
  refine h1 _ _ ?_
  try clear h1 K_h1
  generalize hS : rN l s 2 = s2 at b2 b3 b4
  generalize hM : rW l s 2 = m at hN
  have hr2 : (σ.set n (rdS l .none s2)).res n = some (.obj [.sl (bytesAV l) .none, .int .i64 s2.at_, .int .i64 s2.bad]) := St.set_same _ _ _
  generalize hσ2 : σ.set n (rdS l .none s2) = t2 at hr2 ⊢
  have hXb : rXbad l s = (decide (s2.bad ≠ -1) || decide ((m : Int) > l.length - s2.at_)) := by unfold rXbad; rw [hS, hM]
  have hXN : rXN l s = if s2.bad ≠ -1 then s2 else if (m : Int) > l.length - s2.at_ then ⟨s.at_, s.at_⟩ else ⟨s2.at_ + m, -1⟩ := by unfold rXN; rw [hS, hM]
  have hX : rX l s = if rXbad l s then [] else (l.drop s2.at_.toNat).take m := by unfold rX; rw [hS, hM]
  have e1 : decide ((m : Int) > 65535) = false := decide_eq_false (by omega)
  refine T.seq_k (fun K_h1 h1 => ?_)
  by_cases hbad : s2.bad = -1
  case neg =>
    have e3 : decide (s2.bad ≥ 0) = true := decide_eq_true (by omega)
    refine T.seq_k (fun K_h0 h0 => ?_)
    refine T.regi hm ?_
    simp only [↓reduceIte, namesOf, List.any, I.names, aops, aopsI, aopsT, qstep, CPt, qget, Tbl.get, astep, ev, setd, List.set, List.getD, List.getElem?_cons_zero, List.getElem?_cons_succ, List.getElem?_nil, List.cons_append, List.nil_append, List.length_cons, List.length_nil, List.replicate, then_normal, inBlock_normal, Option.getD_some, Option.getD_none, Bool.or_false, Bool.or_true, Bool.true_or, Bool.false_or, Bool.false_eq_true, if_false, if_true, up_zero, Nat.reduceAdd, Nat.reduceSub, binv, ↓opt_def, AV.isAny, AV.cells, ldc, List.map_cons, List.map_nil, St.set_next, St.set_same, St.up_next, Int.natCast_nonneg, lt_len, le_len, Int.toNat_natCast, true_and, and_true, eq_self, reduceCtorEq, decide_true, List.length_singleton, er_int, er_bool, er_str, hr2, e3]
    refine h0 _ _ ?_
    try clear h0 K_h0
    refine T.cond rfl (fun _ => ?_) (fun h => by cases h)
    refine T.seq_k (fun K_h0 h0 => ?_)
    refine T.regi hm ?_
    simp only [↓reduceIte, namesOf, List.any, I.names, aops, aopsI, aopsT, qstep, CPt, qget, Tbl.get, astep, ev, setd, List.set, List.getD, List.getElem?_cons_zero, List.getElem?_cons_succ, List.getElem?_nil, List.cons_append, List.nil_append, List.length_cons, List.length_nil, List.replicate, then_normal, inBlock_normal, Option.getD_some, Option.getD_none, Bool.or_false, Bool.or_true, Bool.true_or, Bool.false_or, Bool.false_eq_true, if_false, if_true, up_zero, Nat.reduceAdd, Nat.reduceSub, binv, ↓opt_def, AV.isAny, AV.cells, ldc, List.map_cons, List.map_nil, St.set_next, St.set_same, St.up_next, Int.natCast_nonneg, lt_len, le_len, Int.toNat_natCast, true_and, and_true, eq_self, reduceCtorEq, decide_true, List.length_singleton, er_int, er_bool, er_str]
    refine h0 _ _ ?_
    try clear h0 K_h0
    have hb' : s2.bad ≠ -1 := hbad
    refine T.ret (Fin.likeset (r := rdS l .none s2) wf rfl (Wk.sl _ _) (by rw [hσ2]; exact .refl _) hr ⟨trivial, trivial⟩ (nb_rd _ _ _ _) ⟨?_, ?_⟩)
    · rw [hX, hXb, decide_eq_true hb']; rfl
    · rw [hXN, if_pos hb']
  have e3 : decide (s2.bad ≥ 0) = false := decide_eq_false (by omega)
  have hb' : ¬ s2.bad ≠ -1 := fun h => h hbad
  refine T.seq_k (fun K_h0 h0 => ?_)
  refine T.regi hm ?_
  simp only [↓reduceIte, namesOf, List.any, I.names, aops, aopsI, aopsT, qstep, CPt, qget, Tbl.get, astep, ev, setd, List.set, List.getD, List.getElem?_cons_zero, List.getElem?_cons_succ, List.getElem?_nil, List.cons_append, List.nil_append, List.length_cons, List.length_nil, List.replicate, then_normal, inBlock_normal, Option.getD_some, Option.getD_none, Bool.or_false, Bool.or_true, Bool.true_or, Bool.false_or, Bool.false_eq_true, if_false, if_true, up_zero, Nat.reduceAdd, Nat.reduceSub, binv, ↓opt_def, AV.isAny, AV.cells, ldc, List.map_cons, List.map_nil, St.set_next, St.set_same, St.up_next, Int.natCast_nonneg, lt_len, le_len, Int.toNat_natCast, true_and, and_true, eq_self, reduceCtorEq, decide_true, List.length_singleton, er_int, er_bool, er_str, hr2, e3]
  refine h0 _ _ ?_
  try clear h0 K_h0
  refine T.cond rfl (fun h => by cases h) (fun _ => T.skip ?_)
  refine h1 _ _ ?_
  try clear h1 K_h1
  have e4 : IntKind.i64.wrap (s2.at_ + (m : Int)) = s2.at_ + m := wrap64 (by omega) (by omega)
  refine T.seq_k (fun K_h1 h1 => ?_)
  by_cases hm2 : (m : Int) > l.length - s2.at_
  · have e5 : decide (s2.at_ + (m : Int) > (l.length : Int)) = true := decide_eq_true (by omega)
    refine T.seq_k (fun K_h0 h0 => ?_)
    refine T.regi hm ?_
    simp only [↓reduceIte, namesOf, List.any, I.names, aops, aopsI, aopsT, qstep, CPt, qget, Tbl.get, astep, ev, setd, List.set, List.getD, List.getElem?_cons_zero, List.getElem?_cons_succ, List.getElem?_nil, List.cons_append, List.nil_append, List.length_cons, List.length_nil, List.replicate, then_normal, inBlock_normal, Option.getD_some, Option.getD_none, Bool.or_false, Bool.or_true, Bool.true_or, Bool.false_or, Bool.false_eq_true, if_false, if_true, up_zero, Nat.reduceAdd, Nat.reduceSub, binv, ↓opt_def, AV.isAny, AV.cells, ldc, List.map_cons, List.map_nil, St.set_next, St.set_same, St.up_next, Int.natCast_nonneg, lt_len, le_len, Int.toNat_natCast, true_and, and_true, eq_self, reduceCtorEq, decide_true, List.length_singleton, er_int, er_bool, er_str, hr2, e1, e4, bytesAV_len, e5]
    refine h0 _ _ ?_
    try clear h0 K_h0
    refine T.cond rfl (fun _ => ?_) (fun h => by cases h)
    refine T.seq_k (fun K_h0 h0 => ?_)
    refine T.regi hm ?_
    simp only [↓reduceIte, namesOf, List.any, I.names, aops, aopsI, aopsT, qstep, CPt, qget, Tbl.get, astep, ev, setd, List.set, List.getD, List.getElem?_cons_zero, List.getElem?_cons_succ, List.getElem?_nil, List.cons_append, List.nil_append, List.length_cons, List.length_nil, List.replicate, then_normal, inBlock_normal, Option.getD_some, Option.getD_none, Bool.or_false, Bool.or_true, Bool.true_or, Bool.false_or, Bool.false_eq_true, if_false, if_true, up_zero, Nat.reduceAdd, Nat.reduceSub, binv, ↓opt_def, AV.isAny, AV.cells, ldc, List.map_cons, List.map_nil, St.set_next, St.set_same, St.up_next, Int.natCast_nonneg, lt_len, le_len, Int.toNat_natCast, true_and, and_true, eq_self, reduceCtorEq, decide_true, List.length_singleton, er_int, er_bool, er_str, hr2, AV.fits, AV.one, List.all_cons, List.all_nil, Nat.reduceBEq, Bool.and_true, Bool.not_false, Bool.and_self, Nat.zero_add, splice, List.take, List.drop, Nat.reduceLeDiff]
    refine h0 _ _ ?_
    try clear h0 K_h0
    have hr3 : (t2.set n (.obj [.sl (bytesAV l) .none, .int .i64 s.at_, .int .i64 s2.bad])).res n = some (.obj [.sl (bytesAV l) .none, .int .i64 s.at_, .int .i64 s2.bad]) := St.set_same _ _ _
    refine T.seq_k (fun K_h0 h0 => ?_)
    refine T.regi hm ?_
    simp only [↓reduceIte, namesOf, List.any, I.names, aops, aopsI, aopsT, qstep, CPt, qget, Tbl.get, astep, ev, setd, List.set, List.getD, List.getElem?_cons_zero, List.getElem?_cons_succ, List.getElem?_nil, List.cons_append, List.nil_append, List.length_cons, List.length_nil, List.replicate, then_normal, inBlock_normal, Option.getD_some, Option.getD_none, Bool.or_false, Bool.or_true, Bool.true_or, Bool.false_or, Bool.false_eq_true, if_false, if_true, up_zero, Nat.reduceAdd, Nat.reduceSub, binv, ↓opt_def, AV.isAny, AV.cells, ldc, List.map_cons, List.map_nil, St.set_next, St.set_same, St.up_next, Int.natCast_nonneg, lt_len, le_len, Int.toNat_natCast, true_and, and_true, eq_self, reduceCtorEq, decide_true, List.length_singleton, er_int, er_bool, er_str, hr3, AV.fits, AV.one, List.all_cons, List.all_nil, Nat.reduceBEq, Bool.and_true, Bool.not_false, Bool.and_self, Nat.zero_add, splice, List.take, List.drop, Nat.reduceLeDiff, St.set_set]
    refine h0 _ _ ?_
    try clear h0 K_h0
    refine T.seq_k (fun K_h0 h0 => ?_)
    refine T.regi hm ?_
    simp only [↓reduceIte, namesOf, List.any, I.names, aops, aopsI, aopsT, qstep, CPt, qget, Tbl.get, astep, ev, setd, List.set, List.getD, List.getElem?_cons_zero, List.getElem?_cons_succ, List.getElem?_nil, List.cons_append, List.nil_append, List.length_cons, List.length_nil, List.replicate, then_normal, inBlock_normal, Option.getD_some, Option.getD_none, Bool.or_false, Bool.or_true, Bool.true_or, Bool.false_or, Bool.false_eq_true, if_false, if_true, up_zero, Nat.reduceAdd, Nat.reduceSub, binv, ↓opt_def, AV.isAny, AV.cells, ldc, List.map_cons, List.map_nil, St.set_next, St.set_same, St.up_next, Int.natCast_nonneg, lt_len, le_len, Int.toNat_natCast, true_and, and_true, eq_self, reduceCtorEq, decide_true, List.length_singleton, er_int, er_bool, er_str]
    refine h0 _ _ ?_
    try clear h0 K_h0
    refine T.ret (Fin.likeset (r := rd l .none s.at_ s.at_) wf rfl (Wk.sl _ _) (by rw [← hσ2, St.set_set]; exact .refl _) hr ⟨trivial, trivial⟩ (nb_rd _ _ _ _) ⟨?_, ?_⟩)
    · rw [hX, hXb, decide_eq_true hm2, Bool.or_true]; rfl
    · rw [hXN, if_neg hb', if_pos hm2]; rfl
  · have e5 : decide (s2.at_ + (m : Int) > (l.length : Int)) = false := decide_eq_false (by omega)
    refine T.seq_k (fun K_h0 h0 => ?_)
    refine T.regi hm ?_
    simp only [↓reduceIte, namesOf, List.any, I.names, aops, aopsI, aopsT, qstep, CPt, qget, Tbl.get, astep, ev, setd, List.set, List.getD, List.getElem?_cons_zero, List.getElem?_cons_succ, List.getElem?_nil, List.cons_append, List.nil_append, List.length_cons, List.length_nil, List.replicate, then_normal, inBlock_normal, Option.getD_some, Option.getD_none, Bool.or_false, Bool.or_true, Bool.true_or, Bool.false_or, Bool.false_eq_true, if_false, if_true, up_zero, Nat.reduceAdd, Nat.reduceSub, binv, ↓opt_def, AV.isAny, AV.cells, ldc, List.map_cons, List.map_nil, St.set_next, St.set_same, St.up_next, Int.natCast_nonneg, lt_len, le_len, Int.toNat_natCast, true_and, and_true, eq_self, reduceCtorEq, decide_true, List.length_singleton, er_int, er_bool, er_str, hr2, e1, e4, bytesAV_len, e5]
    refine h0 _ _ ?_
    try clear h0 K_h0
    refine T.cond rfl (fun h => by cases h) (fun _ => T.skip ?_)
    refine h1 _ _ ?_
    try clear h1 K_h1
    have e6 : 0 ≤ s2.at_ ∧ s2.at_ ≤ s2.at_ + (m : Int) ∧ s2.at_ + (m : Int) ≤ (l.length : Int) := by omega
    have e7 : (s2.at_ + (m : Int) - s2.at_).toNat = m := by omega
    have hlen : ((l.drop s2.at_.toNat).take m).length ≤ 65536 := by rw [List.length_take]; omega
    have hle : decide ((0 + ((l.drop s2.at_.toNat).take m).length) * 1 ≤ 70368744177664 ∧ 0 + ((l.drop s2.at_.toNat).take m).length ≤ 4611686018427387904) = true := app_le (by omega)
    have hle2 : decide (((l.drop s2.at_.toNat).take m).length * 1 ≤ 70368744177664 ∧ ((l.drop s2.at_.toNat).take m).length ≤ 4611686018427387904) = true := decide_eq_true (by omega)
    have hVb : (bytesAV ((l.drop s2.at_.toNat).take m)).isEmpty = ((l.drop s2.at_.toNat).take m).isEmpty := by cases (l.drop s2.at_.toNat).take m <;> rfl
    have hr2u : ∀ k, (t2.up k).res n = some (.obj [.sl (bytesAV l) .none, .int .i64 s2.at_, .int .i64 s2.bad]) := fun _ => hr2
    have hn2 : n < t2.next := by rw [← hσ2]; exact hn0
    refine T.seq_k (fun K_h1 h1 => ?_)
    have fin : ∀ (v : AV) (t3 : St), t3.res n = some (.obj [.sl (bytesAV l) .none, .int .i64 s2.at_, .int .i64 s2.bad]) → Like t2 t3 → (∃ gg, v = .sl (bytesAV ((l.drop s2.at_.toNat).take m)) gg) → ∀ ρ', keep [0, 6, 7] 0 ρ' = [.ptr n 0, .any, .any, .any, .any, .any, .int .i64 m, v] ++ List.replicate 64 .any → K_h1 ρ' t3 := by
      rintro v t3 g0 g2 ⟨gg, rfl⟩ ρ' hρ
      refine h1 _ _ ?_
      try clear h1 K_h1
      refine T.gh (Gh.keep [0, 6, 7]) ?_
      rw [hρ]
      refine T.seq_k (fun K_h1 h1 => ?_)
      refine T.regi hm ?_
      simp only [↓reduceIte, namesOf, List.any, I.names, aops, aopsI, aopsT, qstep, CPt, qget, Tbl.get, astep, ev, setd, List.set, List.getD, List.getElem?_cons_zero, List.getElem?_cons_succ, List.getElem?_nil, List.cons_append, List.nil_append, List.length_cons, List.length_nil, List.replicate, then_normal, inBlock_normal, Option.getD_some, Option.getD_none, Bool.or_false, Bool.or_true, Bool.true_or, Bool.false_or, Bool.false_eq_true, if_false, if_true, up_zero, Nat.reduceAdd, Nat.reduceSub, binv, ↓opt_def, AV.isAny, AV.cells, ldc, List.map_cons, List.map_nil, St.set_next, St.set_same, St.up_next, Int.natCast_nonneg, lt_len, le_len, Int.toNat_natCast, true_and, and_true, eq_self, reduceCtorEq, decide_true, List.length_singleton, er_int, er_bool, er_str, g0, e4, AV.fits, AV.one, List.all_cons, List.all_nil, Nat.reduceBEq, Bool.and_true, Bool.not_false, Bool.and_self, Nat.zero_add, splice, List.take, List.drop, Nat.reduceLeDiff]
      refine h1 _ _ ?_
      try clear h1 K_h1
      refine T.seq_k (fun K_h0 h0 => ?_)
      refine T.regi hm ?_
      simp only [↓reduceIte, namesOf, List.any, I.names, aops, aopsI, aopsT, qstep, CPt, qget, Tbl.get, astep, ev, setd, List.set, List.getD, List.getElem?_cons_zero, List.getElem?_cons_succ, List.getElem?_nil, List.cons_append, List.nil_append, List.length_cons, List.length_nil, List.replicate, then_normal, inBlock_normal, Option.getD_some, Option.getD_none, Bool.or_false, Bool.or_true, Bool.true_or, Bool.false_or, Bool.false_eq_true, if_false, if_true, up_zero, Nat.reduceAdd, Nat.reduceSub, binv, ↓opt_def, AV.isAny, AV.cells, ldc, List.map_cons, List.map_nil, St.set_next, St.set_same, St.up_next, Int.natCast_nonneg, lt_len, le_len, Int.toNat_natCast, true_and, and_true, eq_self, reduceCtorEq, decide_true, List.length_singleton, er_int, er_bool, er_str]
      refine h0 _ _ ?_
      try clear h0 K_h0
      have L3 := g2.put n (rd l .none (s2.at_ + m) s2.bad)
      refine T.ret (Fin.likeset (r := rd l .none (s2.at_ + m) s2.bad) wf rfl (Wk.sl _ _) (by rw [← hσ2, St.set_set] at L3; exact L3) hr ⟨nb_bytes _ _, trivial⟩ (nb_rd _ _ _ _) ⟨?_, ?_⟩)
      · rw [hX, hXb, decide_eq_false hb', decide_eq_false hm2]; rfl
      · rw [hXN, if_neg hb', if_neg hm2, hbad]; rfl
    clear h1
    generalize hV : (l.drop s2.at_.toNat).take m = V at hlen hle hle2 hVb fin
    have e8 : (bytesAV (l.drop s2.at_.toNat)).take m = bytesAV V := by rw [bytes_take, hV]
    cases hVe : V.isEmpty with
    | true =>
      rw [hVe] at hVb
      refine T.regi hm ?_
      simp only [↓reduceIte, namesOf, List.any, I.names, aops, aopsI, aopsT, qstep, CPt, qget, Tbl.get, astep, ev, setd, List.set, List.getD, List.getElem?_cons_zero, List.getElem?_cons_succ, List.getElem?_nil, List.cons_append, List.nil_append, List.length_cons, List.length_nil, List.replicate, then_normal, inBlock_normal, Option.getD_some, Option.getD_none, Bool.or_false, Bool.or_true, Bool.true_or, Bool.false_or, Bool.false_eq_true, if_false, if_true, up_zero, Nat.reduceAdd, Nat.reduceSub, binv, ↓opt_def, AV.isAny, AV.cells, ldc, List.map_cons, List.map_nil, St.set_next, St.set_same, St.up_next, Int.natCast_nonneg, lt_len, le_len, Int.toNat_natCast, true_and, and_true, eq_self, reduceCtorEq, decide_true, List.length_singleton, er_int, er_bool, er_str, hr2u, e4, idx, bytesAV_len, bytes_all, e6, e7, bytes_drop, e8, ite_self, List.isEmpty_nil, srcOf, bytesAV_er, Bool.and_self, St.up_res, hVb, Nat.zero_add, hle2, List.nil_append]
      exact fin _ (t2.up _) hr2 ((Like.refl t2).up _) ⟨_, rfl⟩ _ rfl
    | false =>
      rw [hVe] at hVb
      refine T.regi hm ?_
      simp only [↓reduceIte, namesOf, List.any, I.names, aops, aopsI, aopsT, qstep, CPt, qget, Tbl.get, astep, ev, setd, List.set, List.getD, List.getElem?_cons_zero, List.getElem?_cons_succ, List.getElem?_nil, List.cons_append, List.nil_append, List.length_cons, List.length_nil, List.replicate, then_normal, inBlock_normal, Option.getD_some, Option.getD_none, Bool.or_false, Bool.or_true, Bool.true_or, Bool.false_or, Bool.false_eq_true, if_false, if_true, up_zero, Nat.reduceAdd, Nat.reduceSub, binv, ↓opt_def, AV.isAny, AV.cells, ldc, List.map_cons, List.map_nil, St.set_next, St.set_same, St.up_next, Int.natCast_nonneg, lt_len, le_len, Int.toNat_natCast, true_and, and_true, eq_self, reduceCtorEq, decide_true, List.length_singleton, er_int, er_bool, er_str, hr2u, e4, idx, bytesAV_len, bytes_all, e6, e7, bytes_drop, e8, ite_self, List.isEmpty_nil, srcOf, bytesAV_er, Bool.and_self, St.up_res, hVb, Nat.zero_add, hle2, List.nil_append]
      exact fin _ _ (by rw [St.set_other _ _ (by omega)]; exact hr2) ((Like.refl t2).box _) ⟨_, rfl⟩ _ rfl

end Go.VL

namespace Go.VL

open Go.Proofs

theorem bytesAV_inj {a b : List UInt8} (h : bytesAV a = bytesAV b) : a = b := by
  have := congrArg toBytes h
  rw [toBytes_bytes, toBytes_bytes] at this
  exact Option.some.inj this

theorem spav_inj {a b : Sp} (h : a.av = b.av) : a = b := by
  obtain ⟨a1, a2, a3, a4, a5⟩ := a
  obtain ⟨b1, b2, b3, b4, b5⟩ := b
  simp only [Sp.av, AV.agg.injEq, List.cons.injEq, AV.int.injEq, true_and, AV.sl.injEq, and_true] at h
  obtain ⟨h1, h2, h3, h4, h5⟩ := h
  simp only [Sp.mk.injEq]
  exact ⟨by omega, by omega, h3, h4, bytesAV_inj h5⟩

/-! ### Rows put together -/

end Go.VL

namespace Go.VL

open Go.Proofs

theorem rmay_ok {t i : AV} {s e : Int} {xs : List AV} {g : Ver} {σ : St} : ACalls Tryd.prog n_rmay [.agg [t, i, .int .i64 s, .int .i64 e, .sl xs g]] σ (fun v σ' => v = .bool (mayI s e xs.length) ∧ σ' = σ) := by
  refine s_rmay (fun wf => ?_)
  unfold c_rmay
  refine T.seq_k (fun K_h1 h1 => ?_)
  refine T.regi hm ?_
  simp only [↓reduceIte, namesOf, List.any, I.names, aops, aopsI, aopsT, qstep, CPt, qget, Tbl.get, astep, ev, setd, List.set, List.getD, List.getElem?_cons_zero, List.getElem?_cons_succ, List.getElem?_nil, List.cons_append, List.nil_append, List.length_cons, List.length_nil, List.replicate, then_normal, inBlock_normal, Option.getD_some, Option.getD_none, Bool.or_false, Bool.or_true, Bool.true_or, Bool.false_or, Bool.false_eq_true, if_false, if_true, up_zero, Nat.reduceAdd, Nat.reduceSub, binv, ↓opt_def, AV.isAny, AV.cells, ldc, List.map_cons, List.map_nil, St.set_next, St.set_same, St.up_next, Int.natCast_nonneg, lt_len, le_len, Int.toNat_natCast, true_and, and_true, eq_self, reduceCtorEq, decide_true, List.length_singleton, er_int, er_bool, er_str]
  have h0 : ((σ.up 2).set (σ.next + 0) (.obj [t, i, .int .i64 s, .int .i64 e, .sl xs g])).res (σ.next + 0) = some (.obj [t, i, .int .i64 s, .int .i64 e, .sl xs g]) := by simp
  have hq := set1_quiet wf (k := 2) (.obj [t, i, .int .i64 s, .int .i64 e, .sl xs g]) (a := σ.next + 0) (by omega)
  generalize ((σ.up 2).set (σ.next + 0) (.obj [t, i, .int .i64 s, .int .i64 e, .sl xs g])) = σ1 at h0 hq ⊢
  refine h1 _ _ ?_
  try clear h1 K_h1
  refine T.seq_k (fun K_h1 h1 => ?_)
  by_cases c1 : 0 ≤ s
  case neg =>
    have e1 : decide (s ≥ 0) = false := decide_eq_false (by omega)
    refine T.regi hm ?_
    simp only [↓reduceIte, namesOf, List.any, I.names, aops, aopsI, aopsT, qstep, CPt, qget, Tbl.get, astep, ev, setd, List.set, List.getD, List.getElem?_cons_zero, List.getElem?_cons_succ, List.getElem?_nil, List.cons_append, List.nil_append, List.length_cons, List.length_nil, List.replicate, then_normal, inBlock_normal, Option.getD_some, Option.getD_none, Bool.or_false, Bool.or_true, Bool.true_or, Bool.false_or, Bool.false_eq_true, if_false, if_true, up_zero, Nat.reduceAdd, Nat.reduceSub, binv, ↓opt_def, AV.isAny, AV.cells, ldc, List.map_cons, List.map_nil, St.set_next, St.set_same, St.up_next, Int.natCast_nonneg, lt_len, le_len, Int.toNat_natCast, true_and, and_true, eq_self, reduceCtorEq, decide_true, List.length_singleton, er_int, er_bool, er_str, h0, e1, reduceCtorEq]
    refine h1 _ _ ?_
    try clear h1 K_h1
    exact T.ret (Fin.quiet rfl trivial hq ⟨by simp [pack, mayI, c1], rfl⟩)
  have e1 : decide (s ≥ 0) = true := decide_eq_true c1
  by_cases c2 : s ≤ e
  case neg =>
    have e2 : decide (s ≤ e) = false := decide_eq_false c2
    refine T.regi hm ?_
    simp only [↓reduceIte, namesOf, List.any, I.names, aops, aopsI, aopsT, qstep, CPt, qget, Tbl.get, astep, ev, setd, List.set, List.getD, List.getElem?_cons_zero, List.getElem?_cons_succ, List.getElem?_nil, List.cons_append, List.nil_append, List.length_cons, List.length_nil, List.replicate, then_normal, inBlock_normal, Option.getD_some, Option.getD_none, Bool.or_false, Bool.or_true, Bool.true_or, Bool.false_or, Bool.false_eq_true, if_false, if_true, up_zero, Nat.reduceAdd, Nat.reduceSub, binv, ↓opt_def, AV.isAny, AV.cells, ldc, List.map_cons, List.map_nil, St.set_next, St.set_same, St.up_next, Int.natCast_nonneg, lt_len, le_len, Int.toNat_natCast, true_and, and_true, eq_self, reduceCtorEq, decide_true, List.length_singleton, er_int, er_bool, er_str, h0, e1, e2, reduceCtorEq]
    refine h1 _ _ ?_
    try clear h1 K_h1
    exact T.ret (Fin.quiet rfl trivial hq ⟨by simp [pack, mayI, c2], rfl⟩)
  have e2 : decide (s ≤ e) = true := decide_eq_true c2
  by_cases c3 : e ≤ 1099511627776
  case neg =>
    have e3 : decide (e ≤ 1099511627776) = false := decide_eq_false c3
    refine T.regi hm ?_
    simp only [↓reduceIte, namesOf, List.any, I.names, aops, aopsI, aopsT, qstep, CPt, qget, Tbl.get, astep, ev, setd, List.set, List.getD, List.getElem?_cons_zero, List.getElem?_cons_succ, List.getElem?_nil, List.cons_append, List.nil_append, List.length_cons, List.length_nil, List.replicate, then_normal, inBlock_normal, Option.getD_some, Option.getD_none, Bool.or_false, Bool.or_true, Bool.true_or, Bool.false_or, Bool.false_eq_true, if_false, if_true, up_zero, Nat.reduceAdd, Nat.reduceSub, binv, ↓opt_def, AV.isAny, AV.cells, ldc, List.map_cons, List.map_nil, St.set_next, St.set_same, St.up_next, Int.natCast_nonneg, lt_len, le_len, Int.toNat_natCast, true_and, and_true, eq_self, reduceCtorEq, decide_true, List.length_singleton, er_int, er_bool, er_str, h0, e1, e2, e3, reduceCtorEq]
    refine h1 _ _ ?_
    try clear h1 K_h1
    exact T.ret (Fin.quiet rfl trivial hq ⟨by simp [pack, mayI, c3], rfl⟩)
  have e3 : decide (e ≤ 1099511627776) = true := decide_eq_true c3
  refine T.regi hm ?_
  simp only [↓reduceIte, namesOf, List.any, I.names, aops, aopsI, aopsT, qstep, CPt, qget, Tbl.get, astep, ev, setd, List.set, List.getD, List.getElem?_cons_zero, List.getElem?_cons_succ, List.getElem?_nil, List.cons_append, List.nil_append, List.length_cons, List.length_nil, List.replicate, then_normal, inBlock_normal, Option.getD_some, Option.getD_none, Bool.or_false, Bool.or_true, Bool.true_or, Bool.false_or, Bool.false_eq_true, if_false, if_true, up_zero, Nat.reduceAdd, Nat.reduceSub, binv, ↓opt_def, AV.isAny, AV.cells, ldc, List.map_cons, List.map_nil, St.set_next, St.set_same, St.up_next, Int.natCast_nonneg, lt_len, le_len, Int.toNat_natCast, true_and, and_true, eq_self, reduceCtorEq, decide_true, List.length_singleton, er_int, er_bool, er_str, h0, e1, e2, e3, reduceCtorEq]
  refine h1 _ _ ?_
  try clear h1 K_h1
  exact T.ret (Fin.quiet rfl trivial hq ⟨by simp [pack, mayI, c1, c2, c3], rfl⟩)

abbrev spC (a : Sp) : List AV := [.int .u64 (a.tr : Int), .int .u64 (a.id : Int), .int .i64 a.st, .int .i64 a.en, .sl (bytesAV a.da) .none]

theorem box2 {σ : St} (wf : WF σ) (k : Nat) (r r' : Res) : (((σ.up k).set (σ.next + 0) r).set (σ.next + 1) r').res (σ.next + 0) = some r ∧ (((σ.up k).set (σ.next + 0) r).set (σ.next + 1) r').res (σ.next + 1) = some r' ∧
    ∀ n x, σ.res n = some x → (((σ.up k).set (σ.next + 0) r).set (σ.next + 1) r').res n = some x :=
  ⟨by rw [St.set_other _ _ (by omega)]; simp, by simp, set2_quiet wf r r' (by omega) (by omega)⟩

theorem sp_eq {a b : Sp} : a = b ↔ a.tr = b.tr ∧ a.id = b.id ∧ a.st = b.st ∧ a.en = b.en ∧ a.da = b.da := by
  obtain ⟨a1, a2, a3, a4, a5⟩ := a
  obtain ⟨b1, b2, b3, b4, b5⟩ := b
  simp

theorem rsame_ok {a b : Sp} {σ : St} : ACalls Tryd.prog n_rsame [.agg (spC a), .agg (spC b)] σ (fun v σ' => v = .bool (decide (a = b)) ∧ σ' = σ) := by
  refine s_rsame (fun wf => ?_)
  unfold c_rsame
  refine T.seq_k (fun K_h1 h1 => ?_)
  refine T.regi hm ?_
  simp only [↓reduceIte, namesOf, List.any, I.names, aops, aopsI, aopsT, qstep, CPt, qget, Tbl.get, astep, ev, setd, List.set, List.getD, List.getElem?_cons_zero, List.getElem?_cons_succ, List.getElem?_nil, List.cons_append, List.nil_append, List.length_cons, List.length_nil, List.replicate, then_normal, inBlock_normal, Option.getD_some, Option.getD_none, Bool.or_false, Bool.or_true, Bool.true_or, Bool.false_or, Bool.false_eq_true, if_false, if_true, up_zero, Nat.reduceAdd, Nat.reduceSub, binv, ↓opt_def, AV.isAny, AV.cells, ldc, List.map_cons, List.map_nil, St.set_next, St.set_same, St.up_next, Int.natCast_nonneg, lt_len, le_len, Int.toNat_natCast, true_and, and_true, eq_self, reduceCtorEq, decide_true, List.length_singleton, er_int, er_bool, er_str]
  obtain ⟨h0, h0', hq⟩ := box2 wf 3 (.obj (spC a)) (.obj (spC b))
  generalize (((σ.up 3).set (σ.next + 0) (.obj (spC a))).set (σ.next + 1) (.obj (spC b))) = σ1 at h0 h0' hq ⊢
  refine h1 _ _ ?_
  try clear h1 K_h1
  refine T.seq_k (fun K_h1 h1 => ?_)
  have no : ¬ a = b → decide (a = b) = false := fun h => decide_eq_false h
  by_cases c1 : a.tr = b.tr
  case neg =>
    have e1 : ((a.tr : Int) == (b.tr : Int)) = false := by simp; omega
    refine T.regi hm ?_
    simp only [↓reduceIte, namesOf, List.any, I.names, aops, aopsI, aopsT, qstep, CPt, qget, Tbl.get, astep, ev, setd, List.set, List.getD, List.getElem?_cons_zero, List.getElem?_cons_succ, List.getElem?_nil, List.cons_append, List.nil_append, List.length_cons, List.length_nil, List.replicate, then_normal, inBlock_normal, Option.getD_some, Option.getD_none, Bool.or_false, Bool.or_true, Bool.true_or, Bool.false_or, Bool.false_eq_true, if_false, if_true, up_zero, Nat.reduceAdd, Nat.reduceSub, binv, ↓opt_def, AV.isAny, AV.cells, ldc, List.map_cons, List.map_nil, St.set_next, St.set_same, St.up_next, Int.natCast_nonneg, lt_len, le_len, Int.toNat_natCast, true_and, and_true, eq_self, reduceCtorEq, decide_true, List.length_singleton, er_int, er_bool, er_str, h0, h0', e1, reduceCtorEq]
    refine h1 _ _ ?_
    try clear h1 K_h1
    exact T.ret (Fin.quiet rfl trivial hq ⟨by rw [no (fun h => c1 (by rw [h]))]; rfl, rfl⟩)
  have e1 : ((a.tr : Int) == (b.tr : Int)) = true := by simp; omega
  by_cases c2 : a.id = b.id
  case neg =>
    have e2 : ((a.id : Int) == (b.id : Int)) = false := by simp; omega
    refine T.regi hm ?_
    simp only [↓reduceIte, namesOf, List.any, I.names, aops, aopsI, aopsT, qstep, CPt, qget, Tbl.get, astep, ev, setd, List.set, List.getD, List.getElem?_cons_zero, List.getElem?_cons_succ, List.getElem?_nil, List.cons_append, List.nil_append, List.length_cons, List.length_nil, List.replicate, then_normal, inBlock_normal, Option.getD_some, Option.getD_none, Bool.or_false, Bool.or_true, Bool.true_or, Bool.false_or, Bool.false_eq_true, if_false, if_true, up_zero, Nat.reduceAdd, Nat.reduceSub, binv, ↓opt_def, AV.isAny, AV.cells, ldc, List.map_cons, List.map_nil, St.set_next, St.set_same, St.up_next, Int.natCast_nonneg, lt_len, le_len, Int.toNat_natCast, true_and, and_true, eq_self, reduceCtorEq, decide_true, List.length_singleton, er_int, er_bool, er_str, h0, h0', e1, e2, reduceCtorEq]
    refine h1 _ _ ?_
    try clear h1 K_h1
    exact T.ret (Fin.quiet rfl trivial hq ⟨by rw [no (fun h => c2 (by rw [h]))]; rfl, rfl⟩)
  have e2 : ((a.id : Int) == (b.id : Int)) = true := by simp; omega
  by_cases c3 : a.st = b.st
  case neg =>
    have e3 : (a.st == b.st) = false := by simpa using c3
    refine T.regi hm ?_
    simp only [↓reduceIte, namesOf, List.any, I.names, aops, aopsI, aopsT, qstep, CPt, qget, Tbl.get, astep, ev, setd, List.set, List.getD, List.getElem?_cons_zero, List.getElem?_cons_succ, List.getElem?_nil, List.cons_append, List.nil_append, List.length_cons, List.length_nil, List.replicate, then_normal, inBlock_normal, Option.getD_some, Option.getD_none, Bool.or_false, Bool.or_true, Bool.true_or, Bool.false_or, Bool.false_eq_true, if_false, if_true, up_zero, Nat.reduceAdd, Nat.reduceSub, binv, ↓opt_def, AV.isAny, AV.cells, ldc, List.map_cons, List.map_nil, St.set_next, St.set_same, St.up_next, Int.natCast_nonneg, lt_len, le_len, Int.toNat_natCast, true_and, and_true, eq_self, reduceCtorEq, decide_true, List.length_singleton, er_int, er_bool, er_str, h0, h0', e1, e2, e3, reduceCtorEq]
    refine h1 _ _ ?_
    try clear h1 K_h1
    exact T.ret (Fin.quiet rfl trivial hq ⟨by rw [no (fun h => c3 (by rw [h]))]; rfl, rfl⟩)
  have e3 : (a.st == b.st) = true := by simpa using c3
  by_cases c4 : a.en = b.en
  case neg =>
    have e4 : (a.en == b.en) = false := by simpa using c4
    refine T.regi hm ?_
    simp only [↓reduceIte, namesOf, List.any, I.names, aops, aopsI, aopsT, qstep, CPt, qget, Tbl.get, astep, ev, setd, List.set, List.getD, List.getElem?_cons_zero, List.getElem?_cons_succ, List.getElem?_nil, List.cons_append, List.nil_append, List.length_cons, List.length_nil, List.replicate, then_normal, inBlock_normal, Option.getD_some, Option.getD_none, Bool.or_false, Bool.or_true, Bool.true_or, Bool.false_or, Bool.false_eq_true, if_false, if_true, up_zero, Nat.reduceAdd, Nat.reduceSub, binv, ↓opt_def, AV.isAny, AV.cells, ldc, List.map_cons, List.map_nil, St.set_next, St.set_same, St.up_next, Int.natCast_nonneg, lt_len, le_len, Int.toNat_natCast, true_and, and_true, eq_self, reduceCtorEq, decide_true, List.length_singleton, er_int, er_bool, er_str, h0, h0', e1, e2, e3, e4, reduceCtorEq]
    refine h1 _ _ ?_
    try clear h1 K_h1
    exact T.ret (Fin.quiet rfl trivial hq ⟨by rw [no (fun h => c4 (by rw [h]))]; rfl, rfl⟩)
  have e4 : (a.en == b.en) = true := by simpa using c4
  refine T.regi hm ?_
  simp only [↓reduceIte, namesOf, List.any, I.names, aops, aopsI, aopsT, qstep, CPt, qget, Tbl.get, astep, ev, setd, List.set, List.getD, List.getElem?_cons_zero, List.getElem?_cons_succ, List.getElem?_nil, List.cons_append, List.nil_append, List.length_cons, List.length_nil, List.replicate, then_normal, inBlock_normal, Option.getD_some, Option.getD_none, Bool.or_false, Bool.or_true, Bool.true_or, Bool.false_or, Bool.false_eq_true, if_false, if_true, up_zero, Nat.reduceAdd, Nat.reduceSub, binv, ↓opt_def, AV.isAny, AV.cells, ldc, List.map_cons, List.map_nil, St.set_next, St.set_same, St.up_next, Int.natCast_nonneg, lt_len, le_len, Int.toNat_natCast, true_and, and_true, eq_self, reduceCtorEq, decide_true, List.length_singleton, er_int, er_bool, er_str, h0, h0', e1, e2, e3, e4, reduceCtorEq, toBytes_bytes, sbinv, ba_eq]
  refine h1 _ _ ?_
  try clear h1 K_h1
  refine T.ret (Fin.quiet rfl trivial hq ⟨?_, rfl⟩)
  have : decide (a = b) = decide (a.da = b.da) := by
    rw [decide_eq_decide, sp_eq]
    exact ⟨fun h => h.2.2.2.2, fun h => ⟨c1, c2, c3, c4, h⟩⟩
  rw [this]; rfl

theorem spC_inj {a b : Sp} (h : AV.agg (spC a) = .agg (spC b)) : a = b := spav_inj h

open Classical in
/-- a table of what a function of two spans comes to -/
noncomputable def g2S (f : Sp → Sp → AV) (args : List AV) : Option AV := if h : ∃ p : Sp × Sp, args = [.agg (spC p.1), .agg (spC p.2)] then some (f h.choose.1 h.choose.2) else none

theorem g2S_eq (f : Sp → Sp → AV) (a b : Sp) : g2S f [.agg (spC a), .agg (spC b)] = some (f a b) := by
  unfold g2S
  have hex : ∃ p : Sp × Sp, [AV.agg (spC a), .agg (spC b)] = [.agg (spC p.1), .agg (spC p.2)] := ⟨(a, b), rfl⟩
  rw [dif_pos hex]
  have hc := hex.choose_spec
  rw [List.cons.injEq, List.cons.injEq] at hc
  rw [← spC_inj hc.1, ← spC_inj hc.2.1]

theorem g2S_pure {n : Nat} {f : Sp → Sp → AV} (h : ∀ a b σ, ACalls Tryd.prog n [.agg (spC a), .agg (spC b)] σ (fun v σ' => v = f a b ∧ σ' = σ)) : PureC Tryd.prog n (g2S f) := by
  intro args σ v hv
  unfold g2S at hv
  split at hv
  · rename_i hex
    simp only [Option.some.injEq] at hv; subst hv
    have hc := hex.choose_spec
    generalize hex.choose = c at hc
    subst hc
    exact h _ _ _
  · cases hv

noncomputable def gSame : List AV → Option AV := g2S fun a b => .bool (decide (a = b))

theorem gSame_eq (a b : Sp) : gSame [.agg (spC a), .agg (spC b)] = some (.bool (decide (a = b))) := g2S_eq _ a b

/-! ### Are spans the same? -/

noncomputable def tGs : Tbl := [(n_rsame, gSame)]

theorem tGs_ok : tGs.ok Tryd.prog := Tbl.ok_cons (g2S_pure fun a b σ => rsame_ok) Tbl.ok_nil

set_option maxRecDepth 10000 in
theorem rspans_ok {a b : List Sp} {g g' : Ver} {σ : St} (hl : a.length ≤ 9223372036854775807) : ACalls Tryd.prog n_rspans [.sl (spsAV a) g, .sl (spsAV b) g'] σ (fun v σ' => v = .bool (decide (a = b)) ∧ σ' = σ) := by
  refine s_rspans (fun wf => ?_)
  unfold c_rspans
  refine T.seq_k (fun K_h1 h1 => ?_)
  refine T.regi hm ?_
  simp only [↓reduceIte, namesOf, List.any, I.names, aops, aopsI, aopsT, qstep, CPt, qget, Tbl.get, astep, ev, setd, List.set, List.getD, List.getElem?_cons_zero, List.getElem?_cons_succ, List.getElem?_nil, List.cons_append, List.nil_append, List.length_cons, List.length_nil, List.replicate, then_normal, inBlock_normal, Option.getD_some, Option.getD_none, Bool.or_false, Bool.or_true, Bool.true_or, Bool.false_or, Bool.false_eq_true, if_false, if_true, up_zero, Nat.reduceAdd, Nat.reduceSub, binv, ↓opt_def, AV.isAny, AV.cells, ldc, List.map_cons, List.map_nil, St.set_next, St.set_same, St.up_next, Int.natCast_nonneg, lt_len, le_len, Int.toNat_natCast, true_and, and_true, eq_self, reduceCtorEq, decide_true, List.length_singleton, er_int, er_bool, er_str]
  refine h1 _ _ ?_
  try clear h1 K_h1
  refine T.seq_k (fun K_h1 h1 => ?_)
  refine T.seq_k (fun K_h2 h2 => ?_)
  by_cases hlen : a.length = b.length
  case neg =>
    have e1 : ((a.length : Int) != (b.length : Int)) = true := by simp; omega
    refine T.regi hm ?_
    simp only [↓reduceIte, namesOf, List.any, I.names, aops, aopsI, aopsT, qstep, CPt, qget, Tbl.get, astep, ev, setd, List.set, List.getD, List.getElem?_cons_zero, List.getElem?_cons_succ, List.getElem?_nil, List.cons_append, List.nil_append, List.length_cons, List.length_nil, List.replicate, then_normal, inBlock_normal, Option.getD_some, Option.getD_none, Bool.or_false, Bool.or_true, Bool.true_or, Bool.false_or, Bool.false_eq_true, if_false, if_true, up_zero, Nat.reduceAdd, Nat.reduceSub, binv, ↓opt_def, AV.isAny, AV.cells, ldc, List.map_cons, List.map_nil, St.set_next, St.set_same, St.up_next, Int.natCast_nonneg, lt_len, le_len, Int.toNat_natCast, true_and, and_true, eq_self, reduceCtorEq, decide_true, List.length_singleton, er_int, er_bool, er_str, sps_len, e1]
    refine h2 _ _ ?_
    try clear h2 K_h2
    refine T.cond rfl (fun _ => ?_) (fun h => by cases h)
    refine T.seq_k (fun K_h2 h2 => ?_)
    refine T.regi hm ?_
    simp only [↓reduceIte, namesOf, List.any, I.names, aops, aopsI, aopsT, qstep, CPt, qget, Tbl.get, astep, ev, setd, List.set, List.getD, List.getElem?_cons_zero, List.getElem?_cons_succ, List.getElem?_nil, List.cons_append, List.nil_append, List.length_cons, List.length_nil, List.replicate, then_normal, inBlock_normal, Option.getD_some, Option.getD_none, Bool.or_false, Bool.or_true, Bool.true_or, Bool.false_or, Bool.false_eq_true, if_false, if_true, up_zero, Nat.reduceAdd, Nat.reduceSub, binv, ↓opt_def, AV.isAny, AV.cells, ldc, List.map_cons, List.map_nil, St.set_next, St.set_same, St.up_next, Int.natCast_nonneg, lt_len, le_len, Int.toNat_natCast, true_and, and_true, eq_self, reduceCtorEq, decide_true, List.length_singleton, er_int, er_bool, er_str]
    refine h2 _ _ ?_
    try clear h2 K_h2
    exact T.ret (Fin.ret rfl ⟨by rw [decide_eq_false (fun h => hlen (by rw [h]))]; rfl, rfl⟩)
  have e1 : ((a.length : Int) != (b.length : Int)) = false := by simp; omega
  refine T.regi hm ?_
  simp only [↓reduceIte, namesOf, List.any, I.names, aops, aopsI, aopsT, qstep, CPt, qget, Tbl.get, astep, ev, setd, List.set, List.getD, List.getElem?_cons_zero, List.getElem?_cons_succ, List.getElem?_nil, List.cons_append, List.nil_append, List.length_cons, List.length_nil, List.replicate, then_normal, inBlock_normal, Option.getD_some, Option.getD_none, Bool.or_false, Bool.or_true, Bool.true_or, Bool.false_or, Bool.false_eq_true, if_false, if_true, up_zero, Nat.reduceAdd, Nat.reduceSub, binv, ↓opt_def, AV.isAny, AV.cells, ldc, List.map_cons, List.map_nil, St.set_next, St.set_same, St.up_next, Int.natCast_nonneg, lt_len, le_len, Int.toNat_natCast, true_and, and_true, eq_self, reduceCtorEq, decide_true, List.length_singleton, er_int, er_bool, er_str, sps_len, e1]
  refine h2 _ _ ?_
  try clear h2 K_h2
  refine T.cond rfl (fun h => by cases h) (fun _ => T.skip ?_)
  refine h1 _ _ ?_
  try clear h1 K_h1
  refine T.seq_k (fun K_h1 h1 => ?_)
  refine T.seq_k (fun K_h2 h2 => ?_)
  refine T.regi hm ?_
  simp only [↓reduceIte, namesOf, List.any, I.names, aops, aopsI, aopsT, qstep, CPt, qget, Tbl.get, astep, ev, setd, List.set, List.getD, List.getElem?_cons_zero, List.getElem?_cons_succ, List.getElem?_nil, List.cons_append, List.nil_append, List.length_cons, List.length_nil, List.replicate, then_normal, inBlock_normal, Option.getD_some, Option.getD_none, Bool.or_false, Bool.or_true, Bool.true_or, Bool.false_or, Bool.false_eq_true, if_false, if_true, up_zero, Nat.reduceAdd, Nat.reduceSub, binv, ↓opt_def, AV.isAny, AV.cells, ldc, List.map_cons, List.map_nil, St.set_next, St.set_same, St.up_next, Int.natCast_nonneg, lt_len, le_len, Int.toNat_natCast, true_and, and_true, eq_self, reduceCtorEq, decide_true, List.length_singleton, er_int, er_bool, er_str]
  refine h2 _ _ ?_
  try clear h2 K_h2
  refine T.block ?_
  refine T.gh (Gh.keep [0, 1, 5]) ?_
  refine T.loopi (fun i ρ σ' => σ' = σ ∧ a.take i = b.take i ∧ ρ = [.sl (spsAV a) g, .sl (spsAV b) g', .any, .any, .any, .int .i64 (i : Int)] ++ List.replicate 23 .any)
    a.length 0 (Nat.zero_le _) ⟨rfl, by simp, rfl⟩ ?_
  rintro i ρ σ' hi ⟨rfl, hpre, rfl⟩
  refine T.seq_k (fun K_h2 h2 => ?_)
  refine T.seq_k (fun K_h3 h3 => ?_)
  refine T.regi hm ?_
  simp only [↓reduceIte, namesOf, List.any, I.names, aops, aopsI, aopsT, qstep, CPt, qget, Tbl.get, astep, ev, setd, List.set, List.getD, List.getElem?_cons_zero, List.getElem?_cons_succ, List.getElem?_nil, List.cons_append, List.nil_append, List.length_cons, List.length_nil, List.replicate, then_normal, inBlock_normal, Option.getD_some, Option.getD_none, Bool.or_false, Bool.or_true, Bool.true_or, Bool.false_or, Bool.false_eq_true, if_false, if_true, up_zero, Nat.reduceAdd, Nat.reduceSub, binv, ↓opt_def, AV.isAny, AV.cells, ldc, List.map_cons, List.map_nil, St.set_next, St.set_same, St.up_next, Int.natCast_nonneg, lt_len, le_len, Int.toNat_natCast, true_and, and_true, eq_self, reduceCtorEq, decide_true, List.length_singleton, er_int, er_bool, er_str, sps_len]
  refine h3 _ _ ?_
  try clear h3 K_h3
  refine T.cond rfl (fun hb => ?_) (fun hb => ?_)
  · refine T.skip ?_
    refine h2 _ _ ?_
    try clear h2 K_h2
    have hil : i < a.length := by simpa using hb
    have hjl : i < b.length := by omega
    clear hb
    refine T.seq_k (fun K_h2 h2 => ?_)
    refine T.block ?_
    refine T.seq_k (fun K_h3 h3 => ?_)
    have hge := gSame_eq a[i] b[i]
    refine T.regt hm tGs_ok ?_
    simp only [↓reduceIte, namesOf, List.any, I.names, aops, aopsI, aopsT, qstep, CPt, qget, Tbl.get, astep, ev, setd, List.set, List.getD, List.getElem?_cons_zero, List.getElem?_cons_succ, List.getElem?_nil, List.cons_append, List.nil_append, List.length_cons, List.length_nil, List.replicate, then_normal, inBlock_normal, Option.getD_some, Option.getD_none, Bool.or_false, Bool.or_true, Bool.true_or, Bool.false_or, Bool.false_eq_true, if_false, if_true, up_zero, Nat.reduceAdd, Nat.reduceSub, binv, ↓opt_def, AV.isAny, AV.cells, ldc, List.map_cons, List.map_nil, St.set_next, St.set_same, St.up_next, Int.natCast_nonneg, lt_len, le_len, Int.toNat_natCast, true_and, and_true, eq_self, reduceCtorEq, decide_true, List.length_singleton, er_int, er_bool, er_str, Nat.reduceEqDiff, tGs, n_rsame, sps_len, sps_get hil, sps_get hjl, hil, hjl, spav, AV.fits, AV.one, List.all_cons, List.all_nil, Nat.reduceBEq, Bool.and_true, Bool.not_false, Bool.and_self, Nat.zero_add, splice, List.take, List.drop, Nat.reduceLeDiff, hge]
    refine h3 _ _ ?_
    try clear h3 K_h3
    refine T.seq_k (fun K_h3 h3 => ?_)
    refine T.regi hm ?_
    simp only [↓reduceIte, namesOf, List.any, I.names, aops, aopsI, aopsT, qstep, CPt, qget, Tbl.get, astep, ev, setd, List.set, List.getD, List.getElem?_cons_zero, List.getElem?_cons_succ, List.getElem?_nil, List.cons_append, List.nil_append, List.length_cons, List.length_nil, List.replicate, then_normal, inBlock_normal, Option.getD_some, Option.getD_none, Bool.or_false, Bool.or_true, Bool.true_or, Bool.false_or, Bool.false_eq_true, if_false, if_true, up_zero, Nat.reduceAdd, Nat.reduceSub, binv, ↓opt_def, AV.isAny, AV.cells, ldc, List.map_cons, List.map_nil, St.set_next, St.set_same, St.up_next, Int.natCast_nonneg, lt_len, le_len, Int.toNat_natCast, true_and, and_true, eq_self, reduceCtorEq, decide_true, List.length_singleton, er_int, er_bool, er_str]
    refine h3 _ _ ?_
    try clear h3 K_h3
    refine T.cond rfl (fun hb => ?_) (fun hb => ?_)
    · refine T.seq_k (fun K_h3 h3 => ?_)
      refine T.regi hm ?_
      simp only [↓reduceIte, namesOf, List.any, I.names, aops, aopsI, aopsT, qstep, CPt, qget, Tbl.get, astep, ev, setd, List.set, List.getD, List.getElem?_cons_zero, List.getElem?_cons_succ, List.getElem?_nil, List.cons_append, List.nil_append, List.length_cons, List.length_nil, List.replicate, then_normal, inBlock_normal, Option.getD_some, Option.getD_none, Bool.or_false, Bool.or_true, Bool.true_or, Bool.false_or, Bool.false_eq_true, if_false, if_true, up_zero, Nat.reduceAdd, Nat.reduceSub, binv, ↓opt_def, AV.isAny, AV.cells, ldc, List.map_cons, List.map_nil, St.set_next, St.set_same, St.up_next, Int.natCast_nonneg, lt_len, le_len, Int.toNat_natCast, true_and, and_true, eq_self, reduceCtorEq, decide_true, List.length_singleton, er_int, er_bool, er_str]
      refine h3 _ _ ?_
      try clear h3 K_h3
      have hne : a[i] ≠ b[i] := by simpa using hb
      have hab : a ≠ b := by intro h; subst h; exact hne rfl
      exact T.ret (Fin.ret rfl ⟨by rw [decide_eq_false hab]; rfl, rfl⟩)
    · refine T.skip ?_
      refine h2 _ _ ?_
      try clear h2 K_h2
      have he : a[i] = b[i] := by simpa using hb
      have hw := inc64 hil hl
      refine T.regi hm ?_
      simp only [↓reduceIte, namesOf, List.any, I.names, aops, aopsI, aopsT, qstep, CPt, qget, Tbl.get, astep, ev, setd, List.set, List.getD, List.getElem?_cons_zero, List.getElem?_cons_succ, List.getElem?_nil, List.cons_append, List.nil_append, List.length_cons, List.length_nil, List.replicate, then_normal, inBlock_normal, Option.getD_some, Option.getD_none, Bool.or_false, Bool.or_true, Bool.true_or, Bool.false_or, Bool.false_eq_true, if_false, if_true, up_zero, Nat.reduceAdd, Nat.reduceSub, binv, ↓opt_def, AV.isAny, AV.cells, ldc, List.map_cons, List.map_nil, St.set_next, St.set_same, St.up_next, Int.natCast_nonneg, lt_len, le_len, Int.toNat_natCast, true_and, and_true, eq_self, reduceCtorEq, decide_true, List.length_singleton, er_int, er_bool, er_str, hw]
      refine ⟨hil, _, _, Gh.keep [0, 1, 5], rfl, ?_, rfl⟩
      rw [List.take_succ_eq_append_getElem hil, List.take_succ_eq_append_getElem hjl, hpre, he]
  · refine T.exit ?_
    have : i = a.length := by simp at hb; omega
    subst this
    have hab : a = b := by rw [List.take_length, hlen, List.take_length] at hpre; exact hpre
    try simp only [↓reduceIte, namesOf, List.any, I.names, aops, aopsI, aopsT, qstep, CPt, qget, Tbl.get, astep, ev, setd, List.set, List.getD, List.getElem?_cons_zero, List.getElem?_cons_succ, List.getElem?_nil, List.cons_append, List.nil_append, List.length_cons, List.length_nil, List.replicate, then_normal, inBlock_normal, Option.getD_some, Option.getD_none, Bool.or_false, Bool.or_true, Bool.true_or, Bool.false_or, Bool.false_eq_true, if_false, if_true, up_zero, Nat.reduceAdd, Nat.reduceSub, binv, ↓opt_def, AV.isAny, AV.cells, ldc, List.map_cons, List.map_nil, St.set_next, St.set_same, St.up_next, Int.natCast_nonneg, lt_len, le_len, Int.toNat_natCast, true_and, and_true, eq_self, reduceCtorEq, decide_true, List.length_singleton, er_int, er_bool, er_str, inBlock_exit, then_exit]
    refine h1 _ _ ?_
    try clear h1 K_h1
    refine T.seq_k (fun K_h1 h1 => ?_)
    refine T.regi hm ?_
    simp only [↓reduceIte, namesOf, List.any, I.names, aops, aopsI, aopsT, qstep, CPt, qget, Tbl.get, astep, ev, setd, List.set, List.getD, List.getElem?_cons_zero, List.getElem?_cons_succ, List.getElem?_nil, List.cons_append, List.nil_append, List.length_cons, List.length_nil, List.replicate, then_normal, inBlock_normal, Option.getD_some, Option.getD_none, Bool.or_false, Bool.or_true, Bool.true_or, Bool.false_or, Bool.false_eq_true, if_false, if_true, up_zero, Nat.reduceAdd, Nat.reduceSub, binv, ↓opt_def, AV.isAny, AV.cells, ldc, List.map_cons, List.map_nil, St.set_next, St.set_same, St.up_next, Int.natCast_nonneg, lt_len, le_len, Int.toNat_natCast, true_and, and_true, eq_self, reduceCtorEq, decide_true, List.length_singleton, er_int, er_bool, er_str]
    refine h1 _ _ ?_
    try clear h1 K_h1
    exact T.ret (Fin.ret rfl ⟨by rw [decide_eq_true hab]; rfl, rfl⟩)

end Go.VL

namespace Go.VL

open Go.Proofs

/-- an end that is owned, and what was owned ahead of it -/
structure Tp (σ σ' : St) (g k : Nat) : Prop where
  lo : σ.next ≤ g
  hi : g < σ'.next
  at_ : σ'.res g = some (.tip k)
  old : ∀ n x, σ.res n = some x → σ'.res n = some x

theorem Tp.new {σ σ' : St} {k n i : Nat} (wf : WF σ) (hn : σ.next ≤ σ'.next) (ho : ∀ n x, σ.res n = some x → σ'.res n = some x) (hi : i < n) : Tp σ ((σ'.up n).set (σ'.next + i) (.tip k)) (σ'.next + i) k :=
  ⟨by omega, by simp; omega, by simp, set_quiet wf hn ho _ (by omega)⟩

theorem Tp.mv {σ σ' : St} {g g2 k : Nat} (wf : WF σ) (h : Tp σ σ' g k) (hlo : σ.next ≤ g2) (hhi : g2 < σ'.next) : Tp σ ((σ'.del g).set g2 (.tip k)) g2 k :=
  ⟨hlo, by simpa using hhi, by simp, fun n x hr => by
    have hn : n < σ.next := by
      rcases Nat.lt_or_ge n σ.next with h' | h'
      · exact h'
      · rw [wf n h'] at hr; cases hr
    have h1 := h.lo
    rw [St.set_other _ _ (by omega)]
    simp only [St.del]
    rw [if_neg (by omega)]; exact h.old n x hr⟩

theorem Tp.up {σ σ' : St} {g k : Nat} (h : Tp σ σ' g k) (n : Nat) : Tp σ (σ'.up n) g k := ⟨h.lo, Nat.lt_of_lt_of_le h.hi (Nat.le_add_right _ _), h.at_, h.old⟩

theorem sps_fits (l : List Sp) : (spsAV l).all (AV.fits 5) = true := by
  simp [spsAV, Sp.av, AV.fits, AV.isAny, AV.cells, AV.one]

theorem sps_er (l : List Sp) : (spsAV l).map AV.er = spsAV l := by
  simp only [spsAV, List.map_map]
  apply List.map_congr_left
  intro t _
  rfl

theorem nbs_sps (m : Nat) (l : List Sp) : nbs m (spsAV l) := by
  rw [nbs_iff]
  intro y hy
  obtain ⟨s, _, rfl⟩ := List.mem_map.1 hy
  simp only [Sp.av, AV.nb, nbs, true_and, and_true, Ver.nb]
  exact (nb_bytes m s.da)

end Go.VL
