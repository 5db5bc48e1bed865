/- Texts put together, of these what the theorem needs: Contracts: readers. A reader is an owned row of three: bytes, how far, where amiss. Contracts: the document's reader. Contracts: small things that are used often; an error's number. Contracts: readers, told as functions. States that are alike but for new names; a named end among them; arithmetic of words. The compiled code of functions of this seat. MADE BY PROGRAM (mkc.py). Contracts: spans and traces that are few; what may be. Contracts: pages that are few; comparing. Contracts: canonical traces. The compiled code of functions of this seat. MADE BY PROGRAM (mkc.py). Contracts: the bytes of texts and spans. Contracts: readers of texts. Contracts: the document's answer for spans, compared. Contracts: the document's gathering. Contracts: spans out of bytes. A page out of bytes: what is told of it, and readers moved with their bytes. Contracts: the bytes of spans; a page's bytes. The head of layer 3, span.Same; the laws SpanPuts and SpanGets, walked. Contracts: an index out of bytes. The plain law of IndexFinds: what is put is got, and each trace's page is found. -/
import Derived.Test.YthnjjiflfjegnaaDoorKSpanBackCard2
import Derived.Test.YthnjjiflfjegnaaDoorChecked

set_option linter.unusedSimpArgs false
set_option linter.unusedVariables false

namespace Go.VL

open Go.Proofs

def rd (l : List UInt8) (g : Ver) (at_ bad : Int) : Res := .obj [.sl (bytesAV l) g, .int .i64 at_, .int .i64 bad]

theorem wbad_ok {l : List UInt8} {g : Ver} {at_ bad : Int} {n : Nat} {σ : St} (hr : σ.res n = some (rd l g at_ bad)) : ACalls Tryd.prog n_wbad [.ptr n 0] σ (fun v σ' => v = .int .i64 bad ∧ σ' = σ) := by
  refine s_wbad (fun wf => ?_)
  unfold c_wbad rd at *
  refine T.seq_k (fun K_h1 h1 => ?_)
  refine T.regi hm ?_
  simp only [↓reduceIte, namesOf, List.any, I.names, aops, aopsI, aopsT, qstep, CPt, qget, Tbl.get, astep, ev, setd, List.set, List.getD, List.getElem?_cons_zero, List.getElem?_cons_succ, List.getElem?_nil, List.cons_append, List.nil_append, List.length_cons, List.length_nil, List.replicate, then_normal, inBlock_normal, Option.getD_some, Option.getD_none, Bool.or_false, Bool.or_true, Bool.true_or, Bool.false_or, Bool.false_eq_true, if_false, if_true, up_zero, Nat.reduceAdd, Nat.reduceSub, binv, ↓opt_def, AV.isAny, AV.cells, ldc, List.map_cons, List.map_nil, St.set_next, St.set_same, St.up_next, Int.natCast_nonneg, lt_len, le_len, Int.toNat_natCast, true_and, and_true, eq_self, reduceCtorEq, decide_true, List.length_singleton, er_int, er_bool, er_str]
  refine h1 _ _ ?_
  try clear h1 K_h1
  refine T.seq_k (fun K_h1 h1 => ?_)
  refine T.regi hm ?_
  simp only [↓reduceIte, namesOf, List.any, I.names, aops, aopsI, aopsT, qstep, CPt, qget, Tbl.get, astep, ev, setd, List.set, List.getD, List.getElem?_cons_zero, List.getElem?_cons_succ, List.getElem?_nil, List.cons_append, List.nil_append, List.length_cons, List.length_nil, List.replicate, then_normal, inBlock_normal, Option.getD_some, Option.getD_none, Bool.or_false, Bool.or_true, Bool.true_or, Bool.false_or, Bool.false_eq_true, if_false, if_true, up_zero, Nat.reduceAdd, Nat.reduceSub, binv, ↓opt_def, AV.isAny, AV.cells, ldc, List.map_cons, List.map_nil, St.set_next, St.set_same, St.up_next, Int.natCast_nonneg, lt_len, le_len, Int.toNat_natCast, true_and, and_true, eq_self, reduceCtorEq, decide_true, List.length_singleton, er_int, er_bool, er_str, hr, Nat.zero_add]
  refine h1 _ _ ?_
  try clear h1 K_h1
  exact T.ret (Fin.ret rfl ⟨rfl, rfl⟩)

theorem wleft_ok {l : List UInt8} {g : Ver} {at_ bad : Int} {n : Nat} {σ : St} (hl : l.length ≤ 1099511627776) (h0 : 0 ≤ at_) (h1' : at_ ≤ l.length) (hr : σ.res n = some (rd l g at_ bad)) :
    ACalls Tryd.prog n_wleft [.ptr n 0] σ (fun v σ' => v = .int .i64 (l.length - at_) ∧ σ' = σ) := by
  refine s_wleft (fun wf => ?_)
  unfold c_wleft rd at *
  refine T.seq_k (fun K_h1 h1 => ?_)
  refine T.regi hm ?_
  simp only [↓reduceIte, namesOf, List.any, I.names, aops, aopsI, aopsT, qstep, CPt, qget, Tbl.get, astep, ev, setd, List.set, List.getD, List.getElem?_cons_zero, List.getElem?_cons_succ, List.getElem?_nil, List.cons_append, List.nil_append, List.length_cons, List.length_nil, List.replicate, then_normal, inBlock_normal, Option.getD_some, Option.getD_none, Bool.or_false, Bool.or_true, Bool.true_or, Bool.false_or, Bool.false_eq_true, if_false, if_true, up_zero, Nat.reduceAdd, Nat.reduceSub, binv, ↓opt_def, AV.isAny, AV.cells, ldc, List.map_cons, List.map_nil, St.set_next, St.set_same, St.up_next, Int.natCast_nonneg, lt_len, le_len, Int.toNat_natCast, true_and, and_true, eq_self, reduceCtorEq, decide_true, List.length_singleton, er_int, er_bool, er_str]
  refine h1 _ _ ?_
  try clear h1 K_h1
  refine T.seq_k (fun K_h1 h1 => ?_)
  have e1 : IntKind.i64.wrap ((l.length : Int) - at_) = (l.length : Int) - at_ := wrap64 (by omega) (by omega)
  refine T.regi hm ?_
  simp only [↓reduceIte, namesOf, List.any, I.names, aops, aopsI, aopsT, qstep, CPt, qget, Tbl.get, astep, ev, setd, List.set, List.getD, List.getElem?_cons_zero, List.getElem?_cons_succ, List.getElem?_nil, List.cons_append, List.nil_append, List.length_cons, List.length_nil, List.replicate, then_normal, inBlock_normal, Option.getD_some, Option.getD_none, Bool.or_false, Bool.or_true, Bool.true_or, Bool.false_or, Bool.false_eq_true, if_false, if_true, up_zero, Nat.reduceAdd, Nat.reduceSub, binv, ↓opt_def, AV.isAny, AV.cells, ldc, List.map_cons, List.map_nil, St.set_next, St.set_same, St.up_next, Int.natCast_nonneg, lt_len, le_len, Int.toNat_natCast, true_and, and_true, eq_self, reduceCtorEq, decide_true, List.length_singleton, er_int, er_bool, er_str, hr, Nat.zero_add, bytesAV_len, e1]
  refine h1 _ _ ?_
  try clear h1 K_h1
  exact T.ret (Fin.ret rfl ⟨rfl, rfl⟩)

theorem wfail_ok {l : List UInt8} {g : Ver} {at_ bad x : Int} {n : Nat} {σ : St} (hr : σ.res n = some (rd l g at_ bad)) :
    ACalls Tryd.prog n_wfail [.ptr n 0, .int .i64 x] σ (fun _ σ' => σ' = σ.set n (rd l g at_ (if bad = -1 then x else bad))) := by
  refine s_wfail (fun wf => ?_)
  unfold c_wfail rd at *
  refine T.seq_k (fun K_h1 h1 => ?_)
  by_cases hb : bad = -1
  · have e : (bad == -1) = true := by simpa using hb
    refine T.regi hm ?_
    simp only [↓reduceIte, namesOf, List.any, I.names, aops, aopsI, aopsT, qstep, CPt, qget, Tbl.get, astep, ev, setd, List.set, List.getD, List.getElem?_cons_zero, List.getElem?_cons_succ, List.getElem?_nil, List.cons_append, List.nil_append, List.length_cons, List.length_nil, List.replicate, then_normal, inBlock_normal, Option.getD_some, Option.getD_none, Bool.or_false, Bool.or_true, Bool.true_or, Bool.false_or, Bool.false_eq_true, if_false, if_true, up_zero, Nat.reduceAdd, Nat.reduceSub, binv, ↓opt_def, AV.isAny, AV.cells, ldc, List.map_cons, List.map_nil, St.set_next, St.set_same, St.up_next, Int.natCast_nonneg, lt_len, le_len, Int.toNat_natCast, true_and, and_true, eq_self, reduceCtorEq, decide_true, List.length_singleton, er_int, er_bool, er_str, hr, Nat.zero_add, e]
    refine h1 _ _ ?_
    try clear h1 K_h1
    refine T.cond rfl (fun _ => ?_) (fun h => by cases h)
    refine T.regi hm ?_
    simp only [↓reduceIte, namesOf, List.any, I.names, aops, aopsI, aopsT, qstep, CPt, qget, Tbl.get, astep, ev, setd, List.set, List.getD, List.getElem?_cons_zero, List.getElem?_cons_succ, List.getElem?_nil, List.cons_append, List.nil_append, List.length_cons, List.length_nil, List.replicate, then_normal, inBlock_normal, Option.getD_some, Option.getD_none, Bool.or_false, Bool.or_true, Bool.true_or, Bool.false_or, Bool.false_eq_true, if_false, if_true, up_zero, Nat.reduceAdd, Nat.reduceSub, binv, ↓opt_def, AV.isAny, AV.cells, ldc, List.map_cons, List.map_nil, St.set_next, St.set_same, St.up_next, Int.natCast_nonneg, lt_len, le_len, Int.toNat_natCast, true_and, and_true, eq_self, reduceCtorEq, decide_true, List.length_singleton, er_int, er_bool, er_str, hr, AV.fits, AV.one, List.all_cons, List.all_nil, Nat.reduceBEq, Bool.and_true, Bool.not_false, Bool.and_self, Nat.zero_add, splice, List.take, List.drop, Nat.reduceLeDiff]
    refine Fin.retn rfl ?_
    simp only [hb, if_true]
  · have e : (bad == -1) = false := by simpa using hb
    refine T.regi hm ?_
    simp only [↓reduceIte, namesOf, List.any, I.names, aops, aopsI, aopsT, qstep, CPt, qget, Tbl.get, astep, ev, setd, List.set, List.getD, List.getElem?_cons_zero, List.getElem?_cons_succ, List.getElem?_nil, List.cons_append, List.nil_append, List.length_cons, List.length_nil, List.replicate, then_normal, inBlock_normal, Option.getD_some, Option.getD_none, Bool.or_false, Bool.or_true, Bool.true_or, Bool.false_or, Bool.false_eq_true, if_false, if_true, up_zero, Nat.reduceAdd, Nat.reduceSub, binv, ↓opt_def, AV.isAny, AV.cells, ldc, List.map_cons, List.map_nil, St.set_next, St.set_same, St.up_next, Int.natCast_nonneg, lt_len, le_len, Int.toNat_natCast, true_and, and_true, eq_self, reduceCtorEq, decide_true, List.length_singleton, er_int, er_bool, er_str, hr, Nat.zero_add, e]
    refine h1 _ _ ?_
    try clear h1 K_h1
    refine T.cond rfl (fun h => by cases h) (fun _ => ?_)
    refine T.skip (Fin.retn rfl ?_)
    simp only [if_neg hb]
    have : σ.set n (.obj [.sl (bytesAV l) g, .int .i64 at_, .int .i64 bad]) = σ := by
      rw [← St.set_self hr]
      simp
    exact this.symm

/-- what a reader may be -/
structure Rd (l : List UInt8) (at_ bad : Int) : Prop where
  len : l.length ≤ 1099511627776
  lo : 0 ≤ at_
  hi : at_ ≤ l.length

def takeOk (l : List UInt8) (at_ bad w : Int) : Prop := bad = -1 ∧ w ≤ l.length - at_

theorem wtake_ok {l : List UInt8} {g : Ver} {at_ bad : Int} {w n : Nat} {σ : St} (hd : Rd l at_ bad) (hw : w ≤ 1000000000) (hr : σ.res n = some (rd l g at_ bad)) :
    ACalls Tryd.prog n_wtake [.ptr n 0, .int .i64 w] σ (fun v σ' => (takeOk l at_ bad w ∧ v = .sl (bytesAV ((l.drop at_.toNat).take w)) .none ∧ σ' = σ.set n (rd l g (at_ + w) bad)) ∨
      (¬ takeOk l at_ bad w ∧ v = .sl [] .none ∧ σ' = σ.set n (rd l g at_ (if bad = -1 then at_ else bad)))) := by
  obtain ⟨hl, h0, hhi⟩ := hd
  refine s_wtake (fun wf => ?_)
  unfold c_wtake
  refine T.seq_k (fun K_h1 h1 => ?_)
  refine T.regi hm ?_
  simp only [↓reduceIte, namesOf, List.any, I.names, aops, aopsI, aopsT, qstep, CPt, qget, Tbl.get, astep, ev, setd, List.set, List.getD, List.getElem?_cons_zero, List.getElem?_cons_succ, List.getElem?_nil, List.cons_append, List.nil_append, List.length_cons, List.length_nil, List.replicate, then_normal, inBlock_normal, Option.getD_some, Option.getD_none, Bool.or_false, Bool.or_true, Bool.true_or, Bool.false_or, Bool.false_eq_true, if_false, if_true, up_zero, Nat.reduceAdd, Nat.reduceSub, binv, ↓opt_def, AV.isAny, AV.cells, ldc, List.map_cons, List.map_nil, St.set_next, St.set_same, St.up_next, Int.natCast_nonneg, lt_len, le_len, Int.toNat_natCast, true_and, and_true, eq_self, reduceCtorEq, decide_true, List.length_singleton, er_int, er_bool, er_str]
  refine h1 _ _ ?_
  try clear h1 K_h1
  refine T.seq_k (fun K_h1 h1 => ?_)
  refine T.seq_k (fun K_h2 h2 => ?_)
  have hr' := hr
  unfold rd at hr
  have hfail : ¬ takeOk l at_ bad w → ∀ ρ, keep [0, 23] 0 ρ = [.ptr n 0] ++ List.replicate 22 .any ++ [.bool true] ++ List.replicate 29 .any → K_h2 ρ σ := by
    intro hno ρ hρ
    refine h2 _ _ (T.gh (Gh.keep [0, 23]) ?_)
    rw [hρ]
    clear h1 h2 hρ ρ
    refine T.cond rfl (fun _ => ?_) (fun h => by cases h)
    refine T.seq_k (fun K_h1 h1 => ?_)
    refine T.regi hm ?_
    simp only [↓reduceIte, namesOf, List.any, I.names, aops, aopsI, aopsT, qstep, CPt, qget, Tbl.get, astep, ev, setd, List.set, List.getD, List.getElem?_cons_zero, List.getElem?_cons_succ, List.getElem?_nil, List.cons_append, List.nil_append, List.length_cons, List.length_nil, List.replicate, then_normal, inBlock_normal, Option.getD_some, Option.getD_none, Bool.or_false, Bool.or_true, Bool.true_or, Bool.false_or, Bool.false_eq_true, if_false, if_true, up_zero, Nat.reduceAdd, Nat.reduceSub, binv, ↓opt_def, AV.isAny, AV.cells, ldc, List.map_cons, List.map_nil, St.set_next, St.set_same, St.up_next, Int.natCast_nonneg, lt_len, le_len, Int.toNat_natCast, true_and, and_true, eq_self, reduceCtorEq, decide_true, List.length_singleton, er_int, er_bool, er_str, hr, Nat.zero_add]
    refine (wfail_ok (σ := σ) hr').mono ?_
    rintro v σ2 rfl
    refine h1 _ _ ?_
    try clear h1 K_h1
    refine T.seq_k (fun K_h1 h1 => ?_)
    refine T.regi hm ?_
    simp only [↓reduceIte, namesOf, List.any, I.names, aops, aopsI, aopsT, qstep, CPt, qget, Tbl.get, astep, ev, setd, List.set, List.getD, List.getElem?_cons_zero, List.getElem?_cons_succ, List.getElem?_nil, List.cons_append, List.nil_append, List.length_cons, List.length_nil, List.replicate, then_normal, inBlock_normal, Option.getD_some, Option.getD_none, Bool.or_false, Bool.or_true, Bool.true_or, Bool.false_or, Bool.false_eq_true, if_false, if_true, up_zero, Nat.reduceAdd, Nat.reduceSub, binv, ↓opt_def, AV.isAny, AV.cells, ldc, List.map_cons, List.map_nil, St.set_next, St.set_same, St.up_next, Int.natCast_nonneg, lt_len, le_len, Int.toNat_natCast, true_and, and_true, eq_self, reduceCtorEq, decide_true, List.length_singleton, er_int, er_bool, er_str]
    refine h1 _ _ ?_
    try clear h1 K_h1
    exact T.ret (Fin.retw rfl (Wk.sl _ _) (.inr ⟨hno, rfl, rfl⟩))
  by_cases hbad : bad = -1
  · have e1 : (bad != -1) = false := by simpa using hbad
    have e2 : IntKind.i64.wrap ((l.length : Int) - at_) = (l.length : Int) - at_ := wrap64 (by omega) (by omega)
    by_cases hwl : (w : Int) ≤ l.length - at_
    · have e3 : decide ((w : Int) > (l.length : Int) - at_) = false := decide_eq_false (by omega)
      have e4 : IntKind.i64.wrap (at_ + (w : Int)) = at_ + w := wrap64 (by omega) (by omega)
      have e5 : IntKind.i64.wrap (at_ + (w : Int) - w) = at_ := by rw [wrap64 (by omega) (by omega)]; omega
      refine T.regi hm ?_
      simp only [↓reduceIte, namesOf, List.any, I.names, aops, aopsI, aopsT, qstep, CPt, qget, Tbl.get, astep, ev, setd, List.set, List.getD, List.getElem?_cons_zero, List.getElem?_cons_succ, List.getElem?_nil, List.cons_append, List.nil_append, List.length_cons, List.length_nil, List.replicate, then_normal, inBlock_normal, Option.getD_some, Option.getD_none, Bool.or_false, Bool.or_true, Bool.true_or, Bool.false_or, Bool.false_eq_true, if_false, if_true, up_zero, Nat.reduceAdd, Nat.reduceSub, binv, ↓opt_def, AV.isAny, AV.cells, ldc, List.map_cons, List.map_nil, St.set_next, St.set_same, St.up_next, Int.natCast_nonneg, lt_len, le_len, Int.toNat_natCast, true_and, and_true, eq_self, reduceCtorEq, decide_true, List.length_singleton, er_int, er_bool, er_str, hr, Nat.zero_add, bytesAV_len, e1, e2, e3]
      refine h2 _ _ ?_
      try clear h2 K_h2
      refine T.cond rfl (fun h => by cases h) (fun _ => ?_)
      refine T.skip ?_
      refine h1 _ _ ?_
      try clear h1 K_h1
      refine T.seq_k (fun K_h1 h1 => ?_)
      refine T.regi hm ?_
      simp only [↓reduceIte, namesOf, List.any, I.names, aops, aopsI, aopsT, qstep, CPt, qget, Tbl.get, astep, ev, setd, List.set, List.getD, List.getElem?_cons_zero, List.getElem?_cons_succ, List.getElem?_nil, List.cons_append, List.nil_append, List.length_cons, List.length_nil, List.replicate, then_normal, inBlock_normal, Option.getD_some, Option.getD_none, Bool.or_false, Bool.or_true, Bool.true_or, Bool.false_or, Bool.false_eq_true, if_false, if_true, up_zero, Nat.reduceAdd, Nat.reduceSub, binv, ↓opt_def, AV.isAny, AV.cells, ldc, List.map_cons, List.map_nil, St.set_next, St.set_same, St.up_next, Int.natCast_nonneg, lt_len, le_len, Int.toNat_natCast, true_and, and_true, eq_self, reduceCtorEq, decide_true, List.length_singleton, er_int, er_bool, er_str, hr, e4, AV.fits, AV.one, List.all_cons, List.all_nil, Nat.reduceBEq, Bool.and_true, Bool.not_false, Bool.and_self, Nat.zero_add, splice, List.take, List.drop, Nat.reduceLeDiff]
      refine h1 _ _ ?_
      try clear h1 K_h1
      refine T.seq_k (fun K_h1 h1 => ?_)
      have e6 : 0 ≤ at_ ∧ at_ ≤ at_ + (w : Int) ∧ at_ + (w : Int) ≤ (l.length : Int) := by omega
      refine T.regi hm ?_
      simp only [↓reduceIte, namesOf, List.any, I.names, aops, aopsI, aopsT, qstep, CPt, qget, Tbl.get, astep, ev, setd, List.set, List.getD, List.getElem?_cons_zero, List.getElem?_cons_succ, List.getElem?_nil, List.cons_append, List.nil_append, List.length_cons, List.length_nil, List.replicate, then_normal, inBlock_normal, Option.getD_some, Option.getD_none, Bool.or_false, Bool.or_true, Bool.true_or, Bool.false_or, Bool.false_eq_true, if_false, if_true, up_zero, Nat.reduceAdd, Nat.reduceSub, binv, ↓opt_def, AV.isAny, AV.cells, ldc, List.map_cons, List.map_nil, St.set_next, St.set_same, St.up_next, Int.natCast_nonneg, lt_len, le_len, Int.toNat_natCast, true_and, and_true, eq_self, reduceCtorEq, decide_true, List.length_singleton, er_int, er_bool, er_str, e5, Nat.zero_add, idx, bytesAV_len, bytes_all, e6]
      refine h1 _ _ ?_
      try clear h1 K_h1
      refine T.ret (Fin.retw rfl (Wk.sl _ _) (.inl ⟨⟨hbad, hwl⟩, ?_, rfl⟩))
      rw [show (at_ + (w : Int) - at_).toNat = w by omega, bytes_drop, bytes_take]
    · have e3 : decide ((w : Int) > (l.length : Int) - at_) = true := decide_eq_true (by omega)
      refine T.regi hm ?_
      simp only [↓reduceIte, namesOf, List.any, I.names, aops, aopsI, aopsT, qstep, CPt, qget, Tbl.get, astep, ev, setd, List.set, List.getD, List.getElem?_cons_zero, List.getElem?_cons_succ, List.getElem?_nil, List.cons_append, List.nil_append, List.length_cons, List.length_nil, List.replicate, then_normal, inBlock_normal, Option.getD_some, Option.getD_none, Bool.or_false, Bool.or_true, Bool.true_or, Bool.false_or, Bool.false_eq_true, if_false, if_true, up_zero, Nat.reduceAdd, Nat.reduceSub, binv, ↓opt_def, AV.isAny, AV.cells, ldc, List.map_cons, List.map_nil, St.set_next, St.set_same, St.up_next, Int.natCast_nonneg, lt_len, le_len, Int.toNat_natCast, true_and, and_true, eq_self, reduceCtorEq, decide_true, List.length_singleton, er_int, er_bool, er_str, hr, Nat.zero_add, bytesAV_len, e1, e2, e3]
      exact hfail (fun h => hwl h.2) _ rfl
  · have e1 : (bad != -1) = true := by simpa using hbad
    refine T.regi hm ?_
    simp only [↓reduceIte, namesOf, List.any, I.names, aops, aopsI, aopsT, qstep, CPt, qget, Tbl.get, astep, ev, setd, List.set, List.getD, List.getElem?_cons_zero, List.getElem?_cons_succ, List.getElem?_nil, List.cons_append, List.nil_append, List.length_cons, List.length_nil, List.replicate, then_normal, inBlock_normal, Option.getD_some, Option.getD_none, Bool.or_false, Bool.or_true, Bool.true_or, Bool.false_or, Bool.false_eq_true, if_false, if_true, up_zero, Nat.reduceAdd, Nat.reduceSub, binv, ↓opt_def, AV.isAny, AV.cells, ldc, List.map_cons, List.map_nil, St.set_next, St.set_same, St.up_next, Int.natCast_nonneg, lt_len, le_len, Int.toNat_natCast, true_and, and_true, eq_self, reduceCtorEq, decide_true, List.length_singleton, er_int, er_bool, er_str, hr, Nat.zero_add, e1]
    exact hfail (fun h => hbad h.1) _ rfl

def numB (l : List UInt8) : Nat := l.foldl (fun n b => 256 * n + b.toNat) 0

theorem numB_take {l : List UInt8} {i : Nat} (h : i < l.length) : numB (l.take (i + 1)) = 256 * numB (l.take i) + l[i].toNat := by
  unfold numB; rw [List.take_succ_eq_append_getElem h, List.foldl_append]; rfl

theorem numB_lt : ∀ (l : List UInt8) (i : Nat), i ≤ l.length → numB (l.take i) < 256 ^ i
  | l, 0, _ => by simp [numB]
  | l, i + 1, h => by
    have h1 := numB_lt l i (by omega)
    have h2 := (l[i]'(by omega)).toNat_lt
    rw [numB_take (by omega), Nat.pow_succ]
    omega

theorem u64_shl8 (a : Nat) (h : a < 72057594037927936) : IntKind.u64.wrap ((a : Int) * 2 ^ min (8 : Int).toNat IntKind.u64.bits) = ((a * 256 : Nat) : Int) := by
  have : (2 : Int) ^ min (8 : Int).toNat IntKind.u64.bits = 256 := by simp [IntKind.bits]
  rw [this]
  simp [IntKind.wrap, IntKind.bits, IntKind.signed]; omega

theorem u64_byte (b : UInt8) : IntKind.u64.wrap (b.toNat : Int) = (b.toNat : Int) := by
  have := b.toNat_lt
  simp [IntKind.wrap, IntKind.bits, IntKind.signed]; omega

theorem u64_or (a : Nat) (b : UInt8) (h : a < 72057594037927936) : IntKind.u64.wrap ((BitVec.ofInt IntKind.u64.bits ((a * 256 : Nat) : Int) ||| BitVec.ofInt IntKind.u64.bits (b.toNat : Int)).toNat) = ((256 * a + b.toNat : Nat) : Int) := by
  have hb := b.toNat_lt
  have h1 : BitVec.ofInt IntKind.u64.bits ((a * 256 : Nat) : Int) = BitVec.ofNat 64 (a * 256) := BitVec.ofInt_natCast ..
  have h2 : BitVec.ofInt IntKind.u64.bits (b.toNat : Int) = BitVec.ofNat 64 b.toNat := BitVec.ofInt_natCast ..
  rw [h1, h2]
  have h3 : (BitVec.ofNat 64 (a * 256) ||| BitVec.ofNat 64 b.toNat : BitVec 64).toNat = 256 * a + b.toNat := by
    rw [BitVec.toNat_or, BitVec.toNat_ofNat, BitVec.toNat_ofNat, Nat.mod_eq_of_lt (by omega), Nat.mod_eq_of_lt (by omega)]
    have := Nat.shiftLeft_add_eq_or_of_lt (b := b.toNat) (i := 8) (by omega) a
    rw [Nat.shiftLeft_eq] at this
    rw [show a * 256 = a * 2 ^ 8 from rfl, ← this]; omega
  show IntKind.u64.wrap (((BitVec.ofNat 64 (a * 256) ||| BitVec.ofNat 64 b.toNat : BitVec 64).toNat : Nat) : Int) = _
  rw [h3]
  simp [IntKind.wrap, IntKind.bits, IntKind.signed]; omega

set_option maxHeartbeats 1000000 in
theorem wword_ok {l : List UInt8} {g : Ver} {at_ bad : Int} {w n : Nat} {σ : St} (hd : Rd l at_ bad) (hw : rightB w = true) (hr : σ.res n = some (rd l g at_ bad)) :
    ACalls Tryd.prog n_wword [.ptr n 0, .int .i64 w] σ (fun v σ' => (takeOk l at_ bad w ∧ v = .int .u64 (numB ((l.drop at_.toNat).take w) : Int) ∧ σ' = σ.set n (rd l g (at_ + w) bad)) ∨
      (¬ takeOk l at_ bad w ∧ v = .int .u64 0 ∧ σ' = σ.set n (rd l g at_ (if bad = -1 then at_ else bad)))) := by
  have hw8 : w ≤ 8 := by simp [rightB] at hw; omega
  refine s_wword (fun wf => ?_)
  unfold c_wword
  refine T.seq_k (fun K_h1 h1 => ?_)
  refine T.regi hm ?_
  simp only [↓reduceIte, namesOf, List.any, I.names, aops, aopsI, aopsT, qstep, CPt, qget, Tbl.get, astep, ev, setd, List.set, List.getD, List.getElem?_cons_zero, List.getElem?_cons_succ, List.getElem?_nil, List.cons_append, List.nil_append, List.length_cons, List.length_nil, List.replicate, then_normal, inBlock_normal, Option.getD_some, Option.getD_none, Bool.or_false, Bool.or_true, Bool.true_or, Bool.false_or, Bool.false_eq_true, if_false, if_true, up_zero, Nat.reduceAdd, Nat.reduceSub, binv, ↓opt_def, AV.isAny, AV.cells, ldc, List.map_cons, List.map_nil, St.set_next, St.set_same, St.up_next, Int.natCast_nonneg, lt_len, le_len, Int.toNat_natCast, true_and, and_true, eq_self, reduceCtorEq, decide_true, List.length_singleton, er_int, er_bool, er_str]
  refine h1 _ _ ?_
  try clear h1 K_h1
  refine T.seq_k (fun K_h1 h1 => ?_)
  refine T.seq_k (fun K_h2 h2 => ?_)
  refine T.regt hm t1_ok ?_
  simp only [↓reduceIte, namesOf, List.any, I.names, aops, aopsI, aopsT, qstep, CPt, qget, Tbl.get, astep, ev, setd, List.set, List.getD, List.getElem?_cons_zero, List.getElem?_cons_succ, List.getElem?_nil, List.cons_append, List.nil_append, List.length_cons, List.length_nil, List.replicate, then_normal, inBlock_normal, Option.getD_some, Option.getD_none, Bool.or_false, Bool.or_true, Bool.true_or, Bool.false_or, Bool.false_eq_true, if_false, if_true, up_zero, Nat.reduceAdd, Nat.reduceSub, binv, ↓opt_def, AV.isAny, AV.cells, ldc, List.map_cons, List.map_nil, St.set_next, St.set_same, St.up_next, Int.natCast_nonneg, lt_len, le_len, Int.toNat_natCast, true_and, and_true, eq_self, reduceCtorEq, decide_true, List.length_singleton, er_int, er_bool, er_str, Nat.reduceEqDiff, t1, g_right, hw]
  refine h2 _ _ ?_
  try clear h2 K_h2
  refine T.cond rfl (fun h => by cases h) (fun _ => ?_)
  refine T.skip ?_
  refine h1 _ _ ?_
  try clear h1 K_h1
  refine T.seq_k (fun K_h1 h1 => ?_)
  refine T.regi hm ?_
  simp only [↓reduceIte, namesOf, List.any, I.names, aops, aopsI, aopsT, qstep, CPt, qget, Tbl.get, astep, ev, setd, List.set, List.getD, List.getElem?_cons_zero, List.getElem?_cons_succ, List.getElem?_nil, List.cons_append, List.nil_append, List.length_cons, List.length_nil, List.replicate, then_normal, inBlock_normal, Option.getD_some, Option.getD_none, Bool.or_false, Bool.or_true, Bool.true_or, Bool.false_or, Bool.false_eq_true, if_false, if_true, up_zero, Nat.reduceAdd, Nat.reduceSub, binv, ↓opt_def, AV.isAny, AV.cells, ldc, List.map_cons, List.map_nil, St.set_next, St.set_same, St.up_next, Int.natCast_nonneg, lt_len, le_len, Int.toNat_natCast, true_and, and_true, eq_self, reduceCtorEq, decide_true, List.length_singleton, er_int, er_bool, er_str]
  refine h1 _ _ ?_
  try clear h1 K_h1
  refine T.seq_k (fun K_h1 h1 => ?_)
  refine T.seq_k (fun K_h2 h2 => ?_)
  have hloop : ∀ (bs : List UInt8) (σ1 : St), bs.length ≤ 8 → ∀ ρ, keep [5, 19, 20, 21] 0 ρ = List.replicate 5 .any ++ [.int .u64 0] ++ List.replicate 13 .any ++ [.sl (bytesAV bs) .none, .int .i64 (bs.length : Int), .int .i64 0] ++ List.replicate 10 .any →
      (∀ ρ, keep [5] 0 ρ = List.replicate 5 .any ++ [.int .u64 (numB bs : Int)] ++ List.replicate 26 .any → K_h1 ρ σ1) → K_h2 ρ σ1 := by
    intro bs σ1 hbl ρ hρ hend
    refine h2 _ _ ?_
    refine T.block ?_
    refine T.gh (Gh.keep [5, 19, 20, 21]) ?_
    rw [hρ]
    clear h2 hρ ρ
    refine T.loop (fun ρ σ' => σ' = σ1 ∧ ∃ (i : Nat), i ≤ bs.length ∧ ρ = List.replicate 5 .any ++ [.int .u64 (numB (bs.take i) : Int)] ++ List.replicate 13 .any ++ [.sl (bytesAV bs) .none, .int .i64 (bs.length : Int), .int .i64 (i : Int)] ++ List.replicate 10 .any)
      (fun ρ _ => match ρ.getD 21 .any with | .int _ m => (bs.length - m).toNat | _ => 0) ⟨rfl, 0, Nat.zero_le _, rfl⟩ ?_
    rintro ρ σ' ⟨rfl, i, hi, rfl⟩
    refine T.seq_k (fun K_h2 h2 => ?_)
    refine T.regi hm ?_
    simp only [↓reduceIte, namesOf, List.any, I.names, aops, aopsI, aopsT, qstep, CPt, qget, Tbl.get, astep, ev, setd, List.set, List.getD, List.getElem?_cons_zero, List.getElem?_cons_succ, List.getElem?_nil, List.cons_append, List.nil_append, List.length_cons, List.length_nil, List.replicate, then_normal, inBlock_normal, Option.getD_some, Option.getD_none, Bool.or_false, Bool.or_true, Bool.true_or, Bool.false_or, Bool.false_eq_true, if_false, if_true, up_zero, Nat.reduceAdd, Nat.reduceSub, binv, ↓opt_def, AV.isAny, AV.cells, ldc, List.map_cons, List.map_nil, St.set_next, St.set_same, St.up_next, Int.natCast_nonneg, lt_len, le_len, Int.toNat_natCast, true_and, and_true, eq_self, reduceCtorEq, decide_true, List.length_singleton, er_int, er_bool, er_str]
    refine h2 _ _ ?_
    try clear h2 K_h2
    refine T.seq_k (fun K_h2 h2 => ?_)
    refine T.cond rfl (fun hb => ?_) (fun hb => ?_)
    · refine T.skip ?_
      refine h2 _ _ ?_
      try clear h2 K_h2
      have hil : i < bs.length := by simp at hb; omega
      clear hb
      have hlt := numB_lt bs i (by omega)
      have h256 : 256 ^ i ≤ 256 ^ 7 := Nat.pow_le_pow_right (by omega) (by omega)
      have hlt' : numB (bs.take i) < 72057594037927936 := by omega
      have e1 := u64_shl8 _ hlt'
      have e2 := u64_or _ bs[i] hlt'
      have e3 := u64_byte bs[i]
      rw [← numB_take hil] at e2
      refine T.seq_k (fun K_h2 h2 => ?_)
      refine T.block ?_
      refine T.seq_k (fun K_h3 h3 => ?_)
      refine T.regi hm ?_
      simp only [↓reduceIte, namesOf, List.any, I.names, aops, aopsI, aopsT, qstep, CPt, qget, Tbl.get, astep, ev, setd, List.set, List.getD, List.getElem?_cons_zero, List.getElem?_cons_succ, List.getElem?_nil, List.cons_append, List.nil_append, List.length_cons, List.length_nil, List.replicate, then_normal, inBlock_normal, Option.getD_some, Option.getD_none, Bool.or_false, Bool.or_true, Bool.true_or, Bool.false_or, Bool.false_eq_true, if_false, if_true, up_zero, Nat.reduceAdd, Nat.reduceSub, binv, ↓opt_def, AV.isAny, AV.cells, ldc, List.map_cons, List.map_nil, St.set_next, St.set_same, St.up_next, Int.natCast_nonneg, lt_len, le_len, Int.toNat_natCast, true_and, and_true, eq_self, reduceCtorEq, decide_true, List.length_singleton, er_int, er_bool, er_str, bytesAV_len, bytes_get hil, hil]
      refine h3 _ _ ?_
      try clear h3 K_h3
      refine T.regi hm ?_
      simp only [↓reduceIte, namesOf, List.any, I.names, aops, aopsI, aopsT, qstep, CPt, qget, Tbl.get, astep, ev, setd, List.set, List.getD, List.getElem?_cons_zero, List.getElem?_cons_succ, List.getElem?_nil, List.cons_append, List.nil_append, List.length_cons, List.length_nil, List.replicate, then_normal, inBlock_normal, Option.getD_some, Option.getD_none, Bool.or_false, Bool.or_true, Bool.true_or, Bool.false_or, Bool.false_eq_true, if_false, if_true, up_zero, Nat.reduceAdd, Nat.reduceSub, binv, ↓opt_def, AV.isAny, AV.cells, ldc, List.map_cons, List.map_nil, St.set_next, St.set_same, St.up_next, Int.natCast_nonneg, lt_len, le_len, Int.toNat_natCast, true_and, and_true, eq_self, reduceCtorEq, decide_true, List.length_singleton, er_int, er_bool, er_str, e1, e2, e3, show ¬ ((8 : Int) < 0) by omega]
      refine h2 _ _ ?_
      try clear h2 K_h2
      have e4 : IntKind.i64.wrap ((i : Int) + 1) = (i : Int) + 1 := wrap64 (by omega) (by omega)
      refine T.regi hm ?_
      simp only [↓reduceIte, namesOf, List.any, I.names, aops, aopsI, aopsT, qstep, CPt, qget, Tbl.get, astep, ev, setd, List.set, List.getD, List.getElem?_cons_zero, List.getElem?_cons_succ, List.getElem?_nil, List.cons_append, List.nil_append, List.length_cons, List.length_nil, List.replicate, then_normal, inBlock_normal, Option.getD_some, Option.getD_none, Bool.or_false, Bool.or_true, Bool.true_or, Bool.false_or, Bool.false_eq_true, if_false, if_true, up_zero, Nat.reduceAdd, Nat.reduceSub, binv, ↓opt_def, AV.isAny, AV.cells, ldc, List.map_cons, List.map_nil, St.set_next, St.set_same, St.up_next, Int.natCast_nonneg, lt_len, le_len, Int.toNat_natCast, true_and, and_true, eq_self, reduceCtorEq, decide_true, List.length_singleton, er_int, er_bool, er_str, e4]
      refine ⟨_, _, Gh.keep [5, 19, 20, 21], ⟨rfl, i + 1, hil, rfl⟩, ?_⟩
      show ((bs.length : Int) - ((i : Int) + 1)).toNat < ((bs.length : Int) - (i : Int)).toNat
      omega
    · refine T.exit ?_
      have : i = bs.length := by simp at hb; omega
      subst this
      rw [List.take_length]
      exact hend _ rfl
  refine T.regi hm ?_
  simp only [↓reduceIte, namesOf, List.any, I.names, aops, aopsI, aopsT, qstep, CPt, qget, Tbl.get, astep, ev, setd, List.set, List.getD, List.getElem?_cons_zero, List.getElem?_cons_succ, List.getElem?_nil, List.cons_append, List.nil_append, List.length_cons, List.length_nil, List.replicate, then_normal, inBlock_normal, Option.getD_some, Option.getD_none, Bool.or_false, Bool.or_true, Bool.true_or, Bool.false_or, Bool.false_eq_true, if_false, if_true, up_zero, Nat.reduceAdd, Nat.reduceSub, binv, ↓opt_def, AV.isAny, AV.cells, ldc, List.map_cons, List.map_nil, St.set_next, St.set_same, St.up_next, Int.natCast_nonneg, lt_len, le_len, Int.toNat_natCast, true_and, and_true, eq_self, reduceCtorEq, decide_true, List.length_singleton, er_int, er_bool, er_str]
  refine (wtake_ok hd (by omega) hr).mono ?_
  have hfin : ∀ (x : Int) (σ1 : St), ((takeOk l at_ bad w ∧ AV.int .u64 x = .int .u64 (numB ((l.drop at_.toNat).take w) : Int) ∧ σ1 = σ.set n (rd l g (at_ + w) bad)) ∨
      (¬ takeOk l at_ bad w ∧ AV.int .u64 x = .int .u64 0 ∧ σ1 = σ.set n (rd l g at_ (if bad = -1 then at_ else bad)))) → ∀ ρ, keep [5] 0 ρ = List.replicate 5 .any ++ [.int .u64 x] ++ List.replicate 26 .any → K_h1 ρ σ1 := by
    intro x σ1 hx ρ h5
    refine h1 _ _ (T.gh (Gh.keep [5]) ?_)
    rw [h5]
    clear h1 hloop h2 h5 ρ
    refine T.seq_k (fun K_h1 h1 => ?_)
    refine T.regi hm ?_
    simp only [↓reduceIte, namesOf, List.any, I.names, aops, aopsI, aopsT, qstep, CPt, qget, Tbl.get, astep, ev, setd, List.set, List.getD, List.getElem?_cons_zero, List.getElem?_cons_succ, List.getElem?_nil, List.cons_append, List.nil_append, List.length_cons, List.length_nil, List.replicate, then_normal, inBlock_normal, Option.getD_some, Option.getD_none, Bool.or_false, Bool.or_true, Bool.true_or, Bool.false_or, Bool.false_eq_true, if_false, if_true, up_zero, Nat.reduceAdd, Nat.reduceSub, binv, ↓opt_def, AV.isAny, AV.cells, ldc, List.map_cons, List.map_nil, St.set_next, St.set_same, St.up_next, Int.natCast_nonneg, lt_len, le_len, Int.toNat_natCast, true_and, and_true, eq_self, reduceCtorEq, decide_true, List.length_singleton, er_int, er_bool, er_str]
    refine h1 _ _ ?_
    try clear h1 K_h1
    exact T.ret (Fin.ret rfl hx)
  rintro v σ2 (⟨hok, rfl, rfl⟩ | ⟨hok, rfl, rfl⟩)
  · have hbl : ((l.drop at_.toNat).take w).length ≤ 8 := by rw [List.length_take]; omega
    try simp only [↓reduceIte, namesOf, List.any, I.names, aops, aopsI, aopsT, qstep, CPt, qget, Tbl.get, astep, ev, setd, List.set, List.getD, List.getElem?_cons_zero, List.getElem?_cons_succ, List.getElem?_nil, List.cons_append, List.nil_append, List.length_cons, List.length_nil, List.replicate, then_normal, inBlock_normal, Option.getD_some, Option.getD_none, Bool.or_false, Bool.or_true, Bool.true_or, Bool.false_or, Bool.false_eq_true, if_false, if_true, up_zero, Nat.reduceAdd, Nat.reduceSub, binv, ↓opt_def, AV.isAny, AV.cells, ldc, List.map_cons, List.map_nil, St.set_next, St.set_same, St.up_next, Int.natCast_nonneg, lt_len, le_len, Int.toNat_natCast, true_and, and_true, eq_self, reduceCtorEq, decide_true, List.length_singleton, er_int, er_bool, er_str, bytesAV_len]
    exact hloop _ _ hbl _ rfl (fun ρ h5 => hfin _ _ (.inl ⟨hok, rfl, rfl⟩) ρ h5)
  · try simp only [↓reduceIte, namesOf, List.any, I.names, aops, aopsI, aopsT, qstep, CPt, qget, Tbl.get, astep, ev, setd, List.set, List.getD, List.getElem?_cons_zero, List.getElem?_cons_succ, List.getElem?_nil, List.cons_append, List.nil_append, List.length_cons, List.length_nil, List.replicate, then_normal, inBlock_normal, Option.getD_some, Option.getD_none, Bool.or_false, Bool.or_true, Bool.true_or, Bool.false_or, Bool.false_eq_true, if_false, if_true, up_zero, Nat.reduceAdd, Nat.reduceSub, binv, ↓opt_def, AV.isAny, AV.cells, ldc, List.map_cons, List.map_nil, St.set_next, St.set_same, St.up_next, Int.natCast_nonneg, lt_len, le_len, Int.toNat_natCast, true_and, and_true, eq_self, reduceCtorEq, decide_true, List.length_singleton, er_int, er_bool, er_str, List.length_nil]
    exact hloop [] _ (by simp) _ rfl (fun ρ h5 => hfin _ _ (.inr ⟨hok, rfl, rfl⟩) ρ h5)

end Go.VL

namespace Go.VL

open Go.Proofs

def g_wide : List AV → Option AV
  | [.int .i64 w] => some (.bool (rightB w))
  | _ => none

def t3 : Tbl := [(n_wide, g_wide)]

end Go.VL

namespace Go.VL

open Go.Proofs

theorem set_quiet {σ σ' : St} (wf : WF σ) (hn : σ.next ≤ σ'.next) (ho : ∀ n x, σ.res n = some x → σ'.res n = some x) {k a : Nat} (r : Res) (ha : σ'.next ≤ a) : ∀ n x, σ.res n = some x → ((σ'.up k).set a r).res n = some x := by
  intro n x hr
  have hn' : n < σ.next := by
    rcases Nat.lt_or_ge n σ.next with h | h
    · exact h
    · rw [wf n h] at hr; cases hr
  rw [St.set_other _ _ (by omega)]; exact ho n x hr

end Go.VL

namespace Go.VL

open Go.Proofs

/-- how far a reader is, and where something is amiss (-1: nowhere) -/
structure Rs where
  at_ : Int
  bad : Int

def Rs.ok (l : List UInt8) (s : Rs) : Prop := Rd l s.at_ s.bad ∧ (s.bad = -1 ∨ 0 ≤ s.bad)

def r0 : Rs := ⟨0, -1⟩

/-- may so many bytes be taken? -/
def rT (l : List UInt8) (s : Rs) (w : Int) : Bool := decide (s.bad = -1 ∧ w ≤ l.length - s.at_)

def rF (s : Rs) : Rs := ⟨s.at_, if s.bad = -1 then s.at_ else s.bad⟩

/-- a word -/
def rW (l : List UInt8) (s : Rs) (w : Nat) : Nat := if rT l s w then numB ((l.drop s.at_.toNat).take w) else 0

/-- the reader behind it -/
def rN (l : List UInt8) (s : Rs) (w : Nat) : Rs := if rT l s w then ⟨s.at_ + w, s.bad⟩ else rF s

def rdS (l : List UInt8) (g : Ver) (s : Rs) : Res := rd l g s.at_ s.bad

theorem rT_iff {l : List UInt8} {s : Rs} {w : Int} : rT l s w = true ↔ takeOk l s.at_ s.bad w := by unfold rT takeOk; simp

theorem Rs.ok_r0 {l : List UInt8} (h : l.length ≤ 1099511627776) : Rs.ok l r0 := ⟨⟨h, by simp [r0], by simp [r0]⟩, .inl rfl⟩

theorem rF_ok {l : List UInt8} {s : Rs} (h : s.ok l) : (rF s).ok l := by
  obtain ⟨⟨h1, h2, h3⟩, h4⟩ := h
  refine ⟨⟨h1, h2, h3⟩, ?_⟩
  simp only [rF]
  split
  · exact .inr h2
  · rcases h4 with h4 | h4
    · rename_i hh; exact absurd h4 hh
    · exact .inr h4

theorem rN_ok {l : List UInt8} {s : Rs} {w : Nat} (h : s.ok l) : (rN l s w).ok l := by
  unfold rN
  split
  · rename_i ht
    obtain ⟨⟨h1, h2, h3⟩, h4⟩ := h
    rw [rT_iff] at ht
    obtain ⟨t1, t2⟩ := ht
    exact ⟨⟨h1, by simp only; omega, by simp only; omega⟩, .inl t1⟩
  · exact rF_ok h

theorem rW_lt {l : List UInt8} {s : Rs} {w : Nat} (h : s.ok l) : rW l s w < 256 ^ w := by
  unfold rW
  split
  · rename_i ht
    rw [rT_iff] at ht
    obtain ⟨⟨h1, h2, h3⟩, h4⟩ := h
    have hlen : w ≤ (l.drop s.at_.toNat).length := by
      rw [List.length_drop]; have := ht.2; omega
    exact numB_lt _ _ hlen
  · exact Nat.pow_pos (by decide)

theorem wwordF {l : List UInt8} {g : Ver} {s : Rs} {w n : Nat} {σ : St} (hd : s.ok l) (hw : rightB w = true) (hr : σ.res n = some (rdS l g s)) :
    ACalls Tryd.prog n_wword [.ptr n 0, .int .i64 w] σ (fun v σ' => v = .int .u64 (rW l s w : Int) ∧ σ' = σ.set n (rdS l g (rN l s w))) := by
  refine (wword_ok hd.1 hw hr).mono ?_
  rintro v σ' (⟨h1, rfl, rfl⟩ | ⟨h1, rfl, rfl⟩)
  · have : rT l s w = true := rT_iff.2 h1
    simp only [rW, rN, this, if_true]
    exact ⟨trivial, rfl⟩
  · have : rT l s w = false := by
      rw [Bool.eq_false_iff]; exact fun h => h1 (rT_iff.1 h)
    simp only [rW, rN, this, Bool.false_eq_true, if_false]
    exact ⟨rfl, rfl⟩

theorem wreadF {l : List UInt8} {σ : St} : ACalls Tryd.prog n_wread [.sl (bytesAV l) .none] σ (fun v σ' => ∃ nm, v = .ptr nm 0 ∧ σ'.res nm = some (rdS l .none r0) ∧ σ.next ≤ nm ∧ nm < σ'.next ∧ ∀ m, m < σ.next → σ'.res m = σ.res m) := by
  refine s_wread (fun wf => ?_)
  unfold c_wread
  refine T.seq_k (fun K_h0 h0 => ?_)
  refine T.regi hm ?_
  simp only [↓reduceIte, namesOf, List.any, I.names, aops, aopsI, aopsT, qstep, CPt, qget, Tbl.get, astep, ev, setd, List.set, List.getD, List.getElem?_cons_zero, List.getElem?_cons_succ, List.getElem?_nil, List.cons_append, List.nil_append, List.length_cons, List.length_nil, List.replicate, then_normal, inBlock_normal, Option.getD_some, Option.getD_none, Bool.or_false, Bool.or_true, Bool.true_or, Bool.false_or, Bool.false_eq_true, if_false, if_true, up_zero, Nat.reduceAdd, Nat.reduceSub, binv, ↓opt_def, AV.isAny, AV.cells, ldc, List.map_cons, List.map_nil, St.set_next, St.set_same, St.up_next, Int.natCast_nonneg, lt_len, le_len, Int.toNat_natCast, true_and, and_true, eq_self, reduceCtorEq, decide_true, List.length_singleton, er_int, er_bool, er_str]
  refine h0 _ _ ?_
  try clear h0 K_h0
  refine T.seq_k (fun K_h1 h1 => ?_)
  refine T.regi hm ?_
  simp only [↓reduceIte, namesOf, List.any, I.names, aops, aopsI, aopsT, qstep, CPt, qget, Tbl.get, astep, ev, setd, List.set, List.getD, List.getElem?_cons_zero, List.getElem?_cons_succ, List.getElem?_nil, List.cons_append, List.nil_append, List.length_cons, List.length_nil, List.replicate, then_normal, inBlock_normal, Option.getD_some, Option.getD_none, Bool.or_false, Bool.or_true, Bool.true_or, Bool.false_or, Bool.false_eq_true, if_false, if_true, up_zero, Nat.reduceAdd, Nat.reduceSub, binv, ↓opt_def, AV.isAny, AV.cells, ldc, List.map_cons, List.map_nil, St.set_next, St.set_same, St.up_next, Int.natCast_nonneg, lt_len, le_len, Int.toNat_natCast, true_and, and_true, eq_self, reduceCtorEq, decide_true, List.length_singleton, er_int, er_bool, er_str, fillA, Option.map_some, AV.fits, AV.one, List.all_cons, List.all_nil, Nat.reduceBEq, Bool.and_true, Bool.not_false, Bool.and_self, Nat.zero_add, splice, List.take, List.drop, Nat.reduceLeDiff]
  refine h1 _ ((σ.up 4).set (σ.next + 2) (rd l .none 0 (-1))) ?_
  exact T.ret (Fin.ret rfl ⟨σ.next + 2, rfl, by simp [rdS, r0], by omega, by simp, fun m hm => by rw [St.set_other _ _ (by omega)]; rfl⟩)

end Go.VL

namespace Go.VL

open Go.Proofs

/-- the same, and perhaps more behind it -/
structure Like (ρ τ : St) : Prop where
  next : ρ.next ≤ τ.next
  same : ∀ n, n < ρ.next → τ.res n = ρ.res n

theorem Like.refl (σ : St) : Like σ σ := ⟨Nat.le_refl _, fun _ _ => rfl⟩

theorem Like.trans {a b c : St} (h : Like a b) (k : Like b c) : Like a c := ⟨Nat.le_trans h.next k.next, fun n hn => (k.same n (Nat.lt_of_lt_of_le hn h.next)).trans (h.same n hn)⟩

theorem Like.up {a b : St} (h : Like a b) (k : Nat) : Like a (b.up k) := ⟨Nat.le_trans h.next (Nat.le_add_right _ _), h.same⟩

theorem Like.set {a b : St} (h : Like a b) {n : Nat} (r : Res) (hn : a.next ≤ n) : Like a (b.set n r) := ⟨h.next, fun m hm => by rw [St.set_other _ _ (by omega)]; exact h.same m hm⟩

theorem Like.del {a b : St} (h : Like a b) {n : Nat} (hn : a.next ≤ n) : Like a (b.del n) := ⟨h.next, fun m hm => by
  have : m ≠ n := by omega
  rw [← h.same m hm]; simp [St.del, this]⟩

theorem Like.put {a b : St} (h : Like a b) (n : Nat) (r : Res) : Like (a.set n r) (b.set n r) := ⟨h.next, fun m hm => by
  have hm' : m < a.next := hm
  by_cases e : m = n
  · subst e; simp
  · rw [St.set_other _ _ e, St.set_other _ _ e]; exact h.same m hm'⟩

theorem Like.one {σ σ' : St} {g k : Nat} (h : OneTip σ σ' g k) : Like σ σ' := ⟨by have := h.lo; have := h.hi; omega, fun n hn => by rw [h.res, St.set_other _ _ (by have := h.lo; omega)]⟩

theorem Like.get {a b : St} (h : Like a b) {n : Nat} (hn : n < a.next) {r : Res} (hr : a.res n = some r) : b.res n = some r := by rw [h.same n hn]; exact hr

theorem WF.lt {σ : St} (wf : WF σ) {n : Nat} {r : Res} (h : σ.res n = some r) : n < σ.next := by
  rcases Nat.lt_or_ge n σ.next with h' | h'
  · exact h'
  · rw [wf n h'] at h; cases h

/-- what is left behind a call may be told as it is, but for names that nobody knows -/
theorem Gv.like {σ0 τ ρ : St} {x : AV} (h : Like ρ τ) (hn : ρ.next = σ0.next) (hx : x.nb σ0.next) (hr : ∀ n r, ρ.res n = some r → n < σ0.next ∧ (σ0.res n = some r ∨ r.nb σ0.next)) : Gv σ0 x τ x ρ :=
  .cut (Nat.le_of_eq hn.symm) (by rw [hn]; exact hx) (fun n r hnr => by
    obtain ⟨h1, h2⟩ := hr n r hnr
    refine ⟨by rw [h.same n (by omega)]; exact hnr, ?_⟩
    rcases h2 with h2 | h2
    · exact .inl h2
    · exact .inr ⟨by omega, by rw [hn]; exact h2⟩)

theorem u64w {n : Nat} (h : n < 18446744073709551616) : IntKind.u64.wrap (n : Int) = (n : Int) := by
  simp [IntKind.wrap, IntKind.bits, IntKind.signed]; omega

theorem inc64' {i n : Nat} (h : i < n) (hn : n ≤ 4611686018427387904) : IntKind.i64.wrap ((i : Int) + 1) = ((i + 1 : Nat) : Int) := by
  rw [wrap64 (by omega) (by omega)]; omega

/-- a named end, and what was there ahead of it -/
structure Tq (σ t : St) (g k : Nat) : Prop where
  like : Like σ t
  at_ : t.res g = some (.tip k)
  lo : σ.next ≤ g
  hi : g < t.next

theorem Tq.ats {σ t : St} {g k : Nat} (h : Tq σ t g k) : ∀ n, (t.up n).res g = some (.tip k) := fun _ => h.at_

theorem Tq.up {σ t : St} {g k : Nat} (h : Tq σ t g k) (n : Nat) : Tq σ (t.up n) g k := ⟨h.like.up n, h.at_, h.lo, Nat.lt_of_lt_of_le h.hi (Nat.le_add_right _ _)⟩

theorem Tq.new {σ t : St} (h : Like σ t) {n i : Nat} (hi : i < n) (k : Nat) : Tq σ ((t.up n).set (t.next + i) (.tip k)) (t.next + i) k :=
  ⟨(h.up n).set _ (by have := h.next; omega), by simp, by have := h.next; omega, by simp; omega⟩

theorem Tq.app {σ t : St} {g k : Nat} (h : Tq σ t g k) {n i : Nat} (hi : i < n) : Tq σ (((t.up n).del g).set (t.next + i) (.tip k)) (t.next + i) k :=
  ⟨((h.like.up n).del h.lo).set _ (by have := h.like.next; omega), by simp, by have := h.like.next; omega, by simp; omega⟩

theorem Tq.box {σ t : St} {g k : Nat} (h : Tq σ t g k) {n i : Nat} (hi : i < n) (r : Res) : Tq σ ((t.up n).set (t.next + i) r) g k :=
  ⟨(h.like.up n).set _ (by have := h.like.next; omega), by rw [St.set_other _ _ (by have := h.hi; omega)]; exact h.at_, h.lo, by have := h.hi; simp; omega⟩

theorem Tq.one {σ t : St} {g k : Nat} (h : OneTip σ t g k) : Tq σ t g k := ⟨.one h, h.at_, h.lo, h.hi⟩

theorem Tq.trans {σ t u : St} {g k : Nat} (h : Like σ t) (q : Tq t u g k) : Tq σ u g k := ⟨h.trans q.like, q.at_, Nat.le_trans h.next q.lo, q.hi⟩

theorem Like.quiet {σ t : St} (wf : WF σ) (h : Like σ t) : ∀ n x, σ.res n = some x → t.res n = some x := fun _ _ hx => h.get (wf.lt hx) hx

theorem Tq.quiet {σ t : St} {g k : Nat} (wf : WF σ) (h : Tq σ t g k) : ∀ n x, σ.res n = some x → t.res n = some x := h.like.quiet wf

theorem Like.box {σ t : St} (h : Like σ t) {n i : Nat} (r : Res) : Like σ ((t.up n).set (t.next + i) r) := (h.up n).set _ (by have := h.next; omega)

/-- how long what is appended to may grow -/
theorem app_le {a b : Nat} (h : a + b ≤ 1099511627776) : decide ((a + b) * 1 ≤ 70368744177664 ∧ a + b ≤ 4611686018427387904) = true := decide_eq_true (by omega)

theorem Tq.mv {σ t : St} {g k : Nat} (h : Tq σ t g k) {g2 : Nat} (lo : σ.next ≤ g2) (hi : g2 < t.next) : Tq σ ((t.del g).set g2 (.tip k)) g2 k :=
  ⟨(h.like.del h.lo).set _ lo, by simp, lo, hi⟩

/-- a named end, and an owned thing -/
structure Tb (σ t : St) (g k a : Nat) (r : Res) : Prop where
  q : Tq σ t g k
  b : t.res a = some r
  lt : a < t.next
  ne : a ≠ g

theorem Tb.bs {σ t : St} {g k a : Nat} {r : Res} (h : Tb σ t g k a r) : ∀ n, (t.up n).res a = some r := fun _ => h.b

theorem Tb.app {σ t : St} {g k a : Nat} {r : Res} (h : Tb σ t g k a r) {n i : Nat} (hi : i < n) : Tb σ (((t.up n).del g).set (t.next + i) (.tip k)) (t.next + i) k a r :=
  ⟨h.q.app hi, by
    have := h.lt
    rw [St.set_other _ _ (by omega)]
    have hne := h.ne
    simp only [St.del, if_neg hne]; exact h.b, by have := h.lt; simp; omega, by have := h.lt; omega⟩

theorem Tq.tb {σ t : St} {g k : Nat} (q : Tq σ t g k) {n i : Nat} (hi : i < n) (r : Res) : Tb σ ((t.up n).set (t.next + i) r) g k (t.next + i) r :=
  ⟨q.box hi r, by simp, by simp; omega, by have := q.hi; omega⟩

/-- what a call leaves: what it has set of one old thing, and names that nobody knows -/
theorem Fin.likeset {σ0 : St} {rs : List RX} {K : AV → St → Prop} {ρ : List AV} {σ : St} {xs : List AV} {y : AV} {n : Nat} {r0 r : Res} (wf : WF σ0) (h1 : rvals ρ σ rs = some xs) (hw : Wk (pack xs) y) (hL : Like (σ0.set n r) σ) (hn : σ0.res n = some r0) (hx : y.nb σ0.next) (hr : r.nb σ0.next) (h2 : K y (σ0.set n r)) : Fin σ0 rs K .ret ρ σ :=
  ⟨ρ, σ, xs, y, σ0.set n r, .refl, h1, (Gv.wk hw).trans (.like hL rfl hx (fun m q hm => by
    by_cases e : m = n
    · subst e
      rw [St.set_same] at hm
      simp only [Option.some.injEq] at hm; subst hm
      exact ⟨wf.lt hn, .inr hr⟩
    · rw [St.set_other _ _ e] at hm
      exact ⟨wf.lt hm, .inl hm⟩)), h2⟩

theorem nb_rd (m : Nat) (l : List UInt8) (a b : Int) : (rd l .none a b).nb m := ⟨⟨nb_bytes _ _, trivial⟩, trivial, trivial, trivial⟩

end Go.VL

namespace Go.VL

open Go.Proofs

abbrev n_few : Nat := 9

def c_few : C := (.seq (.reg [⟨(some 4), (.mv (.c (.bool false))), none⟩]) (.seq (.seq (.reg [⟨(some 5), (.mv (.c (.int .i64 0))), none⟩]) (.block 0 (.loop (.seq (.seq (.reg [⟨(some 6), (.mv (.t 5)), none⟩, ⟨(some 7), (.mv (.t 0)), none⟩, ⟨(some 8), (.len (.t 7)), none⟩, ⟨(some 9), (.bin .lss .i64 (.t 6) (.t 8)), none⟩]) (.cond (.t 9) .skip (.exit 0))) (.seq (.block 1 (.seq (.reg [⟨(some 12), (.mv (.t 0)), none⟩, ⟨(some 13), (.mv (.t 5)), none⟩, ⟨(some 14), (.iaddr 5 (.t 12) (.t 13)), none⟩, ⟨(some 15), (.faddr 4 (.t 14)), none⟩, ⟨(some 16), (.load none (.t 15)), none⟩, ⟨(some 17), (.len (.t 16)), none⟩, ⟨(some 18), (.bin .gtr .i64 (.t 17) (.c (.int .i64 200))), none⟩]) (.cond (.t 18) (.seq (.reg [⟨(some 4), (.mv (.c (.bool false))), none⟩]) .ret) .skip))) (.reg [⟨(some 10), (.mv (.t 5)), none⟩, ⟨(some 11), (.bin .add .i64 (.t 10) (.c (.int .i64 1))), none⟩, ⟨(some 5), (.mv (.t 11)), none⟩])))))) (.seq (.reg [⟨(some 19), (.mv (.t 0)), none⟩, ⟨(some 20), (.len (.t 19)), none⟩, ⟨(some 21), (.mv (.t 1)), none⟩, ⟨(some 22), (.bin .leq .i64 (.t 20) (.t 21)), none⟩, ⟨(some 4), (.mv (.t 22)), none⟩]) .ret)))

set_option maxRecDepth 100000 in
theorem k_few : compileC Tryd.prog ann (Tryd.f9.body.getD .skip) = some c_few := by kernel_rfl

theorem s_few {args : List AV} {σ : St} {K : AV → St → Prop} (h : WF σ → T Tryd.prog ann c_few (Fin σ [(.t 4)] K) (args ++ List.replicate (23 - args.length) (.tup [])) σ) : ACalls Tryd.prog n_few args σ K :=
  calls_ok Tryd.func9 (by kernel_rfl) (by kernel_rfl) k_few (by kernel_rfl) (by kernel_rfl) h

abbrev n_may : Nat := 20

def c_may : C := (.seq (.reg [⟨(some 1), (.box (.t 0)), none⟩, ⟨(some 2), (.mv (.c (.bool false))), none⟩]) (.seq (.reg [⟨(some 3), (.faddr 2 (.t 1)), none⟩, ⟨(some 4), (.load none (.t 3)), none⟩, ⟨(some 5), (.bin .geq .i64 (.t 4) (.c (.int .i64 0))), none⟩, ⟨(some 6), (.mv (.t 5)), none⟩, ⟨(some 7), (.faddr 2 (.t 1)), (some (6, true))⟩, ⟨(some 8), (.load none (.t 7)), (some (6, true))⟩, ⟨(some 9), (.faddr 3 (.t 1)), (some (6, true))⟩, ⟨(some 10), (.load none (.t 9)), (some (6, true))⟩, ⟨(some 11), (.bin .leq .i64 (.t 8) (.t 10)), (some (6, true))⟩, ⟨(some 12), (.pick (.t 6) (.t 11) (.c (.bool false))), none⟩, ⟨(some 13), (.mv (.t 12)), none⟩, ⟨(some 14), (.faddr 3 (.t 1)), (some (13, true))⟩, ⟨(some 15), (.load none (.t 14)), (some (13, true))⟩, ⟨(some 16), (.bin .leq .i64 (.t 15) (.c (.int .i64 1099511627776))), (some (13, true))⟩, ⟨(some 17), (.pick (.t 13) (.t 16) (.c (.bool false))), none⟩, ⟨(some 18), (.mv (.t 17)), none⟩, ⟨(some 19), (.faddr 4 (.t 1)), (some (18, true))⟩, ⟨(some 20), (.load none (.t 19)), (some (18, true))⟩, ⟨(some 21), (.len (.t 20)), (some (18, true))⟩, ⟨(some 22), (.bin .leq .i64 (.t 21) (.c (.int .i64 64))), (some (18, true))⟩, ⟨(some 23), (.pick (.t 18) (.t 22) (.c (.bool false))), none⟩, ⟨(some 2), (.mv (.t 23)), none⟩]) .ret))

set_option maxRecDepth 100000 in
theorem k_may : compileC Tryd.prog ann (Tryd.f20.body.getD .skip) = some c_may := by kernel_rfl

theorem s_may {args : List AV} {σ : St} {K : AV → St → Prop} (h : WF σ → T Tryd.prog ann c_may (Fin σ [(.t 2)] K) (args ++ List.replicate (24 - args.length) (.tup [])) σ) : ACalls Tryd.prog n_may args σ K :=
  calls_ok Tryd.func20 (by kernel_rfl) (by kernel_rfl) k_may (by kernel_rfl) (by kernel_rfl) h

end Go.VL

namespace Go.VL

open Go.Proofs

/-- a span -/
structure Sp where
  tr : Nat
  id : Nat
  st : Int
  en : Int
  da : List UInt8
  deriving DecidableEq

def Sp.av (s : Sp) : AV := .agg [.int .u64 (s.tr : Int), .int .u64 (s.id : Int), .int .i64 s.st, .int .i64 s.en, .sl (bytesAV s.da) .none]

/-- a trace -/
structure Tc where
  id : Nat
  sp : List Sp
  deriving DecidableEq

def Tc.av (t : Tc) : AV := .agg [.int .u64 (t.id : Int), .sl (t.sp.map Sp.av) .none]

def spsAV (l : List Sp) : List AV := l.map Sp.av

theorem sps_len (l : List Sp) : (spsAV l).length = l.length := by simp [spsAV]

theorem sps_get {l : List Sp} {i : Nat} (h : i < l.length) : (spsAV l)[i]? = some (l[i].av) := by simp [spsAV, h]

theorem spcells (s : Sp) : s.av.cells = [.int .u64 (s.tr : Int), .int .u64 (s.id : Int), .int .i64 s.st, .int .i64 s.en, .sl (bytesAV s.da) .none] := rfl

theorem inc64 {i n : Nat} (h : i < n) (hn : n ≤ 9223372036854775807) : IntKind.i64.wrap ((i : Int) + 1) = ((i + 1 : Nat) : Int) := by
  rw [wrap64 (by omega) (by omega)]; rfl

def fewB (m : Int) (l : List Sp) : Bool := l.all (fun s => decide (s.da.length ≤ 200)) && decide ((l.length : Int) ≤ m)

theorem take_all {α : Type} {p : α → Bool} {l : List α} {i : Nat} (hi : i < l.length) (h : (l.take i).all p = true) (hp : p l[i] = true) : (l.take (i + 1)).all p = true := by
  rw [List.take_succ_eq_append_getElem hi, List.all_append, h]
  simp [hp]

theorem all_ff {α : Type} {p : α → Bool} {l : List α} {i : Nat} (hi : i < l.length) (hp : p l[i] = false) : l.all p = false := by
  rw [Bool.eq_false_iff]
  intro h
  have := List.all_eq_true.1 h l[i] (List.getElem_mem hi)
  rw [hp] at this; cases this

theorem few_ok {l : List Sp} {g : Ver} {m : Int} {σ : St} (hl : l.length ≤ 9223372036854775807) : ACalls Tryd.prog n_few [.sl (spsAV l) g, .int .i64 m] σ (fun v σ' => v = .bool (fewB m l) ∧ σ' = σ) := by
  refine s_few (fun wf => ?_)
  unfold c_few
  refine T.seq_k (fun K_h1 h1 => ?_)
  refine T.regi hm ?_
  simp only [↓reduceIte, namesOf, List.any, I.names, aops, aopsI, aopsT, qstep, CPt, qget, Tbl.get, astep, ev, setd, List.set, List.getD, List.getElem?_cons_zero, List.getElem?_cons_succ, List.getElem?_nil, List.cons_append, List.nil_append, List.length_cons, List.length_nil, List.replicate, then_normal, inBlock_normal, Option.getD_some, Option.getD_none, Bool.or_false, Bool.or_true, Bool.true_or, Bool.false_or, Bool.false_eq_true, if_false, if_true, up_zero, Nat.reduceAdd, Nat.reduceSub, binv, ↓opt_def, AV.isAny, AV.cells, ldc, List.map_cons, List.map_nil, St.set_next, St.set_same, St.up_next, Int.natCast_nonneg, lt_len, le_len, Int.toNat_natCast, true_and, and_true, eq_self, reduceCtorEq, decide_true, List.length_singleton, er_int, er_bool, er_str]
  refine h1 _ _ ?_
  try clear h1 K_h1
  refine T.seq_k (fun K_h1 h1 => ?_)
  refine T.seq_k (fun K_h2 h2 => ?_)
  refine T.regi hm ?_
  simp only [↓reduceIte, namesOf, List.any, I.names, aops, aopsI, aopsT, qstep, CPt, qget, Tbl.get, astep, ev, setd, List.set, List.getD, List.getElem?_cons_zero, List.getElem?_cons_succ, List.getElem?_nil, List.cons_append, List.nil_append, List.length_cons, List.length_nil, List.replicate, then_normal, inBlock_normal, Option.getD_some, Option.getD_none, Bool.or_false, Bool.or_true, Bool.true_or, Bool.false_or, Bool.false_eq_true, if_false, if_true, up_zero, Nat.reduceAdd, Nat.reduceSub, binv, ↓opt_def, AV.isAny, AV.cells, ldc, List.map_cons, List.map_nil, St.set_next, St.set_same, St.up_next, Int.natCast_nonneg, lt_len, le_len, Int.toNat_natCast, true_and, and_true, eq_self, reduceCtorEq, decide_true, List.length_singleton, er_int, er_bool, er_str]
  refine h2 _ _ ?_
  try clear h2 K_h2
  refine T.block ?_
  refine T.gh (Gh.keep [0, 1, 5]) ?_
  refine T.loopi (fun i ρ σ' => σ' = σ ∧ (l.take i).all (fun s => decide (s.da.length ≤ 200)) = true ∧ ρ = [.sl (spsAV l) g, .int .i64 m, .any, .any, .any, .int .i64 (i : Int)] ++ List.replicate 17 .any)
    l.length 0 (Nat.zero_le _) ⟨rfl, by simp, rfl⟩ ?_
  rintro i ρ σ' hi ⟨rfl, hpre, rfl⟩
  refine T.seq_k (fun K_h2 h2 => ?_)
  refine T.seq_k (fun K_h3 h3 => ?_)
  refine T.regi hm ?_
  simp only [↓reduceIte, namesOf, List.any, I.names, aops, aopsI, aopsT, qstep, CPt, qget, Tbl.get, astep, ev, setd, List.set, List.getD, List.getElem?_cons_zero, List.getElem?_cons_succ, List.getElem?_nil, List.cons_append, List.nil_append, List.length_cons, List.length_nil, List.replicate, then_normal, inBlock_normal, Option.getD_some, Option.getD_none, Bool.or_false, Bool.or_true, Bool.true_or, Bool.false_or, Bool.false_eq_true, if_false, if_true, up_zero, Nat.reduceAdd, Nat.reduceSub, binv, ↓opt_def, AV.isAny, AV.cells, ldc, List.map_cons, List.map_nil, St.set_next, St.set_same, St.up_next, Int.natCast_nonneg, lt_len, le_len, Int.toNat_natCast, true_and, and_true, eq_self, reduceCtorEq, decide_true, List.length_singleton, er_int, er_bool, er_str]
  refine h3 _ _ ?_
  try clear h3 K_h3
  refine T.cond rfl (fun hb => ?_) (fun hb => ?_)
  · refine T.skip ?_
    refine h2 _ _ ?_
    try clear h2 K_h2
    have hil : i < l.length := by simpa [sps_len] using hb
    clear hb
    refine T.seq_k (fun K_h2 h2 => ?_)
    refine T.block ?_
    refine T.seq_k (fun K_h3 h3 => ?_)
    refine T.regi hm ?_
    simp only [↓reduceIte, namesOf, List.any, I.names, aops, aopsI, aopsT, qstep, CPt, qget, Tbl.get, astep, ev, setd, List.set, List.getD, List.getElem?_cons_zero, List.getElem?_cons_succ, List.getElem?_nil, List.cons_append, List.nil_append, List.length_cons, List.length_nil, List.replicate, then_normal, inBlock_normal, Option.getD_some, Option.getD_none, Bool.or_false, Bool.or_true, Bool.true_or, Bool.false_or, Bool.false_eq_true, if_false, if_true, up_zero, Nat.reduceAdd, Nat.reduceSub, binv, ↓opt_def, AV.isAny, AV.cells, ldc, List.map_cons, List.map_nil, St.set_next, St.set_same, St.up_next, Int.natCast_nonneg, lt_len, le_len, Int.toNat_natCast, true_and, and_true, eq_self, reduceCtorEq, decide_true, List.length_singleton, er_int, er_bool, er_str, sps_len, sps_get hil, hil, spcells, bytesAV_len]
    refine h3 _ _ ?_
    try clear h3 K_h3
    refine T.cond rfl (fun hb => ?_) (fun hb => ?_)
    · refine T.seq_k (fun K_h3 h3 => ?_)
      refine T.regi hm ?_
      simp only [↓reduceIte, namesOf, List.any, I.names, aops, aopsI, aopsT, qstep, CPt, qget, Tbl.get, astep, ev, setd, List.set, List.getD, List.getElem?_cons_zero, List.getElem?_cons_succ, List.getElem?_nil, List.cons_append, List.nil_append, List.length_cons, List.length_nil, List.replicate, then_normal, inBlock_normal, Option.getD_some, Option.getD_none, Bool.or_false, Bool.or_true, Bool.true_or, Bool.false_or, Bool.false_eq_true, if_false, if_true, up_zero, Nat.reduceAdd, Nat.reduceSub, binv, ↓opt_def, AV.isAny, AV.cells, ldc, List.map_cons, List.map_nil, St.set_next, St.set_same, St.up_next, Int.natCast_nonneg, lt_len, le_len, Int.toNat_natCast, true_and, and_true, eq_self, reduceCtorEq, decide_true, List.length_singleton, er_int, er_bool, er_str]
      refine h3 _ _ ?_
      try clear h3 K_h3
      refine T.ret (Fin.ret rfl ⟨?_, rfl⟩)
      have : fewB m l = false := by
        unfold fewB
        rw [all_ff hil (by simp [bytesAV_len] at hb ⊢; omega)]; rfl
      rw [this]; rfl
    · refine T.skip ?_
      refine h2 _ _ ?_
      try clear h2 K_h2
      have hw := inc64 hil hl
      refine T.regi hm ?_
      simp only [↓reduceIte, namesOf, List.any, I.names, aops, aopsI, aopsT, qstep, CPt, qget, Tbl.get, astep, ev, setd, List.set, List.getD, List.getElem?_cons_zero, List.getElem?_cons_succ, List.getElem?_nil, List.cons_append, List.nil_append, List.length_cons, List.length_nil, List.replicate, then_normal, inBlock_normal, Option.getD_some, Option.getD_none, Bool.or_false, Bool.or_true, Bool.true_or, Bool.false_or, Bool.false_eq_true, if_false, if_true, up_zero, Nat.reduceAdd, Nat.reduceSub, binv, ↓opt_def, AV.isAny, AV.cells, ldc, List.map_cons, List.map_nil, St.set_next, St.set_same, St.up_next, Int.natCast_nonneg, lt_len, le_len, Int.toNat_natCast, true_and, and_true, eq_self, reduceCtorEq, decide_true, List.length_singleton, er_int, er_bool, er_str, hw]
      exact ⟨hil, _, _, Gh.keep [0, 1, 5], rfl, take_all hil hpre (by simp [bytesAV_len] at hb ⊢; omega), rfl⟩
  · refine T.exit ?_
    have : i = l.length := by simp [sps_len] at hb; omega
    subst this
    rw [List.take_length] at hpre
    try simp only [↓reduceIte, namesOf, List.any, I.names, aops, aopsI, aopsT, qstep, CPt, qget, Tbl.get, astep, ev, setd, List.set, List.getD, List.getElem?_cons_zero, List.getElem?_cons_succ, List.getElem?_nil, List.cons_append, List.nil_append, List.length_cons, List.length_nil, List.replicate, then_normal, inBlock_normal, Option.getD_some, Option.getD_none, Bool.or_false, Bool.or_true, Bool.true_or, Bool.false_or, Bool.false_eq_true, if_false, if_true, up_zero, Nat.reduceAdd, Nat.reduceSub, binv, ↓opt_def, AV.isAny, AV.cells, ldc, List.map_cons, List.map_nil, St.set_next, St.set_same, St.up_next, Int.natCast_nonneg, lt_len, le_len, Int.toNat_natCast, true_and, and_true, eq_self, reduceCtorEq, decide_true, List.length_singleton, er_int, er_bool, er_str, inBlock_exit, then_exit]
    refine h1 _ _ ?_
    try clear h1 K_h1
    refine T.seq_k (fun K_h1 h1 => ?_)
    refine T.regi hm ?_
    simp only [↓reduceIte, namesOf, List.any, I.names, aops, aopsI, aopsT, qstep, CPt, qget, Tbl.get, astep, ev, setd, List.set, List.getD, List.getElem?_cons_zero, List.getElem?_cons_succ, List.getElem?_nil, List.cons_append, List.nil_append, List.length_cons, List.length_nil, List.replicate, then_normal, inBlock_normal, Option.getD_some, Option.getD_none, Bool.or_false, Bool.or_true, Bool.true_or, Bool.false_or, Bool.false_eq_true, if_false, if_true, up_zero, Nat.reduceAdd, Nat.reduceSub, binv, ↓opt_def, AV.isAny, AV.cells, ldc, List.map_cons, List.map_nil, St.set_next, St.set_same, St.up_next, Int.natCast_nonneg, lt_len, le_len, Int.toNat_natCast, true_and, and_true, eq_self, reduceCtorEq, decide_true, List.length_singleton, er_int, er_bool, er_str, sps_len]
    refine h1 _ _ ?_
    try clear h1 K_h1
    refine T.ret (Fin.ret rfl ⟨?_, rfl⟩)
    unfold fewB; rw [hpre]; rfl

end Go.VL

namespace Go.VL

open Go.Proofs

/-! ### Comparing -/

theorem set2_quiet {σ : St} (wf : WF σ) {k : Nat} (r r' : Res) {a b : Nat} (ha : σ.next ≤ a) (hb : σ.next ≤ b) : ∀ n x, σ.res n = some x → (((σ.up k).set a r).set b r').res n = some x := by
  intro n x hr
  have hn : n < σ.next := by
    rcases Nat.lt_or_ge n σ.next with h | h
    · exact h
    · rw [wf n h] at hr; cases hr
  rw [St.set_other _ _ (by omega), St.set_other _ _ (by omega)]; exact hr

theorem set1_quiet {σ : St} (wf : WF σ) {k : Nat} (r : Res) {a : Nat} (ha : σ.next ≤ a) : ∀ n x, σ.res n = some x → ((σ.up k).set a r).res n = some x := by
  intro n x hr
  have hn : n < σ.next := by
    rcases Nat.lt_or_ge n σ.next with h | h
    · exact h
    · rw [wf n h] at hr; cases hr
  rw [St.set_other _ _ (by omega)]; exact hr

def mayI (s e n : Int) : Bool := decide (0 ≤ s ∧ s ≤ e ∧ e ≤ 1099511627776 ∧ n ≤ 64)

theorem may_ok {t i : AV} {s e : Int} {xs : List AV} {g : Ver} {σ : St} : ACalls Tryd.prog n_may [.agg [t, i, .int .i64 s, .int .i64 e, .sl xs g]] σ (fun v σ' => v = .bool (mayI s e xs.length) ∧ σ' = σ) := by
  refine s_may (fun wf => ?_)
  unfold c_may
  refine T.seq_k (fun K_h1 h1 => ?_)
  refine T.regi hm ?_
  simp only [↓reduceIte, namesOf, List.any, I.names, aops, aopsI, aopsT, qstep, CPt, qget, Tbl.get, astep, ev, setd, List.set, List.getD, List.getElem?_cons_zero, List.getElem?_cons_succ, List.getElem?_nil, List.cons_append, List.nil_append, List.length_cons, List.length_nil, List.replicate, then_normal, inBlock_normal, Option.getD_some, Option.getD_none, Bool.or_false, Bool.or_true, Bool.true_or, Bool.false_or, Bool.false_eq_true, if_false, if_true, up_zero, Nat.reduceAdd, Nat.reduceSub, binv, ↓opt_def, AV.isAny, AV.cells, ldc, List.map_cons, List.map_nil, St.set_next, St.set_same, St.up_next, Int.natCast_nonneg, lt_len, le_len, Int.toNat_natCast, true_and, and_true, eq_self, reduceCtorEq, decide_true, List.length_singleton, er_int, er_bool, er_str]
  have h0 : ((σ.up 2).set (σ.next + 0) (.obj [t, i, .int .i64 s, .int .i64 e, .sl xs g])).res (σ.next + 0) = some (.obj [t, i, .int .i64 s, .int .i64 e, .sl xs g]) := by simp
  have hq := set1_quiet wf (k := 2) (.obj [t, i, .int .i64 s, .int .i64 e, .sl xs g]) (a := σ.next + 0) (by omega)
  generalize ((σ.up 2).set (σ.next + 0) (.obj [t, i, .int .i64 s, .int .i64 e, .sl xs g])) = σ1 at h0 hq ⊢
  refine h1 _ _ ?_
  try clear h1 K_h1
  refine T.seq_k (fun K_h1 h1 => ?_)
  by_cases c1 : 0 ≤ s
  case neg =>
    have e1 : decide (s ≥ 0) = false := decide_eq_false (by omega)
    refine T.regi hm ?_
    simp only [↓reduceIte, namesOf, List.any, I.names, aops, aopsI, aopsT, qstep, CPt, qget, Tbl.get, astep, ev, setd, List.set, List.getD, List.getElem?_cons_zero, List.getElem?_cons_succ, List.getElem?_nil, List.cons_append, List.nil_append, List.length_cons, List.length_nil, List.replicate, then_normal, inBlock_normal, Option.getD_some, Option.getD_none, Bool.or_false, Bool.or_true, Bool.true_or, Bool.false_or, Bool.false_eq_true, if_false, if_true, up_zero, Nat.reduceAdd, Nat.reduceSub, binv, ↓opt_def, AV.isAny, AV.cells, ldc, List.map_cons, List.map_nil, St.set_next, St.set_same, St.up_next, Int.natCast_nonneg, lt_len, le_len, Int.toNat_natCast, true_and, and_true, eq_self, reduceCtorEq, decide_true, List.length_singleton, er_int, er_bool, er_str, h0, e1, reduceCtorEq]
    refine h1 _ _ ?_
    try clear h1 K_h1
    exact T.ret (Fin.quiet rfl trivial hq ⟨by simp [pack, mayI, c1], rfl⟩)
  have e1 : decide (s ≥ 0) = true := decide_eq_true c1
  by_cases c2 : s ≤ e
  case neg =>
    have e2 : decide (s ≤ e) = false := decide_eq_false c2
    refine T.regi hm ?_
    simp only [↓reduceIte, namesOf, List.any, I.names, aops, aopsI, aopsT, qstep, CPt, qget, Tbl.get, astep, ev, setd, List.set, List.getD, List.getElem?_cons_zero, List.getElem?_cons_succ, List.getElem?_nil, List.cons_append, List.nil_append, List.length_cons, List.length_nil, List.replicate, then_normal, inBlock_normal, Option.getD_some, Option.getD_none, Bool.or_false, Bool.or_true, Bool.true_or, Bool.false_or, Bool.false_eq_true, if_false, if_true, up_zero, Nat.reduceAdd, Nat.reduceSub, binv, ↓opt_def, AV.isAny, AV.cells, ldc, List.map_cons, List.map_nil, St.set_next, St.set_same, St.up_next, Int.natCast_nonneg, lt_len, le_len, Int.toNat_natCast, true_and, and_true, eq_self, reduceCtorEq, decide_true, List.length_singleton, er_int, er_bool, er_str, h0, e1, e2, reduceCtorEq]
    refine h1 _ _ ?_
    try clear h1 K_h1
    exact T.ret (Fin.quiet rfl trivial hq ⟨by simp [pack, mayI, c2], rfl⟩)
  have e2 : decide (s ≤ e) = true := decide_eq_true c2
  by_cases c3 : e ≤ 1099511627776
  case neg =>
    have e3 : decide (e ≤ 1099511627776) = false := decide_eq_false c3
    refine T.regi hm ?_
    simp only [↓reduceIte, namesOf, List.any, I.names, aops, aopsI, aopsT, qstep, CPt, qget, Tbl.get, astep, ev, setd, List.set, List.getD, List.getElem?_cons_zero, List.getElem?_cons_succ, List.getElem?_nil, List.cons_append, List.nil_append, List.length_cons, List.length_nil, List.replicate, then_normal, inBlock_normal, Option.getD_some, Option.getD_none, Bool.or_false, Bool.or_true, Bool.true_or, Bool.false_or, Bool.false_eq_true, if_false, if_true, up_zero, Nat.reduceAdd, Nat.reduceSub, binv, ↓opt_def, AV.isAny, AV.cells, ldc, List.map_cons, List.map_nil, St.set_next, St.set_same, St.up_next, Int.natCast_nonneg, lt_len, le_len, Int.toNat_natCast, true_and, and_true, eq_self, reduceCtorEq, decide_true, List.length_singleton, er_int, er_bool, er_str, h0, e1, e2, e3, reduceCtorEq]
    refine h1 _ _ ?_
    try clear h1 K_h1
    exact T.ret (Fin.quiet rfl trivial hq ⟨by simp [pack, mayI, c3], rfl⟩)
  have e3 : decide (e ≤ 1099511627776) = true := decide_eq_true c3
  refine T.regi hm ?_
  simp only [↓reduceIte, namesOf, List.any, I.names, aops, aopsI, aopsT, qstep, CPt, qget, Tbl.get, astep, ev, setd, List.set, List.getD, List.getElem?_cons_zero, List.getElem?_cons_succ, List.getElem?_nil, List.cons_append, List.nil_append, List.length_cons, List.length_nil, List.replicate, then_normal, inBlock_normal, Option.getD_some, Option.getD_none, Bool.or_false, Bool.or_true, Bool.true_or, Bool.false_or, Bool.false_eq_true, if_false, if_true, up_zero, Nat.reduceAdd, Nat.reduceSub, binv, ↓opt_def, AV.isAny, AV.cells, ldc, List.map_cons, List.map_nil, St.set_next, St.set_same, St.up_next, Int.natCast_nonneg, lt_len, le_len, Int.toNat_natCast, true_and, and_true, eq_self, reduceCtorEq, decide_true, List.length_singleton, er_int, er_bool, er_str, h0, e1, e2, e3, reduceCtorEq]
  refine h1 _ _ ?_
  try clear h1 K_h1
  exact T.ret (Fin.quiet rfl trivial hq ⟨by simp [pack, mayI, c1, c2, c3], rfl⟩)

end Go.VL

namespace Go.VL

open Go.Proofs

theorem spav (s : Sp) : s.av = .agg [.int .u64 (s.tr : Int), .int .u64 (s.id : Int), .int .i64 s.st, .int .i64 s.en, .sl (bytesAV s.da) .none] := rfl

def mayS (s : Sp) : Bool := mayI s.st s.en s.da.length

def metAV (l : List Nat) : List (AV × AV) := l.map fun n : Nat => (.int .u64 (n : Int), .bool true)

theorem met_put (l : List Nat) (n : Nat) (h : l.contains n = false) : mput (.int .u64 (n : Int)) (.bool true) (metAV l) = metAV (l ++ [n]) := by
  induction l with
  | nil => rfl
  | cons a r ih =>
    unfold metAV at ih ⊢
    simp only [List.contains_cons, Bool.or_eq_false_iff] at h
    have h1 : ((n : Int) == (a : Int)) = false := by have := h.1; simp at this ⊢; omega
    simp only [List.map_cons, mput, keq, if_true, h1, ih h.2, List.cons_append]

structure OneSt (σ σ' : St) (a m : Nat) (t : Tc) (l : List Nat) : Prop where
  a0 : σ.next ≤ a
  m0 : σ.next ≤ m
  a1 : a < σ'.next
  m1 : m < σ'.next
  obj : σ'.res a = some (.obj t.av.cells)
  map : σ'.res m = some (.map (metAV l) (List.range l.length) l.length)
  old : ∀ n r, σ.res n = some r → σ'.res n = some r

theorem OneSt.put {σ σ' : St} {a m : Nat} {t : Tc} {l : List Nat} {n : Nat} (wf : WF σ) (ham : a ≠ m) (h : OneSt σ σ' a m t l) (hn : l.contains n = false) : OneSt σ (σ'.set m (.map (mput (.int .u64 (n : Int)) (.bool true) (metAV l)) (List.range l.length ++ [l.length]) (l.length + 1))) a m t (l ++ [n]) where
  a0 := h.a0
  m0 := h.m0
  a1 := h.a1
  m1 := h.m1
  obj := by rw [St.set_other _ _ ham]; exact h.obj
  map := by rw [St.set_same, met_put l n hn, List.length_append, List.length_singleton, List.range_succ]
  old := fun n r' hr => by
    have hn : n < σ.next := by
      rcases Nat.lt_or_ge n σ.next with h' | h'
      · exact h'
      · rw [wf n h'] at hr; cases hr
    rw [St.set_other _ _ (by have := h.m0; omega)]; exact h.old n r' hr

end Go.VL

namespace Go.VL

open Go.Proofs

abbrev n_wtext : Nat := 40

def c_wtext : C := (.seq (.reg [⟨(some 4), (.mv (.c (.sl [] .nil))), none⟩, ⟨(some 5), (.mv (.c .nili)), none⟩]) (.seq (.seq (.reg [⟨(some 8), (.mv (.t 1)), none⟩, ⟨(some 9), (.len (.t 8)), none⟩, ⟨(some 10), (.bin .gtr .i64 (.t 9) (.c (.int .i64 65535))), none⟩]) (.cond (.t 10) (.seq (.reg [⟨(some 11), (.mkI 34 (.c (.int .i64 3))), none⟩, ⟨(some 4), (.mv (.c (.sl [] .nil))), none⟩, ⟨(some 5), (.mv (.t 11)), none⟩]) .ret) .skip)) (.seq (.reg [⟨(some 13), (.mv (.t 0)), none⟩, ⟨(some 14), (.mv (.t 1)), none⟩, ⟨(some 15), (.len (.t 14)), none⟩, ⟨(some 16), (.conv .u64 (.t 15)), none⟩, ⟨(some 17), (.call 22 [(.t 13), (.c (.int .i64 2)), (.t 16)]), none⟩, ⟨(some 12), (.mv (.t 17)), none⟩, ⟨(some 18), (.ext (.t 12) 0), none⟩, ⟨(some 19), (.ext (.t 12) 1), none⟩, ⟨(some 6), (.mv (.t 18)), none⟩, ⟨(some 7), (.mv (.t 19)), none⟩]) (.seq (.reg [⟨(some 20), (.mv (.t 6)), none⟩, ⟨(some 21), (.mv (.t 1)), none⟩, ⟨(some 22), (.app 1 1 .tip (.t 20) (.t 21)), none⟩, ⟨(some 23), (.mv (.t 7)), none⟩, ⟨(some 4), (.mv (.t 22)), none⟩, ⟨(some 5), (.mv (.t 23)), none⟩]) .ret))))

set_option maxRecDepth 100000 in
theorem k_wtext : compileC Tryd.prog ann (Tryd.f40.body.getD .skip) = some c_wtext := by kernel_rfl

theorem s_wtext {args : List AV} {σ : St} {K : AV → St → Prop} (h : WF σ → T Tryd.prog ann c_wtext (Fin σ [(.t 4), (.t 5)] K) (args ++ List.replicate (24 - args.length) (.tup [])) σ) : ACalls Tryd.prog n_wtext args σ K :=
  calls_ok Tryd.func40 (by kernel_rfl) (by kernel_rfl) k_wtext (by kernel_rfl) (by kernel_rfl) h

abbrev n_sput1 : Nat := 23

def c_sput1 : C := (.seq (.reg [⟨(some 1), (.box (.t 0)), none⟩, ⟨(some 2), (.mv (.c (.sl [] .nil))), none⟩, ⟨(some 3), (.mv (.c .nili)), none⟩]) (.seq (.reg [⟨(some 4), (.mv (.c (.sl [] .nil))), none⟩]) (.seq (.seq (.reg [⟨(some 9), (.faddr 0 (.t 1)), none⟩, ⟨(some 10), (.load none (.t 9)), none⟩, ⟨(some 11), (.faddr 1 (.t 1)), none⟩, ⟨(some 12), (.load none (.t 11)), none⟩, ⟨(some 13), (.faddr 2 (.t 1)), none⟩, ⟨(some 14), (.load none (.t 13)), none⟩, ⟨(some 15), (.conv .u64 (.t 14)), none⟩, ⟨(some 16), (.faddr 3 (.t 1)), none⟩, ⟨(some 17), (.load none (.t 16)), none⟩, ⟨(some 18), (.conv .u64 (.t 17)), none⟩, ⟨(some 19), (.bslice 1 .val [(.t 10), (.t 12), (.t 15), (.t 18)]), none⟩, ⟨(some 20), (.len (.t 19)), none⟩, ⟨(some 21), (.mv (.c (.int .i64 0))), none⟩]) (.block 0 (.loop (.seq (.reg [⟨(some 22), (.bin .lss .i64 (.t 21) (.t 20)), none⟩]) (.seq (.cond (.t 22) .skip (.exit 0)) (.seq (.block 1 (.seq (.reg [⟨(some 23), (.iaddr 1 (.t 19) (.t 21)), none⟩, ⟨(some 24), (.load none (.t 23)), none⟩, ⟨(some 6), (.mv (.t 24)), none⟩]) (.seq (.reg [⟨(some 26), (.mv (.t 4)), none⟩, ⟨(some 27), (.mv (.t 6)), none⟩, ⟨(some 28), (.call 22 [(.t 26), (.c (.int .i64 8)), (.t 27)]), none⟩, ⟨(some 25), (.mv (.t 28)), none⟩, ⟨(some 29), (.ext (.t 25) 0), none⟩, ⟨(some 30), (.ext (.t 25) 1), none⟩, ⟨(some 7), (.mv (.t 29)), none⟩, ⟨(some 8), (.mv (.t 30)), none⟩]) (.seq (.seq (.reg [⟨(some 31), (.mv (.t 8)), none⟩, ⟨(some 32), (.eqI true true [(34, .i64)] (.t 31) (.c .nili)), none⟩]) (.cond (.t 32) (.seq (.reg [⟨(some 33), (.mv (.t 8)), none⟩, ⟨(some 2), (.mv (.c (.sl [] .nil))), none⟩, ⟨(some 3), (.mv (.t 33)), none⟩]) .ret) .skip)) (.reg [⟨(some 34), (.mv (.t 7)), none⟩, ⟨(some 4), (.mv (.t 34)), none⟩]))))) (.reg [⟨(some 35), (.bin .add .i64 (.t 21) (.c (.int .i64 1))), none⟩, ⟨(some 21), (.mv (.t 35)), none⟩]))))))) (.seq (.reg [⟨(some 36), (.mv (.t 4)), none⟩, ⟨(some 37), (.faddr 4 (.t 1)), none⟩, ⟨(some 38), (.load none (.t 37)), none⟩, ⟨(some 39), (.call 40 [(.t 36), (.t 38)]), none⟩, ⟨(some 40), (.ext (.t 39) 0), none⟩, ⟨(some 41), (.ext (.t 39) 1), none⟩, ⟨(some 2), (.mv (.t 40)), none⟩, ⟨(some 3), (.mv (.t 41)), none⟩]) .ret))))

set_option maxRecDepth 100000 in
theorem k_sput1 : compileC Tryd.prog ann (Tryd.f23.body.getD .skip) = some c_sput1 := by kernel_rfl

theorem s_sput1 {args : List AV} {σ : St} {K : AV → St → Prop} (h : WF σ → T Tryd.prog ann c_sput1 (Fin σ [(.t 2), (.t 3)] K) (args ++ List.replicate (42 - args.length) (.tup [])) σ) : ACalls Tryd.prog n_sput1 args σ K :=
  calls_ok Tryd.func23 (by kernel_rfl) (by kernel_rfl) k_sput1 (by kernel_rfl) (by kernel_rfl) h

abbrev n_spput : Nat := 10

def c_spput : C := (.seq (.reg [⟨(some 2), (.mv (.c (.sl [] .nil))), none⟩, ⟨(some 3), (.mv (.c .nili)), none⟩]) (.seq (.seq (.reg [⟨(some 10), (.mv (.t 0)), none⟩, ⟨(some 11), (.len (.t 10)), none⟩, ⟨(some 12), (.bin .gtr .i64 (.t 11) (.c (.int .i64 65535))), none⟩]) (.cond (.t 12) (.seq (.reg [⟨(some 13), (.mkI 34 (.c (.int .i64 3))), none⟩, ⟨(some 2), (.mv (.c (.sl [] .nil))), none⟩, ⟨(some 3), (.mv (.t 13)), none⟩]) .ret) .skip)) (.seq (.reg [⟨(some 15), (.mv (.t 0)), none⟩, ⟨(some 16), (.len (.t 15)), none⟩, ⟨(some 17), (.conv .u64 (.t 16)), none⟩, ⟨(some 18), (.call 22 [(.c (.sl [] .nil)), (.c (.int .i64 2)), (.t 17)]), none⟩, ⟨(some 14), (.mv (.t 18)), none⟩, ⟨(some 19), (.ext (.t 14) 0), none⟩, ⟨(some 20), (.ext (.t 14) 1), none⟩, ⟨(some 4), (.mv (.t 19)), none⟩, ⟨(some 5), (.mv (.t 20)), none⟩]) (.seq (.seq (.reg [⟨(some 21), (.mv (.t 5)), none⟩, ⟨(some 22), (.eqI true true [(34, .i64)] (.t 21) (.c .nili)), none⟩]) (.cond (.t 22) (.seq (.reg [⟨(some 23), (.mv (.t 5)), none⟩, ⟨(some 2), (.mv (.c (.sl [] .nil))), none⟩, ⟨(some 3), (.mv (.t 23)), none⟩]) .ret) .skip)) (.seq (.seq (.reg [⟨(some 24), (.mv (.t 0)), none⟩, ⟨(some 25), (.len (.t 24)), none⟩, ⟨(some 26), (.mv (.c (.int .i64 0))), none⟩]) (.block 0 (.loop (.seq (.reg [⟨(some 27), (.bin .lss .i64 (.t 26) (.t 25)), none⟩]) (.seq (.cond (.t 27) .skip (.exit 0)) (.seq (.block 1 (.seq (.reg [⟨(some 28), (.iaddr 5 (.t 24) (.t 26)), none⟩, ⟨(some 29), (.load (some 5) (.t 28)), none⟩, ⟨(some 7), (.alloc [(.int .u64 0), (.int .u64 0), (.int .i64 0), (.int .i64 0), (.sl [] .nil)]), none⟩, ⟨none, (.store 5 (.t 7) (.t 29)), none⟩]) (.seq (.seq (.reg [⟨(some 30), (.load (some 5) (.t 7)), none⟩, ⟨(some 31), (.call 20 [(.t 30)]), none⟩, ⟨(some 32), (.not (.t 31)), none⟩]) (.cond (.t 32) (.seq (.reg [⟨(some 33), (.mkI 34 (.c (.int .i64 1))), none⟩, ⟨(some 2), (.mv (.c (.sl [] .nil))), none⟩, ⟨(some 3), (.mv (.t 33)), none⟩]) .ret) .skip)) (.seq (.reg [⟨(some 35), (.load (some 5) (.t 7)), none⟩, ⟨(some 36), (.call 23 [(.t 35)]), none⟩, ⟨(some 34), (.mv (.t 36)), none⟩, ⟨(some 37), (.ext (.t 34) 0), none⟩, ⟨(some 38), (.ext (.t 34) 1), none⟩, ⟨(some 8), (.mv (.t 37)), none⟩, ⟨(some 9), (.mv (.t 38)), none⟩]) (.seq (.seq (.reg [⟨(some 39), (.mv (.t 9)), none⟩, ⟨(some 40), (.eqI true true [(34, .i64)] (.t 39) (.c .nili)), none⟩]) (.cond (.t 40) (.seq (.reg [⟨(some 41), (.mv (.t 9)), none⟩, ⟨(some 2), (.mv (.c (.sl [] .nil))), none⟩, ⟨(some 3), (.mv (.t 41)), none⟩]) .ret) .skip)) (.reg [⟨(some 42), (.mv (.t 4)), none⟩, ⟨(some 43), (.mv (.t 8)), none⟩, ⟨(some 44), (.app 1 1 .tip (.t 42) (.t 43)), none⟩, ⟨(some 4), (.mv (.t 44)), none⟩])))))) (.reg [⟨(some 45), (.bin .add .i64 (.t 26) (.c (.int .i64 1))), none⟩, ⟨(some 26), (.mv (.t 45)), none⟩]))))))) (.seq (.reg [⟨(some 46), (.mv (.t 4)), none⟩, ⟨(some 2), (.mv (.t 46)), none⟩, ⟨(some 3), (.mv (.c .nili)), none⟩]) .ret))))))

set_option maxRecDepth 100000 in
theorem k_spput : compileC Tryd.prog ann (Tryd.f10.body.getD .skip) = some c_spput := by kernel_rfl

theorem s_spput {args : List AV} {σ : St} {K : AV → St → Prop} (h : WF σ → T Tryd.prog ann c_spput (Fin σ [(.t 2), (.t 3)] K) (args ++ List.replicate (47 - args.length) (.tup [])) σ) : ACalls Tryd.prog n_spput args σ K :=
  calls_ok Tryd.func10 (by kernel_rfl) (by kernel_rfl) k_spput (by kernel_rfl) (by kernel_rfl) h

abbrev n_wtextR : Nat := 30

def c_wtextR : C := (.seq (.reg [⟨(some 4), (.mv (.c (.sl [] .nil))), none⟩]) (.seq (.reg [⟨(some 7), (.mv (.t 0)), none⟩, ⟨(some 8), (.nilCheck (.t 7)), none⟩, ⟨(some 9), (.faddr 1 (.t 8)), none⟩, ⟨(some 10), (.load none (.t 9)), none⟩, ⟨(some 5), (.mv (.t 10)), none⟩]) (.seq (.reg [⟨(some 11), (.mv (.t 0)), none⟩, ⟨(some 12), (.call 27 [(.t 11), (.c (.int .i64 2))]), none⟩, ⟨(some 13), (.conv .i64 (.t 12)), none⟩, ⟨(some 6), (.mv (.t 13)), none⟩]) (.seq (.seq (.reg [⟨(some 14), (.mv (.t 0)), none⟩, ⟨(some 15), (.nilCheck (.t 14)), none⟩, ⟨(some 16), (.faddr 2 (.t 15)), none⟩, ⟨(some 17), (.load none (.t 16)), none⟩, ⟨(some 18), (.bin .eql .i64 (.t 17) (.c (.int .i64 (-1)))), none⟩, ⟨(some 19), (.mv (.t 18)), none⟩, ⟨(some 20), (.mv (.t 6)), (some (19, true))⟩, ⟨(some 21), (.mv (.t 1)), (some (19, true))⟩, ⟨(some 22), (.bin .gtr .i64 (.t 20) (.t 21)), (some (19, true))⟩, ⟨(some 23), (.mv (.t 22)), (some (19, true))⟩, ⟨(some 24), (.mv (.t 6)), (some (23, false))⟩, ⟨(some 25), (.mv (.t 0)), (some (23, false))⟩, ⟨(some 26), (.call 29 [(.t 25)]), (some (23, false))⟩, ⟨(some 27), (.bin .gtr .i64 (.t 24) (.t 26)), (some (23, false))⟩, ⟨(some 28), (.pick (.t 23) (.c (.bool true)) (.t 27)), (some (19, true))⟩, ⟨(some 29), (.pick (.t 19) (.t 28) (.c (.bool false))), none⟩]) (.cond (.t 29) (.seq (.reg [⟨(some 30), (.mv (.t 0)), none⟩, ⟨(some 31), (.mv (.t 5)), none⟩, ⟨(some 32), (.nilCheck (.t 30)), none⟩, ⟨(some 33), (.faddr 1 (.t 32)), none⟩, ⟨none, (.store 1 (.t 33) (.t 31)), none⟩]) (.reg [⟨(some 34), (.mv (.t 0)), none⟩, ⟨(some 35), (.mv (.t 5)), none⟩, ⟨(some 36), (.call 41 [(.t 34), (.t 35)]), none⟩])) .skip)) (.seq (.seq (.reg [⟨(some 37), (.mv (.t 0)), none⟩, ⟨(some 38), (.nilCheck (.t 37)), none⟩, ⟨(some 39), (.faddr 2 (.t 38)), none⟩, ⟨(some 40), (.load none (.t 39)), none⟩, ⟨(some 41), (.bin .neq .i64 (.t 40) (.c (.int .i64 (-1)))), none⟩]) (.cond (.t 41) (.seq (.reg [⟨(some 4), (.mv (.c (.sl [] .nil))), none⟩]) .ret) .skip)) (.seq (.reg [⟨(some 42), (.bslice 1 .tip []), none⟩, ⟨(some 43), (.mv (.t 0)), none⟩, ⟨(some 44), (.mv (.t 6)), none⟩, ⟨(some 45), (.call 42 [(.t 43), (.t 44)]), none⟩, ⟨(some 46), (.app 1 1 .tip (.t 42) (.t 45)), none⟩, ⟨(some 4), (.mv (.t 46)), none⟩]) .ret))))))

set_option maxRecDepth 100000 in
theorem k_wtextR : compileC Tryd.prog ann (Tryd.f30.body.getD .skip) = some c_wtextR := by kernel_rfl

theorem s_wtextR {args : List AV} {σ : St} {K : AV → St → Prop} (h : WF σ → T Tryd.prog ann c_wtextR (Fin σ [(.t 4)] K) (args ++ List.replicate (47 - args.length) (.tup [])) σ) : ACalls Tryd.prog n_wtextR args σ K :=
  calls_ok Tryd.func30 (by kernel_rfl) (by kernel_rfl) k_wtextR (by kernel_rfl) (by kernel_rfl) h

abbrev n_spget : Nat := 13

def c_spget : C := (.seq (.reg [⟨(some 2), (.mv (.c (.sl [] .nil))), none⟩, ⟨(some 3), (.mv (.c .nili)), none⟩]) (.seq (.reg [⟨(some 10), (.mv (.t 0)), none⟩, ⟨(some 11), (.call 26 [(.t 10)]), none⟩, ⟨(some 4), (.mv (.t 11)), none⟩]) (.seq (.reg [⟨(some 12), (.mv (.t 4)), none⟩, ⟨(some 13), (.call 27 [(.t 12), (.c (.int .i64 2))]), none⟩, ⟨(some 14), (.conv .i64 (.t 13)), none⟩, ⟨(some 5), (.mv (.t 14)), none⟩]) (.seq (.reg [⟨(some 6), (.mv (.c (.sl [] .nil))), none⟩]) (.seq (.seq (.reg [⟨(some 7), (.mv (.c (.int .i64 0))), none⟩]) (.block 0 (.loop (.seq (.seq (.reg [⟨(some 15), (.mv (.t 7)), none⟩, ⟨(some 16), (.mv (.t 5)), none⟩, ⟨(some 17), (.bin .lss .i64 (.t 15) (.t 16)), none⟩, ⟨(some 18), (.mv (.t 17)), none⟩, ⟨(some 19), (.mv (.t 4)), (some (18, true))⟩, ⟨(some 20), (.call 28 [(.t 19)]), (some (18, true))⟩, ⟨(some 21), (.bin .lss .i64 (.t 20) (.c (.int .i64 0))), (some (18, true))⟩, ⟨(some 22), (.pick (.t 18) (.t 21) (.c (.bool false))), none⟩]) (.cond (.t 22) .skip (.exit 0))) (.seq (.block 1 (.seq (.reg [⟨(some 25), (.mv (.t 0)), none⟩, ⟨(some 26), (.len (.t 25)), none⟩, ⟨(some 27), (.mv (.t 4)), none⟩, ⟨(some 28), (.call 29 [(.t 27)]), none⟩, ⟨(some 29), (.bin .sub .i64 (.t 26) (.t 28)), none⟩, ⟨(some 8), (.mv (.t 29)), none⟩]) (.seq (.reg [⟨(some 30), (.mv (.t 4)), none⟩, ⟨(some 31), (.call 27 [(.t 30), (.c (.int .i64 8))]), none⟩, ⟨(some 32), (.mv (.t 4)), none⟩, ⟨(some 33), (.call 27 [(.t 32), (.c (.int .i64 8))]), none⟩, ⟨(some 34), (.build [(.int .u64 0), (.int .u64 0), (.int .i64 0), (.int .i64 0), (.sl [] .nil)] [(0, (1, (.t 31))), (1, (1, (.t 33)))]), none⟩, ⟨(some 9), (.alloc [(.int .u64 0), (.int .u64 0), (.int .i64 0), (.int .i64 0), (.sl [] .nil)]), none⟩, ⟨none, (.store 5 (.t 9) (.t 34)), none⟩]) (.seq (.reg [⟨(some 35), (.mv (.t 4)), none⟩, ⟨(some 36), (.call 27 [(.t 35), (.c (.int .i64 8))]), none⟩, ⟨(some 37), (.conv .i64 (.t 36)), none⟩, ⟨(some 38), (.faddr 2 (.t 9)), none⟩, ⟨none, (.store 1 (.t 38) (.t 37)), none⟩]) (.seq (.reg [⟨(some 39), (.mv (.t 4)), none⟩, ⟨(some 40), (.call 27 [(.t 39), (.c (.int .i64 8))]), none⟩, ⟨(some 41), (.conv .i64 (.t 40)), none⟩, ⟨(some 42), (.faddr 3 (.t 9)), none⟩, ⟨none, (.store 1 (.t 42) (.t 41)), none⟩]) (.seq (.reg [⟨(some 43), (.mv (.t 4)), none⟩, ⟨(some 44), (.call 30 [(.t 43), (.c (.int .i64 65535))]), none⟩, ⟨(some 45), (.faddr 4 (.t 9)), none⟩, ⟨none, (.store 1 (.t 45) (.t 44)), none⟩]) (.seq (.seq (.reg [⟨(some 46), (.mv (.t 4)), none⟩, ⟨(some 47), (.call 28 [(.t 46)]), none⟩, ⟨(some 48), (.bin .lss .i64 (.t 47) (.c (.int .i64 0))), none⟩, ⟨(some 49), (.mv (.t 48)), none⟩, ⟨(some 50), (.load (some 5) (.t 9)), (some (49, true))⟩, ⟨(some 51), (.call 20 [(.t 50)]), (some (49, true))⟩, ⟨(some 52), (.not (.t 51)), (some (49, true))⟩, ⟨(some 53), (.pick (.t 49) (.t 52) (.c (.bool false))), none⟩]) (.cond (.t 53) (.seq (.reg [⟨(some 54), (.mv (.t 8)), none⟩, ⟨(some 55), (.build [(.int .i64 0), (.int .i64 0)] [(0, (1, (.t 54))), (1, (1, (.c (.int .i64 2))))]), none⟩, ⟨(some 56), (.box (.t 55)), none⟩, ⟨(some 57), (.mkI 57 (.t 56)), none⟩, ⟨(some 2), (.mv (.c (.sl [] .nil))), none⟩, ⟨(some 3), (.mv (.t 57)), none⟩]) .ret) .skip)) (.reg [⟨(some 58), (.mv (.t 6)), none⟩, ⟨(some 59), (.load (some 5) (.t 9)), none⟩, ⟨(some 60), (.bslice 5 .val [(.t 59)]), none⟩, ⟨(some 61), (.app 5 56 .tip (.t 58) (.t 60)), none⟩, ⟨(some 6), (.mv (.t 61)), none⟩])))))))) (.reg [⟨(some 23), (.mv (.t 7)), none⟩, ⟨(some 24), (.bin .add .i64 (.t 23) (.c (.int .i64 1))), none⟩, ⟨(some 7), (.mv (.t 24)), none⟩])))))) (.seq (.block 2 (.seq (.reg [⟨(some 63), (.mv (.t 4)), none⟩, ⟨(some 64), (.call 28 [(.t 63)]), none⟩, ⟨(some 65), (.bin .geq .i64 (.t 64) (.c (.int .i64 0))), none⟩, ⟨(some 62), (.mv (.t 65)), none⟩]) (.cond (.t 62) (.seq (.reg [⟨(some 66), (.mv (.t 4)), none⟩, ⟨(some 67), (.call 28 [(.t 66)]), none⟩, ⟨(some 68), (.build [(.int .i64 0), (.int .i64 0)] [(0, (1, (.t 67))), (1, (1, (.c (.int .i64 2))))]), none⟩, ⟨(some 69), (.box (.t 68)), none⟩, ⟨(some 70), (.mkI 57 (.t 69)), none⟩, ⟨(some 2), (.mv (.c (.sl [] .nil))), none⟩, ⟨(some 3), (.mv (.t 70)), none⟩]) .ret) (.seq (.reg [⟨(some 72), (.mv (.t 4)), none⟩, ⟨(some 73), (.call 29 [(.t 72)]), none⟩, ⟨(some 74), (.bin .gtr .i64 (.t 73) (.c (.int .i64 0))), none⟩, ⟨(some 71), (.mv (.t 74)), none⟩]) (.cond (.t 71) (.seq (.reg [⟨(some 75), (.mv (.t 0)), none⟩, ⟨(some 76), (.len (.t 75)), none⟩, ⟨(some 77), (.mv (.t 4)), none⟩, ⟨(some 78), (.call 29 [(.t 77)]), none⟩, ⟨(some 79), (.bin .sub .i64 (.t 76) (.t 78)), none⟩, ⟨(some 80), (.build [(.int .i64 0), (.int .i64 0)] [(0, (1, (.t 79))), (1, (1, (.c (.int .i64 2))))]), none⟩, ⟨(some 81), (.box (.t 80)), none⟩, ⟨(some 82), (.mkI 57 (.t 81)), none⟩, ⟨(some 2), (.mv (.c (.sl [] .nil))), none⟩, ⟨(some 3), (.mv (.t 82)), none⟩]) .ret) .skip))))) (.seq (.reg [⟨(some 83), (.mv (.t 6)), none⟩, ⟨(some 2), (.mv (.t 83)), none⟩, ⟨(some 3), (.mv (.c .nili)), none⟩]) .ret)))))))

set_option maxRecDepth 100000 in
theorem k_spget : compileC Tryd.prog ann (Tryd.f13.body.getD .skip) = some c_spget := by kernel_rfl

theorem s_spget {args : List AV} {σ : St} {K : AV → St → Prop} (h : WF σ → T Tryd.prog ann c_spget (Fin σ [(.t 2), (.t 3)] K) (args ++ List.replicate (84 - args.length) (.tup [])) σ) : ACalls Tryd.prog n_spget args σ K :=
  calls_ok Tryd.func13 (by kernel_rfl) (by kernel_rfl) k_spget (by kernel_rfl) (by kernel_rfl) h

end Go.VL

namespace Go.VL

open Go.Proofs

def textB (s : List UInt8) : List UInt8 := beB 2 s.length ++ s

theorem textB_len (s : List UInt8) : (textB s).length = s.length + 2 := by simp [textB, beB_len]; omega

/-- the numbers of a span, as they are put -/
def spanN (s : Sp) : List Nat := [s.tr, s.id, s.st.toNat, s.en.toNat]

def spanB (s : Sp) : List UInt8 := runB (spanN s) ++ textB s.da

theorem spanB_len (s : Sp) : (spanB s).length = s.da.length + 34 := by simp [spanB, runB_len, spanN, textB_len]; omega

def spansB (l : List Sp) : List UInt8 := beB 2 l.length ++ l.flatMap spanB

theorem wtext_ok {l s : List UInt8} {g g' : Ver} {σ : St} (hl : l.length ≤ 1000000000) (hs : s.length ≤ 65535) :
    ACalls Tryd.prog n_wtext [.sl (bytesAV l) g, .sl (bytesAV s) g'] σ (fun v σ' => v = .tup [.sl (bytesAV (l ++ textB s)) .none, .nili] ∧ σ' = σ) := by
  refine s_wtext (fun wf => ?_)
  unfold c_wtext
  have e1 : decide ((s.length : Int) > 65535) = false := decide_eq_false (by omega)
  refine T.seq_k (fun K_h0 h0 => ?_)
  refine T.regi hm ?_
  simp only [↓reduceIte, namesOf, List.any, I.names, aops, aopsI, aopsT, qstep, CPt, qget, Tbl.get, astep, ev, setd, List.set, List.getD, List.getElem?_cons_zero, List.getElem?_cons_succ, List.getElem?_nil, List.cons_append, List.nil_append, List.length_cons, List.length_nil, List.replicate, then_normal, inBlock_normal, Option.getD_some, Option.getD_none, Bool.or_false, Bool.or_true, Bool.true_or, Bool.false_or, Bool.false_eq_true, if_false, if_true, up_zero, Nat.reduceAdd, Nat.reduceSub, binv, ↓opt_def, AV.isAny, AV.cells, ldc, List.map_cons, List.map_nil, St.set_next, St.set_same, St.up_next, Int.natCast_nonneg, lt_len, le_len, Int.toNat_natCast, true_and, and_true, eq_self, reduceCtorEq, decide_true, List.length_singleton, er_int, er_bool, er_str]
  refine h0 _ _ ?_
  try clear h0 K_h0
  refine T.seq_k (fun K_h1 h1 => ?_)
  refine T.seq_k (fun K_h0 h0 => ?_)
  refine T.regi hm ?_
  simp only [↓reduceIte, namesOf, List.any, I.names, aops, aopsI, aopsT, qstep, CPt, qget, Tbl.get, astep, ev, setd, List.set, List.getD, List.getElem?_cons_zero, List.getElem?_cons_succ, List.getElem?_nil, List.cons_append, List.nil_append, List.length_cons, List.length_nil, List.replicate, then_normal, inBlock_normal, Option.getD_some, Option.getD_none, Bool.or_false, Bool.or_true, Bool.true_or, Bool.false_or, Bool.false_eq_true, if_false, if_true, up_zero, Nat.reduceAdd, Nat.reduceSub, binv, ↓opt_def, AV.isAny, AV.cells, ldc, List.map_cons, List.map_nil, St.set_next, St.set_same, St.up_next, Int.natCast_nonneg, lt_len, le_len, Int.toNat_natCast, true_and, and_true, eq_self, reduceCtorEq, decide_true, List.length_singleton, er_int, er_bool, er_str, bytesAV_len, e1]
  refine h0 _ _ ?_
  try clear h0 K_h0
  refine T.cond rfl (fun h => by cases h) (fun _ => T.skip ?_)
  refine h1 _ _ ?_
  try clear h1 K_h1
  have e2 := u64w (n := s.length) (by omega)
  refine T.seq_k (fun K_h1 h1 => ?_)
  refine T.regi hm ?_
  simp only [↓reduceIte, namesOf, List.any, I.names, aops, aopsI, aopsT, qstep, CPt, qget, Tbl.get, astep, ev, setd, List.set, List.getD, List.getElem?_cons_zero, List.getElem?_cons_succ, List.getElem?_nil, List.cons_append, List.nil_append, List.length_cons, List.length_nil, List.replicate, then_normal, inBlock_normal, Option.getD_some, Option.getD_none, Bool.or_false, Bool.or_true, Bool.true_or, Bool.false_or, Bool.false_eq_true, if_false, if_true, up_zero, Nat.reduceAdd, Nat.reduceSub, binv, ↓opt_def, AV.isAny, AV.cells, ldc, List.map_cons, List.map_nil, St.set_next, St.set_same, St.up_next, Int.natCast_nonneg, lt_len, le_len, Int.toNat_natCast, true_and, and_true, eq_self, reduceCtorEq, decide_true, List.length_singleton, er_int, er_bool, er_str, bytesAV_len, e2]
  refine (wput_ok (w := 2) (by omega) rfl (fun _ => by omega)).mono ?_
  rintro v σ1 ⟨h, o1, rfl⟩
  try simp only [↓reduceIte, namesOf, List.any, I.names, aops, aopsI, aopsT, qstep, CPt, qget, Tbl.get, astep, ev, setd, List.set, List.getD, List.getElem?_cons_zero, List.getElem?_cons_succ, List.getElem?_nil, List.cons_append, List.nil_append, List.length_cons, List.length_nil, List.replicate, then_normal, inBlock_normal, Option.getD_some, Option.getD_none, Bool.or_false, Bool.or_true, Bool.true_or, Bool.false_or, Bool.false_eq_true, if_false, if_true, up_zero, Nat.reduceAdd, Nat.reduceSub, binv, ↓opt_def, AV.isAny, AV.cells, ldc, List.map_cons, List.map_nil, St.set_next, St.set_same, St.up_next, Int.natCast_nonneg, lt_len, le_len, Int.toNat_natCast, true_and, and_true, eq_self, reduceCtorEq, decide_true, List.length_singleton, er_int, er_bool, er_str, up_zero]
  refine h1 _ _ ?_
  try clear h1 K_h1
  have hat := (Tq.one o1).ats
  have hle : decide ((l.length + 2 + s.length) * 1 ≤ 70368744177664 ∧ l.length + 2 + s.length ≤ 4611686018427387904) = true := app_le (by omega)
  refine T.seq_k (fun K_h1 h1 => ?_)
  refine T.regi hm ?_
  simp only [↓reduceIte, namesOf, List.any, I.names, aops, aopsI, aopsT, qstep, CPt, qget, Tbl.get, astep, ev, setd, List.set, List.getD, List.getElem?_cons_zero, List.getElem?_cons_succ, List.getElem?_nil, List.cons_append, List.nil_append, List.length_cons, List.length_nil, List.replicate, then_normal, inBlock_normal, Option.getD_some, Option.getD_none, Bool.or_false, Bool.or_true, Bool.true_or, Bool.false_or, Bool.false_eq_true, if_false, if_true, up_zero, Nat.reduceAdd, Nat.reduceSub, binv, ↓opt_def, AV.isAny, AV.cells, ldc, List.map_cons, List.map_nil, St.set_next, St.set_same, St.up_next, Int.natCast_nonneg, lt_len, le_len, Int.toNat_natCast, true_and, and_true, eq_self, reduceCtorEq, decide_true, List.length_singleton, er_int, er_bool, er_str, held, srcOf, bytesAV_er, bytesAV_app, bytes_all, bytesAV_len, List.length_append, Bool.and_self, St.up_res, List.isEmpty, hat, beB_len, hle]
  refine h1 _ _ ?_
  try clear h1 K_h1
  have q := (Tq.one o1).app (n := 6) (i := 2) (by omega)
  refine T.ret (Fin.quietw rfl (Wk.tup2 (Wk.sl _ _)) ⟨⟨nb_bytes _ _, trivial⟩, trivial, trivial⟩ (q.quiet wf) ⟨?_, rfl⟩)
  rw [textB, List.append_assoc]; rfl

theorem mayI_facts {s e n : Int} (h : mayI s e n = true) : 0 ≤ s ∧ s ≤ e ∧ e ≤ 1099511627776 ∧ n ≤ 64 := by
  unfold mayI at h; simpa using h

theorem mayS_facts {s : Sp} (h : mayS s = true) : 0 ≤ s.st ∧ s.st ≤ s.en ∧ s.en ≤ 1099511627776 ∧ s.da.length ≤ 64 := by
  have := mayI_facts h; omega

/-- a span whose Ids are words -/
def Sp.wd (s : Sp) : Prop := s.tr < 18446744073709551616 ∧ s.id < 18446744073709551616

set_option maxRecDepth 10000 in
set_option maxHeartbeats 1000000 in
theorem sput1_ok {s : Sp} {σ : St} (hm : mayS s = true) :
    ACalls Tryd.prog n_sput1 [.agg [.int .u64 (s.tr : Int), .int .u64 (s.id : Int), .int .i64 s.st, .int .i64 s.en, .sl (bytesAV s.da) .none]] σ (fun v σ' => v = .tup [.sl (bytesAV (spanB s)) .none, .nili] ∧ σ' = σ) := by
  refine s_sput1 (fun wf => ?_)
  unfold c_sput1
  obtain ⟨m1, m2, m3, m4⟩ := mayS_facts hm
  have hm := VL.hm
  refine T.seq_k (fun K_h1 h1 => ?_)
  refine T.regi hm ?_
  simp only [↓reduceIte, namesOf, List.any, I.names, aops, aopsI, aopsT, qstep, CPt, qget, Tbl.get, astep, ev, setd, List.set, List.getD, List.getElem?_cons_zero, List.getElem?_cons_succ, List.getElem?_nil, List.cons_append, List.nil_append, List.length_cons, List.length_nil, List.replicate, then_normal, inBlock_normal, Option.getD_some, Option.getD_none, Bool.or_false, Bool.or_true, Bool.true_or, Bool.false_or, Bool.false_eq_true, if_false, if_true, up_zero, Nat.reduceAdd, Nat.reduceSub, binv, ↓opt_def, AV.isAny, AV.cells, ldc, List.map_cons, List.map_nil, St.set_next, St.set_same, St.up_next, Int.natCast_nonneg, lt_len, le_len, Int.toNat_natCast, true_and, and_true, eq_self, reduceCtorEq, decide_true, List.length_singleton, er_int, er_bool, er_str]
  have k0 : Like σ ((σ.up 3).set (σ.next + 0) (.obj [.int .u64 (s.tr : Int), .int .u64 (s.id : Int), .int .i64 s.st, .int .i64 s.en, .sl (bytesAV s.da) .none])) := (Like.refl σ).box _
  have hb : ((σ.up 3).set (σ.next + 0) (.obj [.int .u64 (s.tr : Int), .int .u64 (s.id : Int), .int .i64 s.st, .int .i64 s.en, .sl (bytesAV s.da) .none])).res (σ.next + 0) = some (.obj [.int .u64 (s.tr : Int), .int .u64 (s.id : Int), .int .i64 s.st, .int .i64 s.en, .sl (bytesAV s.da) .none]) := by simp
  generalize ((σ.up 3).set (σ.next + 0) (.obj [.int .u64 (s.tr : Int), .int .u64 (s.id : Int), .int .i64 s.st, .int .i64 s.en, .sl (bytesAV s.da) .none])) = τ at k0 hb ⊢
  generalize σ.next + 0 = a at hb ⊢
  refine h1 _ _ ?_
  try clear h1 K_h1
  refine T.seq_k (fun K_h0 h0 => ?_)
  refine T.regi hm ?_
  simp only [↓reduceIte, namesOf, List.any, I.names, aops, aopsI, aopsT, qstep, CPt, qget, Tbl.get, astep, ev, setd, List.set, List.getD, List.getElem?_cons_zero, List.getElem?_cons_succ, List.getElem?_nil, List.cons_append, List.nil_append, List.length_cons, List.length_nil, List.replicate, then_normal, inBlock_normal, Option.getD_some, Option.getD_none, Bool.or_false, Bool.or_true, Bool.true_or, Bool.false_or, Bool.false_eq_true, if_false, if_true, up_zero, Nat.reduceAdd, Nat.reduceSub, binv, ↓opt_def, AV.isAny, AV.cells, ldc, List.map_cons, List.map_nil, St.set_next, St.set_same, St.up_next, Int.natCast_nonneg, lt_len, le_len, Int.toNat_natCast, true_and, and_true, eq_self, reduceCtorEq, decide_true, List.length_singleton, er_int, er_bool, er_str]
  refine h0 _ _ ?_
  try clear h0 K_h0
  refine T.seq_k (fun K_h1 h1 => ?_)
  have e1 : IntKind.u64.wrap s.st = ((s.st.toNat : Nat) : Int) := by
    have := u64w (n := s.st.toNat) (by omega)
    rw [Int.toNat_of_nonneg m1] at this
    rw [this, Int.toNat_of_nonneg m1]
  have e2 : IntKind.u64.wrap s.en = ((s.en.toNat : Nat) : Int) := by
    have := u64w (n := s.en.toNat) (by omega)
    rw [Int.toNat_of_nonneg (by omega)] at this
    rw [this, Int.toNat_of_nonneg (by omega)]
  have hn : [AV.int .u64 (s.tr : Int), .int .u64 (s.id : Int), .int .u64 ((s.st.toNat : Nat) : Int), .int .u64 ((s.en.toNat : Nat) : Int)] = nums .u64 (natI (spanN s)) := rfl
  have hnl : (nums .u64 (natI (spanN s))).length = 4 := rfl
  refine T.seq_k (fun K_h0 h0 => ?_)
  refine T.regi hm ?_
  simp only [↓reduceIte, namesOf, List.any, I.names, aops, aopsI, aopsT, qstep, CPt, qget, Tbl.get, astep, ev, setd, List.set, List.getD, List.getElem?_cons_zero, List.getElem?_cons_succ, List.getElem?_nil, List.cons_append, List.nil_append, List.length_cons, List.length_nil, List.replicate, then_normal, inBlock_normal, Option.getD_some, Option.getD_none, Bool.or_false, Bool.or_true, Bool.true_or, Bool.false_or, Bool.false_eq_true, if_false, if_true, up_zero, Nat.reduceAdd, Nat.reduceSub, binv, ↓opt_def, AV.isAny, AV.cells, ldc, List.map_cons, List.map_nil, St.set_next, St.set_same, St.up_next, Int.natCast_nonneg, lt_len, le_len, Int.toNat_natCast, true_and, and_true, eq_self, reduceCtorEq, decide_true, List.length_singleton, er_int, er_bool, er_str, hb, e1, e2, held, hn, AV.fits, AV.one, List.all_cons, List.all_nil, Nat.reduceBEq, Bool.and_true, Bool.not_false, Bool.and_self, Nat.zero_add, splice, List.take, List.drop, Nat.reduceLeDiff]
  refine h0 _ _ ?_
  try clear h0 K_h0
  refine T.block ?_
  refine T.gh (Gh.keep [1, 4, 19, 20, 21]) ?_
  refine T.loopi (fun i ρ t => t = τ ∧ ∃ v, ρ = [.any, .ptr a 0, .any, .any, .sl (bytesAV (runB ((spanN s).take i))) v] ++ List.replicate 14 .any ++ [.sl (nums .u64 (natI (spanN s))) .none, .int .i64 4, .int .i64 (i : Int)] ++ List.replicate 20 .any)
    4 0 (Nat.zero_le _) ⟨rfl, .nil, rfl⟩ ?_
  rintro i ρ t hi ⟨rfl, v, rfl⟩
  refine T.seq_k (fun K_h0 h0 => ?_)
  refine T.regi hm ?_
  simp only [↓reduceIte, namesOf, List.any, I.names, aops, aopsI, aopsT, qstep, CPt, qget, Tbl.get, astep, ev, setd, List.set, List.getD, List.getElem?_cons_zero, List.getElem?_cons_succ, List.getElem?_nil, List.cons_append, List.nil_append, List.length_cons, List.length_nil, List.replicate, then_normal, inBlock_normal, Option.getD_some, Option.getD_none, Bool.or_false, Bool.or_true, Bool.true_or, Bool.false_or, Bool.false_eq_true, if_false, if_true, up_zero, Nat.reduceAdd, Nat.reduceSub, binv, ↓opt_def, AV.isAny, AV.cells, ldc, List.map_cons, List.map_nil, St.set_next, St.set_same, St.up_next, Int.natCast_nonneg, lt_len, le_len, Int.toNat_natCast, true_and, and_true, eq_self, reduceCtorEq, decide_true, List.length_singleton, er_int, er_bool, er_str]
  refine h0 _ _ ?_
  try clear h0 K_h0
  refine T.seq_k (fun K_h2 h2 => ?_)
  by_cases hil : i < 4
  case neg =>
    have : i = 4 := by omega
    subst this
    refine T.cond (b := false) (by simp [ev]) (fun h => by cases h) (fun _ => T.exit ?_)
    try simp only [↓reduceIte, namesOf, List.any, I.names, aops, aopsI, aopsT, qstep, CPt, qget, Tbl.get, astep, ev, setd, List.set, List.getD, List.getElem?_cons_zero, List.getElem?_cons_succ, List.getElem?_nil, List.cons_append, List.nil_append, List.length_cons, List.length_nil, List.replicate, then_normal, inBlock_normal, Option.getD_some, Option.getD_none, Bool.or_false, Bool.or_true, Bool.true_or, Bool.false_or, Bool.false_eq_true, if_false, if_true, up_zero, Nat.reduceAdd, Nat.reduceSub, binv, ↓opt_def, AV.isAny, AV.cells, ldc, List.map_cons, List.map_nil, St.set_next, St.set_same, St.up_next, Int.natCast_nonneg, lt_len, le_len, Int.toNat_natCast, true_and, and_true, eq_self, reduceCtorEq, decide_true, List.length_singleton, er_int, er_bool, er_str, inBlock_exit, then_exit]
    refine h1 _ _ ?_
    try clear h1 K_h1
    refine T.seq_k (fun K_h1 h1 => ?_)
    have ht : (spanN s).take 4 = spanN s := rfl
    rw [ht]
    refine T.regi hm ?_
    simp only [↓reduceIte, namesOf, List.any, I.names, aops, aopsI, aopsT, qstep, CPt, qget, Tbl.get, astep, ev, setd, List.set, List.getD, List.getElem?_cons_zero, List.getElem?_cons_succ, List.getElem?_nil, List.cons_append, List.nil_append, List.length_cons, List.length_nil, List.replicate, then_normal, inBlock_normal, Option.getD_some, Option.getD_none, Bool.or_false, Bool.or_true, Bool.true_or, Bool.false_or, Bool.false_eq_true, if_false, if_true, up_zero, Nat.reduceAdd, Nat.reduceSub, binv, ↓opt_def, AV.isAny, AV.cells, ldc, List.map_cons, List.map_nil, St.set_next, St.set_same, St.up_next, Int.natCast_nonneg, lt_len, le_len, Int.toNat_natCast, true_and, and_true, eq_self, reduceCtorEq, decide_true, List.length_singleton, er_int, er_bool, er_str, hb]
    refine (wtext_ok (by rw [runB_len]; simp [spanN]) (by omega)).mono ?_
    rintro w t2 ⟨rfl, rfl⟩
    try simp only [↓reduceIte, namesOf, List.any, I.names, aops, aopsI, aopsT, qstep, CPt, qget, Tbl.get, astep, ev, setd, List.set, List.getD, List.getElem?_cons_zero, List.getElem?_cons_succ, List.getElem?_nil, List.cons_append, List.nil_append, List.length_cons, List.length_nil, List.replicate, then_normal, inBlock_normal, Option.getD_some, Option.getD_none, Bool.or_false, Bool.or_true, Bool.true_or, Bool.false_or, Bool.false_eq_true, if_false, if_true, up_zero, Nat.reduceAdd, Nat.reduceSub, binv, ↓opt_def, AV.isAny, AV.cells, ldc, List.map_cons, List.map_nil, St.set_next, St.set_same, St.up_next, Int.natCast_nonneg, lt_len, le_len, Int.toNat_natCast, true_and, and_true, eq_self, reduceCtorEq, decide_true, List.length_singleton, er_int, er_bool, er_str, up_zero]
    refine h1 _ _ ?_
    try clear h1 K_h1
    exact T.ret (Fin.quiet rfl ⟨⟨nb_bytes _ _, trivial⟩, trivial, trivial⟩ (k0.quiet wf) ⟨rfl, rfl⟩)
  refine T.cond (b := true) (by simp [ev]; omega) (fun _ => T.skip ?_) (fun h => by cases h)
  refine h2 _ _ ?_
  try clear h2 K_h2
  have hiw := inc64' hil (by omega)
  have hil' : i < (spanN s).length := hil
  have hg := natI_get hil'
  have htk := runB_take hil'
  have hlen : (runB ((spanN s).take i)).length ≤ 1000 := by rw [runB_len, List.length_take]; omega
  have hilI : (i : Int) < ((4 : Nat) : Int) := by omega
  refine T.seq_k (fun K_h2 h2 => ?_)
  refine T.block ?_
  refine T.seq_k (fun K_h0 h0 => ?_)
  refine T.regi hm ?_
  simp only [↓reduceIte, namesOf, List.any, I.names, aops, aopsI, aopsT, qstep, CPt, qget, Tbl.get, astep, ev, setd, List.set, List.getD, List.getElem?_cons_zero, List.getElem?_cons_succ, List.getElem?_nil, List.cons_append, List.nil_append, List.length_cons, List.length_nil, List.replicate, then_normal, inBlock_normal, Option.getD_some, Option.getD_none, Bool.or_false, Bool.or_true, Bool.true_or, Bool.false_or, Bool.false_eq_true, if_false, if_true, up_zero, Nat.reduceAdd, Nat.reduceSub, binv, ↓opt_def, AV.isAny, AV.cells, ldc, List.map_cons, List.map_nil, St.set_next, St.set_same, St.up_next, Int.natCast_nonneg, lt_len, le_len, Int.toNat_natCast, true_and, and_true, eq_self, reduceCtorEq, decide_true, List.length_singleton, er_int, er_bool, er_str, hnl, hg, hilI]
  refine h0 _ _ ?_
  try clear h0 K_h0
  refine T.seq_k (fun K_h3 h3 => ?_)
  refine T.regi hm ?_
  simp only [↓reduceIte, namesOf, List.any, I.names, aops, aopsI, aopsT, qstep, CPt, qget, Tbl.get, astep, ev, setd, List.set, List.getD, List.getElem?_cons_zero, List.getElem?_cons_succ, List.getElem?_nil, List.cons_append, List.nil_append, List.length_cons, List.length_nil, List.replicate, then_normal, inBlock_normal, Option.getD_some, Option.getD_none, Bool.or_false, Bool.or_true, Bool.true_or, Bool.false_or, Bool.false_eq_true, if_false, if_true, up_zero, Nat.reduceAdd, Nat.reduceSub, binv, ↓opt_def, AV.isAny, AV.cells, ldc, List.map_cons, List.map_nil, St.set_next, St.set_same, St.up_next, Int.natCast_nonneg, lt_len, le_len, Int.toNat_natCast, true_and, and_true, eq_self, reduceCtorEq, decide_true, List.length_singleton, er_int, er_bool, er_str]
  refine (wput_q (w := 8) (by omega) rfl (fun h => by omega)).mono ?_
  rintro w t2 ⟨rfl, rfl⟩
  rw [← htk]
  try simp only [↓reduceIte, namesOf, List.any, I.names, aops, aopsI, aopsT, qstep, CPt, qget, Tbl.get, astep, ev, setd, List.set, List.getD, List.getElem?_cons_zero, List.getElem?_cons_succ, List.getElem?_nil, List.cons_append, List.nil_append, List.length_cons, List.length_nil, List.replicate, then_normal, inBlock_normal, Option.getD_some, Option.getD_none, Bool.or_false, Bool.or_true, Bool.true_or, Bool.false_or, Bool.false_eq_true, if_false, if_true, up_zero, Nat.reduceAdd, Nat.reduceSub, binv, ↓opt_def, AV.isAny, AV.cells, ldc, List.map_cons, List.map_nil, St.set_next, St.set_same, St.up_next, Int.natCast_nonneg, lt_len, le_len, Int.toNat_natCast, true_and, and_true, eq_self, reduceCtorEq, decide_true, List.length_singleton, er_int, er_bool, er_str, up_zero]
  refine h3 _ _ ?_
  try clear h3 K_h3
  refine T.seq_k (fun K_h3 h3 => ?_)
  refine T.seq_k (fun K_h0 h0 => ?_)
  refine T.regi hm ?_
  simp only [↓reduceIte, namesOf, List.any, I.names, aops, aopsI, aopsT, qstep, CPt, qget, Tbl.get, astep, ev, setd, List.set, List.getD, List.getElem?_cons_zero, List.getElem?_cons_succ, List.getElem?_nil, List.cons_append, List.nil_append, List.length_cons, List.length_nil, List.replicate, then_normal, inBlock_normal, Option.getD_some, Option.getD_none, Bool.or_false, Bool.or_true, Bool.true_or, Bool.false_or, Bool.false_eq_true, if_false, if_true, up_zero, Nat.reduceAdd, Nat.reduceSub, binv, ↓opt_def, AV.isAny, AV.cells, ldc, List.map_cons, List.map_nil, St.set_next, St.set_same, St.up_next, Int.natCast_nonneg, lt_len, le_len, Int.toNat_natCast, true_and, and_true, eq_self, reduceCtorEq, decide_true, List.length_singleton, er_int, er_bool, er_str, eqIv, bne_self_eq_false]
  refine h0 _ _ ?_
  try clear h0 K_h0
  refine T.cond rfl (fun h => by cases h) (fun _ => T.skip ?_)
  refine h3 _ _ ?_
  try clear h3 K_h3
  refine T.regi hm ?_
  simp only [↓reduceIte, namesOf, List.any, I.names, aops, aopsI, aopsT, qstep, CPt, qget, Tbl.get, astep, ev, setd, List.set, List.getD, List.getElem?_cons_zero, List.getElem?_cons_succ, List.getElem?_nil, List.cons_append, List.nil_append, List.length_cons, List.length_nil, List.replicate, then_normal, inBlock_normal, Option.getD_some, Option.getD_none, Bool.or_false, Bool.or_true, Bool.true_or, Bool.false_or, Bool.false_eq_true, if_false, if_true, up_zero, Nat.reduceAdd, Nat.reduceSub, binv, ↓opt_def, AV.isAny, AV.cells, ldc, List.map_cons, List.map_nil, St.set_next, St.set_same, St.up_next, Int.natCast_nonneg, lt_len, le_len, Int.toNat_natCast, true_and, and_true, eq_self, reduceCtorEq, decide_true, List.length_singleton, er_int, er_bool, er_str]
  refine h2 _ _ ?_
  try clear h2 K_h2
  refine T.regi hm ?_
  simp only [↓reduceIte, namesOf, List.any, I.names, aops, aopsI, aopsT, qstep, CPt, qget, Tbl.get, astep, ev, setd, List.set, List.getD, List.getElem?_cons_zero, List.getElem?_cons_succ, List.getElem?_nil, List.cons_append, List.nil_append, List.length_cons, List.length_nil, List.replicate, then_normal, inBlock_normal, Option.getD_some, Option.getD_none, Bool.or_false, Bool.or_true, Bool.true_or, Bool.false_or, Bool.false_eq_true, if_false, if_true, up_zero, Nat.reduceAdd, Nat.reduceSub, binv, ↓opt_def, AV.isAny, AV.cells, ldc, List.map_cons, List.map_nil, St.set_next, St.set_same, St.up_next, Int.natCast_nonneg, lt_len, le_len, Int.toNat_natCast, true_and, and_true, eq_self, reduceCtorEq, decide_true, List.length_singleton, er_int, er_bool, er_str, hiw]
  exact ⟨hil, _, _, Gh.keep [1, 4, 19, 20, 21], rfl, .none, rfl⟩

end Go.VL

namespace Go.VL

open Go.Proofs

/-- where a text can't be read -/
def rXbad (l : List UInt8) (s : Rs) : Bool := decide ((rN l s 2).bad ≠ -1) || decide ((rW l s 2 : Int) > l.length - (rN l s 2).at_)

/-- a text -/
def rX (l : List UInt8) (s : Rs) : List UInt8 := if rXbad l s then [] else (l.drop (rN l s 2).at_.toNat).take (rW l s 2)

/-- the reader behind it -/
def rXN (l : List UInt8) (s : Rs) : Rs := if (rN l s 2).bad ≠ -1 then rN l s 2 else if (rW l s 2 : Int) > l.length - (rN l s 2).at_ then ⟨s.at_, s.at_⟩ else ⟨(rN l s 2).at_ + rW l s 2, -1⟩

theorem rXN_ok {l : List UInt8} {s : Rs} (h : s.ok l) : (rXN l s).ok l := by
  have h2 := rN_ok (w := 2) h
  unfold rXN
  split
  · exact h2
  · rename_i hb
    have hb' : (rN l s 2).bad = -1 := by simpa using hb
    split
    · obtain ⟨⟨a1, a2, a3⟩, _⟩ := h
      exact ⟨⟨a1, a2, a3⟩, .inr a2⟩
    · obtain ⟨⟨a1, a2, a3⟩, _⟩ := h2
      exact ⟨⟨a1, by simp only; omega, by simp only; omega⟩, .inl rfl⟩

theorem rX_len {l : List UInt8} {s : Rs} (h : s.ok l) : (rX l s).length ≤ 65535 := by
  have := rW_lt (w := 2) h
  unfold rX
  split
  · simp
  · rw [List.length_take]; omega

set_option maxRecDepth 10000 in
set_option maxHeartbeats 1000000 in
theorem wtextR_ok {l : List UInt8} {s : Rs} {n : Nat} {σ : St} (hd : s.ok l) (hr : σ.res n = some (rdS l .none s)) :
    ACalls Tryd.prog n_wtextR [.ptr n 0, .int .i64 65535] σ (fun v σ' => v = .sl (bytesAV (rX l s)) .none ∧ σ' = σ.set n (rdS l .none (rXN l s))) := by
  refine s_wtextR (fun wf => ?_)
  unfold c_wtextR
  have hr' : σ.res n = some (.obj [.sl (bytesAV l) .none, .int .i64 s.at_, .int .i64 s.bad]) := hr
  have h2 := rN_ok (w := 2) hd
  have hN := rW_lt (w := 2) hd
  have eN : IntKind.i64.wrap (rW l s 2 : Int) = (rW l s 2 : Int) := wrap64 (by omega) (by omega)
  obtain ⟨⟨b1, b2, b3⟩, b4⟩ := h2
  have hn0 := wf.lt hr
  refine T.seq_k (fun K_h0 h0 => ?_)
  refine T.regi hm ?_
  simp only [↓reduceIte, namesOf, List.any, I.names, aops, aopsI, aopsT, qstep, CPt, qget, Tbl.get, astep, ev, setd, List.set, List.getD, List.getElem?_cons_zero, List.getElem?_cons_succ, List.getElem?_nil, List.cons_append, List.nil_append, List.length_cons, List.length_nil, List.replicate, then_normal, inBlock_normal, Option.getD_some, Option.getD_none, Bool.or_false, Bool.or_true, Bool.true_or, Bool.false_or, Bool.false_eq_true, if_false, if_true, up_zero, Nat.reduceAdd, Nat.reduceSub, binv, ↓opt_def, AV.isAny, AV.cells, ldc, List.map_cons, List.map_nil, St.set_next, St.set_same, St.up_next, Int.natCast_nonneg, lt_len, le_len, Int.toNat_natCast, true_and, and_true, eq_self, reduceCtorEq, decide_true, List.length_singleton, er_int, er_bool, er_str]
  refine h0 _ _ ?_
  try clear h0 K_h0
  refine T.seq_k (fun K_h0 h0 => ?_)
  refine T.regi hm ?_
  simp only [↓reduceIte, namesOf, List.any, I.names, aops, aopsI, aopsT, qstep, CPt, qget, Tbl.get, astep, ev, setd, List.set, List.getD, List.getElem?_cons_zero, List.getElem?_cons_succ, List.getElem?_nil, List.cons_append, List.nil_append, List.length_cons, List.length_nil, List.replicate, then_normal, inBlock_normal, Option.getD_some, Option.getD_none, Bool.or_false, Bool.or_true, Bool.true_or, Bool.false_or, Bool.false_eq_true, if_false, if_true, up_zero, Nat.reduceAdd, Nat.reduceSub, binv, ↓opt_def, AV.isAny, AV.cells, ldc, List.map_cons, List.map_nil, St.set_next, St.set_same, St.up_next, Int.natCast_nonneg, lt_len, le_len, Int.toNat_natCast, true_and, and_true, eq_self, reduceCtorEq, decide_true, List.length_singleton, er_int, er_bool, er_str, hr']
  refine h0 _ _ ?_
  try clear h0 K_h0
  refine T.seq_k (fun K_h1 h1 => ?_)
  refine T.regi hm ?_
  simp only [↓reduceIte, namesOf, List.any, I.names, aops, aopsI, aopsT, qstep, CPt, qget, Tbl.get, astep, ev, setd, List.set, List.getD, List.getElem?_cons_zero, List.getElem?_cons_succ, List.getElem?_nil, List.cons_append, List.nil_append, List.length_cons, List.length_nil, List.replicate, then_normal, inBlock_normal, Option.getD_some, Option.getD_none, Bool.or_false, Bool.or_true, Bool.true_or, Bool.false_or, Bool.false_eq_true, if_false, if_true, up_zero, Nat.reduceAdd, Nat.reduceSub, binv, ↓opt_def, AV.isAny, AV.cells, ldc, List.map_cons, List.map_nil, St.set_next, St.set_same, St.up_next, Int.natCast_nonneg, lt_len, le_len, Int.toNat_natCast, true_and, and_true, eq_self, reduceCtorEq, decide_true, List.length_singleton, er_int, er_bool, er_str]
  refine (wwordF hd rfl hr).mono ?_
  rintro v σ1 ⟨rfl, rfl⟩
  try simp only [↓reduceIte, namesOf, List.any, I.names, aops, aopsI, aopsT, qstep, CPt, qget, Tbl.get, astep, ev, setd, List.set, List.getD, List.getElem?_cons_zero, List.getElem?_cons_succ, List.getElem?_nil, List.cons_append, List.nil_append, List.length_cons, List.length_nil, List.replicate, then_normal, inBlock_normal, Option.getD_some, Option.getD_none, Bool.or_false, Bool.or_true, Bool.true_or, Bool.false_or, Bool.false_eq_true, if_false, if_true, up_zero, Nat.reduceAdd, Nat.reduceSub, binv, ↓opt_def, AV.isAny, AV.cells, ldc, List.map_cons, List.map_nil, St.set_next, St.set_same, St.up_next, Int.natCast_nonneg, lt_len, le_len, Int.toNat_natCast, true_and, and_true, eq_self, reduceCtorEq, decide_true, List.length_singleton, er_int, er_bool, er_str, up_zero, eN]
  refine h1 _ _ ?_
  try clear h1 K_h1
  generalize hS : rN l s 2 = s2 at b2 b3 b4
  generalize hM : rW l s 2 = m at hN
  have hr2 : (σ.set n (rdS l .none s2)).res n = some (.obj [.sl (bytesAV l) .none, .int .i64 s2.at_, .int .i64 s2.bad]) := St.set_same _ _ _
  have hr2' : (σ.set n (rdS l .none s2)).res n = some (rdS l .none s2) := St.set_same _ _ _
  generalize hσ2 : σ.set n (rdS l .none s2) = t2 at hr2 hr2' ⊢
  have hXb : rXbad l s = (decide (s2.bad ≠ -1) || decide ((m : Int) > l.length - s2.at_)) := by unfold rXbad; rw [hS, hM]
  have hXN : rXN l s = if s2.bad ≠ -1 then s2 else if (m : Int) > l.length - s2.at_ then ⟨s.at_, s.at_⟩ else ⟨s2.at_ + m, -1⟩ := by unfold rXN; rw [hS, hM]
  have hX : rX l s = if rXbad l s then [] else (l.drop s2.at_.toNat).take m := by unfold rX; rw [hS, hM]
  have e1 : decide ((m : Int) > 65535) = false := decide_eq_false (by omega)
  refine T.seq_k (fun K_h1 h1 => ?_)
  by_cases hbad : s2.bad = -1
  case neg =>
    have e2 : (s2.bad == -1) = false := by simpa using hbad
    have e3 : (s2.bad != -1) = true := by simpa using hbad
    refine T.seq_k (fun K_h0 h0 => ?_)
    refine T.regi hm ?_
    simp only [↓reduceIte, namesOf, List.any, I.names, aops, aopsI, aopsT, qstep, CPt, qget, Tbl.get, astep, ev, setd, List.set, List.getD, List.getElem?_cons_zero, List.getElem?_cons_succ, List.getElem?_nil, List.cons_append, List.nil_append, List.length_cons, List.length_nil, List.replicate, then_normal, inBlock_normal, Option.getD_some, Option.getD_none, Bool.or_false, Bool.or_true, Bool.true_or, Bool.false_or, Bool.false_eq_true, if_false, if_true, up_zero, Nat.reduceAdd, Nat.reduceSub, binv, ↓opt_def, AV.isAny, AV.cells, ldc, List.map_cons, List.map_nil, St.set_next, St.set_same, St.up_next, Int.natCast_nonneg, lt_len, le_len, Int.toNat_natCast, true_and, and_true, eq_self, reduceCtorEq, decide_true, List.length_singleton, er_int, er_bool, er_str, hr2, e2]
    refine h0 _ _ ?_
    try clear h0 K_h0
    refine T.cond rfl (fun h => by cases h) (fun _ => T.skip ?_)
    refine h1 _ _ ?_
    try clear h1 K_h1
    refine T.seq_k (fun K_h1 h1 => ?_)
    refine T.seq_k (fun K_h0 h0 => ?_)
    refine T.regi hm ?_
    simp only [↓reduceIte, namesOf, List.any, I.names, aops, aopsI, aopsT, qstep, CPt, qget, Tbl.get, astep, ev, setd, List.set, List.getD, List.getElem?_cons_zero, List.getElem?_cons_succ, List.getElem?_nil, List.cons_append, List.nil_append, List.length_cons, List.length_nil, List.replicate, then_normal, inBlock_normal, Option.getD_some, Option.getD_none, Bool.or_false, Bool.or_true, Bool.true_or, Bool.false_or, Bool.false_eq_true, if_false, if_true, up_zero, Nat.reduceAdd, Nat.reduceSub, binv, ↓opt_def, AV.isAny, AV.cells, ldc, List.map_cons, List.map_nil, St.set_next, St.set_same, St.up_next, Int.natCast_nonneg, lt_len, le_len, Int.toNat_natCast, true_and, and_true, eq_self, reduceCtorEq, decide_true, List.length_singleton, er_int, er_bool, er_str, hr2, e3]
    refine h0 _ _ ?_
    try clear h0 K_h0
    refine T.cond rfl (fun _ => ?_) (fun h => by cases h)
    refine T.seq_k (fun K_h0 h0 => ?_)
    refine T.regi hm ?_
    simp only [↓reduceIte, namesOf, List.any, I.names, aops, aopsI, aopsT, qstep, CPt, qget, Tbl.get, astep, ev, setd, List.set, List.getD, List.getElem?_cons_zero, List.getElem?_cons_succ, List.getElem?_nil, List.cons_append, List.nil_append, List.length_cons, List.length_nil, List.replicate, then_normal, inBlock_normal, Option.getD_some, Option.getD_none, Bool.or_false, Bool.or_true, Bool.true_or, Bool.false_or, Bool.false_eq_true, if_false, if_true, up_zero, Nat.reduceAdd, Nat.reduceSub, binv, ↓opt_def, AV.isAny, AV.cells, ldc, List.map_cons, List.map_nil, St.set_next, St.set_same, St.up_next, Int.natCast_nonneg, lt_len, le_len, Int.toNat_natCast, true_and, and_true, eq_self, reduceCtorEq, decide_true, List.length_singleton, er_int, er_bool, er_str]
    refine h0 _ _ ?_
    try clear h0 K_h0
    have hb' : s2.bad ≠ -1 := hbad
    refine T.ret (Fin.likeset (r := rdS l .none s2) wf rfl (Wk.sl _ _) (by rw [hσ2]; exact .refl _) hr ⟨trivial, trivial⟩ (nb_rd _ _ _ _) ⟨?_, ?_⟩)
    · rw [hX, hXb, decide_eq_true hb']; rfl
    · rw [hXN, if_pos hb']
  have e2 : (s2.bad == -1) = true := by simpa using hbad
  have hb' : ¬ s2.bad ≠ -1 := fun h => h hbad
  by_cases hm2 : (m : Int) > l.length - s2.at_
  · have e3 : decide ((m : Int) > (l.length : Int) - s2.at_) = true := decide_eq_true hm2
    refine T.seq_k (fun K_h0 h0 => ?_)
    refine T.regi hm ?_
    simp only [↓reduceIte, namesOf, List.any, I.names, aops, aopsI, aopsT, qstep, CPt, qget, Tbl.get, astep, ev, setd, List.set, List.getD, List.getElem?_cons_zero, List.getElem?_cons_succ, List.getElem?_nil, List.cons_append, List.nil_append, List.length_cons, List.length_nil, List.replicate, then_normal, inBlock_normal, Option.getD_some, Option.getD_none, Bool.or_false, Bool.or_true, Bool.true_or, Bool.false_or, Bool.false_eq_true, if_false, if_true, up_zero, Nat.reduceAdd, Nat.reduceSub, binv, ↓opt_def, AV.isAny, AV.cells, ldc, List.map_cons, List.map_nil, St.set_next, St.set_same, St.up_next, Int.natCast_nonneg, lt_len, le_len, Int.toNat_natCast, true_and, and_true, eq_self, reduceCtorEq, decide_true, List.length_singleton, er_int, er_bool, er_str, hr2, e2, e1]
    refine (wleft_ok b1 b2 b3 hr2').mono ?_
    rintro v σ2 ⟨rfl, rfl⟩
    try simp only [↓reduceIte, namesOf, List.any, I.names, aops, aopsI, aopsT, qstep, CPt, qget, Tbl.get, astep, ev, setd, List.set, List.getD, List.getElem?_cons_zero, List.getElem?_cons_succ, List.getElem?_nil, List.cons_append, List.nil_append, List.length_cons, List.length_nil, List.replicate, then_normal, inBlock_normal, Option.getD_some, Option.getD_none, Bool.or_false, Bool.or_true, Bool.true_or, Bool.false_or, Bool.false_eq_true, if_false, if_true, up_zero, Nat.reduceAdd, Nat.reduceSub, binv, ↓opt_def, AV.isAny, AV.cells, ldc, List.map_cons, List.map_nil, St.set_next, St.set_same, St.up_next, Int.natCast_nonneg, lt_len, le_len, Int.toNat_natCast, true_and, and_true, eq_self, reduceCtorEq, decide_true, List.length_singleton, er_int, er_bool, er_str, up_zero, e3]
    refine h0 _ _ ?_
    try clear h0 K_h0
    refine T.cond rfl (fun _ => ?_) (fun h => by cases h)
    refine T.seq_k (fun K_h0 h0 => ?_)
    refine T.regi hm ?_
    simp only [↓reduceIte, namesOf, List.any, I.names, aops, aopsI, aopsT, qstep, CPt, qget, Tbl.get, astep, ev, setd, List.set, List.getD, List.getElem?_cons_zero, List.getElem?_cons_succ, List.getElem?_nil, List.cons_append, List.nil_append, List.length_cons, List.length_nil, List.replicate, then_normal, inBlock_normal, Option.getD_some, Option.getD_none, Bool.or_false, Bool.or_true, Bool.true_or, Bool.false_or, Bool.false_eq_true, if_false, if_true, up_zero, Nat.reduceAdd, Nat.reduceSub, binv, ↓opt_def, AV.isAny, AV.cells, ldc, List.map_cons, List.map_nil, St.set_next, St.set_same, St.up_next, Int.natCast_nonneg, lt_len, le_len, Int.toNat_natCast, true_and, and_true, eq_self, reduceCtorEq, decide_true, List.length_singleton, er_int, er_bool, er_str, hr2, AV.fits, AV.one, List.all_cons, List.all_nil, Nat.reduceBEq, Bool.and_true, Bool.not_false, Bool.and_self, Nat.zero_add, splice, List.take, List.drop, Nat.reduceLeDiff, St.set_set]
    refine h0 _ _ ?_
    try clear h0 K_h0
    refine T.regi hm ?_
    simp only [↓reduceIte, namesOf, List.any, I.names, aops, aopsI, aopsT, qstep, CPt, qget, Tbl.get, astep, ev, setd, List.set, List.getD, List.getElem?_cons_zero, List.getElem?_cons_succ, List.getElem?_nil, List.cons_append, List.nil_append, List.length_cons, List.length_nil, List.replicate, then_normal, inBlock_normal, Option.getD_some, Option.getD_none, Bool.or_false, Bool.or_true, Bool.true_or, Bool.false_or, Bool.false_eq_true, if_false, if_true, up_zero, Nat.reduceAdd, Nat.reduceSub, binv, ↓opt_def, AV.isAny, AV.cells, ldc, List.map_cons, List.map_nil, St.set_next, St.set_same, St.up_next, Int.natCast_nonneg, lt_len, le_len, Int.toNat_natCast, true_and, and_true, eq_self, reduceCtorEq, decide_true, List.length_singleton, er_int, er_bool, er_str]
    rw [← hσ2, St.set_set]
    have hr3 : (σ.set n (.obj [.sl (bytesAV l) .none, .int .i64 s.at_, .int .i64 s2.bad])).res n = some (rd l .none s.at_ s2.bad) := St.set_same _ _ _
    generalize hσ3 : σ.set n (.obj [.sl (bytesAV l) .none, .int .i64 s.at_, .int .i64 s2.bad]) = t3 at hr3 ⊢
    refine (wfail_ok hr3).mono ?_
    rintro v σ3 hσ4
    rw [if_pos hbad, ← hσ3, St.set_set] at hσ4
    have hr4 : σ3.res n = some (.obj [.sl (bytesAV l) .none, .int .i64 s.at_, .int .i64 s.at_]) := by rw [hσ4]; exact St.set_same _ _ _
    try simp only [↓reduceIte, namesOf, List.any, I.names, aops, aopsI, aopsT, qstep, CPt, qget, Tbl.get, astep, ev, setd, List.set, List.getD, List.getElem?_cons_zero, List.getElem?_cons_succ, List.getElem?_nil, List.cons_append, List.nil_append, List.length_cons, List.length_nil, List.replicate, then_normal, inBlock_normal, Option.getD_some, Option.getD_none, Bool.or_false, Bool.or_true, Bool.true_or, Bool.false_or, Bool.false_eq_true, if_false, if_true, up_zero, Nat.reduceAdd, Nat.reduceSub, binv, ↓opt_def, AV.isAny, AV.cells, ldc, List.map_cons, List.map_nil, St.set_next, St.set_same, St.up_next, Int.natCast_nonneg, lt_len, le_len, Int.toNat_natCast, true_and, and_true, eq_self, reduceCtorEq, decide_true, List.length_singleton, er_int, er_bool, er_str, up_zero]
    refine h1 _ _ ?_
    try clear h1 K_h1
    refine T.seq_k (fun K_h1 h1 => ?_)
    have e4 : (s.at_ != -1) = true := by have := hd.1.lo; rw [bne_iff_ne]; omega
    refine T.seq_k (fun K_h0 h0 => ?_)
    refine T.regi hm ?_
    simp only [↓reduceIte, namesOf, List.any, I.names, aops, aopsI, aopsT, qstep, CPt, qget, Tbl.get, astep, ev, setd, List.set, List.getD, List.getElem?_cons_zero, List.getElem?_cons_succ, List.getElem?_nil, List.cons_append, List.nil_append, List.length_cons, List.length_nil, List.replicate, then_normal, inBlock_normal, Option.getD_some, Option.getD_none, Bool.or_false, Bool.or_true, Bool.true_or, Bool.false_or, Bool.false_eq_true, if_false, if_true, up_zero, Nat.reduceAdd, Nat.reduceSub, binv, ↓opt_def, AV.isAny, AV.cells, ldc, List.map_cons, List.map_nil, St.set_next, St.set_same, St.up_next, Int.natCast_nonneg, lt_len, le_len, Int.toNat_natCast, true_and, and_true, eq_self, reduceCtorEq, decide_true, List.length_singleton, er_int, er_bool, er_str, hr4, e4]
    refine h0 _ _ ?_
    try clear h0 K_h0
    refine T.cond rfl (fun _ => ?_) (fun h => by cases h)
    refine T.seq_k (fun K_h0 h0 => ?_)
    refine T.regi hm ?_
    simp only [↓reduceIte, namesOf, List.any, I.names, aops, aopsI, aopsT, qstep, CPt, qget, Tbl.get, astep, ev, setd, List.set, List.getD, List.getElem?_cons_zero, List.getElem?_cons_succ, List.getElem?_nil, List.cons_append, List.nil_append, List.length_cons, List.length_nil, List.replicate, then_normal, inBlock_normal, Option.getD_some, Option.getD_none, Bool.or_false, Bool.or_true, Bool.true_or, Bool.false_or, Bool.false_eq_true, if_false, if_true, up_zero, Nat.reduceAdd, Nat.reduceSub, binv, ↓opt_def, AV.isAny, AV.cells, ldc, List.map_cons, List.map_nil, St.set_next, St.set_same, St.up_next, Int.natCast_nonneg, lt_len, le_len, Int.toNat_natCast, true_and, and_true, eq_self, reduceCtorEq, decide_true, List.length_singleton, er_int, er_bool, er_str]
    refine h0 _ _ ?_
    try clear h0 K_h0
    refine T.ret (Fin.likeset (r := rd l .none s.at_ s.at_) wf rfl (Wk.sl _ _) (by rw [hσ4]; exact .refl _) hr ⟨trivial, trivial⟩ (nb_rd _ _ _ _) ⟨?_, ?_⟩)
    · rw [hX, hXb, decide_eq_true hm2, Bool.or_true]; rfl
    · rw [hXN, if_neg hb', if_pos hm2]; rfl
  · have e3 : decide ((m : Int) > (l.length : Int) - s2.at_) = false := decide_eq_false hm2
    refine T.seq_k (fun K_h0 h0 => ?_)
    refine T.regi hm ?_
    simp only [↓reduceIte, namesOf, List.any, I.names, aops, aopsI, aopsT, qstep, CPt, qget, Tbl.get, astep, ev, setd, List.set, List.getD, List.getElem?_cons_zero, List.getElem?_cons_succ, List.getElem?_nil, List.cons_append, List.nil_append, List.length_cons, List.length_nil, List.replicate, then_normal, inBlock_normal, Option.getD_some, Option.getD_none, Bool.or_false, Bool.or_true, Bool.true_or, Bool.false_or, Bool.false_eq_true, if_false, if_true, up_zero, Nat.reduceAdd, Nat.reduceSub, binv, ↓opt_def, AV.isAny, AV.cells, ldc, List.map_cons, List.map_nil, St.set_next, St.set_same, St.up_next, Int.natCast_nonneg, lt_len, le_len, Int.toNat_natCast, true_and, and_true, eq_self, reduceCtorEq, decide_true, List.length_singleton, er_int, er_bool, er_str, hr2, e2, e1]
    refine (wleft_ok b1 b2 b3 hr2').mono ?_
    rintro v σ2 ⟨rfl, rfl⟩
    try simp only [↓reduceIte, namesOf, List.any, I.names, aops, aopsI, aopsT, qstep, CPt, qget, Tbl.get, astep, ev, setd, List.set, List.getD, List.getElem?_cons_zero, List.getElem?_cons_succ, List.getElem?_nil, List.cons_append, List.nil_append, List.length_cons, List.length_nil, List.replicate, then_normal, inBlock_normal, Option.getD_some, Option.getD_none, Bool.or_false, Bool.or_true, Bool.true_or, Bool.false_or, Bool.false_eq_true, if_false, if_true, up_zero, Nat.reduceAdd, Nat.reduceSub, binv, ↓opt_def, AV.isAny, AV.cells, ldc, List.map_cons, List.map_nil, St.set_next, St.set_same, St.up_next, Int.natCast_nonneg, lt_len, le_len, Int.toNat_natCast, true_and, and_true, eq_self, reduceCtorEq, decide_true, List.length_singleton, er_int, er_bool, er_str, up_zero, e3]
    refine h0 _ _ ?_
    try clear h0 K_h0
    refine T.cond rfl (fun h => by cases h) (fun _ => T.skip ?_)
    refine h1 _ _ ?_
    try clear h1 K_h1
    have e4 : (s2.bad != -1) = false := by simpa using hbad
    refine T.seq_k (fun K_h1 h1 => ?_)
    refine T.seq_k (fun K_h0 h0 => ?_)
    refine T.regi hm ?_
    simp only [↓reduceIte, namesOf, List.any, I.names, aops, aopsI, aopsT, qstep, CPt, qget, Tbl.get, astep, ev, setd, List.set, List.getD, List.getElem?_cons_zero, List.getElem?_cons_succ, List.getElem?_nil, List.cons_append, List.nil_append, List.length_cons, List.length_nil, List.replicate, then_normal, inBlock_normal, Option.getD_some, Option.getD_none, Bool.or_false, Bool.or_true, Bool.true_or, Bool.false_or, Bool.false_eq_true, if_false, if_true, up_zero, Nat.reduceAdd, Nat.reduceSub, binv, ↓opt_def, AV.isAny, AV.cells, ldc, List.map_cons, List.map_nil, St.set_next, St.set_same, St.up_next, Int.natCast_nonneg, lt_len, le_len, Int.toNat_natCast, true_and, and_true, eq_self, reduceCtorEq, decide_true, List.length_singleton, er_int, er_bool, er_str, hr2, e4]
    refine h0 _ _ ?_
    try clear h0 K_h0
    refine T.cond rfl (fun h => by cases h) (fun _ => T.skip ?_)
    refine h1 _ _ ?_
    try clear h1 K_h1
    refine T.seq_k (fun K_h1 h1 => ?_)
    refine T.regi hm ?_
    simp only [↓reduceIte, namesOf, List.any, I.names, aops, aopsI, aopsT, qstep, CPt, qget, Tbl.get, astep, ev, setd, List.set, List.getD, List.getElem?_cons_zero, List.getElem?_cons_succ, List.getElem?_nil, List.cons_append, List.nil_append, List.length_cons, List.length_nil, List.replicate, then_normal, inBlock_normal, Option.getD_some, Option.getD_none, Bool.or_false, Bool.or_true, Bool.true_or, Bool.false_or, Bool.false_eq_true, if_false, if_true, up_zero, Nat.reduceAdd, Nat.reduceSub, binv, ↓opt_def, AV.isAny, AV.cells, ldc, List.map_cons, List.map_nil, St.set_next, St.set_same, St.up_next, Int.natCast_nonneg, lt_len, le_len, Int.toNat_natCast, true_and, and_true, eq_self, reduceCtorEq, decide_true, List.length_singleton, er_int, er_bool, er_str, held, List.all_nil]
    have L1 : Like σ2 ((σ2.up 6).set (σ2.next + 0) (Res.tip 1)) := (Like.refl σ2).box _
    have hn2 : n < σ2.next := by rw [← hσ2]; exact hn0
    have u1 : ((σ2.up 6).set (σ2.next + 0) (Res.tip 1)).res n = some (rd l .none s2.at_ s2.bad) := by rw [St.set_other _ _ (by omega)]; exact hr2'
    refine (wtake_ok ⟨b1, b2, b3⟩ (by omega) u1).mono ?_
    rintro v t4 (⟨_, rfl, rfl⟩ | ⟨hno, _⟩)
    case inr => exact absurd ⟨hbad, by omega⟩ hno
    have L2 := L1.put n (rd l .none (s2.at_ + m) s2.bad)
    have L3 : Like (σ2.set n (rd l .none (s2.at_ + m) s2.bad)) (((((σ2.up 6).set (σ2.next + 0) (Res.tip 1)).set n (rd l .none (s2.at_ + m) s2.bad)).del (σ2.next + 0)).set (σ2.next + 4) (.tip 1)) :=
      (L2.del (n := σ2.next + 0) (Nat.le_refl _)).set _ (Nat.le_add_right _ _)
    have u2 : (((σ2.up 6).set (σ2.next + 0) (Res.tip 1)).set n (rd l .none (s2.at_ + m) s2.bad)).res (σ2.next + 0) = some (.tip 1) := by rw [St.set_other _ _ (by omega)]; simp
    have hlen : ((l.drop s2.at_.toNat).take m).length ≤ 65536 := by rw [List.length_take]; omega
    have hle : decide ((0 + ((l.drop s2.at_.toNat).take m).length) * 1 ≤ 70368744177664 ∧ 0 + ((l.drop s2.at_.toNat).take m).length ≤ 4611686018427387904) = true := app_le (by omega)
    generalize hV : (l.drop s2.at_.toNat).take m = V at hlen hle ⊢
    try simp only [↓reduceIte, namesOf, List.any, I.names, aops, aopsI, aopsT, qstep, CPt, qget, Tbl.get, astep, ev, setd, List.set, List.getD, List.getElem?_cons_zero, List.getElem?_cons_succ, List.getElem?_nil, List.cons_append, List.nil_append, List.length_cons, List.length_nil, List.replicate, then_normal, inBlock_normal, Option.getD_some, Option.getD_none, Bool.or_false, Bool.or_true, Bool.true_or, Bool.false_or, Bool.false_eq_true, if_false, if_true, up_zero, Nat.reduceAdd, Nat.reduceSub, binv, ↓opt_def, AV.isAny, AV.cells, ldc, List.map_cons, List.map_nil, St.set_next, St.set_same, St.up_next, Int.natCast_nonneg, lt_len, le_len, Int.toNat_natCast, true_and, and_true, eq_self, reduceCtorEq, decide_true, List.length_singleton, er_int, er_bool, er_str, held, srcOf, bytesAV_er, bytesAV_app, bytes_all, bytesAV_len, List.length_append, Bool.and_self, St.up_res, List.isEmpty, u2, hle]
    refine h1 _ _ ?_
    try clear h1 K_h1
    refine T.ret (Fin.likeset (r := rd l .none (s2.at_ + m) s2.bad) wf rfl (Wk.sl _ _) (by rw [← hσ2, St.set_set] at L3; rw [← hσ2]; exact L3) hr ⟨nb_bytes _ _, trivial⟩ (nb_rd _ _ _ _) ⟨?_, ?_⟩)
    · rw [hX, hXb, decide_eq_false hb', decide_eq_false hm2, ← hV]; rfl
    · rw [hXN, if_neg hb', if_neg hm2, hbad]; rfl

end Go.VL

namespace Go.VL

open Go.Proofs

abbrev spC (a : Sp) : List AV := [.int .u64 (a.tr : Int), .int .u64 (a.id : Int), .int .i64 a.st, .int .i64 a.en, .sl (bytesAV a.da) .none]

theorem box2 {σ : St} (wf : WF σ) (k : Nat) (r r' : Res) : (((σ.up k).set (σ.next + 0) r).set (σ.next + 1) r').res (σ.next + 0) = some r ∧ (((σ.up k).set (σ.next + 0) r).set (σ.next + 1) r').res (σ.next + 1) = some r' ∧
    ∀ n x, σ.res n = some x → (((σ.up k).set (σ.next + 0) r).set (σ.next + 1) r').res n = some x :=
  ⟨by rw [St.set_other _ _ (by omega)]; simp, by simp, set2_quiet wf r r' (by omega) (by omega)⟩

theorem sp_eq {a b : Sp} : a = b ↔ a.tr = b.tr ∧ a.id = b.id ∧ a.st = b.st ∧ a.en = b.en ∧ a.da = b.da := by
  obtain ⟨a1, a2, a3, a4, a5⟩ := a
  obtain ⟨b1, b2, b3, b4, b5⟩ := b
  simp

/-! ### Are spans the same? -/

end Go.VL

namespace Go.VL

open Go.Proofs

/-- an end that is owned, and what was owned ahead of it -/
structure Tp (σ σ' : St) (g k : Nat) : Prop where
  lo : σ.next ≤ g
  hi : g < σ'.next
  at_ : σ'.res g = some (.tip k)
  old : ∀ n x, σ.res n = some x → σ'.res n = some x

theorem Tp.new {σ σ' : St} {k n i : Nat} (wf : WF σ) (hn : σ.next ≤ σ'.next) (ho : ∀ n x, σ.res n = some x → σ'.res n = some x) (hi : i < n) : Tp σ ((σ'.up n).set (σ'.next + i) (.tip k)) (σ'.next + i) k :=
  ⟨by omega, by simp; omega, by simp, set_quiet wf hn ho _ (by omega)⟩

theorem Tp.mv {σ σ' : St} {g g2 k : Nat} (wf : WF σ) (h : Tp σ σ' g k) (hlo : σ.next ≤ g2) (hhi : g2 < σ'.next) : Tp σ ((σ'.del g).set g2 (.tip k)) g2 k :=
  ⟨hlo, by simpa using hhi, by simp, fun n x hr => by
    have hn : n < σ.next := by
      rcases Nat.lt_or_ge n σ.next with h' | h'
      · exact h'
      · rw [wf n h'] at hr; cases hr
    have h1 := h.lo
    rw [St.set_other _ _ (by omega)]
    simp only [St.del]
    rw [if_neg (by omega)]; exact h.old n x hr⟩

theorem Tp.up {σ σ' : St} {g k : Nat} (h : Tp σ σ' g k) (n : Nat) : Tp σ (σ'.up n) g k := ⟨h.lo, Nat.lt_of_lt_of_le h.hi (Nat.le_add_right _ _), h.at_, h.old⟩

theorem sps_fits (l : List Sp) : (spsAV l).all (AV.fits 5) = true := by
  simp [spsAV, Sp.av, AV.fits, AV.isAny, AV.cells, AV.one]

theorem sps_er (l : List Sp) : (spsAV l).map AV.er = spsAV l := by
  simp only [spsAV, List.map_map]
  apply List.map_congr_left
  intro t _
  rfl

theorem nbs_sps (m : Nat) (l : List Sp) : nbs m (spsAV l) := by
  rw [nbs_iff]
  intro y hy
  obtain ⟨s, _, rfl⟩ := List.mem_map.1 hy
  simp only [Sp.av, AV.nb, nbs, true_and, and_true, Ver.nb]
  exact (nb_bytes m s.da)

end Go.VL

namespace Go.VL

open Go.Proofs

/-- a reader (an owned thing nm), a row that grows, and names that nobody knows -/
structure Rk (σ t : St) (nm : Nat) (r : Res) (k : Nat) (v : Ver) : Prop where
  like : Like σ t
  lo : σ.next ≤ nm
  hi : nm < t.next
  at_ : t.res nm = some r
  ver : v = .nil ∨ ∃ g, v = .tip g ∧ g ≠ nm ∧ σ.next ≤ g ∧ g < t.next ∧ t.res g = some (.tip k)

theorem Rk.set {σ t : St} {nm k : Nat} {r : Res} {v : Ver} (h : Rk σ t nm r k v) (r' : Res) : Rk σ (t.set nm r') nm r' k v :=
  ⟨h.like.set _ h.lo, h.lo, h.hi, by simp, h.ver.imp id fun ⟨g, a1, a2, a3, a4, a5⟩ => ⟨g, a1, a2, a3, a4, by rw [St.set_other _ _ a2]; exact a5⟩⟩

theorem Rk.up {σ t : St} {nm k : Nat} {r : Res} {v : Ver} (h : Rk σ t nm r k v) (n : Nat) : Rk σ (t.up n) nm r k v :=
  ⟨h.like.up n, h.lo, Nat.lt_of_lt_of_le h.hi (Nat.le_add_right _ _), h.at_, h.ver.imp id fun ⟨g, a1, a2, a3, a4, a5⟩ => ⟨g, a1, a2, a3, Nat.lt_of_lt_of_le a4 (Nat.le_add_right _ _), a5⟩⟩

theorem Rk.new {σ t : St} {nm k : Nat} {r : Res} {v : Ver} (h : Rk σ t nm r k v) {a : Nat} (r' : Res) (ha : σ.next ≤ a) (hn : a ≠ nm) (hv : ∀ g, v = .tip g → a ≠ g) : Rk σ (t.set a r') nm r k v :=
  ⟨h.like.set _ ha, h.lo, h.hi, by rw [St.set_other _ _ (Ne.symm hn)]; exact h.at_, h.ver.imp id fun ⟨g, a1, a2, a3, a4, a5⟩ => ⟨g, a1, a2, a3, a4, by rw [St.set_other _ _ (Ne.symm (hv g a1))]; exact a5⟩⟩

theorem Rk.lt {σ t : St} {nm k : Nat} {r : Res} {v : Ver} (h : Rk σ t nm r k v) {g : Nat} (hv : v = .tip g) : g < t.next := by
  rcases h.ver with e | ⟨g', e, _, _, h4, _⟩
  · rw [hv] at e; cases e
  · rw [hv] at e; cases e; exact h4

theorem Rk.appNil {σ t : St} {nm k : Nat} {r : Res} (h : Rk σ t nm r k .nil) {g : Nat} (h0 : σ.next ≤ g) (h1 : g ≠ nm) (h2 : g < t.next) : Rk σ (t.set g (.tip k)) nm r k (.tip g) :=
  ⟨h.like.set _ h0, h.lo, h.hi, by rw [St.set_other _ _ (Ne.symm h1)]; exact h.at_, .inr ⟨g, rfl, h1, h0, h2, by simp⟩⟩

theorem Rk.appTip {σ t : St} {nm k g0 : Nat} {r : Res} (h : Rk σ t nm r k (.tip g0)) {g : Nat} (h0 : σ.next ≤ g) (h1 : g ≠ nm) (h2 : g < t.next) : Rk σ ((t.del g0).set g (.tip k)) nm r k (.tip g) := by
  obtain ⟨g', e, a1, a2, a3, a4⟩ := h.ver.resolve_left (by simp)
  cases e
  exact ⟨(h.like.del a2).set _ h0, h.lo, h.hi, by rw [St.set_other _ _ (Ne.symm h1)]; simp only [St.del, if_neg (Ne.symm a1)]; exact h.at_, .inr ⟨g, rfl, h1, h0, h2, by simp⟩⟩

/-- one span -/
def oneS (b : List UInt8) (s : Rs) : Sp :=
  ⟨rW b s 8, rW b (rN b s 8) 8, IntKind.i64.wrap (rW b (rN b (rN b s 8) 8) 8 : Int), IntKind.i64.wrap (rW b (rN b (rN b (rN b s 8) 8) 8) 8 : Int), rX b (rN b (rN b (rN b (rN b s 8) 8) 8) 8)⟩

def oneN (b : List UInt8) (s : Rs) : Rs := rXN b (rN b (rN b (rN b (rN b s 8) 8) 8) 8)

/-- spans, one by one: where they aren't (-1: they are), and they, and the reader -/
def goS (b : List UInt8) : Nat → Rs → List Sp → Int × List Sp × Rs
  | 0, s, acc => if 0 ≤ s.bad then (s.bad, [], s) else (-1, acc, s)
  | n + 1, s, acc => if 0 ≤ s.bad then (s.bad, [], s) else
    if 0 ≤ (oneN b s).bad then ((oneN b s).bad, [], oneN b s) else if mayS (oneS b s) then goS b n (oneN b s) (acc ++ [oneS b s]) else (s.at_, [], oneN b s)

def getS (b : List UInt8) : Int × List Sp :=
  let r := goS b (rW b r0 2) (rN b r0 2) []
  if 0 ≤ r.1 then (r.1, []) else if r.2.2.at_ < b.length then (r.2.2.at_, []) else (-1, r.2.1)

theorem oneN_ok {b : List UInt8} {s : Rs} (h : s.ok b) : (oneN b s).ok b := rXN_ok (rN_ok (rN_ok (rN_ok (rN_ok h))))

theorem sps_snoc' (a : List Sp) (x : Sp) : spsAV a ++ [.agg [.int .u64 (x.tr : Int), .int .u64 (x.id : Int), .int .i64 x.st, .int .i64 x.en, .sl (bytesAV x.da) .none]] = spsAV (a ++ [x]) := by simp [spsAV, Sp.av]

set_option maxRecDepth 10000 in
set_option maxHeartbeats 4000000 in
theorem spget_ok {b : List UInt8} {σ : St} (hb : b.length ≤ 1000000) :
    ACalls Tryd.prog n_spget [.sl (bytesAV b) .none] σ (fun v σ' => ((getS b).1 < 0 ∧ v = .tup [.sl (spsAV (getS b).2) .none, .nili] ∧ σ' = σ) ∨
      (0 ≤ (getS b).1 ∧ ∃ n, v = .tup [.sl [] .none, .iface tSpot (.ptr n 0)] ∧ σ'.res n = some (.obj [.int .i64 (getS b).1, .int .i64 2]) ∧ σ.next ≤ n ∧ n < σ'.next ∧ Like σ σ')) := by
  refine s_spget (fun wf => ?_)
  unfold c_spget
  have hget : getS b = (let r := goS b (rW b r0 2) (rN b r0 2) []; if 0 ≤ r.1 then (r.1, []) else if r.2.2.at_ < b.length then (r.2.2.at_, []) else (-1, r.2.1)) := rfl
  generalize getS b = G at hget ⊢
  have k0 : Rs.ok b r0 := Rs.ok_r0 (by omega)
  have k1 := rN_ok (w := 2) k0
  have hN := rW_lt (w := 2) k0
  refine T.seq_k (fun K_h0 h0 => ?_)
  refine T.regi hm ?_
  simp only [↓reduceIte, namesOf, List.any, I.names, aops, aopsI, aopsT, qstep, CPt, qget, Tbl.get, astep, ev, setd, List.set, List.getD, List.getElem?_cons_zero, List.getElem?_cons_succ, List.getElem?_nil, List.cons_append, List.nil_append, List.length_cons, List.length_nil, List.replicate, then_normal, inBlock_normal, Option.getD_some, Option.getD_none, Bool.or_false, Bool.or_true, Bool.true_or, Bool.false_or, Bool.false_eq_true, if_false, if_true, up_zero, Nat.reduceAdd, Nat.reduceSub, binv, ↓opt_def, AV.isAny, AV.cells, ldc, List.map_cons, List.map_nil, St.set_next, St.set_same, St.up_next, Int.natCast_nonneg, lt_len, le_len, Int.toNat_natCast, true_and, and_true, eq_self, reduceCtorEq, decide_true, List.length_singleton, er_int, er_bool, er_str]
  refine h0 _ _ ?_
  try clear h0 K_h0
  refine T.seq_k (fun K_h1 h1 => ?_)
  refine T.regi hm ?_
  simp only [↓reduceIte, namesOf, List.any, I.names, aops, aopsI, aopsT, qstep, CPt, qget, Tbl.get, astep, ev, setd, List.set, List.getD, List.getElem?_cons_zero, List.getElem?_cons_succ, List.getElem?_nil, List.cons_append, List.nil_append, List.length_cons, List.length_nil, List.replicate, then_normal, inBlock_normal, Option.getD_some, Option.getD_none, Bool.or_false, Bool.or_true, Bool.true_or, Bool.false_or, Bool.false_eq_true, if_false, if_true, up_zero, Nat.reduceAdd, Nat.reduceSub, binv, ↓opt_def, AV.isAny, AV.cells, ldc, List.map_cons, List.map_nil, St.set_next, St.set_same, St.up_next, Int.natCast_nonneg, lt_len, le_len, Int.toNat_natCast, true_and, and_true, eq_self, reduceCtorEq, decide_true, List.length_singleton, er_int, er_bool, er_str]
  refine wreadF.mono ?_
  rintro v σ1 ⟨nm, rfl, hr1, hn1, hn2, ho1⟩
  have R0 : Rk σ σ1 nm (rdS b .none r0) 5 .nil := ⟨⟨by omega, ho1⟩, hn1, hn2, hr1, .inl rfl⟩
  clear hr1 hn1 hn2 ho1
  try simp only [↓reduceIte, namesOf, List.any, I.names, aops, aopsI, aopsT, qstep, CPt, qget, Tbl.get, astep, ev, setd, List.set, List.getD, List.getElem?_cons_zero, List.getElem?_cons_succ, List.getElem?_nil, List.cons_append, List.nil_append, List.length_cons, List.length_nil, List.replicate, then_normal, inBlock_normal, Option.getD_some, Option.getD_none, Bool.or_false, Bool.or_true, Bool.true_or, Bool.false_or, Bool.false_eq_true, if_false, if_true, up_zero, Nat.reduceAdd, Nat.reduceSub, binv, ↓opt_def, AV.isAny, AV.cells, ldc, List.map_cons, List.map_nil, St.set_next, St.set_same, St.up_next, Int.natCast_nonneg, lt_len, le_len, Int.toNat_natCast, true_and, and_true, eq_self, reduceCtorEq, decide_true, List.length_singleton, er_int, er_bool, er_str, up_zero]
  refine h1 _ _ ?_
  try clear h1 K_h1
  refine T.seq_k (fun K_h1 h1 => ?_)
  refine T.regi hm ?_
  simp only [↓reduceIte, namesOf, List.any, I.names, aops, aopsI, aopsT, qstep, CPt, qget, Tbl.get, astep, ev, setd, List.set, List.getD, List.getElem?_cons_zero, List.getElem?_cons_succ, List.getElem?_nil, List.cons_append, List.nil_append, List.length_cons, List.length_nil, List.replicate, then_normal, inBlock_normal, Option.getD_some, Option.getD_none, Bool.or_false, Bool.or_true, Bool.true_or, Bool.false_or, Bool.false_eq_true, if_false, if_true, up_zero, Nat.reduceAdd, Nat.reduceSub, binv, ↓opt_def, AV.isAny, AV.cells, ldc, List.map_cons, List.map_nil, St.set_next, St.set_same, St.up_next, Int.natCast_nonneg, lt_len, le_len, Int.toNat_natCast, true_and, and_true, eq_self, reduceCtorEq, decide_true, List.length_singleton, er_int, er_bool, er_str]
  refine (wwordF k0 rfl R0.at_).mono ?_
  rintro v σ2 ⟨rfl, rfl⟩
  have R1 := R0.set (rdS b .none (rN b r0 2))
  generalize (σ1.set nm (rdS b .none (rN b r0 2))) = σ2 at R1 ⊢
  clear R0 σ1
  generalize rW b r0 2 = N at hN hget ⊢
  generalize rN b r0 2 = s0 at k1 R1 hget
  have eN : IntKind.i64.wrap (N : Int) = (N : Int) := wrap64 (by omega) (by omega)
  try simp only [↓reduceIte, namesOf, List.any, I.names, aops, aopsI, aopsT, qstep, CPt, qget, Tbl.get, astep, ev, setd, List.set, List.getD, List.getElem?_cons_zero, List.getElem?_cons_succ, List.getElem?_nil, List.cons_append, List.nil_append, List.length_cons, List.length_nil, List.replicate, then_normal, inBlock_normal, Option.getD_some, Option.getD_none, Bool.or_false, Bool.or_true, Bool.true_or, Bool.false_or, Bool.false_eq_true, if_false, if_true, up_zero, Nat.reduceAdd, Nat.reduceSub, binv, ↓opt_def, AV.isAny, AV.cells, ldc, List.map_cons, List.map_nil, St.set_next, St.set_same, St.up_next, Int.natCast_nonneg, lt_len, le_len, Int.toNat_natCast, true_and, and_true, eq_self, reduceCtorEq, decide_true, List.length_singleton, er_int, er_bool, er_str, up_zero, eN]
  refine h1 _ _ ?_
  try clear h1 K_h1
  refine T.seq_k (fun K_h0 h0 => ?_)
  refine T.regi hm ?_
  simp only [↓reduceIte, namesOf, List.any, I.names, aops, aopsI, aopsT, qstep, CPt, qget, Tbl.get, astep, ev, setd, List.set, List.getD, List.getElem?_cons_zero, List.getElem?_cons_succ, List.getElem?_nil, List.cons_append, List.nil_append, List.length_cons, List.length_nil, List.replicate, then_normal, inBlock_normal, Option.getD_some, Option.getD_none, Bool.or_false, Bool.or_true, Bool.true_or, Bool.false_or, Bool.false_eq_true, if_false, if_true, up_zero, Nat.reduceAdd, Nat.reduceSub, binv, ↓opt_def, AV.isAny, AV.cells, ldc, List.map_cons, List.map_nil, St.set_next, St.set_same, St.up_next, Int.natCast_nonneg, lt_len, le_len, Int.toNat_natCast, true_and, and_true, eq_self, reduceCtorEq, decide_true, List.length_singleton, er_int, er_bool, er_str]
  refine h0 _ _ ?_
  try clear h0 K_h0
  refine T.seq_k (fun K_h1 h1 => ?_)
  refine T.seq_k (fun K_h0 h0 => ?_)
  refine T.regi hm ?_
  simp only [↓reduceIte, namesOf, List.any, I.names, aops, aopsI, aopsT, qstep, CPt, qget, Tbl.get, astep, ev, setd, List.set, List.getD, List.getElem?_cons_zero, List.getElem?_cons_succ, List.getElem?_nil, List.cons_append, List.nil_append, List.length_cons, List.length_nil, List.replicate, then_normal, inBlock_normal, Option.getD_some, Option.getD_none, Bool.or_false, Bool.or_true, Bool.true_or, Bool.false_or, Bool.false_eq_true, if_false, if_true, up_zero, Nat.reduceAdd, Nat.reduceSub, binv, ↓opt_def, AV.isAny, AV.cells, ldc, List.map_cons, List.map_nil, St.set_next, St.set_same, St.up_next, Int.natCast_nonneg, lt_len, le_len, Int.toNat_natCast, true_and, and_true, eq_self, reduceCtorEq, decide_true, List.length_singleton, er_int, er_bool, er_str]
  refine h0 _ _ ?_
  try clear h0 K_h0
  refine T.block ?_
  refine T.gh (Gh.keep [0, 4, 5, 6, 7]) ?_
  refine T.loopi (fun i ρ t => ∃ (s : Rs) (acc : List Sp) (vv : Ver), s.ok b ∧ Rk σ t nm (rdS b .none s) 5 vv ∧ acc.length = i ∧ (vv = .nil → acc = []) ∧ goS b N s0 [] = (if 0 ≤ s.bad then (s.bad, [], s) else goS b (N - i) s acc) ∧
      ρ = [.sl (bytesAV b) .none, .any, .any, .any, .ptr nm 0, .int .i64 (N : Int), .sl (spsAV acc) vv, .int .i64 (i : Int)] ++ List.replicate 76 .any)
    N 0 (Nat.zero_le _) ⟨s0, [], .nil, k1, R1, rfl, fun _ => rfl, ?_, rfl⟩ ?_
  · split
    · rename_i hx
      cases N <;> (unfold goS; rw [if_pos hx])
    · rfl
  clear k1 R1 σ2 k0
  rintro i ρ t hi ⟨s, acc, vv, ks, R1, hacc, hvn, hgo, rfl⟩
  -- the end
  have fin : (N - i = 0 ∨ 0 ≤ s.bad) → ∀ ρ', keep [0, 4, 6] 0 ρ' = [.sl (bytesAV b) .none, .any, .any, .any, .ptr nm 0, .any, .sl (spsAV acc) vv] ++ List.replicate 77 .any → K_h1 ρ' t := by
    intro hx ρ' hρ
    refine h1 _ _ ?_
    try clear h1 K_h1
    refine T.gh (Gh.keep [0, 4, 6]) ?_
    rw [hρ]
    have hgo' : goS b N s0 [] = (if 0 ≤ s.bad then (s.bad, [], s) else (-1, acc, s)) := by
      rw [hgo]
      split
      · rfl
      · rename_i hb'
        rcases hx with hx | hx
        · rw [hx]; unfold goS; rw [if_neg hb']
        · exact absurd hx hb'
    have hb0 : G = (if 0 ≤ s.bad then (s.bad, []) else if s.at_ < b.length then (s.at_, []) else (-1, acc)) := by
      rw [hget]
      simp only [hgo']
      split
      · rename_i hx; simp only [hx, if_true]
      · simp
    have hkl := ks.1.len
    have hk0 := ks.1.lo
    have hk1 := ks.1.hi
    refine T.seq_k (fun K_h1 h1 => ?_)
    refine T.block ?_
    refine T.seq_k (fun K_h2 h2 => ?_)
    refine T.regi hm ?_
    simp only [↓reduceIte, namesOf, List.any, I.names, aops, aopsI, aopsT, qstep, CPt, qget, Tbl.get, astep, ev, setd, List.set, List.getD, List.getElem?_cons_zero, List.getElem?_cons_succ, List.getElem?_nil, List.cons_append, List.nil_append, List.length_cons, List.length_nil, List.replicate, then_normal, inBlock_normal, Option.getD_some, Option.getD_none, Bool.or_false, Bool.or_true, Bool.true_or, Bool.false_or, Bool.false_eq_true, if_false, if_true, up_zero, Nat.reduceAdd, Nat.reduceSub, binv, ↓opt_def, AV.isAny, AV.cells, ldc, List.map_cons, List.map_nil, St.set_next, St.set_same, St.up_next, Int.natCast_nonneg, lt_len, le_len, Int.toNat_natCast, true_and, and_true, eq_self, reduceCtorEq, decide_true, List.length_singleton, er_int, er_bool, er_str]
    refine (wbad_ok R1.at_).mono ?_
    rintro v t1 ⟨rfl, rfl⟩
    by_cases hbd : 0 ≤ s.bad
    · rw [if_pos hbd] at hb0
      have e1 : decide (s.bad ≥ 0) = true := decide_eq_true hbd
      try simp only [↓reduceIte, namesOf, List.any, I.names, aops, aopsI, aopsT, qstep, CPt, qget, Tbl.get, astep, ev, setd, List.set, List.getD, List.getElem?_cons_zero, List.getElem?_cons_succ, List.getElem?_nil, List.cons_append, List.nil_append, List.length_cons, List.length_nil, List.replicate, then_normal, inBlock_normal, Option.getD_some, Option.getD_none, Bool.or_false, Bool.or_true, Bool.true_or, Bool.false_or, Bool.false_eq_true, if_false, if_true, up_zero, Nat.reduceAdd, Nat.reduceSub, binv, ↓opt_def, AV.isAny, AV.cells, ldc, List.map_cons, List.map_nil, St.set_next, St.set_same, St.up_next, Int.natCast_nonneg, lt_len, le_len, Int.toNat_natCast, true_and, and_true, eq_self, reduceCtorEq, decide_true, List.length_singleton, er_int, er_bool, er_str, up_zero, e1]
      refine h2 _ _ ?_
      try clear h2 K_h2
      refine T.cond rfl (fun _ => ?_) (fun h => by cases h)
      refine T.seq_k (fun K_h2 h2 => ?_)
      refine T.regi hm ?_
      simp only [↓reduceIte, namesOf, List.any, I.names, aops, aopsI, aopsT, qstep, CPt, qget, Tbl.get, astep, ev, setd, List.set, List.getD, List.getElem?_cons_zero, List.getElem?_cons_succ, List.getElem?_nil, List.cons_append, List.nil_append, List.length_cons, List.length_nil, List.replicate, then_normal, inBlock_normal, Option.getD_some, Option.getD_none, Bool.or_false, Bool.or_true, Bool.true_or, Bool.false_or, Bool.false_eq_true, if_false, if_true, up_zero, Nat.reduceAdd, Nat.reduceSub, binv, ↓opt_def, AV.isAny, AV.cells, ldc, List.map_cons, List.map_nil, St.set_next, St.set_same, St.up_next, Int.natCast_nonneg, lt_len, le_len, Int.toNat_natCast, true_and, and_true, eq_self, reduceCtorEq, decide_true, List.length_singleton, er_int, er_bool, er_str]
      refine (wbad_ok (R1.up 7).at_).mono ?_
      rintro v t2 ⟨rfl, rfl⟩
      try simp only [↓reduceIte, namesOf, List.any, I.names, aops, aopsI, aopsT, qstep, CPt, qget, Tbl.get, astep, ev, setd, List.set, List.getD, List.getElem?_cons_zero, List.getElem?_cons_succ, List.getElem?_nil, List.cons_append, List.nil_append, List.length_cons, List.length_nil, List.replicate, then_normal, inBlock_normal, Option.getD_some, Option.getD_none, Bool.or_false, Bool.or_true, Bool.true_or, Bool.false_or, Bool.false_eq_true, if_false, if_true, up_zero, Nat.reduceAdd, Nat.reduceSub, binv, ↓opt_def, AV.isAny, AV.cells, ldc, List.map_cons, List.map_nil, St.set_next, St.set_same, St.up_next, Int.natCast_nonneg, lt_len, le_len, Int.toNat_natCast, true_and, and_true, eq_self, reduceCtorEq, decide_true, List.length_singleton, er_int, er_bool, er_str, fillA, Option.map, AV.fits, AV.one, List.all_cons, List.all_nil, Nat.reduceBEq, Bool.and_true, Bool.not_false, Bool.and_self, Nat.zero_add, splice, List.take, List.drop, Nat.reduceLeDiff]
      refine h2 _ _ ?_
      try clear h2 K_h2
      refine T.ret (Fin.retw rfl (Wk.tup2 (Wk.sl _ _)) (.inr ⟨by rw [hb0]; exact hbd, t1.next + 3, rfl, by rw [hb0]; simp, by have := R1.like.next; omega, by simp, (R1.like.up 7).set _ (by have := R1.like.next; omega)⟩))
    · rw [if_neg hbd] at hb0
      have e1 : decide (s.bad ≥ 0) = false := decide_eq_false hbd
      have e3 : IntKind.i64.wrap ((b.length : Int) - ((b.length : Int) - s.at_)) = s.at_ := by rw [wrap64 (by omega) (by omega)]; omega
      try simp only [↓reduceIte, namesOf, List.any, I.names, aops, aopsI, aopsT, qstep, CPt, qget, Tbl.get, astep, ev, setd, List.set, List.getD, List.getElem?_cons_zero, List.getElem?_cons_succ, List.getElem?_nil, List.cons_append, List.nil_append, List.length_cons, List.length_nil, List.replicate, then_normal, inBlock_normal, Option.getD_some, Option.getD_none, Bool.or_false, Bool.or_true, Bool.true_or, Bool.false_or, Bool.false_eq_true, if_false, if_true, up_zero, Nat.reduceAdd, Nat.reduceSub, binv, ↓opt_def, AV.isAny, AV.cells, ldc, List.map_cons, List.map_nil, St.set_next, St.set_same, St.up_next, Int.natCast_nonneg, lt_len, le_len, Int.toNat_natCast, true_and, and_true, eq_self, reduceCtorEq, decide_true, List.length_singleton, er_int, er_bool, er_str, up_zero, e1]
      refine h2 _ _ ?_
      try clear h2 K_h2
      refine T.cond rfl (fun h => by cases h) (fun _ => ?_)
      refine T.seq_k (fun K_h2 h2 => ?_)
      refine T.regi hm ?_
      simp only [↓reduceIte, namesOf, List.any, I.names, aops, aopsI, aopsT, qstep, CPt, qget, Tbl.get, astep, ev, setd, List.set, List.getD, List.getElem?_cons_zero, List.getElem?_cons_succ, List.getElem?_nil, List.cons_append, List.nil_append, List.length_cons, List.length_nil, List.replicate, then_normal, inBlock_normal, Option.getD_some, Option.getD_none, Bool.or_false, Bool.or_true, Bool.true_or, Bool.false_or, Bool.false_eq_true, if_false, if_true, up_zero, Nat.reduceAdd, Nat.reduceSub, binv, ↓opt_def, AV.isAny, AV.cells, ldc, List.map_cons, List.map_nil, St.set_next, St.set_same, St.up_next, Int.natCast_nonneg, lt_len, le_len, Int.toNat_natCast, true_and, and_true, eq_self, reduceCtorEq, decide_true, List.length_singleton, er_int, er_bool, er_str]
      refine (wleft_ok hkl hk0 hk1 R1.at_).mono ?_
      rintro v t2 ⟨rfl, rfl⟩
      by_cases hlt : s.at_ < b.length
      · rw [if_pos hlt] at hb0
        have e2 : decide ((b.length : Int) - s.at_ > 0) = true := decide_eq_true (by omega)
        try simp only [↓reduceIte, namesOf, List.any, I.names, aops, aopsI, aopsT, qstep, CPt, qget, Tbl.get, astep, ev, setd, List.set, List.getD, List.getElem?_cons_zero, List.getElem?_cons_succ, List.getElem?_nil, List.cons_append, List.nil_append, List.length_cons, List.length_nil, List.replicate, then_normal, inBlock_normal, Option.getD_some, Option.getD_none, Bool.or_false, Bool.or_true, Bool.true_or, Bool.false_or, Bool.false_eq_true, if_false, if_true, up_zero, Nat.reduceAdd, Nat.reduceSub, binv, ↓opt_def, AV.isAny, AV.cells, ldc, List.map_cons, List.map_nil, St.set_next, St.set_same, St.up_next, Int.natCast_nonneg, lt_len, le_len, Int.toNat_natCast, true_and, and_true, eq_self, reduceCtorEq, decide_true, List.length_singleton, er_int, er_bool, er_str, up_zero, e2]
        refine h2 _ _ ?_
        try clear h2 K_h2
        refine T.cond rfl (fun _ => ?_) (fun h => by cases h)
        refine T.seq_k (fun K_h2 h2 => ?_)
        refine T.regi hm ?_
        simp only [↓reduceIte, namesOf, List.any, I.names, aops, aopsI, aopsT, qstep, CPt, qget, Tbl.get, astep, ev, setd, List.set, List.getD, List.getElem?_cons_zero, List.getElem?_cons_succ, List.getElem?_nil, List.cons_append, List.nil_append, List.length_cons, List.length_nil, List.replicate, then_normal, inBlock_normal, Option.getD_some, Option.getD_none, Bool.or_false, Bool.or_true, Bool.true_or, Bool.false_or, Bool.false_eq_true, if_false, if_true, up_zero, Nat.reduceAdd, Nat.reduceSub, binv, ↓opt_def, AV.isAny, AV.cells, ldc, List.map_cons, List.map_nil, St.set_next, St.set_same, St.up_next, Int.natCast_nonneg, lt_len, le_len, Int.toNat_natCast, true_and, and_true, eq_self, reduceCtorEq, decide_true, List.length_singleton, er_int, er_bool, er_str, bytesAV_len]
        refine (wleft_ok hkl hk0 hk1 (R1.up 10).at_).mono ?_
        rintro v t3 ⟨rfl, rfl⟩
        try simp only [↓reduceIte, namesOf, List.any, I.names, aops, aopsI, aopsT, qstep, CPt, qget, Tbl.get, astep, ev, setd, List.set, List.getD, List.getElem?_cons_zero, List.getElem?_cons_succ, List.getElem?_nil, List.cons_append, List.nil_append, List.length_cons, List.length_nil, List.replicate, then_normal, inBlock_normal, Option.getD_some, Option.getD_none, Bool.or_false, Bool.or_true, Bool.true_or, Bool.false_or, Bool.false_eq_true, if_false, if_true, up_zero, Nat.reduceAdd, Nat.reduceSub, binv, ↓opt_def, AV.isAny, AV.cells, ldc, List.map_cons, List.map_nil, St.set_next, St.set_same, St.up_next, Int.natCast_nonneg, lt_len, le_len, Int.toNat_natCast, true_and, and_true, eq_self, reduceCtorEq, decide_true, List.length_singleton, er_int, er_bool, er_str, fillA, Option.map, AV.fits, AV.one, List.all_cons, List.all_nil, Nat.reduceBEq, Bool.and_true, Bool.not_false, Bool.and_self, Nat.zero_add, splice, List.take, List.drop, Nat.reduceLeDiff, e3]
        refine h2 _ _ ?_
        try clear h2 K_h2
        refine T.ret (Fin.retw rfl (Wk.tup2 (Wk.sl _ _)) (.inr ⟨by rw [hb0]; exact hk0, t2.next + 6, rfl, by rw [hb0]; simp, by have := R1.like.next; omega, by simp, (R1.like.up 10).set _ (by have := R1.like.next; omega)⟩))
      · rw [if_neg hlt] at hb0
        have e2 : decide ((b.length : Int) - s.at_ > 0) = false := decide_eq_false (by omega)
        try simp only [↓reduceIte, namesOf, List.any, I.names, aops, aopsI, aopsT, qstep, CPt, qget, Tbl.get, astep, ev, setd, List.set, List.getD, List.getElem?_cons_zero, List.getElem?_cons_succ, List.getElem?_nil, List.cons_append, List.nil_append, List.length_cons, List.length_nil, List.replicate, then_normal, inBlock_normal, Option.getD_some, Option.getD_none, Bool.or_false, Bool.or_true, Bool.true_or, Bool.false_or, Bool.false_eq_true, if_false, if_true, up_zero, Nat.reduceAdd, Nat.reduceSub, binv, ↓opt_def, AV.isAny, AV.cells, ldc, List.map_cons, List.map_nil, St.set_next, St.set_same, St.up_next, Int.natCast_nonneg, lt_len, le_len, Int.toNat_natCast, true_and, and_true, eq_self, reduceCtorEq, decide_true, List.length_singleton, er_int, er_bool, er_str, up_zero, e2]
        refine h2 _ _ ?_
        try clear h2 K_h2
        refine T.cond rfl (fun h => by cases h) (fun _ => T.skip ?_)
        try simp only [↓reduceIte, namesOf, List.any, I.names, aops, aopsI, aopsT, qstep, CPt, qget, Tbl.get, astep, ev, setd, List.set, List.getD, List.getElem?_cons_zero, List.getElem?_cons_succ, List.getElem?_nil, List.cons_append, List.nil_append, List.length_cons, List.length_nil, List.replicate, then_normal, inBlock_normal, Option.getD_some, Option.getD_none, Bool.or_false, Bool.or_true, Bool.true_or, Bool.false_or, Bool.false_eq_true, if_false, if_true, up_zero, Nat.reduceAdd, Nat.reduceSub, binv, ↓opt_def, AV.isAny, AV.cells, ldc, List.map_cons, List.map_nil, St.set_next, St.set_same, St.up_next, Int.natCast_nonneg, lt_len, le_len, Int.toNat_natCast, true_and, and_true, eq_self, reduceCtorEq, decide_true, List.length_singleton, er_int, er_bool, er_str, inBlock_normal]
        refine h1 _ _ ?_
        try clear h1 K_h1
        refine T.seq_k (fun K_h0 h0 => ?_)
        refine T.regi hm ?_
        simp only [↓reduceIte, namesOf, List.any, I.names, aops, aopsI, aopsT, qstep, CPt, qget, Tbl.get, astep, ev, setd, List.set, List.getD, List.getElem?_cons_zero, List.getElem?_cons_succ, List.getElem?_nil, List.cons_append, List.nil_append, List.length_cons, List.length_nil, List.replicate, then_normal, inBlock_normal, Option.getD_some, Option.getD_none, Bool.or_false, Bool.or_true, Bool.true_or, Bool.false_or, Bool.false_eq_true, if_false, if_true, up_zero, Nat.reduceAdd, Nat.reduceSub, binv, ↓opt_def, AV.isAny, AV.cells, ldc, List.map_cons, List.map_nil, St.set_next, St.set_same, St.up_next, Int.natCast_nonneg, lt_len, le_len, Int.toNat_natCast, true_and, and_true, eq_self, reduceCtorEq, decide_true, List.length_singleton, er_int, er_bool, er_str]
        refine h0 _ _ ?_
        try clear h0 K_h0
        exact T.ret (Fin.quietw rfl (Wk.tup2 (Wk.sl _ _)) ⟨⟨nbs_sps _ _, trivial⟩, trivial, trivial⟩ (R1.like.quiet wf) (.inl ⟨by rw [hb0]; simp, by rw [hb0]; rfl, rfl⟩))
  clear h1
  refine T.seq_k (fun K_h2 h2 => ?_)
  by_cases hil : i < N
  case neg =>
    have e1 : decide ((i : Int) < (N : Int)) = false := decide_eq_false (by omega)
    refine T.seq_k (fun K_h0 h0 => ?_)
    refine T.regi hm ?_
    simp only [↓reduceIte, namesOf, List.any, I.names, aops, aopsI, aopsT, qstep, CPt, qget, Tbl.get, astep, ev, setd, List.set, List.getD, List.getElem?_cons_zero, List.getElem?_cons_succ, List.getElem?_nil, List.cons_append, List.nil_append, List.length_cons, List.length_nil, List.replicate, then_normal, inBlock_normal, Option.getD_some, Option.getD_none, Bool.or_false, Bool.or_true, Bool.true_or, Bool.false_or, Bool.false_eq_true, if_false, if_true, up_zero, Nat.reduceAdd, Nat.reduceSub, binv, ↓opt_def, AV.isAny, AV.cells, ldc, List.map_cons, List.map_nil, St.set_next, St.set_same, St.up_next, Int.natCast_nonneg, lt_len, le_len, Int.toNat_natCast, true_and, and_true, eq_self, reduceCtorEq, decide_true, List.length_singleton, er_int, er_bool, er_str, e1]
    refine h0 _ _ ?_
    try clear h0 K_h0
    refine T.cond rfl (fun h => by cases h) (fun _ => T.exit ?_)
    try simp only [↓reduceIte, namesOf, List.any, I.names, aops, aopsI, aopsT, qstep, CPt, qget, Tbl.get, astep, ev, setd, List.set, List.getD, List.getElem?_cons_zero, List.getElem?_cons_succ, List.getElem?_nil, List.cons_append, List.nil_append, List.length_cons, List.length_nil, List.replicate, then_normal, inBlock_normal, Option.getD_some, Option.getD_none, Bool.or_false, Bool.or_true, Bool.true_or, Bool.false_or, Bool.false_eq_true, if_false, if_true, up_zero, Nat.reduceAdd, Nat.reduceSub, binv, ↓opt_def, AV.isAny, AV.cells, ldc, List.map_cons, List.map_nil, St.set_next, St.set_same, St.up_next, Int.natCast_nonneg, lt_len, le_len, Int.toNat_natCast, true_and, and_true, eq_self, reduceCtorEq, decide_true, List.length_singleton, er_int, er_bool, er_str, inBlock_exit, then_exit]
    exact fin (.inl (by omega)) _ rfl
  have e1 : decide ((i : Int) < (N : Int)) = true := decide_eq_true (by omega)
  refine T.seq_k (fun K_h3 h3 => ?_)
  refine T.regi hm ?_
  simp only [↓reduceIte, namesOf, List.any, I.names, aops, aopsI, aopsT, qstep, CPt, qget, Tbl.get, astep, ev, setd, List.set, List.getD, List.getElem?_cons_zero, List.getElem?_cons_succ, List.getElem?_nil, List.cons_append, List.nil_append, List.length_cons, List.length_nil, List.replicate, then_normal, inBlock_normal, Option.getD_some, Option.getD_none, Bool.or_false, Bool.or_true, Bool.true_or, Bool.false_or, Bool.false_eq_true, if_false, if_true, up_zero, Nat.reduceAdd, Nat.reduceSub, binv, ↓opt_def, AV.isAny, AV.cells, ldc, List.map_cons, List.map_nil, St.set_next, St.set_same, St.up_next, Int.natCast_nonneg, lt_len, le_len, Int.toNat_natCast, true_and, and_true, eq_self, reduceCtorEq, decide_true, List.length_singleton, er_int, er_bool, er_str, e1]
  refine (wbad_ok R1.at_).mono ?_
  rintro v t1 ⟨rfl, rfl⟩
  by_cases hbd : 0 ≤ s.bad
  · have e2 : decide (s.bad < 0) = false := decide_eq_false (by omega)
    try simp only [↓reduceIte, namesOf, List.any, I.names, aops, aopsI, aopsT, qstep, CPt, qget, Tbl.get, astep, ev, setd, List.set, List.getD, List.getElem?_cons_zero, List.getElem?_cons_succ, List.getElem?_nil, List.cons_append, List.nil_append, List.length_cons, List.length_nil, List.replicate, then_normal, inBlock_normal, Option.getD_some, Option.getD_none, Bool.or_false, Bool.or_true, Bool.true_or, Bool.false_or, Bool.false_eq_true, if_false, if_true, up_zero, Nat.reduceAdd, Nat.reduceSub, binv, ↓opt_def, AV.isAny, AV.cells, ldc, List.map_cons, List.map_nil, St.set_next, St.set_same, St.up_next, Int.natCast_nonneg, lt_len, le_len, Int.toNat_natCast, true_and, and_true, eq_self, reduceCtorEq, decide_true, List.length_singleton, er_int, er_bool, er_str, up_zero, e2]
    refine h3 _ _ ?_
    try clear h3 K_h3
    refine T.cond rfl (fun h => by cases h) (fun _ => T.exit ?_)
    try simp only [↓reduceIte, namesOf, List.any, I.names, aops, aopsI, aopsT, qstep, CPt, qget, Tbl.get, astep, ev, setd, List.set, List.getD, List.getElem?_cons_zero, List.getElem?_cons_succ, List.getElem?_nil, List.cons_append, List.nil_append, List.length_cons, List.length_nil, List.replicate, then_normal, inBlock_normal, Option.getD_some, Option.getD_none, Bool.or_false, Bool.or_true, Bool.true_or, Bool.false_or, Bool.false_eq_true, if_false, if_true, up_zero, Nat.reduceAdd, Nat.reduceSub, binv, ↓opt_def, AV.isAny, AV.cells, ldc, List.map_cons, List.map_nil, St.set_next, St.set_same, St.up_next, Int.natCast_nonneg, lt_len, le_len, Int.toNat_natCast, true_and, and_true, eq_self, reduceCtorEq, decide_true, List.length_singleton, er_int, er_bool, er_str, inBlock_exit, then_exit]
    exact fin (.inr hbd) _ rfl
  have e2 : decide (s.bad < 0) = true := decide_eq_true (by omega)
  try simp only [↓reduceIte, namesOf, List.any, I.names, aops, aopsI, aopsT, qstep, CPt, qget, Tbl.get, astep, ev, setd, List.set, List.getD, List.getElem?_cons_zero, List.getElem?_cons_succ, List.getElem?_nil, List.cons_append, List.nil_append, List.length_cons, List.length_nil, List.replicate, then_normal, inBlock_normal, Option.getD_some, Option.getD_none, Bool.or_false, Bool.or_true, Bool.true_or, Bool.false_or, Bool.false_eq_true, if_false, if_true, up_zero, Nat.reduceAdd, Nat.reduceSub, binv, ↓opt_def, AV.isAny, AV.cells, ldc, List.map_cons, List.map_nil, St.set_next, St.set_same, St.up_next, Int.natCast_nonneg, lt_len, le_len, Int.toNat_natCast, true_and, and_true, eq_self, reduceCtorEq, decide_true, List.length_singleton, er_int, er_bool, er_str, up_zero, e2]
  refine h3 _ _ ?_
  try clear h3 K_h3
  refine T.cond rfl (fun _ => T.skip ?_) (fun h => by cases h)
  refine h2 _ _ ?_
  try clear h2 K_h2
  clear fin
  rw [if_neg hbd] at hgo
  obtain ⟨n, hn⟩ : ∃ n, N - i = n + 1 := ⟨N - i - 1, by omega⟩
  have hn' : N - (i + 1) = n := by omega
  rw [hn] at hgo
  have hgo1 : goS b N s0 [] = (if 0 ≤ (oneN b s).bad then ((oneN b s).bad, [], oneN b s) else if mayS (oneS b s) then goS b n (oneN b s) (acc ++ [oneS b s]) else (s.at_, [], oneN b s)) := by
    rw [hgo]; conv => lhs; unfold goS
    rw [if_neg hbd]
  clear hgo
  have hkl := ks.1.len
  have hk0 := ks.1.lo
  have hk1 := ks.1.hi
  have e3 : IntKind.i64.wrap ((b.length : Int) - ((b.length : Int) - s.at_)) = s.at_ := by rw [wrap64 (by omega) (by omega)]; omega
  have hiw := inc64' hil (by omega)
  refine T.seq_k (fun K_h2 h2 => ?_)
  refine T.block ?_
  refine T.seq_k (fun K_h3 h3 => ?_)
  refine T.regi hm ?_
  simp only [↓reduceIte, namesOf, List.any, I.names, aops, aopsI, aopsT, qstep, CPt, qget, Tbl.get, astep, ev, setd, List.set, List.getD, List.getElem?_cons_zero, List.getElem?_cons_succ, List.getElem?_nil, List.cons_append, List.nil_append, List.length_cons, List.length_nil, List.replicate, then_normal, inBlock_normal, Option.getD_some, Option.getD_none, Bool.or_false, Bool.or_true, Bool.true_or, Bool.false_or, Bool.false_eq_true, if_false, if_true, up_zero, Nat.reduceAdd, Nat.reduceSub, binv, ↓opt_def, AV.isAny, AV.cells, ldc, List.map_cons, List.map_nil, St.set_next, St.set_same, St.up_next, Int.natCast_nonneg, lt_len, le_len, Int.toNat_natCast, true_and, and_true, eq_self, reduceCtorEq, decide_true, List.length_singleton, er_int, er_bool, er_str, bytesAV_len]
  refine (wleft_ok hkl hk0 hk1 R1.at_).mono ?_
  rintro v t2 ⟨rfl, rfl⟩
  try simp only [↓reduceIte, namesOf, List.any, I.names, aops, aopsI, aopsT, qstep, CPt, qget, Tbl.get, astep, ev, setd, List.set, List.getD, List.getElem?_cons_zero, List.getElem?_cons_succ, List.getElem?_nil, List.cons_append, List.nil_append, List.length_cons, List.length_nil, List.replicate, then_normal, inBlock_normal, Option.getD_some, Option.getD_none, Bool.or_false, Bool.or_true, Bool.true_or, Bool.false_or, Bool.false_eq_true, if_false, if_true, up_zero, Nat.reduceAdd, Nat.reduceSub, binv, ↓opt_def, AV.isAny, AV.cells, ldc, List.map_cons, List.map_nil, St.set_next, St.set_same, St.up_next, Int.natCast_nonneg, lt_len, le_len, Int.toNat_natCast, true_and, and_true, eq_self, reduceCtorEq, decide_true, List.length_singleton, er_int, er_bool, er_str, up_zero, e3]
  refine h3 _ _ ?_
  try clear h3 K_h3
  have ks1 := rN_ok (w := 8) ks
  have ks2 := rN_ok (w := 8) ks1
  have ks3 := rN_ok (w := 8) ks2
  have ks4 := rN_ok (w := 8) ks3
  have ks5 := rXN_ok ks4
  have hS : oneS b s = ⟨rW b s 8, rW b (rN b s 8) 8, IntKind.i64.wrap (rW b (rN b (rN b s 8) 8) 8 : Int), IntKind.i64.wrap (rW b (rN b (rN b (rN b s 8) 8) 8) 8 : Int), rX b (rN b (rN b (rN b (rN b s 8) 8) 8) 8)⟩ := rfl
  have hNn : oneN b s = rXN b (rN b (rN b (rN b (rN b s 8) 8) 8) 8) := rfl
  generalize oneS b s = X at hS hgo1
  generalize oneN b s = s' at hNn hgo1
  have hxl := rX_len ks4
  -- the Trace and the Id
  refine T.seq_k (fun K_h3 h3 => ?_)
  refine T.regi hm ?_
  simp only [↓reduceIte, namesOf, List.any, I.names, aops, aopsI, aopsT, qstep, CPt, qget, Tbl.get, astep, ev, setd, List.set, List.getD, List.getElem?_cons_zero, List.getElem?_cons_succ, List.getElem?_nil, List.cons_append, List.nil_append, List.length_cons, List.length_nil, List.replicate, then_normal, inBlock_normal, Option.getD_some, Option.getD_none, Bool.or_false, Bool.or_true, Bool.true_or, Bool.false_or, Bool.false_eq_true, if_false, if_true, up_zero, Nat.reduceAdd, Nat.reduceSub, binv, ↓opt_def, AV.isAny, AV.cells, ldc, List.map_cons, List.map_nil, St.set_next, St.set_same, St.up_next, Int.natCast_nonneg, lt_len, le_len, Int.toNat_natCast, true_and, and_true, eq_self, reduceCtorEq, decide_true, List.length_singleton, er_int, er_bool, er_str]
  refine (wwordF ks rfl (R1.up 7).at_).mono ?_
  rintro v u ⟨rfl, rfl⟩
  try simp only [↓reduceIte, namesOf, List.any, I.names, aops, aopsI, aopsT, qstep, CPt, qget, Tbl.get, astep, ev, setd, List.set, List.getD, List.getElem?_cons_zero, List.getElem?_cons_succ, List.getElem?_nil, List.cons_append, List.nil_append, List.length_cons, List.length_nil, List.replicate, then_normal, inBlock_normal, Option.getD_some, Option.getD_none, Bool.or_false, Bool.or_true, Bool.true_or, Bool.false_or, Bool.false_eq_true, if_false, if_true, up_zero, Nat.reduceAdd, Nat.reduceSub, binv, ↓opt_def, AV.isAny, AV.cells, ldc, List.map_cons, List.map_nil, St.set_next, St.set_same, St.up_next, Int.natCast_nonneg, lt_len, le_len, Int.toNat_natCast, true_and, and_true, eq_self, reduceCtorEq, decide_true, List.length_singleton, er_int, er_bool, er_str, ]
  refine (wwordF ks1 rfl (St.set_same _ _ _)).mono ?_
  rintro v u ⟨rfl, rfl⟩
  rw [St.set_set]
  try simp only [↓reduceIte, namesOf, List.any, I.names, aops, aopsI, aopsT, qstep, CPt, qget, Tbl.get, astep, ev, setd, List.set, List.getD, List.getElem?_cons_zero, List.getElem?_cons_succ, List.getElem?_nil, List.cons_append, List.nil_append, List.length_cons, List.length_nil, List.replicate, then_normal, inBlock_normal, Option.getD_some, Option.getD_none, Bool.or_false, Bool.or_true, Bool.true_or, Bool.false_or, Bool.false_eq_true, if_false, if_true, up_zero, Nat.reduceAdd, Nat.reduceSub, binv, ↓opt_def, AV.isAny, AV.cells, ldc, List.map_cons, List.map_nil, St.set_next, St.set_same, St.up_next, Int.natCast_nonneg, lt_len, le_len, Int.toNat_natCast, true_and, and_true, eq_self, reduceCtorEq, decide_true, List.length_singleton, er_int, er_bool, er_str, fillA, Option.map, AV.fits, AV.one, List.all_cons, List.all_nil, Nat.reduceBEq, Bool.and_true, Bool.not_false, Bool.and_self, Nat.zero_add, splice, List.take, List.drop, Nat.reduceLeDiff, St.set_set]
  have hsn := R1.like.next
  have hnmt := R1.hi
  have RA := ((R1.up 7).set (rdS b .none (rN b (rN b s 8) 8))).new (a := t2.next + 5) (.obj [.int .u64 (rW b s 8 : Int), .int .u64 (rW b (rN b s 8) 8 : Int), .int .i64 0, .int .i64 0, .sl [] .nil]) (by omega) (by omega) (fun g hg => by have := R1.lt hg; omega)
  have hA : (((t2.up 7).set nm (rdS b .none (rN b (rN b s 8) 8))).set (t2.next + 5) (.obj [.int .u64 (rW b s 8 : Int), .int .u64 (rW b (rN b s 8) 8 : Int), .int .i64 0, .int .i64 0, .sl [] .nil])).res (t2.next + 5) = some (.obj [.int .u64 (rW b s 8 : Int), .int .u64 (rW b (rN b s 8) 8 : Int), .int .i64 0, .int .i64 0, .sl [] .nil]) := by simp
  have ha0 : σ.next ≤ t2.next + 5 := by omega
  have ha1 : t2.next + 5 < (((t2.up 7).set nm (rdS b .none (rN b (rN b s 8) 8))).set (t2.next + 5) (.obj [.int .u64 (rW b s 8 : Int), .int .u64 (rW b (rN b s 8) 8 : Int), .int .i64 0, .int .i64 0, .sl [] .nil])).next := by simp
  have ha2 : t2.next + 5 ≠ nm := by omega
  have ha3 : ∀ g, vv = .tip g → t2.next + 5 ≠ g := fun g hg => by have := R1.lt hg; omega
  generalize (((t2.up 7).set nm (rdS b .none (rN b (rN b s 8) 8))).set (t2.next + 5) (.obj [.int .u64 (rW b s 8 : Int), .int .u64 (rW b (rN b s 8) 8 : Int), .int .i64 0, .int .i64 0, .sl [] .nil])) = uA at RA hA ha1 ⊢
  generalize t2.next + 5 = a at hA ha0 ha1 ha2 ha3 ⊢
  clear R1 hsn hnmt
  refine h3 _ _ ?_
  try clear h3 K_h3
  -- the Start
  refine T.seq_k (fun K_h3 h3 => ?_)
  refine T.regi hm ?_
  simp only [↓reduceIte, namesOf, List.any, I.names, aops, aopsI, aopsT, qstep, CPt, qget, Tbl.get, astep, ev, setd, List.set, List.getD, List.getElem?_cons_zero, List.getElem?_cons_succ, List.getElem?_nil, List.cons_append, List.nil_append, List.length_cons, List.length_nil, List.replicate, then_normal, inBlock_normal, Option.getD_some, Option.getD_none, Bool.or_false, Bool.or_true, Bool.true_or, Bool.false_or, Bool.false_eq_true, if_false, if_true, up_zero, Nat.reduceAdd, Nat.reduceSub, binv, ↓opt_def, AV.isAny, AV.cells, ldc, List.map_cons, List.map_nil, St.set_next, St.set_same, St.up_next, Int.natCast_nonneg, lt_len, le_len, Int.toNat_natCast, true_and, and_true, eq_self, reduceCtorEq, decide_true, List.length_singleton, er_int, er_bool, er_str]
  refine (wwordF ks2 rfl RA.at_).mono ?_
  rintro v u ⟨rfl, rfl⟩
  have RB0 := RA.set (rdS b .none (rN b (rN b (rN b s 8) 8) 8))
  have hB0 : (uA.set nm (rdS b .none (rN b (rN b (rN b s 8) 8) 8))).res a = _ := (St.set_other _ _ ha2).trans hA
  have hBn : a < (uA.set nm (rdS b .none (rN b (rN b (rN b s 8) 8) 8))).next := ha1
  generalize (uA.set nm (rdS b .none (rN b (rN b (rN b s 8) 8) 8))) = uB at RB0 hB0 hBn ⊢
  try simp only [↓reduceIte, namesOf, List.any, I.names, aops, aopsI, aopsT, qstep, CPt, qget, Tbl.get, astep, ev, setd, List.set, List.getD, List.getElem?_cons_zero, List.getElem?_cons_succ, List.getElem?_nil, List.cons_append, List.nil_append, List.length_cons, List.length_nil, List.replicate, then_normal, inBlock_normal, Option.getD_some, Option.getD_none, Bool.or_false, Bool.or_true, Bool.true_or, Bool.false_or, Bool.false_eq_true, if_false, if_true, up_zero, Nat.reduceAdd, Nat.reduceSub, binv, ↓opt_def, AV.isAny, AV.cells, ldc, List.map_cons, List.map_nil, St.set_next, St.set_same, St.up_next, Int.natCast_nonneg, lt_len, le_len, Int.toNat_natCast, true_and, and_true, eq_self, reduceCtorEq, decide_true, List.length_singleton, er_int, er_bool, er_str, hB0, AV.fits, AV.one, List.all_cons, List.all_nil, Nat.reduceBEq, Bool.and_true, Bool.not_false, Bool.and_self, Nat.zero_add, splice, List.take, List.drop, Nat.reduceLeDiff]
  have RB := RB0.new (a := a) (.obj [.int .u64 (rW b s 8 : Int), .int .u64 (rW b (rN b s 8) 8 : Int), .int .i64 (IntKind.i64.wrap (rW b (rN b (rN b s 8) 8) 8 : Int)), .int .i64 0, .sl [] .nil]) ha0 ha2 ha3
  have hB : (uB.set a (.obj [.int .u64 (rW b s 8 : Int), .int .u64 (rW b (rN b s 8) 8 : Int), .int .i64 (IntKind.i64.wrap (rW b (rN b (rN b s 8) 8) 8 : Int)), .int .i64 0, .sl [] .nil])).res a = _ := St.set_same _ _ _
  have hBn' : a < (uB.set a (.obj [.int .u64 (rW b s 8 : Int), .int .u64 (rW b (rN b s 8) 8 : Int), .int .i64 (IntKind.i64.wrap (rW b (rN b (rN b s 8) 8) 8 : Int)), .int .i64 0, .sl [] .nil])).next := hBn
  generalize (uB.set a (.obj [.int .u64 (rW b s 8 : Int), .int .u64 (rW b (rN b s 8) 8 : Int), .int .i64 (IntKind.i64.wrap (rW b (rN b (rN b s 8) 8) 8 : Int)), .int .i64 0, .sl [] .nil])) = uB2 at RB hB hBn' ⊢
  clear RA hA ha1 RB0 hB0 hBn
  refine h3 _ _ ?_
  try clear h3 K_h3
  -- the End
  refine T.seq_k (fun K_h3 h3 => ?_)
  refine T.regi hm ?_
  simp only [↓reduceIte, namesOf, List.any, I.names, aops, aopsI, aopsT, qstep, CPt, qget, Tbl.get, astep, ev, setd, List.set, List.getD, List.getElem?_cons_zero, List.getElem?_cons_succ, List.getElem?_nil, List.cons_append, List.nil_append, List.length_cons, List.length_nil, List.replicate, then_normal, inBlock_normal, Option.getD_some, Option.getD_none, Bool.or_false, Bool.or_true, Bool.true_or, Bool.false_or, Bool.false_eq_true, if_false, if_true, up_zero, Nat.reduceAdd, Nat.reduceSub, binv, ↓opt_def, AV.isAny, AV.cells, ldc, List.map_cons, List.map_nil, St.set_next, St.set_same, St.up_next, Int.natCast_nonneg, lt_len, le_len, Int.toNat_natCast, true_and, and_true, eq_self, reduceCtorEq, decide_true, List.length_singleton, er_int, er_bool, er_str]
  refine (wwordF ks3 rfl RB.at_).mono ?_
  rintro v u ⟨rfl, rfl⟩
  have RC0 := RB.set (rdS b .none (rN b (rN b (rN b (rN b s 8) 8) 8) 8))
  have hC0 : (uB2.set nm (rdS b .none (rN b (rN b (rN b (rN b s 8) 8) 8) 8))).res a = _ := (St.set_other _ _ ha2).trans hB
  have hCn : a < (uB2.set nm (rdS b .none (rN b (rN b (rN b (rN b s 8) 8) 8) 8))).next := hBn'
  generalize (uB2.set nm (rdS b .none (rN b (rN b (rN b (rN b s 8) 8) 8) 8))) = uC at RC0 hC0 hCn ⊢
  try simp only [↓reduceIte, namesOf, List.any, I.names, aops, aopsI, aopsT, qstep, CPt, qget, Tbl.get, astep, ev, setd, List.set, List.getD, List.getElem?_cons_zero, List.getElem?_cons_succ, List.getElem?_nil, List.cons_append, List.nil_append, List.length_cons, List.length_nil, List.replicate, then_normal, inBlock_normal, Option.getD_some, Option.getD_none, Bool.or_false, Bool.or_true, Bool.true_or, Bool.false_or, Bool.false_eq_true, if_false, if_true, up_zero, Nat.reduceAdd, Nat.reduceSub, binv, ↓opt_def, AV.isAny, AV.cells, ldc, List.map_cons, List.map_nil, St.set_next, St.set_same, St.up_next, Int.natCast_nonneg, lt_len, le_len, Int.toNat_natCast, true_and, and_true, eq_self, reduceCtorEq, decide_true, List.length_singleton, er_int, er_bool, er_str, hC0, AV.fits, AV.one, List.all_cons, List.all_nil, Nat.reduceBEq, Bool.and_true, Bool.not_false, Bool.and_self, Nat.zero_add, splice, List.take, List.drop, Nat.reduceLeDiff]
  have RC := RC0.new (a := a) (.obj [.int .u64 (rW b s 8 : Int), .int .u64 (rW b (rN b s 8) 8 : Int), .int .i64 (IntKind.i64.wrap (rW b (rN b (rN b s 8) 8) 8 : Int)), .int .i64 (IntKind.i64.wrap (rW b (rN b (rN b (rN b s 8) 8) 8) 8 : Int)), .sl [] .nil]) ha0 ha2 ha3
  have hC : (uC.set a (.obj [.int .u64 (rW b s 8 : Int), .int .u64 (rW b (rN b s 8) 8 : Int), .int .i64 (IntKind.i64.wrap (rW b (rN b (rN b s 8) 8) 8 : Int)), .int .i64 (IntKind.i64.wrap (rW b (rN b (rN b (rN b s 8) 8) 8) 8 : Int)), .sl [] .nil])).res a = _ := St.set_same _ _ _
  have hCn' : a < (uC.set a (.obj [.int .u64 (rW b s 8 : Int), .int .u64 (rW b (rN b s 8) 8 : Int), .int .i64 (IntKind.i64.wrap (rW b (rN b (rN b s 8) 8) 8 : Int)), .int .i64 (IntKind.i64.wrap (rW b (rN b (rN b (rN b s 8) 8) 8) 8 : Int)), .sl [] .nil])).next := hCn
  generalize (uC.set a (.obj [.int .u64 (rW b s 8 : Int), .int .u64 (rW b (rN b s 8) 8 : Int), .int .i64 (IntKind.i64.wrap (rW b (rN b (rN b s 8) 8) 8 : Int)), .int .i64 (IntKind.i64.wrap (rW b (rN b (rN b (rN b s 8) 8) 8) 8 : Int)), .sl [] .nil])) = uC2 at RC hC hCn' ⊢
  clear RB hB hBn' RC0 hC0 hCn
  refine h3 _ _ ?_
  try clear h3 K_h3
  -- the Data
  refine T.seq_k (fun K_h3 h3 => ?_)
  refine T.regi hm ?_
  simp only [↓reduceIte, namesOf, List.any, I.names, aops, aopsI, aopsT, qstep, CPt, qget, Tbl.get, astep, ev, setd, List.set, List.getD, List.getElem?_cons_zero, List.getElem?_cons_succ, List.getElem?_nil, List.cons_append, List.nil_append, List.length_cons, List.length_nil, List.replicate, then_normal, inBlock_normal, Option.getD_some, Option.getD_none, Bool.or_false, Bool.or_true, Bool.true_or, Bool.false_or, Bool.false_eq_true, if_false, if_true, up_zero, Nat.reduceAdd, Nat.reduceSub, binv, ↓opt_def, AV.isAny, AV.cells, ldc, List.map_cons, List.map_nil, St.set_next, St.set_same, St.up_next, Int.natCast_nonneg, lt_len, le_len, Int.toNat_natCast, true_and, and_true, eq_self, reduceCtorEq, decide_true, List.length_singleton, er_int, er_bool, er_str]
  refine (wtextR_ok ks4 RC.at_).mono ?_
  rintro v u ⟨rfl, rfl⟩
  rw [← hNn] at ks5 ⊢
  have RD0 := RC.set (rdS b .none s')
  have hD0 : (uC2.set nm (rdS b .none s')).res a = _ := (St.set_other _ _ ha2).trans hC
  have hDn : a < (uC2.set nm (rdS b .none s')).next := hCn'
  generalize (uC2.set nm (rdS b .none s')) = uD at RD0 hD0 hDn ⊢
  try simp only [↓reduceIte, namesOf, List.any, I.names, aops, aopsI, aopsT, qstep, CPt, qget, Tbl.get, astep, ev, setd, List.set, List.getD, List.getElem?_cons_zero, List.getElem?_cons_succ, List.getElem?_nil, List.cons_append, List.nil_append, List.length_cons, List.length_nil, List.replicate, then_normal, inBlock_normal, Option.getD_some, Option.getD_none, Bool.or_false, Bool.or_true, Bool.true_or, Bool.false_or, Bool.false_eq_true, if_false, if_true, up_zero, Nat.reduceAdd, Nat.reduceSub, binv, ↓opt_def, AV.isAny, AV.cells, ldc, List.map_cons, List.map_nil, St.set_next, St.set_same, St.up_next, Int.natCast_nonneg, lt_len, le_len, Int.toNat_natCast, true_and, and_true, eq_self, reduceCtorEq, decide_true, List.length_singleton, er_int, er_bool, er_str, hD0, AV.fits, AV.one, List.all_cons, List.all_nil, Nat.reduceBEq, Bool.and_true, Bool.not_false, Bool.and_self, Nat.zero_add, splice, List.take, List.drop, Nat.reduceLeDiff]
  have hcells : [AV.int .u64 (rW b s 8 : Int), .int .u64 (rW b (rN b s 8) 8 : Int), .int .i64 (IntKind.i64.wrap (rW b (rN b (rN b s 8) 8) 8 : Int)), .int .i64 (IntKind.i64.wrap (rW b (rN b (rN b (rN b s 8) 8) 8) 8 : Int)), .sl (bytesAV (rX b (rN b (rN b (rN b (rN b s 8) 8) 8) 8))) .none] =
      [.int .u64 (X.tr : Int), .int .u64 (X.id : Int), .int .i64 X.st, .int .i64 X.en, .sl (bytesAV X.da) .none] := by rw [hS]
  have hXl : X.da.length ≤ 65535 := by rw [hS]; exact hxl
  rw [hcells]
  clear hcells hS hxl
  have RE := RD0.new (a := a) (.obj [.int .u64 (X.tr : Int), .int .u64 (X.id : Int), .int .i64 X.st, .int .i64 X.en, .sl (bytesAV X.da) .none]) ha0 ha2 ha3
  have hE : (uD.set a (.obj [.int .u64 (X.tr : Int), .int .u64 (X.id : Int), .int .i64 X.st, .int .i64 X.en, .sl (bytesAV X.da) .none])).res a = _ := St.set_same _ _ _
  generalize (uD.set a (.obj [.int .u64 (X.tr : Int), .int .u64 (X.id : Int), .int .i64 X.st, .int .i64 X.en, .sl (bytesAV X.da) .none])) = uE at RE hE ⊢
  clear RC hC hCn' RD0 hD0 hDn
  refine h3 _ _ ?_
  try clear h3 K_h3
  -- may it be?
  have hms : mayI X.st X.en (((bytesAV X.da).length : Nat) : Int) = mayS X := by rw [bytesAV_len]; rfl
  refine T.seq_k (fun K_h3 h3 => ?_)
  have out : (0 ≤ s'.bad ∨ mayS X = true) → ∀ ρ', keep [0, 4, 5, 6, 7, 9] 0 ρ' = [.sl (bytesAV b) .none, .any, .any, .any, .ptr nm 0, .int .i64 (N : Int), .sl (spsAV acc) vv, .int .i64 (i : Int), .any, .ptr a 0] ++ List.replicate 74 .any → K_h3 ρ' uE := by
    intro hor ρ' hρ
    refine h3 _ _ ?_
    try clear h3 K_h3
    refine T.gh (Gh.keep [0, 4, 5, 6, 7, 9]) ?_
    rw [hρ]
    have hgo2 : goS b N s0 [] = (if 0 ≤ s'.bad then (s'.bad, [], s') else goS b (N - (i + 1)) s' (acc ++ [X])) := by
      rw [hgo1, hn']
      split
      · rfl
      · rename_i hx
        rcases hor with h | h
        · exact absurd h hx
        · rw [if_pos h]
    have hEn : ∀ k, (uE.up k).res a = some (.obj [.int .u64 (X.tr : Int), .int .u64 (X.id : Int), .int .i64 X.st, .int .i64 X.en, .sl (bytesAV X.da) .none]) := fun _ => hE
    have hsn := RE.like.next
    have hnm := RE.hi
    have hfit : (spsAV (acc ++ [X])).all (AV.fits 5) = true := sps_fits _
    have hfit1 : AV.fits 5 (.agg [.int .u64 (X.tr : Int), .int .u64 (X.id : Int), .int .i64 X.st, .int .i64 X.en, .sl (bytesAV X.da) .none]) = true := rfl
    have her : (AV.agg [.int .u64 (X.tr : Int), .int .u64 (X.id : Int), .int .i64 X.st, .int .i64 X.en, .sl (bytesAV X.da) .none]).er = .agg [.int .u64 (X.tr : Int), .int .u64 (X.id : Int), .int .i64 X.st, .int .i64 X.en, .sl (bytesAV X.da) .none] := rfl
    have hle : decide ((acc.length + 1) * 56 ≤ 70368744177664 ∧ acc.length + 1 ≤ 4611686018427387904) = true := decide_eq_true (by omega)
    have hlen5 : ∀ x y z w q : AV, [x, y, z, w, q].length = 5 := fun _ _ _ _ _ => rfl
    have htake : ∀ x y z w q : AV, List.take 5 (List.drop 0 [x, y, z, w, q]) = [x, y, z, w, q] := fun _ _ _ _ _ => rfl
    have h05 : 0 + 5 ≤ 5 := Nat.le_refl _
    rcases RE.ver with rfl | ⟨g, rfl, _, _, _, hg⟩
    · have hac := hvn rfl
      subst hac
      have hX1 : [AV.agg [.int .u64 (X.tr : Int), .int .u64 (X.id : Int), .int .i64 X.st, .int .i64 X.en, .sl (bytesAV X.da) .none]] = spsAV [X] := rfl
      have hX0 : spsAV ([] : List Sp) = [] := rfl
      have hX2 : (spsAV [X]).isEmpty = false := rfl
      have hX3 : (spsAV [X]).all (AV.fits 5) = true := sps_fits _
      refine T.regi hm ?_
      simp only [↓reduceIte, namesOf, List.any, I.names, aops, aopsI, aopsT, qstep, CPt, qget, Tbl.get, astep, ev, setd, List.set, List.getD, List.getElem?_cons_zero, List.getElem?_cons_succ, List.getElem?_nil, List.cons_append, List.nil_append, List.length_cons, List.length_nil, List.replicate, then_normal, inBlock_normal, Option.getD_some, Option.getD_none, Bool.or_false, Bool.or_true, Bool.true_or, Bool.false_or, Bool.false_eq_true, if_false, if_true, up_zero, Nat.reduceAdd, Nat.reduceSub, binv, ↓opt_def, AV.isAny, AV.cells, ldc, List.map_cons, List.map_nil, St.set_next, St.set_same, St.up_next, Int.natCast_nonneg, lt_len, le_len, Int.toNat_natCast, true_and, and_true, eq_self, reduceCtorEq, decide_true, List.length_singleton, er_int, er_bool, er_str, hEn, hX0, held, hfit1, her, List.all_cons, List.all_nil, Bool.and_self, srcOf, List.nil_append, hX1, hX3, sps_er, sps_len, hX2, List.length_append, List.length_singleton, htake, h05, hlen5, Nat.reduceMul, Nat.reduceLeDiff, and_self, Nat.zero_add, St.up_res]
      refine h2 _ _ ?_
      try clear h2 K_h2
      refine T.regi hm ?_
      simp only [↓reduceIte, namesOf, List.any, I.names, aops, aopsI, aopsT, qstep, CPt, qget, Tbl.get, astep, ev, setd, List.set, List.getD, List.getElem?_cons_zero, List.getElem?_cons_succ, List.getElem?_nil, List.cons_append, List.nil_append, List.length_cons, List.length_nil, List.replicate, then_normal, inBlock_normal, Option.getD_some, Option.getD_none, Bool.or_false, Bool.or_true, Bool.true_or, Bool.false_or, Bool.false_eq_true, if_false, if_true, up_zero, Nat.reduceAdd, Nat.reduceSub, binv, ↓opt_def, AV.isAny, AV.cells, ldc, List.map_cons, List.map_nil, St.set_next, St.set_same, St.up_next, Int.natCast_nonneg, lt_len, le_len, Int.toNat_natCast, true_and, and_true, eq_self, reduceCtorEq, decide_true, List.length_singleton, er_int, er_bool, er_str, hiw]
      exact ⟨hil, _, _, Gh.keep [0, 4, 5, 6, 7], s', [X], _, ks5, (RE.up 5).appNil (g := uE.next + 3) (by omega) (by omega) (by simp), by rw [← hacc]; rfl, (fun h => by cases h), hgo2, rfl⟩
    · have hgn : ∀ k, (uE.up k).res g = some (.tip 5) := fun _ => hg
      have hle' : decide ((acc.length + 1) * 56 ≤ 70368744177664 ∧ acc.length ≤ 4611686018427387903) = true := decide_eq_true (by omega)
      refine T.regi hm ?_
      simp only [↓reduceIte, namesOf, List.any, I.names, aops, aopsI, aopsT, qstep, CPt, qget, Tbl.get, astep, ev, setd, List.set, List.getD, List.getElem?_cons_zero, List.getElem?_cons_succ, List.getElem?_nil, List.cons_append, List.nil_append, List.length_cons, List.length_nil, List.replicate, then_normal, inBlock_normal, Option.getD_some, Option.getD_none, Bool.or_false, Bool.or_true, Bool.true_or, Bool.false_or, Bool.false_eq_true, if_false, if_true, up_zero, Nat.reduceAdd, Nat.reduceSub, binv, ↓opt_def, AV.isAny, AV.cells, ldc, List.map_cons, List.map_nil, St.set_next, St.set_same, St.up_next, Int.natCast_nonneg, lt_len, le_len, Int.toNat_natCast, true_and, and_true, eq_self, reduceCtorEq, decide_true, List.length_singleton, er_int, er_bool, er_str, hEn, held, hfit1, her, List.all_cons, List.all_nil, Bool.and_self, srcOf, sps_snoc', hfit, sps_len, List.length_singleton, htake, h05, hlen5, hle, hle', hgn]
      refine h2 _ _ ?_
      try clear h2 K_h2
      refine T.regi hm ?_
      simp only [↓reduceIte, namesOf, List.any, I.names, aops, aopsI, aopsT, qstep, CPt, qget, Tbl.get, astep, ev, setd, List.set, List.getD, List.getElem?_cons_zero, List.getElem?_cons_succ, List.getElem?_nil, List.cons_append, List.nil_append, List.length_cons, List.length_nil, List.replicate, then_normal, inBlock_normal, Option.getD_some, Option.getD_none, Bool.or_false, Bool.or_true, Bool.true_or, Bool.false_or, Bool.false_eq_true, if_false, if_true, up_zero, Nat.reduceAdd, Nat.reduceSub, binv, ↓opt_def, AV.isAny, AV.cells, ldc, List.map_cons, List.map_nil, St.set_next, St.set_same, St.up_next, Int.natCast_nonneg, lt_len, le_len, Int.toNat_natCast, true_and, and_true, eq_self, reduceCtorEq, decide_true, List.length_singleton, er_int, er_bool, er_str, hiw]
      exact ⟨hil, _, _, Gh.keep [0, 4, 5, 6, 7], s', acc ++ [X], _, ks5, (RE.up 5).appTip (g := uE.next + 3) (by omega) (by omega) (by simp), by simp [hacc], (fun h => by cases h), hgo2, rfl⟩
  clear h2
  refine T.seq_k (fun K_h4 h4 => ?_)
  refine T.regi hm ?_
  simp only [↓reduceIte, namesOf, List.any, I.names, aops, aopsI, aopsT, qstep, CPt, qget, Tbl.get, astep, ev, setd, List.set, List.getD, List.getElem?_cons_zero, List.getElem?_cons_succ, List.getElem?_nil, List.cons_append, List.nil_append, List.length_cons, List.length_nil, List.replicate, then_normal, inBlock_normal, Option.getD_some, Option.getD_none, Bool.or_false, Bool.or_true, Bool.true_or, Bool.false_or, Bool.false_eq_true, if_false, if_true, up_zero, Nat.reduceAdd, Nat.reduceSub, binv, ↓opt_def, AV.isAny, AV.cells, ldc, List.map_cons, List.map_nil, St.set_next, St.set_same, St.up_next, Int.natCast_nonneg, lt_len, le_len, Int.toNat_natCast, true_and, and_true, eq_self, reduceCtorEq, decide_true, List.length_singleton, er_int, er_bool, er_str]
  refine (wbad_ok RE.at_).mono ?_
  rintro v u ⟨rfl, rfl⟩
  by_cases hsb : 0 ≤ s'.bad
  · have e4 : decide (s'.bad < 0) = false := decide_eq_false (by omega)
    try simp only [↓reduceIte, namesOf, List.any, I.names, aops, aopsI, aopsT, qstep, CPt, qget, Tbl.get, astep, ev, setd, List.set, List.getD, List.getElem?_cons_zero, List.getElem?_cons_succ, List.getElem?_nil, List.cons_append, List.nil_append, List.length_cons, List.length_nil, List.replicate, then_normal, inBlock_normal, Option.getD_some, Option.getD_none, Bool.or_false, Bool.or_true, Bool.true_or, Bool.false_or, Bool.false_eq_true, if_false, if_true, up_zero, Nat.reduceAdd, Nat.reduceSub, binv, ↓opt_def, AV.isAny, AV.cells, ldc, List.map_cons, List.map_nil, St.set_next, St.set_same, St.up_next, Int.natCast_nonneg, lt_len, le_len, Int.toNat_natCast, true_and, and_true, eq_self, reduceCtorEq, decide_true, List.length_singleton, er_int, er_bool, er_str, up_zero, e4]
    refine h4 _ _ ?_
    try clear h4 K_h4
    refine T.cond rfl (fun h => by cases h) (fun _ => T.skip ?_)
    exact out (.inl hsb) _ rfl
  have e4 : decide (s'.bad < 0) = true := decide_eq_true (by omega)
  have hlen5 : ∀ x y z w q : AV, [x, y, z, w, q].length = 5 := fun _ _ _ _ _ => rfl
  have htake : ∀ x y z w q : AV, List.take 5 (List.drop 0 [x, y, z, w, q]) = [x, y, z, w, q] := fun _ _ _ _ _ => rfl
  have h05 : 0 + 5 ≤ 5 := Nat.le_refl _
  try simp only [↓reduceIte, namesOf, List.any, I.names, aops, aopsI, aopsT, qstep, CPt, qget, Tbl.get, astep, ev, setd, List.set, List.getD, List.getElem?_cons_zero, List.getElem?_cons_succ, List.getElem?_nil, List.cons_append, List.nil_append, List.length_cons, List.length_nil, List.replicate, then_normal, inBlock_normal, Option.getD_some, Option.getD_none, Bool.or_false, Bool.or_true, Bool.true_or, Bool.false_or, Bool.false_eq_true, if_false, if_true, up_zero, Nat.reduceAdd, Nat.reduceSub, binv, ↓opt_def, AV.isAny, AV.cells, ldc, List.map_cons, List.map_nil, St.set_next, St.set_same, St.up_next, Int.natCast_nonneg, lt_len, le_len, Int.toNat_natCast, true_and, and_true, eq_self, reduceCtorEq, decide_true, List.length_singleton, er_int, er_bool, er_str, up_zero, e4, hE, hlen5, htake, h05]
  refine may_ok.mono ?_
  rintro v u2 ⟨rfl, rfl⟩
  rw [hms]
  cases hmay : mayS X with
  | true =>
    try simp only [↓reduceIte, namesOf, List.any, I.names, aops, aopsI, aopsT, qstep, CPt, qget, Tbl.get, astep, ev, setd, List.set, List.getD, List.getElem?_cons_zero, List.getElem?_cons_succ, List.getElem?_nil, List.cons_append, List.nil_append, List.length_cons, List.length_nil, List.replicate, then_normal, inBlock_normal, Option.getD_some, Option.getD_none, Bool.or_false, Bool.or_true, Bool.true_or, Bool.false_or, Bool.false_eq_true, if_false, if_true, up_zero, Nat.reduceAdd, Nat.reduceSub, binv, ↓opt_def, AV.isAny, AV.cells, ldc, List.map_cons, List.map_nil, St.set_next, St.set_same, St.up_next, Int.natCast_nonneg, lt_len, le_len, Int.toNat_natCast, true_and, and_true, eq_self, reduceCtorEq, decide_true, List.length_singleton, er_int, er_bool, er_str, up_zero, Bool.not_true]
    refine h4 _ _ ?_
    try clear h4 K_h4
    refine T.cond rfl (fun h => by cases h) (fun _ => T.skip ?_)
    exact out (.inr hmay) _ rfl
  | false =>
    try simp only [↓reduceIte, namesOf, List.any, I.names, aops, aopsI, aopsT, qstep, CPt, qget, Tbl.get, astep, ev, setd, List.set, List.getD, List.getElem?_cons_zero, List.getElem?_cons_succ, List.getElem?_nil, List.cons_append, List.nil_append, List.length_cons, List.length_nil, List.replicate, then_normal, inBlock_normal, Option.getD_some, Option.getD_none, Bool.or_false, Bool.or_true, Bool.true_or, Bool.false_or, Bool.false_eq_true, if_false, if_true, up_zero, Nat.reduceAdd, Nat.reduceSub, binv, ↓opt_def, AV.isAny, AV.cells, ldc, List.map_cons, List.map_nil, St.set_next, St.set_same, St.up_next, Int.natCast_nonneg, lt_len, le_len, Int.toNat_natCast, true_and, and_true, eq_self, reduceCtorEq, decide_true, List.length_singleton, er_int, er_bool, er_str, up_zero, Bool.not_false]
    refine h4 _ _ ?_
    try clear h4 K_h4
    clear out
    refine T.cond rfl (fun _ => ?_) (fun h => by cases h)
    refine T.seq_k (fun K_h3 h3 => ?_)
    refine T.regi hm ?_
    simp only [↓reduceIte, namesOf, List.any, I.names, aops, aopsI, aopsT, qstep, CPt, qget, Tbl.get, astep, ev, setd, List.set, List.getD, List.getElem?_cons_zero, List.getElem?_cons_succ, List.getElem?_nil, List.cons_append, List.nil_append, List.length_cons, List.length_nil, List.replicate, then_normal, inBlock_normal, Option.getD_some, Option.getD_none, Bool.or_false, Bool.or_true, Bool.true_or, Bool.false_or, Bool.false_eq_true, if_false, if_true, up_zero, Nat.reduceAdd, Nat.reduceSub, binv, ↓opt_def, AV.isAny, AV.cells, ldc, List.map_cons, List.map_nil, St.set_next, St.set_same, St.up_next, Int.natCast_nonneg, lt_len, le_len, Int.toNat_natCast, true_and, and_true, eq_self, reduceCtorEq, decide_true, List.length_singleton, er_int, er_bool, er_str, fillA, Option.map, AV.fits, AV.one, List.all_cons, List.all_nil, Nat.reduceBEq, Bool.and_true, Bool.not_false, Bool.and_self, Nat.zero_add, splice, List.take, List.drop, Nat.reduceLeDiff]
    refine h3 _ _ ?_
    try clear h3 K_h3
    rw [if_neg hsb, hmay, if_neg (by simp)] at hgo1
    have hG : G = (s.at_, []) := by rw [hget, hgo1]; simp [hk0]
    exact T.ret (Fin.retw rfl (Wk.tup2 (Wk.sl _ _)) (.inr ⟨by rw [hG]; exact hk0, u2.next + 2, rfl, by rw [hG]; simp, by have := RE.like.next; omega, by simp, (RE.like.up 6).set _ (by have := RE.like.next; omega)⟩))

end Go.VL

namespace Go.VL

open Go.Proofs

theorem goS_len {b : List UInt8} : ∀ {n : Nat} {s : Rs} {acc : List Sp}, (goS b n s acc).2.1.length ≤ acc.length + n
  | 0, s, acc => by unfold goS; split <;> simp
  | n + 1, s, acc => by
    unfold goS
    split
    · simp
    · split
      · simp
      · split
        · have := @goS_len b n (oneN b s) (acc ++ [oneS b s])
          simp at this; omega
        · simp

theorem getS_len {b : List UInt8} (hb : b.length ≤ 1000000) : (getS b).2.length ≤ 65535 := by
  have h := rW_lt (w := 2) (Rs.ok_r0 (l := b) (by omega))
  have h2 := @goS_len b (rW b r0 2) (rN b r0 2) []
  unfold getS
  simp only []
  split
  · simp
  · split
    · simp
    · simp at h2 ⊢; omega

/-- the reader's place in what is left of the bytes -/
def sh (k : Nat) (s : Rs) : Rs := ⟨s.at_ - k, if s.bad = -1 then -1 else s.bad - k⟩

structure SH (k : Nat) (b : List UInt8) (s : Rs) : Prop where
  ok : s.ok b
  len : k ≤ b.length
  lo : (k : Int) ≤ s.at_
  bad : s.bad = -1 ∨ (k : Int) ≤ s.bad

theorem SH.neg {k : Nat} {b : List UInt8} {s : Rs} (h : SH k b s) : (sh k s).bad = -1 ↔ s.bad = -1 := by
  unfold sh; have := h.bad
  split <;> simp_all <;> omega

theorem SH.pos {k : Nat} {b : List UInt8} {s : Rs} (h : SH k b s) : 0 ≤ (sh k s).bad ↔ 0 ≤ s.bad := by
  unfold sh; have := h.bad
  split <;> simp_all <;> omega

theorem SH.rt {k : Nat} {b : List UInt8} {s : Rs} (h : SH k b s) (w : Int) : rT (b.drop k) (sh k s) w = rT b s w := by
  have e := h.neg
  have := h.len
  unfold rT
  rw [Bool.eq_iff_iff, decide_eq_true_eq, decide_eq_true_eq, e, List.length_drop]
  unfold sh
  constructor <;> rintro ⟨h1, h2⟩ <;> refine ⟨h1, ?_⟩ <;> simp only [] at * <;> omega

theorem SH.rw {k : Nat} {b : List UInt8} {s : Rs} (h : SH k b s) (w : Nat) : rW (b.drop k) (sh k s) w = rW b s w := by
  unfold rW
  rw [h.rt]
  have : (b.drop k).drop (sh k s).at_.toNat = b.drop s.at_.toNat := by
    rw [List.drop_drop]; unfold sh; have := h.lo; congr 1; simp only []; omega
  rw [this]

end Go.VL

namespace Go.VL

open Go.Proofs

theorem flat_snoc {α β : Type} (f : α → List β) {l : List α} {i : Nat} (h : i < l.length) : (l.take (i + 1)).flatMap f = (l.take i).flatMap f ++ f l[i] := by
  rw [List.take_succ_eq_append_getElem h, List.flatMap_append]; simp

theorem spans_le {l : List Sp} (h : ∀ s ∈ l, s.da.length ≤ 200) : (l.flatMap spanB).length ≤ l.length * 234 := by
  induction l with
  | nil => simp
  | cons s r ih =>
    rw [List.flatMap_cons, List.length_append, List.length_cons, spanB_len, Nat.add_mul]
    have := h s (by simp)
    have := ih (fun x hx => h x (List.mem_cons_of_mem _ hx))
    omega

theorem mayS_len {s : Sp} (h : mayS s = true) : s.da.length ≤ 200 := by have := mayS_facts h; omega

set_option maxRecDepth 10000 in
set_option maxHeartbeats 1000000 in
theorem spput_ok {l : List Sp} {g : Ver} {σ : St} (hl : l.length ≤ 65535) (hd : ∀ s ∈ l, s.da.length ≤ 9223372036854775807) :
    ACalls Tryd.prog n_spput [.sl (spsAV l) g] σ (fun v σ' => v = (if l.all mayS then .tup [.sl (bytesAV (spansB l)) .none, .nili] else .tup [.sl [] .none, .iface tCode (.int .i64 1)]) ∧ σ' = σ) := by
  refine s_spput (fun wf => ?_)
  unfold c_spput
  have e1 : decide ((l.length : Int) > 65535) = false := decide_eq_false (by omega)
  have e2 := u64w (n := l.length) (by omega)
  refine T.seq_k (fun K_h0 h0 => ?_)
  refine T.regi hm ?_
  simp only [↓reduceIte, namesOf, List.any, I.names, aops, aopsI, aopsT, qstep, CPt, qget, Tbl.get, astep, ev, setd, List.set, List.getD, List.getElem?_cons_zero, List.getElem?_cons_succ, List.getElem?_nil, List.cons_append, List.nil_append, List.length_cons, List.length_nil, List.replicate, then_normal, inBlock_normal, Option.getD_some, Option.getD_none, Bool.or_false, Bool.or_true, Bool.true_or, Bool.false_or, Bool.false_eq_true, if_false, if_true, up_zero, Nat.reduceAdd, Nat.reduceSub, binv, ↓opt_def, AV.isAny, AV.cells, ldc, List.map_cons, List.map_nil, St.set_next, St.set_same, St.up_next, Int.natCast_nonneg, lt_len, le_len, Int.toNat_natCast, true_and, and_true, eq_self, reduceCtorEq, decide_true, List.length_singleton, er_int, er_bool, er_str]
  refine h0 _ _ ?_
  try clear h0 K_h0
  refine T.seq_k (fun K_h1 h1 => ?_)
  refine T.seq_k (fun K_h0 h0 => ?_)
  refine T.regi hm ?_
  simp only [↓reduceIte, namesOf, List.any, I.names, aops, aopsI, aopsT, qstep, CPt, qget, Tbl.get, astep, ev, setd, List.set, List.getD, List.getElem?_cons_zero, List.getElem?_cons_succ, List.getElem?_nil, List.cons_append, List.nil_append, List.length_cons, List.length_nil, List.replicate, then_normal, inBlock_normal, Option.getD_some, Option.getD_none, Bool.or_false, Bool.or_true, Bool.true_or, Bool.false_or, Bool.false_eq_true, if_false, if_true, up_zero, Nat.reduceAdd, Nat.reduceSub, binv, ↓opt_def, AV.isAny, AV.cells, ldc, List.map_cons, List.map_nil, St.set_next, St.set_same, St.up_next, Int.natCast_nonneg, lt_len, le_len, Int.toNat_natCast, true_and, and_true, eq_self, reduceCtorEq, decide_true, List.length_singleton, er_int, er_bool, er_str, sps_len, e1]
  refine h0 _ _ ?_
  try clear h0 K_h0
  refine T.cond rfl (fun h => by cases h) (fun _ => T.skip ?_)
  refine h1 _ _ ?_
  try clear h1 K_h1
  refine T.seq_k (fun K_h1 h1 => ?_)
  have hnil : AV.sl [] .nil = .sl (bytesAV []) .nil := rfl
  rw [hnil]
  refine T.regi hm ?_
  simp only [↓reduceIte, namesOf, List.any, I.names, aops, aopsI, aopsT, qstep, CPt, qget, Tbl.get, astep, ev, setd, List.set, List.getD, List.getElem?_cons_zero, List.getElem?_cons_succ, List.getElem?_nil, List.cons_append, List.nil_append, List.length_cons, List.length_nil, List.replicate, then_normal, inBlock_normal, Option.getD_some, Option.getD_none, Bool.or_false, Bool.or_true, Bool.true_or, Bool.false_or, Bool.false_eq_true, if_false, if_true, up_zero, Nat.reduceAdd, Nat.reduceSub, binv, ↓opt_def, AV.isAny, AV.cells, ldc, List.map_cons, List.map_nil, St.set_next, St.set_same, St.up_next, Int.natCast_nonneg, lt_len, le_len, Int.toNat_natCast, true_and, and_true, eq_self, reduceCtorEq, decide_true, List.length_singleton, er_int, er_bool, er_str, sps_len, e2]
  refine (wput_ok (l := []) (w := 2) (by simp) rfl (fun _ => by omega)).mono ?_
  rintro v σ1 ⟨h, o1, rfl⟩
  rw [List.nil_append, ← hnil]
  have q0 := Tq.one o1
  clear o1
  try simp only [↓reduceIte, namesOf, List.any, I.names, aops, aopsI, aopsT, qstep, CPt, qget, Tbl.get, astep, ev, setd, List.set, List.getD, List.getElem?_cons_zero, List.getElem?_cons_succ, List.getElem?_nil, List.cons_append, List.nil_append, List.length_cons, List.length_nil, List.replicate, then_normal, inBlock_normal, Option.getD_some, Option.getD_none, Bool.or_false, Bool.or_true, Bool.true_or, Bool.false_or, Bool.false_eq_true, if_false, if_true, up_zero, Nat.reduceAdd, Nat.reduceSub, binv, ↓opt_def, AV.isAny, AV.cells, ldc, List.map_cons, List.map_nil, St.set_next, St.set_same, St.up_next, Int.natCast_nonneg, lt_len, le_len, Int.toNat_natCast, true_and, and_true, eq_self, reduceCtorEq, decide_true, List.length_singleton, er_int, er_bool, er_str, up_zero]
  refine h1 _ _ ?_
  try clear h1 K_h1
  refine T.seq_k (fun K_h1 h1 => ?_)
  refine T.seq_k (fun K_h0 h0 => ?_)
  refine T.regi hm ?_
  simp only [↓reduceIte, namesOf, List.any, I.names, aops, aopsI, aopsT, qstep, CPt, qget, Tbl.get, astep, ev, setd, List.set, List.getD, List.getElem?_cons_zero, List.getElem?_cons_succ, List.getElem?_nil, List.cons_append, List.nil_append, List.length_cons, List.length_nil, List.replicate, then_normal, inBlock_normal, Option.getD_some, Option.getD_none, Bool.or_false, Bool.or_true, Bool.true_or, Bool.false_or, Bool.false_eq_true, if_false, if_true, up_zero, Nat.reduceAdd, Nat.reduceSub, binv, ↓opt_def, AV.isAny, AV.cells, ldc, List.map_cons, List.map_nil, St.set_next, St.set_same, St.up_next, Int.natCast_nonneg, lt_len, le_len, Int.toNat_natCast, true_and, and_true, eq_self, reduceCtorEq, decide_true, List.length_singleton, er_int, er_bool, er_str, eqIv, bne_self_eq_false]
  refine h0 _ _ ?_
  try clear h0 K_h0
  refine T.cond rfl (fun h => by cases h) (fun _ => T.skip ?_)
  refine h1 _ _ ?_
  try clear h1 K_h1
  refine T.seq_k (fun K_h1 h1 => ?_)
  refine T.seq_k (fun K_h0 h0 => ?_)
  refine T.regi hm ?_
  simp only [↓reduceIte, namesOf, List.any, I.names, aops, aopsI, aopsT, qstep, CPt, qget, Tbl.get, astep, ev, setd, List.set, List.getD, List.getElem?_cons_zero, List.getElem?_cons_succ, List.getElem?_nil, List.cons_append, List.nil_append, List.length_cons, List.length_nil, List.replicate, then_normal, inBlock_normal, Option.getD_some, Option.getD_none, Bool.or_false, Bool.or_true, Bool.true_or, Bool.false_or, Bool.false_eq_true, if_false, if_true, up_zero, Nat.reduceAdd, Nat.reduceSub, binv, ↓opt_def, AV.isAny, AV.cells, ldc, List.map_cons, List.map_nil, St.set_next, St.set_same, St.up_next, Int.natCast_nonneg, lt_len, le_len, Int.toNat_natCast, true_and, and_true, eq_self, reduceCtorEq, decide_true, List.length_singleton, er_int, er_bool, er_str, sps_len]
  refine h0 _ _ ?_
  try clear h0 K_h0
  refine T.block ?_
  refine T.gh (Gh.keep [2, 3, 4, 24, 25, 26]) ?_
  refine T.loopi (fun i ρ t => (∃ g1, Tq σ t g1 1 ∧ (l.take i).all mayS = true ∧ ρ = [.any, .any, .sl [] .nil, .nili, .sl (bytesAV (beB 2 l.length ++ (l.take i).flatMap spanB)) (.tip g1)] ++ List.replicate 19 .any ++ [.sl (spsAV l) g, .int .i64 (l.length : Int), .int .i64 (i : Int)] ++ List.replicate 20 .any))
    l.length 0 (Nat.zero_le _) ⟨h, q0, rfl, by rw [List.take_zero, List.flatMap_nil, List.append_nil]; rfl⟩ ?_
  clear q0 h
  rintro i ρ t hi ⟨h, q0, hall, rfl⟩
  refine T.seq_k (fun K_h0 h0 => ?_)
  refine T.regi hm ?_
  simp only [↓reduceIte, namesOf, List.any, I.names, aops, aopsI, aopsT, qstep, CPt, qget, Tbl.get, astep, ev, setd, List.set, List.getD, List.getElem?_cons_zero, List.getElem?_cons_succ, List.getElem?_nil, List.cons_append, List.nil_append, List.length_cons, List.length_nil, List.replicate, then_normal, inBlock_normal, Option.getD_some, Option.getD_none, Bool.or_false, Bool.or_true, Bool.true_or, Bool.false_or, Bool.false_eq_true, if_false, if_true, up_zero, Nat.reduceAdd, Nat.reduceSub, binv, ↓opt_def, AV.isAny, AV.cells, ldc, List.map_cons, List.map_nil, St.set_next, St.set_same, St.up_next, Int.natCast_nonneg, lt_len, le_len, Int.toNat_natCast, true_and, and_true, eq_self, reduceCtorEq, decide_true, List.length_singleton, er_int, er_bool, er_str]
  refine h0 _ _ ?_
  try clear h0 K_h0
  refine T.seq_k (fun K_h2 h2 => ?_)
  by_cases hil : i < l.length
  case neg =>
    refine T.cond (b := false) (by simp [ev]; omega) (fun h => by cases h) (fun _ => T.exit ?_)
    have : i = l.length := by omega
    subst this
    rw [List.take_length] at hall ⊢
    try simp only [↓reduceIte, namesOf, List.any, I.names, aops, aopsI, aopsT, qstep, CPt, qget, Tbl.get, astep, ev, setd, List.set, List.getD, List.getElem?_cons_zero, List.getElem?_cons_succ, List.getElem?_nil, List.cons_append, List.nil_append, List.length_cons, List.length_nil, List.replicate, then_normal, inBlock_normal, Option.getD_some, Option.getD_none, Bool.or_false, Bool.or_true, Bool.true_or, Bool.false_or, Bool.false_eq_true, if_false, if_true, up_zero, Nat.reduceAdd, Nat.reduceSub, binv, ↓opt_def, AV.isAny, AV.cells, ldc, List.map_cons, List.map_nil, St.set_next, St.set_same, St.up_next, Int.natCast_nonneg, lt_len, le_len, Int.toNat_natCast, true_and, and_true, eq_self, reduceCtorEq, decide_true, List.length_singleton, er_int, er_bool, er_str, inBlock_exit, then_exit]
    refine h1 _ _ ?_
    try clear h1 K_h1
    refine T.seq_k (fun K_h0 h0 => ?_)
    refine T.regi hm ?_
    simp only [↓reduceIte, namesOf, List.any, I.names, aops, aopsI, aopsT, qstep, CPt, qget, Tbl.get, astep, ev, setd, List.set, List.getD, List.getElem?_cons_zero, List.getElem?_cons_succ, List.getElem?_nil, List.cons_append, List.nil_append, List.length_cons, List.length_nil, List.replicate, then_normal, inBlock_normal, Option.getD_some, Option.getD_none, Bool.or_false, Bool.or_true, Bool.true_or, Bool.false_or, Bool.false_eq_true, if_false, if_true, up_zero, Nat.reduceAdd, Nat.reduceSub, binv, ↓opt_def, AV.isAny, AV.cells, ldc, List.map_cons, List.map_nil, St.set_next, St.set_same, St.up_next, Int.natCast_nonneg, lt_len, le_len, Int.toNat_natCast, true_and, and_true, eq_self, reduceCtorEq, decide_true, List.length_singleton, er_int, er_bool, er_str]
    refine h0 _ _ ?_
    try clear h0 K_h0
    exact T.ret (Fin.quietw rfl (Wk.tup2 (Wk.sl _ _)) ⟨⟨nb_bytes _ _, trivial⟩, trivial, trivial⟩ (q0.quiet wf) ⟨by rw [if_pos hall]; rfl, rfl⟩)
  refine T.cond (b := true) (by simp [ev]; omega) (fun _ => T.skip ?_) (fun h => by cases h)
  refine h2 _ _ ?_
  try clear h2 K_h2
  have hiw := inc64' hil (by omega)
  have hilI : (i : Int) < (l.length : Int) := by omega
  have hg := sps_get hil
  have hds := hd _ (List.getElem_mem hil)
  have hfs := flat_snoc spanB hil
  have hta : (l.take (i + 1)).all mayS = ((l.take i).all mayS && mayS l[i]) := by rw [List.take_succ_eq_append_getElem hil, List.all_append]; simp
  have hlm : l.all mayS = true → mayS l[i] = true := fun h => List.all_eq_true.1 h _ (List.getElem_mem hil)
  have hpl : ((l.take i).flatMap spanB).length ≤ 65535 * 234 := by
    refine Nat.le_trans (spans_le (fun s hs => mayS_len (List.all_eq_true.1 hall s hs))) (Nat.mul_le_mul_right _ ?_)
    rw [List.length_take]; omega
  generalize l[i] = s at hg hds hfs hta hlm
  rw [spav] at hg
  refine T.seq_k (fun K_h2 h2 => ?_)
  refine T.block ?_
  refine T.seq_k (fun K_h3 h3 => ?_)
  refine T.regi hm ?_
  simp only [↓reduceIte, namesOf, List.any, I.names, aops, aopsI, aopsT, qstep, CPt, qget, Tbl.get, astep, ev, setd, List.set, List.getD, List.getElem?_cons_zero, List.getElem?_cons_succ, List.getElem?_nil, List.cons_append, List.nil_append, List.length_cons, List.length_nil, List.replicate, then_normal, inBlock_normal, Option.getD_some, Option.getD_none, Bool.or_false, Bool.or_true, Bool.true_or, Bool.false_or, Bool.false_eq_true, if_false, if_true, up_zero, Nat.reduceAdd, Nat.reduceSub, binv, ↓opt_def, AV.isAny, AV.cells, ldc, List.map_cons, List.map_nil, St.set_next, St.set_same, St.up_next, Int.natCast_nonneg, lt_len, le_len, Int.toNat_natCast, true_and, and_true, eq_self, reduceCtorEq, decide_true, List.length_singleton, er_int, er_bool, er_str, sps_len, hg, hilI, AV.fits, AV.one, List.all_cons, List.all_nil, Nat.reduceBEq, Bool.and_true, Bool.not_false, Bool.and_self, Nat.zero_add, splice, List.take, List.drop, Nat.reduceLeDiff, St.set_set]
  have q1 := q0.box (n := 4) (i := 2) (by omega) (.obj [.int .u64 (s.tr : Int), .int .u64 (s.id : Int), .int .i64 s.st, .int .i64 s.en, .sl (bytesAV s.da) .none])
  have hb : ((t.up 4).set (t.next + 2) (.obj [.int .u64 (s.tr : Int), .int .u64 (s.id : Int), .int .i64 s.st, .int .i64 s.en, .sl (bytesAV s.da) .none])).res (t.next + 2) = some (.obj [.int .u64 (s.tr : Int), .int .u64 (s.id : Int), .int .i64 s.st, .int .i64 s.en, .sl (bytesAV s.da) .none]) := by simp
  generalize ((t.up 4).set (t.next + 2) (.obj [.int .u64 (s.tr : Int), .int .u64 (s.id : Int), .int .i64 s.st, .int .i64 s.en, .sl (bytesAV s.da) .none])) = τ at q1 hb ⊢
  generalize t.next + 2 = a at hb ⊢
  clear q0
  refine h3 _ _ ?_
  try clear h3 K_h3
  refine T.seq_k (fun K_h3 h3 => ?_)
  refine T.seq_k (fun K_h4 h4 => ?_)
  refine T.regi hm ?_
  simp only [↓reduceIte, namesOf, List.any, I.names, aops, aopsI, aopsT, qstep, CPt, qget, Tbl.get, astep, ev, setd, List.set, List.getD, List.getElem?_cons_zero, List.getElem?_cons_succ, List.getElem?_nil, List.cons_append, List.nil_append, List.length_cons, List.length_nil, List.replicate, then_normal, inBlock_normal, Option.getD_some, Option.getD_none, Bool.or_false, Bool.or_true, Bool.true_or, Bool.false_or, Bool.false_eq_true, if_false, if_true, up_zero, Nat.reduceAdd, Nat.reduceSub, binv, ↓opt_def, AV.isAny, AV.cells, ldc, List.map_cons, List.map_nil, St.set_next, St.set_same, St.up_next, Int.natCast_nonneg, lt_len, le_len, Int.toNat_natCast, true_and, and_true, eq_self, reduceCtorEq, decide_true, List.length_singleton, er_int, er_bool, er_str, hb, AV.fits, AV.one, List.all_cons, List.all_nil, Nat.reduceBEq, Bool.and_true, Bool.not_false, Bool.and_self, Nat.zero_add, splice, List.take, List.drop, Nat.reduceLeDiff]
  refine (may_ok).mono ?_
  rintro v τ2 ⟨rfl, rfl⟩
  have hms : mayI s.st s.en (((bytesAV s.da).length : Nat) : Int) = mayS s := by rw [bytesAV_len]; rfl
  rw [hms]
  cases hmay : mayS s with
  | false =>
    try simp only [↓reduceIte, namesOf, List.any, I.names, aops, aopsI, aopsT, qstep, CPt, qget, Tbl.get, astep, ev, setd, List.set, List.getD, List.getElem?_cons_zero, List.getElem?_cons_succ, List.getElem?_nil, List.cons_append, List.nil_append, List.length_cons, List.length_nil, List.replicate, then_normal, inBlock_normal, Option.getD_some, Option.getD_none, Bool.or_false, Bool.or_true, Bool.true_or, Bool.false_or, Bool.false_eq_true, if_false, if_true, up_zero, Nat.reduceAdd, Nat.reduceSub, binv, ↓opt_def, AV.isAny, AV.cells, ldc, List.map_cons, List.map_nil, St.set_next, St.set_same, St.up_next, Int.natCast_nonneg, lt_len, le_len, Int.toNat_natCast, true_and, and_true, eq_self, reduceCtorEq, decide_true, List.length_singleton, er_int, er_bool, er_str, up_zero, Bool.not_false]
    refine h4 _ _ ?_
    try clear h4 K_h4
    refine T.cond rfl (fun _ => ?_) (fun h => by cases h)
    refine T.seq_k (fun K_h0 h0 => ?_)
    refine T.regi hm ?_
    simp only [↓reduceIte, namesOf, List.any, I.names, aops, aopsI, aopsT, qstep, CPt, qget, Tbl.get, astep, ev, setd, List.set, List.getD, List.getElem?_cons_zero, List.getElem?_cons_succ, List.getElem?_nil, List.cons_append, List.nil_append, List.length_cons, List.length_nil, List.replicate, then_normal, inBlock_normal, Option.getD_some, Option.getD_none, Bool.or_false, Bool.or_true, Bool.true_or, Bool.false_or, Bool.false_eq_true, if_false, if_true, up_zero, Nat.reduceAdd, Nat.reduceSub, binv, ↓opt_def, AV.isAny, AV.cells, ldc, List.map_cons, List.map_nil, St.set_next, St.set_same, St.up_next, Int.natCast_nonneg, lt_len, le_len, Int.toNat_natCast, true_and, and_true, eq_self, reduceCtorEq, decide_true, List.length_singleton, er_int, er_bool, er_str]
    refine h0 _ _ ?_
    try clear h0 K_h0
    have : ¬ l.all mayS = true := fun h => by rw [hlm h] at hmay; cases hmay
    exact T.ret (Fin.quietw rfl (Wk.tup2 (Wk.sl _ _)) ⟨⟨trivial, trivial⟩, trivial, trivial⟩ (q1.quiet wf) ⟨by rw [if_neg this]; rfl, rfl⟩)
  | true =>
    try simp only [↓reduceIte, namesOf, List.any, I.names, aops, aopsI, aopsT, qstep, CPt, qget, Tbl.get, astep, ev, setd, List.set, List.getD, List.getElem?_cons_zero, List.getElem?_cons_succ, List.getElem?_nil, List.cons_append, List.nil_append, List.length_cons, List.length_nil, List.replicate, then_normal, inBlock_normal, Option.getD_some, Option.getD_none, Bool.or_false, Bool.or_true, Bool.true_or, Bool.false_or, Bool.false_eq_true, if_false, if_true, up_zero, Nat.reduceAdd, Nat.reduceSub, binv, ↓opt_def, AV.isAny, AV.cells, ldc, List.map_cons, List.map_nil, St.set_next, St.set_same, St.up_next, Int.natCast_nonneg, lt_len, le_len, Int.toNat_natCast, true_and, and_true, eq_self, reduceCtorEq, decide_true, List.length_singleton, er_int, er_bool, er_str, up_zero, Bool.not_true]
    refine h4 _ _ ?_
    try clear h4 K_h4
    refine T.cond rfl (fun h => by cases h) (fun _ => T.skip ?_)
    refine h3 _ _ ?_
    try clear h3 K_h3
    refine T.seq_k (fun K_h3 h3 => ?_)
    refine T.regi hm ?_
    simp only [↓reduceIte, namesOf, List.any, I.names, aops, aopsI, aopsT, qstep, CPt, qget, Tbl.get, astep, ev, setd, List.set, List.getD, List.getElem?_cons_zero, List.getElem?_cons_succ, List.getElem?_nil, List.cons_append, List.nil_append, List.length_cons, List.length_nil, List.replicate, then_normal, inBlock_normal, Option.getD_some, Option.getD_none, Bool.or_false, Bool.or_true, Bool.true_or, Bool.false_or, Bool.false_eq_true, if_false, if_true, up_zero, Nat.reduceAdd, Nat.reduceSub, binv, ↓opt_def, AV.isAny, AV.cells, ldc, List.map_cons, List.map_nil, St.set_next, St.set_same, St.up_next, Int.natCast_nonneg, lt_len, le_len, Int.toNat_natCast, true_and, and_true, eq_self, reduceCtorEq, decide_true, List.length_singleton, er_int, er_bool, er_str, hb, AV.fits, AV.one, List.all_cons, List.all_nil, Nat.reduceBEq, Bool.and_true, Bool.not_false, Bool.and_self, Nat.zero_add, splice, List.take, List.drop, Nat.reduceLeDiff]
    refine (sput1_ok hmay).mono ?_
    rintro v τ3 ⟨rfl, rfl⟩
    try simp only [↓reduceIte, namesOf, List.any, I.names, aops, aopsI, aopsT, qstep, CPt, qget, Tbl.get, astep, ev, setd, List.set, List.getD, List.getElem?_cons_zero, List.getElem?_cons_succ, List.getElem?_nil, List.cons_append, List.nil_append, List.length_cons, List.length_nil, List.replicate, then_normal, inBlock_normal, Option.getD_some, Option.getD_none, Bool.or_false, Bool.or_true, Bool.true_or, Bool.false_or, Bool.false_eq_true, if_false, if_true, up_zero, Nat.reduceAdd, Nat.reduceSub, binv, ↓opt_def, AV.isAny, AV.cells, ldc, List.map_cons, List.map_nil, St.set_next, St.set_same, St.up_next, Int.natCast_nonneg, lt_len, le_len, Int.toNat_natCast, true_and, and_true, eq_self, reduceCtorEq, decide_true, List.length_singleton, er_int, er_bool, er_str, up_zero]
    refine h3 _ _ ?_
    try clear h3 K_h3
    refine T.seq_k (fun K_h3 h3 => ?_)
    refine T.seq_k (fun K_h0 h0 => ?_)
    refine T.regi hm ?_
    simp only [↓reduceIte, namesOf, List.any, I.names, aops, aopsI, aopsT, qstep, CPt, qget, Tbl.get, astep, ev, setd, List.set, List.getD, List.getElem?_cons_zero, List.getElem?_cons_succ, List.getElem?_nil, List.cons_append, List.nil_append, List.length_cons, List.length_nil, List.replicate, then_normal, inBlock_normal, Option.getD_some, Option.getD_none, Bool.or_false, Bool.or_true, Bool.true_or, Bool.false_or, Bool.false_eq_true, if_false, if_true, up_zero, Nat.reduceAdd, Nat.reduceSub, binv, ↓opt_def, AV.isAny, AV.cells, ldc, List.map_cons, List.map_nil, St.set_next, St.set_same, St.up_next, Int.natCast_nonneg, lt_len, le_len, Int.toNat_natCast, true_and, and_true, eq_self, reduceCtorEq, decide_true, List.length_singleton, er_int, er_bool, er_str, eqIv, bne_self_eq_false]
    refine h0 _ _ ?_
    try clear h0 K_h0
    refine T.cond rfl (fun h => by cases h) (fun _ => T.skip ?_)
    refine h3 _ _ ?_
    try clear h3 K_h3
    have hat := q1.ats
    have hsl := mayS_len hmay
    have hle : decide ((2 + ((l.take i).flatMap spanB).length + (s.da.length + 34)) * 1 ≤ 70368744177664 ∧ 2 + ((l.take i).flatMap spanB).length + (s.da.length + 34) ≤ 4611686018427387904) = true := app_le (by omega)
    refine T.regi hm ?_
    simp only [↓reduceIte, namesOf, List.any, I.names, aops, aopsI, aopsT, qstep, CPt, qget, Tbl.get, astep, ev, setd, List.set, List.getD, List.getElem?_cons_zero, List.getElem?_cons_succ, List.getElem?_nil, List.cons_append, List.nil_append, List.length_cons, List.length_nil, List.replicate, then_normal, inBlock_normal, Option.getD_some, Option.getD_none, Bool.or_false, Bool.or_true, Bool.true_or, Bool.false_or, Bool.false_eq_true, if_false, if_true, up_zero, Nat.reduceAdd, Nat.reduceSub, binv, ↓opt_def, AV.isAny, AV.cells, ldc, List.map_cons, List.map_nil, St.set_next, St.set_same, St.up_next, Int.natCast_nonneg, lt_len, le_len, Int.toNat_natCast, true_and, and_true, eq_self, reduceCtorEq, decide_true, List.length_singleton, er_int, er_bool, er_str, held, srcOf, bytesAV_er, bytesAV_app, bytes_all, bytesAV_len, List.length_append, Bool.and_self, St.up_res, List.isEmpty, hat, beB_len, spanB_len, hle]
    refine h2 _ _ ?_
    try clear h2 K_h2
    refine T.regi hm ?_
    simp only [↓reduceIte, namesOf, List.any, I.names, aops, aopsI, aopsT, qstep, CPt, qget, Tbl.get, astep, ev, setd, List.set, List.getD, List.getElem?_cons_zero, List.getElem?_cons_succ, List.getElem?_nil, List.cons_append, List.nil_append, List.length_cons, List.length_nil, List.replicate, then_normal, inBlock_normal, Option.getD_some, Option.getD_none, Bool.or_false, Bool.or_true, Bool.true_or, Bool.false_or, Bool.false_eq_true, if_false, if_true, up_zero, Nat.reduceAdd, Nat.reduceSub, binv, ↓opt_def, AV.isAny, AV.cells, ldc, List.map_cons, List.map_nil, St.set_next, St.set_same, St.up_next, Int.natCast_nonneg, lt_len, le_len, Int.toNat_natCast, true_and, and_true, eq_self, reduceCtorEq, decide_true, List.length_singleton, er_int, er_bool, er_str, hiw]
    refine ⟨hil, _, _, Gh.keep [2, 3, 4, 24, 25, 26], _, q1.app (n := 4) (i := 2) (by omega), by rw [hta, hall, hmay]; rfl, ?_⟩
    rw [hfs, ← List.append_assoc]; rfl

end Go.VL

namespace Go.VL

open Go.Proofs

theorem ACalls.wk {P : Program} {f : Nat} {args args' : List AV} {σ : St} {K : AV → St → Prop} (h : Wks args args') (k : ACalls P f args' σ K) : ACalls P f args σ K :=
  ⟨k.1, fun κ w vs B F hR hv => k.2 κ w vs B F hR (h.vl hv)⟩

set_option maxRecDepth 10000 in
set_option maxHeartbeats 1000000 in
theorem ssame_ok {a b : Sp} {σ : St} : ACalls Tryd.prog n_ssame [.agg (spC a), .agg (spC b)] σ (fun v σ' => v = .bool (decide (a = b)) ∧ σ' = σ) := by
  refine s_ssame (fun wf => ?_)
  unfold c_ssame
  refine T.seq_k (fun K_h1 h1 => ?_)
  refine T.regi hm ?_
  simp only [↓reduceIte, namesOf, List.any, I.names, aops, aopsI, aopsT, qstep, CPt, qget, Tbl.get, astep, ev, setd, List.set, List.getD, List.getElem?_cons_zero, List.getElem?_cons_succ, List.getElem?_nil, List.cons_append, List.nil_append, List.length_cons, List.length_nil, List.replicate, then_normal, inBlock_normal, Option.getD_some, Option.getD_none, Bool.or_false, Bool.or_true, Bool.true_or, Bool.false_or, Bool.false_eq_true, if_false, if_true, up_zero, Nat.reduceAdd, Nat.reduceSub, binv, ↓opt_def, AV.isAny, AV.cells, ldc, List.map_cons, List.map_nil, St.set_next, St.set_same, St.up_next, Int.natCast_nonneg, lt_len, le_len, Int.toNat_natCast, true_and, and_true, eq_self, reduceCtorEq, decide_true, List.length_singleton, er_int, er_bool, er_str]
  obtain ⟨h0, h0', hq⟩ := box2 wf 3 (.obj (spC a)) (.obj (spC b))
  generalize (((σ.up 3).set (σ.next + 0) (.obj (spC a))).set (σ.next + 1) (.obj (spC b))) = σ1 at h0 h0' hq ⊢
  refine h1 _ _ ?_
  try clear h1 K_h1
  refine T.seq_k (fun K_h1 h1 => ?_)
  have no : ¬ a = b → decide (a = b) = false := fun h => decide_eq_false h
  by_cases c1 : a.tr = b.tr
  case neg =>
    have e1 : ((a.tr : Int) == (b.tr : Int)) = false := by simp; omega
    refine T.regi hm ?_
    simp only [↓reduceIte, namesOf, List.any, I.names, aops, aopsI, aopsT, qstep, CPt, qget, Tbl.get, astep, ev, setd, List.set, List.getD, List.getElem?_cons_zero, List.getElem?_cons_succ, List.getElem?_nil, List.cons_append, List.nil_append, List.length_cons, List.length_nil, List.replicate, then_normal, inBlock_normal, Option.getD_some, Option.getD_none, Bool.or_false, Bool.or_true, Bool.true_or, Bool.false_or, Bool.false_eq_true, if_false, if_true, up_zero, Nat.reduceAdd, Nat.reduceSub, binv, ↓opt_def, AV.isAny, AV.cells, ldc, List.map_cons, List.map_nil, St.set_next, St.set_same, St.up_next, Int.natCast_nonneg, lt_len, le_len, Int.toNat_natCast, true_and, and_true, eq_self, reduceCtorEq, decide_true, List.length_singleton, er_int, er_bool, er_str, h0, h0', e1, reduceCtorEq]
    refine h1 _ _ ?_
    try clear h1 K_h1
    exact T.ret (Fin.quiet rfl trivial hq ⟨by rw [no (fun h => c1 (by rw [h]))]; rfl, rfl⟩)
  have e1 : ((a.tr : Int) == (b.tr : Int)) = true := by simp; omega
  by_cases c2 : a.id = b.id
  case neg =>
    have e2 : ((a.id : Int) == (b.id : Int)) = false := by simp; omega
    refine T.regi hm ?_
    simp only [↓reduceIte, namesOf, List.any, I.names, aops, aopsI, aopsT, qstep, CPt, qget, Tbl.get, astep, ev, setd, List.set, List.getD, List.getElem?_cons_zero, List.getElem?_cons_succ, List.getElem?_nil, List.cons_append, List.nil_append, List.length_cons, List.length_nil, List.replicate, then_normal, inBlock_normal, Option.getD_some, Option.getD_none, Bool.or_false, Bool.or_true, Bool.true_or, Bool.false_or, Bool.false_eq_true, if_false, if_true, up_zero, Nat.reduceAdd, Nat.reduceSub, binv, ↓opt_def, AV.isAny, AV.cells, ldc, List.map_cons, List.map_nil, St.set_next, St.set_same, St.up_next, Int.natCast_nonneg, lt_len, le_len, Int.toNat_natCast, true_and, and_true, eq_self, reduceCtorEq, decide_true, List.length_singleton, er_int, er_bool, er_str, h0, h0', e1, e2, reduceCtorEq]
    refine h1 _ _ ?_
    try clear h1 K_h1
    exact T.ret (Fin.quiet rfl trivial hq ⟨by rw [no (fun h => c2 (by rw [h]))]; rfl, rfl⟩)
  have e2 : ((a.id : Int) == (b.id : Int)) = true := by simp; omega
  by_cases c3 : a.st = b.st
  case neg =>
    have e3 : (a.st == b.st) = false := by simpa using c3
    refine T.regi hm ?_
    simp only [↓reduceIte, namesOf, List.any, I.names, aops, aopsI, aopsT, qstep, CPt, qget, Tbl.get, astep, ev, setd, List.set, List.getD, List.getElem?_cons_zero, List.getElem?_cons_succ, List.getElem?_nil, List.cons_append, List.nil_append, List.length_cons, List.length_nil, List.replicate, then_normal, inBlock_normal, Option.getD_some, Option.getD_none, Bool.or_false, Bool.or_true, Bool.true_or, Bool.false_or, Bool.false_eq_true, if_false, if_true, up_zero, Nat.reduceAdd, Nat.reduceSub, binv, ↓opt_def, AV.isAny, AV.cells, ldc, List.map_cons, List.map_nil, St.set_next, St.set_same, St.up_next, Int.natCast_nonneg, lt_len, le_len, Int.toNat_natCast, true_and, and_true, eq_self, reduceCtorEq, decide_true, List.length_singleton, er_int, er_bool, er_str, h0, h0', e1, e2, e3, reduceCtorEq]
    refine h1 _ _ ?_
    try clear h1 K_h1
    exact T.ret (Fin.quiet rfl trivial hq ⟨by rw [no (fun h => c3 (by rw [h]))]; rfl, rfl⟩)
  have e3 : (a.st == b.st) = true := by simpa using c3
  by_cases c4 : a.en = b.en
  case neg =>
    have e4 : (a.en == b.en) = false := by simpa using c4
    refine T.regi hm ?_
    simp only [↓reduceIte, namesOf, List.any, I.names, aops, aopsI, aopsT, qstep, CPt, qget, Tbl.get, astep, ev, setd, List.set, List.getD, List.getElem?_cons_zero, List.getElem?_cons_succ, List.getElem?_nil, List.cons_append, List.nil_append, List.length_cons, List.length_nil, List.replicate, then_normal, inBlock_normal, Option.getD_some, Option.getD_none, Bool.or_false, Bool.or_true, Bool.true_or, Bool.false_or, Bool.false_eq_true, if_false, if_true, up_zero, Nat.reduceAdd, Nat.reduceSub, binv, ↓opt_def, AV.isAny, AV.cells, ldc, List.map_cons, List.map_nil, St.set_next, St.set_same, St.up_next, Int.natCast_nonneg, lt_len, le_len, Int.toNat_natCast, true_and, and_true, eq_self, reduceCtorEq, decide_true, List.length_singleton, er_int, er_bool, er_str, h0, h0', e1, e2, e3, e4, reduceCtorEq]
    refine h1 _ _ ?_
    try clear h1 K_h1
    exact T.ret (Fin.quiet rfl trivial hq ⟨by rw [no (fun h => c4 (by rw [h]))]; rfl, rfl⟩)
  have e4 : (a.en == b.en) = true := by simpa using c4
  refine T.regi hm ?_
  simp only [↓reduceIte, namesOf, List.any, I.names, aops, aopsI, aopsT, qstep, CPt, qget, Tbl.get, astep, ev, setd, List.set, List.getD, List.getElem?_cons_zero, List.getElem?_cons_succ, List.getElem?_nil, List.cons_append, List.nil_append, List.length_cons, List.length_nil, List.replicate, then_normal, inBlock_normal, Option.getD_some, Option.getD_none, Bool.or_false, Bool.or_true, Bool.true_or, Bool.false_or, Bool.false_eq_true, if_false, if_true, up_zero, Nat.reduceAdd, Nat.reduceSub, binv, ↓opt_def, AV.isAny, AV.cells, ldc, List.map_cons, List.map_nil, St.set_next, St.set_same, St.up_next, Int.natCast_nonneg, lt_len, le_len, Int.toNat_natCast, true_and, and_true, eq_self, reduceCtorEq, decide_true, List.length_singleton, er_int, er_bool, er_str, h0, h0', e1, e2, e3, e4, reduceCtorEq]
  refine bequal_ok.mono ?_
  rintro v σ2 ⟨rfl, rfl⟩
  try simp only [↓reduceIte, namesOf, List.any, I.names, aops, aopsI, aopsT, qstep, CPt, qget, Tbl.get, astep, ev, setd, List.set, List.getD, List.getElem?_cons_zero, List.getElem?_cons_succ, List.getElem?_nil, List.cons_append, List.nil_append, List.length_cons, List.length_nil, List.replicate, then_normal, inBlock_normal, Option.getD_some, Option.getD_none, Bool.or_false, Bool.or_true, Bool.true_or, Bool.false_or, Bool.false_eq_true, if_false, if_true, up_zero, Nat.reduceAdd, Nat.reduceSub, binv, ↓opt_def, AV.isAny, AV.cells, ldc, List.map_cons, List.map_nil, St.set_next, St.set_same, St.up_next, Int.natCast_nonneg, lt_len, le_len, Int.toNat_natCast, true_and, and_true, eq_self, reduceCtorEq, decide_true, List.length_singleton, er_int, er_bool, er_str, up_zero]
  refine h1 _ _ ?_
  try clear h1 K_h1
  refine T.ret (Fin.quiet rfl trivial hq ⟨?_, rfl⟩)
  have : decide (a = b) = decide (a.da = b.da) := by
    rw [decide_eq_decide, sp_eq]
    exact ⟨fun h => h.2.2.2.2, fun h => ⟨c1, c2, c3, c4, h⟩⟩
  rw [this]; rfl

theorem getS0 : getS [] = (0, []) := by decide +kernel

set_option maxRecDepth 10000 in
set_option maxHeartbeats 1000000 in
theorem up03_ok {gn : Nat} {σ : St} (hG : σ.res gn = some (.glob 0 hvE)) : ACalls Tryd.prog n_up03 [] σ (fun v σ' => v = .bool true ∧ σ' = σ) := by
  refine s_up03 (fun wf => ?_)
  unfold c_up03
  refine T.seq_k (fun K_h0 h0 => ?_)
  refine T.regi hm ?_
  simp only [↓reduceIte, namesOf, List.any, I.names, aops, aopsI, aopsT, qstep, CPt, qget, Tbl.get, astep, ev, setd, List.set, List.getD, List.getElem?_cons_zero, List.getElem?_cons_succ, List.getElem?_nil, List.cons_append, List.nil_append, List.length_cons, List.length_nil, List.replicate, then_normal, inBlock_normal, Option.getD_some, Option.getD_none, Bool.or_false, Bool.or_true, Bool.true_or, Bool.false_or, Bool.false_eq_true, if_false, if_true, up_zero, Nat.reduceAdd, Nat.reduceSub, binv, ↓opt_def, AV.isAny, AV.cells, ldc, List.map_cons, List.map_nil, St.set_next, St.set_same, St.up_next, Int.natCast_nonneg, lt_len, le_len, Int.toNat_natCast, true_and, and_true, eq_self, reduceCtorEq, decide_true, List.length_singleton, er_int, er_bool, er_str]
  refine h0 _ _ ?_
  try clear h0 K_h0
  refine T.seq_k (fun K_h1 h1 => ?_)
  have hnil : AV.sl [] .nil = .sl (spsAV []) .nil := rfl
  have hnil2 : AV.sl [] .nil = .sl (bytesAV []) .nil := rfl
  refine T.regi hm ?_
  simp only [↓reduceIte, namesOf, List.any, I.names, aops, aopsI, aopsT, qstep, CPt, qget, Tbl.get, astep, ev, setd, List.set, List.getD, List.getElem?_cons_zero, List.getElem?_cons_succ, List.getElem?_nil, List.cons_append, List.nil_append, List.length_cons, List.length_nil, List.replicate, then_normal, inBlock_normal, Option.getD_some, Option.getD_none, Bool.or_false, Bool.or_true, Bool.true_or, Bool.false_or, Bool.false_eq_true, if_false, if_true, up_zero, Nat.reduceAdd, Nat.reduceSub, binv, ↓opt_def, AV.isAny, AV.cells, ldc, List.map_cons, List.map_nil, St.set_next, St.set_same, St.up_next, Int.natCast_nonneg, lt_len, le_len, Int.toNat_natCast, true_and, and_true, eq_self, reduceCtorEq, decide_true, List.length_singleton, er_int, er_bool, er_str]
  refine (spput_ok (l := []) (g := .nil) (by simp) (fun _ h => by cases h)).mono ?_
  rintro v σ1 ⟨hv, rfl⟩
  have hv : v = .tup [.sl (bytesAV [0, 0]) .none, .nili] := hv
  subst hv
  try simp only [↓reduceIte, namesOf, List.any, I.names, aops, aopsI, aopsT, qstep, CPt, qget, Tbl.get, astep, ev, setd, List.set, List.getD, List.getElem?_cons_zero, List.getElem?_cons_succ, List.getElem?_nil, List.cons_append, List.nil_append, List.length_cons, List.length_nil, List.replicate, then_normal, inBlock_normal, Option.getD_some, Option.getD_none, Bool.or_false, Bool.or_true, Bool.true_or, Bool.false_or, Bool.false_eq_true, if_false, if_true, up_zero, Nat.reduceAdd, Nat.reduceSub, binv, ↓opt_def, AV.isAny, AV.cells, ldc, List.map_cons, List.map_nil, St.set_next, St.set_same, St.up_next, Int.natCast_nonneg, lt_len, le_len, Int.toNat_natCast, true_and, and_true, eq_self, reduceCtorEq, decide_true, List.length_singleton, er_int, er_bool, er_str, up_zero]
  refine h1 _ _ ?_
  try clear h1 K_h1
  refine T.seq_k (fun K_h1 h1 => ?_)
  refine T.regi hm ?_
  simp only [↓reduceIte, namesOf, List.any, I.names, aops, aopsI, aopsT, qstep, CPt, qget, Tbl.get, astep, ev, setd, List.set, List.getD, List.getElem?_cons_zero, List.getElem?_cons_succ, List.getElem?_nil, List.cons_append, List.nil_append, List.length_cons, List.length_nil, List.replicate, then_normal, inBlock_normal, Option.getD_some, Option.getD_none, Bool.or_false, Bool.or_true, Bool.true_or, Bool.false_or, Bool.false_eq_true, if_false, if_true, up_zero, Nat.reduceAdd, Nat.reduceSub, binv, ↓opt_def, AV.isAny, AV.cells, ldc, List.map_cons, List.map_nil, St.set_next, St.set_same, St.up_next, Int.natCast_nonneg, lt_len, le_len, Int.toNat_natCast, true_and, and_true, eq_self, reduceCtorEq, decide_true, List.length_singleton, er_int, er_bool, er_str]
  refine ((spget_ok (b := []) (by simp)).wk (.cons (Wk.sl [] .nil) .nil)).mono ?_
  rintro v σ2 hv
  rw [getS0] at hv
  rcases hv with ⟨hlt, _⟩ | ⟨_, n, rfl, hn, hn1, hn2, hL⟩
  · exact absurd hlt (by decide)
  try simp only [↓reduceIte, namesOf, List.any, I.names, aops, aopsI, aopsT, qstep, CPt, qget, Tbl.get, astep, ev, setd, List.set, List.getD, List.getElem?_cons_zero, List.getElem?_cons_succ, List.getElem?_nil, List.cons_append, List.nil_append, List.length_cons, List.length_nil, List.replicate, then_normal, inBlock_normal, Option.getD_some, Option.getD_none, Bool.or_false, Bool.or_true, Bool.true_or, Bool.false_or, Bool.false_eq_true, if_false, if_true, up_zero, Nat.reduceAdd, Nat.reduceSub, binv, ↓opt_def, AV.isAny, AV.cells, ldc, List.map_cons, List.map_nil, St.set_next, St.set_same, St.up_next, Int.natCast_nonneg, lt_len, le_len, Int.toNat_natCast, true_and, and_true, eq_self, reduceCtorEq, decide_true, List.length_singleton, er_int, er_bool, er_str, up_zero]
  refine h1 _ _ ?_
  try clear h1 K_h1
  have hG2 : σ2.res gn = some (.glob 0 hvE) := hL.get (wf.lt hG) hG
  have hsb : sbinv .eql ⟨[0, 0].toArray⟩ ⟨#[0, 0]⟩ = some (.bool true) := by rfl
  have htb : toBytes (bytesAV [0, 0]) = some [0, 0] := toBytes_bytes _
  have e0 : ((0 : Int) == 0) = true := rfl
  refine T.seq_k (fun K_h1 h1 => ?_)
  refine T.regt hm (tbl := []) Tbl.ok_nil ?_
  refine aopsT_cut 10 (fun K_c h_c => ?_)
  try simp only [↓reduceIte, namesOf, List.any, I.names, aops, aopsI, aopsT, qstep, CPt, qget, Tbl.get, astep, ev, setd, List.set, List.getD, List.getElem?_cons_zero, List.getElem?_cons_succ, List.getElem?_nil, List.cons_append, List.nil_append, List.length_cons, List.length_nil, List.replicate, then_normal, inBlock_normal, Option.getD_some, Option.getD_none, Bool.or_false, Bool.or_true, Bool.true_or, Bool.false_or, Bool.false_eq_true, if_false, if_true, up_zero, Nat.reduceAdd, Nat.reduceSub, binv, ↓opt_def, AV.isAny, AV.cells, ldc, List.map_cons, List.map_nil, St.set_next, St.set_same, St.up_next, Int.natCast_nonneg, lt_len, le_len, Int.toNat_natCast, true_and, and_true, eq_self, reduceCtorEq, decide_true, List.length_singleton, er_int, er_bool, er_str, List.take_succ_cons, List.take_zero, eqIv, bne_self_eq_false, htb, hsb]
  refine (isSpot_ok hG2 hn).mono ?_
  rintro v σ3 ⟨rfl, rfl⟩
  rw [e0]
  refine h_c _ _ ?_
  clear h_c K_c
  simp only [List.drop_succ_cons, List.drop_zero, Nat.zero_add, Nat.reduceAdd]
  refine aopsT_cut 4 (fun K_c h_c => ?_)
  try simp only [↓reduceIte, namesOf, List.any, I.names, aops, aopsI, aopsT, qstep, CPt, qget, Tbl.get, astep, ev, setd, List.set, List.getD, List.getElem?_cons_zero, List.getElem?_cons_succ, List.getElem?_nil, List.cons_append, List.nil_append, List.length_cons, List.length_nil, List.replicate, then_normal, inBlock_normal, Option.getD_some, Option.getD_none, Bool.or_false, Bool.or_true, Bool.true_or, Bool.false_or, Bool.false_eq_true, if_false, if_true, up_zero, Nat.reduceAdd, Nat.reduceSub, binv, ↓opt_def, AV.isAny, AV.cells, ldc, List.map_cons, List.map_nil, St.set_next, St.set_same, St.up_next, Int.natCast_nonneg, lt_len, le_len, Int.toNat_natCast, true_and, and_true, eq_self, reduceCtorEq, decide_true, List.length_singleton, er_int, er_bool, er_str, List.take_succ_cons, List.take_zero, fillA, Option.map, AV.fits, AV.one, List.all_cons, List.all_nil, Nat.reduceBEq, Bool.and_true, Bool.not_false, Bool.and_self, Nat.zero_add, splice, List.take, List.drop, Nat.reduceLeDiff]
  refine (may_ok (s := 0) (e := 0) (xs := [])).mono ?_
  rintro v σ4 ⟨rfl, rfl⟩
  have em1 : mayI 0 0 (([] : List AV).length : Nat) = true := rfl
  rw [em1]
  refine h_c _ _ ?_
  clear h_c K_c
  simp only [List.drop_succ_cons, List.drop_zero, Nat.zero_add, Nat.reduceAdd]
  refine aopsT_cut 4 (fun K_c h_c => ?_)
  try simp only [↓reduceIte, namesOf, List.any, I.names, aops, aopsI, aopsT, qstep, CPt, qget, Tbl.get, astep, ev, setd, List.set, List.getD, List.getElem?_cons_zero, List.getElem?_cons_succ, List.getElem?_nil, List.cons_append, List.nil_append, List.length_cons, List.length_nil, List.replicate, then_normal, inBlock_normal, Option.getD_some, Option.getD_none, Bool.or_false, Bool.or_true, Bool.true_or, Bool.false_or, Bool.false_eq_true, if_false, if_true, up_zero, Nat.reduceAdd, Nat.reduceSub, binv, ↓opt_def, AV.isAny, AV.cells, ldc, List.map_cons, List.map_nil, St.set_next, St.set_same, St.up_next, Int.natCast_nonneg, lt_len, le_len, Int.toNat_natCast, true_and, and_true, eq_self, reduceCtorEq, decide_true, List.length_singleton, er_int, er_bool, er_str, List.take_succ_cons, List.take_zero, fillA, Option.map, AV.fits, AV.one, List.all_cons, List.all_nil, Nat.reduceBEq, Bool.and_true, Bool.not_false, Bool.and_self, Nat.zero_add, splice, List.take, List.drop, Nat.reduceLeDiff]
  refine (may_ok (s := 2) (e := 1) (xs := [])).mono ?_
  rintro v σ5 ⟨rfl, rfl⟩
  have em2 : mayI 2 1 (([] : List AV).length : Nat) = false := rfl
  rw [em2]
  refine h_c _ _ ?_
  clear h_c K_c
  simp only [List.drop_succ_cons, List.drop_zero, Nat.zero_add, Nat.reduceAdd]
  try simp only [↓reduceIte, namesOf, List.any, I.names, aops, aopsI, aopsT, qstep, CPt, qget, Tbl.get, astep, ev, setd, List.set, List.getD, List.getElem?_cons_zero, List.getElem?_cons_succ, List.getElem?_nil, List.cons_append, List.nil_append, List.length_cons, List.length_nil, List.replicate, then_normal, inBlock_normal, Option.getD_some, Option.getD_none, Bool.or_false, Bool.or_true, Bool.true_or, Bool.false_or, Bool.false_eq_true, if_false, if_true, up_zero, Nat.reduceAdd, Nat.reduceSub, binv, ↓opt_def, AV.isAny, AV.cells, ldc, List.map_cons, List.map_nil, St.set_next, St.set_same, St.up_next, Int.natCast_nonneg, lt_len, le_len, Int.toNat_natCast, true_and, and_true, eq_self, reduceCtorEq, decide_true, List.length_singleton, er_int, er_bool, er_str, Bool.not_false]
  refine h1 _ _ ?_
  try clear h1 K_h1
  exact T.ret (Fin.quiet rfl trivial (hL.quiet wf) ⟨rfl, rfl⟩)

end Go.VL

namespace Go.VL

open Go.Proofs

/-- an owned thing nm, and a row that grows -/
structure RS (σ σ' : St) (nm : Nat) (r : Res) (k : Nat) (v : Ver) : Prop where
  old : ∀ m, m < σ.next → σ'.res m = σ.res m
  lo : σ.next ≤ nm
  hi : nm < σ'.next
  at_ : σ'.res nm = some r
  ver : v = .nil ∨ ∃ g, v = .tip g ∧ g ≠ nm ∧ σ.next ≤ g ∧ g < σ'.next ∧ σ'.res g = some (.tip k)

theorem RS.set {σ σ' : St} {nm k : Nat} {r : Res} {v : Ver} (h : RS σ σ' nm r k v) (r' : Res) : RS σ (σ'.set nm r') nm r' k v where
  old := fun m hm => by rw [St.set_other _ _ (by have := h.lo; omega)]; exact h.old m hm
  lo := h.lo
  hi := h.hi
  at_ := by simp
  ver := h.ver.imp id fun ⟨g, h1, h2, h3, h4, h5⟩ => ⟨g, h1, h2, h3, h4, by rw [St.set_other _ _ h2]; exact h5⟩

theorem RS.up {σ σ' : St} {nm k : Nat} {r : Res} {v : Ver} (h : RS σ σ' nm r k v) (n : Nat) : RS σ (σ'.up n) nm r k v :=
  ⟨h.old, h.lo, Nat.lt_of_lt_of_le h.hi (Nat.le_add_right _ _), h.at_, h.ver.imp id fun ⟨g, h1, h2, h3, h4, h5⟩ => ⟨g, h1, h2, h3, Nat.lt_of_lt_of_le h4 (Nat.le_add_right _ _), h5⟩⟩

theorem RS.nil {σ σ' : St} {nm k g2 : Nat} {r : Res} (h : RS σ σ' nm r k .nil) (h1 : nm < g2) (h2 : g2 < σ'.next) : RS σ (σ'.set g2 (.tip k)) nm r k (.tip g2) where
  old := fun m hm => by rw [St.set_other _ _ (by have := h.lo; omega)]; exact h.old m hm
  lo := h.lo
  hi := h.hi
  at_ := by rw [St.set_other _ _ (by omega)]; exact h.at_
  ver := .inr ⟨g2, rfl, by omega, by have := h.lo; omega, h2, by simp⟩

theorem RS.tip {σ σ' : St} {nm k g g2 : Nat} {r : Res} (h : RS σ σ' nm r k (.tip g)) (h1 : nm < g2) (h2 : g2 < σ'.next) : RS σ ((σ'.del g).set g2 (.tip k)) nm r k (.tip g2) := by
  obtain ⟨g', e, a1, a2, a3, a4⟩ := h.ver.resolve_left (by simp)
  cases e
  refine ⟨fun m hm => ?_, h.lo, h.hi, ?_, .inr ⟨g2, rfl, by omega, by have := h.lo; omega, h2, by simp⟩⟩
  · rw [St.set_other _ _ (by have := h.lo; omega)]
    simp only [St.del]
    rw [if_neg (by omega)]; exact h.old m hm
  · rw [St.set_other _ _ (by omega)]
    simp only [St.del]
    rw [if_neg (fun e => a1 e.symm)]; exact h.at_

theorem RS.quiet {σ σ' : St} {nm k : Nat} {r : Res} {v : Ver} (wf : WF σ) (h : RS σ σ' nm r k v) : ∀ m s, σ.res m = some s → σ'.res m = some s := by
  intro m s hm
  have : m < σ.next := by
    rcases Nat.lt_or_ge m σ.next with h | h
    · exact h
    · rw [wf m h] at hm; cases hm
  rw [h.old m this]; exact hm

end Go.VL

namespace Go.VL

open Go.Proofs

theorem numB_app (a b : List UInt8) : numB (a ++ b) = b.foldl (fun n b => 256 * n + b.toNat) (numB a) := by unfold numB; rw [List.foldl_append]

theorem numB_beB : ∀ (w n : Nat), n < 256 ^ w → numB (beB w n) = n
  | 0, n, h => by simp at h; subst h; rfl
  | w + 1, n, h => by
    have h1 : n / 256 < 256 ^ w := by rw [Nat.pow_succ] at h; omega
    simp only [beB, numB_app, numB_beB w (n / 256) h1, List.foldl_cons, List.foldl_nil]
    rw [UInt8.toNat_ofNat']
    omega

end Go.VL
