/- Texts put together, of these what the theorem needs: Contracts: the document's gathering. Contracts: the document's gathering, and canonical traces. Contracts: spans out of bytes. Contracts: the document's canonical traces; its index. The plain law of IndexOf: what is canonical by the code is so by the document. A page out of bytes: what is told of it, and readers moved with their bytes. Contracts: the bytes of spans; a page's bytes. Contracts: a trace's bytes in a page; a page's bytes. Contracts: page.Get. Contracts: the document's bytes of spans and pages. The law PagePuts, walked. Are traces the same? And the law PageGets, walked. The compiled code of functions of this seat. MADE BY PROGRAM (mkc.py). -/
import Derived.Test.YtmbbeldgfhnkbaaKPageCuts4
import Derived.Test.YtmbbeldgfhnkbaaChecked

set_option linter.unusedSimpArgs false
set_option linter.unusedVariables false

namespace Go.VL

open Go.Proofs

theorem out_false {l : List Sp} {x : Sp} {i k : Nat} (hx : l[i]? = some x) (hk : k < l.length) (h : outAt l x i k = true) : countsB l i = false := by
  unfold countsB
  rw [hx]
  simp only
  rw [Bool.eq_false_iff]
  intro hh
  have := List.all_eq_true.1 hh k (by simpa using hk)
  rw [h] at this; cases this

theorem range_all {p : Nat → Bool} {i : Nat} (h : (List.range i).all p = true) (hp : p i = true) : (List.range (i + 1)).all p = true := by
  rw [List.range_succ, List.all_append, h]; simp [hp]

set_option maxRecDepth 10000 in
set_option maxHeartbeats 2000000 in
theorem rcounts_ok {l : List Sp} {g : Ver} {i : Nat} {σ : St} (hl : l.length ≤ 9223372036854775807) (hi : i < l.length) : ACalls Try.prog n_rcounts [.sl (spsAV l) g, .int .i64 (i : Int)] σ (fun v σ' => v = .bool (countsB l i) ∧ σ' = σ) := by
  refine s_rcounts (fun wf => ?_)
  unfold c_rcounts
  generalize hx : l[i] = x
  have hxi : l[i]? = some x := by rw [← hx]; simp [hi]
  refine T.seq_k (fun K_h1 h1 => ?_)
  refine T.regi hm ?_
  simp only [↓reduceIte, namesOf, List.any, I.names, aops, aopsI, aopsT, qstep, CPt, qget, Tbl.get, astep, ev, setd, List.set, List.getD, List.getElem?_cons_zero, List.getElem?_cons_succ, List.getElem?_nil, List.cons_append, List.nil_append, List.length_cons, List.length_nil, List.replicate, then_normal, inBlock_normal, Option.getD_some, Option.getD_none, Bool.or_false, Bool.or_true, Bool.true_or, Bool.false_or, Bool.false_eq_true, if_false, if_true, up_zero, Nat.reduceAdd, Nat.reduceSub, binv, ↓opt_def, AV.isAny, AV.cells, ldc, List.map_cons, List.map_nil, St.set_next, St.set_same, St.up_next, Int.natCast_nonneg, lt_len, le_len, Int.toNat_natCast, true_and, and_true, eq_self, reduceCtorEq, decide_true, List.length_singleton, er_int, er_bool, er_str]
  refine h1 _ _ ?_
  try clear h1 K_h1
  refine T.seq_k (fun K_h1 h1 => ?_)
  refine T.seq_k (fun K_h2 h2 => ?_)
  refine T.regi hm ?_
  simp only [↓reduceIte, namesOf, List.any, I.names, aops, aopsI, aopsT, qstep, CPt, qget, Tbl.get, astep, ev, setd, List.set, List.getD, List.getElem?_cons_zero, List.getElem?_cons_succ, List.getElem?_nil, List.cons_append, List.nil_append, List.length_cons, List.length_nil, List.replicate, then_normal, inBlock_normal, Option.getD_some, Option.getD_none, Bool.or_false, Bool.or_true, Bool.true_or, Bool.false_or, Bool.false_eq_true, if_false, if_true, up_zero, Nat.reduceAdd, Nat.reduceSub, binv, ↓opt_def, AV.isAny, AV.cells, ldc, List.map_cons, List.map_nil, St.set_next, St.set_same, St.up_next, Int.natCast_nonneg, lt_len, le_len, Int.toNat_natCast, true_and, and_true, eq_self, reduceCtorEq, decide_true, List.length_singleton, er_int, er_bool, er_str]
  refine h2 _ _ ?_
  try clear h2 K_h2
  refine T.block ?_
  refine T.gh (Gh.keep [0, 1, 5]) ?_
  refine T.loopi (fun k ρ σ' => σ' = σ ∧ (List.range k).all (fun j => !outAt l x i j) = true ∧ ρ = [.sl (spsAV l) g, .int .i64 (i : Int), .any, .any, .any, .int .i64 (k : Int)] ++ List.replicate 59 .any)
    l.length 0 (Nat.zero_le _) ⟨rfl, rfl, rfl⟩ ?_
  rintro k ρ σ' hk ⟨rfl, hpre, rfl⟩
  refine T.seq_k (fun K_h2 h2 => ?_)
  refine T.seq_k (fun K_h3 h3 => ?_)
  refine T.regi hm ?_
  simp only [↓reduceIte, namesOf, List.any, I.names, aops, aopsI, aopsT, qstep, CPt, qget, Tbl.get, astep, ev, setd, List.set, List.getD, List.getElem?_cons_zero, List.getElem?_cons_succ, List.getElem?_nil, List.cons_append, List.nil_append, List.length_cons, List.length_nil, List.replicate, then_normal, inBlock_normal, Option.getD_some, Option.getD_none, Bool.or_false, Bool.or_true, Bool.true_or, Bool.false_or, Bool.false_eq_true, if_false, if_true, up_zero, Nat.reduceAdd, Nat.reduceSub, binv, ↓opt_def, AV.isAny, AV.cells, ldc, List.map_cons, List.map_nil, St.set_next, St.set_same, St.up_next, Int.natCast_nonneg, lt_len, le_len, Int.toNat_natCast, true_and, and_true, eq_self, reduceCtorEq, decide_true, List.length_singleton, er_int, er_bool, er_str, sps_len]
  refine h3 _ _ ?_
  try clear h3 K_h3
  refine T.cond rfl (fun hb => ?_) (fun hb => ?_)
  · refine T.skip ?_
    refine h2 _ _ ?_
    try clear h2 K_h2
    have hkl : k < l.length := by simpa using hb
    clear hb
    generalize hy : l[k] = y
    have hyk : l[k]? = some y := by rw [← hy]; simp [hkl]
    have hw := inc64 hkl hl
    refine T.seq_k (fun K_h2 h2 => ?_)
    refine T.block ?_
    refine T.seq_k (fun K_h3 h3 => ?_)
    refine T.seq_k (fun K_h4 h4 => ?_)
    have step : outAt l x i k = false → ∀ ρ' : List AV, keep [0, 1, 5] 0 ρ' = [.sl (spsAV l) g, .int .i64 (i : Int), .any, .any, .any, .int .i64 (((k : Nat) + 1 : Nat) : Int)] ++ List.replicate 59 .any →
        (k < l.length ∧ ∃ ρ'' σ'', Gh ρ' σ' ρ'' σ'' ∧ σ'' = σ' ∧ (List.range (k + 1)).all (fun j => !outAt l x i j) = true ∧ ρ'' = [.sl (spsAV l) g, .int .i64 (i : Int), .any, .any, .any, .int .i64 (((k : Nat) + 1 : Nat) : Int)] ++ List.replicate 59 .any) := by
      intro ho ρ' hρ
      exact ⟨hkl, _, _, Gh.keep [0, 1, 5], rfl, range_all hpre (by simp [ho]), hρ⟩
    by_cases c1 : y.tr = x.tr
    case neg =>
      have e1 : ((y.tr : Int) != (x.tr : Int)) = true := by simp; omega
      refine T.regi hm ?_
      simp only [↓reduceIte, namesOf, List.any, I.names, aops, aopsI, aopsT, qstep, CPt, qget, Tbl.get, astep, ev, setd, List.set, List.getD, List.getElem?_cons_zero, List.getElem?_cons_succ, List.getElem?_nil, List.cons_append, List.nil_append, List.length_cons, List.length_nil, List.replicate, then_normal, inBlock_normal, Option.getD_some, Option.getD_none, Bool.or_false, Bool.or_true, Bool.true_or, Bool.false_or, Bool.false_eq_true, if_false, if_true, up_zero, Nat.reduceAdd, Nat.reduceSub, binv, ↓opt_def, AV.isAny, AV.cells, ldc, List.map_cons, List.map_nil, St.set_next, St.set_same, St.up_next, Int.natCast_nonneg, lt_len, le_len, Int.toNat_natCast, true_and, and_true, eq_self, reduceCtorEq, decide_true, List.length_singleton, er_int, er_bool, er_str, sps_len, sps_get hkl, sps_get hi, hkl, hi, hx, hy, spav, AV.fits, AV.one, List.all_cons, List.all_nil, Nat.reduceBEq, Bool.and_true, Bool.not_false, Bool.and_self, Nat.zero_add, splice, List.take, List.drop, Nat.reduceLeDiff, e1, reduceCtorEq]
      refine h4 _ _ ?_
      try clear h4 K_h4
      refine T.cond rfl (fun _ => ?_) (fun h => by cases h)
      refine T.exit ?_
      try simp only [↓reduceIte, namesOf, List.any, I.names, aops, aopsI, aopsT, qstep, CPt, qget, Tbl.get, astep, ev, setd, List.set, List.getD, List.getElem?_cons_zero, List.getElem?_cons_succ, List.getElem?_nil, List.cons_append, List.nil_append, List.length_cons, List.length_nil, List.replicate, then_normal, inBlock_normal, Option.getD_some, Option.getD_none, Bool.or_false, Bool.or_true, Bool.true_or, Bool.false_or, Bool.false_eq_true, if_false, if_true, up_zero, Nat.reduceAdd, Nat.reduceSub, binv, ↓opt_def, AV.isAny, AV.cells, ldc, List.map_cons, List.map_nil, St.set_next, St.set_same, St.up_next, Int.natCast_nonneg, lt_len, le_len, Int.toNat_natCast, true_and, and_true, eq_self, reduceCtorEq, decide_true, List.length_singleton, er_int, er_bool, er_str, then_exit, inBlock_exit]
      refine h2 _ _ ?_
      try clear h2 K_h2
      refine T.regi hm ?_
      simp only [↓reduceIte, namesOf, List.any, I.names, aops, aopsI, aopsT, qstep, CPt, qget, Tbl.get, astep, ev, setd, List.set, List.getD, List.getElem?_cons_zero, List.getElem?_cons_succ, List.getElem?_nil, List.cons_append, List.nil_append, List.length_cons, List.length_nil, List.replicate, then_normal, inBlock_normal, Option.getD_some, Option.getD_none, Bool.or_false, Bool.or_true, Bool.true_or, Bool.false_or, Bool.false_eq_true, if_false, if_true, up_zero, Nat.reduceAdd, Nat.reduceSub, binv, ↓opt_def, AV.isAny, AV.cells, ldc, List.map_cons, List.map_nil, St.set_next, St.set_same, St.up_next, Int.natCast_nonneg, lt_len, le_len, Int.toNat_natCast, true_and, and_true, eq_self, reduceCtorEq, decide_true, List.length_singleton, er_int, er_bool, er_str, hw]
      exact step (by unfold outAt; rw [hyk]; simp [c1]) _ rfl
    have e1 : ((y.tr : Int) != (x.tr : Int)) = false := by simp; omega
    by_cases c2 : y.id = x.id
    case neg =>
      have e2 : ((y.id : Int) != (x.id : Int)) = true := by simp; omega
      refine T.regi hm ?_
      simp only [↓reduceIte, namesOf, List.any, I.names, aops, aopsI, aopsT, qstep, CPt, qget, Tbl.get, astep, ev, setd, List.set, List.getD, List.getElem?_cons_zero, List.getElem?_cons_succ, List.getElem?_nil, List.cons_append, List.nil_append, List.length_cons, List.length_nil, List.replicate, then_normal, inBlock_normal, Option.getD_some, Option.getD_none, Bool.or_false, Bool.or_true, Bool.true_or, Bool.false_or, Bool.false_eq_true, if_false, if_true, up_zero, Nat.reduceAdd, Nat.reduceSub, binv, ↓opt_def, AV.isAny, AV.cells, ldc, List.map_cons, List.map_nil, St.set_next, St.set_same, St.up_next, Int.natCast_nonneg, lt_len, le_len, Int.toNat_natCast, true_and, and_true, eq_self, reduceCtorEq, decide_true, List.length_singleton, er_int, er_bool, er_str, sps_len, sps_get hkl, sps_get hi, hkl, hi, hx, hy, spav, AV.fits, AV.one, List.all_cons, List.all_nil, Nat.reduceBEq, Bool.and_true, Bool.not_false, Bool.and_self, Nat.zero_add, splice, List.take, List.drop, Nat.reduceLeDiff, e1, e2, reduceCtorEq]
      refine h4 _ _ ?_
      try clear h4 K_h4
      refine T.cond rfl (fun _ => ?_) (fun h => by cases h)
      refine T.exit ?_
      try simp only [↓reduceIte, namesOf, List.any, I.names, aops, aopsI, aopsT, qstep, CPt, qget, Tbl.get, astep, ev, setd, List.set, List.getD, List.getElem?_cons_zero, List.getElem?_cons_succ, List.getElem?_nil, List.cons_append, List.nil_append, List.length_cons, List.length_nil, List.replicate, then_normal, inBlock_normal, Option.getD_some, Option.getD_none, Bool.or_false, Bool.or_true, Bool.true_or, Bool.false_or, Bool.false_eq_true, if_false, if_true, up_zero, Nat.reduceAdd, Nat.reduceSub, binv, ↓opt_def, AV.isAny, AV.cells, ldc, List.map_cons, List.map_nil, St.set_next, St.set_same, St.up_next, Int.natCast_nonneg, lt_len, le_len, Int.toNat_natCast, true_and, and_true, eq_self, reduceCtorEq, decide_true, List.length_singleton, er_int, er_bool, er_str, then_exit, inBlock_exit]
      refine h2 _ _ ?_
      try clear h2 K_h2
      refine T.regi hm ?_
      simp only [↓reduceIte, namesOf, List.any, I.names, aops, aopsI, aopsT, qstep, CPt, qget, Tbl.get, astep, ev, setd, List.set, List.getD, List.getElem?_cons_zero, List.getElem?_cons_succ, List.getElem?_nil, List.cons_append, List.nil_append, List.length_cons, List.length_nil, List.replicate, then_normal, inBlock_normal, Option.getD_some, Option.getD_none, Bool.or_false, Bool.or_true, Bool.true_or, Bool.false_or, Bool.false_eq_true, if_false, if_true, up_zero, Nat.reduceAdd, Nat.reduceSub, binv, ↓opt_def, AV.isAny, AV.cells, ldc, List.map_cons, List.map_nil, St.set_next, St.set_same, St.up_next, Int.natCast_nonneg, lt_len, le_len, Int.toNat_natCast, true_and, and_true, eq_self, reduceCtorEq, decide_true, List.length_singleton, er_int, er_bool, er_str, hw]
      exact step (by unfold outAt; rw [hyk]; simp [c2]) _ rfl
    have e2 : ((y.id : Int) != (x.id : Int)) = false := by simp; omega
    refine T.regi hm ?_
    simp only [↓reduceIte, namesOf, List.any, I.names, aops, aopsI, aopsT, qstep, CPt, qget, Tbl.get, astep, ev, setd, List.set, List.getD, List.getElem?_cons_zero, List.getElem?_cons_succ, List.getElem?_nil, List.cons_append, List.nil_append, List.length_cons, List.length_nil, List.replicate, then_normal, inBlock_normal, Option.getD_some, Option.getD_none, Bool.or_false, Bool.or_true, Bool.true_or, Bool.false_or, Bool.false_eq_true, if_false, if_true, up_zero, Nat.reduceAdd, Nat.reduceSub, binv, ↓opt_def, AV.isAny, AV.cells, ldc, List.map_cons, List.map_nil, St.set_next, St.set_same, St.up_next, Int.natCast_nonneg, lt_len, le_len, Int.toNat_natCast, true_and, and_true, eq_self, reduceCtorEq, decide_true, List.length_singleton, er_int, er_bool, er_str, sps_len, sps_get hkl, sps_get hi, hkl, hi, hx, hy, spav, AV.fits, AV.one, List.all_cons, List.all_nil, Nat.reduceBEq, Bool.and_true, Bool.not_false, Bool.and_self, Nat.zero_add, splice, List.take, List.drop, Nat.reduceLeDiff, e1, e2, reduceCtorEq]
    refine h4 _ _ ?_
    try clear h4 K_h4
    refine T.cond rfl (fun h => by cases h) (fun _ => T.skip ?_)
    refine h3 _ _ ?_
    try clear h3 K_h3
    have hge := gLess_eq y x
    have hge2 := gSame_eq y x
    refine T.seq_k (fun K_h3 h3 => ?_)
    refine T.regt hm tG_ok ?_
    simp only [↓reduceIte, namesOf, List.any, I.names, aops, aopsI, aopsT, qstep, CPt, qget, Tbl.get, astep, ev, setd, List.set, List.getD, List.getElem?_cons_zero, List.getElem?_cons_succ, List.getElem?_nil, List.cons_append, List.nil_append, List.length_cons, List.length_nil, List.replicate, then_normal, inBlock_normal, Option.getD_some, Option.getD_none, Bool.or_false, Bool.or_true, Bool.true_or, Bool.false_or, Bool.false_eq_true, if_false, if_true, up_zero, Nat.reduceAdd, Nat.reduceSub, binv, ↓opt_def, AV.isAny, AV.cells, ldc, List.map_cons, List.map_nil, St.set_next, St.set_same, St.up_next, Int.natCast_nonneg, lt_len, le_len, Int.toNat_natCast, true_and, and_true, eq_self, reduceCtorEq, decide_true, List.length_singleton, er_int, er_bool, er_str, Nat.reduceEqDiff, tG, n_rless, n_rsame, n_rahead, sps_len, sps_get hkl, sps_get hi, hkl, hi, hx, hy, spav, AV.fits, AV.one, List.all_cons, List.all_nil, Nat.reduceBEq, Bool.and_true, Bool.not_false, Bool.and_self, Nat.zero_add, splice, List.take, List.drop, Nat.reduceLeDiff, hge]
    refine h3 _ _ ?_
    try clear h3 K_h3
    refine T.seq_k (fun K_h3 h3 => ?_)
    refine T.regt hm tG_ok ?_
    simp only [↓reduceIte, namesOf, List.any, I.names, aops, aopsI, aopsT, qstep, CPt, qget, Tbl.get, astep, ev, setd, List.set, List.getD, List.getElem?_cons_zero, List.getElem?_cons_succ, List.getElem?_nil, List.cons_append, List.nil_append, List.length_cons, List.length_nil, List.replicate, then_normal, inBlock_normal, Option.getD_some, Option.getD_none, Bool.or_false, Bool.or_true, Bool.true_or, Bool.false_or, Bool.false_eq_true, if_false, if_true, up_zero, Nat.reduceAdd, Nat.reduceSub, binv, ↓opt_def, AV.isAny, AV.cells, ldc, List.map_cons, List.map_nil, St.set_next, St.set_same, St.up_next, Int.natCast_nonneg, lt_len, le_len, Int.toNat_natCast, true_and, and_true, eq_self, reduceCtorEq, decide_true, List.length_singleton, er_int, er_bool, er_str, Nat.reduceEqDiff, tG, n_rless, n_rsame, n_rahead, sps_len, sps_get hkl, sps_get hi, hkl, hi, hx, hy, spav, AV.fits, AV.one, List.all_cons, List.all_nil, Nat.reduceBEq, Bool.and_true, Bool.not_false, Bool.and_self, Nat.zero_add, splice, List.take, List.drop, Nat.reduceLeDiff, hge2]
    refine h3 _ _ ?_
    try clear h3 K_h3
    refine T.seq_k (fun K_h3 h3 => ?_)
    have bad : outAt l x i k = true → ∀ ρ' : List AV, ρ'.getD 4 .any = .bool false → Fin σ' [.t 4] (fun v σ'' => v = .bool (countsB l i) ∧ σ'' = σ') .ret ρ' σ' := by
      intro ho ρ' hρ
      exact Fin.ret (xs := [ρ'.getD 4 .any]) rfl ⟨by rw [out_false hxi hkl ho, hρ]; rfl, rfl⟩
    cases c3 : lessS y x with
    | true =>
      refine T.regi hm ?_
      simp only [↓reduceIte, namesOf, List.any, I.names, aops, aopsI, aopsT, qstep, CPt, qget, Tbl.get, astep, ev, setd, List.set, List.getD, List.getElem?_cons_zero, List.getElem?_cons_succ, List.getElem?_nil, List.cons_append, List.nil_append, List.length_cons, List.length_nil, List.replicate, then_normal, inBlock_normal, Option.getD_some, Option.getD_none, Bool.or_false, Bool.or_true, Bool.true_or, Bool.false_or, Bool.false_eq_true, if_false, if_true, up_zero, Nat.reduceAdd, Nat.reduceSub, binv, ↓opt_def, AV.isAny, AV.cells, ldc, List.map_cons, List.map_nil, St.set_next, St.set_same, St.up_next, Int.natCast_nonneg, lt_len, le_len, Int.toNat_natCast, true_and, and_true, eq_self, reduceCtorEq, decide_true, List.length_singleton, er_int, er_bool, er_str, reduceCtorEq]
      refine h3 _ _ ?_
      try clear h3 K_h3
      refine T.cond rfl (fun _ => ?_) (fun h => by cases h)
      refine T.seq_k (fun K_h3 h3 => ?_)
      refine T.regi hm ?_
      simp only [↓reduceIte, namesOf, List.any, I.names, aops, aopsI, aopsT, qstep, CPt, qget, Tbl.get, astep, ev, setd, List.set, List.getD, List.getElem?_cons_zero, List.getElem?_cons_succ, List.getElem?_nil, List.cons_append, List.nil_append, List.length_cons, List.length_nil, List.replicate, then_normal, inBlock_normal, Option.getD_some, Option.getD_none, Bool.or_false, Bool.or_true, Bool.true_or, Bool.false_or, Bool.false_eq_true, if_false, if_true, up_zero, Nat.reduceAdd, Nat.reduceSub, binv, ↓opt_def, AV.isAny, AV.cells, ldc, List.map_cons, List.map_nil, St.set_next, St.set_same, St.up_next, Int.natCast_nonneg, lt_len, le_len, Int.toNat_natCast, true_and, and_true, eq_self, reduceCtorEq, decide_true, List.length_singleton, er_int, er_bool, er_str]
      refine h3 _ _ ?_
      try clear h3 K_h3
      exact T.ret (bad (by unfold outAt; rw [hyk]; simp [c1, c2, c3]) _ rfl)
    | false =>
    by_cases c4 : y = x
    case neg =>
      have e4 : decide (y = x) = false := decide_eq_false c4
      refine T.regi hm ?_
      simp only [↓reduceIte, namesOf, List.any, I.names, aops, aopsI, aopsT, qstep, CPt, qget, Tbl.get, astep, ev, setd, List.set, List.getD, List.getElem?_cons_zero, List.getElem?_cons_succ, List.getElem?_nil, List.cons_append, List.nil_append, List.length_cons, List.length_nil, List.replicate, then_normal, inBlock_normal, Option.getD_some, Option.getD_none, Bool.or_false, Bool.or_true, Bool.true_or, Bool.false_or, Bool.false_eq_true, if_false, if_true, up_zero, Nat.reduceAdd, Nat.reduceSub, binv, ↓opt_def, AV.isAny, AV.cells, ldc, List.map_cons, List.map_nil, St.set_next, St.set_same, St.up_next, Int.natCast_nonneg, lt_len, le_len, Int.toNat_natCast, true_and, and_true, eq_self, reduceCtorEq, decide_true, List.length_singleton, er_int, er_bool, er_str, reduceCtorEq, e4]
      refine h3 _ _ ?_
      try clear h3 K_h3
      refine T.cond rfl (fun h => by cases h) (fun _ => T.skip ?_)
      try simp only [↓reduceIte, namesOf, List.any, I.names, aops, aopsI, aopsT, qstep, CPt, qget, Tbl.get, astep, ev, setd, List.set, List.getD, List.getElem?_cons_zero, List.getElem?_cons_succ, List.getElem?_nil, List.cons_append, List.nil_append, List.length_cons, List.length_nil, List.replicate, then_normal, inBlock_normal, Option.getD_some, Option.getD_none, Bool.or_false, Bool.or_true, Bool.true_or, Bool.false_or, Bool.false_eq_true, if_false, if_true, up_zero, Nat.reduceAdd, Nat.reduceSub, binv, ↓opt_def, AV.isAny, AV.cells, ldc, List.map_cons, List.map_nil, St.set_next, St.set_same, St.up_next, Int.natCast_nonneg, lt_len, le_len, Int.toNat_natCast, true_and, and_true, eq_self, reduceCtorEq, decide_true, List.length_singleton, er_int, er_bool, er_str, inBlock_normal]
      refine h2 _ _ ?_
      try clear h2 K_h2
      refine T.regi hm ?_
      simp only [↓reduceIte, namesOf, List.any, I.names, aops, aopsI, aopsT, qstep, CPt, qget, Tbl.get, astep, ev, setd, List.set, List.getD, List.getElem?_cons_zero, List.getElem?_cons_succ, List.getElem?_nil, List.cons_append, List.nil_append, List.length_cons, List.length_nil, List.replicate, then_normal, inBlock_normal, Option.getD_some, Option.getD_none, Bool.or_false, Bool.or_true, Bool.true_or, Bool.false_or, Bool.false_eq_true, if_false, if_true, up_zero, Nat.reduceAdd, Nat.reduceSub, binv, ↓opt_def, AV.isAny, AV.cells, ldc, List.map_cons, List.map_nil, St.set_next, St.set_same, St.up_next, Int.natCast_nonneg, lt_len, le_len, Int.toNat_natCast, true_and, and_true, eq_self, reduceCtorEq, decide_true, List.length_singleton, er_int, er_bool, er_str, hw]
      exact step (by unfold outAt; rw [hyk]; simp [c1, c2, c3, c4]) _ rfl
    have e4 : decide (y = x) = true := decide_eq_true c4
    by_cases c5 : k < i
    · have e5 : decide ((k : Int) < (i : Int)) = true := decide_eq_true (by omega)
      have e5' : decide (k < i) = true := decide_eq_true c5
      refine T.regi hm ?_
      simp only [↓reduceIte, namesOf, List.any, I.names, aops, aopsI, aopsT, qstep, CPt, qget, Tbl.get, astep, ev, setd, List.set, List.getD, List.getElem?_cons_zero, List.getElem?_cons_succ, List.getElem?_nil, List.cons_append, List.nil_append, List.length_cons, List.length_nil, List.replicate, then_normal, inBlock_normal, Option.getD_some, Option.getD_none, Bool.or_false, Bool.or_true, Bool.true_or, Bool.false_or, Bool.false_eq_true, if_false, if_true, up_zero, Nat.reduceAdd, Nat.reduceSub, binv, ↓opt_def, AV.isAny, AV.cells, ldc, List.map_cons, List.map_nil, St.set_next, St.set_same, St.up_next, Int.natCast_nonneg, lt_len, le_len, Int.toNat_natCast, true_and, and_true, eq_self, reduceCtorEq, decide_true, List.length_singleton, er_int, er_bool, er_str, reduceCtorEq, e4, e5, e5']
      refine h3 _ _ ?_
      try clear h3 K_h3
      refine T.cond rfl (fun _ => ?_) (fun h => by cases h)
      refine T.seq_k (fun K_h3 h3 => ?_)
      refine T.regi hm ?_
      simp only [↓reduceIte, namesOf, List.any, I.names, aops, aopsI, aopsT, qstep, CPt, qget, Tbl.get, astep, ev, setd, List.set, List.getD, List.getElem?_cons_zero, List.getElem?_cons_succ, List.getElem?_nil, List.cons_append, List.nil_append, List.length_cons, List.length_nil, List.replicate, then_normal, inBlock_normal, Option.getD_some, Option.getD_none, Bool.or_false, Bool.or_true, Bool.true_or, Bool.false_or, Bool.false_eq_true, if_false, if_true, up_zero, Nat.reduceAdd, Nat.reduceSub, binv, ↓opt_def, AV.isAny, AV.cells, ldc, List.map_cons, List.map_nil, St.set_next, St.set_same, St.up_next, Int.natCast_nonneg, lt_len, le_len, Int.toNat_natCast, true_and, and_true, eq_self, reduceCtorEq, decide_true, List.length_singleton, er_int, er_bool, er_str]
      refine h3 _ _ ?_
      try clear h3 K_h3
      exact T.ret (bad (by unfold outAt; rw [hyk]; simp [c3, c4, c5]) _ rfl)
    · have e5 : decide ((k : Int) < (i : Int)) = false := decide_eq_false (by omega)
      have e5' : decide (k < i) = false := decide_eq_false c5
      refine T.regi hm ?_
      simp only [↓reduceIte, namesOf, List.any, I.names, aops, aopsI, aopsT, qstep, CPt, qget, Tbl.get, astep, ev, setd, List.set, List.getD, List.getElem?_cons_zero, List.getElem?_cons_succ, List.getElem?_nil, List.cons_append, List.nil_append, List.length_cons, List.length_nil, List.replicate, then_normal, inBlock_normal, Option.getD_some, Option.getD_none, Bool.or_false, Bool.or_true, Bool.true_or, Bool.false_or, Bool.false_eq_true, if_false, if_true, up_zero, Nat.reduceAdd, Nat.reduceSub, binv, ↓opt_def, AV.isAny, AV.cells, ldc, List.map_cons, List.map_nil, St.set_next, St.set_same, St.up_next, Int.natCast_nonneg, lt_len, le_len, Int.toNat_natCast, true_and, and_true, eq_self, reduceCtorEq, decide_true, List.length_singleton, er_int, er_bool, er_str, reduceCtorEq, e4, e5, e5']
      refine h3 _ _ ?_
      try clear h3 K_h3
      refine T.cond rfl (fun h => by cases h) (fun _ => T.skip ?_)
      try simp only [↓reduceIte, namesOf, List.any, I.names, aops, aopsI, aopsT, qstep, CPt, qget, Tbl.get, astep, ev, setd, List.set, List.getD, List.getElem?_cons_zero, List.getElem?_cons_succ, List.getElem?_nil, List.cons_append, List.nil_append, List.length_cons, List.length_nil, List.replicate, then_normal, inBlock_normal, Option.getD_some, Option.getD_none, Bool.or_false, Bool.or_true, Bool.true_or, Bool.false_or, Bool.false_eq_true, if_false, if_true, up_zero, Nat.reduceAdd, Nat.reduceSub, binv, ↓opt_def, AV.isAny, AV.cells, ldc, List.map_cons, List.map_nil, St.set_next, St.set_same, St.up_next, Int.natCast_nonneg, lt_len, le_len, Int.toNat_natCast, true_and, and_true, eq_self, reduceCtorEq, decide_true, List.length_singleton, er_int, er_bool, er_str, inBlock_normal]
      refine h2 _ _ ?_
      try clear h2 K_h2
      refine T.regi hm ?_
      simp only [↓reduceIte, namesOf, List.any, I.names, aops, aopsI, aopsT, qstep, CPt, qget, Tbl.get, astep, ev, setd, List.set, List.getD, List.getElem?_cons_zero, List.getElem?_cons_succ, List.getElem?_nil, List.cons_append, List.nil_append, List.length_cons, List.length_nil, List.replicate, then_normal, inBlock_normal, Option.getD_some, Option.getD_none, Bool.or_false, Bool.or_true, Bool.true_or, Bool.false_or, Bool.false_eq_true, if_false, if_true, up_zero, Nat.reduceAdd, Nat.reduceSub, binv, ↓opt_def, AV.isAny, AV.cells, ldc, List.map_cons, List.map_nil, St.set_next, St.set_same, St.up_next, Int.natCast_nonneg, lt_len, le_len, Int.toNat_natCast, true_and, and_true, eq_self, reduceCtorEq, decide_true, List.length_singleton, er_int, er_bool, er_str, hw]
      exact step (by unfold outAt; rw [hyk]; simp [c3, c4, c5, less_irr]) _ rfl
  · refine T.exit ?_
    have : k = l.length := by simp at hb; omega
    subst this
    try simp only [↓reduceIte, namesOf, List.any, I.names, aops, aopsI, aopsT, qstep, CPt, qget, Tbl.get, astep, ev, setd, List.set, List.getD, List.getElem?_cons_zero, List.getElem?_cons_succ, List.getElem?_nil, List.cons_append, List.nil_append, List.length_cons, List.length_nil, List.replicate, then_normal, inBlock_normal, Option.getD_some, Option.getD_none, Bool.or_false, Bool.or_true, Bool.true_or, Bool.false_or, Bool.false_eq_true, if_false, if_true, up_zero, Nat.reduceAdd, Nat.reduceSub, binv, ↓opt_def, AV.isAny, AV.cells, ldc, List.map_cons, List.map_nil, St.set_next, St.set_same, St.up_next, Int.natCast_nonneg, lt_len, le_len, Int.toNat_natCast, true_and, and_true, eq_self, reduceCtorEq, decide_true, List.length_singleton, er_int, er_bool, er_str, inBlock_exit, then_exit]
    refine h1 _ _ ?_
    try clear h1 K_h1
    refine T.seq_k (fun K_h1 h1 => ?_)
    refine T.regi hm ?_
    simp only [↓reduceIte, namesOf, List.any, I.names, aops, aopsI, aopsT, qstep, CPt, qget, Tbl.get, astep, ev, setd, List.set, List.getD, List.getElem?_cons_zero, List.getElem?_cons_succ, List.getElem?_nil, List.cons_append, List.nil_append, List.length_cons, List.length_nil, List.replicate, then_normal, inBlock_normal, Option.getD_some, Option.getD_none, Bool.or_false, Bool.or_true, Bool.true_or, Bool.false_or, Bool.false_eq_true, if_false, if_true, up_zero, Nat.reduceAdd, Nat.reduceSub, binv, ↓opt_def, AV.isAny, AV.cells, ldc, List.map_cons, List.map_nil, St.set_next, St.set_same, St.up_next, Int.natCast_nonneg, lt_len, le_len, Int.toNat_natCast, true_and, and_true, eq_self, reduceCtorEq, decide_true, List.length_singleton, er_int, er_bool, er_str]
    refine h1 _ _ ?_
    try clear h1 K_h1
    refine T.ret (Fin.ret rfl ⟨?_, rfl⟩)
    have : countsB l i = true := by unfold countsB; rw [hxi]; exact hpre
    rw [this]; rfl

/-- an end that is owned, and what was owned ahead of it -/
structure Tp (σ σ' : St) (g k : Nat) : Prop where
  lo : σ.next ≤ g
  hi : g < σ'.next
  at_ : σ'.res g = some (.tip k)
  old : ∀ n x, σ.res n = some x → σ'.res n = some x

theorem Tp.new {σ σ' : St} {k n i : Nat} (wf : WF σ) (hn : σ.next ≤ σ'.next) (ho : ∀ n x, σ.res n = some x → σ'.res n = some x) (hi : i < n) : Tp σ ((σ'.up n).set (σ'.next + i) (.tip k)) (σ'.next + i) k :=
  ⟨by omega, by simp; omega, by simp, set_quiet wf hn ho _ (by omega)⟩

theorem Tp.mv {σ σ' : St} {g g2 k : Nat} (wf : WF σ) (h : Tp σ σ' g k) (hlo : σ.next ≤ g2) (hhi : g2 < σ'.next) : Tp σ ((σ'.del g).set g2 (.tip k)) g2 k :=
  ⟨hlo, by simpa using hhi, by simp, fun n x hr => by
    have hn : n < σ.next := by
      rcases Nat.lt_or_ge n σ.next with h' | h'
      · exact h'
      · rw [wf n h'] at hr; cases hr
    have h1 := h.lo
    rw [St.set_other _ _ (by omega)]
    simp only [St.del]
    rw [if_neg (by omega)]; exact h.old n x hr⟩

theorem Tp.up {σ σ' : St} {g k : Nat} (h : Tp σ σ' g k) (n : Nat) : Tp σ (σ'.up n) g k := ⟨h.lo, Nat.lt_of_lt_of_le h.hi (Nat.le_add_right _ _), h.at_, h.old⟩

theorem sps_fits (l : List Sp) : (spsAV l).all (AV.fits 5) = true := by
  simp [spsAV, Sp.av, AV.fits, AV.isAny, AV.cells, AV.one]

theorem sps_er (l : List Sp) : (spsAV l).map AV.er = spsAV l := by
  simp only [spsAV, List.map_map]
  apply List.map_congr_left
  intro t _
  rfl

theorem sps_app (a b : List Sp) : spsAV a ++ spsAV b = spsAV (a ++ b) := by simp [spsAV]

theorem sps_take (a : List Sp) (n : Nat) : (spsAV a).take n = spsAV (a.take n) := by simp [spsAV, List.map_take]

theorem sps_drop (a : List Sp) (n : Nat) : (spsAV a).drop n = spsAV (a.drop n) := by simp [spsAV, List.map_drop]

theorem nbs_sps (m : Nat) (l : List Sp) : nbs m (spsAV l) := by
  rw [nbs_iff]
  intro y hy
  obtain ⟨s, _, rfl⟩ := List.mem_map.1 hy
  simp only [Sp.av, AV.nb, nbs, true_and, and_true, Ver.nb]
  exact (nb_bytes m s.da)

end Go.VL

namespace Go.VL

open Go.Proofs

theorem er_sp (x : Sp) : (AV.agg (spC x)).er = .agg (spC x) := rfl

theorem sps_snoc (a : List Sp) (x : Sp) : spsAV a ++ [.agg (spC x)] = spsAV (a ++ [x]) := by simp [spsAV, Sp.av]

theorem gatherN_no {l : List Sp} {n : Nat} (hn : n < l.length) (h : countsB l n = false) : gatherN l (n + 1) = gatherN l n := by
  have e : l[n]? = some l[n] := by simp [hn]
  conv => lhs; unfold gatherN
  rw [e]; simp [h]

theorem gatherN_yes {l : List Sp} {n : Nat} {x : Sp} (hx : l[n]? = some x) (h : countsB l n = true) : gatherN l (n + 1) = insS (gatherN l n) x := by
  conv => lhs; unfold gatherN
  rw [hx]; simp [h]

theorem lastAt_yes {out : List Sp} {x y : Sp} {k : Nat} (hy : out[k]? = some y) (h : aheadS y x = true) : lastAt out x (k + 1) = k + 1 := by
  unfold lastAt; rw [hy]; simp [h]

theorem lastAt_not {out : List Sp} {x y : Sp} {k : Nat} (hy : out[k]? = some y) (h : aheadS y x = false) : lastAt out x (k + 1) = lastAt out x k := by
  conv => lhs; unfold lastAt
  rw [hy]; simp [h]

set_option maxRecDepth 10000 in
set_option maxHeartbeats 4000000 in
theorem rgather_ok {l : List Sp} {g : Ver} {σ : St} (hl : l.length ≤ 1000000) : ACalls Try.prog n_rgather [.sl (spsAV l) g] σ (fun v σ' => v = .sl (spsAV (gatherL l)) .none ∧ σ' = σ) := by
  refine s_rgather (fun wf => ?_)
  unfold c_rgather
  refine T.seq_k (fun K_h1 h1 => ?_)
  refine T.regi hm ?_
  simp only [↓reduceIte, namesOf, List.any, I.names, aops, aopsI, aopsT, qstep, CPt, qget, Tbl.get, astep, ev, setd, List.set, List.getD, List.getElem?_cons_zero, List.getElem?_cons_succ, List.getElem?_nil, List.cons_append, List.nil_append, List.length_cons, List.length_nil, List.replicate, then_normal, inBlock_normal, Option.getD_some, Option.getD_none, Bool.or_false, Bool.or_true, Bool.true_or, Bool.false_or, Bool.false_eq_true, if_false, if_true, up_zero, Nat.reduceAdd, Nat.reduceSub, binv, ↓opt_def, AV.isAny, AV.cells, ldc, List.map_cons, List.map_nil, St.set_next, St.set_same, St.up_next, Int.natCast_nonneg, lt_len, le_len, Int.toNat_natCast, true_and, and_true, eq_self, reduceCtorEq, decide_true, List.length_singleton, er_int, er_bool, er_str]
  refine h1 _ _ ?_
  try clear h1 K_h1
  refine T.seq_k (fun K_h1 h1 => ?_)
  refine T.regi hm ?_
  simp only [↓reduceIte, namesOf, List.any, I.names, aops, aopsI, aopsT, qstep, CPt, qget, Tbl.get, astep, ev, setd, List.set, List.getD, List.getElem?_cons_zero, List.getElem?_cons_succ, List.getElem?_nil, List.cons_append, List.nil_append, List.length_cons, List.length_nil, List.replicate, then_normal, inBlock_normal, Option.getD_some, Option.getD_none, Bool.or_false, Bool.or_true, Bool.true_or, Bool.false_or, Bool.false_eq_true, if_false, if_true, up_zero, Nat.reduceAdd, Nat.reduceSub, binv, ↓opt_def, AV.isAny, AV.cells, ldc, List.map_cons, List.map_nil, St.set_next, St.set_same, St.up_next, Int.natCast_nonneg, lt_len, le_len, Int.toNat_natCast, true_and, and_true, eq_self, reduceCtorEq, decide_true, List.length_singleton, er_int, er_bool, er_str]
  refine h1 _ _ ?_
  try clear h1 K_h1
  refine T.seq_k (fun K_h1 h1 => ?_)
  refine T.seq_k (fun K_h2 h2 => ?_)
  refine T.regi hm ?_
  simp only [↓reduceIte, namesOf, List.any, I.names, aops, aopsI, aopsT, qstep, CPt, qget, Tbl.get, astep, ev, setd, List.set, List.getD, List.getElem?_cons_zero, List.getElem?_cons_succ, List.getElem?_nil, List.cons_append, List.nil_append, List.length_cons, List.length_nil, List.replicate, then_normal, inBlock_normal, Option.getD_some, Option.getD_none, Bool.or_false, Bool.or_true, Bool.true_or, Bool.false_or, Bool.false_eq_true, if_false, if_true, up_zero, Nat.reduceAdd, Nat.reduceSub, binv, ↓opt_def, AV.isAny, AV.cells, ldc, List.map_cons, List.map_nil, St.set_next, St.set_same, St.up_next, Int.natCast_nonneg, lt_len, le_len, Int.toNat_natCast, true_and, and_true, eq_self, reduceCtorEq, decide_true, List.length_singleton, er_int, er_bool, er_str]
  refine h2 _ _ ?_
  try clear h2 K_h2
  refine T.block ?_
  refine T.gh (Gh.keep [0, 3, 4]) ?_
  refine T.loopi (fun i ρ σ' => σ.next ≤ σ'.next ∧ (∀ n x, σ.res n = some x → σ'.res n = some x) ∧ ∃ v, ρ = [.sl (spsAV l) g, .any, .any, .sl (spsAV (gatherN l i)) v, .int .i64 (i : Int)] ++ List.replicate 52 .any)
    l.length 0 (Nat.zero_le _) ⟨Nat.le_refl _, fun _ _ h => h, .nil, rfl⟩ ?_
  rintro i ρ σ' hi ⟨hn, ho, v0, rfl⟩
  refine T.seq_k (fun K_h2 h2 => ?_)
  refine T.seq_k (fun K_h3 h3 => ?_)
  refine T.regi hm ?_
  simp only [↓reduceIte, namesOf, List.any, I.names, aops, aopsI, aopsT, qstep, CPt, qget, Tbl.get, astep, ev, setd, List.set, List.getD, List.getElem?_cons_zero, List.getElem?_cons_succ, List.getElem?_nil, List.cons_append, List.nil_append, List.length_cons, List.length_nil, List.replicate, then_normal, inBlock_normal, Option.getD_some, Option.getD_none, Bool.or_false, Bool.or_true, Bool.true_or, Bool.false_or, Bool.false_eq_true, if_false, if_true, up_zero, Nat.reduceAdd, Nat.reduceSub, binv, ↓opt_def, AV.isAny, AV.cells, ldc, List.map_cons, List.map_nil, St.set_next, St.set_same, St.up_next, Int.natCast_nonneg, lt_len, le_len, Int.toNat_natCast, true_and, and_true, eq_self, reduceCtorEq, decide_true, List.length_singleton, er_int, er_bool, er_str, sps_len]
  refine h3 _ _ ?_
  try clear h3 K_h3
  refine T.cond rfl (fun hb => ?_) (fun hb => ?_)
  · refine T.skip ?_
    refine h2 _ _ ?_
    try clear h2 K_h2
    have hil : i < l.length := by simpa using hb
    clear hb
    have hw := inc64 hil (by omega)
    refine T.seq_k (fun K_h2 h2 => ?_)
    refine T.block ?_
    refine T.seq_k (fun K_h3 h3 => ?_)
    refine T.regi hm ?_
    simp only [↓reduceIte, namesOf, List.any, I.names, aops, aopsI, aopsT, qstep, CPt, qget, Tbl.get, astep, ev, setd, List.set, List.getD, List.getElem?_cons_zero, List.getElem?_cons_succ, List.getElem?_nil, List.cons_append, List.nil_append, List.length_cons, List.length_nil, List.replicate, then_normal, inBlock_normal, Option.getD_some, Option.getD_none, Bool.or_false, Bool.or_true, Bool.true_or, Bool.false_or, Bool.false_eq_true, if_false, if_true, up_zero, Nat.reduceAdd, Nat.reduceSub, binv, ↓opt_def, AV.isAny, AV.cells, ldc, List.map_cons, List.map_nil, St.set_next, St.set_same, St.up_next, Int.natCast_nonneg, lt_len, le_len, Int.toNat_natCast, true_and, and_true, eq_self, reduceCtorEq, decide_true, List.length_singleton, er_int, er_bool, er_str]
    refine (rcounts_ok (by omega) hil).mono ?_
    rintro v σ1 ⟨rfl, rfl⟩
    try simp only [↓reduceIte, namesOf, List.any, I.names, aops, aopsI, aopsT, qstep, CPt, qget, Tbl.get, astep, ev, setd, List.set, List.getD, List.getElem?_cons_zero, List.getElem?_cons_succ, List.getElem?_nil, List.cons_append, List.nil_append, List.length_cons, List.length_nil, List.replicate, then_normal, inBlock_normal, Option.getD_some, Option.getD_none, Bool.or_false, Bool.or_true, Bool.true_or, Bool.false_or, Bool.false_eq_true, if_false, if_true, up_zero, Nat.reduceAdd, Nat.reduceSub, binv, ↓opt_def, AV.isAny, AV.cells, ldc, List.map_cons, List.map_nil, St.set_next, St.set_same, St.up_next, Int.natCast_nonneg, lt_len, le_len, Int.toNat_natCast, true_and, and_true, eq_self, reduceCtorEq, decide_true, List.length_singleton, er_int, er_bool, er_str, up_zero]
    refine h3 _ _ ?_
    try clear h3 K_h3
    refine T.seq_k (fun K_h3 h3 => ?_)
    refine T.seq_k (fun K_h4 h4 => ?_)
    refine T.regi hm ?_
    simp only [↓reduceIte, namesOf, List.any, I.names, aops, aopsI, aopsT, qstep, CPt, qget, Tbl.get, astep, ev, setd, List.set, List.getD, List.getElem?_cons_zero, List.getElem?_cons_succ, List.getElem?_nil, List.cons_append, List.nil_append, List.length_cons, List.length_nil, List.replicate, then_normal, inBlock_normal, Option.getD_some, Option.getD_none, Bool.or_false, Bool.or_true, Bool.true_or, Bool.false_or, Bool.false_eq_true, if_false, if_true, up_zero, Nat.reduceAdd, Nat.reduceSub, binv, ↓opt_def, AV.isAny, AV.cells, ldc, List.map_cons, List.map_nil, St.set_next, St.set_same, St.up_next, Int.natCast_nonneg, lt_len, le_len, Int.toNat_natCast, true_and, and_true, eq_self, reduceCtorEq, decide_true, List.length_singleton, er_int, er_bool, er_str]
    refine h4 _ _ ?_
    try clear h4 K_h4
    generalize hx : l[i] = x
    have hxi : l[i]? = some x := by rw [← hx]; simp [hil]
    cases hc : countsB l i with
    | false =>
      refine T.cond rfl (fun _ => ?_) (fun h => by simp at h)
      refine T.exit ?_
      try simp only [↓reduceIte, namesOf, List.any, I.names, aops, aopsI, aopsT, qstep, CPt, qget, Tbl.get, astep, ev, setd, List.set, List.getD, List.getElem?_cons_zero, List.getElem?_cons_succ, List.getElem?_nil, List.cons_append, List.nil_append, List.length_cons, List.length_nil, List.replicate, then_normal, inBlock_normal, Option.getD_some, Option.getD_none, Bool.or_false, Bool.or_true, Bool.true_or, Bool.false_or, Bool.false_eq_true, if_false, if_true, up_zero, Nat.reduceAdd, Nat.reduceSub, binv, ↓opt_def, AV.isAny, AV.cells, ldc, List.map_cons, List.map_nil, St.set_next, St.set_same, St.up_next, Int.natCast_nonneg, lt_len, le_len, Int.toNat_natCast, true_and, and_true, eq_self, reduceCtorEq, decide_true, List.length_singleton, er_int, er_bool, er_str, then_exit, inBlock_exit]
      refine h2 _ _ ?_
      try clear h2 K_h2
      refine T.regi hm ?_
      simp only [↓reduceIte, namesOf, List.any, I.names, aops, aopsI, aopsT, qstep, CPt, qget, Tbl.get, astep, ev, setd, List.set, List.getD, List.getElem?_cons_zero, List.getElem?_cons_succ, List.getElem?_nil, List.cons_append, List.nil_append, List.length_cons, List.length_nil, List.replicate, then_normal, inBlock_normal, Option.getD_some, Option.getD_none, Bool.or_false, Bool.or_true, Bool.true_or, Bool.false_or, Bool.false_eq_true, if_false, if_true, up_zero, Nat.reduceAdd, Nat.reduceSub, binv, ↓opt_def, AV.isAny, AV.cells, ldc, List.map_cons, List.map_nil, St.set_next, St.set_same, St.up_next, Int.natCast_nonneg, lt_len, le_len, Int.toNat_natCast, true_and, and_true, eq_self, reduceCtorEq, decide_true, List.length_singleton, er_int, er_bool, er_str, hw]
      have hg := gatherN_no hil hc
      exact ⟨hil, _, _, Gh.keep [0, 3, 4], hn, ho, v0, by rw [hg]; rfl⟩
    | true =>
    refine T.cond rfl (fun h => by simp at h) (fun _ => T.skip ?_)
    have hg := gatherN_yes hxi hc
    have hol := gatherN_le l i
    generalize gatherN l i = out at hg hol ⊢
    refine h3 _ _ ?_
    try clear h3 K_h3
    refine T.seq_k (fun K_h3 h3 => ?_)
    refine T.regi hm ?_
    simp only [↓reduceIte, namesOf, List.any, I.names, aops, aopsI, aopsT, qstep, CPt, qget, Tbl.get, astep, ev, setd, List.set, List.getD, List.getElem?_cons_zero, List.getElem?_cons_succ, List.getElem?_nil, List.cons_append, List.nil_append, List.length_cons, List.length_nil, List.replicate, then_normal, inBlock_normal, Option.getD_some, Option.getD_none, Bool.or_false, Bool.or_true, Bool.true_or, Bool.false_or, Bool.false_eq_true, if_false, if_true, up_zero, Nat.reduceAdd, Nat.reduceSub, binv, ↓opt_def, AV.isAny, AV.cells, ldc, List.map_cons, List.map_nil, St.set_next, St.set_same, St.up_next, Int.natCast_nonneg, lt_len, le_len, Int.toNat_natCast, true_and, and_true, eq_self, reduceCtorEq, decide_true, List.length_singleton, er_int, er_bool, er_str]
    refine h3 _ _ ?_
    try clear h3 K_h3
    refine T.seq_k (fun K_h4 h4 => ?_)
    refine T.seq_k (fun K_h5 h5 => ?_)
    refine T.regi hm ?_
    simp only [↓reduceIte, namesOf, List.any, I.names, aops, aopsI, aopsT, qstep, CPt, qget, Tbl.get, astep, ev, setd, List.set, List.getD, List.getElem?_cons_zero, List.getElem?_cons_succ, List.getElem?_nil, List.cons_append, List.nil_append, List.length_cons, List.length_nil, List.replicate, then_normal, inBlock_normal, Option.getD_some, Option.getD_none, Bool.or_false, Bool.or_true, Bool.true_or, Bool.false_or, Bool.false_eq_true, if_false, if_true, up_zero, Nat.reduceAdd, Nat.reduceSub, binv, ↓opt_def, AV.isAny, AV.cells, ldc, List.map_cons, List.map_nil, St.set_next, St.set_same, St.up_next, Int.natCast_nonneg, lt_len, le_len, Int.toNat_natCast, true_and, and_true, eq_self, reduceCtorEq, decide_true, List.length_singleton, er_int, er_bool, er_str]
    refine h5 _ _ ?_
    try clear h5 K_h5
    refine T.block ?_
    refine T.gh (Gh.keep [0, 3, 4, 6, 7]) ?_
    refine T.loopi (fun k ρ s => s = σ1 ∧ ρ = [.sl (spsAV l) g, .any, .any, .sl (spsAV out) v0, .int .i64 (i : Int), .any, .int .i64 (lastAt out x k : Int), .int .i64 (k : Int)] ++ List.replicate 49 .any)
      out.length 0 (Nat.zero_le _) ⟨rfl, rfl⟩ ?_
    rintro k ρ s hk ⟨rfl, rfl⟩
    refine T.seq_k (fun K_h5 h5 => ?_)
    refine T.seq_k (fun K_h6 h6 => ?_)
    refine T.regi hm ?_
    simp only [↓reduceIte, namesOf, List.any, I.names, aops, aopsI, aopsT, qstep, CPt, qget, Tbl.get, astep, ev, setd, List.set, List.getD, List.getElem?_cons_zero, List.getElem?_cons_succ, List.getElem?_nil, List.cons_append, List.nil_append, List.length_cons, List.length_nil, List.replicate, then_normal, inBlock_normal, Option.getD_some, Option.getD_none, Bool.or_false, Bool.or_true, Bool.true_or, Bool.false_or, Bool.false_eq_true, if_false, if_true, up_zero, Nat.reduceAdd, Nat.reduceSub, binv, ↓opt_def, AV.isAny, AV.cells, ldc, List.map_cons, List.map_nil, St.set_next, St.set_same, St.up_next, Int.natCast_nonneg, lt_len, le_len, Int.toNat_natCast, true_and, and_true, eq_self, reduceCtorEq, decide_true, List.length_singleton, er_int, er_bool, er_str, sps_len]
    refine h6 _ _ ?_
    try clear h6 K_h6
    refine T.cond rfl (fun hb => ?_) (fun hb => ?_)
    · refine T.skip ?_
      refine h5 _ _ ?_
      try clear h5 K_h5
      have hkl : k < out.length := by simpa using hb
      clear hb
      generalize hy : out[k] = y
      have hyk : out[k]? = some y := by rw [← hy]; simp [hkl]
      have hge := gAhead_eq y x
      have hw2 := inc64 hkl (by omega)
      refine T.seq_k (fun K_h5 h5 => ?_)
      refine T.block ?_
      refine T.seq_k (fun K_h6 h6 => ?_)
      refine T.regt hm tG_ok ?_
      simp only [↓reduceIte, namesOf, List.any, I.names, aops, aopsI, aopsT, qstep, CPt, qget, Tbl.get, astep, ev, setd, List.set, List.getD, List.getElem?_cons_zero, List.getElem?_cons_succ, List.getElem?_nil, List.cons_append, List.nil_append, List.length_cons, List.length_nil, List.replicate, then_normal, inBlock_normal, Option.getD_some, Option.getD_none, Bool.or_false, Bool.or_true, Bool.true_or, Bool.false_or, Bool.false_eq_true, if_false, if_true, up_zero, Nat.reduceAdd, Nat.reduceSub, binv, ↓opt_def, AV.isAny, AV.cells, ldc, List.map_cons, List.map_nil, St.set_next, St.set_same, St.up_next, Int.natCast_nonneg, lt_len, le_len, Int.toNat_natCast, true_and, and_true, eq_self, reduceCtorEq, decide_true, List.length_singleton, er_int, er_bool, er_str, Nat.reduceEqDiff, tG, n_rless, n_rsame, n_rahead, sps_len, sps_get hkl, sps_get hil, hkl, hil, hx, hy, spav, AV.fits, AV.one, List.all_cons, List.all_nil, Nat.reduceBEq, Bool.and_true, Bool.not_false, Bool.and_self, Nat.zero_add, splice, List.take, List.drop, Nat.reduceLeDiff, hge]
      refine h6 _ _ ?_
      try clear h6 K_h6
      refine T.seq_k (fun K_h6 h6 => ?_)
      refine T.regi hm ?_
      simp only [↓reduceIte, namesOf, List.any, I.names, aops, aopsI, aopsT, qstep, CPt, qget, Tbl.get, astep, ev, setd, List.set, List.getD, List.getElem?_cons_zero, List.getElem?_cons_succ, List.getElem?_nil, List.cons_append, List.nil_append, List.length_cons, List.length_nil, List.replicate, then_normal, inBlock_normal, Option.getD_some, Option.getD_none, Bool.or_false, Bool.or_true, Bool.true_or, Bool.false_or, Bool.false_eq_true, if_false, if_true, up_zero, Nat.reduceAdd, Nat.reduceSub, binv, ↓opt_def, AV.isAny, AV.cells, ldc, List.map_cons, List.map_nil, St.set_next, St.set_same, St.up_next, Int.natCast_nonneg, lt_len, le_len, Int.toNat_natCast, true_and, and_true, eq_self, reduceCtorEq, decide_true, List.length_singleton, er_int, er_bool, er_str]
      refine h6 _ _ ?_
      try clear h6 K_h6
      cases ha : aheadS y x with
      | true =>
        refine T.cond rfl (fun _ => ?_) (fun h => by cases h)
        refine T.regi hm ?_
        simp only [↓reduceIte, namesOf, List.any, I.names, aops, aopsI, aopsT, qstep, CPt, qget, Tbl.get, astep, ev, setd, List.set, List.getD, List.getElem?_cons_zero, List.getElem?_cons_succ, List.getElem?_nil, List.cons_append, List.nil_append, List.length_cons, List.length_nil, List.replicate, then_normal, inBlock_normal, Option.getD_some, Option.getD_none, Bool.or_false, Bool.or_true, Bool.true_or, Bool.false_or, Bool.false_eq_true, if_false, if_true, up_zero, Nat.reduceAdd, Nat.reduceSub, binv, ↓opt_def, AV.isAny, AV.cells, ldc, List.map_cons, List.map_nil, St.set_next, St.set_same, St.up_next, Int.natCast_nonneg, lt_len, le_len, Int.toNat_natCast, true_and, and_true, eq_self, reduceCtorEq, decide_true, List.length_singleton, er_int, er_bool, er_str, hw2]
        refine h5 _ _ ?_
        try clear h5 K_h5
        refine T.regi hm ?_
        simp only [↓reduceIte, namesOf, List.any, I.names, aops, aopsI, aopsT, qstep, CPt, qget, Tbl.get, astep, ev, setd, List.set, List.getD, List.getElem?_cons_zero, List.getElem?_cons_succ, List.getElem?_nil, List.cons_append, List.nil_append, List.length_cons, List.length_nil, List.replicate, then_normal, inBlock_normal, Option.getD_some, Option.getD_none, Bool.or_false, Bool.or_true, Bool.true_or, Bool.false_or, Bool.false_eq_true, if_false, if_true, up_zero, Nat.reduceAdd, Nat.reduceSub, binv, ↓opt_def, AV.isAny, AV.cells, ldc, List.map_cons, List.map_nil, St.set_next, St.set_same, St.up_next, Int.natCast_nonneg, lt_len, le_len, Int.toNat_natCast, true_and, and_true, eq_self, reduceCtorEq, decide_true, List.length_singleton, er_int, er_bool, er_str, hw2]
        exact ⟨hkl, _, _, Gh.keep [0, 3, 4, 6, 7], rfl, by rw [lastAt_yes hyk ha]; rfl⟩
      | false =>
        refine T.cond rfl (fun h => by cases h) (fun _ => T.skip ?_)
        try simp only [↓reduceIte, namesOf, List.any, I.names, aops, aopsI, aopsT, qstep, CPt, qget, Tbl.get, astep, ev, setd, List.set, List.getD, List.getElem?_cons_zero, List.getElem?_cons_succ, List.getElem?_nil, List.cons_append, List.nil_append, List.length_cons, List.length_nil, List.replicate, then_normal, inBlock_normal, Option.getD_some, Option.getD_none, Bool.or_false, Bool.or_true, Bool.true_or, Bool.false_or, Bool.false_eq_true, if_false, if_true, up_zero, Nat.reduceAdd, Nat.reduceSub, binv, ↓opt_def, AV.isAny, AV.cells, ldc, List.map_cons, List.map_nil, St.set_next, St.set_same, St.up_next, Int.natCast_nonneg, lt_len, le_len, Int.toNat_natCast, true_and, and_true, eq_self, reduceCtorEq, decide_true, List.length_singleton, er_int, er_bool, er_str, inBlock_normal]
        refine h5 _ _ ?_
        try clear h5 K_h5
        refine T.regi hm ?_
        simp only [↓reduceIte, namesOf, List.any, I.names, aops, aopsI, aopsT, qstep, CPt, qget, Tbl.get, astep, ev, setd, List.set, List.getD, List.getElem?_cons_zero, List.getElem?_cons_succ, List.getElem?_nil, List.cons_append, List.nil_append, List.length_cons, List.length_nil, List.replicate, then_normal, inBlock_normal, Option.getD_some, Option.getD_none, Bool.or_false, Bool.or_true, Bool.true_or, Bool.false_or, Bool.false_eq_true, if_false, if_true, up_zero, Nat.reduceAdd, Nat.reduceSub, binv, ↓opt_def, AV.isAny, AV.cells, ldc, List.map_cons, List.map_nil, St.set_next, St.set_same, St.up_next, Int.natCast_nonneg, lt_len, le_len, Int.toNat_natCast, true_and, and_true, eq_self, reduceCtorEq, decide_true, List.length_singleton, er_int, er_bool, er_str, hw2]
        exact ⟨hkl, _, _, Gh.keep [0, 3, 4, 6, 7], rfl, by rw [lastAt_not hyk ha]; rfl⟩
    · refine T.exit ?_
      have : k = out.length := by simp at hb; omega
      subst this
      try simp only [↓reduceIte, namesOf, List.any, I.names, aops, aopsI, aopsT, qstep, CPt, qget, Tbl.get, astep, ev, setd, List.set, List.getD, List.getElem?_cons_zero, List.getElem?_cons_succ, List.getElem?_nil, List.cons_append, List.nil_append, List.length_cons, List.length_nil, List.replicate, then_normal, inBlock_normal, Option.getD_some, Option.getD_none, Bool.or_false, Bool.or_true, Bool.true_or, Bool.false_or, Bool.false_eq_true, if_false, if_true, up_zero, Nat.reduceAdd, Nat.reduceSub, binv, ↓opt_def, AV.isAny, AV.cells, ldc, List.map_cons, List.map_nil, St.set_next, St.set_same, St.up_next, Int.natCast_nonneg, lt_len, le_len, Int.toNat_natCast, true_and, and_true, eq_self, reduceCtorEq, decide_true, List.length_singleton, er_int, er_bool, er_str, inBlock_exit, then_exit]
      refine h4 _ _ ?_
      try clear h4 K_h4
      have hat := lastAt_le out x out.length
      have hins : insS out x = out.take (lastAt out x out.length) ++ [x] ++ out.drop (lastAt out x out.length) := rfl
      generalize lastAt out x out.length = at_ at hat hins ⊢
      have hat' : (at_ : Int) ≤ ((spsAV out).length : Int) := by rw [sps_len]; omega
      refine T.seq_k (fun K_h4 h4 => ?_)
      refine T.regi hm ?_
      simp only [↓reduceIte, namesOf, List.any, I.names, aops, aopsI, aopsT, qstep, CPt, qget, Tbl.get, astep, ev, setd, List.set, List.getD, List.getElem?_cons_zero, List.getElem?_cons_succ, List.getElem?_nil, List.cons_append, List.nil_append, List.length_cons, List.length_nil, List.replicate, then_normal, inBlock_normal, Option.getD_some, Option.getD_none, Bool.or_false, Bool.or_true, Bool.true_or, Bool.false_or, Bool.false_eq_true, if_false, if_true, up_zero, Nat.reduceAdd, Nat.reduceSub, binv, ↓opt_def, AV.isAny, AV.cells, ldc, List.map_cons, List.map_nil, St.set_next, St.set_same, St.up_next, Int.natCast_nonneg, lt_len, le_len, Int.toNat_natCast, true_and, and_true, eq_self, reduceCtorEq, decide_true, List.length_singleton, er_int, er_bool, er_str, idx, hat', sps_fits, Int.sub_zero, List.drop_zero, Int.toNat_zero, Int.le_refl, sps_take, held, srcOf, sps_er, List.all_nil, Bool.true_and, List.isEmpty]
      rw [if_pos (by simp only [sps_len, List.length_take, decide_eq_true_eq]; omega)]
      have t1 : Tp σ (((s.up 6).set (s.next + 0) (.tip 5)).del (s.next + 0) |>.set (s.next + 4) (.tip 5)) (s.next + 4) 5 := (Tp.new wf hn ho (k := 5) (n := 6) (i := 0) (by omega)).mv wf (by omega) (by simp)
      generalize (((s.up 6).set (s.next + 0) (.tip 5)).del (s.next + 0) |>.set (s.next + 4) (.tip 5)) = s1 at t1 ⊢
      generalize s.next + 4 = g1 at t1 ⊢
      refine h4 _ _ ?_
      try clear h4 K_h4
      refine T.seq_k (fun K_h4 h4 => ?_)
      refine T.regi hm ?_
      simp only [↓reduceIte, namesOf, List.any, I.names, aops, aopsI, aopsT, qstep, CPt, qget, Tbl.get, astep, ev, setd, List.set, List.getD, List.getElem?_cons_zero, List.getElem?_cons_succ, List.getElem?_nil, List.cons_append, List.nil_append, List.length_cons, List.length_nil, List.replicate, then_normal, inBlock_normal, Option.getD_some, Option.getD_none, Bool.or_false, Bool.or_true, Bool.true_or, Bool.false_or, Bool.false_eq_true, if_false, if_true, up_zero, Nat.reduceAdd, Nat.reduceSub, binv, ↓opt_def, AV.isAny, AV.cells, ldc, List.map_cons, List.map_nil, St.set_next, St.set_same, St.up_next, Int.natCast_nonneg, lt_len, le_len, Int.toNat_natCast, true_and, and_true, eq_self, reduceCtorEq, decide_true, List.length_singleton, er_int, er_bool, er_str, sps_len, sps_get hil, hil, hx, spav, AV.fits, AV.one, List.all_cons, List.all_nil, Nat.reduceBEq, Bool.and_true, Bool.not_false, Bool.and_self, Nat.zero_add, splice, List.take, List.drop, Nat.reduceLeDiff, held, srcOf, t1.at_, St.up_res, List.isEmpty, beq_self_eq_true, er_sp, sps_snoc, sps_fits, Bool.true_and]
      rw [if_pos (by simp only [List.length_take, decide_eq_true_eq]; omega)]
      have t2 : Tp σ (((s1.up 8).del g1).set (s1.next + 6) (.tip 5)) (s1.next + 6) 5 := (t1.up 8).mv wf (by have := t1.lo; have := t1.hi; omega) (by simp)
      generalize (((s1.up 8).del g1).set (s1.next + 6) (.tip 5)) = s2 at t2 ⊢
      generalize s1.next + 6 = g2 at t2 ⊢
      refine h4 _ _ ?_
      try clear h4 K_h4
      have hdt : (spsAV (out.drop at_)).take (((out.length : Int) - (at_ : Int)).toNat) = spsAV (out.drop at_) := by
        rw [List.take_of_length_le]
        rw [sps_len, List.length_drop]; omega
      have hat2 : (at_ : Int) ≤ (out.length : Int) := by omega
      refine T.regi hm ?_
      simp only [↓reduceIte, namesOf, List.any, I.names, aops, aopsI, aopsT, qstep, CPt, qget, Tbl.get, astep, ev, setd, List.set, List.getD, List.getElem?_cons_zero, List.getElem?_cons_succ, List.getElem?_nil, List.cons_append, List.nil_append, List.length_cons, List.length_nil, List.replicate, then_normal, inBlock_normal, Option.getD_some, Option.getD_none, Bool.or_false, Bool.or_true, Bool.true_or, Bool.false_or, Bool.false_eq_true, if_false, if_true, up_zero, Nat.reduceAdd, Nat.reduceSub, binv, ↓opt_def, AV.isAny, AV.cells, ldc, List.map_cons, List.map_nil, St.set_next, St.set_same, St.up_next, Int.natCast_nonneg, lt_len, le_len, Int.toNat_natCast, true_and, and_true, eq_self, reduceCtorEq, decide_true, List.length_singleton, er_int, er_bool, er_str, idx, hat', hat2, sps_len, sps_fits, Int.le_refl, sps_drop, hdt, held, srcOf, sps_er, t2.at_, St.up_res, Bool.true_and, List.isEmpty, sps_app]
      rw [if_pos (by simp only [sps_len, List.length_append, List.length_take, List.length_drop, List.length_singleton, decide_eq_true_eq]; omega)]
      have t3 : Tp σ (((s2.up 6).del g2).set (s2.next + 4) (.tip 5)) (s2.next + 4) 5 := (t2.up 6).mv wf (by have := t2.lo; have := t2.hi; omega) (by simp)
      refine h2 _ _ ?_
      try clear h2 K_h2
      refine T.regi hm ?_
      simp only [↓reduceIte, namesOf, List.any, I.names, aops, aopsI, aopsT, qstep, CPt, qget, Tbl.get, astep, ev, setd, List.set, List.getD, List.getElem?_cons_zero, List.getElem?_cons_succ, List.getElem?_nil, List.cons_append, List.nil_append, List.length_cons, List.length_nil, List.replicate, then_normal, inBlock_normal, Option.getD_some, Option.getD_none, Bool.or_false, Bool.or_true, Bool.true_or, Bool.false_or, Bool.false_eq_true, if_false, if_true, up_zero, Nat.reduceAdd, Nat.reduceSub, binv, ↓opt_def, AV.isAny, AV.cells, ldc, List.map_cons, List.map_nil, St.set_next, St.set_same, St.up_next, Int.natCast_nonneg, lt_len, le_len, Int.toNat_natCast, true_and, and_true, eq_self, reduceCtorEq, decide_true, List.length_singleton, er_int, er_bool, er_str, hw]
      refine ⟨hil, _, _, Gh.keep [0, 3, 4], Nat.le_trans t3.lo (Nat.le_of_lt t3.hi), t3.old, .tip (s2.next + 4), ?_⟩
      rw [hg, hins]
      rfl
  · refine T.exit ?_
    have : i = l.length := by simp at hb; omega
    subst this
    try simp only [↓reduceIte, namesOf, List.any, I.names, aops, aopsI, aopsT, qstep, CPt, qget, Tbl.get, astep, ev, setd, List.set, List.getD, List.getElem?_cons_zero, List.getElem?_cons_succ, List.getElem?_nil, List.cons_append, List.nil_append, List.length_cons, List.length_nil, List.replicate, then_normal, inBlock_normal, Option.getD_some, Option.getD_none, Bool.or_false, Bool.or_true, Bool.true_or, Bool.false_or, Bool.false_eq_true, if_false, if_true, up_zero, Nat.reduceAdd, Nat.reduceSub, binv, ↓opt_def, AV.isAny, AV.cells, ldc, List.map_cons, List.map_nil, St.set_next, St.set_same, St.up_next, Int.natCast_nonneg, lt_len, le_len, Int.toNat_natCast, true_and, and_true, eq_self, reduceCtorEq, decide_true, List.length_singleton, er_int, er_bool, er_str, inBlock_exit, then_exit]
    refine h1 _ _ ?_
    try clear h1 K_h1
    refine T.seq_k (fun K_h1 h1 => ?_)
    refine T.regi hm ?_
    simp only [↓reduceIte, namesOf, List.any, I.names, aops, aopsI, aopsT, qstep, CPt, qget, Tbl.get, astep, ev, setd, List.set, List.getD, List.getElem?_cons_zero, List.getElem?_cons_succ, List.getElem?_nil, List.cons_append, List.nil_append, List.length_cons, List.length_nil, List.replicate, then_normal, inBlock_normal, Option.getD_some, Option.getD_none, Bool.or_false, Bool.or_true, Bool.true_or, Bool.false_or, Bool.false_eq_true, if_false, if_true, up_zero, Nat.reduceAdd, Nat.reduceSub, binv, ↓opt_def, AV.isAny, AV.cells, ldc, List.map_cons, List.map_nil, St.set_next, St.set_same, St.up_next, Int.natCast_nonneg, lt_len, le_len, Int.toNat_natCast, true_and, and_true, eq_self, reduceCtorEq, decide_true, List.length_singleton, er_int, er_bool, er_str]
    refine h1 _ _ ?_
    try clear h1 K_h1
    exact T.ret (Fin.quietw rfl (Wk.sl _ _) ⟨nbs_sps _ _, trivial⟩ ho ⟨rfl, rfl⟩)

end Go.VL

namespace Go.VL

open Go.Proofs

/-- a reader (an owned thing nm), a row that grows, and names that nobody knows -/
structure Rk (σ t : St) (nm : Nat) (r : Res) (k : Nat) (v : Ver) : Prop where
  like : Like σ t
  lo : σ.next ≤ nm
  hi : nm < t.next
  at_ : t.res nm = some r
  ver : v = .nil ∨ ∃ g, v = .tip g ∧ g ≠ nm ∧ σ.next ≤ g ∧ g < t.next ∧ t.res g = some (.tip k)

theorem Rk.set {σ t : St} {nm k : Nat} {r : Res} {v : Ver} (h : Rk σ t nm r k v) (r' : Res) : Rk σ (t.set nm r') nm r' k v :=
  ⟨h.like.set _ h.lo, h.lo, h.hi, by simp, h.ver.imp id fun ⟨g, a1, a2, a3, a4, a5⟩ => ⟨g, a1, a2, a3, a4, by rw [St.set_other _ _ a2]; exact a5⟩⟩

theorem Rk.up {σ t : St} {nm k : Nat} {r : Res} {v : Ver} (h : Rk σ t nm r k v) (n : Nat) : Rk σ (t.up n) nm r k v :=
  ⟨h.like.up n, h.lo, Nat.lt_of_lt_of_le h.hi (Nat.le_add_right _ _), h.at_, h.ver.imp id fun ⟨g, a1, a2, a3, a4, a5⟩ => ⟨g, a1, a2, a3, Nat.lt_of_lt_of_le a4 (Nat.le_add_right _ _), a5⟩⟩

theorem Rk.new {σ t : St} {nm k : Nat} {r : Res} {v : Ver} (h : Rk σ t nm r k v) {a : Nat} (r' : Res) (ha : σ.next ≤ a) (hn : a ≠ nm) (hv : ∀ g, v = .tip g → a ≠ g) : Rk σ (t.set a r') nm r k v :=
  ⟨h.like.set _ ha, h.lo, h.hi, by rw [St.set_other _ _ (Ne.symm hn)]; exact h.at_, h.ver.imp id fun ⟨g, a1, a2, a3, a4, a5⟩ => ⟨g, a1, a2, a3, a4, by rw [St.set_other _ _ (Ne.symm (hv g a1))]; exact a5⟩⟩

theorem Rk.lt {σ t : St} {nm k : Nat} {r : Res} {v : Ver} (h : Rk σ t nm r k v) {g : Nat} (hv : v = .tip g) : g < t.next := by
  rcases h.ver with e | ⟨g', e, _, _, h4, _⟩
  · rw [hv] at e; cases e
  · rw [hv] at e; cases e; exact h4

end Go.VL

namespace Go.VL

open Go.Proofs

open Classical in
noncomputable def gGather (args : List AV) : Option AV := if h : ∃ l : List Sp, args = [.sl (spsAV l) .none] ∧ l.length ≤ 1000000 then some (.sl (spsAV (gatherL h.choose)) .none) else none

theorem gGather_eq {l : List Sp} (hl : l.length ≤ 1000000) : gGather [.sl (spsAV l) .none] = some (.sl (spsAV (gatherL l)) .none) := by
  unfold gGather
  have hex : ∃ l' : List Sp, [AV.sl (spsAV l) .none] = [.sl (spsAV l') .none] ∧ l'.length ≤ 1000000 := ⟨l, rfl, hl⟩
  rw [dif_pos hex]
  have key : ∀ c : List Sp, [AV.sl (spsAV l) .none] = [.sl (spsAV c) .none] → c = l := fun c h => by
    simp only [List.cons.injEq, and_true, AV.sl.injEq] at h
    exact (spsAV_inj h).symm
  rw [key _ hex.choose_spec.1]

theorem gather_pure : PureC Try.prog n_rgather gGather := by
  intro args σ v hv
  unfold gGather at hv
  split at hv
  · rename_i hex
    simp only [Option.some.injEq] at hv; subst hv
    have hc := hex.choose_spec
    generalize hex.choose = c at hc
    obtain ⟨rfl, hl⟩ := hc
    exact rgather_ok hl
  · cases hv

open Classical in
noncomputable def gSpans (args : List AV) : Option AV := if h : ∃ p : List Sp × List Sp, args = [.sl (spsAV p.1) .none, .sl (spsAV p.2) .none] ∧ p.1.length ≤ 1000000 then some (.bool (decide (h.choose.1 = h.choose.2))) else none

theorem gSpans_eq {a b : List Sp} (hl : a.length ≤ 1000000) : gSpans [.sl (spsAV a) .none, .sl (spsAV b) .none] = some (.bool (decide (a = b))) := by
  unfold gSpans
  have hex : ∃ p : List Sp × List Sp, [AV.sl (spsAV a) .none, .sl (spsAV b) .none] = [.sl (spsAV p.1) .none, .sl (spsAV p.2) .none] ∧ p.1.length ≤ 1000000 := ⟨(a, b), rfl, hl⟩
  rw [dif_pos hex]
  have key : ∀ p : List Sp × List Sp, [AV.sl (spsAV a) .none, .sl (spsAV b) .none] = [.sl (spsAV p.1) .none, .sl (spsAV p.2) .none] → p = (a, b) := fun p h => by
    simp only [List.cons.injEq, and_true, AV.sl.injEq] at h
    obtain ⟨p1, p2⟩ := p
    simp only at h
    rw [spsAV_inj h.1, spsAV_inj h.2]
  rw [key _ hex.choose_spec.1]

theorem spans_pure : PureC Try.prog n_rspans gSpans := by
  intro args σ v hv
  unfold gSpans at hv
  split at hv
  · rename_i hex
    simp only [Option.some.injEq] at hv; subst hv
    have hc := hex.choose_spec
    generalize hex.choose = c at hc
    obtain ⟨rfl, hl⟩ := hc
    exact rspans_ok (by omega)
  · cases hv

noncomputable def tI : Tbl := [(n_rgather, gGather), (n_rspans, gSpans)]

theorem tI_ok : tI.ok Try.prog := Tbl.ok_cons gather_pure (Tbl.ok_cons spans_pure Tbl.ok_nil)

def risAt (l : List Tc) (i : Nat) : Bool := match l[i]? with
  | some t => decide (1 ≤ t.sp.length) && decide (t.sp.length ≤ 100) && (i == 0 || (match l[i - 1]? with | some p => decide (p.id < t.id) | none => false)) &&
      t.sp.all (fun s => mayS s && decide (s.tr = t.id)) && decide (gatherL t.sp = t.sp)
  | none => false

def risB (l : List Tc) : Bool := (List.range l.length).all (risAt l)

theorem ris_false {l : List Tc} {i : Nat} (hi : i < l.length) (h : risAt l i = false) : risB l = false := by
  unfold risB
  rw [Bool.eq_false_iff]
  intro hh
  have := List.all_eq_true.1 hh i (by simpa using hi)
  rw [h] at this; cases this

set_option maxRecDepth 10000 in
set_option maxHeartbeats 4000000 in
theorem ris_ok {l : List Tc} {g : Ver} {σ : St} (hl : l.length ≤ 9223372036854775807) (hs : ∀ t ∈ l, t.sp.length ≤ 9223372036854775807) : ACalls Try.prog n_ris [.sl (tcsAV l) g] σ (fun v σ' => v = .bool (risB l) ∧ σ' = σ) := by
  refine s_ris (fun wf => ?_)
  unfold c_ris
  refine T.seq_k (fun K_h1 h1 => ?_)
  refine T.regi hm ?_
  simp only [↓reduceIte, namesOf, List.any, I.names, aops, aopsI, aopsT, qstep, CPt, qget, Tbl.get, astep, ev, setd, List.set, List.getD, List.getElem?_cons_zero, List.getElem?_cons_succ, List.getElem?_nil, List.cons_append, List.nil_append, List.length_cons, List.length_nil, List.replicate, then_normal, inBlock_normal, Option.getD_some, Option.getD_none, Bool.or_false, Bool.or_true, Bool.true_or, Bool.false_or, Bool.false_eq_true, if_false, if_true, up_zero, Nat.reduceAdd, Nat.reduceSub, binv, ↓opt_def, AV.isAny, AV.cells, ldc, List.map_cons, List.map_nil, St.set_next, St.set_same, St.up_next, Int.natCast_nonneg, lt_len, le_len, Int.toNat_natCast, true_and, and_true, eq_self, reduceCtorEq, decide_true, List.length_singleton, er_int, er_bool, er_str]
  refine h1 _ _ ?_
  try clear h1 K_h1
  refine T.seq_k (fun K_h1 h1 => ?_)
  refine T.seq_k (fun K_h2 h2 => ?_)
  refine T.regi hm ?_
  simp only [↓reduceIte, namesOf, List.any, I.names, aops, aopsI, aopsT, qstep, CPt, qget, Tbl.get, astep, ev, setd, List.set, List.getD, List.getElem?_cons_zero, List.getElem?_cons_succ, List.getElem?_nil, List.cons_append, List.nil_append, List.length_cons, List.length_nil, List.replicate, then_normal, inBlock_normal, Option.getD_some, Option.getD_none, Bool.or_false, Bool.or_true, Bool.true_or, Bool.false_or, Bool.false_eq_true, if_false, if_true, up_zero, Nat.reduceAdd, Nat.reduceSub, binv, ↓opt_def, AV.isAny, AV.cells, ldc, List.map_cons, List.map_nil, St.set_next, St.set_same, St.up_next, Int.natCast_nonneg, lt_len, le_len, Int.toNat_natCast, true_and, and_true, eq_self, reduceCtorEq, decide_true, List.length_singleton, er_int, er_bool, er_str]
  refine h2 _ _ ?_
  try clear h2 K_h2
  refine T.block ?_
  refine T.gh (Gh.keep [0, 3]) ?_
  refine T.loopi (fun i ρ σ' => σ.next ≤ σ'.next ∧ (∀ n x, σ.res n = some x → σ'.res n = some x) ∧ (List.range i).all (risAt l) = true ∧ ρ = [.sl (tcsAV l) g, .any, .any, .int .i64 (i : Int)] ++ List.replicate 73 .any)
    l.length 0 (Nat.zero_le _) ⟨Nat.le_refl _, fun _ _ h => h, rfl, rfl⟩ ?_
  rintro i ρ σ' hi ⟨hn, ho, hpre, rfl⟩
  refine T.seq_k (fun K_h2 h2 => ?_)
  refine T.seq_k (fun K_h3 h3 => ?_)
  refine T.regi hm ?_
  simp only [↓reduceIte, namesOf, List.any, I.names, aops, aopsI, aopsT, qstep, CPt, qget, Tbl.get, astep, ev, setd, List.set, List.getD, List.getElem?_cons_zero, List.getElem?_cons_succ, List.getElem?_nil, List.cons_append, List.nil_append, List.length_cons, List.length_nil, List.replicate, then_normal, inBlock_normal, Option.getD_some, Option.getD_none, Bool.or_false, Bool.or_true, Bool.true_or, Bool.false_or, Bool.false_eq_true, if_false, if_true, up_zero, Nat.reduceAdd, Nat.reduceSub, binv, ↓opt_def, AV.isAny, AV.cells, ldc, List.map_cons, List.map_nil, St.set_next, St.set_same, St.up_next, Int.natCast_nonneg, lt_len, le_len, Int.toNat_natCast, true_and, and_true, eq_self, reduceCtorEq, decide_true, List.length_singleton, er_int, er_bool, er_str, tcs_len]
  refine h3 _ _ ?_
  try clear h3 K_h3
  refine T.cond rfl (fun hb => ?_) (fun hb => ?_)
  · refine T.skip ?_
    refine h2 _ _ ?_
    try clear h2 K_h2
    have hil : i < l.length := by simpa using hb
    clear hb
    have hw := inc64 hil hl
    generalize ht : l[i] = t
    have hti : l[i]? = some t := by rw [← ht]; simp [hil]
    have htl : t.sp.length ≤ 9223372036854775807 := by rw [← ht]; exact hs _ (List.getElem_mem hil)
    refine T.seq_k (fun K_h2 h2 => ?_)
    refine T.block ?_
    refine T.seq_k (fun K_h3 h3 => ?_)
    refine T.regi hm ?_
    simp only [↓reduceIte, namesOf, List.any, I.names, aops, aopsI, aopsT, qstep, CPt, qget, Tbl.get, astep, ev, setd, List.set, List.getD, List.getElem?_cons_zero, List.getElem?_cons_succ, List.getElem?_nil, List.cons_append, List.nil_append, List.length_cons, List.length_nil, List.replicate, then_normal, inBlock_normal, Option.getD_some, Option.getD_none, Bool.or_false, Bool.or_true, Bool.true_or, Bool.false_or, Bool.false_eq_true, if_false, if_true, up_zero, Nat.reduceAdd, Nat.reduceSub, binv, ↓opt_def, AV.isAny, AV.cells, ldc, List.map_cons, List.map_nil, St.set_next, St.set_same, St.up_next, Int.natCast_nonneg, lt_len, le_len, Int.toNat_natCast, true_and, and_true, eq_self, reduceCtorEq, decide_true, List.length_singleton, er_int, er_bool, er_str, tcs_len, tcs_get hil, hil, ht, tcav', AV.fits, AV.one, List.all_cons, List.all_nil, Nat.reduceBEq, Bool.and_true, Bool.not_false, Bool.and_self, Nat.zero_add, splice, List.take, List.drop, Nat.reduceLeDiff, St.set_set]
    have ho2 := set_quiet wf hn ho (k := 6) (.obj [.int .u64 (t.id : Int), .sl (spsAV t.sp) .none]) (a := σ'.next + 4) (by omega)
    have hb5 : ((σ'.up 6).set (σ'.next + 4) (.obj [.int .u64 (t.id : Int), .sl (spsAV t.sp) .none])).res (σ'.next + 4) = some (.obj [.int .u64 (t.id : Int), .sl (spsAV t.sp) .none]) := by simp
    have hn2 : σ.next ≤ ((σ'.up 6).set (σ'.next + 4) (.obj [.int .u64 (t.id : Int), .sl (spsAV t.sp) .none])).next := by simp; omega
    generalize ((σ'.up 6).set (σ'.next + 4) (.obj [.int .u64 (t.id : Int), .sl (spsAV t.sp) .none])) = σ2 at ho2 hb5 hn2 ⊢
    generalize σ'.next + 4 = b at hb5 ⊢
    refine h3 _ _ ?_
    try clear h3 K_h3
    have fin : risAt l i = false → ∀ ρ' : List AV, ρ'.getD 2 .any = .bool false → Fin σ [.t 2] (fun v σ' => v = .bool (risB l) ∧ σ' = σ) .ret ρ' σ2 := by
      intro hf ρ' hρ
      refine Fin.quiet (xs := [ρ'.getD 2 .any]) rfl (by rw [hρ]; trivial) ho2 ⟨?_, rfl⟩
      rw [ris_false hil hf, hρ]; rfl
    refine T.seq_k (fun K_h3 h3 => ?_)
    refine T.seq_k (fun K_h4 h4 => ?_)
    by_cases c1 : 1 ≤ t.sp.length
    case neg =>
      have e1 : decide ((t.sp.length : Int) < 1) = true := decide_eq_true (by omega)
      refine T.regi hm ?_
      simp only [↓reduceIte, namesOf, List.any, I.names, aops, aopsI, aopsT, qstep, CPt, qget, Tbl.get, astep, ev, setd, List.set, List.getD, List.getElem?_cons_zero, List.getElem?_cons_succ, List.getElem?_nil, List.cons_append, List.nil_append, List.length_cons, List.length_nil, List.replicate, then_normal, inBlock_normal, Option.getD_some, Option.getD_none, Bool.or_false, Bool.or_true, Bool.true_or, Bool.false_or, Bool.false_eq_true, if_false, if_true, up_zero, Nat.reduceAdd, Nat.reduceSub, binv, ↓opt_def, AV.isAny, AV.cells, ldc, List.map_cons, List.map_nil, St.set_next, St.set_same, St.up_next, Int.natCast_nonneg, lt_len, le_len, Int.toNat_natCast, true_and, and_true, eq_self, reduceCtorEq, decide_true, List.length_singleton, er_int, er_bool, er_str, hb5, sps_len, e1, reduceCtorEq]
      refine h4 _ _ ?_
      try clear h4 K_h4
      refine T.cond rfl (fun _ => ?_) (fun h => by cases h)
      refine T.seq_k (fun K_h4 h4 => ?_)
      refine T.regi hm ?_
      simp only [↓reduceIte, namesOf, List.any, I.names, aops, aopsI, aopsT, qstep, CPt, qget, Tbl.get, astep, ev, setd, List.set, List.getD, List.getElem?_cons_zero, List.getElem?_cons_succ, List.getElem?_nil, List.cons_append, List.nil_append, List.length_cons, List.length_nil, List.replicate, then_normal, inBlock_normal, Option.getD_some, Option.getD_none, Bool.or_false, Bool.or_true, Bool.true_or, Bool.false_or, Bool.false_eq_true, if_false, if_true, up_zero, Nat.reduceAdd, Nat.reduceSub, binv, ↓opt_def, AV.isAny, AV.cells, ldc, List.map_cons, List.map_nil, St.set_next, St.set_same, St.up_next, Int.natCast_nonneg, lt_len, le_len, Int.toNat_natCast, true_and, and_true, eq_self, reduceCtorEq, decide_true, List.length_singleton, er_int, er_bool, er_str]
      refine h4 _ _ ?_
      try clear h4 K_h4
      exact T.ret (fin (by unfold risAt; simp only [hti, decide_eq_false c1, Bool.false_and]) _ rfl)
    have e1 : decide ((t.sp.length : Int) < 1) = false := decide_eq_false (by omega)
    by_cases c2 : t.sp.length ≤ 100
    case neg =>
      have e2 : decide ((t.sp.length : Int) > 100) = true := decide_eq_true (by omega)
      refine T.regi hm ?_
      simp only [↓reduceIte, namesOf, List.any, I.names, aops, aopsI, aopsT, qstep, CPt, qget, Tbl.get, astep, ev, setd, List.set, List.getD, List.getElem?_cons_zero, List.getElem?_cons_succ, List.getElem?_nil, List.cons_append, List.nil_append, List.length_cons, List.length_nil, List.replicate, then_normal, inBlock_normal, Option.getD_some, Option.getD_none, Bool.or_false, Bool.or_true, Bool.true_or, Bool.false_or, Bool.false_eq_true, if_false, if_true, up_zero, Nat.reduceAdd, Nat.reduceSub, binv, ↓opt_def, AV.isAny, AV.cells, ldc, List.map_cons, List.map_nil, St.set_next, St.set_same, St.up_next, Int.natCast_nonneg, lt_len, le_len, Int.toNat_natCast, true_and, and_true, eq_self, reduceCtorEq, decide_true, List.length_singleton, er_int, er_bool, er_str, hb5, sps_len, e1, e2, reduceCtorEq]
      refine h4 _ _ ?_
      try clear h4 K_h4
      refine T.cond rfl (fun _ => ?_) (fun h => by cases h)
      refine T.seq_k (fun K_h4 h4 => ?_)
      refine T.regi hm ?_
      simp only [↓reduceIte, namesOf, List.any, I.names, aops, aopsI, aopsT, qstep, CPt, qget, Tbl.get, astep, ev, setd, List.set, List.getD, List.getElem?_cons_zero, List.getElem?_cons_succ, List.getElem?_nil, List.cons_append, List.nil_append, List.length_cons, List.length_nil, List.replicate, then_normal, inBlock_normal, Option.getD_some, Option.getD_none, Bool.or_false, Bool.or_true, Bool.true_or, Bool.false_or, Bool.false_eq_true, if_false, if_true, up_zero, Nat.reduceAdd, Nat.reduceSub, binv, ↓opt_def, AV.isAny, AV.cells, ldc, List.map_cons, List.map_nil, St.set_next, St.set_same, St.up_next, Int.natCast_nonneg, lt_len, le_len, Int.toNat_natCast, true_and, and_true, eq_self, reduceCtorEq, decide_true, List.length_singleton, er_int, er_bool, er_str]
      refine h4 _ _ ?_
      try clear h4 K_h4
      exact T.ret (fin (by unfold risAt; simp only [hti, decide_eq_false c2, Bool.false_and, Bool.and_false]) _ rfl)
    have e2 : decide ((t.sp.length : Int) > 100) = false := decide_eq_false (by omega)
    -- the rest, once the numbers rise
    have rest : (i == 0 || (match l[i - 1]? with | some p => decide (p.id < t.id) | none => false)) = true → ∀ ρ', keep [0, 3, 4] 0 ρ' = [.sl (tcsAV l) g, .any, .any, .int .i64 (i : Int), .ptr b 0] ++ List.replicate 72 .any → ρ'.getD 42 .any = .bool false → K_h4 ρ' σ2 := by
      intro c3 ρ' hρ h42
      refine h4 _ _ ?_
      try clear h4 K_h4
      refine T.cond (b := false) (by simpa [ev] using h42) (fun h => by cases h) (fun _ => T.skip ?_)
      refine h3 _ _ ?_
      try clear h3 K_h3
      refine T.gh (Gh.keep [0, 3, 4]) ?_
      rw [hρ]
      clear hρ h42 ρ'
      refine T.seq_k (fun K_h3 h3 => ?_)
      refine T.seq_k (fun K_h5 h5 => ?_)
      refine T.regi hm ?_
      simp only [↓reduceIte, namesOf, List.any, I.names, aops, aopsI, aopsT, qstep, CPt, qget, Tbl.get, astep, ev, setd, List.set, List.getD, List.getElem?_cons_zero, List.getElem?_cons_succ, List.getElem?_nil, List.cons_append, List.nil_append, List.length_cons, List.length_nil, List.replicate, then_normal, inBlock_normal, Option.getD_some, Option.getD_none, Bool.or_false, Bool.or_true, Bool.true_or, Bool.false_or, Bool.false_eq_true, if_false, if_true, up_zero, Nat.reduceAdd, Nat.reduceSub, binv, ↓opt_def, AV.isAny, AV.cells, ldc, List.map_cons, List.map_nil, St.set_next, St.set_same, St.up_next, Int.natCast_nonneg, lt_len, le_len, Int.toNat_natCast, true_and, and_true, eq_self, reduceCtorEq, decide_true, List.length_singleton, er_int, er_bool, er_str]
      refine h5 _ _ ?_
      try clear h5 K_h5
      refine T.block ?_
      refine T.gh (Gh.keep [0, 3, 4, 5]) ?_
      refine T.loopi (fun k ρ s => s = σ2 ∧ (t.sp.take k).all (fun s => mayS s && decide (s.tr = t.id)) = true ∧ ρ = [.sl (tcsAV l) g, .any, .any, .int .i64 (i : Int), .ptr b 0, .int .i64 (k : Int)] ++ List.replicate 71 .any)
        t.sp.length 0 (Nat.zero_le _) ⟨rfl, by simp, rfl⟩ ?_
      rintro k ρ s hk ⟨rfl, hpre2, rfl⟩
      refine T.seq_k (fun K_h5 h5 => ?_)
      refine T.seq_k (fun K_h6 h6 => ?_)
      refine T.regi hm ?_
      simp only [↓reduceIte, namesOf, List.any, I.names, aops, aopsI, aopsT, qstep, CPt, qget, Tbl.get, astep, ev, setd, List.set, List.getD, List.getElem?_cons_zero, List.getElem?_cons_succ, List.getElem?_nil, List.cons_append, List.nil_append, List.length_cons, List.length_nil, List.replicate, then_normal, inBlock_normal, Option.getD_some, Option.getD_none, Bool.or_false, Bool.or_true, Bool.true_or, Bool.false_or, Bool.false_eq_true, if_false, if_true, up_zero, Nat.reduceAdd, Nat.reduceSub, binv, ↓opt_def, AV.isAny, AV.cells, ldc, List.map_cons, List.map_nil, St.set_next, St.set_same, St.up_next, Int.natCast_nonneg, lt_len, le_len, Int.toNat_natCast, true_and, and_true, eq_self, reduceCtorEq, decide_true, List.length_singleton, er_int, er_bool, er_str, hb5, sps_len]
      refine h6 _ _ ?_
      try clear h6 K_h6
      refine T.cond rfl (fun hb => ?_) (fun hb => ?_)
      · refine T.skip ?_
        refine h5 _ _ ?_
        try clear h5 K_h5
        have hkl : k < t.sp.length := by simpa using hb
        clear hb
        generalize hx : t.sp[k] = x
        have hw2 := inc64 hkl htl
        have badx : (mayS x && decide (x.tr = t.id)) = false → risAt l i = false := by
          intro h
          unfold risAt
          simp only [hti, all_ff (p := fun s : Sp => mayS s && decide (s.tr = t.id)) hkl (by rw [hx]; exact h), Bool.and_false, Bool.false_and]
        refine T.seq_k (fun K_h5 h5 => ?_)
        refine T.block ?_
        refine T.seq_k (fun K_h6 h6 => ?_)
        refine T.regi hm ?_
        simp only [↓reduceIte, namesOf, List.any, I.names, aops, aopsI, aopsT, qstep, CPt, qget, Tbl.get, astep, ev, setd, List.set, List.getD, List.getElem?_cons_zero, List.getElem?_cons_succ, List.getElem?_nil, List.cons_append, List.nil_append, List.length_cons, List.length_nil, List.replicate, then_normal, inBlock_normal, Option.getD_some, Option.getD_none, Bool.or_false, Bool.or_true, Bool.true_or, Bool.false_or, Bool.false_eq_true, if_false, if_true, up_zero, Nat.reduceAdd, Nat.reduceSub, binv, ↓opt_def, AV.isAny, AV.cells, ldc, List.map_cons, List.map_nil, St.set_next, St.set_same, St.up_next, Int.natCast_nonneg, lt_len, le_len, Int.toNat_natCast, true_and, and_true, eq_self, reduceCtorEq, decide_true, List.length_singleton, er_int, er_bool, er_str, hb5, sps_len, sps_get hkl, hkl, hx, spav, AV.fits, AV.one, List.all_cons, List.all_nil, Nat.reduceBEq, Bool.and_true, Bool.not_false, Bool.and_self, Nat.zero_add, splice, List.take, List.drop, Nat.reduceLeDiff]
        refine rmay_ok.mono ?_
        rintro v s2 ⟨rfl, rfl⟩
        try simp only [↓reduceIte, namesOf, List.any, I.names, aops, aopsI, aopsT, qstep, CPt, qget, Tbl.get, astep, ev, setd, List.set, List.getD, List.getElem?_cons_zero, List.getElem?_cons_succ, List.getElem?_nil, List.cons_append, List.nil_append, List.length_cons, List.length_nil, List.replicate, then_normal, inBlock_normal, Option.getD_some, Option.getD_none, Bool.or_false, Bool.or_true, Bool.true_or, Bool.false_or, Bool.false_eq_true, if_false, if_true, up_zero, Nat.reduceAdd, Nat.reduceSub, binv, ↓opt_def, AV.isAny, AV.cells, ldc, List.map_cons, List.map_nil, St.set_next, St.set_same, St.up_next, Int.natCast_nonneg, lt_len, le_len, Int.toNat_natCast, true_and, and_true, eq_self, reduceCtorEq, decide_true, List.length_singleton, er_int, er_bool, er_str, up_zero]
        refine h6 _ _ ?_
        try clear h6 K_h6
        refine T.seq_k (fun K_h6 h6 => ?_)
        cases cm : mayS x with
        | false =>
          have em : mayI x.st x.en (bytesAV x.da).length = false := by rw [bytesAV_len]; exact cm
          rw [em]
          refine T.regi hm ?_
          simp only [↓reduceIte, namesOf, List.any, I.names, aops, aopsI, aopsT, qstep, CPt, qget, Tbl.get, astep, ev, setd, List.set, List.getD, List.getElem?_cons_zero, List.getElem?_cons_succ, List.getElem?_nil, List.cons_append, List.nil_append, List.length_cons, List.length_nil, List.replicate, then_normal, inBlock_normal, Option.getD_some, Option.getD_none, Bool.or_false, Bool.or_true, Bool.true_or, Bool.false_or, Bool.false_eq_true, if_false, if_true, up_zero, Nat.reduceAdd, Nat.reduceSub, binv, ↓opt_def, AV.isAny, AV.cells, ldc, List.map_cons, List.map_nil, St.set_next, St.set_same, St.up_next, Int.natCast_nonneg, lt_len, le_len, Int.toNat_natCast, true_and, and_true, eq_self, reduceCtorEq, decide_true, List.length_singleton, er_int, er_bool, er_str, reduceCtorEq, Bool.not_false]
          refine h6 _ _ ?_
          try clear h6 K_h6
          refine T.cond rfl (fun _ => ?_) (fun h => by cases h)
          refine T.seq_k (fun K_h6 h6 => ?_)
          refine T.regi hm ?_
          simp only [↓reduceIte, namesOf, List.any, I.names, aops, aopsI, aopsT, qstep, CPt, qget, Tbl.get, astep, ev, setd, List.set, List.getD, List.getElem?_cons_zero, List.getElem?_cons_succ, List.getElem?_nil, List.cons_append, List.nil_append, List.length_cons, List.length_nil, List.replicate, then_normal, inBlock_normal, Option.getD_some, Option.getD_none, Bool.or_false, Bool.or_true, Bool.true_or, Bool.false_or, Bool.false_eq_true, if_false, if_true, up_zero, Nat.reduceAdd, Nat.reduceSub, binv, ↓opt_def, AV.isAny, AV.cells, ldc, List.map_cons, List.map_nil, St.set_next, St.set_same, St.up_next, Int.natCast_nonneg, lt_len, le_len, Int.toNat_natCast, true_and, and_true, eq_self, reduceCtorEq, decide_true, List.length_singleton, er_int, er_bool, er_str]
          refine h6 _ _ ?_
          try clear h6 K_h6
          exact T.ret (fin (badx (by rw [cm]; rfl)) _ rfl)
        | true =>
        have em : mayI x.st x.en (bytesAV x.da).length = true := by rw [bytesAV_len]; exact cm
        rw [em]
        by_cases ct : x.tr = t.id
        · have e3 : ((x.tr : Int) != (t.id : Int)) = false := by simp; omega
          refine T.regi hm ?_
          simp only [↓reduceIte, namesOf, List.any, I.names, aops, aopsI, aopsT, qstep, CPt, qget, Tbl.get, astep, ev, setd, List.set, List.getD, List.getElem?_cons_zero, List.getElem?_cons_succ, List.getElem?_nil, List.cons_append, List.nil_append, List.length_cons, List.length_nil, List.replicate, then_normal, inBlock_normal, Option.getD_some, Option.getD_none, Bool.or_false, Bool.or_true, Bool.true_or, Bool.false_or, Bool.false_eq_true, if_false, if_true, up_zero, Nat.reduceAdd, Nat.reduceSub, binv, ↓opt_def, AV.isAny, AV.cells, ldc, List.map_cons, List.map_nil, St.set_next, St.set_same, St.up_next, Int.natCast_nonneg, lt_len, le_len, Int.toNat_natCast, true_and, and_true, eq_self, reduceCtorEq, decide_true, List.length_singleton, er_int, er_bool, er_str, reduceCtorEq, Bool.not_true, hb5, sps_len, sps_get hkl, hkl, hx, spav, AV.fits, AV.one, List.all_cons, List.all_nil, Nat.reduceBEq, Bool.and_true, Bool.not_false, Bool.and_self, Nat.zero_add, splice, List.take, List.drop, Nat.reduceLeDiff, e3]
          refine h6 _ _ ?_
          try clear h6 K_h6
          refine T.cond rfl (fun h => by cases h) (fun _ => T.skip ?_)
          try simp only [↓reduceIte, namesOf, List.any, I.names, aops, aopsI, aopsT, qstep, CPt, qget, Tbl.get, astep, ev, setd, List.set, List.getD, List.getElem?_cons_zero, List.getElem?_cons_succ, List.getElem?_nil, List.cons_append, List.nil_append, List.length_cons, List.length_nil, List.replicate, then_normal, inBlock_normal, Option.getD_some, Option.getD_none, Bool.or_false, Bool.or_true, Bool.true_or, Bool.false_or, Bool.false_eq_true, if_false, if_true, up_zero, Nat.reduceAdd, Nat.reduceSub, binv, ↓opt_def, AV.isAny, AV.cells, ldc, List.map_cons, List.map_nil, St.set_next, St.set_same, St.up_next, Int.natCast_nonneg, lt_len, le_len, Int.toNat_natCast, true_and, and_true, eq_self, reduceCtorEq, decide_true, List.length_singleton, er_int, er_bool, er_str, inBlock_normal]
          refine h5 _ _ ?_
          try clear h5 K_h5
          refine T.regi hm ?_
          simp only [↓reduceIte, namesOf, List.any, I.names, aops, aopsI, aopsT, qstep, CPt, qget, Tbl.get, astep, ev, setd, List.set, List.getD, List.getElem?_cons_zero, List.getElem?_cons_succ, List.getElem?_nil, List.cons_append, List.nil_append, List.length_cons, List.length_nil, List.replicate, then_normal, inBlock_normal, Option.getD_some, Option.getD_none, Bool.or_false, Bool.or_true, Bool.true_or, Bool.false_or, Bool.false_eq_true, if_false, if_true, up_zero, Nat.reduceAdd, Nat.reduceSub, binv, ↓opt_def, AV.isAny, AV.cells, ldc, List.map_cons, List.map_nil, St.set_next, St.set_same, St.up_next, Int.natCast_nonneg, lt_len, le_len, Int.toNat_natCast, true_and, and_true, eq_self, reduceCtorEq, decide_true, List.length_singleton, er_int, er_bool, er_str, hw2]
          exact ⟨hkl, _, _, Gh.keep [0, 3, 4, 5], rfl, take_all (p := fun s : Sp => mayS s && decide (s.tr = t.id)) hkl hpre2 (by rw [hx, cm]; simp [ct]), rfl⟩
        · have e3 : ((x.tr : Int) != (t.id : Int)) = true := by simp; omega
          refine T.regi hm ?_
          simp only [↓reduceIte, namesOf, List.any, I.names, aops, aopsI, aopsT, qstep, CPt, qget, Tbl.get, astep, ev, setd, List.set, List.getD, List.getElem?_cons_zero, List.getElem?_cons_succ, List.getElem?_nil, List.cons_append, List.nil_append, List.length_cons, List.length_nil, List.replicate, then_normal, inBlock_normal, Option.getD_some, Option.getD_none, Bool.or_false, Bool.or_true, Bool.true_or, Bool.false_or, Bool.false_eq_true, if_false, if_true, up_zero, Nat.reduceAdd, Nat.reduceSub, binv, ↓opt_def, AV.isAny, AV.cells, ldc, List.map_cons, List.map_nil, St.set_next, St.set_same, St.up_next, Int.natCast_nonneg, lt_len, le_len, Int.toNat_natCast, true_and, and_true, eq_self, reduceCtorEq, decide_true, List.length_singleton, er_int, er_bool, er_str, reduceCtorEq, Bool.not_true, hb5, sps_len, sps_get hkl, hkl, hx, spav, AV.fits, AV.one, List.all_cons, List.all_nil, Nat.reduceBEq, Bool.and_true, Bool.not_false, Bool.and_self, Nat.zero_add, splice, List.take, List.drop, Nat.reduceLeDiff, e3]
          refine h6 _ _ ?_
          try clear h6 K_h6
          refine T.cond rfl (fun _ => ?_) (fun h => by cases h)
          refine T.seq_k (fun K_h6 h6 => ?_)
          refine T.regi hm ?_
          simp only [↓reduceIte, namesOf, List.any, I.names, aops, aopsI, aopsT, qstep, CPt, qget, Tbl.get, astep, ev, setd, List.set, List.getD, List.getElem?_cons_zero, List.getElem?_cons_succ, List.getElem?_nil, List.cons_append, List.nil_append, List.length_cons, List.length_nil, List.replicate, then_normal, inBlock_normal, Option.getD_some, Option.getD_none, Bool.or_false, Bool.or_true, Bool.true_or, Bool.false_or, Bool.false_eq_true, if_false, if_true, up_zero, Nat.reduceAdd, Nat.reduceSub, binv, ↓opt_def, AV.isAny, AV.cells, ldc, List.map_cons, List.map_nil, St.set_next, St.set_same, St.up_next, Int.natCast_nonneg, lt_len, le_len, Int.toNat_natCast, true_and, and_true, eq_self, reduceCtorEq, decide_true, List.length_singleton, er_int, er_bool, er_str]
          refine h6 _ _ ?_
          try clear h6 K_h6
          exact T.ret (fin (badx (by rw [decide_eq_false ct, Bool.and_false])) _ rfl)
      · refine T.exit ?_
        have : k = t.sp.length := by simp at hb; omega
        subst this
        rw [List.take_length] at hpre2
        try simp only [↓reduceIte, namesOf, List.any, I.names, aops, aopsI, aopsT, qstep, CPt, qget, Tbl.get, astep, ev, setd, List.set, List.getD, List.getElem?_cons_zero, List.getElem?_cons_succ, List.getElem?_nil, List.cons_append, List.nil_append, List.length_cons, List.length_nil, List.replicate, then_normal, inBlock_normal, Option.getD_some, Option.getD_none, Bool.or_false, Bool.or_true, Bool.true_or, Bool.false_or, Bool.false_eq_true, if_false, if_true, up_zero, Nat.reduceAdd, Nat.reduceSub, binv, ↓opt_def, AV.isAny, AV.cells, ldc, List.map_cons, List.map_nil, St.set_next, St.set_same, St.up_next, Int.natCast_nonneg, lt_len, le_len, Int.toNat_natCast, true_and, and_true, eq_self, reduceCtorEq, decide_true, List.length_singleton, er_int, er_bool, er_str, inBlock_exit, then_exit]
        refine h3 _ _ ?_
        try clear h3 K_h3
        have hg1 := gGather_eq (l := t.sp) (by omega)
        have hg2 := gSpans_eq (a := gatherL t.sp) (b := t.sp) (by have := gatherN_le t.sp t.sp.length; unfold gatherL; omega)
        refine T.seq_k (fun K_h3 h3 => ?_)
        refine T.regt hm tI_ok ?_
        simp only [↓reduceIte, namesOf, List.any, I.names, aops, aopsI, aopsT, qstep, CPt, qget, Tbl.get, astep, ev, setd, List.set, List.getD, List.getElem?_cons_zero, List.getElem?_cons_succ, List.getElem?_nil, List.cons_append, List.nil_append, List.length_cons, List.length_nil, List.replicate, then_normal, inBlock_normal, Option.getD_some, Option.getD_none, Bool.or_false, Bool.or_true, Bool.true_or, Bool.false_or, Bool.false_eq_true, if_false, if_true, up_zero, Nat.reduceAdd, Nat.reduceSub, binv, ↓opt_def, AV.isAny, AV.cells, ldc, List.map_cons, List.map_nil, St.set_next, St.set_same, St.up_next, Int.natCast_nonneg, lt_len, le_len, Int.toNat_natCast, true_and, and_true, eq_self, reduceCtorEq, decide_true, List.length_singleton, er_int, er_bool, er_str, Nat.reduceEqDiff, tI, n_rgather, n_rspans, hb5, hg1, hg2]
        refine h3 _ _ ?_
        try clear h3 K_h3
        refine T.seq_k (fun K_h3 h3 => ?_)
        refine T.regi hm ?_
        simp only [↓reduceIte, namesOf, List.any, I.names, aops, aopsI, aopsT, qstep, CPt, qget, Tbl.get, astep, ev, setd, List.set, List.getD, List.getElem?_cons_zero, List.getElem?_cons_succ, List.getElem?_nil, List.cons_append, List.nil_append, List.length_cons, List.length_nil, List.replicate, then_normal, inBlock_normal, Option.getD_some, Option.getD_none, Bool.or_false, Bool.or_true, Bool.true_or, Bool.false_or, Bool.false_eq_true, if_false, if_true, up_zero, Nat.reduceAdd, Nat.reduceSub, binv, ↓opt_def, AV.isAny, AV.cells, ldc, List.map_cons, List.map_nil, St.set_next, St.set_same, St.up_next, Int.natCast_nonneg, lt_len, le_len, Int.toNat_natCast, true_and, and_true, eq_self, reduceCtorEq, decide_true, List.length_singleton, er_int, er_bool, er_str]
        refine h3 _ _ ?_
        try clear h3 K_h3
        by_cases cg : gatherL t.sp = t.sp
        · refine T.cond (b := false) (by simp [ev, cg]) (fun h => by cases h) (fun _ => T.skip ?_)
          try simp only [↓reduceIte, namesOf, List.any, I.names, aops, aopsI, aopsT, qstep, CPt, qget, Tbl.get, astep, ev, setd, List.set, List.getD, List.getElem?_cons_zero, List.getElem?_cons_succ, List.getElem?_nil, List.cons_append, List.nil_append, List.length_cons, List.length_nil, List.replicate, then_normal, inBlock_normal, Option.getD_some, Option.getD_none, Bool.or_false, Bool.or_true, Bool.true_or, Bool.false_or, Bool.false_eq_true, if_false, if_true, up_zero, Nat.reduceAdd, Nat.reduceSub, binv, ↓opt_def, AV.isAny, AV.cells, ldc, List.map_cons, List.map_nil, St.set_next, St.set_same, St.up_next, Int.natCast_nonneg, lt_len, le_len, Int.toNat_natCast, true_and, and_true, eq_self, reduceCtorEq, decide_true, List.length_singleton, er_int, er_bool, er_str, inBlock_normal]
          refine h2 _ _ ?_
          try clear h2 K_h2
          refine T.regi hm ?_
          simp only [↓reduceIte, namesOf, List.any, I.names, aops, aopsI, aopsT, qstep, CPt, qget, Tbl.get, astep, ev, setd, List.set, List.getD, List.getElem?_cons_zero, List.getElem?_cons_succ, List.getElem?_nil, List.cons_append, List.nil_append, List.length_cons, List.length_nil, List.replicate, then_normal, inBlock_normal, Option.getD_some, Option.getD_none, Bool.or_false, Bool.or_true, Bool.true_or, Bool.false_or, Bool.false_eq_true, if_false, if_true, up_zero, Nat.reduceAdd, Nat.reduceSub, binv, ↓opt_def, AV.isAny, AV.cells, ldc, List.map_cons, List.map_nil, St.set_next, St.set_same, St.up_next, Int.natCast_nonneg, lt_len, le_len, Int.toNat_natCast, true_and, and_true, eq_self, reduceCtorEq, decide_true, List.length_singleton, er_int, er_bool, er_str, hw]
          refine ⟨hil, _, _, Gh.keep [0, 3], hn2, ho2, range_all hpre ?_, rfl⟩
          unfold risAt
          simp only [hti, decide_eq_true c1, decide_eq_true c2, c3, hpre2, decide_eq_true cg, Bool.and_self]
        · refine T.cond (b := true) (by simp [ev, cg]) (fun _ => ?_) (fun h => by cases h)
          refine T.seq_k (fun K_h3 h3 => ?_)
          refine T.regi hm ?_
          simp only [↓reduceIte, namesOf, List.any, I.names, aops, aopsI, aopsT, qstep, CPt, qget, Tbl.get, astep, ev, setd, List.set, List.getD, List.getElem?_cons_zero, List.getElem?_cons_succ, List.getElem?_nil, List.cons_append, List.nil_append, List.length_cons, List.length_nil, List.replicate, then_normal, inBlock_normal, Option.getD_some, Option.getD_none, Bool.or_false, Bool.or_true, Bool.true_or, Bool.false_or, Bool.false_eq_true, if_false, if_true, up_zero, Nat.reduceAdd, Nat.reduceSub, binv, ↓opt_def, AV.isAny, AV.cells, ldc, List.map_cons, List.map_nil, St.set_next, St.set_same, St.up_next, Int.natCast_nonneg, lt_len, le_len, Int.toNat_natCast, true_and, and_true, eq_self, reduceCtorEq, decide_true, List.length_singleton, er_int, er_bool, er_str]
          refine h3 _ _ ?_
          try clear h3 K_h3
          exact T.ret (fin (by unfold risAt; simp only [hti, decide_eq_false cg, Bool.and_false]) _ rfl)
    cases i with
    | zero =>
      have hz : decide (((0 : Nat) : Int) > 0) = false := rfl
      refine T.regi hm ?_
      simp only [↓reduceIte, namesOf, List.any, I.names, aops, aopsI, aopsT, qstep, CPt, qget, Tbl.get, astep, ev, setd, List.set, List.getD, List.getElem?_cons_zero, List.getElem?_cons_succ, List.getElem?_nil, List.cons_append, List.nil_append, List.length_cons, List.length_nil, List.replicate, then_normal, inBlock_normal, Option.getD_some, Option.getD_none, Bool.or_false, Bool.or_true, Bool.true_or, Bool.false_or, Bool.false_eq_true, if_false, if_true, up_zero, Nat.reduceAdd, Nat.reduceSub, binv, ↓opt_def, AV.isAny, AV.cells, ldc, List.map_cons, List.map_nil, St.set_next, St.set_same, St.up_next, Int.natCast_nonneg, lt_len, le_len, Int.toNat_natCast, true_and, and_true, eq_self, reduceCtorEq, decide_true, List.length_singleton, er_int, er_bool, er_str, hb5, sps_len, e1, e2, reduceCtorEq, hz]
      exact rest rfl _ rfl rfl
    | succ j =>
      have hjl : j < l.length := by omega
      generalize hp : l[j] = p
      have hpj : l[j]? = some p := by rw [← hp]; simp [hjl]
      have hz : decide (((j + 1 : Nat) : Int) > 0) = true := decide_eq_true (by omega)
      have hd : IntKind.i64.wrap (((j + 1 : Nat) : Int) - 1) = (j : Int) := by rw [wrap64 (by omega) (by omega)]; omega
      by_cases c4 : p.id < t.id
      · have e4 : decide ((p.id : Int) ≥ (t.id : Int)) = false := decide_eq_false (by omega)
        refine T.regi hm ?_
        simp only [↓reduceIte, namesOf, List.any, I.names, aops, aopsI, aopsT, qstep, CPt, qget, Tbl.get, astep, ev, setd, List.set, List.getD, List.getElem?_cons_zero, List.getElem?_cons_succ, List.getElem?_nil, List.cons_append, List.nil_append, List.length_cons, List.length_nil, List.replicate, then_normal, inBlock_normal, Option.getD_some, Option.getD_none, Bool.or_false, Bool.or_true, Bool.true_or, Bool.false_or, Bool.false_eq_true, if_false, if_true, up_zero, Nat.reduceAdd, Nat.reduceSub, binv, ↓opt_def, AV.isAny, AV.cells, ldc, List.map_cons, List.map_nil, St.set_next, St.set_same, St.up_next, Int.natCast_nonneg, lt_len, le_len, Int.toNat_natCast, true_and, and_true, eq_self, reduceCtorEq, decide_true, List.length_singleton, er_int, er_bool, er_str, hb5, sps_len, e1, e2, reduceCtorEq, hz, hd, tcs_len, tcs_get hjl, hjl, hp, tcav', e4, AV.fits, AV.one, List.all_cons, List.all_nil, Nat.reduceBEq, Bool.and_true, Bool.not_false, Bool.and_self, Nat.zero_add, splice, List.take, List.drop, Nat.reduceLeDiff]
        exact rest (by simp [hpj, c4]) _ rfl rfl
      · have e4 : decide ((p.id : Int) ≥ (t.id : Int)) = true := decide_eq_true (by omega)
        refine T.regi hm ?_
        simp only [↓reduceIte, namesOf, List.any, I.names, aops, aopsI, aopsT, qstep, CPt, qget, Tbl.get, astep, ev, setd, List.set, List.getD, List.getElem?_cons_zero, List.getElem?_cons_succ, List.getElem?_nil, List.cons_append, List.nil_append, List.length_cons, List.length_nil, List.replicate, then_normal, inBlock_normal, Option.getD_some, Option.getD_none, Bool.or_false, Bool.or_true, Bool.true_or, Bool.false_or, Bool.false_eq_true, if_false, if_true, up_zero, Nat.reduceAdd, Nat.reduceSub, binv, ↓opt_def, AV.isAny, AV.cells, ldc, List.map_cons, List.map_nil, St.set_next, St.set_same, St.up_next, Int.natCast_nonneg, lt_len, le_len, Int.toNat_natCast, true_and, and_true, eq_self, reduceCtorEq, decide_true, List.length_singleton, er_int, er_bool, er_str, hb5, sps_len, e1, e2, reduceCtorEq, hz, hd, tcs_len, tcs_get hjl, hjl, hp, tcav', e4, AV.fits, AV.one, List.all_cons, List.all_nil, Nat.reduceBEq, Bool.and_true, Bool.not_false, Bool.and_self, Nat.zero_add, splice, List.take, List.drop, Nat.reduceLeDiff]
        refine h4 _ _ ?_
        try clear h4 K_h4
        refine T.cond rfl (fun _ => ?_) (fun h => by cases h)
        refine T.seq_k (fun K_h4 h4 => ?_)
        refine T.regi hm ?_
        simp only [↓reduceIte, namesOf, List.any, I.names, aops, aopsI, aopsT, qstep, CPt, qget, Tbl.get, astep, ev, setd, List.set, List.getD, List.getElem?_cons_zero, List.getElem?_cons_succ, List.getElem?_nil, List.cons_append, List.nil_append, List.length_cons, List.length_nil, List.replicate, then_normal, inBlock_normal, Option.getD_some, Option.getD_none, Bool.or_false, Bool.or_true, Bool.true_or, Bool.false_or, Bool.false_eq_true, if_false, if_true, up_zero, Nat.reduceAdd, Nat.reduceSub, binv, ↓opt_def, AV.isAny, AV.cells, ldc, List.map_cons, List.map_nil, St.set_next, St.set_same, St.up_next, Int.natCast_nonneg, lt_len, le_len, Int.toNat_natCast, true_and, and_true, eq_self, reduceCtorEq, decide_true, List.length_singleton, er_int, er_bool, er_str]
        refine h4 _ _ ?_
        try clear h4 K_h4
        exact T.ret (fin (by unfold risAt; simp [hti, hpj, c4]) _ rfl)
  · refine T.exit ?_
    have : i = l.length := by simp at hb; omega
    subst this
    try simp only [↓reduceIte, namesOf, List.any, I.names, aops, aopsI, aopsT, qstep, CPt, qget, Tbl.get, astep, ev, setd, List.set, List.getD, List.getElem?_cons_zero, List.getElem?_cons_succ, List.getElem?_nil, List.cons_append, List.nil_append, List.length_cons, List.length_nil, List.replicate, then_normal, inBlock_normal, Option.getD_some, Option.getD_none, Bool.or_false, Bool.or_true, Bool.true_or, Bool.false_or, Bool.false_eq_true, if_false, if_true, up_zero, Nat.reduceAdd, Nat.reduceSub, binv, ↓opt_def, AV.isAny, AV.cells, ldc, List.map_cons, List.map_nil, St.set_next, St.set_same, St.up_next, Int.natCast_nonneg, lt_len, le_len, Int.toNat_natCast, true_and, and_true, eq_self, reduceCtorEq, decide_true, List.length_singleton, er_int, er_bool, er_str, inBlock_exit, then_exit]
    refine h1 _ _ ?_
    try clear h1 K_h1
    refine T.seq_k (fun K_h1 h1 => ?_)
    refine T.regi hm ?_
    simp only [↓reduceIte, namesOf, List.any, I.names, aops, aopsI, aopsT, qstep, CPt, qget, Tbl.get, astep, ev, setd, List.set, List.getD, List.getElem?_cons_zero, List.getElem?_cons_succ, List.getElem?_nil, List.cons_append, List.nil_append, List.length_cons, List.length_nil, List.replicate, then_normal, inBlock_normal, Option.getD_some, Option.getD_none, Bool.or_false, Bool.or_true, Bool.true_or, Bool.false_or, Bool.false_eq_true, if_false, if_true, up_zero, Nat.reduceAdd, Nat.reduceSub, binv, ↓opt_def, AV.isAny, AV.cells, ldc, List.map_cons, List.map_nil, St.set_next, St.set_same, St.up_next, Int.natCast_nonneg, lt_len, le_len, Int.toNat_natCast, true_and, and_true, eq_self, reduceCtorEq, decide_true, List.length_singleton, er_int, er_bool, er_str]
    refine h1 _ _ ?_
    try clear h1 K_h1
    exact T.ret (Fin.quiet rfl trivial ho ⟨by rw [show risB l = true from hpre]; rfl, rfl⟩)

end Go.VL

namespace Go.VL

open Go.Proofs

theorem cmp3_neg {a b : Int} : cmp3 a b < 0 ↔ a < b := by
  unfold cmp3; split
  · omega
  · split <;> omega

theorem cmp3_zero {a b : Int} : cmp3 a b = 0 ↔ a = b := by
  unfold cmp3; split
  · omega
  · split <;> omega

theorem cmp3_self (a : Int) : cmp3 a a = 0 := by unfold cmp3; simp

theorem cmp_ahead (a b : Sp) : decide (cmpSp a b < 0) = aheadS a b := by
  rw [Bool.eq_iff_iff, decide_eq_true_eq]
  unfold cmpSp cmpS aheadS
  simp only [orI]
  by_cases h1 : a.st = b.st
  · have e1 : cmp3 a.st b.st = 0 := cmp3_zero.2 h1
    by_cases h2 : a.id = b.id
    · have e2 : cmp3 (a.id : Int) (b.id : Int) = 0 := cmp3_zero.2 (by omega)
      by_cases h3 : a.tr = b.tr
      · have e3 : cmp3 (a.tr : Int) (b.tr : Int) = 0 := cmp3_zero.2 (by omega)
        simp only [cmp3_self, e1, e2, e3, h1, h2, h3, if_true, ne_eq, not_true_eq_false, if_false, decide_eq_true_eq]; omega
      · have e3 : ¬ cmp3 (a.tr : Int) (b.tr : Int) = 0 := by rw [cmp3_zero]; omega
        simp only [cmp3_self, e1, e2, e3, h1, h2, if_true, ne_eq, not_true_eq_false, if_false, decide_eq_true_eq, cmp3_neg]; omega
    · have e2 : ¬ cmp3 (a.id : Int) (b.id : Int) = 0 := by rw [cmp3_zero]; omega
      simp only [cmp3_self, e1, e2, h1, h2, if_true, ne_eq, not_true_eq_false, not_false_eq_true, if_false, decide_eq_true_eq, cmp3_neg]; omega
  · have e1 : ¬ cmp3 a.st b.st = 0 := by rw [cmp3_zero]; exact h1
    simp only [e1, h1, if_true, ne_eq, not_false_eq_true, if_false, decide_eq_true_eq, cmp3_neg]

def docOne (t : Tc) : Bool := decide (1 ≤ t.sp.length) && decide (t.sp.length ≤ 100) && t.sp.all (fun s => mayS s && decide (s.tr = t.id)) && decide (gatherL t.sp = t.sp)

theorem ok_at {t : Tc} {i : Nat} (hi : i < t.sp.length) : okAt t i = true ↔ t.sp[i].tr = t.id ∧ mayS t.sp[i] = true ∧ (∀ j (hj : j < i), t.sp[j].id ≠ t.sp[i].id) ∧ ∀ j (hj : j + 1 = i), aheadS t.sp[j] t.sp[i] = true := by
  unfold okAt
  have e : t.sp[i]? = some t.sp[i] := by simp [hi]
  rw [e]
  simp only [Bool.and_eq_true, decide_eq_true_eq, Bool.not_eq_true', Bool.or_eq_true, beq_iff_eq, and_assoc]
  refine and_congr Iff.rfl (and_congr Iff.rfl (and_congr ?_ ?_))
  · constructor
    · intro h j hj he
      have : ((t.sp.take i).map Sp.id).contains t.sp[i].id = true := by
        simp only [List.contains_iff_mem, List.mem_map]
        refine ⟨t.sp[j], ?_, he⟩
        have : (t.sp.take i)[j]? = some t.sp[j] := by rw [List.getElem?_take, if_pos hj]; simp [show j < t.sp.length by omega]
        exact List.mem_of_getElem? this
      rw [h] at this; cases this
    · intro h
      rw [Bool.eq_false_iff]
      intro hc
      simp only [List.contains_iff_mem, List.mem_map] at hc
      obtain ⟨s, hs, he⟩ := hc
      obtain ⟨j, hj⟩ := List.getElem?_of_mem hs
      rw [List.getElem?_take] at hj
      split at hj
      · rename_i hji
        have : t.sp[j]'(by omega) = s := by simpa [show j < t.sp.length by omega] using hj
        exact h j hji (by rw [this]; exact he)
      · cases hj
  · cases i with
    | zero => exact ⟨fun _ j hj => by omega, fun _ => .inl rfl⟩
    | succ i =>
      have e2 : t.sp[i]? = some (t.sp[i]'(by omega)) := by simp [show i < t.sp.length by omega]
      simp only [Nat.add_sub_cancel, e2, Nat.succ_ne_zero, Nat.add_eq_zero_iff, Nat.one_ne_zero, and_false, false_or]
      rw [cmp_ahead]
      exact ⟨fun h j hj => by have : j = i := by omega
                              subst this; exact h, fun h => h i rfl⟩

theorem one_doc (t : Tc) : oneB t = docOne t := by
  rw [Bool.eq_iff_iff]
  unfold oneB docOne
  simp only [Bool.and_eq_true, decide_eq_true_eq, List.all_eq_true, List.mem_range]
  constructor
  · rintro ⟨⟨h1, h2⟩, h3⟩
    have hk : ∀ i (hi : i < t.sp.length), _ := fun i hi => (ok_at hi).1 (h1 i hi)
    have htr : ∀ s ∈ t.sp, s.tr = t.id := by
      intro s hs
      obtain ⟨i, hi, rfl⟩ := List.getElem_of_mem hs
      exact (hk i hi).1
    refine ⟨⟨⟨h2, h3⟩, fun s hs => ?_⟩, (gather_id htr).2 ⟨fun i j hi hj hij => (hk j hj).2.2.1 i hij, ?_⟩⟩
    · obtain ⟨i, hi, rfl⟩ := List.getElem_of_mem hs
      exact ⟨(hk i hi).2.1, (hk i hi).1⟩
    · rw [SortedS, List.pairwise_iff_getElem]
      intro i j hi hj hij
      induction j with
      | zero => omega
      | succ j ih =>
        have hst := (hk (j + 1) hj).2.2.2 j rfl
        by_cases hx : i = j
        · subst hx; exact hst
        · exact ahead_trans (ih (by omega) (by omega)) hst
  · rintro ⟨⟨⟨h2, h3⟩, h1⟩, hg⟩
    have htr : ∀ s ∈ t.sp, s.tr = t.id := fun s hs => (h1 s hs).2
    obtain ⟨hap, hso⟩ := (gather_id htr).1 hg
    refine ⟨⟨fun i hi => (ok_at hi).2 ⟨(h1 _ (List.getElem_mem hi)).2, (h1 _ (List.getElem_mem hi)).1, fun j hj => hap j i (by omega) hi hj, fun j hj => ?_⟩, h2⟩, h3⟩
    exact List.pairwise_iff_getElem.1 hso j i (by omega) hi (by omega)

theorem is_doc (l : List Tc) : isB l = risB l := by
  unfold isB risB
  congr 1
  funext i
  unfold isAt risAt
  cases l[i]? with
  | none => rfl
  | some t =>
    simp only
    rw [one_doc]
    unfold docOne
    generalize (i == 0 || (match l[i - 1]? with | some p => decide (p.id < t.id) | none => false)) = b
    cases b <;> simp only [Bool.and_true, Bool.and_false, Bool.false_and]

end Go.VL

namespace Go.VL

open Go.Proofs

/-- the reader's place in what is left of the bytes -/
def sh (k : Nat) (s : Rs) : Rs := ⟨s.at_ - k, if s.bad = -1 then -1 else s.bad - k⟩

structure SH (k : Nat) (b : List UInt8) (s : Rs) : Prop where
  ok : s.ok b
  len : k ≤ b.length
  lo : (k : Int) ≤ s.at_
  bad : s.bad = -1 ∨ (k : Int) ≤ s.bad

theorem SH.neg {k : Nat} {b : List UInt8} {s : Rs} (h : SH k b s) : (sh k s).bad = -1 ↔ s.bad = -1 := by
  unfold sh; have := h.bad
  split <;> simp_all <;> omega

theorem SH.pos {k : Nat} {b : List UInt8} {s : Rs} (h : SH k b s) : 0 ≤ (sh k s).bad ↔ 0 ≤ s.bad := by
  unfold sh; have := h.bad
  split <;> simp_all <;> omega

theorem SH.rt {k : Nat} {b : List UInt8} {s : Rs} (h : SH k b s) (w : Int) : rT (b.drop k) (sh k s) w = rT b s w := by
  have e := h.neg
  have := h.len
  unfold rT
  rw [Bool.eq_iff_iff, decide_eq_true_eq, decide_eq_true_eq, e, List.length_drop]
  unfold sh
  constructor <;> rintro ⟨h1, h2⟩ <;> refine ⟨h1, ?_⟩ <;> simp only [] at * <;> omega

theorem SH.rw {k : Nat} {b : List UInt8} {s : Rs} (h : SH k b s) (w : Nat) : rW (b.drop k) (sh k s) w = rW b s w := by
  unfold rW
  rw [h.rt]
  have : (b.drop k).drop (sh k s).at_.toNat = b.drop s.at_.toNat := by
    rw [List.drop_drop]; unfold sh; have := h.lo; congr 1; simp only []; omega
  rw [this]

end Go.VL

namespace Go.VL

open Go.Proofs

theorem flat_snoc {α β : Type} (f : α → List β) {l : List α} {i : Nat} (h : i < l.length) : (l.take (i + 1)).flatMap f = (l.take i).flatMap f ++ f l[i] := by
  rw [List.take_succ_eq_append_getElem h, List.flatMap_append]; simp

theorem spans_le {l : List Sp} (h : ∀ s ∈ l, s.da.length ≤ 200) : (l.flatMap spanB).length ≤ l.length * 234 := by
  induction l with
  | nil => simp
  | cons s r ih =>
    rw [List.flatMap_cons, List.length_append, List.length_cons, spanB_len, Nat.add_mul]
    have := h s (by simp)
    have := ih (fun x hx => h x (List.mem_cons_of_mem _ hx))
    omega

theorem mayS_len {s : Sp} (h : mayS s = true) : s.da.length ≤ 200 := by have := mayS_facts h; omega

theorem sps_cells (s : Sp) : [AV.int .u64 (s.tr : Int), .int .u64 (s.id : Int), .int .i64 s.st, .int .i64 s.en, .sl (bytesAV s.da) .none].length = 5 := rfl

set_option maxRecDepth 10000 in
set_option maxHeartbeats 1000000 in
theorem spput_ok {l : List Sp} {g : Ver} {σ : St} (hl : l.length ≤ 65535) (hd : ∀ s ∈ l, s.da.length ≤ 9223372036854775807) :
    ACalls Try.prog n_spput [.sl (spsAV l) g] σ (fun v σ' => v = (if l.all mayS then .tup [.sl (bytesAV (spansB l)) .none, .nili] else .tup [.sl [] .none, .iface tCode (.int .i64 1)]) ∧ σ' = σ) := by
  refine s_spput (fun wf => ?_)
  unfold c_spput
  have e1 : decide ((l.length : Int) > 65535) = false := decide_eq_false (by omega)
  have e2 := u64w (n := l.length) (by omega)
  refine T.seq_k (fun K_h0 h0 => ?_)
  refine T.regi hm ?_
  simp only [↓reduceIte, namesOf, List.any, I.names, aops, aopsI, aopsT, qstep, CPt, qget, Tbl.get, astep, ev, setd, List.set, List.getD, List.getElem?_cons_zero, List.getElem?_cons_succ, List.getElem?_nil, List.cons_append, List.nil_append, List.length_cons, List.length_nil, List.replicate, then_normal, inBlock_normal, Option.getD_some, Option.getD_none, Bool.or_false, Bool.or_true, Bool.true_or, Bool.false_or, Bool.false_eq_true, if_false, if_true, up_zero, Nat.reduceAdd, Nat.reduceSub, binv, ↓opt_def, AV.isAny, AV.cells, ldc, List.map_cons, List.map_nil, St.set_next, St.set_same, St.up_next, Int.natCast_nonneg, lt_len, le_len, Int.toNat_natCast, true_and, and_true, eq_self, reduceCtorEq, decide_true, List.length_singleton, er_int, er_bool, er_str]
  refine h0 _ _ ?_
  try clear h0 K_h0
  refine T.seq_k (fun K_h1 h1 => ?_)
  refine T.seq_k (fun K_h0 h0 => ?_)
  refine T.regi hm ?_
  simp only [↓reduceIte, namesOf, List.any, I.names, aops, aopsI, aopsT, qstep, CPt, qget, Tbl.get, astep, ev, setd, List.set, List.getD, List.getElem?_cons_zero, List.getElem?_cons_succ, List.getElem?_nil, List.cons_append, List.nil_append, List.length_cons, List.length_nil, List.replicate, then_normal, inBlock_normal, Option.getD_some, Option.getD_none, Bool.or_false, Bool.or_true, Bool.true_or, Bool.false_or, Bool.false_eq_true, if_false, if_true, up_zero, Nat.reduceAdd, Nat.reduceSub, binv, ↓opt_def, AV.isAny, AV.cells, ldc, List.map_cons, List.map_nil, St.set_next, St.set_same, St.up_next, Int.natCast_nonneg, lt_len, le_len, Int.toNat_natCast, true_and, and_true, eq_self, reduceCtorEq, decide_true, List.length_singleton, er_int, er_bool, er_str, sps_len, e1]
  refine h0 _ _ ?_
  try clear h0 K_h0
  refine T.cond rfl (fun h => by cases h) (fun _ => T.skip ?_)
  refine h1 _ _ ?_
  try clear h1 K_h1
  refine T.seq_k (fun K_h1 h1 => ?_)
  have hnil : AV.sl [] .nil = .sl (bytesAV []) .nil := rfl
  rw [hnil]
  refine T.regi hm ?_
  simp only [↓reduceIte, namesOf, List.any, I.names, aops, aopsI, aopsT, qstep, CPt, qget, Tbl.get, astep, ev, setd, List.set, List.getD, List.getElem?_cons_zero, List.getElem?_cons_succ, List.getElem?_nil, List.cons_append, List.nil_append, List.length_cons, List.length_nil, List.replicate, then_normal, inBlock_normal, Option.getD_some, Option.getD_none, Bool.or_false, Bool.or_true, Bool.true_or, Bool.false_or, Bool.false_eq_true, if_false, if_true, up_zero, Nat.reduceAdd, Nat.reduceSub, binv, ↓opt_def, AV.isAny, AV.cells, ldc, List.map_cons, List.map_nil, St.set_next, St.set_same, St.up_next, Int.natCast_nonneg, lt_len, le_len, Int.toNat_natCast, true_and, and_true, eq_self, reduceCtorEq, decide_true, List.length_singleton, er_int, er_bool, er_str, sps_len, e2]
  refine (wput_ok (l := []) (w := 2) (by simp) rfl (fun _ => by omega)).mono ?_
  rintro v σ1 ⟨h, o1, rfl⟩
  rw [List.nil_append, ← hnil]
  have q0 := Tq.one o1
  clear o1
  try simp only [↓reduceIte, namesOf, List.any, I.names, aops, aopsI, aopsT, qstep, CPt, qget, Tbl.get, astep, ev, setd, List.set, List.getD, List.getElem?_cons_zero, List.getElem?_cons_succ, List.getElem?_nil, List.cons_append, List.nil_append, List.length_cons, List.length_nil, List.replicate, then_normal, inBlock_normal, Option.getD_some, Option.getD_none, Bool.or_false, Bool.or_true, Bool.true_or, Bool.false_or, Bool.false_eq_true, if_false, if_true, up_zero, Nat.reduceAdd, Nat.reduceSub, binv, ↓opt_def, AV.isAny, AV.cells, ldc, List.map_cons, List.map_nil, St.set_next, St.set_same, St.up_next, Int.natCast_nonneg, lt_len, le_len, Int.toNat_natCast, true_and, and_true, eq_self, reduceCtorEq, decide_true, List.length_singleton, er_int, er_bool, er_str, up_zero]
  refine h1 _ _ ?_
  try clear h1 K_h1
  refine T.seq_k (fun K_h1 h1 => ?_)
  refine T.seq_k (fun K_h0 h0 => ?_)
  refine T.regi hm ?_
  simp only [↓reduceIte, namesOf, List.any, I.names, aops, aopsI, aopsT, qstep, CPt, qget, Tbl.get, astep, ev, setd, List.set, List.getD, List.getElem?_cons_zero, List.getElem?_cons_succ, List.getElem?_nil, List.cons_append, List.nil_append, List.length_cons, List.length_nil, List.replicate, then_normal, inBlock_normal, Option.getD_some, Option.getD_none, Bool.or_false, Bool.or_true, Bool.true_or, Bool.false_or, Bool.false_eq_true, if_false, if_true, up_zero, Nat.reduceAdd, Nat.reduceSub, binv, ↓opt_def, AV.isAny, AV.cells, ldc, List.map_cons, List.map_nil, St.set_next, St.set_same, St.up_next, Int.natCast_nonneg, lt_len, le_len, Int.toNat_natCast, true_and, and_true, eq_self, reduceCtorEq, decide_true, List.length_singleton, er_int, er_bool, er_str, eqIv, bne_self_eq_false]
  refine h0 _ _ ?_
  try clear h0 K_h0
  refine T.cond rfl (fun h => by cases h) (fun _ => T.skip ?_)
  refine h1 _ _ ?_
  try clear h1 K_h1
  refine T.seq_k (fun K_h1 h1 => ?_)
  refine T.seq_k (fun K_h0 h0 => ?_)
  refine T.regi hm ?_
  simp only [↓reduceIte, namesOf, List.any, I.names, aops, aopsI, aopsT, qstep, CPt, qget, Tbl.get, astep, ev, setd, List.set, List.getD, List.getElem?_cons_zero, List.getElem?_cons_succ, List.getElem?_nil, List.cons_append, List.nil_append, List.length_cons, List.length_nil, List.replicate, then_normal, inBlock_normal, Option.getD_some, Option.getD_none, Bool.or_false, Bool.or_true, Bool.true_or, Bool.false_or, Bool.false_eq_true, if_false, if_true, up_zero, Nat.reduceAdd, Nat.reduceSub, binv, ↓opt_def, AV.isAny, AV.cells, ldc, List.map_cons, List.map_nil, St.set_next, St.set_same, St.up_next, Int.natCast_nonneg, lt_len, le_len, Int.toNat_natCast, true_and, and_true, eq_self, reduceCtorEq, decide_true, List.length_singleton, er_int, er_bool, er_str, sps_len]
  refine h0 _ _ ?_
  try clear h0 K_h0
  refine T.block ?_
  refine T.gh (Gh.keep [2, 3, 4, 24, 25, 26]) ?_
  refine T.loopi (fun i ρ t => (∃ g1, Tq σ t g1 1 ∧ (l.take i).all mayS = true ∧ ρ = [.any, .any, .sl [] .nil, .nili, .sl (bytesAV (beB 2 l.length ++ (l.take i).flatMap spanB)) (.tip g1)] ++ List.replicate 19 .any ++ [.sl (spsAV l) g, .int .i64 (l.length : Int), .int .i64 (i : Int)] ++ List.replicate 20 .any))
    l.length 0 (Nat.zero_le _) ⟨h, q0, rfl, by rw [List.take_zero, List.flatMap_nil, List.append_nil]; rfl⟩ ?_
  clear q0 h
  rintro i ρ t hi ⟨h, q0, hall, rfl⟩
  refine T.seq_k (fun K_h0 h0 => ?_)
  refine T.regi hm ?_
  simp only [↓reduceIte, namesOf, List.any, I.names, aops, aopsI, aopsT, qstep, CPt, qget, Tbl.get, astep, ev, setd, List.set, List.getD, List.getElem?_cons_zero, List.getElem?_cons_succ, List.getElem?_nil, List.cons_append, List.nil_append, List.length_cons, List.length_nil, List.replicate, then_normal, inBlock_normal, Option.getD_some, Option.getD_none, Bool.or_false, Bool.or_true, Bool.true_or, Bool.false_or, Bool.false_eq_true, if_false, if_true, up_zero, Nat.reduceAdd, Nat.reduceSub, binv, ↓opt_def, AV.isAny, AV.cells, ldc, List.map_cons, List.map_nil, St.set_next, St.set_same, St.up_next, Int.natCast_nonneg, lt_len, le_len, Int.toNat_natCast, true_and, and_true, eq_self, reduceCtorEq, decide_true, List.length_singleton, er_int, er_bool, er_str]
  refine h0 _ _ ?_
  try clear h0 K_h0
  refine T.seq_k (fun K_h2 h2 => ?_)
  by_cases hil : i < l.length
  case neg =>
    refine T.cond (b := false) (by simp [ev]; omega) (fun h => by cases h) (fun _ => T.exit ?_)
    have : i = l.length := by omega
    subst this
    rw [List.take_length] at hall ⊢
    try simp only [↓reduceIte, namesOf, List.any, I.names, aops, aopsI, aopsT, qstep, CPt, qget, Tbl.get, astep, ev, setd, List.set, List.getD, List.getElem?_cons_zero, List.getElem?_cons_succ, List.getElem?_nil, List.cons_append, List.nil_append, List.length_cons, List.length_nil, List.replicate, then_normal, inBlock_normal, Option.getD_some, Option.getD_none, Bool.or_false, Bool.or_true, Bool.true_or, Bool.false_or, Bool.false_eq_true, if_false, if_true, up_zero, Nat.reduceAdd, Nat.reduceSub, binv, ↓opt_def, AV.isAny, AV.cells, ldc, List.map_cons, List.map_nil, St.set_next, St.set_same, St.up_next, Int.natCast_nonneg, lt_len, le_len, Int.toNat_natCast, true_and, and_true, eq_self, reduceCtorEq, decide_true, List.length_singleton, er_int, er_bool, er_str, inBlock_exit, then_exit]
    refine h1 _ _ ?_
    try clear h1 K_h1
    refine T.seq_k (fun K_h0 h0 => ?_)
    refine T.regi hm ?_
    simp only [↓reduceIte, namesOf, List.any, I.names, aops, aopsI, aopsT, qstep, CPt, qget, Tbl.get, astep, ev, setd, List.set, List.getD, List.getElem?_cons_zero, List.getElem?_cons_succ, List.getElem?_nil, List.cons_append, List.nil_append, List.length_cons, List.length_nil, List.replicate, then_normal, inBlock_normal, Option.getD_some, Option.getD_none, Bool.or_false, Bool.or_true, Bool.true_or, Bool.false_or, Bool.false_eq_true, if_false, if_true, up_zero, Nat.reduceAdd, Nat.reduceSub, binv, ↓opt_def, AV.isAny, AV.cells, ldc, List.map_cons, List.map_nil, St.set_next, St.set_same, St.up_next, Int.natCast_nonneg, lt_len, le_len, Int.toNat_natCast, true_and, and_true, eq_self, reduceCtorEq, decide_true, List.length_singleton, er_int, er_bool, er_str]
    refine h0 _ _ ?_
    try clear h0 K_h0
    exact T.ret (Fin.quietw rfl (Wk.tup2 (Wk.sl _ _)) ⟨⟨nb_bytes _ _, trivial⟩, trivial, trivial⟩ (q0.quiet wf) ⟨by rw [if_pos hall]; rfl, rfl⟩)
  refine T.cond (b := true) (by simp [ev]; omega) (fun _ => T.skip ?_) (fun h => by cases h)
  refine h2 _ _ ?_
  try clear h2 K_h2
  have hiw := inc64' hil (by omega)
  have hilI : (i : Int) < (l.length : Int) := by omega
  have hg := sps_get hil
  have hds := hd _ (List.getElem_mem hil)
  have hfs := flat_snoc spanB hil
  have hta : (l.take (i + 1)).all mayS = ((l.take i).all mayS && mayS l[i]) := by rw [List.take_succ_eq_append_getElem hil, List.all_append]; simp
  have hlm : l.all mayS = true → mayS l[i] = true := fun h => List.all_eq_true.1 h _ (List.getElem_mem hil)
  have hpl : ((l.take i).flatMap spanB).length ≤ 65535 * 234 := by
    refine Nat.le_trans (spans_le (fun s hs => mayS_len (List.all_eq_true.1 hall s hs))) (Nat.mul_le_mul_right _ ?_)
    rw [List.length_take]; omega
  generalize l[i] = s at hg hds hfs hta hlm
  rw [spav] at hg
  refine T.seq_k (fun K_h2 h2 => ?_)
  refine T.block ?_
  refine T.seq_k (fun K_h3 h3 => ?_)
  refine T.regi hm ?_
  simp only [↓reduceIte, namesOf, List.any, I.names, aops, aopsI, aopsT, qstep, CPt, qget, Tbl.get, astep, ev, setd, List.set, List.getD, List.getElem?_cons_zero, List.getElem?_cons_succ, List.getElem?_nil, List.cons_append, List.nil_append, List.length_cons, List.length_nil, List.replicate, then_normal, inBlock_normal, Option.getD_some, Option.getD_none, Bool.or_false, Bool.or_true, Bool.true_or, Bool.false_or, Bool.false_eq_true, if_false, if_true, up_zero, Nat.reduceAdd, Nat.reduceSub, binv, ↓opt_def, AV.isAny, AV.cells, ldc, List.map_cons, List.map_nil, St.set_next, St.set_same, St.up_next, Int.natCast_nonneg, lt_len, le_len, Int.toNat_natCast, true_and, and_true, eq_self, reduceCtorEq, decide_true, List.length_singleton, er_int, er_bool, er_str, sps_len, hg, hilI, AV.fits, AV.one, List.all_cons, List.all_nil, Nat.reduceBEq, Bool.and_true, Bool.not_false, Bool.and_self, Nat.zero_add, splice, List.take, List.drop, Nat.reduceLeDiff, St.set_set]
  have q1 := q0.box (n := 4) (i := 2) (by omega) (.obj [.int .u64 (s.tr : Int), .int .u64 (s.id : Int), .int .i64 s.st, .int .i64 s.en, .sl (bytesAV s.da) .none])
  have hb : ((t.up 4).set (t.next + 2) (.obj [.int .u64 (s.tr : Int), .int .u64 (s.id : Int), .int .i64 s.st, .int .i64 s.en, .sl (bytesAV s.da) .none])).res (t.next + 2) = some (.obj [.int .u64 (s.tr : Int), .int .u64 (s.id : Int), .int .i64 s.st, .int .i64 s.en, .sl (bytesAV s.da) .none]) := by simp
  generalize ((t.up 4).set (t.next + 2) (.obj [.int .u64 (s.tr : Int), .int .u64 (s.id : Int), .int .i64 s.st, .int .i64 s.en, .sl (bytesAV s.da) .none])) = τ at q1 hb ⊢
  generalize t.next + 2 = a at hb ⊢
  clear q0
  refine h3 _ _ ?_
  try clear h3 K_h3
  refine T.seq_k (fun K_h3 h3 => ?_)
  refine T.seq_k (fun K_h4 h4 => ?_)
  refine T.regi hm ?_
  simp only [↓reduceIte, namesOf, List.any, I.names, aops, aopsI, aopsT, qstep, CPt, qget, Tbl.get, astep, ev, setd, List.set, List.getD, List.getElem?_cons_zero, List.getElem?_cons_succ, List.getElem?_nil, List.cons_append, List.nil_append, List.length_cons, List.length_nil, List.replicate, then_normal, inBlock_normal, Option.getD_some, Option.getD_none, Bool.or_false, Bool.or_true, Bool.true_or, Bool.false_or, Bool.false_eq_true, if_false, if_true, up_zero, Nat.reduceAdd, Nat.reduceSub, binv, ↓opt_def, AV.isAny, AV.cells, ldc, List.map_cons, List.map_nil, St.set_next, St.set_same, St.up_next, Int.natCast_nonneg, lt_len, le_len, Int.toNat_natCast, true_and, and_true, eq_self, reduceCtorEq, decide_true, List.length_singleton, er_int, er_bool, er_str, hb, AV.fits, AV.one, List.all_cons, List.all_nil, Nat.reduceBEq, Bool.and_true, Bool.not_false, Bool.and_self, Nat.zero_add, splice, List.take, List.drop, Nat.reduceLeDiff]
  refine (may_ok).mono ?_
  rintro v τ2 ⟨rfl, rfl⟩
  have hms : mayI s.st s.en (((bytesAV s.da).length : Nat) : Int) = mayS s := by rw [bytesAV_len]; rfl
  rw [hms]
  cases hmay : mayS s with
  | false =>
    try simp only [↓reduceIte, namesOf, List.any, I.names, aops, aopsI, aopsT, qstep, CPt, qget, Tbl.get, astep, ev, setd, List.set, List.getD, List.getElem?_cons_zero, List.getElem?_cons_succ, List.getElem?_nil, List.cons_append, List.nil_append, List.length_cons, List.length_nil, List.replicate, then_normal, inBlock_normal, Option.getD_some, Option.getD_none, Bool.or_false, Bool.or_true, Bool.true_or, Bool.false_or, Bool.false_eq_true, if_false, if_true, up_zero, Nat.reduceAdd, Nat.reduceSub, binv, ↓opt_def, AV.isAny, AV.cells, ldc, List.map_cons, List.map_nil, St.set_next, St.set_same, St.up_next, Int.natCast_nonneg, lt_len, le_len, Int.toNat_natCast, true_and, and_true, eq_self, reduceCtorEq, decide_true, List.length_singleton, er_int, er_bool, er_str, up_zero, Bool.not_false]
    refine h4 _ _ ?_
    try clear h4 K_h4
    refine T.cond rfl (fun _ => ?_) (fun h => by cases h)
    refine T.seq_k (fun K_h0 h0 => ?_)
    refine T.regi hm ?_
    simp only [↓reduceIte, namesOf, List.any, I.names, aops, aopsI, aopsT, qstep, CPt, qget, Tbl.get, astep, ev, setd, List.set, List.getD, List.getElem?_cons_zero, List.getElem?_cons_succ, List.getElem?_nil, List.cons_append, List.nil_append, List.length_cons, List.length_nil, List.replicate, then_normal, inBlock_normal, Option.getD_some, Option.getD_none, Bool.or_false, Bool.or_true, Bool.true_or, Bool.false_or, Bool.false_eq_true, if_false, if_true, up_zero, Nat.reduceAdd, Nat.reduceSub, binv, ↓opt_def, AV.isAny, AV.cells, ldc, List.map_cons, List.map_nil, St.set_next, St.set_same, St.up_next, Int.natCast_nonneg, lt_len, le_len, Int.toNat_natCast, true_and, and_true, eq_self, reduceCtorEq, decide_true, List.length_singleton, er_int, er_bool, er_str]
    refine h0 _ _ ?_
    try clear h0 K_h0
    have : ¬ l.all mayS = true := fun h => by rw [hlm h] at hmay; cases hmay
    exact T.ret (Fin.quietw rfl (Wk.tup2 (Wk.sl _ _)) ⟨⟨trivial, trivial⟩, trivial, trivial⟩ (q1.quiet wf) ⟨by rw [if_neg this]; rfl, rfl⟩)
  | true =>
    try simp only [↓reduceIte, namesOf, List.any, I.names, aops, aopsI, aopsT, qstep, CPt, qget, Tbl.get, astep, ev, setd, List.set, List.getD, List.getElem?_cons_zero, List.getElem?_cons_succ, List.getElem?_nil, List.cons_append, List.nil_append, List.length_cons, List.length_nil, List.replicate, then_normal, inBlock_normal, Option.getD_some, Option.getD_none, Bool.or_false, Bool.or_true, Bool.true_or, Bool.false_or, Bool.false_eq_true, if_false, if_true, up_zero, Nat.reduceAdd, Nat.reduceSub, binv, ↓opt_def, AV.isAny, AV.cells, ldc, List.map_cons, List.map_nil, St.set_next, St.set_same, St.up_next, Int.natCast_nonneg, lt_len, le_len, Int.toNat_natCast, true_and, and_true, eq_self, reduceCtorEq, decide_true, List.length_singleton, er_int, er_bool, er_str, up_zero, Bool.not_true]
    refine h4 _ _ ?_
    try clear h4 K_h4
    refine T.cond rfl (fun h => by cases h) (fun _ => T.skip ?_)
    refine h3 _ _ ?_
    try clear h3 K_h3
    refine T.seq_k (fun K_h3 h3 => ?_)
    refine T.regi hm ?_
    simp only [↓reduceIte, namesOf, List.any, I.names, aops, aopsI, aopsT, qstep, CPt, qget, Tbl.get, astep, ev, setd, List.set, List.getD, List.getElem?_cons_zero, List.getElem?_cons_succ, List.getElem?_nil, List.cons_append, List.nil_append, List.length_cons, List.length_nil, List.replicate, then_normal, inBlock_normal, Option.getD_some, Option.getD_none, Bool.or_false, Bool.or_true, Bool.true_or, Bool.false_or, Bool.false_eq_true, if_false, if_true, up_zero, Nat.reduceAdd, Nat.reduceSub, binv, ↓opt_def, AV.isAny, AV.cells, ldc, List.map_cons, List.map_nil, St.set_next, St.set_same, St.up_next, Int.natCast_nonneg, lt_len, le_len, Int.toNat_natCast, true_and, and_true, eq_self, reduceCtorEq, decide_true, List.length_singleton, er_int, er_bool, er_str, hb, AV.fits, AV.one, List.all_cons, List.all_nil, Nat.reduceBEq, Bool.and_true, Bool.not_false, Bool.and_self, Nat.zero_add, splice, List.take, List.drop, Nat.reduceLeDiff]
    refine (sput1_ok hmay).mono ?_
    rintro v τ3 ⟨rfl, rfl⟩
    try simp only [↓reduceIte, namesOf, List.any, I.names, aops, aopsI, aopsT, qstep, CPt, qget, Tbl.get, astep, ev, setd, List.set, List.getD, List.getElem?_cons_zero, List.getElem?_cons_succ, List.getElem?_nil, List.cons_append, List.nil_append, List.length_cons, List.length_nil, List.replicate, then_normal, inBlock_normal, Option.getD_some, Option.getD_none, Bool.or_false, Bool.or_true, Bool.true_or, Bool.false_or, Bool.false_eq_true, if_false, if_true, up_zero, Nat.reduceAdd, Nat.reduceSub, binv, ↓opt_def, AV.isAny, AV.cells, ldc, List.map_cons, List.map_nil, St.set_next, St.set_same, St.up_next, Int.natCast_nonneg, lt_len, le_len, Int.toNat_natCast, true_and, and_true, eq_self, reduceCtorEq, decide_true, List.length_singleton, er_int, er_bool, er_str, up_zero]
    refine h3 _ _ ?_
    try clear h3 K_h3
    refine T.seq_k (fun K_h3 h3 => ?_)
    refine T.seq_k (fun K_h0 h0 => ?_)
    refine T.regi hm ?_
    simp only [↓reduceIte, namesOf, List.any, I.names, aops, aopsI, aopsT, qstep, CPt, qget, Tbl.get, astep, ev, setd, List.set, List.getD, List.getElem?_cons_zero, List.getElem?_cons_succ, List.getElem?_nil, List.cons_append, List.nil_append, List.length_cons, List.length_nil, List.replicate, then_normal, inBlock_normal, Option.getD_some, Option.getD_none, Bool.or_false, Bool.or_true, Bool.true_or, Bool.false_or, Bool.false_eq_true, if_false, if_true, up_zero, Nat.reduceAdd, Nat.reduceSub, binv, ↓opt_def, AV.isAny, AV.cells, ldc, List.map_cons, List.map_nil, St.set_next, St.set_same, St.up_next, Int.natCast_nonneg, lt_len, le_len, Int.toNat_natCast, true_and, and_true, eq_self, reduceCtorEq, decide_true, List.length_singleton, er_int, er_bool, er_str, eqIv, bne_self_eq_false]
    refine h0 _ _ ?_
    try clear h0 K_h0
    refine T.cond rfl (fun h => by cases h) (fun _ => T.skip ?_)
    refine h3 _ _ ?_
    try clear h3 K_h3
    have hat := q1.ats
    have hsl := mayS_len hmay
    have hle : decide ((2 + ((l.take i).flatMap spanB).length + (s.da.length + 34)) * 1 ≤ 70368744177664 ∧ 2 + ((l.take i).flatMap spanB).length + (s.da.length + 34) ≤ 4611686018427387904) = true := app_le (by omega)
    refine T.regi hm ?_
    simp only [↓reduceIte, namesOf, List.any, I.names, aops, aopsI, aopsT, qstep, CPt, qget, Tbl.get, astep, ev, setd, List.set, List.getD, List.getElem?_cons_zero, List.getElem?_cons_succ, List.getElem?_nil, List.cons_append, List.nil_append, List.length_cons, List.length_nil, List.replicate, then_normal, inBlock_normal, Option.getD_some, Option.getD_none, Bool.or_false, Bool.or_true, Bool.true_or, Bool.false_or, Bool.false_eq_true, if_false, if_true, up_zero, Nat.reduceAdd, Nat.reduceSub, binv, ↓opt_def, AV.isAny, AV.cells, ldc, List.map_cons, List.map_nil, St.set_next, St.set_same, St.up_next, Int.natCast_nonneg, lt_len, le_len, Int.toNat_natCast, true_and, and_true, eq_self, reduceCtorEq, decide_true, List.length_singleton, er_int, er_bool, er_str, held, srcOf, bytesAV_er, bytesAV_app, bytes_all, bytesAV_len, List.length_append, Bool.and_self, St.up_res, List.isEmpty, hat, beB_len, spanB_len, hle]
    refine h2 _ _ ?_
    try clear h2 K_h2
    refine T.regi hm ?_
    simp only [↓reduceIte, namesOf, List.any, I.names, aops, aopsI, aopsT, qstep, CPt, qget, Tbl.get, astep, ev, setd, List.set, List.getD, List.getElem?_cons_zero, List.getElem?_cons_succ, List.getElem?_nil, List.cons_append, List.nil_append, List.length_cons, List.length_nil, List.replicate, then_normal, inBlock_normal, Option.getD_some, Option.getD_none, Bool.or_false, Bool.or_true, Bool.true_or, Bool.false_or, Bool.false_eq_true, if_false, if_true, up_zero, Nat.reduceAdd, Nat.reduceSub, binv, ↓opt_def, AV.isAny, AV.cells, ldc, List.map_cons, List.map_nil, St.set_next, St.set_same, St.up_next, Int.natCast_nonneg, lt_len, le_len, Int.toNat_natCast, true_and, and_true, eq_self, reduceCtorEq, decide_true, List.length_singleton, er_int, er_bool, er_str, hiw]
    refine ⟨hil, _, _, Gh.keep [2, 3, 4, 24, 25, 26], _, q1.app (n := 4) (i := 2) (by omega), by rw [hta, hall, hmay]; rfl, ?_⟩
    rw [hfs, ← List.append_assoc]; rfl

end Go.VL

namespace Go.VL

open Go.Proofs

def trB (t : Tc) : List UInt8 := beB 8 t.id ++ (beB 4 (spansB t.sp).length ++ spansB t.sp)

theorem spansB_len (l : List Sp) : (spansB l).length = 2 + (l.flatMap spanB).length := by simp [spansB, beB_len]

theorem trB_len (t : Tc) : (trB t).length = 12 + (spansB t.sp).length := by simp [trB, beB_len]; omega

def pageB (l : List Tc) : List UInt8 := sealB (beB 2 l.length ++ l.flatMap trB)

theorem pput1_ok {t : Tc} {σ : St} (hl : t.sp.length ≤ 1000) (hm : t.sp.all mayS = true) :
    ACalls Try.prog n_pput1 [.agg [.int .u64 (t.id : Int), .sl (spsAV t.sp) .none]] σ (fun v σ' => v = .tup [.sl (bytesAV (trB t)) .none, .nili] ∧ σ' = σ) := by
  refine s_pput1 (fun wf => ?_)
  unfold c_pput1
  have hall := hm
  have hm := VL.hm
  have hmem : ∀ s ∈ t.sp, s.da.length ≤ 200 := fun s hs => mayS_len (List.all_eq_true.1 hall s hs)
  have hfl : (t.sp.flatMap spanB).length ≤ 1000 * 234 := Nat.le_trans (spans_le hmem) (Nat.mul_le_mul_right _ hl)
  have hsl := spansB_len t.sp
  refine T.seq_k (fun K_h1 h1 => ?_)
  refine T.regi hm ?_
  simp only [↓reduceIte, namesOf, List.any, I.names, aops, aopsI, aopsT, qstep, CPt, qget, Tbl.get, astep, ev, setd, List.set, List.getD, List.getElem?_cons_zero, List.getElem?_cons_succ, List.getElem?_nil, List.cons_append, List.nil_append, List.length_cons, List.length_nil, List.replicate, then_normal, inBlock_normal, Option.getD_some, Option.getD_none, Bool.or_false, Bool.or_true, Bool.true_or, Bool.false_or, Bool.false_eq_true, if_false, if_true, up_zero, Nat.reduceAdd, Nat.reduceSub, binv, ↓opt_def, AV.isAny, AV.cells, ldc, List.map_cons, List.map_nil, St.set_next, St.set_same, St.up_next, Int.natCast_nonneg, lt_len, le_len, Int.toNat_natCast, true_and, and_true, eq_self, reduceCtorEq, decide_true, List.length_singleton, er_int, er_bool, er_str]
  have k0 : Like σ ((σ.up 3).set (σ.next + 0) (.obj [.int .u64 (t.id : Int), .sl (spsAV t.sp) .none])) := (Like.refl σ).box _
  have hb : ((σ.up 3).set (σ.next + 0) (.obj [.int .u64 (t.id : Int), .sl (spsAV t.sp) .none])).res (σ.next + 0) = some (.obj [.int .u64 (t.id : Int), .sl (spsAV t.sp) .none]) := by simp
  have ha : σ.next + 0 < ((σ.up 3).set (σ.next + 0) (.obj [.int .u64 (t.id : Int), .sl (spsAV t.sp) .none])).next := by simp
  generalize ((σ.up 3).set (σ.next + 0) (.obj [.int .u64 (t.id : Int), .sl (spsAV t.sp) .none])) = τ at k0 hb ha ⊢
  generalize σ.next + 0 = a at hb ha ⊢
  refine h1 _ _ ?_
  try clear h1 K_h1
  refine T.seq_k (fun K_h1 h1 => ?_)
  refine T.regi hm ?_
  simp only [↓reduceIte, namesOf, List.any, I.names, aops, aopsI, aopsT, qstep, CPt, qget, Tbl.get, astep, ev, setd, List.set, List.getD, List.getElem?_cons_zero, List.getElem?_cons_succ, List.getElem?_nil, List.cons_append, List.nil_append, List.length_cons, List.length_nil, List.replicate, then_normal, inBlock_normal, Option.getD_some, Option.getD_none, Bool.or_false, Bool.or_true, Bool.true_or, Bool.false_or, Bool.false_eq_true, if_false, if_true, up_zero, Nat.reduceAdd, Nat.reduceSub, binv, ↓opt_def, AV.isAny, AV.cells, ldc, List.map_cons, List.map_nil, St.set_next, St.set_same, St.up_next, Int.natCast_nonneg, lt_len, le_len, Int.toNat_natCast, true_and, and_true, eq_self, reduceCtorEq, decide_true, List.length_singleton, er_int, er_bool, er_str, hb]
  refine (spput_ok (by omega) (fun s hs => by have := hmem s hs; omega)).mono ?_
  rintro v τ1 ⟨rfl, rfl⟩
  rw [if_pos hall]
  try simp only [↓reduceIte, namesOf, List.any, I.names, aops, aopsI, aopsT, qstep, CPt, qget, Tbl.get, astep, ev, setd, List.set, List.getD, List.getElem?_cons_zero, List.getElem?_cons_succ, List.getElem?_nil, List.cons_append, List.nil_append, List.length_cons, List.length_nil, List.replicate, then_normal, inBlock_normal, Option.getD_some, Option.getD_none, Bool.or_false, Bool.or_true, Bool.true_or, Bool.false_or, Bool.false_eq_true, if_false, if_true, up_zero, Nat.reduceAdd, Nat.reduceSub, binv, ↓opt_def, AV.isAny, AV.cells, ldc, List.map_cons, List.map_nil, St.set_next, St.set_same, St.up_next, Int.natCast_nonneg, lt_len, le_len, Int.toNat_natCast, true_and, and_true, eq_self, reduceCtorEq, decide_true, List.length_singleton, er_int, er_bool, er_str, up_zero]
  refine h1 _ _ ?_
  try clear h1 K_h1
  refine T.seq_k (fun K_h1 h1 => ?_)
  refine T.seq_k (fun K_h0 h0 => ?_)
  refine T.regi hm ?_
  simp only [↓reduceIte, namesOf, List.any, I.names, aops, aopsI, aopsT, qstep, CPt, qget, Tbl.get, astep, ev, setd, List.set, List.getD, List.getElem?_cons_zero, List.getElem?_cons_succ, List.getElem?_nil, List.cons_append, List.nil_append, List.length_cons, List.length_nil, List.replicate, then_normal, inBlock_normal, Option.getD_some, Option.getD_none, Bool.or_false, Bool.or_true, Bool.true_or, Bool.false_or, Bool.false_eq_true, if_false, if_true, up_zero, Nat.reduceAdd, Nat.reduceSub, binv, ↓opt_def, AV.isAny, AV.cells, ldc, List.map_cons, List.map_nil, St.set_next, St.set_same, St.up_next, Int.natCast_nonneg, lt_len, le_len, Int.toNat_natCast, true_and, and_true, eq_self, reduceCtorEq, decide_true, List.length_singleton, er_int, er_bool, er_str, eqIv, bne_self_eq_false]
  refine h0 _ _ ?_
  try clear h0 K_h0
  refine T.cond rfl (fun h => by cases h) (fun _ => T.skip ?_)
  refine h1 _ _ ?_
  try clear h1 K_h1
  have hnil : AV.sl [] .nil = .sl (bytesAV []) .nil := rfl
  refine T.seq_k (fun K_h1 h1 => ?_)
  rw [hnil]
  refine T.regi hm ?_
  simp only [↓reduceIte, namesOf, List.any, I.names, aops, aopsI, aopsT, qstep, CPt, qget, Tbl.get, astep, ev, setd, List.set, List.getD, List.getElem?_cons_zero, List.getElem?_cons_succ, List.getElem?_nil, List.cons_append, List.nil_append, List.length_cons, List.length_nil, List.replicate, then_normal, inBlock_normal, Option.getD_some, Option.getD_none, Bool.or_false, Bool.or_true, Bool.true_or, Bool.false_or, Bool.false_eq_true, if_false, if_true, up_zero, Nat.reduceAdd, Nat.reduceSub, binv, ↓opt_def, AV.isAny, AV.cells, ldc, List.map_cons, List.map_nil, St.set_next, St.set_same, St.up_next, Int.natCast_nonneg, lt_len, le_len, Int.toNat_natCast, true_and, and_true, eq_self, reduceCtorEq, decide_true, List.length_singleton, er_int, er_bool, er_str, hb]
  refine (wput_q (l := []) (w := 8) (by simp) rfl (fun h => by omega)).mono ?_
  rintro v τ2 ⟨rfl, rfl⟩
  rw [List.nil_append, ← hnil]
  try simp only [↓reduceIte, namesOf, List.any, I.names, aops, aopsI, aopsT, qstep, CPt, qget, Tbl.get, astep, ev, setd, List.set, List.getD, List.getElem?_cons_zero, List.getElem?_cons_succ, List.getElem?_nil, List.cons_append, List.nil_append, List.length_cons, List.length_nil, List.replicate, then_normal, inBlock_normal, Option.getD_some, Option.getD_none, Bool.or_false, Bool.or_true, Bool.true_or, Bool.false_or, Bool.false_eq_true, if_false, if_true, up_zero, Nat.reduceAdd, Nat.reduceSub, binv, ↓opt_def, AV.isAny, AV.cells, ldc, List.map_cons, List.map_nil, St.set_next, St.set_same, St.up_next, Int.natCast_nonneg, lt_len, le_len, Int.toNat_natCast, true_and, and_true, eq_self, reduceCtorEq, decide_true, List.length_singleton, er_int, er_bool, er_str, up_zero]
  refine h1 _ _ ?_
  try clear h1 K_h1
  refine T.seq_k (fun K_h1 h1 => ?_)
  refine T.seq_k (fun K_h0 h0 => ?_)
  refine T.regi hm ?_
  simp only [↓reduceIte, namesOf, List.any, I.names, aops, aopsI, aopsT, qstep, CPt, qget, Tbl.get, astep, ev, setd, List.set, List.getD, List.getElem?_cons_zero, List.getElem?_cons_succ, List.getElem?_nil, List.cons_append, List.nil_append, List.length_cons, List.length_nil, List.replicate, then_normal, inBlock_normal, Option.getD_some, Option.getD_none, Bool.or_false, Bool.or_true, Bool.true_or, Bool.false_or, Bool.false_eq_true, if_false, if_true, up_zero, Nat.reduceAdd, Nat.reduceSub, binv, ↓opt_def, AV.isAny, AV.cells, ldc, List.map_cons, List.map_nil, St.set_next, St.set_same, St.up_next, Int.natCast_nonneg, lt_len, le_len, Int.toNat_natCast, true_and, and_true, eq_self, reduceCtorEq, decide_true, List.length_singleton, er_int, er_bool, er_str, eqIv, bne_self_eq_false]
  refine h0 _ _ ?_
  try clear h0 K_h0
  refine T.cond rfl (fun h => by cases h) (fun _ => T.skip ?_)
  refine h1 _ _ ?_
  try clear h1 K_h1
  have e2 := u64w (n := (spansB t.sp).length) (by omega)
  refine T.seq_k (fun K_h1 h1 => ?_)
  refine T.regi hm ?_
  simp only [↓reduceIte, namesOf, List.any, I.names, aops, aopsI, aopsT, qstep, CPt, qget, Tbl.get, astep, ev, setd, List.set, List.getD, List.getElem?_cons_zero, List.getElem?_cons_succ, List.getElem?_nil, List.cons_append, List.nil_append, List.length_cons, List.length_nil, List.replicate, then_normal, inBlock_normal, Option.getD_some, Option.getD_none, Bool.or_false, Bool.or_true, Bool.true_or, Bool.false_or, Bool.false_eq_true, if_false, if_true, up_zero, Nat.reduceAdd, Nat.reduceSub, binv, ↓opt_def, AV.isAny, AV.cells, ldc, List.map_cons, List.map_nil, St.set_next, St.set_same, St.up_next, Int.natCast_nonneg, lt_len, le_len, Int.toNat_natCast, true_and, and_true, eq_self, reduceCtorEq, decide_true, List.length_singleton, er_int, er_bool, er_str, bytesAV_len, e2]
  refine (wput_ok (w := 4) (by rw [beB_len]; omega) rfl (fun _ => by omega)).mono ?_
  rintro v τ3 ⟨h, o1, rfl⟩
  have q := Tq.trans k0 (Tq.one o1)
  try simp only [↓reduceIte, namesOf, List.any, I.names, aops, aopsI, aopsT, qstep, CPt, qget, Tbl.get, astep, ev, setd, List.set, List.getD, List.getElem?_cons_zero, List.getElem?_cons_succ, List.getElem?_nil, List.cons_append, List.nil_append, List.length_cons, List.length_nil, List.replicate, then_normal, inBlock_normal, Option.getD_some, Option.getD_none, Bool.or_false, Bool.or_true, Bool.true_or, Bool.false_or, Bool.false_eq_true, if_false, if_true, up_zero, Nat.reduceAdd, Nat.reduceSub, binv, ↓opt_def, AV.isAny, AV.cells, ldc, List.map_cons, List.map_nil, St.set_next, St.set_same, St.up_next, Int.natCast_nonneg, lt_len, le_len, Int.toNat_natCast, true_and, and_true, eq_self, reduceCtorEq, decide_true, List.length_singleton, er_int, er_bool, er_str, up_zero]
  refine h1 _ _ ?_
  try clear h1 K_h1
  have hat := q.ats
  have hle : decide ((8 + 4 + (spansB t.sp).length) * 1 ≤ 70368744177664 ∧ 8 + 4 + (spansB t.sp).length ≤ 4611686018427387904) = true := app_le (by omega)
  have hle2 : decide ((12 + (spansB t.sp).length) * 1 ≤ 70368744177664 ∧ 12 + (spansB t.sp).length ≤ 4611686018427387904) = true := app_le (by omega)
  refine T.seq_k (fun K_h1 h1 => ?_)
  refine T.regi hm ?_
  simp only [↓reduceIte, namesOf, List.any, I.names, aops, aopsI, aopsT, qstep, CPt, qget, Tbl.get, astep, ev, setd, List.set, List.getD, List.getElem?_cons_zero, List.getElem?_cons_succ, List.getElem?_nil, List.cons_append, List.nil_append, List.length_cons, List.length_nil, List.replicate, then_normal, inBlock_normal, Option.getD_some, Option.getD_none, Bool.or_false, Bool.or_true, Bool.true_or, Bool.false_or, Bool.false_eq_true, if_false, if_true, up_zero, Nat.reduceAdd, Nat.reduceSub, binv, ↓opt_def, AV.isAny, AV.cells, ldc, List.map_cons, List.map_nil, St.set_next, St.set_same, St.up_next, Int.natCast_nonneg, lt_len, le_len, Int.toNat_natCast, true_and, and_true, eq_self, reduceCtorEq, decide_true, List.length_singleton, er_int, er_bool, er_str, held, srcOf, bytesAV_er, bytesAV_app, bytes_all, bytesAV_len, List.length_append, Bool.and_self, St.up_res, List.isEmpty, hat, beB_len, hle, hle2]
  refine h1 _ _ ?_
  try clear h1 K_h1
  have q2 := q.app (n := 6) (i := 2) (by omega)
  refine T.ret (Fin.quietw rfl (Wk.tup2 (Wk.sl _ _)) ⟨⟨nb_bytes _ _, trivial⟩, trivial, trivial⟩ (q2.quiet wf) ⟨?_, rfl⟩)
  rw [trB, List.append_assoc]; rfl

/-- what canonical traces are -/
theorem is_each {l : List Tc} (h : isB l = true) {t : Tc} (ht : t ∈ l) : oneB t = true := by
  obtain ⟨i, hi⟩ := List.getElem?_of_mem ht
  have hil := (List.getElem?_eq_some_iff.1 hi).1
  have := List.all_eq_true.1 h i (by simpa using hil)
  unfold isAt at this
  rw [hi] at this
  simp only [Bool.and_eq_true] at this
  exact this.1

theorem one_facts {t : Tc} (h : oneB t = true) : t.sp.all mayS = true ∧ 1 ≤ t.sp.length ∧ t.sp.length ≤ 100 := by
  unfold oneB at h
  simp only [Bool.and_eq_true, decide_eq_true_eq] at h
  refine ⟨?_, h.1.2, h.2⟩
  rw [List.all_eq_true]
  intro s hs
  obtain ⟨i, hi⟩ := List.getElem?_of_mem hs
  have hil := (List.getElem?_eq_some_iff.1 hi).1
  have := List.all_eq_true.1 h.1.1 i (by simpa using hil)
  unfold okAt at this
  rw [hi] at this
  simp only [Bool.and_eq_true] at this
  exact this.1.1.2

theorem trs_le {l : List Tc} (h : ∀ t ∈ l, (trB t).length ≤ 30000) : (l.flatMap trB).length ≤ l.length * 30000 := by
  induction l with
  | nil => simp
  | cons s r ih =>
    rw [List.flatMap_cons, List.length_append, List.length_cons, Nat.add_mul]
    have := h s (by simp)
    have := ih (fun x hx => h x (List.mem_cons_of_mem _ hx))
    omega

theorem trB_le {t : Tc} (h : oneB t = true) : (trB t).length ≤ 30000 := by
  obtain ⟨h1, _, h3⟩ := one_facts h
  rw [trB_len, spansB_len]
  have : (t.sp.flatMap spanB).length ≤ 100 * 234 := Nat.le_trans (spans_le (fun s hs => mayS_len (List.all_eq_true.1 h1 s hs))) (Nat.mul_le_mul_right _ h3)
  omega

end Go.VL

namespace Go.VL

open Go.Proofs

theorem tcs_snoc' (a : List Tc) (i : Nat) (l : List Sp) : tcsAV a ++ [.agg [.int .u64 (i : Int), .sl (spsAV l) .none]] = tcsAV (a ++ [⟨i, l⟩]) := by simp [tcsAV, Tc.av, spsAV]

end Go.VL

namespace Go.VL

open Go.Proofs

theorem rtext_ok {s : List UInt8} {g : Ver} {σ : St} (hs : s.length ≤ 1000000000) :
    ACalls Try.prog n_rtext [.sl (bytesAV s) g] σ (fun v σ' => v = .sl (bytesAV (textB s)) .none ∧ σ' = σ) := by
  refine s_rtext (fun wf => ?_)
  unfold c_rtext
  have e2 := u64w (n := s.length) (by omega)
  refine T.seq_k (fun K_h0 h0 => ?_)
  refine T.regi hm ?_
  simp only [↓reduceIte, namesOf, List.any, I.names, aops, aopsI, aopsT, qstep, CPt, qget, Tbl.get, astep, ev, setd, List.set, List.getD, List.getElem?_cons_zero, List.getElem?_cons_succ, List.getElem?_nil, List.cons_append, List.nil_append, List.length_cons, List.length_nil, List.replicate, then_normal, inBlock_normal, Option.getD_some, Option.getD_none, Bool.or_false, Bool.or_true, Bool.true_or, Bool.false_or, Bool.false_eq_true, if_false, if_true, up_zero, Nat.reduceAdd, Nat.reduceSub, binv, ↓opt_def, AV.isAny, AV.cells, ldc, List.map_cons, List.map_nil, St.set_next, St.set_same, St.up_next, Int.natCast_nonneg, lt_len, le_len, Int.toNat_natCast, true_and, and_true, eq_self, reduceCtorEq, decide_true, List.length_singleton, er_int, er_bool, er_str]
  refine h0 _ _ ?_
  try clear h0 K_h0
  refine T.seq_k (fun K_h1 h1 => ?_)
  refine T.regi hm ?_
  simp only [↓reduceIte, namesOf, List.any, I.names, aops, aopsI, aopsT, qstep, CPt, qget, Tbl.get, astep, ev, setd, List.set, List.getD, List.getElem?_cons_zero, List.getElem?_cons_succ, List.getElem?_nil, List.cons_append, List.nil_append, List.length_cons, List.length_nil, List.replicate, then_normal, inBlock_normal, Option.getD_some, Option.getD_none, Bool.or_false, Bool.or_true, Bool.true_or, Bool.false_or, Bool.false_eq_true, if_false, if_true, up_zero, Nat.reduceAdd, Nat.reduceSub, binv, ↓opt_def, AV.isAny, AV.cells, ldc, List.map_cons, List.map_nil, St.set_next, St.set_same, St.up_next, Int.natCast_nonneg, lt_len, le_len, Int.toNat_natCast, true_and, and_true, eq_self, reduceCtorEq, decide_true, List.length_singleton, er_int, er_bool, er_str, bytesAV_len, e2]
  refine (rbytes_ok (w := 2) (by omega) (by omega)).mono ?_
  rintro v σ1 (⟨h0, _⟩ | ⟨h, o1, rfl⟩)
  · cases h0
  have q0 := Tq.in_ (Like.refl σ) o1
  have hi := o1.nx (i := 5) (by omega)
  have hat : σ1.res h = some (.tip 1) := o1.at_
  have hle : decide ((2 + s.length) * 1 ≤ 70368744177664 ∧ 2 + s.length ≤ 4611686018427387904) = true := app_le (by omega)
  try simp only [↓reduceIte, namesOf, List.any, I.names, aops, aopsI, aopsT, qstep, CPt, qget, Tbl.get, astep, ev, setd, List.set, List.getD, List.getElem?_cons_zero, List.getElem?_cons_succ, List.getElem?_nil, List.cons_append, List.nil_append, List.length_cons, List.length_nil, List.replicate, then_normal, inBlock_normal, Option.getD_some, Option.getD_none, Bool.or_false, Bool.or_true, Bool.true_or, Bool.false_or, Bool.false_eq_true, if_false, if_true, up_zero, Nat.reduceAdd, Nat.reduceSub, binv, ↓opt_def, AV.isAny, AV.cells, ldc, List.map_cons, List.map_nil, St.set_next, St.set_same, St.up_next, Int.natCast_nonneg, lt_len, le_len, Int.toNat_natCast, true_and, and_true, eq_self, reduceCtorEq, decide_true, List.length_singleton, er_int, er_bool, er_str, held, srcOf, bytesAV_er, bytesAV_app, bytes_all, bytesAV_len, List.length_append, Bool.and_self, St.up_res, List.isEmpty, hat, beB_len, hle]
  have q1 := q0.mv (g2 := σ.next + 5) (by omega) hi
  refine h1 _ _ ?_
  try clear h1 K_h1
  exact T.ret (Fin.quietw rfl (Wk.sl _ _) ⟨nb_bytes _ _, trivial⟩ (q1.quiet wf) ⟨rfl, rfl⟩)

set_option maxRecDepth 10000 in
set_option maxHeartbeats 2000000 in
theorem rspB_ok {l : List Sp} {g : Ver} {σ : St} (hl : l.length ≤ 65535) (hd : ∀ s ∈ l, mayS s = true ∧ s.wd) :
    ACalls Try.prog n_rspB [.sl (spsAV l) g] σ (fun v σ' => v = .sl (bytesAV (spansB l)) .none ∧ σ' = σ) := by
  refine s_rspB (fun wf => ?_)
  unfold c_rspB
  have e2 := u64w (n := l.length) (by omega)
  refine T.seq_k (fun K_h0 h0 => ?_)
  refine T.regi hm ?_
  simp only [↓reduceIte, namesOf, List.any, I.names, aops, aopsI, aopsT, qstep, CPt, qget, Tbl.get, astep, ev, setd, List.set, List.getD, List.getElem?_cons_zero, List.getElem?_cons_succ, List.getElem?_nil, List.cons_append, List.nil_append, List.length_cons, List.length_nil, List.replicate, then_normal, inBlock_normal, Option.getD_some, Option.getD_none, Bool.or_false, Bool.or_true, Bool.true_or, Bool.false_or, Bool.false_eq_true, if_false, if_true, up_zero, Nat.reduceAdd, Nat.reduceSub, binv, ↓opt_def, AV.isAny, AV.cells, ldc, List.map_cons, List.map_nil, St.set_next, St.set_same, St.up_next, Int.natCast_nonneg, lt_len, le_len, Int.toNat_natCast, true_and, and_true, eq_self, reduceCtorEq, decide_true, List.length_singleton, er_int, er_bool, er_str]
  refine h0 _ _ ?_
  try clear h0 K_h0
  refine T.seq_k (fun K_h1 h1 => ?_)
  refine T.regi hm ?_
  simp only [↓reduceIte, namesOf, List.any, I.names, aops, aopsI, aopsT, qstep, CPt, qget, Tbl.get, astep, ev, setd, List.set, List.getD, List.getElem?_cons_zero, List.getElem?_cons_succ, List.getElem?_nil, List.cons_append, List.nil_append, List.length_cons, List.length_nil, List.replicate, then_normal, inBlock_normal, Option.getD_some, Option.getD_none, Bool.or_false, Bool.or_true, Bool.true_or, Bool.false_or, Bool.false_eq_true, if_false, if_true, up_zero, Nat.reduceAdd, Nat.reduceSub, binv, ↓opt_def, AV.isAny, AV.cells, ldc, List.map_cons, List.map_nil, St.set_next, St.set_same, St.up_next, Int.natCast_nonneg, lt_len, le_len, Int.toNat_natCast, true_and, and_true, eq_self, reduceCtorEq, decide_true, List.length_singleton, er_int, er_bool, er_str, sps_len, e2]
  refine (rbytes_ok (w := 2) (by omega) (by omega)).mono ?_
  rintro v σ1 (⟨h0, _⟩ | ⟨h, o1, rfl⟩)
  · cases h0
  have q0 := Tq.one o1
  clear o1
  try simp only [↓reduceIte, namesOf, List.any, I.names, aops, aopsI, aopsT, qstep, CPt, qget, Tbl.get, astep, ev, setd, List.set, List.getD, List.getElem?_cons_zero, List.getElem?_cons_succ, List.getElem?_nil, List.cons_append, List.nil_append, List.length_cons, List.length_nil, List.replicate, then_normal, inBlock_normal, Option.getD_some, Option.getD_none, Bool.or_false, Bool.or_true, Bool.true_or, Bool.false_or, Bool.false_eq_true, if_false, if_true, up_zero, Nat.reduceAdd, Nat.reduceSub, binv, ↓opt_def, AV.isAny, AV.cells, ldc, List.map_cons, List.map_nil, St.set_next, St.set_same, St.up_next, Int.natCast_nonneg, lt_len, le_len, Int.toNat_natCast, true_and, and_true, eq_self, reduceCtorEq, decide_true, List.length_singleton, er_int, er_bool, er_str, up_zero]
  refine h1 _ _ ?_
  try clear h1 K_h1
  refine T.seq_k (fun K_h1 h1 => ?_)
  refine T.seq_k (fun K_h0 h0 => ?_)
  refine T.regi hm ?_
  simp only [↓reduceIte, namesOf, List.any, I.names, aops, aopsI, aopsT, qstep, CPt, qget, Tbl.get, astep, ev, setd, List.set, List.getD, List.getElem?_cons_zero, List.getElem?_cons_succ, List.getElem?_nil, List.cons_append, List.nil_append, List.length_cons, List.length_nil, List.replicate, then_normal, inBlock_normal, Option.getD_some, Option.getD_none, Bool.or_false, Bool.or_true, Bool.true_or, Bool.false_or, Bool.false_eq_true, if_false, if_true, up_zero, Nat.reduceAdd, Nat.reduceSub, binv, ↓opt_def, AV.isAny, AV.cells, ldc, List.map_cons, List.map_nil, St.set_next, St.set_same, St.up_next, Int.natCast_nonneg, lt_len, le_len, Int.toNat_natCast, true_and, and_true, eq_self, reduceCtorEq, decide_true, List.length_singleton, er_int, er_bool, er_str]
  refine h0 _ _ ?_
  try clear h0 K_h0
  refine T.block ?_
  refine T.gh (Gh.keep [0, 3, 4]) ?_
  refine T.loopi (fun i ρ t => (∃ g1, Tq σ t g1 1 ∧ ρ = [.sl (spsAV l) g, .any, .any, .sl (bytesAV (beB 2 l.length ++ (l.take i).flatMap spanB)) (.tip g1), .int .i64 (i : Int)] ++ List.replicate 43 .any))
    l.length 0 (Nat.zero_le _) ⟨h, q0, by rw [List.take_zero, List.flatMap_nil, List.append_nil]; rfl⟩ ?_
  clear q0 h
  rintro i ρ t hi ⟨h, q0, rfl⟩
  refine T.seq_k (fun K_h2 h2 => ?_)
  refine T.seq_k (fun K_h0 h0 => ?_)
  refine T.regi hm ?_
  simp only [↓reduceIte, namesOf, List.any, I.names, aops, aopsI, aopsT, qstep, CPt, qget, Tbl.get, astep, ev, setd, List.set, List.getD, List.getElem?_cons_zero, List.getElem?_cons_succ, List.getElem?_nil, List.cons_append, List.nil_append, List.length_cons, List.length_nil, List.replicate, then_normal, inBlock_normal, Option.getD_some, Option.getD_none, Bool.or_false, Bool.or_true, Bool.true_or, Bool.false_or, Bool.false_eq_true, if_false, if_true, up_zero, Nat.reduceAdd, Nat.reduceSub, binv, ↓opt_def, AV.isAny, AV.cells, ldc, List.map_cons, List.map_nil, St.set_next, St.set_same, St.up_next, Int.natCast_nonneg, lt_len, le_len, Int.toNat_natCast, true_and, and_true, eq_self, reduceCtorEq, decide_true, List.length_singleton, er_int, er_bool, er_str, sps_len]
  refine h0 _ _ ?_
  try clear h0 K_h0
  by_cases hil : i < l.length
  case neg =>
    refine T.cond (b := false) (by simp [ev]; omega) (fun h => by cases h) (fun _ => T.exit ?_)
    have : i = l.length := by omega
    subst this
    rw [List.take_length]
    try simp only [↓reduceIte, namesOf, List.any, I.names, aops, aopsI, aopsT, qstep, CPt, qget, Tbl.get, astep, ev, setd, List.set, List.getD, List.getElem?_cons_zero, List.getElem?_cons_succ, List.getElem?_nil, List.cons_append, List.nil_append, List.length_cons, List.length_nil, List.replicate, then_normal, inBlock_normal, Option.getD_some, Option.getD_none, Bool.or_false, Bool.or_true, Bool.true_or, Bool.false_or, Bool.false_eq_true, if_false, if_true, up_zero, Nat.reduceAdd, Nat.reduceSub, binv, ↓opt_def, AV.isAny, AV.cells, ldc, List.map_cons, List.map_nil, St.set_next, St.set_same, St.up_next, Int.natCast_nonneg, lt_len, le_len, Int.toNat_natCast, true_and, and_true, eq_self, reduceCtorEq, decide_true, List.length_singleton, er_int, er_bool, er_str, inBlock_exit, then_exit]
    refine h1 _ _ ?_
    try clear h1 K_h1
    refine T.seq_k (fun K_h0 h0 => ?_)
    refine T.regi hm ?_
    simp only [↓reduceIte, namesOf, List.any, I.names, aops, aopsI, aopsT, qstep, CPt, qget, Tbl.get, astep, ev, setd, List.set, List.getD, List.getElem?_cons_zero, List.getElem?_cons_succ, List.getElem?_nil, List.cons_append, List.nil_append, List.length_cons, List.length_nil, List.replicate, then_normal, inBlock_normal, Option.getD_some, Option.getD_none, Bool.or_false, Bool.or_true, Bool.true_or, Bool.false_or, Bool.false_eq_true, if_false, if_true, up_zero, Nat.reduceAdd, Nat.reduceSub, binv, ↓opt_def, AV.isAny, AV.cells, ldc, List.map_cons, List.map_nil, St.set_next, St.set_same, St.up_next, Int.natCast_nonneg, lt_len, le_len, Int.toNat_natCast, true_and, and_true, eq_self, reduceCtorEq, decide_true, List.length_singleton, er_int, er_bool, er_str]
    refine h0 _ _ ?_
    try clear h0 K_h0
    exact T.ret (Fin.quietw rfl (Wk.sl _ _) ⟨nb_bytes _ _, trivial⟩ (q0.quiet wf) ⟨rfl, rfl⟩)
  refine T.cond (b := true) (by simp [ev]; omega) (fun _ => T.skip ?_) (fun h => by cases h)
  refine h2 _ _ ?_
  try clear h2 K_h2
  have hiw := inc64' hil (by omega)
  have hilI : (i : Int) < (l.length : Int) := by omega
  have hg := sps_get hil
  obtain ⟨hmay, hw1, hw2⟩ := hd _ (List.getElem_mem hil)
  have hfs := flat_snoc spanB hil
  have hpl : ((l.take i).flatMap spanB).length ≤ 65535 * 234 := by
    refine Nat.le_trans (spans_le (fun s hs => mayS_len (hd s (List.mem_of_mem_take hs)).1)) (Nat.mul_le_mul_right _ ?_)
    rw [List.length_take]; omega
  generalize l[i] = s at hg hmay hw1 hw2 hfs
  rw [spav] at hg
  obtain ⟨m1, m2, m3, m4⟩ := mayS_facts hmay
  have e3 : IntKind.u64.wrap s.st = ((s.st.toNat : Nat) : Int) := by
    have := u64w (n := s.st.toNat) (by omega)
    rw [Int.toNat_of_nonneg m1] at this
    rw [this, Int.toNat_of_nonneg m1]
  have e4 : IntKind.u64.wrap s.en = ((s.en.toNat : Nat) : Int) := by
    have := u64w (n := s.en.toNat) (by omega)
    rw [Int.toNat_of_nonneg (by omega)] at this
    rw [this, Int.toNat_of_nonneg (by omega)]
  generalize hP : beB 2 l.length ++ (l.take i).flatMap spanB = P0
  have hPl0 : P0.length ≤ 2 + 65535 * 234 := by rw [← hP, List.length_append, beB_len]; omega
  refine T.seq_k (fun K_h2 h2 => ?_)
  refine T.block ?_
  refine T.seq_k (fun K_h3 h3 => ?_)
  refine T.regi hm ?_
  simp only [↓reduceIte, namesOf, List.any, I.names, aops, aopsI, aopsT, qstep, CPt, qget, Tbl.get, astep, ev, setd, List.set, List.getD, List.getElem?_cons_zero, List.getElem?_cons_succ, List.getElem?_nil, List.cons_append, List.nil_append, List.length_cons, List.length_nil, List.replicate, then_normal, inBlock_normal, Option.getD_some, Option.getD_none, Bool.or_false, Bool.or_true, Bool.true_or, Bool.false_or, Bool.false_eq_true, if_false, if_true, up_zero, Nat.reduceAdd, Nat.reduceSub, binv, ↓opt_def, AV.isAny, AV.cells, ldc, List.map_cons, List.map_nil, St.set_next, St.set_same, St.up_next, Int.natCast_nonneg, lt_len, le_len, Int.toNat_natCast, true_and, and_true, eq_self, reduceCtorEq, decide_true, List.length_singleton, er_int, er_bool, er_str, sps_len, hg, hilI, AV.fits, AV.one, List.all_cons, List.all_nil, Nat.reduceBEq, Bool.and_true, Bool.not_false, Bool.and_self, Nat.zero_add, splice, List.take, List.drop, Nat.reduceLeDiff, St.set_set]
  have q1 := q0.tb (n := 6) (i := 4) (by omega) (.obj [.int .u64 (s.tr : Int), .int .u64 (s.id : Int), .int .i64 s.st, .int .i64 s.en, .sl (bytesAV s.da) .none])
  generalize ((t.up 6).set (t.next + 4) (.obj [.int .u64 (s.tr : Int), .int .u64 (s.id : Int), .int .i64 s.st, .int .i64 s.en, .sl (bytesAV s.da) .none])) = τ0 at q1 ⊢
  generalize t.next + 4 = a at q1 ⊢
  clear q0 t
  refine h3 _ _ ?_
  try clear h3 K_h3
  have hle0 : decide ((P0.length + 8) * 1 ≤ 70368744177664 ∧ P0.length + 8 ≤ 4611686018427387904) = true := app_le (by omega)
  have hat0 := q1.q.ats
  have hb0 := q1.bs
  refine T.seq_k (fun K_h3 h3 => ?_)
  refine T.regi hm ?_
  simp only [↓reduceIte, namesOf, List.any, I.names, aops, aopsI, aopsT, qstep, CPt, qget, Tbl.get, astep, ev, setd, List.set, List.getD, List.getElem?_cons_zero, List.getElem?_cons_succ, List.getElem?_nil, List.cons_append, List.nil_append, List.length_cons, List.length_nil, List.replicate, then_normal, inBlock_normal, Option.getD_some, Option.getD_none, Bool.or_false, Bool.or_true, Bool.true_or, Bool.false_or, Bool.false_eq_true, if_false, if_true, up_zero, Nat.reduceAdd, Nat.reduceSub, binv, ↓opt_def, AV.isAny, AV.cells, ldc, List.map_cons, List.map_nil, St.set_next, St.set_same, St.up_next, Int.natCast_nonneg, lt_len, le_len, Int.toNat_natCast, true_and, and_true, eq_self, reduceCtorEq, decide_true, List.length_singleton, er_int, er_bool, er_str, hb0, e3, e4]
  refine (rbytes_q (w := 8) (n := s.tr) (by omega) hw1).mono ?_
  rintro v t2 ⟨rfl, rfl⟩
  try simp only [↓reduceIte, namesOf, List.any, I.names, aops, aopsI, aopsT, qstep, CPt, qget, Tbl.get, astep, ev, setd, List.set, List.getD, List.getElem?_cons_zero, List.getElem?_cons_succ, List.getElem?_nil, List.cons_append, List.nil_append, List.length_cons, List.length_nil, List.replicate, then_normal, inBlock_normal, Option.getD_some, Option.getD_none, Bool.or_false, Bool.or_true, Bool.true_or, Bool.false_or, Bool.false_eq_true, if_false, if_true, up_zero, Nat.reduceAdd, Nat.reduceSub, binv, ↓opt_def, AV.isAny, AV.cells, ldc, List.map_cons, List.map_nil, St.set_next, St.set_same, St.up_next, Int.natCast_nonneg, lt_len, le_len, Int.toNat_natCast, true_and, and_true, eq_self, reduceCtorEq, decide_true, List.length_singleton, er_int, er_bool, er_str, held, srcOf, bytesAV_er, bytesAV_app, bytes_all, bytesAV_len, List.length_append, Bool.and_self, St.up_res, List.isEmpty, hat0, beB_len, hle0]
  have q2 := q1.app (n := 6) (i := 4) (by omega)
  generalize (((τ0.up 6).del h).set (τ0.next + 4) (.tip 1)) = τ1 at q2 ⊢
  generalize τ0.next + 4 = g1 at q2 ⊢
  clear q1 hat0 hb0 hle0
  generalize hP0 : P0 ++ beB 8 s.tr = P1
  have hPl1 : P1.length ≤ P0.length + 8 := by rw [← hP0, List.length_append, beB_len]; omega
  refine h3 _ _ ?_
  try clear h3 K_h3
  have hle1 : decide ((P1.length + 8) * 1 ≤ 70368744177664 ∧ P1.length + 8 ≤ 4611686018427387904) = true := app_le (by omega)
  have hat1 := q2.q.ats
  have hb1 := q2.bs
  refine T.seq_k (fun K_h3 h3 => ?_)
  refine T.regi hm ?_
  simp only [↓reduceIte, namesOf, List.any, I.names, aops, aopsI, aopsT, qstep, CPt, qget, Tbl.get, astep, ev, setd, List.set, List.getD, List.getElem?_cons_zero, List.getElem?_cons_succ, List.getElem?_nil, List.cons_append, List.nil_append, List.length_cons, List.length_nil, List.replicate, then_normal, inBlock_normal, Option.getD_some, Option.getD_none, Bool.or_false, Bool.or_true, Bool.true_or, Bool.false_or, Bool.false_eq_true, if_false, if_true, up_zero, Nat.reduceAdd, Nat.reduceSub, binv, ↓opt_def, AV.isAny, AV.cells, ldc, List.map_cons, List.map_nil, St.set_next, St.set_same, St.up_next, Int.natCast_nonneg, lt_len, le_len, Int.toNat_natCast, true_and, and_true, eq_self, reduceCtorEq, decide_true, List.length_singleton, er_int, er_bool, er_str, hb1, e3, e4]
  refine (rbytes_q (w := 8) (n := s.id) (by omega) hw2).mono ?_
  rintro v t2 ⟨rfl, rfl⟩
  try simp only [↓reduceIte, namesOf, List.any, I.names, aops, aopsI, aopsT, qstep, CPt, qget, Tbl.get, astep, ev, setd, List.set, List.getD, List.getElem?_cons_zero, List.getElem?_cons_succ, List.getElem?_nil, List.cons_append, List.nil_append, List.length_cons, List.length_nil, List.replicate, then_normal, inBlock_normal, Option.getD_some, Option.getD_none, Bool.or_false, Bool.or_true, Bool.true_or, Bool.false_or, Bool.false_eq_true, if_false, if_true, up_zero, Nat.reduceAdd, Nat.reduceSub, binv, ↓opt_def, AV.isAny, AV.cells, ldc, List.map_cons, List.map_nil, St.set_next, St.set_same, St.up_next, Int.natCast_nonneg, lt_len, le_len, Int.toNat_natCast, true_and, and_true, eq_self, reduceCtorEq, decide_true, List.length_singleton, er_int, er_bool, er_str, held, srcOf, bytesAV_er, bytesAV_app, bytes_all, bytesAV_len, List.length_append, Bool.and_self, St.up_res, List.isEmpty, hat1, beB_len, hle1]
  have q3 := q2.app (n := 6) (i := 4) (by omega)
  generalize (((τ1.up 6).del g1).set (τ1.next + 4) (.tip 1)) = τ2 at q3 ⊢
  generalize τ1.next + 4 = g2 at q3 ⊢
  clear q2 hat1 hb1 hle1
  generalize hP1 : P1 ++ beB 8 s.id = P2
  have hPl2 : P2.length ≤ P1.length + 8 := by rw [← hP1, List.length_append, beB_len]; omega
  refine h3 _ _ ?_
  try clear h3 K_h3
  have hle2 : decide ((P2.length + 8) * 1 ≤ 70368744177664 ∧ P2.length + 8 ≤ 4611686018427387904) = true := app_le (by omega)
  have hat2 := q3.q.ats
  have hb2 := q3.bs
  refine T.seq_k (fun K_h3 h3 => ?_)
  refine T.regi hm ?_
  simp only [↓reduceIte, namesOf, List.any, I.names, aops, aopsI, aopsT, qstep, CPt, qget, Tbl.get, astep, ev, setd, List.set, List.getD, List.getElem?_cons_zero, List.getElem?_cons_succ, List.getElem?_nil, List.cons_append, List.nil_append, List.length_cons, List.length_nil, List.replicate, then_normal, inBlock_normal, Option.getD_some, Option.getD_none, Bool.or_false, Bool.or_true, Bool.true_or, Bool.false_or, Bool.false_eq_true, if_false, if_true, up_zero, Nat.reduceAdd, Nat.reduceSub, binv, ↓opt_def, AV.isAny, AV.cells, ldc, List.map_cons, List.map_nil, St.set_next, St.set_same, St.up_next, Int.natCast_nonneg, lt_len, le_len, Int.toNat_natCast, true_and, and_true, eq_self, reduceCtorEq, decide_true, List.length_singleton, er_int, er_bool, er_str, hb2, e3, e4]
  refine (rbytes_q (w := 8) (n := s.st.toNat) (by omega) (by omega)).mono ?_
  rintro v t2 ⟨rfl, rfl⟩
  try simp only [↓reduceIte, namesOf, List.any, I.names, aops, aopsI, aopsT, qstep, CPt, qget, Tbl.get, astep, ev, setd, List.set, List.getD, List.getElem?_cons_zero, List.getElem?_cons_succ, List.getElem?_nil, List.cons_append, List.nil_append, List.length_cons, List.length_nil, List.replicate, then_normal, inBlock_normal, Option.getD_some, Option.getD_none, Bool.or_false, Bool.or_true, Bool.true_or, Bool.false_or, Bool.false_eq_true, if_false, if_true, up_zero, Nat.reduceAdd, Nat.reduceSub, binv, ↓opt_def, AV.isAny, AV.cells, ldc, List.map_cons, List.map_nil, St.set_next, St.set_same, St.up_next, Int.natCast_nonneg, lt_len, le_len, Int.toNat_natCast, true_and, and_true, eq_self, reduceCtorEq, decide_true, List.length_singleton, er_int, er_bool, er_str, held, srcOf, bytesAV_er, bytesAV_app, bytes_all, bytesAV_len, List.length_append, Bool.and_self, St.up_res, List.isEmpty, hat2, beB_len, hle2]
  have q4 := q3.app (n := 7) (i := 5) (by omega)
  generalize (((τ2.up 7).del g2).set (τ2.next + 5) (.tip 1)) = τ3 at q4 ⊢
  generalize τ2.next + 5 = g3 at q4 ⊢
  clear q3 hat2 hb2 hle2
  generalize hP2 : P2 ++ beB 8 s.st.toNat = P3
  have hPl3 : P3.length ≤ P2.length + 8 := by rw [← hP2, List.length_append, beB_len]; omega
  refine h3 _ _ ?_
  try clear h3 K_h3
  have hle3 : decide ((P3.length + 8) * 1 ≤ 70368744177664 ∧ P3.length + 8 ≤ 4611686018427387904) = true := app_le (by omega)
  have hat3 := q4.q.ats
  have hb3 := q4.bs
  refine T.seq_k (fun K_h3 h3 => ?_)
  refine T.regi hm ?_
  simp only [↓reduceIte, namesOf, List.any, I.names, aops, aopsI, aopsT, qstep, CPt, qget, Tbl.get, astep, ev, setd, List.set, List.getD, List.getElem?_cons_zero, List.getElem?_cons_succ, List.getElem?_nil, List.cons_append, List.nil_append, List.length_cons, List.length_nil, List.replicate, then_normal, inBlock_normal, Option.getD_some, Option.getD_none, Bool.or_false, Bool.or_true, Bool.true_or, Bool.false_or, Bool.false_eq_true, if_false, if_true, up_zero, Nat.reduceAdd, Nat.reduceSub, binv, ↓opt_def, AV.isAny, AV.cells, ldc, List.map_cons, List.map_nil, St.set_next, St.set_same, St.up_next, Int.natCast_nonneg, lt_len, le_len, Int.toNat_natCast, true_and, and_true, eq_self, reduceCtorEq, decide_true, List.length_singleton, er_int, er_bool, er_str, hb3, e3, e4]
  refine (rbytes_q (w := 8) (n := s.en.toNat) (by omega) (by omega)).mono ?_
  rintro v t2 ⟨rfl, rfl⟩
  try simp only [↓reduceIte, namesOf, List.any, I.names, aops, aopsI, aopsT, qstep, CPt, qget, Tbl.get, astep, ev, setd, List.set, List.getD, List.getElem?_cons_zero, List.getElem?_cons_succ, List.getElem?_nil, List.cons_append, List.nil_append, List.length_cons, List.length_nil, List.replicate, then_normal, inBlock_normal, Option.getD_some, Option.getD_none, Bool.or_false, Bool.or_true, Bool.true_or, Bool.false_or, Bool.false_eq_true, if_false, if_true, up_zero, Nat.reduceAdd, Nat.reduceSub, binv, ↓opt_def, AV.isAny, AV.cells, ldc, List.map_cons, List.map_nil, St.set_next, St.set_same, St.up_next, Int.natCast_nonneg, lt_len, le_len, Int.toNat_natCast, true_and, and_true, eq_self, reduceCtorEq, decide_true, List.length_singleton, er_int, er_bool, er_str, held, srcOf, bytesAV_er, bytesAV_app, bytes_all, bytesAV_len, List.length_append, Bool.and_self, St.up_res, List.isEmpty, hat3, beB_len, hle3]
  have q5 := q4.app (n := 7) (i := 5) (by omega)
  generalize (((τ3.up 7).del g3).set (τ3.next + 5) (.tip 1)) = τ4 at q5 ⊢
  generalize τ3.next + 5 = g4 at q5 ⊢
  clear q4 hat3 hb3 hle3
  generalize hP3 : P3 ++ beB 8 s.en.toNat = P4
  have hPl4 : P4.length ≤ P3.length + 8 := by rw [← hP3, List.length_append, beB_len]; omega
  refine h3 _ _ ?_
  try clear h3 K_h3
  have htl := textB_len s.da
  have hle : decide ((P4.length + (textB s.da).length) * 1 ≤ 70368744177664 ∧ P4.length + (textB s.da).length ≤ 4611686018427387904) = true := app_le (by omega)
  have hat := q5.q.ats
  have hb := q5.bs
  refine T.regi hm ?_
  simp only [↓reduceIte, namesOf, List.any, I.names, aops, aopsI, aopsT, qstep, CPt, qget, Tbl.get, astep, ev, setd, List.set, List.getD, List.getElem?_cons_zero, List.getElem?_cons_succ, List.getElem?_nil, List.cons_append, List.nil_append, List.length_cons, List.length_nil, List.replicate, then_normal, inBlock_normal, Option.getD_some, Option.getD_none, Bool.or_false, Bool.or_true, Bool.true_or, Bool.false_or, Bool.false_eq_true, if_false, if_true, up_zero, Nat.reduceAdd, Nat.reduceSub, binv, ↓opt_def, AV.isAny, AV.cells, ldc, List.map_cons, List.map_nil, St.set_next, St.set_same, St.up_next, Int.natCast_nonneg, lt_len, le_len, Int.toNat_natCast, true_and, and_true, eq_self, reduceCtorEq, decide_true, List.length_singleton, er_int, er_bool, er_str, hb]
  refine (rtext_ok (by omega)).mono ?_
  rintro v τ2 ⟨rfl, rfl⟩
  try simp only [↓reduceIte, namesOf, List.any, I.names, aops, aopsI, aopsT, qstep, CPt, qget, Tbl.get, astep, ev, setd, List.set, List.getD, List.getElem?_cons_zero, List.getElem?_cons_succ, List.getElem?_nil, List.cons_append, List.nil_append, List.length_cons, List.length_nil, List.replicate, then_normal, inBlock_normal, Option.getD_some, Option.getD_none, Bool.or_false, Bool.or_true, Bool.true_or, Bool.false_or, Bool.false_eq_true, if_false, if_true, up_zero, Nat.reduceAdd, Nat.reduceSub, binv, ↓opt_def, AV.isAny, AV.cells, ldc, List.map_cons, List.map_nil, St.set_next, St.set_same, St.up_next, Int.natCast_nonneg, lt_len, le_len, Int.toNat_natCast, true_and, and_true, eq_self, reduceCtorEq, decide_true, List.length_singleton, er_int, er_bool, er_str, held, srcOf, bytesAV_er, bytesAV_app, bytes_all, bytesAV_len, List.length_append, Bool.and_self, St.up_res, List.isEmpty, hat, hle]
  have q6 := q5.app (n := 6) (i := 4) (by omega)
  refine h2 _ _ ?_
  try clear h2 K_h2
  refine T.regi hm ?_
  simp only [↓reduceIte, namesOf, List.any, I.names, aops, aopsI, aopsT, qstep, CPt, qget, Tbl.get, astep, ev, setd, List.set, List.getD, List.getElem?_cons_zero, List.getElem?_cons_succ, List.getElem?_nil, List.cons_append, List.nil_append, List.length_cons, List.length_nil, List.replicate, then_normal, inBlock_normal, Option.getD_some, Option.getD_none, Bool.or_false, Bool.or_true, Bool.true_or, Bool.false_or, Bool.false_eq_true, if_false, if_true, up_zero, Nat.reduceAdd, Nat.reduceSub, binv, ↓opt_def, AV.isAny, AV.cells, ldc, List.map_cons, List.map_nil, St.set_next, St.set_same, St.up_next, Int.natCast_nonneg, lt_len, le_len, Int.toNat_natCast, true_and, and_true, eq_self, reduceCtorEq, decide_true, List.length_singleton, er_int, er_bool, er_str, hiw]
  refine ⟨hil, _, _, Gh.keep [0, 3, 4], _, q6.q, ?_⟩
  have hfin : P4 ++ textB s.da = beB 2 l.length ++ (l.take (i + 1)).flatMap spanB := by
    rw [hfs, ← List.append_assoc, hP, ← hP3, ← hP2, ← hP1, ← hP0]
    simp only [spanB, spanN, runB, List.flatMap_cons, List.flatMap_nil, List.append_nil, List.append_assoc]
  rw [hfin]; rfl

theorem rone_ok {t : Tc} {σ : St} (hi : t.id < 18446744073709551616) (hl : t.sp.length ≤ 1000) (hm : ∀ s ∈ t.sp, mayS s = true ∧ s.wd) :
    ACalls Try.prog n_rone [.agg [.int .u64 (t.id : Int), .sl (spsAV t.sp) .none]] σ (fun v σ' => v = .sl (bytesAV (trB t)) .none ∧ σ' = σ) := by
  refine s_rone (fun wf => ?_)
  unfold c_rone
  have hall := hm
  have hm := VL.hm
  have hfl : (t.sp.flatMap spanB).length ≤ 1000 * 234 := Nat.le_trans (spans_le (fun s hs => mayS_len (hall s hs).1)) (Nat.mul_le_mul_right _ hl)
  have hsl := spansB_len t.sp
  refine T.seq_k (fun K_h1 h1 => ?_)
  refine T.regi hm ?_
  simp only [↓reduceIte, namesOf, List.any, I.names, aops, aopsI, aopsT, qstep, CPt, qget, Tbl.get, astep, ev, setd, List.set, List.getD, List.getElem?_cons_zero, List.getElem?_cons_succ, List.getElem?_nil, List.cons_append, List.nil_append, List.length_cons, List.length_nil, List.replicate, then_normal, inBlock_normal, Option.getD_some, Option.getD_none, Bool.or_false, Bool.or_true, Bool.true_or, Bool.false_or, Bool.false_eq_true, if_false, if_true, up_zero, Nat.reduceAdd, Nat.reduceSub, binv, ↓opt_def, AV.isAny, AV.cells, ldc, List.map_cons, List.map_nil, St.set_next, St.set_same, St.up_next, Int.natCast_nonneg, lt_len, le_len, Int.toNat_natCast, true_and, and_true, eq_self, reduceCtorEq, decide_true, List.length_singleton, er_int, er_bool, er_str]
  have k0 : Like σ ((σ.up 2).set (σ.next + 0) (.obj [.int .u64 (t.id : Int), .sl (spsAV t.sp) .none])) := (Like.refl σ).box _
  have hb : ∀ n, (((σ.up 2).set (σ.next + 0) (.obj [.int .u64 (t.id : Int), .sl (spsAV t.sp) .none])).up n).res (σ.next + 0) = some (.obj [.int .u64 (t.id : Int), .sl (spsAV t.sp) .none]) := by simp
  generalize ((σ.up 2).set (σ.next + 0) (.obj [.int .u64 (t.id : Int), .sl (spsAV t.sp) .none])) = τ at k0 hb ⊢
  generalize σ.next + 0 = a at hb ⊢
  have hb0 : τ.res a = some (.obj [.int .u64 (t.id : Int), .sl (spsAV t.sp) .none]) := hb 0
  refine h1 _ _ ?_
  try clear h1 K_h1
  refine T.seq_k (fun K_h1 h1 => ?_)
  refine T.regi hm ?_
  simp only [↓reduceIte, namesOf, List.any, I.names, aops, aopsI, aopsT, qstep, CPt, qget, Tbl.get, astep, ev, setd, List.set, List.getD, List.getElem?_cons_zero, List.getElem?_cons_succ, List.getElem?_nil, List.cons_append, List.nil_append, List.length_cons, List.length_nil, List.replicate, then_normal, inBlock_normal, Option.getD_some, Option.getD_none, Bool.or_false, Bool.or_true, Bool.true_or, Bool.false_or, Bool.false_eq_true, if_false, if_true, up_zero, Nat.reduceAdd, Nat.reduceSub, binv, ↓opt_def, AV.isAny, AV.cells, ldc, List.map_cons, List.map_nil, St.set_next, St.set_same, St.up_next, Int.natCast_nonneg, lt_len, le_len, Int.toNat_natCast, true_and, and_true, eq_self, reduceCtorEq, decide_true, List.length_singleton, er_int, er_bool, er_str, hb0]
  refine (rspB_ok (by omega) hall).mono ?_
  rintro v τ1 ⟨rfl, rfl⟩
  try simp only [↓reduceIte, namesOf, List.any, I.names, aops, aopsI, aopsT, qstep, CPt, qget, Tbl.get, astep, ev, setd, List.set, List.getD, List.getElem?_cons_zero, List.getElem?_cons_succ, List.getElem?_nil, List.cons_append, List.nil_append, List.length_cons, List.length_nil, List.replicate, then_normal, inBlock_normal, Option.getD_some, Option.getD_none, Bool.or_false, Bool.or_true, Bool.true_or, Bool.false_or, Bool.false_eq_true, if_false, if_true, up_zero, Nat.reduceAdd, Nat.reduceSub, binv, ↓opt_def, AV.isAny, AV.cells, ldc, List.map_cons, List.map_nil, St.set_next, St.set_same, St.up_next, Int.natCast_nonneg, lt_len, le_len, Int.toNat_natCast, true_and, and_true, eq_self, reduceCtorEq, decide_true, List.length_singleton, er_int, er_bool, er_str, up_zero]
  refine h1 _ _ ?_
  try clear h1 K_h1
  have e2 := u64w (n := (spansB t.sp).length) (by omega)
  refine T.seq_k (fun K_h1 h1 => ?_)
  refine T.regi hm ?_
  simp only [↓reduceIte, namesOf, List.any, I.names, aops, aopsI, aopsT, qstep, CPt, qget, Tbl.get, astep, ev, setd, List.set, List.getD, List.getElem?_cons_zero, List.getElem?_cons_succ, List.getElem?_nil, List.cons_append, List.nil_append, List.length_cons, List.length_nil, List.replicate, then_normal, inBlock_normal, Option.getD_some, Option.getD_none, Bool.or_false, Bool.or_true, Bool.true_or, Bool.false_or, Bool.false_eq_true, if_false, if_true, up_zero, Nat.reduceAdd, Nat.reduceSub, binv, ↓opt_def, AV.isAny, AV.cells, ldc, List.map_cons, List.map_nil, St.set_next, St.set_same, St.up_next, Int.natCast_nonneg, lt_len, le_len, Int.toNat_natCast, true_and, and_true, eq_self, reduceCtorEq, decide_true, List.length_singleton, er_int, er_bool, er_str, hb, St.up_res]
  refine (rbytes_ok (w := 8) (by omega) hi).mono ?_
  rintro v τ2 (⟨h0, _⟩ | ⟨h, o1, rfl⟩)
  · cases h0
  have q0 := Tq.in_ k0 o1
  have hx := o1.nx (i := 7) (by omega)
  have hat : τ2.res h = some (.tip 1) := o1.at_
  try simp only [↓reduceIte, namesOf, List.any, I.names, aops, aopsI, aopsT, qstep, CPt, qget, Tbl.get, astep, ev, setd, List.set, List.getD, List.getElem?_cons_zero, List.getElem?_cons_succ, List.getElem?_nil, List.cons_append, List.nil_append, List.length_cons, List.length_nil, List.replicate, then_normal, inBlock_normal, Option.getD_some, Option.getD_none, Bool.or_false, Bool.or_true, Bool.true_or, Bool.false_or, Bool.false_eq_true, if_false, if_true, up_zero, Nat.reduceAdd, Nat.reduceSub, binv, ↓opt_def, AV.isAny, AV.cells, ldc, List.map_cons, List.map_nil, St.set_next, St.set_same, St.up_next, Int.natCast_nonneg, lt_len, le_len, Int.toNat_natCast, true_and, and_true, eq_self, reduceCtorEq, decide_true, List.length_singleton, er_int, er_bool, er_str, bytesAV_len, e2]
  refine (rbytes_q (w := 4) (by omega) (by omega)).mono ?_
  rintro v τ3 ⟨rfl, rfl⟩
  try simp only [↓reduceIte, namesOf, List.any, I.names, aops, aopsI, aopsT, qstep, CPt, qget, Tbl.get, astep, ev, setd, List.set, List.getD, List.getElem?_cons_zero, List.getElem?_cons_succ, List.getElem?_nil, List.cons_append, List.nil_append, List.length_cons, List.length_nil, List.replicate, then_normal, inBlock_normal, Option.getD_some, Option.getD_none, Bool.or_false, Bool.or_true, Bool.true_or, Bool.false_or, Bool.false_eq_true, if_false, if_true, up_zero, Nat.reduceAdd, Nat.reduceSub, binv, ↓opt_def, AV.isAny, AV.cells, ldc, List.map_cons, List.map_nil, St.set_next, St.set_same, St.up_next, Int.natCast_nonneg, lt_len, le_len, Int.toNat_natCast, true_and, and_true, eq_self, reduceCtorEq, decide_true, List.length_singleton, er_int, er_bool, er_str, held, srcOf, bytesAV_er, bytesAV_app, bytes_all, bytesAV_len, List.length_append, Bool.and_self, St.up_res, List.isEmpty, hat, beB_len, Nat.reduceAdd, Nat.reduceMul, Nat.reduceLeDiff, and_self]
  have hn0 := k0.next
  have q1 := q0.mv (g2 := τ1.next + 7) (by omega) hx
  generalize ((τ3.del h).set (τ1.next + 7) (.tip 1)) = τ4 at q1 ⊢
  generalize τ1.next + 7 = h' at q1 ⊢
  refine h1 _ _ ?_
  try clear h1 K_h1
  have hat1 := q1.ats
  have hle : decide ((12 + (spansB t.sp).length) * 1 ≤ 70368744177664 ∧ 12 + (spansB t.sp).length ≤ 4611686018427387904) = true := app_le (by omega)
  have hle' : decide ((8 + 4 + (spansB t.sp).length) * 1 ≤ 70368744177664 ∧ 8 + 4 + (spansB t.sp).length ≤ 4611686018427387904) = true := app_le (by omega)
  refine T.seq_k (fun K_h1 h1 => ?_)
  refine T.regi hm ?_
  simp only [↓reduceIte, namesOf, List.any, I.names, aops, aopsI, aopsT, qstep, CPt, qget, Tbl.get, astep, ev, setd, List.set, List.getD, List.getElem?_cons_zero, List.getElem?_cons_succ, List.getElem?_nil, List.cons_append, List.nil_append, List.length_cons, List.length_nil, List.replicate, then_normal, inBlock_normal, Option.getD_some, Option.getD_none, Bool.or_false, Bool.or_true, Bool.true_or, Bool.false_or, Bool.false_eq_true, if_false, if_true, up_zero, Nat.reduceAdd, Nat.reduceSub, binv, ↓opt_def, AV.isAny, AV.cells, ldc, List.map_cons, List.map_nil, St.set_next, St.set_same, St.up_next, Int.natCast_nonneg, lt_len, le_len, Int.toNat_natCast, true_and, and_true, eq_self, reduceCtorEq, decide_true, List.length_singleton, er_int, er_bool, er_str, held, srcOf, bytesAV_er, bytesAV_app, bytes_all, bytesAV_len, List.length_append, Bool.and_self, St.up_res, List.isEmpty, hat1, beB_len, hle, hle']
  have q2 := q1.app (n := 4) (i := 2) (by omega)
  refine h1 _ _ ?_
  try clear h1 K_h1
  exact T.ret (Fin.quietw rfl (Wk.sl _ _) ⟨nb_bytes _ _, trivial⟩ (q2.quiet wf) ⟨by rw [trB, List.append_assoc], rfl⟩)

set_option maxHeartbeats 1000000 in
theorem rpage_ok {l : List Tc} {g : Ver} {σ : St} (hl : l.length ≤ 65535) (hd : ∀ t ∈ l, t.id < 18446744073709551616 ∧ t.sp.length ≤ 100 ∧ ∀ s ∈ t.sp, mayS s = true ∧ s.wd) :
    ACalls Try.prog n_rpage [.sl (tcsAV l) g] σ (fun v σ' => v = .sl (bytesAV (pageB l)) .none ∧ σ' = σ) := by
  refine s_rpage (fun wf => ?_)
  unfold c_rpage
  have htl : ∀ t ∈ l, (trB t).length ≤ 30000 := fun t ht => by
    obtain ⟨_, h3, h4⟩ := hd t ht
    rw [trB_len, spansB_len]
    have : (t.sp.flatMap spanB).length ≤ 100 * 234 := Nat.le_trans (spans_le (fun s hs => mayS_len (h4 s hs).1)) (Nat.mul_le_mul_right _ h3)
    omega
  have e2 := u64w (n := l.length) (by omega)
  refine T.seq_k (fun K_h0 h0 => ?_)
  refine T.regi hm ?_
  simp only [↓reduceIte, namesOf, List.any, I.names, aops, aopsI, aopsT, qstep, CPt, qget, Tbl.get, astep, ev, setd, List.set, List.getD, List.getElem?_cons_zero, List.getElem?_cons_succ, List.getElem?_nil, List.cons_append, List.nil_append, List.length_cons, List.length_nil, List.replicate, then_normal, inBlock_normal, Option.getD_some, Option.getD_none, Bool.or_false, Bool.or_true, Bool.true_or, Bool.false_or, Bool.false_eq_true, if_false, if_true, up_zero, Nat.reduceAdd, Nat.reduceSub, binv, ↓opt_def, AV.isAny, AV.cells, ldc, List.map_cons, List.map_nil, St.set_next, St.set_same, St.up_next, Int.natCast_nonneg, lt_len, le_len, Int.toNat_natCast, true_and, and_true, eq_self, reduceCtorEq, decide_true, List.length_singleton, er_int, er_bool, er_str]
  refine h0 _ _ ?_
  try clear h0 K_h0
  refine T.seq_k (fun K_h1 h1 => ?_)
  refine T.regi hm ?_
  simp only [↓reduceIte, namesOf, List.any, I.names, aops, aopsI, aopsT, qstep, CPt, qget, Tbl.get, astep, ev, setd, List.set, List.getD, List.getElem?_cons_zero, List.getElem?_cons_succ, List.getElem?_nil, List.cons_append, List.nil_append, List.length_cons, List.length_nil, List.replicate, then_normal, inBlock_normal, Option.getD_some, Option.getD_none, Bool.or_false, Bool.or_true, Bool.true_or, Bool.false_or, Bool.false_eq_true, if_false, if_true, up_zero, Nat.reduceAdd, Nat.reduceSub, binv, ↓opt_def, AV.isAny, AV.cells, ldc, List.map_cons, List.map_nil, St.set_next, St.set_same, St.up_next, Int.natCast_nonneg, lt_len, le_len, Int.toNat_natCast, true_and, and_true, eq_self, reduceCtorEq, decide_true, List.length_singleton, er_int, er_bool, er_str, tcs_len, e2]
  refine (rbytes_ok (w := 2) (by omega) (by omega)).mono ?_
  rintro v σ1 (⟨h0, _⟩ | ⟨h, o1, rfl⟩)
  · cases h0
  have q0 := Tq.one o1
  clear o1
  try simp only [↓reduceIte, namesOf, List.any, I.names, aops, aopsI, aopsT, qstep, CPt, qget, Tbl.get, astep, ev, setd, List.set, List.getD, List.getElem?_cons_zero, List.getElem?_cons_succ, List.getElem?_nil, List.cons_append, List.nil_append, List.length_cons, List.length_nil, List.replicate, then_normal, inBlock_normal, Option.getD_some, Option.getD_none, Bool.or_false, Bool.or_true, Bool.true_or, Bool.false_or, Bool.false_eq_true, if_false, if_true, up_zero, Nat.reduceAdd, Nat.reduceSub, binv, ↓opt_def, AV.isAny, AV.cells, ldc, List.map_cons, List.map_nil, St.set_next, St.set_same, St.up_next, Int.natCast_nonneg, lt_len, le_len, Int.toNat_natCast, true_and, and_true, eq_self, reduceCtorEq, decide_true, List.length_singleton, er_int, er_bool, er_str, up_zero]
  refine h1 _ _ ?_
  try clear h1 K_h1
  refine T.seq_k (fun K_h1 h1 => ?_)
  refine T.seq_k (fun K_h0 h0 => ?_)
  refine T.regi hm ?_
  simp only [↓reduceIte, namesOf, List.any, I.names, aops, aopsI, aopsT, qstep, CPt, qget, Tbl.get, astep, ev, setd, List.set, List.getD, List.getElem?_cons_zero, List.getElem?_cons_succ, List.getElem?_nil, List.cons_append, List.nil_append, List.length_cons, List.length_nil, List.replicate, then_normal, inBlock_normal, Option.getD_some, Option.getD_none, Bool.or_false, Bool.or_true, Bool.true_or, Bool.false_or, Bool.false_eq_true, if_false, if_true, up_zero, Nat.reduceAdd, Nat.reduceSub, binv, ↓opt_def, AV.isAny, AV.cells, ldc, List.map_cons, List.map_nil, St.set_next, St.set_same, St.up_next, Int.natCast_nonneg, lt_len, le_len, Int.toNat_natCast, true_and, and_true, eq_self, reduceCtorEq, decide_true, List.length_singleton, er_int, er_bool, er_str]
  refine h0 _ _ ?_
  try clear h0 K_h0
  refine T.block ?_
  refine T.gh (Gh.keep [0, 3, 4]) ?_
  refine T.loopi (fun i ρ t => (∃ g1, Tq σ t g1 1 ∧ ρ = [.sl (tcsAV l) g, .any, .any, .sl (bytesAV (beB 2 l.length ++ (l.take i).flatMap trB)) (.tip g1), .int .i64 (i : Int)] ++ List.replicate 19 .any))
    l.length 0 (Nat.zero_le _) ⟨h, q0, by rw [List.take_zero, List.flatMap_nil, List.append_nil]; rfl⟩ ?_
  clear q0 h
  rintro i ρ t hi ⟨h, q0, rfl⟩
  refine T.seq_k (fun K_h2 h2 => ?_)
  refine T.seq_k (fun K_h0 h0 => ?_)
  refine T.regi hm ?_
  simp only [↓reduceIte, namesOf, List.any, I.names, aops, aopsI, aopsT, qstep, CPt, qget, Tbl.get, astep, ev, setd, List.set, List.getD, List.getElem?_cons_zero, List.getElem?_cons_succ, List.getElem?_nil, List.cons_append, List.nil_append, List.length_cons, List.length_nil, List.replicate, then_normal, inBlock_normal, Option.getD_some, Option.getD_none, Bool.or_false, Bool.or_true, Bool.true_or, Bool.false_or, Bool.false_eq_true, if_false, if_true, up_zero, Nat.reduceAdd, Nat.reduceSub, binv, ↓opt_def, AV.isAny, AV.cells, ldc, List.map_cons, List.map_nil, St.set_next, St.set_same, St.up_next, Int.natCast_nonneg, lt_len, le_len, Int.toNat_natCast, true_and, and_true, eq_self, reduceCtorEq, decide_true, List.length_singleton, er_int, er_bool, er_str, tcs_len]
  refine h0 _ _ ?_
  try clear h0 K_h0
  by_cases hil : i < l.length
  case neg =>
    refine T.cond (b := false) (by simp [ev]; omega) (fun h => by cases h) (fun _ => T.exit ?_)
    have : i = l.length := by omega
    subst this
    rw [List.take_length]
    try simp only [↓reduceIte, namesOf, List.any, I.names, aops, aopsI, aopsT, qstep, CPt, qget, Tbl.get, astep, ev, setd, List.set, List.getD, List.getElem?_cons_zero, List.getElem?_cons_succ, List.getElem?_nil, List.cons_append, List.nil_append, List.length_cons, List.length_nil, List.replicate, then_normal, inBlock_normal, Option.getD_some, Option.getD_none, Bool.or_false, Bool.or_true, Bool.true_or, Bool.false_or, Bool.false_eq_true, if_false, if_true, up_zero, Nat.reduceAdd, Nat.reduceSub, binv, ↓opt_def, AV.isAny, AV.cells, ldc, List.map_cons, List.map_nil, St.set_next, St.set_same, St.up_next, Int.natCast_nonneg, lt_len, le_len, Int.toNat_natCast, true_and, and_true, eq_self, reduceCtorEq, decide_true, List.length_singleton, er_int, er_bool, er_str, inBlock_exit, then_exit]
    refine h1 _ _ ?_
    try clear h1 K_h1
    have hfl : (l.flatMap trB).length ≤ 65535 * 30000 := Nat.le_trans (trs_le htl) (Nat.mul_le_mul_right _ hl)
    refine T.seq_k (fun K_h1 h1 => ?_)
    refine T.regi hm ?_
    simp only [↓reduceIte, namesOf, List.any, I.names, aops, aopsI, aopsT, qstep, CPt, qget, Tbl.get, astep, ev, setd, List.set, List.getD, List.getElem?_cons_zero, List.getElem?_cons_succ, List.getElem?_nil, List.cons_append, List.nil_append, List.length_cons, List.length_nil, List.replicate, then_normal, inBlock_normal, Option.getD_some, Option.getD_none, Bool.or_false, Bool.or_true, Bool.true_or, Bool.false_or, Bool.false_eq_true, if_false, if_true, up_zero, Nat.reduceAdd, Nat.reduceSub, binv, ↓opt_def, AV.isAny, AV.cells, ldc, List.map_cons, List.map_nil, St.set_next, St.set_same, St.up_next, Int.natCast_nonneg, lt_len, le_len, Int.toNat_natCast, true_and, and_true, eq_self, reduceCtorEq, decide_true, List.length_singleton, er_int, er_bool, er_str]
    refine (rseal_q (by rw [List.length_append, beB_len]; omega)).mono ?_
    rintro v t2 ⟨rfl, rfl⟩
    try simp only [↓reduceIte, namesOf, List.any, I.names, aops, aopsI, aopsT, qstep, CPt, qget, Tbl.get, astep, ev, setd, List.set, List.getD, List.getElem?_cons_zero, List.getElem?_cons_succ, List.getElem?_nil, List.cons_append, List.nil_append, List.length_cons, List.length_nil, List.replicate, then_normal, inBlock_normal, Option.getD_some, Option.getD_none, Bool.or_false, Bool.or_true, Bool.true_or, Bool.false_or, Bool.false_eq_true, if_false, if_true, up_zero, Nat.reduceAdd, Nat.reduceSub, binv, ↓opt_def, AV.isAny, AV.cells, ldc, List.map_cons, List.map_nil, St.set_next, St.set_same, St.up_next, Int.natCast_nonneg, lt_len, le_len, Int.toNat_natCast, true_and, and_true, eq_self, reduceCtorEq, decide_true, List.length_singleton, er_int, er_bool, er_str, up_zero]
    refine h1 _ _ ?_
    try clear h1 K_h1
    exact T.ret (Fin.quiet rfl ⟨nb_bytes _ _, trivial⟩ (q0.quiet wf) ⟨rfl, rfl⟩)
  refine T.cond (b := true) (by simp [ev]; omega) (fun _ => T.skip ?_) (fun h => by cases h)
  refine h2 _ _ ?_
  try clear h2 K_h2
  have hiw := inc64' hil (by omega)
  have hilI : (i : Int) < (l.length : Int) := by omega
  have hg := tcs_get hil
  obtain ⟨d1, d2, d3⟩ := hd _ (List.getElem_mem hil)
  have hfs := flat_snoc trB hil
  have hxl := htl _ (List.getElem_mem hil)
  have hpl : ((l.take i).flatMap trB).length ≤ 65535 * 30000 := by
    refine Nat.le_trans (trs_le (fun t ht => htl t (List.mem_of_mem_take ht))) (Nat.mul_le_mul_right _ ?_)
    rw [List.length_take]; omega
  generalize l[i] = x at hg d1 d2 d3 hfs hxl
  rw [tcav'] at hg
  have hat := q0.ats
  have hle : decide ((2 + ((l.take i).flatMap trB).length + (trB x).length) * 1 ≤ 70368744177664 ∧ 2 + ((l.take i).flatMap trB).length + (trB x).length ≤ 4611686018427387904) = true := app_le (by omega)
  refine T.seq_k (fun K_h2 h2 => ?_)
  refine T.block ?_
  refine T.regi hm ?_
  simp only [↓reduceIte, namesOf, List.any, I.names, aops, aopsI, aopsT, qstep, CPt, qget, Tbl.get, astep, ev, setd, List.set, List.getD, List.getElem?_cons_zero, List.getElem?_cons_succ, List.getElem?_nil, List.cons_append, List.nil_append, List.length_cons, List.length_nil, List.replicate, then_normal, inBlock_normal, Option.getD_some, Option.getD_none, Bool.or_false, Bool.or_true, Bool.true_or, Bool.false_or, Bool.false_eq_true, if_false, if_true, up_zero, Nat.reduceAdd, Nat.reduceSub, binv, ↓opt_def, AV.isAny, AV.cells, ldc, List.map_cons, List.map_nil, St.set_next, St.set_same, St.up_next, Int.natCast_nonneg, lt_len, le_len, Int.toNat_natCast, true_and, and_true, eq_self, reduceCtorEq, decide_true, List.length_singleton, er_int, er_bool, er_str, tcs_len, hg, hilI, AV.fits, AV.one, List.all_cons, List.all_nil, Nat.reduceBEq, Bool.and_true, Bool.not_false, Bool.and_self, Nat.zero_add, splice, List.take, List.drop, Nat.reduceLeDiff]
  refine (rone_ok d1 (by omega) d3).mono ?_
  rintro v t2 ⟨rfl, rfl⟩
  try simp only [↓reduceIte, namesOf, List.any, I.names, aops, aopsI, aopsT, qstep, CPt, qget, Tbl.get, astep, ev, setd, List.set, List.getD, List.getElem?_cons_zero, List.getElem?_cons_succ, List.getElem?_nil, List.cons_append, List.nil_append, List.length_cons, List.length_nil, List.replicate, then_normal, inBlock_normal, Option.getD_some, Option.getD_none, Bool.or_false, Bool.or_true, Bool.true_or, Bool.false_or, Bool.false_eq_true, if_false, if_true, up_zero, Nat.reduceAdd, Nat.reduceSub, binv, ↓opt_def, AV.isAny, AV.cells, ldc, List.map_cons, List.map_nil, St.set_next, St.set_same, St.up_next, Int.natCast_nonneg, lt_len, le_len, Int.toNat_natCast, true_and, and_true, eq_self, reduceCtorEq, decide_true, List.length_singleton, er_int, er_bool, er_str, held, srcOf, bytesAV_er, bytesAV_app, bytes_all, bytesAV_len, List.length_append, Bool.and_self, St.up_res, List.isEmpty, hat, beB_len, hle]
  have q1 := q0.app (n := 8) (i := 6) (by omega)
  refine h2 _ _ ?_
  try clear h2 K_h2
  refine T.regi hm ?_
  simp only [↓reduceIte, namesOf, List.any, I.names, aops, aopsI, aopsT, qstep, CPt, qget, Tbl.get, astep, ev, setd, List.set, List.getD, List.getElem?_cons_zero, List.getElem?_cons_succ, List.getElem?_nil, List.cons_append, List.nil_append, List.length_cons, List.length_nil, List.replicate, then_normal, inBlock_normal, Option.getD_some, Option.getD_none, Bool.or_false, Bool.or_true, Bool.true_or, Bool.false_or, Bool.false_eq_true, if_false, if_true, up_zero, Nat.reduceAdd, Nat.reduceSub, binv, ↓opt_def, AV.isAny, AV.cells, ldc, List.map_cons, List.map_nil, St.set_next, St.set_same, St.up_next, Int.natCast_nonneg, lt_len, le_len, Int.toNat_natCast, true_and, and_true, eq_self, reduceCtorEq, decide_true, List.length_singleton, er_int, er_bool, er_str, hiw]
  refine ⟨hil, _, _, Gh.keep [0, 3, 4], _, q1, ?_⟩
  rw [hfs, ← List.append_assoc]; rfl

end Go.VL

namespace Go.VL

open Go.Proofs

def tb05 : FTab := [(n_up05, ⟨c_up05, 37, [(.t 0)]⟩), (n_ppput, ⟨c_ppput, 49, [(.t 2), (.t 3)]⟩), (n_pgget, ⟨c_pgget, 109, [(.t 2), (.t 3)]⟩), (n_is, ⟨c_is, 31, [(.t 2)]⟩), (n_wput, ⟨c_wput, 43, [(.t 6), (.t 7)]⟩), (n_right, ⟨c_right, 17, [(.t 2)]⟩), (n_cseal, ⟨c_cseal, 16, [(.t 2)]⟩), (n_copen, ⟨c_copen, 26, [(.t 2), (.t 3)]⟩)]

theorem tb05_ok : FTab.ok Try.prog tb05 := FTab.ok_cons s_up05 (FTab.ok_cons s_ppput (FTab.ok_cons s_pgget (FTab.ok_cons s_is (FTab.ok_cons s_wput (FTab.ok_cons s_right (FTab.ok_cons s_cseal (FTab.ok_cons s_copen FTab.ok_nil)))))))

set_option maxRecDepth 100000 in
theorem up05_ok {σ : St} : ACalls Try.prog n_up05 [] σ (fun v σ' => v = .bool true ∧ σ' = σ) :=
  head_ok hm tb05_ok (orT_ok tbC_ok) 100 (by kernel_rfl) (by kernel_rfl) σ

/-- traces whose numbers are words -/
def Tc.wd (t : Tc) : Prop := t.id < 18446744073709551616 ∧ ∀ s ∈ t.sp, s.wd

end Go.VL

namespace Go.VL

open Go.Proofs

set_option maxRecDepth 10000 in
theorem rtraces_ok {a b : List Tc} {g g' : Ver} {σ : St} (hl : a.length ≤ 9223372036854775807) (hs : ∀ t ∈ a, t.sp.length ≤ 9223372036854775807) : ACalls Try.prog n_rtraces [.sl (tcsAV a) g, .sl (tcsAV b) g'] σ (fun v σ' => v = .bool (decide (a = b)) ∧ σ' = σ) := by
  refine s_rtraces (fun wf => ?_)
  unfold c_rtraces
  refine T.seq_k (fun K_h0 h0 => ?_)
  refine T.regi hm ?_
  simp only [↓reduceIte, namesOf, List.any, I.names, aops, aopsI, aopsT, qstep, CPt, qget, Tbl.get, astep, ev, setd, List.set, List.getD, List.getElem?_cons_zero, List.getElem?_cons_succ, List.getElem?_nil, List.cons_append, List.nil_append, List.length_cons, List.length_nil, List.replicate, then_normal, inBlock_normal, Option.getD_some, Option.getD_none, Bool.or_false, Bool.or_true, Bool.true_or, Bool.false_or, Bool.false_eq_true, if_false, if_true, up_zero, Nat.reduceAdd, Nat.reduceSub, binv, ↓opt_def, AV.isAny, AV.cells, ldc, List.map_cons, List.map_nil, St.set_next, St.set_same, St.up_next, Int.natCast_nonneg, lt_len, le_len, Int.toNat_natCast, true_and, and_true, eq_self, reduceCtorEq, decide_true, List.length_singleton, er_int, er_bool, er_str]
  refine h0 _ _ ?_
  try clear h0 K_h0
  refine T.seq_k (fun K_h1 h1 => ?_)
  by_cases hlen : a.length = b.length
  case neg =>
    have e1 : ((a.length : Int) != (b.length : Int)) = true := by simp; omega
    refine T.seq_k (fun K_h0 h0 => ?_)
    refine T.regi hm ?_
    simp only [↓reduceIte, namesOf, List.any, I.names, aops, aopsI, aopsT, qstep, CPt, qget, Tbl.get, astep, ev, setd, List.set, List.getD, List.getElem?_cons_zero, List.getElem?_cons_succ, List.getElem?_nil, List.cons_append, List.nil_append, List.length_cons, List.length_nil, List.replicate, then_normal, inBlock_normal, Option.getD_some, Option.getD_none, Bool.or_false, Bool.or_true, Bool.true_or, Bool.false_or, Bool.false_eq_true, if_false, if_true, up_zero, Nat.reduceAdd, Nat.reduceSub, binv, ↓opt_def, AV.isAny, AV.cells, ldc, List.map_cons, List.map_nil, St.set_next, St.set_same, St.up_next, Int.natCast_nonneg, lt_len, le_len, Int.toNat_natCast, true_and, and_true, eq_self, reduceCtorEq, decide_true, List.length_singleton, er_int, er_bool, er_str, tcs_len, e1]
    refine h0 _ _ ?_
    try clear h0 K_h0
    refine T.cond rfl (fun _ => ?_) (fun h => by cases h)
    refine T.seq_k (fun K_h0 h0 => ?_)
    refine T.regi hm ?_
    simp only [↓reduceIte, namesOf, List.any, I.names, aops, aopsI, aopsT, qstep, CPt, qget, Tbl.get, astep, ev, setd, List.set, List.getD, List.getElem?_cons_zero, List.getElem?_cons_succ, List.getElem?_nil, List.cons_append, List.nil_append, List.length_cons, List.length_nil, List.replicate, then_normal, inBlock_normal, Option.getD_some, Option.getD_none, Bool.or_false, Bool.or_true, Bool.true_or, Bool.false_or, Bool.false_eq_true, if_false, if_true, up_zero, Nat.reduceAdd, Nat.reduceSub, binv, ↓opt_def, AV.isAny, AV.cells, ldc, List.map_cons, List.map_nil, St.set_next, St.set_same, St.up_next, Int.natCast_nonneg, lt_len, le_len, Int.toNat_natCast, true_and, and_true, eq_self, reduceCtorEq, decide_true, List.length_singleton, er_int, er_bool, er_str]
    refine h0 _ _ ?_
    try clear h0 K_h0
    exact T.ret (Fin.ret rfl ⟨by rw [decide_eq_false (fun h => hlen (by rw [h]))]; rfl, rfl⟩)
  have e1 : ((a.length : Int) != (b.length : Int)) = false := by simp; omega
  refine T.seq_k (fun K_h0 h0 => ?_)
  refine T.regi hm ?_
  simp only [↓reduceIte, namesOf, List.any, I.names, aops, aopsI, aopsT, qstep, CPt, qget, Tbl.get, astep, ev, setd, List.set, List.getD, List.getElem?_cons_zero, List.getElem?_cons_succ, List.getElem?_nil, List.cons_append, List.nil_append, List.length_cons, List.length_nil, List.replicate, then_normal, inBlock_normal, Option.getD_some, Option.getD_none, Bool.or_false, Bool.or_true, Bool.true_or, Bool.false_or, Bool.false_eq_true, if_false, if_true, up_zero, Nat.reduceAdd, Nat.reduceSub, binv, ↓opt_def, AV.isAny, AV.cells, ldc, List.map_cons, List.map_nil, St.set_next, St.set_same, St.up_next, Int.natCast_nonneg, lt_len, le_len, Int.toNat_natCast, true_and, and_true, eq_self, reduceCtorEq, decide_true, List.length_singleton, er_int, er_bool, er_str, tcs_len, e1]
  refine h0 _ _ ?_
  try clear h0 K_h0
  refine T.cond rfl (fun h => by cases h) (fun _ => T.skip ?_)
  refine h1 _ _ ?_
  try clear h1 K_h1
  refine T.seq_k (fun K_h1 h1 => ?_)
  refine T.seq_k (fun K_h0 h0 => ?_)
  refine T.regi hm ?_
  simp only [↓reduceIte, namesOf, List.any, I.names, aops, aopsI, aopsT, qstep, CPt, qget, Tbl.get, astep, ev, setd, List.set, List.getD, List.getElem?_cons_zero, List.getElem?_cons_succ, List.getElem?_nil, List.cons_append, List.nil_append, List.length_cons, List.length_nil, List.replicate, then_normal, inBlock_normal, Option.getD_some, Option.getD_none, Bool.or_false, Bool.or_true, Bool.true_or, Bool.false_or, Bool.false_eq_true, if_false, if_true, up_zero, Nat.reduceAdd, Nat.reduceSub, binv, ↓opt_def, AV.isAny, AV.cells, ldc, List.map_cons, List.map_nil, St.set_next, St.set_same, St.up_next, Int.natCast_nonneg, lt_len, le_len, Int.toNat_natCast, true_and, and_true, eq_self, reduceCtorEq, decide_true, List.length_singleton, er_int, er_bool, er_str]
  refine h0 _ _ ?_
  try clear h0 K_h0
  refine T.block ?_
  refine T.gh (Gh.keep [0, 1, 5]) ?_
  refine T.loopi (fun i ρ σ' => σ' = σ ∧ a.take i = b.take i ∧ ρ = [.sl (tcsAV a) g, .sl (tcsAV b) g', .any, .any, .any, .int .i64 (i : Int)] ++ List.replicate 38 .any)
    a.length 0 (Nat.zero_le _) ⟨rfl, by simp, rfl⟩ ?_
  rintro i ρ σ' hi ⟨rfl, hpre, rfl⟩
  refine T.seq_k (fun K_h2 h2 => ?_)
  by_cases hil : i < a.length
  case neg =>
    have e2 : decide (i < a.length) = false := decide_eq_false hil
    refine T.seq_k (fun K_h0 h0 => ?_)
    refine T.regi hm ?_
    simp only [↓reduceIte, namesOf, List.any, I.names, aops, aopsI, aopsT, qstep, CPt, qget, Tbl.get, astep, ev, setd, List.set, List.getD, List.getElem?_cons_zero, List.getElem?_cons_succ, List.getElem?_nil, List.cons_append, List.nil_append, List.length_cons, List.length_nil, List.replicate, then_normal, inBlock_normal, Option.getD_some, Option.getD_none, Bool.or_false, Bool.or_true, Bool.true_or, Bool.false_or, Bool.false_eq_true, if_false, if_true, up_zero, Nat.reduceAdd, Nat.reduceSub, binv, ↓opt_def, AV.isAny, AV.cells, ldc, List.map_cons, List.map_nil, St.set_next, St.set_same, St.up_next, Int.natCast_nonneg, lt_len, le_len, Int.toNat_natCast, true_and, and_true, eq_self, reduceCtorEq, decide_true, List.length_singleton, er_int, er_bool, er_str, tcs_len, e2]
    refine h0 _ _ ?_
    try clear h0 K_h0
    refine T.cond rfl (fun h => by cases h) (fun _ => T.exit ?_)
    have : i = a.length := by omega
    subst this
    have hab : a = b := by rw [List.take_length, hlen, List.take_length] at hpre; exact hpre
    try simp only [↓reduceIte, namesOf, List.any, I.names, aops, aopsI, aopsT, qstep, CPt, qget, Tbl.get, astep, ev, setd, List.set, List.getD, List.getElem?_cons_zero, List.getElem?_cons_succ, List.getElem?_nil, List.cons_append, List.nil_append, List.length_cons, List.length_nil, List.replicate, then_normal, inBlock_normal, Option.getD_some, Option.getD_none, Bool.or_false, Bool.or_true, Bool.true_or, Bool.false_or, Bool.false_eq_true, if_false, if_true, up_zero, Nat.reduceAdd, Nat.reduceSub, binv, ↓opt_def, AV.isAny, AV.cells, ldc, List.map_cons, List.map_nil, St.set_next, St.set_same, St.up_next, Int.natCast_nonneg, lt_len, le_len, Int.toNat_natCast, true_and, and_true, eq_self, reduceCtorEq, decide_true, List.length_singleton, er_int, er_bool, er_str, inBlock_exit, then_exit]
    refine h1 _ _ ?_
    try clear h1 K_h1
    refine T.seq_k (fun K_h0 h0 => ?_)
    refine T.regi hm ?_
    simp only [↓reduceIte, namesOf, List.any, I.names, aops, aopsI, aopsT, qstep, CPt, qget, Tbl.get, astep, ev, setd, List.set, List.getD, List.getElem?_cons_zero, List.getElem?_cons_succ, List.getElem?_nil, List.cons_append, List.nil_append, List.length_cons, List.length_nil, List.replicate, then_normal, inBlock_normal, Option.getD_some, Option.getD_none, Bool.or_false, Bool.or_true, Bool.true_or, Bool.false_or, Bool.false_eq_true, if_false, if_true, up_zero, Nat.reduceAdd, Nat.reduceSub, binv, ↓opt_def, AV.isAny, AV.cells, ldc, List.map_cons, List.map_nil, St.set_next, St.set_same, St.up_next, Int.natCast_nonneg, lt_len, le_len, Int.toNat_natCast, true_and, and_true, eq_self, reduceCtorEq, decide_true, List.length_singleton, er_int, er_bool, er_str]
    refine h0 _ _ ?_
    try clear h0 K_h0
    exact T.ret (Fin.ret rfl ⟨by rw [decide_eq_true hab]; rfl, rfl⟩)
  have e2 : decide (i < a.length) = true := decide_eq_true hil
  refine T.seq_k (fun K_h0 h0 => ?_)
  refine T.regi hm ?_
  simp only [↓reduceIte, namesOf, List.any, I.names, aops, aopsI, aopsT, qstep, CPt, qget, Tbl.get, astep, ev, setd, List.set, List.getD, List.getElem?_cons_zero, List.getElem?_cons_succ, List.getElem?_nil, List.cons_append, List.nil_append, List.length_cons, List.length_nil, List.replicate, then_normal, inBlock_normal, Option.getD_some, Option.getD_none, Bool.or_false, Bool.or_true, Bool.true_or, Bool.false_or, Bool.false_eq_true, if_false, if_true, up_zero, Nat.reduceAdd, Nat.reduceSub, binv, ↓opt_def, AV.isAny, AV.cells, ldc, List.map_cons, List.map_nil, St.set_next, St.set_same, St.up_next, Int.natCast_nonneg, lt_len, le_len, Int.toNat_natCast, true_and, and_true, eq_self, reduceCtorEq, decide_true, List.length_singleton, er_int, er_bool, er_str, tcs_len, e2]
  refine h0 _ _ ?_
  try clear h0 K_h0
  refine T.cond rfl (fun _ => T.skip ?_) (fun h => by cases h)
  refine h2 _ _ ?_
  try clear h2 K_h2
  clear h1
  have hjl : i < b.length := by omega
  have hw := inc64 hil hl
  refine T.seq_k (fun K_h2 h2 => ?_)
  refine T.block ?_
  have hta : a[i]? = some a[i] := by simp [hil]
  have htl : a[i].sp.length ≤ 9223372036854775807 := hs _ (List.getElem_mem hil)
  generalize hA : a[i] = ta at hta htl
  generalize hB : b[i] = tb
  refine T.seq_k (fun K_h3 h3 => ?_)
  refine T.regi hm ?_
  simp only [↓reduceIte, namesOf, List.any, I.names, aops, aopsI, aopsT, qstep, CPt, qget, Tbl.get, astep, ev, setd, List.set, List.getD, List.getElem?_cons_zero, List.getElem?_cons_succ, List.getElem?_nil, List.cons_append, List.nil_append, List.length_cons, List.length_nil, List.replicate, then_normal, inBlock_normal, Option.getD_some, Option.getD_none, Bool.or_false, Bool.or_true, Bool.true_or, Bool.false_or, Bool.false_eq_true, if_false, if_true, up_zero, Nat.reduceAdd, Nat.reduceSub, binv, ↓opt_def, AV.isAny, AV.cells, ldc, List.map_cons, List.map_nil, St.set_next, St.set_same, St.up_next, Int.natCast_nonneg, lt_len, le_len, Int.toNat_natCast, true_and, and_true, eq_self, reduceCtorEq, decide_true, List.length_singleton, er_int, er_bool, er_str, tcs_len, tcs_get hil, tcs_get hjl, hA, hB, hil, hjl, tcav, AV.fits, AV.one, List.all_cons, List.all_nil, Nat.reduceBEq, Bool.and_true, Bool.not_false, Bool.and_self, Nat.zero_add, splice, List.take, List.drop, Nat.reduceLeDiff]
  refine ⟨_, rspans_ok htl, ?_⟩
  try simp only [↓reduceIte, namesOf, List.any, I.names, aops, aopsI, aopsT, qstep, CPt, qget, Tbl.get, astep, ev, setd, List.set, List.getD, List.getElem?_cons_zero, List.getElem?_cons_succ, List.getElem?_nil, List.cons_append, List.nil_append, List.length_cons, List.length_nil, List.replicate, then_normal, inBlock_normal, Option.getD_some, Option.getD_none, Bool.or_false, Bool.or_true, Bool.true_or, Bool.false_or, Bool.false_eq_true, if_false, if_true, up_zero, Nat.reduceAdd, Nat.reduceSub, binv, ↓opt_def, AV.isAny, AV.cells, ldc, List.map_cons, List.map_nil, St.set_next, St.set_same, St.up_next, Int.natCast_nonneg, lt_len, le_len, Int.toNat_natCast, true_and, and_true, eq_self, reduceCtorEq, decide_true, List.length_singleton, er_int, er_bool, er_str, ]
  refine h3 _ _ ?_
  try clear h3 K_h3
  by_cases he : ta = tb
  · have e3 : ((ta.id : Int) != (tb.id : Int)) = false := by rw [he]; simp
    have e4 : decide (ta.sp = tb.sp) = true := decide_eq_true (by rw [he])
    refine T.seq_k (fun K_h0 h0 => ?_)
    refine T.regi hm ?_
    simp only [↓reduceIte, namesOf, List.any, I.names, aops, aopsI, aopsT, qstep, CPt, qget, Tbl.get, astep, ev, setd, List.set, List.getD, List.getElem?_cons_zero, List.getElem?_cons_succ, List.getElem?_nil, List.cons_append, List.nil_append, List.length_cons, List.length_nil, List.replicate, then_normal, inBlock_normal, Option.getD_some, Option.getD_none, Bool.or_false, Bool.or_true, Bool.true_or, Bool.false_or, Bool.false_eq_true, if_false, if_true, up_zero, Nat.reduceAdd, Nat.reduceSub, binv, ↓opt_def, AV.isAny, AV.cells, ldc, List.map_cons, List.map_nil, St.set_next, St.set_same, St.up_next, Int.natCast_nonneg, lt_len, le_len, Int.toNat_natCast, true_and, and_true, eq_self, reduceCtorEq, decide_true, List.length_singleton, er_int, er_bool, er_str, tcs_len, tcs_get hil, tcs_get hjl, hA, hB, hil, hjl, tcav, AV.fits, AV.one, List.all_cons, List.all_nil, Nat.reduceBEq, Bool.and_true, Bool.not_false, Bool.and_self, Nat.zero_add, splice, List.take, List.drop, Nat.reduceLeDiff, e3, e4]
    refine h0 _ _ ?_
    try clear h0 K_h0
    refine T.cond rfl (fun h => by cases h) (fun _ => T.skip ?_)
    refine h2 _ _ ?_
    try clear h2 K_h2
    refine T.regi hm ?_
    simp only [↓reduceIte, namesOf, List.any, I.names, aops, aopsI, aopsT, qstep, CPt, qget, Tbl.get, astep, ev, setd, List.set, List.getD, List.getElem?_cons_zero, List.getElem?_cons_succ, List.getElem?_nil, List.cons_append, List.nil_append, List.length_cons, List.length_nil, List.replicate, then_normal, inBlock_normal, Option.getD_some, Option.getD_none, Bool.or_false, Bool.or_true, Bool.true_or, Bool.false_or, Bool.false_eq_true, if_false, if_true, up_zero, Nat.reduceAdd, Nat.reduceSub, binv, ↓opt_def, AV.isAny, AV.cells, ldc, List.map_cons, List.map_nil, St.set_next, St.set_same, St.up_next, Int.natCast_nonneg, lt_len, le_len, Int.toNat_natCast, true_and, and_true, eq_self, reduceCtorEq, decide_true, List.length_singleton, er_int, er_bool, er_str, hw]
    refine ⟨hil, _, _, Gh.keep [0, 1, 5], rfl, ?_, rfl⟩
    rw [List.take_succ_eq_append_getElem hil, List.take_succ_eq_append_getElem hjl, hpre, hA, hB, he]
  · have hab : a ≠ b := fun h => by subst h; exact he (hA.symm.trans hB)
    have hdn : decide (a = b) = false := decide_eq_false hab
    by_cases hi2 : ta.id = tb.id
    · have e3 : ((ta.id : Int) != (tb.id : Int)) = false := by rw [hi2]; simp
      have e4 : decide (ta.sp = tb.sp) = false := decide_eq_false (fun h => he (by cases ta; cases tb; simp_all))
      refine T.seq_k (fun K_h0 h0 => ?_)
      refine T.regi hm ?_
      simp only [↓reduceIte, namesOf, List.any, I.names, aops, aopsI, aopsT, qstep, CPt, qget, Tbl.get, astep, ev, setd, List.set, List.getD, List.getElem?_cons_zero, List.getElem?_cons_succ, List.getElem?_nil, List.cons_append, List.nil_append, List.length_cons, List.length_nil, List.replicate, then_normal, inBlock_normal, Option.getD_some, Option.getD_none, Bool.or_false, Bool.or_true, Bool.true_or, Bool.false_or, Bool.false_eq_true, if_false, if_true, up_zero, Nat.reduceAdd, Nat.reduceSub, binv, ↓opt_def, AV.isAny, AV.cells, ldc, List.map_cons, List.map_nil, St.set_next, St.set_same, St.up_next, Int.natCast_nonneg, lt_len, le_len, Int.toNat_natCast, true_and, and_true, eq_self, reduceCtorEq, decide_true, List.length_singleton, er_int, er_bool, er_str, tcs_len, tcs_get hil, tcs_get hjl, hA, hB, hil, hjl, tcav, AV.fits, AV.one, List.all_cons, List.all_nil, Nat.reduceBEq, Bool.and_true, Bool.not_false, Bool.and_self, Nat.zero_add, splice, List.take, List.drop, Nat.reduceLeDiff, e3, e4]
      refine h0 _ _ ?_
      try clear h0 K_h0
      refine T.cond rfl (fun _ => ?_) (fun h => by cases h)
      refine T.seq_k (fun K_h0 h0 => ?_)
      refine T.regi hm ?_
      simp only [↓reduceIte, namesOf, List.any, I.names, aops, aopsI, aopsT, qstep, CPt, qget, Tbl.get, astep, ev, setd, List.set, List.getD, List.getElem?_cons_zero, List.getElem?_cons_succ, List.getElem?_nil, List.cons_append, List.nil_append, List.length_cons, List.length_nil, List.replicate, then_normal, inBlock_normal, Option.getD_some, Option.getD_none, Bool.or_false, Bool.or_true, Bool.true_or, Bool.false_or, Bool.false_eq_true, if_false, if_true, up_zero, Nat.reduceAdd, Nat.reduceSub, binv, ↓opt_def, AV.isAny, AV.cells, ldc, List.map_cons, List.map_nil, St.set_next, St.set_same, St.up_next, Int.natCast_nonneg, lt_len, le_len, Int.toNat_natCast, true_and, and_true, eq_self, reduceCtorEq, decide_true, List.length_singleton, er_int, er_bool, er_str]
      refine h0 _ _ ?_
      try clear h0 K_h0
      exact T.ret (Fin.ret rfl ⟨by rw [hdn]; rfl, rfl⟩)
    · have e3 : ((ta.id : Int) != (tb.id : Int)) = true := by rw [bne_iff_ne]; omega
      refine T.seq_k (fun K_h0 h0 => ?_)
      refine T.regi hm ?_
      simp only [↓reduceIte, namesOf, List.any, I.names, aops, aopsI, aopsT, qstep, CPt, qget, Tbl.get, astep, ev, setd, List.set, List.getD, List.getElem?_cons_zero, List.getElem?_cons_succ, List.getElem?_nil, List.cons_append, List.nil_append, List.length_cons, List.length_nil, List.replicate, then_normal, inBlock_normal, Option.getD_some, Option.getD_none, Bool.or_false, Bool.or_true, Bool.true_or, Bool.false_or, Bool.false_eq_true, if_false, if_true, up_zero, Nat.reduceAdd, Nat.reduceSub, binv, ↓opt_def, AV.isAny, AV.cells, ldc, List.map_cons, List.map_nil, St.set_next, St.set_same, St.up_next, Int.natCast_nonneg, lt_len, le_len, Int.toNat_natCast, true_and, and_true, eq_self, reduceCtorEq, decide_true, List.length_singleton, er_int, er_bool, er_str, tcs_len, tcs_get hil, tcs_get hjl, hA, hB, hil, hjl, tcav, AV.fits, AV.one, List.all_cons, List.all_nil, Nat.reduceBEq, Bool.and_true, Bool.not_false, Bool.and_self, Nat.zero_add, splice, List.take, List.drop, Nat.reduceLeDiff, e3]
      refine h0 _ _ ?_
      try clear h0 K_h0
      refine T.cond rfl (fun _ => ?_) (fun h => by cases h)
      refine T.seq_k (fun K_h0 h0 => ?_)
      refine T.regi hm ?_
      simp only [↓reduceIte, namesOf, List.any, I.names, aops, aopsI, aopsT, qstep, CPt, qget, Tbl.get, astep, ev, setd, List.set, List.getD, List.getElem?_cons_zero, List.getElem?_cons_succ, List.getElem?_nil, List.cons_append, List.nil_append, List.length_cons, List.length_nil, List.replicate, then_normal, inBlock_normal, Option.getD_some, Option.getD_none, Bool.or_false, Bool.or_true, Bool.true_or, Bool.false_or, Bool.false_eq_true, if_false, if_true, up_zero, Nat.reduceAdd, Nat.reduceSub, binv, ↓opt_def, AV.isAny, AV.cells, ldc, List.map_cons, List.map_nil, St.set_next, St.set_same, St.up_next, Int.natCast_nonneg, lt_len, le_len, Int.toNat_natCast, true_and, and_true, eq_self, reduceCtorEq, decide_true, List.length_singleton, er_int, er_bool, er_str]
      refine h0 _ _ ?_
      try clear h0 K_h0
      exact T.ret (Fin.ret rfl ⟨by rw [hdn]; rfl, rfl⟩)

end Go.VL

namespace Go.VL

open Go.Proofs

abbrev n_pgcut : Nat := 14

def c_pgcut : C := (.seq (.reg [⟨(some 4), (.mv (.c (.sl [] .nil))), none⟩, ⟨(some 5), (.mv (.c .nili)), none⟩]) (.seq (.seq (.reg [⟨(some 13), (.mv (.t 0)), none⟩, ⟨(some 14), (.call 61 [(.t 13)]), none⟩, ⟨(some 15), (.not (.t 14)), none⟩, ⟨(some 16), (.mv (.t 15)), none⟩, ⟨(some 17), (.mv (.t 1)), (some (16, false))⟩, ⟨(some 18), (.bin .lss .i64 (.t 17) (.c (.int .i64 64))), (some (16, false))⟩, ⟨(some 19), (.pick (.t 16) (.c (.bool true)) (.t 18)), none⟩, ⟨(some 20), (.mv (.t 19)), none⟩, ⟨(some 21), (.mv (.t 1)), (some (20, false))⟩, ⟨(some 22), (.bin .gtr .i64 (.t 21) (.c (.int .i64 8192))), (some (20, false))⟩, ⟨(some 23), (.pick (.t 20) (.c (.bool true)) (.t 22)), none⟩]) (.cond (.t 23) (.seq (.reg [⟨(some 24), (.mkI 31 (.c (.int .i64 1))), none⟩, ⟨(some 4), (.mv (.c (.sl [] .nil))), none⟩, ⟨(some 5), (.mv (.t 24)), none⟩]) .ret) .skip)) (.seq (.reg [⟨(some 6), (.mv (.c (.sl [] .nil))), none⟩]) (.seq (.reg [⟨(some 7), (.mv (.c (.sl [] .nil))), none⟩]) (.seq (.reg [⟨(some 8), (.mv (.c (.int .i64 6))), none⟩]) (.seq (.seq (.reg [⟨(some 25), (.mv (.t 0)), none⟩, ⟨(some 26), (.len (.t 25)), none⟩, ⟨(some 27), (.mv (.c (.int .i64 0))), none⟩]) (.block 0 (.loop (.seq (.reg [⟨(some 28), (.bin .lss .i64 (.t 27) (.t 26)), none⟩]) (.seq (.cond (.t 28) .skip (.exit 0)) (.seq (.block 1 (.seq (.reg [⟨(some 29), (.iaddr 2 (.t 25) (.t 27)), none⟩, ⟨(some 30), (.load (some 2) (.t 29)), none⟩, ⟨(some 10), (.alloc [(.int .u64 0), (.sl [] .nil)]), none⟩, ⟨none, (.store 2 (.t 10) (.t 30)), none⟩]) (.seq (.reg [⟨(some 32), (.load (some 2) (.t 10)), none⟩, ⟨(some 33), (.call 62 [(.t 32)]), none⟩, ⟨(some 31), (.mv (.t 33)), none⟩, ⟨(some 34), (.ext (.t 31) 0), none⟩, ⟨(some 35), (.ext (.t 31) 1), none⟩, ⟨(some 11), (.mv (.t 34)), none⟩, ⟨(some 12), (.mv (.t 35)), none⟩]) (.seq (.seq (.reg [⟨(some 36), (.mv (.t 12)), none⟩, ⟨(some 37), (.eqI true true [(31, .i64)] (.t 36) (.c .nili)), none⟩]) (.cond (.t 37) (.seq (.reg [⟨(some 38), (.mv (.t 12)), none⟩, ⟨(some 4), (.mv (.c (.sl [] .nil))), none⟩, ⟨(some 5), (.mv (.t 38)), none⟩]) .ret) .skip)) (.seq (.seq (.reg [⟨(some 39), (.mv (.t 7)), none⟩, ⟨(some 40), (.len (.t 39)), none⟩, ⟨(some 41), (.bin .gtr .i64 (.t 40) (.c (.int .i64 0))), none⟩, ⟨(some 42), (.mv (.t 41)), none⟩, ⟨(some 43), (.mv (.t 8)), (some (42, true))⟩, ⟨(some 44), (.mv (.t 11)), (some (42, true))⟩, ⟨(some 45), (.len (.t 44)), (some (42, true))⟩, ⟨(some 46), (.bin .add .i64 (.t 43) (.t 45)), (some (42, true))⟩, ⟨(some 47), (.mv (.t 1)), (some (42, true))⟩, ⟨(some 48), (.bin .gtr .i64 (.t 46) (.t 47)), (some (42, true))⟩, ⟨(some 49), (.mv (.t 48)), (some (42, true))⟩, ⟨(some 50), (.mv (.t 7)), (some (49, false))⟩, ⟨(some 51), (.len (.t 50)), (some (49, false))⟩, ⟨(some 52), (.bin .eql .i64 (.t 51) (.c (.int .i64 64))), (some (49, false))⟩, ⟨(some 53), (.pick (.t 49) (.c (.bool true)) (.t 52)), (some (42, true))⟩, ⟨(some 54), (.pick (.t 42) (.t 53) (.c (.bool false))), none⟩]) (.cond (.t 54) (.reg [⟨(some 55), (.mv (.t 6)), none⟩, ⟨(some 56), (.mv (.t 7)), none⟩, ⟨(some 57), (.bslice 1 .val [(.t 56)]), none⟩, ⟨(some 58), (.app 1 24 .tip (.t 55) (.t 57)), none⟩, ⟨(some 6), (.mv (.t 58)), none⟩, ⟨(some 7), (.mv (.c (.sl [] .nil))), none⟩, ⟨(some 8), (.mv (.c (.int .i64 6))), none⟩]) .skip)) (.reg [⟨(some 59), (.mv (.t 7)), none⟩, ⟨(some 60), (.faddr 0 (.t 10)), none⟩, ⟨(some 61), (.load none (.t 60)), none⟩, ⟨(some 62), (.load (some 2) (.t 10)), none⟩, ⟨(some 63), (.bslice 2 .val [(.t 62)]), none⟩, ⟨(some 64), (.qcall 63 [(.t 63)]), none⟩, ⟨(some 65), (.build [(.int .u64 0), (.sl [] .nil)] [(0, (1, (.t 61))), (1, (1, (.t 64)))]), none⟩, ⟨(some 66), (.bslice 2 .val [(.t 65)]), none⟩, ⟨(some 67), (.app 2 32 .tip (.t 59) (.t 66)), none⟩, ⟨(some 68), (.mv (.t 8)), none⟩, ⟨(some 69), (.mv (.t 11)), none⟩, ⟨(some 70), (.len (.t 69)), none⟩, ⟨(some 71), (.bin .add .i64 (.t 68) (.t 70)), none⟩, ⟨(some 7), (.mv (.t 67)), none⟩, ⟨(some 8), (.mv (.t 71)), none⟩])))))) (.reg [⟨(some 72), (.bin .add .i64 (.t 27) (.c (.int .i64 1))), none⟩, ⟨(some 27), (.mv (.t 72)), none⟩]))))))) (.seq (.seq (.reg [⟨(some 73), (.mv (.t 7)), none⟩, ⟨(some 74), (.len (.t 73)), none⟩, ⟨(some 75), (.bin .gtr .i64 (.t 74) (.c (.int .i64 0))), none⟩]) (.cond (.t 75) (.reg [⟨(some 76), (.mv (.t 6)), none⟩, ⟨(some 77), (.mv (.t 7)), none⟩, ⟨(some 78), (.bslice 1 .val [(.t 77)]), none⟩, ⟨(some 79), (.app 1 24 .tip (.t 76) (.t 78)), none⟩, ⟨(some 6), (.mv (.t 79)), none⟩]) .skip)) (.seq (.reg [⟨(some 80), (.mv (.t 6)), none⟩, ⟨(some 4), (.mv (.t 80)), none⟩, ⟨(some 5), (.mv (.c .nili)), none⟩]) .ret))))))))

set_option maxRecDepth 100000 in
theorem k_pgcut : compileC Try.prog ann (Try.f14.body.getD .skip) = some c_pgcut := by kernel_rfl

theorem s_pgcut {args : List AV} {σ : St} {K : AV → St → Prop} (h : WF σ → T Try.prog ann c_pgcut (Fin σ [(.t 4), (.t 5)] K) (args ++ List.replicate (81 - args.length) (.tup [])) σ) : ACalls Try.prog n_pgcut args σ K :=
  calls_ok Try.func14 (by kernel_rfl) (by kernel_rfl) k_pgcut (by kernel_rfl) (by kernel_rfl) h

abbrev ann_rcut : Ann := { errs := [(31, .i64)], pure := [(6, 8)], hold := [(6, 3, .tip)] }

abbrev n_rcut : Nat := 16

def c_rcut : C := (.seq (.reg [⟨(some 4), (.mv (.c (.sl [] .nil))), none⟩]) (.seq (.seq (.reg [⟨(some 6), (.mv (.t 0)), none⟩, ⟨(some 7), (.len (.t 6)), none⟩, ⟨(some 8), (.bin .eql .i64 (.t 7) (.c (.int .i64 0))), none⟩]) (.cond (.t 8) (.seq (.reg [⟨(some 4), (.mv (.c (.sl [] .nil))), none⟩]) .ret) .skip)) (.seq (.reg [⟨(some 5), (.mv (.c (.int .i64 1))), none⟩]) (.seq (.block 0 (.loop (.seq (.seq (.reg [⟨(some 9), (.mv (.t 5)), none⟩, ⟨(some 10), (.mv (.t 0)), none⟩, ⟨(some 11), (.len (.t 10)), none⟩, ⟨(some 12), (.bin .lss .i64 (.t 9) (.t 11)), none⟩, ⟨(some 13), (.mv (.t 12)), none⟩, ⟨(some 14), (.mv (.t 5)), (some (13, true))⟩, ⟨(some 15), (.bin .lss .i64 (.t 14) (.c (.int .i64 64))), (some (13, true))⟩, ⟨(some 16), (.pick (.t 13) (.t 15) (.c (.bool false))), none⟩, ⟨(some 17), (.mv (.t 16)), none⟩, ⟨(some 18), (.mv (.t 0)), (some (17, true))⟩, ⟨(some 19), (.mv (.t 5)), (some (17, true))⟩, ⟨(some 20), (.bin .add .i64 (.t 19) (.c (.int .i64 1))), (some (17, true))⟩, ⟨(some 21), (.slice 2 (.t 18) none (some (.t 20))), (some (17, true))⟩, ⟨(some 22), (.call 65 [(.t 21)]), (some (17, true))⟩, ⟨(some 23), (.len (.t 22)), (some (17, true))⟩, ⟨(some 24), (.mv (.t 1)), (some (17, true))⟩, ⟨(some 25), (.bin .leq .i64 (.t 23) (.t 24)), (some (17, true))⟩, ⟨(some 26), (.pick (.t 17) (.t 25) (.c (.bool false))), none⟩]) (.cond (.t 26) .skip (.exit 0))) (.block 1 (.reg [⟨(some 27), (.mv (.t 5)), none⟩, ⟨(some 28), (.bin .add .i64 (.t 27) (.c (.int .i64 1))), none⟩, ⟨(some 5), (.mv (.t 28)), none⟩]))))) (.seq (.reg [⟨(some 29), (.mv (.t 0)), none⟩, ⟨(some 30), (.mv (.t 5)), none⟩, ⟨(some 31), (.slice 2 (.t 29) none (some (.t 30))), none⟩, ⟨(some 32), (.bslice 1 .tip [(.t 31)]), none⟩, ⟨(some 33), (.mv (.t 0)), none⟩, ⟨(some 34), (.mv (.t 5)), none⟩, ⟨(some 35), (.slice 2 (.t 33) (some (.t 34)) none), none⟩, ⟨(some 36), (.mv (.t 1)), none⟩, ⟨(some 37), (.pcall 16 [(.t 35), (.t 36)]), none⟩, ⟨(some 38), (.app 1 24 .tip (.t 32) (.t 37)), none⟩, ⟨(some 4), (.mv (.t 38)), none⟩]) .ret)))))

set_option maxRecDepth 100000 in
theorem k_rcut : compileC Try.prog ann_rcut (Try.f16.body.getD .skip) = some c_rcut := by kernel_rfl

theorem s_rcut {args : List AV} {σ : St} {K : AV → St → Prop} (h : WF σ → T Try.prog ann_rcut c_rcut (Fin σ [(.t 4)] K) (args ++ List.replicate (39 - args.length) (.tup [])) σ) : ACalls Try.prog n_rcut args σ K :=
  calls_ok Try.func16 (by kernel_rfl) (by kernel_rfl) k_rcut (by kernel_rfl) (by kernel_rfl) h

abbrev n_tflat : Nat := 63

def c_tflat : C := (.seq (.reg [⟨(some 2), (.mv (.c (.sl [] .nil))), none⟩]) (.seq (.reg [⟨(some 3), (.mv (.c (.sl [] .nil))), none⟩]) (.seq (.seq (.reg [⟨(some 8), (.mv (.t 0)), none⟩, ⟨(some 9), (.len (.t 8)), none⟩, ⟨(some 10), (.mv (.c (.int .i64 0))), none⟩]) (.block 0 (.loop (.seq (.reg [⟨(some 11), (.bin .lss .i64 (.t 10) (.t 9)), none⟩]) (.seq (.cond (.t 11) .skip (.exit 0)) (.seq (.block 1 (.seq (.reg [⟨(some 12), (.iaddr 2 (.t 8) (.t 10)), none⟩, ⟨(some 13), (.load (some 2) (.t 12)), none⟩, ⟨(some 5), (.alloc [(.int .u64 0), (.sl [] .nil)]), none⟩, ⟨none, (.store 2 (.t 5) (.t 13)), none⟩]) (.seq (.reg [⟨(some 14), (.faddr 1 (.t 5)), none⟩, ⟨(some 15), (.load none (.t 14)), none⟩, ⟨(some 16), (.len (.t 15)), none⟩, ⟨(some 17), (.mv (.c (.int .i64 0))), none⟩]) (.block 2 (.loop (.seq (.reg [⟨(some 18), (.bin .lss .i64 (.t 17) (.t 16)), none⟩]) (.seq (.cond (.t 18) .skip (.exit 2)) (.seq (.block 3 (.seq (.reg [⟨(some 19), (.iaddr 5 (.t 15) (.t 17)), none⟩, ⟨(some 20), (.load (some 5) (.t 19)), none⟩, ⟨(some 7), (.alloc [(.int .u64 0), (.int .u64 0), (.int .i64 0), (.int .i64 0), (.sl [] .nil)]), none⟩, ⟨none, (.store 5 (.t 7) (.t 20)), none⟩]) (.seq (.reg [⟨(some 21), (.faddr 4 (.t 7)), none⟩, ⟨(some 22), (.load none (.t 21)), none⟩, ⟨(some 23), (.call 81 [(.t 22)]), none⟩, ⟨(some 24), (.faddr 4 (.t 7)), none⟩, ⟨none, (.store 1 (.t 24) (.t 23)), none⟩]) (.reg [⟨(some 25), (.mv (.t 3)), none⟩, ⟨(some 26), (.load (some 5) (.t 7)), none⟩, ⟨(some 27), (.bslice 5 .val [(.t 26)]), none⟩, ⟨(some 28), (.app 5 56 .tip (.t 25) (.t 27)), none⟩, ⟨(some 3), (.mv (.t 28)), none⟩])))) (.reg [⟨(some 29), (.bin .add .i64 (.t 17) (.c (.int .i64 1))), none⟩, ⟨(some 17), (.mv (.t 29)), none⟩]))))))))) (.reg [⟨(some 30), (.bin .add .i64 (.t 10) (.c (.int .i64 1))), none⟩, ⟨(some 10), (.mv (.t 30)), none⟩]))))))) (.seq (.reg [⟨(some 31), (.mv (.t 3)), none⟩, ⟨(some 2), (.mv (.t 31)), none⟩]) .ret))))

set_option maxRecDepth 100000 in
theorem k_tflat : compileC Try.prog ann (Try.f63.body.getD .skip) = some c_tflat := by kernel_rfl

theorem s_tflat {args : List AV} {σ : St} {K : AV → St → Prop} (h : WF σ → T Try.prog ann c_tflat (Fin σ [(.t 2)] K) (args ++ List.replicate (32 - args.length) (.tup [])) σ) : ACalls Try.prog n_tflat args σ K :=
  calls_ok Try.func63 (by kernel_rfl) (by kernel_rfl) k_tflat (by kernel_rfl) (by kernel_rfl) h

abbrev n_pageCuts : Nat := 3

def c_pageCuts : C := (.seq (.reg [⟨(some 4), (.mv (.c (.bool false))), none⟩]) (.seq (.reg [⟨(some 12), (.call 12 []), none⟩, ⟨(some 5), (.mv (.t 12)), none⟩]) (.seq (.reg [⟨(some 13), (.mv (.t 0)), none⟩, ⟨(some 14), (.call 13 [(.t 13), (.c (.int .i64 200))]), none⟩, ⟨(some 6), (.mv (.t 14)), none⟩]) (.seq (.seq (.reg [⟨(some 15), (.mv (.t 6)), none⟩, ⟨(some 16), (.not (.t 15)), none⟩]) (.cond (.t 16) (.seq (.reg [⟨(some 17), (.mv (.t 5)), none⟩, ⟨(some 4), (.mv (.t 17)), none⟩]) .ret) .skip)) (.seq (.reg [⟨(some 19), (.mv (.t 0)), none⟩, ⟨(some 20), (.mv (.t 1)), none⟩, ⟨(some 21), (.call 14 [(.t 19), (.t 20)]), none⟩, ⟨(some 18), (.mv (.t 21)), none⟩, ⟨(some 22), (.ext (.t 18) 0), none⟩, ⟨(some 23), (.ext (.t 18) 1), none⟩, ⟨(some 7), (.mv (.t 22)), none⟩, ⟨(some 8), (.mv (.t 23)), none⟩]) (.seq (.reg [⟨(some 24), (.mv (.t 0)), none⟩, ⟨(some 25), (.call 15 [(.t 24)]), none⟩, ⟨(some 9), (.mv (.t 25)), none⟩]) (.seq (.seq (.reg [⟨(some 26), (.mv (.t 9)), none⟩, ⟨(some 27), (.not (.t 26)), none⟩, ⟨(some 28), (.mv (.t 27)), none⟩, ⟨(some 29), (.mv (.t 1)), (some (28, false))⟩, ⟨(some 30), (.bin .lss .i64 (.t 29) (.c (.int .i64 64))), (some (28, false))⟩, ⟨(some 31), (.pick (.t 28) (.c (.bool true)) (.t 30)), none⟩, ⟨(some 32), (.mv (.t 31)), none⟩, ⟨(some 33), (.mv (.t 1)), (some (32, false))⟩, ⟨(some 34), (.bin .gtr .i64 (.t 33) (.c (.int .i64 8192))), (some (32, false))⟩, ⟨(some 35), (.pick (.t 32) (.c (.bool true)) (.t 34)), none⟩]) (.cond (.t 35) (.seq (.reg [⟨(some 36), (.mv (.t 5)), none⟩, ⟨(some 37), (.mv (.t 36)), none⟩, ⟨(some 38), (.mv (.t 8)), (some (37, true))⟩, ⟨(some 39), (.mkI 31 (.c (.int .i64 1))), (some (37, true))⟩, ⟨(some 40), (.eqI false false [(31, .i64)] (.t 38) (.t 39)), (some (37, true))⟩, ⟨(some 41), (.pick (.t 37) (.t 40) (.c (.bool false))), none⟩, ⟨(some 42), (.mv (.t 41)), none⟩, ⟨(some 43), (.mv (.t 7)), (some (42, true))⟩, ⟨(some 44), (.len (.t 43)), (some (42, true))⟩, ⟨(some 45), (.bin .eql .i64 (.t 44) (.c (.int .i64 0))), (some (42, true))⟩, ⟨(some 46), (.pick (.t 42) (.t 45) (.c (.bool false))), none⟩, ⟨(some 4), (.mv (.t 46)), none⟩]) .ret) .skip)) (.seq (.reg [⟨(some 47), (.mv (.t 0)), none⟩, ⟨(some 48), (.mv (.t 1)), none⟩, ⟨(some 49), (.call 16 [(.t 47), (.t 48)]), none⟩, ⟨(some 10), (.mv (.t 49)), none⟩]) (.seq (.seq (.reg [⟨(some 50), (.mv (.t 8)), none⟩, ⟨(some 51), (.eqI true true [(31, .i64)] (.t 50) (.c .nili)), none⟩, ⟨(some 52), (.mv (.t 51)), none⟩, ⟨(some 53), (.mv (.t 7)), (some (52, false))⟩, ⟨(some 54), (.len (.t 53)), (some (52, false))⟩, ⟨(some 55), (.mv (.t 10)), (some (52, false))⟩, ⟨(some 56), (.len (.t 55)), (some (52, false))⟩, ⟨(some 57), (.bin .neq .i64 (.t 54) (.t 56)), (some (52, false))⟩, ⟨(some 58), (.pick (.t 52) (.c (.bool true)) (.t 57)), none⟩]) (.cond (.t 58) (.seq (.reg [⟨(some 4), (.mv (.c (.bool false))), none⟩]) .ret) .skip)) (.seq (.seq (.reg [⟨(some 11), (.mv (.c (.int .i64 0))), none⟩]) (.block 0 (.loop (.seq (.seq (.reg [⟨(some 59), (.mv (.t 11)), none⟩, ⟨(some 60), (.mv (.t 7)), none⟩, ⟨(some 61), (.len (.t 60)), none⟩, ⟨(some 62), (.bin .lss .i64 (.t 59) (.t 61)), none⟩]) (.cond (.t 62) .skip (.exit 0))) (.seq (.block 1 (.seq (.reg [⟨(some 65), (.mv (.t 7)), none⟩, ⟨(some 66), (.mv (.t 11)), none⟩, ⟨(some 67), (.iaddr 1 (.t 65) (.t 66)), none⟩, ⟨(some 68), (.load none (.t 67)), none⟩, ⟨(some 69), (.mv (.t 10)), none⟩, ⟨(some 70), (.mv (.t 11)), none⟩, ⟨(some 71), (.iaddr 1 (.t 69) (.t 70)), none⟩, ⟨(some 72), (.load none (.t 71)), none⟩, ⟨(some 73), (.qcall 17 [(.t 68), (.t 72)]), none⟩, ⟨(some 74), (.not (.t 73)), none⟩]) (.cond (.t 74) (.seq (.reg [⟨(some 4), (.mv (.c (.bool false))), none⟩]) .ret) .skip))) (.reg [⟨(some 63), (.mv (.t 11)), none⟩, ⟨(some 64), (.bin .add .i64 (.t 63) (.c (.int .i64 1))), none⟩, ⟨(some 11), (.mv (.t 64)), none⟩])))))) (.seq (.reg [⟨(some 75), (.mv (.t 5)), none⟩, ⟨(some 4), (.mv (.t 75)), none⟩]) .ret)))))))))))

set_option maxRecDepth 100000 in
theorem k_pageCuts : compileC Try.prog ann (Try.f3.body.getD .skip) = some c_pageCuts := by kernel_rfl

theorem s_pageCuts {args : List AV} {σ : St} {K : AV → St → Prop} (h : WF σ → T Try.prog ann c_pageCuts (Fin σ [(.t 4)] K) (args ++ List.replicate (76 - args.length) (.tup [])) σ) : ACalls Try.prog n_pageCuts args σ K :=
  calls_ok Try.func3 (by kernel_rfl) (by kernel_rfl) k_pageCuts (by kernel_rfl) (by kernel_rfl) h

end Go.VL
