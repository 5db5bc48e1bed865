/- PageCuts (layer 5): whatever the traces and the size, the law returns true, and the arguments read as they did. Conditions: none. -/
import Derived.Test.YtmbbeldgfhnkbaaKPageCuts5
import Derived.Test.YtmbbeldgfhnkbaaChecked
import Derived.Test.YtmbbeldgfhnkbaaRows

set_option linter.unusedSimpArgs false
set_option linter.unusedVariables false

namespace Go.VL

open Go.Proofs

theorem flat_sp_le {l : List Tc} (i : Nat) : ((l.take i).flatMap Tc.sp).length ≤ (l.flatMap Tc.sp).length := by
  conv => rhs; rw [← List.take_append_drop i l, List.flatMap_append, List.length_append]
  omega

set_option maxRecDepth 10000 in
set_option maxHeartbeats 1000000 in
theorem tflat_ok {l : List Tc} {g : Ver} {σ : St} (hl : l.length ≤ 1000000000) (hs : (l.flatMap Tc.sp).length ≤ 1000000000) (hd : ∀ t ∈ l, ∀ s ∈ t.sp, s.da.length ≤ 1099511627776) :
    ACalls Try.prog n_tflat [.sl (tcsAV l) g] σ (fun v σ' => v = .sl (spsAV (l.flatMap Tc.sp)) .none ∧ σ' = σ) := by
  refine s_tflat (fun wf => ?_)
  unfold c_tflat
  refine T.seq_k (fun K_h0 h0 => ?_)
  refine T.regi hm ?_
  simp only [↓reduceIte, namesOf, List.any, I.names, aops, aopsI, aopsT, qstep, CPt, qget, Tbl.get, astep, ev, setd, List.set, List.getD, List.getElem?_cons_zero, List.getElem?_cons_succ, List.getElem?_nil, List.cons_append, List.nil_append, List.length_cons, List.length_nil, List.replicate, then_normal, inBlock_normal, Option.getD_some, Option.getD_none, Bool.or_false, Bool.or_true, Bool.true_or, Bool.false_or, Bool.false_eq_true, if_false, if_true, up_zero, Nat.reduceAdd, Nat.reduceSub, binv, ↓opt_def, AV.isAny, AV.cells, ldc, List.map_cons, List.map_nil, St.set_next, St.set_same, St.up_next, Int.natCast_nonneg, lt_len, le_len, Int.toNat_natCast, true_and, and_true, eq_self, reduceCtorEq, decide_true, List.length_singleton, er_int, er_bool, er_str]
  refine h0 _ _ ?_
  try clear h0 K_h0
  refine T.seq_k (fun K_h0 h0 => ?_)
  refine T.regi hm ?_
  simp only [↓reduceIte, namesOf, List.any, I.names, aops, aopsI, aopsT, qstep, CPt, qget, Tbl.get, astep, ev, setd, List.set, List.getD, List.getElem?_cons_zero, List.getElem?_cons_succ, List.getElem?_nil, List.cons_append, List.nil_append, List.length_cons, List.length_nil, List.replicate, then_normal, inBlock_normal, Option.getD_some, Option.getD_none, Bool.or_false, Bool.or_true, Bool.true_or, Bool.false_or, Bool.false_eq_true, if_false, if_true, up_zero, Nat.reduceAdd, Nat.reduceSub, binv, ↓opt_def, AV.isAny, AV.cells, ldc, List.map_cons, List.map_nil, St.set_next, St.set_same, St.up_next, Int.natCast_nonneg, lt_len, le_len, Int.toNat_natCast, true_and, and_true, eq_self, reduceCtorEq, decide_true, List.length_singleton, er_int, er_bool, er_str]
  refine h0 _ _ ?_
  try clear h0 K_h0
  refine T.seq_k (fun K_h1 h1 => ?_)
  refine T.seq_k (fun K_h0 h0 => ?_)
  refine T.regi hm ?_
  simp only [↓reduceIte, namesOf, List.any, I.names, aops, aopsI, aopsT, qstep, CPt, qget, Tbl.get, astep, ev, setd, List.set, List.getD, List.getElem?_cons_zero, List.getElem?_cons_succ, List.getElem?_nil, List.cons_append, List.nil_append, List.length_cons, List.length_nil, List.replicate, then_normal, inBlock_normal, Option.getD_some, Option.getD_none, Bool.or_false, Bool.or_true, Bool.true_or, Bool.false_or, Bool.false_eq_true, if_false, if_true, up_zero, Nat.reduceAdd, Nat.reduceSub, binv, ↓opt_def, AV.isAny, AV.cells, ldc, List.map_cons, List.map_nil, St.set_next, St.set_same, St.up_next, Int.natCast_nonneg, lt_len, le_len, Int.toNat_natCast, true_and, and_true, eq_self, reduceCtorEq, decide_true, List.length_singleton, er_int, er_bool, er_str, tcs_len]
  refine h0 _ _ ?_
  try clear h0 K_h0
  refine T.block ?_
  refine T.gh (Gh.keep [3, 8, 9, 10]) ?_
  refine T.loopi (fun i ρ t => (∃ x G, AccG σ t 5 (spsAV ((l.take i).flatMap Tc.sp)) x G ∧ ρ = [.any, .any, .any, x, .any, .any, .any, .any, .sl (tcsAV l) g, .int .i64 (l.length : Int), .int .i64 (i : Int)] ++ List.replicate 21 .any))
    l.length 0 (Nat.zero_le _) ⟨_, none, .nil (.refl _), rfl⟩ ?_
  rintro i ρ t hi ⟨x, G, hA, rfl⟩
  refine T.seq_k (fun K_h0 h0 => ?_)
  refine T.regi hm ?_
  simp only [↓reduceIte, namesOf, List.any, I.names, aops, aopsI, aopsT, qstep, CPt, qget, Tbl.get, astep, ev, setd, List.set, List.getD, List.getElem?_cons_zero, List.getElem?_cons_succ, List.getElem?_nil, List.cons_append, List.nil_append, List.length_cons, List.length_nil, List.replicate, then_normal, inBlock_normal, Option.getD_some, Option.getD_none, Bool.or_false, Bool.or_true, Bool.true_or, Bool.false_or, Bool.false_eq_true, if_false, if_true, up_zero, Nat.reduceAdd, Nat.reduceSub, binv, ↓opt_def, AV.isAny, AV.cells, ldc, List.map_cons, List.map_nil, St.set_next, St.set_same, St.up_next, Int.natCast_nonneg, lt_len, le_len, Int.toNat_natCast, true_and, and_true, eq_self, reduceCtorEq, decide_true, List.length_singleton, er_int, er_bool, er_str]
  refine h0 _ _ ?_
  try clear h0 K_h0
  refine T.seq_k (fun K_h2 h2 => ?_)
  by_cases hil : i < l.length
  case neg =>
    refine T.cond (b := false) (by simp [ev]; omega) (fun h => by cases h) (fun _ => T.exit ?_)
    have : i = l.length := by omega
    subst this
    rw [List.take_length] at hA
    try simp only [↓reduceIte, namesOf, List.any, I.names, aops, aopsI, aopsT, qstep, CPt, qget, Tbl.get, astep, ev, setd, List.set, List.getD, List.getElem?_cons_zero, List.getElem?_cons_succ, List.getElem?_nil, List.cons_append, List.nil_append, List.length_cons, List.length_nil, List.replicate, then_normal, inBlock_normal, Option.getD_some, Option.getD_none, Bool.or_false, Bool.or_true, Bool.true_or, Bool.false_or, Bool.false_eq_true, if_false, if_true, up_zero, Nat.reduceAdd, Nat.reduceSub, binv, ↓opt_def, AV.isAny, AV.cells, ldc, List.map_cons, List.map_nil, St.set_next, St.set_same, St.up_next, Int.natCast_nonneg, lt_len, le_len, Int.toNat_natCast, true_and, and_true, eq_self, reduceCtorEq, decide_true, List.length_singleton, er_int, er_bool, er_str, inBlock_exit, then_exit]
    refine h1 _ _ ?_
    try clear h1 K_h1
    refine T.seq_k (fun K_h0 h0 => ?_)
    refine T.regi hm ?_
    simp only [↓reduceIte, namesOf, List.any, I.names, aops, aopsI, aopsT, qstep, CPt, qget, Tbl.get, astep, ev, setd, List.set, List.getD, List.getElem?_cons_zero, List.getElem?_cons_succ, List.getElem?_nil, List.cons_append, List.nil_append, List.length_cons, List.length_nil, List.replicate, then_normal, inBlock_normal, Option.getD_some, Option.getD_none, Bool.or_false, Bool.or_true, Bool.true_or, Bool.false_or, Bool.false_eq_true, if_false, if_true, up_zero, Nat.reduceAdd, Nat.reduceSub, binv, ↓opt_def, AV.isAny, AV.cells, ldc, List.map_cons, List.map_nil, St.set_next, St.set_same, St.up_next, Int.natCast_nonneg, lt_len, le_len, Int.toNat_natCast, true_and, and_true, eq_self, reduceCtorEq, decide_true, List.length_singleton, er_int, er_bool, er_str]
    refine h0 _ _ ?_
    try clear h0 K_h0
    exact T.ret (Fin.quietw rfl hA.wk ⟨nbs_sps _ _, trivial⟩ (hA.quiet wf) ⟨rfl, rfl⟩)
  refine T.cond (b := true) (by simp [ev]; omega) (fun _ => T.skip ?_) (fun h => by cases h)
  refine h2 _ _ ?_
  try clear h2 K_h2
  have hiw := inc64' hil (by omega)
  have hilI : (i : Int) < (l.length : Int) := by omega
  have hg := tcs_get hil
  have hfs : (l.take (i + 1)).flatMap Tc.sp = (l.take i).flatMap Tc.sp ++ l[i].sp := flat_snoc Tc.sp hil
  have hfl := flat_sp_le (l := l) (i + 1)
  rw [hfs, List.length_append] at hfl
  have hdx := hd _ (List.getElem_mem hil)
  generalize l[i] = y at hg hfs hfl hdx
  rw [tcav'] at hg
  refine T.seq_k (fun K_h2 h2 => ?_)
  refine T.block ?_
  refine T.seq_k (fun K_h3 h3 => ?_)
  refine T.regi hm ?_
  simp only [↓reduceIte, namesOf, List.any, I.names, aops, aopsI, aopsT, qstep, CPt, qget, Tbl.get, astep, ev, setd, List.set, List.getD, List.getElem?_cons_zero, List.getElem?_cons_succ, List.getElem?_nil, List.cons_append, List.nil_append, List.length_cons, List.length_nil, List.replicate, then_normal, inBlock_normal, Option.getD_some, Option.getD_none, Bool.or_false, Bool.or_true, Bool.true_or, Bool.false_or, Bool.false_eq_true, if_false, if_true, up_zero, Nat.reduceAdd, Nat.reduceSub, binv, ↓opt_def, AV.isAny, AV.cells, ldc, List.map_cons, List.map_nil, St.set_next, St.set_same, St.up_next, Int.natCast_nonneg, lt_len, le_len, Int.toNat_natCast, true_and, and_true, eq_self, reduceCtorEq, decide_true, List.length_singleton, er_int, er_bool, er_str, tcs_len, hg, hilI, AV.fits, AV.one, List.all_cons, List.all_nil, Nat.reduceBEq, Bool.and_true, Bool.not_false, Bool.and_self, Nat.zero_add, splice, List.take, List.drop, Nat.reduceLeDiff, St.set_set]
  have hA1 := hA.box (n := 4) (i := 2) (by omega) (.obj [.int .u64 (y.id : Int), .sl (spsAV y.sp) .none])
  have hb : ((t.up 4).set (t.next + 2) (.obj [.int .u64 (y.id : Int), .sl (spsAV y.sp) .none])).res (t.next + 2) = some (.obj [.int .u64 (y.id : Int), .sl (spsAV y.sp) .none]) := by simp
  generalize ((t.up 4).set (t.next + 2) (.obj [.int .u64 (y.id : Int), .sl (spsAV y.sp) .none])) = τ at hA1 hb ⊢
  generalize t.next + 2 = a at hb ⊢
  clear hA
  refine h3 _ _ ?_
  try clear h3 K_h3
  refine T.seq_k (fun K_h0 h0 => ?_)
  refine T.regi hm ?_
  simp only [↓reduceIte, namesOf, List.any, I.names, aops, aopsI, aopsT, qstep, CPt, qget, Tbl.get, astep, ev, setd, List.set, List.getD, List.getElem?_cons_zero, List.getElem?_cons_succ, List.getElem?_nil, List.cons_append, List.nil_append, List.length_cons, List.length_nil, List.replicate, then_normal, inBlock_normal, Option.getD_some, Option.getD_none, Bool.or_false, Bool.or_true, Bool.true_or, Bool.false_or, Bool.false_eq_true, if_false, if_true, up_zero, Nat.reduceAdd, Nat.reduceSub, binv, ↓opt_def, AV.isAny, AV.cells, ldc, List.map_cons, List.map_nil, St.set_next, St.set_same, St.up_next, Int.natCast_nonneg, lt_len, le_len, Int.toNat_natCast, true_and, and_true, eq_self, reduceCtorEq, decide_true, List.length_singleton, er_int, er_bool, er_str, hb, AV.fits, AV.one, List.all_cons, List.all_nil, Nat.reduceBEq, Bool.and_true, Bool.not_false, Bool.and_self, Nat.zero_add, splice, List.take, List.drop, Nat.reduceLeDiff, sps_len]
  refine h0 _ _ ?_
  try clear h0 K_h0
  refine T.block ?_
  refine T.gh (Gh.keep [3, 8, 9, 10, 15, 16, 17]) ?_
  refine T.loopi (fun j ρ t => (∃ x G, AccG σ t 5 (spsAV ((l.take i).flatMap Tc.sp ++ y.sp.take j)) x G ∧ ρ = [.any, .any, .any, x, .any, .any, .any, .any, .sl (tcsAV l) g, .int .i64 (l.length : Int), .int .i64 (i : Int), .any, .any, .any, .any, .sl (spsAV y.sp) .none, .int .i64 (y.sp.length : Int), .int .i64 (j : Int)] ++ List.replicate 14 .any))
    y.sp.length 0 (Nat.zero_le _) ⟨_, G, by rw [List.take_zero, List.append_nil]; exact hA1, rfl⟩ ?_
  clear hA1 hb
  rintro j ρ t hj ⟨x, G, hA, rfl⟩
  refine T.seq_k (fun K_h0 h0 => ?_)
  refine T.regi hm ?_
  simp only [↓reduceIte, namesOf, List.any, I.names, aops, aopsI, aopsT, qstep, CPt, qget, Tbl.get, astep, ev, setd, List.set, List.getD, List.getElem?_cons_zero, List.getElem?_cons_succ, List.getElem?_nil, List.cons_append, List.nil_append, List.length_cons, List.length_nil, List.replicate, then_normal, inBlock_normal, Option.getD_some, Option.getD_none, Bool.or_false, Bool.or_true, Bool.true_or, Bool.false_or, Bool.false_eq_true, if_false, if_true, up_zero, Nat.reduceAdd, Nat.reduceSub, binv, ↓opt_def, AV.isAny, AV.cells, ldc, List.map_cons, List.map_nil, St.set_next, St.set_same, St.up_next, Int.natCast_nonneg, lt_len, le_len, Int.toNat_natCast, true_and, and_true, eq_self, reduceCtorEq, decide_true, List.length_singleton, er_int, er_bool, er_str]
  refine h0 _ _ ?_
  try clear h0 K_h0
  refine T.seq_k (fun K_h3 h3 => ?_)
  by_cases hjl : j < y.sp.length
  case neg =>
    refine T.cond (b := false) (by simp [ev]; omega) (fun h => by cases h) (fun _ => T.exit ?_)
    have : j = y.sp.length := by omega
    subst this
    rw [List.take_length, ← hfs] at hA
    try simp only [↓reduceIte, namesOf, List.any, I.names, aops, aopsI, aopsT, qstep, CPt, qget, Tbl.get, astep, ev, setd, List.set, List.getD, List.getElem?_cons_zero, List.getElem?_cons_succ, List.getElem?_nil, List.cons_append, List.nil_append, List.length_cons, List.length_nil, List.replicate, then_normal, inBlock_normal, Option.getD_some, Option.getD_none, Bool.or_false, Bool.or_true, Bool.true_or, Bool.false_or, Bool.false_eq_true, if_false, if_true, up_zero, Nat.reduceAdd, Nat.reduceSub, binv, ↓opt_def, AV.isAny, AV.cells, ldc, List.map_cons, List.map_nil, St.set_next, St.set_same, St.up_next, Int.natCast_nonneg, lt_len, le_len, Int.toNat_natCast, true_and, and_true, eq_self, reduceCtorEq, decide_true, List.length_singleton, er_int, er_bool, er_str, inBlock_exit, then_exit]
    refine h2 _ _ ?_
    try clear h2 K_h2
    refine T.regi hm ?_
    simp only [↓reduceIte, namesOf, List.any, I.names, aops, aopsI, aopsT, qstep, CPt, qget, Tbl.get, astep, ev, setd, List.set, List.getD, List.getElem?_cons_zero, List.getElem?_cons_succ, List.getElem?_nil, List.cons_append, List.nil_append, List.length_cons, List.length_nil, List.replicate, then_normal, inBlock_normal, Option.getD_some, Option.getD_none, Bool.or_false, Bool.or_true, Bool.true_or, Bool.false_or, Bool.false_eq_true, if_false, if_true, up_zero, Nat.reduceAdd, Nat.reduceSub, binv, ↓opt_def, AV.isAny, AV.cells, ldc, List.map_cons, List.map_nil, St.set_next, St.set_same, St.up_next, Int.natCast_nonneg, lt_len, le_len, Int.toNat_natCast, true_and, and_true, eq_self, reduceCtorEq, decide_true, List.length_singleton, er_int, er_bool, er_str, hiw]
    exact ⟨hil, _, _, Gh.keep [3, 8, 9, 10], _, _, hA, rfl⟩
  clear h2
  refine T.cond (b := true) (by simp [ev]; omega) (fun _ => T.skip ?_) (fun h => by cases h)
  refine h3 _ _ ?_
  try clear h3 K_h3
  have hjw := inc64' hjl (by omega)
  have hjlI : (j : Int) < (y.sp.length : Int) := by omega
  have hg2 := sps_get hjl
  have hts : y.sp.take (j + 1) = y.sp.take j ++ [y.sp[j]] := List.take_succ_eq_append_getElem hjl
  have hds := hdx _ (List.getElem_mem hjl)
  have hjt : (y.sp.take j).length = j := by rw [List.length_take]; omega
  generalize y.sp[j] = s at hg2 hts hds
  rw [spav] at hg2
  refine T.seq_k (fun K_h3 h3 => ?_)
  refine T.block ?_
  refine T.seq_k (fun K_h4 h4 => ?_)
  refine T.regi hm ?_
  simp only [↓reduceIte, namesOf, List.any, I.names, aops, aopsI, aopsT, qstep, CPt, qget, Tbl.get, astep, ev, setd, List.set, List.getD, List.getElem?_cons_zero, List.getElem?_cons_succ, List.getElem?_nil, List.cons_append, List.nil_append, List.length_cons, List.length_nil, List.replicate, then_normal, inBlock_normal, Option.getD_some, Option.getD_none, Bool.or_false, Bool.or_true, Bool.true_or, Bool.false_or, Bool.false_eq_true, if_false, if_true, up_zero, Nat.reduceAdd, Nat.reduceSub, binv, ↓opt_def, AV.isAny, AV.cells, ldc, List.map_cons, List.map_nil, St.set_next, St.set_same, St.up_next, Int.natCast_nonneg, lt_len, le_len, Int.toNat_natCast, true_and, and_true, eq_self, reduceCtorEq, decide_true, List.length_singleton, er_int, er_bool, er_str, sps_len, hg2, hjlI, AV.fits, AV.one, List.all_cons, List.all_nil, Nat.reduceBEq, Bool.and_true, Bool.not_false, Bool.and_self, Nat.zero_add, splice, List.take, List.drop, Nat.reduceLeDiff, St.set_set]
  have hA1 := hA.box (n := 4) (i := 2) (by omega) (.obj [.int .u64 (s.tr : Int), .int .u64 (s.id : Int), .int .i64 s.st, .int .i64 s.en, .sl (bytesAV s.da) .none])
  have hb : ((t.up 4).set (t.next + 2) (.obj [.int .u64 (s.tr : Int), .int .u64 (s.id : Int), .int .i64 s.st, .int .i64 s.en, .sl (bytesAV s.da) .none])).res (t.next + 2) = some (.obj [.int .u64 (s.tr : Int), .int .u64 (s.id : Int), .int .i64 s.st, .int .i64 s.en, .sl (bytesAV s.da) .none]) := by simp
  have haG : ∀ g, G = some g → t.next + 2 ≠ g := fun g e => by have := (hA.lt g e).2; omega
  have hlo : σ.next ≤ t.next + 2 := by have := hA.like.next; omega
  generalize ((t.up 4).set (t.next + 2) (.obj [.int .u64 (s.tr : Int), .int .u64 (s.id : Int), .int .i64 s.st, .int .i64 s.en, .sl (bytesAV s.da) .none])) = τ at hA1 hb ⊢
  generalize t.next + 2 = a at hb haG hlo ⊢
  clear hA
  refine h4 _ _ ?_
  try clear h4 K_h4
  refine T.seq_k (fun K_h4 h4 => ?_)
  refine T.regi hm ?_
  simp only [↓reduceIte, namesOf, List.any, I.names, aops, aopsI, aopsT, qstep, CPt, qget, Tbl.get, astep, ev, setd, List.set, List.getD, List.getElem?_cons_zero, List.getElem?_cons_succ, List.getElem?_nil, List.cons_append, List.nil_append, List.length_cons, List.length_nil, List.replicate, then_normal, inBlock_normal, Option.getD_some, Option.getD_none, Bool.or_false, Bool.or_true, Bool.true_or, Bool.false_or, Bool.false_eq_true, if_false, if_true, up_zero, Nat.reduceAdd, Nat.reduceSub, binv, ↓opt_def, AV.isAny, AV.cells, ldc, List.map_cons, List.map_nil, St.set_next, St.set_same, St.up_next, Int.natCast_nonneg, lt_len, le_len, Int.toNat_natCast, true_and, and_true, eq_self, reduceCtorEq, decide_true, List.length_singleton, er_int, er_bool, er_str, hb, AV.fits, AV.one, List.all_cons, List.all_nil, Nat.reduceBEq, Bool.and_true, Bool.not_false, Bool.and_self, Nat.zero_add, splice, List.take, List.drop, Nat.reduceLeDiff]
  refine (clone_q hds (.inl ⟨_, rfl, fun h => by cases h⟩)).mono ?_
  rintro v τ2 ⟨rfl, rfl⟩
  try simp only [↓reduceIte, namesOf, List.any, I.names, aops, aopsI, aopsT, qstep, CPt, qget, Tbl.get, astep, ev, setd, List.set, List.getD, List.getElem?_cons_zero, List.getElem?_cons_succ, List.getElem?_nil, List.cons_append, List.nil_append, List.length_cons, List.length_nil, List.replicate, then_normal, inBlock_normal, Option.getD_some, Option.getD_none, Bool.or_false, Bool.or_true, Bool.true_or, Bool.false_or, Bool.false_eq_true, if_false, if_true, up_zero, Nat.reduceAdd, Nat.reduceSub, binv, ↓opt_def, AV.isAny, AV.cells, ldc, List.map_cons, List.map_nil, St.set_next, St.set_same, St.up_next, Int.natCast_nonneg, lt_len, le_len, Int.toNat_natCast, true_and, and_true, eq_self, reduceCtorEq, decide_true, List.length_singleton, er_int, er_bool, er_str, up_zero, hb, AV.fits, AV.one, List.all_cons, List.all_nil, Nat.reduceBEq, Bool.and_true, Bool.not_false, Bool.and_self, Nat.zero_add, splice, List.take, List.drop, Nat.reduceLeDiff]
  have hA2 := hA1.set (a := a) (.obj [.int .u64 (s.tr : Int), .int .u64 (s.id : Int), .int .i64 s.st, .int .i64 s.en, .sl (bytesAV s.da) .none]) hlo haG
  have hb2 : (τ2.set a (.obj [.int .u64 (s.tr : Int), .int .u64 (s.id : Int), .int .i64 s.st, .int .i64 s.en, .sl (bytesAV s.da) .none])).res a = _ := St.set_same _ _ _
  generalize (τ2.set a (.obj [.int .u64 (s.tr : Int), .int .u64 (s.id : Int), .int .i64 s.st, .int .i64 s.en, .sl (bytesAV s.da) .none])) = τ3 at hA2 hb2 ⊢
  clear hA1 hb
  refine h4 _ _ ?_
  try clear h4 K_h4
  have hb3 : ∀ n, (τ3.up n).res a = some (.obj [.int .u64 (s.tr : Int), .int .u64 (s.id : Int), .int .i64 s.st, .int .i64 s.en, .sl (bytesAV s.da) .none]) := fun _ => hb2
  refine T.regt hm (tbl := []) Tbl.ok_nil ?_
  refine aopsT_cut 3 (fun K_c h_c => ?_)
  try simp only [↓reduceIte, namesOf, List.any, I.names, aops, aopsI, aopsT, qstep, CPt, qget, Tbl.get, astep, ev, setd, List.set, List.getD, List.getElem?_cons_zero, List.getElem?_cons_succ, List.getElem?_nil, List.cons_append, List.nil_append, List.length_cons, List.length_nil, List.replicate, then_normal, inBlock_normal, Option.getD_some, Option.getD_none, Bool.or_false, Bool.or_true, Bool.true_or, Bool.false_or, Bool.false_eq_true, if_false, if_true, up_zero, Nat.reduceAdd, Nat.reduceSub, binv, ↓opt_def, AV.isAny, AV.cells, ldc, List.map_cons, List.map_nil, St.set_next, St.set_same, St.up_next, Int.natCast_nonneg, lt_len, le_len, Int.toNat_natCast, true_and, and_true, eq_self, reduceCtorEq, decide_true, List.length_singleton, er_int, er_bool, er_str, List.take_succ_cons, List.take_zero, hb3, held, AV.fits, AV.one, List.all_cons, List.all_nil, Nat.reduceBEq, Bool.and_true, Bool.not_false, Bool.and_self, Nat.zero_add, splice, List.take, List.drop, Nat.reduceLeDiff, sps_cells]
  refine h_c _ _ ?_
  clear h_c K_c
  simp only [List.drop_succ_cons, List.drop_zero, Nat.zero_add, Nat.reduceAdd]
  refine aopsT_acc (hA2.up 5) (by have := hA2.like.next; omega) (by simp) rfl (ys := [s.av]) ?_ ?_ ?_ (fun x' t' G' hA3 _ _ _ _ => ?_)
  · rfl
  · exact sps_fits ((l.take i).flatMap Tc.sp ++ y.sp.take j ++ [s]) ▸ by simp [spsAV]
  · have hss : [s.av].length = 1 := rfl
    rw [sps_len, List.length_append, hjt, hss]; omega
  try simp only [↓reduceIte, namesOf, List.any, I.names, aops, aopsI, aopsT, qstep, CPt, qget, Tbl.get, astep, ev, setd, List.set, List.getD, List.getElem?_cons_zero, List.getElem?_cons_succ, List.getElem?_nil, List.cons_append, List.nil_append, List.length_cons, List.length_nil, List.replicate, then_normal, inBlock_normal, Option.getD_some, Option.getD_none, Bool.or_false, Bool.or_true, Bool.true_or, Bool.false_or, Bool.false_eq_true, if_false, if_true, up_zero, Nat.reduceAdd, Nat.reduceSub, binv, ↓opt_def, AV.isAny, AV.cells, ldc, List.map_cons, List.map_nil, St.set_next, St.set_same, St.up_next, Int.natCast_nonneg, lt_len, le_len, Int.toNat_natCast, true_and, and_true, eq_self, reduceCtorEq, decide_true, List.length_singleton, er_int, er_bool, er_str, ]
  refine h3 _ _ ?_
  try clear h3 K_h3
  refine T.regi hm ?_
  simp only [↓reduceIte, namesOf, List.any, I.names, aops, aopsI, aopsT, qstep, CPt, qget, Tbl.get, astep, ev, setd, List.set, List.getD, List.getElem?_cons_zero, List.getElem?_cons_succ, List.getElem?_nil, List.cons_append, List.nil_append, List.length_cons, List.length_nil, List.replicate, then_normal, inBlock_normal, Option.getD_some, Option.getD_none, Bool.or_false, Bool.or_true, Bool.true_or, Bool.false_or, Bool.false_eq_true, if_false, if_true, up_zero, Nat.reduceAdd, Nat.reduceSub, binv, ↓opt_def, AV.isAny, AV.cells, ldc, List.map_cons, List.map_nil, St.set_next, St.set_same, St.up_next, Int.natCast_nonneg, lt_len, le_len, Int.toNat_natCast, true_and, and_true, eq_self, reduceCtorEq, decide_true, List.length_singleton, er_int, er_bool, er_str, hjw]
  refine ⟨hjl, _, _, Gh.keep [3, 8, 9, 10, 15, 16, 17], x', G', ?_, rfl⟩
  rw [hts, ← List.append_assoc]
  have : spsAV ((l.take i).flatMap Tc.sp ++ y.sp.take j ++ [s]) = spsAV ((l.take i).flatMap Tc.sp ++ y.sp.take j) ++ [s.av] := by simp [spsAV]
  rw [this]; exact hA3

end Go.VL

namespace Go.VL

open Go.Proofs

/-- an owned thing nm, and a row that grows -/
structure RS (σ σ' : St) (nm : Nat) (r : Res) (k : Nat) (v : Ver) : Prop where
  old : ∀ m, m < σ.next → σ'.res m = σ.res m
  lo : σ.next ≤ nm
  hi : nm < σ'.next
  at_ : σ'.res nm = some r
  ver : v = .nil ∨ ∃ g, v = .tip g ∧ g ≠ nm ∧ σ.next ≤ g ∧ g < σ'.next ∧ σ'.res g = some (.tip k)

theorem RS.set {σ σ' : St} {nm k : Nat} {r : Res} {v : Ver} (h : RS σ σ' nm r k v) (r' : Res) : RS σ (σ'.set nm r') nm r' k v where
  old := fun m hm => by rw [St.set_other _ _ (by have := h.lo; omega)]; exact h.old m hm
  lo := h.lo
  hi := h.hi
  at_ := by simp
  ver := h.ver.imp id fun ⟨g, h1, h2, h3, h4, h5⟩ => ⟨g, h1, h2, h3, h4, by rw [St.set_other _ _ h2]; exact h5⟩

theorem RS.up {σ σ' : St} {nm k : Nat} {r : Res} {v : Ver} (h : RS σ σ' nm r k v) (n : Nat) : RS σ (σ'.up n) nm r k v :=
  ⟨h.old, h.lo, Nat.lt_of_lt_of_le h.hi (Nat.le_add_right _ _), h.at_, h.ver.imp id fun ⟨g, h1, h2, h3, h4, h5⟩ => ⟨g, h1, h2, h3, Nat.lt_of_lt_of_le h4 (Nat.le_add_right _ _), h5⟩⟩

theorem RS.nil {σ σ' : St} {nm k g2 : Nat} {r : Res} (h : RS σ σ' nm r k .nil) (h1 : nm < g2) (h2 : g2 < σ'.next) : RS σ (σ'.set g2 (.tip k)) nm r k (.tip g2) where
  old := fun m hm => by rw [St.set_other _ _ (by have := h.lo; omega)]; exact h.old m hm
  lo := h.lo
  hi := h.hi
  at_ := by rw [St.set_other _ _ (by omega)]; exact h.at_
  ver := .inr ⟨g2, rfl, by omega, by have := h.lo; omega, h2, by simp⟩

theorem RS.tip {σ σ' : St} {nm k g g2 : Nat} {r : Res} (h : RS σ σ' nm r k (.tip g)) (h1 : nm < g2) (h2 : g2 < σ'.next) : RS σ ((σ'.del g).set g2 (.tip k)) nm r k (.tip g2) := by
  obtain ⟨g', e, a1, a2, a3, a4⟩ := h.ver.resolve_left (by simp)
  cases e
  refine ⟨fun m hm => ?_, h.lo, h.hi, ?_, .inr ⟨g2, rfl, by omega, by have := h.lo; omega, h2, by simp⟩⟩
  · rw [St.set_other _ _ (by have := h.lo; omega)]
    simp only [St.del]
    rw [if_neg (by omega)]; exact h.old m hm
  · rw [St.set_other _ _ (by omega)]
    simp only [St.del]
    rw [if_neg (fun e => a1 e.symm)]; exact h.at_

theorem RS.quiet {σ σ' : St} {nm k : Nat} {r : Res} {v : Ver} (wf : WF σ) (h : RS σ σ' nm r k v) : ∀ m s, σ.res m = some s → σ'.res m = some s := by
  intro m s hm
  have : m < σ.next := by
    rcases Nat.lt_or_ge m σ.next with h | h
    · exact h
    · rw [wf m h] at hm; cases hm
  rw [h.old m this]; exact hm

end Go.VL

namespace Go.VL

open Go.Proofs

theorem page_len (l : List Tc) : (pageB l).length = 6 + (l.flatMap trB).length := by
  unfold pageB sealB; simp [beB_len]; omega

/-- the code's way: the rest, and the part under way -/
def cutG (most : Int) : List Tc → List Tc → List (List Tc)
  | [], part => if part = [] then [] else [part]
  | t :: r, part => if part ≠ [] ∧ (((pageB part).length : Int) + (trB t).length > most ∨ part.length = 64) then part :: cutG most r [t] else cutG most r (part ++ [t])

/-- the document's way: how many go into the first part -/
def rcN (most : Int) (l : List Tc) : Nat → Nat → Nat
  | 0, n => n
  | f + 1, n => if n < l.length ∧ n < 64 ∧ ((pageB (l.take (n + 1))).length : Int) ≤ most then rcN most l f (n + 1) else n

theorem page_succ {l : List Tc} {n : Nat} (h : n < l.length) : (pageB (l.take (n + 1))).length = (pageB (l.take n)).length + (trB l[n]).length := by
  rw [page_len, page_len, List.take_succ_eq_append_getElem h, List.flatMap_append, List.length_append]
  simp; omega

theorem cut_go {most : Int} {l : List Tc} : ∀ f n, 1 ≤ n → n ≤ l.length → n ≤ 64 → l.length ≤ n + f →
    cutG most (l.drop n) (l.take n) = l.take (rcN most l f n) :: cutG most (l.drop (rcN most l f n)) []
  | 0, n, h1, h2, h3, h4 => by
    have e : n = l.length := by omega
    subst e
    unfold rcN
    rw [List.drop_length, List.take_length]
    have : l ≠ [] := by intro h; subst h; simp at h1
    unfold cutG; rw [if_neg this, if_pos rfl]
  | f + 1, n, h1, h2, h3, h4 => by
    rcases Nat.lt_or_ge n l.length with hlt | hge
    · have hd : l.drop n = l[n] :: l.drop (n + 1) := (List.getElem_cons_drop (h := hlt)).symm
      have hne : l.take n ≠ [] := by intro h; have := congrArg List.length h; rw [List.length_take, List.length_nil] at this; omega
      have hps := page_succ hlt
      have htl : (l.take n).length = n := by rw [List.length_take]; omega
      unfold rcN
      by_cases hc : n < l.length ∧ n < 64 ∧ ((pageB (l.take (n + 1))).length : Int) ≤ most
      · rw [if_pos hc]
        have ih := cut_go (most := most) (l := l) f (n + 1) (by omega) (by omega) (by omega) (by omega)
        rw [← ih, hd]
        conv => lhs; unfold cutG
        rw [if_neg, List.take_succ_eq_append_getElem hlt]
        rintro ⟨_, h | h⟩
        · have := hc.2.2; rw [hps] at this; omega
        · omega
      · rw [if_neg hc, hd]
        conv => lhs; unfold cutG
        rw [if_pos]
        · conv => rhs; rhs; unfold cutG
          rw [if_neg (fun h => h.1 rfl)]; rfl
        · refine ⟨hne, ?_⟩
          rcases Nat.lt_or_ge n 64 with h64 | h64
          · left
            have : ¬ ((pageB (l.take (n + 1))).length : Int) ≤ most := fun h => hc ⟨hlt, h64, h⟩
            rw [hps] at this; omega
          · right; omega
    · have e : n = l.length := by omega
      subst e
      unfold rcN
      rw [if_neg (fun h => Nat.lt_irrefl _ h.1), List.drop_length, List.take_length]
      have : l ≠ [] := by intro h; subst h; simp at h1
      unfold cutG; rw [if_neg this, if_pos rfl]

/-- the first part, and the rest -/
theorem cut_step {most : Int} {l : List Tc} (h : l ≠ []) : cutG most l [] = l.take (rcN most l (l.length - 1) 1) :: cutG most (l.drop (rcN most l (l.length - 1) 1)) [] := by
  have hl : 1 ≤ l.length := by cases l with
    | nil => exact absurd rfl h
    | cons => simp
  rw [← cut_go (l.length - 1) 1 (Nat.le_refl _) hl (by omega) (by omega)]
  cases l with
  | nil => exact absurd rfl h
  | cons t r =>
    conv => lhs; unfold cutG
    rw [if_neg (fun h => h.1 rfl)]; rfl

/-- all parts are what was cut -/
theorem cut_flat {most : Int} : ∀ {l part : List Tc}, (cutG most l part).flatten = part ++ l
  | [], part => by
    unfold cutG
    split
    · rename_i h; subst h; rfl
    · simp
  | t :: r, part => by
    unfold cutG
    split
    · rw [List.flatten_cons, cut_flat]; rfl
    · rw [cut_flat]; simp

/-- no part is empty, or too great -/
theorem cut_parts {most : Int} : ∀ {l part : List Tc}, part.length ≤ 64 → (((pageB part).length : Int) ≤ most ∨ part.length ≤ 1) → ∀ p ∈ cutG most l part, p ≠ [] ∧ p.length ≤ 64 ∧ (((pageB p).length : Int) ≤ most ∨ p.length ≤ 1)
  | [], part, h1, h2, p, hp => by
    unfold cutG at hp
    split at hp
    · cases hp
    · rename_i h
      rw [List.mem_singleton] at hp; subst hp
      exact ⟨h, h1, h2⟩
  | t :: r, part, h1, h2, p, hp => by
    unfold cutG at hp
    split at hp
    · rename_i hc
      rcases List.mem_cons.1 hp with rfl | hp
      · exact ⟨hc.1, h1, h2⟩
      · exact cut_parts (by simp) (.inr (by simp)) p hp
    · rename_i hc
      refine cut_parts (l := r) (part := part ++ [t]) ?_ ?_ p hp
      · cases hpt : part with
        | nil => simp
        | cons x y =>
          have hne : part ≠ [] := by rw [hpt]; simp
          have : ¬ part.length = 64 := fun h => hc ⟨hne, .inr h⟩
          rw [← hpt, List.length_append]; simp; omega
      · cases hpt : part with
        | nil => right; simp
        | cons x y =>
          have hne : part ≠ [] := by rw [hpt]; simp
          left
          have : ¬ ((pageB part).length : Int) + (trB t).length > most := fun h => hc ⟨hne, .inl h⟩
          rw [← hpt]
          have hps := page_succ (l := part ++ [t]) (n := part.length) (by simp)
          rw [List.take_of_length_le (by simp), List.take_left' rfl, List.getElem_append_right (Nat.le_refl _)] at hps
          simp at hps
          rw [hps]; omega

end Go.VL

namespace Go.VL

open Go.Proofs

theorem page_len6 (part : List Tc) : ((pageB part).length : Int) = 6 + ((part.flatMap trB).length : Int) := by rw [page_len]; omega

theorem pgs_snoc (a : List (List Tc)) (p : List Tc) : pgsAV a ++ [.sl (tcsAV p) .none] = pgsAV (a ++ [p]) := by simp [pgsAV]

theorem pgs_fits (l : List (List Tc)) : (pgsAV l).all (AV.fits 1) = true := by simp [pgsAV, AV.fits, AV.isAny, AV.cells, AV.one]

theorem nbs_pgs (m : Nat) (l : List (List Tc)) : nbs m (pgsAV l) := by
  rw [nbs_iff]
  intro x hx
  obtain ⟨p, _, rfl⟩ := List.mem_map.1 hx
  exact ⟨nbs_tcs _ _, trivial⟩

/-- what cutting tells -/
def cutOk (l : List Tc) (most : Int) : Bool := isB l && decide (64 ≤ most ∧ most ≤ 8192)

set_option maxRecDepth 10000 in
set_option maxHeartbeats 4000000 in
theorem pgcut_ok {l : List Tc} {g : Ver} {most : Int} {σ : St} (hl : l.length ≤ 1000000) (hs : ∀ t ∈ l, t.sp.length ≤ 9223372036854775807) :
    ACalls Try.prog n_pgcut [.sl (tcsAV l) g, .int .i64 most] σ (fun v σ' => v = (if cutOk l most then .tup [.sl (pgsAV (cutG most l [])) .none, .nili] else .tup [.sl [] .none, .iface tCode (.int .i64 1)]) ∧ σ' = σ) := by
  refine s_pgcut (fun wf => ?_)
  unfold c_pgcut
  refine T.seq_k (fun K_h0 h0 => ?_)
  refine T.regi hm ?_
  simp only [↓reduceIte, namesOf, List.any, I.names, aops, aopsI, aopsT, qstep, CPt, qget, Tbl.get, astep, ev, setd, List.set, List.getD, List.getElem?_cons_zero, List.getElem?_cons_succ, List.getElem?_nil, List.cons_append, List.nil_append, List.length_cons, List.length_nil, List.replicate, then_normal, inBlock_normal, Option.getD_some, Option.getD_none, Bool.or_false, Bool.or_true, Bool.true_or, Bool.false_or, Bool.false_eq_true, if_false, if_true, up_zero, Nat.reduceAdd, Nat.reduceSub, binv, ↓opt_def, AV.isAny, AV.cells, ldc, List.map_cons, List.map_nil, St.set_next, St.set_same, St.up_next, Int.natCast_nonneg, lt_len, le_len, Int.toNat_natCast, true_and, and_true, eq_self, reduceCtorEq, decide_true, List.length_singleton, er_int, er_bool, er_str]
  refine h0 _ _ ?_
  try clear h0 K_h0
  refine T.seq_k (fun K_h1 h1 => ?_)
  refine T.seq_k (fun K_h2 h2 => ?_)
  refine T.regi hm ?_
  simp only [↓reduceIte, namesOf, List.any, I.names, aops, aopsI, aopsT, qstep, CPt, qget, Tbl.get, astep, ev, setd, List.set, List.getD, List.getElem?_cons_zero, List.getElem?_cons_succ, List.getElem?_nil, List.cons_append, List.nil_append, List.length_cons, List.length_nil, List.replicate, then_normal, inBlock_normal, Option.getD_some, Option.getD_none, Bool.or_false, Bool.or_true, Bool.true_or, Bool.false_or, Bool.false_eq_true, if_false, if_true, up_zero, Nat.reduceAdd, Nat.reduceSub, binv, ↓opt_def, AV.isAny, AV.cells, ldc, List.map_cons, List.map_nil, St.set_next, St.set_same, St.up_next, Int.natCast_nonneg, lt_len, le_len, Int.toNat_natCast, true_and, and_true, eq_self, reduceCtorEq, decide_true, List.length_singleton, er_int, er_bool, er_str]
  refine (is_ok (by omega) hs).mono ?_
  rintro v σ1 ⟨rfl, rfl⟩
  cases his : isB l with
  | false =>
    try simp only [↓reduceIte, namesOf, List.any, I.names, aops, aopsI, aopsT, qstep, CPt, qget, Tbl.get, astep, ev, setd, List.set, List.getD, List.getElem?_cons_zero, List.getElem?_cons_succ, List.getElem?_nil, List.cons_append, List.nil_append, List.length_cons, List.length_nil, List.replicate, then_normal, inBlock_normal, Option.getD_some, Option.getD_none, Bool.or_false, Bool.or_true, Bool.true_or, Bool.false_or, Bool.false_eq_true, if_false, if_true, up_zero, Nat.reduceAdd, Nat.reduceSub, binv, ↓opt_def, AV.isAny, AV.cells, ldc, List.map_cons, List.map_nil, St.set_next, St.set_same, St.up_next, Int.natCast_nonneg, lt_len, le_len, Int.toNat_natCast, true_and, and_true, eq_self, reduceCtorEq, decide_true, List.length_singleton, er_int, er_bool, er_str, up_zero, Bool.not_false]
    refine h2 _ _ ?_
    try clear h2 K_h2
    refine T.cond rfl (fun _ => ?_) (fun h => by cases h)
    refine T.seq_k (fun K_h0 h0 => ?_)
    refine T.regi hm ?_
    simp only [↓reduceIte, namesOf, List.any, I.names, aops, aopsI, aopsT, qstep, CPt, qget, Tbl.get, astep, ev, setd, List.set, List.getD, List.getElem?_cons_zero, List.getElem?_cons_succ, List.getElem?_nil, List.cons_append, List.nil_append, List.length_cons, List.length_nil, List.replicate, then_normal, inBlock_normal, Option.getD_some, Option.getD_none, Bool.or_false, Bool.or_true, Bool.true_or, Bool.false_or, Bool.false_eq_true, if_false, if_true, up_zero, Nat.reduceAdd, Nat.reduceSub, binv, ↓opt_def, AV.isAny, AV.cells, ldc, List.map_cons, List.map_nil, St.set_next, St.set_same, St.up_next, Int.natCast_nonneg, lt_len, le_len, Int.toNat_natCast, true_and, and_true, eq_self, reduceCtorEq, decide_true, List.length_singleton, er_int, er_bool, er_str]
    refine h0 _ _ ?_
    try clear h0 K_h0
    exact T.ret (Fin.retw rfl (Wk.tup2 (Wk.sl _ _)) ⟨by unfold cutOk; rw [his]; rfl, rfl⟩)
  | true =>
  by_cases c1 : most < 64
  · have e1 : decide (most < 64) = true := decide_eq_true c1
    try simp only [↓reduceIte, namesOf, List.any, I.names, aops, aopsI, aopsT, qstep, CPt, qget, Tbl.get, astep, ev, setd, List.set, List.getD, List.getElem?_cons_zero, List.getElem?_cons_succ, List.getElem?_nil, List.cons_append, List.nil_append, List.length_cons, List.length_nil, List.replicate, then_normal, inBlock_normal, Option.getD_some, Option.getD_none, Bool.or_false, Bool.or_true, Bool.true_or, Bool.false_or, Bool.false_eq_true, if_false, if_true, up_zero, Nat.reduceAdd, Nat.reduceSub, binv, ↓opt_def, AV.isAny, AV.cells, ldc, List.map_cons, List.map_nil, St.set_next, St.set_same, St.up_next, Int.natCast_nonneg, lt_len, le_len, Int.toNat_natCast, true_and, and_true, eq_self, reduceCtorEq, decide_true, List.length_singleton, er_int, er_bool, er_str, up_zero, Bool.not_true, e1]
    refine h2 _ _ ?_
    try clear h2 K_h2
    refine T.cond rfl (fun _ => ?_) (fun h => by cases h)
    refine T.seq_k (fun K_h0 h0 => ?_)
    refine T.regi hm ?_
    simp only [↓reduceIte, namesOf, List.any, I.names, aops, aopsI, aopsT, qstep, CPt, qget, Tbl.get, astep, ev, setd, List.set, List.getD, List.getElem?_cons_zero, List.getElem?_cons_succ, List.getElem?_nil, List.cons_append, List.nil_append, List.length_cons, List.length_nil, List.replicate, then_normal, inBlock_normal, Option.getD_some, Option.getD_none, Bool.or_false, Bool.or_true, Bool.true_or, Bool.false_or, Bool.false_eq_true, if_false, if_true, up_zero, Nat.reduceAdd, Nat.reduceSub, binv, ↓opt_def, AV.isAny, AV.cells, ldc, List.map_cons, List.map_nil, St.set_next, St.set_same, St.up_next, Int.natCast_nonneg, lt_len, le_len, Int.toNat_natCast, true_and, and_true, eq_self, reduceCtorEq, decide_true, List.length_singleton, er_int, er_bool, er_str]
    refine h0 _ _ ?_
    try clear h0 K_h0
    exact T.ret (Fin.retw rfl (Wk.tup2 (Wk.sl _ _)) ⟨by unfold cutOk; rw [decide_eq_false (by omega), Bool.and_false]; rfl, rfl⟩)
  have e1 : decide (most < 64) = false := decide_eq_false c1
  by_cases c2 : most > 8192
  · have e2 : decide (most > 8192) = true := decide_eq_true c2
    try simp only [↓reduceIte, namesOf, List.any, I.names, aops, aopsI, aopsT, qstep, CPt, qget, Tbl.get, astep, ev, setd, List.set, List.getD, List.getElem?_cons_zero, List.getElem?_cons_succ, List.getElem?_nil, List.cons_append, List.nil_append, List.length_cons, List.length_nil, List.replicate, then_normal, inBlock_normal, Option.getD_some, Option.getD_none, Bool.or_false, Bool.or_true, Bool.true_or, Bool.false_or, Bool.false_eq_true, if_false, if_true, up_zero, Nat.reduceAdd, Nat.reduceSub, binv, ↓opt_def, AV.isAny, AV.cells, ldc, List.map_cons, List.map_nil, St.set_next, St.set_same, St.up_next, Int.natCast_nonneg, lt_len, le_len, Int.toNat_natCast, true_and, and_true, eq_self, reduceCtorEq, decide_true, List.length_singleton, er_int, er_bool, er_str, up_zero, Bool.not_true, e1, e2]
    refine h2 _ _ ?_
    try clear h2 K_h2
    refine T.cond rfl (fun _ => ?_) (fun h => by cases h)
    refine T.seq_k (fun K_h0 h0 => ?_)
    refine T.regi hm ?_
    simp only [↓reduceIte, namesOf, List.any, I.names, aops, aopsI, aopsT, qstep, CPt, qget, Tbl.get, astep, ev, setd, List.set, List.getD, List.getElem?_cons_zero, List.getElem?_cons_succ, List.getElem?_nil, List.cons_append, List.nil_append, List.length_cons, List.length_nil, List.replicate, then_normal, inBlock_normal, Option.getD_some, Option.getD_none, Bool.or_false, Bool.or_true, Bool.true_or, Bool.false_or, Bool.false_eq_true, if_false, if_true, up_zero, Nat.reduceAdd, Nat.reduceSub, binv, ↓opt_def, AV.isAny, AV.cells, ldc, List.map_cons, List.map_nil, St.set_next, St.set_same, St.up_next, Int.natCast_nonneg, lt_len, le_len, Int.toNat_natCast, true_and, and_true, eq_self, reduceCtorEq, decide_true, List.length_singleton, er_int, er_bool, er_str]
    refine h0 _ _ ?_
    try clear h0 K_h0
    exact T.ret (Fin.retw rfl (Wk.tup2 (Wk.sl _ _)) ⟨by unfold cutOk; rw [decide_eq_false (by omega), Bool.and_false]; rfl, rfl⟩)
  have e2 : decide (most > 8192) = false := decide_eq_false c2
  have hok : cutOk l most = true := by unfold cutOk; rw [his, decide_eq_true (by omega)]; rfl
  try simp only [↓reduceIte, namesOf, List.any, I.names, aops, aopsI, aopsT, qstep, CPt, qget, Tbl.get, astep, ev, setd, List.set, List.getD, List.getElem?_cons_zero, List.getElem?_cons_succ, List.getElem?_nil, List.cons_append, List.nil_append, List.length_cons, List.length_nil, List.replicate, then_normal, inBlock_normal, Option.getD_some, Option.getD_none, Bool.or_false, Bool.or_true, Bool.true_or, Bool.false_or, Bool.false_eq_true, if_false, if_true, up_zero, Nat.reduceAdd, Nat.reduceSub, binv, ↓opt_def, AV.isAny, AV.cells, ldc, List.map_cons, List.map_nil, St.set_next, St.set_same, St.up_next, Int.natCast_nonneg, lt_len, le_len, Int.toNat_natCast, true_and, and_true, eq_self, reduceCtorEq, decide_true, List.length_singleton, er_int, er_bool, er_str, up_zero, Bool.not_true, e1, e2]
  refine h2 _ _ ?_
  try clear h2 K_h2
  refine T.cond rfl (fun h => by cases h) (fun _ => T.skip ?_)
  refine h1 _ _ ?_
  try clear h1 K_h1
  clear e1 e2
  refine T.seq_k (fun K_h0 h0 => ?_)
  refine T.regi hm ?_
  simp only [↓reduceIte, namesOf, List.any, I.names, aops, aopsI, aopsT, qstep, CPt, qget, Tbl.get, astep, ev, setd, List.set, List.getD, List.getElem?_cons_zero, List.getElem?_cons_succ, List.getElem?_nil, List.cons_append, List.nil_append, List.length_cons, List.length_nil, List.replicate, then_normal, inBlock_normal, Option.getD_some, Option.getD_none, Bool.or_false, Bool.or_true, Bool.true_or, Bool.false_or, Bool.false_eq_true, if_false, if_true, up_zero, Nat.reduceAdd, Nat.reduceSub, binv, ↓opt_def, AV.isAny, AV.cells, ldc, List.map_cons, List.map_nil, St.set_next, St.set_same, St.up_next, Int.natCast_nonneg, lt_len, le_len, Int.toNat_natCast, true_and, and_true, eq_self, reduceCtorEq, decide_true, List.length_singleton, er_int, er_bool, er_str]
  refine h0 _ _ ?_
  try clear h0 K_h0
  refine T.seq_k (fun K_h0 h0 => ?_)
  refine T.regi hm ?_
  simp only [↓reduceIte, namesOf, List.any, I.names, aops, aopsI, aopsT, qstep, CPt, qget, Tbl.get, astep, ev, setd, List.set, List.getD, List.getElem?_cons_zero, List.getElem?_cons_succ, List.getElem?_nil, List.cons_append, List.nil_append, List.length_cons, List.length_nil, List.replicate, then_normal, inBlock_normal, Option.getD_some, Option.getD_none, Bool.or_false, Bool.or_true, Bool.true_or, Bool.false_or, Bool.false_eq_true, if_false, if_true, up_zero, Nat.reduceAdd, Nat.reduceSub, binv, ↓opt_def, AV.isAny, AV.cells, ldc, List.map_cons, List.map_nil, St.set_next, St.set_same, St.up_next, Int.natCast_nonneg, lt_len, le_len, Int.toNat_natCast, true_and, and_true, eq_self, reduceCtorEq, decide_true, List.length_singleton, er_int, er_bool, er_str]
  refine h0 _ _ ?_
  try clear h0 K_h0
  refine T.seq_k (fun K_h0 h0 => ?_)
  refine T.regi hm ?_
  simp only [↓reduceIte, namesOf, List.any, I.names, aops, aopsI, aopsT, qstep, CPt, qget, Tbl.get, astep, ev, setd, List.set, List.getD, List.getElem?_cons_zero, List.getElem?_cons_succ, List.getElem?_nil, List.cons_append, List.nil_append, List.length_cons, List.length_nil, List.replicate, then_normal, inBlock_normal, Option.getD_some, Option.getD_none, Bool.or_false, Bool.or_true, Bool.true_or, Bool.false_or, Bool.false_eq_true, if_false, if_true, up_zero, Nat.reduceAdd, Nat.reduceSub, binv, ↓opt_def, AV.isAny, AV.cells, ldc, List.map_cons, List.map_nil, St.set_next, St.set_same, St.up_next, Int.natCast_nonneg, lt_len, le_len, Int.toNat_natCast, true_and, and_true, eq_self, reduceCtorEq, decide_true, List.length_singleton, er_int, er_bool, er_str]
  refine h0 _ _ ?_
  try clear h0 K_h0
  refine T.seq_k (fun K_h1 h1 => ?_)
  refine T.seq_k (fun K_h0 h0 => ?_)
  refine T.regi hm ?_
  simp only [↓reduceIte, namesOf, List.any, I.names, aops, aopsI, aopsT, qstep, CPt, qget, Tbl.get, astep, ev, setd, List.set, List.getD, List.getElem?_cons_zero, List.getElem?_cons_succ, List.getElem?_nil, List.cons_append, List.nil_append, List.length_cons, List.length_nil, List.replicate, then_normal, inBlock_normal, Option.getD_some, Option.getD_none, Bool.or_false, Bool.or_true, Bool.true_or, Bool.false_or, Bool.false_eq_true, if_false, if_true, up_zero, Nat.reduceAdd, Nat.reduceSub, binv, ↓opt_def, AV.isAny, AV.cells, ldc, List.map_cons, List.map_nil, St.set_next, St.set_same, St.up_next, Int.natCast_nonneg, lt_len, le_len, Int.toNat_natCast, true_and, and_true, eq_self, reduceCtorEq, decide_true, List.length_singleton, er_int, er_bool, er_str, tcs_len]
  refine h0 _ _ ?_
  try clear h0 K_h0
  refine T.block ?_
  refine T.gh (Gh.keep [1, 4, 5, 6, 7, 8, 25, 26, 27]) ?_
  refine T.loopi (fun i ρ t => (∃ out part vo vp Go Gp, AccG σ1 t 1 (pgsAV out) (.sl (pgsAV out) vo) Go ∧ AccG σ1 t 2 (tcsAV part) (.sl (tcsAV part) vp) Gp ∧ (∀ a b, Go = some a → Gp = some b → a ≠ b) ∧ out.length ≤ i ∧ part.length ≤ 64 ∧ (∀ t ∈ part, oneB t = true) ∧
      cutG most l [] = out ++ cutG most (l.drop i) part ∧
      ρ = [.any, .int .i64 most, .any, .any, .sl [] .nil, .nili, .sl (pgsAV out) vo, .sl (tcsAV part) vp, .int .i64 (6 + ((part.flatMap trB).length : Int))] ++ List.replicate 16 .any ++ [.sl (tcsAV l) g, .int .i64 (l.length : Int), .int .i64 (i : Int)] ++ List.replicate 53 .any))
    l.length 0 (Nat.zero_le _) ⟨[], [], .nil, .nil, none, none, .nil (.refl _), .nil (.refl _), (fun _ _ h => by cases h), Nat.le_refl _, by simp, (fun _ h => by cases h), rfl, rfl⟩ ?_
  rintro i ρ t hi ⟨out, part, vo, vp, Go, Gp, hO, hP, hne, hol, hpl, hpo, hcut, rfl⟩
  have hpt : (part.flatMap trB).length ≤ 64 * 30000 := Nat.le_trans (trs_le (fun t ht => trB_le (hpo t ht))) (Nat.mul_le_mul_right _ hpl)
  refine T.seq_k (fun K_h0 h0 => ?_)
  refine T.regi hm ?_
  simp only [↓reduceIte, namesOf, List.any, I.names, aops, aopsI, aopsT, qstep, CPt, qget, Tbl.get, astep, ev, setd, List.set, List.getD, List.getElem?_cons_zero, List.getElem?_cons_succ, List.getElem?_nil, List.cons_append, List.nil_append, List.length_cons, List.length_nil, List.replicate, then_normal, inBlock_normal, Option.getD_some, Option.getD_none, Bool.or_false, Bool.or_true, Bool.true_or, Bool.false_or, Bool.false_eq_true, if_false, if_true, up_zero, Nat.reduceAdd, Nat.reduceSub, binv, ↓opt_def, AV.isAny, AV.cells, ldc, List.map_cons, List.map_nil, St.set_next, St.set_same, St.up_next, Int.natCast_nonneg, lt_len, le_len, Int.toNat_natCast, true_and, and_true, eq_self, reduceCtorEq, decide_true, List.length_singleton, er_int, er_bool, er_str]
  refine h0 _ _ ?_
  try clear h0 K_h0
  refine T.seq_k (fun K_h2 h2 => ?_)
  by_cases hil : i < l.length
  case neg =>
    refine T.cond (b := false) (by simp [ev]; omega) (fun h => by cases h) (fun _ => T.exit ?_)
    have : i = l.length := by omega
    subst this
    rw [List.drop_length] at hcut
    try simp only [↓reduceIte, namesOf, List.any, I.names, aops, aopsI, aopsT, qstep, CPt, qget, Tbl.get, astep, ev, setd, List.set, List.getD, List.getElem?_cons_zero, List.getElem?_cons_succ, List.getElem?_nil, List.cons_append, List.nil_append, List.length_cons, List.length_nil, List.replicate, then_normal, inBlock_normal, Option.getD_some, Option.getD_none, Bool.or_false, Bool.or_true, Bool.true_or, Bool.false_or, Bool.false_eq_true, if_false, if_true, up_zero, Nat.reduceAdd, Nat.reduceSub, binv, ↓opt_def, AV.isAny, AV.cells, ldc, List.map_cons, List.map_nil, St.set_next, St.set_same, St.up_next, Int.natCast_nonneg, lt_len, le_len, Int.toNat_natCast, true_and, and_true, eq_self, reduceCtorEq, decide_true, List.length_singleton, er_int, er_bool, er_str, inBlock_exit, then_exit]
    refine h1 _ _ ?_
    try clear h1 K_h1
    refine T.seq_k (fun K_h1 h1 => ?_)
    by_cases hp : part = []
    · subst hp
      have hc : cutG most l [] = out := by rw [hcut]; unfold cutG; simp
      have e1 : decide ((([] : List Tc).length : Int) > 0) = false := rfl
      refine T.seq_k (fun K_h0 h0 => ?_)
      refine T.regi hm ?_
      simp only [↓reduceIte, namesOf, List.any, I.names, aops, aopsI, aopsT, qstep, CPt, qget, Tbl.get, astep, ev, setd, List.set, List.getD, List.getElem?_cons_zero, List.getElem?_cons_succ, List.getElem?_nil, List.cons_append, List.nil_append, List.length_cons, List.length_nil, List.replicate, then_normal, inBlock_normal, Option.getD_some, Option.getD_none, Bool.or_false, Bool.or_true, Bool.true_or, Bool.false_or, Bool.false_eq_true, if_false, if_true, up_zero, Nat.reduceAdd, Nat.reduceSub, binv, ↓opt_def, AV.isAny, AV.cells, ldc, List.map_cons, List.map_nil, St.set_next, St.set_same, St.up_next, Int.natCast_nonneg, lt_len, le_len, Int.toNat_natCast, true_and, and_true, eq_self, reduceCtorEq, decide_true, List.length_singleton, er_int, er_bool, er_str, tcs_len, e1]
      refine h0 _ _ ?_
      try clear h0 K_h0
      refine T.cond rfl (fun h => by cases h) (fun _ => T.skip ?_)
      refine h1 _ _ ?_
      try clear h1 K_h1
      refine T.seq_k (fun K_h0 h0 => ?_)
      refine T.regi hm ?_
      simp only [↓reduceIte, namesOf, List.any, I.names, aops, aopsI, aopsT, qstep, CPt, qget, Tbl.get, astep, ev, setd, List.set, List.getD, List.getElem?_cons_zero, List.getElem?_cons_succ, List.getElem?_nil, List.cons_append, List.nil_append, List.length_cons, List.length_nil, List.replicate, then_normal, inBlock_normal, Option.getD_some, Option.getD_none, Bool.or_false, Bool.or_true, Bool.true_or, Bool.false_or, Bool.false_eq_true, if_false, if_true, up_zero, Nat.reduceAdd, Nat.reduceSub, binv, ↓opt_def, AV.isAny, AV.cells, ldc, List.map_cons, List.map_nil, St.set_next, St.set_same, St.up_next, Int.natCast_nonneg, lt_len, le_len, Int.toNat_natCast, true_and, and_true, eq_self, reduceCtorEq, decide_true, List.length_singleton, er_int, er_bool, er_str]
      refine h0 _ _ ?_
      try clear h0 K_h0
      exact T.ret (Fin.quietw rfl (Wk.tup2 (Wk.sl _ _)) ⟨⟨nbs_pgs _ _, trivial⟩, trivial, trivial⟩ (hO.quiet wf) ⟨by rw [if_pos hok, hc]; rfl, rfl⟩)
    · have hc : cutG most l [] = out ++ [part] := by rw [hcut]; unfold cutG; rw [if_neg hp]
      have hpos : 0 < part.length := List.length_pos_iff.2 hp
      have e1 : decide ((part.length : Int) > 0) = true := decide_eq_true (by omega)
      refine T.seq_k (fun K_h0 h0 => ?_)
      refine T.regi hm ?_
      simp only [↓reduceIte, namesOf, List.any, I.names, aops, aopsI, aopsT, qstep, CPt, qget, Tbl.get, astep, ev, setd, List.set, List.getD, List.getElem?_cons_zero, List.getElem?_cons_succ, List.getElem?_nil, List.cons_append, List.nil_append, List.length_cons, List.length_nil, List.replicate, then_normal, inBlock_normal, Option.getD_some, Option.getD_none, Bool.or_false, Bool.or_true, Bool.true_or, Bool.false_or, Bool.false_eq_true, if_false, if_true, up_zero, Nat.reduceAdd, Nat.reduceSub, binv, ↓opt_def, AV.isAny, AV.cells, ldc, List.map_cons, List.map_nil, St.set_next, St.set_same, St.up_next, Int.natCast_nonneg, lt_len, le_len, Int.toNat_natCast, true_and, and_true, eq_self, reduceCtorEq, decide_true, List.length_singleton, er_int, er_bool, er_str, tcs_len, e1]
      refine h0 _ _ ?_
      try clear h0 K_h0
      refine T.cond rfl (fun _ => ?_) (fun h => by cases h)
      refine T.regt hm (tbl := []) Tbl.ok_nil ?_
      refine aopsT_cut 3 (fun K_c h_c => ?_)
      try simp only [↓reduceIte, namesOf, List.any, I.names, aops, aopsI, aopsT, qstep, CPt, qget, Tbl.get, astep, ev, setd, List.set, List.getD, List.getElem?_cons_zero, List.getElem?_cons_succ, List.getElem?_nil, List.cons_append, List.nil_append, List.length_cons, List.length_nil, List.replicate, then_normal, inBlock_normal, Option.getD_some, Option.getD_none, Bool.or_false, Bool.or_true, Bool.true_or, Bool.false_or, Bool.false_eq_true, if_false, if_true, up_zero, Nat.reduceAdd, Nat.reduceSub, binv, ↓opt_def, AV.isAny, AV.cells, ldc, List.map_cons, List.map_nil, St.set_next, St.set_same, St.up_next, Int.natCast_nonneg, lt_len, le_len, Int.toNat_natCast, true_and, and_true, eq_self, reduceCtorEq, decide_true, List.length_singleton, er_int, er_bool, er_str, List.take_succ_cons, List.take_zero, held, AV.fits, AV.one, List.all_cons, List.all_nil, Nat.reduceBEq, Bool.and_true, Bool.not_false, Bool.and_self, Nat.zero_add, splice, List.take, List.drop, Nat.reduceLeDiff]
      refine h_c _ _ ?_
      clear h_c K_c
      simp only [List.drop_succ_cons, List.drop_zero, Nat.zero_add, Nat.reduceAdd]
      refine aopsT_acc (hO.up 5) (by have := hO.like.next; omega) (by simp) rfl (ys := [.sl (tcsAV part) .none]) ?_ ?_ ?_ (fun x' t' G' hA3 _ _ _ _ => ?_)
      · rfl
      · rw [pgs_snoc]; exact pgs_fits _
      · have hss : [AV.sl (tcsAV part) .none].length = 1 := rfl
        rw [pgs_len, hss]; omega
      try simp only [↓reduceIte, namesOf, List.any, I.names, aops, aopsI, aopsT, qstep, CPt, qget, Tbl.get, astep, ev, setd, List.set, List.getD, List.getElem?_cons_zero, List.getElem?_cons_succ, List.getElem?_nil, List.cons_append, List.nil_append, List.length_cons, List.length_nil, List.replicate, then_normal, inBlock_normal, Option.getD_some, Option.getD_none, Bool.or_false, Bool.or_true, Bool.true_or, Bool.false_or, Bool.false_eq_true, if_false, if_true, up_zero, Nat.reduceAdd, Nat.reduceSub, binv, ↓opt_def, AV.isAny, AV.cells, ldc, List.map_cons, List.map_nil, St.set_next, St.set_same, St.up_next, Int.natCast_nonneg, lt_len, le_len, Int.toNat_natCast, true_and, and_true, eq_self, reduceCtorEq, decide_true, List.length_singleton, er_int, er_bool, er_str, ]
      refine h1 _ _ ?_
      try clear h1 K_h1
      refine T.seq_k (fun K_h0 h0 => ?_)
      refine T.regi hm ?_
      simp only [↓reduceIte, namesOf, List.any, I.names, aops, aopsI, aopsT, qstep, CPt, qget, Tbl.get, astep, ev, setd, List.set, List.getD, List.getElem?_cons_zero, List.getElem?_cons_succ, List.getElem?_nil, List.cons_append, List.nil_append, List.length_cons, List.length_nil, List.replicate, then_normal, inBlock_normal, Option.getD_some, Option.getD_none, Bool.or_false, Bool.or_true, Bool.true_or, Bool.false_or, Bool.false_eq_true, if_false, if_true, up_zero, Nat.reduceAdd, Nat.reduceSub, binv, ↓opt_def, AV.isAny, AV.cells, ldc, List.map_cons, List.map_nil, St.set_next, St.set_same, St.up_next, Int.natCast_nonneg, lt_len, le_len, Int.toNat_natCast, true_and, and_true, eq_self, reduceCtorEq, decide_true, List.length_singleton, er_int, er_bool, er_str]
      refine h0 _ _ ?_
      try clear h0 K_h0
      rw [pgs_snoc] at hA3
      exact T.ret (Fin.quietw rfl (Wk.tup2 hA3.wk) ⟨⟨nbs_pgs _ _, trivial⟩, trivial, trivial⟩ (hA3.quiet wf) ⟨by rw [if_pos hok, hc]; rfl, rfl⟩)
  refine T.cond (b := true) (by simp [ev]; omega) (fun _ => T.skip ?_) (fun h => by cases h)
  refine h2 _ _ ?_
  try clear h2 K_h2
  have hiw := inc64' hil (by omega)
  have hilI : (i : Int) < (l.length : Int) := by omega
  have hg := tcs_get hil
  have hone := is_each his (List.getElem_mem hil)
  have hdr : l.drop i = l[i] :: l.drop (i + 1) := (List.getElem_cons_drop (h := hil)).symm
  rw [hdr] at hcut
  clear hdr
  generalize l[i] = y at hg hone hcut
  rw [tcav'] at hg
  obtain ⟨o1, o2, o3⟩ := one_facts hone
  have otl := trB_le hone
  have hyd : ∀ s ∈ y.sp, s.da.length ≤ 1099511627776 := fun s hs => by have := mayS_len (List.all_eq_true.1 o1 s hs); omega
  refine T.seq_k (fun K_h2 h2 => ?_)
  refine T.block ?_
  refine T.seq_k (fun K_h3 h3 => ?_)
  refine T.regi hm ?_
  simp only [↓reduceIte, namesOf, List.any, I.names, aops, aopsI, aopsT, qstep, CPt, qget, Tbl.get, astep, ev, setd, List.set, List.getD, List.getElem?_cons_zero, List.getElem?_cons_succ, List.getElem?_nil, List.cons_append, List.nil_append, List.length_cons, List.length_nil, List.replicate, then_normal, inBlock_normal, Option.getD_some, Option.getD_none, Bool.or_false, Bool.or_true, Bool.true_or, Bool.false_or, Bool.false_eq_true, if_false, if_true, up_zero, Nat.reduceAdd, Nat.reduceSub, binv, ↓opt_def, AV.isAny, AV.cells, ldc, List.map_cons, List.map_nil, St.set_next, St.set_same, St.up_next, Int.natCast_nonneg, lt_len, le_len, Int.toNat_natCast, true_and, and_true, eq_self, reduceCtorEq, decide_true, List.length_singleton, er_int, er_bool, er_str, tcs_len, hg, hilI, AV.fits, AV.one, List.all_cons, List.all_nil, Nat.reduceBEq, Bool.and_true, Bool.not_false, Bool.and_self, Nat.zero_add, splice, List.take, List.drop, Nat.reduceLeDiff, St.set_set]
  have hO1 := hO.box (n := 4) (i := 2) (by omega) (.obj [.int .u64 (y.id : Int), .sl (spsAV y.sp) .none])
  have hP1 := hP.box (n := 4) (i := 2) (by omega) (.obj [.int .u64 (y.id : Int), .sl (spsAV y.sp) .none])
  have hb : ((t.up 4).set (t.next + 2) (.obj [.int .u64 (y.id : Int), .sl (spsAV y.sp) .none])).res (t.next + 2) = some (.obj [.int .u64 (y.id : Int), .sl (spsAV y.sp) .none]) := by simp
  have haO : ∀ g, Go = some g → t.next + 2 ≠ g := fun g e => by have := (hO.lt g e).2; omega
  have haP : ∀ g, Gp = some g → t.next + 2 ≠ g := fun g e => by have := (hP.lt g e).2; omega
  have hlt : t.next + 2 < ((t.up 4).set (t.next + 2) (.obj [.int .u64 (y.id : Int), .sl (spsAV y.sp) .none])).next := by simp
  generalize ((t.up 4).set (t.next + 2) (.obj [.int .u64 (y.id : Int), .sl (spsAV y.sp) .none])) = τ at hO1 hP1 hb hlt ⊢
  generalize t.next + 2 = a at hb haO haP hlt ⊢
  clear hO hP
  refine h3 _ _ ?_
  try clear h3 K_h3
  refine T.seq_k (fun K_h3 h3 => ?_)
  refine T.regi hm ?_
  simp only [↓reduceIte, namesOf, List.any, I.names, aops, aopsI, aopsT, qstep, CPt, qget, Tbl.get, astep, ev, setd, List.set, List.getD, List.getElem?_cons_zero, List.getElem?_cons_succ, List.getElem?_nil, List.cons_append, List.nil_append, List.length_cons, List.length_nil, List.replicate, then_normal, inBlock_normal, Option.getD_some, Option.getD_none, Bool.or_false, Bool.or_true, Bool.true_or, Bool.false_or, Bool.false_eq_true, if_false, if_true, up_zero, Nat.reduceAdd, Nat.reduceSub, binv, ↓opt_def, AV.isAny, AV.cells, ldc, List.map_cons, List.map_nil, St.set_next, St.set_same, St.up_next, Int.natCast_nonneg, lt_len, le_len, Int.toNat_natCast, true_and, and_true, eq_self, reduceCtorEq, decide_true, List.length_singleton, er_int, er_bool, er_str, hb, AV.fits, AV.one, List.all_cons, List.all_nil, Nat.reduceBEq, Bool.and_true, Bool.not_false, Bool.and_self, Nat.zero_add, splice, List.take, List.drop, Nat.reduceLeDiff]
  refine (pput1_ok (by omega) o1).mono ?_
  rintro v τ3 ⟨rfl, rfl⟩
  try simp only [↓reduceIte, namesOf, List.any, I.names, aops, aopsI, aopsT, qstep, CPt, qget, Tbl.get, astep, ev, setd, List.set, List.getD, List.getElem?_cons_zero, List.getElem?_cons_succ, List.getElem?_nil, List.cons_append, List.nil_append, List.length_cons, List.length_nil, List.replicate, then_normal, inBlock_normal, Option.getD_some, Option.getD_none, Bool.or_false, Bool.or_true, Bool.true_or, Bool.false_or, Bool.false_eq_true, if_false, if_true, up_zero, Nat.reduceAdd, Nat.reduceSub, binv, ↓opt_def, AV.isAny, AV.cells, ldc, List.map_cons, List.map_nil, St.set_next, St.set_same, St.up_next, Int.natCast_nonneg, lt_len, le_len, Int.toNat_natCast, true_and, and_true, eq_self, reduceCtorEq, decide_true, List.length_singleton, er_int, er_bool, er_str, up_zero]
  refine h3 _ _ ?_
  try clear h3 K_h3
  refine T.seq_k (fun K_h3 h3 => ?_)
  refine T.seq_k (fun K_h0 h0 => ?_)
  refine T.regi hm ?_
  simp only [↓reduceIte, namesOf, List.any, I.names, aops, aopsI, aopsT, qstep, CPt, qget, Tbl.get, astep, ev, setd, List.set, List.getD, List.getElem?_cons_zero, List.getElem?_cons_succ, List.getElem?_nil, List.cons_append, List.nil_append, List.length_cons, List.length_nil, List.replicate, then_normal, inBlock_normal, Option.getD_some, Option.getD_none, Bool.or_false, Bool.or_true, Bool.true_or, Bool.false_or, Bool.false_eq_true, if_false, if_true, up_zero, Nat.reduceAdd, Nat.reduceSub, binv, ↓opt_def, AV.isAny, AV.cells, ldc, List.map_cons, List.map_nil, St.set_next, St.set_same, St.up_next, Int.natCast_nonneg, lt_len, le_len, Int.toNat_natCast, true_and, and_true, eq_self, reduceCtorEq, decide_true, List.length_singleton, er_int, er_bool, er_str, eqIv, bne_self_eq_false]
  refine h0 _ _ ?_
  try clear h0 K_h0
  refine T.cond rfl (fun h => by cases h) (fun _ => T.skip ?_)
  refine h3 _ _ ?_
  try clear h3 K_h3
  have ew : IntKind.i64.wrap (6 + ((part.flatMap trB).length : Int) + ((trB y).length : Int)) = 6 + ((part.flatMap trB).length : Int) + ((trB y).length : Int) := wrap64 (by omega) (by omega)
  refine T.seq_k (fun K_h3 h3 => ?_)
  -- the trace behind the part
  have fin : ∀ ρ' t' out' part' vo' vp' Go' Gp', AccG σ1 t' 1 (pgsAV out') (.sl (pgsAV out') vo') Go' → AccG σ1 t' 2 (tcsAV part') (.sl (tcsAV part') vp') Gp' → (∀ a b, Go' = some a → Gp' = some b → a ≠ b) → t'.res a = some (.obj [.int .u64 (y.id : Int), .sl (spsAV y.sp) .none]) →
      out'.length ≤ i + 1 → part'.length < 64 → (∀ t ∈ part', oneB t = true) → cutG most l [] = out' ++ cutG most (l.drop (i + 1)) (part' ++ [y]) →
      keep [1, 4, 5, 6, 7, 8, 10, 11, 25, 26, 27] 0 ρ' = [.any, .int .i64 most, .any, .any, .sl [] .nil, .nili, .sl (pgsAV out') vo', .sl (tcsAV part') vp', .int .i64 (6 + ((part'.flatMap trB).length : Int)), .any, .ptr a 0, .sl (bytesAV (trB y)) .none] ++ List.replicate 13 .any ++ [.sl (tcsAV l) g, .int .i64 (l.length : Int), .int .i64 (i : Int)] ++ List.replicate 53 .any → K_h3 ρ' t' := by
    intro ρ' t' out' part' vo' vp' Go' Gp' hO hP hne hbb hol hpl hpo hcut hρ
    clear hb hO1 hP1
    have hpt : (part'.flatMap trB).length ≤ 64 * 30000 := Nat.le_trans (trs_le (fun t ht => trB_le (hpo t ht))) (Nat.mul_le_mul_right _ (by omega))
    have ew : IntKind.i64.wrap (6 + ((part'.flatMap trB).length : Int) + ((trB y).length : Int)) = 6 + (((part' ++ [y]).flatMap trB).length : Int) := by
      rw [wrap64 (by omega) (by omega), List.flatMap_append, List.length_append]; simp; omega
    have hb3 : ∀ n, (t'.up n).res a = some (.obj [.int .u64 (y.id : Int), .sl (spsAV y.sp) .none]) := fun _ => hbb
    refine h3 _ _ ?_
    try clear h3 K_h3
    refine T.gh (Gh.keep [1, 4, 5, 6, 7, 8, 10, 11, 25, 26, 27]) ?_
    rw [hρ]
    have hlen2 : ∀ x y : AV, [x, y].length = 2 := fun _ _ => rfl
    have htake : ∀ x y : AV, List.take 2 (List.drop 0 [x, y]) = [x, y] := fun _ _ => rfl
    refine T.regt hm (tbl := []) Tbl.ok_nil ?_
    refine aopsT_cut 5 (fun K_c h_c => ?_)
    try simp only [↓reduceIte, namesOf, List.any, I.names, aops, aopsI, aopsT, qstep, CPt, qget, Tbl.get, astep, ev, setd, List.set, List.getD, List.getElem?_cons_zero, List.getElem?_cons_succ, List.getElem?_nil, List.cons_append, List.nil_append, List.length_cons, List.length_nil, List.replicate, then_normal, inBlock_normal, Option.getD_some, Option.getD_none, Bool.or_false, Bool.or_true, Bool.true_or, Bool.false_or, Bool.false_eq_true, if_false, if_true, up_zero, Nat.reduceAdd, Nat.reduceSub, binv, ↓opt_def, AV.isAny, AV.cells, ldc, List.map_cons, List.map_nil, St.set_next, St.set_same, St.up_next, Int.natCast_nonneg, lt_len, le_len, Int.toNat_natCast, true_and, and_true, eq_self, reduceCtorEq, decide_true, List.length_singleton, er_int, er_bool, er_str, List.take_succ_cons, List.take_zero, hb3, held, AV.fits, AV.one, List.all_cons, List.all_nil, Nat.reduceBEq, Bool.and_true, Bool.not_false, Bool.and_self, Nat.zero_add, splice, List.take, List.drop, Nat.reduceLeDiff, hlen2, htake]
    refine h_c _ _ ?_
    clear h_c K_c
    simp only [List.drop_succ_cons, List.drop_zero, Nat.zero_add, Nat.reduceAdd]
    refine aopsT_q (xs := [.sl (tcsAV [y]) .none]) (v := .sl (spsAV y.sp) .none) rfl ((tflat_ok (l := [y]) (by simp) (by simp; omega) (fun t ht => by rw [List.mem_singleton.1 ht]; exact hyd)).mono (fun v σ' h => ⟨by rw [h.1]; simp, h.2⟩)) ?_
    refine aopsT_cut 2 (fun K_c h_c => ?_)
    try simp only [↓reduceIte, namesOf, List.any, I.names, aops, aopsI, aopsT, qstep, CPt, qget, Tbl.get, astep, ev, setd, List.set, List.getD, List.getElem?_cons_zero, List.getElem?_cons_succ, List.getElem?_nil, List.cons_append, List.nil_append, List.length_cons, List.length_nil, List.replicate, then_normal, inBlock_normal, Option.getD_some, Option.getD_none, Bool.or_false, Bool.or_true, Bool.true_or, Bool.false_or, Bool.false_eq_true, if_false, if_true, up_zero, Nat.reduceAdd, Nat.reduceSub, binv, ↓opt_def, AV.isAny, AV.cells, ldc, List.map_cons, List.map_nil, St.set_next, St.set_same, St.up_next, Int.natCast_nonneg, lt_len, le_len, Int.toNat_natCast, true_and, and_true, eq_self, reduceCtorEq, decide_true, List.length_singleton, er_int, er_bool, er_str, List.take_succ_cons, List.take_zero, fillA, Option.map, held, AV.fits, AV.one, List.all_cons, List.all_nil, Nat.reduceBEq, Bool.and_true, Bool.not_false, Bool.and_self, Nat.zero_add, splice, List.take, List.drop, Nat.reduceLeDiff, hlen2, htake]
    refine h_c _ _ ?_
    clear h_c K_c
    simp only [List.drop_succ_cons, List.drop_zero, Nat.zero_add, Nat.reduceAdd]
    refine aopsT_acc (hP.up 15) (by have := hP.like.next; omega) (by simp) rfl (ys := [y.av]) ?_ ?_ ?_ (fun x' t'' G' hA3 hn3 hG3 ho3 _ => ?_)
    · rfl
    · exact tcs_snoc' part' y.id y.sp ▸ tcs_fits _
    · have hss : [y.av].length = 1 := rfl
      rw [tcs_len, hss]; omega
    try simp only [↓reduceIte, namesOf, List.any, I.names, aops, aopsI, aopsT, qstep, CPt, qget, Tbl.get, astep, ev, setd, List.set, List.getD, List.getElem?_cons_zero, List.getElem?_cons_succ, List.getElem?_nil, List.cons_append, List.nil_append, List.length_cons, List.length_nil, List.replicate, then_normal, inBlock_normal, Option.getD_some, Option.getD_none, Bool.or_false, Bool.or_true, Bool.true_or, Bool.false_or, Bool.false_eq_true, if_false, if_true, up_zero, Nat.reduceAdd, Nat.reduceSub, binv, ↓opt_def, AV.isAny, AV.cells, ldc, List.map_cons, List.map_nil, St.set_next, St.set_same, St.up_next, Int.natCast_nonneg, lt_len, le_len, Int.toNat_natCast, true_and, and_true, eq_self, reduceCtorEq, decide_true, List.length_singleton, er_int, er_bool, er_str, bytesAV_len, ew]
    obtain ⟨vx, rfl⟩ := hA3.ex
    refine h2 _ _ ?_
    try clear h2 K_h2
    refine T.regi hm ?_
    simp only [↓reduceIte, namesOf, List.any, I.names, aops, aopsI, aopsT, qstep, CPt, qget, Tbl.get, astep, ev, setd, List.set, List.getD, List.getElem?_cons_zero, List.getElem?_cons_succ, List.getElem?_nil, List.cons_append, List.nil_append, List.length_cons, List.length_nil, List.replicate, then_normal, inBlock_normal, Option.getD_some, Option.getD_none, Bool.or_false, Bool.or_true, Bool.true_or, Bool.false_or, Bool.false_eq_true, if_false, if_true, up_zero, Nat.reduceAdd, Nat.reduceSub, binv, ↓opt_def, AV.isAny, AV.cells, ldc, List.map_cons, List.map_nil, St.set_next, St.set_same, St.up_next, Int.natCast_nonneg, lt_len, le_len, Int.toNat_natCast, true_and, and_true, eq_self, reduceCtorEq, decide_true, List.length_singleton, er_int, er_bool, er_str, hiw]
    have hO2 := (hO.up 15).keep (u := t'') (by rw [hn3]; exact Nat.le_refl _) (fun m hm => ho3 m (by have := hP.like.next; omega) (fun g e => by have := (hP.lt g e).1; omega)) (fun a e => ho3 a (by have := (hO.lt a e).2; omega) (fun b e' => hne a b e e'))
    have hav : tcsAV part' ++ [y.av] = tcsAV (part' ++ [y]) := tcs_snoc' part' y.id y.sp
    rw [hav] at hA3 ⊢
    exact ⟨hil, _, _, Gh.keep [1, 4, 5, 6, 7, 8, 25, 26, 27], out', part' ++ [y], vo', vx, Go', G', hO2, hA3, (fun a b e1 e2 => by have := (hO.lt a e1).2; have := hG3 b e2; omega), hol, by rw [List.length_append, List.length_singleton]; omega,
      (fun t ht => by rcases List.mem_append.1 ht with h | h; exact hpo t h; rw [List.mem_singleton.1 h]; exact hone), hcut, rfl⟩
  clear h2
  refine T.seq_k (fun K_h4 h4 => ?_)
  have after : ∀ (cnd : Bool) ρ', ρ'.getD 54 .any = .bool cnd → (cnd = true ↔ part ≠ [] ∧ (((pageB part).length : Int) + (trB y).length > most ∨ part.length = 64)) →
      keep [1, 4, 5, 6, 7, 8, 10, 11, 25, 26, 27] 0 ρ' = [.any, .int .i64 most, .any, .any, .sl [] .nil, .nili, .sl (pgsAV out) vo, .sl (tcsAV part) vp, .int .i64 (6 + ((part.flatMap trB).length : Int)), .any, .ptr a 0, .sl (bytesAV (trB y)) .none] ++ List.replicate 13 .any ++ [.sl (tcsAV l) g, .int .i64 (l.length : Int), .int .i64 (i : Int)] ++ List.replicate 53 .any → K_h4 ρ' τ3 := by
    intro cnd ρ' h54 hc hρ
    refine h4 _ _ ?_
    try clear h4 K_h4
    refine T.cond (b := cnd) h54 (fun hbt => ?_) (fun hbf => T.skip ?_)
    · have hcc := hc.1 hbt
      have hc2 : cutG most l [] = (out ++ [part]) ++ cutG most (l.drop (i + 1)) ([] ++ [y]) := by
        rw [hcut]; conv => lhs; unfold cutG
        rw [if_pos hcc, List.append_assoc]; rfl
      refine T.gh (Gh.keep [1, 4, 5, 6, 7, 8, 10, 11, 25, 26, 27]) ?_
      rw [hρ]
      refine T.regt hm (tbl := []) Tbl.ok_nil ?_
      refine aopsT_cut 3 (fun K_c h_c => ?_)
      try simp only [↓reduceIte, namesOf, List.any, I.names, aops, aopsI, aopsT, qstep, CPt, qget, Tbl.get, astep, ev, setd, List.set, List.getD, List.getElem?_cons_zero, List.getElem?_cons_succ, List.getElem?_nil, List.cons_append, List.nil_append, List.length_cons, List.length_nil, List.replicate, then_normal, inBlock_normal, Option.getD_some, Option.getD_none, Bool.or_false, Bool.or_true, Bool.true_or, Bool.false_or, Bool.false_eq_true, if_false, if_true, up_zero, Nat.reduceAdd, Nat.reduceSub, binv, ↓opt_def, AV.isAny, AV.cells, ldc, List.map_cons, List.map_nil, St.set_next, St.set_same, St.up_next, Int.natCast_nonneg, lt_len, le_len, Int.toNat_natCast, true_and, and_true, eq_self, reduceCtorEq, decide_true, List.length_singleton, er_int, er_bool, er_str, List.take_succ_cons, List.take_zero, held, AV.fits, AV.one, List.all_cons, List.all_nil, Nat.reduceBEq, Bool.and_true, Bool.not_false, Bool.and_self, Nat.zero_add, splice, List.take, List.drop, Nat.reduceLeDiff]
      refine h_c _ _ ?_
      clear h_c K_c
      simp only [List.drop_succ_cons, List.drop_zero, Nat.zero_add, Nat.reduceAdd]
      refine aopsT_acc (hO1.up 7) (by have := hO1.like.next; omega) (by simp) rfl (ys := [.sl (tcsAV part) .none]) ?_ ?_ ?_ (fun x' t' G' hA3 hn3 hG3 ho3 _ => ?_)
      · rfl
      · rw [pgs_snoc]; exact pgs_fits _
      · have hss : [AV.sl (tcsAV part) .none].length = 1 := rfl
        rw [pgs_len, hss]; omega
      try simp only [↓reduceIte, namesOf, List.any, I.names, aops, aopsI, aopsT, qstep, CPt, qget, Tbl.get, astep, ev, setd, List.set, List.getD, List.getElem?_cons_zero, List.getElem?_cons_succ, List.getElem?_nil, List.cons_append, List.nil_append, List.length_cons, List.length_nil, List.replicate, then_normal, inBlock_normal, Option.getD_some, Option.getD_none, Bool.or_false, Bool.or_true, Bool.true_or, Bool.false_or, Bool.false_eq_true, if_false, if_true, up_zero, Nat.reduceAdd, Nat.reduceSub, binv, ↓opt_def, AV.isAny, AV.cells, ldc, List.map_cons, List.map_nil, St.set_next, St.set_same, St.up_next, Int.natCast_nonneg, lt_len, le_len, Int.toNat_natCast, true_and, and_true, eq_self, reduceCtorEq, decide_true, List.length_singleton, er_int, er_bool, er_str, ]
      obtain ⟨vx, rfl⟩ := hA3.ex
      rw [pgs_snoc] at hA3 ⊢
      refine fin _ _ (out ++ [part]) [] vx .nil G' none hA3 (.nil hA3.like) (fun _ _ _ h => by cases h) ?_ (by rw [List.length_append, List.length_singleton]; omega) (by simp) (fun _ h => by cases h) hc2 rfl
      rw [ho3 a (by omega) haO]; exact hb
    · have hcc : ¬ (part ≠ [] ∧ (((pageB part).length : Int) + (trB y).length > most ∨ part.length = 64)) := fun h => by rw [hc.2 h] at hbf; cases hbf
      have hc2 : cutG most l [] = out ++ cutG most (l.drop (i + 1)) (part ++ [y]) := by
        rw [hcut]; conv => lhs; unfold cutG
        rw [if_neg hcc]
      refine fin _ _ out part vo vp Go Gp hO1 hP1 hne hb (by omega) ?_ hpo hc2 hρ
      by_cases hp : part = []
      · subst hp; simp
      · have : ¬ part.length = 64 := fun h => hcc ⟨hp, .inr h⟩
        omega
  by_cases hp : part = []
  · subst hp
    have e1 : decide ((([] : List Tc).length : Int) > 0) = false := rfl
    refine T.regi hm ?_
    simp only [↓reduceIte, namesOf, List.any, I.names, aops, aopsI, aopsT, qstep, CPt, qget, Tbl.get, astep, ev, setd, List.set, List.getD, List.getElem?_cons_zero, List.getElem?_cons_succ, List.getElem?_nil, List.cons_append, List.nil_append, List.length_cons, List.length_nil, List.replicate, then_normal, inBlock_normal, Option.getD_some, Option.getD_none, Bool.or_false, Bool.or_true, Bool.true_or, Bool.false_or, Bool.false_eq_true, if_false, if_true, up_zero, Nat.reduceAdd, Nat.reduceSub, binv, ↓opt_def, AV.isAny, AV.cells, ldc, List.map_cons, List.map_nil, St.set_next, St.set_same, St.up_next, Int.natCast_nonneg, lt_len, le_len, Int.toNat_natCast, true_and, and_true, eq_self, reduceCtorEq, decide_true, List.length_singleton, er_int, er_bool, er_str, tcs_len, e1]
    exact after false _ rfl (by simp) rfl
  · have hpos : 0 < part.length := List.length_pos_iff.2 hp
    have e1 : decide ((part.length : Int) > 0) = true := decide_eq_true (by omega)
    have e5 := page_len6 part
    cases hB : decide (6 + ((part.flatMap trB).length : Int) + ((trB y).length : Int) > most) with
    | true =>
      refine T.regi hm ?_
      simp only [↓reduceIte, namesOf, List.any, I.names, aops, aopsI, aopsT, qstep, CPt, qget, Tbl.get, astep, ev, setd, List.set, List.getD, List.getElem?_cons_zero, List.getElem?_cons_succ, List.getElem?_nil, List.cons_append, List.nil_append, List.length_cons, List.length_nil, List.replicate, then_normal, inBlock_normal, Option.getD_some, Option.getD_none, Bool.or_false, Bool.or_true, Bool.true_or, Bool.false_or, Bool.false_eq_true, if_false, if_true, up_zero, Nat.reduceAdd, Nat.reduceSub, binv, ↓opt_def, AV.isAny, AV.cells, ldc, List.map_cons, List.map_nil, St.set_next, St.set_same, St.up_next, Int.natCast_nonneg, lt_len, le_len, Int.toNat_natCast, true_and, and_true, eq_self, reduceCtorEq, decide_true, List.length_singleton, er_int, er_bool, er_str, tcs_len, bytesAV_len, e1, ew, hB]
      exact after true _ rfl ⟨fun _ => ⟨hp, .inl (by rw [e5]; exact of_decide_eq_true hB)⟩, fun _ => rfl⟩ rfl
    | false =>
      have hB' := of_decide_eq_false hB
      cases hC : ((part.length : Int) == 64) with
      | true =>
        refine T.regi hm ?_
        simp only [↓reduceIte, namesOf, List.any, I.names, aops, aopsI, aopsT, qstep, CPt, qget, Tbl.get, astep, ev, setd, List.set, List.getD, List.getElem?_cons_zero, List.getElem?_cons_succ, List.getElem?_nil, List.cons_append, List.nil_append, List.length_cons, List.length_nil, List.replicate, then_normal, inBlock_normal, Option.getD_some, Option.getD_none, Bool.or_false, Bool.or_true, Bool.true_or, Bool.false_or, Bool.false_eq_true, if_false, if_true, up_zero, Nat.reduceAdd, Nat.reduceSub, binv, ↓opt_def, AV.isAny, AV.cells, ldc, List.map_cons, List.map_nil, St.set_next, St.set_same, St.up_next, Int.natCast_nonneg, lt_len, le_len, Int.toNat_natCast, true_and, and_true, eq_self, reduceCtorEq, decide_true, List.length_singleton, er_int, er_bool, er_str, tcs_len, bytesAV_len, e1, ew, hB, hC]
        exact after true _ rfl ⟨fun _ => ⟨hp, .inr (by have := eq_of_beq hC; omega)⟩, fun _ => rfl⟩ rfl
      | false =>
        refine T.regi hm ?_
        simp only [↓reduceIte, namesOf, List.any, I.names, aops, aopsI, aopsT, qstep, CPt, qget, Tbl.get, astep, ev, setd, List.set, List.getD, List.getElem?_cons_zero, List.getElem?_cons_succ, List.getElem?_nil, List.cons_append, List.nil_append, List.length_cons, List.length_nil, List.replicate, then_normal, inBlock_normal, Option.getD_some, Option.getD_none, Bool.or_false, Bool.or_true, Bool.true_or, Bool.false_or, Bool.false_eq_true, if_false, if_true, up_zero, Nat.reduceAdd, Nat.reduceSub, binv, ↓opt_def, AV.isAny, AV.cells, ldc, List.map_cons, List.map_nil, St.set_next, St.set_same, St.up_next, Int.natCast_nonneg, lt_len, le_len, Int.toNat_natCast, true_and, and_true, eq_self, reduceCtorEq, decide_true, List.length_singleton, er_int, er_bool, er_str, tcs_len, bytesAV_len, e1, ew, hB, hC]
        refine after false _ rfl ⟨fun h => (by cases h), fun h => ?_⟩ rfl
        rcases h.2 with h2 | h2
        · rw [e5] at h2; exact absurd h2 hB'
        · rw [h2] at hC; cases hC

end Go.VL

namespace Go.VL

open Go.Proofs

theorem tcs_take (a : List Tc) (n : Nat) : (tcsAV a).take n = tcsAV (a.take n) := by simp [tcsAV, List.map_take]

theorem tcs_drop (a : List Tc) (n : Nat) : (tcsAV a).drop n = tcsAV (a.drop n) := by simp [tcsAV, List.map_drop]

theorem pgs_er (l : List (List Tc)) : (pgsAV l).map AV.er = pgsAV l := by
  simp only [pgsAV, List.map_map]
  apply List.map_congr_left
  intro p _
  rfl

/-- how many parts -/
theorem cutG_len {most : Int} : ∀ {l part : List Tc}, (cutG most l part).length ≤ l.length + (if part = [] then 0 else 1)
  | [], part => by unfold cutG; split <;> simp_all
  | t :: r, part => by
    unfold cutG
    split
    · rename_i hc
      have := cutG_len (most := most) (l := r) (part := [t])
      rw [if_neg (by simp)] at this
      rw [if_neg hc.1, List.length_cons, List.length_cons]; omega
    · have := cutG_len (most := most) (l := r) (part := part ++ [t])
      rw [if_neg (by simp)] at this
      rw [List.length_cons]; omega

/-- what may be put into a page -/
def PgT (t : Tc) : Prop := t.id < 18446744073709551616 ∧ t.sp.length ≤ 100 ∧ ∀ s ∈ t.sp, mayS s = true ∧ s.wd

set_option maxRecDepth 10000 in
set_option maxHeartbeats 2000000 in
theorem rcut_ok {most : Int} : ∀ {n : Nat} {l : List Tc} {σ : St}, l.length ≤ n → n ≤ 65535 → (∀ t ∈ l, PgT t) →
    ACalls Try.prog n_rcut [.sl (tcsAV l) .none, .int .i64 most] σ (fun v σ' => v = .sl (pgsAV (cutG most l [])) .none ∧ σ' = σ) := by
  intro n
  induction n with
  | zero =>
    intro l σ hn _ _
    have : l = [] := List.length_eq_zero_iff.1 (by omega)
    subst this
    refine s_rcut (fun wf => ?_)
    unfold c_rcut
    have e1 : ((([] : List Tc).length : Int) == 0) = true := rfl
    refine T.seq_k (fun K_h0 h0 => ?_)
    refine T.regi hm ?_
    simp only [↓reduceIte, namesOf, List.any, I.names, aops, aopsI, aopsT, qstep, CPt, qget, Tbl.get, astep, ev, setd, List.set, List.getD, List.getElem?_cons_zero, List.getElem?_cons_succ, List.getElem?_nil, List.cons_append, List.nil_append, List.length_cons, List.length_nil, List.replicate, then_normal, inBlock_normal, Option.getD_some, Option.getD_none, Bool.or_false, Bool.or_true, Bool.true_or, Bool.false_or, Bool.false_eq_true, if_false, if_true, up_zero, Nat.reduceAdd, Nat.reduceSub, binv, ↓opt_def, AV.isAny, AV.cells, ldc, List.map_cons, List.map_nil, St.set_next, St.set_same, St.up_next, Int.natCast_nonneg, lt_len, le_len, Int.toNat_natCast, true_and, and_true, eq_self, reduceCtorEq, decide_true, List.length_singleton, er_int, er_bool, er_str]
    refine h0 _ _ ?_
    try clear h0 K_h0
    refine T.seq_k (fun K_h1 h1 => ?_)
    refine T.seq_k (fun K_h0 h0 => ?_)
    refine T.regi hm ?_
    simp only [↓reduceIte, namesOf, List.any, I.names, aops, aopsI, aopsT, qstep, CPt, qget, Tbl.get, astep, ev, setd, List.set, List.getD, List.getElem?_cons_zero, List.getElem?_cons_succ, List.getElem?_nil, List.cons_append, List.nil_append, List.length_cons, List.length_nil, List.replicate, then_normal, inBlock_normal, Option.getD_some, Option.getD_none, Bool.or_false, Bool.or_true, Bool.true_or, Bool.false_or, Bool.false_eq_true, if_false, if_true, up_zero, Nat.reduceAdd, Nat.reduceSub, binv, ↓opt_def, AV.isAny, AV.cells, ldc, List.map_cons, List.map_nil, St.set_next, St.set_same, St.up_next, Int.natCast_nonneg, lt_len, le_len, Int.toNat_natCast, true_and, and_true, eq_self, reduceCtorEq, decide_true, List.length_singleton, er_int, er_bool, er_str, tcs_len, e1]
    refine h0 _ _ ?_
    try clear h0 K_h0
    refine T.cond rfl (fun _ => ?_) (fun h => by cases h)
    refine T.seq_k (fun K_h0 h0 => ?_)
    refine T.regi hm ?_
    simp only [↓reduceIte, namesOf, List.any, I.names, aops, aopsI, aopsT, qstep, CPt, qget, Tbl.get, astep, ev, setd, List.set, List.getD, List.getElem?_cons_zero, List.getElem?_cons_succ, List.getElem?_nil, List.cons_append, List.nil_append, List.length_cons, List.length_nil, List.replicate, then_normal, inBlock_normal, Option.getD_some, Option.getD_none, Bool.or_false, Bool.or_true, Bool.true_or, Bool.false_or, Bool.false_eq_true, if_false, if_true, up_zero, Nat.reduceAdd, Nat.reduceSub, binv, ↓opt_def, AV.isAny, AV.cells, ldc, List.map_cons, List.map_nil, St.set_next, St.set_same, St.up_next, Int.natCast_nonneg, lt_len, le_len, Int.toNat_natCast, true_and, and_true, eq_self, reduceCtorEq, decide_true, List.length_singleton, er_int, er_bool, er_str]
    refine h0 _ _ ?_
    try clear h0 K_h0
    exact T.ret (Fin.retw rfl (Wk.sl _ _) ⟨by unfold cutG; simp [pgsAV], rfl⟩)
  | succ n ih =>
    intro l σ hn hn2 hp
    refine s_rcut (fun wf => ?_)
    unfold c_rcut
    refine T.seq_k (fun K_h0 h0 => ?_)
    refine T.regi hm ?_
    simp only [↓reduceIte, namesOf, List.any, I.names, aops, aopsI, aopsT, qstep, CPt, qget, Tbl.get, astep, ev, setd, List.set, List.getD, List.getElem?_cons_zero, List.getElem?_cons_succ, List.getElem?_nil, List.cons_append, List.nil_append, List.length_cons, List.length_nil, List.replicate, then_normal, inBlock_normal, Option.getD_some, Option.getD_none, Bool.or_false, Bool.or_true, Bool.true_or, Bool.false_or, Bool.false_eq_true, if_false, if_true, up_zero, Nat.reduceAdd, Nat.reduceSub, binv, ↓opt_def, AV.isAny, AV.cells, ldc, List.map_cons, List.map_nil, St.set_next, St.set_same, St.up_next, Int.natCast_nonneg, lt_len, le_len, Int.toNat_natCast, true_and, and_true, eq_self, reduceCtorEq, decide_true, List.length_singleton, er_int, er_bool, er_str]
    refine h0 _ _ ?_
    try clear h0 K_h0
    refine T.seq_k (fun K_h1 h1 => ?_)
    by_cases hl0 : l = []
    · subst hl0
      have e1 : ((([] : List Tc).length : Int) == 0) = true := rfl
      refine T.seq_k (fun K_h0 h0 => ?_)
      refine T.regi hm ?_
      simp only [↓reduceIte, namesOf, List.any, I.names, aops, aopsI, aopsT, qstep, CPt, qget, Tbl.get, astep, ev, setd, List.set, List.getD, List.getElem?_cons_zero, List.getElem?_cons_succ, List.getElem?_nil, List.cons_append, List.nil_append, List.length_cons, List.length_nil, List.replicate, then_normal, inBlock_normal, Option.getD_some, Option.getD_none, Bool.or_false, Bool.or_true, Bool.true_or, Bool.false_or, Bool.false_eq_true, if_false, if_true, up_zero, Nat.reduceAdd, Nat.reduceSub, binv, ↓opt_def, AV.isAny, AV.cells, ldc, List.map_cons, List.map_nil, St.set_next, St.set_same, St.up_next, Int.natCast_nonneg, lt_len, le_len, Int.toNat_natCast, true_and, and_true, eq_self, reduceCtorEq, decide_true, List.length_singleton, er_int, er_bool, er_str, tcs_len, e1]
      refine h0 _ _ ?_
      try clear h0 K_h0
      refine T.cond rfl (fun _ => ?_) (fun h => by cases h)
      refine T.seq_k (fun K_h0 h0 => ?_)
      refine T.regi hm ?_
      simp only [↓reduceIte, namesOf, List.any, I.names, aops, aopsI, aopsT, qstep, CPt, qget, Tbl.get, astep, ev, setd, List.set, List.getD, List.getElem?_cons_zero, List.getElem?_cons_succ, List.getElem?_nil, List.cons_append, List.nil_append, List.length_cons, List.length_nil, List.replicate, then_normal, inBlock_normal, Option.getD_some, Option.getD_none, Bool.or_false, Bool.or_true, Bool.true_or, Bool.false_or, Bool.false_eq_true, if_false, if_true, up_zero, Nat.reduceAdd, Nat.reduceSub, binv, ↓opt_def, AV.isAny, AV.cells, ldc, List.map_cons, List.map_nil, St.set_next, St.set_same, St.up_next, Int.natCast_nonneg, lt_len, le_len, Int.toNat_natCast, true_and, and_true, eq_self, reduceCtorEq, decide_true, List.length_singleton, er_int, er_bool, er_str]
      refine h0 _ _ ?_
      try clear h0 K_h0
      exact T.ret (Fin.retw rfl (Wk.sl _ _) ⟨by unfold cutG; simp [pgsAV], rfl⟩)
    have hpos : 0 < l.length := List.length_pos_iff.2 hl0
    have e1 : ((l.length : Int) == 0) = false := by rw [beq_eq_false_iff_ne]; omega
    refine T.seq_k (fun K_h0 h0 => ?_)
    refine T.regi hm ?_
    simp only [↓reduceIte, namesOf, List.any, I.names, aops, aopsI, aopsT, qstep, CPt, qget, Tbl.get, astep, ev, setd, List.set, List.getD, List.getElem?_cons_zero, List.getElem?_cons_succ, List.getElem?_nil, List.cons_append, List.nil_append, List.length_cons, List.length_nil, List.replicate, then_normal, inBlock_normal, Option.getD_some, Option.getD_none, Bool.or_false, Bool.or_true, Bool.true_or, Bool.false_or, Bool.false_eq_true, if_false, if_true, up_zero, Nat.reduceAdd, Nat.reduceSub, binv, ↓opt_def, AV.isAny, AV.cells, ldc, List.map_cons, List.map_nil, St.set_next, St.set_same, St.up_next, Int.natCast_nonneg, lt_len, le_len, Int.toNat_natCast, true_and, and_true, eq_self, reduceCtorEq, decide_true, List.length_singleton, er_int, er_bool, er_str, tcs_len, e1]
    refine h0 _ _ ?_
    try clear h0 K_h0
    refine T.cond rfl (fun h => by cases h) (fun _ => T.skip ?_)
    refine h1 _ _ ?_
    try clear h1 K_h1
    clear e1
    refine T.seq_k (fun K_h0 h0 => ?_)
    refine T.regi hm ?_
    simp only [↓reduceIte, namesOf, List.any, I.names, aops, aopsI, aopsT, qstep, CPt, qget, Tbl.get, astep, ev, setd, List.set, List.getD, List.getElem?_cons_zero, List.getElem?_cons_succ, List.getElem?_nil, List.cons_append, List.nil_append, List.length_cons, List.length_nil, List.replicate, then_normal, inBlock_normal, Option.getD_some, Option.getD_none, Bool.or_false, Bool.or_true, Bool.true_or, Bool.false_or, Bool.false_eq_true, if_false, if_true, up_zero, Nat.reduceAdd, Nat.reduceSub, binv, ↓opt_def, AV.isAny, AV.cells, ldc, List.map_cons, List.map_nil, St.set_next, St.set_same, St.up_next, Int.natCast_nonneg, lt_len, le_len, Int.toNat_natCast, true_and, and_true, eq_self, reduceCtorEq, decide_true, List.length_singleton, er_int, er_bool, er_str]
    refine h0 _ _ ?_
    try clear h0 K_h0
    refine T.seq_k (fun K_h1 h1 => ?_)
    refine T.block ?_
    refine T.gh (Gh.keep [0, 1, 4, 5]) ?_
    refine T.loopi (fun i ρ t => t = σ ∧ 1 ≤ i ∧ rcN most l (l.length - 1) 1 = rcN most l (l.length - i) i ∧ ρ = [.sl (tcsAV l) .none, .int .i64 most, .any, .any, .sl [] .nil, .int .i64 (i : Int)] ++ List.replicate 33 .any)
      l.length 1 hpos ⟨rfl, Nat.le_refl _, rfl, rfl⟩ ?_
    rintro i ρ t hi ⟨rfl, hi1, hrc, rfl⟩
    -- how it ends
    have fin : ∀ ρ' : List AV, rcN most l (l.length - 1) 1 = i → keep [0, 1, 5] 0 ρ' = [.sl (tcsAV l) .none, .int .i64 most, .any, .any, .any, .int .i64 (i : Int)] ++ List.replicate 33 .any → K_h1 ρ' t := by
      intro ρ' hr hρ
      have hcut := cut_step (most := most) hl0
      rw [hr] at hcut
      have hcl := cutG_len (most := most) (l := l.drop i) (part := [])
      rw [List.length_drop, if_pos rfl] at hcl
      have e8 : ((l.length : Int) - (i : Int)).toNat = l.length - i := by omega
      have e9 : (tcsAV (l.drop i)).take (l.length - i) = tcsAV (l.drop i) := by rw [List.take_of_length_le]; rw [tcs_len, List.length_drop]; omega
      have hz0 : (0 : Int).toNat = 0 := rfl
      have her : ∀ p : List Tc, (AV.sl (tcsAV p) .none).er = .sl (tcsAV p) .none := fun _ => rfl
      refine h1 _ _ ?_
      try clear h1 K_h1
      refine T.gh (Gh.keep [0, 1, 5]) ?_
      rw [hρ]
      refine T.seq_k (fun K_h1 h1 => ?_)
      refine T.regt hm (tbl := []) Tbl.ok_nil ?_
      refine aopsT_cut 8 (fun K_c h_c => ?_)
      try simp only [↓reduceIte, namesOf, List.any, I.names, aops, aopsI, aopsT, qstep, CPt, qget, Tbl.get, astep, ev, setd, List.set, List.getD, List.getElem?_cons_zero, List.getElem?_cons_succ, List.getElem?_nil, List.cons_append, List.nil_append, List.length_cons, List.length_nil, List.replicate, then_normal, inBlock_normal, Option.getD_some, Option.getD_none, Bool.or_false, Bool.or_true, Bool.true_or, Bool.false_or, Bool.false_eq_true, if_false, if_true, up_zero, Nat.reduceAdd, Nat.reduceSub, binv, ↓opt_def, AV.isAny, AV.cells, ldc, List.map_cons, List.map_nil, St.set_next, St.set_same, St.up_next, Int.natCast_nonneg, lt_len, le_len, Int.toNat_natCast, true_and, and_true, eq_self, reduceCtorEq, decide_true, List.length_singleton, er_int, er_bool, er_str, List.take_succ_cons, List.take_zero, held, idx, AV.fits, AV.one, List.all_cons, List.all_nil, Nat.reduceBEq, Bool.and_true, Bool.not_false, Bool.and_self, Nat.zero_add, splice, List.take, List.drop, Nat.reduceLeDiff, hz0, her, tcs_len, tcs_fits, hi, Int.sub_zero, List.drop_zero, tcs_take, tcs_drop, e8, e9, ite_self, Int.le_refl]
      refine h_c _ _ ?_
      clear h_c K_c
      simp only [List.drop_succ_cons, List.drop_zero, Nat.zero_add, Nat.reduceAdd]
      have hq : Tq t ((t.up 11).set (t.next + 3) (.tip 1)) (t.next + 3) 1 := Tq.new (.refl _) (by omega) 1
      have hlt2 : t.next + 9 < ((t.up 11).set (t.next + 3) (.tip 1)).next := by simp
      generalize ((t.up 11).set (t.next + 3) (.tip 1)) = τ at hq hlt2 ⊢
      refine aopsT_p (xs := [.sl (tcsAV (l.drop i)) .none, .int .i64 most]) (v := .sl (pgsAV (cutG most (l.drop i) [])) .none) rfl (fun σ => ih (by rw [List.length_drop]; omega) (by omega) (fun t ht => hp t (List.mem_of_mem_drop ht))) ?_
      refine aopsT_acc (AccG.of_tip hq) (by omega) hlt2 rfl (ys := pgsAV (cutG most (l.drop i) [])) ?_ ?_ ?_ (fun x' t' G' hA3 hn3 hG3 ho3 _ => ?_)
      · simp only [setd, ev, srcOf]
        exact congrArg some (pgs_er _)
      · exact pgs_fits (l.take i :: cutG most (l.drop i) [])
      · have hss : [AV.sl (tcsAV (l.take i)) .none].length = 1 := rfl
        rw [pgs_len]
        show (1 + _) * 24 ≤ _ ∧ 1 + _ ≤ _
        omega
      try simp only [↓reduceIte, namesOf, List.any, I.names, aops, aopsI, aopsT, qstep, CPt, qget, Tbl.get, astep, ev, setd, List.set, List.getD, List.getElem?_cons_zero, List.getElem?_cons_succ, List.getElem?_nil, List.cons_append, List.nil_append, List.length_cons, List.length_nil, List.replicate, then_normal, inBlock_normal, Option.getD_some, Option.getD_none, Bool.or_false, Bool.or_true, Bool.true_or, Bool.false_or, Bool.false_eq_true, if_false, if_true, up_zero, Nat.reduceAdd, Nat.reduceSub, binv, ↓opt_def, AV.isAny, AV.cells, ldc, List.map_cons, List.map_nil, St.set_next, St.set_same, St.up_next, Int.natCast_nonneg, lt_len, le_len, Int.toNat_natCast, true_and, and_true, eq_self, reduceCtorEq, decide_true, List.length_singleton, er_int, er_bool, er_str, ]
      refine h1 _ _ ?_
      try clear h1 K_h1
      have hcat : pgsAV (cutG most l []) = [AV.sl (tcsAV (l.take i)) .none] ++ pgsAV (cutG most (l.drop i) []) := by rw [hcut]; rfl
      rw [hcat]
      exact T.ret (Fin.quietw rfl hA3.wk (by rw [← hcat]; exact ⟨nbs_pgs _ _, trivial⟩) (hA3.quiet wf) ⟨rfl, rfl⟩)
    have hz : ∀ f, ¬ (i < l.length ∧ i < 64 ∧ ((pageB (l.take (i + 1))).length : Int) ≤ most) → rcN most l f i = i := fun f h => by
      cases f with
      | zero => rfl
      | succ f => unfold rcN; rw [if_neg h]
    refine T.seq_k (fun K_h2 h2 => ?_)
    refine T.seq_k (fun K_h3 h3 => ?_)
    by_cases hil : i < l.length
    case neg =>
      have e1 : decide (i < l.length) = false := decide_eq_false (by omega)
      refine T.regi hm ?_
      simp only [↓reduceIte, namesOf, List.any, I.names, aops, aopsI, aopsT, qstep, CPt, qget, Tbl.get, astep, ev, setd, List.set, List.getD, List.getElem?_cons_zero, List.getElem?_cons_succ, List.getElem?_nil, List.cons_append, List.nil_append, List.length_cons, List.length_nil, List.replicate, then_normal, inBlock_normal, Option.getD_some, Option.getD_none, Bool.or_false, Bool.or_true, Bool.true_or, Bool.false_or, Bool.false_eq_true, if_false, if_true, up_zero, Nat.reduceAdd, Nat.reduceSub, binv, ↓opt_def, AV.isAny, AV.cells, ldc, List.map_cons, List.map_nil, St.set_next, St.set_same, St.up_next, Int.natCast_nonneg, lt_len, le_len, Int.toNat_natCast, true_and, and_true, eq_self, reduceCtorEq, decide_true, List.length_singleton, er_int, er_bool, er_str, tcs_len, e1]
      refine h3 _ _ ?_
      try clear h3 K_h3
      refine T.cond rfl (fun h => by cases h) (fun _ => T.exit ?_)
      try simp only [↓reduceIte, namesOf, List.any, I.names, aops, aopsI, aopsT, qstep, CPt, qget, Tbl.get, astep, ev, setd, List.set, List.getD, List.getElem?_cons_zero, List.getElem?_cons_succ, List.getElem?_nil, List.cons_append, List.nil_append, List.length_cons, List.length_nil, List.replicate, then_normal, inBlock_normal, Option.getD_some, Option.getD_none, Bool.or_false, Bool.or_true, Bool.true_or, Bool.false_or, Bool.false_eq_true, if_false, if_true, up_zero, Nat.reduceAdd, Nat.reduceSub, binv, ↓opt_def, AV.isAny, AV.cells, ldc, List.map_cons, List.map_nil, St.set_next, St.set_same, St.up_next, Int.natCast_nonneg, lt_len, le_len, Int.toNat_natCast, true_and, and_true, eq_self, reduceCtorEq, decide_true, List.length_singleton, er_int, er_bool, er_str, inBlock_exit, then_exit]
      exact fin _ (hrc.trans (hz _ (fun h => hil h.1))) rfl
    have e1 : decide (i < l.length) = true := decide_eq_true (by omega)
    by_cases hi64 : i < 64
    case neg =>
      have e2 : decide ((i : Int) < 64) = false := decide_eq_false (by omega)
      refine T.regi hm ?_
      simp only [↓reduceIte, namesOf, List.any, I.names, aops, aopsI, aopsT, qstep, CPt, qget, Tbl.get, astep, ev, setd, List.set, List.getD, List.getElem?_cons_zero, List.getElem?_cons_succ, List.getElem?_nil, List.cons_append, List.nil_append, List.length_cons, List.length_nil, List.replicate, then_normal, inBlock_normal, Option.getD_some, Option.getD_none, Bool.or_false, Bool.or_true, Bool.true_or, Bool.false_or, Bool.false_eq_true, if_false, if_true, up_zero, Nat.reduceAdd, Nat.reduceSub, binv, ↓opt_def, AV.isAny, AV.cells, ldc, List.map_cons, List.map_nil, St.set_next, St.set_same, St.up_next, Int.natCast_nonneg, lt_len, le_len, Int.toNat_natCast, true_and, and_true, eq_self, reduceCtorEq, decide_true, List.length_singleton, er_int, er_bool, er_str, tcs_len, e1, e2]
      refine h3 _ _ ?_
      try clear h3 K_h3
      refine T.cond rfl (fun h => by cases h) (fun _ => T.exit ?_)
      try simp only [↓reduceIte, namesOf, List.any, I.names, aops, aopsI, aopsT, qstep, CPt, qget, Tbl.get, astep, ev, setd, List.set, List.getD, List.getElem?_cons_zero, List.getElem?_cons_succ, List.getElem?_nil, List.cons_append, List.nil_append, List.length_cons, List.length_nil, List.replicate, then_normal, inBlock_normal, Option.getD_some, Option.getD_none, Bool.or_false, Bool.or_true, Bool.true_or, Bool.false_or, Bool.false_eq_true, if_false, if_true, up_zero, Nat.reduceAdd, Nat.reduceSub, binv, ↓opt_def, AV.isAny, AV.cells, ldc, List.map_cons, List.map_nil, St.set_next, St.set_same, St.up_next, Int.natCast_nonneg, lt_len, le_len, Int.toNat_natCast, true_and, and_true, eq_self, reduceCtorEq, decide_true, List.length_singleton, er_int, er_bool, er_str, inBlock_exit, then_exit]
      exact fin _ (hrc.trans (hz _ (fun h => hi64 h.2.1))) rfl
    have e2 : decide ((i : Int) < 64) = true := decide_eq_true (by omega)
    have hiw := inc64' hil (by omega)
    have hil1 : i + 1 ≤ l.length := hil
    have hz0 : (0 : Int).toNat = 0 := rfl
    refine T.regi hm ?_
    simp only [↓reduceIte, namesOf, List.any, I.names, aops, aopsI, aopsT, qstep, CPt, qget, Tbl.get, astep, ev, setd, List.set, List.getD, List.getElem?_cons_zero, List.getElem?_cons_succ, List.getElem?_nil, List.cons_append, List.nil_append, List.length_cons, List.length_nil, List.replicate, then_normal, inBlock_normal, Option.getD_some, Option.getD_none, Bool.or_false, Bool.or_true, Bool.true_or, Bool.false_or, Bool.false_eq_true, if_false, if_true, up_zero, Nat.reduceAdd, Nat.reduceSub, binv, ↓opt_def, AV.isAny, AV.cells, ldc, List.map_cons, List.map_nil, St.set_next, St.set_same, St.up_next, Int.natCast_nonneg, lt_len, le_len, Int.toNat_natCast, true_and, and_true, eq_self, reduceCtorEq, decide_true, List.length_singleton, er_int, er_bool, er_str, tcs_len, e1, e2, hiw, hz0, idx, tcs_fits, hil1, Int.sub_zero, List.drop_zero, tcs_take, ite_self, Int.le_refl]
    refine (rpage_ok (l := l.take (i + 1)) (by rw [List.length_take]; omega) (fun t ht => hp t (List.mem_of_mem_take ht))).mono ?_
    rintro v τ ⟨rfl, rfl⟩
    by_cases hm2 : ((pageB (l.take (i + 1))).length : Int) ≤ most
    case neg =>
      have e3 : decide (((pageB (l.take (i + 1))).length : Int) ≤ most) = false := decide_eq_false hm2
      try simp only [↓reduceIte, namesOf, List.any, I.names, aops, aopsI, aopsT, qstep, CPt, qget, Tbl.get, astep, ev, setd, List.set, List.getD, List.getElem?_cons_zero, List.getElem?_cons_succ, List.getElem?_nil, List.cons_append, List.nil_append, List.length_cons, List.length_nil, List.replicate, then_normal, inBlock_normal, Option.getD_some, Option.getD_none, Bool.or_false, Bool.or_true, Bool.true_or, Bool.false_or, Bool.false_eq_true, if_false, if_true, up_zero, Nat.reduceAdd, Nat.reduceSub, binv, ↓opt_def, AV.isAny, AV.cells, ldc, List.map_cons, List.map_nil, St.set_next, St.set_same, St.up_next, Int.natCast_nonneg, lt_len, le_len, Int.toNat_natCast, true_and, and_true, eq_self, reduceCtorEq, decide_true, List.length_singleton, er_int, er_bool, er_str, up_zero, bytesAV_len, e3]
      refine h3 _ _ ?_
      try clear h3 K_h3
      refine T.cond rfl (fun h => by cases h) (fun _ => T.exit ?_)
      try simp only [↓reduceIte, namesOf, List.any, I.names, aops, aopsI, aopsT, qstep, CPt, qget, Tbl.get, astep, ev, setd, List.set, List.getD, List.getElem?_cons_zero, List.getElem?_cons_succ, List.getElem?_nil, List.cons_append, List.nil_append, List.length_cons, List.length_nil, List.replicate, then_normal, inBlock_normal, Option.getD_some, Option.getD_none, Bool.or_false, Bool.or_true, Bool.true_or, Bool.false_or, Bool.false_eq_true, if_false, if_true, up_zero, Nat.reduceAdd, Nat.reduceSub, binv, ↓opt_def, AV.isAny, AV.cells, ldc, List.map_cons, List.map_nil, St.set_next, St.set_same, St.up_next, Int.natCast_nonneg, lt_len, le_len, Int.toNat_natCast, true_and, and_true, eq_self, reduceCtorEq, decide_true, List.length_singleton, er_int, er_bool, er_str, inBlock_exit, then_exit]
      exact fin _ (hrc.trans (hz _ (fun h => hm2 h.2.2))) rfl
    have e3 : decide (((pageB (l.take (i + 1))).length : Int) ≤ most) = true := decide_eq_true hm2
    clear fin
    try simp only [↓reduceIte, namesOf, List.any, I.names, aops, aopsI, aopsT, qstep, CPt, qget, Tbl.get, astep, ev, setd, List.set, List.getD, List.getElem?_cons_zero, List.getElem?_cons_succ, List.getElem?_nil, List.cons_append, List.nil_append, List.length_cons, List.length_nil, List.replicate, then_normal, inBlock_normal, Option.getD_some, Option.getD_none, Bool.or_false, Bool.or_true, Bool.true_or, Bool.false_or, Bool.false_eq_true, if_false, if_true, up_zero, Nat.reduceAdd, Nat.reduceSub, binv, ↓opt_def, AV.isAny, AV.cells, ldc, List.map_cons, List.map_nil, St.set_next, St.set_same, St.up_next, Int.natCast_nonneg, lt_len, le_len, Int.toNat_natCast, true_and, and_true, eq_self, reduceCtorEq, decide_true, List.length_singleton, er_int, er_bool, er_str, up_zero, bytesAV_len, e3]
    refine h3 _ _ ?_
    try clear h3 K_h3
    refine T.cond rfl (fun _ => T.skip ?_) (fun h => by cases h)
    refine h2 _ _ ?_
    try clear h2 K_h2
    refine T.block ?_
    refine T.regi hm ?_
    simp only [↓reduceIte, namesOf, List.any, I.names, aops, aopsI, aopsT, qstep, CPt, qget, Tbl.get, astep, ev, setd, List.set, List.getD, List.getElem?_cons_zero, List.getElem?_cons_succ, List.getElem?_nil, List.cons_append, List.nil_append, List.length_cons, List.length_nil, List.replicate, then_normal, inBlock_normal, Option.getD_some, Option.getD_none, Bool.or_false, Bool.or_true, Bool.true_or, Bool.false_or, Bool.false_eq_true, if_false, if_true, up_zero, Nat.reduceAdd, Nat.reduceSub, binv, ↓opt_def, AV.isAny, AV.cells, ldc, List.map_cons, List.map_nil, St.set_next, St.set_same, St.up_next, Int.natCast_nonneg, lt_len, le_len, Int.toNat_natCast, true_and, and_true, eq_self, reduceCtorEq, decide_true, List.length_singleton, er_int, er_bool, er_str, hiw]
    refine ⟨hil, _, _, Gh.keep [0, 1, 4, 5], rfl, by omega, ?_, rfl⟩
    rw [hrc]
    obtain ⟨f, hf⟩ : ∃ f, l.length - i = f + 1 := ⟨l.length - i - 1, by omega⟩
    rw [hf, show l.length - (i + 1) = f by omega]
    conv => lhs; unfold rcN
    rw [if_pos ⟨hil, hi64, hm2⟩]

end Go.VL

namespace Go.VL

open Go.Proofs

theorem fewt_facts {m : Int} {l : List Tc} (h : fewtB m l = true) : l.length ≤ 100 ∧ ∀ t ∈ l, t.sp.length ≤ 150 ∧ ∀ s ∈ t.sp, s.da.length ≤ 200 := by
  unfold fewtB fewB at h
  simp only [Bool.and_eq_true, decide_eq_true_eq, List.all_eq_true] at h
  refine ⟨h.1.2, fun t ht => ⟨?_, fun s hs => (h.1.1 t ht).1 s hs⟩⟩
  have := (h.1.1 t ht).2
  omega

theorem cutG_mem {most : Int} {l : List Tc} {p : List Tc} (hp : p ∈ cutG most l []) {t : Tc} (ht : t ∈ p) : t ∈ l := by
  have : t ∈ (cutG most l []).flatten := List.mem_flatten.2 ⟨p, hp, ht⟩
  rwa [cut_flat, List.nil_append] at this

set_option maxRecDepth 10000 in
set_option maxHeartbeats 2000000 in
theorem pageCuts_ok {l : List Tc} {most : Int} {σ : St} (hl : l.length ≤ 9223372036854775807) (hs : ∀ t ∈ l, t.sp.length ≤ 9223372036854775807) (hw : ∀ t ∈ l, t.wd) :
    ACalls Try.prog n_pageCuts [.sl (tcsAV l) .none, .int .i64 most] σ (fun v σ' => v = .bool true ∧ σ' = σ) := by
  refine s_pageCuts (fun wf => ?_)
  unfold c_pageCuts
  refine T.seq_k (fun K_h0 h0 => ?_)
  refine T.regi hm ?_
  simp only [↓reduceIte, namesOf, List.any, I.names, aops, aopsI, aopsT, qstep, CPt, qget, Tbl.get, astep, ev, setd, List.set, List.getD, List.getElem?_cons_zero, List.getElem?_cons_succ, List.getElem?_nil, List.cons_append, List.nil_append, List.length_cons, List.length_nil, List.replicate, then_normal, inBlock_normal, Option.getD_some, Option.getD_none, Bool.or_false, Bool.or_true, Bool.true_or, Bool.false_or, Bool.false_eq_true, if_false, if_true, up_zero, Nat.reduceAdd, Nat.reduceSub, binv, ↓opt_def, AV.isAny, AV.cells, ldc, List.map_cons, List.map_nil, St.set_next, St.set_same, St.up_next, Int.natCast_nonneg, lt_len, le_len, Int.toNat_natCast, true_and, and_true, eq_self, reduceCtorEq, decide_true, List.length_singleton, er_int, er_bool, er_str]
  refine h0 _ _ ?_
  try clear h0 K_h0
  refine T.seq_k (fun K_h1 h1 => ?_)
  refine T.regi hm ?_
  simp only [↓reduceIte, namesOf, List.any, I.names, aops, aopsI, aopsT, qstep, CPt, qget, Tbl.get, astep, ev, setd, List.set, List.getD, List.getElem?_cons_zero, List.getElem?_cons_succ, List.getElem?_nil, List.cons_append, List.nil_append, List.length_cons, List.length_nil, List.replicate, then_normal, inBlock_normal, Option.getD_some, Option.getD_none, Bool.or_false, Bool.or_true, Bool.true_or, Bool.false_or, Bool.false_eq_true, if_false, if_true, up_zero, Nat.reduceAdd, Nat.reduceSub, binv, ↓opt_def, AV.isAny, AV.cells, ldc, List.map_cons, List.map_nil, St.set_next, St.set_same, St.up_next, Int.natCast_nonneg, lt_len, le_len, Int.toNat_natCast, true_and, and_true, eq_self, reduceCtorEq, decide_true, List.length_singleton, er_int, er_bool, er_str]
  refine up05_ok.mono ?_
  rintro v σ1 ⟨rfl, rfl⟩
  try simp only [↓reduceIte, namesOf, List.any, I.names, aops, aopsI, aopsT, qstep, CPt, qget, Tbl.get, astep, ev, setd, List.set, List.getD, List.getElem?_cons_zero, List.getElem?_cons_succ, List.getElem?_nil, List.cons_append, List.nil_append, List.length_cons, List.length_nil, List.replicate, then_normal, inBlock_normal, Option.getD_some, Option.getD_none, Bool.or_false, Bool.or_true, Bool.true_or, Bool.false_or, Bool.false_eq_true, if_false, if_true, up_zero, Nat.reduceAdd, Nat.reduceSub, binv, ↓opt_def, AV.isAny, AV.cells, ldc, List.map_cons, List.map_nil, St.set_next, St.set_same, St.up_next, Int.natCast_nonneg, lt_len, le_len, Int.toNat_natCast, true_and, and_true, eq_self, reduceCtorEq, decide_true, List.length_singleton, er_int, er_bool, er_str, up_zero]
  refine h1 _ _ ?_
  try clear h1 K_h1
  refine T.seq_k (fun K_h1 h1 => ?_)
  refine T.regi hm ?_
  simp only [↓reduceIte, namesOf, List.any, I.names, aops, aopsI, aopsT, qstep, CPt, qget, Tbl.get, astep, ev, setd, List.set, List.getD, List.getElem?_cons_zero, List.getElem?_cons_succ, List.getElem?_nil, List.cons_append, List.nil_append, List.length_cons, List.length_nil, List.replicate, then_normal, inBlock_normal, Option.getD_some, Option.getD_none, Bool.or_false, Bool.or_true, Bool.true_or, Bool.false_or, Bool.false_eq_true, if_false, if_true, up_zero, Nat.reduceAdd, Nat.reduceSub, binv, ↓opt_def, AV.isAny, AV.cells, ldc, List.map_cons, List.map_nil, St.set_next, St.set_same, St.up_next, Int.natCast_nonneg, lt_len, le_len, Int.toNat_natCast, true_and, and_true, eq_self, reduceCtorEq, decide_true, List.length_singleton, er_int, er_bool, er_str]
  refine (fewt_ok hl hs).mono ?_
  rintro v σ2 ⟨rfl, rfl⟩
  try simp only [↓reduceIte, namesOf, List.any, I.names, aops, aopsI, aopsT, qstep, CPt, qget, Tbl.get, astep, ev, setd, List.set, List.getD, List.getElem?_cons_zero, List.getElem?_cons_succ, List.getElem?_nil, List.cons_append, List.nil_append, List.length_cons, List.length_nil, List.replicate, then_normal, inBlock_normal, Option.getD_some, Option.getD_none, Bool.or_false, Bool.or_true, Bool.true_or, Bool.false_or, Bool.false_eq_true, if_false, if_true, up_zero, Nat.reduceAdd, Nat.reduceSub, binv, ↓opt_def, AV.isAny, AV.cells, ldc, List.map_cons, List.map_nil, St.set_next, St.set_same, St.up_next, Int.natCast_nonneg, lt_len, le_len, Int.toNat_natCast, true_and, and_true, eq_self, reduceCtorEq, decide_true, List.length_singleton, er_int, er_bool, er_str, up_zero]
  refine h1 _ _ ?_
  try clear h1 K_h1
  refine T.seq_k (fun K_h1 h1 => ?_)
  cases hf : fewtB 200 l with
  | false =>
    refine T.seq_k (fun K_h0 h0 => ?_)
    refine T.regi hm ?_
    simp only [↓reduceIte, namesOf, List.any, I.names, aops, aopsI, aopsT, qstep, CPt, qget, Tbl.get, astep, ev, setd, List.set, List.getD, List.getElem?_cons_zero, List.getElem?_cons_succ, List.getElem?_nil, List.cons_append, List.nil_append, List.length_cons, List.length_nil, List.replicate, then_normal, inBlock_normal, Option.getD_some, Option.getD_none, Bool.or_false, Bool.or_true, Bool.true_or, Bool.false_or, Bool.false_eq_true, if_false, if_true, up_zero, Nat.reduceAdd, Nat.reduceSub, binv, ↓opt_def, AV.isAny, AV.cells, ldc, List.map_cons, List.map_nil, St.set_next, St.set_same, St.up_next, Int.natCast_nonneg, lt_len, le_len, Int.toNat_natCast, true_and, and_true, eq_self, reduceCtorEq, decide_true, List.length_singleton, er_int, er_bool, er_str, Bool.not_false]
    refine h0 _ _ ?_
    try clear h0 K_h0
    refine T.cond rfl (fun _ => ?_) (fun h => by cases h)
    refine T.seq_k (fun K_h0 h0 => ?_)
    refine T.regi hm ?_
    simp only [↓reduceIte, namesOf, List.any, I.names, aops, aopsI, aopsT, qstep, CPt, qget, Tbl.get, astep, ev, setd, List.set, List.getD, List.getElem?_cons_zero, List.getElem?_cons_succ, List.getElem?_nil, List.cons_append, List.nil_append, List.length_cons, List.length_nil, List.replicate, then_normal, inBlock_normal, Option.getD_some, Option.getD_none, Bool.or_false, Bool.or_true, Bool.true_or, Bool.false_or, Bool.false_eq_true, if_false, if_true, up_zero, Nat.reduceAdd, Nat.reduceSub, binv, ↓opt_def, AV.isAny, AV.cells, ldc, List.map_cons, List.map_nil, St.set_next, St.set_same, St.up_next, Int.natCast_nonneg, lt_len, le_len, Int.toNat_natCast, true_and, and_true, eq_self, reduceCtorEq, decide_true, List.length_singleton, er_int, er_bool, er_str]
    refine h0 _ _ ?_
    try clear h0 K_h0
    exact T.ret (Fin.ret rfl ⟨rfl, rfl⟩)
  | true =>
  refine T.seq_k (fun K_h0 h0 => ?_)
  refine T.regi hm ?_
  simp only [↓reduceIte, namesOf, List.any, I.names, aops, aopsI, aopsT, qstep, CPt, qget, Tbl.get, astep, ev, setd, List.set, List.getD, List.getElem?_cons_zero, List.getElem?_cons_succ, List.getElem?_nil, List.cons_append, List.nil_append, List.length_cons, List.length_nil, List.replicate, then_normal, inBlock_normal, Option.getD_some, Option.getD_none, Bool.or_false, Bool.or_true, Bool.true_or, Bool.false_or, Bool.false_eq_true, if_false, if_true, up_zero, Nat.reduceAdd, Nat.reduceSub, binv, ↓opt_def, AV.isAny, AV.cells, ldc, List.map_cons, List.map_nil, St.set_next, St.set_same, St.up_next, Int.natCast_nonneg, lt_len, le_len, Int.toNat_natCast, true_and, and_true, eq_self, reduceCtorEq, decide_true, List.length_singleton, er_int, er_bool, er_str, Bool.not_true]
  refine h0 _ _ ?_
  try clear h0 K_h0
  refine T.cond rfl (fun h => by cases h) (fun _ => T.skip ?_)
  refine h1 _ _ ?_
  try clear h1 K_h1
  obtain ⟨f1, f2⟩ := fewt_facts hf
  refine T.seq_k (fun K_h1 h1 => ?_)
  refine T.regi hm ?_
  simp only [↓reduceIte, namesOf, List.any, I.names, aops, aopsI, aopsT, qstep, CPt, qget, Tbl.get, astep, ev, setd, List.set, List.getD, List.getElem?_cons_zero, List.getElem?_cons_succ, List.getElem?_nil, List.cons_append, List.nil_append, List.length_cons, List.length_nil, List.replicate, then_normal, inBlock_normal, Option.getD_some, Option.getD_none, Bool.or_false, Bool.or_true, Bool.true_or, Bool.false_or, Bool.false_eq_true, if_false, if_true, up_zero, Nat.reduceAdd, Nat.reduceSub, binv, ↓opt_def, AV.isAny, AV.cells, ldc, List.map_cons, List.map_nil, St.set_next, St.set_same, St.up_next, Int.natCast_nonneg, lt_len, le_len, Int.toNat_natCast, true_and, and_true, eq_self, reduceCtorEq, decide_true, List.length_singleton, er_int, er_bool, er_str]
  refine (pgcut_ok (by omega) hs).mono ?_
  rintro v σ3 ⟨rfl, rfl⟩
  cases hc : cutOk l most with
  | false =>
    rw [if_neg (by simp)]
    try simp only [↓reduceIte, namesOf, List.any, I.names, aops, aopsI, aopsT, qstep, CPt, qget, Tbl.get, astep, ev, setd, List.set, List.getD, List.getElem?_cons_zero, List.getElem?_cons_succ, List.getElem?_nil, List.cons_append, List.nil_append, List.length_cons, List.length_nil, List.replicate, then_normal, inBlock_normal, Option.getD_some, Option.getD_none, Bool.or_false, Bool.or_true, Bool.true_or, Bool.false_or, Bool.false_eq_true, if_false, if_true, up_zero, Nat.reduceAdd, Nat.reduceSub, binv, ↓opt_def, AV.isAny, AV.cells, ldc, List.map_cons, List.map_nil, St.set_next, St.set_same, St.up_next, Int.natCast_nonneg, lt_len, le_len, Int.toNat_natCast, true_and, and_true, eq_self, reduceCtorEq, decide_true, List.length_singleton, er_int, er_bool, er_str, up_zero]
    refine h1 _ _ ?_
    try clear h1 K_h1
    refine T.seq_k (fun K_h1 h1 => ?_)
    refine T.regi hm ?_
    simp only [↓reduceIte, namesOf, List.any, I.names, aops, aopsI, aopsT, qstep, CPt, qget, Tbl.get, astep, ev, setd, List.set, List.getD, List.getElem?_cons_zero, List.getElem?_cons_succ, List.getElem?_nil, List.cons_append, List.nil_append, List.length_cons, List.length_nil, List.replicate, then_normal, inBlock_normal, Option.getD_some, Option.getD_none, Bool.or_false, Bool.or_true, Bool.true_or, Bool.false_or, Bool.false_eq_true, if_false, if_true, up_zero, Nat.reduceAdd, Nat.reduceSub, binv, ↓opt_def, AV.isAny, AV.cells, ldc, List.map_cons, List.map_nil, St.set_next, St.set_same, St.up_next, Int.natCast_nonneg, lt_len, le_len, Int.toNat_natCast, true_and, and_true, eq_self, reduceCtorEq, decide_true, List.length_singleton, er_int, er_bool, er_str]
    refine (ris_ok hl hs).mono ?_
    rintro v σ4 ⟨rfl, rfl⟩
    rw [← is_doc]
    try simp only [↓reduceIte, namesOf, List.any, I.names, aops, aopsI, aopsT, qstep, CPt, qget, Tbl.get, astep, ev, setd, List.set, List.getD, List.getElem?_cons_zero, List.getElem?_cons_succ, List.getElem?_nil, List.cons_append, List.nil_append, List.length_cons, List.length_nil, List.replicate, then_normal, inBlock_normal, Option.getD_some, Option.getD_none, Bool.or_false, Bool.or_true, Bool.true_or, Bool.false_or, Bool.false_eq_true, if_false, if_true, up_zero, Nat.reduceAdd, Nat.reduceSub, binv, ↓opt_def, AV.isAny, AV.cells, ldc, List.map_cons, List.map_nil, St.set_next, St.set_same, St.up_next, Int.natCast_nonneg, lt_len, le_len, Int.toNat_natCast, true_and, and_true, eq_self, reduceCtorEq, decide_true, List.length_singleton, er_int, er_bool, er_str, up_zero]
    refine h1 _ _ ?_
    try clear h1 K_h1
    refine T.seq_k (fun K_h1 h1 => ?_)
    cases his : isB l with
    | false =>
      refine T.seq_k (fun K_h0 h0 => ?_)
      refine T.regi hm ?_
      simp only [↓reduceIte, namesOf, List.any, I.names, aops, aopsI, aopsT, qstep, CPt, qget, Tbl.get, astep, ev, setd, List.set, List.getD, List.getElem?_cons_zero, List.getElem?_cons_succ, List.getElem?_nil, List.cons_append, List.nil_append, List.length_cons, List.length_nil, List.replicate, then_normal, inBlock_normal, Option.getD_some, Option.getD_none, Bool.or_false, Bool.or_true, Bool.true_or, Bool.false_or, Bool.false_eq_true, if_false, if_true, up_zero, Nat.reduceAdd, Nat.reduceSub, binv, ↓opt_def, AV.isAny, AV.cells, ldc, List.map_cons, List.map_nil, St.set_next, St.set_same, St.up_next, Int.natCast_nonneg, lt_len, le_len, Int.toNat_natCast, true_and, and_true, eq_self, reduceCtorEq, decide_true, List.length_singleton, er_int, er_bool, er_str, Bool.not_false]
      refine h0 _ _ ?_
      try clear h0 K_h0
      refine T.cond rfl (fun _ => ?_) (fun h => by cases h)
      refine T.seq_k (fun K_h0 h0 => ?_)
      refine T.regi hm ?_
      simp only [↓reduceIte, namesOf, List.any, I.names, aops, aopsI, aopsT, qstep, CPt, qget, Tbl.get, astep, ev, setd, List.set, List.getD, List.getElem?_cons_zero, List.getElem?_cons_succ, List.getElem?_nil, List.cons_append, List.nil_append, List.length_cons, List.length_nil, List.replicate, then_normal, inBlock_normal, Option.getD_some, Option.getD_none, Bool.or_false, Bool.or_true, Bool.true_or, Bool.false_or, Bool.false_eq_true, if_false, if_true, up_zero, Nat.reduceAdd, Nat.reduceSub, binv, ↓opt_def, AV.isAny, AV.cells, ldc, List.map_cons, List.map_nil, St.set_next, St.set_same, St.up_next, Int.natCast_nonneg, lt_len, le_len, Int.toNat_natCast, true_and, and_true, eq_self, reduceCtorEq, decide_true, List.length_singleton, er_int, er_bool, er_str, eqIv, List.any_cons, beq_self_eq_true, Bool.and_self, Bool.true_or, Bool.bne_false]
      refine h0 _ _ ?_
      try clear h0 K_h0
      exact T.ret (Fin.ret rfl ⟨rfl, rfl⟩)
    | true =>
      unfold cutOk at hc
      rw [his, Bool.true_and, decide_eq_false_iff_not] at hc
      by_cases c1 : most < 64
      · have e1 : decide (most < 64) = true := decide_eq_true c1
        refine T.seq_k (fun K_h0 h0 => ?_)
        refine T.regi hm ?_
        simp only [↓reduceIte, namesOf, List.any, I.names, aops, aopsI, aopsT, qstep, CPt, qget, Tbl.get, astep, ev, setd, List.set, List.getD, List.getElem?_cons_zero, List.getElem?_cons_succ, List.getElem?_nil, List.cons_append, List.nil_append, List.length_cons, List.length_nil, List.replicate, then_normal, inBlock_normal, Option.getD_some, Option.getD_none, Bool.or_false, Bool.or_true, Bool.true_or, Bool.false_or, Bool.false_eq_true, if_false, if_true, up_zero, Nat.reduceAdd, Nat.reduceSub, binv, ↓opt_def, AV.isAny, AV.cells, ldc, List.map_cons, List.map_nil, St.set_next, St.set_same, St.up_next, Int.natCast_nonneg, lt_len, le_len, Int.toNat_natCast, true_and, and_true, eq_self, reduceCtorEq, decide_true, List.length_singleton, er_int, er_bool, er_str, Bool.not_true, e1]
        refine h0 _ _ ?_
        try clear h0 K_h0
        refine T.cond rfl (fun _ => ?_) (fun h => by cases h)
        refine T.seq_k (fun K_h0 h0 => ?_)
        refine T.regi hm ?_
        simp only [↓reduceIte, namesOf, List.any, I.names, aops, aopsI, aopsT, qstep, CPt, qget, Tbl.get, astep, ev, setd, List.set, List.getD, List.getElem?_cons_zero, List.getElem?_cons_succ, List.getElem?_nil, List.cons_append, List.nil_append, List.length_cons, List.length_nil, List.replicate, then_normal, inBlock_normal, Option.getD_some, Option.getD_none, Bool.or_false, Bool.or_true, Bool.true_or, Bool.false_or, Bool.false_eq_true, if_false, if_true, up_zero, Nat.reduceAdd, Nat.reduceSub, binv, ↓opt_def, AV.isAny, AV.cells, ldc, List.map_cons, List.map_nil, St.set_next, St.set_same, St.up_next, Int.natCast_nonneg, lt_len, le_len, Int.toNat_natCast, true_and, and_true, eq_self, reduceCtorEq, decide_true, List.length_singleton, er_int, er_bool, er_str, eqIv, List.any_cons, beq_self_eq_true, Bool.and_self, Bool.true_or, Bool.bne_false]
        refine h0 _ _ ?_
        try clear h0 K_h0
        exact T.ret (Fin.ret rfl ⟨rfl, rfl⟩)
      · have e1 : decide (most < 64) = false := decide_eq_false c1
        have e2 : decide (most > 8192) = true := decide_eq_true (by omega)
        refine T.seq_k (fun K_h0 h0 => ?_)
        refine T.regi hm ?_
        simp only [↓reduceIte, namesOf, List.any, I.names, aops, aopsI, aopsT, qstep, CPt, qget, Tbl.get, astep, ev, setd, List.set, List.getD, List.getElem?_cons_zero, List.getElem?_cons_succ, List.getElem?_nil, List.cons_append, List.nil_append, List.length_cons, List.length_nil, List.replicate, then_normal, inBlock_normal, Option.getD_some, Option.getD_none, Bool.or_false, Bool.or_true, Bool.true_or, Bool.false_or, Bool.false_eq_true, if_false, if_true, up_zero, Nat.reduceAdd, Nat.reduceSub, binv, ↓opt_def, AV.isAny, AV.cells, ldc, List.map_cons, List.map_nil, St.set_next, St.set_same, St.up_next, Int.natCast_nonneg, lt_len, le_len, Int.toNat_natCast, true_and, and_true, eq_self, reduceCtorEq, decide_true, List.length_singleton, er_int, er_bool, er_str, Bool.not_true, e1, e2]
        refine h0 _ _ ?_
        try clear h0 K_h0
        refine T.cond rfl (fun _ => ?_) (fun h => by cases h)
        refine T.seq_k (fun K_h0 h0 => ?_)
        refine T.regi hm ?_
        simp only [↓reduceIte, namesOf, List.any, I.names, aops, aopsI, aopsT, qstep, CPt, qget, Tbl.get, astep, ev, setd, List.set, List.getD, List.getElem?_cons_zero, List.getElem?_cons_succ, List.getElem?_nil, List.cons_append, List.nil_append, List.length_cons, List.length_nil, List.replicate, then_normal, inBlock_normal, Option.getD_some, Option.getD_none, Bool.or_false, Bool.or_true, Bool.true_or, Bool.false_or, Bool.false_eq_true, if_false, if_true, up_zero, Nat.reduceAdd, Nat.reduceSub, binv, ↓opt_def, AV.isAny, AV.cells, ldc, List.map_cons, List.map_nil, St.set_next, St.set_same, St.up_next, Int.natCast_nonneg, lt_len, le_len, Int.toNat_natCast, true_and, and_true, eq_self, reduceCtorEq, decide_true, List.length_singleton, er_int, er_bool, er_str, eqIv, List.any_cons, beq_self_eq_true, Bool.and_self, Bool.true_or, Bool.bne_false]
        refine h0 _ _ ?_
        try clear h0 K_h0
        exact T.ret (Fin.ret rfl ⟨rfl, rfl⟩)
  | true =>
    rw [if_pos rfl]
    unfold cutOk at hc
    simp only [Bool.and_eq_true, decide_eq_true_eq] at hc
    obtain ⟨his, c1, c2⟩ := hc
    have e1 : decide (most < 64) = false := decide_eq_false (by omega)
    have e2 : decide (most > 8192) = false := decide_eq_false (by omega)
    have hp : ∀ t ∈ l, PgT t := fun t ht => by
      obtain ⟨o1, _, o3⟩ := one_facts (is_each his ht)
      exact ⟨(hw t ht).1, o3, fun s hs => ⟨List.all_eq_true.1 o1 s hs, (hw t ht).2 s hs⟩⟩
    try simp only [↓reduceIte, namesOf, List.any, I.names, aops, aopsI, aopsT, qstep, CPt, qget, Tbl.get, astep, ev, setd, List.set, List.getD, List.getElem?_cons_zero, List.getElem?_cons_succ, List.getElem?_nil, List.cons_append, List.nil_append, List.length_cons, List.length_nil, List.replicate, then_normal, inBlock_normal, Option.getD_some, Option.getD_none, Bool.or_false, Bool.or_true, Bool.true_or, Bool.false_or, Bool.false_eq_true, if_false, if_true, up_zero, Nat.reduceAdd, Nat.reduceSub, binv, ↓opt_def, AV.isAny, AV.cells, ldc, List.map_cons, List.map_nil, St.set_next, St.set_same, St.up_next, Int.natCast_nonneg, lt_len, le_len, Int.toNat_natCast, true_and, and_true, eq_self, reduceCtorEq, decide_true, List.length_singleton, er_int, er_bool, er_str, up_zero]
    refine h1 _ _ ?_
    try clear h1 K_h1
    refine T.seq_k (fun K_h1 h1 => ?_)
    refine T.regi hm ?_
    simp only [↓reduceIte, namesOf, List.any, I.names, aops, aopsI, aopsT, qstep, CPt, qget, Tbl.get, astep, ev, setd, List.set, List.getD, List.getElem?_cons_zero, List.getElem?_cons_succ, List.getElem?_nil, List.cons_append, List.nil_append, List.length_cons, List.length_nil, List.replicate, then_normal, inBlock_normal, Option.getD_some, Option.getD_none, Bool.or_false, Bool.or_true, Bool.true_or, Bool.false_or, Bool.false_eq_true, if_false, if_true, up_zero, Nat.reduceAdd, Nat.reduceSub, binv, ↓opt_def, AV.isAny, AV.cells, ldc, List.map_cons, List.map_nil, St.set_next, St.set_same, St.up_next, Int.natCast_nonneg, lt_len, le_len, Int.toNat_natCast, true_and, and_true, eq_self, reduceCtorEq, decide_true, List.length_singleton, er_int, er_bool, er_str]
    refine (ris_ok hl hs).mono ?_
    rintro v σ4 ⟨rfl, rfl⟩
    rw [← is_doc, his]
    try simp only [↓reduceIte, namesOf, List.any, I.names, aops, aopsI, aopsT, qstep, CPt, qget, Tbl.get, astep, ev, setd, List.set, List.getD, List.getElem?_cons_zero, List.getElem?_cons_succ, List.getElem?_nil, List.cons_append, List.nil_append, List.length_cons, List.length_nil, List.replicate, then_normal, inBlock_normal, Option.getD_some, Option.getD_none, Bool.or_false, Bool.or_true, Bool.true_or, Bool.false_or, Bool.false_eq_true, if_false, if_true, up_zero, Nat.reduceAdd, Nat.reduceSub, binv, ↓opt_def, AV.isAny, AV.cells, ldc, List.map_cons, List.map_nil, St.set_next, St.set_same, St.up_next, Int.natCast_nonneg, lt_len, le_len, Int.toNat_natCast, true_and, and_true, eq_self, reduceCtorEq, decide_true, List.length_singleton, er_int, er_bool, er_str, up_zero]
    refine h1 _ _ ?_
    try clear h1 K_h1
    refine T.seq_k (fun K_h1 h1 => ?_)
    refine T.seq_k (fun K_h0 h0 => ?_)
    refine T.regi hm ?_
    simp only [↓reduceIte, namesOf, List.any, I.names, aops, aopsI, aopsT, qstep, CPt, qget, Tbl.get, astep, ev, setd, List.set, List.getD, List.getElem?_cons_zero, List.getElem?_cons_succ, List.getElem?_nil, List.cons_append, List.nil_append, List.length_cons, List.length_nil, List.replicate, then_normal, inBlock_normal, Option.getD_some, Option.getD_none, Bool.or_false, Bool.or_true, Bool.true_or, Bool.false_or, Bool.false_eq_true, if_false, if_true, up_zero, Nat.reduceAdd, Nat.reduceSub, binv, ↓opt_def, AV.isAny, AV.cells, ldc, List.map_cons, List.map_nil, St.set_next, St.set_same, St.up_next, Int.natCast_nonneg, lt_len, le_len, Int.toNat_natCast, true_and, and_true, eq_self, reduceCtorEq, decide_true, List.length_singleton, er_int, er_bool, er_str, Bool.not_true, e1, e2]
    refine h0 _ _ ?_
    try clear h0 K_h0
    refine T.cond rfl (fun h => by cases h) (fun _ => T.skip ?_)
    refine h1 _ _ ?_
    try clear h1 K_h1
    refine T.seq_k (fun K_h1 h1 => ?_)
    refine T.regi hm ?_
    simp only [↓reduceIte, namesOf, List.any, I.names, aops, aopsI, aopsT, qstep, CPt, qget, Tbl.get, astep, ev, setd, List.set, List.getD, List.getElem?_cons_zero, List.getElem?_cons_succ, List.getElem?_nil, List.cons_append, List.nil_append, List.length_cons, List.length_nil, List.replicate, then_normal, inBlock_normal, Option.getD_some, Option.getD_none, Bool.or_false, Bool.or_true, Bool.true_or, Bool.false_or, Bool.false_eq_true, if_false, if_true, up_zero, Nat.reduceAdd, Nat.reduceSub, binv, ↓opt_def, AV.isAny, AV.cells, ldc, List.map_cons, List.map_nil, St.set_next, St.set_same, St.up_next, Int.natCast_nonneg, lt_len, le_len, Int.toNat_natCast, true_and, and_true, eq_self, reduceCtorEq, decide_true, List.length_singleton, er_int, er_bool, er_str]
    refine (rcut_ok (n := l.length) (Nat.le_refl _) (by omega) hp).mono ?_
    rintro v σ5 ⟨rfl, rfl⟩
    try simp only [↓reduceIte, namesOf, List.any, I.names, aops, aopsI, aopsT, qstep, CPt, qget, Tbl.get, astep, ev, setd, List.set, List.getD, List.getElem?_cons_zero, List.getElem?_cons_succ, List.getElem?_nil, List.cons_append, List.nil_append, List.length_cons, List.length_nil, List.replicate, then_normal, inBlock_normal, Option.getD_some, Option.getD_none, Bool.or_false, Bool.or_true, Bool.true_or, Bool.false_or, Bool.false_eq_true, if_false, if_true, up_zero, Nat.reduceAdd, Nat.reduceSub, binv, ↓opt_def, AV.isAny, AV.cells, ldc, List.map_cons, List.map_nil, St.set_next, St.set_same, St.up_next, Int.natCast_nonneg, lt_len, le_len, Int.toNat_natCast, true_and, and_true, eq_self, reduceCtorEq, decide_true, List.length_singleton, er_int, er_bool, er_str, up_zero]
    refine h1 _ _ ?_
    try clear h1 K_h1
    have hcl := cutG_len (most := most) (l := l) (part := [])
    rw [if_pos rfl] at hcl
    have hcm : ∀ p ∈ cutG most l [], p.length ≤ 9223372036854775807 ∧ ∀ t ∈ p, t.sp.length ≤ 9223372036854775807 := fun p hp => by
      refine ⟨?_, fun t ht => hs t (cutG_mem hp ht)⟩
      have := (cut_parts (most := most) (l := l) (part := []) (by simp) (.inr (by simp)) p hp).2.1
      omega
    generalize cutG most l [] = parts at hcl hcm ⊢
    have e3 : (((parts.length : Nat) : Int) != (parts.length : Nat)) = false := by simp
    refine T.seq_k (fun K_h1 h1 => ?_)
    refine T.seq_k (fun K_h0 h0 => ?_)
    refine T.regi hm ?_
    simp only [↓reduceIte, namesOf, List.any, I.names, aops, aopsI, aopsT, qstep, CPt, qget, Tbl.get, astep, ev, setd, List.set, List.getD, List.getElem?_cons_zero, List.getElem?_cons_succ, List.getElem?_nil, List.cons_append, List.nil_append, List.length_cons, List.length_nil, List.replicate, then_normal, inBlock_normal, Option.getD_some, Option.getD_none, Bool.or_false, Bool.or_true, Bool.true_or, Bool.false_or, Bool.false_eq_true, if_false, if_true, up_zero, Nat.reduceAdd, Nat.reduceSub, binv, ↓opt_def, AV.isAny, AV.cells, ldc, List.map_cons, List.map_nil, St.set_next, St.set_same, St.up_next, Int.natCast_nonneg, lt_len, le_len, Int.toNat_natCast, true_and, and_true, eq_self, reduceCtorEq, decide_true, List.length_singleton, er_int, er_bool, er_str, eqIv, bne_self_eq_false, pgs_len, e3]
    refine h0 _ _ ?_
    try clear h0 K_h0
    refine T.cond rfl (fun h => by cases h) (fun _ => T.skip ?_)
    refine h1 _ _ ?_
    try clear h1 K_h1
    refine T.seq_k (fun K_h1 h1 => ?_)
    refine T.seq_k (fun K_h0 h0 => ?_)
    refine T.regi hm ?_
    simp only [↓reduceIte, namesOf, List.any, I.names, aops, aopsI, aopsT, qstep, CPt, qget, Tbl.get, astep, ev, setd, List.set, List.getD, List.getElem?_cons_zero, List.getElem?_cons_succ, List.getElem?_nil, List.cons_append, List.nil_append, List.length_cons, List.length_nil, List.replicate, then_normal, inBlock_normal, Option.getD_some, Option.getD_none, Bool.or_false, Bool.or_true, Bool.true_or, Bool.false_or, Bool.false_eq_true, if_false, if_true, up_zero, Nat.reduceAdd, Nat.reduceSub, binv, ↓opt_def, AV.isAny, AV.cells, ldc, List.map_cons, List.map_nil, St.set_next, St.set_same, St.up_next, Int.natCast_nonneg, lt_len, le_len, Int.toNat_natCast, true_and, and_true, eq_self, reduceCtorEq, decide_true, List.length_singleton, er_int, er_bool, er_str]
    refine h0 _ _ ?_
    try clear h0 K_h0
    refine T.block ?_
    refine T.gh (Gh.keep [5, 7, 10, 11]) ?_
    refine T.loopi (fun i ρ t => t = σ5 ∧ ρ = [.any, .any, .any, .any, .any, .bool true, .any, .sl (pgsAV parts) .none, .any, .any, .sl (pgsAV parts) .none, .int .i64 (i : Int)] ++ List.replicate 64 .any)
      parts.length 0 (Nat.zero_le _) ⟨rfl, rfl⟩ ?_
    rintro i ρ t hi ⟨rfl, rfl⟩
    refine T.seq_k (fun K_h2 h2 => ?_)
    by_cases hil : i < parts.length
    case neg =>
      have e4 : decide (i < parts.length) = false := decide_eq_false (by omega)
      refine T.seq_k (fun K_h0 h0 => ?_)
      refine T.regi hm ?_
      simp only [↓reduceIte, namesOf, List.any, I.names, aops, aopsI, aopsT, qstep, CPt, qget, Tbl.get, astep, ev, setd, List.set, List.getD, List.getElem?_cons_zero, List.getElem?_cons_succ, List.getElem?_nil, List.cons_append, List.nil_append, List.length_cons, List.length_nil, List.replicate, then_normal, inBlock_normal, Option.getD_some, Option.getD_none, Bool.or_false, Bool.or_true, Bool.true_or, Bool.false_or, Bool.false_eq_true, if_false, if_true, up_zero, Nat.reduceAdd, Nat.reduceSub, binv, ↓opt_def, AV.isAny, AV.cells, ldc, List.map_cons, List.map_nil, St.set_next, St.set_same, St.up_next, Int.natCast_nonneg, lt_len, le_len, Int.toNat_natCast, true_and, and_true, eq_self, reduceCtorEq, decide_true, List.length_singleton, er_int, er_bool, er_str, pgs_len, e4]
      refine h0 _ _ ?_
      try clear h0 K_h0
      refine T.cond rfl (fun h => by cases h) (fun _ => T.exit ?_)
      try simp only [↓reduceIte, namesOf, List.any, I.names, aops, aopsI, aopsT, qstep, CPt, qget, Tbl.get, astep, ev, setd, List.set, List.getD, List.getElem?_cons_zero, List.getElem?_cons_succ, List.getElem?_nil, List.cons_append, List.nil_append, List.length_cons, List.length_nil, List.replicate, then_normal, inBlock_normal, Option.getD_some, Option.getD_none, Bool.or_false, Bool.or_true, Bool.true_or, Bool.false_or, Bool.false_eq_true, if_false, if_true, up_zero, Nat.reduceAdd, Nat.reduceSub, binv, ↓opt_def, AV.isAny, AV.cells, ldc, List.map_cons, List.map_nil, St.set_next, St.set_same, St.up_next, Int.natCast_nonneg, lt_len, le_len, Int.toNat_natCast, true_and, and_true, eq_self, reduceCtorEq, decide_true, List.length_singleton, er_int, er_bool, er_str, inBlock_exit, then_exit]
      refine h1 _ _ ?_
      try clear h1 K_h1
      refine T.seq_k (fun K_h0 h0 => ?_)
      refine T.regi hm ?_
      simp only [↓reduceIte, namesOf, List.any, I.names, aops, aopsI, aopsT, qstep, CPt, qget, Tbl.get, astep, ev, setd, List.set, List.getD, List.getElem?_cons_zero, List.getElem?_cons_succ, List.getElem?_nil, List.cons_append, List.nil_append, List.length_cons, List.length_nil, List.replicate, then_normal, inBlock_normal, Option.getD_some, Option.getD_none, Bool.or_false, Bool.or_true, Bool.true_or, Bool.false_or, Bool.false_eq_true, if_false, if_true, up_zero, Nat.reduceAdd, Nat.reduceSub, binv, ↓opt_def, AV.isAny, AV.cells, ldc, List.map_cons, List.map_nil, St.set_next, St.set_same, St.up_next, Int.natCast_nonneg, lt_len, le_len, Int.toNat_natCast, true_and, and_true, eq_self, reduceCtorEq, decide_true, List.length_singleton, er_int, er_bool, er_str]
      refine h0 _ _ ?_
      try clear h0 K_h0
      exact T.ret (Fin.ret rfl ⟨rfl, rfl⟩)
    have e4 : decide (i < parts.length) = true := decide_eq_true hil
    have hiw := inc64' hil (by omega)
    obtain ⟨m1, m2⟩ := hcm _ (List.getElem_mem hil)
    refine T.seq_k (fun K_h0 h0 => ?_)
    refine T.regi hm ?_
    simp only [↓reduceIte, namesOf, List.any, I.names, aops, aopsI, aopsT, qstep, CPt, qget, Tbl.get, astep, ev, setd, List.set, List.getD, List.getElem?_cons_zero, List.getElem?_cons_succ, List.getElem?_nil, List.cons_append, List.nil_append, List.length_cons, List.length_nil, List.replicate, then_normal, inBlock_normal, Option.getD_some, Option.getD_none, Bool.or_false, Bool.or_true, Bool.true_or, Bool.false_or, Bool.false_eq_true, if_false, if_true, up_zero, Nat.reduceAdd, Nat.reduceSub, binv, ↓opt_def, AV.isAny, AV.cells, ldc, List.map_cons, List.map_nil, St.set_next, St.set_same, St.up_next, Int.natCast_nonneg, lt_len, le_len, Int.toNat_natCast, true_and, and_true, eq_self, reduceCtorEq, decide_true, List.length_singleton, er_int, er_bool, er_str, pgs_len, e4]
    refine h0 _ _ ?_
    try clear h0 K_h0
    refine T.cond rfl (fun _ => T.skip ?_) (fun h => by cases h)
    refine h2 _ _ ?_
    try clear h2 K_h2
    refine T.seq_k (fun K_h2 h2 => ?_)
    refine T.block ?_
    refine T.seq_k (fun K_h3 h3 => ?_)
    refine T.regt hm (tbl := []) Tbl.ok_nil ?_
    try simp only [↓reduceIte, namesOf, List.any, I.names, aops, aopsI, aopsT, qstep, CPt, qget, Tbl.get, astep, ev, setd, List.set, List.getD, List.getElem?_cons_zero, List.getElem?_cons_succ, List.getElem?_nil, List.cons_append, List.nil_append, List.length_cons, List.length_nil, List.replicate, then_normal, inBlock_normal, Option.getD_some, Option.getD_none, Bool.or_false, Bool.or_true, Bool.true_or, Bool.false_or, Bool.false_eq_true, if_false, if_true, up_zero, Nat.reduceAdd, Nat.reduceSub, binv, ↓opt_def, AV.isAny, AV.cells, ldc, List.map_cons, List.map_nil, St.set_next, St.set_same, St.up_next, Int.natCast_nonneg, lt_len, le_len, Int.toNat_natCast, true_and, and_true, eq_self, reduceCtorEq, decide_true, List.length_singleton, er_int, er_bool, er_str, pgs_len, pgs_get hil, hil, AV.fits, AV.one, List.all_cons, List.all_nil, Nat.reduceBEq, Bool.and_true, Bool.not_false, Bool.and_self, Nat.zero_add, splice, List.take, List.drop, Nat.reduceLeDiff]
    refine ⟨_, rtraces_ok m1 m2, ?_⟩
    try simp only [↓reduceIte, namesOf, List.any, I.names, aops, aopsI, aopsT, qstep, CPt, qget, Tbl.get, astep, ev, setd, List.set, List.getD, List.getElem?_cons_zero, List.getElem?_cons_succ, List.getElem?_nil, List.cons_append, List.nil_append, List.length_cons, List.length_nil, List.replicate, then_normal, inBlock_normal, Option.getD_some, Option.getD_none, Bool.or_false, Bool.or_true, Bool.true_or, Bool.false_or, Bool.false_eq_true, if_false, if_true, up_zero, Nat.reduceAdd, Nat.reduceSub, binv, ↓opt_def, AV.isAny, AV.cells, ldc, List.map_cons, List.map_nil, St.set_next, St.set_same, St.up_next, Int.natCast_nonneg, lt_len, le_len, Int.toNat_natCast, true_and, and_true, eq_self, reduceCtorEq, decide_true, List.length_singleton, er_int, er_bool, er_str, decide_true, Bool.not_true]
    refine h3 _ _ ?_
    try clear h3 K_h3
    refine T.cond rfl (fun h => by cases h) (fun _ => T.skip ?_)
    refine h2 _ _ ?_
    try clear h2 K_h2
    refine T.regi hm ?_
    simp only [↓reduceIte, namesOf, List.any, I.names, aops, aopsI, aopsT, qstep, CPt, qget, Tbl.get, astep, ev, setd, List.set, List.getD, List.getElem?_cons_zero, List.getElem?_cons_succ, List.getElem?_nil, List.cons_append, List.nil_append, List.length_cons, List.length_nil, List.replicate, then_normal, inBlock_normal, Option.getD_some, Option.getD_none, Bool.or_false, Bool.or_true, Bool.true_or, Bool.false_or, Bool.false_eq_true, if_false, if_true, up_zero, Nat.reduceAdd, Nat.reduceSub, binv, ↓opt_def, AV.isAny, AV.cells, ldc, List.map_cons, List.map_nil, St.set_next, St.set_same, St.up_next, Int.natCast_nonneg, lt_len, le_len, Int.toNat_natCast, true_and, and_true, eq_self, reduceCtorEq, decide_true, List.length_singleton, er_int, er_bool, er_str, hiw]
    exact ⟨hil, _, _, Gh.keep [5, 7, 10, 11], rfl, rfl⟩

end Go.VL

namespace Go.VL

open Go.Proofs

theorem bytes_of {P : Program} {n : Nat} {e : TypeId} (hu : P.underlying e = some (.int .u8)) : ∀ {ys : List AV}, (∀ y ∈ ys, HasE P (n + 1) e y) → ∃ l : List UInt8, ys = bytesAV l
  | [], _ => ⟨[], rfl⟩
  | y :: r, h => by
    obtain ⟨m, rfl, h1, h2⟩ := has_int hu (h y (by simp))
    obtain ⟨l, rfl⟩ := bytes_of hu (fun z hz => h z (List.mem_cons_of_mem _ hz))
    have h1' : 0 ≤ m := h1
    have h2' : m ≤ 255 := h2
    refine ⟨UInt8.ofNat m.toNat :: l, ?_⟩
    have : ((UInt8.ofNat m.toNat).toNat : Int) = m := by
      rw [UInt8.toNat_ofNat']; omega
    simp only [bytesAV, List.map_cons, this]

def fts (P : Program) (t : TypeId) : Option (List TypeId) := match P.underlying t with
  | some (.struct fs) => some (fs.toList.map (·.type))
  | _ => none

def HasTs (P : Program) (n : Nat) : List TypeId → List AV → Prop
  | [], xs => xs = []
  | t :: r, xs => ∃ ys zs, xs = ys ++ zs ∧ HasT P n t ys ∧ HasTs P n r zs

theorem hasTs_of {P : Program} {n : Nat} : ∀ {fs : List Field} {xs : List AV}, HasF P n fs xs → HasTs P n (fs.map (·.type)) xs
  | [], xs, h => by rw [hasF_nil] at h; exact h
  | f :: r, xs, h => by
    rw [hasF_cons] at h
    obtain ⟨ys, zs, e, h1, h2⟩ := h
    exact ⟨ys, zs, e, h1, hasTs_of h2⟩

theorem has_fields {P : Program} {n : Nat} {t : TypeId} {ts : List TypeId} {y : AV} (hf : fts P t = some ts) (h : HasE P (n + 1) t y) : ∃ zs, y = .agg zs ∧ HasTs P n ts zs := by
  unfold fts at hf
  split at hf
  · rename_i fs hu
    simp only [Option.some.injEq] at hf; subst hf
    rw [hasE_iff] at h
    obtain ⟨h1, h2, _⟩ := h
    obtain ⟨zs, rfl⟩ := h2 (by unfold isStruct; rw [hu])
    rw [hasT_succ, hu] at h1
    exact ⟨zs, rfl, hasTs_of h1⟩
  · cases hf

theorem hasT_int {P : Program} {n : Nat} {t : TypeId} {k : IntKind} {xs : List AV} (hu : P.underlying t = some (.int k)) (h : HasT P (n + 1) t xs) : ∃ m, xs = [.int k m] ∧ k.min ≤ m ∧ m ≤ k.max := by
  rw [hasT_succ, hu] at h; exact h

theorem hasT_slice {P : Program} {n : Nat} {t e : TypeId} {xs : List AV} (hu : P.underlying t = some (.slice e)) (h : HasT P (n + 1) t xs) : ∃ ys, xs = [.sl ys .none] ∧ ys.length ≤ maxLen ∧ ∀ y ∈ ys, HasE P n e y := by
  rw [hasT_succ, hu] at h; exact h

theorem maxLen_eq : maxLen = 9223372036854775807 := by decide

theorem u64_nat {m : Int} (h1 : IntKind.u64.min ≤ m) (h2 : m ≤ IntKind.u64.max) : ∃ n : Nat, m = (n : Int) ∧ n < 18446744073709551616 := by
  have h1' : 0 ≤ m := h1
  have h2' : m ≤ 18446744073709551615 := h2
  exact ⟨m.toNat, by omega, by omega⟩

end Go.VL

namespace Go.Proofs.Ytmbbeldgfhnkbaa

open Go.RowKit Go.VL

theorem own : ownKnob Try.prog.godebug = none := by kernel_rfl

theorem laidOut : laidOutB Try.prog = true := by kernel_rfl

end Go.Proofs.Ytmbbeldgfhnkbaa

namespace Go.VL

open Go.Proofs

/-- a span whose numbers fit -/
def Sp.ok (s : Sp) : Prop := s.tr < 18446744073709551616 ∧ s.id < 18446744073709551616 ∧ (-9223372036854775808 ≤ s.st ∧ s.st ≤ 9223372036854775807) ∧ (-9223372036854775808 ≤ s.en ∧ s.en ≤ 9223372036854775807) ∧ s.da.length ≤ 9223372036854775807

def Tc.ok (t : Tc) : Prop := t.id < 18446744073709551616 ∧ t.sp.length ≤ 9223372036854775807 ∧ ∀ s ∈ t.sp, s.ok

/-- the numbers of the types of spans and traces -/
structure Types (P : Program) where
  u64 : TypeId
  i64 : TypeId
  bs : TypeId
  u8 : TypeId
  span : TypeId
  spans : TypeId
  trace : TypeId
  traces : TypeId
  h1 : P.underlying u64 = some (.int .u64)
  h2 : P.underlying i64 = some (.int .i64)
  h3 : P.underlying bs = some (.slice u8)
  h4 : P.underlying u8 = some (.int .u8)
  h5 : fts P span = some [u64, u64, i64, i64, bs]
  h6 : P.underlying spans = some (.slice span)
  h7 : fts P trace = some [u64, spans]
  h8 : P.underlying traces = some (.slice trace)

theorem span_of {P : Program} (T : Types P) {n : Nat} {y : AV} (h : HasE P (n + 3) T.span y) : ∃ s : Sp, y = s.av ∧ s.ok := by
  obtain ⟨zs, hy, hf⟩ := has_fields T.h5 h
  clear h
  subst hy
  have h := hf
  clear hf
  obtain ⟨y1, z1, rfl, k1, h⟩ := h
  obtain ⟨y2, z2, rfl, k2, h⟩ := h
  obtain ⟨y3, z3, rfl, k3, h⟩ := h
  obtain ⟨y4, z4, rfl, k4, h⟩ := h
  obtain ⟨y5, z5, rfl, k5, h⟩ := h
  have hz : z5 = [] := h
  subst hz
  obtain ⟨m1, rfl, a1, b1⟩ := hasT_int T.h1 k1
  obtain ⟨m2, rfl, a2, b2⟩ := hasT_int T.h1 k2
  obtain ⟨m3, rfl, a3, b3⟩ := hasT_int T.h2 k3
  obtain ⟨m4, rfl, a4, b4⟩ := hasT_int T.h2 k4
  obtain ⟨ys, rfl, hl, k5⟩ := hasT_slice T.h3 k5
  obtain ⟨da, rfl⟩ := bytes_of T.h4 k5
  obtain ⟨n1, rfl, c1⟩ := u64_nat a1 b1
  obtain ⟨n2, rfl, c2⟩ := u64_nat a2 b2
  rw [maxLen_eq, bytesAV_len] at hl
  exact ⟨⟨n1, n2, m3, m4, da⟩, rfl, c1, c2, ⟨a3, b3⟩, ⟨a4, b4⟩, hl⟩

theorem spans_of {P : Program} (T : Types P) {n : Nat} : ∀ {ys : List AV}, (∀ y ∈ ys, HasE P (n + 3) T.span y) → ∃ l : List Sp, ys = spsAV l ∧ ∀ s ∈ l, s.ok
  | [], _ => ⟨[], rfl, fun _ h => by cases h⟩
  | y :: r, h => by
    obtain ⟨s, rfl, hs⟩ := span_of T (h y (by simp))
    obtain ⟨l, rfl, hl⟩ := spans_of T (fun z hz => h z (List.mem_cons_of_mem _ hz))
    exact ⟨s :: l, rfl, fun x hx => by rcases List.mem_cons.1 hx with rfl | hx; exact hs; exact hl x hx⟩

theorem trace_of {P : Program} (T : Types P) {n : Nat} {y : AV} (h : HasE P (n + 5) T.trace y) : ∃ t : Tc, y = t.av ∧ t.ok := by
  obtain ⟨zs, hy, hf⟩ := has_fields T.h7 h
  clear h
  subst hy
  have h := hf
  clear hf
  obtain ⟨y1, z1, rfl, k1, h⟩ := h
  obtain ⟨y2, z2, rfl, k2, h⟩ := h
  have hz : z2 = [] := h
  subst hz
  obtain ⟨m1, rfl, a1, b1⟩ := hasT_int T.h1 k1
  obtain ⟨ys, rfl, hl, k2⟩ := hasT_slice T.h6 k2
  obtain ⟨l, rfl, hs⟩ := spans_of T k2
  obtain ⟨n1, rfl, c1⟩ := u64_nat a1 b1
  rw [maxLen_eq, sps_len] at hl
  exact ⟨⟨n1, l⟩, rfl, c1, hl, hs⟩

theorem traces_of {P : Program} (T : Types P) {n : Nat} : ∀ {ys : List AV}, (∀ y ∈ ys, HasE P (n + 5) T.trace y) → ∃ l : List Tc, ys = tcsAV l ∧ ∀ t ∈ l, t.ok
  | [], _ => ⟨[], rfl, fun _ h => by cases h⟩
  | y :: r, h => by
    obtain ⟨s, rfl, hs⟩ := trace_of T (h y (by simp))
    obtain ⟨l, rfl, hl⟩ := traces_of T (fun z hz => h z (List.mem_cons_of_mem _ hz))
    exact ⟨s :: l, rfl, fun x hx => by rcases List.mem_cons.1 hx with rfl | hx; exact hs; exact hl x hx⟩

end Go.VL

namespace Go.VL

open Go.Proofs

set_option maxRecDepth 100000 in
def tys : Types Try.prog := ⟨51, 2, 34, 5, 53, 47, 95, 22, by kernel_rfl, by kernel_rfl, by kernel_rfl, by kernel_rfl, by kernel_rfl, by kernel_rfl, by kernel_rfl, by kernel_rfl⟩

end Go.VL

namespace Go.Proofs.Ytmbbeldgfhnkbaa

open Go.ChangeShapes Go.WideShapes Go.ChangeAt Go.RowKit Go.VL

set_option maxRecDepth 100000 in
theorem pageCuts_lifted (os : Os) (started : os.Started) (H : Type) (enc : TypeId × Value → H) :
    ReturnsInHanded {} Try.checked os n_pageCuts .any (Rows.pageCutsSpec.pre6 enc Try.prog Try.f3 Rows.pageCutsRow.domain false) (Rows.pageCutsSpec.post enc Try.prog Try.f3 false true false false) := by
  refine returnsInHanded_of_change (C := Try.checked) own started (by kernel_rfl) Try.func3
    (ChangeSpec.witness6 (enc := enc) (C := Try.checked) false ⟨#[], #[.slice none 0 0, .int .i64 0], []⟩ 8 (by kernel_rfl) (by kernel_rfl) (by kernel_rfl) (by kernel_rfl)) ?_
  intro W base args ds gs before hval0 hW _ _
  refine law_calls 6 (tb := 4) laidOut (by kernel_rfl) rfl (by kernel_rfl) (by kernel_rfl) (fun ds hds => ?_) (fun xs hxs => ?_) hval0 hW
  · match ds, hds with
    | [_d1, _d2], _ => rfl
  · have hxs' : HasAll Try.prog 6 [_, _] xs := hxs
    cases hxs' with
    | cons h1 r1 =>
    cases r1 with
    | cons h2 r2 =>
    cases r2
    obtain ⟨ys, rfl, hlen, h1⟩ := has_slice tys.h8 h1
    obtain ⟨l, rfl, hl⟩ := traces_of tys h1
    obtain ⟨m, rfl, _⟩ := has_int (k := .i64) (t := 3) (by kernel_rfl) h2
    rw [maxLen_eq, tcs_len] at hlen
    exact (pageCuts_ok hlen (fun t ht => (hl t ht).2.1) (fun t ht => ⟨(hl t ht).1, fun s hs => ⟨((hl t ht).2.2 s hs).1, ((hl t ht).2.2 s hs).2.1⟩⟩)).mono fun v _ ⟨e, _⟩ => e

theorem pageCuts_holds : Rows.PageCutsSaid :=
  OpenClaim.holds_of_wide n_pageCuts Try.f3 rfl rfl rfl rfl rfl rfl rfl ⟨rfl, rfl, rfl, rfl, rfl⟩ rfl rfl rfl rfl rfl (by kernel_rfl) Try.func3 (by kernel_rfl)
    (of_decide_eq_true (by kernel_rfl)) (by unfold Func.isWrapper; first | (rw [if_pos (by decide +kernel)]; kernel_rfl) | (rw [if_neg (by decide +kernel)]; exact ⟨rfl, rfl⟩))
    (fun os started H enc _ => pageCuts_lifted os started H enc)

end Go.Proofs.Ytmbbeldgfhnkbaa
