/- PageBack (layer 5): whatever the traces, the size, the place and the byte, the law returns true, and the arguments read as they did. Conditions: none. -/
import Derived.Test.YtmbbeldgfhnkbaaKPageBack5
import Derived.Test.YtmbbeldgfhnkbaaChecked
import Derived.Test.YtmbbeldgfhnkbaaRows

set_option linter.unusedSimpArgs false
set_option linter.unusedVariables false

namespace Go.VL

open Go.Proofs

theorem flat_sp_le {l : List Tc} (i : Nat) : ((l.take i).flatMap Tc.sp).length ≤ (l.flatMap Tc.sp).length := by
  conv => rhs; rw [← List.take_append_drop i l, List.flatMap_append, List.length_append]
  omega

set_option maxRecDepth 10000 in
set_option maxHeartbeats 1000000 in
theorem tflat_ok {l : List Tc} {g : Ver} {σ : St} (hl : l.length ≤ 1000000000) (hs : (l.flatMap Tc.sp).length ≤ 1000000000) (hd : ∀ t ∈ l, ∀ s ∈ t.sp, s.da.length ≤ 1099511627776) :
    ACalls Try.prog n_tflat [.sl (tcsAV l) g] σ (fun v σ' => v = .sl (spsAV (l.flatMap Tc.sp)) .none ∧ σ' = σ) := by
  refine s_tflat (fun wf => ?_)
  unfold c_tflat
  refine T.seq_k (fun K_h0 h0 => ?_)
  refine T.regi hm ?_
  simp only [↓reduceIte, namesOf, List.any, I.names, aops, aopsI, aopsT, qstep, CPt, qget, Tbl.get, astep, ev, setd, List.set, List.getD, List.getElem?_cons_zero, List.getElem?_cons_succ, List.getElem?_nil, List.cons_append, List.nil_append, List.length_cons, List.length_nil, List.replicate, then_normal, inBlock_normal, Option.getD_some, Option.getD_none, Bool.or_false, Bool.or_true, Bool.true_or, Bool.false_or, Bool.false_eq_true, if_false, if_true, up_zero, Nat.reduceAdd, Nat.reduceSub, binv, ↓opt_def, AV.isAny, AV.cells, ldc, List.map_cons, List.map_nil, St.set_next, St.set_same, St.up_next, Int.natCast_nonneg, lt_len, le_len, Int.toNat_natCast, true_and, and_true, eq_self, reduceCtorEq, decide_true, List.length_singleton, er_int, er_bool, er_str]
  refine h0 _ _ ?_
  try clear h0 K_h0
  refine T.seq_k (fun K_h0 h0 => ?_)
  refine T.regi hm ?_
  simp only [↓reduceIte, namesOf, List.any, I.names, aops, aopsI, aopsT, qstep, CPt, qget, Tbl.get, astep, ev, setd, List.set, List.getD, List.getElem?_cons_zero, List.getElem?_cons_succ, List.getElem?_nil, List.cons_append, List.nil_append, List.length_cons, List.length_nil, List.replicate, then_normal, inBlock_normal, Option.getD_some, Option.getD_none, Bool.or_false, Bool.or_true, Bool.true_or, Bool.false_or, Bool.false_eq_true, if_false, if_true, up_zero, Nat.reduceAdd, Nat.reduceSub, binv, ↓opt_def, AV.isAny, AV.cells, ldc, List.map_cons, List.map_nil, St.set_next, St.set_same, St.up_next, Int.natCast_nonneg, lt_len, le_len, Int.toNat_natCast, true_and, and_true, eq_self, reduceCtorEq, decide_true, List.length_singleton, er_int, er_bool, er_str]
  refine h0 _ _ ?_
  try clear h0 K_h0
  refine T.seq_k (fun K_h1 h1 => ?_)
  refine T.seq_k (fun K_h0 h0 => ?_)
  refine T.regi hm ?_
  simp only [↓reduceIte, namesOf, List.any, I.names, aops, aopsI, aopsT, qstep, CPt, qget, Tbl.get, astep, ev, setd, List.set, List.getD, List.getElem?_cons_zero, List.getElem?_cons_succ, List.getElem?_nil, List.cons_append, List.nil_append, List.length_cons, List.length_nil, List.replicate, then_normal, inBlock_normal, Option.getD_some, Option.getD_none, Bool.or_false, Bool.or_true, Bool.true_or, Bool.false_or, Bool.false_eq_true, if_false, if_true, up_zero, Nat.reduceAdd, Nat.reduceSub, binv, ↓opt_def, AV.isAny, AV.cells, ldc, List.map_cons, List.map_nil, St.set_next, St.set_same, St.up_next, Int.natCast_nonneg, lt_len, le_len, Int.toNat_natCast, true_and, and_true, eq_self, reduceCtorEq, decide_true, List.length_singleton, er_int, er_bool, er_str, tcs_len]
  refine h0 _ _ ?_
  try clear h0 K_h0
  refine T.block ?_
  refine T.gh (Gh.keep [3, 8, 9, 10]) ?_
  refine T.loopi (fun i ρ t => (∃ x G, AccG σ t 5 (spsAV ((l.take i).flatMap Tc.sp)) x G ∧ ρ = [.any, .any, .any, x, .any, .any, .any, .any, .sl (tcsAV l) g, .int .i64 (l.length : Int), .int .i64 (i : Int)] ++ List.replicate 21 .any))
    l.length 0 (Nat.zero_le _) ⟨_, none, .nil (.refl _), rfl⟩ ?_
  rintro i ρ t hi ⟨x, G, hA, rfl⟩
  refine T.seq_k (fun K_h0 h0 => ?_)
  refine T.regi hm ?_
  simp only [↓reduceIte, namesOf, List.any, I.names, aops, aopsI, aopsT, qstep, CPt, qget, Tbl.get, astep, ev, setd, List.set, List.getD, List.getElem?_cons_zero, List.getElem?_cons_succ, List.getElem?_nil, List.cons_append, List.nil_append, List.length_cons, List.length_nil, List.replicate, then_normal, inBlock_normal, Option.getD_some, Option.getD_none, Bool.or_false, Bool.or_true, Bool.true_or, Bool.false_or, Bool.false_eq_true, if_false, if_true, up_zero, Nat.reduceAdd, Nat.reduceSub, binv, ↓opt_def, AV.isAny, AV.cells, ldc, List.map_cons, List.map_nil, St.set_next, St.set_same, St.up_next, Int.natCast_nonneg, lt_len, le_len, Int.toNat_natCast, true_and, and_true, eq_self, reduceCtorEq, decide_true, List.length_singleton, er_int, er_bool, er_str]
  refine h0 _ _ ?_
  try clear h0 K_h0
  refine T.seq_k (fun K_h2 h2 => ?_)
  by_cases hil : i < l.length
  case neg =>
    refine T.cond (b := false) (by simp [ev]; omega) (fun h => by cases h) (fun _ => T.exit ?_)
    have : i = l.length := by omega
    subst this
    rw [List.take_length] at hA
    try simp only [↓reduceIte, namesOf, List.any, I.names, aops, aopsI, aopsT, qstep, CPt, qget, Tbl.get, astep, ev, setd, List.set, List.getD, List.getElem?_cons_zero, List.getElem?_cons_succ, List.getElem?_nil, List.cons_append, List.nil_append, List.length_cons, List.length_nil, List.replicate, then_normal, inBlock_normal, Option.getD_some, Option.getD_none, Bool.or_false, Bool.or_true, Bool.true_or, Bool.false_or, Bool.false_eq_true, if_false, if_true, up_zero, Nat.reduceAdd, Nat.reduceSub, binv, ↓opt_def, AV.isAny, AV.cells, ldc, List.map_cons, List.map_nil, St.set_next, St.set_same, St.up_next, Int.natCast_nonneg, lt_len, le_len, Int.toNat_natCast, true_and, and_true, eq_self, reduceCtorEq, decide_true, List.length_singleton, er_int, er_bool, er_str, inBlock_exit, then_exit]
    refine h1 _ _ ?_
    try clear h1 K_h1
    refine T.seq_k (fun K_h0 h0 => ?_)
    refine T.regi hm ?_
    simp only [↓reduceIte, namesOf, List.any, I.names, aops, aopsI, aopsT, qstep, CPt, qget, Tbl.get, astep, ev, setd, List.set, List.getD, List.getElem?_cons_zero, List.getElem?_cons_succ, List.getElem?_nil, List.cons_append, List.nil_append, List.length_cons, List.length_nil, List.replicate, then_normal, inBlock_normal, Option.getD_some, Option.getD_none, Bool.or_false, Bool.or_true, Bool.true_or, Bool.false_or, Bool.false_eq_true, if_false, if_true, up_zero, Nat.reduceAdd, Nat.reduceSub, binv, ↓opt_def, AV.isAny, AV.cells, ldc, List.map_cons, List.map_nil, St.set_next, St.set_same, St.up_next, Int.natCast_nonneg, lt_len, le_len, Int.toNat_natCast, true_and, and_true, eq_self, reduceCtorEq, decide_true, List.length_singleton, er_int, er_bool, er_str]
    refine h0 _ _ ?_
    try clear h0 K_h0
    exact T.ret (Fin.quietw rfl hA.wk ⟨nbs_sps _ _, trivial⟩ (hA.quiet wf) ⟨rfl, rfl⟩)
  refine T.cond (b := true) (by simp [ev]; omega) (fun _ => T.skip ?_) (fun h => by cases h)
  refine h2 _ _ ?_
  try clear h2 K_h2
  have hiw := inc64' hil (by omega)
  have hilI : (i : Int) < (l.length : Int) := by omega
  have hg := tcs_get hil
  have hfs : (l.take (i + 1)).flatMap Tc.sp = (l.take i).flatMap Tc.sp ++ l[i].sp := flat_snoc Tc.sp hil
  have hfl := flat_sp_le (l := l) (i + 1)
  rw [hfs, List.length_append] at hfl
  have hdx := hd _ (List.getElem_mem hil)
  generalize l[i] = y at hg hfs hfl hdx
  rw [tcav'] at hg
  refine T.seq_k (fun K_h2 h2 => ?_)
  refine T.block ?_
  refine T.seq_k (fun K_h3 h3 => ?_)
  refine T.regi hm ?_
  simp only [↓reduceIte, namesOf, List.any, I.names, aops, aopsI, aopsT, qstep, CPt, qget, Tbl.get, astep, ev, setd, List.set, List.getD, List.getElem?_cons_zero, List.getElem?_cons_succ, List.getElem?_nil, List.cons_append, List.nil_append, List.length_cons, List.length_nil, List.replicate, then_normal, inBlock_normal, Option.getD_some, Option.getD_none, Bool.or_false, Bool.or_true, Bool.true_or, Bool.false_or, Bool.false_eq_true, if_false, if_true, up_zero, Nat.reduceAdd, Nat.reduceSub, binv, ↓opt_def, AV.isAny, AV.cells, ldc, List.map_cons, List.map_nil, St.set_next, St.set_same, St.up_next, Int.natCast_nonneg, lt_len, le_len, Int.toNat_natCast, true_and, and_true, eq_self, reduceCtorEq, decide_true, List.length_singleton, er_int, er_bool, er_str, tcs_len, hg, hilI, AV.fits, AV.one, List.all_cons, List.all_nil, Nat.reduceBEq, Bool.and_true, Bool.not_false, Bool.and_self, Nat.zero_add, splice, List.take, List.drop, Nat.reduceLeDiff, St.set_set]
  have hA1 := hA.box (n := 4) (i := 2) (by omega) (.obj [.int .u64 (y.id : Int), .sl (spsAV y.sp) .none])
  have hb : ((t.up 4).set (t.next + 2) (.obj [.int .u64 (y.id : Int), .sl (spsAV y.sp) .none])).res (t.next + 2) = some (.obj [.int .u64 (y.id : Int), .sl (spsAV y.sp) .none]) := by simp
  generalize ((t.up 4).set (t.next + 2) (.obj [.int .u64 (y.id : Int), .sl (spsAV y.sp) .none])) = τ at hA1 hb ⊢
  generalize t.next + 2 = a at hb ⊢
  clear hA
  refine h3 _ _ ?_
  try clear h3 K_h3
  refine T.seq_k (fun K_h0 h0 => ?_)
  refine T.regi hm ?_
  simp only [↓reduceIte, namesOf, List.any, I.names, aops, aopsI, aopsT, qstep, CPt, qget, Tbl.get, astep, ev, setd, List.set, List.getD, List.getElem?_cons_zero, List.getElem?_cons_succ, List.getElem?_nil, List.cons_append, List.nil_append, List.length_cons, List.length_nil, List.replicate, then_normal, inBlock_normal, Option.getD_some, Option.getD_none, Bool.or_false, Bool.or_true, Bool.true_or, Bool.false_or, Bool.false_eq_true, if_false, if_true, up_zero, Nat.reduceAdd, Nat.reduceSub, binv, ↓opt_def, AV.isAny, AV.cells, ldc, List.map_cons, List.map_nil, St.set_next, St.set_same, St.up_next, Int.natCast_nonneg, lt_len, le_len, Int.toNat_natCast, true_and, and_true, eq_self, reduceCtorEq, decide_true, List.length_singleton, er_int, er_bool, er_str, hb, AV.fits, AV.one, List.all_cons, List.all_nil, Nat.reduceBEq, Bool.and_true, Bool.not_false, Bool.and_self, Nat.zero_add, splice, List.take, List.drop, Nat.reduceLeDiff, sps_len]
  refine h0 _ _ ?_
  try clear h0 K_h0
  refine T.block ?_
  refine T.gh (Gh.keep [3, 8, 9, 10, 15, 16, 17]) ?_
  refine T.loopi (fun j ρ t => (∃ x G, AccG σ t 5 (spsAV ((l.take i).flatMap Tc.sp ++ y.sp.take j)) x G ∧ ρ = [.any, .any, .any, x, .any, .any, .any, .any, .sl (tcsAV l) g, .int .i64 (l.length : Int), .int .i64 (i : Int), .any, .any, .any, .any, .sl (spsAV y.sp) .none, .int .i64 (y.sp.length : Int), .int .i64 (j : Int)] ++ List.replicate 14 .any))
    y.sp.length 0 (Nat.zero_le _) ⟨_, G, by rw [List.take_zero, List.append_nil]; exact hA1, rfl⟩ ?_
  clear hA1 hb
  rintro j ρ t hj ⟨x, G, hA, rfl⟩
  refine T.seq_k (fun K_h0 h0 => ?_)
  refine T.regi hm ?_
  simp only [↓reduceIte, namesOf, List.any, I.names, aops, aopsI, aopsT, qstep, CPt, qget, Tbl.get, astep, ev, setd, List.set, List.getD, List.getElem?_cons_zero, List.getElem?_cons_succ, List.getElem?_nil, List.cons_append, List.nil_append, List.length_cons, List.length_nil, List.replicate, then_normal, inBlock_normal, Option.getD_some, Option.getD_none, Bool.or_false, Bool.or_true, Bool.true_or, Bool.false_or, Bool.false_eq_true, if_false, if_true, up_zero, Nat.reduceAdd, Nat.reduceSub, binv, ↓opt_def, AV.isAny, AV.cells, ldc, List.map_cons, List.map_nil, St.set_next, St.set_same, St.up_next, Int.natCast_nonneg, lt_len, le_len, Int.toNat_natCast, true_and, and_true, eq_self, reduceCtorEq, decide_true, List.length_singleton, er_int, er_bool, er_str]
  refine h0 _ _ ?_
  try clear h0 K_h0
  refine T.seq_k (fun K_h3 h3 => ?_)
  by_cases hjl : j < y.sp.length
  case neg =>
    refine T.cond (b := false) (by simp [ev]; omega) (fun h => by cases h) (fun _ => T.exit ?_)
    have : j = y.sp.length := by omega
    subst this
    rw [List.take_length, ← hfs] at hA
    try simp only [↓reduceIte, namesOf, List.any, I.names, aops, aopsI, aopsT, qstep, CPt, qget, Tbl.get, astep, ev, setd, List.set, List.getD, List.getElem?_cons_zero, List.getElem?_cons_succ, List.getElem?_nil, List.cons_append, List.nil_append, List.length_cons, List.length_nil, List.replicate, then_normal, inBlock_normal, Option.getD_some, Option.getD_none, Bool.or_false, Bool.or_true, Bool.true_or, Bool.false_or, Bool.false_eq_true, if_false, if_true, up_zero, Nat.reduceAdd, Nat.reduceSub, binv, ↓opt_def, AV.isAny, AV.cells, ldc, List.map_cons, List.map_nil, St.set_next, St.set_same, St.up_next, Int.natCast_nonneg, lt_len, le_len, Int.toNat_natCast, true_and, and_true, eq_self, reduceCtorEq, decide_true, List.length_singleton, er_int, er_bool, er_str, inBlock_exit, then_exit]
    refine h2 _ _ ?_
    try clear h2 K_h2
    refine T.regi hm ?_
    simp only [↓reduceIte, namesOf, List.any, I.names, aops, aopsI, aopsT, qstep, CPt, qget, Tbl.get, astep, ev, setd, List.set, List.getD, List.getElem?_cons_zero, List.getElem?_cons_succ, List.getElem?_nil, List.cons_append, List.nil_append, List.length_cons, List.length_nil, List.replicate, then_normal, inBlock_normal, Option.getD_some, Option.getD_none, Bool.or_false, Bool.or_true, Bool.true_or, Bool.false_or, Bool.false_eq_true, if_false, if_true, up_zero, Nat.reduceAdd, Nat.reduceSub, binv, ↓opt_def, AV.isAny, AV.cells, ldc, List.map_cons, List.map_nil, St.set_next, St.set_same, St.up_next, Int.natCast_nonneg, lt_len, le_len, Int.toNat_natCast, true_and, and_true, eq_self, reduceCtorEq, decide_true, List.length_singleton, er_int, er_bool, er_str, hiw]
    exact ⟨hil, _, _, Gh.keep [3, 8, 9, 10], _, _, hA, rfl⟩
  clear h2
  refine T.cond (b := true) (by simp [ev]; omega) (fun _ => T.skip ?_) (fun h => by cases h)
  refine h3 _ _ ?_
  try clear h3 K_h3
  have hjw := inc64' hjl (by omega)
  have hjlI : (j : Int) < (y.sp.length : Int) := by omega
  have hg2 := sps_get hjl
  have hts : y.sp.take (j + 1) = y.sp.take j ++ [y.sp[j]] := List.take_succ_eq_append_getElem hjl
  have hds := hdx _ (List.getElem_mem hjl)
  have hjt : (y.sp.take j).length = j := by rw [List.length_take]; omega
  generalize y.sp[j] = s at hg2 hts hds
  rw [spav] at hg2
  refine T.seq_k (fun K_h3 h3 => ?_)
  refine T.block ?_
  refine T.seq_k (fun K_h4 h4 => ?_)
  refine T.regi hm ?_
  simp only [↓reduceIte, namesOf, List.any, I.names, aops, aopsI, aopsT, qstep, CPt, qget, Tbl.get, astep, ev, setd, List.set, List.getD, List.getElem?_cons_zero, List.getElem?_cons_succ, List.getElem?_nil, List.cons_append, List.nil_append, List.length_cons, List.length_nil, List.replicate, then_normal, inBlock_normal, Option.getD_some, Option.getD_none, Bool.or_false, Bool.or_true, Bool.true_or, Bool.false_or, Bool.false_eq_true, if_false, if_true, up_zero, Nat.reduceAdd, Nat.reduceSub, binv, ↓opt_def, AV.isAny, AV.cells, ldc, List.map_cons, List.map_nil, St.set_next, St.set_same, St.up_next, Int.natCast_nonneg, lt_len, le_len, Int.toNat_natCast, true_and, and_true, eq_self, reduceCtorEq, decide_true, List.length_singleton, er_int, er_bool, er_str, sps_len, hg2, hjlI, AV.fits, AV.one, List.all_cons, List.all_nil, Nat.reduceBEq, Bool.and_true, Bool.not_false, Bool.and_self, Nat.zero_add, splice, List.take, List.drop, Nat.reduceLeDiff, St.set_set]
  have hA1 := hA.box (n := 4) (i := 2) (by omega) (.obj [.int .u64 (s.tr : Int), .int .u64 (s.id : Int), .int .i64 s.st, .int .i64 s.en, .sl (bytesAV s.da) .none])
  have hb : ((t.up 4).set (t.next + 2) (.obj [.int .u64 (s.tr : Int), .int .u64 (s.id : Int), .int .i64 s.st, .int .i64 s.en, .sl (bytesAV s.da) .none])).res (t.next + 2) = some (.obj [.int .u64 (s.tr : Int), .int .u64 (s.id : Int), .int .i64 s.st, .int .i64 s.en, .sl (bytesAV s.da) .none]) := by simp
  have haG : ∀ g, G = some g → t.next + 2 ≠ g := fun g e => by have := (hA.lt g e).2; omega
  have hlo : σ.next ≤ t.next + 2 := by have := hA.like.next; omega
  generalize ((t.up 4).set (t.next + 2) (.obj [.int .u64 (s.tr : Int), .int .u64 (s.id : Int), .int .i64 s.st, .int .i64 s.en, .sl (bytesAV s.da) .none])) = τ at hA1 hb ⊢
  generalize t.next + 2 = a at hb haG hlo ⊢
  clear hA
  refine h4 _ _ ?_
  try clear h4 K_h4
  refine T.seq_k (fun K_h4 h4 => ?_)
  refine T.regi hm ?_
  simp only [↓reduceIte, namesOf, List.any, I.names, aops, aopsI, aopsT, qstep, CPt, qget, Tbl.get, astep, ev, setd, List.set, List.getD, List.getElem?_cons_zero, List.getElem?_cons_succ, List.getElem?_nil, List.cons_append, List.nil_append, List.length_cons, List.length_nil, List.replicate, then_normal, inBlock_normal, Option.getD_some, Option.getD_none, Bool.or_false, Bool.or_true, Bool.true_or, Bool.false_or, Bool.false_eq_true, if_false, if_true, up_zero, Nat.reduceAdd, Nat.reduceSub, binv, ↓opt_def, AV.isAny, AV.cells, ldc, List.map_cons, List.map_nil, St.set_next, St.set_same, St.up_next, Int.natCast_nonneg, lt_len, le_len, Int.toNat_natCast, true_and, and_true, eq_self, reduceCtorEq, decide_true, List.length_singleton, er_int, er_bool, er_str, hb, AV.fits, AV.one, List.all_cons, List.all_nil, Nat.reduceBEq, Bool.and_true, Bool.not_false, Bool.and_self, Nat.zero_add, splice, List.take, List.drop, Nat.reduceLeDiff]
  refine (clone_q hds (.inl ⟨_, rfl, fun h => by cases h⟩)).mono ?_
  rintro v τ2 ⟨rfl, rfl⟩
  try simp only [↓reduceIte, namesOf, List.any, I.names, aops, aopsI, aopsT, qstep, CPt, qget, Tbl.get, astep, ev, setd, List.set, List.getD, List.getElem?_cons_zero, List.getElem?_cons_succ, List.getElem?_nil, List.cons_append, List.nil_append, List.length_cons, List.length_nil, List.replicate, then_normal, inBlock_normal, Option.getD_some, Option.getD_none, Bool.or_false, Bool.or_true, Bool.true_or, Bool.false_or, Bool.false_eq_true, if_false, if_true, up_zero, Nat.reduceAdd, Nat.reduceSub, binv, ↓opt_def, AV.isAny, AV.cells, ldc, List.map_cons, List.map_nil, St.set_next, St.set_same, St.up_next, Int.natCast_nonneg, lt_len, le_len, Int.toNat_natCast, true_and, and_true, eq_self, reduceCtorEq, decide_true, List.length_singleton, er_int, er_bool, er_str, up_zero, hb, AV.fits, AV.one, List.all_cons, List.all_nil, Nat.reduceBEq, Bool.and_true, Bool.not_false, Bool.and_self, Nat.zero_add, splice, List.take, List.drop, Nat.reduceLeDiff]
  have hA2 := hA1.set (a := a) (.obj [.int .u64 (s.tr : Int), .int .u64 (s.id : Int), .int .i64 s.st, .int .i64 s.en, .sl (bytesAV s.da) .none]) hlo haG
  have hb2 : (τ2.set a (.obj [.int .u64 (s.tr : Int), .int .u64 (s.id : Int), .int .i64 s.st, .int .i64 s.en, .sl (bytesAV s.da) .none])).res a = _ := St.set_same _ _ _
  generalize (τ2.set a (.obj [.int .u64 (s.tr : Int), .int .u64 (s.id : Int), .int .i64 s.st, .int .i64 s.en, .sl (bytesAV s.da) .none])) = τ3 at hA2 hb2 ⊢
  clear hA1 hb
  refine h4 _ _ ?_
  try clear h4 K_h4
  have hb3 : ∀ n, (τ3.up n).res a = some (.obj [.int .u64 (s.tr : Int), .int .u64 (s.id : Int), .int .i64 s.st, .int .i64 s.en, .sl (bytesAV s.da) .none]) := fun _ => hb2
  refine T.regt hm (tbl := []) Tbl.ok_nil ?_
  refine aopsT_cut 3 (fun K_c h_c => ?_)
  try simp only [↓reduceIte, namesOf, List.any, I.names, aops, aopsI, aopsT, qstep, CPt, qget, Tbl.get, astep, ev, setd, List.set, List.getD, List.getElem?_cons_zero, List.getElem?_cons_succ, List.getElem?_nil, List.cons_append, List.nil_append, List.length_cons, List.length_nil, List.replicate, then_normal, inBlock_normal, Option.getD_some, Option.getD_none, Bool.or_false, Bool.or_true, Bool.true_or, Bool.false_or, Bool.false_eq_true, if_false, if_true, up_zero, Nat.reduceAdd, Nat.reduceSub, binv, ↓opt_def, AV.isAny, AV.cells, ldc, List.map_cons, List.map_nil, St.set_next, St.set_same, St.up_next, Int.natCast_nonneg, lt_len, le_len, Int.toNat_natCast, true_and, and_true, eq_self, reduceCtorEq, decide_true, List.length_singleton, er_int, er_bool, er_str, List.take_succ_cons, List.take_zero, hb3, held, AV.fits, AV.one, List.all_cons, List.all_nil, Nat.reduceBEq, Bool.and_true, Bool.not_false, Bool.and_self, Nat.zero_add, splice, List.take, List.drop, Nat.reduceLeDiff, sps_cells]
  refine h_c _ _ ?_
  clear h_c K_c
  simp only [List.drop_succ_cons, List.drop_zero, Nat.zero_add, Nat.reduceAdd]
  refine aopsT_acc (hA2.up 5) (by have := hA2.like.next; omega) (by simp) rfl (ys := [s.av]) ?_ ?_ ?_ (fun x' t' G' hA3 _ _ _ _ => ?_)
  · rfl
  · exact sps_fits ((l.take i).flatMap Tc.sp ++ y.sp.take j ++ [s]) ▸ by simp [spsAV]
  · have hss : [s.av].length = 1 := rfl
    rw [sps_len, List.length_append, hjt, hss]; omega
  try simp only [↓reduceIte, namesOf, List.any, I.names, aops, aopsI, aopsT, qstep, CPt, qget, Tbl.get, astep, ev, setd, List.set, List.getD, List.getElem?_cons_zero, List.getElem?_cons_succ, List.getElem?_nil, List.cons_append, List.nil_append, List.length_cons, List.length_nil, List.replicate, then_normal, inBlock_normal, Option.getD_some, Option.getD_none, Bool.or_false, Bool.or_true, Bool.true_or, Bool.false_or, Bool.false_eq_true, if_false, if_true, up_zero, Nat.reduceAdd, Nat.reduceSub, binv, ↓opt_def, AV.isAny, AV.cells, ldc, List.map_cons, List.map_nil, St.set_next, St.set_same, St.up_next, Int.natCast_nonneg, lt_len, le_len, Int.toNat_natCast, true_and, and_true, eq_self, reduceCtorEq, decide_true, List.length_singleton, er_int, er_bool, er_str, ]
  refine h3 _ _ ?_
  try clear h3 K_h3
  refine T.regi hm ?_
  simp only [↓reduceIte, namesOf, List.any, I.names, aops, aopsI, aopsT, qstep, CPt, qget, Tbl.get, astep, ev, setd, List.set, List.getD, List.getElem?_cons_zero, List.getElem?_cons_succ, List.getElem?_nil, List.cons_append, List.nil_append, List.length_cons, List.length_nil, List.replicate, then_normal, inBlock_normal, Option.getD_some, Option.getD_none, Bool.or_false, Bool.or_true, Bool.true_or, Bool.false_or, Bool.false_eq_true, if_false, if_true, up_zero, Nat.reduceAdd, Nat.reduceSub, binv, ↓opt_def, AV.isAny, AV.cells, ldc, List.map_cons, List.map_nil, St.set_next, St.set_same, St.up_next, Int.natCast_nonneg, lt_len, le_len, Int.toNat_natCast, true_and, and_true, eq_self, reduceCtorEq, decide_true, List.length_singleton, er_int, er_bool, er_str, hjw]
  refine ⟨hjl, _, _, Gh.keep [3, 8, 9, 10, 15, 16, 17], x', G', ?_, rfl⟩
  rw [hts, ← List.append_assoc]
  have : spsAV ((l.take i).flatMap Tc.sp ++ y.sp.take j ++ [s]) = spsAV ((l.take i).flatMap Tc.sp ++ y.sp.take j) ++ [s.av] := by simp [spsAV]
  rw [this]; exact hA3

end Go.VL

namespace Go.VL

open Go.Proofs

/-- an owned thing nm, and a row that grows -/
structure RS (σ σ' : St) (nm : Nat) (r : Res) (k : Nat) (v : Ver) : Prop where
  old : ∀ m, m < σ.next → σ'.res m = σ.res m
  lo : σ.next ≤ nm
  hi : nm < σ'.next
  at_ : σ'.res nm = some r
  ver : v = .nil ∨ ∃ g, v = .tip g ∧ g ≠ nm ∧ σ.next ≤ g ∧ g < σ'.next ∧ σ'.res g = some (.tip k)

theorem RS.set {σ σ' : St} {nm k : Nat} {r : Res} {v : Ver} (h : RS σ σ' nm r k v) (r' : Res) : RS σ (σ'.set nm r') nm r' k v where
  old := fun m hm => by rw [St.set_other _ _ (by have := h.lo; omega)]; exact h.old m hm
  lo := h.lo
  hi := h.hi
  at_ := by simp
  ver := h.ver.imp id fun ⟨g, h1, h2, h3, h4, h5⟩ => ⟨g, h1, h2, h3, h4, by rw [St.set_other _ _ h2]; exact h5⟩

theorem RS.up {σ σ' : St} {nm k : Nat} {r : Res} {v : Ver} (h : RS σ σ' nm r k v) (n : Nat) : RS σ (σ'.up n) nm r k v :=
  ⟨h.old, h.lo, Nat.lt_of_lt_of_le h.hi (Nat.le_add_right _ _), h.at_, h.ver.imp id fun ⟨g, h1, h2, h3, h4, h5⟩ => ⟨g, h1, h2, h3, Nat.lt_of_lt_of_le h4 (Nat.le_add_right _ _), h5⟩⟩

theorem RS.nil {σ σ' : St} {nm k g2 : Nat} {r : Res} (h : RS σ σ' nm r k .nil) (h1 : nm < g2) (h2 : g2 < σ'.next) : RS σ (σ'.set g2 (.tip k)) nm r k (.tip g2) where
  old := fun m hm => by rw [St.set_other _ _ (by have := h.lo; omega)]; exact h.old m hm
  lo := h.lo
  hi := h.hi
  at_ := by rw [St.set_other _ _ (by omega)]; exact h.at_
  ver := .inr ⟨g2, rfl, by omega, by have := h.lo; omega, h2, by simp⟩

theorem RS.tip {σ σ' : St} {nm k g g2 : Nat} {r : Res} (h : RS σ σ' nm r k (.tip g)) (h1 : nm < g2) (h2 : g2 < σ'.next) : RS σ ((σ'.del g).set g2 (.tip k)) nm r k (.tip g2) := by
  obtain ⟨g', e, a1, a2, a3, a4⟩ := h.ver.resolve_left (by simp)
  cases e
  refine ⟨fun m hm => ?_, h.lo, h.hi, ?_, .inr ⟨g2, rfl, by omega, by have := h.lo; omega, h2, by simp⟩⟩
  · rw [St.set_other _ _ (by have := h.lo; omega)]
    simp only [St.del]
    rw [if_neg (by omega)]; exact h.old m hm
  · rw [St.set_other _ _ (by omega)]
    simp only [St.del]
    rw [if_neg (fun e => a1 e.symm)]; exact h.at_

theorem RS.quiet {σ σ' : St} {nm k : Nat} {r : Res} {v : Ver} (wf : WF σ) (h : RS σ σ' nm r k v) : ∀ m s, σ.res m = some s → σ'.res m = some s := by
  intro m s hm
  have : m < σ.next := by
    rcases Nat.lt_or_ge m σ.next with h | h
    · exact h
    · rw [wf m h] at hm; cases hm
  rw [h.old m this]; exact hm

end Go.VL

namespace Go.VL

open Go.Proofs

theorem numB_app (a b : List UInt8) : numB (a ++ b) = b.foldl (fun n b => 256 * n + b.toNat) (numB a) := by unfold numB; rw [List.foldl_append]

theorem numB_beB : ∀ (w n : Nat), n < 256 ^ w → numB (beB w n) = n
  | 0, n, h => by simp at h; subst h; rfl
  | w + 1, n, h => by
    have h1 : n / 256 < 256 ^ w := by rw [Nat.pow_succ] at h; omega
    simp only [beB, numB_app, numB_beB w (n / 256) h1, List.foldl_cons, List.foldl_nil]
    rw [UInt8.toNat_ofNat']
    omega

theorem open_seal (b : List UInt8) : openB (sealB b) = (0, b) := by
  unfold openB
  have h1 : (sealB b).take ((sealB b).length - 4) = b := by
    rw [sealB_len, Nat.add_sub_cancel]; unfold sealB; exact List.take_left
  rw [if_neg (by rw [sealB_len]; omega), h1, if_pos rfl]

theorem is_pair {l : List Tc} (h : isB l = true) : l.Pairwise (fun a b => a.id < b.id) := by
  have step : ∀ i (hi : i + 1 < l.length), l[i].id < l[i + 1].id := by
    intro i hi
    have := List.all_eq_true.1 h (i + 1) (by simpa using hi)
    unfold isAt at this
    have e1 : l[i + 1]? = some l[i + 1] := by simp [hi]
    have e2 : l[i]? = some (l[i]'(by omega)) := by simp [show i < l.length by omega]
    rw [e1] at this
    simp only [Nat.add_sub_cancel, e2, Bool.and_eq_true, Bool.or_eq_true, decide_eq_true_eq] at this
    rcases this.2 with h' | h'
    · simp at h'
    · exact h'
  rw [List.pairwise_iff_getElem]
  intro i j hi hj hij
  induction j with
  | zero => omega
  | succ j ih =>
    by_cases hx : i = j
    · subst hx; exact step i hj
    · exact Nat.lt_trans (ih (by omega) (by omega)) (step j hj)

end Go.VL

namespace Go.VL

open Go.Proofs

/-- a word that lies there is read -/
theorem rd_word {b post : List UInt8} {p w n : Nat} (hw : 0 < w) (hn : n < 256 ^ w) (hd : b.drop p = beB w n ++ post) :
    rW b ⟨(p : Int), -1⟩ w = n ∧ rN b ⟨(p : Int), -1⟩ w = ⟨((p + w : Nat) : Int), -1⟩ ∧ b.drop (p + w) = post := by
  have hl : (b.drop p).length = w + post.length := by rw [hd, List.length_append, beB_len]
  rw [List.length_drop] at hl
  have ht : rT b ⟨(p : Int), -1⟩ w = true := by unfold rT; exact decide_eq_true ⟨rfl, by simp only []; omega⟩
  have hT : (b.drop p).take w = beB w n := by rw [hd, List.take_append_of_le_length (by rw [beB_len]; omega), List.take_of_length_le (by rw [beB_len]; omega)]
  refine ⟨?_, ?_, ?_⟩
  · unfold rW; rw [if_pos ht, Int.toNat_natCast, hT]; exact numB_beB w n hn
  · unfold rN; rw [if_pos ht]; rfl
  · rw [← List.drop_drop, hd, List.drop_append_of_le_length (by rw [beB_len]; omega), List.drop_of_length_le (by rw [beB_len]; omega), List.nil_append]

/-- so is a text -/
theorem rd_text {b d post : List UInt8} {p : Nat} (hd : d.length < 65536) (h : b.drop p = textB d ++ post) :
    rX b ⟨(p : Int), -1⟩ = d ∧ rXN b ⟨(p : Int), -1⟩ = ⟨((p + (textB d).length : Nat) : Int), -1⟩ ∧ b.drop (p + (textB d).length) = post := by
  unfold textB at h
  rw [List.append_assoc] at h
  obtain ⟨h1, h2, h3⟩ := rd_word (w := 2) (by omega) (by omega) h
  have hl : (b.drop (p + 2)).length = d.length + post.length := by rw [h3, List.length_append]
  have hl0 : (b.drop p).length = 2 + (d.length + post.length) := by rw [h, List.length_append, beB_len, List.length_append]
  rw [List.length_drop] at hl hl0
  have htl : (textB d).length = 2 + d.length := by unfold textB; rw [List.length_append, beB_len]
  have hX : rXbad b ⟨(p : Int), -1⟩ = false := by
    unfold rXbad; rw [h1, h2, Bool.or_eq_false_iff]
    exact ⟨decide_eq_false (fun h => h rfl), decide_eq_false (by show ¬ ((d.length : Int) > (b.length : Int) - ((p + 2 : Nat) : Int)); omega)⟩
  refine ⟨?_, ?_, ?_⟩
  · unfold rX; rw [hX, h1, h2, Int.toNat_natCast, h3]; simp
  · unfold rXN; rw [h1, h2, if_neg (fun h => h rfl), if_neg (by show ¬ ((d.length : Int) > (b.length : Int) - ((p + 2 : Nat) : Int)); omega), htl]
    simp only [Rs.mk.injEq, and_true]; omega
  · rw [htl, show p + (2 + d.length) = (p + 2) + d.length by omega, ← List.drop_drop, h3]; simp

theorem span_len (s : Sp) : (spanB s).length = 32 + (textB s.da).length := by
  unfold spanB spanN runB; simp [beB_len]; omega

/-- so is a span -/
theorem rd_span {b post : List UInt8} {s : Sp} {p : Nat} (hs : s.wd) (hm : mayS s = true) (h : b.drop p = spanB s ++ post) :
    oneS b ⟨(p : Int), -1⟩ = s ∧ oneN b ⟨(p : Int), -1⟩ = ⟨((p + (spanB s).length : Nat) : Int), -1⟩ ∧ b.drop (p + (spanB s).length) = post := by
  have hm' : 0 ≤ s.st ∧ s.st ≤ s.en ∧ s.en ≤ 1099511627776 ∧ (s.da.length : Int) ≤ 64 := of_decide_eq_true hm
  obtain ⟨m1, m2, m3, m4⟩ := hm'
  have hB : spanB s = beB 8 s.tr ++ (beB 8 s.id ++ (beB 8 s.st.toNat ++ (beB 8 s.en.toNat ++ textB s.da))) := by
    unfold spanB spanN runB; simp
  have hlen := span_len s
  rw [hB] at h
  simp only [List.append_assoc] at h
  obtain ⟨a1, a2, a3⟩ := rd_word (w := 8) (by omega) hs.1 h
  obtain ⟨b1, b2, b3⟩ := rd_word (w := 8) (by omega) hs.2 a3
  obtain ⟨c1, c2, c3⟩ := rd_word (w := 8) (by omega) (by omega) b3
  obtain ⟨d1, d2, d3⟩ := rd_word (w := 8) (by omega) (by omega) c3
  obtain ⟨e1, e2, e3⟩ := rd_text (by omega) d3
  have w1 : IntKind.i64.wrap ((s.st.toNat : Nat) : Int) = s.st := by rw [wrap64 (by omega) (by omega)]; omega
  have w2 : IntKind.i64.wrap ((s.en.toNat : Nat) : Int) = s.en := by rw [wrap64 (by omega) (by omega)]; omega
  refine ⟨?_, ?_, ?_⟩
  · unfold oneS; rw [a1, a2, b1, b2, c1, c2, d1, d2, e1, w1, w2]
  · unfold oneN; rw [a2, b2, c2, d2, e2, hlen]; congr 2; omega
  · rw [hlen, show p + (32 + (textB s.da).length) = p + 8 + 8 + 8 + 8 + (textB s.da).length by omega]; exact e3

theorem rd_spans {b : List UInt8} : ∀ {l : List Sp} {post : List UInt8} {p : Nat} {acc : List Sp}, (∀ s ∈ l, s.wd ∧ mayS s = true) → b.drop p = l.flatMap spanB ++ post →
    goS b l.length ⟨(p : Int), -1⟩ acc = (-1, acc ++ l, ⟨((p + (l.flatMap spanB).length : Nat) : Int), -1⟩)
  | [], post, p, acc, hl, h => by unfold goS; simp
  | s :: r, post, p, acc, hl, h => by
    rw [List.flatMap_cons, List.append_assoc] at h
    obtain ⟨h1, h2, h3⟩ := rd_span (hl s (by simp)).1 (hl s (by simp)).2 h
    have ih := @rd_spans b r post (p + (spanB s).length) (acc ++ [s]) (fun x hx => hl x (List.mem_cons_of_mem _ hx)) h3
    rw [List.length_cons]
    conv => lhs; unfold goS
    rw [h1, h2, if_neg (by simp only []; omega), if_neg (by simp only []; omega), if_pos (hl s (by simp)).2, ih]
    simp only [List.append_assoc, List.cons_append, List.nil_append, List.flatMap_cons, List.length_append, Nat.add_assoc]

/-- spans: what was put is got -/
theorem getS_put {l : List Sp} (hn : l.length < 65536) (hl : ∀ s ∈ l, s.wd ∧ mayS s = true) : getS (spansB l) = (-1, l) := by
  have h0 : (spansB l).drop 0 = beB 2 l.length ++ (l.flatMap spanB ++ []) := by unfold spansB; simp
  obtain ⟨h1, h2, h3⟩ := rd_word (p := 0) (w := 2) (by omega) (by omega) h0
  have h4 := @rd_spans (spansB l) l [] (0 + 2) [] hl h3
  have hlen : (spansB l).length = 2 + (l.flatMap spanB).length := by unfold spansB; rw [List.length_append, beB_len]
  have e0 : r0 = ⟨((0 : Nat) : Int), -1⟩ := rfl
  unfold getS
  rw [e0, h1, h2, h4, hlen]
  simp only []
  rw [if_neg (by omega), if_neg (by omega)]; rfl

/-- a trace is read as it was put -/
def Tc.may (t : Tc) : Prop := t.id < 18446744073709551616 ∧ t.sp.length ≤ 100 ∧ ∀ s ∈ t.sp, s.wd ∧ mayS s = true

theorem spanM_le {s : Sp} (h : mayS s = true) : (spanB s).length ≤ 98 := by
  have hm' : 0 ≤ s.st ∧ s.st ≤ s.en ∧ s.en ≤ 1099511627776 ∧ (s.da.length : Int) ≤ 64 := of_decide_eq_true h
  rw [span_len]; unfold textB; rw [List.length_append, beB_len]; omega

theorem spansM_le : ∀ {l : List Sp}, (∀ s ∈ l, mayS s = true) → (l.flatMap spanB).length ≤ 98 * l.length
  | [], _ => by simp
  | s :: r, h => by
    have := spanM_le (h s (by simp))
    have ih := spansM_le (l := r) (fun x hx => h x (List.mem_cons_of_mem _ hx))
    rw [List.flatMap_cons, List.length_append, List.length_cons]; omega

theorem spansB_le {t : Tc} (h : t.may) : (spansB t.sp).length ≤ 9802 := by
  have := spansM_le (fun s hs => (h.2.2 s hs).2)
  have h2 := h.2.1
  unfold spansB; rw [List.length_append, beB_len]; omega

theorem tr_len (t : Tc) : (trB t).length = 12 + (spansB t.sp).length := by unfold trB; simp [beB_len]; omega

theorem rd_traces {b : List UInt8} : ∀ {l : List Tc} {post : List UInt8} {p : Nat} {acc : List Tc}, (∀ t ∈ l, t.may) → b.drop p = l.flatMap trB ++ post →
    goR b l.length ⟨(p : Int), -1⟩ acc = some (acc ++ l, ⟨((p + (l.flatMap trB).length : Nat) : Int), -1⟩)
  | [], post, p, acc, hl, h => by unfold goR; simp
  | t :: r, post, p, acc, hl, h => by
    have ht := hl t (by simp)
    have hle := spansB_le ht
    rw [List.flatMap_cons, trB] at h
    simp only [List.append_assoc] at h
    obtain ⟨a1, a2, a3⟩ := rd_word (w := 8) (by omega) ht.1 h
    obtain ⟨b1, b2, b3⟩ := rd_word (w := 4) (by omega) (by omega) a3
    have hI : hdI b ⟨(p : Int), -1⟩ = t.id := a1
    have hM : hdM b ⟨(p : Int), -1⟩ = (spansB t.sp).length := by unfold hdM; rw [a2, b1]
    have hN : hdN b ⟨(p : Int), -1⟩ = ⟨((p + 8 + 4 : Nat) : Int), -1⟩ := by unfold hdN; rw [a2, b2]
    have hS : spN b ⟨((p + 8 + 4 : Nat) : Int), -1⟩ (spansB t.sp).length = spansB t.sp := by unfold spN; rw [Int.toNat_natCast, b3]; simp
    have hl0 : (b.drop p).length = 12 + ((spansB t.sp).length + ((r.flatMap trB).length + post.length)) := by rw [h]; simp [beB_len]; omega
    rw [List.length_drop] at hl0
    have hg : getS (spansB t.sp) = (-1, t.sp) := getS_put (by have := ht.2.1; omega) ht.2.2
    have h3 : b.drop (p + (trB t).length) = r.flatMap trB ++ post := by
      rw [tr_len, show p + (12 + (spansB t.sp).length) = (p + 8 + 4) + (spansB t.sp).length by omega, ← List.drop_drop, b3]; simp
    have ih := @rd_traces b r post (p + (trB t).length) (acc ++ [t]) (fun x hx => hl x (List.mem_cons_of_mem _ hx)) h3
    rw [List.length_cons, goR_go (by rw [hN, hM]; simp only []; omega) (by rw [hN, hM, hS, hg]; simp), hN, hM, hS, hg, hI]
    have e1 : (⟨((p + 8 + 4 : Nat) : Int) + ((spansB t.sp).length : Nat), -1⟩ : Rs) = ⟨((p + (trB t).length : Nat) : Int), -1⟩ := by
      rw [tr_len]; simp only [Rs.mk.injEq, and_true]; omega
    rw [e1, ih]
    simp only [List.append_assoc, List.cons_append, List.nil_append, List.flatMap_cons, List.length_append, Nat.add_assoc]

/-- a page: what was put is got -/
theorem pageG_put {l : List Tc} (hp : pputB l = true) (hl : ∀ t ∈ l, t.may) : pageG (pageB l) = (0, l) := by
  unfold pputB at hp
  simp only [Bool.and_eq_true, decide_eq_true_eq] at hp
  obtain ⟨his, hn⟩ := hp
  have h0 : (beB 2 l.length ++ l.flatMap trB).drop 0 = beB 2 l.length ++ (l.flatMap trB ++ []) := by simp
  obtain ⟨h1, h2, h3⟩ := rd_word (p := 0) (w := 2) (by omega) (by omega) h0
  have h4 := @rd_traces (beB 2 l.length ++ l.flatMap trB) l [] (0 + 2) [] hl h3
  have hlen : (beB 2 l.length ++ l.flatMap trB).length = 2 + (l.flatMap trB).length := by rw [List.length_append, beB_len]
  have e0 : r0 = ⟨((0 : Nat) : Int), -1⟩ := rfl
  have hg : getP (beB 2 l.length ++ l.flatMap trB) = some l := by
    unfold getP
    rw [e0, h1, h2, h4]
    simp only [Option.bind_some, List.nil_append]
    unfold endP
    rw [if_neg]
    rw [hlen, his]
    rintro (h | h | h | h)
    · simp only [] at h; omega
    · simp only [] at h; omega
    · omega
    · cases h
  unfold pageG pageB
  rw [open_seal, if_pos rfl, hg]; rfl

end Go.VL

namespace Go.VL

open Go.Proofs

theorem page_len (l : List Tc) : (pageB l).length = 6 + (l.flatMap trB).length := by
  unfold pageB sealB; simp [beB_len]; omega

/-- the code's way: the rest, and the part under way -/
def cutG (most : Int) : List Tc → List Tc → List (List Tc)
  | [], part => if part = [] then [] else [part]
  | t :: r, part => if part ≠ [] ∧ (((pageB part).length : Int) + (trB t).length > most ∨ part.length = 64) then part :: cutG most r [t] else cutG most r (part ++ [t])

theorem page_succ {l : List Tc} {n : Nat} (h : n < l.length) : (pageB (l.take (n + 1))).length = (pageB (l.take n)).length + (trB l[n]).length := by
  rw [page_len, page_len, List.take_succ_eq_append_getElem h, List.flatMap_append, List.length_append]
  simp; omega

/-- all parts are what was cut -/
theorem cut_flat {most : Int} : ∀ {l part : List Tc}, (cutG most l part).flatten = part ++ l
  | [], part => by
    unfold cutG
    split
    · rename_i h; subst h; rfl
    · simp
  | t :: r, part => by
    unfold cutG
    split
    · rw [List.flatten_cons, cut_flat]; rfl
    · rw [cut_flat]; simp

/-- no part is empty, or too great -/
theorem cut_parts {most : Int} : ∀ {l part : List Tc}, part.length ≤ 64 → (((pageB part).length : Int) ≤ most ∨ part.length ≤ 1) → ∀ p ∈ cutG most l part, p ≠ [] ∧ p.length ≤ 64 ∧ (((pageB p).length : Int) ≤ most ∨ p.length ≤ 1)
  | [], part, h1, h2, p, hp => by
    unfold cutG at hp
    split at hp
    · cases hp
    · rename_i h
      rw [List.mem_singleton] at hp; subst hp
      exact ⟨h, h1, h2⟩
  | t :: r, part, h1, h2, p, hp => by
    unfold cutG at hp
    split at hp
    · rename_i hc
      rcases List.mem_cons.1 hp with rfl | hp
      · exact ⟨hc.1, h1, h2⟩
      · exact cut_parts (by simp) (.inr (by simp)) p hp
    · rename_i hc
      refine cut_parts (l := r) (part := part ++ [t]) ?_ ?_ p hp
      · cases hpt : part with
        | nil => simp
        | cons x y =>
          have hne : part ≠ [] := by rw [hpt]; simp
          have : ¬ part.length = 64 := fun h => hc ⟨hne, .inr h⟩
          rw [← hpt, List.length_append]; simp; omega
      · cases hpt : part with
        | nil => right; simp
        | cons x y =>
          have hne : part ≠ [] := by rw [hpt]; simp
          left
          have : ¬ ((pageB part).length : Int) + (trB t).length > most := fun h => hc ⟨hne, .inl h⟩
          rw [← hpt]
          have hps := page_succ (l := part ++ [t]) (n := part.length) (by simp)
          rw [List.take_of_length_le (by simp), List.take_left' rfl, List.getElem_append_right (Nat.le_refl _)] at hps
          simp at hps
          rw [hps]; omega

end Go.VL

namespace Go.VL

open Go.Proofs

theorem page_len6 (part : List Tc) : ((pageB part).length : Int) = 6 + ((part.flatMap trB).length : Int) := by rw [page_len]; omega

theorem pgs_snoc (a : List (List Tc)) (p : List Tc) : pgsAV a ++ [.sl (tcsAV p) .none] = pgsAV (a ++ [p]) := by simp [pgsAV]

theorem pgs_fits (l : List (List Tc)) : (pgsAV l).all (AV.fits 1) = true := by simp [pgsAV, AV.fits, AV.isAny, AV.cells, AV.one]

theorem nbs_pgs (m : Nat) (l : List (List Tc)) : nbs m (pgsAV l) := by
  rw [nbs_iff]
  intro x hx
  obtain ⟨p, _, rfl⟩ := List.mem_map.1 hx
  exact ⟨nbs_tcs _ _, trivial⟩

/-- what cutting tells -/
def cutOk (l : List Tc) (most : Int) : Bool := isB l && decide (64 ≤ most ∧ most ≤ 8192)

set_option maxRecDepth 10000 in
set_option maxHeartbeats 4000000 in
theorem pgcut_ok {l : List Tc} {g : Ver} {most : Int} {σ : St} (hl : l.length ≤ 1000000) (hs : ∀ t ∈ l, t.sp.length ≤ 9223372036854775807) :
    ACalls Try.prog n_pgcut [.sl (tcsAV l) g, .int .i64 most] σ (fun v σ' => v = (if cutOk l most then .tup [.sl (pgsAV (cutG most l [])) .none, .nili] else .tup [.sl [] .none, .iface tCode (.int .i64 1)]) ∧ σ' = σ) := by
  refine s_pgcut (fun wf => ?_)
  unfold c_pgcut
  refine T.seq_k (fun K_h0 h0 => ?_)
  refine T.regi hm ?_
  simp only [↓reduceIte, namesOf, List.any, I.names, aops, aopsI, aopsT, qstep, CPt, qget, Tbl.get, astep, ev, setd, List.set, List.getD, List.getElem?_cons_zero, List.getElem?_cons_succ, List.getElem?_nil, List.cons_append, List.nil_append, List.length_cons, List.length_nil, List.replicate, then_normal, inBlock_normal, Option.getD_some, Option.getD_none, Bool.or_false, Bool.or_true, Bool.true_or, Bool.false_or, Bool.false_eq_true, if_false, if_true, up_zero, Nat.reduceAdd, Nat.reduceSub, binv, ↓opt_def, AV.isAny, AV.cells, ldc, List.map_cons, List.map_nil, St.set_next, St.set_same, St.up_next, Int.natCast_nonneg, lt_len, le_len, Int.toNat_natCast, true_and, and_true, eq_self, reduceCtorEq, decide_true, List.length_singleton, er_int, er_bool, er_str]
  refine h0 _ _ ?_
  try clear h0 K_h0
  refine T.seq_k (fun K_h1 h1 => ?_)
  refine T.seq_k (fun K_h2 h2 => ?_)
  refine T.regi hm ?_
  simp only [↓reduceIte, namesOf, List.any, I.names, aops, aopsI, aopsT, qstep, CPt, qget, Tbl.get, astep, ev, setd, List.set, List.getD, List.getElem?_cons_zero, List.getElem?_cons_succ, List.getElem?_nil, List.cons_append, List.nil_append, List.length_cons, List.length_nil, List.replicate, then_normal, inBlock_normal, Option.getD_some, Option.getD_none, Bool.or_false, Bool.or_true, Bool.true_or, Bool.false_or, Bool.false_eq_true, if_false, if_true, up_zero, Nat.reduceAdd, Nat.reduceSub, binv, ↓opt_def, AV.isAny, AV.cells, ldc, List.map_cons, List.map_nil, St.set_next, St.set_same, St.up_next, Int.natCast_nonneg, lt_len, le_len, Int.toNat_natCast, true_and, and_true, eq_self, reduceCtorEq, decide_true, List.length_singleton, er_int, er_bool, er_str]
  refine (is_ok (by omega) hs).mono ?_
  rintro v σ1 ⟨rfl, rfl⟩
  cases his : isB l with
  | false =>
    try simp only [↓reduceIte, namesOf, List.any, I.names, aops, aopsI, aopsT, qstep, CPt, qget, Tbl.get, astep, ev, setd, List.set, List.getD, List.getElem?_cons_zero, List.getElem?_cons_succ, List.getElem?_nil, List.cons_append, List.nil_append, List.length_cons, List.length_nil, List.replicate, then_normal, inBlock_normal, Option.getD_some, Option.getD_none, Bool.or_false, Bool.or_true, Bool.true_or, Bool.false_or, Bool.false_eq_true, if_false, if_true, up_zero, Nat.reduceAdd, Nat.reduceSub, binv, ↓opt_def, AV.isAny, AV.cells, ldc, List.map_cons, List.map_nil, St.set_next, St.set_same, St.up_next, Int.natCast_nonneg, lt_len, le_len, Int.toNat_natCast, true_and, and_true, eq_self, reduceCtorEq, decide_true, List.length_singleton, er_int, er_bool, er_str, up_zero, Bool.not_false]
    refine h2 _ _ ?_
    try clear h2 K_h2
    refine T.cond rfl (fun _ => ?_) (fun h => by cases h)
    refine T.seq_k (fun K_h0 h0 => ?_)
    refine T.regi hm ?_
    simp only [↓reduceIte, namesOf, List.any, I.names, aops, aopsI, aopsT, qstep, CPt, qget, Tbl.get, astep, ev, setd, List.set, List.getD, List.getElem?_cons_zero, List.getElem?_cons_succ, List.getElem?_nil, List.cons_append, List.nil_append, List.length_cons, List.length_nil, List.replicate, then_normal, inBlock_normal, Option.getD_some, Option.getD_none, Bool.or_false, Bool.or_true, Bool.true_or, Bool.false_or, Bool.false_eq_true, if_false, if_true, up_zero, Nat.reduceAdd, Nat.reduceSub, binv, ↓opt_def, AV.isAny, AV.cells, ldc, List.map_cons, List.map_nil, St.set_next, St.set_same, St.up_next, Int.natCast_nonneg, lt_len, le_len, Int.toNat_natCast, true_and, and_true, eq_self, reduceCtorEq, decide_true, List.length_singleton, er_int, er_bool, er_str]
    refine h0 _ _ ?_
    try clear h0 K_h0
    exact T.ret (Fin.retw rfl (Wk.tup2 (Wk.sl _ _)) ⟨by unfold cutOk; rw [his]; rfl, rfl⟩)
  | true =>
  by_cases c1 : most < 64
  · have e1 : decide (most < 64) = true := decide_eq_true c1
    try simp only [↓reduceIte, namesOf, List.any, I.names, aops, aopsI, aopsT, qstep, CPt, qget, Tbl.get, astep, ev, setd, List.set, List.getD, List.getElem?_cons_zero, List.getElem?_cons_succ, List.getElem?_nil, List.cons_append, List.nil_append, List.length_cons, List.length_nil, List.replicate, then_normal, inBlock_normal, Option.getD_some, Option.getD_none, Bool.or_false, Bool.or_true, Bool.true_or, Bool.false_or, Bool.false_eq_true, if_false, if_true, up_zero, Nat.reduceAdd, Nat.reduceSub, binv, ↓opt_def, AV.isAny, AV.cells, ldc, List.map_cons, List.map_nil, St.set_next, St.set_same, St.up_next, Int.natCast_nonneg, lt_len, le_len, Int.toNat_natCast, true_and, and_true, eq_self, reduceCtorEq, decide_true, List.length_singleton, er_int, er_bool, er_str, up_zero, Bool.not_true, e1]
    refine h2 _ _ ?_
    try clear h2 K_h2
    refine T.cond rfl (fun _ => ?_) (fun h => by cases h)
    refine T.seq_k (fun K_h0 h0 => ?_)
    refine T.regi hm ?_
    simp only [↓reduceIte, namesOf, List.any, I.names, aops, aopsI, aopsT, qstep, CPt, qget, Tbl.get, astep, ev, setd, List.set, List.getD, List.getElem?_cons_zero, List.getElem?_cons_succ, List.getElem?_nil, List.cons_append, List.nil_append, List.length_cons, List.length_nil, List.replicate, then_normal, inBlock_normal, Option.getD_some, Option.getD_none, Bool.or_false, Bool.or_true, Bool.true_or, Bool.false_or, Bool.false_eq_true, if_false, if_true, up_zero, Nat.reduceAdd, Nat.reduceSub, binv, ↓opt_def, AV.isAny, AV.cells, ldc, List.map_cons, List.map_nil, St.set_next, St.set_same, St.up_next, Int.natCast_nonneg, lt_len, le_len, Int.toNat_natCast, true_and, and_true, eq_self, reduceCtorEq, decide_true, List.length_singleton, er_int, er_bool, er_str]
    refine h0 _ _ ?_
    try clear h0 K_h0
    exact T.ret (Fin.retw rfl (Wk.tup2 (Wk.sl _ _)) ⟨by unfold cutOk; rw [decide_eq_false (by omega), Bool.and_false]; rfl, rfl⟩)
  have e1 : decide (most < 64) = false := decide_eq_false c1
  by_cases c2 : most > 8192
  · have e2 : decide (most > 8192) = true := decide_eq_true c2
    try simp only [↓reduceIte, namesOf, List.any, I.names, aops, aopsI, aopsT, qstep, CPt, qget, Tbl.get, astep, ev, setd, List.set, List.getD, List.getElem?_cons_zero, List.getElem?_cons_succ, List.getElem?_nil, List.cons_append, List.nil_append, List.length_cons, List.length_nil, List.replicate, then_normal, inBlock_normal, Option.getD_some, Option.getD_none, Bool.or_false, Bool.or_true, Bool.true_or, Bool.false_or, Bool.false_eq_true, if_false, if_true, up_zero, Nat.reduceAdd, Nat.reduceSub, binv, ↓opt_def, AV.isAny, AV.cells, ldc, List.map_cons, List.map_nil, St.set_next, St.set_same, St.up_next, Int.natCast_nonneg, lt_len, le_len, Int.toNat_natCast, true_and, and_true, eq_self, reduceCtorEq, decide_true, List.length_singleton, er_int, er_bool, er_str, up_zero, Bool.not_true, e1, e2]
    refine h2 _ _ ?_
    try clear h2 K_h2
    refine T.cond rfl (fun _ => ?_) (fun h => by cases h)
    refine T.seq_k (fun K_h0 h0 => ?_)
    refine T.regi hm ?_
    simp only [↓reduceIte, namesOf, List.any, I.names, aops, aopsI, aopsT, qstep, CPt, qget, Tbl.get, astep, ev, setd, List.set, List.getD, List.getElem?_cons_zero, List.getElem?_cons_succ, List.getElem?_nil, List.cons_append, List.nil_append, List.length_cons, List.length_nil, List.replicate, then_normal, inBlock_normal, Option.getD_some, Option.getD_none, Bool.or_false, Bool.or_true, Bool.true_or, Bool.false_or, Bool.false_eq_true, if_false, if_true, up_zero, Nat.reduceAdd, Nat.reduceSub, binv, ↓opt_def, AV.isAny, AV.cells, ldc, List.map_cons, List.map_nil, St.set_next, St.set_same, St.up_next, Int.natCast_nonneg, lt_len, le_len, Int.toNat_natCast, true_and, and_true, eq_self, reduceCtorEq, decide_true, List.length_singleton, er_int, er_bool, er_str]
    refine h0 _ _ ?_
    try clear h0 K_h0
    exact T.ret (Fin.retw rfl (Wk.tup2 (Wk.sl _ _)) ⟨by unfold cutOk; rw [decide_eq_false (by omega), Bool.and_false]; rfl, rfl⟩)
  have e2 : decide (most > 8192) = false := decide_eq_false c2
  have hok : cutOk l most = true := by unfold cutOk; rw [his, decide_eq_true (by omega)]; rfl
  try simp only [↓reduceIte, namesOf, List.any, I.names, aops, aopsI, aopsT, qstep, CPt, qget, Tbl.get, astep, ev, setd, List.set, List.getD, List.getElem?_cons_zero, List.getElem?_cons_succ, List.getElem?_nil, List.cons_append, List.nil_append, List.length_cons, List.length_nil, List.replicate, then_normal, inBlock_normal, Option.getD_some, Option.getD_none, Bool.or_false, Bool.or_true, Bool.true_or, Bool.false_or, Bool.false_eq_true, if_false, if_true, up_zero, Nat.reduceAdd, Nat.reduceSub, binv, ↓opt_def, AV.isAny, AV.cells, ldc, List.map_cons, List.map_nil, St.set_next, St.set_same, St.up_next, Int.natCast_nonneg, lt_len, le_len, Int.toNat_natCast, true_and, and_true, eq_self, reduceCtorEq, decide_true, List.length_singleton, er_int, er_bool, er_str, up_zero, Bool.not_true, e1, e2]
  refine h2 _ _ ?_
  try clear h2 K_h2
  refine T.cond rfl (fun h => by cases h) (fun _ => T.skip ?_)
  refine h1 _ _ ?_
  try clear h1 K_h1
  clear e1 e2
  refine T.seq_k (fun K_h0 h0 => ?_)
  refine T.regi hm ?_
  simp only [↓reduceIte, namesOf, List.any, I.names, aops, aopsI, aopsT, qstep, CPt, qget, Tbl.get, astep, ev, setd, List.set, List.getD, List.getElem?_cons_zero, List.getElem?_cons_succ, List.getElem?_nil, List.cons_append, List.nil_append, List.length_cons, List.length_nil, List.replicate, then_normal, inBlock_normal, Option.getD_some, Option.getD_none, Bool.or_false, Bool.or_true, Bool.true_or, Bool.false_or, Bool.false_eq_true, if_false, if_true, up_zero, Nat.reduceAdd, Nat.reduceSub, binv, ↓opt_def, AV.isAny, AV.cells, ldc, List.map_cons, List.map_nil, St.set_next, St.set_same, St.up_next, Int.natCast_nonneg, lt_len, le_len, Int.toNat_natCast, true_and, and_true, eq_self, reduceCtorEq, decide_true, List.length_singleton, er_int, er_bool, er_str]
  refine h0 _ _ ?_
  try clear h0 K_h0
  refine T.seq_k (fun K_h0 h0 => ?_)
  refine T.regi hm ?_
  simp only [↓reduceIte, namesOf, List.any, I.names, aops, aopsI, aopsT, qstep, CPt, qget, Tbl.get, astep, ev, setd, List.set, List.getD, List.getElem?_cons_zero, List.getElem?_cons_succ, List.getElem?_nil, List.cons_append, List.nil_append, List.length_cons, List.length_nil, List.replicate, then_normal, inBlock_normal, Option.getD_some, Option.getD_none, Bool.or_false, Bool.or_true, Bool.true_or, Bool.false_or, Bool.false_eq_true, if_false, if_true, up_zero, Nat.reduceAdd, Nat.reduceSub, binv, ↓opt_def, AV.isAny, AV.cells, ldc, List.map_cons, List.map_nil, St.set_next, St.set_same, St.up_next, Int.natCast_nonneg, lt_len, le_len, Int.toNat_natCast, true_and, and_true, eq_self, reduceCtorEq, decide_true, List.length_singleton, er_int, er_bool, er_str]
  refine h0 _ _ ?_
  try clear h0 K_h0
  refine T.seq_k (fun K_h0 h0 => ?_)
  refine T.regi hm ?_
  simp only [↓reduceIte, namesOf, List.any, I.names, aops, aopsI, aopsT, qstep, CPt, qget, Tbl.get, astep, ev, setd, List.set, List.getD, List.getElem?_cons_zero, List.getElem?_cons_succ, List.getElem?_nil, List.cons_append, List.nil_append, List.length_cons, List.length_nil, List.replicate, then_normal, inBlock_normal, Option.getD_some, Option.getD_none, Bool.or_false, Bool.or_true, Bool.true_or, Bool.false_or, Bool.false_eq_true, if_false, if_true, up_zero, Nat.reduceAdd, Nat.reduceSub, binv, ↓opt_def, AV.isAny, AV.cells, ldc, List.map_cons, List.map_nil, St.set_next, St.set_same, St.up_next, Int.natCast_nonneg, lt_len, le_len, Int.toNat_natCast, true_and, and_true, eq_self, reduceCtorEq, decide_true, List.length_singleton, er_int, er_bool, er_str]
  refine h0 _ _ ?_
  try clear h0 K_h0
  refine T.seq_k (fun K_h1 h1 => ?_)
  refine T.seq_k (fun K_h0 h0 => ?_)
  refine T.regi hm ?_
  simp only [↓reduceIte, namesOf, List.any, I.names, aops, aopsI, aopsT, qstep, CPt, qget, Tbl.get, astep, ev, setd, List.set, List.getD, List.getElem?_cons_zero, List.getElem?_cons_succ, List.getElem?_nil, List.cons_append, List.nil_append, List.length_cons, List.length_nil, List.replicate, then_normal, inBlock_normal, Option.getD_some, Option.getD_none, Bool.or_false, Bool.or_true, Bool.true_or, Bool.false_or, Bool.false_eq_true, if_false, if_true, up_zero, Nat.reduceAdd, Nat.reduceSub, binv, ↓opt_def, AV.isAny, AV.cells, ldc, List.map_cons, List.map_nil, St.set_next, St.set_same, St.up_next, Int.natCast_nonneg, lt_len, le_len, Int.toNat_natCast, true_and, and_true, eq_self, reduceCtorEq, decide_true, List.length_singleton, er_int, er_bool, er_str, tcs_len]
  refine h0 _ _ ?_
  try clear h0 K_h0
  refine T.block ?_
  refine T.gh (Gh.keep [1, 4, 5, 6, 7, 8, 25, 26, 27]) ?_
  refine T.loopi (fun i ρ t => (∃ out part vo vp Go Gp, AccG σ1 t 1 (pgsAV out) (.sl (pgsAV out) vo) Go ∧ AccG σ1 t 2 (tcsAV part) (.sl (tcsAV part) vp) Gp ∧ (∀ a b, Go = some a → Gp = some b → a ≠ b) ∧ out.length ≤ i ∧ part.length ≤ 64 ∧ (∀ t ∈ part, oneB t = true) ∧
      cutG most l [] = out ++ cutG most (l.drop i) part ∧
      ρ = [.any, .int .i64 most, .any, .any, .sl [] .nil, .nili, .sl (pgsAV out) vo, .sl (tcsAV part) vp, .int .i64 (6 + ((part.flatMap trB).length : Int))] ++ List.replicate 16 .any ++ [.sl (tcsAV l) g, .int .i64 (l.length : Int), .int .i64 (i : Int)] ++ List.replicate 53 .any))
    l.length 0 (Nat.zero_le _) ⟨[], [], .nil, .nil, none, none, .nil (.refl _), .nil (.refl _), (fun _ _ h => by cases h), Nat.le_refl _, by simp, (fun _ h => by cases h), rfl, rfl⟩ ?_
  rintro i ρ t hi ⟨out, part, vo, vp, Go, Gp, hO, hP, hne, hol, hpl, hpo, hcut, rfl⟩
  have hpt : (part.flatMap trB).length ≤ 64 * 30000 := Nat.le_trans (trs_le (fun t ht => trB_le (hpo t ht))) (Nat.mul_le_mul_right _ hpl)
  refine T.seq_k (fun K_h0 h0 => ?_)
  refine T.regi hm ?_
  simp only [↓reduceIte, namesOf, List.any, I.names, aops, aopsI, aopsT, qstep, CPt, qget, Tbl.get, astep, ev, setd, List.set, List.getD, List.getElem?_cons_zero, List.getElem?_cons_succ, List.getElem?_nil, List.cons_append, List.nil_append, List.length_cons, List.length_nil, List.replicate, then_normal, inBlock_normal, Option.getD_some, Option.getD_none, Bool.or_false, Bool.or_true, Bool.true_or, Bool.false_or, Bool.false_eq_true, if_false, if_true, up_zero, Nat.reduceAdd, Nat.reduceSub, binv, ↓opt_def, AV.isAny, AV.cells, ldc, List.map_cons, List.map_nil, St.set_next, St.set_same, St.up_next, Int.natCast_nonneg, lt_len, le_len, Int.toNat_natCast, true_and, and_true, eq_self, reduceCtorEq, decide_true, List.length_singleton, er_int, er_bool, er_str]
  refine h0 _ _ ?_
  try clear h0 K_h0
  refine T.seq_k (fun K_h2 h2 => ?_)
  by_cases hil : i < l.length
  case neg =>
    refine T.cond (b := false) (by simp [ev]; omega) (fun h => by cases h) (fun _ => T.exit ?_)
    have : i = l.length := by omega
    subst this
    rw [List.drop_length] at hcut
    try simp only [↓reduceIte, namesOf, List.any, I.names, aops, aopsI, aopsT, qstep, CPt, qget, Tbl.get, astep, ev, setd, List.set, List.getD, List.getElem?_cons_zero, List.getElem?_cons_succ, List.getElem?_nil, List.cons_append, List.nil_append, List.length_cons, List.length_nil, List.replicate, then_normal, inBlock_normal, Option.getD_some, Option.getD_none, Bool.or_false, Bool.or_true, Bool.true_or, Bool.false_or, Bool.false_eq_true, if_false, if_true, up_zero, Nat.reduceAdd, Nat.reduceSub, binv, ↓opt_def, AV.isAny, AV.cells, ldc, List.map_cons, List.map_nil, St.set_next, St.set_same, St.up_next, Int.natCast_nonneg, lt_len, le_len, Int.toNat_natCast, true_and, and_true, eq_self, reduceCtorEq, decide_true, List.length_singleton, er_int, er_bool, er_str, inBlock_exit, then_exit]
    refine h1 _ _ ?_
    try clear h1 K_h1
    refine T.seq_k (fun K_h1 h1 => ?_)
    by_cases hp : part = []
    · subst hp
      have hc : cutG most l [] = out := by rw [hcut]; unfold cutG; simp
      have e1 : decide ((([] : List Tc).length : Int) > 0) = false := rfl
      refine T.seq_k (fun K_h0 h0 => ?_)
      refine T.regi hm ?_
      simp only [↓reduceIte, namesOf, List.any, I.names, aops, aopsI, aopsT, qstep, CPt, qget, Tbl.get, astep, ev, setd, List.set, List.getD, List.getElem?_cons_zero, List.getElem?_cons_succ, List.getElem?_nil, List.cons_append, List.nil_append, List.length_cons, List.length_nil, List.replicate, then_normal, inBlock_normal, Option.getD_some, Option.getD_none, Bool.or_false, Bool.or_true, Bool.true_or, Bool.false_or, Bool.false_eq_true, if_false, if_true, up_zero, Nat.reduceAdd, Nat.reduceSub, binv, ↓opt_def, AV.isAny, AV.cells, ldc, List.map_cons, List.map_nil, St.set_next, St.set_same, St.up_next, Int.natCast_nonneg, lt_len, le_len, Int.toNat_natCast, true_and, and_true, eq_self, reduceCtorEq, decide_true, List.length_singleton, er_int, er_bool, er_str, tcs_len, e1]
      refine h0 _ _ ?_
      try clear h0 K_h0
      refine T.cond rfl (fun h => by cases h) (fun _ => T.skip ?_)
      refine h1 _ _ ?_
      try clear h1 K_h1
      refine T.seq_k (fun K_h0 h0 => ?_)
      refine T.regi hm ?_
      simp only [↓reduceIte, namesOf, List.any, I.names, aops, aopsI, aopsT, qstep, CPt, qget, Tbl.get, astep, ev, setd, List.set, List.getD, List.getElem?_cons_zero, List.getElem?_cons_succ, List.getElem?_nil, List.cons_append, List.nil_append, List.length_cons, List.length_nil, List.replicate, then_normal, inBlock_normal, Option.getD_some, Option.getD_none, Bool.or_false, Bool.or_true, Bool.true_or, Bool.false_or, Bool.false_eq_true, if_false, if_true, up_zero, Nat.reduceAdd, Nat.reduceSub, binv, ↓opt_def, AV.isAny, AV.cells, ldc, List.map_cons, List.map_nil, St.set_next, St.set_same, St.up_next, Int.natCast_nonneg, lt_len, le_len, Int.toNat_natCast, true_and, and_true, eq_self, reduceCtorEq, decide_true, List.length_singleton, er_int, er_bool, er_str]
      refine h0 _ _ ?_
      try clear h0 K_h0
      exact T.ret (Fin.quietw rfl (Wk.tup2 (Wk.sl _ _)) ⟨⟨nbs_pgs _ _, trivial⟩, trivial, trivial⟩ (hO.quiet wf) ⟨by rw [if_pos hok, hc]; rfl, rfl⟩)
    · have hc : cutG most l [] = out ++ [part] := by rw [hcut]; unfold cutG; rw [if_neg hp]
      have hpos : 0 < part.length := List.length_pos_iff.2 hp
      have e1 : decide ((part.length : Int) > 0) = true := decide_eq_true (by omega)
      refine T.seq_k (fun K_h0 h0 => ?_)
      refine T.regi hm ?_
      simp only [↓reduceIte, namesOf, List.any, I.names, aops, aopsI, aopsT, qstep, CPt, qget, Tbl.get, astep, ev, setd, List.set, List.getD, List.getElem?_cons_zero, List.getElem?_cons_succ, List.getElem?_nil, List.cons_append, List.nil_append, List.length_cons, List.length_nil, List.replicate, then_normal, inBlock_normal, Option.getD_some, Option.getD_none, Bool.or_false, Bool.or_true, Bool.true_or, Bool.false_or, Bool.false_eq_true, if_false, if_true, up_zero, Nat.reduceAdd, Nat.reduceSub, binv, ↓opt_def, AV.isAny, AV.cells, ldc, List.map_cons, List.map_nil, St.set_next, St.set_same, St.up_next, Int.natCast_nonneg, lt_len, le_len, Int.toNat_natCast, true_and, and_true, eq_self, reduceCtorEq, decide_true, List.length_singleton, er_int, er_bool, er_str, tcs_len, e1]
      refine h0 _ _ ?_
      try clear h0 K_h0
      refine T.cond rfl (fun _ => ?_) (fun h => by cases h)
      refine T.regt hm (tbl := []) Tbl.ok_nil ?_
      refine aopsT_cut 3 (fun K_c h_c => ?_)
      try simp only [↓reduceIte, namesOf, List.any, I.names, aops, aopsI, aopsT, qstep, CPt, qget, Tbl.get, astep, ev, setd, List.set, List.getD, List.getElem?_cons_zero, List.getElem?_cons_succ, List.getElem?_nil, List.cons_append, List.nil_append, List.length_cons, List.length_nil, List.replicate, then_normal, inBlock_normal, Option.getD_some, Option.getD_none, Bool.or_false, Bool.or_true, Bool.true_or, Bool.false_or, Bool.false_eq_true, if_false, if_true, up_zero, Nat.reduceAdd, Nat.reduceSub, binv, ↓opt_def, AV.isAny, AV.cells, ldc, List.map_cons, List.map_nil, St.set_next, St.set_same, St.up_next, Int.natCast_nonneg, lt_len, le_len, Int.toNat_natCast, true_and, and_true, eq_self, reduceCtorEq, decide_true, List.length_singleton, er_int, er_bool, er_str, List.take_succ_cons, List.take_zero, held, AV.fits, AV.one, List.all_cons, List.all_nil, Nat.reduceBEq, Bool.and_true, Bool.not_false, Bool.and_self, Nat.zero_add, splice, List.take, List.drop, Nat.reduceLeDiff]
      refine h_c _ _ ?_
      clear h_c K_c
      simp only [List.drop_succ_cons, List.drop_zero, Nat.zero_add, Nat.reduceAdd]
      refine aopsT_acc (hO.up 5) (by have := hO.like.next; omega) (by simp) rfl (ys := [.sl (tcsAV part) .none]) ?_ ?_ ?_ (fun x' t' G' hA3 _ _ _ _ => ?_)
      · rfl
      · rw [pgs_snoc]; exact pgs_fits _
      · have hss : [AV.sl (tcsAV part) .none].length = 1 := rfl
        rw [pgs_len, hss]; omega
      try simp only [↓reduceIte, namesOf, List.any, I.names, aops, aopsI, aopsT, qstep, CPt, qget, Tbl.get, astep, ev, setd, List.set, List.getD, List.getElem?_cons_zero, List.getElem?_cons_succ, List.getElem?_nil, List.cons_append, List.nil_append, List.length_cons, List.length_nil, List.replicate, then_normal, inBlock_normal, Option.getD_some, Option.getD_none, Bool.or_false, Bool.or_true, Bool.true_or, Bool.false_or, Bool.false_eq_true, if_false, if_true, up_zero, Nat.reduceAdd, Nat.reduceSub, binv, ↓opt_def, AV.isAny, AV.cells, ldc, List.map_cons, List.map_nil, St.set_next, St.set_same, St.up_next, Int.natCast_nonneg, lt_len, le_len, Int.toNat_natCast, true_and, and_true, eq_self, reduceCtorEq, decide_true, List.length_singleton, er_int, er_bool, er_str, ]
      refine h1 _ _ ?_
      try clear h1 K_h1
      refine T.seq_k (fun K_h0 h0 => ?_)
      refine T.regi hm ?_
      simp only [↓reduceIte, namesOf, List.any, I.names, aops, aopsI, aopsT, qstep, CPt, qget, Tbl.get, astep, ev, setd, List.set, List.getD, List.getElem?_cons_zero, List.getElem?_cons_succ, List.getElem?_nil, List.cons_append, List.nil_append, List.length_cons, List.length_nil, List.replicate, then_normal, inBlock_normal, Option.getD_some, Option.getD_none, Bool.or_false, Bool.or_true, Bool.true_or, Bool.false_or, Bool.false_eq_true, if_false, if_true, up_zero, Nat.reduceAdd, Nat.reduceSub, binv, ↓opt_def, AV.isAny, AV.cells, ldc, List.map_cons, List.map_nil, St.set_next, St.set_same, St.up_next, Int.natCast_nonneg, lt_len, le_len, Int.toNat_natCast, true_and, and_true, eq_self, reduceCtorEq, decide_true, List.length_singleton, er_int, er_bool, er_str]
      refine h0 _ _ ?_
      try clear h0 K_h0
      rw [pgs_snoc] at hA3
      exact T.ret (Fin.quietw rfl (Wk.tup2 hA3.wk) ⟨⟨nbs_pgs _ _, trivial⟩, trivial, trivial⟩ (hA3.quiet wf) ⟨by rw [if_pos hok, hc]; rfl, rfl⟩)
  refine T.cond (b := true) (by simp [ev]; omega) (fun _ => T.skip ?_) (fun h => by cases h)
  refine h2 _ _ ?_
  try clear h2 K_h2
  have hiw := inc64' hil (by omega)
  have hilI : (i : Int) < (l.length : Int) := by omega
  have hg := tcs_get hil
  have hone := is_each his (List.getElem_mem hil)
  have hdr : l.drop i = l[i] :: l.drop (i + 1) := (List.getElem_cons_drop (h := hil)).symm
  rw [hdr] at hcut
  clear hdr
  generalize l[i] = y at hg hone hcut
  rw [tcav'] at hg
  obtain ⟨o1, o2, o3⟩ := one_facts hone
  have otl := trB_le hone
  have hyd : ∀ s ∈ y.sp, s.da.length ≤ 1099511627776 := fun s hs => by have := mayS_len (List.all_eq_true.1 o1 s hs); omega
  refine T.seq_k (fun K_h2 h2 => ?_)
  refine T.block ?_
  refine T.seq_k (fun K_h3 h3 => ?_)
  refine T.regi hm ?_
  simp only [↓reduceIte, namesOf, List.any, I.names, aops, aopsI, aopsT, qstep, CPt, qget, Tbl.get, astep, ev, setd, List.set, List.getD, List.getElem?_cons_zero, List.getElem?_cons_succ, List.getElem?_nil, List.cons_append, List.nil_append, List.length_cons, List.length_nil, List.replicate, then_normal, inBlock_normal, Option.getD_some, Option.getD_none, Bool.or_false, Bool.or_true, Bool.true_or, Bool.false_or, Bool.false_eq_true, if_false, if_true, up_zero, Nat.reduceAdd, Nat.reduceSub, binv, ↓opt_def, AV.isAny, AV.cells, ldc, List.map_cons, List.map_nil, St.set_next, St.set_same, St.up_next, Int.natCast_nonneg, lt_len, le_len, Int.toNat_natCast, true_and, and_true, eq_self, reduceCtorEq, decide_true, List.length_singleton, er_int, er_bool, er_str, tcs_len, hg, hilI, AV.fits, AV.one, List.all_cons, List.all_nil, Nat.reduceBEq, Bool.and_true, Bool.not_false, Bool.and_self, Nat.zero_add, splice, List.take, List.drop, Nat.reduceLeDiff, St.set_set]
  have hO1 := hO.box (n := 4) (i := 2) (by omega) (.obj [.int .u64 (y.id : Int), .sl (spsAV y.sp) .none])
  have hP1 := hP.box (n := 4) (i := 2) (by omega) (.obj [.int .u64 (y.id : Int), .sl (spsAV y.sp) .none])
  have hb : ((t.up 4).set (t.next + 2) (.obj [.int .u64 (y.id : Int), .sl (spsAV y.sp) .none])).res (t.next + 2) = some (.obj [.int .u64 (y.id : Int), .sl (spsAV y.sp) .none]) := by simp
  have haO : ∀ g, Go = some g → t.next + 2 ≠ g := fun g e => by have := (hO.lt g e).2; omega
  have haP : ∀ g, Gp = some g → t.next + 2 ≠ g := fun g e => by have := (hP.lt g e).2; omega
  have hlt : t.next + 2 < ((t.up 4).set (t.next + 2) (.obj [.int .u64 (y.id : Int), .sl (spsAV y.sp) .none])).next := by simp
  generalize ((t.up 4).set (t.next + 2) (.obj [.int .u64 (y.id : Int), .sl (spsAV y.sp) .none])) = τ at hO1 hP1 hb hlt ⊢
  generalize t.next + 2 = a at hb haO haP hlt ⊢
  clear hO hP
  refine h3 _ _ ?_
  try clear h3 K_h3
  refine T.seq_k (fun K_h3 h3 => ?_)
  refine T.regi hm ?_
  simp only [↓reduceIte, namesOf, List.any, I.names, aops, aopsI, aopsT, qstep, CPt, qget, Tbl.get, astep, ev, setd, List.set, List.getD, List.getElem?_cons_zero, List.getElem?_cons_succ, List.getElem?_nil, List.cons_append, List.nil_append, List.length_cons, List.length_nil, List.replicate, then_normal, inBlock_normal, Option.getD_some, Option.getD_none, Bool.or_false, Bool.or_true, Bool.true_or, Bool.false_or, Bool.false_eq_true, if_false, if_true, up_zero, Nat.reduceAdd, Nat.reduceSub, binv, ↓opt_def, AV.isAny, AV.cells, ldc, List.map_cons, List.map_nil, St.set_next, St.set_same, St.up_next, Int.natCast_nonneg, lt_len, le_len, Int.toNat_natCast, true_and, and_true, eq_self, reduceCtorEq, decide_true, List.length_singleton, er_int, er_bool, er_str, hb, AV.fits, AV.one, List.all_cons, List.all_nil, Nat.reduceBEq, Bool.and_true, Bool.not_false, Bool.and_self, Nat.zero_add, splice, List.take, List.drop, Nat.reduceLeDiff]
  refine (pput1_ok (by omega) o1).mono ?_
  rintro v τ3 ⟨rfl, rfl⟩
  try simp only [↓reduceIte, namesOf, List.any, I.names, aops, aopsI, aopsT, qstep, CPt, qget, Tbl.get, astep, ev, setd, List.set, List.getD, List.getElem?_cons_zero, List.getElem?_cons_succ, List.getElem?_nil, List.cons_append, List.nil_append, List.length_cons, List.length_nil, List.replicate, then_normal, inBlock_normal, Option.getD_some, Option.getD_none, Bool.or_false, Bool.or_true, Bool.true_or, Bool.false_or, Bool.false_eq_true, if_false, if_true, up_zero, Nat.reduceAdd, Nat.reduceSub, binv, ↓opt_def, AV.isAny, AV.cells, ldc, List.map_cons, List.map_nil, St.set_next, St.set_same, St.up_next, Int.natCast_nonneg, lt_len, le_len, Int.toNat_natCast, true_and, and_true, eq_self, reduceCtorEq, decide_true, List.length_singleton, er_int, er_bool, er_str, up_zero]
  refine h3 _ _ ?_
  try clear h3 K_h3
  refine T.seq_k (fun K_h3 h3 => ?_)
  refine T.seq_k (fun K_h0 h0 => ?_)
  refine T.regi hm ?_
  simp only [↓reduceIte, namesOf, List.any, I.names, aops, aopsI, aopsT, qstep, CPt, qget, Tbl.get, astep, ev, setd, List.set, List.getD, List.getElem?_cons_zero, List.getElem?_cons_succ, List.getElem?_nil, List.cons_append, List.nil_append, List.length_cons, List.length_nil, List.replicate, then_normal, inBlock_normal, Option.getD_some, Option.getD_none, Bool.or_false, Bool.or_true, Bool.true_or, Bool.false_or, Bool.false_eq_true, if_false, if_true, up_zero, Nat.reduceAdd, Nat.reduceSub, binv, ↓opt_def, AV.isAny, AV.cells, ldc, List.map_cons, List.map_nil, St.set_next, St.set_same, St.up_next, Int.natCast_nonneg, lt_len, le_len, Int.toNat_natCast, true_and, and_true, eq_self, reduceCtorEq, decide_true, List.length_singleton, er_int, er_bool, er_str, eqIv, bne_self_eq_false]
  refine h0 _ _ ?_
  try clear h0 K_h0
  refine T.cond rfl (fun h => by cases h) (fun _ => T.skip ?_)
  refine h3 _ _ ?_
  try clear h3 K_h3
  have ew : IntKind.i64.wrap (6 + ((part.flatMap trB).length : Int) + ((trB y).length : Int)) = 6 + ((part.flatMap trB).length : Int) + ((trB y).length : Int) := wrap64 (by omega) (by omega)
  refine T.seq_k (fun K_h3 h3 => ?_)
  -- the trace behind the part
  have fin : ∀ ρ' t' out' part' vo' vp' Go' Gp', AccG σ1 t' 1 (pgsAV out') (.sl (pgsAV out') vo') Go' → AccG σ1 t' 2 (tcsAV part') (.sl (tcsAV part') vp') Gp' → (∀ a b, Go' = some a → Gp' = some b → a ≠ b) → t'.res a = some (.obj [.int .u64 (y.id : Int), .sl (spsAV y.sp) .none]) →
      out'.length ≤ i + 1 → part'.length < 64 → (∀ t ∈ part', oneB t = true) → cutG most l [] = out' ++ cutG most (l.drop (i + 1)) (part' ++ [y]) →
      keep [1, 4, 5, 6, 7, 8, 10, 11, 25, 26, 27] 0 ρ' = [.any, .int .i64 most, .any, .any, .sl [] .nil, .nili, .sl (pgsAV out') vo', .sl (tcsAV part') vp', .int .i64 (6 + ((part'.flatMap trB).length : Int)), .any, .ptr a 0, .sl (bytesAV (trB y)) .none] ++ List.replicate 13 .any ++ [.sl (tcsAV l) g, .int .i64 (l.length : Int), .int .i64 (i : Int)] ++ List.replicate 53 .any → K_h3 ρ' t' := by
    intro ρ' t' out' part' vo' vp' Go' Gp' hO hP hne hbb hol hpl hpo hcut hρ
    clear hb hO1 hP1
    have hpt : (part'.flatMap trB).length ≤ 64 * 30000 := Nat.le_trans (trs_le (fun t ht => trB_le (hpo t ht))) (Nat.mul_le_mul_right _ (by omega))
    have ew : IntKind.i64.wrap (6 + ((part'.flatMap trB).length : Int) + ((trB y).length : Int)) = 6 + (((part' ++ [y]).flatMap trB).length : Int) := by
      rw [wrap64 (by omega) (by omega), List.flatMap_append, List.length_append]; simp; omega
    have hb3 : ∀ n, (t'.up n).res a = some (.obj [.int .u64 (y.id : Int), .sl (spsAV y.sp) .none]) := fun _ => hbb
    refine h3 _ _ ?_
    try clear h3 K_h3
    refine T.gh (Gh.keep [1, 4, 5, 6, 7, 8, 10, 11, 25, 26, 27]) ?_
    rw [hρ]
    have hlen2 : ∀ x y : AV, [x, y].length = 2 := fun _ _ => rfl
    have htake : ∀ x y : AV, List.take 2 (List.drop 0 [x, y]) = [x, y] := fun _ _ => rfl
    refine T.regt hm (tbl := []) Tbl.ok_nil ?_
    refine aopsT_cut 5 (fun K_c h_c => ?_)
    try simp only [↓reduceIte, namesOf, List.any, I.names, aops, aopsI, aopsT, qstep, CPt, qget, Tbl.get, astep, ev, setd, List.set, List.getD, List.getElem?_cons_zero, List.getElem?_cons_succ, List.getElem?_nil, List.cons_append, List.nil_append, List.length_cons, List.length_nil, List.replicate, then_normal, inBlock_normal, Option.getD_some, Option.getD_none, Bool.or_false, Bool.or_true, Bool.true_or, Bool.false_or, Bool.false_eq_true, if_false, if_true, up_zero, Nat.reduceAdd, Nat.reduceSub, binv, ↓opt_def, AV.isAny, AV.cells, ldc, List.map_cons, List.map_nil, St.set_next, St.set_same, St.up_next, Int.natCast_nonneg, lt_len, le_len, Int.toNat_natCast, true_and, and_true, eq_self, reduceCtorEq, decide_true, List.length_singleton, er_int, er_bool, er_str, List.take_succ_cons, List.take_zero, hb3, held, AV.fits, AV.one, List.all_cons, List.all_nil, Nat.reduceBEq, Bool.and_true, Bool.not_false, Bool.and_self, Nat.zero_add, splice, List.take, List.drop, Nat.reduceLeDiff, hlen2, htake]
    refine h_c _ _ ?_
    clear h_c K_c
    simp only [List.drop_succ_cons, List.drop_zero, Nat.zero_add, Nat.reduceAdd]
    refine aopsT_q (xs := [.sl (tcsAV [y]) .none]) (v := .sl (spsAV y.sp) .none) rfl ((tflat_ok (l := [y]) (by simp) (by simp; omega) (fun t ht => by rw [List.mem_singleton.1 ht]; exact hyd)).mono (fun v σ' h => ⟨by rw [h.1]; simp, h.2⟩)) ?_
    refine aopsT_cut 2 (fun K_c h_c => ?_)
    try simp only [↓reduceIte, namesOf, List.any, I.names, aops, aopsI, aopsT, qstep, CPt, qget, Tbl.get, astep, ev, setd, List.set, List.getD, List.getElem?_cons_zero, List.getElem?_cons_succ, List.getElem?_nil, List.cons_append, List.nil_append, List.length_cons, List.length_nil, List.replicate, then_normal, inBlock_normal, Option.getD_some, Option.getD_none, Bool.or_false, Bool.or_true, Bool.true_or, Bool.false_or, Bool.false_eq_true, if_false, if_true, up_zero, Nat.reduceAdd, Nat.reduceSub, binv, ↓opt_def, AV.isAny, AV.cells, ldc, List.map_cons, List.map_nil, St.set_next, St.set_same, St.up_next, Int.natCast_nonneg, lt_len, le_len, Int.toNat_natCast, true_and, and_true, eq_self, reduceCtorEq, decide_true, List.length_singleton, er_int, er_bool, er_str, List.take_succ_cons, List.take_zero, fillA, Option.map, held, AV.fits, AV.one, List.all_cons, List.all_nil, Nat.reduceBEq, Bool.and_true, Bool.not_false, Bool.and_self, Nat.zero_add, splice, List.take, List.drop, Nat.reduceLeDiff, hlen2, htake]
    refine h_c _ _ ?_
    clear h_c K_c
    simp only [List.drop_succ_cons, List.drop_zero, Nat.zero_add, Nat.reduceAdd]
    refine aopsT_acc (hP.up 15) (by have := hP.like.next; omega) (by simp) rfl (ys := [y.av]) ?_ ?_ ?_ (fun x' t'' G' hA3 hn3 hG3 ho3 _ => ?_)
    · rfl
    · exact tcs_snoc' part' y.id y.sp ▸ tcs_fits _
    · have hss : [y.av].length = 1 := rfl
      rw [tcs_len, hss]; omega
    try simp only [↓reduceIte, namesOf, List.any, I.names, aops, aopsI, aopsT, qstep, CPt, qget, Tbl.get, astep, ev, setd, List.set, List.getD, List.getElem?_cons_zero, List.getElem?_cons_succ, List.getElem?_nil, List.cons_append, List.nil_append, List.length_cons, List.length_nil, List.replicate, then_normal, inBlock_normal, Option.getD_some, Option.getD_none, Bool.or_false, Bool.or_true, Bool.true_or, Bool.false_or, Bool.false_eq_true, if_false, if_true, up_zero, Nat.reduceAdd, Nat.reduceSub, binv, ↓opt_def, AV.isAny, AV.cells, ldc, List.map_cons, List.map_nil, St.set_next, St.set_same, St.up_next, Int.natCast_nonneg, lt_len, le_len, Int.toNat_natCast, true_and, and_true, eq_self, reduceCtorEq, decide_true, List.length_singleton, er_int, er_bool, er_str, bytesAV_len, ew]
    obtain ⟨vx, rfl⟩ := hA3.ex
    refine h2 _ _ ?_
    try clear h2 K_h2
    refine T.regi hm ?_
    simp only [↓reduceIte, namesOf, List.any, I.names, aops, aopsI, aopsT, qstep, CPt, qget, Tbl.get, astep, ev, setd, List.set, List.getD, List.getElem?_cons_zero, List.getElem?_cons_succ, List.getElem?_nil, List.cons_append, List.nil_append, List.length_cons, List.length_nil, List.replicate, then_normal, inBlock_normal, Option.getD_some, Option.getD_none, Bool.or_false, Bool.or_true, Bool.true_or, Bool.false_or, Bool.false_eq_true, if_false, if_true, up_zero, Nat.reduceAdd, Nat.reduceSub, binv, ↓opt_def, AV.isAny, AV.cells, ldc, List.map_cons, List.map_nil, St.set_next, St.set_same, St.up_next, Int.natCast_nonneg, lt_len, le_len, Int.toNat_natCast, true_and, and_true, eq_self, reduceCtorEq, decide_true, List.length_singleton, er_int, er_bool, er_str, hiw]
    have hO2 := (hO.up 15).keep (u := t'') (by rw [hn3]; exact Nat.le_refl _) (fun m hm => ho3 m (by have := hP.like.next; omega) (fun g e => by have := (hP.lt g e).1; omega)) (fun a e => ho3 a (by have := (hO.lt a e).2; omega) (fun b e' => hne a b e e'))
    have hav : tcsAV part' ++ [y.av] = tcsAV (part' ++ [y]) := tcs_snoc' part' y.id y.sp
    rw [hav] at hA3 ⊢
    exact ⟨hil, _, _, Gh.keep [1, 4, 5, 6, 7, 8, 25, 26, 27], out', part' ++ [y], vo', vx, Go', G', hO2, hA3, (fun a b e1 e2 => by have := (hO.lt a e1).2; have := hG3 b e2; omega), hol, by rw [List.length_append, List.length_singleton]; omega,
      (fun t ht => by rcases List.mem_append.1 ht with h | h; exact hpo t h; rw [List.mem_singleton.1 h]; exact hone), hcut, rfl⟩
  clear h2
  refine T.seq_k (fun K_h4 h4 => ?_)
  have after : ∀ (cnd : Bool) ρ', ρ'.getD 54 .any = .bool cnd → (cnd = true ↔ part ≠ [] ∧ (((pageB part).length : Int) + (trB y).length > most ∨ part.length = 64)) →
      keep [1, 4, 5, 6, 7, 8, 10, 11, 25, 26, 27] 0 ρ' = [.any, .int .i64 most, .any, .any, .sl [] .nil, .nili, .sl (pgsAV out) vo, .sl (tcsAV part) vp, .int .i64 (6 + ((part.flatMap trB).length : Int)), .any, .ptr a 0, .sl (bytesAV (trB y)) .none] ++ List.replicate 13 .any ++ [.sl (tcsAV l) g, .int .i64 (l.length : Int), .int .i64 (i : Int)] ++ List.replicate 53 .any → K_h4 ρ' τ3 := by
    intro cnd ρ' h54 hc hρ
    refine h4 _ _ ?_
    try clear h4 K_h4
    refine T.cond (b := cnd) h54 (fun hbt => ?_) (fun hbf => T.skip ?_)
    · have hcc := hc.1 hbt
      have hc2 : cutG most l [] = (out ++ [part]) ++ cutG most (l.drop (i + 1)) ([] ++ [y]) := by
        rw [hcut]; conv => lhs; unfold cutG
        rw [if_pos hcc, List.append_assoc]; rfl
      refine T.gh (Gh.keep [1, 4, 5, 6, 7, 8, 10, 11, 25, 26, 27]) ?_
      rw [hρ]
      refine T.regt hm (tbl := []) Tbl.ok_nil ?_
      refine aopsT_cut 3 (fun K_c h_c => ?_)
      try simp only [↓reduceIte, namesOf, List.any, I.names, aops, aopsI, aopsT, qstep, CPt, qget, Tbl.get, astep, ev, setd, List.set, List.getD, List.getElem?_cons_zero, List.getElem?_cons_succ, List.getElem?_nil, List.cons_append, List.nil_append, List.length_cons, List.length_nil, List.replicate, then_normal, inBlock_normal, Option.getD_some, Option.getD_none, Bool.or_false, Bool.or_true, Bool.true_or, Bool.false_or, Bool.false_eq_true, if_false, if_true, up_zero, Nat.reduceAdd, Nat.reduceSub, binv, ↓opt_def, AV.isAny, AV.cells, ldc, List.map_cons, List.map_nil, St.set_next, St.set_same, St.up_next, Int.natCast_nonneg, lt_len, le_len, Int.toNat_natCast, true_and, and_true, eq_self, reduceCtorEq, decide_true, List.length_singleton, er_int, er_bool, er_str, List.take_succ_cons, List.take_zero, held, AV.fits, AV.one, List.all_cons, List.all_nil, Nat.reduceBEq, Bool.and_true, Bool.not_false, Bool.and_self, Nat.zero_add, splice, List.take, List.drop, Nat.reduceLeDiff]
      refine h_c _ _ ?_
      clear h_c K_c
      simp only [List.drop_succ_cons, List.drop_zero, Nat.zero_add, Nat.reduceAdd]
      refine aopsT_acc (hO1.up 7) (by have := hO1.like.next; omega) (by simp) rfl (ys := [.sl (tcsAV part) .none]) ?_ ?_ ?_ (fun x' t' G' hA3 hn3 hG3 ho3 _ => ?_)
      · rfl
      · rw [pgs_snoc]; exact pgs_fits _
      · have hss : [AV.sl (tcsAV part) .none].length = 1 := rfl
        rw [pgs_len, hss]; omega
      try simp only [↓reduceIte, namesOf, List.any, I.names, aops, aopsI, aopsT, qstep, CPt, qget, Tbl.get, astep, ev, setd, List.set, List.getD, List.getElem?_cons_zero, List.getElem?_cons_succ, List.getElem?_nil, List.cons_append, List.nil_append, List.length_cons, List.length_nil, List.replicate, then_normal, inBlock_normal, Option.getD_some, Option.getD_none, Bool.or_false, Bool.or_true, Bool.true_or, Bool.false_or, Bool.false_eq_true, if_false, if_true, up_zero, Nat.reduceAdd, Nat.reduceSub, binv, ↓opt_def, AV.isAny, AV.cells, ldc, List.map_cons, List.map_nil, St.set_next, St.set_same, St.up_next, Int.natCast_nonneg, lt_len, le_len, Int.toNat_natCast, true_and, and_true, eq_self, reduceCtorEq, decide_true, List.length_singleton, er_int, er_bool, er_str, ]
      obtain ⟨vx, rfl⟩ := hA3.ex
      rw [pgs_snoc] at hA3 ⊢
      refine fin _ _ (out ++ [part]) [] vx .nil G' none hA3 (.nil hA3.like) (fun _ _ _ h => by cases h) ?_ (by rw [List.length_append, List.length_singleton]; omega) (by simp) (fun _ h => by cases h) hc2 rfl
      rw [ho3 a (by omega) haO]; exact hb
    · have hcc : ¬ (part ≠ [] ∧ (((pageB part).length : Int) + (trB y).length > most ∨ part.length = 64)) := fun h => by rw [hc.2 h] at hbf; cases hbf
      have hc2 : cutG most l [] = out ++ cutG most (l.drop (i + 1)) (part ++ [y]) := by
        rw [hcut]; conv => lhs; unfold cutG
        rw [if_neg hcc]
      refine fin _ _ out part vo vp Go Gp hO1 hP1 hne hb (by omega) ?_ hpo hc2 hρ
      by_cases hp : part = []
      · subst hp; simp
      · have : ¬ part.length = 64 := fun h => hcc ⟨hp, .inr h⟩
        omega
  by_cases hp : part = []
  · subst hp
    have e1 : decide ((([] : List Tc).length : Int) > 0) = false := rfl
    refine T.regi hm ?_
    simp only [↓reduceIte, namesOf, List.any, I.names, aops, aopsI, aopsT, qstep, CPt, qget, Tbl.get, astep, ev, setd, List.set, List.getD, List.getElem?_cons_zero, List.getElem?_cons_succ, List.getElem?_nil, List.cons_append, List.nil_append, List.length_cons, List.length_nil, List.replicate, then_normal, inBlock_normal, Option.getD_some, Option.getD_none, Bool.or_false, Bool.or_true, Bool.true_or, Bool.false_or, Bool.false_eq_true, if_false, if_true, up_zero, Nat.reduceAdd, Nat.reduceSub, binv, ↓opt_def, AV.isAny, AV.cells, ldc, List.map_cons, List.map_nil, St.set_next, St.set_same, St.up_next, Int.natCast_nonneg, lt_len, le_len, Int.toNat_natCast, true_and, and_true, eq_self, reduceCtorEq, decide_true, List.length_singleton, er_int, er_bool, er_str, tcs_len, e1]
    exact after false _ rfl (by simp) rfl
  · have hpos : 0 < part.length := List.length_pos_iff.2 hp
    have e1 : decide ((part.length : Int) > 0) = true := decide_eq_true (by omega)
    have e5 := page_len6 part
    cases hB : decide (6 + ((part.flatMap trB).length : Int) + ((trB y).length : Int) > most) with
    | true =>
      refine T.regi hm ?_
      simp only [↓reduceIte, namesOf, List.any, I.names, aops, aopsI, aopsT, qstep, CPt, qget, Tbl.get, astep, ev, setd, List.set, List.getD, List.getElem?_cons_zero, List.getElem?_cons_succ, List.getElem?_nil, List.cons_append, List.nil_append, List.length_cons, List.length_nil, List.replicate, then_normal, inBlock_normal, Option.getD_some, Option.getD_none, Bool.or_false, Bool.or_true, Bool.true_or, Bool.false_or, Bool.false_eq_true, if_false, if_true, up_zero, Nat.reduceAdd, Nat.reduceSub, binv, ↓opt_def, AV.isAny, AV.cells, ldc, List.map_cons, List.map_nil, St.set_next, St.set_same, St.up_next, Int.natCast_nonneg, lt_len, le_len, Int.toNat_natCast, true_and, and_true, eq_self, reduceCtorEq, decide_true, List.length_singleton, er_int, er_bool, er_str, tcs_len, bytesAV_len, e1, ew, hB]
      exact after true _ rfl ⟨fun _ => ⟨hp, .inl (by rw [e5]; exact of_decide_eq_true hB)⟩, fun _ => rfl⟩ rfl
    | false =>
      have hB' := of_decide_eq_false hB
      cases hC : ((part.length : Int) == 64) with
      | true =>
        refine T.regi hm ?_
        simp only [↓reduceIte, namesOf, List.any, I.names, aops, aopsI, aopsT, qstep, CPt, qget, Tbl.get, astep, ev, setd, List.set, List.getD, List.getElem?_cons_zero, List.getElem?_cons_succ, List.getElem?_nil, List.cons_append, List.nil_append, List.length_cons, List.length_nil, List.replicate, then_normal, inBlock_normal, Option.getD_some, Option.getD_none, Bool.or_false, Bool.or_true, Bool.true_or, Bool.false_or, Bool.false_eq_true, if_false, if_true, up_zero, Nat.reduceAdd, Nat.reduceSub, binv, ↓opt_def, AV.isAny, AV.cells, ldc, List.map_cons, List.map_nil, St.set_next, St.set_same, St.up_next, Int.natCast_nonneg, lt_len, le_len, Int.toNat_natCast, true_and, and_true, eq_self, reduceCtorEq, decide_true, List.length_singleton, er_int, er_bool, er_str, tcs_len, bytesAV_len, e1, ew, hB, hC]
        exact after true _ rfl ⟨fun _ => ⟨hp, .inr (by have := eq_of_beq hC; omega)⟩, fun _ => rfl⟩ rfl
      | false =>
        refine T.regi hm ?_
        simp only [↓reduceIte, namesOf, List.any, I.names, aops, aopsI, aopsT, qstep, CPt, qget, Tbl.get, astep, ev, setd, List.set, List.getD, List.getElem?_cons_zero, List.getElem?_cons_succ, List.getElem?_nil, List.cons_append, List.nil_append, List.length_cons, List.length_nil, List.replicate, then_normal, inBlock_normal, Option.getD_some, Option.getD_none, Bool.or_false, Bool.or_true, Bool.true_or, Bool.false_or, Bool.false_eq_true, if_false, if_true, up_zero, Nat.reduceAdd, Nat.reduceSub, binv, ↓opt_def, AV.isAny, AV.cells, ldc, List.map_cons, List.map_nil, St.set_next, St.set_same, St.up_next, Int.natCast_nonneg, lt_len, le_len, Int.toNat_natCast, true_and, and_true, eq_self, reduceCtorEq, decide_true, List.length_singleton, er_int, er_bool, er_str, tcs_len, bytesAV_len, e1, ew, hB, hC]
        refine after false _ rfl ⟨fun h => (by cases h), fun h => ?_⟩ rfl
        rcases h.2 with h2 | h2
        · rw [e5] at h2; exact absurd h2 hB'
        · rw [h2] at hC; cases hC

end Go.VL

namespace Go.VL

open Go.Proofs

/-- how many parts -/
theorem cutG_len {most : Int} : ∀ {l part : List Tc}, (cutG most l part).length ≤ l.length + (if part = [] then 0 else 1)
  | [], part => by unfold cutG; split <;> simp_all
  | t :: r, part => by
    unfold cutG
    split
    · rename_i hc
      have := cutG_len (most := most) (l := r) (part := [t])
      rw [if_neg (by simp)] at this
      rw [if_neg hc.1, List.length_cons, List.length_cons]; omega
    · have := cutG_len (most := most) (l := r) (part := part ++ [t])
      rw [if_neg (by simp)] at this
      rw [List.length_cons]; omega

end Go.VL

namespace Go.VL

open Go.Proofs

theorem fewt_facts {m : Int} {l : List Tc} (h : fewtB m l = true) : l.length ≤ 100 ∧ ∀ t ∈ l, t.sp.length ≤ 150 ∧ ∀ s ∈ t.sp, s.da.length ≤ 200 := by
  unfold fewtB fewB at h
  simp only [Bool.and_eq_true, decide_eq_true_eq, List.all_eq_true] at h
  refine ⟨h.1.2, fun t ht => ⟨?_, fun s hs => (h.1.1 t ht).1 s hs⟩⟩
  have := (h.1.1 t ht).2
  omega

theorem cutG_mem {most : Int} {l : List Tc} {p : List Tc} (hp : p ∈ cutG most l []) {t : Tc} (ht : t ∈ p) : t ∈ l := by
  have : t ∈ (cutG most l []).flatten := List.mem_flatten.2 ⟨p, hp, ht⟩
  rwa [cut_flat, List.nil_append] at this

end Go.VL

namespace Go.VL

/-- what the code does not write is known still -/
def mask (c : C) (k : Nat) : List AV → List AV
  | [] => []
  | x :: r => (if c.wr k then .any else x) :: mask c (k + 1) r

theorem mask_vl {κ : Kx} {w : World} {c : C} : ∀ {k : Nat} {vs : List Value} {ρ : List AV}, Vl κ w vs ρ → ∀ {us : List Value}, us.length = vs.length → (∀ i, c.wr (k + i) = false → us[i]? = vs[i]?) → Vl κ w us (mask c k ρ)
  | _, _, _, .nil, us, hl, _ => by
    cases us with
    | nil => exact .nil
    | cons u r => simp at hl
  | k, _, _, .cons v x vs xs h t, us, hl, hu => by
    cases us with
    | nil => simp at hl
    | cons u r =>
      refine .cons _ _ _ _ ?_ (mask_vl t (by simpa using hl) (fun i hi => by simpa using hu (i + 1) (by rw [← hi]; congr 1; omega)))
      split
      · exact .any u
      · rename_i hc
        have := hu 0 (by simpa using hc)
        simp only [List.getElem?_cons_zero, Option.some.injEq] at this
        rw [this]; exact h

section

variable {P : Program} {A : Ann} {κ0 : Kx} {w0 : World} {σ0 : St} {F : Nat → Prop} {a a' : Act} {w w' : World} {κ κ1 : Kx} {ρ ρs : List AV} {σ σs : St} {Q : Ex → List AV → St → Prop}

/-- nothing of what is owned is touched -/
theorem Run.stay (h : Run κ0 w0 σ0 F κ1 a w ρs σs) (hf : Fr (fun _ => False) w w') {c : C} (hs : AsWas (fun i => c.wr i = true) a a') (hd : a'.defers = []) : Run κ0 w0 σ0 F κ1 a' w' (mask c 0 ρs) σs := by
  have hb : ∀ b, b < w.heap.size → w'.heap[b]? = w.heap[b]? := fun b hb => hf.block b hb (fun x => x)
  have e : Ext κ1 w κ1 w' := ⟨fun _ _ x => x, fun _ _ => rfl, fun _ _ => rfl, fun _ _ => rfl, fun _ _ => rfl, fun _ x => x, fun b o hi => cell_same (hb b (h.inv.r.imm b o hi)) o⟩
  refine ⟨⟨h.inv.r.step e h.inv.r.dom (fun b o hi => Nat.lt_of_lt_of_le (h.inv.r.imm b o hi) hf.size) (fun n r hr => .inl ⟨hr, hb _ (h.inv.r.lt hr), fun _ x => x⟩), ?_, ?_, hd⟩, h.ext.trans e, h.dom, h.next⟩
  · exact ⟨hf.os.trans h.inv.fr.os, hf.tape.trans h.inv.fr.tape, hf.output.trans h.inv.fr.output, Nat.le_trans h.inv.fr.size hf.size, fun b hb' hF => (hb b (Nat.lt_of_lt_of_le hb' h.inv.fr.size)).trans (h.inv.fr.block b hb' hF)⟩
  · refine mask_vl (h.inv.env.mono e) (by simpa using hs.1) (fun i hi => ?_)
    rw [Nat.zero_add] at hi
    have := hs.2 i (by simp only [hi]; simp)
    simpa using this

/-- the code c, seen as ρ σ, while it could still be seen as ρs σs -/
def TL (P : Program) (A : Ann) (ρs : List AV) (σs : St) (c : C) (Q : Ex → List AV → St → Prop) (ρ : List AV) (σ : St) : Prop :=
  ∀ (code : Code), compileC P A code = some c → ∀ (κ0 : Kx) (w0 : World) (σ0 : St) (F : Nat → Prop) (κ κ1 : Kx) (a : Act) (w : World), Run κ0 w0 σ0 F κ a w ρ σ → Run κ0 w0 σ0 F κ1 a w ρs σs →
    code.wp P (fun e a' w' => ∃ e' κ' ρ' σ', e = Ex.to e' ∧ Run κ0 w0 σ0 F κ' a' w' ρ' σ' ∧ Q e' ρ' σ' ∧ AsWas (fun i => c.wr i = true) a a') a w

theorem TL.start {c : C} (g : Gh ρs σs ρ σ) (h : TL P A ρs σs c Q ρ σ) : T P A c Q ρs σs := fun code hc κ0 w0 σ0 F κ a w hR => by
  obtain ⟨κ', hR'⟩ := g κ0 w0 σ0 F κ a w hR
  exact h code hc κ0 w0 σ0 F κ' κ a w hR' hR

theorem TL.thaw {c : C} (h : T P A c Q ρs σs) : TL P A ρs σs c Q ρ σ := fun code hc κ0 w0 σ0 F _ κ1 a w _ hR => h code hc κ0 w0 σ0 F κ1 a w hR

theorem TL.gh {c : C} {ρ' : List AV} {σ' : St} (g : Gh ρ σ ρ' σ') (h : TL P A ρs σs c Q ρ' σ') : TL P A ρs σs c Q ρ σ := fun code hc κ0 w0 σ0 F κ κ1 a w hR hR1 => by
  obtain ⟨κ', hR'⟩ := g κ0 w0 σ0 F κ a w hR
  exact h code hc κ0 w0 σ0 F κ' κ1 a w hR' hR1

theorem TL.seq {x y : C} (hno : ∀ n, σ.res n = none) (h : T P A x (Ex.then (TL P A (mask x 0 ρs) σs y Q) Q) ρ σ) : TL P A ρs σs (.seq x y) Q ρ σ := fun code hc κ0 w0 σ0 F κ κ1 a w hR hR1 => by
  obtain ⟨c1, c2, rfl, h1, h2⟩ := compile_seq hc
  have hB : Run κ w σ (fun _ => False) κ a w ρ σ :=
    ⟨⟨⟨hR.inv.r.dom, hR.inv.r.own, hR.inv.r.apart, hR.inv.r.imm, fun n r hr => by rw [hno n] at hr; cases hr⟩, .refl _ _, hR.inv.env, hR.inv.defers⟩, .refl _ _, fun n hn => .inl hn, Nat.le_refl _⟩
  refine wp_seq (wp_mono (h c1 h1 κ w σ _ κ a w hB) ?_)
  rintro e a1 w1 ⟨e', κ', ρ', σ', rfl, hR', hq, hs⟩
  have hs' : AsWas (fun i => (C.seq x y).wr i = true) a a1 := hs.wider fun i hi => by simp [C.wr, hi]
  have hRn : Run κ0 w0 σ0 F κ' a1 w1 ρ' σ' := by
    refine ⟨⟨⟨hR'.inv.r.dom, hR'.inv.r.own, hR'.inv.r.apart, hR'.inv.r.imm, fun n r hr => ?_⟩, ?_, hR'.inv.env, hR'.inv.defers⟩, hR.ext.trans hR'.ext, fun n hn => ?_, Nat.le_trans hR.next hR'.next⟩
    · rcases hR'.inv.r.foot n r hr with hx | hx
      · exact hx.elim
      · exact .inr (Nat.le_trans hR.inv.fr.size hx)
    · have hf := hR'.inv.fr
      have h0 := hR.inv.fr
      exact ⟨hf.os.trans h0.os, hf.tape.trans h0.tape, hf.output.trans h0.output, Nat.le_trans h0.size hf.size, fun b hb hF => (hf.block b (Nat.lt_of_lt_of_le hb h0.size) (fun x => x)).trans (h0.block b hb hF)⟩
    · rcases hR'.dom n hn with hx | hx
      · exact hR.dom n hx
      · exact .inr (Nat.le_trans hR.next hx)
  cases e' with
  | normal =>
    refine wp_mono (hq c2 h2 κ0 w0 σ0 F κ' κ1 a1 w1 hRn (hR1.stay hR'.inv.fr hs hR'.inv.defers)) ?_
    rintro e a2 w2 ⟨e2, κ2, ρ2, σ2, g1, g2, g3, g4⟩
    exact ⟨e2, κ2, ρ2, σ2, g1, g2, g3, hs'.trans (g4.wider fun i hi => by simp [C.wr, hi])⟩
  | exit id => exact ⟨.exit id, κ', ρ', σ', rfl, hRn, hq, hs'⟩
  | ret => exact ⟨.ret, κ', ρ', σ', rfl, hRn, hq, hs'⟩

theorem TL.seq_k {x y : C} (hno : ∀ n, σ.res n = none) (h : ∀ K : List AV → St → Prop, (∀ ρ σ, TL P A (mask x 0 ρs) σs y Q ρ σ → K ρ σ) → T P A x (Ex.then K Q) ρ σ) : TL P A ρs σs (.seq x y) Q ρ σ :=
  TL.seq hno (h _ fun _ _ h => h)

theorem TL.cond {x : X} {c1 c2 : C} {b : Bool} (hb : ev ρ x = .bool b) (h1 : b = true → TL P A ρs σs c1 Q ρ σ) (h2 : b = false → TL P A ρs σs c2 Q ρ σ) : TL P A ρs σs (.cond x c1 c2) Q ρ σ := fun code hc κ0 w0 σ0 F κ κ1 a w hR hR1 => by
  obtain ⟨c, d1, d2, rfl, hx, k1, k2⟩ := compile_cond hc
  have hv := hR.inv.opX hx
  rw [hb] at hv
  refine wp_cond_split (t := b) hv.bool_inv (fun hb => wp_mono (h1 hb d1 k1 κ0 w0 σ0 F κ κ1 a w hR hR1) ?_) (fun hb => wp_mono (h2 hb d2 k2 κ0 w0 σ0 F κ κ1 a w hR hR1) ?_)
  · rintro e a2 w2 ⟨e2, κ2, ρ2, σ2, g1, g2, g3, g4⟩
    exact ⟨e2, κ2, ρ2, σ2, g1, g2, g3, g4.wider fun i hi => by simp [C.wr, hi]⟩
  · rintro e a2 w2 ⟨e2, κ2, ρ2, σ2, g1, g2, g3, g4⟩
    exact ⟨e2, κ2, ρ2, σ2, g1, g2, g3, g4.wider fun i hi => by simp [C.wr, hi]⟩

end

/-- a value that reads so in whatever world of names -/
def Flat (x : AV) : Prop := ∀ (κ κ' : Kx) (w : World) (v : Value), V κ w v x → V κ' w v x

theorem Flat.int (k : IntKind) (n : Int) : Flat (.int k n) := fun _ _ _ _ h => by rw [h.int_inv]; exact .int k n

theorem Flat.vl {κ κ' : Kx} {w : World} : ∀ {vs : List Value} {xs : List AV}, Vl κ w vs xs → (∀ x ∈ xs, Flat x) → Vl κ' w vs xs
  | _, _, .nil, _ => .nil
  | _, _, .cons v x vs xs h t, hf => .cons v x vs xs (hf x (by simp) κ κ' w v h) (Flat.vl t (fun y hy => hf y (List.mem_cons_of_mem _ hy)))

/-- a row that a call made, where nothing was owned: it is owned now -/
theorem ACalls.thaw {P : Program} {f : Nat} {args : List AV} {σ : St} {xs : List AV} {k : Nat} (hno : ∀ n, σ.res n = none) (hfl : ∀ x ∈ xs.flatMap AV.cells, Flat x)
    (h : ACalls P f args σ (fun v σ' => ∃ g, OneTip σ σ' g k ∧ v = .tup [.sl xs (.tip g), .nili])) :
    ACalls P f args σ (fun v σ' => ∃ g o, v = .tup [.ref g o xs.length, .nili] ∧ σ.next ≤ g ∧ g < σ'.next ∧ σ'.res = (σ.set g (.obj (List.replicate o .any ++ xs.flatMap AV.cells))).res) := by
  refine ⟨h.1, fun κ w vs B F hR hv => (h.2 κ w vs B F hR hv).mono ?_⟩
  rintro e w' ⟨v, x, κ', σ', rfl, he, hd, hR', hf, hn, hvx, g, ot, rfl⟩
  obtain ⟨u, rfl, hu⟩ := hvx.tup_inv
  cases hu with
  | cons v1 _ r1 _ hv1 t1 =>
    cases t1 with
    | cons v2 _ r2 _ hv2 t2 =>
      cases t2
      have hg : σ'.res g = some (.tip k) := ot.at_
      obtain ⟨hgd, hξ, us, ty, fz, g1, g2, g3, g4⟩ := hR'.own g _ hg
      have hnew : w.heap.size ≤ κ'.φ g := by
        rcases hR'.foot g _ hg with ⟨n, r, hn, _⟩ | hx
        · rw [hno n] at hn; cases hn
        · exact hx
      cases hv1 with
      | slnil _ hx => rcases hx with h | h | h <;> cases h
      | slz _ _ hx => rcases hx with h | h <;> cases h
      | tip o cap _ _ hk hc hg' hee hrr hs =>
        let κ2 : Kx := { κ' with I := fun b o => κ'.I b o ∧ b ≠ κ'.φ g }
        have hcell : ∀ b o, κ.I b o → b ≠ κ'.φ g := fun b o hi hb => by have := hR.imm b o hi; omega
        have he2 : Ext κ w κ2 w' := ⟨fun b o hi => ⟨he.I b o hi, hcell b o hi⟩, he.φ, he.ψ, he.χ, he.ξ, he.dom, he.cell⟩
        obtain ⟨cs, c1, c2, c3⟩ := hs.row
        let L := (xs.flatMap AV.cells).length
        have hcs : ∀ i (hi : i < cs.length), us[o + i]? = some cs[i] := fun i hi => by
          have := c3 i cs[i] (by simp [hi])
          rw [cell_of g1] at this
          exact this
        have hol : o + cs.length ≤ us.length ∨ cs = [] := by
          rcases Nat.eq_zero_or_pos cs.length with hz | hp
          · exact .inr (List.length_eq_zero_iff.1 hz)
          · have := hcs (cs.length - 1) (by omega)
            have := (List.getElem?_eq_some_iff.1 this).1
            exact .inl (by omega)
        have hou : o ≤ us.length := by
          have : κ'.χ g ≤ us.length := g3
          rw [hrr] at this; exact Nat.le_trans (Nat.le_add_right _ _) this
        have hsplit : us = (us.take o ++ cs) ++ us.drop (o + cs.length) := by
          apply List.ext_getElem?
          intro i
          rcases Nat.lt_or_ge i o with h1 | h1
          · rw [List.append_assoc, List.getElem?_append_left (by rw [List.length_take]; omega), List.getElem?_take, if_pos h1]
          · rcases Nat.lt_or_ge i (o + cs.length) with h2 | h2
            · rw [List.getElem?_append_left (by rw [List.length_append, List.length_take]; omega), List.getElem?_append_right (by rw [List.length_take]; omega), List.length_take, Nat.min_eq_left hou]
              have := hcs (i - o) (by omega)
              rw [show o + (i - o) = i by omega] at this
              rw [this]; simp [show i - o < cs.length by omega]
            · rw [List.getElem?_append_right (by rw [List.length_append, List.length_take]; omega), List.length_append, List.length_take, Nat.min_eq_left hou, List.getElem?_drop]
              congr 1; omega
        have hvl : Vl κ2 w' (us.take o ++ cs) (List.replicate o .any ++ xs.flatMap AV.cells) := by
          refine Vl.append ?_ (Flat.vl c1 hfl)
          have := Vl.anys (κ := κ2) (w := w') (us.take o)
          rwa [List.length_take, Nat.min_eq_left hou] at this
        refine ⟨_, .tup [.ref g o xs.length, .nili], κ2, ⟨σ'.next, (σ.set g (.obj (List.replicate o .any ++ xs.flatMap AV.cells))).res⟩, rfl, he2, hd, ?_, hf, hn, .tup _ _ (.cons _ _ _ _ (.ref (κ := κ2) g o xs.length cap hgd hc) (.cons _ _ _ _ (by rw [hv2.nili_inv]; exact .nili) .nil)), g, o, rfl, ot.lo, ot.hi, rfl⟩
        have hres : ∀ n r, (σ.set g (.obj (List.replicate o .any ++ xs.flatMap AV.cells))).res n = some r → n = g ∧ r = .obj (List.replicate o .any ++ xs.flatMap AV.cells) := fun n r hr => by
          by_cases hng : n = g
          · subst hng; simp only [St.set_same, Option.some.injEq] at hr; exact ⟨rfl, hr.symm⟩
          · rw [St.set_other _ _ hng, hno n] at hr; cases hr
        refine ⟨hR'.dom, fun n r hr => ?_, fun n m r s hr hs _ => ?_, fun b o hi => hR'.imm b o hi.1, fun n r hr => ?_⟩
        · obtain ⟨rfl, rfl⟩ := hres n r hr
          refine ⟨hgd, us.take o ++ cs, us.drop (o + cs.length), ty, fz, by rw [← hsplit]; exact g1, ?_, hvl, fun o hi => hi.2 rfl⟩
          rcases g2 with hz | hz
          · exact .inl hz
          · refine .inr (Nat.le_trans ?_ hz)
            rw [List.length_append, List.length_take]
            rcases hol with h1 | h1
            · omega
            · subst h1; simp only [List.length_nil]; omega
        · rw [(hres n r hr).1, (hres m s hs).1]
        · rw [(hres n r hr).1]; exact .inr hnew

end Go.VL

namespace Go.VL

open Go.Proofs

theorem bitstep_zero {x : BitVec 32} (h : bitstep x = 0#32) : x = 0#32 := by
  unfold bitstep at h
  have hx : x.getLsbD 0 = decide (x.toNat % 2 = 1) := by rw [BitVec.getLsbD, Nat.testBit_zero]
  have hs : (x >>> 1).toNat = x.toNat / 2 := by rw [BitVec.toNat_ushiftRight, Nat.shiftRight_eq_div_pow]
  have hl := x.isLt
  split at h
  · have h2 : x >>> 1 = 0xEDB88320#32 := by
      have := congrArg (· ^^^ 0xEDB88320#32) h
      simpa [BitVec.xor_assoc] using this
    have h3 := congrArg BitVec.toNat h2
    rw [hs] at h3
    have h4 : (0xEDB88320#32 : BitVec 32).toNat = 3988292384 := rfl
    rw [h4] at h3
    omega
  · rename_i h0
    rw [hx, decide_eq_true_eq] at h0
    have h3 := congrArg BitVec.toNat h
    rw [hs] at h3
    have h4 : (0#32 : BitVec 32).toNat = 0 := rfl
    rw [h4] at h3
    apply BitVec.eq_of_toNat_eq
    rw [h4]; omega

theorem bitstep_inj {a b : BitVec 32} (h : bitstep a = bitstep b) : a = b := by
  have h1 : bitstep (a ^^^ b) = 0#32 := by rw [bitstep_xor, h, BitVec.xor_self]
  have h2 := congrArg (· ^^^ b) (bitstep_zero h1)
  simpa [BitVec.xor_assoc] using h2

theorem stepN_inj : ∀ {n : Nat} {a b : BitVec 32}, stepN n a = stepN n b → a = b
  | 0, _, _, h => h
  | n + 1, _, _, h => bitstep_inj (stepN_inj (n := n) h)

theorem crcRun_inj : ∀ {l : List UInt8} {a b : BitVec 32}, crcRun a l = crcRun b l → a = b
  | [], _, _, h => h
  | c :: r, a, b, h => by
    have h1 := stepN_inj (crcRun_inj (l := r) h)
    have h2 := congrArg (· ^^^ BitVec.ofNat 32 c.toNat) h1
    simpa [BitVec.xor_assoc] using h2

theorem crcRun_app : ∀ {l m : List UInt8} {a : BitVec 32}, crcRun a (l ++ m) = crcRun (crcRun a l) m
  | [], _, _ => rfl
  | c :: r, m, a => by show crcRun _ (r ++ m) = _; rw [crcRun_app]; rfl

theorem crc_byte {p q : List UInt8} {c d : UInt8} (h : crcOf (p ++ c :: q) = crcOf (p ++ d :: q)) : c = d := by
  unfold crcOf at h
  have h1 := BitVec.eq_of_toNat_eq h
  have h2 := congrArg (fun x => ~~~ x) h1
  simp only [BitVec.not_not] at h2
  rw [crcRun_app, crcRun_app] at h2
  have h3 := stepN_inj (crcRun_inj (l := q) h2)
  have h4 := congrArg (crcRun 0xffffffff#32 p ^^^ ·) h3
  simp only [← BitVec.xor_assoc, BitVec.xor_self, BitVec.zero_xor] at h4
  have h5 := congrArg BitVec.toNat h4
  have hc := c.toNat_lt
  have hd := d.toNat_lt
  rw [BitVec.toNat_ofNat, BitVec.toNat_ofNat, Nat.mod_eq_of_lt (by omega), Nat.mod_eq_of_lt (by omega)] at h5
  exact UInt8.toNat_inj.1 h5

/-- one byte another: it isn't sealed -/
theorem open_cut {l : List UInt8} {i : Nat} {c : UInt8} (hi : i < (sealB l).length) (hc : c ≠ (sealB l)[i]) : openB ((sealB l).set i c) = (7, []) := by
  have hlen : (sealB l).length = l.length + 4 := by unfold sealB; rw [List.length_append, beB_len]
  unfold openB
  rw [List.length_set, hlen, if_neg (by omega), Nat.add_sub_cancel, if_neg]
  intro h
  rcases Nat.lt_or_ge i l.length with hil | hil
  · have hs : (sealB l).set i c = l.set i c ++ beB 4 (crcOf l) := by unfold sealB; rw [List.set_append_left _ _ hil]
    rw [hs, List.take_left' (by rw [List.length_set])] at h
    have h2 : beB 4 (crcOf l) = beB 4 (crcOf (l.set i c)) := List.append_cancel_left h
    have h3 := congrArg numB h2
    rw [numB_beB 4 _ (by have := crcOf_lt l; omega), numB_beB 4 _ (by have := crcOf_lt (l.set i c); omega)] at h3
    have e1 : l = l.take i ++ l[i] :: l.drop (i + 1) := by rw [List.getElem_cons_drop, List.take_append_drop]
    have e2 : l.set i c = l.take i ++ c :: l.drop (i + 1) := by rw [List.set_eq_take_append_cons_drop, if_pos hil]
    have e3 : (sealB l)[i] = l[i] := List.getElem_append_left hil
    have hz := crc_byte (p := l.take i) (q := l.drop (i + 1)) (c := l[i]) (d := c) (by rw [← e1, ← e2]; exact h3)
    exact hc (by rw [e3, hz])
  · have ht : ((sealB l).set i c).take l.length = l := by
      rw [List.take_set_of_le hil]; unfold sealB; simp
    rw [ht] at h
    have : ((sealB l).set i c)[i]? = (sealB l)[i]? := congrArg (fun m : List UInt8 => m[i]?) h
    rw [List.getElem?_set_self hi, List.getElem?_eq_getElem hi] at this
    exact hc (Option.some.inj this)

end Go.VL

namespace Go.VL

open Go.Proofs

/-- what a call leaves: a named end; all else that it named is given back -/
theorem Fin.tipped {σ0 : St} {rs : List RX} {K : AV → St → Prop} {ρ : List AV} {σ : St} {xs : List AV} {g k : Nat} (wf : WF σ0) (h1 : rvals ρ σ rs = some xs) (hq : Tq σ0 σ g k) (hx : Nat → (pack xs).nb σ.next) (h2 : K (pack xs) ⟨σ.next, (σ0.set g (.tip k)).res⟩) : Fin σ0 rs K .ret ρ σ :=
  ⟨ρ, σ, xs, pack xs, ⟨σ.next, (σ0.set g (.tip k)).res⟩, .refl, h1, .cut hq.like.next (hx 0) (fun n r hn => by
    by_cases e : n = g
    · subst e
      rw [St.set_same] at hn
      exact ⟨by rw [hq.at_]; exact hn, .inr ⟨hq.hi, by rw [← Option.some.inj hn]; trivial⟩⟩
    · rw [St.set_other _ _ e] at hn
      exact ⟨hq.like.get (wf.lt hn) hn, .inl hn⟩), h2⟩

set_option maxRecDepth 10000 in
set_option maxHeartbeats 1000000 in
theorem ppput_tip {l : List Tc} {g : Ver} {σ : St} (hl : l.length ≤ 9223372036854775807) (hs : ∀ t ∈ l, t.sp.length ≤ 9223372036854775807) (hok : pputB l = true) :
    ACalls Try.prog n_ppput [.sl (tcsAV l) g] σ (fun v σ' => ∃ h, OneTip σ σ' h 1 ∧ v = .tup [.sl (bytesAV (pageB l)) (.tip h), .nili]) := by
  refine s_ppput (fun wf => ?_)
  unfold c_ppput
  refine T.seq_k (fun K_h0 h0 => ?_)
  refine T.regi hm ?_
  simp only [↓reduceIte, namesOf, List.any, I.names, aops, aopsI, aopsT, qstep, CPt, qget, Tbl.get, astep, ev, setd, List.set, List.getD, List.getElem?_cons_zero, List.getElem?_cons_succ, List.getElem?_nil, List.cons_append, List.nil_append, List.length_cons, List.length_nil, List.replicate, then_normal, inBlock_normal, Option.getD_some, Option.getD_none, Bool.or_false, Bool.or_true, Bool.true_or, Bool.false_or, Bool.false_eq_true, if_false, if_true, up_zero, Nat.reduceAdd, Nat.reduceSub, binv, ↓opt_def, AV.isAny, AV.cells, ldc, List.map_cons, List.map_nil, St.set_next, St.set_same, St.up_next, Int.natCast_nonneg, lt_len, le_len, Int.toNat_natCast, true_and, and_true, eq_self, reduceCtorEq, decide_true, List.length_singleton, er_int, er_bool, er_str]
  refine h0 _ _ ?_
  try clear h0 K_h0
  refine T.seq_k (fun K_h1 h1 => ?_)
  refine T.seq_k (fun K_h2 h2 => ?_)
  refine T.regi hm ?_
  simp only [↓reduceIte, namesOf, List.any, I.names, aops, aopsI, aopsT, qstep, CPt, qget, Tbl.get, astep, ev, setd, List.set, List.getD, List.getElem?_cons_zero, List.getElem?_cons_succ, List.getElem?_nil, List.cons_append, List.nil_append, List.length_cons, List.length_nil, List.replicate, then_normal, inBlock_normal, Option.getD_some, Option.getD_none, Bool.or_false, Bool.or_true, Bool.true_or, Bool.false_or, Bool.false_eq_true, if_false, if_true, up_zero, Nat.reduceAdd, Nat.reduceSub, binv, ↓opt_def, AV.isAny, AV.cells, ldc, List.map_cons, List.map_nil, St.set_next, St.set_same, St.up_next, Int.natCast_nonneg, lt_len, le_len, Int.toNat_natCast, true_and, and_true, eq_self, reduceCtorEq, decide_true, List.length_singleton, er_int, er_bool, er_str]
  refine (is_ok hl hs).mono ?_
  rintro v σ1 ⟨rfl, rfl⟩
  have hok' := hok
  unfold pputB at hok'
  simp only [Bool.and_eq_true, decide_eq_true_eq] at hok'
  obtain ⟨his, c1⟩ := hok'
  rw [his]
  have e1 : decide ((l.length : Int) > 64) = false := decide_eq_false (by omega)
  try simp only [↓reduceIte, namesOf, List.any, I.names, aops, aopsI, aopsT, qstep, CPt, qget, Tbl.get, astep, ev, setd, List.set, List.getD, List.getElem?_cons_zero, List.getElem?_cons_succ, List.getElem?_nil, List.cons_append, List.nil_append, List.length_cons, List.length_nil, List.replicate, then_normal, inBlock_normal, Option.getD_some, Option.getD_none, Bool.or_false, Bool.or_true, Bool.true_or, Bool.false_or, Bool.false_eq_true, if_false, if_true, up_zero, Nat.reduceAdd, Nat.reduceSub, binv, ↓opt_def, AV.isAny, AV.cells, ldc, List.map_cons, List.map_nil, St.set_next, St.set_same, St.up_next, Int.natCast_nonneg, lt_len, le_len, Int.toNat_natCast, true_and, and_true, eq_self, reduceCtorEq, decide_true, List.length_singleton, er_int, er_bool, er_str, up_zero, Bool.not_true, tcs_len, e1]
  refine h2 _ _ ?_
  try clear h2 K_h2
  refine T.cond rfl (fun h => by cases h) (fun _ => T.skip ?_)
  refine h1 _ _ ?_
  try clear h1 K_h1
  have e2 := u64w (n := l.length) (by omega)
  have hnil : AV.sl [] .nil = .sl (bytesAV []) .nil := rfl
  refine T.seq_k (fun K_h1 h1 => ?_)
  rw [hnil]
  refine T.regi hm ?_
  simp only [↓reduceIte, namesOf, List.any, I.names, aops, aopsI, aopsT, qstep, CPt, qget, Tbl.get, astep, ev, setd, List.set, List.getD, List.getElem?_cons_zero, List.getElem?_cons_succ, List.getElem?_nil, List.cons_append, List.nil_append, List.length_cons, List.length_nil, List.replicate, then_normal, inBlock_normal, Option.getD_some, Option.getD_none, Bool.or_false, Bool.or_true, Bool.true_or, Bool.false_or, Bool.false_eq_true, if_false, if_true, up_zero, Nat.reduceAdd, Nat.reduceSub, binv, ↓opt_def, AV.isAny, AV.cells, ldc, List.map_cons, List.map_nil, St.set_next, St.set_same, St.up_next, Int.natCast_nonneg, lt_len, le_len, Int.toNat_natCast, true_and, and_true, eq_self, reduceCtorEq, decide_true, List.length_singleton, er_int, er_bool, er_str, tcs_len, e2]
  refine (wput_ok (l := []) (w := 2) (by simp) rfl (fun _ => by omega)).mono ?_
  rintro v σ2 ⟨h, o1, rfl⟩
  rw [List.nil_append, ← hnil]
  have q0 := Tq.one o1
  clear o1
  try simp only [↓reduceIte, namesOf, List.any, I.names, aops, aopsI, aopsT, qstep, CPt, qget, Tbl.get, astep, ev, setd, List.set, List.getD, List.getElem?_cons_zero, List.getElem?_cons_succ, List.getElem?_nil, List.cons_append, List.nil_append, List.length_cons, List.length_nil, List.replicate, then_normal, inBlock_normal, Option.getD_some, Option.getD_none, Bool.or_false, Bool.or_true, Bool.true_or, Bool.false_or, Bool.false_eq_true, if_false, if_true, up_zero, Nat.reduceAdd, Nat.reduceSub, binv, ↓opt_def, AV.isAny, AV.cells, ldc, List.map_cons, List.map_nil, St.set_next, St.set_same, St.up_next, Int.natCast_nonneg, lt_len, le_len, Int.toNat_natCast, true_and, and_true, eq_self, reduceCtorEq, decide_true, List.length_singleton, er_int, er_bool, er_str, up_zero]
  refine h1 _ _ ?_
  try clear h1 K_h1
  refine T.seq_k (fun K_h1 h1 => ?_)
  refine T.seq_k (fun K_h0 h0 => ?_)
  refine T.regi hm ?_
  simp only [↓reduceIte, namesOf, List.any, I.names, aops, aopsI, aopsT, qstep, CPt, qget, Tbl.get, astep, ev, setd, List.set, List.getD, List.getElem?_cons_zero, List.getElem?_cons_succ, List.getElem?_nil, List.cons_append, List.nil_append, List.length_cons, List.length_nil, List.replicate, then_normal, inBlock_normal, Option.getD_some, Option.getD_none, Bool.or_false, Bool.or_true, Bool.true_or, Bool.false_or, Bool.false_eq_true, if_false, if_true, up_zero, Nat.reduceAdd, Nat.reduceSub, binv, ↓opt_def, AV.isAny, AV.cells, ldc, List.map_cons, List.map_nil, St.set_next, St.set_same, St.up_next, Int.natCast_nonneg, lt_len, le_len, Int.toNat_natCast, true_and, and_true, eq_self, reduceCtorEq, decide_true, List.length_singleton, er_int, er_bool, er_str, eqIv, bne_self_eq_false]
  refine h0 _ _ ?_
  try clear h0 K_h0
  refine T.cond rfl (fun h => by cases h) (fun _ => T.skip ?_)
  refine h1 _ _ ?_
  try clear h1 K_h1
  have hfl : (l.flatMap trB).length ≤ 64 * 30000 := Nat.le_trans (trs_le (fun t ht => trB_le (is_each his ht))) (Nat.mul_le_mul_right _ (by omega))
  refine T.seq_k (fun K_h1 h1 => ?_)
  refine T.seq_k (fun K_h0 h0 => ?_)
  refine T.regi hm ?_
  simp only [↓reduceIte, namesOf, List.any, I.names, aops, aopsI, aopsT, qstep, CPt, qget, Tbl.get, astep, ev, setd, List.set, List.getD, List.getElem?_cons_zero, List.getElem?_cons_succ, List.getElem?_nil, List.cons_append, List.nil_append, List.length_cons, List.length_nil, List.replicate, then_normal, inBlock_normal, Option.getD_some, Option.getD_none, Bool.or_false, Bool.or_true, Bool.true_or, Bool.false_or, Bool.false_eq_true, if_false, if_true, up_zero, Nat.reduceAdd, Nat.reduceSub, binv, ↓opt_def, AV.isAny, AV.cells, ldc, List.map_cons, List.map_nil, St.set_next, St.set_same, St.up_next, Int.natCast_nonneg, lt_len, le_len, Int.toNat_natCast, true_and, and_true, eq_self, reduceCtorEq, decide_true, List.length_singleton, er_int, er_bool, er_str, tcs_len]
  refine h0 _ _ ?_
  try clear h0 K_h0
  refine T.block ?_
  refine T.gh (Gh.keep [2, 3, 4, 29, 30, 31]) ?_
  refine T.loopi (fun i ρ t => (∃ g1, Tq σ1 t g1 1 ∧ ρ = [.any, .any, .sl [] .nil, .nili, .sl (bytesAV (beB 2 l.length ++ (l.take i).flatMap trB)) (.tip g1)] ++ List.replicate 24 .any ++ [.sl (tcsAV l) g, .int .i64 (l.length : Int), .int .i64 (i : Int)] ++ List.replicate 17 .any))
    l.length 0 (Nat.zero_le _) ⟨h, q0, by rw [List.take_zero, List.flatMap_nil, List.append_nil]; rfl⟩ ?_
  clear q0 h
  rintro i ρ t hi ⟨h, q0, rfl⟩
  refine T.seq_k (fun K_h0 h0 => ?_)
  refine T.regi hm ?_
  simp only [↓reduceIte, namesOf, List.any, I.names, aops, aopsI, aopsT, qstep, CPt, qget, Tbl.get, astep, ev, setd, List.set, List.getD, List.getElem?_cons_zero, List.getElem?_cons_succ, List.getElem?_nil, List.cons_append, List.nil_append, List.length_cons, List.length_nil, List.replicate, then_normal, inBlock_normal, Option.getD_some, Option.getD_none, Bool.or_false, Bool.or_true, Bool.true_or, Bool.false_or, Bool.false_eq_true, if_false, if_true, up_zero, Nat.reduceAdd, Nat.reduceSub, binv, ↓opt_def, AV.isAny, AV.cells, ldc, List.map_cons, List.map_nil, St.set_next, St.set_same, St.up_next, Int.natCast_nonneg, lt_len, le_len, Int.toNat_natCast, true_and, and_true, eq_self, reduceCtorEq, decide_true, List.length_singleton, er_int, er_bool, er_str]
  refine h0 _ _ ?_
  try clear h0 K_h0
  refine T.seq_k (fun K_h2 h2 => ?_)
  by_cases hil : i < l.length
  case neg =>
    refine T.cond (b := false) (by simp [ev]; omega) (fun h => by cases h) (fun _ => T.exit ?_)
    have : i = l.length := by omega
    subst this
    rw [List.take_length]
    try simp only [↓reduceIte, namesOf, List.any, I.names, aops, aopsI, aopsT, qstep, CPt, qget, Tbl.get, astep, ev, setd, List.set, List.getD, List.getElem?_cons_zero, List.getElem?_cons_succ, List.getElem?_nil, List.cons_append, List.nil_append, List.length_cons, List.length_nil, List.replicate, then_normal, inBlock_normal, Option.getD_some, Option.getD_none, Bool.or_false, Bool.or_true, Bool.true_or, Bool.false_or, Bool.false_eq_true, if_false, if_true, up_zero, Nat.reduceAdd, Nat.reduceSub, binv, ↓opt_def, AV.isAny, AV.cells, ldc, List.map_cons, List.map_nil, St.set_next, St.set_same, St.up_next, Int.natCast_nonneg, lt_len, le_len, Int.toNat_natCast, true_and, and_true, eq_self, reduceCtorEq, decide_true, List.length_singleton, er_int, er_bool, er_str, inBlock_exit, then_exit]
    refine h1 _ _ ?_
    try clear h1 K_h1
    refine T.seq_k (fun K_h1 h1 => ?_)
    refine T.regi hm ?_
    simp only [↓reduceIte, namesOf, List.any, I.names, aops, aopsI, aopsT, qstep, CPt, qget, Tbl.get, astep, ev, setd, List.set, List.getD, List.getElem?_cons_zero, List.getElem?_cons_succ, List.getElem?_nil, List.cons_append, List.nil_append, List.length_cons, List.length_nil, List.replicate, then_normal, inBlock_normal, Option.getD_some, Option.getD_none, Bool.or_false, Bool.or_true, Bool.true_or, Bool.false_or, Bool.false_eq_true, if_false, if_true, up_zero, Nat.reduceAdd, Nat.reduceSub, binv, ↓opt_def, AV.isAny, AV.cells, ldc, List.map_cons, List.map_nil, St.set_next, St.set_same, St.up_next, Int.natCast_nonneg, lt_len, le_len, Int.toNat_natCast, true_and, and_true, eq_self, reduceCtorEq, decide_true, List.length_singleton, er_int, er_bool, er_str]
    refine (cseal_ok (by rw [List.length_append, beB_len]; omega)).mono ?_
    rintro v t2 ⟨h3, o3, rfl⟩
    have q3 : Tq σ1 t2 h3 1 := Tq.trans q0.like (Tq.one o3)
    try simp only [↓reduceIte, namesOf, List.any, I.names, aops, aopsI, aopsT, qstep, CPt, qget, Tbl.get, astep, ev, setd, List.set, List.getD, List.getElem?_cons_zero, List.getElem?_cons_succ, List.getElem?_nil, List.cons_append, List.nil_append, List.length_cons, List.length_nil, List.replicate, then_normal, inBlock_normal, Option.getD_some, Option.getD_none, Bool.or_false, Bool.or_true, Bool.true_or, Bool.false_or, Bool.false_eq_true, if_false, if_true, up_zero, Nat.reduceAdd, Nat.reduceSub, binv, ↓opt_def, AV.isAny, AV.cells, ldc, List.map_cons, List.map_nil, St.set_next, St.set_same, St.up_next, Int.natCast_nonneg, lt_len, le_len, Int.toNat_natCast, true_and, and_true, eq_self, reduceCtorEq, decide_true, List.length_singleton, er_int, er_bool, er_str, up_zero]
    refine h1 _ _ ?_
    try clear h1 K_h1
    exact T.ret (Fin.tipped wf rfl q3 (fun m => ⟨⟨nb_bytes _ _, q3.hi⟩, trivial, trivial⟩) ⟨_, OneTip.mk q3.lo q3.hi rfl, rfl⟩)
  refine T.cond (b := true) (by simp [ev]; omega) (fun _ => T.skip ?_) (fun h => by cases h)
  refine h2 _ _ ?_
  try clear h2 K_h2
  have hiw := inc64' hil (by omega)
  have hilI : (i : Int) < (l.length : Int) := by omega
  have hg := tcs_get hil
  have hfs := flat_snoc trB hil
  have hone := is_each his (List.getElem_mem hil)
  have hpl : ((l.take i).flatMap trB).length ≤ 64 * 30000 := by
    refine Nat.le_trans (trs_le (fun t ht => trB_le (is_each his (List.mem_of_mem_take ht)))) (Nat.mul_le_mul_right _ ?_)
    rw [List.length_take]; omega
  generalize l[i] = x at hg hfs hone
  rw [tcav'] at hg
  obtain ⟨o1, o2, o3⟩ := one_facts hone
  have otl := trB_le hone
  refine T.seq_k (fun K_h2 h2 => ?_)
  refine T.block ?_
  refine T.seq_k (fun K_h3 h3 => ?_)
  refine T.regi hm ?_
  simp only [↓reduceIte, namesOf, List.any, I.names, aops, aopsI, aopsT, qstep, CPt, qget, Tbl.get, astep, ev, setd, List.set, List.getD, List.getElem?_cons_zero, List.getElem?_cons_succ, List.getElem?_nil, List.cons_append, List.nil_append, List.length_cons, List.length_nil, List.replicate, then_normal, inBlock_normal, Option.getD_some, Option.getD_none, Bool.or_false, Bool.or_true, Bool.true_or, Bool.false_or, Bool.false_eq_true, if_false, if_true, up_zero, Nat.reduceAdd, Nat.reduceSub, binv, ↓opt_def, AV.isAny, AV.cells, ldc, List.map_cons, List.map_nil, St.set_next, St.set_same, St.up_next, Int.natCast_nonneg, lt_len, le_len, Int.toNat_natCast, true_and, and_true, eq_self, reduceCtorEq, decide_true, List.length_singleton, er_int, er_bool, er_str, tcs_len, hg, hilI, AV.fits, AV.one, List.all_cons, List.all_nil, Nat.reduceBEq, Bool.and_true, Bool.not_false, Bool.and_self, Nat.zero_add, splice, List.take, List.drop, Nat.reduceLeDiff, St.set_set]
  have q1 := q0.box (n := 4) (i := 2) (by omega) (.obj [.int .u64 (x.id : Int), .sl (spsAV x.sp) .none])
  have hb : ((t.up 4).set (t.next + 2) (.obj [.int .u64 (x.id : Int), .sl (spsAV x.sp) .none])).res (t.next + 2) = some (.obj [.int .u64 (x.id : Int), .sl (spsAV x.sp) .none]) := by simp
  generalize ((t.up 4).set (t.next + 2) (.obj [.int .u64 (x.id : Int), .sl (spsAV x.sp) .none])) = τ at q1 hb ⊢
  generalize t.next + 2 = a at hb ⊢
  clear q0
  refine h3 _ _ ?_
  try clear h3 K_h3
  refine T.seq_k (fun K_h3 h3 => ?_)
  refine T.regi hm ?_
  simp only [↓reduceIte, namesOf, List.any, I.names, aops, aopsI, aopsT, qstep, CPt, qget, Tbl.get, astep, ev, setd, List.set, List.getD, List.getElem?_cons_zero, List.getElem?_cons_succ, List.getElem?_nil, List.cons_append, List.nil_append, List.length_cons, List.length_nil, List.replicate, then_normal, inBlock_normal, Option.getD_some, Option.getD_none, Bool.or_false, Bool.or_true, Bool.true_or, Bool.false_or, Bool.false_eq_true, if_false, if_true, up_zero, Nat.reduceAdd, Nat.reduceSub, binv, ↓opt_def, AV.isAny, AV.cells, ldc, List.map_cons, List.map_nil, St.set_next, St.set_same, St.up_next, Int.natCast_nonneg, lt_len, le_len, Int.toNat_natCast, true_and, and_true, eq_self, reduceCtorEq, decide_true, List.length_singleton, er_int, er_bool, er_str, hb, AV.fits, AV.one, List.all_cons, List.all_nil, Nat.reduceBEq, Bool.and_true, Bool.not_false, Bool.and_self, Nat.zero_add, splice, List.take, List.drop, Nat.reduceLeDiff]
  refine (pput1_ok (by omega) o1).mono ?_
  rintro v τ3 ⟨rfl, rfl⟩
  try simp only [↓reduceIte, namesOf, List.any, I.names, aops, aopsI, aopsT, qstep, CPt, qget, Tbl.get, astep, ev, setd, List.set, List.getD, List.getElem?_cons_zero, List.getElem?_cons_succ, List.getElem?_nil, List.cons_append, List.nil_append, List.length_cons, List.length_nil, List.replicate, then_normal, inBlock_normal, Option.getD_some, Option.getD_none, Bool.or_false, Bool.or_true, Bool.true_or, Bool.false_or, Bool.false_eq_true, if_false, if_true, up_zero, Nat.reduceAdd, Nat.reduceSub, binv, ↓opt_def, AV.isAny, AV.cells, ldc, List.map_cons, List.map_nil, St.set_next, St.set_same, St.up_next, Int.natCast_nonneg, lt_len, le_len, Int.toNat_natCast, true_and, and_true, eq_self, reduceCtorEq, decide_true, List.length_singleton, er_int, er_bool, er_str, up_zero]
  refine h3 _ _ ?_
  try clear h3 K_h3
  refine T.seq_k (fun K_h3 h3 => ?_)
  refine T.seq_k (fun K_h0 h0 => ?_)
  refine T.regi hm ?_
  simp only [↓reduceIte, namesOf, List.any, I.names, aops, aopsI, aopsT, qstep, CPt, qget, Tbl.get, astep, ev, setd, List.set, List.getD, List.getElem?_cons_zero, List.getElem?_cons_succ, List.getElem?_nil, List.cons_append, List.nil_append, List.length_cons, List.length_nil, List.replicate, then_normal, inBlock_normal, Option.getD_some, Option.getD_none, Bool.or_false, Bool.or_true, Bool.true_or, Bool.false_or, Bool.false_eq_true, if_false, if_true, up_zero, Nat.reduceAdd, Nat.reduceSub, binv, ↓opt_def, AV.isAny, AV.cells, ldc, List.map_cons, List.map_nil, St.set_next, St.set_same, St.up_next, Int.natCast_nonneg, lt_len, le_len, Int.toNat_natCast, true_and, and_true, eq_self, reduceCtorEq, decide_true, List.length_singleton, er_int, er_bool, er_str, eqIv, bne_self_eq_false]
  refine h0 _ _ ?_
  try clear h0 K_h0
  refine T.cond rfl (fun h => by cases h) (fun _ => T.skip ?_)
  refine h3 _ _ ?_
  try clear h3 K_h3
  have hat := q1.ats
  have hle : decide ((2 + ((l.take i).flatMap trB).length + (trB x).length) * 1 ≤ 70368744177664 ∧ 2 + ((l.take i).flatMap trB).length + (trB x).length ≤ 4611686018427387904) = true := app_le (by omega)
  refine T.regi hm ?_
  simp only [↓reduceIte, namesOf, List.any, I.names, aops, aopsI, aopsT, qstep, CPt, qget, Tbl.get, astep, ev, setd, List.set, List.getD, List.getElem?_cons_zero, List.getElem?_cons_succ, List.getElem?_nil, List.cons_append, List.nil_append, List.length_cons, List.length_nil, List.replicate, then_normal, inBlock_normal, Option.getD_some, Option.getD_none, Bool.or_false, Bool.or_true, Bool.true_or, Bool.false_or, Bool.false_eq_true, if_false, if_true, up_zero, Nat.reduceAdd, Nat.reduceSub, binv, ↓opt_def, AV.isAny, AV.cells, ldc, List.map_cons, List.map_nil, St.set_next, St.set_same, St.up_next, Int.natCast_nonneg, lt_len, le_len, Int.toNat_natCast, true_and, and_true, eq_self, reduceCtorEq, decide_true, List.length_singleton, er_int, er_bool, er_str, held, srcOf, bytesAV_er, bytesAV_app, bytes_all, bytesAV_len, List.length_append, Bool.and_self, St.up_res, List.isEmpty, hat, beB_len, hle]
  refine h2 _ _ ?_
  try clear h2 K_h2
  refine T.regi hm ?_
  simp only [↓reduceIte, namesOf, List.any, I.names, aops, aopsI, aopsT, qstep, CPt, qget, Tbl.get, astep, ev, setd, List.set, List.getD, List.getElem?_cons_zero, List.getElem?_cons_succ, List.getElem?_nil, List.cons_append, List.nil_append, List.length_cons, List.length_nil, List.replicate, then_normal, inBlock_normal, Option.getD_some, Option.getD_none, Bool.or_false, Bool.or_true, Bool.true_or, Bool.false_or, Bool.false_eq_true, if_false, if_true, up_zero, Nat.reduceAdd, Nat.reduceSub, binv, ↓opt_def, AV.isAny, AV.cells, ldc, List.map_cons, List.map_nil, St.set_next, St.set_same, St.up_next, Int.natCast_nonneg, lt_len, le_len, Int.toNat_natCast, true_and, and_true, eq_self, reduceCtorEq, decide_true, List.length_singleton, er_int, er_bool, er_str, hiw]
  refine ⟨hil, _, _, Gh.keep [2, 3, 4, 29, 30, 31], _, q1.app (n := 4) (i := 2) (by omega), ?_⟩
  rw [hfs, ← List.append_assoc]; rfl

end Go.VL

namespace Go.VL

open Go.Proofs

theorem ppput_own {l : List Tc} {g : Ver} {σ : St} (hno : ∀ n, σ.res n = none) (hl : l.length ≤ 9223372036854775807) (hs : ∀ t ∈ l, t.sp.length ≤ 9223372036854775807) (hok : pputB l = true) :
    ACalls Try.prog n_ppput [.sl (tcsAV l) g] σ (fun v σ' => ∃ h o, v = .tup [.ref h o (pageB l).length, .nili] ∧ σ.next ≤ h ∧ h < σ'.next ∧ σ'.res = (σ.set h (.obj (List.replicate o .any ++ bytesAV (pageB l)))).res) := by
  refine (ACalls.thaw hno (fun x hx => ?_) (ppput_tip hl hs hok)).mono ?_
  · rw [bytes_flat] at hx
    obtain ⟨c, _, rfl⟩ := List.mem_map.1 hx
    exact Flat.int _ _
  · rintro v σ' ⟨h, o, rfl, h1, h2, h3⟩
    rw [bytes_flat] at h3
    rw [bytesAV_len]
    exact ⟨h, o, rfl, h1, h2, h3⟩

theorem ppput_two {l : List Tc} {g : Ver} {σ : St} (hno : ∀ n, σ.res n = none) (hl : l.length ≤ 9223372036854775807) (hs : ∀ t ∈ l, t.sp.length ≤ 9223372036854775807) :
    ACalls Try.prog n_ppput [.sl (tcsAV l) g] σ (fun v σ' => ∃ x e, v = .tup [x, e] ∧ ((pputB l = false ∧ x = .sl [] .none ∧ e = .iface tCode (.int .i64 1)) ∨
      (pputB l = true ∧ e = .nili ∧ ∃ h o, x = .ref h o (pageB l).length ∧ σ'.res h = some (.obj (List.replicate o .any ++ bytesAV (pageB l)))))) := by
  cases hp : pputB l with
  | false =>
    refine (ppput_ok hl hs).mono ?_
    rintro v σ' ⟨rfl, rfl⟩
    rw [if_neg (by rw [hp]; simp)]
    exact ⟨_, _, rfl, .inl ⟨rfl, rfl, rfl⟩⟩
  | true =>
    refine (ppput_own hno hl hs hp).mono ?_
    rintro v σ' ⟨h, o, rfl, _, _, h3⟩
    exact ⟨_, _, rfl, .inr ⟨rfl, rfl, h, o, rfl, by rw [h3]; simp⟩⟩

theorem is_of {l : List Tc} (h1 : ∀ t ∈ l, oneB t = true) (h2 : l.Pairwise (fun a b => a.id < b.id)) : isB l = true := by
  unfold isB
  rw [List.all_eq_true]
  intro i hi
  have hil : i < l.length := by simpa using hi
  unfold isAt
  have e1 : l[i]? = some l[i] := by simp [hil]
  rw [e1]
  simp only [Bool.and_eq_true, Bool.or_eq_true]
  refine ⟨h1 _ (List.getElem_mem hil), ?_⟩
  rcases Nat.eq_zero_or_pos i with h0 | hp
  · left; simp [h0]
  · right
    have e2 : l[i - 1]? = some (l[i - 1]'(by omega)) := by simp [show i - 1 < l.length by omega]
    rw [e2]
    exact decide_eq_true ((List.pairwise_iff_getElem.1 h2) (i - 1) i (by omega) hil (by omega))

theorem cut_is {most : Int} {l : List Tc} (his : isB l = true) {p : List Tc} (hp : p ∈ cutG most l []) : isB p = true := by
  have hf : (cutG most l []).flatten = l := by rw [cut_flat]; rfl
  have hpw := is_pair his
  rw [← hf, List.pairwise_flatten] at hpw
  exact is_of (fun t ht => is_each his (cutG_mem hp ht)) (hpw.1 p hp)

theorem flat_le {α β : Type} {f : α → List β} {l : List α} {k : Nat} (h : ∀ t ∈ l, (f t).length ≤ k) : (l.flatMap f).length ≤ l.length * k := by
  induction l with
  | nil => simp
  | cons s r ih =>
    rw [List.flatMap_cons, List.length_append, List.length_cons, Nat.add_mul]
    have := h s (by simp)
    have := ih (fun x hx => h x (List.mem_cons_of_mem _ hx))
    omega

theorem splice_one {cs : List AV} {i : Nat} (h : i < cs.length) (x : AV) : splice cs i [x] = cs.set i x := by
  unfold splice
  rw [List.set_eq_take_append_cons_drop, if_pos h]
  simp

theorem xor_byte (c d : UInt8) : IntKind.u8.wrap ((BitVec.ofInt IntKind.u8.bits (c.toNat : Int) ^^^ BitVec.ofInt IntKind.u8.bits (d.toNat : Int)).toNat : Int) = ((c ^^^ d).toNat : Int) := by
  show IntKind.u8.wrap ((BitVec.ofInt 8 (c.toNat : Int) ^^^ BitVec.ofInt 8 (d.toNat : Int)).toNat : Int) = _
  have e1 : ∀ c : UInt8, BitVec.ofInt 8 (c.toNat : Int) = c.toBitVec := fun c => by
    apply BitVec.eq_of_toNat_eq
    have := c.toNat_lt
    simp
  rw [e1, e1]
  have : (c.toBitVec ^^^ d.toBitVec) = (c ^^^ d).toBitVec := rfl
  rw [this]
  have h := (c ^^^ d).toNat_lt
  show IntKind.u8.wrap ((c ^^^ d).toNat : Int) = _
  generalize (c ^^^ d).toNat = n at h ⊢
  simp [IntKind.wrap, IntKind.bits, IntKind.signed]
  omega

theorem xor_ne {c d : UInt8} (hd : d ≠ 0) : c ^^^ d ≠ c := by
  intro h
  have h1 := congrArg UInt8.toBitVec h
  have h2 : c.toBitVec ^^^ d.toBitVec = c.toBitVec := h1
  have h3 := congrArg (c.toBitVec ^^^ ·) h2
  simp only [← BitVec.xor_assoc, BitVec.xor_self, BitVec.zero_xor] at h3
  exact hd (by apply UInt8.eq_of_toBitVec_eq; exact h3)

set_option maxRecDepth 10000 in
set_option maxHeartbeats 4000000 in
theorem pageBack_ok {l : List Tc} {most pos : Int} {d : UInt8} {σ : St} (hno : ∀ n, σ.res n = none) (hl : l.length ≤ 9223372036854775807) (hs : ∀ t ∈ l, t.sp.length ≤ 9223372036854775807) (hw : ∀ t ∈ l, t.wd) :
    ACalls Try.prog n_pageBack [.sl (tcsAV l) .none, .int .i64 most, .int .i64 pos, .int .u8 (d.toNat : Int)] σ (fun v _ => v = .bool true) := by
  refine s_pageBack (fun wf => ?_)
  unfold c_pageBack
  refine T.seq_k (fun K_h0 h0 => ?_)
  refine T.regi hm ?_
  simp only [↓reduceIte, namesOf, List.any, I.names, aops, aopsI, aopsT, qstep, CPt, qget, Tbl.get, astep, ev, setd, List.set, List.getD, List.getElem?_cons_zero, List.getElem?_cons_succ, List.getElem?_nil, List.cons_append, List.nil_append, List.length_cons, List.length_nil, List.replicate, then_normal, inBlock_normal, Option.getD_some, Option.getD_none, Bool.or_false, Bool.or_true, Bool.true_or, Bool.false_or, Bool.false_eq_true, if_false, if_true, up_zero, Nat.reduceAdd, Nat.reduceSub, binv, ↓opt_def, AV.isAny, AV.cells, ldc, List.map_cons, List.map_nil, St.set_next, St.set_same, St.up_next, Int.natCast_nonneg, lt_len, le_len, Int.toNat_natCast, true_and, and_true, eq_self, reduceCtorEq, decide_true, List.length_singleton, er_int, er_bool, er_str]
  refine h0 _ _ ?_
  try clear h0 K_h0
  refine T.seq_k (fun K_h1 h1 => ?_)
  refine T.regi hm ?_
  simp only [↓reduceIte, namesOf, List.any, I.names, aops, aopsI, aopsT, qstep, CPt, qget, Tbl.get, astep, ev, setd, List.set, List.getD, List.getElem?_cons_zero, List.getElem?_cons_succ, List.getElem?_nil, List.cons_append, List.nil_append, List.length_cons, List.length_nil, List.replicate, then_normal, inBlock_normal, Option.getD_some, Option.getD_none, Bool.or_false, Bool.or_true, Bool.true_or, Bool.false_or, Bool.false_eq_true, if_false, if_true, up_zero, Nat.reduceAdd, Nat.reduceSub, binv, ↓opt_def, AV.isAny, AV.cells, ldc, List.map_cons, List.map_nil, St.set_next, St.set_same, St.up_next, Int.natCast_nonneg, lt_len, le_len, Int.toNat_natCast, true_and, and_true, eq_self, reduceCtorEq, decide_true, List.length_singleton, er_int, er_bool, er_str]
  refine up05_ok.mono ?_
  rintro v σ1 ⟨rfl, rfl⟩
  try simp only [↓reduceIte, namesOf, List.any, I.names, aops, aopsI, aopsT, qstep, CPt, qget, Tbl.get, astep, ev, setd, List.set, List.getD, List.getElem?_cons_zero, List.getElem?_cons_succ, List.getElem?_nil, List.cons_append, List.nil_append, List.length_cons, List.length_nil, List.replicate, then_normal, inBlock_normal, Option.getD_some, Option.getD_none, Bool.or_false, Bool.or_true, Bool.true_or, Bool.false_or, Bool.false_eq_true, if_false, if_true, up_zero, Nat.reduceAdd, Nat.reduceSub, binv, ↓opt_def, AV.isAny, AV.cells, ldc, List.map_cons, List.map_nil, St.set_next, St.set_same, St.up_next, Int.natCast_nonneg, lt_len, le_len, Int.toNat_natCast, true_and, and_true, eq_self, reduceCtorEq, decide_true, List.length_singleton, er_int, er_bool, er_str, up_zero]
  refine h1 _ _ ?_
  try clear h1 K_h1
  refine T.seq_k (fun K_h1 h1 => ?_)
  refine T.regi hm ?_
  simp only [↓reduceIte, namesOf, List.any, I.names, aops, aopsI, aopsT, qstep, CPt, qget, Tbl.get, astep, ev, setd, List.set, List.getD, List.getElem?_cons_zero, List.getElem?_cons_succ, List.getElem?_nil, List.cons_append, List.nil_append, List.length_cons, List.length_nil, List.replicate, then_normal, inBlock_normal, Option.getD_some, Option.getD_none, Bool.or_false, Bool.or_true, Bool.true_or, Bool.false_or, Bool.false_eq_true, if_false, if_true, up_zero, Nat.reduceAdd, Nat.reduceSub, binv, ↓opt_def, AV.isAny, AV.cells, ldc, List.map_cons, List.map_nil, St.set_next, St.set_same, St.up_next, Int.natCast_nonneg, lt_len, le_len, Int.toNat_natCast, true_and, and_true, eq_self, reduceCtorEq, decide_true, List.length_singleton, er_int, er_bool, er_str]
  refine (fewt_ok hl hs).mono ?_
  rintro v σ2 ⟨rfl, rfl⟩
  try simp only [↓reduceIte, namesOf, List.any, I.names, aops, aopsI, aopsT, qstep, CPt, qget, Tbl.get, astep, ev, setd, List.set, List.getD, List.getElem?_cons_zero, List.getElem?_cons_succ, List.getElem?_nil, List.cons_append, List.nil_append, List.length_cons, List.length_nil, List.replicate, then_normal, inBlock_normal, Option.getD_some, Option.getD_none, Bool.or_false, Bool.or_true, Bool.true_or, Bool.false_or, Bool.false_eq_true, if_false, if_true, up_zero, Nat.reduceAdd, Nat.reduceSub, binv, ↓opt_def, AV.isAny, AV.cells, ldc, List.map_cons, List.map_nil, St.set_next, St.set_same, St.up_next, Int.natCast_nonneg, lt_len, le_len, Int.toNat_natCast, true_and, and_true, eq_self, reduceCtorEq, decide_true, List.length_singleton, er_int, er_bool, er_str, up_zero]
  refine h1 _ _ ?_
  try clear h1 K_h1
  refine T.seq_k (fun K_h1 h1 => ?_)
  cases hf : fewtB 200 l with
  | false =>
    refine T.seq_k (fun K_h0 h0 => ?_)
    refine T.regi hm ?_
    simp only [↓reduceIte, namesOf, List.any, I.names, aops, aopsI, aopsT, qstep, CPt, qget, Tbl.get, astep, ev, setd, List.set, List.getD, List.getElem?_cons_zero, List.getElem?_cons_succ, List.getElem?_nil, List.cons_append, List.nil_append, List.length_cons, List.length_nil, List.replicate, then_normal, inBlock_normal, Option.getD_some, Option.getD_none, Bool.or_false, Bool.or_true, Bool.true_or, Bool.false_or, Bool.false_eq_true, if_false, if_true, up_zero, Nat.reduceAdd, Nat.reduceSub, binv, ↓opt_def, AV.isAny, AV.cells, ldc, List.map_cons, List.map_nil, St.set_next, St.set_same, St.up_next, Int.natCast_nonneg, lt_len, le_len, Int.toNat_natCast, true_and, and_true, eq_self, reduceCtorEq, decide_true, List.length_singleton, er_int, er_bool, er_str, Bool.not_false]
    refine h0 _ _ ?_
    try clear h0 K_h0
    refine T.cond rfl (fun _ => ?_) (fun h => by cases h)
    refine T.seq_k (fun K_h0 h0 => ?_)
    refine T.regi hm ?_
    simp only [↓reduceIte, namesOf, List.any, I.names, aops, aopsI, aopsT, qstep, CPt, qget, Tbl.get, astep, ev, setd, List.set, List.getD, List.getElem?_cons_zero, List.getElem?_cons_succ, List.getElem?_nil, List.cons_append, List.nil_append, List.length_cons, List.length_nil, List.replicate, then_normal, inBlock_normal, Option.getD_some, Option.getD_none, Bool.or_false, Bool.or_true, Bool.true_or, Bool.false_or, Bool.false_eq_true, if_false, if_true, up_zero, Nat.reduceAdd, Nat.reduceSub, binv, ↓opt_def, AV.isAny, AV.cells, ldc, List.map_cons, List.map_nil, St.set_next, St.set_same, St.up_next, Int.natCast_nonneg, lt_len, le_len, Int.toNat_natCast, true_and, and_true, eq_self, reduceCtorEq, decide_true, List.length_singleton, er_int, er_bool, er_str]
    refine h0 _ _ ?_
    try clear h0 K_h0
    exact T.ret (Fin.ret rfl rfl)
  | true =>
  refine T.seq_k (fun K_h0 h0 => ?_)
  refine T.regi hm ?_
  simp only [↓reduceIte, namesOf, List.any, I.names, aops, aopsI, aopsT, qstep, CPt, qget, Tbl.get, astep, ev, setd, List.set, List.getD, List.getElem?_cons_zero, List.getElem?_cons_succ, List.getElem?_nil, List.cons_append, List.nil_append, List.length_cons, List.length_nil, List.replicate, then_normal, inBlock_normal, Option.getD_some, Option.getD_none, Bool.or_false, Bool.or_true, Bool.true_or, Bool.false_or, Bool.false_eq_true, if_false, if_true, up_zero, Nat.reduceAdd, Nat.reduceSub, binv, ↓opt_def, AV.isAny, AV.cells, ldc, List.map_cons, List.map_nil, St.set_next, St.set_same, St.up_next, Int.natCast_nonneg, lt_len, le_len, Int.toNat_natCast, true_and, and_true, eq_self, reduceCtorEq, decide_true, List.length_singleton, er_int, er_bool, er_str, Bool.not_true]
  refine h0 _ _ ?_
  try clear h0 K_h0
  refine T.cond rfl (fun h => by cases h) (fun _ => T.skip ?_)
  refine h1 _ _ ?_
  try clear h1 K_h1
  obtain ⟨f1, f2⟩ := fewt_facts hf
  refine T.seq_k (fun K_h3 h3 => ?_)
  refine T.regi hm ?_
  simp only [↓reduceIte, namesOf, List.any, I.names, aops, aopsI, aopsT, qstep, CPt, qget, Tbl.get, astep, ev, setd, List.set, List.getD, List.getElem?_cons_zero, List.getElem?_cons_succ, List.getElem?_nil, List.cons_append, List.nil_append, List.length_cons, List.length_nil, List.replicate, then_normal, inBlock_normal, Option.getD_some, Option.getD_none, Bool.or_false, Bool.or_true, Bool.true_or, Bool.false_or, Bool.false_eq_true, if_false, if_true, up_zero, Nat.reduceAdd, Nat.reduceSub, binv, ↓opt_def, AV.isAny, AV.cells, ldc, List.map_cons, List.map_nil, St.set_next, St.set_same, St.up_next, Int.natCast_nonneg, lt_len, le_len, Int.toNat_natCast, true_and, and_true, eq_self, reduceCtorEq, decide_true, List.length_singleton, er_int, er_bool, er_str]
  refine (ppput_two hno hl hs).mono ?_
  rintro v σ3 ⟨x, e, rfl, hv⟩
  try simp only [↓reduceIte, namesOf, List.any, I.names, aops, aopsI, aopsT, qstep, CPt, qget, Tbl.get, astep, ev, setd, List.set, List.getD, List.getElem?_cons_zero, List.getElem?_cons_succ, List.getElem?_nil, List.cons_append, List.nil_append, List.length_cons, List.length_nil, List.replicate, then_normal, inBlock_normal, Option.getD_some, Option.getD_none, Bool.or_false, Bool.or_true, Bool.true_or, Bool.false_or, Bool.false_eq_true, if_false, if_true, up_zero, Nat.reduceAdd, Nat.reduceSub, binv, ↓opt_def, AV.isAny, AV.cells, ldc, List.map_cons, List.map_nil, St.set_next, St.set_same, St.up_next, Int.natCast_nonneg, lt_len, le_len, Int.toNat_natCast, true_and, and_true, eq_self, reduceCtorEq, decide_true, List.length_singleton, er_int, er_bool, er_str, up_zero]
  refine h3 _ _ ?_
  try clear h3 K_h3
  refine T.seq_k (fun K_h1 h1 => ?_)
  -- the second half
  have his0 : ∀ p ∈ cutG most l [], isB l = true → pputB p = true := fun p hp his => by
    have h2 := (cut_parts (most := most) (l := l) (part := []) (by simp) (.inr (by simp)) p hp).2.1
    unfold pputB; rw [cut_is his hp, decide_eq_true h2]; rfl
  have part2 : ∀ ρ' τ, keep [0, 1, 9] 0 ρ' = [.sl (tcsAV l) .none, .int .i64 most, .any, .any, .any, .any, .any, .any, .any, .bool true] ++ List.replicate 132 .any → K_h1 ρ' τ := by
    intro ρ' τ hρ
    refine h1 _ _ ?_
    try clear h1 K_h1
    refine T.gh (Gh.keep [0, 1, 9]) ?_
    rw [hρ]
    clear hρ ρ'
    refine T.seq_k (fun K_h1 h1 => ?_)
    refine T.regi hm ?_
    simp only [↓reduceIte, namesOf, List.any, I.names, aops, aopsI, aopsT, qstep, CPt, qget, Tbl.get, astep, ev, setd, List.set, List.getD, List.getElem?_cons_zero, List.getElem?_cons_succ, List.getElem?_nil, List.cons_append, List.nil_append, List.length_cons, List.length_nil, List.replicate, then_normal, inBlock_normal, Option.getD_some, Option.getD_none, Bool.or_false, Bool.or_true, Bool.true_or, Bool.false_or, Bool.false_eq_true, if_false, if_true, up_zero, Nat.reduceAdd, Nat.reduceSub, binv, ↓opt_def, AV.isAny, AV.cells, ldc, List.map_cons, List.map_nil, St.set_next, St.set_same, St.up_next, Int.natCast_nonneg, lt_len, le_len, Int.toNat_natCast, true_and, and_true, eq_self, reduceCtorEq, decide_true, List.length_singleton, er_int, er_bool, er_str]
    refine (pgcut_ok (by omega) hs).mono ?_
    rintro v σ3 ⟨rfl, rfl⟩
    cases hc : cutOk l most with
    | false =>
      rw [if_neg (by simp)]
      try simp only [↓reduceIte, namesOf, List.any, I.names, aops, aopsI, aopsT, qstep, CPt, qget, Tbl.get, astep, ev, setd, List.set, List.getD, List.getElem?_cons_zero, List.getElem?_cons_succ, List.getElem?_nil, List.cons_append, List.nil_append, List.length_cons, List.length_nil, List.replicate, then_normal, inBlock_normal, Option.getD_some, Option.getD_none, Bool.or_false, Bool.or_true, Bool.true_or, Bool.false_or, Bool.false_eq_true, if_false, if_true, up_zero, Nat.reduceAdd, Nat.reduceSub, binv, ↓opt_def, AV.isAny, AV.cells, ldc, List.map_cons, List.map_nil, St.set_next, St.set_same, St.up_next, Int.natCast_nonneg, lt_len, le_len, Int.toNat_natCast, true_and, and_true, eq_self, reduceCtorEq, decide_true, List.length_singleton, er_int, er_bool, er_str, up_zero]
      refine h1 _ _ ?_
      try clear h1 K_h1
      refine T.seq_k (fun K_h1 h1 => ?_)
      refine T.seq_k (fun K_h0 h0 => ?_)
      refine T.regi hm ?_
      simp only [↓reduceIte, namesOf, List.any, I.names, aops, aopsI, aopsT, qstep, CPt, qget, Tbl.get, astep, ev, setd, List.set, List.getD, List.getElem?_cons_zero, List.getElem?_cons_succ, List.getElem?_nil, List.cons_append, List.nil_append, List.length_cons, List.length_nil, List.replicate, then_normal, inBlock_normal, Option.getD_some, Option.getD_none, Bool.or_false, Bool.or_true, Bool.true_or, Bool.false_or, Bool.false_eq_true, if_false, if_true, up_zero, Nat.reduceAdd, Nat.reduceSub, binv, ↓opt_def, AV.isAny, AV.cells, ldc, List.map_cons, List.map_nil, St.set_next, St.set_same, St.up_next, Int.natCast_nonneg, lt_len, le_len, Int.toNat_natCast, true_and, and_true, eq_self, reduceCtorEq, decide_true, List.length_singleton, er_int, er_bool, er_str, eqIv, Bool.bne_true, Bool.not_false]
      refine h0 _ _ ?_
      try clear h0 K_h0
      refine T.cond rfl (fun _ => ?_) (fun h => by cases h)
      refine T.seq_k (fun K_h0 h0 => ?_)
      refine T.regi hm ?_
      simp only [↓reduceIte, namesOf, List.any, I.names, aops, aopsI, aopsT, qstep, CPt, qget, Tbl.get, astep, ev, setd, List.set, List.getD, List.getElem?_cons_zero, List.getElem?_cons_succ, List.getElem?_nil, List.cons_append, List.nil_append, List.length_cons, List.length_nil, List.replicate, then_normal, inBlock_normal, Option.getD_some, Option.getD_none, Bool.or_false, Bool.or_true, Bool.true_or, Bool.false_or, Bool.false_eq_true, if_false, if_true, up_zero, Nat.reduceAdd, Nat.reduceSub, binv, ↓opt_def, AV.isAny, AV.cells, ldc, List.map_cons, List.map_nil, St.set_next, St.set_same, St.up_next, Int.natCast_nonneg, lt_len, le_len, Int.toNat_natCast, true_and, and_true, eq_self, reduceCtorEq, decide_true, List.length_singleton, er_int, er_bool, er_str]
      refine h0 _ _ ?_
      try clear h0 K_h0
      exact T.ret (Fin.ret rfl rfl)
    | true =>
    rw [if_pos rfl]
    unfold cutOk at hc
    simp only [Bool.and_eq_true, decide_eq_true_eq] at hc
    obtain ⟨his, c1, c2⟩ := hc
    have hcl := cutG_len (most := most) (l := l) (part := [])
    rw [if_pos rfl] at hcl
    have hcp : ∀ p ∈ cutG most l [], p ≠ [] ∧ p.length ≤ 64 ∧ (((pageB p).length : Int) ≤ most ∨ p.length ≤ 1) ∧ pputB p = true ∧ ∀ t ∈ p, t.sp.length ≤ 9223372036854775807 := fun p hp => by
      obtain ⟨a, b, c⟩ := cut_parts (most := most) (l := l) (part := []) (by simp) (.inr (by simp)) p hp
      exact ⟨a, b, c, his0 p hp his, fun t ht => hs t (cutG_mem hp ht)⟩
    have hcf : (cutG most l []).flatten = l := by rw [cut_flat]; rfl
    generalize cutG most l [] = parts at hcl hcp hcf ⊢
    try simp only [↓reduceIte, namesOf, List.any, I.names, aops, aopsI, aopsT, qstep, CPt, qget, Tbl.get, astep, ev, setd, List.set, List.getD, List.getElem?_cons_zero, List.getElem?_cons_succ, List.getElem?_nil, List.cons_append, List.nil_append, List.length_cons, List.length_nil, List.replicate, then_normal, inBlock_normal, Option.getD_some, Option.getD_none, Bool.or_false, Bool.or_true, Bool.true_or, Bool.false_or, Bool.false_eq_true, if_false, if_true, up_zero, Nat.reduceAdd, Nat.reduceSub, binv, ↓opt_def, AV.isAny, AV.cells, ldc, List.map_cons, List.map_nil, St.set_next, St.set_same, St.up_next, Int.natCast_nonneg, lt_len, le_len, Int.toNat_natCast, true_and, and_true, eq_self, reduceCtorEq, decide_true, List.length_singleton, er_int, er_bool, er_str, up_zero]
    refine h1 _ _ ?_
    try clear h1 K_h1
    refine T.seq_k (fun K_h1 h1 => ?_)
    refine T.seq_k (fun K_h0 h0 => ?_)
    refine T.regi hm ?_
    simp only [↓reduceIte, namesOf, List.any, I.names, aops, aopsI, aopsT, qstep, CPt, qget, Tbl.get, astep, ev, setd, List.set, List.getD, List.getElem?_cons_zero, List.getElem?_cons_succ, List.getElem?_nil, List.cons_append, List.nil_append, List.length_cons, List.length_nil, List.replicate, then_normal, inBlock_normal, Option.getD_some, Option.getD_none, Bool.or_false, Bool.or_true, Bool.true_or, Bool.false_or, Bool.false_eq_true, if_false, if_true, up_zero, Nat.reduceAdd, Nat.reduceSub, binv, ↓opt_def, AV.isAny, AV.cells, ldc, List.map_cons, List.map_nil, St.set_next, St.set_same, St.up_next, Int.natCast_nonneg, lt_len, le_len, Int.toNat_natCast, true_and, and_true, eq_self, reduceCtorEq, decide_true, List.length_singleton, er_int, er_bool, er_str, eqIv, bne_self_eq_false]
    refine h0 _ _ ?_
    try clear h0 K_h0
    refine T.cond rfl (fun h => by cases h) (fun _ => T.skip ?_)
    refine h1 _ _ ?_
    try clear h1 K_h1
    refine T.seq_k (fun K_h0 h0 => ?_)
    refine T.regi hm ?_
    simp only [↓reduceIte, namesOf, List.any, I.names, aops, aopsI, aopsT, qstep, CPt, qget, Tbl.get, astep, ev, setd, List.set, List.getD, List.getElem?_cons_zero, List.getElem?_cons_succ, List.getElem?_nil, List.cons_append, List.nil_append, List.length_cons, List.length_nil, List.replicate, then_normal, inBlock_normal, Option.getD_some, Option.getD_none, Bool.or_false, Bool.or_true, Bool.true_or, Bool.false_or, Bool.false_eq_true, if_false, if_true, up_zero, Nat.reduceAdd, Nat.reduceSub, binv, ↓opt_def, AV.isAny, AV.cells, ldc, List.map_cons, List.map_nil, St.set_next, St.set_same, St.up_next, Int.natCast_nonneg, lt_len, le_len, Int.toNat_natCast, true_and, and_true, eq_self, reduceCtorEq, decide_true, List.length_singleton, er_int, er_bool, er_str]
    refine h0 _ _ ?_
    try clear h0 K_h0
    refine T.seq_k (fun K_h1 h1 => ?_)
    refine T.seq_k (fun K_h0 h0 => ?_)
    refine T.regi hm ?_
    simp only [↓reduceIte, namesOf, List.any, I.names, aops, aopsI, aopsT, qstep, CPt, qget, Tbl.get, astep, ev, setd, List.set, List.getD, List.getElem?_cons_zero, List.getElem?_cons_succ, List.getElem?_nil, List.cons_append, List.nil_append, List.length_cons, List.length_nil, List.replicate, then_normal, inBlock_normal, Option.getD_some, Option.getD_none, Bool.or_false, Bool.or_true, Bool.true_or, Bool.false_or, Bool.false_eq_true, if_false, if_true, up_zero, Nat.reduceAdd, Nat.reduceSub, binv, ↓opt_def, AV.isAny, AV.cells, ldc, List.map_cons, List.map_nil, St.set_next, St.set_same, St.up_next, Int.natCast_nonneg, lt_len, le_len, Int.toNat_natCast, true_and, and_true, eq_self, reduceCtorEq, decide_true, List.length_singleton, er_int, er_bool, er_str]
    refine h0 _ _ ?_
    try clear h0 K_h0
    refine T.block ?_
    refine T.gh (Gh.keep [0, 1, 9, 17, 19, 20]) ?_
    refine T.loopi (fun i ρ t => (∃ v G, AccG σ3 t 2 (tcsAV (parts.take i).flatten) (.sl (tcsAV (parts.take i).flatten) v) G ∧
        ρ = [.sl (tcsAV l) .none, .int .i64 most, .any, .any, .any, .any, .any, .any, .any, .bool true, .any, .any, .any, .any, .any, .any, .any, .sl (pgsAV parts) .none, .any, .sl (tcsAV (parts.take i).flatten) v, .int .i64 (i : Int)] ++ List.replicate 121 .any))
      parts.length 0 (Nat.zero_le _) ⟨.nil, none, .nil (.refl _), rfl⟩ ?_
    rintro i ρ t hi ⟨v, G, hA, rfl⟩
    refine T.seq_k (fun K_h2 h2 => ?_)
    by_cases hil : i < parts.length
    case neg =>
      have e4 : decide (i < parts.length) = false := decide_eq_false (by omega)
      have : i = parts.length := by omega
      subst this
      rw [List.take_length, hcf] at hA ⊢
      have e5 : decide (l = l) = true := decide_eq_true rfl
      refine T.seq_k (fun K_h0 h0 => ?_)
      refine T.regi hm ?_
      simp only [↓reduceIte, namesOf, List.any, I.names, aops, aopsI, aopsT, qstep, CPt, qget, Tbl.get, astep, ev, setd, List.set, List.getD, List.getElem?_cons_zero, List.getElem?_cons_succ, List.getElem?_nil, List.cons_append, List.nil_append, List.length_cons, List.length_nil, List.replicate, then_normal, inBlock_normal, Option.getD_some, Option.getD_none, Bool.or_false, Bool.or_true, Bool.true_or, Bool.false_or, Bool.false_eq_true, if_false, if_true, up_zero, Nat.reduceAdd, Nat.reduceSub, binv, ↓opt_def, AV.isAny, AV.cells, ldc, List.map_cons, List.map_nil, St.set_next, St.set_same, St.up_next, Int.natCast_nonneg, lt_len, le_len, Int.toNat_natCast, true_and, and_true, eq_self, reduceCtorEq, decide_true, List.length_singleton, er_int, er_bool, er_str, pgs_len, e4]
      refine h0 _ _ ?_
      try clear h0 K_h0
      refine T.cond rfl (fun h => by cases h) (fun _ => T.exit ?_)
      try simp only [↓reduceIte, namesOf, List.any, I.names, aops, aopsI, aopsT, qstep, CPt, qget, Tbl.get, astep, ev, setd, List.set, List.getD, List.getElem?_cons_zero, List.getElem?_cons_succ, List.getElem?_nil, List.cons_append, List.nil_append, List.length_cons, List.length_nil, List.replicate, then_normal, inBlock_normal, Option.getD_some, Option.getD_none, Bool.or_false, Bool.or_true, Bool.true_or, Bool.false_or, Bool.false_eq_true, if_false, if_true, up_zero, Nat.reduceAdd, Nat.reduceSub, binv, ↓opt_def, AV.isAny, AV.cells, ldc, List.map_cons, List.map_nil, St.set_next, St.set_same, St.up_next, Int.natCast_nonneg, lt_len, le_len, Int.toNat_natCast, true_and, and_true, eq_self, reduceCtorEq, decide_true, List.length_singleton, er_int, er_bool, er_str, inBlock_exit, then_exit]
      refine h1 _ _ ?_
      try clear h1 K_h1
      refine T.seq_k (fun K_h1 h1 => ?_)
      refine T.regi hm ?_
      simp only [↓reduceIte, namesOf, List.any, I.names, aops, aopsI, aopsT, qstep, CPt, qget, Tbl.get, astep, ev, setd, List.set, List.getD, List.getElem?_cons_zero, List.getElem?_cons_succ, List.getElem?_nil, List.cons_append, List.nil_append, List.length_cons, List.length_nil, List.replicate, then_normal, inBlock_normal, Option.getD_some, Option.getD_none, Bool.or_false, Bool.or_true, Bool.true_or, Bool.false_or, Bool.false_eq_true, if_false, if_true, up_zero, Nat.reduceAdd, Nat.reduceSub, binv, ↓opt_def, AV.isAny, AV.cells, ldc, List.map_cons, List.map_nil, St.set_next, St.set_same, St.up_next, Int.natCast_nonneg, lt_len, le_len, Int.toNat_natCast, true_and, and_true, eq_self, reduceCtorEq, decide_true, List.length_singleton, er_int, er_bool, er_str]
      refine (rtraces_ok hl hs).mono ?_
      rintro v τ2 ⟨rfl, rfl⟩
      try simp only [↓reduceIte, namesOf, List.any, I.names, aops, aopsI, aopsT, qstep, CPt, qget, Tbl.get, astep, ev, setd, List.set, List.getD, List.getElem?_cons_zero, List.getElem?_cons_succ, List.getElem?_nil, List.cons_append, List.nil_append, List.length_cons, List.length_nil, List.replicate, then_normal, inBlock_normal, Option.getD_some, Option.getD_none, Bool.or_false, Bool.or_true, Bool.true_or, Bool.false_or, Bool.false_eq_true, if_false, if_true, up_zero, Nat.reduceAdd, Nat.reduceSub, binv, ↓opt_def, AV.isAny, AV.cells, ldc, List.map_cons, List.map_nil, St.set_next, St.set_same, St.up_next, Int.natCast_nonneg, lt_len, le_len, Int.toNat_natCast, true_and, and_true, eq_self, reduceCtorEq, decide_true, List.length_singleton, er_int, er_bool, er_str, up_zero, e5]
      refine h1 _ _ ?_
      try clear h1 K_h1
      exact T.ret (Fin.ret rfl rfl)
    have e4 : decide (i < parts.length) = true := decide_eq_true hil
    have hiw := inc64' hil (by omega)
    obtain ⟨m1, m2, m3, m4, m5⟩ := hcp _ (List.getElem_mem hil)
    have hft := flat_take1 hil
    have hfl : (parts.take (i + 1)).flatten.length ≤ l.length := by rw [← hcf]; exact flat_take_le (i + 1)
    have hgp := pgs_get hil
    have hilI := hil
    generalize parts[i] = p at m1 m2 m3 m4 m5 hft hgp
    refine T.seq_k (fun K_h0 h0 => ?_)
    refine T.regi hm ?_
    simp only [↓reduceIte, namesOf, List.any, I.names, aops, aopsI, aopsT, qstep, CPt, qget, Tbl.get, astep, ev, setd, List.set, List.getD, List.getElem?_cons_zero, List.getElem?_cons_succ, List.getElem?_nil, List.cons_append, List.nil_append, List.length_cons, List.length_nil, List.replicate, then_normal, inBlock_normal, Option.getD_some, Option.getD_none, Bool.or_false, Bool.or_true, Bool.true_or, Bool.false_or, Bool.false_eq_true, if_false, if_true, up_zero, Nat.reduceAdd, Nat.reduceSub, binv, ↓opt_def, AV.isAny, AV.cells, ldc, List.map_cons, List.map_nil, St.set_next, St.set_same, St.up_next, Int.natCast_nonneg, lt_len, le_len, Int.toNat_natCast, true_and, and_true, eq_self, reduceCtorEq, decide_true, List.length_singleton, er_int, er_bool, er_str, pgs_len, e4]
    refine h0 _ _ ?_
    try clear h0 K_h0
    refine T.cond rfl (fun _ => T.skip ?_) (fun h => by cases h)
    refine h2 _ _ ?_
    try clear h2 K_h2
    refine T.seq_k (fun K_h2 h2 => ?_)
    refine T.block ?_
    refine T.seq_k (fun K_h4 h4 => ?_)
    refine T.regi hm ?_
    simp only [↓reduceIte, namesOf, List.any, I.names, aops, aopsI, aopsT, qstep, CPt, qget, Tbl.get, astep, ev, setd, List.set, List.getD, List.getElem?_cons_zero, List.getElem?_cons_succ, List.getElem?_nil, List.cons_append, List.nil_append, List.length_cons, List.length_nil, List.replicate, then_normal, inBlock_normal, Option.getD_some, Option.getD_none, Bool.or_false, Bool.or_true, Bool.true_or, Bool.false_or, Bool.false_eq_true, if_false, if_true, up_zero, Nat.reduceAdd, Nat.reduceSub, binv, ↓opt_def, AV.isAny, AV.cells, ldc, List.map_cons, List.map_nil, St.set_next, St.set_same, St.up_next, Int.natCast_nonneg, lt_len, le_len, Int.toNat_natCast, true_and, and_true, eq_self, reduceCtorEq, decide_true, List.length_singleton, er_int, er_bool, er_str, pgs_len, hgp, hil, AV.fits, AV.one, List.all_cons, List.all_nil, Nat.reduceBEq, Bool.and_true, Bool.not_false, Bool.and_self, Nat.zero_add, splice, List.take, List.drop, Nat.reduceLeDiff]
    refine (ppput_ok (by omega) m5).mono ?_
    rintro v2 τ2 ⟨rfl, rfl⟩
    rw [if_pos m4]
    try simp only [↓reduceIte, namesOf, List.any, I.names, aops, aopsI, aopsT, qstep, CPt, qget, Tbl.get, astep, ev, setd, List.set, List.getD, List.getElem?_cons_zero, List.getElem?_cons_succ, List.getElem?_nil, List.cons_append, List.nil_append, List.length_cons, List.length_nil, List.replicate, then_normal, inBlock_normal, Option.getD_some, Option.getD_none, Bool.or_false, Bool.or_true, Bool.true_or, Bool.false_or, Bool.false_eq_true, if_false, if_true, up_zero, Nat.reduceAdd, Nat.reduceSub, binv, ↓opt_def, AV.isAny, AV.cells, ldc, List.map_cons, List.map_nil, St.set_next, St.set_same, St.up_next, Int.natCast_nonneg, lt_len, le_len, Int.toNat_natCast, true_and, and_true, eq_self, reduceCtorEq, decide_true, List.length_singleton, er_int, er_bool, er_str, up_zero]
    refine h4 _ _ ?_
    try clear h4 K_h4
    refine T.seq_k (fun K_h4 h4 => ?_)
    refine T.seq_k (fun K_h5 h5 => ?_)
    have hpos : 0 < p.length := List.length_pos_iff.2 m1
    have e5 : ((p.length : Int) == 0) = false := by rw [beq_eq_false_iff_ne]; omega
    have fin : ∀ ρ', keep [0, 1, 9, 17, 19, 20] 0 ρ' = [.sl (tcsAV l) .none, .int .i64 most, .any, .any, .any, .any, .any, .any, .any, .bool true, .any, .any, .any, .any, .any, .any, .any, .sl (pgsAV parts) .none, .any, .sl (tcsAV (parts.take i).flatten) v, .int .i64 (i : Int)] ++ List.replicate 121 .any → K_h4 ρ' τ2 := by
      intro ρ' hρ
      refine h4 _ _ ?_
      try clear h4 K_h4
      refine T.gh (Gh.keep [0, 1, 9, 17, 19, 20]) ?_
      rw [hρ]
      refine T.regt hm (tbl := []) Tbl.ok_nil ?_
      refine aopsT_cut 5 (fun K_c h_c => ?_)
      try simp only [↓reduceIte, namesOf, List.any, I.names, aops, aopsI, aopsT, qstep, CPt, qget, Tbl.get, astep, ev, setd, List.set, List.getD, List.getElem?_cons_zero, List.getElem?_cons_succ, List.getElem?_nil, List.cons_append, List.nil_append, List.length_cons, List.length_nil, List.replicate, then_normal, inBlock_normal, Option.getD_some, Option.getD_none, Bool.or_false, Bool.or_true, Bool.true_or, Bool.false_or, Bool.false_eq_true, if_false, if_true, up_zero, Nat.reduceAdd, Nat.reduceSub, binv, ↓opt_def, AV.isAny, AV.cells, ldc, List.map_cons, List.map_nil, St.set_next, St.set_same, St.up_next, Int.natCast_nonneg, lt_len, le_len, Int.toNat_natCast, true_and, and_true, eq_self, reduceCtorEq, decide_true, List.length_singleton, er_int, er_bool, er_str, List.take_succ_cons, List.take_zero, pgs_len, hgp, hil, AV.fits, AV.one, List.all_cons, List.all_nil, Nat.reduceBEq, Bool.and_true, Bool.not_false, Bool.and_self, Nat.zero_add, splice, List.take, List.drop, Nat.reduceLeDiff]
      refine h_c _ _ ?_
      clear h_c K_c
      simp only [List.drop_succ_cons, List.drop_zero, Nat.zero_add, Nat.reduceAdd]
      refine aopsT_acc (hA.up 7) (by have := hA.like.next; omega) (by simp) rfl (ys := tcsAV p) ?_ ?_ ?_ (fun x' t' G' hA3 _ _ _ _ => ?_)
      · exact congrArg some (tcs_er p)
      · rw [tcs_app]; exact tcs_fits _
      · rw [hft, List.length_append] at hfl
        rw [tcs_len, tcs_len]; omega
      try simp only [↓reduceIte, namesOf, List.any, I.names, aops, aopsI, aopsT, qstep, CPt, qget, Tbl.get, astep, ev, setd, List.set, List.getD, List.getElem?_cons_zero, List.getElem?_cons_succ, List.getElem?_nil, List.cons_append, List.nil_append, List.length_cons, List.length_nil, List.replicate, then_normal, inBlock_normal, Option.getD_some, Option.getD_none, Bool.or_false, Bool.or_true, Bool.true_or, Bool.false_or, Bool.false_eq_true, if_false, if_true, up_zero, Nat.reduceAdd, Nat.reduceSub, binv, ↓opt_def, AV.isAny, AV.cells, ldc, List.map_cons, List.map_nil, St.set_next, St.set_same, St.up_next, Int.natCast_nonneg, lt_len, le_len, Int.toNat_natCast, true_and, and_true, eq_self, reduceCtorEq, decide_true, List.length_singleton, er_int, er_bool, er_str, ]
      obtain ⟨vx, rfl⟩ := hA3.ex
      refine h2 _ _ ?_
      try clear h2 K_h2
      refine T.regi hm ?_
      simp only [↓reduceIte, namesOf, List.any, I.names, aops, aopsI, aopsT, qstep, CPt, qget, Tbl.get, astep, ev, setd, List.set, List.getD, List.getElem?_cons_zero, List.getElem?_cons_succ, List.getElem?_nil, List.cons_append, List.nil_append, List.length_cons, List.length_nil, List.replicate, then_normal, inBlock_normal, Option.getD_some, Option.getD_none, Bool.or_false, Bool.or_true, Bool.true_or, Bool.false_or, Bool.false_eq_true, if_false, if_true, up_zero, Nat.reduceAdd, Nat.reduceSub, binv, ↓opt_def, AV.isAny, AV.cells, ldc, List.map_cons, List.map_nil, St.set_next, St.set_same, St.up_next, Int.natCast_nonneg, lt_len, le_len, Int.toNat_natCast, true_and, and_true, eq_self, reduceCtorEq, decide_true, List.length_singleton, er_int, er_bool, er_str, hiw]
      rw [tcs_app, ← hft] at hA3 ⊢
      exact ⟨hil, _, _, Gh.keep [0, 1, 9, 17, 19, 20], vx, G', hA3, rfl⟩
    cases hB : decide (((pageB p).length : Int) > most) with
    | true =>
      have e6 : decide ((p.length : Int) > 1) = false := decide_eq_false (by have := of_decide_eq_true hB; omega)
      refine T.regi hm ?_
      simp only [↓reduceIte, namesOf, List.any, I.names, aops, aopsI, aopsT, qstep, CPt, qget, Tbl.get, astep, ev, setd, List.set, List.getD, List.getElem?_cons_zero, List.getElem?_cons_succ, List.getElem?_nil, List.cons_append, List.nil_append, List.length_cons, List.length_nil, List.replicate, then_normal, inBlock_normal, Option.getD_some, Option.getD_none, Bool.or_false, Bool.or_true, Bool.true_or, Bool.false_or, Bool.false_eq_true, if_false, if_true, up_zero, Nat.reduceAdd, Nat.reduceSub, binv, ↓opt_def, AV.isAny, AV.cells, ldc, List.map_cons, List.map_nil, St.set_next, St.set_same, St.up_next, Int.natCast_nonneg, lt_len, le_len, Int.toNat_natCast, true_and, and_true, eq_self, reduceCtorEq, decide_true, List.length_singleton, er_int, er_bool, er_str, pgs_len, hgp, hil, AV.fits, AV.one, List.all_cons, List.all_nil, Nat.reduceBEq, Bool.and_true, Bool.not_false, Bool.and_self, Nat.zero_add, splice, List.take, List.drop, Nat.reduceLeDiff, eqIv, bne_self_eq_false, tcs_len, e5, bytesAV_len, hB, e6]
      refine h5 _ _ ?_
      try clear h5 K_h5
      refine T.cond rfl (fun h => by cases h) (fun _ => T.skip ?_)
      exact fin _ rfl
    | false =>
      refine T.regi hm ?_
      simp only [↓reduceIte, namesOf, List.any, I.names, aops, aopsI, aopsT, qstep, CPt, qget, Tbl.get, astep, ev, setd, List.set, List.getD, List.getElem?_cons_zero, List.getElem?_cons_succ, List.getElem?_nil, List.cons_append, List.nil_append, List.length_cons, List.length_nil, List.replicate, then_normal, inBlock_normal, Option.getD_some, Option.getD_none, Bool.or_false, Bool.or_true, Bool.true_or, Bool.false_or, Bool.false_eq_true, if_false, if_true, up_zero, Nat.reduceAdd, Nat.reduceSub, binv, ↓opt_def, AV.isAny, AV.cells, ldc, List.map_cons, List.map_nil, St.set_next, St.set_same, St.up_next, Int.natCast_nonneg, lt_len, le_len, Int.toNat_natCast, true_and, and_true, eq_self, reduceCtorEq, decide_true, List.length_singleton, er_int, er_bool, er_str, pgs_len, hgp, hil, AV.fits, AV.one, List.all_cons, List.all_nil, Nat.reduceBEq, Bool.and_true, Bool.not_false, Bool.and_self, Nat.zero_add, splice, List.take, List.drop, Nat.reduceLeDiff, eqIv, bne_self_eq_false, tcs_len, e5, bytesAV_len, hB]
      refine h5 _ _ ?_
      try clear h5 K_h5
      refine T.cond rfl (fun h => by cases h) (fun _ => T.skip ?_)
      exact fin _ rfl
  clear his0
  rcases hv with ⟨hp, rfl, rfl⟩ | ⟨hp, rfl, h, o, rfl, hb⟩
  · refine T.seq_k (fun K_h0 h0 => ?_)
    refine T.regi hm ?_
    simp only [↓reduceIte, namesOf, List.any, I.names, aops, aopsI, aopsT, qstep, CPt, qget, Tbl.get, astep, ev, setd, List.set, List.getD, List.getElem?_cons_zero, List.getElem?_cons_succ, List.getElem?_nil, List.cons_append, List.nil_append, List.length_cons, List.length_nil, List.replicate, then_normal, inBlock_normal, Option.getD_some, Option.getD_none, Bool.or_false, Bool.or_true, Bool.true_or, Bool.false_or, Bool.false_eq_true, if_false, if_true, up_zero, Nat.reduceAdd, Nat.reduceSub, binv, ↓opt_def, AV.isAny, AV.cells, ldc, List.map_cons, List.map_nil, St.set_next, St.set_same, St.up_next, Int.natCast_nonneg, lt_len, le_len, Int.toNat_natCast, true_and, and_true, eq_self, reduceCtorEq, decide_true, List.length_singleton, er_int, er_bool, er_str, eqIv, bne_self_eq_false]
    refine h0 _ _ ?_
    try clear h0 K_h0
    refine T.cond rfl (fun h => by cases h) (fun _ => T.skip ?_)
    exact part2 _ _ rfl
  have hpp := hp
  unfold pputB at hpp
  simp only [Bool.and_eq_true, decide_eq_true_eq] at hpp
  obtain ⟨his, _⟩ := hpp
  have hmay : ∀ t ∈ l, t.may := fun t ht => by
    obtain ⟨o1, _, o3⟩ := one_facts (is_each his ht)
    exact ⟨(hw t ht).1, o3, fun s hs => ⟨(hw t ht).2 s hs, List.all_eq_true.1 o1 s hs⟩⟩
  have hget := pageG_put hp hmay
  have hbl : (pageB l).length ≤ 1000000 := by
    rw [page_len]
    have hfl : (l.flatMap trB).length ≤ l.length * 9900 := flat_le (fun t ht => by have := spansB_le (hmay t ht); rw [trB_len]; omega)
    have : l.length * 9900 ≤ 64 * 9900 := Nat.mul_le_mul_right _ (by omega)
    omega
  have hsb : ∃ c, pageB l = sealB c := ⟨_, rfl⟩
  generalize pageB l = B at hget hbl hsb hb ⊢
  refine T.seq_k (fun K_h0 h0 => ?_)
  refine T.regi hm ?_
  simp only [↓reduceIte, namesOf, List.any, I.names, aops, aopsI, aopsT, qstep, CPt, qget, Tbl.get, astep, ev, setd, List.set, List.getD, List.getElem?_cons_zero, List.getElem?_cons_succ, List.getElem?_nil, List.cons_append, List.nil_append, List.length_cons, List.length_nil, List.replicate, then_normal, inBlock_normal, Option.getD_some, Option.getD_none, Bool.or_false, Bool.or_true, Bool.true_or, Bool.false_or, Bool.false_eq_true, if_false, if_true, up_zero, Nat.reduceAdd, Nat.reduceSub, binv, ↓opt_def, AV.isAny, AV.cells, ldc, List.map_cons, List.map_nil, St.set_next, St.set_same, St.up_next, Int.natCast_nonneg, lt_len, le_len, Int.toNat_natCast, true_and, and_true, eq_self, reduceCtorEq, decide_true, List.length_singleton, er_int, er_bool, er_str, eqIv, bne_self_eq_false]
  refine h0 _ _ ?_
  try clear h0 K_h0
  refine T.cond rfl (fun _ => ?_) (fun h => by cases h)
  -- the bytes are lent
  refine TL.start (Gh.trans (Gh.freeze (t := 11) (k := 1) rfl hb (bytesAV_len B) (fun x hx => by obtain ⟨c, _, rfl⟩ := List.mem_map.1 hx; rfl) (by rw [bytes_flat, List.drop_left' (List.length_replicate ..), Nat.mul_one, List.take_of_length_le (by rw [bytesAV_len]; exact Nat.le_refl _)]) (by simp)) (Gh.drop (σ' := ⟨σ3.next, fun _ => none⟩) rfl (fun n r h => by cases h))) ?_
  refine TL.seq_k (fun _ => rfl) (fun K1 k1 => ?_)
  simp only [List.set]
  have e0 : errAV 0 = .nili := rfl
  refine T.regi hm ?_
  simp only [↓reduceIte, namesOf, List.any, I.names, aops, aopsI, aopsT, qstep, CPt, qget, Tbl.get, astep, ev, setd, List.set, List.getD, List.getElem?_cons_zero, List.getElem?_cons_succ, List.getElem?_nil, List.cons_append, List.nil_append, List.length_cons, List.length_nil, List.replicate, then_normal, inBlock_normal, Option.getD_some, Option.getD_none, Bool.or_false, Bool.or_true, Bool.true_or, Bool.false_or, Bool.false_eq_true, if_false, if_true, up_zero, Nat.reduceAdd, Nat.reduceSub, binv, ↓opt_def, AV.isAny, AV.cells, ldc, List.map_cons, List.map_nil, St.set_next, St.set_same, St.up_next, Int.natCast_nonneg, lt_len, le_len, Int.toNat_natCast, true_and, and_true, eq_self, reduceCtorEq, decide_true, List.length_singleton, er_int, er_bool, er_str]
  refine (pgget_ok hbl).mono ?_
  rintro v τ ⟨rfl, rfl⟩
  rw [hget]
  try simp only [↓reduceIte, namesOf, List.any, I.names, aops, aopsI, aopsT, qstep, CPt, qget, Tbl.get, astep, ev, setd, List.set, List.getD, List.getElem?_cons_zero, List.getElem?_cons_succ, List.getElem?_nil, List.cons_append, List.nil_append, List.length_cons, List.length_nil, List.replicate, then_normal, inBlock_normal, Option.getD_some, Option.getD_none, Bool.or_false, Bool.or_true, Bool.true_or, Bool.false_or, Bool.false_eq_true, if_false, if_true, up_zero, Nat.reduceAdd, Nat.reduceSub, binv, ↓opt_def, AV.isAny, AV.cells, ldc, List.map_cons, List.map_nil, St.set_next, St.set_same, St.up_next, Int.natCast_nonneg, lt_len, le_len, Int.toNat_natCast, true_and, and_true, eq_self, reduceCtorEq, decide_true, List.length_singleton, er_int, er_bool, er_str, up_zero, e0]
  refine k1 _ _ ?_
  clear k1 K1
  refine TL.seq_k (fun _ => rfl) (fun K2 k2 => ?_)
  have e5 : decide (l = l) = true := decide_eq_true rfl
  refine T.seq_k (fun K_h3 h3 => ?_)
  refine T.regi hm ?_
  simp only [↓reduceIte, namesOf, List.any, I.names, aops, aopsI, aopsT, qstep, CPt, qget, Tbl.get, astep, ev, setd, List.set, List.getD, List.getElem?_cons_zero, List.getElem?_cons_succ, List.getElem?_nil, List.cons_append, List.nil_append, List.length_cons, List.length_nil, List.replicate, then_normal, inBlock_normal, Option.getD_some, Option.getD_none, Bool.or_false, Bool.or_true, Bool.true_or, Bool.false_or, Bool.false_eq_true, if_false, if_true, up_zero, Nat.reduceAdd, Nat.reduceSub, binv, ↓opt_def, AV.isAny, AV.cells, ldc, List.map_cons, List.map_nil, St.set_next, St.set_same, St.up_next, Int.natCast_nonneg, lt_len, le_len, Int.toNat_natCast, true_and, and_true, eq_self, reduceCtorEq, decide_true, List.length_singleton, er_int, er_bool, er_str, eqIv, bne_self_eq_false]
  refine (rtraces_ok hl hs).mono ?_
  rintro v τ ⟨rfl, rfl⟩
  try simp only [↓reduceIte, namesOf, List.any, I.names, aops, aopsI, aopsT, qstep, CPt, qget, Tbl.get, astep, ev, setd, List.set, List.getD, List.getElem?_cons_zero, List.getElem?_cons_succ, List.getElem?_nil, List.cons_append, List.nil_append, List.length_cons, List.length_nil, List.replicate, then_normal, inBlock_normal, Option.getD_some, Option.getD_none, Bool.or_false, Bool.or_true, Bool.true_or, Bool.false_or, Bool.false_eq_true, if_false, if_true, up_zero, Nat.reduceAdd, Nat.reduceSub, binv, ↓opt_def, AV.isAny, AV.cells, ldc, List.map_cons, List.map_nil, St.set_next, St.set_same, St.up_next, Int.natCast_nonneg, lt_len, le_len, Int.toNat_natCast, true_and, and_true, eq_self, reduceCtorEq, decide_true, List.length_singleton, er_int, er_bool, er_str, up_zero, e5, Bool.not_true]
  refine h3 _ _ ?_
  try clear h3 K_h3
  refine T.cond rfl (fun h => by cases h) (fun _ => T.skip ?_)
  refine k2 _ _ ?_
  clear k2 K2
  -- they come back
  refine TL.thaw ?_
  refine T.gh (Gh.keep [0, 1, 2, 3, 9, 11]) ?_
  show T _ _ _ _ ([.sl (tcsAV l) .none, .int .i64 most, .int .i64 pos, .int .u8 (d.toNat : Int), .any, .any, .any, .any, .any, .bool true, .any, .ref h o B.length] ++ List.replicate 130 .any) σ3
  refine T.seq_k (fun K_h3 h3 => ?_)
  by_cases hp0 : 0 ≤ pos
  case neg =>
    have e1 : decide (pos ≥ 0) = false := decide_eq_false hp0
    refine T.regi hm ?_
    simp only [↓reduceIte, namesOf, List.any, I.names, aops, aopsI, aopsT, qstep, CPt, qget, Tbl.get, astep, ev, setd, List.set, List.getD, List.getElem?_cons_zero, List.getElem?_cons_succ, List.getElem?_nil, List.cons_append, List.nil_append, List.length_cons, List.length_nil, List.replicate, then_normal, inBlock_normal, Option.getD_some, Option.getD_none, Bool.or_false, Bool.or_true, Bool.true_or, Bool.false_or, Bool.false_eq_true, if_false, if_true, up_zero, Nat.reduceAdd, Nat.reduceSub, binv, ↓opt_def, AV.isAny, AV.cells, ldc, List.map_cons, List.map_nil, St.set_next, St.set_same, St.up_next, Int.natCast_nonneg, lt_len, le_len, Int.toNat_natCast, true_and, and_true, eq_self, reduceCtorEq, decide_true, List.length_singleton, er_int, er_bool, er_str, e1]
    refine h3 _ _ ?_
    try clear h3 K_h3
    refine T.cond rfl (fun h => by cases h) (fun _ => T.skip ?_)
    exact part2 _ _ rfl
  have e1 : decide (pos ≥ 0) = true := decide_eq_true hp0
  by_cases hp1 : pos < B.length
  case neg =>
    have e2 : decide (pos < (B.length : Int)) = false := decide_eq_false hp1
    refine T.regi hm ?_
    simp only [↓reduceIte, namesOf, List.any, I.names, aops, aopsI, aopsT, qstep, CPt, qget, Tbl.get, astep, ev, setd, List.set, List.getD, List.getElem?_cons_zero, List.getElem?_cons_succ, List.getElem?_nil, List.cons_append, List.nil_append, List.length_cons, List.length_nil, List.replicate, then_normal, inBlock_normal, Option.getD_some, Option.getD_none, Bool.or_false, Bool.or_true, Bool.true_or, Bool.false_or, Bool.false_eq_true, if_false, if_true, up_zero, Nat.reduceAdd, Nat.reduceSub, binv, ↓opt_def, AV.isAny, AV.cells, ldc, List.map_cons, List.map_nil, St.set_next, St.set_same, St.up_next, Int.natCast_nonneg, lt_len, le_len, Int.toNat_natCast, true_and, and_true, eq_self, reduceCtorEq, decide_true, List.length_singleton, er_int, er_bool, er_str, e1, e2]
    refine h3 _ _ ?_
    try clear h3 K_h3
    refine T.cond rfl (fun h => by cases h) (fun _ => T.skip ?_)
    exact part2 _ _ rfl
  have e2 : decide (pos < (B.length : Int)) = true := decide_eq_true hp1
  by_cases hd0 : d = 0
  · have e3 : ((d.toNat : Int) != 0) = false := by rw [hd0]; rfl
    refine T.regi hm ?_
    simp only [↓reduceIte, namesOf, List.any, I.names, aops, aopsI, aopsT, qstep, CPt, qget, Tbl.get, astep, ev, setd, List.set, List.getD, List.getElem?_cons_zero, List.getElem?_cons_succ, List.getElem?_nil, List.cons_append, List.nil_append, List.length_cons, List.length_nil, List.replicate, then_normal, inBlock_normal, Option.getD_some, Option.getD_none, Bool.or_false, Bool.or_true, Bool.true_or, Bool.false_or, Bool.false_eq_true, if_false, if_true, up_zero, Nat.reduceAdd, Nat.reduceSub, binv, ↓opt_def, AV.isAny, AV.cells, ldc, List.map_cons, List.map_nil, St.set_next, St.set_same, St.up_next, Int.natCast_nonneg, lt_len, le_len, Int.toNat_natCast, true_and, and_true, eq_self, reduceCtorEq, decide_true, List.length_singleton, er_int, er_bool, er_str, e1, e2, e3]
    refine h3 _ _ ?_
    try clear h3 K_h3
    refine T.cond rfl (fun h => by cases h) (fun _ => T.skip ?_)
    exact part2 _ _ rfl
  have e3 : ((d.toNat : Int) != 0) = true := by
    rw [bne_iff_ne]
    intro hz
    exact hd0 (UInt8.toNat_inj.1 (by simpa using hz))
  refine T.regi hm ?_
  simp only [↓reduceIte, namesOf, List.any, I.names, aops, aopsI, aopsT, qstep, CPt, qget, Tbl.get, astep, ev, setd, List.set, List.getD, List.getElem?_cons_zero, List.getElem?_cons_succ, List.getElem?_nil, List.cons_append, List.nil_append, List.length_cons, List.length_nil, List.replicate, then_normal, inBlock_normal, Option.getD_some, Option.getD_none, Bool.or_false, Bool.or_true, Bool.true_or, Bool.false_or, Bool.false_eq_true, if_false, if_true, up_zero, Nat.reduceAdd, Nat.reduceSub, binv, ↓opt_def, AV.isAny, AV.cells, ldc, List.map_cons, List.map_nil, St.set_next, St.set_same, St.up_next, Int.natCast_nonneg, lt_len, le_len, Int.toNat_natCast, true_and, and_true, eq_self, reduceCtorEq, decide_true, List.length_singleton, er_int, er_bool, er_str, e1, e2, e3]
  refine h3 _ _ ?_
  try clear h3 K_h3
  refine T.cond rfl (fun _ => ?_) (fun h => by cases h)
  clear e1 e2 e3
  obtain ⟨n, rfl⟩ : ∃ n : Nat, pos = (n : Int) := ⟨pos.toNat, by omega⟩
  have hn : n < B.length := by omega
  have hcl : (List.replicate o AV.any ++ bytesAV B).length = o + B.length := by rw [List.length_append, List.length_replicate, bytesAV_len]
  have hcg : (List.replicate o AV.any ++ bytesAV B)[o + n]? = some (.int .u8 (B[n].toNat : Int)) := by
    rw [List.getElem?_append_right (by simp), List.length_replicate, Nat.add_sub_cancel_left, bytes_get hn]
  have hcs : splice (List.replicate o AV.any ++ bytesAV B) (o + n) [.int .u8 ((B[n] ^^^ d).toNat : Int)] = List.replicate o AV.any ++ bytesAV (B.set n (B[n] ^^^ d)) := by
    rw [splice_one (by rw [hcl]; omega), List.set_append_right _ _ (by simp), List.length_replicate, Nat.add_sub_cancel_left]
    simp [bytesAV]
  have hxb := xor_byte B[n] d
  have hne := xor_ne (c := B[n]) hd0
  have hopen : pageG (B.set n (B[n] ^^^ d)) = (7, []) := by
    obtain ⟨c, rfl⟩ := hsb
    unfold pageG
    rw [open_cut hn hne]; rfl
  have hBl : (B.set n (B[n] ^^^ d)).length = B.length := List.length_set ..
  generalize B.set n (B[n] ^^^ d) = B' at hcs hopen hBl
  generalize B[n] = c at hcg hcs hxb
  have hfit1 : AV.fits 1 (.int .u8 ((c ^^^ d).toNat : Int)) = true := rfl
  have hdle : decide (o + n + 1 ≤ o + B.length) = true := decide_eq_true (by omega)
  have hcells : (AV.int .u8 ((c ^^^ d).toNat : Int)).cells = [.int .u8 ((c ^^^ d).toNat : Int)] := rfl
  have hb2 : ∀ k, (σ3.up k).res h = some (.obj (List.replicate o .any ++ bytesAV B)) := fun _ => hb
  generalize (List.replicate o AV.any ++ bytesAV B) = CS at hcl hcg hcs hb hb2
  refine T.seq_k (fun K_h3 h3 => ?_)
  refine T.regi hm ?_
  simp only [↓reduceIte, namesOf, List.any, I.names, aops, aopsI, aopsT, qstep, CPt, qget, Tbl.get, astep, ev, setd, List.set, List.getD, List.getElem?_cons_zero, List.getElem?_cons_succ, List.getElem?_nil, List.cons_append, List.nil_append, List.length_cons, List.length_nil, List.replicate, then_normal, inBlock_normal, Option.getD_some, Option.getD_none, Bool.or_false, Bool.or_true, Bool.true_or, Bool.false_or, Bool.false_eq_true, if_false, if_true, up_zero, Nat.reduceAdd, Nat.reduceSub, binv, ↓opt_def, AV.isAny, AV.cells, ldc, List.map_cons, List.map_nil, St.set_next, St.set_same, St.up_next, Int.natCast_nonneg, lt_len, le_len, Int.toNat_natCast, true_and, and_true, eq_self, reduceCtorEq, decide_true, List.length_singleton, er_int, er_bool, er_str, hb2, hb, hn, hcg, hxb, hcs, hcl, hfit1, hdle, Nat.mul_one, Bool.and_true]
  have hb3 : (σ3.set h (.obj (List.replicate o .any ++ bytesAV B'))).res h = some (.obj (List.replicate o .any ++ bytesAV B')) := St.set_same _ _ _
  generalize (σ3.set h (.obj (List.replicate o .any ++ bytesAV B'))) = σ4 at hb3 ⊢
  refine h3 _ _ ?_
  try clear h3 K_h3
  refine T.gh (Gh.keep [0, 1, 9, 11]) ?_
  refine T.gh (Gh.freeze (t := 11) (k := 1) rfl hb3 ((bytesAV_len B').trans hBl) (fun x hx => by obtain ⟨c, _, rfl⟩ := List.mem_map.1 hx; rfl) (by rw [bytes_flat, List.drop_left' (List.length_replicate ..), Nat.mul_one, List.take_of_length_le (by rw [bytesAV_len, hBl]; exact Nat.le_refl _)]) (by simp)) ?_
  show T _ _ _ _ ([.sl (tcsAV l) .none, .int .i64 most, .any, .any, .any, .any, .any, .any, .any, .bool true, .any, .sl (bytesAV B') .none] ++ List.replicate 130 .any) _
  refine T.seq_k (fun K_h3 h3 => ?_)
  refine T.regi hm ?_
  simp only [↓reduceIte, namesOf, List.any, I.names, aops, aopsI, aopsT, qstep, CPt, qget, Tbl.get, astep, ev, setd, List.set, List.getD, List.getElem?_cons_zero, List.getElem?_cons_succ, List.getElem?_nil, List.cons_append, List.nil_append, List.length_cons, List.length_nil, List.replicate, then_normal, inBlock_normal, Option.getD_some, Option.getD_none, Bool.or_false, Bool.or_true, Bool.true_or, Bool.false_or, Bool.false_eq_true, if_false, if_true, up_zero, Nat.reduceAdd, Nat.reduceSub, binv, ↓opt_def, AV.isAny, AV.cells, ldc, List.map_cons, List.map_nil, St.set_next, St.set_same, St.up_next, Int.natCast_nonneg, lt_len, le_len, Int.toNat_natCast, true_and, and_true, eq_self, reduceCtorEq, decide_true, List.length_singleton, er_int, er_bool, er_str]
  refine (pgget_ok (by omega)).mono ?_
  rintro v τ ⟨rfl, rfl⟩
  rw [hopen]
  have e7 : errAV 7 = .iface tCode (.int .i64 7) := rfl
  have e8 : tcsAV [] = [] := rfl
  have e9 : ((((0 : Nat) : Int)) != 0) = false := rfl
  try simp only [↓reduceIte, namesOf, List.any, I.names, aops, aopsI, aopsT, qstep, CPt, qget, Tbl.get, astep, ev, setd, List.set, List.getD, List.getElem?_cons_zero, List.getElem?_cons_succ, List.getElem?_nil, List.cons_append, List.nil_append, List.length_cons, List.length_nil, List.replicate, then_normal, inBlock_normal, Option.getD_some, Option.getD_none, Bool.or_false, Bool.or_true, Bool.true_or, Bool.false_or, Bool.false_eq_true, if_false, if_true, up_zero, Nat.reduceAdd, Nat.reduceSub, binv, ↓opt_def, AV.isAny, AV.cells, ldc, List.map_cons, List.map_nil, St.set_next, St.set_same, St.up_next, Int.natCast_nonneg, lt_len, le_len, Int.toNat_natCast, true_and, and_true, eq_self, reduceCtorEq, decide_true, List.length_singleton, er_int, er_bool, er_str, up_zero, e7, e8]
  refine h3 _ _ ?_
  try clear h3 K_h3
  refine T.seq_k (fun K_h0 h0 => ?_)
  refine T.regi hm ?_
  simp only [↓reduceIte, namesOf, List.any, I.names, aops, aopsI, aopsT, qstep, CPt, qget, Tbl.get, astep, ev, setd, List.set, List.getD, List.getElem?_cons_zero, List.getElem?_cons_succ, List.getElem?_nil, List.cons_append, List.nil_append, List.length_cons, List.length_nil, List.replicate, then_normal, inBlock_normal, Option.getD_some, Option.getD_none, Bool.or_false, Bool.or_true, Bool.true_or, Bool.false_or, Bool.false_eq_true, if_false, if_true, up_zero, Nat.reduceAdd, Nat.reduceSub, binv, ↓opt_def, AV.isAny, AV.cells, ldc, List.map_cons, List.map_nil, St.set_next, St.set_same, St.up_next, Int.natCast_nonneg, lt_len, le_len, Int.toNat_natCast, true_and, and_true, eq_self, reduceCtorEq, decide_true, List.length_singleton, er_int, er_bool, er_str, eqIv, List.any_cons, beq_self_eq_true, Bool.and_self, Bool.true_or, bne_self_eq_false, e9]
  refine h0 _ _ ?_
  try clear h0 K_h0
  refine T.cond rfl (fun h => by cases h) (fun _ => T.skip ?_)
  exact part2 _ _ rfl

end Go.VL

namespace Go.VL

open Go.Proofs

theorem bytes_of {P : Program} {n : Nat} {e : TypeId} (hu : P.underlying e = some (.int .u8)) : ∀ {ys : List AV}, (∀ y ∈ ys, HasE P (n + 1) e y) → ∃ l : List UInt8, ys = bytesAV l
  | [], _ => ⟨[], rfl⟩
  | y :: r, h => by
    obtain ⟨m, rfl, h1, h2⟩ := has_int hu (h y (by simp))
    obtain ⟨l, rfl⟩ := bytes_of hu (fun z hz => h z (List.mem_cons_of_mem _ hz))
    have h1' : 0 ≤ m := h1
    have h2' : m ≤ 255 := h2
    refine ⟨UInt8.ofNat m.toNat :: l, ?_⟩
    have : ((UInt8.ofNat m.toNat).toNat : Int) = m := by
      rw [UInt8.toNat_ofNat']; omega
    simp only [bytesAV, List.map_cons, this]

def fts (P : Program) (t : TypeId) : Option (List TypeId) := match P.underlying t with
  | some (.struct fs) => some (fs.toList.map (·.type))
  | _ => none

def HasTs (P : Program) (n : Nat) : List TypeId → List AV → Prop
  | [], xs => xs = []
  | t :: r, xs => ∃ ys zs, xs = ys ++ zs ∧ HasT P n t ys ∧ HasTs P n r zs

theorem hasTs_of {P : Program} {n : Nat} : ∀ {fs : List Field} {xs : List AV}, HasF P n fs xs → HasTs P n (fs.map (·.type)) xs
  | [], xs, h => by rw [hasF_nil] at h; exact h
  | f :: r, xs, h => by
    rw [hasF_cons] at h
    obtain ⟨ys, zs, e, h1, h2⟩ := h
    exact ⟨ys, zs, e, h1, hasTs_of h2⟩

theorem has_fields {P : Program} {n : Nat} {t : TypeId} {ts : List TypeId} {y : AV} (hf : fts P t = some ts) (h : HasE P (n + 1) t y) : ∃ zs, y = .agg zs ∧ HasTs P n ts zs := by
  unfold fts at hf
  split at hf
  · rename_i fs hu
    simp only [Option.some.injEq] at hf; subst hf
    rw [hasE_iff] at h
    obtain ⟨h1, h2, _⟩ := h
    obtain ⟨zs, rfl⟩ := h2 (by unfold isStruct; rw [hu])
    rw [hasT_succ, hu] at h1
    exact ⟨zs, rfl, hasTs_of h1⟩
  · cases hf

theorem hasT_int {P : Program} {n : Nat} {t : TypeId} {k : IntKind} {xs : List AV} (hu : P.underlying t = some (.int k)) (h : HasT P (n + 1) t xs) : ∃ m, xs = [.int k m] ∧ k.min ≤ m ∧ m ≤ k.max := by
  rw [hasT_succ, hu] at h; exact h

theorem hasT_slice {P : Program} {n : Nat} {t e : TypeId} {xs : List AV} (hu : P.underlying t = some (.slice e)) (h : HasT P (n + 1) t xs) : ∃ ys, xs = [.sl ys .none] ∧ ys.length ≤ maxLen ∧ ∀ y ∈ ys, HasE P n e y := by
  rw [hasT_succ, hu] at h; exact h

theorem maxLen_eq : maxLen = 9223372036854775807 := by decide

theorem u64_nat {m : Int} (h1 : IntKind.u64.min ≤ m) (h2 : m ≤ IntKind.u64.max) : ∃ n : Nat, m = (n : Int) ∧ n < 18446744073709551616 := by
  have h1' : 0 ≤ m := h1
  have h2' : m ≤ 18446744073709551615 := h2
  exact ⟨m.toNat, by omega, by omega⟩

end Go.VL

namespace Go.Proofs.Ytmbbeldgfhnkbaa

open Go.RowKit Go.VL

theorem own : ownKnob Try.prog.godebug = none := by kernel_rfl

theorem laidOut : laidOutB Try.prog = true := by kernel_rfl

end Go.Proofs.Ytmbbeldgfhnkbaa

namespace Go.VL

open Go.Proofs

/-- a span whose numbers fit -/
def Sp.ok (s : Sp) : Prop := s.tr < 18446744073709551616 ∧ s.id < 18446744073709551616 ∧ (-9223372036854775808 ≤ s.st ∧ s.st ≤ 9223372036854775807) ∧ (-9223372036854775808 ≤ s.en ∧ s.en ≤ 9223372036854775807) ∧ s.da.length ≤ 9223372036854775807

def Tc.ok (t : Tc) : Prop := t.id < 18446744073709551616 ∧ t.sp.length ≤ 9223372036854775807 ∧ ∀ s ∈ t.sp, s.ok

/-- the numbers of the types of spans and traces -/
structure Types (P : Program) where
  u64 : TypeId
  i64 : TypeId
  bs : TypeId
  u8 : TypeId
  span : TypeId
  spans : TypeId
  trace : TypeId
  traces : TypeId
  h1 : P.underlying u64 = some (.int .u64)
  h2 : P.underlying i64 = some (.int .i64)
  h3 : P.underlying bs = some (.slice u8)
  h4 : P.underlying u8 = some (.int .u8)
  h5 : fts P span = some [u64, u64, i64, i64, bs]
  h6 : P.underlying spans = some (.slice span)
  h7 : fts P trace = some [u64, spans]
  h8 : P.underlying traces = some (.slice trace)

theorem span_of {P : Program} (T : Types P) {n : Nat} {y : AV} (h : HasE P (n + 3) T.span y) : ∃ s : Sp, y = s.av ∧ s.ok := by
  obtain ⟨zs, hy, hf⟩ := has_fields T.h5 h
  clear h
  subst hy
  have h := hf
  clear hf
  obtain ⟨y1, z1, rfl, k1, h⟩ := h
  obtain ⟨y2, z2, rfl, k2, h⟩ := h
  obtain ⟨y3, z3, rfl, k3, h⟩ := h
  obtain ⟨y4, z4, rfl, k4, h⟩ := h
  obtain ⟨y5, z5, rfl, k5, h⟩ := h
  have hz : z5 = [] := h
  subst hz
  obtain ⟨m1, rfl, a1, b1⟩ := hasT_int T.h1 k1
  obtain ⟨m2, rfl, a2, b2⟩ := hasT_int T.h1 k2
  obtain ⟨m3, rfl, a3, b3⟩ := hasT_int T.h2 k3
  obtain ⟨m4, rfl, a4, b4⟩ := hasT_int T.h2 k4
  obtain ⟨ys, rfl, hl, k5⟩ := hasT_slice T.h3 k5
  obtain ⟨da, rfl⟩ := bytes_of T.h4 k5
  obtain ⟨n1, rfl, c1⟩ := u64_nat a1 b1
  obtain ⟨n2, rfl, c2⟩ := u64_nat a2 b2
  rw [maxLen_eq, bytesAV_len] at hl
  exact ⟨⟨n1, n2, m3, m4, da⟩, rfl, c1, c2, ⟨a3, b3⟩, ⟨a4, b4⟩, hl⟩

theorem spans_of {P : Program} (T : Types P) {n : Nat} : ∀ {ys : List AV}, (∀ y ∈ ys, HasE P (n + 3) T.span y) → ∃ l : List Sp, ys = spsAV l ∧ ∀ s ∈ l, s.ok
  | [], _ => ⟨[], rfl, fun _ h => by cases h⟩
  | y :: r, h => by
    obtain ⟨s, rfl, hs⟩ := span_of T (h y (by simp))
    obtain ⟨l, rfl, hl⟩ := spans_of T (fun z hz => h z (List.mem_cons_of_mem _ hz))
    exact ⟨s :: l, rfl, fun x hx => by rcases List.mem_cons.1 hx with rfl | hx; exact hs; exact hl x hx⟩

theorem trace_of {P : Program} (T : Types P) {n : Nat} {y : AV} (h : HasE P (n + 5) T.trace y) : ∃ t : Tc, y = t.av ∧ t.ok := by
  obtain ⟨zs, hy, hf⟩ := has_fields T.h7 h
  clear h
  subst hy
  have h := hf
  clear hf
  obtain ⟨y1, z1, rfl, k1, h⟩ := h
  obtain ⟨y2, z2, rfl, k2, h⟩ := h
  have hz : z2 = [] := h
  subst hz
  obtain ⟨m1, rfl, a1, b1⟩ := hasT_int T.h1 k1
  obtain ⟨ys, rfl, hl, k2⟩ := hasT_slice T.h6 k2
  obtain ⟨l, rfl, hs⟩ := spans_of T k2
  obtain ⟨n1, rfl, c1⟩ := u64_nat a1 b1
  rw [maxLen_eq, sps_len] at hl
  exact ⟨⟨n1, l⟩, rfl, c1, hl, hs⟩

theorem traces_of {P : Program} (T : Types P) {n : Nat} : ∀ {ys : List AV}, (∀ y ∈ ys, HasE P (n + 5) T.trace y) → ∃ l : List Tc, ys = tcsAV l ∧ ∀ t ∈ l, t.ok
  | [], _ => ⟨[], rfl, fun _ h => by cases h⟩
  | y :: r, h => by
    obtain ⟨s, rfl, hs⟩ := trace_of T (h y (by simp))
    obtain ⟨l, rfl, hl⟩ := traces_of T (fun z hz => h z (List.mem_cons_of_mem _ hz))
    exact ⟨s :: l, rfl, fun x hx => by rcases List.mem_cons.1 hx with rfl | hx; exact hs; exact hl x hx⟩

theorem u8_of {m : Int} (h1 : IntKind.u8.min ≤ m) (h2 : m ≤ IntKind.u8.max) : ∃ d : UInt8, m = (d.toNat : Int) := by
  have a : (0 : Int) ≤ m := h1
  have b : m ≤ 255 := h2
  refine ⟨UInt8.ofNat m.toNat, ?_⟩
  rw [UInt8.toNat_ofNat']
  omega

end Go.VL

namespace Go.VL

open Go.Proofs

set_option maxRecDepth 100000 in
def tys : Types Try.prog := ⟨51, 2, 34, 5, 53, 47, 95, 22, by kernel_rfl, by kernel_rfl, by kernel_rfl, by kernel_rfl, by kernel_rfl, by kernel_rfl, by kernel_rfl, by kernel_rfl⟩

end Go.VL

namespace Go.Proofs.Ytmbbeldgfhnkbaa

open Go.ChangeShapes Go.WideShapes Go.ChangeAt Go.RowKit Go.VL

set_option maxRecDepth 100000 in
theorem pageBack_lifted (os : Os) (started : os.Started) (H : Type) (enc : TypeId × Value → H) :
    ReturnsInHanded {} Try.checked os n_pageBack .any (Rows.pageBackSpec.pre6 enc Try.prog Try.f4 Rows.pageBackRow.domain false) (Rows.pageBackSpec.post enc Try.prog Try.f4 false true false false) := by
  refine returnsInHanded_of_change (C := Try.checked) own started (by kernel_rfl) Try.func4
    (ChangeSpec.witness6 (enc := enc) (C := Try.checked) false ⟨#[], #[.slice none 0 0, .int .i64 0, .int .i64 0, .int .u8 0], []⟩ 8 (by kernel_rfl) (by kernel_rfl) (by kernel_rfl) (by kernel_rfl)) ?_
  intro W base args ds gs before hval0 hW _ _
  refine law_calls 6 (tb := 4) laidOut (by kernel_rfl) rfl (by kernel_rfl) (by kernel_rfl) (fun ds hds => ?_) (fun xs hxs => ?_) hval0 hW
  · match ds, hds with
    | [_d1, _d2, _d3, _d4], _ => rfl
  · have hxs' : HasAll Try.prog 6 [_, _, _, _] xs := hxs
    cases hxs' with
    | cons h1 r1 =>
    cases r1 with
    | cons h2 r2 =>
    cases r2 with
    | cons h3 r3 =>
    cases r3 with
    | cons h4 r4 =>
    cases r4
    obtain ⟨ys, rfl, hlen, h1⟩ := has_slice tys.h8 h1
    obtain ⟨l, rfl, hl⟩ := traces_of tys h1
    obtain ⟨m, rfl, _⟩ := has_int (k := .i64) (t := 3) (by kernel_rfl) h2
    obtain ⟨p, rfl, _⟩ := has_int (k := .i64) (t := 3) (by kernel_rfl) h3
    obtain ⟨x, rfl, hx1, hx2⟩ := has_int (k := .u8) (t := 5) (by kernel_rfl) h4
    obtain ⟨d, rfl⟩ := u8_of hx1 hx2
    rw [maxLen_eq, tcs_len] at hlen
    exact pageBack_ok (fun _ => rfl) hlen (fun t ht => (hl t ht).2.1) (fun t ht => ⟨(hl t ht).1, fun s hs => ⟨((hl t ht).2.2 s hs).1, ((hl t ht).2.2 s hs).2.1⟩⟩)

theorem pageBack_holds : Rows.PageBackSaid :=
  OpenClaim.holds_of_wide n_pageBack Try.f4 rfl rfl rfl rfl rfl rfl rfl ⟨rfl, rfl, rfl, rfl, rfl⟩ rfl rfl rfl rfl rfl (by kernel_rfl) Try.func4 (by kernel_rfl)
    (of_decide_eq_true (by kernel_rfl)) (by unfold Func.isWrapper; first | (rw [if_pos (by decide +kernel)]; kernel_rfl) | (rw [if_neg (by decide +kernel)]; exact ⟨rfl, rfl⟩))
    (fun os started H enc _ => pageBack_lifted os started H enc)

end Go.Proofs.Ytmbbeldgfhnkbaa
