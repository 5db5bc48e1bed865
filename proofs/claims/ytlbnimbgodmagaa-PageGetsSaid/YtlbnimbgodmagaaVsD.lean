/- Contracts: the document's gathering, and canonical traces. -/
import Derived.Test.YtlbnimbgodmagaaVsC
namespace Go.VL
open Go.Proofs

theorem er_sp (x : Sp) : (AV.agg (spC x)).er = .agg (spC x) := rfl
theorem sps_snoc (a : List Sp) (x : Sp) : spsAV a ++ [.agg (spC x)] = spsAV (a ++ [x]) := by simp [spsAV, Sp.av]
theorem gatherN_no {l : List Sp} {n : Nat} (hn : n < l.length) (h : countsB l n = false) : gatherN l (n + 1) = gatherN l n := by
  have e : l[n]? = some l[n] := by simp [hn]
  conv => lhs; unfold gatherN
  rw [e]; simp [h]
theorem gatherN_yes {l : List Sp} {n : Nat} {x : Sp} (hx : l[n]? = some x) (h : countsB l n = true) : gatherN l (n + 1) = insS (gatherN l n) x := by
  conv => lhs; unfold gatherN
  rw [hx]; simp [h]
theorem lastAt_yes {out : List Sp} {x y : Sp} {k : Nat} (hy : out[k]? = some y) (h : aheadS y x = true) : lastAt out x (k + 1) = k + 1 := by
  unfold lastAt; rw [hy]; simp [h]
theorem lastAt_not {out : List Sp} {x y : Sp} {k : Nat} (hy : out[k]? = some y) (h : aheadS y x = false) : lastAt out x (k + 1) = lastAt out x k := by
  conv => lhs; unfold lastAt
  rw [hy]; simp [h]

set_option maxRecDepth 10000 in
set_option maxHeartbeats 4000000 in
theorem rgather_ok {l : List Sp} {g : Ver} {σ : St} (hl : l.length ≤ 1000000) : ACalls Try.prog n_rgather [.sl (spsAV l) g] σ (fun v σ' => v = .sl (spsAV (gatherL l)) .none ∧ σ' = σ) := by
  refine s_rgather (fun wf => ?_)
  unfold c_rgather
  refine T.seq_k (fun K_h1 h1 => ?_)
  refine T.regi hm ?_
  simp only [↓reduceIte, namesOf, List.any, I.names, aopsI, astep, ev, setd, List.set, List.cons_append, List.nil_append, List.length_cons, List.length_nil, List.replicate, then_normal, Bool.or_false, Bool.false_eq_true, up_zero, Nat.reduceAdd, Nat.reduceSub]
  refine h1 _ _ ?_
  try clear h1 K_h1
  refine T.seq_k (fun K_h1 h1 => ?_)
  refine T.regi hm ?_
  simp only [↓reduceIte, namesOf, List.any, I.names, aopsI, astep, ev, setd, List.set, then_normal, Bool.or_false, Bool.false_eq_true, up_zero]
  refine h1 _ _ ?_
  try clear h1 K_h1
  refine T.seq_k (fun K_h1 h1 => ?_)
  refine T.seq_k (fun K_h2 h2 => ?_)
  refine T.regi hm ?_
  simp only [↓reduceIte, namesOf, List.any, I.names, aopsI, astep, ev, setd, List.set, then_normal, Bool.or_false, Bool.false_eq_true, up_zero]
  refine h2 _ _ ?_
  try clear h2 K_h2
  refine T.block ?_
  refine T.gh (Gh.keep [0, 3, 4]) ?_
  refine T.loopi (fun i ρ σ' => σ.next ≤ σ'.next ∧ (∀ n x, σ.res n = some x → σ'.res n = some x) ∧ ∃ v, ρ = [.sl (spsAV l) g, .any, .any, .sl (spsAV (gatherN l i)) v, .int .i64 (i : Int)] ++ List.replicate 52 .any)
    l.length 0 (Nat.zero_le _) ⟨Nat.le_refl _, fun _ _ h => h, .nil, rfl⟩ ?_
  rintro i ρ σ' hi ⟨hn, ho, v0, rfl⟩
  refine T.seq_k (fun K_h2 h2 => ?_)
  refine T.seq_k (fun K_h3 h3 => ?_)
  refine T.regi hm ?_
  simp only [↓reduceIte, namesOf, List.any, I.names, aopsI, astep, ev, setd, List.set, List.getD, List.getElem?_cons_zero, List.getElem?_cons_succ, List.cons_append, List.nil_append, List.replicate, then_normal, Option.getD_some, Bool.or_false, Bool.false_eq_true, up_zero, binv, ↓opt_def, lt_len, eq_self, sps_len]
  refine h3 _ _ ?_
  try clear h3 K_h3
  refine T.cond rfl (fun hb => ?_) (fun hb => ?_)
  · refine T.skip ?_
    refine h2 _ _ ?_
    try clear h2 K_h2
    have hil : i < l.length := by simpa using hb
    clear hb
    have hw := inc64 hil (by omega)
    refine T.seq_k (fun K_h2 h2 => ?_)
    refine T.block ?_
    refine T.seq_k (fun K_h3 h3 => ?_)
    refine T.regi hm ?_
    simp only [↓reduceIte, namesOf, List.any, I.names, aopsI, astep, ev, setd, List.set, List.getD, List.getElem?_cons_zero, List.getElem?_cons_succ, List.cons_append, List.nil_append, List.replicate, then_normal, Option.getD_some, Bool.or_false, Bool.false_eq_true, up_zero, List.map_cons, List.map_nil]
    refine (rcounts_ok (by omega) hil).mono ?_
    rintro v σ1 ⟨rfl, rfl⟩
    try simp only [↓reduceIte, namesOf, List.any, I.names, aops, aopsI, aopsT, qstep, CPt, qget, Tbl.get, astep, ev, setd, List.set, List.getD, List.getElem?_cons_zero, List.getElem?_cons_succ, List.getElem?_nil, List.cons_append, List.nil_append, List.length_cons, List.length_nil, List.replicate, then_normal, inBlock_normal, Option.getD_some, Option.getD_none, Bool.or_false, Bool.or_true, Bool.true_or, Bool.false_or, Bool.false_eq_true, if_false, if_true, up_zero, Nat.reduceAdd, Nat.reduceSub, binv, ↓opt_def, AV.isAny, AV.cells, ldc, List.map_cons, List.map_nil, St.set_next, St.set_same, St.up_next, Int.natCast_nonneg, lt_len, le_len, Int.toNat_natCast, true_and, and_true, eq_self, reduceCtorEq, decide_true, List.length_singleton, er_int, er_bool, er_str, up_zero]
    refine h3 _ _ ?_
    try clear h3 K_h3
    refine T.seq_k (fun K_h3 h3 => ?_)
    refine T.seq_k (fun K_h4 h4 => ?_)
    refine T.regi hm ?_
    simp only [↓reduceIte, namesOf, List.any, I.names, aopsI, astep, ev, setd, List.set, List.getD, List.getElem?_cons_zero, List.getElem?_cons_succ, List.cons_append, List.nil_append, List.replicate, then_normal, Option.getD_some, Bool.or_false, Bool.false_eq_true, up_zero]
    refine h4 _ _ ?_
    try clear h4 K_h4
    generalize hx : l[i] = x
    have hxi : l[i]? = some x := by rw [← hx]; simp [hil]
    cases hc : countsB l i with
    | false =>
      refine T.cond rfl (fun _ => ?_) (fun h => by simp at h)
      refine T.exit ?_
      try simp only [List.cons_append, List.nil_append, List.replicate, then_normal, then_exit, inBlock_exit]
      refine h2 _ _ ?_
      try clear h2 K_h2
      refine T.regi hm ?_
      simp only [↓reduceIte, namesOf, List.any, I.names, aopsI, astep, ev, setd, List.set, List.getD, List.getElem?_cons_zero, List.getElem?_cons_succ, List.cons_append, List.nil_append, List.replicate, then_normal, Option.getD_some, Bool.or_false, Bool.false_eq_true, up_zero, binv, ↓opt_def, eq_self, hw]
      have hg := gatherN_no hil hc
      exact ⟨hil, _, _, Gh.keep [0, 3, 4], hn, ho, v0, by rw [hg]; rfl⟩
    | true =>
    refine T.cond rfl (fun h => by simp at h) (fun _ => T.skip ?_)
    have hg := gatherN_yes hxi hc
    have hol := gatherN_le l i
    generalize gatherN l i = out at hg hol ⊢
    refine h3 _ _ ?_
    try clear h3 K_h3
    refine T.seq_k (fun K_h3 h3 => ?_)
    refine T.regi hm ?_
    simp only [↓reduceIte, namesOf, List.any, I.names, aopsI, astep, ev, setd, List.set, List.cons_append, List.nil_append, List.replicate, then_normal, Bool.or_false, Bool.false_eq_true, up_zero]
    refine h3 _ _ ?_
    try clear h3 K_h3
    refine T.seq_k (fun K_h4 h4 => ?_)
    refine T.seq_k (fun K_h5 h5 => ?_)
    refine T.regi hm ?_
    simp only [↓reduceIte, namesOf, List.any, I.names, aopsI, astep, ev, setd, List.set, List.cons_append, List.nil_append, List.replicate, then_normal, Bool.or_false, Bool.false_eq_true, up_zero]
    refine h5 _ _ ?_
    try clear h5 K_h5
    refine T.block ?_
    refine T.gh (Gh.keep [0, 3, 4, 6, 7]) ?_
    refine T.loopi (fun k ρ s => s = σ1 ∧ ρ = [.sl (spsAV l) g, .any, .any, .sl (spsAV out) v0, .int .i64 (i : Int), .any, .int .i64 (lastAt out x k : Int), .int .i64 (k : Int)] ++ List.replicate 49 .any)
      out.length 0 (Nat.zero_le _) ⟨rfl, rfl⟩ ?_
    rintro k ρ s hk ⟨rfl, rfl⟩
    refine T.seq_k (fun K_h5 h5 => ?_)
    refine T.seq_k (fun K_h6 h6 => ?_)
    refine T.regi hm ?_
    simp only [↓reduceIte, namesOf, List.any, I.names, aopsI, astep, ev, setd, List.set, List.getD, List.getElem?_cons_zero, List.getElem?_cons_succ, List.cons_append, List.nil_append, List.replicate, then_normal, Option.getD_some, Bool.or_false, Bool.false_eq_true, up_zero, binv, ↓opt_def, lt_len, eq_self, sps_len]
    refine h6 _ _ ?_
    try clear h6 K_h6
    refine T.cond rfl (fun hb => ?_) (fun hb => ?_)
    · refine T.skip ?_
      refine h5 _ _ ?_
      try clear h5 K_h5
      have hkl : k < out.length := by simpa using hb
      clear hb
      generalize hy : out[k] = y
      have hyk : out[k]? = some y := by rw [← hy]; simp [hkl]
      have hge := gAhead_eq y x
      have hw2 := inc64 hkl (by omega)
      refine T.seq_k (fun K_h5 h5 => ?_)
      refine T.block ?_
      refine T.seq_k (fun K_h6 h6 => ?_)
      refine T.regt hm tG_ok ?_
      simp only [↓reduceIte, namesOf, List.any, I.names, aopsT, qstep, qget, Tbl.get, astep, ev, setd, List.set, List.getD, List.getElem?_cons_zero, List.getElem?_cons_succ, List.cons_append, List.nil_append, List.length_cons, List.length_nil, List.replicate, then_normal, Option.getD_some, Bool.or_false, Bool.false_eq_true, up_zero, Nat.reduceAdd, ↓opt_def, AV.cells, ldc, List.map_cons, List.map_nil, Int.natCast_nonneg, lt_len, Int.toNat_natCast, true_and, and_true, eq_self, decide_true, Nat.reduceEqDiff, tG, n_rless, n_rsame, n_rahead, sps_len, sps_get hkl, sps_get hil, hkl, hil, hx, hy, spav, Nat.zero_add, List.take, List.drop, Nat.reduceLeDiff, hge]
      refine h6 _ _ ?_
      try clear h6 K_h6
      refine T.seq_k (fun K_h6 h6 => ?_)
      refine T.regi hm ?_
      simp only [↓reduceIte, namesOf, List.any, I.names, aopsI, astep, ev, setd, List.set, List.getD, List.getElem?_cons_zero, List.getElem?_cons_succ, List.cons_append, List.nil_append, List.replicate, then_normal, Option.getD_some, Bool.or_false, Bool.false_eq_true, up_zero]
      refine h6 _ _ ?_
      try clear h6 K_h6
      cases ha : aheadS y x with
      | true =>
        refine T.cond rfl (fun _ => ?_) (fun h => by cases h)
        refine T.regi hm ?_
        simp only [↓reduceIte, namesOf, List.any, I.names, aopsI, astep, ev, setd, List.set, List.getD, List.getElem?_cons_zero, List.getElem?_cons_succ, List.cons_append, List.nil_append, List.replicate, then_normal, inBlock_normal, Option.getD_some, Bool.or_false, Bool.false_eq_true, up_zero, binv, ↓opt_def, eq_self, hw2]
        refine h5 _ _ ?_
        try clear h5 K_h5
        refine T.regi hm ?_
        simp only [↓reduceIte, namesOf, List.any, I.names, aopsI, astep, ev, setd, List.set, List.getD, List.getElem?_cons_zero, List.getElem?_cons_succ, List.cons_append, List.nil_append, List.replicate, then_normal, Option.getD_some, Bool.or_false, Bool.false_eq_true, up_zero, binv, ↓opt_def, eq_self, hw2]
        exact ⟨hkl, _, _, Gh.keep [0, 3, 4, 6, 7], rfl, by rw [lastAt_yes hyk ha]; rfl⟩
      | false =>
        refine T.cond rfl (fun h => by cases h) (fun _ => T.skip ?_)
        try simp only [List.cons_append, List.nil_append, List.replicate, then_normal, inBlock_normal, inBlock_normal]
        refine h5 _ _ ?_
        try clear h5 K_h5
        refine T.regi hm ?_
        simp only [↓reduceIte, namesOf, List.any, I.names, aopsI, astep, ev, setd, List.set, List.getD, List.getElem?_cons_zero, List.getElem?_cons_succ, List.cons_append, List.nil_append, List.replicate, then_normal, Option.getD_some, Bool.or_false, Bool.false_eq_true, up_zero, binv, ↓opt_def, eq_self, hw2]
        exact ⟨hkl, _, _, Gh.keep [0, 3, 4, 6, 7], rfl, by rw [lastAt_not hyk ha]; rfl⟩
    · refine T.exit ?_
      have : k = out.length := by simp at hb; omega
      subst this
      try simp only [List.cons_append, List.nil_append, List.replicate, then_normal, inBlock_exit, then_exit]
      refine h4 _ _ ?_
      try clear h4 K_h4
      have hat := lastAt_le out x out.length
      have hins : insS out x = out.take (lastAt out x out.length) ++ [x] ++ out.drop (lastAt out x out.length) := rfl
      generalize lastAt out x out.length = at_ at hat hins ⊢
      have hat' : (at_ : Int) ≤ ((spsAV out).length : Int) := by rw [sps_len]; omega
      refine T.seq_k (fun K_h4 h4 => ?_)
      refine T.regi hm ?_
      simp only [↓reduceIte, namesOf, List.any, I.names, aopsI, astep, ev, setd, List.set, List.getD, List.getElem?_cons_zero, List.getElem?_cons_succ, List.cons_append, List.nil_append, List.length_cons, List.length_nil, List.replicate, then_normal, Option.getD_some, Bool.or_false, Bool.or_true, Nat.reduceAdd, List.map_nil, St.set_same, Int.natCast_nonneg, Int.toNat_natCast, and_true, eq_self, idx, hat', sps_fits, Int.sub_zero, List.drop_zero, Int.toNat_zero, Int.le_refl, sps_take, held, srcOf, sps_er, List.all_nil, Bool.true_and]
      rw [if_pos (by simp only [sps_len, List.length_take, decide_eq_true_eq]; omega)]
      have t1 : Tp σ (((s.up 6).set (s.next + 0) (.tip 5)).del (s.next + 0) |>.set (s.next + 4) (.tip 5)) (s.next + 4) 5 := (Tp.new wf hn ho (k := 5) (n := 6) (i := 0) (by omega)).mv wf (by omega) (by simp)
      generalize (((s.up 6).set (s.next + 0) (.tip 5)).del (s.next + 0) |>.set (s.next + 4) (.tip 5)) = s1 at t1 ⊢
      generalize s.next + 4 = g1 at t1 ⊢
      refine h4 _ _ ?_
      try clear h4 K_h4
      refine T.seq_k (fun K_h4 h4 => ?_)
      refine T.regi hm ?_
      simp only [↓reduceIte, namesOf, List.any, I.names, aopsI, astep, ev, setd, List.set, List.getD, List.getElem?_cons_zero, List.getElem?_cons_succ, List.cons_append, List.nil_append, List.length_cons, List.length_nil, List.replicate, then_normal, Option.getD_some, Bool.or_false, Bool.or_true, Nat.reduceAdd, ↓opt_def, AV.isAny, AV.cells, ldc, List.map_cons, List.map_nil, Int.natCast_nonneg, lt_len, Int.toNat_natCast, true_and, and_true, eq_self, sps_len, sps_get hil, hil, hx, spav, AV.fits, AV.one, List.all_cons, List.all_nil, Bool.not_false, Bool.and_self, Nat.zero_add, List.take, List.drop, Nat.reduceLeDiff, held, srcOf, t1.at_, St.up_res, beq_self_eq_true, er_sp, sps_snoc, sps_fits, Bool.true_and]
      rw [if_pos (by simp only [List.length_take, decide_eq_true_eq]; omega)]
      have t2 : Tp σ (((s1.up 8).del g1).set (s1.next + 6) (.tip 5)) (s1.next + 6) 5 := (t1.up 8).mv wf (by have := t1.lo; have := t1.hi; omega) (by simp)
      generalize (((s1.up 8).del g1).set (s1.next + 6) (.tip 5)) = s2 at t2 ⊢
      generalize s1.next + 6 = g2 at t2 ⊢
      refine h4 _ _ ?_
      try clear h4 K_h4
      have hdt : (spsAV (out.drop at_)).take (((out.length : Int) - (at_ : Int)).toNat) = spsAV (out.drop at_) := by
        rw [List.take_of_length_le]
        rw [sps_len, List.length_drop]; omega
      have hat2 : (at_ : Int) ≤ (out.length : Int) := by omega
      refine T.regi hm ?_
      simp only [↓reduceIte, namesOf, List.any, I.names, aopsI, astep, ev, setd, List.set, List.getD, List.getElem?_cons_zero, List.getElem?_cons_succ, List.cons_append, List.nil_append, List.length_cons, List.length_nil, List.replicate, then_normal, inBlock_normal, Option.getD_some, Bool.or_false, Bool.or_true, Nat.reduceAdd, Int.natCast_nonneg, lt_len, Int.toNat_natCast, true_and, and_true, eq_self, idx, hat2, sps_len, sps_fits, Int.le_refl, sps_drop, hdt, srcOf, sps_er, t2.at_, St.up_res, Bool.true_and, sps_app]
      rw [if_pos (by simp only [List.length_append, List.length_take, List.length_drop, List.length_singleton, decide_eq_true_eq]; omega)]
      have t3 : Tp σ (((s2.up 6).del g2).set (s2.next + 4) (.tip 5)) (s2.next + 4) 5 := (t2.up 6).mv wf (by have := t2.lo; have := t2.hi; omega) (by simp)
      refine h2 _ _ ?_
      try clear h2 K_h2
      refine T.regi hm ?_
      simp only [↓reduceIte, namesOf, List.any, I.names, aopsI, astep, ev, setd, List.set, List.getD, List.getElem?_cons_zero, List.getElem?_cons_succ, List.cons_append, List.nil_append, List.replicate, then_normal, Option.getD_some, Bool.or_false, Bool.false_eq_true, up_zero, binv, ↓opt_def, eq_self, hw]
      refine ⟨hil, _, _, Gh.keep [0, 3, 4], Nat.le_trans t3.lo (Nat.le_of_lt t3.hi), t3.old, .tip (s2.next + 4), ?_⟩
      rw [hg, hins]
      rfl
  · refine T.exit ?_
    have : i = l.length := by simp at hb; omega
    subst this
    try simp only [List.cons_append, List.nil_append, List.replicate, then_normal, inBlock_exit, then_exit]
    refine h1 _ _ ?_
    try clear h1 K_h1
    refine T.seq_k (fun K_h1 h1 => ?_)
    refine T.regi hm ?_
    simp only [↓reduceIte, namesOf, List.any, I.names, aopsI, astep, ev, setd, List.set, List.getD, List.getElem?_cons_zero, List.getElem?_cons_succ, then_normal, Option.getD_some, Bool.or_false, Bool.false_eq_true, up_zero]
    refine h1 _ _ ?_
    try clear h1 K_h1
    exact T.ret (Fin.quietw rfl (Wk.sl _ _) ⟨nbs_sps _ _, trivial⟩ ho ⟨rfl, rfl⟩)
end Go.VL
