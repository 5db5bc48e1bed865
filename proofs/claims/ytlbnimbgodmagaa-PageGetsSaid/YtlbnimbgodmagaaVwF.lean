/- Contracts: the document's page out of bytes. -/
import Derived.Test.YtlbnimbgodmagaaVwE
namespace Go.VL
open Go.Proofs

set_option maxRecDepth 10000 in
set_option maxHeartbeats 4000000 in
theorem rpaged_ok {x : List UInt8} {g0 : Ver} {σ : St} (hx : x.length ≤ 1000000) :
    ACalls Try.prog n_rpaged [.sl (bytesAV x) g0] σ (fun v σ' => v = .tup [.sl (tcsAV (pageG x).2) .none, .int .i64 (pageG x).1] ∧ σ' = σ) := by
  refine s_rpaged (fun wf => ?_)
  unfold c_rpaged
  have hble := openB_le x
  have hpg : pageG x = if (openB x).1 = 0 then pgOf (getP (openB x).2) else ((openB x).1, []) := rfl
  generalize pageG x = G at hpg ⊢
  refine T.seq_k (fun K_h0 h0 => ?_)
  refine T.regi hm ?_
  simp only [↓reduceIte, namesOf, List.any, I.names, aopsI, astep, ev, setd, List.set, List.cons_append, List.nil_append, List.length_cons, List.length_nil, List.replicate, then_normal, Bool.or_false, Bool.false_eq_true, up_zero, Nat.reduceAdd, Nat.reduceSub]
  refine h0 _ _ ?_
  try clear h0 K_h0
  refine T.seq_k (fun K_h1 h1 => ?_)
  refine T.regi hm ?_
  simp only [↓reduceIte, namesOf, List.any, I.names, aopsI, astep, ev, setd, List.set, List.getD, List.getElem?_cons_zero, List.getElem?_cons_succ, then_normal, Option.getD_some, Bool.or_false, Bool.false_eq_true, up_zero, ↓opt_def, List.map_cons, List.map_nil]
  refine (ropen_ok (by omega)).mono ?_
  rintro v σ ⟨rfl, rfl⟩
  generalize (openB x).1 = c at hpg ⊢
  generalize (openB x).2 = b at hpg hble ⊢
  try simp only [List.getElem?_cons_zero, List.getElem?_cons_succ, ]
  refine h1 _ _ ?_
  try clear h1 K_h1
  refine T.seq_k (fun K_h1 h1 => ?_)
  by_cases hc : c = 0
  case neg =>
    rw [if_neg hc] at hpg
    have e0 : (c != 0) = true := by rw [bne_iff_ne]; exact hc
    refine T.seq_k (fun K_h0 h0 => ?_)
    refine T.regi hm ?_
    simp only [↓reduceIte, namesOf, List.any, I.names, aopsI, astep, ev, setd, List.set, List.getD, List.getElem?_cons_zero, List.getElem?_cons_succ, then_normal, Option.getD_some, Bool.or_false, Bool.false_eq_true, up_zero, binv, ↓opt_def, eq_self, e0]
    refine h0 _ _ ?_
    try clear h0 K_h0
    refine T.cond rfl (fun _ => ?_) (fun h => by cases h)
    refine T.seq_k (fun K_h0 h0 => ?_)
    refine T.regi hm ?_
    simp only [↓reduceIte, namesOf, List.any, I.names, aopsI, astep, ev, setd, List.set, List.getD, List.getElem?_cons_zero, List.getElem?_cons_succ, then_normal, Option.getD_some, Bool.or_false, Bool.false_eq_true, up_zero]
    refine h0 _ _ ?_
    try clear h0 K_h0
    exact T.ret (Fin.quietw rfl (Wk.tup2 (Wk.sl _ _)) ⟨⟨trivial, trivial⟩, trivial, trivial⟩ (fun _ _ h => h) ⟨by rw [hpg]; rfl, rfl⟩)
  rw [if_pos hc] at hpg
  subst hc
  refine T.seq_k (fun K_h0 h0 => ?_)
  refine T.regi hm ?_
  simp only [↓reduceIte, namesOf, List.any, I.names, aopsI, astep, ev, setd, List.set, List.getD, List.getElem?_cons_zero, List.getElem?_cons_succ, then_normal, Option.getD_some, Bool.or_false, Bool.false_eq_true, up_zero, binv, ↓opt_def, eq_self, bne_self_eq_false]
  refine h0 _ _ ?_
  try clear h0 K_h0
  refine T.cond rfl (fun h => by cases h) (fun _ => T.skip ?_)
  refine h1 _ _ ?_
  try clear h1 K_h1
  have hbl : b.length ≤ 1000000 := by omega
  have k0 : Rs.ok b r0 := Rs.ok_r0 (by omega)
  have k1 := rN_ok (w := 2) k0
  have hN := rW_lt (w := 2) k0
  have hget : getP b = (goR b (rW b r0 2) (rN b r0 2) []).bind fun p => endP b p.1 p.2 := rfl
  have hN0 : 0 ≤ (rN b r0 2).bad → rW b r0 2 = 0 := fun h => rW_bad rfl h
  refine T.seq_k (fun K_h1 h1 => ?_)
  refine T.regi hm ?_
  simp only [↓reduceIte, namesOf, List.any, I.names, aopsI, astep, ev, setd, List.set, List.getD, List.getElem?_cons_zero, List.getElem?_cons_succ, List.cons_append, List.nil_append, List.length_cons, List.length_nil, then_normal, Option.getD_some, Bool.or_false, Bool.or_true, Bool.false_eq_true, Nat.reduceAdd, ↓opt_def, AV.isAny, AV.cells, and_true, eq_self, fillA, Option.map, AV.fits, AV.one, List.all_cons, List.all_nil, Nat.reduceBEq, Bool.not_false, Bool.and_self, Nat.zero_add, splice, List.take, List.drop, Nat.reduceLeDiff]
  have R0 : Rk σ ((σ.up 4).set (σ.next + 2) (rdS b .none r0)) (σ.next + 2) (rdS b .none r0) 2 .nil := ⟨(Like.refl σ).box _, by omega, by simp, by simp, .inl rfl⟩
  have hst : ((σ.up 4).set (σ.next + 2) (.obj [.sl (bytesAV b) .none, .int .i64 0, .int .i64 (-1)])) = ((σ.up 4).set (σ.next + 2) (rdS b .none r0)) := rfl
  rw [hst]
  generalize ((σ.up 4).set (σ.next + 2) (rdS b .none r0)) = σ1 at R0 ⊢
  generalize σ.next + 2 = nm at R0 ⊢
  clear hst
  refine h1 _ _ ?_
  try clear h1 K_h1
  refine T.seq_k (fun K_h1 h1 => ?_)
  refine T.regi hm ?_
  simp only [↓reduceIte, namesOf, List.any, I.names, aopsI, astep, ev, setd, List.set, List.getD, List.getElem?_cons_zero, List.getElem?_cons_succ, then_normal, Option.getD_some, Bool.or_false, Bool.false_eq_true, up_zero, List.map_cons, List.map_nil]
  refine (rwordF k0 rfl R0.at_).mono ?_
  rintro v σ2 ⟨rfl, rfl⟩
  have R1 := R0.set (rdS b .none (rN b r0 2))
  generalize (σ1.set nm (rdS b .none (rN b r0 2))) = σ2 at R1 ⊢
  clear R0 σ1
  generalize rW b r0 2 = N at hN hget hN0 ⊢
  generalize rN b r0 2 = s0 at k1 R1 hget hN0
  have eN : IntKind.i64.wrap (N : Int) = (N : Int) := wrap64 (by omega) (by omega)
  try simp only [eN]
  refine h1 _ _ ?_
  try clear h1 K_h1
  refine T.seq_k (fun K_h0 h0 => ?_)
  refine T.regi hm ?_
  simp only [↓reduceIte, namesOf, List.any, I.names, aopsI, astep, ev, setd, List.set, then_normal, Bool.or_false, Bool.false_eq_true, up_zero]
  refine h0 _ _ ?_
  try clear h0 K_h0
  refine T.seq_k (fun K_h1 h1 => ?_)
  refine T.seq_k (fun K_h0 h0 => ?_)
  refine T.regi hm ?_
  simp only [↓reduceIte, namesOf, List.any, I.names, aopsI, astep, ev, setd, List.set, then_normal, Bool.or_false, Bool.false_eq_true, up_zero]
  refine h0 _ _ ?_
  try clear h0 K_h0
  refine T.block ?_
  refine T.gh (Gh.keep [4, 6, 7, 8, 9]) ?_
  refine T.loopi (fun i ρ t => ∃ (s : Rs) (acc : List Tc) (vv : Ver), s.ok b ∧ Rk σ t nm (rdS b .none s) 2 vv ∧ acc.length = i ∧ (vv = .nil → acc = []) ∧ (0 ≤ s.bad → N = 0) ∧ goR b N s0 [] = goR b (N - i) s acc ∧
      ρ = [.any, .any, .any, .any, .sl (bytesAV b) .none, .any, .ptr nm 0, .int .i64 (N : Int), .sl (tcsAV acc) vv, .int .i64 (i : Int)] ++ List.replicate 103 .any)
    N 0 (Nat.zero_le _) ⟨s0, [], .nil, k1, R1, rfl, fun _ => rfl, hN0, rfl, rfl⟩ ?_
  clear R1 σ2 k0
  rintro i ρ t hi ⟨s, acc, vv, ks, R1, hacc, hvn, hs2, hgo, rfl⟩
  have hkl := ks.1.len
  have hk0 := ks.1.lo
  have hk1' := ks.1.hi
  have hrd : t.res nm = some (.obj [.sl (bytesAV b) .none, .int .i64 s.at_, .int .i64 s.bad]) := R1.at_
  refine T.seq_k (fun K_h2 h2 => ?_)
  by_cases hil : i < N
  case neg =>
    have e1 : decide ((i : Int) < (N : Int)) = false := decide_eq_false (by omega)
    refine T.seq_k (fun K_h0 h0 => ?_)
    refine T.regi hm ?_
    simp only [↓reduceIte, namesOf, List.any, I.names, aopsI, astep, ev, setd, List.set, List.getD, List.getElem?_cons_zero, List.getElem?_cons_succ, List.cons_append, List.nil_append, List.replicate, then_normal, Option.getD_some, Bool.or_false, Bool.false_eq_true, up_zero, binv, ↓opt_def, eq_self, e1]
    refine h0 _ _ ?_
    try clear h0 K_h0
    refine T.cond rfl (fun h => by cases h) (fun _ => T.exit ?_)
    try simp only [List.cons_append, List.nil_append, List.replicate, then_normal, inBlock_exit, then_exit]
    have hiN : N - i = 0 := by omega
    have hiN' : acc.length = N := by omega
    rw [hiN] at hgo
    have hgz : goR b 0 s acc = some (acc, s) := by unfold goR; rfl
    rw [hgz] at hgo
    have hp : getP b = endP b acc s := by rw [hget, hgo]; rfl
    have hal : ∀ t ∈ acc, t.sp.length ≤ 9223372036854775807 := fun t ht => Nat.le_trans (goR_sp hbl (fun _ h => by cases h) hgo t ht) (by omega)
    have hno : (0 ≤ s.bad ∨ s.at_ < b.length ∨ 64 < acc.length ∨ isB acc = false) → G = (2, []) := fun h => by rw [hpg, hp]; unfold endP; rw [if_pos h]; rfl
    have hyes : ¬ (0 ≤ s.bad ∨ s.at_ < b.length ∨ 64 < acc.length ∨ isB acc = false) → G = (0, acc) := fun h => by rw [hpg, hp]; unfold endP; rw [if_neg h]; rfl
    refine h1 _ _ ?_
    try clear h1 K_h1
    refine T.seq_k (fun K_h1 h1 => ?_)
    refine T.regi hm ?_
    simp only [↓reduceIte, namesOf, List.any, I.names, aopsI, astep, ev, setd, List.set, List.getD, List.getElem?_cons_zero, List.getElem?_cons_succ, then_normal, Option.getD_some, Bool.or_false, Bool.false_eq_true, up_zero, List.map_cons, List.map_nil]
    refine (ris_ok (by omega) hal).mono ?_
    rintro v t ⟨rfl, rfl⟩
    rw [← is_doc]
    try simp only [↓reduceIte, namesOf, List.any, I.names, aops, aopsI, aopsT, qstep, CPt, qget, Tbl.get, astep, ev, setd, List.set, List.getD, List.getElem?_cons_zero, List.getElem?_cons_succ, List.getElem?_nil, List.cons_append, List.nil_append, List.length_cons, List.length_nil, List.replicate, then_normal, inBlock_normal, Option.getD_some, Option.getD_none, Bool.or_false, Bool.or_true, Bool.true_or, Bool.false_or, Bool.false_eq_true, if_false, if_true, up_zero, Nat.reduceAdd, Nat.reduceSub, binv, ↓opt_def, AV.isAny, AV.cells, ldc, List.map_cons, List.map_nil, St.set_next, St.set_same, St.up_next, Int.natCast_nonneg, lt_len, le_len, Int.toNat_natCast, true_and, and_true, eq_self, reduceCtorEq, decide_true, List.length_singleton, er_int, er_bool, er_str, up_zero]
    refine h1 _ _ ?_
    try clear h1 K_h1
    refine T.seq_k (fun K_h1 h1 => ?_)
    by_cases hb0 : 0 ≤ s.bad
    · have e2 : decide (s.bad ≥ 0) = true := decide_eq_true hb0
      refine T.seq_k (fun K_h0 h0 => ?_)
      refine T.regi hm ?_
      simp only [↓reduceIte, namesOf, List.any, I.names, aopsI, astep, ev, setd, List.set, List.getD, List.getElem?_cons_zero, List.getElem?_cons_succ, then_normal, Option.getD_some, Bool.or_false, Bool.false_eq_true, up_zero, Nat.reduceAdd, binv, ↓opt_def, ldc, eq_self, reduceCtorEq, hrd, e2]
      refine h0 _ _ ?_
      try clear h0 K_h0
      refine T.cond rfl (fun _ => ?_) (fun h => by cases h)
      refine T.seq_k (fun K_h0 h0 => ?_)
      refine T.regi hm ?_
      simp only [↓reduceIte, namesOf, List.any, I.names, aopsI, astep, ev, setd, List.set, then_normal, Bool.or_false, Bool.false_eq_true, up_zero]
      refine h0 _ _ ?_
      try clear h0 K_h0
      exact T.ret (Fin.quietw rfl (Wk.tup2 (Wk.sl _ _)) ⟨⟨trivial, trivial⟩, trivial, trivial⟩ (R1.like.quiet wf) ⟨by rw [hno (.inl hb0)]; rfl, rfl⟩)
    have e2 : decide (s.bad ≥ 0) = false := decide_eq_false hb0
    by_cases hlt : s.at_ < b.length
    · have e3 : decide (s.at_ < (b.length : Int)) = true := decide_eq_true hlt
      refine T.seq_k (fun K_h0 h0 => ?_)
      refine T.regi hm ?_
      simp only [↓reduceIte, namesOf, List.any, I.names, aopsI, astep, ev, setd, List.set, List.getD, List.getElem?_cons_zero, List.getElem?_cons_succ, then_normal, Option.getD_some, Bool.or_false, Bool.false_eq_true, up_zero, Nat.reduceAdd, binv, ↓opt_def, ldc, eq_self, reduceCtorEq, hrd, e2, bytesAV_len, e3]
      refine h0 _ _ ?_
      try clear h0 K_h0
      refine T.cond rfl (fun _ => ?_) (fun h => by cases h)
      refine T.seq_k (fun K_h0 h0 => ?_)
      refine T.regi hm ?_
      simp only [↓reduceIte, namesOf, List.any, I.names, aopsI, astep, ev, setd, List.set, then_normal, Bool.or_false, Bool.false_eq_true, up_zero]
      refine h0 _ _ ?_
      try clear h0 K_h0
      exact T.ret (Fin.quietw rfl (Wk.tup2 (Wk.sl _ _)) ⟨⟨trivial, trivial⟩, trivial, trivial⟩ (R1.like.quiet wf) ⟨by rw [hno (.inr (.inl hlt))]; rfl, rfl⟩)
    have e3 : decide (s.at_ < (b.length : Int)) = false := decide_eq_false hlt
    by_cases h64 : 64 < acc.length
    · have e4 : decide ((N : Int) > 64) = true := decide_eq_true (by omega)
      refine T.seq_k (fun K_h0 h0 => ?_)
      refine T.regi hm ?_
      simp only [↓reduceIte, namesOf, List.any, I.names, aopsI, astep, ev, setd, List.set, List.getD, List.getElem?_cons_zero, List.getElem?_cons_succ, then_normal, Option.getD_some, Bool.or_false, Bool.false_eq_true, up_zero, Nat.reduceAdd, binv, ↓opt_def, ldc, eq_self, reduceCtorEq, hrd, e2, bytesAV_len, e3, e4]
      refine h0 _ _ ?_
      try clear h0 K_h0
      refine T.cond rfl (fun _ => ?_) (fun h => by cases h)
      refine T.seq_k (fun K_h0 h0 => ?_)
      refine T.regi hm ?_
      simp only [↓reduceIte, namesOf, List.any, I.names, aopsI, astep, ev, setd, List.set, then_normal, Bool.or_false, Bool.false_eq_true, up_zero]
      refine h0 _ _ ?_
      try clear h0 K_h0
      exact T.ret (Fin.quietw rfl (Wk.tup2 (Wk.sl _ _)) ⟨⟨trivial, trivial⟩, trivial, trivial⟩ (R1.like.quiet wf) ⟨by rw [hno (.inr (.inr (.inl h64)))]; rfl, rfl⟩)
    have e4 : decide ((N : Int) > 64) = false := decide_eq_false (by omega)
    cases his : isB acc with
    | false =>
      refine T.seq_k (fun K_h0 h0 => ?_)
      refine T.regi hm ?_
      simp only [↓reduceIte, namesOf, List.any, I.names, aopsI, astep, ev, setd, List.set, List.getD, List.getElem?_cons_zero, List.getElem?_cons_succ, then_normal, Option.getD_some, Bool.or_false, Bool.false_eq_true, up_zero, Nat.reduceAdd, binv, ↓opt_def, ldc, eq_self, hrd, e2, bytesAV_len, e3, e4, Bool.not_false]
      refine h0 _ _ ?_
      try clear h0 K_h0
      refine T.cond rfl (fun _ => ?_) (fun h => by cases h)
      refine T.seq_k (fun K_h0 h0 => ?_)
      refine T.regi hm ?_
      simp only [↓reduceIte, namesOf, List.any, I.names, aopsI, astep, ev, setd, List.set, then_normal, Bool.or_false, Bool.false_eq_true, up_zero]
      refine h0 _ _ ?_
      try clear h0 K_h0
      exact T.ret (Fin.quietw rfl (Wk.tup2 (Wk.sl _ _)) ⟨⟨trivial, trivial⟩, trivial, trivial⟩ (R1.like.quiet wf) ⟨by rw [hno (.inr (.inr (.inr his)))]; rfl, rfl⟩)
    | true =>
      refine T.seq_k (fun K_h0 h0 => ?_)
      refine T.regi hm ?_
      simp only [↓reduceIte, namesOf, List.any, I.names, aopsI, astep, ev, setd, List.set, List.getD, List.getElem?_cons_zero, List.getElem?_cons_succ, then_normal, Option.getD_some, Bool.or_false, Bool.false_eq_true, up_zero, Nat.reduceAdd, binv, ↓opt_def, ldc, eq_self, hrd, e2, bytesAV_len, e3, e4, Bool.not_true]
      refine h0 _ _ ?_
      try clear h0 K_h0
      refine T.cond rfl (fun h => by cases h) (fun _ => T.skip ?_)
      refine h1 _ _ ?_
      try clear h1 K_h1
      refine T.seq_k (fun K_h0 h0 => ?_)
      refine T.regi hm ?_
      simp only [↓reduceIte, namesOf, List.any, I.names, aopsI, astep, ev, setd, List.set, List.getD, List.getElem?_cons_zero, List.getElem?_cons_succ, then_normal, Option.getD_some, Bool.or_false, Bool.false_eq_true, up_zero]
      refine h0 _ _ ?_
      try clear h0 K_h0
      exact T.ret (Fin.quietw rfl (Wk.tup2 (Wk.sl _ _)) ⟨⟨nbs_tcs _ _, trivial⟩, trivial, trivial⟩ (R1.like.quiet wf) ⟨by rw [hyes (by rw [his]; rintro (h | h | h | h); exact hb0 h; exact hlt h; exact h64 h; cases h)]; rfl, rfl⟩)
  have e1 : decide ((i : Int) < (N : Int)) = true := decide_eq_true (by omega)
  have hbd : ¬ 0 ≤ s.bad := fun h => by have := hs2 h; omega
  refine T.seq_k (fun K_h0 h0 => ?_)
  refine T.regi hm ?_
  simp only [↓reduceIte, namesOf, List.any, I.names, aopsI, astep, ev, setd, List.set, List.getD, List.getElem?_cons_zero, List.getElem?_cons_succ, List.cons_append, List.nil_append, List.replicate, then_normal, Option.getD_some, Bool.or_false, Bool.false_eq_true, up_zero, binv, ↓opt_def, eq_self, e1]
  refine h0 _ _ ?_
  try clear h0 K_h0
  refine T.cond rfl (fun _ => T.skip ?_) (fun h => by cases h)
  refine h2 _ _ ?_
  try clear h2 K_h2
  clear h1
  obtain ⟨n, hn⟩ : ∃ n, N - i = n + 1 := ⟨N - i - 1, by omega⟩
  have hn' : N - (i + 1) = n := by omega
  rw [hn] at hgo
  have hiw := inc64' hil (by omega)
  have ks1 := rN_ok (w := 8) ks
  have ks2 := rN_ok (w := 4) ks1
  have hM := rW_lt (w := 4) ks1
  have eI : hdI b s = rW b s 8 := rfl
  have eM : hdM b s = rW b (rN b s 8) 4 := rfl
  have eN : hdN b s = rN b (rN b s 8) 4 := rfl
  have hgb := @goR_bad b n s acc
  have hgn := @goR_no b n s acc
  have hgg := @goR_go b n s acc
  rw [← hgo] at hgb hgn hgg
  rw [← hn'] at hgg
  rw [eI] at hgg
  rw [eM, eN] at hgb hgn hgg
  clear eI eM eN hrd
  refine T.seq_k (fun K_h2 h2 => ?_)
  refine T.block ?_
  refine T.seq_k (fun K_h3 h3 => ?_)
  refine T.regi hm ?_
  simp only [↓reduceIte, namesOf, List.any, I.names, aopsI, astep, ev, setd, List.set, List.getD, List.getElem?_cons_zero, List.getElem?_cons_succ, List.cons_append, List.nil_append, List.replicate, then_normal, Option.getD_some, Bool.or_false, Bool.false_eq_true, up_zero, List.map_cons, List.map_nil]
  refine (rwordF ks rfl R1.at_).mono ?_
  rintro v u ⟨rfl, rfl⟩
  try simp only []
  refine h3 _ _ ?_
  try clear h3 K_h3
  generalize rW b s 8 = id at hgg ⊢
  generalize rN b s 8 = s1 at ks1 ks2 hM hgb hgn hgg ⊢
  have RA := R1.set (rdS b .none s1)
  generalize (t.set nm (rdS b .none s1)) = uA at RA ⊢
  clear R1
  have eM : IntKind.i64.wrap (rW b s1 4 : Int) = (rW b s1 4 : Int) := wrap64 (by omega) (by omega)
  refine T.seq_k (fun K_h3 h3 => ?_)
  refine T.regi hm ?_
  simp only [↓reduceIte, namesOf, List.any, I.names, aopsI, astep, ev, setd, List.set, List.getD, List.getElem?_cons_zero, List.getElem?_cons_succ, List.cons_append, List.nil_append, List.replicate, then_normal, Option.getD_some, Bool.or_false, Bool.false_eq_true, up_zero, List.map_cons, List.map_nil]
  refine (rwordF ks1 rfl RA.at_).mono ?_
  rintro v u ⟨rfl, rfl⟩
  try simp only [eM]
  refine h3 _ _ ?_
  try clear h3 K_h3
  generalize rW b s1 4 = m at hM hgb hgn hgg eM ⊢
  generalize rN b s1 4 = s2 at ks2 hgb hgn hgg ⊢
  have RB := RA.set (rdS b .none s2)
  generalize (uA.set nm (rdS b .none s2)) = uB at RB ⊢
  clear RA
  have hrd : uB.res nm = some (.obj [.sl (bytesAV b) .none, .int .i64 s2.at_, .int .i64 s2.bad]) := RB.at_
  have z2 := ks2.1.lo
  have z3 := ks2.1.hi
  have hG2 : (0 ≤ s2.bad ∨ (b.length : Int) < s2.at_ + m) → G = (2, []) := fun h => by rw [hpg, hget, hgb h]; rfl
  obtain ⟨p, hp⟩ : ∃ p : Nat, s2.at_ = (p : Int) := ⟨s2.at_.toNat, by omega⟩
  have e6 : IntKind.i64.wrap (s2.at_ + (m : Int)) = ((p + m : Nat) : Int) := by rw [wrap64 (by omega) (by omega), hp]; rfl
  refine T.seq_k (fun K_h3 h3 => ?_)
  by_cases hb2 : 0 ≤ s2.bad
  · have e3 : decide (s2.bad ≥ 0) = true := decide_eq_true hb2
    have hG := hG2 (.inl hb2)
    refine T.seq_k (fun K_h0 h0 => ?_)
    refine T.regi hm ?_
    simp only [↓reduceIte, namesOf, List.any, I.names, aopsI, astep, ev, setd, List.set, List.getD, List.getElem?_cons_zero, List.getElem?_cons_succ, List.cons_append, List.nil_append, List.replicate, then_normal, Option.getD_some, Bool.or_false, Bool.false_eq_true, up_zero, Nat.reduceAdd, binv, ↓opt_def, ldc, eq_self, reduceCtorEq, hrd, e3]
    refine h0 _ _ ?_
    try clear h0 K_h0
    refine T.cond rfl (fun _ => ?_) (fun h => by cases h)
    refine T.seq_k (fun K_h0 h0 => ?_)
    refine T.regi hm ?_
    simp only [↓reduceIte, namesOf, List.any, I.names, aopsI, astep, ev, setd, List.set, List.cons_append, List.nil_append, List.replicate, then_normal, Bool.or_false, Bool.false_eq_true, up_zero]
    refine h0 _ _ ?_
    try clear h0 K_h0
    exact T.ret (Fin.quietw rfl (Wk.tup2 (Wk.sl _ _)) ⟨⟨trivial, trivial⟩, trivial, trivial⟩ (RB.like.quiet wf) ⟨by rw [hG]; rfl, rfl⟩)
  have e3 : decide (s2.bad ≥ 0) = false := decide_eq_false hb2
  by_cases hm2 : (b.length : Int) < s2.at_ + m
  · have e4 : decide (((p + m : Nat) : Int) > (b.length : Int)) = true := decide_eq_true (by omega)
    have hG := hG2 (.inr hm2)
    generalize ((p + m : Nat) : Int) = dm at e6 e4
    refine T.seq_k (fun K_h0 h0 => ?_)
    refine T.regi hm ?_
    simp only [↓reduceIte, namesOf, List.any, I.names, aopsI, astep, ev, setd, List.set, List.getD, List.getElem?_cons_zero, List.getElem?_cons_succ, List.cons_append, List.nil_append, List.replicate, then_normal, Option.getD_some, Bool.or_false, Bool.false_eq_true, up_zero, Nat.reduceAdd, binv, ↓opt_def, ldc, eq_self, hrd, e3, e6, bytesAV_len, e4]
    refine h0 _ _ ?_
    try clear h0 K_h0
    refine T.cond rfl (fun _ => ?_) (fun h => by cases h)
    refine T.seq_k (fun K_h0 h0 => ?_)
    refine T.regi hm ?_
    simp only [↓reduceIte, namesOf, List.any, I.names, aopsI, astep, ev, setd, List.set, List.cons_append, List.nil_append, List.replicate, then_normal, Bool.or_false, Bool.false_eq_true, up_zero]
    refine h0 _ _ ?_
    try clear h0 K_h0
    exact T.ret (Fin.quietw rfl (Wk.tup2 (Wk.sl _ _)) ⟨⟨trivial, trivial⟩, trivial, trivial⟩ (RB.like.quiet wf) ⟨by rw [hG]; rfl, rfl⟩)
  have e4 : decide (((p + m : Nat) : Int) > (b.length : Int)) = false := decide_eq_false (by omega)
  clear hgb hG2
  have hno : ¬ (0 ≤ s2.bad ∨ (b.length : Int) < s2.at_ + m) := fun h => h.elim hb2 hm2
  have hgn := hgn hno
  have hgg := hgg hno
  have e7 : (0 : Int) ≤ s2.at_ ∧ s2.at_ ≤ ((p + m : Nat) : Int) ∧ ((p + m : Nat) : Int) ≤ (((bytesAV b).length : Nat) : Int) ∧ ((bytesAV b).all (AV.fits 1)) = true :=
    ⟨by omega, by omega, by rw [bytesAV_len]; omega, bytes_all _⟩
  have e8 : (((bytesAV b).drop s2.at_.toNat).take (((p + m : Nat) : Int) - s2.at_).toNat) = bytesAV (spN b s2 m) := by
    unfold spN
    rw [show (((p + m : Nat) : Int) - s2.at_).toNat = m by omega, bytes_drop, bytes_take]
  have hspl : (spN b s2 m).length ≤ 1000000 := by unfold spN; rw [List.length_take, List.length_drop]; omega
  generalize spN b s2 m = sp at e8 hspl hgn hgg
  generalize hdm' : ((p + m : Nat) : Int) = dm at e4 e6 e7 e8
  refine T.seq_k (fun K_h0 h0 => ?_)
  refine T.regi hm ?_
  simp only [↓reduceIte, namesOf, List.any, I.names, aopsI, astep, ev, setd, List.set, List.getD, List.getElem?_cons_zero, List.getElem?_cons_succ, List.cons_append, List.nil_append, List.replicate, then_normal, Option.getD_some, Bool.or_false, Bool.false_eq_true, up_zero, Nat.reduceAdd, binv, ↓opt_def, ldc, eq_self, hrd, e3, e6, bytesAV_len, e4]
  refine h0 _ _ ?_
  try clear h0 K_h0
  refine T.cond rfl (fun h => by cases h) (fun _ => T.skip ?_)
  refine h3 _ _ ?_
  try clear h3 K_h3
  refine T.seq_k (fun K_h3 h3 => ?_)
  refine T.regi hm ?_
  simp only [↓reduceIte, namesOf, List.any, I.names, aopsI, astep, ev, setd, List.set, List.getD, List.getElem?_cons_zero, List.getElem?_cons_succ, List.cons_append, List.nil_append, List.replicate, then_normal, Option.getD_some, Bool.or_false, Bool.false_eq_true, up_zero, Nat.reduceAdd, binv, ↓opt_def, ldc, List.map_cons, List.map_nil, eq_self, hrd, idx, e6, e7, e8, ite_self, and_self]
  refine ⟨_, rread_ok hspl, ?_⟩
  try simp only [List.getElem?_cons_zero, List.getElem?_cons_succ, ]
  refine h3 _ _ ?_
  try clear h3 K_h3
  refine T.seq_k (fun K_h3 h3 => ?_)
  by_cases hg : 0 ≤ (getS sp).1
  · have e9 : decide ((getS sp).1 ≥ 0) = true := decide_eq_true hg
    have hG : G = (2, []) := by rw [hpg, hget, hgn hg]; rfl
    refine T.seq_k (fun K_h0 h0 => ?_)
    refine T.regi hm ?_
    simp only [↓reduceIte, namesOf, List.any, I.names, aopsI, astep, ev, setd, List.set, List.getD, List.getElem?_cons_zero, List.getElem?_cons_succ, List.cons_append, List.nil_append, List.replicate, then_normal, Option.getD_some, Bool.or_false, Bool.false_eq_true, up_zero, binv, ↓opt_def, eq_self, e9]
    refine h0 _ _ ?_
    try clear h0 K_h0
    refine T.cond rfl (fun _ => ?_) (fun h => by cases h)
    refine T.seq_k (fun K_h0 h0 => ?_)
    refine T.regi hm ?_
    simp only [↓reduceIte, namesOf, List.any, I.names, aopsI, astep, ev, setd, List.set, List.cons_append, List.nil_append, List.replicate, then_normal, Bool.or_false, Bool.false_eq_true, up_zero]
    refine h0 _ _ ?_
    try clear h0 K_h0
    exact T.ret (Fin.quietw rfl (Wk.tup2 (Wk.sl _ _)) ⟨⟨trivial, trivial⟩, trivial, trivial⟩ (RB.like.quiet wf) ⟨by rw [hG]; rfl, rfl⟩)
  have e9 : decide ((getS sp).1 ≥ 0) = false := decide_eq_false hg
  have hgg := hgg hg
  refine T.seq_k (fun K_h0 h0 => ?_)
  refine T.regi hm ?_
  simp only [↓reduceIte, namesOf, List.any, I.names, aopsI, astep, ev, setd, List.set, List.getD, List.getElem?_cons_zero, List.getElem?_cons_succ, List.cons_append, List.nil_append, List.replicate, then_normal, Option.getD_some, Bool.or_false, Bool.false_eq_true, up_zero, binv, ↓opt_def, eq_self, e9]
  refine h0 _ _ ?_
  try clear h0 K_h0
  refine T.cond rfl (fun h => by cases h) (fun _ => T.skip ?_)
  refine h3 _ _ ?_
  try clear h3 K_h3
  clear hgn e9
  generalize (getS sp).2 = er at hgg ⊢
  generalize (getS sp).1 = ec
  have hat2 : s2.at_ + (m : Int) = dm := by omega
  rw [hat2] at hgg
  have ksn : Rs.ok b ⟨dm, s2.bad⟩ := ⟨⟨ks2.1.len, by simp only []; omega, by simp only []; omega⟩, ks2.2⟩
  refine T.seq_k (fun K_h3 h3 => ?_)
  have fin2 : ∀ ρ' uF g', Rk σ uF nm (rdS b .none s2) 2 (.tip g') → keep [4, 6, 7, 8, 9, 11] 0 ρ' = [.any, .any, .any, .any, .sl (bytesAV b) .none, .any, .ptr nm 0, .int .i64 (N : Int), .sl (tcsAV (acc ++ [⟨id, er⟩])) (.tip g'), .int .i64 (i : Int), .any, .int .i64 (m : Int)] ++ List.replicate 101 .any → K_h3 ρ' uF := by
    intro ρ' uF g' RF hρ
    refine h3 _ _ ?_
    try clear h3 K_h3
    refine T.gh (Gh.keep [4, 6, 7, 8, 9, 11]) ?_
    rw [hρ]
    have hrdF : uF.res nm = some (.obj [.sl (bytesAV b) .none, .int .i64 s2.at_, .int .i64 s2.bad]) := RF.at_
    refine T.regi hm ?_
    simp only [↓reduceIte, namesOf, List.any, I.names, aopsI, astep, ev, setd, List.set, List.getD, List.getElem?_cons_zero, List.getElem?_cons_succ, List.cons_append, List.nil_append, List.length_cons, List.length_nil, List.replicate, then_normal, inBlock_normal, Option.getD_some, Bool.or_false, Bool.false_eq_true, up_zero, Nat.reduceAdd, binv, ↓opt_def, AV.isAny, AV.cells, ldc, eq_self, decide_true, hrdF, e6, AV.fits, AV.one, List.all_cons, List.all_nil, Nat.reduceBEq, Bool.not_false, Bool.and_self, Nat.zero_add, splice, List.take, List.drop, Nat.reduceLeDiff]
    refine h2 _ _ ?_
    try clear h2 K_h2
    refine T.regi hm ?_
    simp only [↓reduceIte, namesOf, List.any, I.names, aopsI, astep, ev, setd, List.set, List.getD, List.getElem?_cons_zero, List.getElem?_cons_succ, List.cons_append, List.nil_append, List.replicate, then_normal, Option.getD_some, Bool.or_false, Bool.false_eq_true, up_zero, binv, ↓opt_def, eq_self, hiw]
    exact ⟨hil, _, _, Gh.keep [4, 6, 7, 8, 9], ⟨dm, s2.bad⟩, acc ++ [⟨id, er⟩], .tip g', ksn, RF.set (rdS b .none ⟨dm, s2.bad⟩), by simp [hacc], (fun h => by cases h), (fun h => absurd h hb2), hgg, rfl⟩
  clear h2
  have hsn := RB.like.next
  have hnm := RB.hi
  have hfit : (tcsAV (acc ++ [⟨id, er⟩])).all (AV.fits 2) = true := tcs_fits _
  have hfit1 : AV.fits 2 (.agg [.int .u64 (id : Int), .sl (spsAV er) .none]) = true := rfl
  have herg : ∀ (x : Int) (l : List AV) (g : Ver), (AV.agg [.int .u64 x, .sl l g]).er = .agg [.int .u64 x, .sl l .none] := fun _ _ _ => rfl
  have her : (AV.agg [.int .u64 (id : Int), .sl (spsAV er) .none]).er = .agg [.int .u64 (id : Int), .sl (spsAV er) .none] := rfl
  have hle : decide ((acc.length + 1) * 32 ≤ 70368744177664 ∧ acc.length + 1 ≤ 4611686018427387904) = true := decide_eq_true (by omega)
  have hle' : decide ((acc.length + 1) * 32 ≤ 70368744177664 ∧ acc.length ≤ 4611686018427387903) = true := decide_eq_true (by omega)
  rcases RB.ver with rfl | ⟨g, rfl, _, _, _, hg2⟩
  · have hac := hvn rfl
    subst hac
    have hX1 : [AV.agg [.int .u64 (id : Int), .sl (spsAV er) .none]] = tcsAV [⟨id, er⟩] := rfl
    have hX0 : tcsAV ([] : List Tc) = [] := rfl
    have hX2 : (tcsAV [⟨id, er⟩]).isEmpty = false := rfl
    have hX3 : (tcsAV [⟨id, er⟩]).all (AV.fits 2) = true := tcs_fits _
    refine T.regi hm ?_
    simp only [↓reduceIte, namesOf, List.any, I.names, aopsI, astep, ev, setd, List.set, List.getD, List.getElem?_cons_zero, List.getElem?_cons_succ, List.cons_append, List.nil_append, List.length_cons, List.length_nil, List.replicate, then_normal, Option.getD_some, Bool.or_false, Bool.or_true, Nat.reduceAdd, ↓opt_def, AV.isAny, AV.cells, List.map_cons, List.map_nil, and_true, eq_self, decide_true, fillA, Option.map, hX0, held, List.all_cons, List.all_nil, Bool.and_self, Bool.and_true, AV.fits, AV.one, Nat.reduceBEq, splice, List.take, List.drop, srcOf, Nat.reduceMul, Nat.reduceLeDiff, and_self, Nat.zero_add]
    exact fin2 _ _ _ ((RB.up 7).appNil (g := uB.next + 5) (by omega) (by omega) (by simp)) rfl
  · have hgn2 : ∀ k, (uB.up k).res g = some (.tip 2) := fun _ => hg2
    refine T.regi hm ?_
    simp only [↓reduceIte, namesOf, List.any, I.names, aopsI, astep, ev, setd, List.set, List.getD, List.getElem?_cons_zero, List.getElem?_cons_succ, List.cons_append, List.nil_append, List.length_cons, List.length_nil, List.replicate, then_normal, Option.getD_some, Bool.or_false, Bool.or_true, Nat.reduceAdd, ↓opt_def, AV.isAny, AV.cells, List.map_cons, List.map_nil, eq_self, fillA, Option.map, AV.fits, AV.one, List.all_cons, List.all_nil, Nat.reduceBEq, Bool.not_false, Bool.and_self, Nat.zero_add, splice, List.take, List.drop, Nat.reduceLeDiff, and_self, held, herg, List.all_cons, List.all_nil, Bool.and_self, AV.fits, AV.one, Nat.reduceBEq, splice, List.take, List.drop, srcOf, tcs_snoc', hfit, tcs_len, hle', hgn2]
    exact fin2 _ _ _ ((RB.up 7).appTip (g := uB.next + 5) (by omega) (by omega) (by simp)) rfl
end Go.VL
