/- Contracts: page.Get. -/
import Derived.Test.YtlbnimbgodmagaaVwD
import Derived.Test.YtlbnimbgodmagaaVvC
namespace Go.VL
open Go.Proofs

theorem Rk.moved {σ t u : St} {nm nm' k : Nat} {r r' : Res} {v : Ver} (h : Rk σ t nm r k v) (hr : u.res nm' = some r') (h1 : t.next ≤ nm') (h2 : nm' < u.next) (ho : ∀ m, m < t.next → u.res m = t.res m) : Rk σ u nm' r' k v := by
  have hn := h.like.next
  refine ⟨h.like.trans ⟨by omega, ho⟩, by omega, h2, hr, h.ver.imp id ?_⟩
  rintro ⟨g, a1, a2, a3, a4, a5⟩
  exact ⟨g, a1, by omega, a3, by omega, by rw [ho g a4]; exact a5⟩
theorem Rk.liked {σ t u : St} {nm k : Nat} {r : Res} {v : Ver} (h : Rk σ t nm r k v) (l : Like t u) : Rk σ u nm r k v :=
  ⟨h.like.trans l, h.lo, Nat.lt_of_lt_of_le h.hi l.next, (l.same _ h.hi).trans h.at_, h.ver.imp id fun ⟨g, a1, a2, a3, a4, a5⟩ => ⟨g, a1, a2, a3, Nat.lt_of_lt_of_le a4 l.next, (l.same _ a4).trans a5⟩⟩
theorem tcs_snoc' (a : List Tc) (i : Nat) (l : List Sp) : tcsAV a ++ [.agg [.int .u64 (i : Int), .sl (spsAV l) .none]] = tcsAV (a ++ [⟨i, l⟩]) := by simp [tcsAV, Tc.av, spsAV]

set_option maxRecDepth 10000 in
set_option maxHeartbeats 4000000 in
theorem pgget_ok {x : List UInt8} {g0 : Ver} {σ : St} (hx : x.length ≤ 1000000) :
    ACalls Try.prog n_pgget [.sl (bytesAV x) g0] σ (fun v σ' => v = .tup [.sl (tcsAV (pageG x).2) .none, errAV (pageG x).1] ∧ σ' = σ) := by
  refine s_pgget (fun wf => ?_)
  unfold c_pgget
  have hble := openB_le x
  have hpg : pageG x = if (openB x).1 = 0 then pgOf (getP (openB x).2) else ((openB x).1, []) := rfl
  generalize pageG x = G at hpg ⊢
  refine T.seq_k (fun K_h0 h0 => ?_)
  refine T.regi hm ?_
  simp only [↓reduceIte, namesOf, List.any, I.names, aopsI, astep, ev, setd, List.set, List.cons_append, List.nil_append, List.length_cons, List.length_nil, List.replicate, then_normal, Bool.or_false, Bool.false_eq_true, up_zero, Nat.reduceAdd, Nat.reduceSub]
  refine h0 _ _ ?_
  try clear h0 K_h0
  refine T.seq_k (fun K_h1 h1 => ?_)
  refine T.regi hm ?_
  simp only [↓reduceIte, namesOf, List.any, I.names, aopsI, astep, ev, setd, List.set, List.getD, List.getElem?_cons_zero, List.getElem?_cons_succ, then_normal, Option.getD_some, Bool.or_false, Bool.false_eq_true, up_zero, ↓opt_def, List.map_cons, List.map_nil]
  refine (copen_ok (by omega)).mono ?_
  rintro v σ ⟨rfl, rfl⟩
  generalize (openB x).1 = c at hpg ⊢
  generalize (openB x).2 = b at hpg hble ⊢
  try simp only [List.getElem?_cons_zero, List.getElem?_cons_succ, ]
  refine h1 _ _ ?_
  try clear h1 K_h1
  refine T.seq_k (fun K_h1 h1 => ?_)
  by_cases hc : c = 0
  case neg =>
    rw [if_neg hc] at hpg
    rw [errAV_eq c hc]
    refine T.seq_k (fun K_h0 h0 => ?_)
    refine T.regi hm ?_
    simp only [↓reduceIte, namesOf, List.any, I.names, aopsI, astep, ev, setd, List.set, List.getD, List.getElem?_cons_zero, List.getElem?_cons_succ, then_normal, Option.getD_some, Bool.or_false, Bool.false_eq_true, up_zero, eqIv, Bool.bne_true, Bool.not_false]
    refine h0 _ _ ?_
    try clear h0 K_h0
    refine T.cond rfl (fun _ => ?_) (fun h => by cases h)
    refine T.seq_k (fun K_h0 h0 => ?_)
    refine T.regi hm ?_
    simp only [↓reduceIte, namesOf, List.any, I.names, aopsI, astep, ev, setd, List.set, List.getD, List.getElem?_cons_zero, List.getElem?_cons_succ, then_normal, Option.getD_some, Bool.or_false, Bool.false_eq_true, up_zero]
    refine h0 _ _ ?_
    try clear h0 K_h0
    exact T.ret (Fin.quietw rfl (Wk.tup2 (Wk.sl _ _)) ⟨⟨trivial, trivial⟩, trivial, trivial⟩ (fun _ _ h => h) ⟨by rw [hpg, errAV_eq c hc]; rfl, rfl⟩)
  rw [if_pos hc] at hpg
  subst hc
  have e0 : errAV 0 = .nili := rfl
  rw [e0]
  refine T.seq_k (fun K_h0 h0 => ?_)
  refine T.regi hm ?_
  simp only [↓reduceIte, namesOf, List.any, I.names, aopsI, astep, ev, setd, List.set, List.getD, List.getElem?_cons_zero, List.getElem?_cons_succ, then_normal, Option.getD_some, Bool.or_false, Bool.false_eq_true, up_zero, eq_self, eqIv, bne_self_eq_false]
  refine h0 _ _ ?_
  try clear h0 K_h0
  refine T.cond rfl (fun h => by cases h) (fun _ => T.skip ?_)
  refine h1 _ _ ?_
  try clear h1 K_h1
  have k0 : Rs.ok b r0 := Rs.ok_r0 (by omega)
  have k1 := rN_ok (w := 2) k0
  have hN := rW_lt (w := 2) k0
  have hget : getP b = (goR b (rW b r0 2) (rN b r0 2) []).bind fun p => endP b p.1 p.2 := rfl
  have hN0 : 0 ≤ (rN b r0 2).bad → rW b r0 2 = 0 := fun h => rW_bad rfl h
  have hS0 : SH 0 b r0 := ⟨k0, by omega, by simp [r0], .inl rfl⟩
  have hS1 := (hS0.rn 2).2
  have hsh : ∀ s : Rs, sh 0 s = s := fun s => by
    unfold sh
    cases s with
    | mk a d => simp only [Int.sub_zero, Int.natCast_zero, Rs.mk.injEq, true_and]; split <;> omega
  refine T.seq_k (fun K_h1 h1 => ?_)
  refine T.regi hm ?_
  simp only [↓reduceIte, namesOf, List.any, I.names, aopsI, astep, ev, setd, List.set, List.getD, List.getElem?_cons_zero, List.getElem?_cons_succ, then_normal, Option.getD_some, Bool.or_false, Bool.false_eq_true, up_zero, List.map_cons, List.map_nil]
  refine wreadF.mono ?_
  rintro v σ1 ⟨nm, rfl, hr1, hn1, hn2, ho1⟩
  have R0 : Rk σ σ1 nm (rdS b .none r0) 2 .nil := ⟨⟨by omega, ho1⟩, hn1, hn2, hr1, .inl rfl⟩
  clear hr1 hn1 hn2 ho1
  try simp only [↓reduceIte, namesOf, List.any, I.names, aops, aopsI, aopsT, qstep, CPt, qget, Tbl.get, astep, ev, setd, List.set, List.getD, List.getElem?_cons_zero, List.getElem?_cons_succ, List.getElem?_nil, List.cons_append, List.nil_append, List.length_cons, List.length_nil, List.replicate, then_normal, inBlock_normal, Option.getD_some, Option.getD_none, Bool.or_false, Bool.or_true, Bool.true_or, Bool.false_or, Bool.false_eq_true, if_false, if_true, up_zero, Nat.reduceAdd, Nat.reduceSub, binv, ↓opt_def, AV.isAny, AV.cells, ldc, List.map_cons, List.map_nil, St.set_next, St.set_same, St.up_next, Int.natCast_nonneg, lt_len, le_len, Int.toNat_natCast, true_and, and_true, eq_self, reduceCtorEq, decide_true, List.length_singleton, er_int, er_bool, er_str, up_zero]
  refine h1 _ _ ?_
  try clear h1 K_h1
  refine T.seq_k (fun K_h1 h1 => ?_)
  refine T.regi hm ?_
  simp only [↓reduceIte, namesOf, List.any, I.names, aopsI, astep, ev, setd, List.set, List.getD, List.getElem?_cons_zero, List.getElem?_cons_succ, then_normal, Option.getD_some, Bool.or_false, Bool.false_eq_true, up_zero, List.map_cons, List.map_nil]
  refine (wwordF k0 rfl R0.at_).mono ?_
  rintro v σ2 ⟨rfl, rfl⟩
  have R1 := R0.set (rdS b .none (rN b r0 2))
  generalize (σ1.set nm (rdS b .none (rN b r0 2))) = σ2 at R1 ⊢
  clear R0 σ1
  generalize rW b r0 2 = N at hN hget hN0 ⊢
  generalize rN b r0 2 = s0 at k1 R1 hget hN0 hS1
  have eN : IntKind.i64.wrap (N : Int) = (N : Int) := wrap64 (by omega) (by omega)
  try simp only [eN]
  refine h1 _ _ ?_
  try clear h1 K_h1
  refine T.seq_k (fun K_h0 h0 => ?_)
  refine T.regi hm ?_
  simp only [↓reduceIte, namesOf, List.any, I.names, aopsI, astep, ev, setd, List.set, then_normal, Bool.or_false, Bool.false_eq_true, up_zero]
  refine h0 _ _ ?_
  try clear h0 K_h0
  refine T.seq_k (fun K_h1 h1 => ?_)
  refine T.seq_k (fun K_h0 h0 => ?_)
  refine T.regi hm ?_
  simp only [↓reduceIte, namesOf, List.any, I.names, aopsI, astep, ev, setd, List.set, then_normal, Bool.or_false, Bool.false_eq_true, up_zero]
  refine h0 _ _ ?_
  try clear h0 K_h0
  refine T.block ?_
  refine T.gh (Gh.keep [4, 6, 7, 8, 9]) ?_
  refine T.loopi (fun i ρ t => ∃ (nm k : Nat) (s : Rs) (acc : List Tc) (vv : Ver), SH k b s ∧ Rk σ t nm (rdS (b.drop k) .none (sh k s)) 2 vv ∧ acc.length = i ∧ (vv = .nil → acc = []) ∧ (0 ≤ s.bad → N = 0) ∧ goR b N s0 [] = goR b (N - i) s acc ∧
      ρ = [.any, .any, .any, .any, .sl (bytesAV (b.drop k)) .none, .any, .ptr nm 0, .int .i64 (N : Int), .sl (tcsAV acc) vv, .int .i64 (i : Int)] ++ List.replicate 99 .any)
    N 0 (Nat.zero_le _) ⟨nm, 0, s0, [], .nil, hS1, by rw [hsh]; exact R1, rfl, fun _ => rfl, hN0, rfl, rfl⟩ ?_
  clear R1 σ2 k0 hS0 hS1 hsh
  rintro i ρ t hi ⟨nm, k, s, acc, vv, hS, R1, hacc, hvn, hs2, hgo, rfl⟩
  have hbl : b.length ≤ 1000000 := by omega
  have hks := hS.isok
  obtain ⟨⟨hkl, hk0, hk1'⟩, _⟩ := hks
  refine T.seq_k (fun K_h2 h2 => ?_)
  by_cases hil : i < N
  case neg =>
    have e1 : decide ((i : Int) < (N : Int)) = false := decide_eq_false (by omega)
    refine T.seq_k (fun K_h0 h0 => ?_)
    refine T.regi hm ?_
    simp only [↓reduceIte, namesOf, List.any, I.names, aopsI, astep, ev, setd, List.set, List.getD, List.getElem?_cons_zero, List.getElem?_cons_succ, List.cons_append, List.nil_append, List.replicate, then_normal, Option.getD_some, Bool.or_false, Bool.false_eq_true, up_zero, binv, ↓opt_def, eq_self, e1]
    refine h0 _ _ ?_
    try clear h0 K_h0
    refine T.cond rfl (fun h => by cases h) (fun _ => T.exit ?_)
    try simp only [List.cons_append, List.nil_append, List.replicate, then_normal, inBlock_exit, then_exit]
    have hiN : N - i = 0 := by omega
    rw [hiN] at hgo
    have hgz : goR b 0 s acc = some (acc, s) := by unfold goR; rfl
    rw [hgz] at hgo
    have hp : getP b = endP b acc s := by rw [hget, hgo]; rfl
    refine h1 _ _ ?_
    try clear h1 K_h1
    have hpos := hS.pos
    have hsat : (((b.drop k).length : Nat) : Int) - ((sh k s).at_ : Int) = b.length - s.at_ := by unfold sh; rw [List.length_drop]; have := hS.len; simp only []; omega
    have hal : ∀ t ∈ acc, t.sp.length ≤ 9223372036854775807 := fun t ht => Nat.le_trans (goR_sp hbl (fun _ h => by cases h) hgo t ht) (by omega)
    have hN2 : acc.length ≤ 65536 := by omega
    have hno : (0 ≤ s.bad ∨ s.at_ < b.length ∨ 64 < acc.length ∨ isB acc = false) → G = (2, []) := fun h => by rw [hpg, hp]; unfold endP; rw [if_pos h]; rfl
    have hyes : ¬ (0 ≤ s.bad ∨ s.at_ < b.length ∨ 64 < acc.length ∨ isB acc = false) → G = (0, acc) := fun h => by rw [hpg, hp]; unfold endP; rw [if_neg h]; rfl
    refine T.seq_k (fun K_h1 h1 => ?_)
    refine T.seq_k (fun K_h3 h3 => ?_)
    refine T.regt hm (tbl := []) Tbl.ok_nil ?_
    refine aopsT_cut 2 (fun K_c h_c => ?_)
    try simp only [↓reduceIte, namesOf, List.any, I.names, aopsT, qstep, CPt, Tbl.get, astep, ev, setd, List.set, List.getD, List.getElem?_cons_zero, List.getElem?_cons_succ, Option.getD_some, Bool.or_false, Bool.false_eq_true, up_zero, List.map_cons, List.map_nil, List.take_succ_cons, List.take_zero]
    refine (wbad_ok R1.at_).mono ?_
    rintro v t ⟨rfl, rfl⟩
    refine h_c _ _ ?_
    clear h_c K_c
    simp only [List.drop_succ_cons, List.drop_zero, Nat.zero_add]
    by_cases hb0 : 0 ≤ s.bad
    · have e2 : decide ((sh k s).bad ≥ 0) = true := decide_eq_true (hpos.2 hb0)
      try simp only [↓reduceIte, aopsT, qstep, astep, ev, setd, List.set, List.getD, List.getElem?_cons_zero, List.getElem?_cons_succ, then_normal, Option.getD_some, binv, ↓opt_def, eq_self, reduceCtorEq, e2]
      refine h3 _ _ ?_
      try clear h3 K_h3
      refine T.cond rfl (fun _ => ?_) (fun h => by cases h)
      refine T.seq_k (fun K_h0 h0 => ?_)
      refine T.regi hm ?_
      simp only [↓reduceIte, namesOf, List.any, I.names, aopsI, astep, ev, setd, List.set, List.getD, List.getElem?_cons_zero, List.getElem?_cons_succ, then_normal, Option.getD_some, Bool.or_false, Bool.false_eq_true, up_zero]
      refine h0 _ _ ?_
      try clear h0 K_h0
      exact T.ret (Fin.quietw rfl (Wk.tup2 (Wk.sl _ _)) ⟨⟨trivial, trivial⟩, trivial, trivial⟩ (R1.like.quiet wf) ⟨by rw [hno (.inl hb0)]; rfl, rfl⟩)
    have e2 : decide ((sh k s).bad ≥ 0) = false := decide_eq_false (fun h => hb0 (hpos.1 h))
    try simp only [↓reduceIte, aopsT, qstep, CPt, Tbl.get, astep, ev, setd, List.set, List.getD, List.getElem?_cons_zero, List.getElem?_cons_succ, then_normal, Option.getD_some, Bool.false_eq_true, binv, ↓opt_def, List.map_cons, List.map_nil, eq_self, e2]
    refine (wleft_ok hkl hk0 hk1' R1.at_).mono ?_
    rintro v t ⟨rfl, rfl⟩
    rw [hsat]
    by_cases hlt : s.at_ < b.length
    · have e3 : decide ((b.length : Int) - s.at_ > 0) = true := decide_eq_true (by omega)
      try simp only [↓reduceIte, eq_self, reduceCtorEq, e3]
      refine h3 _ _ ?_
      try clear h3 K_h3
      refine T.cond rfl (fun _ => ?_) (fun h => by cases h)
      refine T.seq_k (fun K_h0 h0 => ?_)
      refine T.regi hm ?_
      simp only [↓reduceIte, namesOf, List.any, I.names, aopsI, astep, ev, setd, List.set, List.getD, List.getElem?_cons_zero, List.getElem?_cons_succ, then_normal, Option.getD_some, Bool.or_false, Bool.false_eq_true, up_zero]
      refine h0 _ _ ?_
      try clear h0 K_h0
      exact T.ret (Fin.quietw rfl (Wk.tup2 (Wk.sl _ _)) ⟨⟨trivial, trivial⟩, trivial, trivial⟩ (R1.like.quiet wf) ⟨by rw [hno (.inr (.inl hlt))]; rfl, rfl⟩)
    have e3 : decide ((b.length : Int) - s.at_ > 0) = false := decide_eq_false (by omega)
    by_cases h64 : 64 < acc.length
    · have e4 : decide ((acc.length : Int) > 64) = true := decide_eq_true (by omega)
      try simp only [↓reduceIte, Bool.false_eq_true, eq_self, reduceCtorEq, e3, tcs_len, e4]
      refine h3 _ _ ?_
      try clear h3 K_h3
      refine T.cond rfl (fun _ => ?_) (fun h => by cases h)
      refine T.seq_k (fun K_h0 h0 => ?_)
      refine T.regi hm ?_
      simp only [↓reduceIte, namesOf, List.any, I.names, aopsI, astep, ev, setd, List.set, List.getD, List.getElem?_cons_zero, List.getElem?_cons_succ, then_normal, Option.getD_some, Bool.or_false, Bool.false_eq_true, up_zero]
      refine h0 _ _ ?_
      try clear h0 K_h0
      exact T.ret (Fin.quietw rfl (Wk.tup2 (Wk.sl _ _)) ⟨⟨trivial, trivial⟩, trivial, trivial⟩ (R1.like.quiet wf) ⟨by rw [hno (.inr (.inr (.inl h64)))]; rfl, rfl⟩)
    have e4 : decide ((acc.length : Int) > 64) = false := decide_eq_false (by omega)
    try simp only [↓reduceIte, Bool.false_eq_true, eq_self, e3, tcs_len, e4]
    refine (is_ok (by omega) hal).mono ?_
    rintro v t ⟨rfl, rfl⟩
    cases his : isB acc with
    | false =>
      try simp only [Bool.not_false]
      refine h3 _ _ ?_
      try clear h3 K_h3
      refine T.cond rfl (fun _ => ?_) (fun h => by cases h)
      refine T.seq_k (fun K_h0 h0 => ?_)
      refine T.regi hm ?_
      simp only [↓reduceIte, namesOf, List.any, I.names, aopsI, astep, ev, setd, List.set, List.getD, List.getElem?_cons_zero, List.getElem?_cons_succ, then_normal, Option.getD_some, Bool.or_false, Bool.false_eq_true, up_zero]
      refine h0 _ _ ?_
      try clear h0 K_h0
      exact T.ret (Fin.quietw rfl (Wk.tup2 (Wk.sl _ _)) ⟨⟨trivial, trivial⟩, trivial, trivial⟩ (R1.like.quiet wf) ⟨by rw [hno (.inr (.inr (.inr his)))]; rfl, rfl⟩)
    | true =>
      try simp only [Bool.not_true]
      refine h3 _ _ ?_
      try clear h3 K_h3
      refine T.cond rfl (fun h => by cases h) (fun _ => T.skip ?_)
      refine h1 _ _ ?_
      try clear h1 K_h1
      refine T.seq_k (fun K_h0 h0 => ?_)
      refine T.regi hm ?_
      simp only [↓reduceIte, namesOf, List.any, I.names, aopsI, astep, ev, setd, List.set, List.getD, List.getElem?_cons_zero, List.getElem?_cons_succ, then_normal, Option.getD_some, Bool.or_false, Bool.false_eq_true, up_zero]
      refine h0 _ _ ?_
      try clear h0 K_h0
      exact T.ret (Fin.quietw rfl (Wk.tup2 (Wk.sl _ _)) ⟨⟨nbs_tcs _ _, trivial⟩, trivial, trivial⟩ (R1.like.quiet wf) ⟨by rw [hyes (by rw [his]; rintro (h | h | h | h); exact hb0 h; exact hlt h; exact h64 h; cases h)]; rfl, rfl⟩)
  have e1 : decide ((i : Int) < (N : Int)) = true := decide_eq_true (by omega)
  have hbd : ¬ 0 ≤ s.bad := fun h => by have := hs2 h; omega
  have hbm : s.bad = -1 := hS.ok.2.resolve_right hbd
  refine T.seq_k (fun K_h3 h3 => ?_)
  refine T.regi hm ?_
  simp only [↓reduceIte, namesOf, List.any, I.names, aopsI, astep, ev, setd, List.set, List.getD, List.getElem?_cons_zero, List.getElem?_cons_succ, List.cons_append, List.nil_append, List.replicate, then_normal, Option.getD_some, Bool.or_false, Bool.false_eq_true, up_zero, binv, ↓opt_def, List.map_cons, List.map_nil, eq_self, e1]
  refine (wbad_ok R1.at_).mono ?_
  rintro v t ⟨rfl, rfl⟩
  have e2 : decide ((sh k s).bad < 0) = true := decide_eq_true (by have := hS.pos; omega)
  try simp only [↓reduceIte, eq_self, e2]
  refine h3 _ _ ?_
  try clear h3 K_h3
  refine T.cond rfl (fun _ => T.skip ?_) (fun h => by cases h)
  refine h2 _ _ ?_
  try clear h2 K_h2
  clear h1
  obtain ⟨n, hn⟩ : ∃ n, N - i = n + 1 := ⟨N - i - 1, by omega⟩
  have hn' : N - (i + 1) = n := by omega
  rw [hn] at hgo
  have hiw := inc64' hil (by omega)
  obtain ⟨q1, hS1⟩ := hS.rn 8
  have q2 := hS.rw 8
  obtain ⟨q3, hS2⟩ := hS1.rn 4
  have q4 := hS1.rw 4
  have hM := rW_lt (w := 4) hS1.ok
  have eI : hdI b s = rW b s 8 := rfl
  have eM : hdM b s = rW b (rN b s 8) 4 := rfl
  have eN : hdN b s = rN b (rN b s 8) 4 := rfl
  have hI8 := rW_lt (w := 8) hS.ok
  rw [← eI] at q2 hI8
  rw [← eM] at q4 hM
  rw [← eN] at q3 hS2
  have hgb := @goR_bad b n s acc
  have hgn := @goR_no b n s acc
  have hgg := @goR_go b n s acc
  rw [← hgo] at hgb hgn hgg
  rw [← hn'] at hgg
  generalize hdI b s = id at q2 hI8 hgg
  generalize hdM b s = m at q4 hM hgb hgn hgg
  generalize hdN b s = s2 at q3 hS2 hgb hgn hgg
  clear eI eM eN
  refine T.seq_k (fun K_h2 h2 => ?_)
  refine T.block ?_
  refine T.seq_k (fun K_h3 h3 => ?_)
  refine T.regi hm ?_
  simp only [↓reduceIte, namesOf, List.any, I.names, aopsI, astep, ev, setd, List.set, List.getD, List.getElem?_cons_zero, List.getElem?_cons_succ, List.cons_append, List.nil_append, List.length_cons, List.length_nil, List.replicate, then_normal, Option.getD_some, Bool.or_false, Bool.or_true, Nat.reduceAdd, ↓opt_def, AV.cells, List.map_cons, List.map_nil, St.set_same, eq_self]
  refine (wwordF hS.isok rfl (R1.up 5).at_).mono ?_
  rintro v u ⟨rfl, rfl⟩
  rw [q1, q2]
  generalize rN b s 8 = s1 at q1 hS1 q3 q4 ⊢
  try simp only [↓reduceIte, ev, List.getD, List.getElem?_cons_zero, List.getElem?_cons_succ, List.cons_append, List.nil_append, List.length_cons, List.length_nil, Option.getD_some, Nat.reduceAdd, AV.isAny, AV.cells, and_true, eq_self, decide_true, fillA, Option.map, AV.fits, AV.one, List.all_cons, List.all_nil, Nat.reduceBEq, Bool.not_false, Bool.and_self, Nat.zero_add, splice, List.take, List.drop, Nat.reduceLeDiff, St.set_set]
  have hsn := R1.like.next
  have hnm := R1.hi
  have RA := ((R1.up 5).set (rdS (b.drop k) .none (sh k s1))).new (a := t.next + 3) (.obj [.int .u64 (id : Int), .sl [] .nil]) (by omega) (by omega) (fun g hg => by have := R1.lt hg; omega)
  have hA : (((t.up 5).set nm (rdS (b.drop k) .none (sh k s1))).set (t.next + 3) (.obj [.int .u64 (id : Int), .sl [] .nil])).res (t.next + 3) = some (.obj [.int .u64 (id : Int), .sl [] .nil]) := by simp
  have ha0 : σ.next ≤ t.next + 3 := by omega
  have ha1 : t.next + 3 < (((t.up 5).set nm (rdS (b.drop k) .none (sh k s1))).set (t.next + 3) (.obj [.int .u64 (id : Int), .sl [] .nil])).next := by simp
  have ha2 : t.next + 3 ≠ nm := by omega
  have ha3 : ∀ g, vv = .tip g → t.next + 3 ≠ g := fun g hg => by have := R1.lt hg; omega
  generalize (((t.up 5).set nm (rdS (b.drop k) .none (sh k s1))).set (t.next + 3) (.obj [.int .u64 (id : Int), .sl [] .nil])) = uA at RA hA ha1 ⊢
  generalize t.next + 3 = a at hA ha0 ha1 ha2 ha3 ⊢
  clear R1 hsn hnm
  refine h3 _ _ ?_
  try clear h3 K_h3
  have eM : IntKind.i64.wrap (m : Int) = (m : Int) := wrap64 (by omega) (by omega)
  refine T.seq_k (fun K_h3 h3 => ?_)
  refine T.regi hm ?_
  simp only [↓reduceIte, namesOf, List.any, I.names, aopsI, astep, ev, setd, List.set, List.getD, List.getElem?_cons_zero, List.getElem?_cons_succ, List.cons_append, List.nil_append, List.replicate, then_normal, Option.getD_some, Bool.or_false, Bool.false_eq_true, up_zero, List.map_cons, List.map_nil]
  refine (wwordF hS1.isok rfl RA.at_).mono ?_
  rintro v u ⟨rfl, rfl⟩
  rw [q3, q4]
  have RB := RA.set (rdS (b.drop k) .none (sh k s2))
  have hB : (uA.set nm (rdS (b.drop k) .none (sh k s2))).res a = _ := (St.set_other _ _ ha2).trans hA
  have hBn : a < (uA.set nm (rdS (b.drop k) .none (sh k s2))).next := ha1
  generalize (uA.set nm (rdS (b.drop k) .none (sh k s2))) = uB at RB hB hBn ⊢
  clear RA hA ha1 q1 q2 q3 q4
  try simp only [eM]
  refine h3 _ _ ?_
  try clear h3 K_h3
  -- may it be so long?
  obtain ⟨⟨z1, z2, z3⟩, z4⟩ := hS2.isok
  have hlk : (((b.drop k).length : Nat) : Int) = b.length - k := by rw [List.length_drop]; have := hS2.len; omega
  have hat : (sh k s2).at_ = s2.at_ - k := rfl
  have hpos2 := hS2.pos
  have hG2 : (0 ≤ s2.bad ∨ (b.length : Int) < s2.at_ + m) → G = (2, []) := fun h => by rw [hpg, hget, hgb h]; rfl
  refine T.seq_k (fun K_h3 h3 => ?_)
  refine T.seq_k (fun K_h4 h4 => ?_)
  refine T.regi hm ?_
  simp only [↓reduceIte, namesOf, List.any, I.names, aopsI, astep, ev, setd, List.set, List.getD, List.getElem?_cons_zero, List.getElem?_cons_succ, List.cons_append, List.nil_append, List.replicate, then_normal, Option.getD_some, Bool.or_false, Bool.false_eq_true, up_zero, binv, ↓opt_def, List.map_cons, List.map_nil]
  refine (wbad_ok RB.at_).mono ?_
  rintro v u ⟨rfl, rfl⟩
  by_cases hb2 : 0 ≤ s2.bad
  · have e3 : decide ((sh k s2).bad ≥ 0) = true := decide_eq_true (hpos2.2 hb2)
    have hG := hG2 (.inl hb2)
    try simp only [↓reduceIte, eq_self, reduceCtorEq, e3]
    refine h4 _ _ ?_
    try clear h4 K_h4
    refine T.cond rfl (fun _ => ?_) (fun h => by cases h)
    refine T.seq_k (fun K_h0 h0 => ?_)
    refine T.regi hm ?_
    simp only [↓reduceIte, namesOf, List.any, I.names, aopsI, astep, ev, setd, List.set, List.getD, List.getElem?_cons_zero, List.getElem?_cons_succ, List.cons_append, List.nil_append, List.replicate, then_normal, Option.getD_some, Bool.or_false, Bool.false_eq_true, up_zero]
    refine h0 _ _ ?_
    try clear h0 K_h0
    exact T.ret (Fin.quietw rfl (Wk.tup2 (Wk.sl _ _)) ⟨⟨trivial, trivial⟩, trivial, trivial⟩ (RB.like.quiet wf) ⟨by rw [hG]; rfl, rfl⟩)
  have e3 : decide ((sh k s2).bad ≥ 0) = false := decide_eq_false (fun h => hb2 (hpos2.1 h))
  try simp only [↓reduceIte, Bool.false_eq_true, eq_self, e3]
  refine (wleft_ok z1 z2 z3 RB.at_).mono ?_
  rintro v u ⟨rfl, rfl⟩
  by_cases hm2 : (b.length : Int) < s2.at_ + m
  · have e4 : decide ((m : Int) > ((b.drop k).length : Int) - (sh k s2).at_) = true := decide_eq_true (by rw [hlk, hat]; omega)
    have hG := hG2 (.inr hm2)
    try simp only [↓reduceIte, eq_self, e4]
    refine h4 _ _ ?_
    try clear h4 K_h4
    refine T.cond rfl (fun _ => ?_) (fun h => by cases h)
    refine T.seq_k (fun K_h0 h0 => ?_)
    refine T.regi hm ?_
    simp only [↓reduceIte, namesOf, List.any, I.names, aopsI, astep, ev, setd, List.set, List.getD, List.getElem?_cons_zero, List.getElem?_cons_succ, List.cons_append, List.nil_append, List.replicate, then_normal, Option.getD_some, Bool.or_false, Bool.false_eq_true, up_zero]
    refine h0 _ _ ?_
    try clear h0 K_h0
    exact T.ret (Fin.quietw rfl (Wk.tup2 (Wk.sl _ _)) ⟨⟨trivial, trivial⟩, trivial, trivial⟩ (RB.like.quiet wf) ⟨by rw [hG]; rfl, rfl⟩)
  have e4 : decide ((m : Int) > ((b.drop k).length : Int) - (sh k s2).at_) = false := decide_eq_false (by rw [hlk, hat]; omega)
  try simp only [↓reduceIte, eq_self, e4]
  refine h4 _ _ ?_
  try clear h4 K_h4
  refine T.cond rfl (fun h => by cases h) (fun _ => T.skip ?_)
  refine h3 _ _ ?_
  try clear h3 K_h3
  clear hgb hG2
  have hno : ¬ (0 ≤ s2.bad ∨ (b.length : Int) < s2.at_ + m) := fun h => h.elim hb2 hm2
  have hgn := hgn hno
  have hgg := hgg hno
  -- where it begins
  have e5 : IntKind.i64.wrap (((b.drop k).length : Int) - (((b.drop k).length : Int) - (sh k s2).at_)) = (sh k s2).at_ := by rw [wrap64 (by omega) (by omega)]; omega
  refine T.seq_k (fun K_h3 h3 => ?_)
  refine T.regi hm ?_
  simp only [↓reduceIte, namesOf, List.any, I.names, aopsI, astep, ev, setd, List.set, List.getD, List.getElem?_cons_zero, List.getElem?_cons_succ, List.cons_append, List.nil_append, List.replicate, then_normal, Option.getD_some, Bool.or_false, Bool.false_eq_true, up_zero, binv, ↓opt_def, List.map_cons, List.map_nil, bytesAV_len]
  refine (wleft_ok z1 z2 z3 RB.at_).mono ?_
  rintro v u ⟨rfl, rfl⟩
  try simp only [↓reduceIte, eq_self, e5]
  refine h3 _ _ ?_
  try clear h3 K_h3
  -- its spans
  obtain ⟨p, hp⟩ : ∃ p : Nat, s2.at_ = (p : Int) := ⟨s2.at_.toNat, by have := hS2.lo; omega⟩
  obtain ⟨d, hd⟩ : ∃ d : Nat, p = k + d := ⟨p - k, by have := hS2.lo; omega⟩
  have hatd : (sh k s2).at_ = (d : Int) := by rw [hat, hp]; omega
  rw [hatd]
  have hspn : spN b s2 m = ((b.drop k).drop d).take m := by unfold spN; rw [List.drop_drop, hp, Int.toNat_natCast, hd]
  have hrest : (b.drop k).drop (d + m) = b.drop (p + m) := by rw [List.drop_drop, hd]; congr 1; omega
  have hdm : d + m ≤ (b.drop k).length := by omega
  have e6 : IntKind.i64.wrap ((d : Int) + (m : Int)) = ((d + m : Nat) : Int) := by rw [wrap64 (by omega) (by omega)]; rfl
  have e7 : (0 : Int) ≤ (d : Int) ∧ (d : Int) ≤ ((d + m : Nat) : Int) ∧ ((d + m : Nat) : Int) ≤ (((bytesAV (b.drop k)).length : Nat) : Int) ∧ ((bytesAV (b.drop k)).all (AV.fits 1)) = true :=
    ⟨by omega, by omega, by rw [bytesAV_len]; omega, bytes_all _⟩
  have e8 : (((bytesAV (b.drop k)).drop (d : Int).toNat).take (((d + m : Nat) : Int) - (d : Int)).toNat) = bytesAV (spN b s2 m) := by
    rw [hspn, Int.toNat_natCast, show (((d + m : Nat) : Int) - (d : Int)).toNat = m by omega, bytes_drop, bytes_take]
  have hspl : (spN b s2 m).length ≤ 1000000 := by rw [hspn, List.length_take, List.length_drop, List.length_drop]; omega
  clear hspn
  generalize spN b s2 m = sp at e8 hspl hgn hgg
  generalize hdm' : ((d + m : Nat) : Int) = dm at e6 e7 e8
  generalize hd' : (d : Int) = di at e6 e7 e8 ⊢
  refine T.seq_k (fun K_h3 h3 => ?_)
  refine T.regi hm ?_
  simp only [↓reduceIte, namesOf, List.any, I.names, aopsI, astep, ev, setd, List.set, List.getD, List.getElem?_cons_zero, List.getElem?_cons_succ, List.cons_append, List.nil_append, List.replicate, then_normal, Option.getD_some, Bool.or_false, Bool.false_eq_true, up_zero, binv, ↓opt_def, List.map_cons, List.map_nil, eq_self, idx, e6, e7, e8, ite_self, and_self]
  refine (spget_ok hspl).mono ?_
  rintro v uC hv
  have hcase : ∃ er t14, v = .tup [.sl (spsAV er) .none, t14] ∧ Like u uC ∧ (0 ≤ (getS sp).1 → ∃ q, t14 = .iface tSpot q) ∧ (¬ 0 ≤ (getS sp).1 → t14 = .nili ∧ er = (getS sp).2) := by
    rcases hv with ⟨g1, rfl, rfl⟩ | ⟨g1, q, rfl, _, _, _, hl⟩
    · exact ⟨_, _, rfl, .refl _, fun h => by omega, fun _ => ⟨rfl, rfl⟩⟩
    · exact ⟨[], _, rfl, hl, fun _ => ⟨_, rfl⟩, fun h => absurd g1 h⟩
  clear hv
  obtain ⟨er, t14, rfl, hlk2, hy, hn2⟩ := hcase
  have RC := RB.liked hlk2
  have hC : uC.res a = some (.obj [.int .u64 (id : Int), .sl [] .nil]) := (hlk2.same a hBn).trans hB
  have hCn : a < uC.next := Nat.lt_of_lt_of_le hBn hlk2.next
  clear RB hB hBn hlk2
  try simp only [List.getElem?_cons_zero, List.getElem?_cons_succ, ]
  refine h3 _ _ ?_
  try clear h3 K_h3
  refine T.seq_k (fun K_h3 h3 => ?_)
  by_cases hg : 0 ≤ (getS sp).1
  · obtain ⟨q, rfl⟩ := hy hg
    have hG : G = (2, []) := by rw [hpg, hget, hgn hg]; rfl
    refine T.seq_k (fun K_h0 h0 => ?_)
    refine T.regi hm ?_
    simp only [↓reduceIte, namesOf, List.any, I.names, aopsI, astep, ev, setd, List.set, List.getD, List.getElem?_cons_zero, List.getElem?_cons_succ, List.cons_append, List.nil_append, List.replicate, then_normal, Option.getD_some, Bool.or_false, Bool.false_eq_true, up_zero, eqIv, Bool.bne_true, Bool.not_false]
    refine h0 _ _ ?_
    try clear h0 K_h0
    refine T.cond rfl (fun _ => ?_) (fun h => by cases h)
    refine T.seq_k (fun K_h0 h0 => ?_)
    refine T.regi hm ?_
    simp only [↓reduceIte, namesOf, List.any, I.names, aopsI, astep, ev, setd, List.set, List.getD, List.getElem?_cons_zero, List.getElem?_cons_succ, List.cons_append, List.nil_append, List.replicate, then_normal, Option.getD_some, Bool.or_false, Bool.false_eq_true, up_zero]
    refine h0 _ _ ?_
    try clear h0 K_h0
    exact T.ret (Fin.quietw rfl (Wk.tup2 (Wk.sl _ _)) ⟨⟨trivial, trivial⟩, trivial, trivial⟩ (RC.like.quiet wf) ⟨by rw [hG]; rfl, rfl⟩)
  obtain ⟨rfl, hers⟩ := hn2 hg
  have hgg := hgg hg
  rw [← hers] at hgg
  refine T.seq_k (fun K_h0 h0 => ?_)
  refine T.regi hm ?_
  simp only [↓reduceIte, namesOf, List.any, I.names, aopsI, astep, ev, setd, List.set, List.getD, List.getElem?_cons_zero, List.getElem?_cons_succ, List.cons_append, List.nil_append, List.replicate, then_normal, Option.getD_some, Bool.or_false, Bool.false_eq_true, up_zero, eq_self, eqIv, bne_self_eq_false]
  refine h0 _ _ ?_
  try clear h0 K_h0
  refine T.cond rfl (fun h => by cases h) (fun _ => T.skip ?_)
  refine h3 _ _ ?_
  try clear h3 K_h3
  clear hy hn2 hgn
  -- the spans into the trace
  refine T.seq_k (fun K_h3 h3 => ?_)
  refine T.regi hm ?_
  simp only [↓reduceIte, namesOf, List.any, I.names, aopsI, astep, ev, setd, List.set, List.getD, List.getElem?_cons_zero, List.getElem?_cons_succ, List.cons_append, List.nil_append, List.length_cons, List.length_nil, List.replicate, then_normal, Option.getD_some, Bool.or_false, Bool.false_eq_true, up_zero, Nat.reduceAdd, AV.isAny, AV.cells, eq_self, decide_true, hC, AV.fits, AV.one, List.all_cons, List.all_nil, Nat.reduceBEq, Bool.not_false, Bool.and_self, Nat.zero_add, splice, List.take, List.drop, Nat.reduceLeDiff]
  have RD := RC.new (a := a) (.obj [.int .u64 (id : Int), .sl (spsAV er) .none]) ha0 ha2 ha3
  have hD : (uC.set a (.obj [.int .u64 (id : Int), .sl (spsAV er) .none])).res a = _ := St.set_same _ _ _
  generalize (uC.set a (.obj [.int .u64 (id : Int), .sl (spsAV er) .none])) = uD at RD hD ⊢
  clear RC hC hCn
  refine h3 _ _ ?_
  try clear h3 K_h3
  -- the trace behind the others; and the rest of the bytes
  have hbm2 : s2.bad = -1 := hS2.ok.2.resolve_right hb2
  have hgg' : goR b N s0 [] = goR b (N - (i + 1)) ⟨((p + m : Nat) : Int), s2.bad⟩ (acc ++ [⟨id, er⟩]) := by rw [hgg, hp]; rfl
  have hnew : sh (p + m) ⟨((p + m : Nat) : Int), s2.bad⟩ = r0 := by rw [hbm2]; exact sh_new _
  have hSn : SH (p + m) b ⟨((p + m : Nat) : Int), s2.bad⟩ := by
    have := hS2.len
    exact ⟨⟨⟨by omega, by simp only []; omega, by simp only []; omega⟩, .inl hbm2⟩, by omega, Int.le_refl _, .inl hbm2⟩
  have e9 : ((bytesAV (b.drop k)).drop dm.toNat).take ((((bytesAV (b.drop k)).length : Nat) : Int) - dm).toNat = bytesAV (b.drop (p + m)) := by
    rw [← hdm', Int.toNat_natCast, bytes_drop, hrest, List.take_of_length_le]
    rw [bytesAV_len, bytesAV_len, ← hrest, List.length_drop]; omega
  have e10 : (0 : Int) ≤ dm := by omega
  refine T.seq_k (fun K_h3 h3 => ?_)
  have fin2 : ∀ ρ' uF g', Rk σ uF nm (rdS (b.drop k) .none (sh k s2)) 2 (.tip g') → keep [4, 6, 7, 8, 9, 11, 12] 0 ρ' = [.any, .any, .any, .any, .sl (bytesAV (b.drop k)) .none, .any, .ptr nm 0, .int .i64 (N : Int), .sl (tcsAV (acc ++ [⟨id, er⟩])) (.tip g'), .int .i64 (i : Int), .any, .int .i64 (m : Int), .int .i64 di] ++ List.replicate 96 .any → K_h3 ρ' uF := by
    intro ρ' uF g' RF hρ
    refine h3 _ _ ?_
    try clear h3 K_h3
    refine T.gh (Gh.keep [4, 6, 7, 8, 9, 11, 12]) ?_
    rw [hρ]
    refine T.seq_k (fun K_h3 h3 => ?_)
    refine T.regi hm ?_
    simp only [↓reduceIte, namesOf, List.any, I.names, aopsI, astep, ev, setd, List.set, List.getD, List.getElem?_cons_zero, List.getElem?_cons_succ, List.cons_append, List.nil_append, List.replicate, then_normal, Option.getD_some, Bool.or_false, Bool.false_eq_true, up_zero, binv, ↓opt_def, List.map_cons, List.map_nil, true_and, eq_self, idx, e6, e7, e9, e10, ite_self, and_self, Int.le_refl]
    refine wreadF.mono ?_
    rintro v u6 ⟨nm', rfl, hr6, hn6, hn6', ho6⟩
    have R6 := RF.moved hr6 hn6 hn6' ho6
    try simp only [↓reduceIte, namesOf, List.any, I.names, aops, aopsI, aopsT, qstep, CPt, qget, Tbl.get, astep, ev, setd, List.set, List.getD, List.getElem?_cons_zero, List.getElem?_cons_succ, List.getElem?_nil, List.cons_append, List.nil_append, List.length_cons, List.length_nil, List.replicate, then_normal, inBlock_normal, Option.getD_some, Option.getD_none, Bool.or_false, Bool.or_true, Bool.true_or, Bool.false_or, Bool.false_eq_true, if_false, if_true, up_zero, Nat.reduceAdd, Nat.reduceSub, binv, ↓opt_def, AV.isAny, AV.cells, ldc, List.map_cons, List.map_nil, St.set_next, St.set_same, St.up_next, Int.natCast_nonneg, lt_len, le_len, Int.toNat_natCast, true_and, and_true, eq_self, reduceCtorEq, decide_true, List.length_singleton, er_int, er_bool, er_str, ]
    refine h3 _ _ ?_
    try clear h3 K_h3
    refine T.regi hm ?_
    simp only [↓reduceIte, namesOf, List.any, I.names, aopsI, astep, ev, setd, List.set, List.getD, List.getElem?_cons_zero, List.getElem?_cons_succ, List.cons_append, List.nil_append, List.replicate, then_normal, inBlock_normal, Option.getD_some, Bool.or_false, Bool.false_eq_true, up_zero, binv, ↓opt_def, true_and, eq_self, idx, e6, e7, e9, e10, ite_self, and_self, Int.le_refl]
    refine h2 _ _ ?_
    try clear h2 K_h2
    refine T.regi hm ?_
    simp only [↓reduceIte, namesOf, List.any, I.names, aopsI, astep, ev, setd, List.set, List.getD, List.getElem?_cons_zero, List.getElem?_cons_succ, List.cons_append, List.nil_append, List.replicate, then_normal, Option.getD_some, Bool.or_false, Bool.false_eq_true, up_zero, binv, ↓opt_def, eq_self, hiw]
    exact ⟨hil, _, _, Gh.keep [4, 6, 7, 8, 9], nm', p + m, _, acc ++ [⟨id, er⟩], .tip g', hSn, by rw [hnew]; exact R6, by simp [hacc], (fun h => by cases h), (fun h => by simp only [hbm2] at h; omega), hgg', rfl⟩
  clear h2
  have hsn := RD.like.next
  have hnm := RD.hi
  have hDn : ∀ k, (uD.up k).res a = some (.obj [.int .u64 (id : Int), .sl (spsAV er) .none]) := fun _ => hD
  have hfit : (tcsAV (acc ++ [⟨id, er⟩])).all (AV.fits 2) = true := tcs_fits _
  have hfit1 : AV.fits 2 (.agg [.int .u64 (id : Int), .sl (spsAV er) .none]) = true := rfl
  have her : (AV.agg [.int .u64 (id : Int), .sl (spsAV er) .none]).er = .agg [.int .u64 (id : Int), .sl (spsAV er) .none] := rfl
  have hle : decide ((acc.length + 1) * 32 ≤ 70368744177664 ∧ acc.length + 1 ≤ 4611686018427387904) = true := decide_eq_true (by omega)
  have hle' : decide ((acc.length + 1) * 32 ≤ 70368744177664 ∧ acc.length ≤ 4611686018427387903) = true := decide_eq_true (by omega)
  have hlen2 : ∀ x y : AV, [x, y].length = 2 := fun _ _ => rfl
  have htake : ∀ x y : AV, List.take 2 (List.drop 0 [x, y]) = [x, y] := fun _ _ => rfl
  have h02 : 0 + 2 ≤ 2 := Nat.le_refl _
  rcases RD.ver with rfl | ⟨g, rfl, _, _, _, hg2⟩
  · have hac := hvn rfl
    subst hac
    have hX1 : [AV.agg [.int .u64 (id : Int), .sl (spsAV er) .none]] = tcsAV [⟨id, er⟩] := rfl
    have hX0 : tcsAV ([] : List Tc) = [] := rfl
    have hX2 : (tcsAV [⟨id, er⟩]).isEmpty = false := rfl
    have hX3 : (tcsAV [⟨id, er⟩]).all (AV.fits 2) = true := tcs_fits _
    refine T.regi hm ?_
    simp only [↓reduceIte, namesOf, List.any, I.names, aopsI, astep, ev, setd, List.set, List.getD, List.getElem?_cons_zero, List.getElem?_cons_succ, List.cons_append, List.nil_append, List.length_cons, List.length_nil, List.replicate, then_normal, Option.getD_some, Bool.or_false, Bool.or_true, Bool.false_eq_true, Nat.reduceAdd, ↓opt_def, ldc, List.map_cons, List.map_nil, eq_self, decide_true, hDn, hX0, held, Bool.and_self, srcOf, List.nil_append, hX1, hX3, tcs_er, tcs_len, hX2, htake, h02, hlen2, Nat.reduceMul, Nat.reduceLeDiff, and_self, Nat.zero_add]
    exact fin2 _ _ _ ((RD.up 5).appNil (g := uD.next + 3) (by omega) (by omega) (by simp)) rfl
  · have hgn2 : ∀ k, (uD.up k).res g = some (.tip 2) := fun _ => hg2
    refine T.regi hm ?_
    simp only [↓reduceIte, namesOf, List.any, I.names, aopsI, astep, ev, setd, List.set, List.getD, List.getElem?_cons_zero, List.getElem?_cons_succ, List.cons_append, List.nil_append, List.length_cons, List.length_nil, List.replicate, then_normal, Option.getD_some, Bool.or_false, Bool.or_true, Nat.reduceAdd, ↓opt_def, ldc, List.map_cons, List.map_nil, eq_self, hDn, held, hfit1, her, List.all_cons, List.all_nil, Bool.and_self, srcOf, tcs_snoc', hfit, tcs_len, htake, h02, hlen2, hle, hgn2]
    exact fin2 _ _ _ ((RD.up 5).appTip (g := uD.next + 3) (by omega) (by omega) (by simp)) rfl
end Go.VL
