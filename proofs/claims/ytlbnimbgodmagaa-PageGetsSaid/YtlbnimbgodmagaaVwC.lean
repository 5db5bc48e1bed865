/- Contracts: the document's spans out of bytes. -/
import Derived.Test.YtlbnimbgodmagaaVwB
import Derived.Test.YtlbnimbgodmagaaVsB
namespace Go.VL
open Go.Proofs

theorem goS_bad {b : List UInt8} {n : Nat} {s : Rs} {acc : List Sp} (h : 0 ≤ s.bad) : goS b n s acc = (s.bad, [], s) := by
  cases n <;> (unfold goS; rw [if_pos h])

theorem rW_bad {l : List UInt8} {s : Rs} {w : Nat} (hs : s.bad = -1) (h : 0 ≤ (rN l s w).bad) : rW l s w = 0 := by
  unfold rN at h
  unfold rW
  split at h
  · rw [show (Rs.mk (s.at_ + w) s.bad).bad = -1 from hs] at h; omega
  · rename_i ht; rw [if_neg ht]

theorem rread_reg {Q : Ex → List AV → St → Prop} {σ : St} {z1 z2 z3 z4 y3 y4 : Int} {xd : List UInt8} {q0 q1 q2 q3 q4 q5 q6 q7 q8 q14 q15 q16 q17 q18 q19 q20 q21 q22 q23 q24 q25 q26 q27 q28 q29 q30 q31 q32 q33 q34 q35 q36 q37 q38 q39 q40 q41 q42 q43 q44 q45 q46 q47 q48 q49 : AV} (hy3 : IntKind.i64.wrap z3 = y3) (hy4 : IntKind.i64.wrap z4 = y4)
    (h : Q .normal [q0, q1, q2, q3, q4, q5, q6, q7, q8, AV.int IntKind.u64 z1, AV.int IntKind.u64 z2, AV.int IntKind.u64 z3, AV.int IntKind.u64 z4, AV.sl (bytesAV xd) Ver.none, AV.ptr (σ.next + 8) 0, q15, q16, q17, q18, q19, q20, q21, q22, q23, q24, q25, q26, q27, q28, q29, q30, q31, q32, q33, q34, q35, q36, q37, q38, q39, q40, q41, q42, q43, q44, q45, q46, q47, q48, q49, AV.int IntKind.u64 z1, AV.int IntKind.u64 z2, AV.int IntKind.u64 z3, AV.int IntKind.i64 y3, AV.int IntKind.u64 z4, AV.int IntKind.i64 y4, AV.sl (bytesAV xd) Ver.none, AV.agg [AV.int IntKind.u64 z1, AV.int IntKind.u64 z2, AV.int IntKind.i64 y3, AV.int IntKind.i64 y4, AV.sl (bytesAV xd) Ver.none], AV.any, AV.any, AV.any, AV.any, AV.any, AV.any, AV.any, AV.any, AV.any, AV.any, AV.any, AV.any, AV.any, AV.any, AV.any, AV.any, AV.any, AV.any, AV.any, AV.any, AV.any, AV.any, AV.any, AV.any, AV.any, AV.any, AV.any, AV.any, AV.any, AV.any] ((σ.up 10).set (σ.next + 8) (.obj [AV.int IntKind.u64 z1, AV.int IntKind.u64 z2, AV.int IntKind.i64 y3, AV.int IntKind.i64 y4, AV.sl (bytesAV xd) Ver.none]))) :
    T Try.prog ann (.reg [⟨some 50, I.mv (VL.X.t 9), none⟩, ⟨some 51, I.mv (VL.X.t 10), none⟩, ⟨some 52, I.mv (VL.X.t 11), none⟩, ⟨some 53, I.conv IntKind.i64 (VL.X.t 52), none⟩, ⟨some 54, I.mv (VL.X.t 12), none⟩, ⟨some 55, I.conv IntKind.i64 (VL.X.t 54), none⟩, ⟨some 56, I.mv (VL.X.t 13), none⟩, ⟨some 57, I.build [AV.int IntKind.u64 0, AV.int IntKind.u64 0, AV.int IntKind.i64 0, AV.int IntKind.i64 0, AV.sl [] Ver.nil] [(0, 1, VL.X.t 50), (1, 1, VL.X.t 51), (2, 1, VL.X.t 53), (3, 1, VL.X.t 55), (4, 1, VL.X.t 56)], none⟩, ⟨some 14, I.alloc [AV.int IntKind.u64 0, AV.int IntKind.u64 0, AV.int IntKind.i64 0, AV.int IntKind.i64 0, AV.sl [] Ver.nil], none⟩, ⟨none, I.store 5 (VL.X.t 14) (VL.X.t 57), none⟩]) Q [q0, q1, q2, q3, q4, q5, q6, q7, q8, AV.int IntKind.u64 z1, AV.int IntKind.u64 z2, AV.int IntKind.u64 z3, AV.int IntKind.u64 z4, AV.sl (bytesAV xd) Ver.none, q14, q15, q16, q17, q18, q19, q20, q21, q22, q23, q24, q25, q26, q27, q28, q29, q30, q31, q32, q33, q34, q35, q36, q37, q38, q39, q40, q41, q42, q43, q44, q45, q46, q47, q48, q49, AV.any, AV.any, AV.any, AV.any, AV.any, AV.any, AV.any, AV.any, AV.any, AV.any, AV.any, AV.any, AV.any, AV.any, AV.any, AV.any, AV.any, AV.any, AV.any, AV.any, AV.any, AV.any, AV.any, AV.any, AV.any, AV.any, AV.any, AV.any, AV.any, AV.any, AV.any, AV.any, AV.any, AV.any, AV.any, AV.any, AV.any, AV.any] σ := by
  refine T.regi hm ?_
  simp only [↓reduceIte, namesOf, List.any, I.names, aopsI, astep, ev, setd, List.set, List.getD, List.getElem?_cons_zero, List.getElem?_cons_succ, List.cons_append, List.nil_append, List.length_cons, List.length_nil, Option.getD_some, Bool.or_false, Bool.or_true, Nat.reduceAdd, ↓opt_def, AV.isAny, AV.cells, St.set_same, and_true, eq_self, decide_true, fillA, Option.map, AV.fits, AV.one, List.all_cons, List.all_nil, Nat.reduceBEq, Bool.not_false, Bool.and_self, Nat.zero_add, splice, List.take, List.drop, Nat.reduceLeDiff, St.set_set, hy3, hy4]
  exact h

set_option maxRecDepth 10000 in
set_option maxHeartbeats 4000000 in
theorem rread_ok {b : List UInt8} {σ : St} (hb : b.length ≤ 1000000) :
    ACalls Try.prog n_rread [.sl (bytesAV b) .none] σ (fun v σ' => v = .tup [.sl (spsAV (getS b).2) .none, .int .i64 (getS b).1] ∧ σ' = σ) := by
  refine s_rread (fun wf => ?_)
  unfold c_rread
  have k0 : Rs.ok b r0 := Rs.ok_r0 (by omega)
  have k1 := rN_ok (w := 2) k0
  have hN := rW_lt (w := 2) k0
  have hget : getS b = (let r := goS b (rW b r0 2) (rN b r0 2) []; if 0 ≤ r.1 then (r.1, []) else if r.2.2.at_ < b.length then (r.2.2.at_, []) else (-1, r.2.1)) := rfl
  generalize getS b = G at hget ⊢
  refine T.seq_k (fun K_h0 h0 => ?_)
  refine T.regi hm ?_
  simp only [↓reduceIte, namesOf, List.any, I.names, aopsI, astep, ev, setd, List.set, List.cons_append, List.nil_append, List.length_cons, List.length_nil, List.replicate, then_normal, Bool.or_false, Bool.false_eq_true, up_zero, Nat.reduceAdd, Nat.reduceSub]
  refine h0 _ _ ?_
  try clear h0 K_h0
  refine T.seq_k (fun K_h1 h1 => ?_)
  refine T.regi hm ?_
  simp only [↓reduceIte, namesOf, List.any, I.names, aopsI, astep, ev, setd, List.set, List.getD, List.getElem?_cons_zero, List.getElem?_cons_succ, List.cons_append, List.nil_append, List.length_cons, List.length_nil, then_normal, Option.getD_some, Bool.or_false, Bool.or_true, Bool.false_eq_true, Nat.reduceAdd, ↓opt_def, AV.isAny, AV.cells, and_true, eq_self, fillA, Option.map, AV.fits, AV.one, List.all_cons, List.all_nil, Nat.reduceBEq, Bool.not_false, Bool.and_self, Nat.zero_add, splice, List.take, List.drop, Nat.reduceLeDiff]
  have R0 : Rk σ ((σ.up 4).set (σ.next + 2) (rdS b .none r0)) (σ.next + 2) (rdS b .none r0) 5 .nil := ⟨(Like.refl σ).box _, by omega, by simp, by simp, .inl rfl⟩
  have hst : ((σ.up 4).set (σ.next + 2) (.obj [.sl (bytesAV b) .none, .int .i64 0, .int .i64 (-1)])) = ((σ.up 4).set (σ.next + 2) (rdS b .none r0)) := rfl
  rw [hst]
  generalize ((σ.up 4).set (σ.next + 2) (rdS b .none r0)) = σ1 at R0 ⊢
  generalize σ.next + 2 = nm at R0 ⊢
  clear hst
  refine h1 _ _ ?_
  try clear h1 K_h1
  refine T.seq_k (fun K_h1 h1 => ?_)
  refine T.regi hm ?_
  simp only [↓reduceIte, namesOf, List.any, I.names, aopsI, astep, ev, setd, List.set, List.getD, List.getElem?_cons_zero, List.getElem?_cons_succ, then_normal, Option.getD_some, Bool.or_false, Bool.false_eq_true, up_zero, List.map_cons, List.map_nil]
  refine (rwordF k0 rfl R0.at_).mono ?_
  rintro v σ2 ⟨rfl, rfl⟩
  have R1 := R0.set (rdS b .none (rN b r0 2))
  generalize (σ1.set nm (rdS b .none (rN b r0 2))) = σ2 at R1 ⊢
  clear R0 σ1
  have hN0 : 0 ≤ (rN b r0 2).bad → rW b r0 2 = 0 := fun h => rW_bad rfl h
  generalize rW b r0 2 = N at hN hget hN0 ⊢
  generalize rN b r0 2 = s0 at k1 R1 hget hN0
  have eN : IntKind.i64.wrap (N : Int) = (N : Int) := wrap64 (by omega) (by omega)
  try simp only [eN]
  refine h1 _ _ ?_
  try clear h1 K_h1
  refine T.seq_k (fun K_h0 h0 => ?_)
  refine T.regi hm ?_
  simp only [↓reduceIte, namesOf, List.any, I.names, aopsI, astep, ev, setd, List.set, then_normal, Bool.or_false, Bool.false_eq_true, up_zero]
  refine h0 _ _ ?_
  try clear h0 K_h0
  refine T.seq_k (fun K_h1 h1 => ?_)
  refine T.seq_k (fun K_h0 h0 => ?_)
  refine T.regi hm ?_
  simp only [↓reduceIte, namesOf, List.any, I.names, aopsI, astep, ev, setd, List.set, then_normal, Bool.or_false, Bool.false_eq_true, up_zero]
  refine h0 _ _ ?_
  try clear h0 K_h0
  refine T.block ?_
  refine T.gh (Gh.keep [0, 4, 5, 6, 7]) ?_
  refine T.loopi (fun i ρ t => ∃ (s : Rs) (acc : List Sp) (vv : Ver), s.ok b ∧ Rk σ t nm (rdS b .none s) 5 vv ∧ acc.length = i ∧ (vv = .nil → acc = []) ∧ (0 ≤ s.bad → N = 0) ∧ goS b N s0 [] = goS b (N - i) s acc ∧
      ρ = [.sl (bytesAV b) .none, .any, .any, .any, .ptr nm 0, .int .i64 (N : Int), .sl (spsAV acc) vv, .int .i64 (i : Int)] ++ List.replicate 80 .any)
    N 0 (Nat.zero_le _) ⟨s0, [], .nil, k1, R1, rfl, fun _ => rfl, hN0, rfl, rfl⟩ ?_
  clear R1 σ2 k0
  rintro i ρ t hi ⟨s, acc, vv, ks, R1, hacc, hvn, hs2, hgo, rfl⟩
  have hkl := ks.1.len
  have hk0 := ks.1.lo
  have hk1' := ks.1.hi
  have hrd : t.res nm = some (.obj [.sl (bytesAV b) .none, .int .i64 s.at_, .int .i64 s.bad]) := R1.at_
  refine T.seq_k (fun K_h2 h2 => ?_)
  by_cases hil : i < N
  case neg =>
    have e1 : decide ((i : Int) < (N : Int)) = false := decide_eq_false (by omega)
    refine T.seq_k (fun K_h0 h0 => ?_)
    refine T.regi hm ?_
    simp only [↓reduceIte, namesOf, List.any, I.names, aopsI, astep, ev, setd, List.set, List.getD, List.getElem?_cons_zero, List.getElem?_cons_succ, List.cons_append, List.nil_append, List.replicate, then_normal, Option.getD_some, Bool.or_false, Bool.false_eq_true, up_zero, binv, ↓opt_def, eq_self, e1]
    refine h0 _ _ ?_
    try clear h0 K_h0
    refine T.cond rfl (fun h => by cases h) (fun _ => T.exit ?_)
    try simp only [List.cons_append, List.nil_append, List.replicate, then_normal, inBlock_exit, then_exit]
    have hiN : N - i = 0 := by omega
    rw [hiN] at hgo
    have hgz : goS b 0 s acc = (if 0 ≤ s.bad then (s.bad, [], s) else (-1, acc, s)) := by unfold goS; rfl
    rw [hgz] at hgo
    have hb0 : G = (if 0 ≤ s.bad then (s.bad, []) else if s.at_ < b.length then (s.at_, []) else (-1, acc)) := by
      rw [hget]
      simp only [hgo]
      split
      · rename_i hx; simp only []
      · simp
    refine h1 _ _ ?_
    try clear h1 K_h1
    refine T.seq_k (fun K_h1 h1 => ?_)
    by_cases hbd : 0 ≤ s.bad
    · rw [if_pos hbd] at hb0
      have e2 : decide (s.bad ≥ 0) = true := decide_eq_true hbd
      refine T.seq_k (fun K_h0 h0 => ?_)
      refine T.regi hm ?_
      simp only [↓reduceIte, namesOf, List.any, I.names, aopsI, astep, ev, setd, List.set, List.getD, List.getElem?_cons_zero, List.getElem?_cons_succ, then_normal, Option.getD_some, Bool.or_false, Bool.false_eq_true, up_zero, Nat.reduceAdd, binv, ↓opt_def, ldc, eq_self, hrd, e2]
      refine h0 _ _ ?_
      try clear h0 K_h0
      refine T.cond rfl (fun _ => ?_) (fun h => by cases h)
      refine T.seq_k (fun K_h0 h0 => ?_)
      refine T.regi hm ?_
      simp only [↓reduceIte, namesOf, List.any, I.names, aopsI, astep, ev, setd, List.set, List.getD, List.getElem?_cons_zero, List.getElem?_cons_succ, then_normal, Option.getD_some, Bool.or_false, Bool.false_eq_true, up_zero, Nat.reduceAdd, ↓opt_def, ldc, hrd]
      refine h0 _ _ ?_
      try clear h0 K_h0
      exact T.ret (Fin.quietw rfl (Wk.tup2 (Wk.sl _ _)) ⟨⟨trivial, trivial⟩, trivial, trivial⟩ (R1.like.quiet wf) ⟨by rw [hb0]; rfl, rfl⟩)
    · rw [if_neg hbd] at hb0
      have e2 : decide (s.bad ≥ 0) = false := decide_eq_false hbd
      refine T.seq_k (fun K_h0 h0 => ?_)
      refine T.regi hm ?_
      simp only [↓reduceIte, namesOf, List.any, I.names, aopsI, astep, ev, setd, List.set, List.getD, List.getElem?_cons_zero, List.getElem?_cons_succ, then_normal, Option.getD_some, Bool.or_false, Bool.false_eq_true, up_zero, Nat.reduceAdd, binv, ↓opt_def, ldc, eq_self, hrd, e2]
      refine h0 _ _ ?_
      try clear h0 K_h0
      refine T.cond rfl (fun h => by cases h) (fun _ => T.skip ?_)
      refine h1 _ _ ?_
      try clear h1 K_h1
      refine T.seq_k (fun K_h1 h1 => ?_)
      by_cases hlt : s.at_ < b.length
      · rw [if_pos hlt] at hb0
        have e3 : decide (s.at_ < (b.length : Int)) = true := decide_eq_true hlt
        refine T.seq_k (fun K_h0 h0 => ?_)
        refine T.regi hm ?_
        simp only [↓reduceIte, namesOf, List.any, I.names, aopsI, astep, ev, setd, List.set, List.getD, List.getElem?_cons_zero, List.getElem?_cons_succ, then_normal, Option.getD_some, Bool.or_false, Bool.false_eq_true, up_zero, Nat.reduceAdd, binv, ↓opt_def, ldc, eq_self, hrd, bytesAV_len, e3]
        refine h0 _ _ ?_
        try clear h0 K_h0
        refine T.cond rfl (fun _ => ?_) (fun h => by cases h)
        refine T.seq_k (fun K_h0 h0 => ?_)
        refine T.regi hm ?_
        simp only [↓reduceIte, namesOf, List.any, I.names, aopsI, astep, ev, setd, List.set, List.getD, List.getElem?_cons_zero, List.getElem?_cons_succ, then_normal, Option.getD_some, Bool.or_false, Bool.false_eq_true, up_zero, Nat.reduceAdd, ↓opt_def, ldc, hrd]
        refine h0 _ _ ?_
        try clear h0 K_h0
        exact T.ret (Fin.quietw rfl (Wk.tup2 (Wk.sl _ _)) ⟨⟨trivial, trivial⟩, trivial, trivial⟩ (R1.like.quiet wf) ⟨by rw [hb0]; rfl, rfl⟩)
      · rw [if_neg hlt] at hb0
        have e3 : decide (s.at_ < (b.length : Int)) = false := decide_eq_false hlt
        refine T.seq_k (fun K_h0 h0 => ?_)
        refine T.regi hm ?_
        simp only [↓reduceIte, namesOf, List.any, I.names, aopsI, astep, ev, setd, List.set, List.getD, List.getElem?_cons_zero, List.getElem?_cons_succ, then_normal, Option.getD_some, Bool.or_false, Bool.false_eq_true, up_zero, Nat.reduceAdd, binv, ↓opt_def, ldc, eq_self, hrd, bytesAV_len, e3]
        refine h0 _ _ ?_
        try clear h0 K_h0
        refine T.cond rfl (fun h => by cases h) (fun _ => T.skip ?_)
        refine h1 _ _ ?_
        try clear h1 K_h1
        refine T.seq_k (fun K_h0 h0 => ?_)
        refine T.regi hm ?_
        simp only [↓reduceIte, namesOf, List.any, I.names, aopsI, astep, ev, setd, List.set, List.getD, List.getElem?_cons_zero, List.getElem?_cons_succ, then_normal, Option.getD_some, Bool.or_false, Bool.false_eq_true, up_zero]
        refine h0 _ _ ?_
        try clear h0 K_h0
        exact T.ret (Fin.quietw rfl (Wk.tup2 (Wk.sl _ _)) ⟨⟨nbs_sps _ _, trivial⟩, trivial, trivial⟩ (R1.like.quiet wf) ⟨by rw [hb0]; rfl, rfl⟩)
  have e1 : decide ((i : Int) < (N : Int)) = true := decide_eq_true (by omega)
  refine T.seq_k (fun K_h0 h0 => ?_)
  refine T.regi hm ?_
  simp only [↓reduceIte, namesOf, List.any, I.names, aopsI, astep, ev, setd, List.set, List.getD, List.getElem?_cons_zero, List.getElem?_cons_succ, List.cons_append, List.nil_append, List.replicate, then_normal, Option.getD_some, Bool.or_false, Bool.false_eq_true, up_zero, binv, ↓opt_def, eq_self, e1]
  refine h0 _ _ ?_
  try clear h0 K_h0
  refine T.cond rfl (fun _ => T.skip ?_) (fun h => by cases h)
  refine h2 _ _ ?_
  try clear h2 K_h2
  clear h1
  have hbd : ¬ 0 ≤ s.bad := fun h => by have := hs2 h; omega
  obtain ⟨n, hn⟩ : ∃ n, N - i = n + 1 := ⟨N - i - 1, by omega⟩
  have hn' : N - (i + 1) = n := by omega
  rw [hn] at hgo
  have hgo1 : goS b N s0 [] = (if 0 ≤ (oneN b s).bad then ((oneN b s).bad, [], oneN b s) else if mayS (oneS b s) then goS b n (oneN b s) (acc ++ [oneS b s]) else (s.at_, [], oneN b s)) := by
    rw [hgo]; conv => lhs; unfold goS
    rw [if_neg hbd]
  clear hgo
  have hiw := inc64' hil (by omega)
  have ks1 := rN_ok (w := 8) ks
  have ks2 := rN_ok (w := 8) ks1
  have ks3 := rN_ok (w := 8) ks2
  have ks4 := rN_ok (w := 8) ks3
  have ks5 := rXN_ok ks4
  have hS : oneS b s = ⟨rW b s 8, rW b (rN b s 8) 8, IntKind.i64.wrap (rW b (rN b (rN b s 8) 8) 8 : Int), IntKind.i64.wrap (rW b (rN b (rN b (rN b s 8) 8) 8) 8 : Int), rX b (rN b (rN b (rN b (rN b s 8) 8) 8) 8)⟩ := rfl
  have hNn : oneN b s = rXN b (rN b (rN b (rN b (rN b s 8) 8) 8) 8) := rfl
  generalize oneS b s = X at hS hgo1
  generalize oneN b s = s' at hNn hgo1
  refine T.seq_k (fun K_h2 h2 => ?_)
  refine T.block ?_
  refine T.seq_k (fun K_h0 h0 => ?_)
  refine T.regi hm ?_
  simp only [↓reduceIte, namesOf, List.any, I.names, aopsI, astep, ev, setd, List.set, List.getD, List.getElem?_cons_zero, List.getElem?_cons_succ, List.cons_append, List.nil_append, List.replicate, then_normal, Option.getD_some, Bool.or_false, Bool.false_eq_true, up_zero, Nat.reduceAdd, ↓opt_def, ldc, hrd]
  refine h0 _ _ ?_
  try clear h0 K_h0
  refine T.seq_k (fun K_h3 h3 => ?_)
  refine T.regi hm ?_
  simp only [↓reduceIte, namesOf, List.any, I.names, aopsI, astep, ev, setd, List.set, List.getD, List.getElem?_cons_zero, List.getElem?_cons_succ, List.cons_append, List.nil_append, List.replicate, then_normal, Option.getD_some, Bool.or_false, Bool.false_eq_true, up_zero, List.map_cons, List.map_nil]
  refine (rwordF ks rfl R1.at_).mono ?_
  rintro v u ⟨rfl, rfl⟩
  try simp only []
  refine h3 _ _ ?_
  try clear h3 K_h3
  refine T.seq_k (fun K_h3 h3 => ?_)
  refine T.regi hm ?_
  simp only [↓reduceIte, namesOf, List.any, I.names, aopsI, astep, ev, setd, List.set, List.getD, List.getElem?_cons_zero, List.getElem?_cons_succ, List.cons_append, List.nil_append, List.replicate, then_normal, Option.getD_some, Bool.or_false, Bool.false_eq_true, up_zero, List.map_cons, List.map_nil]
  refine (rwordF ks1 rfl (St.set_same _ _ _)).mono ?_
  rintro v u ⟨rfl, rfl⟩
  rw [St.set_set]
  try simp only []
  refine h3 _ _ ?_
  try clear h3 K_h3
  refine T.seq_k (fun K_h3 h3 => ?_)
  refine T.regi hm ?_
  simp only [↓reduceIte, namesOf, List.any, I.names, aopsI, astep, ev, setd, List.set, List.getD, List.getElem?_cons_zero, List.getElem?_cons_succ, List.cons_append, List.nil_append, List.replicate, then_normal, Option.getD_some, Bool.or_false, Bool.false_eq_true, up_zero, List.map_cons, List.map_nil]
  refine (rwordF ks2 rfl (St.set_same _ _ _)).mono ?_
  rintro v u ⟨rfl, rfl⟩
  rw [St.set_set]
  try simp only []
  refine h3 _ _ ?_
  try clear h3 K_h3
  refine T.seq_k (fun K_h3 h3 => ?_)
  refine T.regi hm ?_
  simp only [↓reduceIte, namesOf, List.any, I.names, aopsI, astep, ev, setd, List.set, List.getD, List.getElem?_cons_zero, List.getElem?_cons_succ, List.cons_append, List.nil_append, List.replicate, then_normal, Option.getD_some, Bool.or_false, Bool.false_eq_true, up_zero, List.map_cons, List.map_nil]
  refine (rwordF ks3 rfl (St.set_same _ _ _)).mono ?_
  rintro v u ⟨rfl, rfl⟩
  rw [St.set_set]
  try simp only []
  refine h3 _ _ ?_
  try clear h3 K_h3
  refine T.seq_k (fun K_h3 h3 => ?_)
  refine T.regi hm ?_
  simp only [↓reduceIte, namesOf, List.any, I.names, aopsI, astep, ev, setd, List.set, List.getD, List.getElem?_cons_zero, List.getElem?_cons_succ, List.cons_append, List.nil_append, List.replicate, then_normal, Option.getD_some, Bool.or_false, Bool.false_eq_true, up_zero, List.map_cons, List.map_nil]
  refine (rtextR_ok ks4 (St.set_same _ _ _)).mono ?_
  rintro v u ⟨rfl, rfl⟩
  rw [St.set_set, ← hNn]
  rw [← hNn] at ks5
  try simp only [↓reduceIte, namesOf, List.any, I.names, aops, aopsI, aopsT, qstep, CPt, qget, Tbl.get, astep, ev, setd, List.set, List.getD, List.getElem?_cons_zero, List.getElem?_cons_succ, List.getElem?_nil, List.cons_append, List.nil_append, List.length_cons, List.length_nil, List.replicate, then_normal, inBlock_normal, Option.getD_some, Option.getD_none, Bool.or_false, Bool.or_true, Bool.true_or, Bool.false_or, Bool.false_eq_true, if_false, if_true, up_zero, Nat.reduceAdd, Nat.reduceSub, binv, ↓opt_def, AV.isAny, AV.cells, ldc, List.map_cons, List.map_nil, St.set_next, St.set_same, St.up_next, Int.natCast_nonneg, lt_len, le_len, Int.toNat_natCast, true_and, and_true, eq_self, reduceCtorEq, decide_true, List.length_singleton, er_int, er_bool, er_str, up_zero]
  refine h3 _ _ ?_
  try clear h3 K_h3
  have RD := R1.set (rdS b .none s')
  have hrd2 : (t.set nm (rdS b .none s')).res nm = some (.obj [.sl (bytesAV b) .none, .int .i64 s'.at_, .int .i64 s'.bad]) := RD.at_
  generalize (t.set nm (rdS b .none s')) = uD at RD hrd2 ⊢
  clear R1 hrd
  refine T.seq_k (fun K_h3 h3 => ?_)
  by_cases hsb : 0 ≤ s'.bad
  · rw [if_pos hsb] at hgo1
    have e4 : decide (s'.bad ≥ 0) = true := decide_eq_true hsb
    have hG : G = (s'.bad, []) := by rw [hget, hgo1]; simp [hsb]
    refine T.seq_k (fun K_h0 h0 => ?_)
    refine T.regi hm ?_
    simp only [↓reduceIte, namesOf, List.any, I.names, aopsI, astep, ev, setd, List.set, List.getD, List.getElem?_cons_zero, List.getElem?_cons_succ, List.cons_append, List.nil_append, List.replicate, then_normal, Option.getD_some, Bool.or_false, Bool.false_eq_true, up_zero, Nat.reduceAdd, binv, ↓opt_def, ldc, eq_self, hrd2, e4]
    refine h0 _ _ ?_
    try clear h0 K_h0
    refine T.cond rfl (fun _ => ?_) (fun h => by cases h)
    refine T.seq_k (fun K_h0 h0 => ?_)
    refine T.regi hm ?_
    simp only [↓reduceIte, namesOf, List.any, I.names, aopsI, astep, ev, setd, List.set, List.getD, List.getElem?_cons_zero, List.getElem?_cons_succ, List.cons_append, List.nil_append, List.replicate, then_normal, Option.getD_some, Bool.or_false, Bool.false_eq_true, up_zero, Nat.reduceAdd, ↓opt_def, ldc, hrd2]
    refine h0 _ _ ?_
    try clear h0 K_h0
    exact T.ret (Fin.quietw rfl (Wk.tup2 (Wk.sl _ _)) ⟨⟨trivial, trivial⟩, trivial, trivial⟩ (RD.like.quiet wf) ⟨by rw [hG]; rfl, rfl⟩)
  rw [if_neg hsb] at hgo1
  have e4 : decide (s'.bad ≥ 0) = false := decide_eq_false hsb
  refine T.seq_k (fun K_h0 h0 => ?_)
  refine T.regi hm ?_
  simp only [↓reduceIte, namesOf, List.any, I.names, aopsI, astep, ev, setd, List.set, List.getD, List.getElem?_cons_zero, List.getElem?_cons_succ, List.cons_append, List.nil_append, List.replicate, then_normal, Option.getD_some, Bool.or_false, Bool.false_eq_true, up_zero, Nat.reduceAdd, binv, ↓opt_def, ldc, eq_self, hrd2, e4]
  refine h0 _ _ ?_
  try clear h0 K_h0
  refine T.cond rfl (fun h => by cases h) (fun _ => T.skip ?_)
  refine h3 _ _ ?_
  try clear h3 K_h3
  generalize rX b (rN b (rN b (rN b (rN b s 8) 8) 8) 8) = xd at hS ⊢
  generalize rW b (rN b (rN b (rN b s 8) 8) 8) 8 = x4 at hS ⊢
  generalize rW b (rN b (rN b s 8) 8) 8 = x3 at hS ⊢
  generalize rW b (rN b s 8) 8 = x2 at hS ⊢
  generalize rW b s 8 = x1 at hS ⊢
  obtain ⟨y3, hy3⟩ : ∃ y, IntKind.i64.wrap (x3 : Int) = y := ⟨_, rfl⟩
  obtain ⟨y4, hy4⟩ : ∃ y, IntKind.i64.wrap (x4 : Int) = y := ⟨_, rfl⟩
  rw [hy3, hy4] at hS
  generalize hz1 : ((x1 : Nat) : Int) = z1
  generalize hz2 : ((x2 : Nat) : Int) = z2
  generalize hz3 : ((x3 : Nat) : Int) = z3 at hy3 ⊢
  generalize hz4 : ((x4 : Nat) : Int) = z4 at hy4 ⊢
  refine T.seq_k (fun K_h3 h3 => ?_)
  refine rread_reg hy3 hy4 ?_
  try simp only [List.cons_append, List.nil_append, List.replicate, then_normal, then_normal]
  have hcells : [AV.int .u64 z1, .int .u64 z2, .int .i64 y3, .int .i64 y4, .sl (bytesAV xd) .none] =
      [.int .u64 (X.tr : Int), .int .u64 (X.id : Int), .int .i64 X.st, .int .i64 X.en, .sl (bytesAV X.da) .none] := by rw [hS, ← hz1, ← hz2]
  rw [hcells]
  clear hcells
  have hsn0 := RD.like.next
  have hnm0 := RD.hi
  have RE := (RD.up 10).new (a := uD.next + 8) (.obj [.int .u64 (X.tr : Int), .int .u64 (X.id : Int), .int .i64 X.st, .int .i64 X.en, .sl (bytesAV X.da) .none]) (by omega) (by omega) (fun g hg => by have := RD.lt hg; omega)
  have hE : ((uD.up 10).set (uD.next + 8) (.obj [.int .u64 (X.tr : Int), .int .u64 (X.id : Int), .int .i64 X.st, .int .i64 X.en, .sl (bytesAV X.da) .none])).res (uD.next + 8) = some (.obj [.int .u64 (X.tr : Int), .int .u64 (X.id : Int), .int .i64 X.st, .int .i64 X.en, .sl (bytesAV X.da) .none]) := by simp
  generalize ((uD.up 10).set (uD.next + 8) (.obj [.int .u64 (X.tr : Int), .int .u64 (X.id : Int), .int .i64 X.st, .int .i64 X.en, .sl (bytesAV X.da) .none])) = uE at RE hE ⊢
  generalize uD.next + 8 = a at hE ⊢
  clear RD hrd2 hsn0 hnm0
  refine h3 _ _ ?_
  try clear h3 K_h3
  have hEn : ∀ k, (uE.up k).res a = some (.obj [.int .u64 (X.tr : Int), .int .u64 (X.id : Int), .int .i64 X.st, .int .i64 X.en, .sl (bytesAV X.da) .none]) := fun _ => hE
  have hlen5 : ∀ x y z w q : AV, [x, y, z, w, q].length = 5 := fun _ _ _ _ _ => rfl
  have htake : ∀ x y z w q : AV, List.take 5 (List.drop 0 [x, y, z, w, q]) = [x, y, z, w, q] := fun _ _ _ _ _ => rfl
  have h05 : 0 + 5 ≤ 5 := Nat.le_refl _
  have hms : mayI X.st X.en (((bytesAV X.da).length : Nat) : Int) = mayS X := by rw [bytesAV_len]; rfl
  refine T.seq_k (fun K_h3 h3 => ?_)
  refine T.regi hm ?_
  simp only [↓reduceIte, namesOf, List.any, I.names, aopsI, astep, ev, setd, List.set, List.getD, List.getElem?_cons_zero, List.getElem?_cons_succ, List.cons_append, List.nil_append, List.replicate, then_normal, Option.getD_some, Bool.or_false, Bool.false_eq_true, up_zero, Nat.reduceAdd, ↓opt_def, ldc, List.map_cons, List.map_nil, hE, hlen5, htake, h05]
  refine rmay_ok.mono ?_
  rintro v u2 ⟨rfl, rfl⟩
  rw [hms]
  try simp only [↓reduceIte, namesOf, List.any, I.names, aops, aopsI, aopsT, qstep, CPt, qget, Tbl.get, astep, ev, setd, List.set, List.getD, List.getElem?_cons_zero, List.getElem?_cons_succ, List.getElem?_nil, List.cons_append, List.nil_append, List.length_cons, List.length_nil, List.replicate, then_normal, inBlock_normal, Option.getD_some, Option.getD_none, Bool.or_false, Bool.or_true, Bool.true_or, Bool.false_or, Bool.false_eq_true, if_false, if_true, up_zero, Nat.reduceAdd, Nat.reduceSub, binv, ↓opt_def, AV.isAny, AV.cells, ldc, List.map_cons, List.map_nil, St.set_next, St.set_same, St.up_next, Int.natCast_nonneg, lt_len, le_len, Int.toNat_natCast, true_and, and_true, eq_self, reduceCtorEq, decide_true, List.length_singleton, er_int, er_bool, er_str, up_zero]
  refine h3 _ _ ?_
  try clear h3 K_h3
  refine T.seq_k (fun K_h3 h3 => ?_)
  cases hmay : mayS X with
  | false =>
    rw [hmay, if_neg (by simp)] at hgo1
    have hG : G = (s.at_, []) := by rw [hget, hgo1]; simp [hk0]
    refine T.seq_k (fun K_h0 h0 => ?_)
    refine T.regi hm ?_
    simp only [↓reduceIte, namesOf, List.any, I.names, aopsI, astep, ev, setd, List.set, List.getD, List.getElem?_cons_zero, List.getElem?_cons_succ, List.cons_append, List.nil_append, List.replicate, then_normal, Option.getD_some, Bool.or_false, Bool.false_eq_true, up_zero, Bool.not_false]
    refine h0 _ _ ?_
    try clear h0 K_h0
    refine T.cond rfl (fun _ => ?_) (fun h => by cases h)
    refine T.seq_k (fun K_h0 h0 => ?_)
    refine T.regi hm ?_
    simp only [↓reduceIte, namesOf, List.any, I.names, aopsI, astep, ev, setd, List.set, List.getD, List.getElem?_cons_zero, List.getElem?_cons_succ, List.cons_append, List.nil_append, List.replicate, then_normal, Option.getD_some, Bool.or_false, Bool.false_eq_true, up_zero]
    refine h0 _ _ ?_
    try clear h0 K_h0
    exact T.ret (Fin.quietw rfl (Wk.tup2 (Wk.sl _ _)) ⟨⟨trivial, trivial⟩, trivial, trivial⟩ (RE.like.quiet wf) ⟨by rw [hG]; rfl, rfl⟩)
  | true =>
    rw [hmay, if_pos rfl, ← hn'] at hgo1
    refine T.seq_k (fun K_h0 h0 => ?_)
    refine T.regi hm ?_
    simp only [↓reduceIte, namesOf, List.any, I.names, aopsI, astep, ev, setd, List.set, List.getD, List.getElem?_cons_zero, List.getElem?_cons_succ, List.cons_append, List.nil_append, List.replicate, then_normal, Option.getD_some, Bool.or_false, Bool.false_eq_true, up_zero, Bool.not_true]
    refine h0 _ _ ?_
    try clear h0 K_h0
    refine T.cond rfl (fun h => by cases h) (fun _ => T.skip ?_)
    refine h3 _ _ ?_
    try clear h3 K_h3
    have hsn := RE.like.next
    have hnm := RE.hi
    have hfit : (spsAV (acc ++ [X])).all (AV.fits 5) = true := sps_fits _
    have hfit1 : AV.fits 5 (.agg [.int .u64 (X.tr : Int), .int .u64 (X.id : Int), .int .i64 X.st, .int .i64 X.en, .sl (bytesAV X.da) .none]) = true := rfl
    have her : (AV.agg [.int .u64 (X.tr : Int), .int .u64 (X.id : Int), .int .i64 X.st, .int .i64 X.en, .sl (bytesAV X.da) .none]).er = .agg [.int .u64 (X.tr : Int), .int .u64 (X.id : Int), .int .i64 X.st, .int .i64 X.en, .sl (bytesAV X.da) .none] := rfl
    have hle : decide ((acc.length + 1) * 56 ≤ 70368744177664 ∧ acc.length + 1 ≤ 4611686018427387904) = true := decide_eq_true (by omega)
    have hbad' : 0 ≤ s'.bad → N = 0 := fun h => absurd h hsb
    rcases RE.ver with rfl | ⟨g, rfl, _, _, _, hg⟩
    · have hac := hvn rfl
      subst hac
      have hX1 : [AV.agg [.int .u64 (X.tr : Int), .int .u64 (X.id : Int), .int .i64 X.st, .int .i64 X.en, .sl (bytesAV X.da) .none]] = spsAV [X] := rfl
      have hX0 : spsAV ([] : List Sp) = [] := rfl
      have hX2 : (spsAV [X]).isEmpty = false := rfl
      have hX3 : (spsAV [X]).all (AV.fits 5) = true := sps_fits _
      refine T.regi hm ?_
      simp only [↓reduceIte, namesOf, List.any, I.names, aopsI, astep, ev, setd, List.set, List.getD, List.getElem?_cons_zero, List.getElem?_cons_succ, List.cons_append, List.nil_append, List.length_cons, List.length_nil, List.replicate, then_normal, inBlock_normal, Option.getD_some, Bool.or_false, Bool.or_true, Bool.false_eq_true, Nat.reduceAdd, ↓opt_def, ldc, List.map_cons, List.map_nil, eq_self, decide_true, hEn, hX0, held, Bool.and_self, srcOf, List.nil_append, hX1, hX3, sps_er, sps_len, hX2, htake, h05, hlen5, Nat.reduceMul, Nat.reduceLeDiff, and_self, Nat.zero_add]
      refine h2 _ _ ?_
      try clear h2 K_h2
      refine T.regi hm ?_
      simp only [↓reduceIte, namesOf, List.any, I.names, aopsI, astep, ev, setd, List.set, List.getD, List.getElem?_cons_zero, List.getElem?_cons_succ, List.cons_append, List.nil_append, List.replicate, then_normal, Option.getD_some, Bool.or_false, Bool.false_eq_true, up_zero, binv, ↓opt_def, eq_self, hiw]
      exact ⟨hil, _, _, Gh.keep [0, 4, 5, 6, 7], s', [X], _, ks5, (RE.up 5).appNil (g := u2.next + 3) (by omega) (by omega) (by simp), by rw [← hacc]; rfl, (fun h => by cases h), hbad', hgo1, rfl⟩
    · have hgn : ∀ k, (u2.up k).res g = some (.tip 5) := fun _ => hg
      have hle' : decide ((acc.length + 1) * 56 ≤ 70368744177664 ∧ acc.length ≤ 4611686018427387903) = true := decide_eq_true (by omega)
      refine T.regi hm ?_
      simp only [↓reduceIte, namesOf, List.any, I.names, aopsI, astep, ev, setd, List.set, List.getD, List.getElem?_cons_zero, List.getElem?_cons_succ, List.cons_append, List.nil_append, List.length_cons, List.length_nil, List.replicate, then_normal, inBlock_normal, Option.getD_some, Bool.or_false, Bool.or_true, Nat.reduceAdd, ↓opt_def, ldc, List.map_cons, List.map_nil, eq_self, hEn, held, hfit1, her, List.all_cons, List.all_nil, Bool.and_self, srcOf, sps_snoc', hfit, sps_len, htake, h05, hlen5, hle, hgn]
      refine h2 _ _ ?_
      try clear h2 K_h2
      refine T.regi hm ?_
      simp only [↓reduceIte, namesOf, List.any, I.names, aopsI, astep, ev, setd, List.set, List.getD, List.getElem?_cons_zero, List.getElem?_cons_succ, List.cons_append, List.nil_append, List.replicate, then_normal, Option.getD_some, Bool.or_false, Bool.false_eq_true, up_zero, binv, ↓opt_def, eq_self, hiw]
      exact ⟨hil, _, _, Gh.keep [0, 4, 5, 6, 7], s', acc ++ [X], _, ks5, (RE.up 5).appTip (g := u2.next + 3) (by omega) (by omega) (by simp), by simp [hacc], (fun h => by cases h), hbad', hgo1, rfl⟩
end Go.VL
