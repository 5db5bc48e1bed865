/- The law StoreKeeps, walked. -/
import Derived.Test.YtlbnimbgodmagaaGs
namespace Go.VL
open Go.Proofs

theorem get_put_same (k : ByteArray) (v : List UInt8) : ∀ L : Objs, getO k (putO k v L) = some v
  | [] => by simp [putO, getO]
  | e :: r => by
    unfold putO
    by_cases h : k = e.1
    · rw [if_pos h]; simp [getO]
    · rw [if_neg h, getO, if_neg h]; exact get_put_same k v r
theorem get_put_ne {k k' : ByteArray} (v : List UInt8) (hk : k ≠ k') : ∀ L : Objs, getO k (putO k' v L) = getO k L
  | [] => by simp [putO, getO, hk]
  | e :: r => by
    unfold putO
    by_cases h : k' = e.1
    · rw [if_pos h, getO, getO, if_neg hk, if_neg (h ▸ hk)]
    · rw [if_neg h, getO, getO]
      by_cases h2 : k = e.1
      · rw [if_pos h2, if_pos h2]
      · rw [if_neg h2, if_neg h2]; exact get_put_ne v hk r
theorem get_del_ne {k k' : ByteArray} (hk : k ≠ k') : ∀ L : Objs, getO k (delO k' L) = getO k L
  | [] => rfl
  | e :: r => by
    unfold delO
    by_cases h : k' = e.1
    · rw [if_pos h, getO, if_neg (h ▸ hk)]
    · rw [if_neg h, getO, getO]
      by_cases h2 : k = e.1
      · rw [if_pos h2, if_pos h2]
      · rw [if_neg h2, if_neg h2]; exact get_del_ne hk r
theorem used_cons (e : ByteArray × List UInt8) (r : Objs) : usedO (e :: r) = e.2.length + usedO r := by simp [usedO]
theorem used_put (k : ByteArray) (v : List UInt8) : ∀ L : Objs, usedO (putO k v L) + sizeO k L = usedO L + v.length
  | [] => by simp [putO, usedO, sizeO, getO]
  | e :: r => by
    have ih := used_put k v r
    unfold putO; unfold sizeO at ih ⊢
    by_cases h : k = e.1
    · rw [if_pos h, getO, if_pos h, used_cons, used_cons]; simp only [Option.getD_some]; omega
    · rw [if_neg h, getO, if_neg h, used_cons, used_cons]; omega
theorem used_del (k : ByteArray) : ∀ L : Objs, usedO (delO k L) ≤ usedO L
  | [] => Nat.le_refl _
  | e :: r => by
    have ih := used_del k r
    unfold delO
    by_cases h : k = e.1
    · rw [if_pos h, used_cons]; omega
    · rw [if_neg h, used_cons, used_cons]; omega
theorem size_le (k : ByteArray) : ∀ L : Objs, sizeO k L ≤ usedO L
  | [] => by simp [sizeO, getO]
  | e :: r => by
    have ih := size_le k r
    unfold sizeO at *
    rw [used_cons]
    by_cases h : k = e.1
    · rw [getO, if_pos h]; simp
    · rw [getO, if_neg h]; omega
theorem get_le {k : ByteArray} {L : Objs} {b : List UInt8} (h : getO k L = some b) : b.length ≤ usedO L := by
  have := size_le k L
  unfold sizeO at this
  rw [h] at this; exact this

/-- a deed -/
structure Dd where
  what : Int
  name : ByteArray
  n : Int
  x : Int
  b : List UInt8
def Dd.av (d : Dd) : AV := .agg [.int .i64 d.what, .str d.name, .int .i64 d.n, .int .u8 d.x, .sl (bytesAV d.b) .none]
def Dd.ok (d : Dd) : Prop := (-9223372036854775808 ≤ d.what ∧ d.what ≤ 9223372036854775807) ∧ (-9223372036854775808 ≤ d.n ∧ d.n ≤ 9223372036854775807) ∧ (0 ≤ d.x ∧ d.x ≤ 255) ∧ d.name.size ≤ 9223372036854775807 ∧ d.b.length ≤ 9223372036854775807
def ddsAV (l : List Dd) : List AV := l.map Dd.av
theorem dds_len (l : List Dd) : (ddsAV l).length = l.length := by simp [ddsAV]
theorem dds_get {l : List Dd} {i : Nat} (h : i < l.length) : (ddsAV l)[i]? = some l[i].av := by simp [ddsAV, h]

/-- names that are not the store's stay -/
structure Old (σ σ' : St) : Prop where
  next : σ.next ≤ σ'.next
  old : ∀ n x, σ.res n = some x → σ'.res n = some x
theorem Old.nx {σ σ1 σ2 : St} {p m : Nat} (wf : WF σ) (h : Old σ σ1) (k : Nx σ1 σ2 p m) (hp : σ.next ≤ p) (hm : σ.next ≤ m) : Old σ σ2 :=
  ⟨Nat.le_trans h.next k.next, fun n x hr => by
    have hn : n < σ.next := by
      rcases Nat.lt_or_ge n σ.next with h' | h'
      · exact h'
      · rw [wf n h'] at hr; cases hr
    exact k.old n x (by omega) (by omega) (h.old n x hr)⟩

theorem err_nil {c : Int} (h : c = 0) : errAV c = .nili := by rw [h]; rfl
theorem left_all : leftB (-1) = -1 := by decide
theorem put_ok_used {L : Objs} {k : ByteArray} {b : List UInt8} {n : Nat} (hu : usedO L ≤ n) : usedO (putO k b L) ≤ n + b.length := by
  have := used_put k b L
  omega

set_option maxRecDepth 10000 in
set_option maxHeartbeats 4000000 in
theorem storeKeeps_ok {n0 : Int} {name : ByteArray} {b : List UInt8} {l : List Dd} {σ : St} (hn : name.size ≤ 9223372036854775807) (hb : b.length ≤ 9223372036854775807) (hll : l.length ≤ 9223372036854775807) (hl : ∀ d ∈ l, d.ok) :
    ACalls Try.prog n_storeKeeps [.str name, .sl (bytesAV b) .none, .sl (ddsAV l) .none, .int .i64 n0] σ (fun v σ' => v = .bool true ∧ σ' = σ) := by
  refine s_storeKeeps (fun wf => ?_)
  unfold c_storeKeeps
  refine T.seq_k (fun K_h0 h0 => ?_)
  refine T.regi hm ?_
  simp only [↓reduceIte, namesOf, List.any, I.names, aopsI, astep, ev, setd, List.set, List.cons_append, List.nil_append, List.length_cons, List.length_nil, List.replicate, then_normal, Bool.or_false, Bool.false_eq_true, up_zero, Nat.reduceAdd, Nat.reduceSub]
  refine h0 _ _ ?_
  try clear h0 K_h0
  refine T.seq_k (fun K_h1 h1 => ?_)
  refine T.regi hm ?_
  simp only [↓reduceIte, namesOf, List.any, I.names, aopsI, astep, ev, setd, List.set, List.getD, List.getElem?_cons_zero, List.getElem?_cons_succ, then_normal, Option.getD_some, Bool.or_false, Bool.false_eq_true, up_zero, List.map_nil]
  refine up06_ok.mono ?_
  rintro v σ1 ⟨rfl, rfl⟩
  try simp only [↓reduceIte, namesOf, List.any, I.names, aops, aopsI, aopsT, qstep, CPt, qget, Tbl.get, astep, ev, setd, List.set, List.getD, List.getElem?_cons_zero, List.getElem?_cons_succ, List.getElem?_nil, List.cons_append, List.nil_append, List.length_cons, List.length_nil, List.replicate, then_normal, inBlock_normal, Option.getD_some, Option.getD_none, Bool.or_false, Bool.or_true, Bool.true_or, Bool.false_or, Bool.false_eq_true, if_false, if_true, up_zero, Nat.reduceAdd, Nat.reduceSub, binv, ↓opt_def, AV.isAny, AV.cells, ldc, List.map_cons, List.map_nil, St.set_next, St.set_same, St.up_next, Int.natCast_nonneg, lt_len, le_len, Int.toNat_natCast, true_and, and_true, eq_self, reduceCtorEq, decide_true, List.length_singleton, er_int, er_bool, er_str, up_zero]
  refine h1 _ _ ?_
  try clear h1 K_h1
  refine T.seq_k (fun K_h1 h1 => ?_)
  refine T.regi hm ?_
  simp only [↓reduceIte, namesOf, List.any, I.names, aopsI, astep, ev, setd, List.set, List.getD, List.getElem?_cons_zero, List.getElem?_cons_succ, then_normal, Option.getD_some, Bool.or_false, Bool.false_eq_true, up_zero, ↓opt_def, List.map_cons, List.map_nil]
  refine (snew_ok (room := 100000) (by omega)).mono ?_
  rintro v σ2 ⟨p, m, rfl, hS, hp, hm0, hp1, hm1, ho⟩
  have hO : Old σ1 σ2 := ⟨by omega, ho⟩
  clear ho
  try simp only [List.getElem?_cons_zero, List.getElem?_cons_succ]
  refine h1 _ _ ?_
  try clear h1 K_h1
  refine T.seq_k (fun K_h1 h1 => ?_)
  by_cases c1 : b.length > 500
  · have e1 : decide ((b.length : Int) > 500) = true := decide_eq_true (by omega)
    refine T.seq_k (fun K_h0 h0 => ?_)
    refine T.regi hm ?_
    simp only [↓reduceIte, namesOf, List.any, I.names, aopsI, astep, ev, setd, List.set, List.getD, List.getElem?_cons_zero, List.getElem?_cons_succ, then_normal, Option.getD_some, Bool.or_false, Bool.false_eq_true, up_zero, binv, ↓opt_def, eq_self, reduceCtorEq, eqPv, eqIv, e1, bytesAV_len, bne_self_eq_false]
    refine h0 _ _ ?_
    try clear h0 K_h0
    refine T.cond rfl (fun _ => ?_) (fun h => by cases h)
    refine T.seq_k (fun K_h0 h0 => ?_)
    refine T.regi hm ?_
    simp only [↓reduceIte, namesOf, List.any, I.names, aopsI, astep, ev, setd, List.set, List.getD, List.getElem?_cons_zero, List.getElem?_cons_succ, then_normal, Option.getD_some, Bool.or_false, Bool.false_eq_true, up_zero, eq_self, eqPv, Bool.bne_true, Bool.not_false]
    refine h0 _ _ ?_
    try clear h0 K_h0
    exact T.ret (Fin.quiet rfl trivial hO.old ⟨rfl, rfl⟩)
  have e1 : decide ((b.length : Int) > 500) = false := decide_eq_false (by omega)
  by_cases c2 : l.length > 50
  · have e2 : decide ((l.length : Int) > 50) = true := decide_eq_true (by omega)
    refine T.seq_k (fun K_h0 h0 => ?_)
    refine T.regi hm ?_
    simp only [↓reduceIte, namesOf, List.any, I.names, aopsI, astep, ev, setd, List.set, List.getD, List.getElem?_cons_zero, List.getElem?_cons_succ, then_normal, Option.getD_some, Bool.or_false, Bool.false_eq_true, up_zero, binv, ↓opt_def, eq_self, eqPv, eqIv, e1, e2, bytesAV_len, dds_len, bne_self_eq_false]
    refine h0 _ _ ?_
    try clear h0 K_h0
    refine T.cond rfl (fun _ => ?_) (fun h => by cases h)
    refine T.seq_k (fun K_h0 h0 => ?_)
    refine T.regi hm ?_
    simp only [↓reduceIte, namesOf, List.any, I.names, aopsI, astep, ev, setd, List.set, List.getD, List.getElem?_cons_zero, List.getElem?_cons_succ, then_normal, Option.getD_some, Bool.or_false, Bool.false_eq_true, up_zero, eq_self, eqPv, Bool.bne_true, Bool.not_false]
    refine h0 _ _ ?_
    try clear h0 K_h0
    exact T.ret (Fin.quiet rfl trivial hO.old ⟨rfl, rfl⟩)
  have e2 : decide ((l.length : Int) > 50) = false := decide_eq_false (by omega)
  refine T.seq_k (fun K_h0 h0 => ?_)
  refine T.regi hm ?_
  simp only [↓reduceIte, namesOf, List.any, I.names, aopsI, astep, ev, setd, List.set, List.getD, List.getElem?_cons_zero, List.getElem?_cons_succ, then_normal, Option.getD_some, Bool.or_false, Bool.false_eq_true, up_zero, binv, ↓opt_def, eq_self, eqPv, eqIv, e1, e2, bytesAV_len, dds_len, bne_self_eq_false]
  refine h0 _ _ ?_
  try clear h0 K_h0
  refine T.cond rfl (fun h => by cases h) (fun _ => T.skip ?_)
  refine h1 _ _ ?_
  try clear h1 K_h1
  refine T.seq_k (fun K_h1 h1 => ?_)
  refine T.regi hm ?_
  simp only [↓reduceIte, namesOf, List.any, I.names, aopsI, astep, ev, setd, List.set, List.getD, List.getElem?_cons_zero, List.getElem?_cons_succ, then_normal, Option.getD_some, Bool.or_false, Bool.false_eq_true, up_zero, List.map_cons, List.map_nil]
  refine (sput_ok (k := name) (b := b) hS (by omega) (by omega) (by simp [usedO]) hn (by omega) (by simp [sizeO, getO]) (by omega) (.inl ⟨_, rfl, by simp⟩) (fun n e => by cases e)).mono ?_
  rintro v σ3 ⟨rfl, hS3, hN3⟩
  have hO3 := hO.nx wf hN3 hp hm0
  clear hS hO hN3
  try simp only [↓reduceIte, namesOf, List.any, I.names, aops, aopsI, aopsT, qstep, CPt, qget, Tbl.get, astep, ev, setd, List.set, List.getD, List.getElem?_cons_zero, List.getElem?_cons_succ, List.getElem?_nil, List.cons_append, List.nil_append, List.length_cons, List.length_nil, List.replicate, then_normal, inBlock_normal, Option.getD_some, Option.getD_none, Bool.or_false, Bool.or_true, Bool.true_or, Bool.false_or, Bool.false_eq_true, if_false, if_true, up_zero, Nat.reduceAdd, Nat.reduceSub, binv, ↓opt_def, AV.isAny, AV.cells, ldc, List.map_cons, List.map_nil, St.set_next, St.set_same, St.up_next, Int.natCast_nonneg, lt_len, le_len, Int.toNat_natCast, true_and, and_true, eq_self, reduceCtorEq, decide_true, List.length_singleton, er_int, er_bool, er_str, up_zero]
  refine h1 _ _ ?_
  try clear h1 K_h1
  refine T.seq_k (fun K_h1 h1 => ?_)
  by_cases hpc : putC 100000 (-1) [] name b = 0
  case neg =>
    rw [if_neg hpc] at hS3
    rw [errAV_eq _ hpc]
    refine T.seq_k (fun K_h0 h0 => ?_)
    refine T.regi hm ?_
    simp only [↓reduceIte, namesOf, List.any, I.names, aopsI, astep, ev, setd, List.set, List.getD, List.getElem?_cons_zero, List.getElem?_cons_succ, then_normal, Option.getD_some, Bool.or_false, Bool.false_eq_true, up_zero, eqIv, Bool.bne_true, Bool.not_false]
    refine h0 _ _ ?_
    try clear h0 K_h0
    refine T.cond rfl (fun _ => ?_) (fun h => by cases h)
    refine T.seq_k (fun K_h2 h2 => ?_)
    refine T.regi hm ?_
    simp only [↓reduceIte, namesOf, List.any, I.names, aopsI, astep, ev, setd, List.set, List.getD, List.getElem?_cons_zero, List.getElem?_cons_succ, then_normal, Option.getD_some, Bool.or_false, Bool.false_eq_true, up_zero, binv, ↓opt_def, List.map_cons, List.map_nil, eq_self]
    refine (sused_ok hS3 (by simp [usedO])).mono ?_
    rintro v σ4 ⟨rfl, rfl⟩
    have hu0 : ((usedO [] : Nat) : Int) = 0 := rfl
    try simp only [↓reduceIte, eq_self, hu0, beq_self_eq_true]
    refine h2 _ _ ?_
    try clear h2 K_h2
    exact T.ret (Fin.quiet rfl trivial hO3.old ⟨rfl, rfl⟩)
  rw [if_pos hpc, left_all] at hS3
  rw [err_nil hpc]
  refine T.seq_k (fun K_h0 h0 => ?_)
  refine T.regi hm ?_
  simp only [↓reduceIte, namesOf, List.any, I.names, aopsI, astep, ev, setd, List.set, List.getD, List.getElem?_cons_zero, List.getElem?_cons_succ, then_normal, Option.getD_some, Bool.or_false, Bool.false_eq_true, up_zero, eq_self, eqIv, bne_self_eq_false]
  refine h0 _ _ ?_
  try clear h0 K_h0
  refine T.cond rfl (fun h => by cases h) (fun _ => T.skip ?_)
  refine h1 _ _ ?_
  try clear h1 K_h1
  refine T.seq_k (fun K_h1 h1 => ?_)
  refine T.seq_k (fun K_h0 h0 => ?_)
  refine T.regi hm ?_
  simp only [↓reduceIte, namesOf, List.any, I.names, aopsI, astep, ev, setd, List.set, then_normal, Bool.or_false, Bool.false_eq_true, up_zero]
  refine h0 _ _ ?_
  try clear h0 K_h0
  refine T.block ?_
  refine T.gh (Gh.keep [0, 1, 2, 9, 10, 13]) ?_
  refine T.loopi (fun i ρ s => ∃ (L : Objs) (calls : Int), StS s p m 100000 (-1) calls L ∧ getO name L = some b ∧ usedO L ≤ 500 * (i + 1) ∧ 0 ≤ calls ∧ calls ≤ i + 1 ∧ Old σ1 s ∧
    ρ = [.str name, .sl (bytesAV b) .none, .sl (ddsAV l) .none] ++ List.replicate 6 .any ++ [.bool true, .ptr p 0, .any, .any, .int .i64 i] ++ List.replicate 129 .any)
    l.length 0 (Nat.zero_le _) ⟨putO name b [], 0 + 1, hS3, get_put_same _ _ _, by simp [putO, usedO]; omega, by omega, by omega, hO3, rfl⟩ ?_
  clear hS3 hO3
  rintro i ρ s hi ⟨L, calls, hS, hg, hu, hc0, hc1, hO, rfl⟩
  have hiw : IntKind.i64.wrap ((i : Int) + 1) = ((i + 1 : Nat) : Int) := by rw [wrap64 (by omega) (by omega)]; omega
  refine T.seq_k (fun K_h2 h2 => ?_)
  refine T.seq_k (fun K_h0 h0 => ?_)
  refine T.regi hm ?_
  simp only [↓reduceIte, namesOf, List.any, I.names, aopsI, astep, ev, setd, List.set, List.getD, List.getElem?_cons_zero, List.getElem?_cons_succ, List.cons_append, List.nil_append, List.replicate, then_normal, Option.getD_some, Bool.or_false, Bool.false_eq_true, up_zero, binv, ↓opt_def, lt_len, eq_self, dds_len]
  refine h0 _ _ ?_
  try clear h0 K_h0
  by_cases hil : i < l.length
  case neg =>
    refine T.cond (b := false) (by simpa [ev] using hil) (fun h => by cases h) (fun _ => T.exit ?_)
    try simp only [List.cons_append, List.nil_append, List.replicate, then_normal, inBlock_exit, then_exit]
    refine h1 _ _ ?_
    try clear h1 K_h1
    refine T.seq_k (fun K_h1 h1 => ?_)
    refine T.regi hm ?_
    simp only [↓reduceIte, namesOf, List.any, I.names, aopsI, astep, ev, setd, List.set, List.getD, List.getElem?_cons_zero, List.getElem?_cons_succ, then_normal, Option.getD_some, Bool.or_false, Bool.false_eq_true, up_zero, List.map_cons, List.map_nil]
    refine (sfail_ok (n := 0) hS).mono ?_
    rintro v σ4 ⟨hS4, h4⟩
    have hO4 := hO.nx wf (h4 ▸ (Nx.set _ : Nx s _ p m)) hp hm0
    rw [if_neg (by omega)] at hS4
    clear hS h4 hO
    try simp only [↓reduceIte, namesOf, List.any, I.names, aops, aopsI, aopsT, qstep, CPt, qget, Tbl.get, astep, ev, setd, List.set, List.getD, List.getElem?_cons_zero, List.getElem?_cons_succ, List.getElem?_nil, List.cons_append, List.nil_append, List.length_cons, List.length_nil, List.replicate, then_normal, inBlock_normal, Option.getD_some, Option.getD_none, Bool.or_false, Bool.or_true, Bool.true_or, Bool.false_or, Bool.false_eq_true, if_false, if_true, up_zero, Nat.reduceAdd, Nat.reduceSub, binv, ↓opt_def, AV.isAny, AV.cells, ldc, List.map_cons, List.map_nil, St.set_next, St.set_same, St.up_next, Int.natCast_nonneg, lt_len, le_len, Int.toNat_natCast, true_and, and_true, eq_self, reduceCtorEq, decide_true, List.length_singleton, er_int, er_bool, er_str, up_zero]
    refine h1 _ _ ?_
    try clear h1 K_h1
    refine T.seq_k (fun K_h1 h1 => ?_)
    refine T.regi hm ?_
    simp only [↓reduceIte, namesOf, List.any, I.names, aopsI, astep, ev, setd, List.set, List.getD, List.getElem?_cons_zero, List.getElem?_cons_succ, then_normal, Option.getD_some, Bool.or_false, Bool.false_eq_true, up_zero, List.map_cons, List.map_nil]
    refine (sdel_ok (k := name) hS4 (by omega) (by omega)).mono ?_
    rintro v σ5 ⟨rfl, hS5, hN5⟩
    have hO5 := hO4.nx wf hN5 hp hm0
    have hgc : getC 0 L name = 8 := rfl
    rw [hgc, if_neg (by decide)] at hS5
    rw [hgc, errAV_eq 8 (by decide)]
    clear hS4 hO4 hN5
    try simp only [↓reduceIte, namesOf, List.any, I.names, aops, aopsI, aopsT, qstep, CPt, qget, Tbl.get, astep, ev, setd, List.set, List.getD, List.getElem?_cons_zero, List.getElem?_cons_succ, List.getElem?_nil, List.cons_append, List.nil_append, List.length_cons, List.length_nil, List.replicate, then_normal, inBlock_normal, Option.getD_some, Option.getD_none, Bool.or_false, Bool.or_true, Bool.true_or, Bool.false_or, Bool.false_eq_true, if_false, if_true, up_zero, Nat.reduceAdd, Nat.reduceSub, binv, ↓opt_def, AV.isAny, AV.cells, ldc, List.map_cons, List.map_nil, St.set_next, St.set_same, St.up_next, Int.natCast_nonneg, lt_len, le_len, Int.toNat_natCast, true_and, and_true, eq_self, reduceCtorEq, decide_true, List.length_singleton, er_int, er_bool, er_str, up_zero]
    refine h1 _ _ ?_
    try clear h1 K_h1
    refine T.seq_k (fun K_h1 h1 => ?_)
    refine T.regi hm ?_
    simp only [↓reduceIte, namesOf, List.any, I.names, aopsI, astep, ev, setd, List.set, List.getD, List.getElem?_cons_zero, List.getElem?_cons_succ, then_normal, Option.getD_some, Bool.or_false, Bool.false_eq_true, up_zero, ↓opt_def, List.map_cons, List.map_nil]
    have hle := get_le hg
    refine (sget_ok (k := name) hS5 (by decide) (by omega) (fun b' hb' => by rw [hg] at hb'; cases hb'; omega)).mono ?_
    rintro v σ6 ⟨rfl, hS6, hN6⟩
    have hO6 := hO5.nx wf hN6 hp hm0
    have hgd : getC (leftB 0) L name = 0 := by
      unfold getC
      rw [if_neg (by decide), hg]; rfl
    rw [hgd, if_pos rfl, hg]
    clear hS5 hO5 hN6 hS6
    try simp only [List.getElem?_cons_zero, List.getElem?_cons_succ, Option.getD_some, eq_self, err_nil]
    refine h1 _ _ ?_
    try clear h1 K_h1
    have hbs := toBytes_bytes b
    refine T.seq_k (fun K_h0 h0 => ?_)
    refine T.regi hm ?_
    simp only [↓reduceIte, namesOf, List.any, I.names, aopsI, astep, ev, setd, List.set, List.getD, List.getElem?_cons_zero, List.getElem?_cons_succ, then_normal, Option.getD_some, Bool.or_false, Bool.false_eq_true, up_zero, ↓opt_def, eq_self, decide_true, eqIv, Option.getD_some, hbs, beq_self_eq_true, Bool.and_self, Bool.bne_false, sbinv]
    refine h0 _ _ ?_
    try clear h0 K_h0
    refine T.ret (Fin.quiet rfl ?_ hO6.old ⟨?_, rfl⟩)
    · trivial
    · simp [pack]
  refine T.cond (b := true) (by simpa [ev] using hil) (fun _ => T.skip ?_) (fun h => by cases h)
  refine h2 _ _ ?_
  try clear h2 K_h2
  have hdm : l[i] ∈ l := List.getElem_mem hil
  have hdok := hl _ hdm
  have hdg := dds_get hil
  generalize l[i] = d at hdm hdok hdg
  refine T.seq_k (fun K_h2 h2 => ?_)
  have nxt : ∀ (ρ' : List AV) (s' : St) (L' : Objs) (calls' : Int), StS s' p m 100000 (-1) calls' L' → getO name L' = some b → usedO L' ≤ 500 * (i + 1 + 1) → 0 ≤ calls' → calls' ≤ (i + 1 : Nat) + 1 → Old σ1 s' →
      keep [0, 1, 2, 9, 10, 13] 0 ρ' = [.str name, .sl (bytesAV b) .none, .sl (ddsAV l) .none] ++ List.replicate 6 .any ++ [.bool true, .ptr p 0, .any, .any, .int .i64 i] ++ List.replicate 129 .any → K_h2 ρ' s' := by
    intro ρ' s' L' calls' g1 g2 g3 g4 g5 g6 hρ
    refine h2 _ _ ?_
    try clear h2 K_h2
    refine T.gh (Gh.keep [0, 1, 2, 9, 10, 13]) ?_
    rw [hρ]
    refine T.regi hm ?_
    simp only [↓reduceIte, namesOf, List.any, I.names, aopsI, astep, ev, setd, List.set, List.getD, List.getElem?_cons_zero, List.getElem?_cons_succ, List.cons_append, List.nil_append, List.replicate, then_normal, Option.getD_some, Bool.or_false, Bool.false_eq_true, up_zero, binv, ↓opt_def, eq_self, hiw]
    exact ⟨hil, _, _, Gh.keep [0, 1, 2, 9, 10, 13], L', calls', g1, g2, g3, g4, g5, g6, rfl⟩
  clear h2
  refine T.block ?_
  have hav : d.av = .agg [.int .i64 d.what, .str d.name, .int .i64 d.n, .int .u8 d.x, .sl (bytesAV d.b) .none] := rfl
  have hi0 : (0 : Int) ≤ i := by omega
  have hil' : (i : Int) < l.length := by omega
  refine T.seq_k (fun K_h2 h2 => ?_)
  refine T.seq_k (fun K_h3 h3 => ?_)
  by_cases d1 : d.name = name
  · have f1 : decide (d.name = name) = true := decide_eq_true d1
    refine T.regi hm ?_
    simp only [↓reduceIte, namesOf, List.any, I.names, aopsI, astep, ev, setd, List.set, List.getD, List.getElem?_cons_zero, List.getElem?_cons_succ, List.cons_append, List.nil_append, List.length_cons, List.length_nil, List.replicate, then_normal, Option.getD_some, Bool.or_false, Bool.false_eq_true, up_zero, Nat.reduceAdd, ↓opt_def, AV.cells, ldc, Int.natCast_nonneg, Int.toNat_natCast, and_true, eq_self, reduceCtorEq, dds_len, hdg, hav, hil', f1, sbinv, List.drop_succ_cons, List.drop_zero]
    refine h3 _ _ ?_
    try clear h3 K_h3
    refine T.cond rfl (fun _ => T.exit ?_) (fun h => by cases h)
    try simp only [List.cons_append, List.nil_append, List.replicate, then_normal, inBlock_exit, then_exit]
    exact nxt _ _ L calls hS hg (by omega) hc0 (by omega) hO rfl
  have f1 : decide (d.name = name) = false := decide_eq_false d1
  by_cases d2 : d.b.length > 500
  · have f2 : decide ((d.b.length : Int) > 500) = true := decide_eq_true (by omega)
    refine T.regi hm ?_
    simp only [↓reduceIte, namesOf, List.any, I.names, aopsI, astep, ev, setd, List.set, List.getD, List.getElem?_cons_zero, List.getElem?_cons_succ, List.cons_append, List.nil_append, List.length_cons, List.length_nil, List.replicate, then_normal, Option.getD_some, Bool.or_false, Bool.false_eq_true, up_zero, Nat.reduceAdd, binv, ↓opt_def, AV.cells, ldc, Int.natCast_nonneg, Int.toNat_natCast, and_true, eq_self, dds_len, hdg, hav, hil', f1, f2, bytesAV_len, sbinv, List.drop_succ_cons, List.drop_zero]
    refine h3 _ _ ?_
    try clear h3 K_h3
    refine T.cond rfl (fun _ => T.exit ?_) (fun h => by cases h)
    try simp only [List.cons_append, List.nil_append, List.replicate, then_normal, inBlock_exit, then_exit]
    exact nxt _ _ L calls hS hg (by omega) hc0 (by omega) hO rfl
  have f2 : decide ((d.b.length : Int) > 500) = false := decide_eq_false (by omega)
  refine T.regi hm ?_
  simp only [↓reduceIte, namesOf, List.any, I.names, aopsI, astep, ev, setd, List.set, List.getD, List.getElem?_cons_zero, List.getElem?_cons_succ, List.cons_append, List.nil_append, List.length_cons, List.length_nil, List.replicate, then_normal, Option.getD_some, Bool.or_false, Bool.false_eq_true, up_zero, Nat.reduceAdd, binv, ↓opt_def, AV.cells, ldc, Int.natCast_nonneg, Int.toNat_natCast, and_true, eq_self, dds_len, hdg, hav, hil', f1, f2, bytesAV_len, sbinv, List.drop_succ_cons, List.drop_zero]
  refine h3 _ _ ?_
  try clear h3 K_h3
  refine T.cond rfl (fun h => by cases h) (fun _ => T.skip ?_)
  refine h2 _ _ ?_
  try clear h2 K_h2
  refine T.seq_k (fun K_h2 h2 => ?_)
  refine T.regi hm ?_
  simp only [↓reduceIte, namesOf, List.any, I.names, aopsI, astep, ev, setd, List.set, List.getD, List.getElem?_cons_zero, List.getElem?_cons_succ, List.cons_append, List.nil_append, List.replicate, then_normal, Option.getD_some, Bool.or_false, Bool.false_eq_true, up_zero, List.map_cons, List.map_nil]
  refine (sused_ok hS (by omega)).mono ?_
  rintro v σ4 ⟨rfl, rfl⟩
  try simp only [↓reduceIte, namesOf, List.any, I.names, aops, aopsI, aopsT, qstep, CPt, qget, Tbl.get, astep, ev, setd, List.set, List.getD, List.getElem?_cons_zero, List.getElem?_cons_succ, List.getElem?_nil, List.cons_append, List.nil_append, List.length_cons, List.length_nil, List.replicate, then_normal, inBlock_normal, Option.getD_some, Option.getD_none, Bool.or_false, Bool.or_true, Bool.true_or, Bool.false_or, Bool.false_eq_true, if_false, if_true, up_zero, Nat.reduceAdd, Nat.reduceSub, binv, ↓opt_def, AV.isAny, AV.cells, ldc, List.map_cons, List.map_nil, St.set_next, St.set_same, St.up_next, Int.natCast_nonneg, lt_len, le_len, Int.toNat_natCast, true_and, and_true, eq_self, reduceCtorEq, decide_true, List.length_singleton, er_int, er_bool, er_str, up_zero]
  refine h2 _ _ ?_
  try clear h2 K_h2
  refine T.seq_k (fun K_h0 h0 => ?_)
  refine T.regi hm ?_
  simp only [↓reduceIte, namesOf, List.any, I.names, aopsI, astep, ev, setd, List.set, List.cons_append, List.nil_append, List.replicate, then_normal, Bool.or_false, Bool.false_eq_true, up_zero]
  refine h0 _ _ ?_
  try clear h0 K_h0
  refine T.seq_k (fun K_h2 h2 => ?_)
  refine T.seq_k (fun K_h3 h3 => ?_)
  refine T.regi hm ?_
  simp only [↓reduceIte, namesOf, List.any, I.names, aopsI, astep, ev, setd, List.set, List.getD, List.getElem?_cons_zero, List.getElem?_cons_succ, List.cons_append, List.nil_append, List.length_cons, List.length_nil, List.replicate, then_normal, Option.getD_some, Bool.or_false, Bool.false_eq_true, up_zero, Nat.reduceAdd, binv, ↓opt_def, AV.cells, ldc, List.map_cons, List.map_nil, Int.natCast_nonneg, Int.toNat_natCast, and_true, eq_self, dds_len, hdg, hav, hil', List.drop_zero]
  refine (pick_ok (n := 2) hdok.1 (by omega)).mono ?_
  rintro v σ5 ⟨⟨r, rfl⟩, rfl⟩
  try simp only [↓reduceIte, eq_self]
  refine h3 _ _ ?_
  try clear h3 K_h3
  have last : ∀ (c : Int) (ρ' : List AV) (s' : St) (L' : Objs) (calls' : Int), (c ≠ 0 → usedO L' = usedO L) → StS s' p m 100000 (-1) calls' L' → getO name L' = some b → usedO L' ≤ 500 * (i + 1 + 1) → 0 ≤ calls' → calls' ≤ (i + 1 : Nat) + 1 → Old σ1 s' →
      keep [0, 1, 2, 9, 10, 13, 14, 15] 0 ρ' = [.str name, .sl (bytesAV b) .none, .sl (ddsAV l) .none] ++ List.replicate 6 .any ++ [.bool true, .ptr p 0, .any, .any, .int .i64 i, .int .i64 (usedO L : Nat), errAV c] ++ List.replicate 127 .any → K_h2 ρ' s' := by
    intro c ρ' s' L' calls' hcu g1 g2 g3 g4 g5 g6 hρ
    refine h2 _ _ ?_
    try clear h2 K_h2
    refine T.gh (Gh.keep [0, 1, 2, 9, 10, 13, 14, 15]) ?_
    rw [hρ]
    by_cases hc : c = 0
    · rw [err_nil hc]
      refine T.seq_k (fun K_h2 h2 => ?_)
      refine T.regi hm ?_
      simp only [↓reduceIte, namesOf, List.any, I.names, aopsI, astep, ev, setd, List.set, List.getD, List.getElem?_cons_zero, List.getElem?_cons_succ, List.cons_append, List.nil_append, List.replicate, then_normal, Option.getD_some, Bool.or_false, Bool.false_eq_true, up_zero, eq_self, eqIv, bne_self_eq_false]
      refine h2 _ _ ?_
      try clear h2 K_h2
      refine T.cond rfl (fun h => by cases h) (fun _ => T.skip ?_)
      try simp only [List.cons_append, List.nil_append, List.replicate, then_normal, inBlock_normal, inBlock_normal]
      exact nxt _ _ L' calls' g1 g2 g3 g4 g5 g6 rfl
    · rw [errAV_eq _ hc]
      refine T.seq_k (fun K_h2 h2 => ?_)
      refine T.regi hm ?_
      simp only [↓reduceIte, namesOf, List.any, I.names, aopsI, astep, ev, setd, List.set, List.getD, List.getElem?_cons_zero, List.getElem?_cons_succ, List.cons_append, List.nil_append, List.replicate, then_normal, Option.getD_some, Bool.or_false, Bool.false_eq_true, up_zero, binv, ↓opt_def, List.map_cons, List.map_nil, eq_self, eqIv, Bool.bne_true, Bool.not_false]
      refine (sused_ok g1 (by omega)).mono ?_
      rintro v σ4 ⟨rfl, rfl⟩
      try simp only [↓reduceIte, eq_self, hcu hc, bne_self_eq_false]
      refine h2 _ _ ?_
      try clear h2 K_h2
      refine T.cond rfl (fun h => by cases h) (fun _ => T.skip ?_)
      try simp only [List.cons_append, List.nil_append, List.replicate, then_normal, inBlock_normal, inBlock_normal]
      exact nxt _ _ L' calls' g1 g2 g3 g4 g5 g6 rfl
  have hsz := size_le d.name L
  by_cases hr : r = 0
  · refine T.cond (b := true) (by simp [ev, hr]) (fun _ => ?_) (fun h => by cases h)
    refine T.regi hm ?_
    simp only [↓reduceIte, namesOf, List.any, I.names, aopsI, astep, ev, setd, List.set, List.getD, List.getElem?_cons_zero, List.getElem?_cons_succ, List.cons_append, List.nil_append, List.length_cons, List.length_nil, List.replicate, then_normal, Option.getD_some, Bool.or_false, Bool.false_eq_true, up_zero, Nat.reduceAdd, ↓opt_def, AV.cells, ldc, List.map_cons, List.map_nil, Int.natCast_nonneg, Int.toNat_natCast, and_true, eq_self, dds_len, hdg, hav, hil', List.drop_succ_cons, List.drop_zero]
    refine (sput_ok (k := d.name) (b := d.b) hS (by omega) (by omega) (by omega) hdok.2.2.2.1 (by omega) (by omega) (by omega) (.inl ⟨_, rfl, by simp⟩) (fun n e => by cases e)).mono ?_
    rintro v σ6 ⟨rfl, hS6, hN6⟩
    have hO6 := hO.nx wf hN6 hp hm0
    rw [left_all] at hS6
    have hpu := put_ok_used (k := d.name) (b := d.b) (Nat.le_refl (usedO L))
    try simp only [↓reduceIte, namesOf, List.any, I.names, aops, aopsI, aopsT, qstep, CPt, qget, Tbl.get, astep, ev, setd, List.set, List.getD, List.getElem?_cons_zero, List.getElem?_cons_succ, List.getElem?_nil, List.cons_append, List.nil_append, List.length_cons, List.length_nil, List.replicate, then_normal, inBlock_normal, Option.getD_some, Option.getD_none, Bool.or_false, Bool.or_true, Bool.true_or, Bool.false_or, Bool.false_eq_true, if_false, if_true, up_zero, Nat.reduceAdd, Nat.reduceSub, binv, ↓opt_def, AV.isAny, AV.cells, ldc, List.map_cons, List.map_nil, St.set_next, St.set_same, St.up_next, Int.natCast_nonneg, lt_len, le_len, Int.toNat_natCast, true_and, and_true, eq_self, reduceCtorEq, decide_true, List.length_singleton, er_int, er_bool, er_str, up_zero]
    refine last _ _ _ _ _ (fun hc => by rw [if_neg hc]) hS6 ?_ ?_ (by omega) (by omega) hO6 rfl
    · split
      · rw [get_put_ne _ (Ne.symm d1)]; exact hg
      · exact hg
    · split <;> omega
  · refine T.cond (b := false) (by simp [ev, hr]) (fun h => by cases h) (fun _ => ?_)
    refine T.regi hm ?_
    simp only [↓reduceIte, namesOf, List.any, I.names, aopsI, astep, ev, setd, List.set, List.getD, List.getElem?_cons_zero, List.getElem?_cons_succ, List.cons_append, List.nil_append, List.length_cons, List.length_nil, List.replicate, then_normal, Option.getD_some, Bool.or_false, Bool.false_eq_true, up_zero, Nat.reduceAdd, ↓opt_def, AV.cells, ldc, List.map_cons, List.map_nil, Int.natCast_nonneg, Int.toNat_natCast, and_true, eq_self, dds_len, hdg, hav, hil', List.drop_succ_cons, List.drop_zero]
    refine (sdel_ok (k := d.name) hS (by omega) (by omega)).mono ?_
    rintro v σ6 ⟨rfl, hS6, hN6⟩
    have hO6 := hO.nx wf hN6 hp hm0
    rw [left_all] at hS6
    have hpu := used_del d.name L
    try simp only [↓reduceIte, namesOf, List.any, I.names, aops, aopsI, aopsT, qstep, CPt, qget, Tbl.get, astep, ev, setd, List.set, List.getD, List.getElem?_cons_zero, List.getElem?_cons_succ, List.getElem?_nil, List.cons_append, List.nil_append, List.length_cons, List.length_nil, List.replicate, then_normal, inBlock_normal, Option.getD_some, Option.getD_none, Bool.or_false, Bool.or_true, Bool.true_or, Bool.false_or, Bool.false_eq_true, if_false, if_true, up_zero, Nat.reduceAdd, Nat.reduceSub, binv, ↓opt_def, AV.isAny, AV.cells, ldc, List.map_cons, List.map_nil, St.set_next, St.set_same, St.up_next, Int.natCast_nonneg, lt_len, le_len, Int.toNat_natCast, true_and, and_true, eq_self, reduceCtorEq, decide_true, List.length_singleton, er_int, er_bool, er_str, up_zero]
    refine last _ _ _ _ _ (fun hc => by rw [if_neg hc]) hS6 ?_ ?_ (by omega) (by omega) hO6 rfl
    · split
      · rw [get_del_ne (Ne.symm d1)]; exact hg
      · exact hg
    · split <;> omega
end Go.VL
