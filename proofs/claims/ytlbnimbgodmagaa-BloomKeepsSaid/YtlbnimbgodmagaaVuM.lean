/- The laws BloomGets and BloomKeeps, walked. -/
import Derived.Test.YtlbnimbgodmagaaVuL
namespace Go.VL
open Go.Proofs

theorem gotC_range (x : List UInt8) : 0 ≤ gotC x ∧ gotC x ≤ 10 := by
  unfold gotC openB
  split
  · simp
  · split
    · simp only [if_true]; split <;> simp
    · simp

set_option maxRecDepth 10000 in
set_option maxHeartbeats 2000000 in
theorem bloomGets_ok {x : List UInt8} {id : Nat} {σ : St} (hid : id < 18446744073709551616) (hx : x.length ≤ 9223372036854775807) :
    ACalls Try.prog n_bloomGets [.sl (bytesAV x) .none, .int .u64 id] σ (fun v σ' => v = .bool true ∧ σ' = σ) := by
  refine s_bloomGets (fun wf => ?_)
  unfold c_bloomGets
  refine T.seq_k (fun K_h0 h0 => ?_)
  refine T.regi hm ?_
  simp only [↓reduceIte, namesOf, List.any, I.names, aopsI, astep, ev, setd, List.set, List.cons_append, List.nil_append, List.length_cons, List.length_nil, List.replicate, then_normal, Bool.or_false, Bool.false_eq_true, up_zero, Nat.reduceAdd, Nat.reduceSub]
  refine h0 _ _ ?_
  try clear h0 K_h0
  refine T.seq_k (fun K_h1 h1 => ?_)
  refine T.regi hm ?_
  simp only [↓reduceIte, namesOf, List.any, I.names, aopsI, astep, ev, setd, List.set, List.getD, List.getElem?_cons_zero, List.getElem?_cons_succ, then_normal, Option.getD_some, Bool.or_false, Bool.false_eq_true, up_zero, List.map_nil]
  refine up11_ok.mono ?_
  rintro v σ1 ⟨rfl, rfl⟩
  try simp only [↓reduceIte, namesOf, List.any, I.names, aops, aopsI, aopsT, qstep, CPt, qget, Tbl.get, astep, ev, setd, List.set, List.getD, List.getElem?_cons_zero, List.getElem?_cons_succ, List.getElem?_nil, List.cons_append, List.nil_append, List.length_cons, List.length_nil, List.replicate, then_normal, inBlock_normal, Option.getD_some, Option.getD_none, Bool.or_false, Bool.or_true, Bool.true_or, Bool.false_or, Bool.false_eq_true, if_false, if_true, up_zero, Nat.reduceAdd, Nat.reduceSub, binv, ↓opt_def, AV.isAny, AV.cells, ldc, List.map_cons, List.map_nil, St.set_next, St.set_same, St.up_next, Int.natCast_nonneg, lt_len, le_len, Int.toNat_natCast, true_and, and_true, eq_self, reduceCtorEq, decide_true, List.length_singleton, er_int, er_bool, er_str, up_zero]
  refine h1 _ _ ?_
  try clear h1 K_h1
  refine T.seq_k (fun K_h1 h1 => ?_)
  by_cases c1 : x.length > 20000
  · have e1 : decide ((x.length : Int) > 20000) = true := decide_eq_true (by omega)
    refine T.seq_k (fun K_h0 h0 => ?_)
    refine T.regi hm ?_
    simp only [↓reduceIte, namesOf, List.any, I.names, aopsI, astep, ev, setd, List.set, List.getD, List.getElem?_cons_zero, List.getElem?_cons_succ, then_normal, Option.getD_some, Bool.or_false, Bool.false_eq_true, up_zero, binv, ↓opt_def, eq_self, bytesAV_len, e1]
    refine h0 _ _ ?_
    try clear h0 K_h0
    refine T.cond rfl (fun _ => ?_) (fun h => by cases h)
    refine T.seq_k (fun K_h0 h0 => ?_)
    refine T.regi hm ?_
    simp only [↓reduceIte, namesOf, List.any, I.names, aopsI, astep, ev, setd, List.set, List.getD, List.getElem?_cons_zero, List.getElem?_cons_succ, then_normal, Option.getD_some, Bool.or_false, Bool.false_eq_true, up_zero]
    refine h0 _ _ ?_
    try clear h0 K_h0
    exact T.ret (Fin.ret rfl ⟨rfl, rfl⟩)
  have e1 : decide ((x.length : Int) > 20000) = false := decide_eq_false (by omega)
  refine T.seq_k (fun K_h0 h0 => ?_)
  refine T.regi hm ?_
  simp only [↓reduceIte, namesOf, List.any, I.names, aopsI, astep, ev, setd, List.set, List.getD, List.getElem?_cons_zero, List.getElem?_cons_succ, then_normal, Option.getD_some, Bool.or_false, Bool.false_eq_true, up_zero, binv, ↓opt_def, eq_self, bytesAV_len, e1]
  refine h0 _ _ ?_
  try clear h0 K_h0
  refine T.cond rfl (fun h => by cases h) (fun _ => T.skip ?_)
  refine h1 _ _ ?_
  try clear h1 K_h1
  have hgr := gotC_range x
  refine T.seq_k (fun K_h1 h1 => ?_)
  refine T.regi hm ?_
  simp only [↓reduceIte, namesOf, List.any, I.names, aopsI, astep, ev, setd, List.set, List.getD, List.getElem?_cons_zero, List.getElem?_cons_succ, then_normal, Option.getD_some, Bool.or_false, Bool.false_eq_true, up_zero, ↓opt_def, List.map_cons, List.map_nil]
  refine (bget_ok (by omega)).mono ?_
  rintro v σ2 (⟨hc, rfl, rfl⟩ | ⟨hc, p, ns, w, rfl, hB, hp0, hp1, hns, ho⟩)
  · try simp only [List.getElem?_cons_zero, List.getElem?_cons_succ]
    refine h1 _ _ ?_
    try clear h1 K_h1
    refine T.seq_k (fun K_h1 h1 => ?_)
    refine T.regi hm ?_
    simp only [↓reduceIte, namesOf, List.any, I.names, aopsI, astep, ev, setd, List.set, List.getD, List.getElem?_cons_zero, List.getElem?_cons_succ, then_normal, Option.getD_some, Bool.or_false, Bool.false_eq_true, up_zero, ↓opt_def, List.map_cons, List.map_nil]
    refine (rfiltered_ok (by omega)).mono ?_
    rintro v σ3 (⟨_, rfl, rfl⟩ | ⟨hr0, _⟩)
    case inr => rw [← got_eq] at hr0; exact absurd hr0 hc
    rw [← got_eq]
    try simp only [List.getElem?_cons_zero, List.getElem?_cons_succ]
    refine h1 _ _ ?_
    try clear h1 K_h1
    have hb : (gotC x != 0) = true := by simpa using hc
    obtain ⟨c, hcc⟩ := Int.eq_ofNat_of_zero_le hgr.1
    refine T.seq_k (fun K_h1 h1 => ?_)
    refine T.seq_k (fun K_h0 h0 => ?_)
    refine T.regi hm ?_
    simp only [↓reduceIte, namesOf, List.any, I.names, aopsI, astep, ev, setd, List.set, List.getD, List.getElem?_cons_zero, List.getElem?_cons_succ, then_normal, Option.getD_some, Bool.or_false, Bool.false_eq_true, up_zero, binv, ↓opt_def, eq_self, hb]
    refine h0 _ _ ?_
    try clear h0 K_h0
    refine T.cond rfl (fun _ => ?_) (fun h => by cases h)
    refine T.seq_k (fun K_h2 h2 => ?_)
    refine T.regi hm ?_
    simp only [↓reduceIte, namesOf, List.any, I.names, aopsI, astep, ev, setd, List.set, List.getD, List.getElem?_cons_zero, List.getElem?_cons_succ, then_normal, Option.getD_some, Bool.or_false, Bool.false_eq_true, up_zero, binv, ↓opt_def, List.map_cons, List.map_nil, eq_self, eqPv, Bool.bne_false]
    rw [hcc]
    refine (code_ok (c := c) (by omega)).mono ?_
    rintro v σ4 ⟨rfl, rfl⟩
    try simp only [↓reduceIte, eq_self, beq_self_eq_true]
    refine h2 _ _ ?_
    try clear h2 K_h2
    exact T.ret (Fin.ret rfl ⟨rfl, rfl⟩)
  · have hn2 : σ1.next ≤ σ2.next := by omega
    try simp only [List.getElem?_cons_zero, List.getElem?_cons_succ]
    refine h1 _ _ ?_
    try clear h1 K_h1
    refine T.seq_k (fun K_h1 h1 => ?_)
    refine T.regi hm ?_
    simp only [↓reduceIte, namesOf, List.any, I.names, aopsI, astep, ev, setd, List.set, List.getD, List.getElem?_cons_zero, List.getElem?_cons_succ, then_normal, Option.getD_some, Bool.or_false, Bool.false_eq_true, up_zero, ↓opt_def, List.map_cons, List.map_nil]
    refine (rfiltered_ok (by omega)).mono ?_
    rintro v σ3 (⟨hr0, _⟩ | ⟨_, p', ns', w', rfl, hB', hp0', hp1', hns', ho'⟩)
    · rw [← got_eq] at hr0; exact absurd hc hr0
    have hoc : (openB x).1 = 0 := by
      unfold gotC at hc
      split at hc
      · assumption
      · exact hc
    have his : fIs (openB x).2 = true := by
      unfold gotC at hc
      rw [if_pos hoc] at hc
      cases hh : fIs (openB x).2 with
      | true => rfl
      | false => rw [hh] at hc; simp at hc
    have hxb := open_zero hoc
    generalize (openB x).2 = b at hB hB' his hxb
    obtain ⟨h4, f1, f2, f3, f4, f5, f6⟩ := is_facts his
    obtain ⟨e1, e2, e3, e4⟩ := f_eq h4
    have hok := rows_ok his
    have hrl := rows_len his
    rw [rows_map his, ← e3, ← e2] at hB'
    rw [f3] at hB hB'
    rw [show 8 * (fB b / 8) / 8 = fB b / 8 by omega] at hB hB'
    have hfb := filter_back his
    rw [f3] at hfb
    have hk : 1 ≤ fB b / 8 ∧ fB b / 8 ≤ 512 := by omega
    generalize fB b / 8 = k at hB hB' hok hk hfb
    have hBo : BlOk (8 * k) (fH b) k (fRows b) := ⟨hk, rfl, f4, by omega, by omega⟩
    have hRo : RfOk (8 * k) (fH b) ((fRows b).map (unp (8 * k))) := ⟨by omega, f4.2, by rw [List.length_map]; omega⟩
    have hB2 := hB.mono ho'
    have hq : ∀ n x, σ1.res n = some x → σ3.res n = some x := fun n x hx => ho' _ _ (ho _ _ hx)
    try simp only [List.getElem?_cons_zero, List.getElem?_cons_succ]
    refine h1 _ _ ?_
    try clear h1 K_h1
    refine T.seq_k (fun K_h1 h1 => ?_)
    refine T.seq_k (fun K_h0 h0 => ?_)
    refine T.regi hm ?_
    simp only [↓reduceIte, namesOf, List.any, I.names, aopsI, astep, ev, setd, List.set, List.getD, List.getElem?_cons_zero, List.getElem?_cons_succ, then_normal, Option.getD_some, Bool.or_false, Bool.false_eq_true, up_zero, binv, ↓opt_def, eq_self, bne_self_eq_false]
    refine h0 _ _ ?_
    try clear h0 K_h0
    refine T.cond rfl (fun h => by cases h) (fun _ => T.skip ?_)
    refine h1 _ _ ?_
    try clear h1 K_h1
    refine T.seq_k (fun K_h1 h1 => ?_)
    refine T.seq_k (fun K_h0 h0 => ?_)
    refine T.regi hm ?_
    simp only [↓reduceIte, namesOf, List.any, I.names, aopsI, astep, ev, setd, List.set, List.getD, List.getElem?_cons_zero, List.getElem?_cons_succ, then_normal, Option.getD_some, Bool.or_false, Bool.false_eq_true, up_zero, eq_self, eqPv, eqIv, bne_self_eq_false]
    refine h0 _ _ ?_
    try clear h0 K_h0
    refine T.cond rfl (fun h => by cases h) (fun _ => T.skip ?_)
    refine h1 _ _ ?_
    try clear h1 K_h1
    refine T.seq_k (fun K_h1 h1 => ?_)
    refine T.regt hm (tbl := []) Tbl.ok_nil ?_
    try simp only [↓reduceIte, namesOf, List.any, I.names, aopsT, qstep, qget, Tbl.get, astep, ev, setd, List.set, List.getD, List.getElem?_cons_zero, List.getElem?_cons_succ, then_normal, Option.getD_some, Bool.or_false, Bool.false_eq_true, up_zero, ↓opt_def, List.map_cons, List.map_nil, eq_self, ]
    refine ⟨_, bhas_ok hB2 hBo hid, ?_⟩
    try simp only [↓reduceIte, namesOf, List.any, I.names, aops, aopsI, aopsT, qstep, CPt, qget, Tbl.get, astep, ev, setd, List.set, List.getD, List.getElem?_cons_zero, List.getElem?_cons_succ, List.getElem?_nil, List.cons_append, List.nil_append, List.length_cons, List.length_nil, List.replicate, then_normal, inBlock_normal, Option.getD_some, Option.getD_none, Bool.or_false, Bool.or_true, Bool.true_or, Bool.false_or, Bool.false_eq_true, if_false, if_true, up_zero, Nat.reduceAdd, Nat.reduceSub, binv, ↓opt_def, AV.isAny, AV.cells, ldc, List.map_cons, List.map_nil, St.set_next, St.set_same, St.up_next, Int.natCast_nonneg, lt_len, le_len, Int.toNat_natCast, true_and, and_true, eq_self, reduceCtorEq, decide_true, List.length_singleton, er_int, er_bool, er_str, ]
    refine ⟨_, rbhas_ok hB' hRo hid, ?_⟩
    have e5 := has_map (id := id) (h := fH b) (rows := fRows b) hk.1 (by omega)
    rw [e5]
    try simp only [↓reduceIte, eq_self, beq_self_eq_true, Bool.bne_false]
    refine ⟨_, bbytes_ok hB2 hBo, ?_⟩
    rw [hfb, ← hxb]
    try simp only [eq_self, decide_true, toBytes_bytes, sbinv]
    refine h1 _ _ ?_
    try clear h1 K_h1
    exact T.ret (Fin.quiet rfl trivial hq ⟨rfl, rfl⟩)

set_option maxRecDepth 10000 in
set_option maxHeartbeats 2000000 in
theorem bloomKeeps_ok {s b h : Int} {l m : List Nat} {σ : St} (hl : ∀ n ∈ l, n < 18446744073709551616) (hmb : ∀ n ∈ m, n < 18446744073709551616) (hll : l.length ≤ 9223372036854775807) (hml : m.length ≤ 9223372036854775807) :
    ACalls Try.prog n_bloomKeeps [.int .i64 s, .int .i64 b, .int .i64 h, .sl (nums .u64 (natI l)) .none, .sl (nums .u64 (natI m)) .none] σ (fun v σ' => v = .bool true ∧ σ' = σ) := by
  refine s_bloomKeeps (fun wf => ?_)
  unfold c_bloomKeeps
  refine T.seq_k (fun K_h0 h0 => ?_)
  refine T.regi hm ?_
  simp only [↓reduceIte, namesOf, List.any, I.names, aopsI, astep, ev, setd, List.set, List.cons_append, List.nil_append, List.length_cons, List.length_nil, List.replicate, then_normal, Bool.or_false, Bool.false_eq_true, up_zero, Nat.reduceAdd, Nat.reduceSub]
  refine h0 _ _ ?_
  try clear h0 K_h0
  refine T.seq_k (fun K_h1 h1 => ?_)
  refine T.regi hm ?_
  simp only [↓reduceIte, namesOf, List.any, I.names, aopsI, astep, ev, setd, List.set, List.getD, List.getElem?_cons_zero, List.getElem?_cons_succ, then_normal, Option.getD_some, Bool.or_false, Bool.false_eq_true, up_zero, List.map_nil]
  refine up11_ok.mono ?_
  rintro v σ1 ⟨rfl, rfl⟩
  try simp only [↓reduceIte, namesOf, List.any, I.names, aops, aopsI, aopsT, qstep, CPt, qget, Tbl.get, astep, ev, setd, List.set, List.getD, List.getElem?_cons_zero, List.getElem?_cons_succ, List.getElem?_nil, List.cons_append, List.nil_append, List.length_cons, List.length_nil, List.replicate, then_normal, inBlock_normal, Option.getD_some, Option.getD_none, Bool.or_false, Bool.or_true, Bool.true_or, Bool.false_or, Bool.false_eq_true, if_false, if_true, up_zero, Nat.reduceAdd, Nat.reduceSub, binv, ↓opt_def, AV.isAny, AV.cells, ldc, List.map_cons, List.map_nil, St.set_next, St.set_same, St.up_next, Int.natCast_nonneg, lt_len, le_len, Int.toNat_natCast, true_and, and_true, eq_self, reduceCtorEq, decide_true, List.length_singleton, er_int, er_bool, er_str, up_zero]
  refine h1 _ _ ?_
  try clear h1 K_h1
  cases hf : rightF s b h with
  | false =>
    refine T.seq_k (fun K_h1 h1 => ?_)
    refine T.regi hm ?_
    simp only [↓reduceIte, namesOf, List.any, I.names, aopsI, astep, ev, setd, List.set, List.getD, List.getElem?_cons_zero, List.getElem?_cons_succ, then_normal, Option.getD_some, Bool.or_false, Bool.false_eq_true, up_zero, ↓opt_def, List.map_cons, List.map_nil]
    refine (bnew_bad hf).mono ?_
    rintro v σ2 ⟨rfl, rfl⟩
    try simp only [List.getElem?_cons_zero, List.getElem?_cons_succ]
    refine h1 _ _ ?_
    try clear h1 K_h1
    refine T.seq_k (fun K_h1 h1 => ?_)
    refine T.seq_k (fun K_h0 h0 => ?_)
    refine T.regi hm ?_
    simp only [↓reduceIte, namesOf, List.any, I.names, aopsI, astep, ev, setd, List.set, List.getD, List.getElem?_cons_zero, List.getElem?_cons_succ, then_normal, Option.getD_some, Bool.or_false, Bool.false_eq_true, up_zero, eq_self, reduceCtorEq, eqPv, Bool.bne_false]
    refine h0 _ _ ?_
    try clear h0 K_h0
    refine T.cond rfl (fun _ => ?_) (fun h => by cases h)
    refine T.seq_k (fun K_h0 h0 => ?_)
    refine T.regi hm ?_
    simp only [↓reduceIte, namesOf, List.any, I.names, aopsI, astep, ev, setd, List.set, List.getD, List.getElem?_cons_zero, List.getElem?_cons_succ, then_normal, Option.getD_some, Bool.or_false, Bool.false_eq_true, up_zero, eq_self, eqPv, eqIv, bne_self_eq_false, Bool.bne_false, beq_self_eq_true]
    refine h0 _ _ ?_
    try clear h0 K_h0
    exact T.ret (Fin.ret rfl ⟨rfl, rfl⟩)
  | true =>
  obtain ⟨s, k, h, rfl, rfl, rfl, hs, hk, hh⟩ := right_int hf
  refine T.seq_k (fun K_h1 h1 => ?_)
  refine T.regi hm ?_
  simp only [↓reduceIte, namesOf, List.any, I.names, aopsI, astep, ev, setd, List.set, List.getD, List.getElem?_cons_zero, List.getElem?_cons_succ, then_normal, Option.getD_some, Bool.or_false, Bool.false_eq_true, up_zero, ↓opt_def, List.map_cons, List.map_nil]
  refine (bnew_ok hs hk hh).mono ?_
  rintro v σ2 ⟨p, ns, w, rfl, hB, hp0, hp1, hns, ho⟩
  have hn2 : σ1.next ≤ σ2.next := by omega
  try simp only [List.getElem?_cons_zero, List.getElem?_cons_succ]
  refine h1 _ _ ?_
  try clear h1 K_h1
  refine T.seq_k (fun K_h1 h1 => ?_)
  by_cases c1 : l.length > 200
  · have e1 : decide ((l.length : Int) > 200) = true := decide_eq_true (by omega)
    refine T.seq_k (fun K_h0 h0 => ?_)
    refine T.regi hm ?_
    simp only [↓reduceIte, namesOf, List.any, I.names, aopsI, astep, ev, setd, List.set, List.getD, List.getElem?_cons_zero, List.getElem?_cons_succ, then_normal, Option.getD_some, Bool.or_false, Bool.false_eq_true, up_zero, binv, ↓opt_def, eq_self, reduceCtorEq, eqPv, eqIv, e1, nums_len, natI_len, bne_self_eq_false]
    refine h0 _ _ ?_
    try clear h0 K_h0
    refine T.cond rfl (fun _ => ?_) (fun h => by cases h)
    refine T.seq_k (fun K_h0 h0 => ?_)
    refine T.regi hm ?_
    simp only [↓reduceIte, namesOf, List.any, I.names, aopsI, astep, ev, setd, List.set, List.getD, List.getElem?_cons_zero, List.getElem?_cons_succ, then_normal, Option.getD_some, Bool.or_false, Bool.false_eq_true, up_zero, eq_self, eqPv, eqIv, Bool.bne_false, beq_self_eq_true, Bool.bne_true, Bool.not_false]
    refine h0 _ _ ?_
    try clear h0 K_h0
    exact T.ret (Fin.quiet rfl trivial ho ⟨rfl, rfl⟩)
  have e1 : decide ((l.length : Int) > 200) = false := decide_eq_false (by omega)
  by_cases c2 : m.length > 200
  · have e2 : decide ((m.length : Int) > 200) = true := decide_eq_true (by omega)
    refine T.seq_k (fun K_h0 h0 => ?_)
    refine T.regi hm ?_
    simp only [↓reduceIte, namesOf, List.any, I.names, aopsI, astep, ev, setd, List.set, List.getD, List.getElem?_cons_zero, List.getElem?_cons_succ, then_normal, Option.getD_some, Bool.or_false, Bool.false_eq_true, up_zero, binv, ↓opt_def, eq_self, eqPv, eqIv, e1, e2, nums_len, natI_len, bne_self_eq_false]
    refine h0 _ _ ?_
    try clear h0 K_h0
    refine T.cond rfl (fun _ => ?_) (fun h => by cases h)
    refine T.seq_k (fun K_h0 h0 => ?_)
    refine T.regi hm ?_
    simp only [↓reduceIte, namesOf, List.any, I.names, aopsI, astep, ev, setd, List.set, List.getD, List.getElem?_cons_zero, List.getElem?_cons_succ, then_normal, Option.getD_some, Bool.or_false, Bool.false_eq_true, up_zero, eq_self, eqPv, eqIv, Bool.bne_false, beq_self_eq_true, Bool.bne_true, Bool.not_false]
    refine h0 _ _ ?_
    try clear h0 K_h0
    exact T.ret (Fin.quiet rfl trivial ho ⟨rfl, rfl⟩)
  have e2 : decide ((m.length : Int) > 200) = false := decide_eq_false (by omega)
  refine T.seq_k (fun K_h0 h0 => ?_)
  refine T.regi hm ?_
  simp only [↓reduceIte, namesOf, List.any, I.names, aopsI, astep, ev, setd, List.set, List.getD, List.getElem?_cons_zero, List.getElem?_cons_succ, then_normal, Option.getD_some, Bool.or_false, Bool.false_eq_true, up_zero, binv, ↓opt_def, eq_self, eqPv, eqIv, e1, e2, nums_len, natI_len, bne_self_eq_false]
  refine h0 _ _ ?_
  try clear h0 K_h0
  refine T.cond rfl (fun h => by cases h) (fun _ => T.skip ?_)
  refine h1 _ _ ?_
  try clear h1 K_h1
  generalize hr0 : List.replicate s (List.replicate k (0 : UInt8)) = r0' at hB
  have hok0 : okRows k r0' := by rw [← hr0]; exact okRows_zero _ _
  have hrl0 : r0'.length = s := by rw [← hr0]; simp
  clear hr0
  have hrows : ∀ i, okRows k (addAll k h (l.take i) r0') ∧ 1 ≤ (addAll k h (l.take i) r0').length ∧ (addAll k h (l.take i) r0').length ≤ 16 := fun i => ⟨addAll_ok hok0 (by omega), by rw [addAll_len]; omega, by rw [addAll_len]; omega⟩
  refine T.seq_k (fun K_h1 h1 => ?_)
  refine T.seq_k (fun K_h0 h0 => ?_)
  refine T.regi hm ?_
  simp only [↓reduceIte, namesOf, List.any, I.names, aopsI, astep, ev, setd, List.set, then_normal, Bool.or_false, Bool.false_eq_true, up_zero]
  refine h0 _ _ ?_
  try clear h0 K_h0
  refine T.block ?_
  refine T.gh (Gh.keep [3, 4, 11, 12, 14]) ?_
  refine T.loopi (fun i ρ t => Bl t p ns w (8 * k) h k (addAll k h (l.take i) r0') ∧ (∀ n x, σ1.res n = some x → t.res n = some x) ∧ t.next = σ2.next ∧
      ρ = [.any, .any, .any, .sl (nums .u64 (natI l)) .none, .sl (nums .u64 (natI m)) .none, .any, .any, .any, .any, .any, .any, .bool true, .ptr p 0, .any, .int .i64 (i : Int)] ++ List.replicate 95 .any)
    l.length 0 (Nat.zero_le _) ⟨hB, ho, rfl, rfl⟩ ?_
  clear hB ho
  rintro i ρ t hi ⟨hB, hq, hn, rfl⟩
  obtain ⟨ok1, ok2, ok3⟩ := hrows i
  have hBo : BlOk (8 * k) h k (addAll k h (l.take i) r0') := ⟨hk, rfl, hh, ok2, ok3⟩
  refine T.seq_k (fun K_h2 h2 => ?_)
  refine T.seq_k (fun K_h0 h0 => ?_)
  refine T.regi hm ?_
  simp only [↓reduceIte, namesOf, List.any, I.names, aopsI, astep, ev, setd, List.set, List.getD, List.getElem?_cons_zero, List.getElem?_cons_succ, List.cons_append, List.nil_append, List.replicate, then_normal, Option.getD_some, Bool.or_false, Bool.false_eq_true, up_zero, binv, ↓opt_def, lt_len, eq_self, nums_len, natI_len]
  refine h0 _ _ ?_
  try clear h0 K_h0
  by_cases hil : i < l.length
  case pos =>
    refine T.cond (b := true) (by simp [ev]; omega) (fun _ => T.skip ?_) (fun h => by cases h)
    refine h2 _ _ ?_
    try clear h2 K_h2
    have hiw := inc64' hil (by omega)
    have hilI : (i : Int) < (l.length : Int) := by omega
    have hg := natI_get hil
    have hlb := hl _ (List.getElem_mem hil)
    have htk := addAll_take k h hil r0'
    generalize l[i] = x at hg hlb htk
    refine T.seq_k (fun K_h2 h2 => ?_)
    refine T.block ?_
    refine T.regi hm ?_
    simp only [↓reduceIte, namesOf, List.any, I.names, aopsI, astep, ev, setd, List.set, List.getD, List.getElem?_cons_zero, List.getElem?_cons_succ, List.cons_append, List.nil_append, List.length_cons, List.length_nil, List.replicate, then_normal, inBlock_normal, Option.getD_some, Bool.or_false, Bool.false_eq_true, up_zero, Nat.reduceAdd, ↓opt_def, AV.cells, ldc, List.map_cons, List.map_nil, Int.natCast_nonneg, Int.toNat_natCast, and_true, eq_self, nums_len, natI_len, hg, hilI]
    refine (badd_ok hB hBo hlb).mono ?_
    rintro v t2 ⟨rfl, hB2, hn2', ho2⟩
    rw [← htk] at hB2
    try simp only [↓reduceIte, namesOf, List.any, I.names, aops, aopsI, aopsT, qstep, CPt, qget, Tbl.get, astep, ev, setd, List.set, List.getD, List.getElem?_cons_zero, List.getElem?_cons_succ, List.getElem?_nil, List.cons_append, List.nil_append, List.length_cons, List.length_nil, List.replicate, then_normal, inBlock_normal, Option.getD_some, Option.getD_none, Bool.or_false, Bool.or_true, Bool.true_or, Bool.false_or, Bool.false_eq_true, if_false, if_true, up_zero, Nat.reduceAdd, Nat.reduceSub, binv, ↓opt_def, AV.isAny, AV.cells, ldc, List.map_cons, List.map_nil, St.set_next, St.set_same, St.up_next, Int.natCast_nonneg, lt_len, le_len, Int.toNat_natCast, true_and, and_true, eq_self, reduceCtorEq, decide_true, List.length_singleton, er_int, er_bool, er_str, up_zero]
    refine h2 _ _ ?_
    try clear h2 K_h2
    refine T.regi hm ?_
    simp only [↓reduceIte, namesOf, List.any, I.names, aopsI, astep, ev, setd, List.set, List.getD, List.getElem?_cons_zero, List.getElem?_cons_succ, List.cons_append, List.nil_append, List.replicate, then_normal, Option.getD_some, Bool.or_false, Bool.false_eq_true, up_zero, binv, ↓opt_def, eq_self, hiw]
    refine ⟨hil, _, _, Gh.keep [3, 4, 11, 12, 14], hB2, fun n x hx => ?_, by omega, rfl⟩
    have hlt := wf.lt hx
    rw [ho2 n (fun hm => by have := hns n hm; omega)]
    exact hq n x hx
  refine T.cond (b := false) (by simp [ev]; omega) (fun h => by cases h) (fun _ => T.exit ?_)
  try simp only [List.cons_append, List.nil_append, List.replicate, then_normal, inBlock_exit, then_exit]
  refine h1 _ _ ?_
  try clear h1 K_h1
  have hi' : i = l.length := by omega
  subst hi'
  rw [List.take_length] at hB hBo ok1 ok2 ok3
  have hself : ∀ x ∈ l, hasF x (8 * k) h (addAll k h l r0') = true := fun x hx => addAll_has hk.1 hok0 (by omega) hx
  generalize addAll k h l r0' = r1 at hB hBo ok1 ok2 ok3 hself
  clear hrows hok0 hrl0
  clear hi
  have hB0 := hB
  have hq0 := hq
  obtain ⟨gp1, gp2⟩ := got_put (h := h) hk hh ⟨ok2, ok3⟩ ok1
  obtain ⟨hf1, hf2, hf3, hf4⟩ := head_f (h := h) hk hh ⟨ok2, ok3⟩ ok1
  have hfl := flat_len_le ok1
  have hfb : r1.flatten.length ≤ 16 * 512 := by rw [hfl]; exact Nat.mul_le_mul ok3 hk.2
  have hfbl : (filterB (8 * k) h r1).length ≤ 1000000 := by
    unfold filterB; rw [sealB_len, List.length_append]
    have : (headB r1.length (8 * k) h).length = 4 := rfl
    omega
  refine T.seq_k (fun K_h1 h1 => ?_)
  refine T.regi hm ?_
  simp only [↓reduceIte, namesOf, List.any, I.names, aopsI, astep, ev, setd, List.set, List.getD, List.getElem?_cons_zero, List.getElem?_cons_succ, then_normal, Option.getD_some, Bool.or_false, Bool.false_eq_true, up_zero, ↓opt_def, List.map_cons, List.map_nil]
  refine (bbytes_ok hB hBo).mono ?_
  rintro v t1 ⟨rfl, rfl⟩
  try simp only [↓reduceIte, namesOf, List.any, I.names, aops, aopsI, aopsT, qstep, CPt, qget, Tbl.get, astep, ev, setd, List.set, List.getD, List.getElem?_cons_zero, List.getElem?_cons_succ, List.getElem?_nil, List.cons_append, List.nil_append, List.length_cons, List.length_nil, List.replicate, then_normal, inBlock_normal, Option.getD_some, Option.getD_none, Bool.or_false, Bool.or_true, Bool.true_or, Bool.false_or, Bool.false_eq_true, if_false, if_true, up_zero, Nat.reduceAdd, Nat.reduceSub, binv, ↓opt_def, AV.isAny, AV.cells, ldc, List.map_cons, List.map_nil, St.set_next, St.set_same, St.up_next, Int.natCast_nonneg, lt_len, le_len, Int.toNat_natCast, true_and, and_true, eq_self, reduceCtorEq, decide_true, List.length_singleton, er_int, er_bool, er_str, up_zero]
  refine (bget_ok hfbl).mono ?_
  rintro v t2 (⟨hc, _⟩ | ⟨_, p', ns', w', rfl, hB', hp0', hp1', hns', ho'⟩)
  · exact absurd gp1 hc
  rw [gp2, hf2, hf3, hf4, Nat.mul_div_cancel_left _ (by decide)] at hB'
  have hBt := hB.mono ho'
  have hqt : ∀ n x, σ1.res n = some x → t2.res n = some x := fun n x hx => ho' _ _ (hq _ _ hx)
  clear hB hB0 hq hq0 ho'
  have hdis' : ∀ n, n = p ∨ n ∈ ns → n ∉ ns' := by
    rintro n hn hm
    have h2 := hns' n hm
    rcases hn with rfl | hn
    · omega
    · have := hns n hn; omega
  have hrows : ∀ i, okRows k (addAll k h (m.take i) r1) ∧ 1 ≤ (addAll k h (m.take i) r1).length ∧ (addAll k h (m.take i) r1).length ≤ 16 := fun i => ⟨addAll_ok ok1 ok2, by rw [addAll_len]; omega, by rw [addAll_len]; omega⟩
  try simp only [List.getElem?_cons_zero, List.getElem?_cons_succ]
  refine h1 _ _ ?_
  try clear h1 K_h1
  refine T.seq_k (fun K_h1 h1 => ?_)
  refine T.seq_k (fun K_h0 h0 => ?_)
  refine T.regi hm ?_
  simp only [↓reduceIte, namesOf, List.any, I.names, aopsI, astep, ev, setd, List.set, List.getD, List.getElem?_cons_zero, List.getElem?_cons_succ, then_normal, Option.getD_some, Bool.or_false, Bool.false_eq_true, up_zero, eq_self, eqPv, eqIv, bne_self_eq_false]
  refine h0 _ _ ?_
  try clear h0 K_h0
  refine T.cond rfl (fun h => by cases h) (fun _ => T.skip ?_)
  refine h1 _ _ ?_
  try clear h1 K_h1
  refine T.seq_k (fun K_h1 h1 => ?_)
  refine T.seq_k (fun K_h0 h0 => ?_)
  refine T.regi hm ?_
  simp only [↓reduceIte, namesOf, List.any, I.names, aopsI, astep, ev, setd, List.set, then_normal, Bool.or_false, Bool.false_eq_true, up_zero]
  refine h0 _ _ ?_
  try clear h0 K_h0
  refine T.block ?_
  refine T.gh (Gh.keep [3, 4, 11, 12, 15, 17]) ?_
  refine T.loopi (fun i ρ t => Bl t p ns w (8 * k) h k r1 ∧ Bl t p' ns' w' (8 * k) h k (addAll k h (m.take i) r1) ∧ (∀ n x, σ1.res n = some x → t.res n = some x) ∧ t.next = t2.next ∧
      ρ = [.any, .any, .any, .sl (nums .u64 (natI l)) .none, .sl (nums .u64 (natI m)) .none, .any, .any, .any, .any, .any, .any, .bool true, .ptr p 0, .any, .any, .ptr p' 0, .any, .int .i64 (i : Int)] ++ List.replicate 92 .any)
    m.length 0 (Nat.zero_le _) ⟨hBt, hB', hqt, rfl, rfl⟩ ?_
  clear hBt hB' hqt
  rintro i ρ t hi ⟨hB, hB', hq, hnt, rfl⟩
  obtain ⟨pk1, pk2, pk3⟩ := hrows i
  have hBo' : BlOk (8 * k) h k (addAll k h (m.take i) r1) := ⟨hk, rfl, hh, pk2, pk3⟩
  refine T.seq_k (fun K_h2 h2 => ?_)
  refine T.seq_k (fun K_h0 h0 => ?_)
  refine T.regi hm ?_
  simp only [↓reduceIte, namesOf, List.any, I.names, aopsI, astep, ev, setd, List.set, List.getD, List.getElem?_cons_zero, List.getElem?_cons_succ, List.cons_append, List.nil_append, List.replicate, then_normal, Option.getD_some, Bool.or_false, Bool.false_eq_true, up_zero, binv, ↓opt_def, lt_len, eq_self, nums_len, natI_len]
  refine h0 _ _ ?_
  try clear h0 K_h0
  by_cases hil : i < m.length
  case pos =>
    refine T.cond (b := true) (by simp [ev]; omega) (fun _ => T.skip ?_) (fun h => by cases h)
    refine h2 _ _ ?_
    try clear h2 K_h2
    have hiw := inc64' hil (by omega)
    have hilI : (i : Int) < (m.length : Int) := by omega
    have hg := natI_get hil
    have hlb := hmb _ (List.getElem_mem hil)
    have htk := addAll_take k h hil r1
    generalize m[i] = x at hg hlb htk
    refine T.seq_k (fun K_h2 h2 => ?_)
    refine T.block ?_
    refine T.regi hm ?_
    simp only [↓reduceIte, namesOf, List.any, I.names, aopsI, astep, ev, setd, List.set, List.getD, List.getElem?_cons_zero, List.getElem?_cons_succ, List.cons_append, List.nil_append, List.length_cons, List.length_nil, List.replicate, then_normal, inBlock_normal, Option.getD_some, Bool.or_false, Bool.false_eq_true, up_zero, Nat.reduceAdd, ↓opt_def, AV.cells, ldc, List.map_cons, List.map_nil, Int.natCast_nonneg, Int.toNat_natCast, and_true, eq_self, nums_len, natI_len, hg, hilI]
    refine (badd_ok hB' hBo' hlb).mono ?_
    rintro v u ⟨rfl, hB2, hn2', ho2⟩
    rw [← htk] at hB2
    have hBu := hB.keep (fun n hn => ho2 n (hdis' n hn))
    try simp only [↓reduceIte, namesOf, List.any, I.names, aops, aopsI, aopsT, qstep, CPt, qget, Tbl.get, astep, ev, setd, List.set, List.getD, List.getElem?_cons_zero, List.getElem?_cons_succ, List.getElem?_nil, List.cons_append, List.nil_append, List.length_cons, List.length_nil, List.replicate, then_normal, inBlock_normal, Option.getD_some, Option.getD_none, Bool.or_false, Bool.or_true, Bool.true_or, Bool.false_or, Bool.false_eq_true, if_false, if_true, up_zero, Nat.reduceAdd, Nat.reduceSub, binv, ↓opt_def, AV.isAny, AV.cells, ldc, List.map_cons, List.map_nil, St.set_next, St.set_same, St.up_next, Int.natCast_nonneg, lt_len, le_len, Int.toNat_natCast, true_and, and_true, eq_self, reduceCtorEq, decide_true, List.length_singleton, er_int, er_bool, er_str, up_zero]
    refine h2 _ _ ?_
    try clear h2 K_h2
    refine T.regi hm ?_
    simp only [↓reduceIte, namesOf, List.any, I.names, aopsI, astep, ev, setd, List.set, List.getD, List.getElem?_cons_zero, List.getElem?_cons_succ, List.cons_append, List.nil_append, List.replicate, then_normal, Option.getD_some, Bool.or_false, Bool.false_eq_true, up_zero, binv, ↓opt_def, eq_self, hiw]
    refine ⟨hil, _, _, Gh.keep [3, 4, 11, 12, 15, 17], hBu, hB2, fun n x hx => ?_, by omega, rfl⟩
    have hlt := wf.lt hx
    rw [ho2 n (fun hm => by have := hns' n hm; omega)]
    exact hq n x hx
  refine T.cond (b := false) (by simp [ev]; omega) (fun h => by cases h) (fun _ => T.exit ?_)
  try simp only [List.cons_append, List.nil_append, List.replicate, then_normal, inBlock_exit, then_exit]
  refine h1 _ _ ?_
  try clear h1 K_h1
  have hself' : ∀ x ∈ l, hasF x (8 * k) h (addAll k h (m.take i) r1) = true := fun x hx => addAll_mono hk.1 ok1 ok2 (hself x hx)
  generalize addAll k h (m.take i) r1 = r2 at hB' hBo' hself'
  refine T.seq_k (fun K_h1 h1 => ?_)
  refine T.seq_k (fun K_h0 h0 => ?_)
  refine T.regi hm ?_
  simp only [↓reduceIte, namesOf, List.any, I.names, aopsI, astep, ev, setd, List.set, then_normal, Bool.or_false, Bool.false_eq_true, up_zero]
  refine h0 _ _ ?_
  try clear h0 K_h0
  refine T.block ?_
  refine T.gh (Gh.keep [3, 11, 12, 15, 18]) ?_
  refine T.loopi (fun i ρ u => u = t ∧
      ρ = [.any, .any, .any, .sl (nums .u64 (natI l)) .none, .any, .any, .any, .any, .any, .any, .any, .bool true, .ptr p 0, .any, .any, .ptr p' 0, .any, .any, .int .i64 (i : Int)] ++ List.replicate 91 .any)
    l.length 0 (Nat.zero_le _) ⟨rfl, rfl⟩ ?_
  rintro i ρ u hi ⟨rfl, rfl⟩
  refine T.seq_k (fun K_h2 h2 => ?_)
  refine T.seq_k (fun K_h0 h0 => ?_)
  refine T.regi hm ?_
  simp only [↓reduceIte, namesOf, List.any, I.names, aopsI, astep, ev, setd, List.set, List.getD, List.getElem?_cons_zero, List.getElem?_cons_succ, List.cons_append, List.nil_append, List.replicate, then_normal, Option.getD_some, Bool.or_false, Bool.false_eq_true, up_zero, binv, ↓opt_def, lt_len, eq_self, nums_len, natI_len]
  refine h0 _ _ ?_
  try clear h0 K_h0
  by_cases hil : i < l.length
  case neg =>
    refine T.cond (b := false) (by simp [ev]; omega) (fun h => by cases h) (fun _ => T.exit ?_)
    try simp only [List.cons_append, List.nil_append, List.replicate, then_normal, inBlock_exit, then_exit]
    refine h1 _ _ ?_
    try clear h1 K_h1
    refine T.seq_k (fun K_h0 h0 => ?_)
    refine T.regi hm ?_
    simp only [↓reduceIte, namesOf, List.any, I.names, aopsI, astep, ev, setd, List.set, List.getD, List.getElem?_cons_zero, List.getElem?_cons_succ, then_normal, Option.getD_some, Bool.or_false, Bool.false_eq_true, up_zero]
    refine h0 _ _ ?_
    try clear h0 K_h0
    exact T.ret (Fin.quiet rfl trivial hq ⟨rfl, rfl⟩)
  refine T.cond (b := true) (by simp [ev]; omega) (fun _ => T.skip ?_) (fun h => by cases h)
  refine h2 _ _ ?_
  try clear h2 K_h2
  have hiw := inc64' hil (by omega)
  have hilI : (i : Int) < (l.length : Int) := by omega
  have hg := natI_get hil
  have hlb := hl _ (List.getElem_mem hil)
  have hs1 := hself _ (List.getElem_mem hil)
  have hs2 := hself' _ (List.getElem_mem hil)
  generalize l[i] = x at hg hlb hs1 hs2
  refine T.seq_k (fun K_h2 h2 => ?_)
  refine T.block ?_
  refine T.seq_k (fun K_h3 h3 => ?_)
  refine T.regi hm ?_
  simp only [↓reduceIte, namesOf, List.any, I.names, aopsI, astep, ev, setd, List.set, List.getD, List.getElem?_cons_zero, List.getElem?_cons_succ, List.cons_append, List.nil_append, List.length_cons, List.length_nil, List.replicate, then_normal, Option.getD_some, Bool.or_false, Bool.false_eq_true, up_zero, Nat.reduceAdd, ↓opt_def, AV.cells, ldc, List.map_cons, List.map_nil, Int.natCast_nonneg, Int.toNat_natCast, and_true, eq_self, nums_len, natI_len, hg, hilI]
  refine (bhas_ok hB hBo hlb).mono ?_
  rintro v u2 ⟨rfl, rfl⟩
  rw [hs1]
  try simp only [↓reduceIte, Bool.false_eq_true, eq_self, Bool.not_true]
  refine (bhas_ok hB' hBo' hlb).mono ?_
  rintro v u2 ⟨rfl, rfl⟩
  rw [hs2]
  try simp only [Bool.not_true]
  refine h3 _ _ ?_
  try clear h3 K_h3
  refine T.cond rfl (fun h => by cases h) (fun _ => T.skip ?_)
  refine h2 _ _ ?_
  try clear h2 K_h2
  refine T.regi hm ?_
  simp only [↓reduceIte, namesOf, List.any, I.names, aopsI, astep, ev, setd, List.set, List.getD, List.getElem?_cons_zero, List.getElem?_cons_succ, List.cons_append, List.nil_append, List.replicate, then_normal, Option.getD_some, Bool.or_false, Bool.false_eq_true, up_zero, binv, ↓opt_def, eq_self, hiw]
  exact ⟨hil, _, _, Gh.keep [3, 11, 12, 15, 18], rfl, rfl⟩
end Go.VL
