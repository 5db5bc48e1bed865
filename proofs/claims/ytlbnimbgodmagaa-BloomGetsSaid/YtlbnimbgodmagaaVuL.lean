/- The laws BloomTells, BloomGets and BloomKeeps, walked. -/
import Derived.Test.YtlbnimbgodmagaaGbl
namespace Go.VL
open Go.Proofs

theorem Bl.keep {σ σ' : St} {p : Nat} {ns : List Nat} {v : Ver} {bits hashes k : Nat} {rows : List (List UInt8)} (h : Bl σ p ns v bits hashes k rows) (ho : ∀ n, n = p ∨ n ∈ ns → σ'.res n = σ.res n) : Bl σ' p ns v bits hashes k rows :=
  ⟨by rw [ho p (.inl rfl)]; exact h.obj, h.len, h.nd, fun i n b h1 h2 => by rw [ho n (.inr (List.mem_of_getElem? h1))]; exact h.row i n b h1 h2⟩
theorem Rf.keep {σ σ' : St} {p : Nat} {ns : List Nat} {v : Ver} {bits hashes : Nat} {rows : List (List Bool)} (h : Rf σ p ns v bits hashes rows) (ho : ∀ n, n = p ∨ n ∈ ns → σ'.res n = σ.res n) : Rf σ' p ns v bits hashes rows :=
  ⟨by rw [ho p (.inl rfl)]; exact h.obj, h.len, h.nd, fun i n b h1 h2 => by rw [ho n (.inr (List.mem_of_getElem? h1))]; exact h.row i n b h1 h2⟩

theorem right_int {s b h : Int} (hf : rightF s b h = true) : ∃ (s' k h' : Nat), s = s' ∧ b = (8 * k : Nat) ∧ h = h' ∧ (1 ≤ s' ∧ s' ≤ 16) ∧ (1 ≤ k ∧ k ≤ 512) ∧ (1 ≤ h' ∧ h' ≤ 8) := by
  have hb : 0 ≤ b := by
    unfold rightF at hf
    simp only [Bool.and_eq_true, decide_eq_true_eq] at hf
    omega
  have hs : 0 ≤ s := by
    unfold rightF at hf
    simp only [Bool.and_eq_true, decide_eq_true_eq] at hf
    omega
  have hh : 0 ≤ h := by
    unfold rightF at hf
    simp only [Bool.and_eq_true, decide_eq_true_eq] at hf
    omega
  obtain ⟨s', rfl⟩ := Int.eq_ofNat_of_zero_le hs
  obtain ⟨b', rfl⟩ := Int.eq_ofNat_of_zero_le hb
  obtain ⟨h', rfl⟩ := Int.eq_ofNat_of_zero_le hh
  obtain ⟨f1, f2, f3, f4⟩ := right_nat hf
  exact ⟨s', b' / 8, h', rfl, by rw [← f3], rfl, f1, by omega, f4⟩

theorem okRows_zero (s k : Nat) : okRows k (List.replicate s (List.replicate k 0)) := by
  intro r hr
  rw [List.eq_of_mem_replicate hr]; simp
theorem unp_rows_zero (s k : Nat) : (List.replicate s (List.replicate k (0 : UInt8))).map (unp (8 * k)) = List.replicate s (List.replicate (8 * k) false) := by
  rw [List.map_replicate, unp_zero]
theorem addAll_take (k h : Nat) {l : List Nat} {i : Nat} (hi : i < l.length) (rows : List (List UInt8)) : addAll k h (l.take (i + 1)) rows = addF l[i] (8 * k) h (addAll k h (l.take i) rows) := by
  rw [List.take_succ_eq_append_getElem hi, addAll_snoc]

set_option maxRecDepth 10000 in
set_option maxHeartbeats 2000000 in
theorem bloomTells_ok {s b h : Int} {l : List Nat} {id : Nat} {σ : St} (hl : ∀ n ∈ l, n < 18446744073709551616) (hid : id < 18446744073709551616) (hll : l.length ≤ 9223372036854775807) :
    ACalls Try.prog n_bloomTells [.int .i64 s, .int .i64 b, .int .i64 h, .sl (nums .u64 (natI l)) .none, .int .u64 id] σ (fun v σ' => v = .bool true ∧ σ' = σ) := by
  refine s_bloomTells (fun wf => ?_)
  unfold c_bloomTells
  refine T.seq_k (fun K_h0 h0 => ?_)
  refine T.regi hm ?_
  simp only [↓reduceIte, namesOf, List.any, I.names, aopsI, astep, ev, setd, List.set, List.cons_append, List.nil_append, List.length_cons, List.length_nil, List.replicate, then_normal, Bool.or_false, Bool.false_eq_true, up_zero, Nat.reduceAdd, Nat.reduceSub]
  refine h0 _ _ ?_
  try clear h0 K_h0
  refine T.seq_k (fun K_h1 h1 => ?_)
  refine T.regi hm ?_
  simp only [↓reduceIte, namesOf, List.any, I.names, aopsI, astep, ev, setd, List.set, List.getD, List.getElem?_cons_zero, List.getElem?_cons_succ, then_normal, Option.getD_some, Bool.or_false, Bool.false_eq_true, up_zero, List.map_nil]
  refine up11_ok.mono ?_
  rintro v σ1 ⟨rfl, rfl⟩
  try simp only [↓reduceIte, namesOf, List.any, I.names, aops, aopsI, aopsT, qstep, CPt, qget, Tbl.get, astep, ev, setd, List.set, List.getD, List.getElem?_cons_zero, List.getElem?_cons_succ, List.getElem?_nil, List.cons_append, List.nil_append, List.length_cons, List.length_nil, List.replicate, then_normal, inBlock_normal, Option.getD_some, Option.getD_none, Bool.or_false, Bool.or_true, Bool.true_or, Bool.false_or, Bool.false_eq_true, if_false, if_true, up_zero, Nat.reduceAdd, Nat.reduceSub, binv, ↓opt_def, AV.isAny, AV.cells, ldc, List.map_cons, List.map_nil, St.set_next, St.set_same, St.up_next, Int.natCast_nonneg, lt_len, le_len, Int.toNat_natCast, true_and, and_true, eq_self, reduceCtorEq, decide_true, List.length_singleton, er_int, er_bool, er_str, up_zero]
  refine h1 _ _ ?_
  try clear h1 K_h1
  cases hf : rightF s b h with
  | false =>
    refine T.seq_k (fun K_h1 h1 => ?_)
    refine T.regi hm ?_
    simp only [↓reduceIte, namesOf, List.any, I.names, aopsI, astep, ev, setd, List.set, List.getD, List.getElem?_cons_zero, List.getElem?_cons_succ, then_normal, Option.getD_some, Bool.or_false, Bool.false_eq_true, up_zero, ↓opt_def, List.map_cons, List.map_nil]
    refine (bnew_bad hf).mono ?_
    rintro v σ2 ⟨rfl, rfl⟩
    try simp only [List.getElem?_cons_zero, List.getElem?_cons_succ]
    refine h1 _ _ ?_
    try clear h1 K_h1
    refine T.seq_k (fun K_h1 h1 => ?_)
    refine T.regi hm ?_
    simp only [↓reduceIte, namesOf, List.any, I.names, aopsI, astep, ev, setd, List.set, List.getD, List.getElem?_cons_zero, List.getElem?_cons_succ, then_normal, Option.getD_some, Bool.or_false, Bool.false_eq_true, up_zero, List.map_cons, List.map_nil]
    refine rbright_ok.mono ?_
    rintro v σ2 ⟨rfl, rfl⟩
    rw [hf]
    try simp only [↓reduceIte, namesOf, List.any, I.names, aops, aopsI, aopsT, qstep, CPt, qget, Tbl.get, astep, ev, setd, List.set, List.getD, List.getElem?_cons_zero, List.getElem?_cons_succ, List.getElem?_nil, List.cons_append, List.nil_append, List.length_cons, List.length_nil, List.replicate, then_normal, inBlock_normal, Option.getD_some, Option.getD_none, Bool.or_false, Bool.or_true, Bool.true_or, Bool.false_or, Bool.false_eq_true, if_false, if_true, up_zero, Nat.reduceAdd, Nat.reduceSub, binv, ↓opt_def, AV.isAny, AV.cells, ldc, List.map_cons, List.map_nil, St.set_next, St.set_same, St.up_next, Int.natCast_nonneg, lt_len, le_len, Int.toNat_natCast, true_and, and_true, eq_self, reduceCtorEq, decide_true, List.length_singleton, er_int, er_bool, er_str, up_zero]
    refine h1 _ _ ?_
    try clear h1 K_h1
    refine T.seq_k (fun K_h1 h1 => ?_)
    refine T.seq_k (fun K_h0 h0 => ?_)
    refine T.regi hm ?_
    simp only [↓reduceIte, namesOf, List.any, I.names, aopsI, astep, ev, setd, List.set, List.getD, List.getElem?_cons_zero, List.getElem?_cons_succ, then_normal, Option.getD_some, Bool.or_false, Bool.false_eq_true, up_zero, Bool.not_false]
    refine h0 _ _ ?_
    try clear h0 K_h0
    refine T.cond rfl (fun _ => ?_) (fun h => by cases h)
    refine T.seq_k (fun K_h0 h0 => ?_)
    refine T.regi hm ?_
    simp only [↓reduceIte, namesOf, List.any, I.names, aopsI, astep, ev, setd, List.set, List.getD, List.getElem?_cons_zero, List.getElem?_cons_succ, then_normal, Option.getD_some, Bool.or_false, Bool.false_eq_true, up_zero, eq_self, decide_true, eqPv, eqIv, beq_self_eq_true, Bool.and_self, Bool.bne_false]
    refine h0 _ _ ?_
    try clear h0 K_h0
    exact T.ret (Fin.ret rfl ⟨rfl, rfl⟩)
  | true =>
  obtain ⟨s, k, h, rfl, rfl, rfl, hs, hk, hh⟩ := right_int hf
  refine T.seq_k (fun K_h1 h1 => ?_)
  refine T.regi hm ?_
  simp only [↓reduceIte, namesOf, List.any, I.names, aopsI, astep, ev, setd, List.set, List.getD, List.getElem?_cons_zero, List.getElem?_cons_succ, then_normal, Option.getD_some, Bool.or_false, Bool.false_eq_true, up_zero, ↓opt_def, List.map_cons, List.map_nil]
  refine (bnew_ok hs hk hh).mono ?_
  rintro v σ2 ⟨p, ns, w, rfl, hB, hp0, hp1, hns, ho⟩
  have hn2 : σ1.next ≤ σ2.next := by omega
  try simp only [List.getElem?_cons_zero, List.getElem?_cons_succ]
  refine h1 _ _ ?_
  try clear h1 K_h1
  refine T.seq_k (fun K_h1 h1 => ?_)
  refine T.regi hm ?_
  simp only [↓reduceIte, namesOf, List.any, I.names, aopsI, astep, ev, setd, List.set, List.getD, List.getElem?_cons_zero, List.getElem?_cons_succ, then_normal, Option.getD_some, Bool.or_false, Bool.false_eq_true, up_zero, List.map_cons, List.map_nil]
  refine rbright_ok.mono ?_
  rintro v σ3 ⟨rfl, rfl⟩
  rw [hf]
  try simp only [↓reduceIte, namesOf, List.any, I.names, aops, aopsI, aopsT, qstep, CPt, qget, Tbl.get, astep, ev, setd, List.set, List.getD, List.getElem?_cons_zero, List.getElem?_cons_succ, List.getElem?_nil, List.cons_append, List.nil_append, List.length_cons, List.length_nil, List.replicate, then_normal, inBlock_normal, Option.getD_some, Option.getD_none, Bool.or_false, Bool.or_true, Bool.true_or, Bool.false_or, Bool.false_eq_true, if_false, if_true, up_zero, Nat.reduceAdd, Nat.reduceSub, binv, ↓opt_def, AV.isAny, AV.cells, ldc, List.map_cons, List.map_nil, St.set_next, St.set_same, St.up_next, Int.natCast_nonneg, lt_len, le_len, Int.toNat_natCast, true_and, and_true, eq_self, reduceCtorEq, decide_true, List.length_singleton, er_int, er_bool, er_str, up_zero]
  refine h1 _ _ ?_
  try clear h1 K_h1
  refine T.seq_k (fun K_h1 h1 => ?_)
  refine T.seq_k (fun K_h0 h0 => ?_)
  refine T.regi hm ?_
  simp only [↓reduceIte, namesOf, List.any, I.names, aopsI, astep, ev, setd, List.set, List.getD, List.getElem?_cons_zero, List.getElem?_cons_succ, then_normal, Option.getD_some, Bool.or_false, Bool.false_eq_true, up_zero, Bool.not_true]
  refine h0 _ _ ?_
  try clear h0 K_h0
  refine T.cond rfl (fun h => by cases h) (fun _ => T.skip ?_)
  refine h1 _ _ ?_
  try clear h1 K_h1
  refine T.seq_k (fun K_h1 h1 => ?_)
  by_cases c1 : l.length > 200
  · have e1 : decide ((l.length : Int) > 200) = true := decide_eq_true (by omega)
    refine T.seq_k (fun K_h0 h0 => ?_)
    refine T.regi hm ?_
    simp only [↓reduceIte, namesOf, List.any, I.names, aopsI, astep, ev, setd, List.set, List.getD, List.getElem?_cons_zero, List.getElem?_cons_succ, then_normal, Option.getD_some, Bool.or_false, Bool.false_eq_true, up_zero, binv, ↓opt_def, eq_self, eqPv, eqIv, e1, nums_len, natI_len, bne_self_eq_false]
    refine h0 _ _ ?_
    try clear h0 K_h0
    refine T.cond rfl (fun _ => ?_) (fun h => by cases h)
    refine T.seq_k (fun K_h0 h0 => ?_)
    refine T.regi hm ?_
    simp only [↓reduceIte, namesOf, List.any, I.names, aopsI, astep, ev, setd, List.set, List.getD, List.getElem?_cons_zero, List.getElem?_cons_succ, then_normal, Option.getD_some, Bool.or_false, Bool.false_eq_true, up_zero, eq_self, eqPv, eqIv, Bool.bne_true, Bool.bne_false, Bool.not_false]
    refine h0 _ _ ?_
    try clear h0 K_h0
    exact T.ret (Fin.quiet rfl trivial ho ⟨rfl, rfl⟩)
  have e1 : decide ((l.length : Int) > 200) = false := decide_eq_false (by omega)
  refine T.seq_k (fun K_h0 h0 => ?_)
  refine T.regi hm ?_
  simp only [↓reduceIte, namesOf, List.any, I.names, aopsI, astep, ev, setd, List.set, List.getD, List.getElem?_cons_zero, List.getElem?_cons_succ, then_normal, Option.getD_some, Bool.or_false, Bool.false_eq_true, up_zero, binv, ↓opt_def, eq_self, eqPv, eqIv, e1, nums_len, natI_len, bne_self_eq_false]
  refine h0 _ _ ?_
  try clear h0 K_h0
  refine T.cond rfl (fun h => by cases h) (fun _ => T.skip ?_)
  refine h1 _ _ ?_
  try clear h1 K_h1
  refine T.seq_k (fun K_h1 h1 => ?_)
  refine T.regi hm ?_
  simp only [↓reduceIte, namesOf, List.any, I.names, aopsI, astep, ev, setd, List.set, List.getD, List.getElem?_cons_zero, List.getElem?_cons_succ, then_normal, Option.getD_some, Bool.or_false, Bool.false_eq_true, up_zero, List.map_cons, List.map_nil]
  refine (rbnew_ok hs ⟨by omega, by omega⟩).mono ?_
  rintro v σ4 ⟨p', ns', w', rfl, hB', hp0', hp1', hns', ho'⟩
  rw [← unp_rows_zero] at hB'
  have hB2 := hB.mono ho'
  have hq : ∀ n x, σ1.res n = some x → σ4.res n = some x := fun n x hx => ho' _ _ (ho _ _ hx)
  clear hB ho'
  generalize hr0 : List.replicate s (List.replicate k (0 : UInt8)) = r0' at hB2 hB'
  have hok0 : okRows k r0' := by rw [← hr0]; exact okRows_zero _ _
  have hrl0 : r0'.length = s := by rw [← hr0]; simp
  have hdis : ∀ n, n = p' ∨ n ∈ ns' → n ∉ ns := by
    rintro n hn hm
    have h2 := hns n hm
    rcases hn with rfl | hn
    · omega
    · have := hns' n hn; omega
  have hdis' : ∀ n, n = p ∨ n ∈ ns → n ∉ ns' := by
    rintro n hn hm
    have h2 := hns' n hm
    rcases hn with rfl | hn
    · omega
    · have := hns n hn; omega
  have hrows : ∀ i, okRows k (addAll k h (l.take i) r0') ∧ 1 ≤ (addAll k h (l.take i) r0').length ∧ (addAll k h (l.take i) r0').length ≤ 16 := fun i => ⟨addAll_ok hok0 (by omega), by rw [addAll_len]; omega, by rw [addAll_len]; omega⟩
  try simp only [↓reduceIte, namesOf, List.any, I.names, aops, aopsI, aopsT, qstep, CPt, qget, Tbl.get, astep, ev, setd, List.set, List.getD, List.getElem?_cons_zero, List.getElem?_cons_succ, List.getElem?_nil, List.cons_append, List.nil_append, List.length_cons, List.length_nil, List.replicate, then_normal, inBlock_normal, Option.getD_some, Option.getD_none, Bool.or_false, Bool.or_true, Bool.true_or, Bool.false_or, Bool.false_eq_true, if_false, if_true, up_zero, Nat.reduceAdd, Nat.reduceSub, binv, ↓opt_def, AV.isAny, AV.cells, ldc, List.map_cons, List.map_nil, St.set_next, St.set_same, St.up_next, Int.natCast_nonneg, lt_len, le_len, Int.toNat_natCast, true_and, and_true, eq_self, reduceCtorEq, decide_true, List.length_singleton, er_int, er_bool, er_str, up_zero]
  refine h1 _ _ ?_
  try clear h1 K_h1
  refine T.seq_k (fun K_h1 h1 => ?_)
  refine T.seq_k (fun K_h0 h0 => ?_)
  refine T.regi hm ?_
  simp only [↓reduceIte, namesOf, List.any, I.names, aopsI, astep, ev, setd, List.set, then_normal, Bool.or_false, Bool.false_eq_true, up_zero]
  refine h0 _ _ ?_
  try clear h0 K_h0
  refine T.block ?_
  refine T.gh (Gh.keep [3, 4, 11, 12, 15, 16]) ?_
  refine T.loopi (fun i ρ t => Bl t p ns w (8 * k) h k (addAll k h (l.take i) r0') ∧ Rf t p' ns' w' (8 * k) h ((addAll k h (l.take i) r0').map (unp (8 * k))) ∧ (∀ n x, σ1.res n = some x → t.res n = some x) ∧ t.next = σ4.next ∧
      ρ = [.any, .any, .any, .sl (nums .u64 (natI l)) .none, .int .u64 id, .any, .any, .any, .any, .any, .any, .bool true, .ptr p 0, .any, .any, .ptr p' 0, .int .i64 (i : Int)] ++ List.replicate 85 .any)
    l.length 0 (Nat.zero_le _) ⟨hB2, hB', hq, rfl, rfl⟩ ?_
  clear hB2 hB' hq
  rintro i ρ t hi ⟨hB, hB', hq, hn, rfl⟩
  obtain ⟨ok1, ok2, ok3⟩ := hrows i
  have hBo : BlOk (8 * k) h k (addAll k h (l.take i) r0') := ⟨hk, rfl, hh, ok2, ok3⟩
  have hRo : RfOk (8 * k) h ((addAll k h (l.take i) r0').map (unp (8 * k))) := ⟨by omega, hh.2, by rw [List.length_map]; exact ⟨ok2, ok3⟩⟩
  refine T.seq_k (fun K_h2 h2 => ?_)
  refine T.seq_k (fun K_h0 h0 => ?_)
  refine T.regi hm ?_
  simp only [↓reduceIte, namesOf, List.any, I.names, aopsI, astep, ev, setd, List.set, List.getD, List.getElem?_cons_zero, List.getElem?_cons_succ, List.cons_append, List.nil_append, List.replicate, then_normal, Option.getD_some, Bool.or_false, Bool.false_eq_true, up_zero, binv, ↓opt_def, lt_len, eq_self, nums_len, natI_len]
  refine h0 _ _ ?_
  try clear h0 K_h0
  by_cases hil : i < l.length
  case neg =>
    refine T.cond (b := false) (by simp [ev]; omega) (fun h => by cases h) (fun _ => T.exit ?_)
    try simp only [List.cons_append, List.nil_append, List.replicate, then_normal, inBlock_exit, then_exit]
    refine h1 _ _ ?_
    try clear h1 K_h1
    refine T.seq_k (fun K_h1 h1 => ?_)
    refine T.regt hm (tbl := []) Tbl.ok_nil ?_
    try simp only [↓reduceIte, namesOf, List.any, I.names, aops, aopsI, aopsT, qstep, CPt, qget, Tbl.get, astep, ev, setd, List.set, List.getD, List.getElem?_cons_zero, List.getElem?_cons_succ, List.getElem?_nil, List.cons_append, List.nil_append, List.length_cons, List.length_nil, List.replicate, then_normal, inBlock_normal, Option.getD_some, Option.getD_none, Bool.or_false, Bool.or_true, Bool.true_or, Bool.false_or, Bool.false_eq_true, if_false, if_true, up_zero, Nat.reduceAdd, Nat.reduceSub, binv, ↓opt_def, AV.isAny, AV.cells, ldc, List.map_cons, List.map_nil, St.set_next, St.set_same, St.up_next, Int.natCast_nonneg, lt_len, le_len, Int.toNat_natCast, true_and, and_true, eq_self, reduceCtorEq, decide_true, List.length_singleton, er_int, er_bool, er_str, ]
    refine ⟨_, bhas_ok hB hBo hid, ?_⟩
    try simp only [↓reduceIte, namesOf, List.any, I.names, aops, aopsI, aopsT, qstep, CPt, qget, Tbl.get, astep, ev, setd, List.set, List.getD, List.getElem?_cons_zero, List.getElem?_cons_succ, List.getElem?_nil, List.cons_append, List.nil_append, List.length_cons, List.length_nil, List.replicate, then_normal, inBlock_normal, Option.getD_some, Option.getD_none, Bool.or_false, Bool.or_true, Bool.true_or, Bool.false_or, Bool.false_eq_true, if_false, if_true, up_zero, Nat.reduceAdd, Nat.reduceSub, binv, ↓opt_def, AV.isAny, AV.cells, ldc, List.map_cons, List.map_nil, St.set_next, St.set_same, St.up_next, Int.natCast_nonneg, lt_len, le_len, Int.toNat_natCast, true_and, and_true, eq_self, reduceCtorEq, decide_true, List.length_singleton, er_int, er_bool, er_str, ]
    refine ⟨_, rbhas_ok hB' hRo hid, ?_⟩
    have e3 := has_map (id := id) (h := h) (rows := addAll k h (l.take i) r0') hk.1 ok2
    rw [e3]
    try simp only [↓reduceIte, namesOf, List.any, I.names, aopsT, qstep, qget, Tbl.get, astep, ev, setd, List.set, List.getD, List.getElem?_cons_zero, List.getElem?_cons_succ, then_normal, Option.getD_some, Bool.or_false, Bool.false_eq_true, up_zero, ↓opt_def, List.map_cons, List.map_nil, eq_self, beq_self_eq_true, Bool.bne_false]
    refine ⟨_, bbytes_ok hB hBo, ?_⟩
    try simp only [toBytes_bytes]
    refine ⟨_, rbbytes_ok hB' hRo, ?_⟩
    rw [bytes_map hk.2 ok1]
    try simp only [eq_self, decide_true, toBytes_bytes, sbinv]
    refine h1 _ _ ?_
    try clear h1 K_h1
    exact T.ret (Fin.quiet rfl trivial hq ⟨rfl, rfl⟩)
  refine T.cond (b := true) (by simp [ev]; omega) (fun _ => T.skip ?_) (fun h => by cases h)
  refine h2 _ _ ?_
  try clear h2 K_h2
  have hiw := inc64' hil (by omega)
  have hilI : (i : Int) < (l.length : Int) := by omega
  have hg := natI_get hil
  have hlb := hl _ (List.getElem_mem hil)
  have htk := addAll_take k h hil r0'
  generalize l[i] = x at hg hlb htk
  refine T.seq_k (fun K_h2 h2 => ?_)
  refine T.block ?_
  refine T.seq_k (fun K_h3 h3 => ?_)
  refine T.regi hm ?_
  simp only [↓reduceIte, namesOf, List.any, I.names, aopsI, astep, ev, setd, List.set, List.getD, List.getElem?_cons_zero, List.getElem?_cons_succ, List.cons_append, List.nil_append, List.length_cons, List.length_nil, List.replicate, then_normal, Option.getD_some, Bool.or_false, Bool.false_eq_true, up_zero, Nat.reduceAdd, ↓opt_def, AV.cells, ldc, List.map_cons, List.map_nil, Int.natCast_nonneg, Int.toNat_natCast, and_true, eq_self, nums_len, natI_len, hg, hilI]
  refine (badd_ok hB hBo hlb).mono ?_
  rintro v t2 ⟨rfl, hB2, hn2', ho2⟩
  have hB2' : Rf t2 p' ns' w' (8 * k) h ((addAll k h (l.take i) r0').map (unp (8 * k))) := hB'.keep (fun n hn => ho2 n (hdis n hn))
  try simp only [↓reduceIte, namesOf, List.any, I.names, aops, aopsI, aopsT, qstep, CPt, qget, Tbl.get, astep, ev, setd, List.set, List.getD, List.getElem?_cons_zero, List.getElem?_cons_succ, List.getElem?_nil, List.cons_append, List.nil_append, List.length_cons, List.length_nil, List.replicate, then_normal, inBlock_normal, Option.getD_some, Option.getD_none, Bool.or_false, Bool.or_true, Bool.true_or, Bool.false_or, Bool.false_eq_true, if_false, if_true, up_zero, Nat.reduceAdd, Nat.reduceSub, binv, ↓opt_def, AV.isAny, AV.cells, ldc, List.map_cons, List.map_nil, St.set_next, St.set_same, St.up_next, Int.natCast_nonneg, lt_len, le_len, Int.toNat_natCast, true_and, and_true, eq_self, reduceCtorEq, decide_true, List.length_singleton, er_int, er_bool, er_str, up_zero]
  refine h3 _ _ ?_
  try clear h3 K_h3
  refine T.regi hm ?_
  simp only [↓reduceIte, namesOf, List.any, I.names, aopsI, astep, ev, setd, List.set, List.getD, List.getElem?_cons_zero, List.getElem?_cons_succ, List.cons_append, List.nil_append, List.length_cons, List.length_nil, List.replicate, then_normal, inBlock_normal, Option.getD_some, Bool.or_false, Bool.false_eq_true, up_zero, Nat.reduceAdd, ↓opt_def, AV.cells, ldc, List.map_cons, List.map_nil, Int.natCast_nonneg, Int.toNat_natCast, and_true, eq_self, nums_len, natI_len, hg, hilI]
  refine (rbadd_ok hB2' hRo hlb).mono ?_
  rintro v t3 ⟨rfl, hB3', hn3', ho3⟩
  have hB3 := hB2.keep (fun n hn => ho3 n (hdis' n hn))
  rw [radd_map hk.1 ok1 ok2, ← htk] at hB3'
  rw [← htk] at hB3
  try simp only [↓reduceIte, namesOf, List.any, I.names, aops, aopsI, aopsT, qstep, CPt, qget, Tbl.get, astep, ev, setd, List.set, List.getD, List.getElem?_cons_zero, List.getElem?_cons_succ, List.getElem?_nil, List.cons_append, List.nil_append, List.length_cons, List.length_nil, List.replicate, then_normal, inBlock_normal, Option.getD_some, Option.getD_none, Bool.or_false, Bool.or_true, Bool.true_or, Bool.false_or, Bool.false_eq_true, if_false, if_true, up_zero, Nat.reduceAdd, Nat.reduceSub, binv, ↓opt_def, AV.isAny, AV.cells, ldc, List.map_cons, List.map_nil, St.set_next, St.set_same, St.up_next, Int.natCast_nonneg, lt_len, le_len, Int.toNat_natCast, true_and, and_true, eq_self, reduceCtorEq, decide_true, List.length_singleton, er_int, er_bool, er_str, up_zero]
  refine h2 _ _ ?_
  try clear h2 K_h2
  refine T.regi hm ?_
  simp only [↓reduceIte, namesOf, List.any, I.names, aopsI, astep, ev, setd, List.set, List.getD, List.getElem?_cons_zero, List.getElem?_cons_succ, List.cons_append, List.nil_append, List.replicate, then_normal, Option.getD_some, Bool.or_false, Bool.false_eq_true, up_zero, binv, ↓opt_def, eq_self, hiw]
  refine ⟨hil, _, _, Gh.keep [3, 4, 11, 12, 15, 16], hB3, hB3', fun n x hx => ?_, by omega, rfl⟩
  have hlt := wf.lt hx
  rw [ho3 n (fun hm => by have := hns' n hm; omega), ho2 n (fun hm => by have := hns n hm; omega)]
  exact hq n x hx
end Go.VL
