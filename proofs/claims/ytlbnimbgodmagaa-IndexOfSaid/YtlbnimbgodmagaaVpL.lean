/- Contracts: index.Get. -/
import Derived.Test.YtlbnimbgodmagaaVpK
namespace Go.VL
open Go.Proofs

theorem wread_ok {l : List UInt8} {σ : St} : ACalls Try.prog n_wread [.sl (bytesAV l) .none] σ (fun v σ' => ∃ nm, RS σ σ' nm (rd l .none 0 (-1)) 1 .nil ∧ v = .ptr nm 0) := by
  refine s_wread (fun wf => ?_)
  unfold c_wread
  refine T.seq_k (fun K_h1 h1 => ?_)
  refine T.regi hm ?_
  simp only [↓reduceIte, namesOf, List.any, I.names, aopsI, astep, ev, setd, List.set, List.cons_append, List.nil_append, List.length_cons, List.length_nil, List.replicate, then_normal, Bool.or_false, Bool.false_eq_true, up_zero, Nat.reduceAdd, Nat.reduceSub]
  refine h1 _ _ ?_
  try clear h1 K_h1
  refine T.seq_k (fun K_h1 h1 => ?_)
  refine T.regi hm ?_
  simp only [↓reduceIte, namesOf, List.any, I.names, aopsI, astep, ev, setd, List.set, List.getD, List.getElem?_cons_zero, List.getElem?_cons_succ, List.cons_append, List.nil_append, List.length_cons, List.length_nil, then_normal, Option.getD_some, Bool.or_false, Bool.or_true, Bool.false_eq_true, Nat.reduceAdd, ↓opt_def, AV.isAny, AV.cells, and_true, eq_self, fillA, Option.map_some, AV.fits, AV.one, List.all_cons, List.all_nil, Nat.reduceBEq, Bool.not_false, Bool.and_self, Nat.zero_add, splice, List.take, List.drop, Nat.reduceLeDiff]
  refine h1 _ ((σ.up 4).set (σ.next + 2) (rd l .none 0 (-1))) ?_
  have rs : RS σ ((σ.up 4).set (σ.next + 2) (rd l .none 0 (-1))) (σ.next + 2) (rd l .none 0 (-1)) 1 .nil :=
    ⟨fun m hm => by rw [St.set_other _ _ (by omega)]; rfl, by omega, by simp, by simp, .inl rfl⟩
  exact T.ret (Fin.ret rfl ⟨_, rs, rfl⟩)

theorem errAV_eq (c : Int) (h : c ≠ 0) : errAV c = .iface tCode (.int .i64 c) := by unfold errAV; rw [if_neg h]

set_option maxHeartbeats 2000000 in
theorem iget_ok {x : List UInt8} {g : Ver} {σ : St} (hl : x.length ≤ 1000000) :
    ACalls Try.prog n_iget [.sl (bytesAV x) g] σ (fun v σ' => v = .tup [.sl (nums .u64 (natI (indexedB x).2)) .none, errAV (indexedB x).1] ∧ σ' = σ) := by
  refine s_iget (fun wf => ?_)
  unfold c_iget
  refine T.seq_k (fun K_h1 h1 => ?_)
  refine T.regi hm ?_
  simp only [↓reduceIte, namesOf, List.any, I.names, aopsI, astep, ev, setd, List.set, List.cons_append, List.nil_append, List.length_cons, List.length_nil, List.replicate, then_normal, Bool.or_false, Bool.false_eq_true, up_zero, Nat.reduceAdd, Nat.reduceSub]
  refine h1 _ _ ?_
  try clear h1 K_h1
  refine T.seq_k (fun K_h1 h1 => ?_)
  refine T.regi hm ?_
  simp only [↓reduceIte, namesOf, List.any, I.names, aopsI, astep, ev, setd, List.set, List.getD, List.getElem?_cons_zero, List.getElem?_cons_succ, then_normal, Option.getD_some, Bool.or_false, Bool.false_eq_true, up_zero, ↓opt_def, List.map_cons, List.map_nil]
  refine (copen_ok (by omega)).mono ?_
  rintro v σ' ⟨rfl, rfl⟩
  try simp only [List.getElem?_cons_zero, List.getElem?_cons_succ]
  refine h1 _ _ ?_
  try clear h1 K_h1
  have hol := openB_len x
  generalize hb : (openB x).2 = b at hol
  generalize hc : (openB x).1 = c
  refine T.seq_k (fun K_h1 h1 => ?_)
  refine T.seq_k (fun K_h2 h2 => ?_)
  by_cases hc0 : c = 0
  case neg =>
    rw [errAV_eq c hc0]
    refine T.regi hm ?_
    simp only [↓reduceIte, namesOf, List.any, I.names, aopsI, astep, ev, setd, List.set, List.getD, List.getElem?_cons_zero, List.getElem?_cons_succ, then_normal, Option.getD_some, Bool.or_false, Bool.false_eq_true, up_zero, eqIv, Bool.bne_true, Bool.not_false]
    refine h2 _ _ ?_
    try clear h2 K_h2
    refine T.cond rfl (fun _ => ?_) (fun h => by cases h)
    refine T.seq_k (fun K_h2 h2 => ?_)
    refine T.regi hm ?_
    simp only [↓reduceIte, namesOf, List.any, I.names, aopsI, astep, ev, setd, List.set, List.getD, List.getElem?_cons_zero, List.getElem?_cons_succ, then_normal, Option.getD_some, Bool.or_false, Bool.false_eq_true, up_zero]
    refine h2 _ _ ?_
    try clear h2 K_h2
    refine T.ret (Fin.quietw rfl (Wk.tup2 (Wk.sl _ _)) ⟨⟨trivial, trivial⟩, trivial, trivial⟩ (fun _ _ h => h) ⟨?_, rfl⟩)
    have : indexedB x = (c, []) := by unfold indexedB; rw [hc, if_pos hc0]
    rw [this]
    show _ = AV.tup [_, errAV c]
    rw [errAV_eq c hc0]; rfl
  have e0 : errAV c = .nili := by unfold errAV; rw [if_pos hc0]
  rw [e0]
  refine T.regi hm ?_
  simp only [↓reduceIte, namesOf, List.any, I.names, aopsI, astep, ev, setd, List.set, List.getD, List.getElem?_cons_zero, List.getElem?_cons_succ, then_normal, Option.getD_some, Bool.or_false, Bool.false_eq_true, up_zero, eq_self, eqIv, bne_self_eq_false]
  refine h2 _ _ ?_
  try clear h2 K_h2
  refine T.cond rfl (fun h => by cases h) (fun _ => ?_)
  refine T.skip ?_
  refine h1 _ _ ?_
  try clear h1 K_h1
  have hidx : indexedB x = (if b.length < 2 then (2, []) else if b.length ≠ 2 + 8 * numB (b.take 2) then (2, []) else if risesB (natI (wordsB b (numB (b.take 2)))) = true then (0, wordsB b (numB (b.take 2))) else (2, [])) := by
    unfold indexedB; rw [hc, if_neg (by simp [hc0]), hb]
  refine T.seq_k (fun K_h1 h1 => ?_)
  refine T.regi hm ?_
  simp only [↓reduceIte, namesOf, List.any, I.names, aopsI, astep, ev, setd, List.set, List.getD, List.getElem?_cons_zero, List.getElem?_cons_succ, then_normal, Option.getD_some, Bool.or_false, Bool.false_eq_true, up_zero, List.map_cons, List.map_nil]
  refine wread_ok.mono ?_
  rintro v σ1 ⟨nm, rs, rfl⟩
  try simp only [↓reduceIte, namesOf, List.any, I.names, aops, aopsI, aopsT, qstep, CPt, qget, Tbl.get, astep, ev, setd, List.set, List.getD, List.getElem?_cons_zero, List.getElem?_cons_succ, List.getElem?_nil, List.cons_append, List.nil_append, List.length_cons, List.length_nil, List.replicate, then_normal, inBlock_normal, Option.getD_some, Option.getD_none, Bool.or_false, Bool.or_true, Bool.true_or, Bool.false_or, Bool.false_eq_true, if_false, if_true, up_zero, Nat.reduceAdd, Nat.reduceSub, binv, ↓opt_def, AV.isAny, AV.cells, ldc, List.map_cons, List.map_nil, St.set_next, St.set_same, St.up_next, Int.natCast_nonneg, lt_len, le_len, Int.toNat_natCast, true_and, and_true, eq_self, reduceCtorEq, decide_true, List.length_singleton, er_int, er_bool, er_str, up_zero]
  refine h1 _ _ ?_
  try clear h1 K_h1
  refine T.gh (Gh.keep [6]) ?_
  have hd : Rd b 0 (-1) := ⟨by omega, by omega, by omega⟩
  refine T.seq_k (fun K_h1 h1 => ?_)
  refine T.regi hm ?_
  try simp only [↓reduceIte, namesOf, List.any, I.names, aopsI, astep, ev, setd, List.set, List.getD, List.getElem?_cons_zero, List.getElem?_cons_succ, then_normal, Option.getD_some, Bool.or_false, Bool.false_eq_true, up_zero, Nat.reduceAdd, List.map_cons, List.map_nil, eq_self, keep, List.contains_cons, List.contains_nil, beq_self_eq_true, Nat.reduceBEq]
  refine (wword_ok (w := 2) hd rfl rs.at_).mono ?_
  -- what the head reads: how many, and a reader that stands behind them or fails
  have hstart : ∀ v s, ((takeOk b 0 (-1) ((2 : Nat) : Int) ∧ v = AV.int .u64 (numB ((b.drop (0 : Int).toNat).take 2) : Int) ∧ s = σ1.set nm (rd b .none (0 + ((2 : Nat) : Int)) (-1))) ∨
      (¬ takeOk b 0 (-1) ((2 : Nat) : Int) ∧ v = .int .u64 0 ∧ s = σ1.set nm (rd b .none 0 (if (-1 : Int) = -1 then 0 else -1)))) →
      ∃ (N : Nat) (at_ bad : Int), v = .int .u64 (N : Int) ∧ N < 65536 ∧ RS σ' s nm (rd b .none at_ bad) 1 .nil ∧ Rd b at_ bad ∧
        ((bad = -1 ∧ at_ = ((2 + 8 * 0 : Nat) : Int) ∧ 2 ≤ b.length ∧ N = numB (b.take 2)) ∨ (0 ≤ bad ∧ indexedB x = (2, []))) := by
    rintro v s (⟨hok, rfl, rfl⟩ | ⟨hok, rfl, rfl⟩)
    · have h2 : 2 ≤ b.length := by have := hok.2; omega
      refine ⟨numB (b.take 2), _, _, rfl, numB2_lt b h2, rs.set _, ⟨by omega, by omega, by omega⟩, .inl ⟨rfl, rfl, h2, rfl⟩⟩
    · have hlt : b.length < 2 := by
        rcases Nat.lt_or_ge b.length 2 with h | h
        · exact h
        · exact absurd ⟨rfl, by omega⟩ hok
      refine ⟨0, _, _, rfl, by omega, rs.set _, ⟨by omega, by omega, by omega⟩, .inr ⟨by simp, by rw [hidx, if_pos hlt]⟩⟩
  rintro v s hvs
  obtain ⟨N, at_, bad, rfl, hN, rs2, hd2, hst⟩ := hstart v s hvs
  clear hstart hvs rs hd
  have e2 : IntKind.i64.wrap (N : Int) = (N : Int) := wrap64 (by omega) (by omega)
  try simp only [e2]
  refine h1 _ _ ?_
  try clear h1 K_h1
  refine T.seq_k (fun K_h1 h1 => ?_)
  refine T.regi hm ?_
  simp only [↓reduceIte, namesOf, List.any, I.names, aopsI, astep, ev, setd, List.set, then_normal, Bool.or_false, Bool.false_eq_true, up_zero]
  refine h1 _ _ ?_
  try clear h1 K_h1
  refine T.seq_k (fun K_h1 h1 => ?_)
  refine T.seq_k (fun K_k2 k2 => ?_)
  refine T.regi hm ?_
  simp only [↓reduceIte, namesOf, List.any, I.names, aopsI, astep, ev, setd, List.set, then_normal, Bool.or_false, Bool.false_eq_true, up_zero]
  refine k2 _ _ ?_
  try clear k2 K_k2
  refine T.block ?_
  refine T.gh (Gh.keep [6, 7, 8, 9]) ?_
  refine T.loop (fun ρ s => ∃ (i : Nat) (v : Ver) (out : List Nat) (at_ bad : Int), i ≤ N ∧ out.length = i ∧ RS σ' s nm (rd b .none at_ bad) 1 v ∧ Rd b at_ bad ∧
      ((bad = -1 ∧ at_ = ((2 + 8 * i : Nat) : Int) ∧ 2 + 8 * i ≤ b.length ∧ N = numB (b.take 2) ∧ out = wordsB b i) ∨ (0 ≤ bad ∧ indexedB x = (2, []))) ∧
      ρ = [.any, .any, .any, .any, .any, .any, .ptr nm 0, .int .i64 (N : Int), .sl (nums .u64 (natI out)) v, .int .i64 (i : Int)] ++ List.replicate 43 .any)
    (fun ρ _ => match ρ.getD 9 .any with | .int _ m => (N - m).toNat | _ => 0) ⟨0, .nil, [], at_, bad, Nat.zero_le _, rfl, rs2, hd2, hst.imp (fun h => ⟨h.1, h.2.1, by have := h.2.2.1; omega, h.2.2.2, rfl⟩) id, rfl⟩ ?_
  clear rs2 hd2 hst at_ bad s
  rintro ρ s ⟨i, vv, out, at_, bad, hi, hout, rs2, hd2, hst, rfl⟩
  have hend : (i = N ∨ 0 ≤ bad) → ∀ ρ, keep [6, 8] 0 ρ = [.any, .any, .any, .any, .any, .any, .ptr nm 0, .any, .sl (nums .u64 (natI out)) vv] ++ List.replicate 44 .any → K_h1 ρ s := by
    intro hx ρ hρ
    refine h1 _ _ (T.gh (Gh.keep [6, 8]) ?_)
    rw [hρ]
    clear h1 hρ ρ
    have hlen2 : (natI out).length ≤ 1099511627776 := by rw [natI_len]; omega
    have hbadform : indexedB x = (2, []) → ∀ ρ, T Try.prog ann .skip (fun _ ρ' s' => ρ' = ρ ∧ s' = s) ρ s := fun _ ρ => T.skip ⟨rfl, rfl⟩
    clear hbadform
    refine T.seq_k (fun K_h1 h1 => ?_)
    refine T.seq_k (fun K_k2 k2 => ?_)
    have fin2 : indexedB x = (2, []) → ∀ ρ, keep [50] 0 ρ = List.replicate 50 .any ++ [.bool true, .any, .any] → K_k2 ρ s := by
      intro h2 ρ hρ
      refine k2 _ _ (T.gh (Gh.keep [50]) ?_)
      rw [hρ]
      clear k2 hρ ρ
      refine T.cond rfl (fun _ => ?_) (fun h => by cases h)
      refine T.seq_k (fun K_k2 k2 => ?_)
      refine T.regi hm ?_
      simp only [↓reduceIte, namesOf, List.any, I.names, aopsI, astep, ev, setd, List.set, List.getD, List.getElem?_cons_zero, List.getElem?_cons_succ, List.cons_append, List.nil_append, List.replicate, then_normal, Option.getD_some, Bool.or_false, Bool.false_eq_true, up_zero]
      refine k2 _ _ ?_
      try clear k2 K_k2
      exact T.ret (Fin.quietw rfl (Wk.tup2 (Wk.sl _ _)) ⟨⟨trivial, trivial⟩, trivial, trivial⟩ (rs2.quiet wf) ⟨by rw [h2]; rfl, rfl⟩)
    refine T.regi hm ?_
    simp only [↓reduceIte, namesOf, List.any, I.names, aopsI, astep, ev, setd, List.set, List.getD, List.getElem?_cons_zero, List.getElem?_cons_succ, List.cons_append, List.nil_append, List.replicate, then_normal, Option.getD_some, Bool.or_false, Bool.false_eq_true, up_zero, binv, ↓opt_def, List.map_cons, List.map_nil]
    refine (wbad_ok rs2.at_).mono ?_
    rintro v s1 ⟨rfl, rfl⟩
    rcases hst with ⟨rfl, rfl, hle, hNN, rfl⟩ | ⟨hbad, h2⟩
    case inr =>
      have e3 : decide (bad ≥ 0) = true := decide_eq_true hbad
      try simp only [↓reduceIte, eq_self, reduceCtorEq, e3]
      exact fin2 h2 _ rfl
    have hiN : i = N := by rcases hx with h | h; exact h; omega
    subst hiN
    have e3 : decide ((-1 : Int) ≥ 0) = false := by decide
    try simp only [↓reduceIte, Bool.false_eq_true, eq_self, e3]
    refine (wleft_ok hd2.len hd2.lo hd2.hi rs2.at_).mono ?_
    rintro v s2 ⟨rfl, rfl⟩
    by_cases hleft : b.length = 2 + 8 * i
    case neg =>
      have e4 : decide ((b.length : Int) - ((2 + 8 * i : Nat) : Int) > 0) = true := decide_eq_true (by omega)
      try simp only [↓reduceIte, eq_self, reduceCtorEq, e4]
      refine fin2 ?_ _ rfl
      rw [hidx, if_neg (by omega), if_pos (by rw [← hNN]; exact hleft)]
    have e4 : decide ((b.length : Int) - ((2 + 8 * i : Nat) : Int) > 0) = false := decide_eq_false (by omega)
    try simp only [↓reduceIte, Bool.false_eq_true, eq_self, e4]
    refine (rises_ok hlen2).mono ?_
    rintro v s3 ⟨rfl, rfl⟩
    cases hri : risesB (natI (wordsB b i)) with
    | false =>
      try simp only [Bool.not_false]
      refine fin2 ?_ _ rfl
      rw [hidx, if_neg (by omega), if_neg (by rw [← hNN]; omega), if_neg (by rw [← hNN, hri]; simp)]
    | true =>
      try simp only [Bool.not_true]
      refine k2 _ _ ?_
      try clear k2 K_k2
      refine T.cond rfl (fun h => by cases h) (fun _ => ?_)
      refine T.skip ?_
      refine h1 _ _ ?_
      try clear h1 K_h1
      refine T.seq_k (fun K_h1 h1 => ?_)
      refine T.regi hm ?_
      simp only [↓reduceIte, namesOf, List.any, I.names, aopsI, astep, ev, setd, List.set, List.getD, List.getElem?_cons_zero, List.getElem?_cons_succ, then_normal, Option.getD_some, Bool.or_false, Bool.false_eq_true, up_zero]
      refine h1 _ _ ?_
      try clear h1 K_h1
      refine T.ret (Fin.quietw rfl (Wk.tup2 (Wk.sl _ _)) ⟨⟨nb_nums _ _ _, trivial⟩, trivial, trivial⟩ (rs2.quiet wf) ⟨?_, rfl⟩)
      rw [hidx, if_neg (by omega), if_neg (by rw [← hNN]; omega), if_pos (by rw [← hNN, hri]), ← hNN]; rfl
  refine T.seq_k (fun K_k2 k2 => ?_)
  refine T.seq_k (fun K_k3 k3 => ?_)
  by_cases hiN : i < N
  case neg =>
    have e3 : decide ((i : Int) < (N : Int)) = false := decide_eq_false (by omega)
    refine T.regi hm ?_
    simp only [↓reduceIte, namesOf, List.any, I.names, aopsI, astep, ev, setd, List.set, List.getD, List.getElem?_cons_zero, List.getElem?_cons_succ, List.cons_append, List.nil_append, List.replicate, then_normal, Option.getD_some, Bool.or_false, Bool.false_eq_true, up_zero, binv, ↓opt_def, eq_self, e3]
    refine k3 _ _ ?_
    try clear k3 K_k3
    refine T.cond rfl (fun h => by cases h) (fun _ => ?_)
    refine T.exit ?_
    try simp only [List.getD, List.getElem?_cons_zero, List.getElem?_cons_succ, List.cons_append, List.nil_append, List.replicate, then_normal, Option.getD_some, inBlock_exit, then_exit]
    exact hend (.inl (by omega)) _ rfl
  have e3 : decide ((i : Int) < (N : Int)) = true := decide_eq_true (by omega)
  refine T.regi hm ?_
  simp only [↓reduceIte, namesOf, List.any, I.names, aopsI, astep, ev, setd, List.set, List.getD, List.getElem?_cons_zero, List.getElem?_cons_succ, List.cons_append, List.nil_append, List.replicate, then_normal, Option.getD_some, Bool.or_false, Bool.false_eq_true, up_zero, binv, ↓opt_def, List.map_cons, List.map_nil, eq_self, e3]
  refine (wbad_ok rs2.at_).mono ?_
  rintro v s1 ⟨rfl, rfl⟩
  rcases hst with ⟨rfl, rfl, hle, hNN, rfl⟩ | ⟨hbad, h2⟩
  case inr =>
    have e4 : decide (bad < 0) = false := decide_eq_false (by omega)
    try simp only [↓reduceIte, eq_self, e4]
    refine k3 _ _ ?_
    try clear k3 K_k3
    refine T.cond rfl (fun h => by cases h) (fun _ => ?_)
    refine T.exit ?_
    try simp only [List.getD, List.getElem?_cons_zero, List.getElem?_cons_succ, List.cons_append, List.nil_append, List.replicate, then_normal, Option.getD_some, inBlock_exit, then_exit]
    exact hend (.inr hbad) _ rfl
  have e4 : decide ((-1 : Int) < 0) = true := by decide
  try simp only [↓reduceIte, eq_self, e4]
  refine k3 _ _ ?_
  try clear k3 K_k3
  refine T.cond rfl (fun _ => ?_) (fun h => by cases h)
  refine T.skip ?_
  refine k2 _ _ ?_
  try clear k2 K_k2
  clear hend h1
  have e7 : IntKind.i64.wrap ((i : Int) + 1) = ((i + 1 : Nat) : Int) := by rw [wrap64 (by omega) (by omega)]; rfl
  refine T.seq_k (fun K_k2 k2 => ?_)
  refine T.block ?_
  have hfin : ∀ (s : St) (v : Ver) (out : List Nat) (at_ bad : Int), out.length = i + 1 → RS σ' s nm (rd b .none at_ bad) 1 v → Rd b at_ bad →
      ((bad = -1 ∧ at_ = ((2 + 8 * (i + 1) : Nat) : Int) ∧ 2 + 8 * (i + 1) ≤ b.length ∧ N = numB (b.take 2) ∧ out = wordsB b (i + 1)) ∨ (0 ≤ bad ∧ indexedB x = (2, []))) →
      ∀ ρ, keep [6, 7, 8, 9] 0 ρ = [.any, .any, .any, .any, .any, .any, .ptr nm 0, .int .i64 (N : Int), .sl (nums .u64 (natI out)) v, .int .i64 (i : Int)] ++ List.replicate 43 .any → K_k2 ρ s := by
    intro s v out at_ bad ho hs hd hst ρ hρ
    refine k2 _ _ (T.gh (Gh.keep [6, 7, 8, 9]) ?_)
    rw [hρ]
    clear k2 hρ ρ
    refine T.regi hm ?_
    simp only [↓reduceIte, namesOf, List.any, I.names, aopsI, astep, ev, setd, List.set, List.getD, List.getElem?_cons_zero, List.getElem?_cons_succ, List.cons_append, List.nil_append, List.replicate, then_normal, Option.getD_some, Bool.or_false, Bool.false_eq_true, up_zero, binv, ↓opt_def, eq_self, e7]
    refine ⟨_, _, Gh.keep [6, 7, 8, 9], ⟨i + 1, v, out, at_, bad, hiN, ho, hs, hd, hst, rfl⟩, ?_⟩
    show ((N : Int) - ((i + 1 : Nat) : Int)).toNat < ((N : Int) - (i : Int)).toNat
    omega
  have hsz : (nums .u64 (natI (wordsB b i))).length = i := by rw [nums_len, natI_len, wordsB_len]
  refine T.regi hm ?_
  simp only [↓reduceIte, namesOf, List.any, I.names, aopsI, astep, ev, setd, List.set, List.getD, List.getElem?_cons_zero, List.getElem?_cons_succ, List.cons_append, List.nil_append, List.length_cons, List.length_nil, List.replicate, then_normal, inBlock_normal, Option.getD_some, Bool.or_false, Bool.or_true, Nat.reduceAdd, List.map_cons, List.map_nil, eq_self]
  refine (wword_ok (w := 8) hd2 rfl (rs2.up 6).at_).mono ?_
  have happ : ∀ (y : Nat), nums .u64 (natI (wordsB b i)) ++ nums .u64 [(y : Int)] = nums .u64 (natI (wordsB b i ++ [y])) := by
    intro y; rw [nums_app, ← natI_app]; rfl
  have hstep : ∀ v s', ((takeOk b ((2 + 8 * i : Nat) : Int) (-1) ((8 : Nat) : Int) ∧ v = AV.int .u64 (numB ((b.drop (((2 + 8 * i : Nat) : Int)).toNat).take 8) : Int) ∧ s' = (s1.up 6).set nm (rd b .none (((2 + 8 * i : Nat) : Int) + ((8 : Nat) : Int)) (-1))) ∨
      (¬ takeOk b ((2 + 8 * i : Nat) : Int) (-1) ((8 : Nat) : Int) ∧ v = .int .u64 0 ∧ s' = (s1.up 6).set nm (rd b .none ((2 + 8 * i : Nat) : Int) (if (-1 : Int) = -1 then ((2 + 8 * i : Nat) : Int) else -1)))) →
      ∃ (y : Nat) (at_ bad : Int), v = .int .u64 (y : Int) ∧ s'.next = s1.next + 6 ∧ RS σ' s' nm (rd b .none at_ bad) 1 vv ∧ Rd b at_ bad ∧
        ((bad = -1 ∧ at_ = ((2 + 8 * (i + 1) : Nat) : Int) ∧ 2 + 8 * (i + 1) ≤ b.length ∧ N = numB (b.take 2) ∧ wordsB b i ++ [y] = wordsB b (i + 1)) ∨ (0 ≤ bad ∧ indexedB x = (2, []))) := by
    rintro v s' (⟨hok, rfl, rfl⟩ | ⟨hok, rfl, rfl⟩)
    · have h2 := hok.2
      refine ⟨_, _, _, rfl, rfl, (rs2.up 6).set _, ⟨hd2.len, by omega, by omega⟩, .inl ⟨rfl, by omega, by omega, hNN, ?_⟩⟩
      rw [wordsB_succ, Int.toNat_natCast]
    · refine ⟨0, _, _, rfl, rfl, (rs2.up 6).set _, ⟨hd2.len, by omega, by omega⟩, .inr ⟨by simp; omega, ?_⟩⟩
      have hlt : b.length < 2 + 8 * (i + 1) := by
        rcases Nat.lt_or_ge b.length (2 + 8 * (i + 1)) with h | h
        · exact h
        · exact absurd ⟨rfl, by omega⟩ hok
      rw [hidx, if_neg (by omega), if_pos (by rw [← hNN]; omega)]
  rintro v s' hvs
  obtain ⟨y, at2, bad2, rfl, hnx, rs3, hd3, hst3⟩ := hstep v s' hvs
  clear hstep hvs
  have hhi := rs2.hi
  rcases rs3.ver with rfl | ⟨gg, rfl, _, _, _, hgt⟩
  · have hn1 : ([AV.int IntKind.u64 (y : Int)] : List AV).isEmpty = false := rfl
    try simp only [↓reduceIte, List.length_cons, List.length_nil, Bool.false_eq_true, Nat.reduceAdd, List.map_cons, List.map_nil, eq_self, er_int, List.all_cons, held, srcOf, List.all_nil, Bool.true_and, fits_num, nums_all, List.all_append, hn1, hsz]
    rw [if_pos (by simp only [decide_eq_true_eq]; omega), nums1, happ]
    exact hfin _ _ _ at2 bad2 (by simp [wordsB_len]) (rs3.nil (by omega) (by omega)) hd3 hst3 _ rfl
  · try simp only [↓reduceIte, List.length_cons, List.length_nil, Nat.reduceAdd, List.map_cons, List.map_nil, eq_self, er_int, List.all_cons, held, srcOf, hgt, List.all_nil, Bool.true_and, fits_num, nums_all, List.all_append, hsz]
    rw [if_pos (by simp only [decide_eq_true_eq]; omega), nums1, happ]
    exact hfin _ _ _ at2 bad2 (by simp [wordsB_len]) (rs3.tip (by omega) (by omega)) hd3 hst3 _ rfl
end Go.VL
