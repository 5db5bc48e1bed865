/- The law IndexPuts, walked. -/
import Derived.Test.YtlbnimbgodmagaaVpO
namespace Go.VL
open Go.Proofs

theorem ids_ok {xs ys : List Int} {g g' : Ver} {σ : St} (ha : xs.length < 4611686018427387904) : ACalls Try.prog n_ids [.sl (nums .u64 xs) g, .sl (nums .u64 ys) g'] σ (fun v σ' => v = .bool (decide (xs = ys)) ∧ σ' = σ) := by
  refine s_ids (fun wf => ?_)
  unfold c_ids
  refine T.seq_k (fun K_h1 h1 => ?_)
  refine T.regi hm ?_
  simp only [↓reduceIte, namesOf, List.any, I.names, aopsI, astep, ev, setd, List.set, List.cons_append, List.nil_append, List.length_cons, List.length_nil, List.replicate, then_normal, Bool.or_false, Bool.false_eq_true, up_zero, Nat.reduceAdd, Nat.reduceSub]
  refine h1 _ _ ?_
  try clear h1 K_h1
  refine T.seq_k (fun K_h1 h1 => ?_)
  refine T.seq_k (fun K_h2 h2 => ?_)
  refine T.regi hm ?_
  simp only [↓reduceIte, namesOf, List.any, I.names, aopsI, astep, ev, setd, List.set, List.getD, List.getElem?_cons_zero, List.getElem?_cons_succ, then_normal, Option.getD_some, Bool.or_false, Bool.false_eq_true, up_zero, binv, ↓opt_def, eq_self]
  refine h2 _ _ ?_
  try clear h2 K_h2
  refine T.cond rfl (fun hb => ?_) (fun hb => ?_)
  · refine T.seq_k (fun K_h2 h2 => ?_)
    refine T.regi hm ?_
    simp only [↓reduceIte, namesOf, List.any, I.names, aopsI, astep, ev, setd, List.set, then_normal, Bool.or_false, Bool.false_eq_true, up_zero]
    refine h2 _ _ ?_
    try clear h2 K_h2
    refine T.ret (Fin.ret rfl ⟨?_, rfl⟩)
    simp only [nums_len] at hb
    have : xs ≠ ys := fun e => by subst e; simp at hb
    simp [pack, this]
  · refine T.skip ?_
    refine h1 _ _ ?_
    try clear h1 K_h1
    have hlen : xs.length = ys.length := by simp [nums_len] at hb; omega
    refine T.seq_k (fun K_h1 h1 => ?_)
    refine T.seq_k (fun K_h2 h2 => ?_)
    refine T.regi hm ?_
    simp only [↓reduceIte, namesOf, List.any, I.names, aopsI, astep, ev, setd, List.set, then_normal, Bool.or_false, Bool.false_eq_true, up_zero]
    refine h2 _ _ ?_
    try clear h2 K_h2
    refine T.block ?_
    refine T.gh (Gh.keep [0, 1, 5]) ?_
    try simp only [↓reduceIte, Bool.or_false, Bool.or_true, Bool.false_eq_true, Nat.reduceAdd, eq_self, keep, List.contains_cons, List.contains_nil, beq_self_eq_true, Nat.reduceBEq]
    refine T.loop (fun ρ σ' => σ' = σ ∧ ∃ i : Nat, i ≤ xs.length ∧ xs.take i = ys.take i ∧ ρ = [.sl (nums .u64 xs) g, .sl (nums .u64 ys) g', .any, .any, .any, .int .i64 i, .any, .any, .any, .any, .any, .any, .any, .any, .any, .any, .any, .any, .any, .any, .any, .any, .any, .any, .any, .any])
      (fun ρ _ => match ρ.getD 5 .any with | .int _ n => (xs.length - n).toNat | _ => 0) ⟨rfl, 0, Nat.zero_le _, by simp, rfl⟩ ?_
    rintro ρ σ' ⟨rfl, i, hi, hpre, rfl⟩
    refine T.seq_k (fun K_h2 h2 => ?_)
    refine T.seq_k (fun K_h3 h3 => ?_)
    refine T.regi hm ?_
    simp only [↓reduceIte, namesOf, List.any, I.names, aopsI, astep, ev, setd, List.set, List.getD, List.getElem?_cons_zero, List.getElem?_cons_succ, then_normal, Option.getD_some, Bool.or_false, Bool.false_eq_true, up_zero, binv, ↓opt_def, lt_len, eq_self]
    refine h3 _ _ ?_
    try clear h3 K_h3
    refine T.cond rfl (fun hb => ?_) (fun hb => ?_)
    · refine T.skip ?_
      refine h2 _ _ ?_
      try clear h2 K_h2
      have hil : i < xs.length := by simpa [nums_len] using hb
      refine T.seq_k (fun K_h2 h2 => ?_)
      refine T.block ?_
      refine T.seq_k (fun K_h3 h3 => ?_)
      refine T.regi hm ?_
      simp only [↓reduceIte, namesOf, List.any, I.names, aopsI, astep, ev, setd, List.set, List.getD, List.getElem?_cons_zero, List.getElem?_cons_succ, List.length_cons, List.length_nil, then_normal, Option.getD_some, Bool.or_false, Bool.false_eq_true, up_zero, Nat.reduceAdd, binv, ↓opt_def, AV.cells, ldc, Int.natCast_nonneg, lt_len, Int.toNat_natCast, and_true, eq_self, decide_true, nums_len, nums_get .u64 hil, nums_get .u64 (hlen ▸ hil), hil, hlen ▸ hil]
      refine h3 _ _ ?_
      try clear h3 K_h3
      refine T.cond rfl (fun hb => ?_) (fun hb => ?_)
      · refine T.seq_k (fun K_h3 h3 => ?_)
        refine T.regi hm ?_
        simp only [↓reduceIte, namesOf, List.any, I.names, aopsI, astep, ev, setd, List.set, List.getD, List.getElem?_cons_zero, List.getElem?_cons_succ, then_normal, Option.getD_some, Bool.or_false, Bool.false_eq_true, up_zero]
        refine h3 _ _ ?_
        try clear h3 K_h3
        refine T.ret (Fin.ret rfl ⟨?_, rfl⟩)
        have : xs ≠ ys := fun e => by subst e; simp at hb
        simp [pack, this]
      · refine T.skip ?_
        refine h2 _ _ ?_
        try clear h2 K_h2
        have he : xs[i] = ys[i]'(hlen ▸ hil) := by simpa using hb
        refine T.regi hm ?_
        simp only [↓reduceIte, namesOf, List.any, I.names, aopsI, astep, ev, setd, List.set, List.getD, List.getElem?_cons_zero, List.getElem?_cons_succ, then_normal, Option.getD_some, Bool.or_false, Bool.false_eq_true, up_zero, binv, ↓opt_def, eq_self]
        refine ⟨_, _, Gh.keep [0, 1, 5], ⟨rfl, i + 1, hil, ?_, ?_⟩, ?_⟩
        · rw [List.take_succ_eq_append_getElem hil, List.take_succ_eq_append_getElem (hlen ▸ hil), hpre, he]
        · have hw : IntKind.i64.wrap ((i : Int) + 1) = ((i + 1 : Nat) : Int) := by rw [wrap64 (by omega) (by omega)]; rfl
          try simp only [↓reduceIte, Bool.or_false, Bool.or_true, Bool.false_eq_true, Nat.reduceAdd, eq_self, keep, List.contains_cons, List.contains_nil, beq_self_eq_true, Nat.reduceBEq, hw]
        · have hw : IntKind.i64.wrap ((i : Int) + 1) = (i : Int) + 1 := wrap64 (by omega) (by omega)
          try simp only [↓reduceIte, List.getElem?_cons_zero, List.getElem?_cons_succ, Option.getD_some, Bool.or_false, Bool.or_true, Bool.false_eq_true, Nat.reduceAdd, eq_self, keep, List.contains_cons, List.contains_nil, beq_self_eq_true, Nat.reduceBEq, hw]
          omega
    · refine T.exit ?_
      try simp only [List.getD, List.getElem?_cons_zero, List.getElem?_cons_succ, then_normal, Option.getD_some, inBlock_exit, then_exit]
      refine h1 _ _ ?_
      try clear h1 K_h1
      have hil : i = xs.length := by simp [nums_len] at hb; omega
      subst hil
      refine T.seq_k (fun K_h1 h1 => ?_)
      refine T.regi hm ?_
      simp only [↓reduceIte, namesOf, List.any, I.names, aopsI, astep, ev, setd, List.set, then_normal, Bool.or_false, Bool.false_eq_true, up_zero]
      refine h1 _ _ ?_
      try clear h1 K_h1
      refine T.ret (Fin.ret rfl ⟨?_, rfl⟩)
      have : xs = ys := by rw [List.take_length, hlen, List.take_length] at hpre; exact hpre
      simp [pack, this]

theorem indexedB_code (x : List UInt8) : ∃ c : Nat, c ≤ 10 ∧ (indexedB x).1 = (c : Int) := by
  have ho : (openB x).1 = 0 ∨ (openB x).1 = 2 ∨ (openB x).1 = 7 := by
    unfold openB
    split
    · exact .inr (.inl rfl)
    · split
      · exact .inl rfl
      · exact .inr (.inr rfl)
  unfold indexedB
  split
  · rcases ho with h | h | h
    · exact ⟨0, by omega, h⟩
    · exact ⟨2, by omega, h⟩
    · exact ⟨7, by omega, h⟩
  · split
    · exact ⟨2, by omega, rfl⟩
    · split
      · exact ⟨2, by omega, rfl⟩
      · split
        · exact ⟨0, by omega, rfl⟩
        · exact ⟨2, by omega, rfl⟩
theorem indexedB_len (x : List UInt8) (_ : x.length ≤ 5000) : (indexedB x).2.length ≤ 200 := by
  unfold indexedB
  split
  · simp
  · split
    · simp
    · split
      · simp
      · split
        · rename_i h; have := risesB_len h; rwa [natI_len] at this
        · simp

set_option maxHeartbeats 2000000 in
theorem indexPuts_ok {l : List Nat} {x : List UInt8} {g g' : Ver} {σ : St} (hbd : ∀ n ∈ l, n < 18446744073709551616) :
    ACalls Try.prog n_indexPuts [.sl (nums .u64 (natI l)) g, .sl (bytesAV x) g'] σ (fun v σ' => v = .bool true ∧ σ' = σ) := by
  refine s_indexPuts (fun wf => ?_)
  unfold c_indexPuts
  refine T.seq_k (fun K_h1 h1 => ?_)
  refine T.regi hm ?_
  simp only [↓reduceIte, namesOf, List.any, I.names, aopsI, astep, ev, setd, List.set, List.cons_append, List.nil_append, List.length_cons, List.length_nil, List.replicate, then_normal, Bool.or_false, Bool.false_eq_true, up_zero, Nat.reduceAdd, Nat.reduceSub]
  refine h1 _ _ ?_
  try clear h1 K_h1
  refine T.seq_k (fun K_h1 h1 => ?_)
  refine T.regi hm ?_
  simp only [↓reduceIte, namesOf, List.any, I.names, aopsI, astep, ev, setd, List.set, List.getD, List.getElem?_cons_zero, List.getElem?_cons_succ, then_normal, Option.getD_some, Bool.or_false, Bool.false_eq_true, up_zero, List.map_nil]
  refine up12_ok.mono ?_
  rintro v σ1 ⟨rfl, rfl⟩
  try simp only [↓reduceIte, namesOf, List.any, I.names, aops, aopsI, aopsT, qstep, CPt, qget, Tbl.get, astep, ev, setd, List.set, List.getD, List.getElem?_cons_zero, List.getElem?_cons_succ, List.getElem?_nil, List.cons_append, List.nil_append, List.length_cons, List.length_nil, List.replicate, then_normal, inBlock_normal, Option.getD_some, Option.getD_none, Bool.or_false, Bool.or_true, Bool.true_or, Bool.false_or, Bool.false_eq_true, if_false, if_true, up_zero, Nat.reduceAdd, Nat.reduceSub, binv, ↓opt_def, AV.isAny, AV.cells, ldc, List.map_cons, List.map_nil, St.set_next, St.set_same, St.up_next, Int.natCast_nonneg, lt_len, le_len, Int.toNat_natCast, true_and, and_true, eq_self, reduceCtorEq, decide_true, List.length_singleton, er_int, er_bool, er_str, up_zero]
  refine h1 _ _ ?_
  try clear h1 K_h1
  refine T.seq_k (fun K_h1 h1 => ?_)
  refine T.seq_k (fun K_h2 h2 => ?_)
  have done : ∀ ρ, keep [5, 21] 0 ρ = List.replicate 5 .any ++ [.bool true] ++ List.replicate 15 .any ++ [.bool true] ++ List.replicate 50 .any → K_h2 ρ σ1 := by
    intro ρ hρ
    refine h2 _ _ (T.gh (Gh.keep [5, 21]) ?_)
    rw [hρ]
    clear h1 h2 hρ ρ
    refine T.cond rfl (fun _ => ?_) (fun h => by cases h)
    refine T.seq_k (fun K_h2 h2 => ?_)
    refine T.regi hm ?_
    simp only [↓reduceIte, namesOf, List.any, I.names, aopsI, astep, ev, setd, List.set, List.getD, List.getElem?_cons_zero, List.getElem?_cons_succ, List.cons_append, List.nil_append, List.replicate, then_normal, Option.getD_some, Bool.or_false, Bool.false_eq_true, up_zero]
    refine h2 _ _ ?_
    try clear h2 K_h2
    exact T.ret (Fin.ret rfl ⟨rfl, rfl⟩)
  by_cases hll : l.length ≤ 300
  case neg =>
    have e1 : decide ((l.length : Int) > 300) = true := decide_eq_true (by omega)
    refine T.regi hm ?_
    simp only [↓reduceIte, namesOf, List.any, I.names, aopsI, astep, ev, setd, List.set, List.getD, List.getElem?_cons_zero, List.getElem?_cons_succ, then_normal, Option.getD_some, Bool.or_false, Bool.false_eq_true, up_zero, binv, ↓opt_def, eq_self, reduceCtorEq, nums_len, natI_len, e1]
    exact done _ rfl
  have e1 : decide ((l.length : Int) > 300) = false := decide_eq_false (by omega)
  by_cases hxl : x.length ≤ 5000
  case neg =>
    have e2 : decide ((x.length : Int) > 5000) = true := decide_eq_true (by omega)
    refine T.regi hm ?_
    simp only [↓reduceIte, namesOf, List.any, I.names, aopsI, astep, ev, setd, List.set, List.getD, List.getElem?_cons_zero, List.getElem?_cons_succ, then_normal, Option.getD_some, Bool.or_false, Bool.false_eq_true, up_zero, binv, ↓opt_def, eq_self, nums_len, natI_len, e1, bytesAV_len, e2]
    exact done _ rfl
  have e2 : decide ((x.length : Int) > 5000) = false := decide_eq_false (by omega)
  refine T.regi hm ?_
  simp only [↓reduceIte, namesOf, List.any, I.names, aopsI, astep, ev, setd, List.set, List.getD, List.getElem?_cons_zero, List.getElem?_cons_succ, then_normal, Option.getD_some, Bool.or_false, Bool.false_eq_true, up_zero, binv, ↓opt_def, eq_self, nums_len, natI_len, e1, bytesAV_len, e2]
  refine h2 _ _ ?_
  try clear h2 K_h2
  clear done
  refine T.cond rfl (fun h => by cases h) (fun _ => ?_)
  refine T.skip ?_
  refine h1 _ _ ?_
  try clear h1 K_h1
  refine T.gh (Gh.keep [0, 1, 5]) ?_
  refine T.seq_k (fun K_h1 h1 => ?_)
  refine T.regi hm ?_
  try simp only [↓reduceIte, namesOf, List.any, I.names, aopsI, astep, ev, setd, List.set, List.getD, List.getElem?_cons_zero, List.getElem?_cons_succ, then_normal, Option.getD_some, Bool.or_false, Bool.or_true, Bool.false_eq_true, up_zero, Nat.reduceAdd, ↓opt_def, List.map_cons, List.map_nil, eq_self, keep, List.contains_cons, List.contains_nil, beq_self_eq_true, Nat.reduceBEq]
  have hrl : (natI l).length ≤ 1099511627776 := by rw [natI_len]; omega
  refine (iput_ok (by omega) hbd).mono ?_
  -- what follows once the bytes were found right
  have rest : ∀ ρ, keep [0, 1, 5] 0 ρ = [.sl (nums .u64 (natI l)) g, .sl (bytesAV x) g', .any, .any, .any, .bool true] ++ List.replicate 66 .any → True := fun _ _ => trivial
  clear rest
  rintro v σ2 ⟨rfl, rfl⟩
  cases hr : risesB (natI l) with
  | false =>
    rw [if_neg (by simp), errAV_eq 1 (by omega)]
    try simp only [List.getElem?_cons_zero, List.getElem?_cons_succ]
    refine h1 _ _ ?_
    try clear h1 K_h1
    refine T.seq_k (fun K_h1 h1 => ?_)
    refine T.regi hm ?_
    simp only [↓reduceIte, namesOf, List.any, I.names, aopsI, astep, ev, setd, List.set, List.getD, List.getElem?_cons_zero, List.getElem?_cons_succ, then_normal, Option.getD_some, Bool.or_false, Bool.false_eq_true, up_zero, List.map_cons, List.map_nil]
    refine (rrises_ok hrl).mono ?_
    rintro v σ3 ⟨rfl, rfl⟩
    rw [hr]
    try simp only [↓reduceIte, namesOf, List.any, I.names, aops, aopsI, aopsT, qstep, CPt, qget, Tbl.get, astep, ev, setd, List.set, List.getD, List.getElem?_cons_zero, List.getElem?_cons_succ, List.getElem?_nil, List.cons_append, List.nil_append, List.length_cons, List.length_nil, List.replicate, then_normal, inBlock_normal, Option.getD_some, Option.getD_none, Bool.or_false, Bool.or_true, Bool.true_or, Bool.false_or, Bool.false_eq_true, if_false, if_true, up_zero, Nat.reduceAdd, Nat.reduceSub, binv, ↓opt_def, AV.isAny, AV.cells, ldc, List.map_cons, List.map_nil, St.set_next, St.set_same, St.up_next, Int.natCast_nonneg, lt_len, le_len, Int.toNat_natCast, true_and, and_true, eq_self, reduceCtorEq, decide_true, List.length_singleton, er_int, er_bool, er_str, up_zero]
    refine h1 _ _ ?_
    try clear h1 K_h1
    refine T.seq_k (fun K_h1 h1 => ?_)
    refine T.seq_k (fun K_h2 h2 => ?_)
    refine T.regi hm ?_
    simp only [↓reduceIte, namesOf, List.any, I.names, aopsI, astep, ev, setd, List.set, List.getD, List.getElem?_cons_zero, List.getElem?_cons_succ, then_normal, Option.getD_some, Bool.or_false, Bool.false_eq_true, up_zero, Bool.not_false]
    refine h2 _ _ ?_
    try clear h2 K_h2
    refine T.cond rfl (fun _ => ?_) (fun h => by cases h)
    refine T.seq_k (fun K_h2 h2 => ?_)
    refine T.regi hm ?_
    simp only [↓reduceIte, namesOf, List.any, I.names, aopsI, astep, ev, setd, List.set, List.getD, List.getElem?_cons_zero, List.getElem?_cons_succ, List.length_nil, then_normal, Option.getD_some, Bool.or_false, Bool.false_eq_true, up_zero, binv, ↓opt_def, eq_self, decide_true, eqIv, beq_self_eq_true, Bool.and_self, Bool.bne_true, Bool.not_true, show (((0 : Nat) : Int) != 0) = false by rfl]
    refine h2 _ _ ?_
    try clear h2 K_h2
    refine T.cond rfl (fun h => by cases h) (fun _ => ?_)
    refine T.skip ?_
    refine h1 _ _ ?_
    try clear h1 K_h1
    refine T.gh (Gh.keep [1, 5]) ?_
    refine T.seq_k (fun K_h1 h1 => ?_)
    refine T.regi hm ?_
    try simp only [↓reduceIte, namesOf, List.any, I.names, aopsI, astep, ev, setd, List.set, List.getD, List.getElem?_cons_zero, List.getElem?_cons_succ, then_normal, Option.getD_some, Bool.or_false, Bool.or_true, Bool.false_eq_true, up_zero, Nat.reduceAdd, ↓opt_def, List.map_cons, List.map_nil, eq_self, keep, List.contains_cons, List.contains_nil, beq_self_eq_true, Nat.reduceBEq]
    refine (iget_ok (by omega)).mono ?_
    rintro v σ4 ⟨rfl, rfl⟩
    try simp only [List.getElem?_cons_zero, List.getElem?_cons_succ]
    refine h1 _ _ ?_
    try clear h1 K_h1
    refine T.seq_k (fun K_h1 h1 => ?_)
    refine T.regi hm ?_
    simp only [↓reduceIte, namesOf, List.any, I.names, aopsI, astep, ev, setd, List.set, List.getD, List.getElem?_cons_zero, List.getElem?_cons_succ, then_normal, Option.getD_some, Bool.or_false, Bool.false_eq_true, up_zero, ↓opt_def, List.map_cons, List.map_nil]
    refine (rindexed_ok (by omega)).mono ?_
    rintro v σ5 ⟨rfl, rfl⟩
    try simp only [List.getElem?_cons_zero, List.getElem?_cons_succ]
    refine h1 _ _ ?_
    try clear h1 K_h1
    refine T.seq_k (fun K_h1 h1 => ?_)
    obtain ⟨c, hc, ec⟩ := indexedB_code x
    rw [ec]
    refine T.regi hm ?_
    simp only [↓reduceIte, namesOf, List.any, I.names, aopsI, astep, ev, setd, List.set, List.getD, List.getElem?_cons_zero, List.getElem?_cons_succ, then_normal, Option.getD_some, Bool.or_false, Bool.false_eq_true, up_zero, binv, ↓opt_def, List.map_cons, List.map_nil, eq_self]
    refine (code_ok hc).mono ?_
    rintro v σ6 ⟨rfl, rfl⟩
    try simp only [↓reduceIte, eq_self, beq_self_eq_true]
    refine (ids_ok (by rw [natI_len]; have := indexedB_len x hxl; omega)).mono ?_
    rintro v σ7 ⟨rfl, rfl⟩
    try simp only [eq_self, decide_true, decide_true]
    refine h1 _ _ ?_
    try clear h1 K_h1
    exact T.ret (Fin.ret rfl ⟨rfl, rfl⟩)
  | true =>
    rw [if_pos rfl]
    try simp only [List.getElem?_cons_zero, List.getElem?_cons_succ]
    refine h1 _ _ ?_
    try clear h1 K_h1
    refine T.seq_k (fun K_h1 h1 => ?_)
    refine T.regi hm ?_
    simp only [↓reduceIte, namesOf, List.any, I.names, aopsI, astep, ev, setd, List.set, List.getD, List.getElem?_cons_zero, List.getElem?_cons_succ, then_normal, Option.getD_some, Bool.or_false, Bool.false_eq_true, up_zero, List.map_cons, List.map_nil]
    refine (rrises_ok hrl).mono ?_
    rintro v σ3 ⟨rfl, rfl⟩
    rw [hr]
    try simp only [↓reduceIte, namesOf, List.any, I.names, aops, aopsI, aopsT, qstep, CPt, qget, Tbl.get, astep, ev, setd, List.set, List.getD, List.getElem?_cons_zero, List.getElem?_cons_succ, List.getElem?_nil, List.cons_append, List.nil_append, List.length_cons, List.length_nil, List.replicate, then_normal, inBlock_normal, Option.getD_some, Option.getD_none, Bool.or_false, Bool.or_true, Bool.true_or, Bool.false_or, Bool.false_eq_true, if_false, if_true, up_zero, Nat.reduceAdd, Nat.reduceSub, binv, ↓opt_def, AV.isAny, AV.cells, ldc, List.map_cons, List.map_nil, St.set_next, St.set_same, St.up_next, Int.natCast_nonneg, lt_len, le_len, Int.toNat_natCast, true_and, and_true, eq_self, reduceCtorEq, decide_true, List.length_singleton, er_int, er_bool, er_str, up_zero]
    refine h1 _ _ ?_
    try clear h1 K_h1
    refine T.seq_k (fun K_h1 h1 => ?_)
    refine T.seq_k (fun K_h2 h2 => ?_)
    refine T.regi hm ?_
    simp only [↓reduceIte, namesOf, List.any, I.names, aopsI, astep, ev, setd, List.set, List.getD, List.getElem?_cons_zero, List.getElem?_cons_succ, then_normal, Option.getD_some, Bool.or_false, Bool.false_eq_true, up_zero, Bool.not_true]
    refine h2 _ _ ?_
    try clear h2 K_h2
    refine T.cond rfl (fun h => by cases h) (fun _ => ?_)
    refine T.seq_k (fun K_h2 h2 => ?_)
    refine T.regi hm ?_
    simp only [↓reduceIte, namesOf, List.any, I.names, aopsI, astep, ev, setd, List.set, List.getD, List.getElem?_cons_zero, List.getElem?_cons_succ, then_normal, Option.getD_some, Bool.or_false, Bool.false_eq_true, up_zero, ↓opt_def, List.map_cons, List.map_nil, eq_self, eqIv, bne_self_eq_false, toBytes_bytes, sbinv, ba_eq]
    refine ⟨_, rindex_ok (by omega) hbd, ?_⟩
    try simp only [eq_self, decide_true, toBytes_bytes, decide_true, Bool.not_true]
    refine h2 _ _ ?_
    try clear h2 K_h2
    refine T.cond rfl (fun h => by cases h) (fun _ => ?_)
    refine T.skip ?_
    refine h1 _ _ ?_
    try clear h1 K_h1
    refine T.gh (Gh.keep [1, 5]) ?_
    refine T.seq_k (fun K_h1 h1 => ?_)
    refine T.regi hm ?_
    try simp only [↓reduceIte, namesOf, List.any, I.names, aopsI, astep, ev, setd, List.set, List.getD, List.getElem?_cons_zero, List.getElem?_cons_succ, then_normal, Option.getD_some, Bool.or_false, Bool.or_true, Bool.false_eq_true, up_zero, Nat.reduceAdd, ↓opt_def, List.map_cons, List.map_nil, eq_self, keep, List.contains_cons, List.contains_nil, beq_self_eq_true, Nat.reduceBEq]
    refine (iget_ok (by omega)).mono ?_
    rintro v σ4 ⟨rfl, rfl⟩
    try simp only [List.getElem?_cons_zero, List.getElem?_cons_succ]
    refine h1 _ _ ?_
    try clear h1 K_h1
    refine T.seq_k (fun K_h1 h1 => ?_)
    refine T.regi hm ?_
    simp only [↓reduceIte, namesOf, List.any, I.names, aopsI, astep, ev, setd, List.set, List.getD, List.getElem?_cons_zero, List.getElem?_cons_succ, then_normal, Option.getD_some, Bool.or_false, Bool.false_eq_true, up_zero, ↓opt_def, List.map_cons, List.map_nil]
    refine (rindexed_ok (by omega)).mono ?_
    rintro v σ5 ⟨rfl, rfl⟩
    try simp only [List.getElem?_cons_zero, List.getElem?_cons_succ]
    refine h1 _ _ ?_
    try clear h1 K_h1
    refine T.seq_k (fun K_h1 h1 => ?_)
    obtain ⟨c, hc, ec⟩ := indexedB_code x
    rw [ec]
    refine T.regi hm ?_
    simp only [↓reduceIte, namesOf, List.any, I.names, aopsI, astep, ev, setd, List.set, List.getD, List.getElem?_cons_zero, List.getElem?_cons_succ, then_normal, Option.getD_some, Bool.or_false, Bool.false_eq_true, up_zero, binv, ↓opt_def, List.map_cons, List.map_nil, eq_self]
    refine (code_ok hc).mono ?_
    rintro v σ6 ⟨rfl, rfl⟩
    try simp only [↓reduceIte, eq_self, beq_self_eq_true]
    refine (ids_ok (by rw [natI_len]; have := indexedB_len x hxl; omega)).mono ?_
    rintro v σ7 ⟨rfl, rfl⟩
    try simp only [eq_self, decide_true, decide_true]
    refine h1 _ _ ?_
    try clear h1 K_h1
    exact T.ret (Fin.ret rfl ⟨rfl, rfl⟩)
end Go.VL
