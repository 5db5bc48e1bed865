/- Contracts: rows put together; an index of pages. -/
import Derived.Test.YtlbnimbgodmagaaVrD
namespace Go.VL
open Go.Proofs

theorem tcs_fits (l : List Tc) : (tcsAV l).all (AV.fits 2) = true := by
  simp [tcsAV, Tc.av, AV.fits, AV.isAny, AV.cells, AV.one]
theorem tcs_er (l : List Tc) : (tcsAV l).map AV.er = tcsAV l := by
  simp only [tcsAV, List.map_map]
  apply List.map_congr_left
  intro t _
  rfl
theorem tcs_app (a b : List Tc) : tcsAV a ++ tcsAV b = tcsAV (a ++ b) := by simp [tcsAV]
theorem nbs_tcs (m : Nat) (l : List Tc) : nbs m (tcsAV l) := by
  rw [nbs_iff]
  intro x hx
  obtain ⟨t, _, rfl⟩ := List.mem_map.1 hx
  simp only [Tc.av, AV.nb, nbs, true_and, and_true, Ver.nb]
  rw [nbs_iff]
  intro y hy
  obtain ⟨s, _, rfl⟩ := List.mem_map.1 hy
  simp only [Sp.av, AV.nb, nbs, true_and, and_true, Ver.nb]
  exact (nb_bytes m s.da)
theorem totalP_flat (l : List (List Tc)) : totalP l = l.flatten.length := by simp [totalP, List.length_flatten]
theorem flat_take1 {l : List (List Tc)} {i : Nat} (h : i < l.length) : (l.take (i + 1)).flatten = (l.take i).flatten ++ l[i] := by
  rw [List.take_succ_eq_append_getElem h, List.flatten_append]; simp
theorem flat_take_le {l : List (List Tc)} (i : Nat) : (l.take i).flatten.length ≤ l.flatten.length := by
  conv => rhs; rw [← List.take_append_drop i l]
  rw [List.flatten_append, List.length_append]; omega

set_option maxRecDepth 10000 in
theorem concatt_ok {l : List (List Tc)} {g : Ver} {σ : St} (hl : l.length ≤ 1000000000) (hs : l.flatten.length ≤ 1000000000) :
    ACalls Try.prog n_concatt [.sl (pgsAV l) g] σ (fun v σ' => v = .sl (tcsAV l.flatten) .none ∧ σ' = σ) := by
  refine s_concatt (fun wf => ?_)
  unfold c_concatt
  refine T.seq_k (fun K_h1 h1 => ?_)
  refine T.regi hm ?_
  simp only [↓reduceIte, namesOf, List.any, I.names, aopsI, astep, ev, setd, List.set, List.cons_append, List.nil_append, List.length_cons, List.length_nil, List.replicate, then_normal, Bool.or_false, Bool.false_eq_true, up_zero, Nat.reduceAdd, Nat.reduceSub]
  refine h1 _ _ ?_
  try clear h1 K_h1
  refine T.seq_k (fun K_h1 h1 => ?_)
  refine T.regi hm ?_
  simp only [↓reduceIte, namesOf, List.any, I.names, aopsI, astep, ev, setd, List.set, then_normal, Bool.or_false, Bool.false_eq_true, up_zero]
  refine h1 _ _ ?_
  try clear h1 K_h1
  refine T.seq_k (fun K_h1 h1 => ?_)
  refine T.seq_k (fun K_h2 h2 => ?_)
  refine T.regi hm ?_
  simp only [↓reduceIte, namesOf, List.any, I.names, aopsI, astep, ev, setd, List.set, List.getD, List.getElem?_cons_zero, List.getElem?_cons_succ, then_normal, Option.getD_some, Bool.or_false, Bool.false_eq_true, up_zero, pgs_len]
  refine h2 _ _ ?_
  try clear h2 K_h2
  refine T.block ?_
  refine T.gh (Gh.keep [0, 3, 9, 10, 11]) ?_
  refine T.loopi (fun i ρ σ' => σ' = σ ∧ ρ = [.sl (pgsAV l) g, .any, .any, .int .i64 ((l.take i).flatten.length : Int), .any, .any, .any, .any, .any, .sl (pgsAV l) g, .int .i64 (l.length : Int), .int .i64 (i : Int)] ++ List.replicate 24 .any)
    l.length 0 (Nat.zero_le _) ⟨rfl, rfl⟩ ?_
  rintro i ρ σ' hi ⟨rfl, rfl⟩
  refine T.seq_k (fun K_h2 h2 => ?_)
  refine T.regi hm ?_
  simp only [↓reduceIte, namesOf, List.any, I.names, aopsI, astep, ev, setd, List.set, List.getD, List.getElem?_cons_zero, List.getElem?_cons_succ, List.cons_append, List.nil_append, List.replicate, then_normal, Option.getD_some, Bool.or_false, Bool.false_eq_true, up_zero, binv, ↓opt_def, lt_len, eq_self]
  refine h2 _ _ ?_
  try clear h2 K_h2
  refine T.seq_k (fun K_h2 h2 => ?_)
  refine T.cond rfl (fun hb => ?_) (fun hb => ?_)
  · refine T.skip ?_
    refine h2 _ _ ?_
    try clear h2 K_h2
    have hil : i < l.length := by simpa using hb
    clear hb
    refine T.seq_k (fun K_h2 h2 => ?_)
    refine T.block ?_
    refine T.seq_k (fun K_h3 h3 => ?_)
    refine T.regi hm ?_
    simp only [↓reduceIte, namesOf, List.any, I.names, aopsI, astep, ev, setd, List.set, List.getD, List.getElem?_cons_zero, List.getElem?_cons_succ, List.cons_append, List.nil_append, List.length_cons, List.length_nil, List.replicate, then_normal, Option.getD_some, Bool.or_false, Bool.false_eq_true, up_zero, Nat.reduceAdd, ↓opt_def, AV.cells, ldc, Int.natCast_nonneg, lt_len, Int.toNat_natCast, true_and, and_true, eq_self, decide_true, pgs_len, pgs_get hil, hil]
    refine h3 _ _ ?_
    try clear h3 K_h3
    refine T.seq_k (fun K_h3 h3 => ?_)
    have hle := flat_take_le (l := l) (i + 1)
    have hft := flat_take1 hil
    have e1 : IntKind.i64.wrap (((l.take i).flatten.length : Int) + (l[i].length : Int)) = ((l.take (i + 1)).flatten.length : Int) := by
      rw [hft] at hle ⊢
      rw [List.length_append] at hle ⊢
      rw [wrap64 (by omega) (by omega)]; omega
    refine T.regi hm ?_
    simp only [↓reduceIte, namesOf, List.any, I.names, aopsI, astep, ev, setd, List.set, List.getD, List.getElem?_cons_zero, List.getElem?_cons_succ, List.cons_append, List.nil_append, List.replicate, then_normal, Option.getD_some, Bool.or_false, Bool.false_eq_true, up_zero, binv, ↓opt_def, eq_self, tcs_len, e1]
    refine h3 _ _ ?_
    try clear h3 K_h3
    refine T.seq_k (fun K_h3 h3 => ?_)
    have e2 : decide (((l.take (i + 1)).flatten.length : Int) < 0) = false := decide_eq_false (by omega)
    refine T.regi hm ?_
    simp only [↓reduceIte, namesOf, List.any, I.names, aopsI, astep, ev, setd, List.set, List.getD, List.getElem?_cons_zero, List.getElem?_cons_succ, List.cons_append, List.nil_append, List.replicate, then_normal, Option.getD_some, Bool.or_false, Bool.false_eq_true, up_zero, binv, ↓opt_def, eq_self, e2]
    refine h3 _ _ ?_
    try clear h3 K_h3
    refine T.cond rfl (fun h => by cases h) (fun _ => T.skip ?_)
    refine h2 _ _ ?_
    try clear h2 K_h2
    have hw := inc64 hil (by omega)
    refine T.regi hm ?_
    simp only [↓reduceIte, namesOf, List.any, I.names, aopsI, astep, ev, setd, List.set, List.getD, List.getElem?_cons_zero, List.getElem?_cons_succ, List.cons_append, List.nil_append, List.replicate, then_normal, Option.getD_some, Bool.or_false, Bool.false_eq_true, up_zero, binv, ↓opt_def, eq_self, hw]
    exact ⟨hil, _, _, Gh.keep [0, 3, 9, 10, 11], rfl, rfl⟩
  · refine T.exit ?_
    have : i = l.length := by simp at hb; omega
    subst this
    rw [List.take_length]
    try simp only [List.cons_append, List.nil_append, List.replicate, then_normal, inBlock_exit, then_exit]
    refine h1 _ _ ?_
    try clear h1 K_h1
    refine T.seq_k (fun K_h1 h1 => ?_)
    refine T.regi hm ?_
    simp only [↓reduceIte, namesOf, List.any, I.names, aopsI, astep, ev, setd, List.set, List.getD, List.getElem?_cons_zero, List.getElem?_cons_succ, then_normal, Option.getD_some, Bool.or_false, Bool.false_eq_true, up_zero, List.map_cons, List.map_nil]
    refine (growt_ok (n := l.flatten.length) hs).mono ?_
    rintro v σ1 hv
    try simp only [↓reduceIte, namesOf, List.any, I.names, aops, aopsI, aopsT, qstep, CPt, qget, Tbl.get, astep, ev, setd, List.set, List.getD, List.getElem?_cons_zero, List.getElem?_cons_succ, List.getElem?_nil, List.cons_append, List.nil_append, List.length_cons, List.length_nil, List.replicate, then_normal, inBlock_normal, Option.getD_some, Option.getD_none, Bool.or_false, Bool.or_true, Bool.true_or, Bool.false_or, Bool.false_eq_true, if_false, if_true, up_zero, Nat.reduceAdd, Nat.reduceSub, binv, ↓opt_def, AV.isAny, AV.cells, ldc, List.map_cons, List.map_nil, St.set_next, St.set_same, St.up_next, Int.natCast_nonneg, lt_len, le_len, Int.toNat_natCast, true_and, and_true, eq_self, reduceCtorEq, decide_true, List.length_singleton, er_int, er_bool, er_str, up_zero]
    refine h1 _ _ ?_
    try clear h1 K_h1
    refine T.seq_k (fun K_h1 h1 => ?_)
    refine T.seq_k (fun K_h2 h2 => ?_)
    refine T.regi hm ?_
    simp only [↓reduceIte, namesOf, List.any, I.names, aopsI, astep, ev, setd, List.set, List.getD, List.getElem?_cons_zero, List.getElem?_cons_succ, then_normal, Option.getD_some, Bool.or_false, Bool.false_eq_true, up_zero, pgs_len]
    refine h2 _ _ ?_
    try clear h2 K_h2
    refine T.block ?_
    refine T.gh (Gh.keep [6, 25, 26, 27]) ?_
    refine T.loopi (fun i ρ σ2 => ((l.flatten.length = 0 ∧ (∀ n r, σ'.res n = some r → σ2.res n = some r) ∧ ρ.getD 6 .any = .sl [] .nil) ∨ ∃ g1, OneTip σ' σ2 g1 2 ∧ ρ.getD 6 .any = .sl (tcsAV (l.take i).flatten) (.tip g1)) ∧
      ∃ x, ρ = [.any, .any, .any, .any, .any, .any, x, .any, .any, .any, .any, .any, .any, .any, .any, .any, .any, .any, .any, .any, .any, .any, .any, .any, .any, .sl (pgsAV l) g, .int .i64 (l.length : Int), .int .i64 (i : Int)] ++ List.replicate 8 .any)
      l.length 0 (Nat.zero_le _) ⟨?_, v, rfl⟩ ?_
    · rcases hv with ⟨h0, rfl, rfl⟩ | ⟨g1, o1, rfl⟩
      · exact .inl ⟨h0, fun _ _ h => h, rfl⟩
      · exact .inr ⟨g1, o1, by simp [tcsAV, keep]⟩
    clear hv
    rintro i ρ σ2 hi2 ⟨hv, x, rfl⟩
    simp only [List.cons_append, List.getD, List.getElem?_cons_succ, List.getElem?_cons_zero, Option.getD_some] at hv
    refine T.seq_k (fun K_h2 h2 => ?_)
    refine T.regi hm ?_
    simp only [↓reduceIte, namesOf, List.any, I.names, aopsI, astep, ev, setd, List.set, List.getD, List.getElem?_cons_zero, List.getElem?_cons_succ, List.cons_append, List.nil_append, List.replicate, then_normal, Option.getD_some, Bool.or_false, Bool.false_eq_true, up_zero, binv, ↓opt_def, lt_len, eq_self]
    refine h2 _ _ ?_
    try clear h2 K_h2
    refine T.seq_k (fun K_h2 h2 => ?_)
    refine T.cond rfl (fun hb => ?_) (fun hb => ?_)
    · refine T.skip ?_
      refine h2 _ _ ?_
      try clear h2 K_h2
      have hil : i < l.length := by simpa using hb
      clear hb
      have hw := inc64 hil (by omega)
      have hle := flat_take_le (l := l) (i + 1)
      have hft := flat_take1 hil
      refine T.seq_k (fun K_h2 h2 => ?_)
      refine T.block ?_
      refine T.seq_k (fun K_h3 h3 => ?_)
      refine T.regi hm ?_
      simp only [↓reduceIte, namesOf, List.any, I.names, aopsI, astep, ev, setd, List.set, List.getD, List.getElem?_cons_zero, List.getElem?_cons_succ, List.cons_append, List.nil_append, List.length_cons, List.length_nil, List.replicate, then_normal, Option.getD_some, Bool.or_false, Bool.false_eq_true, up_zero, Nat.reduceAdd, ↓opt_def, AV.cells, ldc, Int.natCast_nonneg, lt_len, Int.toNat_natCast, true_and, and_true, eq_self, decide_true, pgs_len, pgs_get hil, hil]
      refine h3 _ _ ?_
      try clear h3 K_h3
      rcases hv with ⟨h0, hq0, rfl⟩ | ⟨g1, o1, rfl⟩
      · have hz : l[i] = [] := by
          apply List.eq_nil_of_length_eq_zero
          rw [hft, List.length_append] at hle; omega
        refine T.regi hm ?_
        simp only [↓reduceIte, namesOf, List.any, I.names, aopsI, astep, ev, setd, List.set, List.getD, List.getElem?_cons_zero, List.getElem?_cons_succ, List.cons_append, List.nil_append, List.length_cons, List.length_nil, List.replicate, then_normal, inBlock_normal, Option.getD_some, Bool.or_false, Bool.or_true, Nat.reduceAdd, List.map_nil, eq_self, decide_true, srcOf, hz, tcsAV, List.all_nil, Bool.true_and, List.isEmpty, Nat.zero_mul, Nat.zero_le, and_self, Nat.add_zero, Nat.zero_add]
        refine h2 _ _ ?_
        try clear h2 K_h2
        refine T.regi hm ?_
        simp only [↓reduceIte, namesOf, List.any, I.names, aopsI, astep, ev, setd, List.set, List.getD, List.getElem?_cons_zero, List.getElem?_cons_succ, List.cons_append, List.nil_append, List.replicate, then_normal, Option.getD_some, Bool.or_false, Bool.false_eq_true, up_zero, binv, ↓opt_def, eq_self, hw]
        exact ⟨hil, _, _, Gh.keep [6, 25, 26, 27], .inl ⟨h0, hq0, rfl⟩, _, rfl⟩
      · refine T.regi hm ?_
        simp only [↓reduceIte, namesOf, List.any, I.names, aopsI, astep, ev, setd, List.set, List.getD, List.getElem?_cons_zero, List.getElem?_cons_succ, List.cons_append, List.nil_append, List.length_cons, List.length_nil, List.replicate, then_normal, inBlock_normal, Option.getD_some, Bool.or_false, Bool.or_true, Nat.reduceAdd, eq_self, srcOf, tcs_er, o1.at_, St.up_res, tcs_app, ← hft, tcs_fits, Bool.true_and]
        rw [if_pos (by rw [hft, List.length_append] at hle; simp only [tcs_len, decide_eq_true_eq]; omega)]
        have o2 : OneTip σ' (((σ2.up 4).del g1).set (σ2.next + 2) (Res.tip 2)) (σ2.next + 2) 2 := (o1.up 4).mv wf (by have := o1.lo; have := o1.hi; omega) (by simp)
        refine h2 _ _ ?_
        try clear h2 K_h2
        refine T.regi hm ?_
        simp only [↓reduceIte, namesOf, List.any, I.names, aopsI, astep, ev, setd, List.set, List.getD, List.getElem?_cons_zero, List.getElem?_cons_succ, List.cons_append, List.nil_append, List.replicate, then_normal, Option.getD_some, Bool.or_false, Bool.false_eq_true, up_zero, binv, ↓opt_def, eq_self, hw]
        exact ⟨hil, _, _, Gh.keep [6, 25, 26, 27], .inr ⟨_, o2, rfl⟩, _, rfl⟩
    · refine T.exit ?_
      have : i = l.length := by simp at hb; omega
      subst this
      rw [List.take_length] at hv
      try simp only [List.getD, List.cons_append, List.nil_append, List.replicate, then_normal, inBlock_exit, then_exit]
      refine h1 _ _ ?_
      try clear h1 K_h1
      refine T.seq_k (fun K_h1 h1 => ?_)
      refine T.regi hm ?_
      simp only [↓reduceIte, namesOf, List.any, I.names, aopsI, astep, ev, setd, List.set, List.getD, List.getElem?_cons_zero, List.getElem?_cons_succ, then_normal, Option.getD_some, Bool.or_false, Bool.false_eq_true, up_zero]
      refine h1 _ _ ?_
      try clear h1 K_h1
      rcases hv with ⟨h0, hq0, rfl⟩ | ⟨g1, o1, rfl⟩
      · have : l.flatten = [] := List.eq_nil_of_length_eq_zero h0
        exact T.ret (Fin.quietw rfl (Wk.sl _ _) ⟨trivial, trivial⟩ hq0 ⟨by rw [this]; rfl, rfl⟩)
      · exact T.ret (Fin.quietw rfl (Wk.sl _ _) ⟨nbs_tcs _ _, trivial⟩ (o1.quiet wf) ⟨rfl, rfl⟩)

def firsts (l : List (List Tc)) : List Nat := l.map fun p => (p.headD ⟨0, []⟩).id
def ofB (l : List (List Tc)) : Bool := l.all (fun p => !p.isEmpty) && decide (l.length ≤ 200) && isB l.flatten
theorem nums_snoc (k : IntKind) (a : List Int) (n : Int) : nums k a ++ [.int k n] = nums k (a ++ [n]) := by simp [nums]
theorem natI_snoc (a : List Nat) (n : Nat) : natI (a ++ [n]) = natI a ++ [(n : Int)] := by simp [natI]
theorem firsts_take {l : List (List Tc)} {i : Nat} (h : i < l.length) {t : Tc} {r : List Tc} (hp : l[i] = t :: r) : firsts (l.take (i + 1)) = firsts (l.take i) ++ [t.id] := by
  unfold firsts
  rw [List.take_succ_eq_append_getElem h, List.map_append, hp]; rfl

set_option maxRecDepth 10000 in
theorem iof_ok {l : List (List Tc)} {g : Ver} {σ : St} (hl : l.length ≤ 1000000000) (hs : l.flatten.length ≤ 1000000000) (hsp : ∀ p ∈ l, ∀ t ∈ p, t.sp.length ≤ 9223372036854775807) :
    ACalls Try.prog n_iof [.sl (pgsAV l) g] σ (fun v σ' => v = (if ofB l = true then .tup [.sl (nums .u64 (natI (firsts l))) .none, .nili] else .tup [.sl [] .none, errAV 1]) ∧ σ' = σ) := by
  refine s_iof (fun wf => ?_)
  unfold c_iof
  refine T.seq_k (fun K_h1 h1 => ?_)
  refine T.regi hm ?_
  simp only [↓reduceIte, namesOf, List.any, I.names, aopsI, astep, ev, setd, List.set, List.cons_append, List.nil_append, List.length_cons, List.length_nil, List.replicate, then_normal, Bool.or_false, Bool.false_eq_true, up_zero, Nat.reduceAdd, Nat.reduceSub]
  refine h1 _ _ ?_
  try clear h1 K_h1
  refine T.seq_k (fun K_h1 h1 => ?_)
  refine T.regi hm ?_
  simp only [↓reduceIte, namesOf, List.any, I.names, aopsI, astep, ev, setd, List.set, then_normal, Bool.or_false, Bool.false_eq_true, up_zero]
  refine h1 _ _ ?_
  try clear h1 K_h1
  refine T.seq_k (fun K_h1 h1 => ?_)
  refine T.seq_k (fun K_h2 h2 => ?_)
  refine T.regi hm ?_
  simp only [↓reduceIte, namesOf, List.any, I.names, aopsI, astep, ev, setd, List.set, List.getD, List.getElem?_cons_zero, List.getElem?_cons_succ, then_normal, Option.getD_some, Bool.or_false, Bool.false_eq_true, up_zero, pgs_len]
  refine h2 _ _ ?_
  try clear h2 K_h2
  refine T.block ?_
  refine T.gh (Gh.keep [0, 4, 7, 8, 9]) ?_
  refine T.loopi (fun i ρ σ' => ((i = 0 ∧ σ' = σ ∧ ρ.getD 4 .any = .sl [] .nil) ∨ ∃ g1, OneTip σ σ' g1 1 ∧ ρ.getD 4 .any = .sl (nums .u64 (natI (firsts (l.take i)))) (.tip g1)) ∧ (l.take i).all (fun p => !p.isEmpty) = true ∧
    ∃ x, ρ = [.sl (pgsAV l) g, .any, .any, .any, x, .any, .any, .sl (pgsAV l) g, .int .i64 (l.length : Int), .int .i64 (i : Int)] ++ List.replicate 26 .any)
    l.length 0 (Nat.zero_le _) ⟨.inl ⟨rfl, rfl, rfl⟩, by simp, _, rfl⟩ ?_
  rintro i ρ σ2 hi ⟨hv, hpre, x, rfl⟩
  simp only [List.cons_append, List.getD, List.getElem?_cons_succ, List.getElem?_cons_zero, Option.getD_some] at hv
  refine T.seq_k (fun K_h2 h2 => ?_)
  refine T.regi hm ?_
  simp only [↓reduceIte, namesOf, List.any, I.names, aopsI, astep, ev, setd, List.set, List.getD, List.getElem?_cons_zero, List.getElem?_cons_succ, List.cons_append, List.nil_append, List.replicate, then_normal, Option.getD_some, Bool.or_false, Bool.false_eq_true, up_zero, binv, ↓opt_def, lt_len, eq_self, reduceCtorEq]
  refine h2 _ _ ?_
  try clear h2 K_h2
  refine T.seq_k (fun K_h2 h2 => ?_)
  have hq : ∀ n r, σ.res n = some r → σ2.res n = some r := by
    rcases hv with ⟨_, rfl, _⟩ | ⟨g1, o1, _⟩
    · exact fun _ _ h => h
    · exact o1.quiet wf
  refine T.cond rfl (fun hb => ?_) (fun hb => ?_)
  · refine T.skip ?_
    refine h2 _ _ ?_
    try clear h2 K_h2
    have hil : i < l.length := by simpa using hb
    clear hb
    have hw := inc64 hil (by omega)
    refine T.seq_k (fun K_h2 h2 => ?_)
    refine T.block ?_
    refine T.seq_k (fun K_h3 h3 => ?_)
    refine T.regi hm ?_
    simp only [↓reduceIte, namesOf, List.any, I.names, aopsI, astep, ev, setd, List.set, List.getD, List.getElem?_cons_zero, List.getElem?_cons_succ, List.cons_append, List.nil_append, List.length_cons, List.length_nil, List.replicate, then_normal, Option.getD_some, Bool.or_false, Bool.false_eq_true, up_zero, Nat.reduceAdd, ↓opt_def, AV.cells, ldc, Int.natCast_nonneg, lt_len, Int.toNat_natCast, true_and, and_true, eq_self, reduceCtorEq, decide_true, pgs_len, pgs_get hil, hil]
    refine h3 _ _ ?_
    try clear h3 K_h3
    refine T.seq_k (fun K_h3 h3 => ?_)
    refine T.seq_k (fun K_h4 h4 => ?_)
    cases hp : l[i] with
    | nil =>
      have e1 : (((0 : Nat) : Int) == 0) = true := rfl
      refine T.regi hm ?_
      simp only [↓reduceIte, namesOf, List.any, I.names, aopsI, astep, ev, setd, List.set, List.getD, List.getElem?_cons_zero, List.getElem?_cons_succ, List.cons_append, List.nil_append, List.length_nil, List.replicate, then_normal, Option.getD_some, Bool.or_false, Bool.false_eq_true, up_zero, binv, ↓opt_def, List.map_nil, eq_self, reduceCtorEq, tcsAV, e1]
      refine h4 _ _ ?_
      try clear h4 K_h4
      refine T.cond rfl (fun _ => ?_) (fun h => by cases h)
      refine T.seq_k (fun K_h4 h4 => ?_)
      refine T.regi hm ?_
      simp only [↓reduceIte, namesOf, List.any, I.names, aopsI, astep, ev, setd, List.set, List.getD, List.getElem?_cons_zero, List.getElem?_cons_succ, List.cons_append, List.nil_append, List.replicate, then_normal, Option.getD_some, Bool.or_false, Bool.false_eq_true, up_zero, reduceCtorEq]
      refine h4 _ _ ?_
      try clear h4 K_h4
      have hf : ofB l = false := by
        unfold ofB
        rw [all_ff hil (by rw [hp]; rfl)]; rfl
      exact T.ret (Fin.quietw rfl (Wk.tup2 (Wk.sl _ _)) ⟨⟨trivial, trivial⟩, trivial, trivial⟩ hq ⟨by rw [hf]; rfl, rfl⟩)
    | cons t r =>
      have e1 : (((tcsAV (t :: r)).length : Int) == 0) = false := by simp [tcs_len]; try omega
      refine T.regi hm ?_
      simp only [↓reduceIte, namesOf, List.any, I.names, aopsI, astep, ev, setd, List.set, List.getD, List.getElem?_cons_zero, List.getElem?_cons_succ, List.cons_append, List.nil_append, List.replicate, then_normal, Option.getD_some, Bool.or_false, Bool.false_eq_true, up_zero, binv, ↓opt_def, eq_self, reduceCtorEq, e1]
      refine h4 _ _ ?_
      try clear h4 K_h4
      refine T.cond rfl (fun h => by cases h) (fun _ => T.skip ?_)
      refine h3 _ _ ?_
      try clear h3 K_h3
      have hlt : (0 : Int) < (((tcsAV (t :: r)).length : Nat) : Int) := by simp [tcs_len]; try omega
      have hg0 : (tcsAV (t :: r))[Int.toNat 0]? = some t.av := rfl
      have hft := firsts_take hil hp
      have hnl : (firsts (l.take i)).length = i := by simp [firsts]; try omega
      rcases hv with ⟨rfl, rfl, rfl⟩ | ⟨g1, o1, rfl⟩
      · refine T.regi hm ?_
        simp only [↓reduceIte, namesOf, List.any, I.names, aopsI, astep, ev, setd, List.set, List.getD, List.getElem?_cons_zero, List.getElem?_cons_succ, List.cons_append, List.nil_append, List.length_cons, List.length_nil, List.replicate, then_normal, inBlock_normal, Option.getD_some, Bool.or_false, Bool.or_true, Bool.false_eq_true, Nat.reduceAdd, ↓opt_def, AV.isAny, AV.cells, ldc, List.map_cons, List.map_nil, and_true, eq_self, reduceCtorEq, er_int, hlt, hg0, tcav', Int.le_refl, and_self, held, srcOf, AV.fits, AV.one, List.all_cons, List.all_nil, Bool.not_false, Bool.and_self, Nat.zero_add, List.drop, Nat.reduceLeDiff, List.isEmpty, List.nil_append, beq_self_eq_true]
        rw [if_pos (by decide)]
        have o2 : OneTip σ2 ((σ2.up 8).set (σ2.next + 6) (Res.tip 1)) (σ2.next + 6) 1 := OneTip.new (by omega)
        refine h2 _ _ ?_
        try clear h2 K_h2
        refine T.regi hm ?_
        simp only [↓reduceIte, namesOf, List.any, I.names, aopsI, astep, ev, setd, List.set, List.getD, List.getElem?_cons_zero, List.getElem?_cons_succ, List.cons_append, List.nil_append, List.replicate, then_normal, Option.getD_some, Bool.or_false, Bool.false_eq_true, up_zero, Nat.reduceAdd, binv, ↓opt_def, eq_self, reduceCtorEq, hw]
        refine ⟨hil, _, _, Gh.keep [0, 4, 7, 8, 9], .inr ⟨_, o2, ?_⟩, take_all hil hpre (by rw [hp]; rfl), _, rfl⟩
        rw [hft]; rfl
      · refine T.regi hm ?_
        simp only [↓reduceIte, namesOf, List.any, I.names, aopsI, astep, ev, setd, List.set, List.getD, List.getElem?_cons_zero, List.getElem?_cons_succ, List.cons_append, List.nil_append, List.length_cons, List.length_nil, List.replicate, then_normal, inBlock_normal, Option.getD_some, Bool.or_false, Bool.or_true, Nat.reduceAdd, ↓opt_def, AV.isAny, AV.cells, ldc, List.map_cons, List.map_nil, eq_self, reduceCtorEq, er_int, hlt, hg0, tcav', Int.le_refl, and_self, held, srcOf, AV.fits, AV.one, List.all_cons, List.all_nil, Bool.not_false, Bool.and_self, Nat.zero_add, List.drop, Nat.reduceLeDiff, List.isEmpty, List.nil_append, beq_self_eq_true, o1.at_, St.up_res, nums_all', nums_snoc, ← natI_snoc, ← hft]
        rw [if_pos (by simp [nums_len, natI_len, hnl]; try omega)]
        have o2 : OneTip σ (((σ2.up 8).del g1).set (σ2.next + 6) (Res.tip 1)) (σ2.next + 6) 1 := (o1.up 8).mv wf (by have := o1.lo; have := o1.hi; omega) (by simp)
        refine h2 _ _ ?_
        try clear h2 K_h2
        refine T.regi hm ?_
        simp only [↓reduceIte, namesOf, List.any, I.names, aopsI, astep, ev, setd, List.set, List.getD, List.getElem?_cons_zero, List.getElem?_cons_succ, List.cons_append, List.nil_append, List.replicate, then_normal, Option.getD_some, Bool.or_false, Bool.false_eq_true, up_zero, binv, ↓opt_def, eq_self, reduceCtorEq, hw]
        exact ⟨hil, _, _, Gh.keep [0, 4, 7, 8, 9], .inr ⟨_, o2, rfl⟩, take_all hil hpre (by rw [hp]; rfl), _, rfl⟩
  · refine T.exit ?_
    have : i = l.length := by simp at hb; omega
    subst this
    rw [List.take_length] at hv hpre
    try simp only [List.getD, List.cons_append, List.nil_append, List.replicate, then_normal, reduceCtorEq, inBlock_exit, then_exit]
    refine h1 _ _ ?_
    try clear h1 K_h1
    refine T.seq_k (fun K_h1 h1 => ?_)
    refine T.seq_k (fun K_h2 h2 => ?_)
    have bad : ofB l = false → ∀ ρ' : List AV, ρ'.getD 2 .any = .sl [] .nil → ρ'.getD 3 .any = .iface tCode (.int .i64 1) → Fin σ [.t 2, .t 3] (fun v σ' => v = (if ofB l = true then .tup [.sl (nums .u64 (natI (firsts l))) .none, .nili] else .tup [.sl [] .none, errAV 1]) ∧ σ' = σ) .ret ρ' σ2 := by
      intro hf ρ' h2 h3
      exact Fin.quietw (xs := [ρ'.getD 2 .any, ρ'.getD 3 .any]) (y := .tup [.sl [] .none, errAV 1]) rfl (by rw [h2, h3]; exact Wk.tup2 (Wk.sl _ _)) ⟨⟨trivial, trivial⟩, trivial, trivial⟩ hq ⟨by rw [hf]; rfl, rfl⟩
    by_cases h200 : l.length ≤ 200
    case neg =>
      have e1 : decide ((l.length : Int) > 200) = true := decide_eq_true (by omega)
      refine T.regi hm ?_
      simp only [↓reduceIte, namesOf, List.any, I.names, aopsI, astep, ev, setd, List.set, List.getD, List.getElem?_cons_zero, List.getElem?_cons_succ, then_normal, Option.getD_some, Bool.or_false, Bool.false_eq_true, up_zero, binv, ↓opt_def, eq_self, reduceCtorEq, pgs_len, e1, reduceCtorEq]
      refine h2 _ _ ?_
      try clear h2 K_h2
      refine T.cond rfl (fun _ => ?_) (fun h => by cases h)
      refine T.seq_k (fun K_h2 h2 => ?_)
      refine T.regi hm ?_
      simp only [↓reduceIte, namesOf, List.any, I.names, aopsI, astep, ev, setd, List.set, List.getD, List.getElem?_cons_zero, List.getElem?_cons_succ, then_normal, Option.getD_some, Bool.or_false, Bool.false_eq_true, up_zero]
      refine h2 _ _ ?_
      try clear h2 K_h2
      exact T.ret (bad (by unfold ofB; rw [decide_eq_false h200, Bool.and_false, Bool.false_and]) _ rfl rfl)
    have e1 : decide ((l.length : Int) > 200) = false := decide_eq_false (by omega)
    have hfs : ∀ t ∈ l.flatten, t.sp.length ≤ 9223372036854775807 := by
      intro t ht
      obtain ⟨p, hp, htp⟩ := List.mem_flatten.1 ht
      exact hsp p hp t htp
    refine T.regi hm ?_
    simp only [↓reduceIte, namesOf, List.any, I.names, aopsI, astep, ev, setd, List.set, List.getD, List.getElem?_cons_zero, List.getElem?_cons_succ, then_normal, Option.getD_some, Bool.or_false, Bool.false_eq_true, up_zero, binv, ↓opt_def, List.map_cons, List.map_nil, eq_self, pgs_len, e1]
    refine (concatt_ok hl hs).mono ?_
    rintro v σ3 ⟨rfl, rfl⟩
    try simp only [↓reduceIte, namesOf, List.any, I.names, aops, aopsI, aopsT, qstep, CPt, qget, Tbl.get, astep, ev, setd, List.set, List.getD, List.getElem?_cons_zero, List.getElem?_cons_succ, List.getElem?_nil, List.cons_append, List.nil_append, List.length_cons, List.length_nil, List.replicate, then_normal, inBlock_normal, Option.getD_some, Option.getD_none, Bool.or_false, Bool.or_true, Bool.true_or, Bool.false_or, Bool.false_eq_true, if_false, if_true, up_zero, Nat.reduceAdd, Nat.reduceSub, binv, ↓opt_def, AV.isAny, AV.cells, ldc, List.map_cons, List.map_nil, St.set_next, St.set_same, St.up_next, Int.natCast_nonneg, lt_len, le_len, Int.toNat_natCast, true_and, and_true, eq_self, reduceCtorEq, decide_true, List.length_singleton, er_int, er_bool, er_str, up_zero]
    refine (is_ok (by omega) hfs).mono ?_
    rintro v σ4 ⟨rfl, rfl⟩
    try simp only []
    refine h2 _ _ ?_
    try clear h2 K_h2
    cases hb : isB l.flatten with
    | false =>
      refine T.cond rfl (fun _ => ?_) (fun h => by simp at h)
      refine T.seq_k (fun K_h2 h2 => ?_)
      refine T.regi hm ?_
      simp only [↓reduceIte, namesOf, List.any, I.names, aopsI, astep, ev, setd, List.set, List.getD, List.getElem?_cons_zero, List.getElem?_cons_succ, then_normal, Option.getD_some, Bool.or_false, Bool.false_eq_true, up_zero]
      refine h2 _ _ ?_
      try clear h2 K_h2
      exact T.ret (bad (by unfold ofB; rw [hb, Bool.and_false]) _ rfl rfl)
    | true =>
      refine T.cond rfl (fun h => by simp at h) (fun _ => T.skip ?_)
      refine h1 _ _ ?_
      try clear h1 K_h1
      refine T.seq_k (fun K_h1 h1 => ?_)
      refine T.regi hm ?_
      simp only [↓reduceIte, namesOf, List.any, I.names, aopsI, astep, ev, setd, List.set, List.getD, List.getElem?_cons_zero, List.getElem?_cons_succ, then_normal, Option.getD_some, Bool.or_false, Bool.false_eq_true, up_zero]
      refine h1 _ _ ?_
      try clear h1 K_h1
      have hf : ofB l = true := by unfold ofB; rw [hb, hpre, decide_eq_true h200]; rfl
      rw [hf]
      rcases hv with ⟨h0, rfl, rfl⟩ | ⟨g1, o1, rfl⟩
      · have hnil : l = [] := List.eq_nil_of_length_eq_zero h0
        refine T.ret (Fin.quietw rfl (Wk.tup2 (Wk.sl _ _)) ⟨⟨trivial, trivial⟩, trivial, trivial⟩ (fun _ _ h => h) ⟨?_, rfl⟩)
        subst hnil; rfl
      · exact T.ret (Fin.quietw rfl (Wk.tup2 (Wk.sl _ _)) ⟨⟨nb_nums _ _ _, trivial⟩, trivial, trivial⟩ (o1.quiet wf) ⟨rfl, rfl⟩)
end Go.VL
